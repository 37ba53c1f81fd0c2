/- Texts of ours, joined and written short by a program of ours. -/
import Derived.Test.YtlfjlokfciejnaaGreatDoorJ09
import Derived.Test.YtlfjlokfciejnaaGreatDoorJ10
set_option maxRecDepth 20000
set_option maxHeartbeats 4000000
set_option linter.all false
namespace Go.Gr
open Go.Abs Go.Proofs
def ze5:MC:=(fun x(_:x=gC tt [(7,1)] [(7,[0,0,3,7,0,16,63])] [] (gLb 0 (gB Tryz.f131)))=>x) _ (by dsimp[Tryz.f131])
def ze6:MC:=(fun x(_:x=gC tt [(9,131),(7,1)] [] [] (gLb 2 (gB Tryz.f131)))=>x) _ (by dsimp[Tryz.f131])
def zgf:MC:=(fun x(_:x=gC tt [(0,3),(6,2),(7,1)] [] [(0,ze5),(2,ze6)] (gB Tryz.f131))=>x) _ (by dsimp[Tryz.f131])
def zjo:WM Pg 131 73 zgf [.cell 6 true 4,.tmp 7]:=wM zaa Tryz.func131 (by kernel_rfl)
def zgK:MC:=(fun x(_:x=gC tt [(9,131)] [] [] (gB Tryz.f78))=>x) _ (by dsimp[Tryz.f78])
def zkl:WM Pg 78 39 zgK [.cell 6 true 4,.tmp 7]:=wM zaa Tryz.func78 (by kernel_rfl)
def zlU:MC:=(fun x(_:x=gC tt [(9,78)] [(11,[0,0,3,7,15,0,0,0,192,511,1023,2047,2047,0,12287,32767]),(12,[0,0,3,7,0,31,63])] [] (gLb 0 (gB Tryz.f136)))=>x) _ (by dsimp[Tryz.f136])
def zos:MC:=(fun x(_:x=gC tt [(6,0)] [] [(0,zlU)] (gB Tryz.f136))=>x) _ (by dsimp[Tryz.f136])
def zzf:WT Pg 136 69 zos [.tmp 4]:=wT zaa Tryz.func136 (by kernel_rfl)
def zlV:MC:=(fun x(_:x=gC tt [] [(6,[0,1,0,7,15,0,32,0,224,480,1023,2047])] [] (gLb 0 (gB Tryz.f51)))=>x) _ (by dsimp[Tryz.f51])
def zot:MC:=(fun x(_:x=gC tt [] [] [(0,zlV)] (gB Tryz.f51))=>x) _ (by dsimp[Tryz.f51])
def zzg:WT Pg 51 48 zot [.tmp 4]:=wT zaa Tryz.func51 (by kernel_rfl)
def zhh:MC:=(fun x(_:x=gC tt [] [] [] (gLb 0 (gB Tryz.f33)))=>x) _ (by dsimp[Tryz.f33])
def zhi:MC:=(fun x(_:x=gC tt [] [(10,[0,1,3,7,0,31,63,0,255,511])] [] (gLb 2 (gB Tryz.f33)))=>x) _ (by dsimp[Tryz.f33])
def ziU:MC:=(fun x(_:x=gC tt [] [(13,[0,1,3,7,15,0,32,96,224,511]),(15,[0,0,2,6,14,0,32,126,255,511,1023])] [(0,zhh),(2,zhi)] (gB Tryz.f33))=>x) _ (by dsimp[Tryz.f33])
def zpo:WM Pg 33 71 ziU [.tmp 4,.tmp 5]:=wM zaa Tryz.func33 (by kernel_rfl)
def zou:MC:=(fun x(_:x=gC tt [] [] [] (gB Tryz.f56))=>x) _ (by dsimp[Tryz.f56])
def zzh:WT Pg 56 5 zou [.cell 2 true 4]:=wT zaa Tryz.func56 (by kernel_rfl)
def zlW:MC:=(fun x(_:x=gC tt [] [] [] (gLb 0 (gB Tryz.f52)))=>x) _ (by dsimp[Tryz.f52])
def zov:MC:=(fun x(_:x=gC tt [(6,0)] [] [(0,zlW)] (gB Tryz.f52))=>x) _ (by dsimp[Tryz.f52])
def zzi:WT Pg 52 22 zov [.tmp 2]:=wT zaa Tryz.func52 (by kernel_rfl)
def zlX:MC:=(fun x(_:x=gC tt [] [] [] (gLb 0 (gB Tryz.f134)))=>x) _ (by dsimp[Tryz.f134])
def zow:MC:=(fun x(_:x=gC tt [] [] [(0,zlX)] (gB Tryz.f134))=>x) _ (by dsimp[Tryz.f134])
def zzj:WT Pg 134 21 zow [.tmp 4]:=wT zaa Tryz.func134 (by kernel_rfl)
def zox:MC:=(fun x(_:x=gC tt [] [(1,[0,1,0,0,12,28,63,127])] [] (gB Tryz.f137))=>x) _ (by dsimp[Tryz.f137])
def zzk:WT Pg 137 14 zox [.tmp 6]:=wT zaa Tryz.func137 (by kernel_rfl)
def zqL:MC:=(fun x(_:x=gC tt [] [] [] (gB Tryz.f79))=>x) _ (by dsimp[Tryz.f79])
def zzl:WM Pg 79 25 zqL []:=wM zaa Tryz.func79 (by kernel_rfl)
def zvH:MC:=(fun x(_:x=gC tt [(9,79)] [] [] (gB Tryz.f57))=>x) _ (by dsimp[Tryz.f57])
def zDs:WM Pg 57 13 zvH []:=wM zaa Tryz.func57 (by kernel_rfl)
def zlY:MC:=(fun x(_:x=gC tt [(9,78),(9,79)] [(1,[0,0,2,6,14,0,32,96,224,511,1023,2047,2047,0,12287,32767])] [] (gB Tryz.f53))=>x) _ (by dsimp[Tryz.f53])
def ztl:WM Pg 53 31 zlY [.cell 8 true 4]:=wM zaa Tryz.func53 (by kernel_rfl)
def zqM:MC:=(fun x(_:x=gC tt [(9,57)] [] [] (gB Tryz.f54))=>x) _ (by dsimp[Tryz.f54])
def zzm:WM Pg 54 20 zqM [.cell 6 true 4]:=wM zaa Tryz.func54 (by kernel_rfl)
def zqN:MC:=(fun x(_:x=gC tt [] [(3,[0,0,2,6,14,30,0,64,192,448,0,1024,0,4096,16320,32704,65534,131071,262143,524287,1048575]),(4,[0,1,3,7,15,31,63,0,0,384,0,1024,4095,8191])] [] (gB Tryz.f93))=>x) _ (by dsimp[Tryz.f93])
def zzn:WM Pg 93 50 zqN [.cell 10 true 8]:=wM zaa Tryz.func93 (by kernel_rfl)
def zm2:MC:=(fun x(_:x=gC tt [(9,93),(9,57)] [] [] (gB Tryz.f59))=>x) _ (by dsimp[Tryz.f59])
def zvI:WM Pg 59 34 zm2 [.cell 10 true 8]:=wM zaa Tryz.func59 (by kernel_rfl)
def zjq:MC:=(fun x(_:x=gC tt [(9,78)] [(1,[0,1,3,7,15,0,32,127,255,511,0,1024,4095,8191,0,32767])] [] (gB Tryz.f164))=>x) _ (by dsimp[Tryz.f164])
def zqO:WM Pg 164 71 zjq [.cell 6 true 4,.tmp 7]:=wM zaa Tryz.func164 (by kernel_rfl)
def zm3:MC:=(fun x(_:x=gC tt [(9,164),(9,57),(9,33)] [(5,[0,1,3,7,0,16,0,64,0,496,1023,2047,4095,4095,8191,32767]),(8,[0,1,0,3,15])] [] (gB Tryz.f135))=>x) _ (by dsimp[Tryz.f135])
def zvJ:WM Pg 135 51 zm3 [.cell 8 true 8,.cell 9 true 4]:=wM zaa Tryz.func135 (by kernel_rfl)
def zlZ:MC:=(fun x(_:x=gC tt [(9,53)] [(22,[0,0,2,0,14,30,0,64,0,256,1023,0,4095])] [] (gLb 0 (gB Tryz.f81)))=>x) _ (by dsimp[Tryz.f81])
def zoy:MC:=(fun x(_:x=gC tt [(9,57),(9,135),(4,146),(6,0)] [(2,[0,1,3,7,15,0,32,96,224,511,1023,0,2048,8191,16383,32767,32767,0,196607,524287]),(5,[0,1,0,0,12,28,60,3,255]),(8,[0,0,3,7]),(11,[0,0,3,7]),(12,[0,1,3,7,15,0,32,127,255,511,0,1024,4095,8191,0,32767]),(15,[0,0,3,7]),(25,[0,0,3,7]),(29,[0,0,3,7])] [(0,zlZ)] (gB Tryz.f81))=>x) _ (by dsimp[Tryz.f81])
def zwW:WM Pg 81 162 zoy [.cell 6 true 8,.cell 7 true 4]:=wM zaa Tryz.func81 (by kernel_rfl)
def zaC:MC:=(fun x(_:x=gC tt [(9,81),(9,82),(9,83),(9,84),(9,85),(9,86),(9,87),(9,88),(9,89),(9,90),(9,91)] [(5,[0,1,3,0,15,31]),(7,[0,1,3,0,15,31]),(9,[0,1,3,0,15,31])] [] (gB Tryz.f58))=>x) _ (by dsimp[Tryz.f58])
def zbe:WM Pg 58 130 zaC [.cell 6 true 8,.cell 7 true 4]:=wM zaa Tryz.func58 (by kernel_rfl)
def zsP:MC:=(fun x(_:x=gC tt [(9,58),(9,53),(9,59)] [(3,[0,0,2,6,14,0,32,0,128,511,0,2047]),(4,[0,0,0,0,0,16,48,112,255,511]),(6,[0,0,2,6,14,0,0,64,0,480,1023,2047,4095,4095,0,0,57343,131071]),(7,[0,0,3,7,0,15,63])] [] (gB Tryz.f82))=>x) _ (by dsimp[Tryz.f82])
def zBt:WM Pg 82 73 zsP [.cell 6 true 8,.cell 7 true 4]:=wM zaa Tryz.func82 (by kernel_rfl)
def zvK:MC:=(fun x(_:x=gC tt [(9,53),(9,58),(9,59),(9,54)] [(1,[0,0,2,6,14,0,32,0,128,511,0,2047]),(4,[0,0,2,6,14,0,32,0,128,511,1023]),(5,[0,0,2,6,14,0,0,64,0,480,1023,2047,4095,4095,0,0,57343,131071]),(7,[0,0,0,0,0,16,48,112,255,511]),(10,[0,1,3,0,7,31])] [] (gB Tryz.f83))=>x) _ (by dsimp[Tryz.f83])
def zDt:WM Pg 83 84 zvK [.cell 6 true 8,.cell 7 true 4]:=wM zaa Tryz.func83 (by kernel_rfl)
def zqP:MC:=(fun x(_:x=gC tt [(9,58),(9,93),(9,57),(9,59)] [(10,[0,0,0,0,8,24,56,0,128,384,896,2047,4095]),(11,[0,0,3,7,0,16,48,112,15,511])] [] (gB Tryz.f84))=>x) _ (by dsimp[Tryz.f84])
def zzo:WM Pg 84 75 zqP [.cell 6 true 8,.cell 7 true 4]:=wM zaa Tryz.func84 (by kernel_rfl)
def zkm:MC:=(fun x(_:x=gC tt [(9,57)] [(7,[0,1,0,7,15,0,32,0,224,480,1023])] [] (gLb 2 (gB Tryz.f85)))=>x) _ (by dsimp[Tryz.f85])
def zkn:MC:=(fun x(_:x=gC tt [] [] [(2,zkm)] (gLb 0 (gB Tryz.f85)))=>x) _ (by dsimp[Tryz.f85])
def zko:MC:=(fun x(_:x=gC tt [(9,58)] [] [] (gLb 4 (gB Tryz.f85)))=>x) _ (by dsimp[Tryz.f85])
def zm4:MC:=(fun x(_:x=gC tt [(9,54),(4,81),(6,4)] [(18,[0,0,1,7])] [(0,zkn),(4,zko)] (gB Tryz.f85))=>x) _ (by dsimp[Tryz.f85])
def zvL:WM Pg 85 84 zm4 [.cell 6 true 8,.cell 7 true 4]:=wM zaa Tryz.func85 (by kernel_rfl)
def zsQ:MC:=(fun x(_:x=gC tt [(9,58),(9,93),(9,57)] [(9,[0,1,0,4,15,0,31,127])] [] (gB Tryz.f86))=>x) _ (by dsimp[Tryz.f86])
def zBu:WM Pg 86 56 zsQ [.cell 6 true 8,.cell 7 true 4]:=wM zaa Tryz.func86 (by kernel_rfl)
def zhw:MC:=(fun x(_:x=gC tt [] [(14,[0,1,0,7,15,0,32,127]),(15,[0,1,0,4,0,28,60,124,255,511,1023]),(16,[0,1,0,4,0,28,60,124,255,511,1023])] [] (gLb 0 (gB Tryz.f87)))=>x) _ (by dsimp[Tryz.f87])
def zoz:MC:=(fun x(_:x=gC tt [(9,58),(9,93),(9,57),(1,56),(1,58),(9,54),(4,98)] [(18,[0,1,0,0,12,31,0,63,255])] [(0,zhw)] (gB Tryz.f87))=>x) _ (by dsimp[Tryz.f87])
def zwX:WM Pg 87 106 zoz [.cell 6 true 8,.cell 7 true 4]:=wM zaa Tryz.func87 (by kernel_rfl)
def zm5:MC:=(fun x(_:x=gC tt [(9,58),(9,59),(4,90)] [(3,[0,0,0,0,0,31,63]),(9,[0,0,3,7,15,0,32,127,255,511,511,0,0,7167,16383]),(15,[0,0,0,0,0,16,48,112,255,511]),(16,[0,0,0,0,0,16,48,112,255,511]),(17,[0,0,0,7,15,0,31,127])] [] (gB Tryz.f88))=>x) _ (by dsimp[Tryz.f88])
def zvM:WM Pg 88 130 zm5 [.cell 6 true 8,.cell 7 true 4]:=wM zaa Tryz.func88 (by kernel_rfl)
def zvN:MC:=(fun x(_:x=gC tt [(9,58),(9,53),(9,93)] [(3,[0,0,1,7]),(4,[0,0,2,6,14,0,32,0,128,511,0,2047]),(6,[0,0,1,7]),(9,[0,0,0,0,0,31,63]),(11,[0,0,1,7]),(13,[0,0,0,0,0,31,0,63,255]),(14,[0,1,0,0,12,0,32,127,0,255,1023])] [] (gB Tryz.f89))=>x) _ (by dsimp[Tryz.f89])
def zDu:WM Pg 89 85 zvN [.cell 6 true 8,.cell 7 true 4]:=wM zaa Tryz.func89 (by kernel_rfl)
def zqQ:MC:=(fun x(_:x=gC tt [(9,58),(9,59)] [] [] (gB Tryz.f140))=>x) _ (by dsimp[Tryz.f140])
def zzp:WM Pg 140 24 zqQ [.cell 8 true 8]:=wM zaa Tryz.func140 (by kernel_rfl)
def zqR:MC:=(fun x(_:x=gC tt [] [(24,[0,0,3,7,0,16,63])] [] (gLb 1 (gB Tryz.f90)))=>x) _ (by dsimp[Tryz.f90])
def zvO:MC:=(fun x(_:x=gC tt [(9,140),(9,58)] [(4,[0,0,2,6,14,0,0,127,0,511]),(5,[0,0,2,6,14,0,0,127,0,511]),(6,[0,0,0,7,15,0,31,127]),(8,[0,0,2,6,14,0,0,127,0,511]),(9,[0,0,2,6,14,0,0,127,0,511]),(10,[0,0,0,7,15,0,31,127]),(14,[0,0,3,7,0,15,63]),(16,[0,0,2,6,14,0,0,127,0,511]),(17,[0,0,2,6,14,0,0,127,0,511]),(18,[0,0,3,7,0,31,63]),(26,[0,0,2,6,14,0,0,127,0,511]),(27,[0,0,2,6,14,0,0,127,0,511]),(31,[0,0,0,6,15,0,31,127])] [(1,zqR)] (gB Tryz.f90))=>x) _ (by dsimp[Tryz.f90])
def zDv:WM Pg 90 167 zvO [.cell 6 true 8,.cell 7 true 4]:=wM zaa Tryz.func90 (by kernel_rfl)
def zsR:MC:=(fun x(_:x=gC tt [(9,140),(9,58)] [(3,[0,0,2,6,14,0,0,127,0,511]),(4,[0,1,3,0,15,31]),(6,[0,0,2,6,14,0,0,127,0,511]),(7,[0,1,3,0,15,31]),(10,[0,1,0,4,15,0,63,127]),(12,[0,1,3,0,15,31])] [] (gB Tryz.f91))=>x) _ (by dsimp[Tryz.f91])
def zBv:WM Pg 91 76 zsR [.cell 6 true 8,.cell 7 true 4]:=wM zaa Tryz.func91 (by kernel_rfl)
def zfA:MC:=(fun x(_:x=gC tt [] [] [] (gLb 0 (gB Tryz.f34)))=>x) _ (by dsimp[Tryz.f34])
def zkp:MC:=(fun x(_:x=gC tt [(9,53),(1,74),(9,54),(4,84),(5,87),(4,111),(9,57),(9,58),(9,59)] [(1,[0,1,3,7,15,0,32,127,255,511,0,1024,4095,8191,0,32767]),(7,[0,0,2,6,14,0,32,0,128,511,0,2047]),(8,[0,0,2,6,14,0,32,0,128,511,0,2047]),(12,[0,0,3,7]),(13,[0,1,0,4,12,28,60,124,255,511,1023,2047,1023,5119,13311,29695,62463,127999,262143,524287,1048575,2097151,4194303,8388607]),(17,[0,1,3,7,15,0,32,127,255,511,0,1024,4095,8191]),(27,[0,0,2,6,14,30,0,0,0,448,960,2046,4095,8191,16383,32767]),(29,[0,0,2,6,14,0,32,0,128,384,896,0,2048,6144,14336,0,32768,98304,229376,524256,1048544,2097150,4194303,8388607,16777215])] [(0,zfA)] (gB Tryz.f34))=>x) _ (by dsimp[Tryz.f34])
def zrA:WM Pg 34 216 zkp []:=wM zaa Tryz.func34 (by kernel_rfl)
def zkq:MC:=(fun x(_:x=gC tt [(9,33),(7,1)] [(12,[0,0,0,4,0,16,0,126,254,1,1023])] [] (gLb 2 (gB Tryz.f17)))=>x) _ (by dsimp[Tryz.f17])
def zkr:MC:=(fun x(_:x=gC tt [] [] [(2,zkq)] (gLb 0 (gB Tryz.f17)))=>x) _ (by dsimp[Tryz.f17])
def zks:MC:=(fun x(_:x=gC tt [(9,34)] [] [] (gLb 4 (gB Tryz.f17)))=>x) _ (by dsimp[Tryz.f17])
def zm6:MC:=(fun x(_:x=gC tt [(0,13),(0,15),(6,0),(7,1)] [(20,[0,0,2,6,14,1,63])] [(0,zkr),(4,zks)] (gB Tryz.f17))=>x) _ (by dsimp[Tryz.f17])
def zwY:WT Pg 17 125 zm6 [.cell 2 true 3,.tmp 3]:=wT zaa Tryz.func17 (by kernel_rfl)
def zfB:MC:=(fun x(_:x=gC tt [] [] [] (gLb 0 (gB Tryz.f8)))=>x) _ (by dsimp[Tryz.f8])
def zkt:MC:=(fun x(_:x=gC tt [] [] [(0,zfB)] (gB Tryz.f8))=>x) _ (by dsimp[Tryz.f8])
def ztm:WT Pg 8 55 zkt [.cell 2 true 3,.tmp 3]:=wT zaa Tryz.func8 (by kernel_rfl)
def zm7:MC:=(fun x(_:x=gC tt [] [] [] (gLb 0 (gB Tryz.f15)))=>x) _ (by dsimp[Tryz.f15])
def zqS:MC:=(fun x(_:x=gC tt [] [] [(0,zm7)] (gB Tryz.f15))=>x) _ (by dsimp[Tryz.f15])
def zBw:WT Pg 15 40 zqS [.tmp 2]:=wT zaa Tryz.func15 (by kernel_rfl)
end Go.Gr
namespace Go.Gr
open Go.Abs Go.Proofs List
abbrev strA(l:List fC):Blk:=.arr 1 ((encS l).map (·.map .d))
def accR(vs:List fC)(wth:List Typ)(a:List Typ)(l:List Typ):List Typ × Bool:=if(zeD vs wth l).2=true then(a++(zeD vs wth l).1,true)else([],false)
def zsG(vs:List fC)(wth:List Typ)(a:List Typ)(t:Typ)(l:List Typ):accR vs wth a (t::l)=if(zcS vs wth t).2=true then accR vs wth (a++[(zcS vs wth t).1]) l else([],false):=by
 unfold accR
 rw[zeD]
 by_cases h:(zcS vs wth t).2=true
 ·rw[aC h,aC h]
  by_cases h2:(zeD vs wth l).2=true
  ·simp[h2]
  ·simp[h2]
 ·rw[aB h,aB h];simp
def zvu(vs:List fC)(wth:List Typ)(t:Typ):zcS vs wth t=if t.kind=8 then(if 0<t.names.length\/0<t.kids.length then(t,false)else match zgl vs wth t.name with
   |some u=>(u,true)
   |none=>(t,false))
  else if(accR vs wth [] t.kids).2=true then(.mk t.kind t.name t.names (accR vs wth [] t.kids).1,true)else(t,false):=by
 cases t with
 | mk k n s l=>
  unfold accR
  rw[zcS]
  simp only[Typ.kind,Typ.name,Typ.names,Typ.kids,nil_append]
  by_cases h:(zeD vs wth l).2=true
  ·simp[h]
   rfl
  ·simp[h]
   rfl
def zcc(k:Int)(n:fC)(s:List fC)(l:List Typ):Typ.enc (.mk k n s l)=[.int .i64 k,.str n,.sl false 1 (encS s),.sl false 4 (l.map Typ.enc)]:=by rw[Typ.enc_eq];try rfl
def zsH(t:Typ)(b n:Nat):put (t.enc.map AC.d) 3 [.msl 4 b 0 n]=[.d (.int .i64 t.kind),.d (.str t.name),.d (.sl false 1 (encS t.names)),.msl 4 b 0 n]:=by rw[Typ.enc_eq];try rfl
def zBg{ts:List (Nat × Nat)}(h:ts.length=([]:List Blk).length):ts=[]:=aT.1 h
abbrev RepD(vs:List fC)(wth:List Typ)(u:Typ):Prop:=MCall Pg 131 [.ag (u.enc.map .d),.c (.d (.sl false 1 (encS vs))),.c (.d (.sl false 4 (wth.map Typ.enc)))] [] (.tup [.ag ((zcS vs wth u).1.enc.map .d),.c (.d (.bool (zcS vs wth u).2))]) []
abbrev rpDT(vs:List fC)(wth:List Typ):List (Nat × AV):=[(6,.c (.ptr 1 0)),(3,.c (.ptr 0 0)),(2,.c (.d (.sl false 4 (wth.map Typ.enc)))),(1,.c (.d (.sl false 1 (encS vs))))]
def zBh(vs:List fC)(wth:List Typ)(hv:vs.length=wth.length)(hl:wth.length<=1000000)(u:Typ)(hk:u.kids.length<=200)(ih:∀e,e∈u.kids->RepD vs wth e):RepD vs wth u:=by
 refine zjo MS0 fun ts hts ok hb c hN hp=>?_
 have hts:=zBg hts
 subst hts
 obtain⟨R,hR⟩:∃R,zcS vs wth u=R:=⟨_,rfl⟩
 rw[hR]
 rw[zvu]at hR
 unfold zgf
 by_cases k8:u.kind=8
 ·rw[aC k8]at hR
  by_cases n0:0<u.names.length
  ·rw[aC (.inl n0)]at hR
   subst hR
   simp[k8,n0]
   refine fP [] ?_
   simp
   exact fI [] []
  by_cases c0:0<u.kids.length
  ·rw[aC (.inr c0)]at hR
   subst hR
   simp[k8,n0,c0]
   refine fP [] ?_
   simp
   exact fI [] []
  rw[aB (by omega)]at hR
  simp[k8,n0,c0]
  refine fK zaa hp (fun j:Nat=>j<=vs.length/\zgl (vs.drop j) (wth.drop j) u.name=zgl vs wth u.name) (fun j=>(8,.c (.d (.int .i64 j)))::rpDT vs wth) (fun _=>[.box (u.enc.map .d),bx4]) (fun j=>vs.length-j) 0 [0,1] ⟨by simp,by simp⟩ (by simp) fun j ⟨h1,h2⟩=>?_
  unfold ze5
  simp
  apply gI<;>intro h
  ·have hj:j<vs.length:=by simpa using h
   have hj2:j<wth.length:=by omega
   rw[aG hj,aG hj2,zgl]at h2
   have hw:=wI (n:=(j:Int)+1)
   by_cases q:vs[j]=u.name
   ·rw[aC q]at h2
    rw[<-h2]at hR
    simp only at hR
    subst hR
    simp[hj,hj2,q]
    refine⟨by decide,?_⟩
    refine fP [] ?_
    simp
    exact fI [] []
   ·rw[aB q]at h2
    simp[hj,hj2,q]
    refine⟨by decide,?_⟩
    refine fD (j+1) [0,1] ⟨by omega,h2⟩ (by omega) ?_
    simp[hw]
  ·have hj:j=vs.length:=by simp at h;omega
   subst hj
   rw[aO,zgl]at h2
   rotate_left
   ·intros;contradiction
   rw[<-h2]at hR
   simp only at hR
   subst hR
   simp
   refine fP [] ?_
   simp
   exact fI [] []
 rw[aB k8]at hR
 simp[k8]
 refine fQ [.t 9] ?_
 simp
 obtain⟨F0,hF⟩:∃F0,accR vs wth [] u.kids=F0:=⟨_,rfl⟩
 rw[hF]at hR
 refine fK zaa hp (fun x:Nat × List Typ=>x.1<=u.kids.length/\x.2.length<=x.1/\accR vs wth x.2 (u.kids.drop x.1)=F0) (fun x=>(10,.c (.d (.int .i64 x.1)))::(9,.c (.msl 4 2 0 x.2.length))::rpDT vs wth) (fun x=>[.box (u.enc.map .d),bx4,arrT x.2]) (fun x=>u.kids.length-x.1) (0,[]) [0,1,2] ⟨by simp,by simp,by simpa using hF⟩ (by simp) fun⟨j,a⟩ ⟨h1,h2,h3⟩=>?_
 unfold ze6
 simp only at h1 h2 h3
 simp
 apply gI<;>intro h
 ·have hj:j<u.kids.length:=by simpa using h
  rw[aG hj,zsG]at h3
  obtain⟨x,hx⟩:∃x,u.kids[j]=x:=⟨_,rfl⟩
  have hm:=aS hj
  rw[hx]at h3 hm
  have hix:=ih x hm
  unfold RepD at hix
  have hw:=wI (n:=(j:Int)+1)
  generalize zcS vs wth x=r at*
  simp[hj,hx]
  refine gK [] hix ?_
  by_cases q:r.2=true
  ·rw[aC q]at h3
   simp[q]
   refine⟨by omega,?_⟩
   refine fD (j+1,a++[r.1]) [0,1,4] ⟨by simp only;omega,by simp;omega,h3⟩ (by simp only;omega) ?_
   simp[hw]
   exact zcr a
  ·rw[aB q]at h3
   subst h3
   simp only[ae,if_false]at hR
   subst hR
   simp[q]
   refine fP [] ?_
   simp
   exact fI [] []
 ·have hj:j=u.kids.length:=by simp at h;omega
  subst hj
  rw[aO]at h3
  have e:accR vs wth a []=(a,true):=by unfold accR;simp[zeD]
  rw[e]at h3
  subst h3
  simp only[if_true]at hR
  subst hR
  simp[zsH]
  refine fP [2] ?_
  simp[zah,zaN]
  exact fJ [] [] (by simp[zah,zcc,zaN])
mutual
def zvv(vs:List fC)(wth:List Typ)(hv:vs.length=wth.length)(hl:wth.length<=1000000):∀t:Typ,fewT t->RepD vs wth t
 |.mk k n s l,h=>by
  rw[fewT]at h
  exact zBh vs wth hv hl (.mk k n s l) h.1 (fun e he=>zsI vs wth hv hl l h.2 e he)
def zsI(vs:List fC)(wth:List Typ)(hv:vs.length=wth.length)(hl:wth.length<=1000000):∀l:List Typ,zb7 l->∀e,e∈l->RepD vs wth e
 |[],_,e,h=>by cases h
 |d::l,hf,e,h=>by
  rw[zb7]at hf
  cases h with
  |head=>exact zvv vs wth hv hl d hf.1
  |tail _ h=>exact zsI vs wth hv hl l hf.2 e h
end
def zjx(vs:List fC)(wth:List Typ)(hl:wth.length<=1000000)(u:Typ):
  MCall Pg 78 [.ag (u.enc.map .d),.c (.d (.sl false 1 (encS vs))),.c (.d (.sl false 4 (wth.map Typ.enc)))] [] (.tup [.ag ((zba u vs wth).1.enc.map .d),.c (.d (.int .i64 (zba u vs wth).2))]) []:=by
 refine zkl MS0 fun ts hts ok hb c hN hp=>?_
 have hts:=zBg hts
 subst hts
 obtain⟨R,hR⟩:∃R,zba u vs wth=R:=⟨_,rfl⟩
 rw[hR]
 unfold zba at hR
 unfold zgK
 by_cases hv:vs.length=wth.length
 rotate_left
 ·rw[aC hv]at hR
  subst hR
  have hv':¬(vs.length:Int)=wth.length:=by omega
  simp[hv,hv']
  exact fG [] [] (by simp[zaU,AV.erds,AV.erd])
 rw[aB (fun z=>z hv)]at hR
 have hv':(vs.length:Int)=wth.length:=by omega
 simp[hv']
 refine gN (zru u) ?_
 by_cases s1:200<zbo u 201
 ·rw[aC (.inl s1)]at hR
  subst hR
  simp[s1]
  exact fG [] [] (by simp[zaU,AV.erds,AV.erd])
 simp[s1]
 refine gN (zg5 u) ?_
 by_cases s2:16<zby 17 u
 ·rw[aC (.inr s2)]at hR
  subst hR
  simp[s2]
  exact fG [] [] (by simp[zaU,AV.erds,AV.erd])
 rw[aB (by omega)]at hR
 have hrp:=zvv vs wth hv hl u (ziu u 201 (by omega) (by omega))
 unfold RepD at hrp
 generalize zcS vs wth u=r at*
 simp[s2]
 refine gK [] hrp ?_
 by_cases q:r.2=true
 ·rw[aC q]at hR
  have hn:=zeJ r.1
  generalize za7 r.1=N at*
  subst hR
  simp[q]
  refine gN hn ?_
  simp
  exact fI [] []
 ·rw[aB q]at hR
  subst hR
  simp[q]
  exact fG [] [] (by simp[zaU,AV.erds,AV.erd])
abbrev RepO(vs:List fC)(wth:List Typ)(u:Typ):Prop:=MCall Pg 131 [.ag (u.enc.map .d),.c (.msl 1 0 0 vs.length),.c (.d (.sl false 4 (wth.map Typ.enc)))] [strA vs] (.tup [.ag ((zcS vs wth u).1.enc.map .d),.c (.d (.bool (zcS vs wth u).2))]) [strA vs]
abbrev rpOT(vs:List fC)(wth:List Typ):List (Nat × AV):=[(6,.c (.ptr 3 0)),(3,.c (.ptr 2 0)),(2,.c (.d (.sl false 4 (wth.map Typ.enc)))),(1,.c (.msl 1 0 0 vs.length))]
def zBi(vs:List fC)(wth:List Typ)(hv:vs.length=wth.length)(hl:wth.length<=1000000)(u:Typ)(hk:u.kids.length<=200)(ih:∀e,e∈u.kids->RepO vs wth e):RepO vs wth u:=by
 refine zjo MS0 fun ts hts ok hb c hN hp=>?_
 obtain⟨t,rfl⟩:=za6 hts
 obtain⟨R,hR⟩:∃R,zcS vs wth u=R:=⟨_,rfl⟩
 rw[hR]
 rw[zvu]at hR
 unfold zgf
 by_cases k8:u.kind=8
 ·rw[aC k8]at hR
  by_cases n0:0<u.names.length
  ·rw[aC (.inl n0)]at hR
   subst hR
   simp[k8,n0]
   refine fP [] ?_
   simp
   exact fI [0] [1]
  by_cases c0:0<u.kids.length
  ·rw[aC (.inr c0)]at hR
   subst hR
   simp[k8,n0,c0]
   refine fP [] ?_
   simp
   exact fI [0] [1]
  rw[aB (by omega)]at hR
  simp[k8,n0,c0]
  refine fK zaa hp (fun j:Nat=>j<=vs.length/\zgl (vs.drop j) (wth.drop j) u.name=zgl vs wth u.name) (fun j=>(8,.c (.d (.int .i64 j)))::rpOT vs wth) (fun _=>[strA vs,.pin t 0,.box (u.enc.map .d),bx4]) (fun j=>vs.length-j) 0 [0,1,2,3] ⟨by simp,by simp⟩ (by simp) fun j ⟨h1,h2⟩=>?_
  unfold ze5
  simp
  apply gI<;>intro h
  ·have hj:j<vs.length:=by simpa using h
   have hj2:j<wth.length:=by omega
   rw[aG hj,aG hj2,zgl]at h2
   have hw:=wI (n:=(j:Int)+1)
   by_cases q:vs[j]=u.name
   ·rw[aC q]at h2
    rw[<-h2]at hR
    simp only at hR
    subst hR
    simp[hj,hj2,q]
    refine⟨by decide,?_⟩
    refine fP [] ?_
    simp
    exact fI [0] [1]
   ·rw[aB q]at h2
    simp[hj,hj2,q]
    refine⟨by decide,?_⟩
    refine fD (j+1) [0,1,2,3] ⟨by omega,h2⟩ (by omega) ?_
    simp[hw]
  ·have hj:j=vs.length:=by simp at h;omega
   subst hj
   rw[aO,zgl]at h2
   rotate_left
   ·intros;contradiction
   rw[<-h2]at hR
   simp only at hR
   subst hR
   simp
   refine fP [] ?_
   simp
   exact fI [0] [1]
 rw[aB k8]at hR
 simp[k8]
 refine fQ [.t 9] ?_
 simp
 obtain⟨F0,hF⟩:∃F0,accR vs wth [] u.kids=F0:=⟨_,rfl⟩
 rw[hF]at hR
 refine fK zaa hp (fun x:Nat × List Typ=>x.1<=u.kids.length/\x.2.length<=x.1/\accR vs wth x.2 (u.kids.drop x.1)=F0) (fun x=>(10,.c (.d (.int .i64 x.1)))::(9,.c (.msl 4 4 0 x.2.length))::rpOT vs wth) (fun x=>[strA vs,.pin t 0,.box (u.enc.map .d),bx4,arrT x.2]) (fun x=>u.kids.length-x.1) (0,[]) [0,1,2,3,4] ⟨by simp,by simp,by simpa using hF⟩ (by simp) fun⟨j,a⟩ ⟨h1,h2,h3⟩=>?_
 unfold ze6
 simp only at h1 h2 h3
 simp
 apply gI<;>intro h
 ·have hj:j<u.kids.length:=by simpa using h
  rw[aG hj,zsG]at h3
  obtain⟨x,hx⟩:∃x,u.kids[j]=x:=⟨_,rfl⟩
  have hm:=aS hj
  rw[hx]at h3 hm
  have hix:=ih x hm
  unfold RepO at hix
  have hw:=wI (n:=(j:Int)+1)
  generalize zcS vs wth x=r at*
  simp[hj,hx]
  refine gK [0] hix ?_
  by_cases q:r.2=true
  ·rw[aC q]at h3
   simp[q]
   refine⟨by omega,?_⟩
   refine fD (j+1,a++[r.1]) [0,1,2,3,6] ⟨by simp only;omega,by simp;omega,h3⟩ (by simp only;omega) ?_
   simp[hw]
   exact zcr a
  ·rw[aB q]at h3
   subst h3
   simp only[ae,if_false]at hR
   subst hR
   simp[q]
   refine fP [] ?_
   simp
   exact fI [0] [1]
 ·have hj:j=u.kids.length:=by simp at h;omega
  subst hj
  rw[aO]at h3
  have e:accR vs wth a []=(a,true):=by unfold accR;simp[zeD]
  rw[e]at h3
  subst h3
  simp only[if_true]at hR
  subst hR
  simp[zsH]
  refine fP [4] ?_
  simp[zah,zaN]
  exact fJ [0] [1] (by simp[zah,zcc,zaN])
mutual
def zvw(vs:List fC)(wth:List Typ)(hv:vs.length=wth.length)(hl:wth.length<=1000000):∀t:Typ,fewT t->RepO vs wth t
 |.mk k n s l,h=>by
  rw[fewT]at h
  exact zBi vs wth hv hl (.mk k n s l) h.1 (fun e he=>zsJ vs wth hv hl l h.2 e he)
def zsJ(vs:List fC)(wth:List Typ)(hv:vs.length=wth.length)(hl:wth.length<=1000000):∀l:List Typ,zb7 l->∀e,e∈l->RepO vs wth e
 |[],_,e,h=>by cases h
 |d::l,hf,e,h=>by
  rw[zb7]at hf
  cases h with
  |head=>exact zvw vs wth hv hl d hf.1
  |tail _ h=>exact zsJ vs wth hv hl l hf.2 e h
end
def zwS(vs:List fC)(wth:List Typ)(hl:wth.length<=1000000)(u:Typ):
  MCall Pg 78 [.ag (u.enc.map .d),.c (.msl 1 0 0 vs.length),.c (.d (.sl false 4 (wth.map Typ.enc)))] [strA vs] (.tup [.ag ((zba u vs wth).1.enc.map .d),.c (.d (.int .i64 (zba u vs wth).2))]) [strA vs]:=by
 refine zkl MS0 fun ts hts ok hb c hN hp=>?_
 obtain⟨t,rfl⟩:=za6 hts
 obtain⟨R,hR⟩:∃R,zba u vs wth=R:=⟨_,rfl⟩
 rw[hR]
 unfold zba at hR
 unfold zgK
 by_cases hv:vs.length=wth.length
 rotate_left
 ·rw[aC hv]at hR
  subst hR
  have hv':¬(vs.length:Int)=wth.length:=by omega
  simp[hv,hv']
  exact fG [0] [1] (by simp[zaU,AV.erds,AV.erd])
 rw[aB (fun z=>z hv)]at hR
 have hv':(vs.length:Int)=wth.length:=by omega
 simp[hv']
 refine gN (zru u) ?_
 by_cases s1:200<zbo u 201
 ·rw[aC (.inl s1)]at hR
  subst hR
  simp[s1]
  exact fG [0] [1] (by simp[zaU,AV.erds,AV.erd])
 simp[s1]
 refine gN (zg5 u) ?_
 by_cases s2:16<zby 17 u
 ·rw[aC (.inr s2)]at hR
  subst hR
  simp[s2]
  exact fG [0] [1] (by simp[zaU,AV.erds,AV.erd])
 rw[aB (by omega)]at hR
 have hrp:=zvw vs wth hv hl u (ziu u 201 (by omega) (by omega))
 unfold RepO at hrp
 generalize zcS vs wth u=r at*
 simp[s2]
 refine gK [0] hrp ?_
 by_cases q:r.2=true
 ·rw[aC q]at hR
  have hn:=zeJ r.1
  generalize za7 r.1=N at*
  subst hR
  simp[q]
  refine gN hn ?_
  simp
  exact fI [0] [1]
 ·rw[aB q]at hR
  subst hR
  simp[q]
  exact fG [0] [1] (by simp[zaU,AV.erds,AV.erd])
@[simp] theorem zIr(v:fC × Typ):(encV v)[0]?=some (.str v.1):=rfl
@[simp] theorem zFT(v:fC × Typ):(encV v)[1]?=some (.int .i64 v.2.kind):=by unfold encV;rw[Typ.enc_eq];try rfl
@[simp] theorem zIa(v:fC × Typ)(h:0<(encV v).length):(encV v)[0]=.str v.1:=rfl
@[simp] theorem zIb(v:fC × Typ)(h:1<(encV v).length):(encV v)[1]=.int .i64 v.2.kind:=by have:=zFT v;rw[aA h]at this;exact bK this
@[simp] theorem zHD(v:fC × Typ):cut (encV v) 1 4=v.2.enc:=by unfold encV;rw[Typ.enc_eq];try rfl
def zEP(vars:List (fC × Typ))(l:List Typ)(hl:l.length<=1000000):PCall Pg 136 [.one (.sl false 5 (vars.map encV)),.one (.sl false 4 (l.map Typ.enc))] (.one (.int .i64 (znL vars l))):=by
 refine zzf (by simp) fun o c hN hp=>?_
 obtain⟨R,hR⟩:∃R,znL vars l=R:=⟨_,rfl⟩
 rw[hR]
 unfold znL at hR
 unfold zos
 by_cases hv:vars.length=l.length
 rotate_left
 ·rw[aC hv]at hR
  subst hR
  have hv':¬(vars.length:Int)=l.length:=by omega
  simp[hv']
 rw[aB (fun z=>z hv)]at hR
 have hv':(vars.length:Int)=l.length:=by omega
 simp[hv']
 refine fQ [.t 5] ?_
 simp
 refine fK zaa hp (fun i:Nat=>i<=l.length/\zqW (vars.drop i) (l.drop i) ((vars.take i).map (·.1)) (l.take i)=R) (fun i=>[(6,.c (.d (.int .i64 i))),(5,.c (.msl 1 0 0 i)),(1,.c (.d (.sl false 4 (l.map Typ.enc)))),(0,.c (.d (.sl false 5 (vars.map encV))))]) (fun i=>[strA ((vars.take i).map (·.1))]) (fun i=>l.length-i) 0 [0] ⟨by simp,by simpa using hR⟩ (by simp[encS]) fun i ⟨h1,h2⟩=>?_
 unfold zlU
 simp
 apply gI<;>intro h
 ·have hi:i<l.length:=by simpa using h
  have hi2:i<vars.length:=by omega
  rw[aG hi,aG hi2,zqW]at h2
  obtain⟨x,hx⟩:∃x,l[i]=x:=⟨_,rfl⟩
  obtain⟨v,hv3⟩:∃v,vars[i]=v:=⟨_,rfl⟩
  rw[hx,hv3]at h2
  have hw:=wI (n:=(i:Int)+1)
  have tk1:(vars.take (i+1)).map (·.1)=(vars.take i).map (·.1)++[v.1]:=by rw[aJ hi2,map_append,hv3];try rfl
  have tk2:l.take (i+1)=l.take i++[x]:=by rw[aJ hi,hx]
  have hlt:(l.take i).length=i:=by rw[bI];omega
  have hvt:((vars.take i).map (·.1)).length=i:=by rw[aU,bI];omega
  simp[hi,hx]
  refine gN (zdk x) ?_
  by_cases n:isNR x=true
  rotate_left
  ·rw[aC (by simpa using n)]at h2
   subst h2
   simp[n]
  rw[aB (by simp[n])]at h2
  by_cases k0:v.2.kind=0
  ·rw[aB (fun z=>z.1 k0)]at h2
   simp[n,hi2,hv3,k0]
   refine⟨by omega,by omega,?_⟩
   refine fD (i+1) [1] ⟨by omega,by rw[tk1,tk2];exact h2⟩ (by omega) ?_
   rw[tk1]
   simp[hw,hvt]
   exact aF (by simp;omega)
  ·have hro:=zwS ((vars.take i).map (·.1)) (l.take i) (by rw[hlt];omega) v.2
   rw[hvt]at hro
   have hsb:=zmn x (zba v.2 ((vars.take i).map (·.1)) (l.take i)).1
   generalize zba v.2 ((vars.take i).map (·.1)) (l.take i)=r at*
   simp[n,hi2,hv3,k0,h1]
   refine gK [0] hro ?_
   simp[hi,hx]
   refine⟨by decide,?_⟩
   refine gN hsb ?_
   by_cases e0:r.2=0
   ·by_cases s0:SubR x r.1=true
    ·rw[aB (by simp[e0,s0])]at h2
     simp[e0,s0,hi2,hv3]
     refine⟨by decide,by omega,by omega,?_⟩
     refine fD (i+1) [2] ⟨by omega,by rw[tk1,tk2];exact h2⟩ (by omega) ?_
     rw[tk1]
     simp[hw,hvt]
     exact aF (by simp;omega)
    ·rw[aC ⟨k0,.inr (by simpa using s0)⟩]at h2
     subst h2
     simp[e0,s0]
     try decide
   ·rw[aC ⟨k0,.inl e0⟩]at h2
    subst h2
    simp[e0]
    try decide
 ·have hi:i=l.length:=by simp at h;omega
  subst hi
  rw[aO,zqW]at h2
  ·subst h2
   simp
  ·intros;contradiction
@[simp] theorem Ist.enc_length(x:Ist):x.enc.length=3:=rfl
@[simp] theorem Ist.enc_0(x:Ist):x.enc[0]?=some (.int .i64 x.module):=rfl
@[simp] theorem Ist.enc_1(x:Ist):x.enc[1]?=some (.int .i64 x.decl):=rfl
@[simp] theorem Ist.enc_2(x:Ist):x.enc[2]?=some (.sl false 4 (x.types.map Typ.enc)):=rfl
@[simp] theorem Ist.enc_g0(x:Ist)(h:0<x.enc.length):x.enc[0]=.int .i64 x.module:=rfl
@[simp] theorem Ist.enc_g1(x:Ist)(h:1<x.enc.length):x.enc[1]=.int .i64 x.decl:=rfl
@[simp] theorem Ist.enc_g2(x:Ist)(h:2<x.enc.length):x.enc[2]=.sl false 4 (x.types.map Typ.enc):=rfl
@[simp] theorem Ist.cut_enc(x:Ist):cut x.enc 0 3=x.enc:=rfl
@[simp] theorem Ist.cut_map(x:Ist):cut (x.enc.map AC.d) 0 3=x.enc.map .d:=rfl
def zC2(a b:Ist):PCall Pg 51 [.agg a.enc,.agg b.enc] (.one (.bool (zhU a b))):=by
 refine zzg (by simp) fun o c hN hp=>?_
 have hl:a.types.length<=zaf:=by
  have:=o.1
  simp only[DV.ok,Ist.enc,D.okL,D.ok,aU]at this
  exact this.2.2.1.1
 unfold zaf at hl
 obtain⟨R,hR⟩:∃R,zhU a b=R:=⟨_,rfl⟩
 rw[hR]
 unfold zhU at hR
 unfold zot
 by_cases q1:a.module=b.module
 rotate_left
 ·simp[q1]at hR
  simp[q1,hR]
 by_cases q2:a.decl=b.decl
 rotate_left
 ·simp[q2]at hR
  simp[q1,q2,hR]
 by_cases q3:a.types.length=b.types.length
 rotate_left
 ·have:eqF zaV a.types b.types=false:=by
   cases h:eqF zaV a.types b.types with
   |false=>rfl
   |true=>exact absurd (zgw h) q3
  have q3':¬(a.types.length:Int)=b.types.length:=by omega
  simp[this]at hR
  simp[q1,q2,q3,q3',hR]
 simp[q1,q2]at hR
 simp[q1,q2,q3]
 refine fK zaa hp (fun j:Nat=>j<=a.types.length/\eqF zaV (a.types.drop j) (b.types.drop j)=R) (fun j=>[(5,.c (.d (.int .i64 j))),(3,.c (.d (.rp b.enc 0))),(2,.c (.d (.rp a.enc 0)))]) (fun _=>[]) (fun j=>a.types.length-j) 0 [] ⟨by simp,by simpa using hR⟩ (by simp) fun j ⟨h1,h2⟩=>?_
 unfold zlV
 simp
 apply gI<;>intro h
 ·have hj:j<a.types.length:=by simpa using h
  have hj2:j<b.types.length:=by omega
  rw[aG hj,aG hj2,eqF]at h2
  simp[hj,hj2]
  refine gN (zh0 _ _) ?_
  generalize zaV a.types[j] b.types[j]=q at*
  cases q with
  |true=>
   simp at h2
   simp
   refine⟨by decide,?_⟩
   refine fD (j+1) [] ⟨by omega,h2⟩ (by omega) ?_
   simp
   exact wI
  |false=>
   simp at h2
   simp[h2]
   try decide
 ·have hj:j=a.types.length:=by simp at h;omega
  subst hj
  rw[aO,q3,aO]at h2
  simp[eqF]at h2
  simp[h2]
abbrev tabA(l:List Ist):Blk:=.arr 3 ((l.map Ist.enc).map (·.map .d))
abbrev tbB(most:Int)(n b:Nat):Blk:=.box [.d (.int .i64 most),.msl 3 b 0 n]
def zqy{ts:List (Nat × Nat)}{a b:Blk}(h:ts.length=[a,b].length):∃t u,ts=[t,u]:=by
 match ts,h with
 |[t,u],_=>exact⟨t,u,rfl⟩
def zAW(most:Int)(l:List Ist)(hl:l.length<=100000)(x:Ist)(hx:x.types.length<=1000000):
  MCall Pg 33 [.c (.ptr 0 0),.ag (x.enc.map .d)] [tbB most l.length 1,tabA l] (.tup [.c (.d (.int .i64 (addR most l x).1.1)),.c (.d (.int .i64 (addR most l x).1.2))]) [tbB most (addR most l x).2.length 2,.dead,tabA (addR most l x).2]:=by
 refine zpo ⟨by simp,by simp,by simp,by simp,by simp,by simp,by simp;rfl⟩ fun ts hts ok hb c hN hp=>?_
 obtain⟨t,u,rfl⟩:=zqy hts
 obtain⟨R,hR⟩:∃R,addR most l x=R:=⟨_,rfl⟩
 rw[hR]
 unfold addR at hR
 unfold ziU
 simp
 refine fK zaa hp (fun j:Nat=>j<=x.types.length/\(x.types.drop j).all isNR=x.types.all isNR) (fun j=>[(6,.c (.d (.int .i64 j))),(3,.c (.d (.rp x.enc 0))),(0,.c (.ptr 0 0))]) (fun _=>[tbB most l.length 1,tabA l,.pin t 0,.pin u 1]) (fun j=>x.types.length-j) 0 [0,1,2,3] ⟨by simp,by simp⟩ (by simp) fun j ⟨h1,h2⟩=>?_
 unfold zhh
 simp
 apply gI<;>intro h
 ·have hj:j<x.types.length:=by simpa using h
  rw[aG hj,all_cons]at h2
  simp[hj]
  refine gN (zdk _) ?_
  have hw:=wI (n:=(j:Int)+1)
  generalize isNR x.types[j]=q at*
  cases q with
  |false=>
   simp only[Bool.false_and]at h2
   rw[aC h2.symm]at hR
   subst hR
   simp
   exact fI [0,3,1] [2,3]
  |true=>
   simp only[Bool.true_and]at h2
   simp
   refine fD (j+1) [0,1,2,3] ⟨by omega,h2⟩ (by omega) ?_
   simp[hw]
 ·have hj:j=x.types.length:=by simp at h;omega
  subst hj
  rw[aO,all_nil]at h2
  rw[aB (by rw[<-h2];simp)]at hR
  simp
  refine fK zaa hp (fun i:Nat=>i<=l.length/\fi (fun y=>zhU y x) i (l.drop i)=fi (fun y=>zhU y x) 0 l) (fun i=>[(8,.c (.d (.int .i64 i))),(3,.c (.d (.rp x.enc 0))),(0,.c (.ptr 0 0))]) (fun _=>[tbB most l.length 1,tabA l,.pin t 0,.pin u 1]) (fun i=>l.length-i) 0 [0,1,2,3] ⟨by simp,by simp⟩ (by simp) fun i ⟨h3,h4⟩=>?_
  unfold zhi
  simp
  apply gI<;>intro h
  ·have hi:i<l.length:=by simpa using h
   rw[aG hi,fi]at h4
   have hw:=wI (n:=(i:Int)+1)
   simp[hi]
   refine gN (zC2 _ _) ?_
   by_cases q:zhU l[i] x=true
   ·rw[aC q]at h4
    rw[<-h4,aC (by omega)]at hR
    subst hR
    simp[q]
    refine⟨by decide,?_⟩
    exact fI [0,3,1] [2,3]
   ·rw[aB q]at h4
    simp[q]
    refine⟨by decide,?_⟩
    refine fD (i+1) [0,1,2,3] ⟨by omega,h4⟩ (by omega) ?_
    simp[hw]
  ·have hi:i=l.length:=by simp at h;omega
   subst hi
   rw[aO,fi]at h4
   rw[<-h4,aB (by decide)]at hR
   simp
   by_cases m:most<=l.length
   ·rw[aC m]at hR
    subst hR
    simp[m]
    refine⟨by decide,?_⟩
    exact fI [0,3,1] [2,3]
   ·rw[aB m]at hR
    subst hR
    have hw:IntKind.i64.wrap (l.length:Int)=(l.length:Int):=wI
    simp[m]
    refine⟨by decide,by omega,by decide,?_⟩
    exact fJ [0,1,4] [2,3] (by simp[hw,zaN])
@[simp] theorem Fun.enc_length(f:Fun):f.enc.length=13:=by simp[Fun.enc]
@[simp] theorem Site.enc_length(f:Site):f.enc.length=3:=rfl
abbrev funA(l:List Fun):Blk:=.arr 13 ((l.map Fun.enc).map (·.map .d))
abbrev sitA(l:List Site):Blk:=.arr 3 ((l.map Site.enc).map (·.map .d))
abbrev ckBx(L:Lnk)(s:CS)(a b d:Nat):Blk:=.box [.d (.sl false 1 (encS L.names)),.d (.sl false 2 (L.mods.map Mdl.enc)),.d (.sl false 1 (L.scopes.map scpE)),.d (.str L.main.name),.d (.int .i64 L.main.module),.d (.int .i64 L.main.decl),.ptr 1 0,.msl 13 a 0 s.funs.length,.d (.int .i64 s.main),.msl 3 b 0 s.sites.length,.msl 4 d 0 s.bad.length,.d (.int .i64 s.module),.d (.sl false 1 (encS s.vars)),.d (.sl false 4 (s.wth.map Typ.enc)),.d (.int .i64 s.e),.d (.int .i64 s.line),.d (.int .i64 s.col)]
abbrev ck6(L:Lnk)(s:CS):List Blk:=[ckBx L s 2 3 4,tbB 256 s.tab.length 5,funA s.funs,sitA s.sites,diaA s.bad,tabA s.tab]
abbrev ck7(L:Lnk)(s:CS):List Blk:=[ckBx L s 2 6 4,tbB 256 s.tab.length 5,funA s.funs,.dead,diaA s.bad,tabA s.tab,sitA s.sites]
abbrev ck8(L:Lnk)(s:CS):List Blk:=[ckBx L s 2 6 4,tbB 256 s.tab.length 7,funA s.funs,.dead,diaA s.bad,.dead,sitA s.sites,tabA s.tab]
def zbb{ts:List (Nat × Nat)}{a b c d e f:Blk}(h:ts.length=[a,b,c,d,e,f].length):∃t u v w x y,ts=[t,u,v,w,x,y]:=by
 match ts,h with
 |[t,u,v,w,x,y],_=>exact⟨t,u,v,w,x,y,rfl⟩
section
variable (L:Lnk)
def zt0(ln cl e:Int)(s:CS):MCall Pg 79 [.c (.ptr 0 0),.c (.d (.int .i64 ln)),.c (.d (.int .i64 cl)),.c (.d (.int .i64 e))] (ck6 L s) (.tup []) (ck6 L (zaW ln cl e s)):=by
 refine zzl MS1 fun ts hts ok hb c hN hp=>?_
 obtain⟨t,u,v,w,x,y,rfl⟩:=zbb hts
 unfold zqL zaW
 by_cases h0:s.e=0
 ·rw[aC h0]
  simp[h0]
  exact fI [0,1,2,3,4,5] [6,7,8,9,10,11]
 ·rw[aB h0]
  simp[h0]
  exact fI [0,1,2,3,4,5] [6,7,8,9,10,11]
def zfV{α:Type}{l:List α}{i:Nat}{d:α}(e:l[i]?=some d)(h:i<l.length):l[i]=d:=by rw[aA h]at e;exact bK e
@[simp] theorem Nod.enc_0(n:Nod):n.enc[0]?=some (.int .i64 n.kind):=by rw[n.enc_eq];try rfl
@[simp] theorem Nod.enc_g0(n:Nod)(h:0<n.enc.length):n.enc[0]=.int .i64 n.kind:=zfV n.enc_0 h
@[simp] theorem Nod.enc_1(n:Nod):n.enc[1]?=some (.str n.text):=by rw[n.enc_eq];try rfl
@[simp] theorem Nod.enc_g1(n:Nod)(h:1<n.enc.length):n.enc[1]=.str n.text:=zfV n.enc_1 h
@[simp] theorem Nod.enc_2(n:Nod):n.enc[2]?=some (.int .i64 n.n):=by rw[n.enc_eq];try rfl
@[simp] theorem Nod.enc_g2(n:Nod)(h:2<n.enc.length):n.enc[2]=.int .i64 n.n:=zfV n.enc_2 h
@[simp] theorem Nod.enc_3(n:Nod):n.enc[3]?=some (.int .i64 n.line):=by rw[n.enc_eq];try rfl
@[simp] theorem Nod.enc_g3(n:Nod)(h:3<n.enc.length):n.enc[3]=.int .i64 n.line:=zfV n.enc_3 h
@[simp] theorem Nod.enc_4(n:Nod):n.enc[4]?=some (.int .i64 n.col):=by rw[n.enc_eq];try rfl
@[simp] theorem Nod.enc_g4(n:Nod)(h:4<n.enc.length):n.enc[4]=.int .i64 n.col:=zfV n.enc_4 h
@[simp] theorem Nod.enc_5(n:Nod):n.enc[5]?=some (.sl false 4 (n.types.map Typ.enc)):=by rw[n.enc_eq];try rfl
@[simp] theorem Nod.enc_g5(n:Nod)(h:5<n.enc.length):n.enc[5]=.sl false 4 (n.types.map Typ.enc):=zfV n.enc_5 h
@[simp] theorem Nod.enc_6(n:Nod):n.enc[6]?=some (.sl false 1 (encS n.names)):=by rw[n.enc_eq];try rfl
@[simp] theorem Nod.enc_g6(n:Nod)(h:6<n.enc.length):n.enc[6]=.sl false 1 (encS n.names):=zfV n.enc_6 h
@[simp] theorem Nod.enc_7(n:Nod):n.enc[7]?=some (.sl false 8 (n.kids.map Nod.enc)):=by rw[n.enc_eq];try rfl
@[simp] theorem Nod.enc_g7(n:Nod)(h:7<n.enc.length):n.enc[7]=.sl false 8 (n.kids.map Nod.enc):=zfV n.enc_7 h
def zc0(n:Nod)(e:Int)(s:CS):MCall Pg 57 [.c (.ptr 0 0),.ag (n.enc.map .d),.c (.d (.int .i64 e))] (ck6 L s) (.tup []) (ck6 L (zaW n.line n.col e s)):=by
 refine zDs MS1 fun ts hts ok hb c hN hp=>?_
 obtain⟨t,u,v,w,x,y,rfl⟩:=zbb hts
 have hf:=zt0 L n.line n.col e s
 unfold zvH
 simp
 refine gK [0,1,2,3,4,5] hf ?_
 simp
 exact fI [0,1,2,3,4,5] [6,7,8,9,10,11]
def zdx(t0:Typ)(ln cl:Int)(s:CS)(hw:s.wth.length<=1000000):MCall Pg 53 [.c (.ptr 0 0),.ag (t0.enc.map .d),.c (.d (.int .i64 ln)),.c (.d (.int .i64 cl))] (ck6 L s) (.ag ((zar t0 ln cl s).1.enc.map .d)) (ck6 L (zar t0 ln cl s).2):=by
 refine ztl MS1 fun ts hts ok hb c hN hp=>?_
 obtain⟨t,u,v,w,x,y,rfl⟩:=zbb hts
 have hr:=zjx s.vars s.wth hw t0
 have hf:=zt0 L ln cl 9 s
 unfold zar
 simp only
 generalize zba t0 s.vars s.wth=r at*
 unfold zlY
 simp
 refine gK [] hr ?_
 by_cases h0:r.2=0
 ·rw[aB (by simp[h0])]
  simp[h0]
  refine⟨by decide,?_⟩
  exact fI [0,1,2,3,4,5] [6,7,8,9,10,11]
 ·rw[aC h0]
  simp[h0]
  refine⟨by decide,?_⟩
  refine gK [0,1,2,3,4,5] hf ?_
  simp
  exact fI [0,1,2,3,4,5] [6,7,8,9,10,11]
def zfp(t0:Typ)(n:Nod)(s:CS):MCall Pg 54 [.c (.ptr 0 0),.ag (t0.enc.map .d),.ag (n.enc.map .d)] (ck6 L s) (.ag ((zbN t0 n.line n.col s).1.enc.map .d)) (ck6 L (zbN t0 n.line n.col s).2):=by
 refine zzm MS1 fun ts hts ok hb c hN hp=>?_
 obtain⟨t,u,v,w,x,y,rfl⟩:=zbb hts
 have hr:=zeJ t0
 have hf:=zc0 L n 9 s
 unfold zbN
 generalize za7 t0=r at*
 unfold zqM
 simp
 refine gN hr ?_
 by_cases h0:r.2=0
 ·rw[aB (by simp[h0])]
  simp[h0]
  exact fI [0,1,2,3,4,5] [6,7,8,9,10,11]
 ·rw[aC h0]
  simp[h0]
  refine gK [0,1,2,3,4,5] hf ?_
  simp
  exact fI [0,1,2,3,4,5] [6,7,8,9,10,11]
@[simp] theorem Cor.er_map(c:Cor):c.enc.map D.er=c.enc:=by rw[Cor.enc_eq];try rfl
def zt1:∀l:List Int,D.erdE (encI l)=encI l
 |[]=>rfl
 |i::l=>by have:=zt1 l;unfold encI at*;simp only[map_cons,D.erdE,D.erdL,D.erd,this]
def zjO:∀l:List fC,D.erdE (encS l)=encS l
 |[]=>rfl
 |i::l=>by have:=zjO l;unfold encS at*;simp only[map_cons,D.erdE,D.erdL,D.erd,this]
def zxh:∀l:List (fC × Int),D.erdE (encN l)=encN l
 |[]=>rfl
 |i::l=>by have:=zxh l;unfold encN at*;simp only[map_cons,D.erdE,D.erdL,D.erd,this]
mutual
def Typ.erdLL:∀c:Typ,D.erdL c.enc=c.enc
 |.mk k n s l=>by rw[Typ.enc];simp only[D.erdL,D.erd,zjO,Typ.erdEE l]
def Typ.erdEE:∀l:List Typ,D.erdE (Typ.encs l)=Typ.encs l
 |[]=>rfl
 |c::l=>by rw[Typ.encs,D.erdE,Typ.erdLL c,Typ.erdEE l]
end
mutual
def Coe.erdLL:∀c:Coe,D.erdL c.enc=c.enc
 |.mk t n s f g=>by rw[Coe.enc];simp only[D.erdL,D.erd,zt1,zxh,zjO,Coe.erdEE f,Coe.erdEE g]
def Coe.erdEE:∀l:List Coe,D.erdE (Coe.encs l)=Coe.encs l
 |[]=>rfl
 |c::l=>by rw[Coe.encs,D.erdE,Coe.erdLL c,Coe.erdEE l]
end
def Typ.erdE_map(l:List Typ):D.erdE (l.map Typ.enc)=l.map Typ.enc:=by rw[<-Typ.encs_map];exact Typ.erdEE l
def Coe.erdE_map(l:List Coe):D.erdE (l.map Coe.enc)=l.map Coe.enc:=by rw[<-Coe.encs_map];exact Coe.erdEE l
mutual
theorem Cor.erdLL:∀c:Cor,D.erdL c.enc=c.enc
 |.mk k n t is ns ts cs ks=>by rw[Cor.enc];simp only[D.erdL,D.erd,zt1,zjO,Typ.erdE_map,Coe.erdE_map,Cor.erdEE ks]
theorem Cor.erdEE:∀l:List Cor,D.erdE (Cor.encs l)=Cor.encs l
 |[]=>rfl
 |c::l=>by rw[Cor.encs,D.erdE,Cor.erdLL c,Cor.erdEE l]
end
theorem Cor.erdE_map(l:List Cor):D.erdE (l.map Cor.enc)=l.map Cor.enc:=by rw[<-Cor.encs_map];exact Cor.erdEE l
attribute [simp] Cor.erdLL Cor.erdE_map
def zdJ(k n:Int)(t:fC)(is:List Int)(ns:List fC)(ts:List Typ)(cs:List Coe)(ks:List Cor):(Cor.mk k n t is ns ts cs ks).enc=[.int .i64 k,.int .i64 n,.str t,.sl false 1 (encI is),.sl false 1 (encS ns),.sl false 4 (ts.map Typ.enc),.sl false 5 (cs.map Coe.enc),.sl false 8 (ks.map Cor.enc)]:=by
 rw[Cor.enc_eq];try rfl
def EndM.mkC{v:AV}{bs':List Blk}{ts:List (Nat × Nat)}{vs:List AV}{S:St}(l qs:List Nat)(h:l.Nodup/\(one? vs).erd=v.ren (fOf l)/\finB S l l bs'/\pinB S l l qs ts bs':=by simp[cK,cN,cT,zdJ,zcc,fnT,zcN,zaU,noC,encI,encS,AV.erds,AV.erd,D.erdL,D.erd,D.erdE,kid0,kid1]):EndM v bs' ts vs S:=fG l qs h
def zgv(z:Cor)(a b:Typ)(n:Nod)(s:CS)(hs:s.sites.length<=1000000000):MCall Pg 93 [.c (.ptr 0 0),.ag (z.enc.map .d),.ag (a.enc.map .d),.ag (b.enc.map .d),.ag (n.enc.map .d)] (ck6 L s) (.ag ((za8 z a b n.line n.col s).1.enc.map .d)) (ck7 L (za8 z a b n.line n.col s).2):=by
 refine zzn MS1 fun ts hts ok hb c hN hp=>?_
 obtain⟨t,u,v,w,x,y,rfl⟩:=zbb hts
 unfold za8
 unfold zqN
 by_cases h0:s.e=0
 ·rw[aB (by simp[h0])]
  have hw:IntKind.i64.wrap (s.sites.length:Int)=(s.sites.length:Int):=wI
  simp[h0]
  refine⟨by omega,by decide,by decide,?_⟩
  exact fG [0,1,2,3,4,5,13] [6,7,8,9,10,11] (by simp[hw,zaN,zdJ,Site.enc,h0,encI,encS,AV.erd,AC.erd])
 ·rw[aC h0]
  simp[h0]
  exact fI [0,1,2,9,4,5,3] [6,7,8,9,10,11]
def zb6(z:Cor)(a b:Typ)(n:Nod)(s:CS)(hs:s.sites.length<=1000000000):MCall Pg 59 [.c (.ptr 0 0),.ag (z.enc.map .d),.ag (a.enc.map .d),.ag (b.enc.map .d),.ag (n.enc.map .d)] (ck6 L s) (.ag ((zaF z a b n.line n.col s).1.enc.map .d)) (ck7 L (zaF z a b n.line n.col s).2):=by
 refine zvI MS1 fun ts hts ok hb c hN hp=>?_
 obtain⟨t,u,v,w,x,y,rfl⟩:=zbb hts
 have hc:=zgv L z a b n s hs
 have hf:=zc0 L n 15 s
 unfold zaF
 unfold zm2
 by_cases h0:s.e=0
 rotate_left
 ·rw[aC h0]
  simp[h0]
  exact fI [0,1,2,9,4,5,3] [6,7,8,9,10,11]
 rw[aB (by simp[h0])]
 simp[h0]
 refine gN (zmn a b) ?_
 by_cases h1:SubR a b=true
 ·rw[aC h1]
  simp[h1]
  exact fJ [0,1,2,9,4,5,3] [6,7,8,9,10,11] (by simp[h0])
 rw[aB h1]
 simp[h1]
 refine gN (zxq a b) ?_
 by_cases h2:zhR a b=true
 ·rw[aC h2]
  generalize za8 z a b n.line n.col s=r at*
  simp[h2]
  refine gM [0,1,2,3,4,5] hc (by simp[h0]) ?_
  simp
  exact fI [0,1,2,3,4,5,13] [6,7,8,9,10,11]
 ·rw[aB h2]
  generalize zaW n.line n.col 15 s=r at*
  simp[h2]
  refine gM [0,1,2,3,4,5] hf (by simp[h0]) ?_
  simp
  exact fI [0,1,2,9,4,5,3] [6,7,8,9,10,11]
end
abbrev fH:=@EndM.mkC
end Go.Gr
namespace Go.Gr
open Go.Abs Go.Proofs List
def zaG(k:Int):PCall Pg 56 [.one (.int .i64 k)] (.agg (bT k).enc):=by
 refine zzh (by simp) fun o c hN hp=>?_
 unfold zou
 simp[zcN]
def zxZ(d:Dec)(hd:d.vars.length<=1000000):PCall Pg 52 [.agg d.enc] (.one (.sl false 1 (encS (d.vars.map (·.1))))):=by
 refine zzi (by simp) fun o c hN hp=>?_
 unfold zov
 simp
 refine fQ [.t 3] ?_
 simp
 refine fK zaa hp (fun j:Nat=>j<=d.vars.length) (fun j=>[(4,.c (.d (.int .i64 j))),(3,.c (.msl 1 0 0 j)),(1,.c (.d (.rp d.enc 0)))]) (fun j=>[strA ((d.vars.take j).map (·.1))]) (fun j=>d.vars.length-j) 0 [0] (by simp) (by simp[encS]) fun j h1=>?_
 unfold zlW
 simp
 apply gI<;>intro h
 ·have hj:j<d.vars.length:=by simpa using h
  obtain⟨v,hv⟩:∃v,d.vars[j]=v:=⟨_,rfl⟩
  have hw:=wI (n:=(j:Int)+1)
  have tk1:(d.vars.take (j+1)).map (·.1)=(d.vars.take j).map (·.1)++[v.1]:=by rw[aJ hj,map_append,hv];try rfl
  simp[hj,hv]
  refine⟨by omega,by omega,?_⟩
  refine fD (j+1) [1] (by omega) (by omega) ?_
  rw[tk1]
  simp[hw]
  exact aF (by simp;omega)
 ·have hj:j=d.vars.length:=by simp at h;omega
  subst hj
  have z:take d.vars.length (encS (take d.vars.length (List.map (fun x=>x.1) d.vars)))=encS (List.map (fun x=>x.1) d.vars):=by
   rw[aF (by simp),aF (by simp)]
  simp[z]
def zrG(env:Env)(hl:env.length<=1000000)(s:fC)(t:Typ):PCall Pg 137 [.one (.sl false 5 (env.map encV)),.one (.str s),.agg t.enc] (.one (.sl false 5 ((env++[(s,t)]).map encV))):=by
 refine zzk (by simp) fun o c hN hp=>?_
 unfold zox
 have z:take (length env+1) (List.map encV env++[.str s::t.enc])=List.map encV env++[.str s::t.enc]:=aF (by simp)
 simp[zaN]
 refine⟨by omega,by omega,by decide,?_⟩
 first
  |exact z
  |(rw[z];rfl)
  |trace_state
def zps(env:Env)(x:fC):zcn env x= -1\/(0<=zcn env x/\zcn env x<env.length):=by
 have:=zqU (fun b:fC × Typ=>decide (b.1=x)) 0 env.reverse
 unfold zcn
 rw[length_reverse]at this
 simp only
 split<;>omega
def find_ok(env:Env)(hl:env.length<=1000000)(x:fC):PCall Pg 134 [.one (.sl false 5 (env.map encV)),.one (.str x)] (.one (.int .i64 (zcn env x))):=by
 refine zzj (by simp) fun o c hN hp=>?_
 obtain⟨R,hR⟩:∃R,zcn env x=R:=⟨_,rfl⟩
 rw[hR]
 unfold zcn at hR
 unfold zow
 have hw0:IntKind.i64.wrap ((env.length:Int)-1)=(env.length:Int)-1:=wI
 simp[hw0]
 refine fK zaa hp (fun j:Nat=>j<=env.length/\fi (fun b:fC × Typ=>decide (b.1=x)) j (env.reverse.drop j)=fi (fun b:fC × Typ=>decide (b.1=x)) 0 env.reverse) (fun j=>[(5,.c (.d (.int .i64 ((env.length:Int)-1-j)))),(1,.c (.d (.str x))),(0,.c (.d (.sl false 5 (env.map encV))))]) (fun _=>[]) (fun j=>env.length-j) 0 [] ⟨by simp,by simp⟩ (by simp) fun j ⟨h1,h2⟩=>?_
 unfold zlX
 have hw:=wI (n:=(env.length:Int)-1-j-1)
 simp
 apply gI<;>intro h
 ·have hj:j<env.length:=by simp at h;omega
  have hj2:j<env.reverse.length:=by simpa using hj
  rw[aG hj2,fi,getElem_reverse]at h2
  obtain⟨k,hk⟩:∃k,env.length-1-j=k:=⟨_,rfl⟩
  have hkl:k<env.length:=by omega
  have hki:(env.length:Int)-1-j=(k:Int):=by omega
  simp only[hk]at h2
  rw[hki]at hw
  obtain⟨v,hv⟩:∃v,env[k]=v:=⟨_,rfl⟩
  have hg:env[env.length-1-j]?=some v:=by rw[hk,aA hkl,hv]
  have hg2:env[k]?=some v:=by rw[aA hkl,hv]
  have hjl:(j:Int)<=(env.length:Int)-1:=by omega
  rw[hv]at h2
  simp[hki,hg,hg2,hjl,hk]
  by_cases q:v.1=x
  ·rw[aC (by simpa using q)]at h2
   rw[<-h2]at hR
   have hR:(if(j:Int)<0 then -1 else(env.length:Int)-1-j)=R:=hR
   rw[aB (by omega)]at hR
   simp[q]
   omega
  ·rw[aB (by simpa using q)]at h2
   simp[q]
   refine fD (j+1) [] ⟨by omega,h2⟩ (by omega) ?_
   simp[hw]
   omega
 ·have hj:j=env.length:=by simp at h;omega
  subst hj
  rw[bG (by simp),fi]at h2
  rw[<-h2]at hR
  simp at hR
  simp[hR]
@[simp] theorem Dec.enc_g3(d:Dec)(h:3<d.enc.length):d.enc[3]=.str d.param:=rfl
@[simp] theorem Dec.enc_g4(d:Dec)(h:4<d.enc.length):d.enc[4]=.sl false 4 (d.types.map Typ.enc):=rfl
structure DecOk (d:Dec):Prop where
 types:d.types.length=2
 vars:d.vars.length<=1000000
structure EntOk (L:Lnk) (e:Ent):Prop where
 m0:0<=e.module
 m1:e.module<L.mods.length
 d0:0<=e.decl
 d1:e.decl<(L.mods.getD e.module.toNat noM).decs.length
structure GoodL (L:Lnk):Prop where
 few:L.mods.length<=16
 names:L.names.length=L.mods.length
 scopes:L.scopes.length=L.mods.length
 decs:∀m,m∈L.mods->∀d,d∈m.decs->DecOk d
 ents:∀sc,sc∈L.scopes->∀e,e∈sc->EntOk L e
def zhk{L:Lnk}(hL:GoodL L){m k:Int}(h:EntOk L ⟨bs [],m,k⟩):∃(mn kn:Nat) (M:Mdl),m=mn/\k=kn/\L.mods[mn]?=some M/\M.decs[kn]?=some (zdV L m k)/\DecOk (zdV L m k):=by
 obtain⟨a1,a2,a3,a4⟩:=h
 simp only at a1 a2 a3 a4
 obtain⟨g1,g2⟩:=getD_in L.mods noM (z:=m) (n:=L.mods.length) rfl a1 a2
 obtain⟨g3,g4⟩:=getD_in (L.mods.getD m.toNat noM).decs zjs (z:=k) rfl a3 a4
 exact⟨m.toNat,k.toNat,_,by omega,by omega,g1,g3,hL.decs _ g2 _ g4⟩
def zpt{l:List Typ}(h:l.length=2):∃a b,l=[a,b]:=by
 match l,h with
 |[a,b],_=>exact⟨a,b,rfl⟩
section
variable (L:Lnk)
def zFg(hL:GoodL L)(e:Ent)(he:EntOk L ⟨bs [],e.module,e.decl⟩)(l:List Typ)(hl:l.length<=1000000)(s:CS):
  MCall Pg 164 [.c (.ptr 0 0),.ag (e.enc.map .d),.c (.d (.sl false 4 (l.map Typ.enc)))] (ck6 L s) (.tup [.ag ((sigR L e l).1.enc.map .d),.c (.d (.bool (sigR L e l).2))]) (ck6 L s):=by
 refine zqO MS1 fun ts hts ok hb c hN hp=>?_
 obtain⟨t,u,v,w,x,y,rfl⟩:=zbb hts
 obtain⟨mn,kn,M,e1,e2,g1,g2,hd⟩:=zhk hL he
 unfold sigR
 simp only
 generalize zdV L e.module e.decl=d at*
 obtain⟨ta,tb,hty⟩:=zpt hd.types
 have e3:d.types.getD 0 noT=ta:=by rw[hty];try rfl
 have e4:d.types.getD 1 noT=tb:=by rw[hty];try rfl
 rw[e3,e4]
 have hv:=zxZ d hd.vars
 have r1:=zjx (d.vars.map (·.1)) l hl ta
 have r2:=zjx (d.vars.map (·.1)) l hl tb
 generalize zba ta (d.vars.map (·.1)) l=a at*
 generalize zba tb (d.vars.map (·.1)) l=b at*
 have hn:PCall Pg 76 [.agg [.int .i64 6,.str (bs []),.sl true 1 [],.sl true 4 [a.1.enc,b.1.enc]]] (.tup [.agg (za7 (fnT a.1 b.1)).1.enc,.one (.int .i64 (za7 (fnT a.1 b.1)).2)]):=PCall.erd (zeJ (fnT a.1 b.1)) (by simp[fnT,zcc,DV.erds,DV.erd,D.erdL,D.erd,D.erdE,encS])
 generalize za7 (fnT a.1 b.1)=r at*
 unfold zjq
 simp[e1,e2,g1,g2]
 refine⟨by decide,?_⟩
 refine gN hv ?_
 simp[hty]
 refine gK [] r1 ?_
 simp[hty]
 refine gK [] r2 ?_
 simp
 refine gN hn ?_
 by_cases q1:a.2=0
 ·by_cases q2:b.2=0
  ·by_cases q3:r.2=0
   ·simp[q1,q2,q3]
    exact fG [0,1,2,3,4,5] [6,7,8,9,10,11] (by simp[q1,q2,q3,AV.erds,AV.erd])
   ·simp[q1,q2,q3]
    exact fG [0,1,2,3,4,5] [6,7,8,9,10,11] (by simp[q1,q2,q3,AV.erds,AV.erd])
  ·simp[q1,q2]
   exact fG [0,1,2,3,4,5] [6,7,8,9,10,11] (by simp[q1,q2,AV.erds,AV.erd])
 ·simp[q1]
  exact fG [0,1,2,3,4,5] [6,7,8,9,10,11] (by simp[q1,AV.erds,AV.erd])
end
end Go.Gr
namespace Go.Gr
open Go.Abs Go.Proofs
structure SOk (L:Lnk) (s:CS) (b:Nat):Prop where
 wth:s.wth.length<=1000000
 sites:s.sites.length+b<=1000000000
 tab:s.tab.length<=256
 m0:0<=s.module
 m1:s.module<L.mods.length
 few:s.funs.length<=1000/\s.bad.length<=1000
 ist:∀x,x∈s.tab->EntOk L ⟨bs [],x.module,x.decl⟩/\x.types.length<=1000000
structure EOk (env:Env) (b:Nat):Prop where
 len:env.length+b<=1000000
 wf:∀v,v∈env->wfT v.2
def zb0{L:Lnk}{s:CS}{b:Nat}(h:SOk L s b)(ln cl e:Int):SOk L (zaW ln cl e s) b:=by
 unfold zaW
 split
 ·exact⟨h.wth,h.sites,h.tab,h.m0,h.m1,h.few,h.ist⟩
 ·exact h
def SOk.less{L:Lnk}{s:CS}{b c:Nat}(h:SOk L s b)(k:c<=b):SOk L s c:=⟨h.wth,by have:=h.sites;omega,h.tab,h.m0,h.m1,h.few,h.ist⟩
def EOk.less{env:Env}{b c:Nat}(h:EOk env b)(k:c<=b):EOk env c:=⟨by have:=h.len;omega,h.wf⟩
def EOk.more{env:Env}{b:Nat}(h:EOk env (b+1))(x:fC){t:Typ}(ht:wfT t):EOk (env++[(x,t)]) b:=⟨by have:=h.len;simp;omega,fun v hv=>by
 rcases aQ.1 hv with hv|hv
 ·exact h.wf v hv
 ·simp at hv;subst hv;exact ht⟩
def zwl(t:Typ)(vs:List fC)(w:List Typ):wfT (zba t vs w).1:=by
 unfold zba
 split
 ·exact zbP
 split
 ·exact zbP
 split
 ·exact zjQ _
 ·exact zbP
def zbt{L:Lnk}{s:CS}{b:Nat}(h:SOk L s b)(t:Typ)(ln cl:Int):SOk L (zar t ln cl s).2 b/\wfT (zar t ln cl s).1:=by
 refine⟨?_,zwl _ _ _⟩
 unfold zar
 simp only
 split
 ·exact zb0 h _ _ _
 ·exact h
def zir{L:Lnk}{s:CS}{b:Nat}(h:SOk L s b)(t:Typ)(ln cl:Int):SOk L (zbN t ln cl s).2 b/\wfT (zbN t ln cl s).1:=by
 refine⟨?_,zjQ _⟩
 unfold zbN
 simp only
 split
 ·exact zb0 h _ _ _
 ·exact h
def zgx{L:Lnk}{s:CS}{b:Nat}(h:SOk L s (b+1))(z:Cor)(t u:Typ)(ln cl:Int):SOk L (za8 z t u ln cl s).2 b:=by
 unfold za8
 split
 ·exact h.less (by omega)
 ·exact⟨h.wth,by have:=h.sites;simp;omega,h.tab,h.m0,h.m1,h.few,h.ist⟩
def zbL{L:Lnk}{s:CS}{b:Nat}(h:SOk L s (b+1))(z:Cor)(t u:Typ)(ln cl:Int):SOk L (zaF z t u ln cl s).2 b:=by
 unfold zaF
 split
 ·exact h.less (by omega)
 split
 ·exact h.less (by omega)
 split
 ·exact zgx h _ _ _ _ _
 ·exact zb0 (h.less (by omega)) _ _ _
def zkI{l:List Ist}(h:l.length<=256)(x:Ist):(addR 256 l x).2.length<=256:=by
 unfold addR
 split
 ·exact h
 split
 ·exact h
 split
 ·exact h
 ·simp;omega
def zoT{m:Int}{l:List Ist}{x y:Ist}(h:y∈(addR m l x).2):y∈l\/y=x:=by
 unfold addR at h
 split at h
 ·exact .inl h
 split at h
 ·exact .inl h
 split at h
 ·exact .inl h
 ·rcases aQ.1 h with h|h
  ·exact .inl h
  ·exact .inr (by simpa using h)
def zpS{L:Lnk}{s:CS}{b:Nat}(h:SOk L s b)(ln cl:Int)(e:Ent)(l:List Typ)(he:EntOk L ⟨bs [],e.module,e.decl⟩)(hl:l.length<=1000000):SOk L (zbO L ln cl e l s).2 b/\wfT (zbO L ln cl e l s).1.2:=by
 unfold zbO
 by_cases q:(sigR L e l).2=false
 ·rw[aC q];exact⟨zb0 h _ _ _,zbP⟩
 ·rw[aB q]
  simp only
  have h2:SOk L {s with tab:=(addR 256 s.tab ⟨e.module,e.decl,l⟩).2} b:=⟨h.wth,h.sites,zkI h.tab _,h.m0,h.m1,h.few,fun x hx=>by
   rcases zoT hx with hx|hx
   ·exact h.ist x hx
   ·subst hx;exact⟨he,hl⟩⟩
  refine⟨?_,zjQ _⟩
  split
  ·exact zb0 h2 _ _ _
  ·exact h2
section
variable (L:Lnk)
def zpT(hL:GoodL L)(n:Nod)(e:Ent)(he:EntOk L ⟨bs [],e.module,e.decl⟩)(l:List Typ)(hl:l.length<=1000000)(s:CS)(ht:s.tab.length<=256):
  MCall Pg 135 [.c (.ptr 0 0),.ag (n.enc.map .d),.ag (e.enc.map .d),.c (.d (.sl false 4 (l.map Typ.enc)))] (ck6 L s) (.tup [.ag ((zbO L n.line n.col e l s).1.1.enc.map .d),.ag ((zbO L n.line n.col e l s).1.2.enc.map .d)]) (ck8 L (zbO L n.line n.col e l s).2):=by
 refine zvJ MS1 fun ts hts ok hb c hN hp=>?_
 obtain⟨t,u,v,w,x,y,rfl⟩:=zbb hts
 have hs:=zFg L hL e he l hl s
 have hf:=zc0 L n 9 s
 have ha:=zAW 256 s.tab (by omega) ⟨e.module,e.decl,l⟩ hl
 have hb0:=zaG 0
 unfold zbO
 generalize sigR L e l=g at*
 unfold zm3
 simp
 refine gK [0,1,2,3,4,5] hs ?_
 by_cases g0:g.2=false
 ·rw[aC g0]
  simp[g0]
  refine gK [0,1,2,3,4,5] hf ?_
  simp
  refine gN hb0 ?_
  simp
  exact fG [0,1,2,9,4,11,3,5] [6,7,8,9,10,11] (by simp[noC,cN,zdJ,zcN,zaU,encI,encS,AV.erds,AV.erd])
 ·rw[aB g0]
  simp only
  generalize hr:addR 256 s.tab ⟨e.module,e.decl,l⟩=r at*
  have hf2:=zc0 L n r.1.2 {s with tab:=r.2}
  rw[Bool.not_eq_false]at g0
  simp[g0]
  refine gM [1,5] ha (by simp[Ist.enc]) ?_
  by_cases r0:r.1.2=0
  ·rw[aB (by simp[r0])]
   simp[r0]
   refine⟨by decide,by decide,?_⟩
   exact fG [0,1,2,9,4,11,3,15] [6,7,8,9,10,11] (by simp[cN,zdJ,encI,encS,AV.erds,AV.erd])
  ·rw[aC r0]
   simp[r0]
   refine⟨by decide,?_⟩
   refine gK [0,1,2,3,4,15] hf2 ?_
   simp
   refine⟨by decide,?_⟩
   exact fG [0,1,2,9,4,11,3,15] [6,7,8,9,10,11] (by simp[cN,zdJ,encI,encS,AV.erds,AV.erd])
end
end Go.Gr
namespace Go.Gr
open Go.Abs Go.Proofs
mutual
def nsz:Nod->Nat
 |.mk _ _ _ _ _ _ _ l=>nszs l+1
def nszs:List Nod->Nat
 |[]=>0
 |n::l=>nsz n+nszs l
end
def zbC(n:Nod):nsz n=nszs n.kids+1:=by cases n;rw[nsz];try rfl
abbrev infA(c:Cor)(t:Typ):AV:=.tup [.ag (c.enc.map .d),.ag (t.enc.map .d)]
abbrev zF2(n:Nod)(env:Env):List AV:=[.c (.ptr 0 0),.ag (n.enc.map .d),.c (.d (.sl false 5 (env.map encV)))]
section
variable (L:Lnk)
def MInf(f:FuncId)(n:Nod)(i:Inf):Prop:=∀env s b,EOk env (nsz n)->SOk L s (8*nsz n+b)->MCall Pg f (zF2 n env) (ck6 L s) (infA (i env s).1.1 (i env s).1.2) (ck8 L (i env s).2)
def PInf(n:Nod)(i:Inf):Prop:=∀env s b,EOk env (nsz n)->SOk L s (8*nsz n+b)->SOk L (i env s).2 b/\wfT (i env s).1.2
abbrev zcm(n:Nod)(i:Inf):Prop:=MInf L 58 n i/\PInf L n i
def zGM(n a b:Nod)(hk:n.kids=[a,b])(ia ib:Inf)(ha:PInf L a ia)(hb:PInf L b ib):PInf L n (letC n a ia ib):=fun env s k he hs=>by
 have hn:nsz n=nsz a+nsz b+1:=by rw[zbC,hk];simp[nszs]
 have h1:=ha env s (1+8*nsz b+k) (he.less (by omega)) (hs.less (by omega))
 unfold letC
 simp only
 by_cases q:0<n.types.length/\(ia env s).2.e=0
 ·rw[aC q]
  have h2:=zbt h1.1 (n.types.getD 0 noT) n.line n.col
  have h3:=zbL (b:=8*nsz b+k) (h2.1.less (by omega)) (ia env s).1.1 (ia env s).1.2 (zar (n.types.getD 0 noT) n.line n.col (ia env s).2).1 a.line a.col
  exact hb _ _ k ((he.less (c:=nsz b+1) (by omega)).more _ h2.2) h3
 ·rw[aB q]
  exact hb _ _ k ((he.less (c:=nsz b+1) (by omega)).more _ h1.2) (h1.1.less (by omega))
def zEW(n a b:Nod)(hk:n.kids=[a,b])(ia ib:Inf)(ha:zcm L a ia)(hb:zcm L b ib):MInf L 82 n (letC n a ia ib):=fun env s k he hs=>by
 refine zBt MS1 fun ts hts ok hbk c hN hp=>?_
 obtain⟨t,u,v,w,x,y,rfl⟩:=zbb hts
 have hn:nsz n=nsz a+nsz b+1:=by rw[zbC,hk];simp[nszs]
 have m1:=ha.1 env s (1+8*nsz b+k) (he.less (by omega)) (hs.less (by omega))
 have p1:=ha.2 env s (1+8*nsz b+k) (he.less (by omega)) (hs.less (by omega))
 unfold letC
 simp only
 generalize ia env s=r1 at*
 have hel:=he.len
 unfold zsP
 simp[hk]
 refine gK [0,1,2,3,4,5] m1 ?_
 by_cases q:0<n.types.length/\r1.2.e=0
 ·rw[aC q]
  obtain⟨q1,q2⟩:=q
  have q1':(0:Int)<n.types.length:=by omega
  obtain⟨ta,tr,hty⟩:∃ta tr,n.types=ta::tr:=by
   match h:n.types,q1 with
   |ta::tr,_=>exact⟨ta,tr,rfl⟩
  have e3:n.types.getD 0 noT=ta:=by rw[hty];try rfl
  rw[e3]
  have m2:=zdx L ta n.line n.col r1.2 p1.1.wth
  have p2:=zbt p1.1 ta n.line n.col
  generalize zar ta n.line n.col r1.2=r2 at*
  have m3:=zb6 L r1.1.1 r1.1.2 r2.1 a r2.2 (by have:=p2.1.sites;omega)
  have p3:=zbL (b:=8*nsz b+k) (p2.1.less (by omega)) r1.1.1 r1.1.2 r2.1 a.line a.col
  generalize zaF r1.1.1 r1.1.2 r2.1 a.line a.col r2.2=r3 at*
  have hwi:=zrG env (by omega) n.text r2.1
  have m4:=hb.1 (env++[(n.text,r2.1)]) r3.2 k ((he.less (c:=nsz b+1) (by omega)).more _ p2.2) p3
  simp only
  generalize ib (env++[(n.text,r2.1)]) r3.2=r4 at*
  simp[q1,q1',q2]
  simp[hty]
  refine gM [0,1,2,14,4,15] m2 (by simp[q2]) ?_
  simp[hk]
  refine⟨by decide,?_⟩
  refine gK [0,1,2,14,4,15] m3 ?_
  simp[hk]
  refine⟨by decide,?_⟩
  refine gN hwi ?_
  simp
  refine gK [0,1,2,19,4,15] m4 ?_
  simp
  refine⟨by decide,by decide,?_⟩
  exact fG [0,1,2,9,4,11,20,21] [6,7,8,9,10,11] (by simp[cK,zdJ,encI,encS,AV.erds,AV.erd])
 ·rw[aB q]
  have hwi:=zrG env (by omega) n.text r1.1.2
  have m4:=hb.1 (env++[(n.text,r1.1.2)]) r1.2 k ((he.less (c:=nsz b+1) (by omega)).more _ p1.2) (p1.1.less (by omega))
  generalize ib (env++[(n.text,r1.1.2)]) r1.2=r4 at*
  by_cases q1:0<n.types.length
  ·have q2:¬r1.2.e=0:=fun z=>q ⟨q1,z⟩
   have q1':(0:Int)<n.types.length:=by omega
   simp[q1,q1',q2,hk]
   refine gN hwi ?_
   simp
   refine gK [0,1,2,14,4,15] m4 ?_
   simp
   refine⟨by decide,by decide,?_⟩
   exact fG [0,1,2,9,4,11,18,19] [6,7,8,9,10,11] (by simp[cK,zdJ,encI,encS,AV.erds,AV.erd])
  ·have q1':¬(0:Int)<n.types.length:=by omega
   simp[q1,q1',hk]
   refine gN hwi ?_
   simp
   refine gK [0,1,2,14,4,15] m4 ?_
   simp
   refine⟨by decide,by decide,?_⟩
   exact fG [0,1,2,9,4,11,18,19] [6,7,8,9,10,11] (by simp[cK,zdJ,encI,encS,AV.erds,AV.erd])
end
end Go.Gr
namespace Go.Abs
def MCall.erd{P:Program}{f:FuncId}{args args':List AV}{bs:List Blk}{v:AV}{bs':List Blk}(hp:MCall P f args' bs v bs')(e:AV.erds args=args'):MCall P f args bs v bs':=by
 subst e
 exact⟨hp.1,hp.2.1,hp.2.2.1,hp.2.2.2.1,hp.2.2.2.2.1,fun h ρ w us H hG r=>hp.2.2.2.2.2 h ρ w us H hG (zas.erds r)⟩
end Go.Abs
namespace Go.Gr
open Go.Abs Go.Proofs
@[simp] theorem AV.erd_ag(l:List D):AV.erd (.ag (l.map .d))=.ag ((D.erdL l).map .d):=by
 induction l with
 |nil=>rfl
 |cons x l ih=>
  simp only[AV.erd,AV.ag.injEq,List.map_cons,D.erdL,bJ]at ih⊢
  rw[dV]
  exact⟨rfl,ih⟩
attribute [simp] Typ.erdLL
section
variable (L:Lnk)
def ziR(n:Nod)(i:Inf)(hi:PInf L n i)(t0:Typ)(env:Env)(s:CS)(k:Nat)(he:EOk env (nsz n))(hs:SOk L s (8*nsz n+1+k)):SOk L (zbl n i t0 env s).2 k:=by
 have h1:=hi env s (1+k) (he.less (by omega)) (hs.less (by omega))
 unfold zbl
 exact zbL (h1.1.less (by omega)) _ _ _ _ _
def zdA(n:Nod)(i:Inf)(hi:zcm L n i)(t0:Typ)(env:Env)(s:CS)(k:Nat)(he:EOk env (nsz n))(hs:SOk L s (8*nsz n+1+k)):
  MCall Pg 140 [.c (.ptr 0 0),.ag (n.enc.map .d),.c (.d (.sl false 5 (env.map encV))),.ag (t0.enc.map .d)] (ck6 L s) (.ag ((zbl n i t0 env s).1.enc.map .d)) (ck8 L (zbl n i t0 env s).2):=by
 refine zzp MS1 fun ts hts ok hbk c hN hp=>?_
 obtain⟨t,u,v,w,x,y,rfl⟩:=zbb hts
 have m1:=hi.1 env s (1+k) (he.less (by omega)) (hs.less (by omega))
 have p1:=hi.2 env s (1+k) (he.less (by omega)) (hs.less (by omega))
 unfold zbl
 simp only
 generalize i env s=r1 at*
 have m2:=zb6 L r1.1.1 r1.1.2 t0 n r1.2 (by have:=p1.1.sites;omega)
 generalize zaF r1.1.1 r1.1.2 t0 n.line n.col r1.2=r2 at*
 unfold zqQ
 simp
 refine gK [0,1,2,3,4,5] m1 ?_
 simp
 refine gK [0,1,2,13,4,14] m2 ?_
 simp
 exact fH [0,1,2,9,4,11,17,14] [6,7,8,9,10,11]
def fn_p(n a:Nod)(hk:n.kids=[a])(ia:Inf)(ha:PInf L a ia):PInf L n (fnC n a ia):=fun env s k he hs=>by
 have hn:nsz n=nsz a+1:=by rw[zbC,hk];simp[nszs]
 have h1:=zbt (b:=8*nsz a+1+k) (hs.less (by omega)) (n.types.getD 0 noT) n.line n.col
 unfold fnC
 simp only
 have h2:SOk L (if 1<n.types.length/\(zar (n.types.getD 0 noT) n.line n.col s).2.e=0 then zar (n.types.getD 1 noT) n.line n.col (zar (n.types.getD 0 noT) n.line n.col s).2 else(noT,(zar (n.types.getD 0 noT) n.line n.col s).2)).2 (8*nsz a+1+k):=by
  split
  ·exact(zbt h1.1 _ _ _).1
  ·exact h1.1
 generalize (if 1<n.types.length/\(zar (n.types.getD 0 noT) n.line n.col s).2.e=0 then zar (n.types.getD 1 noT) n.line n.col (zar (n.types.getD 0 noT) n.line n.col s).2 else(noT,(zar (n.types.getD 0 noT) n.line n.col s).2))=q at*
 have h3:=ha (env++[(n.text,(zar (n.types.getD 0 noT) n.line n.col s).1)]) q.2 (1+k) ((he.less (c:=nsz a+1) (by omega)).more _ h1.2) (h2.less (by omega))
 refine(zir ?_ _ _ _)
 split
 ·exact zbL (h3.1.less (by omega)) _ _ _ _ _
 ·exact h3.1.less (by omega)
def zF5(n a:Nod)(hk:n.kids=[a])(hty0:1<=n.types.length)(ia:Inf)(ha:zcm L a ia):MInf L 83 n (fnC n a ia):=fun env s k he hs=>by
 refine zDt MS1 fun ts hts ok hbk c hN hp=>?_
 obtain⟨t,u,v,w,x,y,rfl⟩:=zbb hts
 have hn:nsz n=nsz a+1:=by rw[zbC,hk];simp[nszs]
 have hel:=he.len
 have hb0:=zaG 0
 obtain⟨ta,tr,hty⟩:∃ta tr,n.types=ta::tr:=by
  match h:n.types,hty0 with
  |ta::tr,_=>exact⟨ta,tr,rfl⟩
 have e3:n.types.getD 0 noT=ta:=by rw[hty];try rfl
 unfold fnC
 simp only
 rw[e3]
 have m1:=zdx L ta n.line n.col s hs.wth
 have p1:=zbt (b:=8*nsz a+1+k) (hs.less (by omega)) ta n.line n.col
 generalize zar ta n.line n.col s=r1 at*
 have hwi:=zrG env (by omega) n.text r1.1
 have heo:EOk (env++[(n.text,r1.1)]) (nsz a):=(he.less (c:=nsz a+1) (by omega)).more _ p1.2
 unfold zvK
 cases tr with
 |nil=>
  have l1:n.types.length=1:=by rw[hty];try rfl
  rw[aB (by omega),aB (by omega)]
  have m3:=ha.1 (env++[(n.text,r1.1)]) r1.2 (1+k) heo (p1.1.less (by omega))
  simp only
  generalize ia (env++[(n.text,r1.1)]) r1.2=r3 at*
  have m4:=MCall.erd (args:=[.c (.ptr 0 0),.ag [.d (.int .i64 6),.d (.str (bs [])),.d (.sl true 1 []),.d (.sl true 4 [r1.1.enc,r3.1.2.enc])],.ag (n.enc.map .d)]) (zfp L (fnT r1.1 r3.1.2) n r3.2) (by simp[AV.erds,AV.erd,AC.erd,D.erd,D.erdL,D.erdE,fnT,zcc,zaU,zcN,encS])
  generalize zbN (fnT r1.1 r3.1.2) n.line n.col r3.2=r4 at*
  simp[hty]
  refine gK [0,1,2,3,4,5] m1 ?_
  simp
  refine⟨by decide,?_⟩
  refine gN hb0 ?_
  simp[hty,hk]
  refine gN hwi ?_
  simp
  refine gK [0,1,2,3,4,5] m3 ?_
  simp[hty]
  refine⟨by decide,?_⟩
  refine gK [0,1,2,16,4,17] m4 ?_
  simp
  refine⟨by decide,?_⟩
  exact fH [0,1,2,9,4,11,16,17] [6,7,8,9,10,11]
 | cons tb tr=>
  have l1:1<n.types.length:=by rw[hty];simp
  have l1':(1:Int)<(tr.length:Int)+1+1:=by omega
  have e4:n.types.getD 1 noT=tb:=by rw[hty];try rfl
  rw[e4,aC l1]
  by_cases q2:r1.2.e=0
  ·rw[aC ⟨l1,q2⟩]
   have m2:=zdx L tb n.line n.col r1.2 p1.1.wth
   have p2:=zbt p1.1 tb n.line n.col
   generalize zar tb n.line n.col r1.2=r2 at*
   have m3:=ha.1 (env++[(n.text,r1.1)]) r2.2 (1+k) heo (p2.1.less (by omega))
   have p3:=ha.2 (env++[(n.text,r1.1)]) r2.2 (1+k) heo (p2.1.less (by omega))
   generalize ia (env++[(n.text,r1.1)]) r2.2=r3 at*
   have m4:=zb6 L r3.1.1 r3.1.2 r2.1 a r3.2 (by have:=p3.1.sites;omega)
   generalize zaF r3.1.1 r3.1.2 r2.1 a.line a.col r3.2=r4 at*
   have m5:=MCall.erd (args:=[.c (.ptr 0 0),.ag [.d (.int .i64 6),.d (.str (bs [])),.d (.sl true 1 []),.d (.sl true 4 [r1.1.enc,r2.1.enc])],.ag (n.enc.map .d)]) (zfp L (fnT r1.1 r2.1) n r4.2) (by simp[AV.erds,AV.erd,AC.erd,D.erd,D.erdL,D.erdE,fnT,zcc,zaU,zcN,encS])
   simp only
   generalize zbN (fnT r1.1 r2.1) n.line n.col r4.2=r5 at*
   simp[hty]
   refine gK [0,1,2,3,4,5] m1 ?_
   simp
   refine⟨by decide,?_⟩
   refine gN hb0 ?_
   simp[hty,q2,l1']
   refine gM [0,1,2,3,4,5] m2 (by simp[q2]) ?_
   simp[hk]
   refine⟨by decide,?_⟩
   refine gN hwi ?_
   simp
   refine gK [0,1,2,3,4,5] m3 ?_
   simp[hty,l1',hk]
   refine⟨by decide,?_⟩
   refine gK [0,1,2,16,4,17] m4 ?_
   simp
   refine⟨by decide,?_⟩
   refine gK [0,1,2,20,4,17] m5 ?_
   simp
   refine⟨by decide,?_⟩
   exact fH [0,1,2,9,4,11,20,17] [6,7,8,9,10,11]
  ·rw[aB (fun z=>q2 z.2)]
   have m3:=ha.1 (env++[(n.text,r1.1)]) r1.2 (1+k) heo (p1.1.less (by omega))
   have p3:=ha.2 (env++[(n.text,r1.1)]) r1.2 (1+k) heo (p1.1.less (by omega))
   generalize ia (env++[(n.text,r1.1)]) r1.2=r3 at*
   have m4:=MCall.erd (args:=[.c (.ptr 0 0),.ag (r3.1.1.enc.map .d),.ag (r3.1.2.enc.map .d),.ag (noT.enc.map .d),.ag (a.enc.map .d)]) (zb6 L r3.1.1 r3.1.2 noT a r3.2 (by have:=p3.1.sites;omega)) (by simp[AV.erds,AV.erd,AC.erd,D.erd,D.erdL,D.erdE,fnT,zcc,zaU,zcN,encS])
   generalize zaF r3.1.1 r3.1.2 noT a.line a.col r3.2=r4 at*
   have m5:=MCall.erd (args:=[.c (.ptr 0 0),.ag [.d (.int .i64 6),.d (.str (bs [])),.d (.sl true 1 []),.d (.sl true 4 [r1.1.enc,noT.enc])],.ag (n.enc.map .d)]) (zfp L (fnT r1.1 noT) n r4.2) (by simp[AV.erds,AV.erd,AC.erd,D.erd,D.erdL,D.erdE,fnT,zcc,zaU,zcN,encS])
   simp only
   generalize zbN (fnT r1.1 noT) n.line n.col r4.2=r5 at*
   simp[hty]
   refine gK [0,1,2,3,4,5] m1 ?_
   simp
   refine⟨by decide,?_⟩
   refine gN hb0 ?_
   simp[hty,q2,l1',hk]
   refine gN hwi ?_
   simp
   refine gK [0,1,2,3,4,5] m3 ?_
   simp[hty,l1',hk]
   refine⟨by decide,?_⟩
   refine gM [0,1,2,16,4,17] m4 (by simp[noT,bT]) ?_
   simp
   refine⟨by decide,?_⟩
   refine gM [0,1,2,20,4,17] m5 (by simp[noT,bT]) ?_
   simp
   refine⟨by decide,?_⟩
   exact fH [0,1,2,9,4,11,20,17] [6,7,8,9,10,11]
def zrv{L:Lnk}{b:Nat}(t0:Typ)(h0:wfT t0)(ln cl:Int)(r:(Cor × Typ) × CS)(hs:SOk L r.2 (b+1))(ht:wfT r.1.2):SOk L (anyC t0 ln cl r).2 b/\wfT (anyC t0 ln cl r).1.2:=by
 unfold anyC
 split
 ·exact⟨zgx hs _ _ _ _ _,h0⟩
 ·exact⟨hs.less (by omega),ht⟩
def zF6{a b:Typ}(ha:wfT a)(hb:wfT b):wfT (fnT a b):=(zaQ _).2 ⟨rfl,fun x hx=>by
 have hx:x∈[a,b]:=hx
 simp at hx
 rcases hx with rfl|rfl
 ·exact ha
 ·exact hb,.inr (.inr (.inl ⟨rfl,rfl,rfl⟩))⟩
def zF7(n a b:Nod)(hk:n.kids=[a,b])(ia ib:Inf)(ha:PInf L a ia)(hb:PInf L b ib):PInf L n (zeP n b ia ib):=fun env s k he hs=>by
 have hn:nsz n=nsz a+nsz b+1:=by rw[zbC,hk];simp[nszs]
 have h1:=ha env s (2+8*nsz b+k) (he.less (by omega)) (hs.less (by omega))
 have h2:=zrv (b:=8*nsz b+1+k) (fnT noT noT) (zF6 zbP zbP) n.line n.col (ia env s) (h1.1.less (by omega)) h1.2
 unfold zeP
 simp only
 generalize anyC (fnT noT noT) n.line n.col (ia env s)=r at*
 by_cases q:r.1.2.kind≠6
 ·rw[aC q]
  exact⟨zb0 (h2.1.less (by omega)) _ _ _,zbP⟩
 ·rw[aB q]
  have h3:=hb env r.2 (1+k) (he.less (by omega)) (h2.1.less (by omega))
  have hl:=zjT h2.2 (by omega)
  exact⟨zbL (h3.1.less (by omega)) _ _ _ _ _,zdZ h2.2 (zit hl).1⟩
theorem zDl(n a b:Nod)(hk:n.kids=[a,b])(ia ib:Inf)(ha:zcm L a ia)(hb:zcm L b ib):MInf L 84 n (zeP n b ia ib):=fun env s k he hs=>by
 refine zzo MS1 fun ts hts ok hbk c hN hp=>?_
 obtain⟨t,u,v,w,x,y,rfl⟩:=zbb hts
 have hn:nsz n=nsz a+nsz b+1:=by rw[zbC,hk];simp[nszs]
 have hb0:=zaG 0
 have m1:=ha.1 env s (2+8*nsz b+k) (he.less (by omega)) (hs.less (by omega))
 have p1:=ha.2 env s (2+8*nsz b+k) (he.less (by omega)) (hs.less (by omega))
 unfold zeP
 simp only
 generalize ia env s=r1 at*
 unfold zqP
 by_cases t0:r1.1.2.kind=0
 ·have e1:anyC (fnT noT noT) n.line n.col r1=(((za8 r1.1.1 r1.1.2 (fnT noT noT) n.line n.col r1.2).1,fnT noT noT),(za8 r1.1.1 r1.1.2 (fnT noT noT) n.line n.col r1.2).2):=by unfold anyC;rw[aC t0]
  rw[e1]
  have m2:=MCall.erd (args:=[.c (.ptr 0 0),.ag (r1.1.1.enc.map .d),.ag (r1.1.2.enc.map .d),.ag [.d (.int .i64 6),.d (.str (bs [])),.d (.sl true 1 []),.d (.sl true 4 [[.int .i64 0,.str (bs []),.sl true 1 [],.sl true 4 []],[.int .i64 0,.str (bs []),.sl true 1 [],.sl true 4 []]])],.ag (n.enc.map .d)]) (zgv L r1.1.1 r1.1.2 (fnT noT noT) n r1.2 (by have:=p1.1.sites;omega)) (by simp[AV.erds,AV.erd,AC.erd,D.erd,D.erdL,D.erdE,fnT,zcc,zaU,zcN,encS])
  have p2:=zgx (b:=8*nsz b+1+k) (p1.1.less (by omega)) r1.1.1 r1.1.2 (fnT noT noT) n.line n.col
  generalize za8 r1.1.1 r1.1.2 (fnT noT noT) n.line n.col r1.2=r2 at*
  have m3:=hb.1 env r2.2 (1+k) (he.less (by omega)) (p2.less (by omega))
  have p3:=hb.2 env r2.2 (1+k) (he.less (by omega)) (p2.less (by omega))
  simp only
  generalize ib env r2.2=r3 at*
  have k6:¬(fnT noT noT).kind≠6:=by decide
  rw[aB k6]
  have kk0:kid0 (fnT noT noT)=noT:=rfl
  have kk1:kid1 (fnT noT noT)=noT:=rfl
  rw[kk0,kk1]
  have m4:=MCall.erd (args:=[.c (.ptr 0 0),.ag (r3.1.1.enc.map .d),.ag (r3.1.2.enc.map .d),.ag [.d (.int .i64 0),.d (.str (bs [])),.d (.sl true 1 []),.d (.sl true 4 [])],.ag (b.enc.map .d)]) (zb6 L r3.1.1 r3.1.2 noT b r3.2 (by have:=p3.1.sites;omega)) (by simp[AV.erds,AV.erd,AC.erd,D.erd,D.erdL,D.erdE,fnT,zcc,zaU,zcN,encS])
  generalize zaF r3.1.1 r3.1.2 noT b.line b.col r3.2=r4 at*
  simp[hk]
  refine gK [0,1,2,3,4,5] m1 ?_
  simp[t0]
  refine gK [0,1,2,14,4,15] m2 ?_
  simp[hk]
  refine gK [0,1,2,19,4,15] m3 ?_
  simp[hk]
  refine gK [0,1,2,20,4,21] m4 ?_
  simp
  refine⟨by decide,by decide,?_⟩
  exact fH [0,1,2,9,4,11,24,21] [6,7,8,9,10,11]
 have e1:anyC (fnT noT noT) n.line n.col r1=r1:=by unfold anyC;rw[aB t0]
 rw[e1]
 by_cases k6:r1.1.2.kind=6
 rotate_left
 ·rw[aC k6]
  have m2:=zc0 L n 16 r1.2
  generalize zaW n.line n.col 16 r1.2=r2 at*
  simp[hk]
  refine gK [0,1,2,3,4,5] m1 ?_
  simp[t0,k6]
  refine gK [0,1,2,14,4,15] m2 ?_
  simp
  refine gN hb0 ?_
  simp
  exact fH [0,1,2,9,4,11,14,15] [6,7,8,9,10,11]
 rw[aB (fun z=>z k6)]
 obtain⟨ta,tb,hty⟩:=zpt (zjT p1.2 k6)
 have kk0:kid0 r1.1.2=ta:=by unfold kid0;rw[hty];try rfl
 have kk1:kid1 r1.1.2=tb:=by unfold kid1;rw[hty];try rfl
 rw[kk0,kk1]
 have m3:=hb.1 env r1.2 (1+k) (he.less (by omega)) (p1.1.less (by omega))
 have p3:=hb.2 env r1.2 (1+k) (he.less (by omega)) (p1.1.less (by omega))
 generalize ib env r1.2=r3 at*
 have m4:=zb6 L r3.1.1 r3.1.2 ta b r3.2 (by have:=p3.1.sites;omega)
 simp only
 generalize zaF r3.1.1 r3.1.2 ta b.line b.col r3.2=r4 at*
 simp[hk]
 refine gK [0,1,2,3,4,5] m1 ?_
 simp[t0,k6,hk]
 refine gK [0,1,2,14,4,15] m3 ?_
 simp[hty,hk]
 refine gK [0,1,2,18,4,19] m4 ?_
 simp[hty]
 refine⟨by decide,by decide,?_⟩
 exact fH [0,1,2,9,4,11,22,19] [6,7,8,9,10,11]
def zGO(n a:Nod)(hk:n.kids=[a])(ia:Inf)(ha:PInf L a ia):PInf L n (selC n ia):=fun env s k he hs=>by
 have hn:nsz n=nsz a+1:=by rw[zbC,hk];simp[nszs]
 have h1:=ha env s (1+k) (he.less (by omega)) (hs.less (by omega))
 unfold selC
 simp only
 generalize ia env s=r at*
 have hf:wfT (zaD r.1.2 n.text).1:=by
  by_cases q:(zaD r.1.2 n.text).2=true
  ·exact zdZ h1.2 (zhJ _ _ _ q)
  ·have:(zaD r.1.2 n.text).1=noT:=by
    unfold zaD at q⊢
    generalize r.1.2.names=ns at*
    generalize r.1.2.kids=ks at*
    clear h1
    induction ns generalizing ks with
    |nil=>rw[za3];all_goals (intros;contradiction)
    | cons x ns ih=>
     cases ks with
     |nil=>rw[za3];all_goals (intros;contradiction)
     |cons y ks=>
      rw[za3]at q⊢
      by_cases e:x=n.text
      ·rw[aC e]at q;exact absurd rfl q
      ·rw[aB e]at q⊢;exact ih ks q
   rw[this];exact zbP
 refine⟨?_,hf⟩
 have h2:SOk L (if r.1.2.kind=0 then za8 r.1.1 r.1.2 (.mk 5 (bs []) [n.text] [noT]) n.line n.col r.2 else(r.1.1,r.2)).2 k:=by
  split
  ·exact zgx (h1.1.less (by omega)) _ _ _ _ _
  ·exact h1.1.less (by omega)
 split
 ·exact h2
 ·exact zb0 h2 _ _ _
def zE0(n a:Nod)(hk:n.kids=[a])(ia:Inf)(ha:zcm L a ia):MInf L 86 n (selC n ia):=fun env s k he hs=>by
 refine zBu MS1 fun ts hts ok hbk c hN hp=>?_
 obtain⟨t,u,v,w,x,y,rfl⟩:=zbb hts
 have hn:nsz n=nsz a+1:=by rw[zbC,hk];simp[nszs]
 have m1:=ha.1 env s (1+k) (he.less (by omega)) (hs.less (by omega))
 have p1:=ha.2 env s (1+k) (he.less (by omega)) (hs.less (by omega))
 unfold selC
 simp only
 generalize ia env s=r1 at*
 have hf:=zui r1.1.2 n.text (zyz p1.2)
 generalize hfr:zaD r1.1.2 n.text=f at*
 unfold zsQ
 by_cases t0:r1.1.2.kind=0
 ·rw[aC t0,aC (.inr t0)]
  have m2:=MCall.erd (args:=[.c (.ptr 0 0),.ag (r1.1.1.enc.map .d),.ag (r1.1.2.enc.map .d),.ag [.d (.int .i64 5),.d (.str (bs [])),.d (.sl true 1 [[.str n.text]]),.d (.sl true 4 [[.int .i64 0,.str (bs []),.sl true 1 [],.sl true 4 []]])],.ag (n.enc.map .d)]) (zgv L r1.1.1 r1.1.2 (.mk 5 (bs []) [n.text] [noT]) n r1.2 (by have:=p1.1.sites;omega)) (by simp[AV.erds,AV.erd,AC.erd,D.erd,D.erdL,D.erdE,fnT,zcc,zaU,zcN,encS])
  generalize za8 r1.1.1 r1.1.2 (.mk 5 (bs []) [n.text] [noT]) n.line n.col r1.2=r2 at*
  simp[hk]
  refine gK [0,1,2,3,4,5] m1 ?_
  simp
  refine gN hf ?_
  simp[t0]
  refine gK [0,1,2,14,4,15] m2 ?_
  simp
  refine⟨by decide,?_⟩
  exact fH [0,1,2,9,4,11,20,15] [6,7,8,9,10,11]
 ·rw[aB t0]
  by_cases f2:f.2=true
  ·rw[aC (.inl f2)]
   simp[hk]
   refine gK [0,1,2,3,4,5] m1 ?_
   simp
   refine gN hf ?_
   simp[t0,f2]
   refine⟨by decide,?_⟩
   exact fH [0,1,2,9,4,11,14,15] [6,7,8,9,10,11]
  ·rw[aB (by simp[f2,t0])]
   have m2:=zc0 L n 17 r1.2
   simp only
   generalize zaW n.line n.col 17 r1.2=r2 at*
   simp[hk]
   refine gK [0,1,2,3,4,5] m1 ?_
   simp
   refine gN hf ?_
   simp[t0,f2]
   refine gK [0,1,2,14,4,15] m2 ?_
   simp
   refine⟨by decide,?_⟩
   exact fH [0,1,2,9,4,11,14,15] [6,7,8,9,10,11]
end
end Go.Gr
namespace Go.Gr
open Go.Abs Go.Proofs
section
variable (L:Lnk)
def as_p(n a:Nod)(hk:n.kids=[a])(ia:Inf)(ha:PInf L a ia):PInf L n (asC n ia):=fun env s k he hs=>by
 have hn:nsz n=nsz a+1:=by rw[zbC,hk];simp[nszs]
 have h1:=ha env s (2+k) (he.less (by omega)) (hs.less (by omega))
 unfold asC
 simp only
 generalize ia env s=r at*
 by_cases q1:r.2.e≠0
 ·rw[aC q1];exact⟨h1.1.less (by omega),h1.2⟩
 rw[aB q1]
 have h2:=zbt h1.1 (n.types.getD 0 noT) n.line n.col
 generalize zar (n.types.getD 0 noT) n.line n.col r.2=u at*
 by_cases q2:u.2.e≠0\/SubR r.1.2 u.1=true
 ·rw[aC q2];exact⟨h2.1.less (by omega),h2.2⟩
 rw[aB q2]
 have h3:SOk L (if r.1.2.kind≠0 then za8 r.1.1 r.1.2 noT n.line n.col u.2 else(r.1.1,u.2)).2 (1+k):=by
  split
  ·exact zgx (h2.1.less (by omega)) _ _ _ _ _
  ·exact h2.1.less (by omega)
 generalize (if r.1.2.kind≠0 then za8 r.1.1 r.1.2 noT n.line n.col u.2 else(r.1.1,u.2))=y at*
 split
 ·exact⟨h3.less (by omega),h2.2⟩
 split
 ·exact⟨zgx (h3.less (by omega)) _ _ _ _ _,h2.2⟩
 ·exact⟨h3.less (by omega),h2.2⟩
@[simp] theorem Cor.enc_1(c:Cor):c.enc[1]?=some (.int .i64 c.n):=by rw[c.enc_eq];try rfl
@[simp] theorem Cor.enc_g1(c:Cor)(h:1<c.enc.length):c.enc[1]=.int .i64 c.n:=zfV c.enc_1 h
def zFN(n a:Nod)(hk:n.kids=[a])(hty0:1<=n.types.length)(ia:Inf)(ha:zcm L a ia):MInf L 89 n (asC n ia):=fun env s k he hs=>by
 refine zDu MS1 fun ts hts ok hbk c hN hp=>?_
 obtain⟨t,u,v,w,x,y,rfl⟩:=zbb hts
 have hn:nsz n=nsz a+1:=by rw[zbC,hk];simp[nszs]
 have hb0:=zaG 0
 obtain⟨ta,tr,hty⟩:∃ta tr,n.types=ta::tr:=by
  match h:n.types,hty0 with
  |ta::tr,_=>exact⟨ta,tr,rfl⟩
 have e3:n.types.getD 0 noT=ta:=by rw[hty];try rfl
 have m1:=ha.1 env s (2+k) (he.less (by omega)) (hs.less (by omega))
 have p1:=ha.2 env s (2+k) (he.less (by omega)) (hs.less (by omega))
 unfold asC
 simp only
 rw[e3]
 generalize ia env s=r1 at*
 unfold zvN
 by_cases q1:r1.2.e=0
 rotate_left
 ·rw[aC q1]
  simp[hk]
  refine gK [0,1,2,3,4,5] m1 ?_
  simp[q1]
  refine⟨by decide,?_⟩
  exact fH [0,1,2,9,4,11,14,15] [6,7,8,9,10,11]
 rw[aB (by simp[q1])]
 have m2:=zdx L ta n.line n.col r1.2 p1.1.wth
 have p2:=zbt p1.1 ta n.line n.col
 generalize zar ta n.line n.col r1.2=r2 at*
 have hsb:=zmn r1.1.2 r2.1
 by_cases q2:r2.2.e=0
 rotate_left
 ·rw[aC (.inl q2)]
  simp[hk]
  refine gK [0,1,2,3,4,5] m1 ?_
  simp[q1,hty]
  refine gM [0,1,2,14,4,15] m2 (by simp[q1]) ?_
  simp[q2]
  refine⟨by decide,by decide,?_⟩
  exact fH [0,1,2,9,4,11,14,15] [6,7,8,9,10,11]
 by_cases q3:SubR r1.1.2 r2.1=true
 ·rw[aC (.inr q3)]
  simp[hk]
  refine gK [0,1,2,3,4,5] m1 ?_
  simp[q1,hty]
  refine gM [0,1,2,14,4,15] m2 (by simp[q1]) ?_
  simp[q2]
  refine⟨by decide,?_⟩
  refine gN hsb ?_
  simp[q3]
  refine⟨by decide,?_⟩
  exact fG [0,1,2,9,4,11,14,15] [6,7,8,9,10,11] (by simp[q2,cK,cN,cT,zdJ,zcc,fnT,zcN,zaU,noC,encI,encS,AV.erds,AV.erd,D.erdL,D.erd,D.erdE,kid0,kid1])
 rw[aB (by simp[q2,q3])]
 by_cases t0:r1.1.2.kind=0
 ·have ty0:(if r1.1.2.kind≠0 then za8 r1.1.1 r1.1.2 noT n.line n.col r2.2 else(r1.1.1,r2.2))=(r1.1.1,r2.2):=aB (fun z=>z t0)
  rw[ty0]
  by_cases u0:r2.1.kind=0
  ·rw[aC u0]
   simp[hk]
   refine gK [0,1,2,3,4,5] m1 ?_
   simp[q1,hty]
   refine gM [0,1,2,14,4,15] m2 (by simp[q1]) ?_
   simp[q2]
   refine⟨by decide,?_⟩
   refine gN hsb ?_
   simp[q3,t0,u0]
   refine⟨by decide,?_⟩
   exact fG [0,1,2,9,4,11,14,15] [6,7,8,9,10,11] (by simp[q2,cK,cN,cT,zdJ,zcc,fnT,zcN,zaU,noC,encI,encS,AV.erds,AV.erd,D.erdL,D.erd,D.erdE,kid0,kid1])
  ·rw[aB u0,aC t0]
   have m3:=zgv L r1.1.1 r1.1.2 r2.1 n r2.2 (by have:=p2.1.sites;omega)
   simp only
   generalize za8 r1.1.1 r1.1.2 r2.1 n.line n.col r2.2=r3 at*
   simp[hk]
   refine gK [0,1,2,3,4,5] m1 ?_
   simp[q1,hty]
   refine gM [0,1,2,14,4,15] m2 (by simp[q1]) ?_
   simp[q2]
   refine⟨by decide,?_⟩
   refine gN hsb ?_
   simp[q3,t0,u0]
   refine gM [0,1,2,14,4,15] m3 (by simp[q2,t0]) ?_
   simp
   refine⟨by decide,?_⟩
   exact fH [0,1,2,9,4,11,20,15] [6,7,8,9,10,11]
 ·have ty0:(if r1.1.2.kind≠0 then za8 r1.1.1 r1.1.2 noT n.line n.col r2.2 else(r1.1.1,r2.2))=za8 r1.1.1 r1.1.2 noT n.line n.col r2.2:=aC t0
  rw[ty0]
  have m3:=zgv L r1.1.1 r1.1.2 noT n r2.2 (by have:=p2.1.sites;omega)
  generalize za8 r1.1.1 r1.1.2 noT n.line n.col r2.2=r3 at*
  by_cases u0:r2.1.kind=0
  ·rw[aC u0]
   simp[hk]
   refine gK [0,1,2,3,4,5] m1 ?_
   simp[q1,hty]
   refine gM [0,1,2,14,4,15] m2 (by simp[q1]) ?_
   simp[q2]
   refine⟨by decide,?_⟩
   refine gN hsb ?_
   simp[q3,t0]
   refine gN hb0 ?_
   simp
   refine gM [0,1,2,14,4,15] m3 (by simp[q2,noT,bT]) ?_
   simp[u0]
   refine⟨by decide,by decide,?_⟩
   exact fH [0,1,2,9,4,11,20,15] [6,7,8,9,10,11]
  ·rw[aB u0,aB t0]
   simp[hk]
   refine gK [0,1,2,3,4,5] m1 ?_
   simp[q1,hty]
   refine gM [0,1,2,14,4,15] m2 (by simp[q1]) ?_
   simp[q2]
   refine⟨by decide,?_⟩
   refine gN hsb ?_
   simp[q3,t0]
   refine gN hb0 ?_
   simp
   refine gM [0,1,2,14,4,15] m3 (by simp[q2,noT,bT]) ?_
   simp[u0,t0]
   refine⟨by decide,by decide,?_⟩
   exact fH [0,1,2,9,4,11,20,15] [6,7,8,9,10,11]
def zGB(n a:Nod)(hk:n.kids=[a])(ia:Inf)(ha:PInf L a ia):PInf L n (oneC n a ia):=fun env s k he hs=>by
 have hn:nsz n=nsz a+1:=by rw[zbC,hk];simp[nszs]
 have h1:=ha env s k (he.less (by omega)) (hs.less (by omega))
 have hw:=fun t0=>ziR L a ia ha t0 env s k (he.less (by omega)) (hs.less (by omega))
 unfold oneC
 split
 ·exact⟨hw _,zcp 2 (by omega) (by omega)⟩
 split
 ·exact⟨hw _,zcp 3 (by omega) (by omega)⟩
 split
 ·exact⟨h1.1,zcp 2 (by omega) (by omega)⟩
 ·exact⟨h1.1,zcp 1 (by omega) (by omega)⟩
def zEJ(n a:Nod)(hk:n.kids=[a])(ia:Inf)(ha:zcm L a ia):MInf L 91 n (oneC n a ia):=fun env s k he hs=>by
 refine zBv MS1 fun ts hts ok hbk c hN hp=>?_
 obtain⟨t,u,v,w,x,y,rfl⟩:=zbb hts
 have hn:nsz n=nsz a+1:=by rw[zbC,hk];simp[nszs]
 unfold oneC
 unfold zsR
 by_cases k15:n.kind=15
 ·rw[aC k15]
  have m1:=zdA L a ia ha (bT 2) env s k (he.less (by omega)) (hs.less (by omega))
  simp only
  generalize zbl a ia (bT 2) env s=r1 at*
  simp[k15,hk]
  refine gN (zaG 2) ?_
  simp
  refine gK [0,1,2,3,4,5] m1 ?_
  simp
  refine⟨by decide,?_⟩
  refine gN (zaG 2) ?_
  simp
  refine⟨by decide,?_⟩
  exact fH [0,1,2,9,4,11,14,15] [6,7,8,9,10,11]
 rw[aB k15]
 by_cases k16:n.kind=16
 ·rw[aC k16]
  have m1:=zdA L a ia ha (bT 3) env s k (he.less (by omega)) (hs.less (by omega))
  simp only
  generalize zbl a ia (bT 3) env s=r1 at*
  simp[k16,hk]
  refine gN (zaG 3) ?_
  simp
  refine gK [0,1,2,3,4,5] m1 ?_
  simp
  refine⟨by decide,?_⟩
  refine gN (zaG 3) ?_
  simp
  refine⟨by decide,?_⟩
  exact fH [0,1,2,9,4,11,14,15] [6,7,8,9,10,11]
 rw[aB k16]
 have m1:=ha.1 env s k (he.less (by omega)) (hs.less (by omega))
 generalize ia env s=r1 at*
 by_cases k12:n.kind=12
 ·rw[aC k12]
  simp[k12,hk]
  refine gK [0,1,2,3,4,5] m1 ?_
  simp
  refine gN (zaG 2) ?_
  simp
  refine⟨by decide,?_⟩
  exact fH [0,1,2,9,4,11,14,15] [6,7,8,9,10,11]
 ·rw[aB k12]
  simp[k15,k16,k12,hk]
  refine gK [0,1,2,3,4,5] m1 ?_
  simp
  refine gN (zaG 1) ?_
  simp
  refine⟨by decide,?_⟩
  exact fH [0,1,2,9,4,11,14,15] [6,7,8,9,10,11]
end
end Go.Gr
