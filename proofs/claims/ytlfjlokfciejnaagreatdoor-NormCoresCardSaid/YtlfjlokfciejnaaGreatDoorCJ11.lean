/- Texts of ours, joined and written short by a program of ours. -/
import Derived.Test.YtlfjlokfciejnaaGreatDoorCJ09
import Derived.Test.YtlfjlokfciejnaaGreatDoorCJ10
set_option maxRecDepth 20000
set_option maxHeartbeats 4000000
set_option linter.unusedVariables false
set_option linter.unusedSimpArgs false
namespace Go.Gr
open Go.Abs Go.Proofs
def Nj:MC:=(λx(_:x=gC tt [(7,1)] [(7,[0,0,3,7,0,16,63])] [] (iO 0 (gB Tryz.f131)))=>x) _ (by dsimp[Tryz.f131])
def Nk:MC:=(λx(_:x=gC tt [(9,131),(7,1)] [] [] (iO 2 (gB Tryz.f131)))=>x) _ (by dsimp[Tryz.f131])
def Nl:MC:=(λx(_:x=gC tt [(0,3),(6,2),(7,1)] [] [(0,Nj),(2,Nk)] (gB Tryz.f131))=>x) _ (by dsimp[Tryz.f131])
theorem WL:WM Pg 131 73 Nl [.cell 6 true 4,.tmp 7]:=wM iC Tryz.func131 (by kernel_rfl)
def Nn:MC:=(λx(_:x=gC tt [(9,131)] [] [] (gB Tryz.f78))=>x) _ (by dsimp[Tryz.f78])
theorem WN:WM Pg 78 39 Nn [.cell 6 true 4,.tmp 7]:=wM iC Tryz.func78 (by kernel_rfl)
def WO:MC:=(λx(_:x=gC tt [(9,78)] [(11,[0,0,3,7,15,0,0,0,192,511,1023,2047,2047,0,12287,32767]),(12,[0,0,3,7,0,31,63])] [] (iO 0 (gB Tryz.f136)))=>x) _ (by dsimp[Tryz.f136])
def WP:MC:=(λx(_:x=gC tt [(6,0)] [] [(0,WO)] (gB Tryz.f136))=>x) _ (by dsimp[Tryz.f136])
theorem zD3:WT Pg 136 69 WP [.tmp 4]:=wT iC Tryz.func136 (by kernel_rfl)
def WQ:MC:=(λx(_:x=gC tt [] [(6,[0,1,0,7,15,0,32,0,224,480,1023,2047])] [] (iO 0 (gB Tryz.f51)))=>x) _ (by dsimp[Tryz.f51])
def WR:MC:=(λx(_:x=gC tt [] [] [(0,WQ)] (gB Tryz.f51))=>x) _ (by dsimp[Tryz.f51])
theorem zD4:WT Pg 51 48 WR [.tmp 4]:=wT iC Tryz.func51 (by kernel_rfl)
def WS:MC:=(λx(_:x=gC tt [] [] [] (iO 0 (gB Tryz.f33)))=>x) _ (by dsimp[Tryz.f33])
def WU:MC:=(λx(_:x=gC tt [] [(10,[0,1,3,7,0,31,63,0,255,511])] [] (iO 2 (gB Tryz.f33)))=>x) _ (by dsimp[Tryz.f33])
def WV:MC:=(λx(_:x=gC tt [] [(13,[0,1,3,7,15,0,32,96,224,511]),(15,[0,0,2,6,14,0,32,126,255,511,1023])] [(0,WS),(2,WU)] (gB Tryz.f33))=>x) _ (by dsimp[Tryz.f33])
theorem zxy:WM Pg 33 71 WV [.tmp 4,.tmp 5]:=wM iC Tryz.func33 (by kernel_rfl)
def WW:MC:=(λx(_:x=gC tt [] [] [] (gB Tryz.f56))=>x) _ (by dsimp[Tryz.f56])
theorem zD5:WT Pg 56 5 WW [.cell 2 true 4]:=wT iC Tryz.func56 (by kernel_rfl)
def WX:MC:=(λx(_:x=gC tt [] [] [] (iO 0 (gB Tryz.f52)))=>x) _ (by dsimp[Tryz.f52])
def WY:MC:=(λx(_:x=gC tt [(6,0)] [] [(0,WX)] (gB Tryz.f52))=>x) _ (by dsimp[Tryz.f52])
theorem zD6:WT Pg 52 22 WY [.tmp 2]:=wT iC Tryz.func52 (by kernel_rfl)
def WZ:MC:=(λx(_:x=gC tt [] [] [] (iO 0 (gB Tryz.f134)))=>x) _ (by dsimp[Tryz.f134])
def W9:MC:=(λx(_:x=gC tt [] [] [(0,WZ)] (gB Tryz.f134))=>x) _ (by dsimp[Tryz.f134])
theorem zD7:WT Pg 134 21 W9 [.tmp 4]:=wT iC Tryz.func134 (by kernel_rfl)
def Wd:MC:=(λx(_:x=gC tt [] [(1,[0,1,0,0,12,28,63,127])] [] (gB Tryz.f137))=>x) _ (by dsimp[Tryz.f137])
theorem zD8:WT Pg 137 14 Wd [.tmp 6]:=wT iC Tryz.func137 (by kernel_rfl)
def We:MC:=(λx(_:x=gC tt [] [] [] (gB Tryz.f79))=>x) _ (by dsimp[Tryz.f79])
theorem zle:WM Pg 79 25 We []:=wM iC Tryz.func79 (by kernel_rfl)
def Wh:MC:=(λx(_:x=gC tt [(9,79)] [] [] (gB Tryz.f57))=>x) _ (by dsimp[Tryz.f57])
theorem zm5:WM Pg 57 13 Wh []:=wM iC Tryz.func57 (by kernel_rfl)
def Wi:MC:=(λx(_:x=gC tt [(9,78),(9,79)] [(1,[0,0,2,6,14,0,32,96,224,511,1023,2047,2047,0,12287,32767])] [] (gB Tryz.f53))=>x) _ (by dsimp[Tryz.f53])
theorem zAa:WM Pg 53 31 Wi [.cell 8 true 4]:=wM iC Tryz.func53 (by kernel_rfl)
def Wj:MC:=(λx(_:x=gC tt [(9,57)] [] [] (gB Tryz.f54))=>x) _ (by dsimp[Tryz.f54])
theorem zD9:WM Pg 54 20 Wj [.cell 6 true 4]:=wM iC Tryz.func54 (by kernel_rfl)
def Wl:MC:=(λx(_:x=gC tt [] [(3,[0,0,2,6,14,30,0,64,192,448,0,1024,0,4096,16320,32704,65534,131071,262143,524287,1048575]),(4,[0,1,3,7,15,31,63,0,0,384,0,1024,4095,8191])] [] (gB Tryz.f93))=>x) _ (by dsimp[Tryz.f93])
theorem zEa:WM Pg 93 50 Wl [.cell 10 true 8]:=wM iC Tryz.func93 (by kernel_rfl)
def Wm:MC:=(λx(_:x=gC tt [(9,93),(9,57)] [] [] (gB Tryz.f59))=>x) _ (by dsimp[Tryz.f59])
theorem zBF:WM Pg 59 34 Wm [.cell 10 true 8]:=wM iC Tryz.func59 (by kernel_rfl)
def Wn:MC:=(λx(_:x=gC tt [(9,78)] [(1,[0,1,3,7,15,0,32,127,255,511,0,1024,4095,8191,0,32767])] [] (gB Tryz.f164))=>x) _ (by dsimp[Tryz.f164])
theorem zyD:WM Pg 164 71 Wn [.cell 6 true 4,.tmp 7]:=wM iC Tryz.func164 (by kernel_rfl)
def Wo:MC:=(λx(_:x=gC tt [(9,164),(9,57),(9,33)] [(5,[0,1,3,7,0,16,0,64,0,496,1023,2047,4095,4095,8191,32767]),(8,[0,1,0,3,15])] [] (gB Tryz.f135))=>x) _ (by dsimp[Tryz.f135])
theorem zBG:WM Pg 135 51 Wo [.cell 8 true 8,.cell 9 true 4]:=wM iC Tryz.func135 (by kernel_rfl)
def Wp:MC:=(λx(_:x=gC tt [(9,53)] [(22,[0,0,2,0,14,30,0,64,0,256,1023,0,4095])] [] (iO 0 (gB Tryz.f81)))=>x) _ (by dsimp[Tryz.f81])
def Wq:MC:=(λx(_:x=gC tt [(9,57),(9,135),(4,146),(6,0)] [(2,[0,1,3,7,15,0,32,96,224,511,1023,0,2048,8191,16383,32767,32767,0,196607,524287]),(5,[0,1,0,0,12,28,60,3,255]),(8,[0,0,3,7]),(11,[0,0,3,7]),(12,[0,1,3,7,15,0,32,127,255,511,0,1024,4095,8191,0,32767]),(15,[0,0,3,7]),(25,[0,0,3,7]),(29,[0,0,3,7])] [(0,Wp)] (gB Tryz.f81))=>x) _ (by dsimp[Tryz.f81])
theorem zCo:WM Pg 81 162 Wq [.cell 6 true 8,.cell 7 true 4]:=wM iC Tryz.func81 (by kernel_rfl)
def nZ:MC:=(λx(_:x=gC tt [(9,81),(9,82),(9,83),(9,84),(9,85),(9,86),(9,87),(9,88),(9,89),(9,90),(9,91)] [(5,[0,1,3,0,15,31]),(7,[0,1,3,0,15,31]),(9,[0,1,3,0,15,31])] [] (gB Tryz.f58))=>x) _ (by dsimp[Tryz.f58])
theorem vF:WM Pg 58 130 nZ [.cell 6 true 8,.cell 7 true 4]:=wM iC Tryz.func58 (by kernel_rfl)
def Ws:MC:=(λx(_:x=gC tt [(9,58),(9,53),(9,59)] [(3,[0,0,2,6,14,0,32,0,128,511,0,2047]),(4,[0,0,0,0,0,16,48,112,255,511]),(6,[0,0,2,6,14,0,0,64,0,480,1023,2047,4095,4095,0,0,57343,131071]),(7,[0,0,3,7,0,15,63])] [] (gB Tryz.f82))=>x) _ (by dsimp[Tryz.f82])
theorem zFB:WM Pg 82 73 Ws [.cell 6 true 8,.cell 7 true 4]:=wM iC Tryz.func82 (by kernel_rfl)
def Wt:MC:=(λx(_:x=gC tt [(9,53),(9,58),(9,59),(9,54)] [(1,[0,0,2,6,14,0,32,0,128,511,0,2047]),(4,[0,0,2,6,14,0,32,0,128,511,1023]),(5,[0,0,2,6,14,0,0,64,0,480,1023,2047,4095,4095,0,0,57343,131071]),(7,[0,0,0,0,0,16,48,112,255,511]),(10,[0,1,3,0,7,31])] [] (gB Tryz.f83))=>x) _ (by dsimp[Tryz.f83])
theorem zHe:WM Pg 83 84 Wt [.cell 6 true 8,.cell 7 true 4]:=wM iC Tryz.func83 (by kernel_rfl)
def Wu:MC:=(λx(_:x=gC tt [(9,58),(9,93),(9,57),(9,59)] [(10,[0,0,0,0,8,24,56,0,128,384,896,2047,4095]),(11,[0,0,3,7,0,16,48,112,15,511])] [] (gB Tryz.f84))=>x) _ (by dsimp[Tryz.f84])
theorem zEb:WM Pg 84 75 Wu [.cell 6 true 8,.cell 7 true 4]:=wM iC Tryz.func84 (by kernel_rfl)
def Wv:MC:=(λx(_:x=gC tt [(9,57)] [(7,[0,1,0,7,15,0,32,0,224,480,1023])] [] (iO 2 (gB Tryz.f85)))=>x) _ (by dsimp[Tryz.f85])
def Ww:MC:=(λx(_:x=gC tt [] [] [(2,Wv)] (iO 0 (gB Tryz.f85)))=>x) _ (by dsimp[Tryz.f85])
def Wx:MC:=(λx(_:x=gC tt [(9,58)] [] [] (iO 4 (gB Tryz.f85)))=>x) _ (by dsimp[Tryz.f85])
def Wy:MC:=(λx(_:x=gC tt [(9,54),(4,81),(6,4)] [(18,[0,0,1,7])] [(0,Ww),(4,Wx)] (gB Tryz.f85))=>x) _ (by dsimp[Tryz.f85])
theorem zBI:WM Pg 85 84 Wy [.cell 6 true 8,.cell 7 true 4]:=wM iC Tryz.func85 (by kernel_rfl)
def Wz:MC:=(λx(_:x=gC tt [(9,58),(9,93),(9,57)] [(9,[0,1,0,4,15,0,31,127])] [] (gB Tryz.f86))=>x) _ (by dsimp[Tryz.f86])
theorem zFC:WM Pg 86 56 Wz [.cell 6 true 8,.cell 7 true 4]:=wM iC Tryz.func86 (by kernel_rfl)
def Np:MC:=(λx(_:x=gC tt [] [(14,[0,1,0,7,15,0,32,127]),(15,[0,1,0,4,0,28,60,124,255,511,1023]),(16,[0,1,0,4,0,28,60,124,255,511,1023])] [] (iO 0 (gB Tryz.f87)))=>x) _ (by dsimp[Tryz.f87])
def XA:MC:=(λx(_:x=gC tt [(9,58),(9,93),(9,57),(1,56),(1,58),(9,54),(4,98)] [(18,[0,1,0,0,12,31,0,63,255])] [(0,Np)] (gB Tryz.f87))=>x) _ (by dsimp[Tryz.f87])
theorem zCp:WM Pg 87 106 XA [.cell 6 true 8,.cell 7 true 4]:=wM iC Tryz.func87 (by kernel_rfl)
def XB:MC:=(λx(_:x=gC tt [(9,58),(9,59),(4,90)] [(3,[0,0,0,0,0,31,63]),(9,[0,0,3,7,15,0,32,127,255,511,511,0,0,7167,16383]),(15,[0,0,0,0,0,16,48,112,255,511]),(16,[0,0,0,0,0,16,48,112,255,511]),(17,[0,0,0,7,15,0,31,127])] [] (gB Tryz.f88))=>x) _ (by dsimp[Tryz.f88])
theorem zBJ:WM Pg 88 130 XB [.cell 6 true 8,.cell 7 true 4]:=wM iC Tryz.func88 (by kernel_rfl)
def XC:MC:=(λx(_:x=gC tt [(9,58),(9,53),(9,93)] [(3,[0,0,1,7]),(4,[0,0,2,6,14,0,32,0,128,511,0,2047]),(6,[0,0,1,7]),(9,[0,0,0,0,0,31,63]),(11,[0,0,1,7]),(13,[0,0,0,0,0,31,0,63,255]),(14,[0,1,0,0,12,0,32,127,0,255,1023])] [] (gB Tryz.f89))=>x) _ (by dsimp[Tryz.f89])
theorem zHf:WM Pg 89 85 XC [.cell 6 true 8,.cell 7 true 4]:=wM iC Tryz.func89 (by kernel_rfl)
def XD:MC:=(λx(_:x=gC tt [(9,58),(9,59)] [] [] (gB Tryz.f140))=>x) _ (by dsimp[Tryz.f140])
theorem zEc:WM Pg 140 24 XD [.cell 8 true 8]:=wM iC Tryz.func140 (by kernel_rfl)
def XE:MC:=(λx(_:x=gC tt [] [(24,[0,0,3,7,0,16,63])] [] (iO 1 (gB Tryz.f90)))=>x) _ (by dsimp[Tryz.f90])
def XF:MC:=(λx(_:x=gC tt [(9,140),(9,58)] [(4,[0,0,2,6,14,0,0,127,0,511]),(5,[0,0,2,6,14,0,0,127,0,511]),(6,[0,0,0,7,15,0,31,127]),(8,[0,0,2,6,14,0,0,127,0,511]),(9,[0,0,2,6,14,0,0,127,0,511]),(10,[0,0,0,7,15,0,31,127]),(14,[0,0,3,7,0,15,63]),(16,[0,0,2,6,14,0,0,127,0,511]),(17,[0,0,2,6,14,0,0,127,0,511]),(18,[0,0,3,7,0,31,63]),(26,[0,0,2,6,14,0,0,127,0,511]),(27,[0,0,2,6,14,0,0,127,0,511]),(31,[0,0,0,6,15,0,31,127])] [(1,XE)] (gB Tryz.f90))=>x) _ (by dsimp[Tryz.f90])
theorem zHg:WM Pg 90 167 XF [.cell 6 true 8,.cell 7 true 4]:=wM iC Tryz.func90 (by kernel_rfl)
def XG:MC:=(λx(_:x=gC tt [(9,140),(9,58)] [(3,[0,0,2,6,14,0,0,127,0,511]),(4,[0,1,3,0,15,31]),(6,[0,0,2,6,14,0,0,127,0,511]),(7,[0,1,3,0,15,31]),(10,[0,1,0,4,15,0,63,127]),(12,[0,1,3,0,15,31])] [] (gB Tryz.f91))=>x) _ (by dsimp[Tryz.f91])
theorem zFD:WM Pg 91 76 XG [.cell 6 true 8,.cell 7 true 4]:=wM iC Tryz.func91 (by kernel_rfl)
def Nq:MC:=(λx(_:x=gC tt [] [] [] (iO 0 (gB Tryz.f34)))=>x) _ (by dsimp[Tryz.f34])
def XH:MC:=(λx(_:x=gC tt [(9,53),(1,74),(9,54),(4,84),(5,87),(4,111),(9,57),(9,58),(9,59)] [(1,[0,1,3,7,15,0,32,127,255,511,0,1024,4095,8191,0,32767]),(7,[0,0,2,6,14,0,32,0,128,511,0,2047]),(8,[0,0,2,6,14,0,32,0,128,511,0,2047]),(12,[0,0,3,7]),(13,[0,1,0,4,12,28,60,124,255,511,1023,2047,1023,5119,13311,29695,62463,127999,262143,524287,1048575,2097151,4194303,8388607]),(17,[0,1,3,7,15,0,32,127,255,511,0,1024,4095,8191]),(27,[0,0,2,6,14,30,0,0,0,448,960,2046,4095,8191,16383,32767]),(29,[0,0,2,6,14,0,32,0,128,384,896,0,2048,6144,14336,0,32768,98304,229376,524256,1048544,2097150,4194303,8388607,16777215])] [(0,Nq)] (gB Tryz.f34))=>x) _ (by dsimp[Tryz.f34])
theorem zy3:WM Pg 34 216 XH []:=wM iC Tryz.func34 (by kernel_rfl)
def XI:MC:=(λx(_:x=gC tt [(9,33),(7,1)] [(12,[0,0,0,4,0,16,0,126,254,1,1023])] [] (iO 2 (gB Tryz.f17)))=>x) _ (by dsimp[Tryz.f17])
def XJ:MC:=(λx(_:x=gC tt [] [] [(2,XI)] (iO 0 (gB Tryz.f17)))=>x) _ (by dsimp[Tryz.f17])
def XK:MC:=(λx(_:x=gC tt [(9,34)] [] [] (iO 4 (gB Tryz.f17)))=>x) _ (by dsimp[Tryz.f17])
def XL:MC:=(λx(_:x=gC tt [(0,13),(0,15),(6,0),(7,1)] [(20,[0,0,2,6,14,1,63])] [(0,XJ),(4,XK)] (gB Tryz.f17))=>x) _ (by dsimp[Tryz.f17])
theorem zCq:WT Pg 17 125 XL [.cell 2 true 3,.tmp 3]:=wT iC Tryz.func17 (by kernel_rfl)
def Nr:MC:=(λx(_:x=gC tt [] [] [] (iO 0 (gB Tryz.f8)))=>x) _ (by dsimp[Tryz.f8])
def XM:MC:=(λx(_:x=gC tt [] [] [(0,Nr)] (gB Tryz.f8))=>x) _ (by dsimp[Tryz.f8])
theorem zAb:WT Pg 8 55 XM [.cell 2 true 3,.tmp 3]:=wT iC Tryz.func8 (by kernel_rfl)
def XN:MC:=(λx(_:x=gC tt [] [] [] (iO 0 (gB Tryz.f15)))=>x) _ (by dsimp[Tryz.f15])
def XO:MC:=(λx(_:x=gC tt [] [] [(0,XN)] (gB Tryz.f15))=>x) _ (by dsimp[Tryz.f15])
theorem zFE:WT Pg 15 40 XO [.tmp 2]:=wT iC Tryz.func15 (by kernel_rfl)
end Go.Gr
namespace Go.Gr
open Go.Abs Go.Proofs List
abbrev tQ(l:List fI):Blk:=.arr 1 ((encS l).map (·.map .d))
def ou(vs:List fI)(wth:List gq)(a:List gq)(l:List gq):List gq × Bool:=if(yn vs wth l).2=true then(a++(yn vs wth l).1,true)else([],false)
theorem XP(vs:List fI)(wth:List gq)(a:List gq)(t:gq)(l:List gq):ou vs wth a (t::l)=if(tK vs wth t).2=true then ou vs wth (a++[(tK vs wth t).1]) l else([],false):=by
 unfold ou;rw[yn];by_cases h:(tK vs wth t).2=true
 ·rw[aC h,aC h];by_cases h2:(yn vs wth l).2=true
  ·simp[h2]
  ·simp[h2]
 ·rw[aB h,aB h];simp
theorem XQ(vs:List fI)(wth:List gq)(t:gq):tK vs wth t=if t.kind=8 then(if 0<t.names.length\/0<t.kids.length then(t,false)else match ym vs wth t.name with
   |some u=>(u,true)
   |none=>(t,false))
  else if(ou vs wth [] t.kids).2=true then(.mk t.kind t.name t.names (ou vs wth [] t.kids).1,true)else(t,false):=by
 cases t with
 | mk k n s l=>
  unfold ou;rw[tK];simp only[gq.kind,gq.name,gq.names,gq.kids,nil_append];by_cases h:(yn vs wth l).2=true
  ·simp[h];rfl
  ·simp[h];rfl
theorem tT(k:Int)(n:fI)(s:List fI)(l:List gq):gq.enc (.mk k n s l)=[.int .i64 k,.str n,.sl false 1 (encS s),.sl false 4 (l.map gq.enc)]:=by rw[gq.enc_eq];try rfl
theorem XR(t:gq)(b n:Nat):put (t.enc.map AC.d) 3 [.msl 4 b 0 n]=[.d (.int .i64 t.kind),.d (.str t.name),.d (.sl false 1 (encS t.names)),.msl 4 b 0 n]:=by rw[gq.enc_eq];try rfl
theorem XT{ts:List (Nat × Nat)}(h:ts.length=([]:List Blk).length):ts=[]:=aT.1 h
abbrev RepD(vs:List fI)(wth:List gq)(u:gq):Prop:=MCall Pg 131 [.ag (u.enc.map .d),.c (.d (.sl false 1 (encS vs))),.c (.d (.sl false 4 (wth.map gq.enc)))] [] (.tup [.ag ((tK vs wth u).1.enc.map .d),.c (.d (.bool (tK vs wth u).2))]) []
abbrev GH(vs:List fI)(wth:List gq):List (Nat × AV):=[(6,.c (.ptr 1 0)),(3,.c (.ptr 0 0)),(2,.c (.d (.sl false 4 (wth.map gq.enc)))),(1,.c (.d (.sl false 1 (encS vs))))]
theorem zFq(vs:List fI)(wth:List gq)(hv:vs.length=wth.length)(hl:wth.length<=1000000)(u:gq)(hk:u.kids.length<=200)(ih:∀e,e∈u.kids->RepD vs wth e):RepD vs wth u:=by
 refine WL nE λts hts ok hb c hN hp=>?_;have hts:=XT hts;subst hts;obtain⟨R,hR⟩:∃R,tK vs wth u=R:=⟨_,rfl⟩
 rw[hR];rw[XQ]at hR;unfold Nl;by_cases k8:u.kind=8
 ·rw[aC k8]at hR;by_cases n0:0<u.names.length
  ·rw[aC (.inl n0)]at hR;subst hR;simp[k8,n0];refine fe [] ?_;simp;exact fQ [] []
  by_cases c0:0<u.kids.length
  ·rw[aC (.inr c0)]at hR;subst hR;simp[k8,n0,c0];refine fe [] ?_;simp;exact fQ [] []
  rw[aB (by omega)]at hR;simp[k8,n0,c0];refine fU iC hp (λj:Nat=>j<=vs.length/\ym (vs.drop j) (wth.drop j) u.name=ym vs wth u.name) (λj=>(8,.c (.d (.int .i64 j)))::GH vs wth) (λ_=>[.box (u.enc.map .d),uF]) (λj=>vs.length-j) 0 [0,1] ⟨by simp,by simp⟩ (by simp) λj ⟨h1,h2⟩=>?_;unfold Nj;simp;apply gT<;>intro h
  ·have hj:j<vs.length:=by simpa using h
   have hj2:j<wth.length:=by omega
   rw[aF hj,aF hj2,ym]at h2;have hw:=wI (n:=(j:Int)+1);by_cases q:vs[j]=u.name
   ·rw[aC q]at h2;rw[<-h2]at hR;simp only at hR;subst hR;simp[hj,hj2,q];refine⟨by decide,?_⟩;refine fe [] ?_;simp;exact fQ [] []
   ·rw[aB q]at h2;simp[hj,hj2,q];refine⟨by decide,?_⟩;refine fJ (j+1) [0,1] ⟨by omega,h2⟩ (by omega) ?_;simp[hw]
  ·have hj:j=vs.length:=by simp at h;omega
   subst hj;rw[aO,ym]at h2;rotate_left
   ·intros;contradiction
   rw[<-h2]at hR;simp only at hR;subst hR;simp;refine fe [] ?_;simp;exact fQ [] []
 rw[aB k8]at hR;simp[k8];refine fo [.t 9] ?_;simp;obtain⟨F0,hF⟩:∃F0,ou vs wth [] u.kids=F0:=⟨_,rfl⟩
 rw[hF]at hR;refine fU iC hp (λx:Nat × List gq=>x.1<=u.kids.length/\x.2.length<=x.1/\ou vs wth x.2 (u.kids.drop x.1)=F0) (λx=>(10,.c (.d (.int .i64 x.1)))::(9,.c (.msl 4 2 0 x.2.length))::GH vs wth) (λx=>[.box (u.enc.map .d),uF,oQ x.2]) (λx=>u.kids.length-x.1) (0,[]) [0,1,2] ⟨by simp,by simp,by simpa using hF⟩ (by simp) λ⟨j,a⟩ ⟨h1,h2,h3⟩=>?_;unfold Nk;simp only at h1 h2 h3;simp;apply gT<;>intro h
 ·have hj:j<u.kids.length:=by simpa using h
  rw[aF hj,XP]at h3;obtain⟨x,hx⟩:∃x,u.kids[j]=x:=⟨_,rfl⟩
  have hm:=aP hj;rw[hx]at h3 hm;have hix:=ih x hm;unfold RepD at hix;have hw:=wI (n:=(j:Int)+1);generalize tK vs wth x=r at*
  simp[hj,hx];refine gU [] hix ?_;by_cases q:r.2=true
  ·rw[aC q]at h3;simp[q];refine⟨by omega,?_⟩;refine fJ (j+1,a++[r.1]) [0,1,4] ⟨by simp only;omega,by simp;omega,h3⟩ (by simp only;omega) ?_;simp[hw];exact vW a
  ·rw[aB q]at h3;subst h3;simp only[ai,if_false]at hR;subst hR;simp[q];refine fe [] ?_;simp;exact fQ [] []
 ·have hj:j=u.kids.length:=by simp at h;omega
  subst hj;rw[aO]at h3;have e:ou vs wth a []=(a,true):=by unfold ou;simp[yn]
  rw[e]at h3;subst h3;simp only[if_true]at hR;subst hR;simp[XR];refine fe [2] ?_;simp[iT,oK];exact fT [] [] (by simp[iT,tT,oK])
mutual
theorem XU(vs:List fI)(wth:List gq)(hv:vs.length=wth.length)(hl:wth.length<=1000000):∀t:gq,lC t->RepD vs wth t
|.mk k n s l,h=>by
 rw[lC]at h;exact zFq vs wth hv hl (.mk k n s l) h.1 (λe he=>XV vs wth hv hl l h.2 e he)
theorem XV(vs:List fI)(wth:List gq)(hv:vs.length=wth.length)(hl:wth.length<=1000000):∀l:List gq,qp l->∀e,e∈l->RepD vs wth e
|[],_,e,h=>by cases h
|d::l,hf,e,h=>by
 rw[qp]at hf;cases h with
 |head=>exact XU vs wth hv hl d hf.1
 |tail _ h=>exact XV vs wth hv hl l hf.2 e h
end
theorem Ns(vs:List fI)(wth:List gq)(hl:wth.length<=1000000)(u:gq):
  MCall Pg 78 [.ag (u.enc.map .d),.c (.d (.sl false 1 (encS vs))),.c (.d (.sl false 4 (wth.map gq.enc)))] [] (.tup [.ag ((qo u vs wth).1.enc.map .d),.c (.d (.int .i64 (qo u vs wth).2))]) []:=by
 refine WN nE λts hts ok hb c hN hp=>?_;have hts:=XT hts;subst hts;obtain⟨R,hR⟩:∃R,qo u vs wth=R:=⟨_,rfl⟩
 rw[hR];unfold qo at hR;unfold Nn;by_cases hv:vs.length=wth.length;rotate_left
 ·rw[aC hv]at hR;subst hR;have hv':¬(vs.length:Int)=wth.length:=by omega
  simp[hv,hv'];exact fO [] [] (by simp[nQ,AV.erds,AV.erd])
 rw[aB (λz=>z hv)]at hR;have hv':(vs.length:Int)=wth.length:=by omega
 simp[hv'];refine gp (ND u) ?_;by_cases s1:200<nX u 201
 ·rw[aC (.inl s1)]at hR;subst hR;simp[s1];exact fO [] [] (by simp[nQ,AV.erds,AV.erd])
 simp[s1];refine gp (Fb u) ?_;by_cases s2:16<oI 17 u
 ·rw[aC (.inr s2)]at hR;subst hR;simp[s2];exact fO [] [] (by simp[nQ,AV.erds,AV.erd])
 rw[aB (by omega)]at hR;have hrp:=XU vs wth hv hl u (Ff u 201 (by omega) (by omega));unfold RepD at hrp;generalize tK vs wth u=r at*
 simp[s2];refine gU [] hrp ?_;by_cases q:r.2=true
 ·rw[aC q]at hR;have hn:=Ag r.1;generalize mQ r.1=N at*
  subst hR;simp[q];refine gp hn ?_;simp;exact fQ [] []
 ·rw[aB q]at hR;subst hR;simp[q];exact fO [] [] (by simp[nQ,AV.erds,AV.erd])
abbrev xe(vs:List fI)(wth:List gq)(u:gq):Prop:=MCall Pg 131 [.ag (u.enc.map .d),.c (.msl 1 0 0 vs.length),.c (.d (.sl false 4 (wth.map gq.enc)))] [tQ vs] (.tup [.ag ((tK vs wth u).1.enc.map .d),.c (.d (.bool (tK vs wth u).2))]) [tQ vs]
abbrev GI(vs:List fI)(wth:List gq):List (Nat × AV):=[(6,.c (.ptr 3 0)),(3,.c (.ptr 2 0)),(2,.c (.d (.sl false 4 (wth.map gq.enc)))),(1,.c (.msl 1 0 0 vs.length))]
theorem zFr(vs:List fI)(wth:List gq)(hv:vs.length=wth.length)(hl:wth.length<=1000000)(u:gq)(hk:u.kids.length<=200)(ih:∀e,e∈u.kids->xe vs wth e):xe vs wth u:=by
 refine WL nE λts hts ok hb c hN hp=>?_;obtain⟨t,rfl⟩:=mF hts;obtain⟨R,hR⟩:∃R,tK vs wth u=R:=⟨_,rfl⟩
 rw[hR];rw[XQ]at hR;unfold Nl;by_cases k8:u.kind=8
 ·rw[aC k8]at hR;by_cases n0:0<u.names.length
  ·rw[aC (.inl n0)]at hR;subst hR;simp[k8,n0];refine fe [] ?_;simp;exact fQ [0] [1]
  by_cases c0:0<u.kids.length
  ·rw[aC (.inr c0)]at hR;subst hR;simp[k8,n0,c0];refine fe [] ?_;simp;exact fQ [0] [1]
  rw[aB (by omega)]at hR;simp[k8,n0,c0];refine fU iC hp (λj:Nat=>j<=vs.length/\ym (vs.drop j) (wth.drop j) u.name=ym vs wth u.name) (λj=>(8,.c (.d (.int .i64 j)))::GI vs wth) (λ_=>[tQ vs,.pin t 0,.box (u.enc.map .d),uF]) (λj=>vs.length-j) 0 [0,1,2,3] ⟨by simp,by simp⟩ (by simp) λj ⟨h1,h2⟩=>?_;unfold Nj;simp;apply gT<;>intro h
  ·have hj:j<vs.length:=by simpa using h
   have hj2:j<wth.length:=by omega
   rw[aF hj,aF hj2,ym]at h2;have hw:=wI (n:=(j:Int)+1);by_cases q:vs[j]=u.name
   ·rw[aC q]at h2;rw[<-h2]at hR;simp only at hR;subst hR;simp[hj,hj2,q];refine⟨by decide,?_⟩;refine fe [] ?_;simp;exact fQ [0] [1]
   ·rw[aB q]at h2;simp[hj,hj2,q];refine⟨by decide,?_⟩;refine fJ (j+1) [0,1,2,3] ⟨by omega,h2⟩ (by omega) ?_;simp[hw]
  ·have hj:j=vs.length:=by simp at h;omega
   subst hj;rw[aO,ym]at h2;rotate_left
   ·intros;contradiction
   rw[<-h2]at hR;simp only at hR;subst hR;simp;refine fe [] ?_;simp;exact fQ [0] [1]
 rw[aB k8]at hR;simp[k8];refine fo [.t 9] ?_;simp;obtain⟨F0,hF⟩:∃F0,ou vs wth [] u.kids=F0:=⟨_,rfl⟩
 rw[hF]at hR;refine fU iC hp (λx:Nat × List gq=>x.1<=u.kids.length/\x.2.length<=x.1/\ou vs wth x.2 (u.kids.drop x.1)=F0) (λx=>(10,.c (.d (.int .i64 x.1)))::(9,.c (.msl 4 4 0 x.2.length))::GI vs wth) (λx=>[tQ vs,.pin t 0,.box (u.enc.map .d),uF,oQ x.2]) (λx=>u.kids.length-x.1) (0,[]) [0,1,2,3,4] ⟨by simp,by simp,by simpa using hF⟩ (by simp) λ⟨j,a⟩ ⟨h1,h2,h3⟩=>?_;unfold Nk;simp only at h1 h2 h3;simp;apply gT<;>intro h
 ·have hj:j<u.kids.length:=by simpa using h
  rw[aF hj,XP]at h3;obtain⟨x,hx⟩:∃x,u.kids[j]=x:=⟨_,rfl⟩
  have hm:=aP hj;rw[hx]at h3 hm;have hix:=ih x hm;unfold xe at hix;have hw:=wI (n:=(j:Int)+1);generalize tK vs wth x=r at*
  simp[hj,hx];refine gU [0] hix ?_;by_cases q:r.2=true
  ·rw[aC q]at h3;simp[q];refine⟨by omega,?_⟩;refine fJ (j+1,a++[r.1]) [0,1,2,3,6] ⟨by simp only;omega,by simp;omega,h3⟩ (by simp only;omega) ?_;simp[hw];exact vW a
  ·rw[aB q]at h3;subst h3;simp only[ai,if_false]at hR;subst hR;simp[q];refine fe [] ?_;simp;exact fQ [0] [1]
 ·have hj:j=u.kids.length:=by simp at h;omega
  subst hj;rw[aO]at h3;have e:ou vs wth a []=(a,true):=by unfold ou;simp[yn]
  rw[e]at h3;subst h3;simp only[if_true]at hR;subst hR;simp[XR];refine fe [4] ?_;simp[iT,oK];exact fT [0] [1] (by simp[iT,tT,oK])
mutual
theorem XW(vs:List fI)(wth:List gq)(hv:vs.length=wth.length)(hl:wth.length<=1000000):∀t:gq,lC t->xe vs wth t
|.mk k n s l,h=>by
 rw[lC]at h;exact zFr vs wth hv hl (.mk k n s l) h.1 (λe he=>XX vs wth hv hl l h.2 e he)
theorem XX(vs:List fI)(wth:List gq)(hv:vs.length=wth.length)(hl:wth.length<=1000000):∀l:List gq,qp l->∀e,e∈l->xe vs wth e
|[],_,e,h=>by cases h
|d::l,hf,e,h=>by
 rw[qp]at hf;cases h with
 |head=>exact XW vs wth hv hl d hf.1
 |tail _ h=>exact XX vs wth hv hl l hf.2 e h
end
theorem zCm(vs:List fI)(wth:List gq)(hl:wth.length<=1000000)(u:gq):
  MCall Pg 78 [.ag (u.enc.map .d),.c (.msl 1 0 0 vs.length),.c (.d (.sl false 4 (wth.map gq.enc)))] [tQ vs] (.tup [.ag ((qo u vs wth).1.enc.map .d),.c (.d (.int .i64 (qo u vs wth).2))]) [tQ vs]:=by
 refine WN nE λts hts ok hb c hN hp=>?_;obtain⟨t,rfl⟩:=mF hts;obtain⟨R,hR⟩:∃R,qo u vs wth=R:=⟨_,rfl⟩
 rw[hR];unfold qo at hR;unfold Nn;by_cases hv:vs.length=wth.length;rotate_left
 ·rw[aC hv]at hR;subst hR;have hv':¬(vs.length:Int)=wth.length:=by omega
  simp[hv,hv'];exact fO [0] [1] (by simp[nQ,AV.erds,AV.erd])
 rw[aB (λz=>z hv)]at hR;have hv':(vs.length:Int)=wth.length:=by omega
 simp[hv'];refine gp (ND u) ?_;by_cases s1:200<nX u 201
 ·rw[aC (.inl s1)]at hR;subst hR;simp[s1];exact fO [0] [1] (by simp[nQ,AV.erds,AV.erd])
 simp[s1];refine gp (Fb u) ?_;by_cases s2:16<oI 17 u
 ·rw[aC (.inr s2)]at hR;subst hR;simp[s2];exact fO [0] [1] (by simp[nQ,AV.erds,AV.erd])
 rw[aB (by omega)]at hR;have hrp:=XW vs wth hv hl u (Ff u 201 (by omega) (by omega));unfold xe at hrp;generalize tK vs wth u=r at*
 simp[s2];refine gU [0] hrp ?_;by_cases q:r.2=true
 ·rw[aC q]at hR;have hn:=Ag r.1;generalize mQ r.1=N at*
  subst hR;simp[q];refine gp hn ?_;simp;exact fQ [0] [1]
 ·rw[aB q]at hR;subst hR;simp[q];exact fO [0] [1] (by simp[nQ,AV.erds,AV.erd])
@[simp] theorem zLl(v:fI × gq):(jA v)[0]?=some (.str v.1):=rfl
@[simp] theorem zIT(v:fI × gq):(jA v)[1]?=some (.int .i64 v.2.kind):=by unfold jA;rw[gq.enc_eq];try rfl
@[simp] theorem zK4(v:fI × gq)(h:0<(jA v).length):(jA v)[0]=.str v.1:=rfl
@[simp] theorem zK5(v:fI × gq)(h:1<(jA v).length):(jA v)[1]=.int .i64 v.2.kind:=by have:=zIT v;rw[aA h]at this;exact bP this
@[simp] theorem zKz(v:fI × gq):cut (jA v) 1 4=v.2.enc:=by unfold jA;rw[gq.enc_eq];try rfl
theorem zH6(vars:List (fI × gq))(l:List gq)(hl:l.length<=1000000):gu Pg 136 [.one (.sl false 5 (vars.map jA)),.one (.sl false 4 (l.map gq.enc))] (.one (.int .i64 (EW vars l))):=by
 refine zD3 (by simp) λo c hN hp=>?_;obtain⟨R,hR⟩:∃R,EW vars l=R:=⟨_,rfl⟩
 rw[hR];unfold EW at hR;unfold WP;by_cases hv:vars.length=l.length;rotate_left
 ·rw[aC hv]at hR;subst hR;have hv':¬(vars.length:Int)=l.length:=by omega
  simp[hv']
 rw[aB (λz=>z hv)]at hR;have hv':(vars.length:Int)=l.length:=by omega
 simp[hv'];refine fo [.t 5] ?_;simp;refine fU iC hp (λi:Nat=>i<=l.length/\Fa (vars.drop i) (l.drop i) ((vars.take i).map (·.1)) (l.take i)=R) (λi=>[(6,.c (.d (.int .i64 i))),(5,.c (.msl 1 0 0 i)),(1,.c (.d (.sl false 4 (l.map gq.enc)))),(0,.c (.d (.sl false 5 (vars.map jA))))]) (λi=>[tQ ((vars.take i).map (·.1))]) (λi=>l.length-i) 0 [0] ⟨by simp,by simpa using hR⟩ (by simp[encS]) λi ⟨h1,h2⟩=>?_;unfold WO;simp;apply gT<;>intro h
 ·have hi:i<l.length:=by simpa using h
  have hi2:i<vars.length:=by omega
  rw[aF hi,aF hi2,Fa]at h2;obtain⟨x,hx⟩:∃x,l[i]=x:=⟨_,rfl⟩
  obtain⟨v,hv3⟩:∃v,vars[i]=v:=⟨_,rfl⟩
  rw[hx,hv3]at h2;have hw:=wI (n:=(i:Int)+1);have tk1:(vars.take (i+1)).map (·.1)=(vars.take i).map (·.1)++[v.1]:=by rw[aJ hi2,dW,hv3];try rfl
  have tk2:l.take (i+1)=l.take i++[x]:=by rw[aJ hi,hx]
  have hlt:(l.take i).length=i:=by rw[bH];omega
  have hvt:((vars.take i).map (·.1)).length=i:=by rw[aU,bH];omega
  simp[hi,hx];refine gp (yt x) ?_;by_cases n:iH x=true;rotate_left
  ·rw[aC (by simpa using n)]at h2;subst h2;simp[n]
  rw[aB (by simp[n])]at h2;by_cases k0:v.2.kind=0
  ·rw[aB (λz=>z.1 k0)]at h2;simp[n,hi2,hv3,k0];refine⟨by omega,by omega,?_⟩;refine fJ (i+1) [1] ⟨by omega,by rw[tk1,tk2];exact h2⟩ (by omega) ?_;rw[tk1];simp[hw,hvt];exact aD (by simp;omega)
  ·have hro:=zCm ((vars.take i).map (·.1)) (l.take i) (by rw[hlt];omega) v.2;rw[hvt]at hro;have hsb:=GA x (qo v.2 ((vars.take i).map (·.1)) (l.take i)).1;generalize qo v.2 ((vars.take i).map (·.1)) (l.take i)=r at*
   simp[n,hi2,hv3,k0,h1];refine gU [0] hro ?_;simp[hi,hx];refine⟨by decide,?_⟩;refine gp hsb ?_;by_cases e0:r.2=0
   ·by_cases s0:pV x r.1=true
    ·rw[aB (by simp[e0,s0])]at h2;simp[e0,s0,hi2,hv3];refine⟨by decide,by omega,by omega,?_⟩;refine fJ (i+1) [2] ⟨by omega,by rw[tk1,tk2];exact h2⟩ (by omega) ?_;rw[tk1];simp[hw,hvt];exact aD (by simp;omega)
    ·rw[aC ⟨k0,.inr (by simpa using s0)⟩]at h2;subst h2;simp[e0,s0];try decide
   ·rw[aC ⟨k0,.inl e0⟩]at h2;subst h2;simp[e0];try decide
 ·have hi:i=l.length:=by simp at h;omega
  subst hi;rw[aO,Fa]at h2
  ·subst h2;simp
  ·intros;contradiction
@[simp] theorem kY.enc_length(x:kY):x.enc.length=3:=rfl
@[simp] theorem kY.enc_0(x:kY):x.enc[0]?=some (.int .i64 x.module):=rfl
@[simp] theorem kY.enc_1(x:kY):x.enc[1]?=some (.int .i64 x.decl):=rfl
@[simp] theorem kY.enc_2(x:kY):x.enc[2]?=some (.sl false 4 (x.types.map gq.enc)):=rfl
@[simp] theorem kY.enc_g0(x:kY)(h:0<x.enc.length):x.enc[0]=.int .i64 x.module:=rfl
@[simp] theorem kY.enc_g1(x:kY)(h:1<x.enc.length):x.enc[1]=.int .i64 x.decl:=rfl
@[simp] theorem kY.enc_g2(x:kY)(h:2<x.enc.length):x.enc[2]=.sl false 4 (x.types.map gq.enc):=rfl
@[simp] theorem kY.cut_enc(x:kY):cut x.enc 0 3=x.enc:=rfl
@[simp] theorem kY.cut_map(x:kY):cut (x.enc.map AC.d) 0 3=x.enc.map .d:=rfl
theorem zGT(a b:kY):gu Pg 51 [.agg a.enc,.agg b.enc] (.one (.bool (Ad a b))):=by
 refine zD4 (by simp) λo c hN hp=>?_;have hl:a.types.length<=zah:=by
  have:=o.1;simp only[DV.ok,kY.enc,D.okL,D.ok,aU]at this;exact this.2.2.1.1
 unfold zah at hl;obtain⟨R,hR⟩:∃R,Ad a b=R:=⟨_,rfl⟩
 rw[hR];unfold Ad at hR;unfold WR;by_cases q1:a.module=b.module;rotate_left
 ·simp[q1]at hR;simp[q1,hR]
 by_cases q2:a.decl=b.decl;rotate_left
 ·simp[q2]at hR;simp[q1,q2,hR]
 by_cases q3:a.types.length=b.types.length;rotate_left
 ·have:lJ ky a.types b.types=false:=by
   cases h:lJ ky a.types b.types with
   |false=>rfl
   |true=>exact absurd (DF h) q3
  have q3':¬(a.types.length:Int)=b.types.length:=by omega
  simp[this]at hR;simp[q1,q2,q3,q3',hR]
 simp[q1,q2]at hR;simp[q1,q2,q3];refine fU iC hp (λj:Nat=>j<=a.types.length/\lJ ky (a.types.drop j) (b.types.drop j)=R) (λj=>[(5,.c (.d (.int .i64 j))),(3,.c (.d (.rp b.enc 0))),(2,.c (.d (.rp a.enc 0)))]) (λ_=>[]) (λj=>a.types.length-j) 0 [] ⟨by simp,by simpa using hR⟩ (by simp) λj ⟨h1,h2⟩=>?_;unfold WQ;simp;apply gT<;>intro h
 ·have hj:j<a.types.length:=by simpa using h
  have hj2:j<b.types.length:=by omega
  rw[aF hj,aF hj2,lJ]at h2;simp[hj,hj2];refine gp (EX _ _) ?_;generalize ky a.types[j] b.types[j]=q at*
  cases q with
  |true=>
   simp at h2;simp;refine⟨by decide,?_⟩;refine fJ (j+1) [] ⟨by omega,h2⟩ (by omega) ?_;simp;exact wI
  |false=>
   simp at h2;simp[h2];try decide
 ·have hj:j=a.types.length:=by simp at h;omega
  subst hj;rw[aO,q3,aO]at h2;simp[lJ]at h2;simp[h2]
abbrev oU(l:List kY):Blk:=.arr 3 ((l.map kY.enc).map (·.map .d))
abbrev xf(most:Int)(n b:Nat):Blk:=.box [.d (.int .i64 most),.msl 3 b 0 n]
theorem GJ{ts:List (Nat × Nat)}{a b:Blk}(h:ts.length=[a,b].length):∃t u,ts=[t,u]:=by
 match ts,h with
 |[t,u],_=>exact⟨t,u,rfl⟩
theorem XY(most:Int)(l:List kY)(hl:l.length<=100000)(x:kY)(hx:x.types.length<=1000000):
  MCall Pg 33 [.c (.ptr 0 0),.ag (x.enc.map .d)] [xf most l.length 1,oU l] (.tup [.c (.d (.int .i64 (kr most l x).1.1)),.c (.d (.int .i64 (kr most l x).1.2))]) [xf most (kr most l x).2.length 2,.dead,oU (kr most l x).2]:=by
 refine zxy ⟨by simp,by simp,by simp,by simp,by simp,by simp,by simp;rfl⟩ λts hts ok hb c hN hp=>?_;obtain⟨t,u,rfl⟩:=GJ hts;obtain⟨R,hR⟩:∃R,kr most l x=R:=⟨_,rfl⟩
 rw[hR];unfold kr at hR;unfold WV;simp;refine fU iC hp (λj:Nat=>j<=x.types.length/\(x.types.drop j).all iH=x.types.all iH) (λj=>[(6,.c (.d (.int .i64 j))),(3,.c (.d (.rp x.enc 0))),(0,.c (.ptr 0 0))]) (λ_=>[xf most l.length 1,oU l,.pin t 0,.pin u 1]) (λj=>x.types.length-j) 0 [0,1,2,3] ⟨by simp,by simp⟩ (by simp) λj ⟨h1,h2⟩=>?_;unfold WS;simp;apply gT<;>intro h
 ·have hj:j<x.types.length:=by simpa using h
  rw[aF hj,all_cons]at h2;simp[hj];refine gp (yt _) ?_;have hw:=wI (n:=(j:Int)+1);generalize iH x.types[j]=q at*
  cases q with
  |false=>
   simp only[Bool.false_and]at h2;rw[aC h2.symm]at hR;subst hR;simp;exact fQ [0,3,1] [2,3]
  |true=>
   simp only[Bool.true_and]at h2;simp;refine fJ (j+1) [0,1,2,3] ⟨by omega,h2⟩ (by omega) ?_;simp[hw]
 ·have hj:j=x.types.length:=by simp at h;omega
  subst hj;rw[aO,all_nil]at h2;rw[aB (by rw[<-h2];simp)]at hR;simp;refine fU iC hp (λi:Nat=>i<=l.length/\fi (λy=>Ad y x) i (l.drop i)=fi (λy=>Ad y x) 0 l) (λi=>[(8,.c (.d (.int .i64 i))),(3,.c (.d (.rp x.enc 0))),(0,.c (.ptr 0 0))]) (λ_=>[xf most l.length 1,oU l,.pin t 0,.pin u 1]) (λi=>l.length-i) 0 [0,1,2,3] ⟨by simp,by simp⟩ (by simp) λi ⟨h3,h4⟩=>?_;unfold WU;simp;apply gT<;>intro h
  ·have hi:i<l.length:=by simpa using h
   rw[aF hi,fi]at h4;have hw:=wI (n:=(i:Int)+1);simp[hi];refine gp (zGT _ _) ?_;by_cases q:Ad l[i] x=true
   ·rw[aC q]at h4;rw[<-h4,aC (by omega)]at hR;subst hR;simp[q];refine⟨by decide,?_⟩;exact fQ [0,3,1] [2,3]
   ·rw[aB q]at h4;simp[q];refine⟨by decide,?_⟩;refine fJ (i+1) [0,1,2,3] ⟨by omega,h4⟩ (by omega) ?_;simp[hw]
  ·have hi:i=l.length:=by simp at h;omega
   subst hi;rw[aO,fi]at h4;rw[<-h4,aB (by decide)]at hR;simp;by_cases m:most<=l.length
   ·rw[aC m]at hR;subst hR;simp[m];refine⟨by decide,?_⟩;exact fQ [0,3,1] [2,3]
   ·rw[aB m]at hR;subst hR;have hw:IntKind.i64.wrap (l.length:Int)=(l.length:Int):=wI;simp[m];refine⟨by decide,by omega,by decide,?_⟩;exact fT [0,1,4] [2,3] (by simp[hw,oK])
@[simp] theorem jW.enc_length(f:jW):f.enc.length=13:=by simp[jW.enc]
@[simp] theorem Site.enc_length(f:Site):f.enc.length=3:=rfl
abbrev oV(l:List jW):Blk:=.arr 13 ((l.map jW.enc).map (·.map .d))
abbrev qx(l:List Site):Blk:=.arr 3 ((l.map Site.enc).map (·.map .d))
abbrev uh(L:iV)(s:CS)(a b d:Nat):Blk:=.box [.d (.sl false 1 (encS L.names)),.d (.sl false 2 (L.mods.map jZ.enc)),.d (.sl false 1 (L.scopes.map qw)),.d (.str L.main.name),.d (.int .i64 L.main.module),.d (.int .i64 L.main.decl),.ptr 1 0,.msl 13 a 0 s.funs.length,.d (.int .i64 s.main),.msl 3 b 0 s.sites.length,.msl 4 d 0 s.bad.length,.d (.int .i64 s.module),.d (.sl false 1 (encS s.vars)),.d (.sl false 4 (s.wth.map gq.enc)),.d (.int .i64 s.e),.d (.int .i64 s.line),.d (.int .i64 s.col)]
abbrev qy(L:iV)(s:CS):List Blk:=[uh L s 2 3 4,xf 256 s.tab.length 5,oV s.funs,qx s.sites,mJ s.bad,oU s.tab]
abbrev XZ(L:iV)(s:CS):List Blk:=[uh L s 2 6 4,xf 256 s.tab.length 5,oV s.funs,.dead,mJ s.bad,oU s.tab,qx s.sites]
abbrev JP(L:iV)(s:CS):List Blk:=[uh L s 2 6 4,xf 256 s.tab.length 7,oV s.funs,.dead,mJ s.bad,.dead,qx s.sites,oU s.tab]
theorem mZ{ts:List (Nat × Nat)}{a b c d e f:Blk}(h:ts.length=[a,b,c,d,e,f].length):∃t u v w x y,ts=[t,u,v,w,x,y]:=by
 match ts,h with
 |[t,u,v,w,x,y],_=>exact⟨t,u,v,w,x,y,rfl⟩
section
variable (L:iV)
theorem X0(ln cl e:Int)(s:CS):MCall Pg 79 [.c (.ptr 0 0),.c (.d (.int .i64 ln)),.c (.d (.int .i64 cl)),.c (.d (.int .i64 e))] (qy L s) (.tup []) (qy L (lG ln cl e s)):=by
 refine zle mD λts hts ok hb c hN hp=>?_;obtain⟨t,u,v,w,x,y,rfl⟩:=mZ hts;unfold We lG;by_cases h0:s.e=0
 ·rw[aC h0];simp[h0];exact fQ [0,1,2,3,4,5] [6,7,8,9,10,11]
 ·rw[aB h0];simp[h0];exact fQ [0,1,2,3,4,5] [6,7,8,9,10,11]
theorem zf{α:Type}{l:List α}{i:Nat}{d:α}(e:l[i]?=some d)(h:i<l.length):l[i]=d:=by rw[aA h]at e;exact bP e
@[simp] theorem gz.enc_0(n:gz):n.enc[0]?=some (.int .i64 n.kind):=by rw[n.enc_eq];try rfl
@[simp] theorem gz.enc_g0(n:gz)(h:0<n.enc.length):n.enc[0]=.int .i64 n.kind:=zf n.enc_0 h
@[simp] theorem gz.enc_1(n:gz):n.enc[1]?=some (.str n.text):=by rw[n.enc_eq];try rfl
@[simp] theorem gz.enc_g1(n:gz)(h:1<n.enc.length):n.enc[1]=.str n.text:=zf n.enc_1 h
@[simp] theorem gz.enc_2(n:gz):n.enc[2]?=some (.int .i64 n.n):=by rw[n.enc_eq];try rfl
@[simp] theorem gz.enc_g2(n:gz)(h:2<n.enc.length):n.enc[2]=.int .i64 n.n:=zf n.enc_2 h
@[simp] theorem gz.enc_3(n:gz):n.enc[3]?=some (.int .i64 n.line):=by rw[n.enc_eq];try rfl
@[simp] theorem gz.enc_g3(n:gz)(h:3<n.enc.length):n.enc[3]=.int .i64 n.line:=zf n.enc_3 h
@[simp] theorem gz.enc_4(n:gz):n.enc[4]?=some (.int .i64 n.col):=by rw[n.enc_eq];try rfl
@[simp] theorem gz.enc_g4(n:gz)(h:4<n.enc.length):n.enc[4]=.int .i64 n.col:=zf n.enc_4 h
@[simp] theorem gz.enc_5(n:gz):n.enc[5]?=some (.sl false 4 (n.types.map gq.enc)):=by rw[n.enc_eq];try rfl
@[simp] theorem gz.enc_g5(n:gz)(h:5<n.enc.length):n.enc[5]=.sl false 4 (n.types.map gq.enc):=zf n.enc_5 h
@[simp] theorem gz.enc_6(n:gz):n.enc[6]?=some (.sl false 1 (encS n.names)):=by rw[n.enc_eq];try rfl
@[simp] theorem gz.enc_g6(n:gz)(h:6<n.enc.length):n.enc[6]=.sl false 1 (encS n.names):=zf n.enc_6 h
@[simp] theorem gz.enc_7(n:gz):n.enc[7]?=some (.sl false 8 (n.kids.map gz.enc)):=by rw[n.enc_eq];try rfl
@[simp] theorem gz.enc_g7(n:gz)(h:7<n.enc.length):n.enc[7]=.sl false 8 (n.kids.map gz.enc):=zf n.enc_7 h
theorem vK(n:gz)(e:Int)(s:CS):MCall Pg 57 [.c (.ptr 0 0),.ag (n.enc.map .d),.c (.d (.int .i64 e))] (qy L s) (.tup []) (qy L (lG n.line n.col e s)):=by
 refine zm5 mD λts hts ok hb c hN hp=>?_;obtain⟨t,u,v,w,x,y,rfl⟩:=mZ hts;have hf:=X0 L n.line n.col e s;unfold Wh;simp;refine gU [0,1,2,3,4,5] hf ?_;simp;exact fQ [0,1,2,3,4,5] [6,7,8,9,10,11]
theorem DW(t0:gq)(ln cl:Int)(s:CS)(hw:s.wth.length<=1000000):MCall Pg 53 [.c (.ptr 0 0),.ag (t0.enc.map .d),.c (.d (.int .i64 ln)),.c (.d (.int .i64 cl))] (qy L s) (.ag ((kH t0 ln cl s).1.enc.map .d)) (qy L (kH t0 ln cl s).2):=by
 refine zAa mD λts hts ok hb c hN hp=>?_;obtain⟨t,u,v,w,x,y,rfl⟩:=mZ hts;have hr:=Ns s.vars s.wth hw t0;have hf:=X0 L ln cl 9 s;unfold kH;simp only;generalize qo t0 s.vars s.wth=r at*
 unfold Wi;simp;refine gU [] hr ?_;by_cases h0:r.2=0
 ·rw[aB (by simp[h0])];simp[h0];refine⟨by decide,?_⟩;exact fQ [0,1,2,3,4,5] [6,7,8,9,10,11]
 ·rw[aC h0];simp[h0];refine⟨by decide,?_⟩;refine gU [0,1,2,3,4,5] hf ?_;simp;exact fQ [0,1,2,3,4,5] [6,7,8,9,10,11]
theorem DX(t0:gq)(n:gz)(s:CS):MCall Pg 54 [.c (.ptr 0 0),.ag (t0.enc.map .d),.ag (n.enc.map .d)] (qy L s) (.ag ((pW t0 n.line n.col s).1.enc.map .d)) (qy L (pW t0 n.line n.col s).2):=by
 refine zD9 mD λts hts ok hb c hN hp=>?_;obtain⟨t,u,v,w,x,y,rfl⟩:=mZ hts;have hr:=Ag t0;have hf:=vK L n 9 s;unfold pW;generalize mQ t0=r at*
 unfold Wj;simp;refine gp hr ?_;by_cases h0:r.2=0
 ·rw[aB (by simp[h0])];simp[h0];exact fQ [0,1,2,3,4,5] [6,7,8,9,10,11]
 ·rw[aC h0];simp[h0];refine gU [0,1,2,3,4,5] hf ?_;simp;exact fQ [0,1,2,3,4,5] [6,7,8,9,10,11]
@[simp] theorem iB.er_map(c:iB):c.enc.map D.er=c.enc:=by rw[iB.enc_eq];try rfl
theorem Nt:∀l:List Int,D.erdE (encI l)=encI l
|[]=>rfl
|i::l=>by have:=Nt l;unfold encI at*;simp only[map_cons,D.erdE,D.erdL,D.erd,this]
theorem GK:∀l:List fI,D.erdE (encS l)=encS l
|[]=>rfl
|i::l=>by have:=GK l;unfold encS at*;simp only[map_cons,D.erdE,D.erdL,D.erd,this]
theorem X3:∀l:List (fI × Int),D.erdE (iF l)=iF l
|[]=>rfl
|i::l=>by have:=X3 l;unfold iF at*;simp only[map_cons,D.erdE,D.erdL,D.erd,this]
mutual
theorem gq.erdLL:∀c:gq,D.erdL c.enc=c.enc
|.mk k n s l=>by rw[gq.enc];simp only[D.erdL,D.erd,GK,gq.erdEE l]
theorem gq.erdEE:∀l:List gq,D.erdE (gq.encs l)=gq.encs l
|[]=>rfl
|c::l=>by rw[gq.encs,D.erdE,gq.erdLL c,gq.erdEE l]
end
mutual
theorem gy.erdLL:∀c:gy,D.erdL c.enc=c.enc
|.mk t n s f g=>by rw[gy.enc];simp only[D.erdL,D.erd,Nt,X3,GK,gy.erdEE f,gy.erdEE g]
theorem gy.erdEE:∀l:List gy,D.erdE (gy.encs l)=gy.encs l
|[]=>rfl
|c::l=>by rw[gy.encs,D.erdE,gy.erdLL c,gy.erdEE l]
end
theorem gq.erdE_map(l:List gq):D.erdE (l.map gq.enc)=l.map gq.enc:=by rw[<-gq.encs_map];exact gq.erdEE l
theorem gy.erdE_map(l:List gy):D.erdE (l.map gy.enc)=l.map gy.enc:=by rw[<-gy.encs_map];exact gy.erdEE l
mutual
theorem iB.erdLL:∀c:iB,D.erdL c.enc=c.enc
|.mk k n t is ns ts cs ks=>by rw[iB.enc];simp only[D.erdL,D.erd,Nt,GK,gq.erdE_map,gy.erdE_map,iB.erdEE ks]
theorem iB.erdEE:∀l:List iB,D.erdE (iB.encs l)=iB.encs l
|[]=>rfl
|c::l=>by rw[iB.encs,D.erdE,iB.erdLL c,iB.erdEE l]
end
theorem iB.erdE_map(l:List iB):D.erdE (l.map iB.enc)=l.map iB.enc:=by rw[<-iB.encs_map];exact iB.erdEE l
attribute [simp] iB.erdLL iB.erdE_map
theorem yx(k n:Int)(t:fI)(is:List Int)(ns:List fI)(ts:List gq)(cs:List gy)(ks:List iB):(iB.mk k n t is ns ts cs ks).enc=[.int .i64 k,.int .i64 n,.str t,.sl false 1 (encI is),.sl false 1 (encS ns),.sl false 4 (ts.map gq.enc),.sl false 5 (cs.map gy.enc),.sl false 8 (ks.map iB.enc)]:=by
 rw[iB.enc_eq];try rfl
theorem nK.mkC{v:AV}{bs':List Blk}{ts:List (Nat × Nat)}{vs:List AV}{S:St}(l qs:List Nat)(h:l.Nodup/\(one? vs).erd=v.ren (jJ l)/\qg S l l bs'/\pO S l l qs ts bs':=by simp[cK,cN,cT,yx,tT,kS,vY,nQ,noC,encI,encS,AV.erds,AV.erd,D.erdL,D.erd,D.erdE,jU,jV]):nK v bs' ts vs S:=fO l qs h
theorem E8(z:iB)(a b:gq)(n:gz)(s:CS)(hs:s.sites.length<=1000000000):MCall Pg 93 [.c (.ptr 0 0),.ag (z.enc.map .d),.ag (a.enc.map .d),.ag (b.enc.map .d),.ag (n.enc.map .d)] (qy L s) (.ag ((mR z a b n.line n.col s).1.enc.map .d)) (XZ L (mR z a b n.line n.col s).2):=by
 refine zEa mD λts hts ok hb c hN hp=>?_;obtain⟨t,u,v,w,x,y,rfl⟩:=mZ hts;unfold mR;unfold Wl;by_cases h0:s.e=0
 ·rw[aB (by simp[h0])];have hw:IntKind.i64.wrap (s.sites.length:Int)=(s.sites.length:Int):=wI;simp[h0];refine⟨by omega,by decide,by decide,?_⟩;exact fO [0,1,2,3,4,5,13] [6,7,8,9,10,11] (by simp[hw,oK,yx,Site.enc,h0,encI,encS,AV.erd,AC.erd])
 ·rw[aC h0];simp[h0];exact fQ [0,1,2,9,4,5,3] [6,7,8,9,10,11]
theorem yz(z:iB)(a b:gq)(n:gz)(s:CS)(hs:s.sites.length<=1000000000):MCall Pg 59 [.c (.ptr 0 0),.ag (z.enc.map .d),.ag (a.enc.map .d),.ag (b.enc.map .d),.ag (n.enc.map .d)] (qy L s) (.ag ((kz z a b n.line n.col s).1.enc.map .d)) (XZ L (kz z a b n.line n.col s).2):=by
 refine zBF mD λts hts ok hb c hN hp=>?_;obtain⟨t,u,v,w,x,y,rfl⟩:=mZ hts;have hc:=E8 L z a b n s hs;have hf:=vK L n 15 s;unfold kz;unfold Wm;by_cases h0:s.e=0;rotate_left
 ·rw[aC h0];simp[h0];exact fQ [0,1,2,9,4,5,3] [6,7,8,9,10,11]
 rw[aB (by simp[h0])];simp[h0];refine gp (GA a b) ?_;by_cases h1:pV a b=true
 ·rw[aC h1];simp[h1];exact fT [0,1,2,9,4,5,3] [6,7,8,9,10,11] (by simp[h0])
 rw[aB h1];simp[h1];refine gp (Vx a b) ?_;by_cases h2:Aa a b=true
 ·rw[aC h2];generalize mR z a b n.line n.col s=r at*
  simp[h2];refine gY [0,1,2,3,4,5] hc (by simp[h0]) ?_;simp;exact fQ [0,1,2,3,4,5,13] [6,7,8,9,10,11]
 ·rw[aB h2];generalize lG n.line n.col 15 s=r at*
  simp[h2];refine gY [0,1,2,3,4,5] hf (by simp[h0]) ?_;simp;exact fQ [0,1,2,9,4,5,3] [6,7,8,9,10,11]
end
abbrev fP:=@nK.mkC
theorem lD(k:Int):gu Pg 56 [.one (.int .i64 k)] (.agg (bT k).enc):=by
 refine zD5 (by simp) λo c hN hp=>?_;unfold WW;simp[vY]
theorem X4(d:jd)(hd:d.vars.length<=1000000):gu Pg 52 [.agg d.enc] (.one (.sl false 1 (encS (d.vars.map (·.1))))):=by
 refine zD6 (by simp) λo c hN hp=>?_;unfold WY;simp;refine fo [.t 3] ?_;simp;refine fU iC hp (λj:Nat=>j<=d.vars.length) (λj=>[(4,.c (.d (.int .i64 j))),(3,.c (.msl 1 0 0 j)),(1,.c (.d (.rp d.enc 0)))]) (λj=>[tQ ((d.vars.take j).map (·.1))]) (λj=>d.vars.length-j) 0 [0] (by simp) (by simp[encS]) λj h1=>?_;unfold WX;simp;apply gT<;>intro h
 ·have hj:j<d.vars.length:=by simpa using h
  obtain⟨v,hv⟩:∃v,d.vars[j]=v:=⟨_,rfl⟩
  have hw:=wI (n:=(j:Int)+1);have tk1:(d.vars.take (j+1)).map (·.1)=(d.vars.take j).map (·.1)++[v.1]:=by rw[aJ hj,dW,hv];try rfl
  simp[hj,hv];refine⟨by omega,by omega,?_⟩;refine fJ (j+1) [1] (by omega) (by omega) ?_;rw[tk1];simp[hw];exact aD (by simp;omega)
 ·have hj:j=d.vars.length:=by simp at h;omega
  subst hj;have z:take d.vars.length (encS (take d.vars.length (List.map (λx=>x.1) d.vars)))=encS (List.map (λx=>x.1) d.vars):=by
   rw[aD (by simp),aD (by simp)]
  simp[z]
theorem Nu(env:Env)(hl:env.length<=1000000)(s:fI)(t:gq):gu Pg 137 [.one (.sl false 5 (env.map jA)),.one (.str s),.agg t.enc] (.one (.sl false 5 ((env++[(s,t)]).map jA))):=by
 refine zD8 (by simp) λo c hN hp=>?_;unfold Wd;have z:take (length env+1) (List.map jA env++[.str s::t.enc])=List.map jA env++[.str s::t.enc]:=aD (by simp);simp[oK];refine⟨by omega,by omega,by decide,?_⟩
 first
  |exact z
  |(rw[z];rfl)
  |trace_state
theorem Nv(env:Env)(x:fI):rP env x= -1\/(0<=rP env x/\rP env x<env.length):=by
 have:=GD (λb:fI × gq=>decide (b.1=x)) 0 env.reverse;unfold rP;rw[length_reverse]at this;simp only;split<;>omega
theorem find_ok(env:Env)(hl:env.length<=1000000)(x:fI):gu Pg 134 [.one (.sl false 5 (env.map jA)),.one (.str x)] (.one (.int .i64 (rP env x))):=by
 refine zD7 (by simp) λo c hN hp=>?_;obtain⟨R,hR⟩:∃R,rP env x=R:=⟨_,rfl⟩
 rw[hR];unfold rP at hR;unfold W9;have hw0:IntKind.i64.wrap ((env.length:Int)-1)=(env.length:Int)-1:=wI;simp[hw0];refine fU iC hp (λj:Nat=>j<=env.length/\fi (λb:fI × gq=>decide (b.1=x)) j (env.reverse.drop j)=fi (λb:fI × gq=>decide (b.1=x)) 0 env.reverse) (λj=>[(5,.c (.d (.int .i64 ((env.length:Int)-1-j)))),(1,.c (.d (.str x))),(0,.c (.d (.sl false 5 (env.map jA))))]) (λ_=>[]) (λj=>env.length-j) 0 [] ⟨by simp,by simp⟩ (by simp) λj ⟨h1,h2⟩=>?_;unfold WZ;have hw:=wI (n:=(env.length:Int)-1-j-1);simp;apply gT<;>intro h
 ·have hj:j<env.length:=by simp at h;omega
  have hj2:j<env.reverse.length:=by simpa using hj
  rw[aF hj2,fi,getElem_reverse]at h2;obtain⟨k,hk⟩:∃k,env.length-1-j=k:=⟨_,rfl⟩
  have hkl:k<env.length:=by omega
  have hki:(env.length:Int)-1-j=(k:Int):=by omega
  simp only[hk]at h2;rw[hki]at hw;obtain⟨v,hv⟩:∃v,env[k]=v:=⟨_,rfl⟩
  have hg:env[env.length-1-j]?=some v:=by rw[hk,aA hkl,hv]
  have hg2:env[k]?=some v:=by rw[aA hkl,hv]
  have hjl:(j:Int)<=(env.length:Int)-1:=by omega
  rw[hv]at h2;simp[hki,hg,hg2,hjl,hk];by_cases q:v.1=x
  ·rw[aC (by simpa using q)]at h2;rw[<-h2]at hR;have hR:(if(j:Int)<0 then -1 else(env.length:Int)-1-j)=R:=hR;rw[aB (by omega)]at hR;simp[q];omega
  ·rw[aB (by simpa using q)]at h2;simp[q];refine fJ (j+1) [] ⟨by omega,h2⟩ (by omega) ?_;simp[hw];omega
 ·have hj:j=env.length:=by simp at h;omega
  subst hj;rw[bF (by simp),fi]at h2;rw[<-h2]at hR;simp at hR;simp[hR]
@[simp] theorem jd.enc_g3(d:jd)(h:3<d.enc.length):d.enc[3]=.str d.param:=rfl
@[simp] theorem jd.enc_g4(d:jd)(h:4<d.enc.length):d.enc[4]=.sl false 4 (d.types.map gq.enc):=rfl
structure Bq (d:jd):Prop where
 types:d.types.length=2
 vars:d.vars.length<=1000000
structure kI (L:iV) (e:jI):Prop where
 m0:0<=e.module
 m1:e.module<L.mods.length
 d0:0<=e.decl
 d1:e.decl<(L.mods.getD e.module.toNat om).decs.length
structure oL (L:iV):Prop where
 few:L.mods.length<=16
 names:L.names.length=L.mods.length
 scopes:L.scopes.length=L.mods.length
 decs:∀m,m∈L.mods->∀d,d∈m.decs->Bq d
 ents:∀sc,sc∈L.scopes->∀e,e∈sc->kI L e
theorem GL{L:iV}(hL:oL L){m k:Int}(h:kI L ⟨bs [],m,k⟩):∃(mn kn:Nat) (M:jZ),m=mn/\k=kn/\L.mods[mn]?=some M/\M.decs[kn]?=some (vU L m k)/\Bq (vU L m k):=by
 obtain⟨a1,a2,a3,a4⟩:=h;simp only at a1 a2 a3 a4;obtain⟨g1,g2⟩:=getD_in L.mods om (z:=m) (n:=L.mods.length) rfl a1 a2;obtain⟨g3,g4⟩:=getD_in (L.mods.getD m.toNat om).decs Bh (z:=k) rfl a3 a4;exact⟨m.toNat,k.toNat,_,by omega,by omega,g1,g3,hL.decs _ g2 _ g4⟩
theorem Nw{l:List gq}(h:l.length=2):∃a b,l=[a,b]:=by
 match l,h with
 |[a,b],_=>exact⟨a,b,rfl⟩
section
variable (L:iV)
theorem zIr(hL:oL L)(e:jI)(he:kI L ⟨bs [],e.module,e.decl⟩)(l:List gq)(hl:l.length<=1000000)(s:CS):
  MCall Pg 164 [.c (.ptr 0 0),.ag (e.enc.map .d),.c (.d (.sl false 4 (l.map gq.enc)))] (qy L s) (.tup [.ag ((tL L e l).1.enc.map .d),.c (.d (.bool (tL L e l).2))]) (qy L s):=by
 refine zyD mD λts hts ok hb c hN hp=>?_;obtain⟨t,u,v,w,x,y,rfl⟩:=mZ hts;obtain⟨mn,kn,M,e1,e2,g1,g2,hd⟩:=GL hL he;unfold tL;simp only;generalize vU L e.module e.decl=d at*
 obtain⟨ta,tb,hty⟩:=Nw hd.types;have e3:d.types.getD 0 noT=ta:=by rw[hty];try rfl
 have e4:d.types.getD 1 noT=tb:=by rw[hty];try rfl
 rw[e3,e4];have hv:=X4 d hd.vars;have r1:=Ns (d.vars.map (·.1)) l hl ta;have r2:=Ns (d.vars.map (·.1)) l hl tb;generalize qo ta (d.vars.map (·.1)) l=a at*
 generalize qo tb (d.vars.map (·.1)) l=b at*
 have hn:gu Pg 76 [.agg [.int .i64 6,.str (bs []),.sl true 1 [],.sl true 4 [a.1.enc,b.1.enc]]] (.tup [.agg (mQ (kS a.1 b.1)).1.enc,.one (.int .i64 (mQ (kS a.1 b.1)).2)]):=gu.erd (Ag (kS a.1 b.1)) (by simp[kS,tT,DV.erds,DV.erd,D.erdL,D.erd,D.erdE,encS]);generalize mQ (kS a.1 b.1)=r at*
 unfold Wn;simp[e1,e2,g1,g2];refine⟨by decide,?_⟩;refine gp hv ?_;simp[hty];refine gU [] r1 ?_;simp[hty];refine gU [] r2 ?_;simp;refine gp hn ?_;by_cases q1:a.2=0
 ·by_cases q2:b.2=0
  ·by_cases q3:r.2=0
   ·simp[q1,q2,q3];exact fO [0,1,2,3,4,5] [6,7,8,9,10,11] (by simp[q1,q2,q3,AV.erds,AV.erd])
   ·simp[q1,q2,q3];exact fO [0,1,2,3,4,5] [6,7,8,9,10,11] (by simp[q1,q2,q3,AV.erds,AV.erd])
  ·simp[q1,q2];exact fO [0,1,2,3,4,5] [6,7,8,9,10,11] (by simp[q1,q2,AV.erds,AV.erd])
 ·simp[q1];exact fO [0,1,2,3,4,5] [6,7,8,9,10,11] (by simp[q1,AV.erds,AV.erd])
end
end Go.Gr
namespace Go.Gr
open Go.Abs Go.Proofs
structure lH (L:iV) (s:CS) (b:Nat):Prop where
 wth:s.wth.length<=1000000
 sites:s.sites.length+b<=1000000000
 tab:s.tab.length<=256
 m0:0<=s.module
 m1:s.module<L.mods.length
 few:s.funs.length<=1000/\s.bad.length<=1000
 ist:∀x,x∈s.tab->kI L ⟨bs [],x.module,x.decl⟩/\x.types.length<=1000000
structure sD (env:Env) (b:Nat):Prop where
 len:env.length+b<=1000000
 wf:∀v,v∈env->jG v.2
theorem vg{L:iV}{s:CS}{b:Nat}(h:lH L s b)(ln cl e:Int):lH L (lG ln cl e s) b:=by
 unfold lG;split
 ·exact⟨h.wth,h.sites,h.tab,h.m0,h.m1,h.few,h.ist⟩
 ·exact h
theorem lH.less{L:iV}{s:CS}{b c:Nat}(h:lH L s b)(k:c<=b):lH L s c:=⟨h.wth,by have:=h.sites;omega,h.tab,h.m0,h.m1,h.few,h.ist⟩
theorem sD.less{env:Env}{b c:Nat}(h:sD env b)(k:c<=b):sD env c:=⟨by have:=h.len;omega,h.wf⟩
theorem sD.more{env:Env}{b:Nat}(h:sD env (b+1))(x:fI){t:gq}(ht:jG t):sD (env++[(x,t)]) b:=⟨by have:=h.len;simp;omega,λv hv=>by
 rcases aM.1 hv with hv|hv
 ·exact h.wf v hv
 ·simp at hv;subst hv;exact ht⟩
theorem zB2(t:gq)(vs:List fI)(w:List gq):jG (qo t vs w).1:=by
 unfold qo;split
 ·exact rQ
 split
 ·exact rQ
 split
 ·exact Fp _
 ·exact rQ
theorem wW{L:iV}{s:CS}{b:Nat}(h:lH L s b)(t:gq)(ln cl:Int):lH L (kH t ln cl s).2 b/\jG (kH t ln cl s).1:=by
 refine⟨?_,zB2 _ _ _⟩;unfold kH;simp only;split
 ·exact vg h _ _ _
 ·exact h
theorem GM{L:iV}{s:CS}{b:Nat}(h:lH L s b)(t:gq)(ln cl:Int):lH L (pW t ln cl s).2 b/\jG (pW t ln cl s).1:=by
 refine⟨?_,Fp _⟩;unfold pW;simp only;split
 ·exact vg h _ _ _
 ·exact h
theorem E9{L:iV}{s:CS}{b:Nat}(h:lH L s (b+1))(z:iB)(t u:gq)(ln cl:Int):lH L (mR z t u ln cl s).2 b:=by
 unfold mR;split
 ·exact h.less (by omega)
 ·exact⟨h.wth,by have:=h.sites;simp;omega,h.tab,h.m0,h.m1,h.few,h.ist⟩
theorem xg{L:iV}{s:CS}{b:Nat}(h:lH L s (b+1))(z:iB)(t u:gq)(ln cl:Int):lH L (kz z t u ln cl s).2 b:=by
 unfold kz;split
 ·exact h.less (by omega)
 split
 ·exact h.less (by omega)
 split
 ·exact E9 h _ _ _ _ _
 ·exact vg (h.less (by omega)) _ _ _
theorem JQ{l:List kY}(h:l.length<=256)(x:kY):(kr 256 l x).2.length<=256:=by
 unfold kr;split
 ·exact h
 split
 ·exact h
 split
 ·exact h
 ·simp;omega
theorem Ny{m:Int}{l:List kY}{x y:kY}(h:y∈(kr m l x).2):y∈l\/y=x:=by
 unfold kr at h;split at h
 ·exact .inl h
 split at h
 ·exact .inl h
 split at h
 ·exact .inl h
 ·rcases aM.1 h with h|h
  ·exact .inl h
  ·exact .inr (by simpa using h)
theorem X5{L:iV}{s:CS}{b:Nat}(h:lH L s b)(ln cl:Int)(e:jI)(l:List gq)(he:kI L ⟨bs [],e.module,e.decl⟩)(hl:l.length<=1000000):lH L (tN L ln cl e l s).2 b/\jG (tN L ln cl e l s).1.2:=by
 unfold tN;by_cases q:(tL L e l).2=false
 ·rw[aC q];exact⟨vg h _ _ _,rQ⟩
 ·rw[aB q];simp only;have h2:lH L {s with tab:=(kr 256 s.tab ⟨e.module,e.decl,l⟩).2} b:=⟨h.wth,h.sites,JQ h.tab _,h.m0,h.m1,h.few,λx hx=>by
   rcases Ny hx with hx|hx
   ·exact h.ist x hx
   ·subst hx;exact⟨he,hl⟩⟩
  refine⟨?_,Fp _⟩;split
  ·exact vg h2 _ _ _
  ·exact h2
section
variable (L:iV)
theorem X6(hL:oL L)(n:gz)(e:jI)(he:kI L ⟨bs [],e.module,e.decl⟩)(l:List gq)(hl:l.length<=1000000)(s:CS)(ht:s.tab.length<=256):
  MCall Pg 135 [.c (.ptr 0 0),.ag (n.enc.map .d),.ag (e.enc.map .d),.c (.d (.sl false 4 (l.map gq.enc)))] (qy L s) (.tup [.ag ((tN L n.line n.col e l s).1.1.enc.map .d),.ag ((tN L n.line n.col e l s).1.2.enc.map .d)]) (JP L (tN L n.line n.col e l s).2):=by
 refine zBG mD λts hts ok hb c hN hp=>?_;obtain⟨t,u,v,w,x,y,rfl⟩:=mZ hts;have hs:=zIr L hL e he l hl s;have hf:=vK L n 9 s;have ha:=XY 256 s.tab (by omega) ⟨e.module,e.decl,l⟩ hl;have hb0:=lD 0;unfold tN;generalize tL L e l=g at*
 unfold Wo;simp;refine gU [0,1,2,3,4,5] hs ?_;by_cases g0:g.2=false
 ·rw[aC g0];simp[g0];refine gU [0,1,2,3,4,5] hf ?_;simp;refine gp hb0 ?_;simp;exact fO [0,1,2,9,4,11,3,5] [6,7,8,9,10,11] (by simp[noC,cN,yx,vY,nQ,encI,encS,AV.erds,AV.erd])
 ·rw[aB g0];simp only;generalize hr:kr 256 s.tab ⟨e.module,e.decl,l⟩=r at*
  have hf2:=vK L n r.1.2 {s with tab:=r.2};rw[Bool.not_eq_false]at g0;simp[g0];refine gY [1,5] ha (by simp[kY.enc]) ?_;by_cases r0:r.1.2=0
  ·rw[aB (by simp[r0])];simp[r0];refine⟨by decide,by decide,?_⟩;exact fO [0,1,2,9,4,11,3,15] [6,7,8,9,10,11] (by simp[cN,yx,encI,encS,AV.erds,AV.erd])
  ·rw[aC r0];simp[r0];refine⟨by decide,?_⟩;refine gU [0,1,2,3,4,15] hf2 ?_;simp;refine⟨by decide,?_⟩;exact fO [0,1,2,9,4,11,3,15] [6,7,8,9,10,11] (by simp[cN,yx,encI,encS,AV.erds,AV.erd])
end
mutual
def iK:gz->Nat
|.mk _ _ _ _ _ _ _ l=>iW l+1
def iW:List gz->Nat
|[]=>0
|n::l=>iK n+iW l
end
theorem qP(n:gz):iK n=iW n.kids+1:=by cases n;rw[iK];try rfl
abbrev GN(c:iB)(t:gq):AV:=.tup [.ag (c.enc.map .d),.ag (t.enc.map .d)]
abbrev zI2(n:gz)(env:Env):List AV:=[.c (.ptr 0 0),.ag (n.enc.map .d),.c (.d (.sl false 5 (env.map jA)))]
section
variable (L:iV)
def jR(f:FuncId)(n:gz)(i:Inf):Prop:=∀env s b,sD env (iK n)->lH L s (8*iK n+b)->MCall Pg f (zI2 n env) (qy L s) (GN (i env s).1.1 (i env s).1.2) (JP L (i env s).2)
def jm(n:gz)(i:Inf):Prop:=∀env s b,sD env (iK n)->lH L s (8*iK n+b)->lH L (i env s).2 b/\jG (i env s).1.2
abbrev rR(n:gz)(i:Inf):Prop:=jR L 58 n i/\jm L n i
theorem zJH(n a b:gz)(hk:n.kids=[a,b])(ia ib:Inf)(ha:jm L a ia)(hb:jm L b ib):jm L n (pX n a ia ib):=λenv s k he hs=>by
 have hn:iK n=iK a+iK b+1:=by rw[qP,hk];simp[iW]
 have h1:=ha env s (1+8*iK b+k) (he.less (by omega)) (hs.less (by omega));unfold pX;simp only;by_cases q:0<n.types.length/\(ia env s).2.e=0
 ·rw[aC q];have h2:=wW h1.1 (n.types.getD 0 noT) n.line n.col;have h3:=xg (b:=8*iK b+k) (h2.1.less (by omega)) (ia env s).1.1 (ia env s).1.2 (kH (n.types.getD 0 noT) n.line n.col (ia env s).2).1 a.line a.col;exact hb _ _ k ((he.less (c:=iK b+1) (by omega)).more _ h2.2) h3
 ·rw[aB q];exact hb _ _ k ((he.less (c:=iK b+1) (by omega)).more _ h1.2) (h1.1.less (by omega))
theorem zId(n a b:gz)(hk:n.kids=[a,b])(ia ib:Inf)(ha:rR L a ia)(hb:rR L b ib):jR L 82 n (pX n a ia ib):=λenv s k he hs=>by
 refine zFB mD λts hts ok hbk c hN hp=>?_;obtain⟨t,u,v,w,x,y,rfl⟩:=mZ hts;have hn:iK n=iK a+iK b+1:=by rw[qP,hk];simp[iW]
 have m1:=ha.1 env s (1+8*iK b+k) (he.less (by omega)) (hs.less (by omega));have p1:=ha.2 env s (1+8*iK b+k) (he.less (by omega)) (hs.less (by omega));unfold pX;simp only;generalize ia env s=r1 at*
 have hel:=he.len;unfold Ws;simp[hk];refine gU [0,1,2,3,4,5] m1 ?_;by_cases q:0<n.types.length/\r1.2.e=0
 ·rw[aC q];obtain⟨q1,q2⟩:=q;have q1':(0:Int)<n.types.length:=by omega
  obtain⟨ta,tr,hty⟩:∃ta tr,n.types=ta::tr:=by
   match h:n.types,q1 with
   |ta::tr,_=>exact⟨ta,tr,rfl⟩
  have e3:n.types.getD 0 noT=ta:=by rw[hty];try rfl
  rw[e3];have m2:=DW L ta n.line n.col r1.2 p1.1.wth;have p2:=wW p1.1 ta n.line n.col;generalize kH ta n.line n.col r1.2=r2 at*
  have m3:=yz L r1.1.1 r1.1.2 r2.1 a r2.2 (by have:=p2.1.sites;omega);have p3:=xg (b:=8*iK b+k) (p2.1.less (by omega)) r1.1.1 r1.1.2 r2.1 a.line a.col;generalize kz r1.1.1 r1.1.2 r2.1 a.line a.col r2.2=r3 at*
  have hwi:=Nu env (by omega) n.text r2.1;have m4:=hb.1 (env++[(n.text,r2.1)]) r3.2 k ((he.less (c:=iK b+1) (by omega)).more _ p2.2) p3;simp only;generalize ib (env++[(n.text,r2.1)]) r3.2=r4 at*
  simp[q1,q1',q2];simp[hty];refine gY [0,1,2,14,4,15] m2 (by simp[q2]) ?_;simp[hk];refine⟨by decide,?_⟩;refine gU [0,1,2,14,4,15] m3 ?_;simp[hk];refine⟨by decide,?_⟩;refine gp hwi ?_;simp;refine gU [0,1,2,19,4,15] m4 ?_;simp;refine⟨by decide,by decide,?_⟩;exact fO [0,1,2,9,4,11,20,21] [6,7,8,9,10,11] (by simp[cK,yx,encI,encS,AV.erds,AV.erd])
 ·rw[aB q];have hwi:=Nu env (by omega) n.text r1.1.2;have m4:=hb.1 (env++[(n.text,r1.1.2)]) r1.2 k ((he.less (c:=iK b+1) (by omega)).more _ p1.2) (p1.1.less (by omega));generalize ib (env++[(n.text,r1.1.2)]) r1.2=r4 at*
  by_cases q1:0<n.types.length
  ·have q2:¬r1.2.e=0:=λz=>q ⟨q1,z⟩;have q1':(0:Int)<n.types.length:=by omega
   simp[q1,q1',q2,hk];refine gp hwi ?_;simp;refine gU [0,1,2,14,4,15] m4 ?_;simp;refine⟨by decide,by decide,?_⟩;exact fO [0,1,2,9,4,11,18,19] [6,7,8,9,10,11] (by simp[cK,yx,encI,encS,AV.erds,AV.erd])
  ·have q1':¬(0:Int)<n.types.length:=by omega
   simp[q1,q1',hk];refine gp hwi ?_;simp;refine gU [0,1,2,14,4,15] m4 ?_;simp;refine⟨by decide,by decide,?_⟩;exact fO [0,1,2,9,4,11,18,19] [6,7,8,9,10,11] (by simp[cK,yx,encI,encS,AV.erds,AV.erd])
end
end Go.Gr
namespace Go.Abs
theorem MCall.erd{P:Program}{f:FuncId}{args args':List AV}{bs:List Blk}{v:AV}{bs':List Blk}(hp:MCall P f args' bs v bs')(e:AV.erds args=args'):MCall P f args bs v bs':=by
 subst e;exact⟨hp.1,hp.2.1,hp.2.2.1,hp.2.2.2.1,hp.2.2.2.2.1,λh ρ w us H hG r=>hp.2.2.2.2.2 h ρ w us H hG (zai.erds r)⟩
end Go.Abs
namespace Go.Gr
open Go.Abs Go.Proofs
@[simp] theorem AV.erd_ag(l:List D):AV.erd (.ag (l.map .d))=.ag ((D.erdL l).map .d):=by
 induction l with
 |nil=>rfl
 |cons x l ih=>
  simp only[AV.erd,AV.ag.injEq,List.map_cons,D.erdL,bv]at ih⊢;rw[dh];exact⟨rfl,ih⟩
attribute [simp] gq.erdLL
section
variable (L:iV)
theorem DY(n:gz)(i:Inf)(hi:jm L n i)(t0:gq)(env:Env)(s:CS)(k:Nat)(he:sD env (iK n))(hs:lH L s (8*iK n+1+k)):lH L (nP n i t0 env s).2 k:=by
 have h1:=hi env s (1+k) (he.less (by omega)) (hs.less (by omega));unfold nP;exact xg (h1.1.less (by omega)) _ _ _ _ _
theorem zg(n:gz)(i:Inf)(hi:rR L n i)(t0:gq)(env:Env)(s:CS)(k:Nat)(he:sD env (iK n))(hs:lH L s (8*iK n+1+k)):
  MCall Pg 140 [.c (.ptr 0 0),.ag (n.enc.map .d),.c (.d (.sl false 5 (env.map jA))),.ag (t0.enc.map .d)] (qy L s) (.ag ((nP n i t0 env s).1.enc.map .d)) (JP L (nP n i t0 env s).2):=by
 refine zEc mD λts hts ok hbk c hN hp=>?_;obtain⟨t,u,v,w,x,y,rfl⟩:=mZ hts;have m1:=hi.1 env s (1+k) (he.less (by omega)) (hs.less (by omega));have p1:=hi.2 env s (1+k) (he.less (by omega)) (hs.less (by omega));unfold nP;simp only;generalize i env s=r1 at*
 have m2:=yz L r1.1.1 r1.1.2 t0 n r1.2 (by have:=p1.1.sites;omega);generalize kz r1.1.1 r1.1.2 t0 n.line n.col r1.2=r2 at*
 unfold XD;simp;refine gU [0,1,2,3,4,5] m1 ?_;simp;refine gU [0,1,2,13,4,14] m2 ?_;simp;exact fP [0,1,2,9,4,11,17,14] [6,7,8,9,10,11]
theorem Nz(n a:gz)(hk:n.kids=[a])(ia:Inf)(ha:jm L a ia):jm L n (xV n a ia):=λenv s k he hs=>by
 have hn:iK n=iK a+1:=by rw[qP,hk];simp[iW]
 have h1:=wW (b:=8*iK a+1+k) (hs.less (by omega)) (n.types.getD 0 noT) n.line n.col;unfold xV;simp only;have h2:lH L (if 1<n.types.length/\(kH (n.types.getD 0 noT) n.line n.col s).2.e=0 then kH (n.types.getD 1 noT) n.line n.col (kH (n.types.getD 0 noT) n.line n.col s).2 else(noT,(kH (n.types.getD 0 noT) n.line n.col s).2)).2 (8*iK a+1+k):=by
  split
  ·exact(wW h1.1 _ _ _).1
  ·exact h1.1
 generalize (if 1<n.types.length/\(kH (n.types.getD 0 noT) n.line n.col s).2.e=0 then kH (n.types.getD 1 noT) n.line n.col (kH (n.types.getD 0 noT) n.line n.col s).2 else(noT,(kH (n.types.getD 0 noT) n.line n.col s).2))=q at*
 have h3:=ha (env++[(n.text,(kH (n.types.getD 0 noT) n.line n.col s).1)]) q.2 (1+k) ((he.less (c:=iK a+1) (by omega)).more _ h1.2) (h2.less (by omega));refine(GM ?_ _ _ _);split
 ·exact xg (h3.1.less (by omega)) _ _ _ _ _
 ·exact h3.1.less (by omega)
theorem zI3(n a:gz)(hk:n.kids=[a])(hty0:1<=n.types.length)(ia:Inf)(ha:rR L a ia):jR L 83 n (xV n a ia):=λenv s k he hs=>by
 refine zHe mD λts hts ok hbk c hN hp=>?_;obtain⟨t,u,v,w,x,y,rfl⟩:=mZ hts;have hn:iK n=iK a+1:=by rw[qP,hk];simp[iW]
 have hel:=he.len;have hb0:=lD 0;obtain⟨ta,tr,hty⟩:∃ta tr,n.types=ta::tr:=by
  match h:n.types,hty0 with
  |ta::tr,_=>exact⟨ta,tr,rfl⟩
 have e3:n.types.getD 0 noT=ta:=by rw[hty];try rfl
 unfold xV;simp only;rw[e3];have m1:=DW L ta n.line n.col s hs.wth;have p1:=wW (b:=8*iK a+1+k) (hs.less (by omega)) ta n.line n.col;generalize kH ta n.line n.col s=r1 at*
 have hwi:=Nu env (by omega) n.text r1.1;have heo:sD (env++[(n.text,r1.1)]) (iK a):=(he.less (c:=iK a+1) (by omega)).more _ p1.2;unfold Wt;cases tr with
 |nil=>
  have l1:n.types.length=1:=by rw[hty];try rfl
  rw[aB (by omega),aB (by omega)];have m3:=ha.1 (env++[(n.text,r1.1)]) r1.2 (1+k) heo (p1.1.less (by omega));simp only;generalize ia (env++[(n.text,r1.1)]) r1.2=r3 at*
  have m4:=MCall.erd (args:=[.c (.ptr 0 0),.ag [.d (.int .i64 6),.d (.str (bs [])),.d (.sl true 1 []),.d (.sl true 4 [r1.1.enc,r3.1.2.enc])],.ag (n.enc.map .d)]) (DX L (kS r1.1 r3.1.2) n r3.2) (by simp[AV.erds,AV.erd,AC.erd,D.erd,D.erdL,D.erdE,kS,tT,nQ,vY,encS]);generalize pW (kS r1.1 r3.1.2) n.line n.col r3.2=r4 at*
  simp[hty];refine gU [0,1,2,3,4,5] m1 ?_;simp;refine⟨by decide,?_⟩;refine gp hb0 ?_;simp[hty,hk];refine gp hwi ?_;simp;refine gU [0,1,2,3,4,5] m3 ?_;simp[hty];refine⟨by decide,?_⟩;refine gU [0,1,2,16,4,17] m4 ?_;simp;refine⟨by decide,?_⟩;exact fP [0,1,2,9,4,11,16,17] [6,7,8,9,10,11]
 | cons tb tr=>
  have l1:1<n.types.length:=by rw[hty];simp
  have l1':(1:Int)<(tr.length:Int)+1+1:=by omega
  have e4:n.types.getD 1 noT=tb:=by rw[hty];try rfl
  rw[e4,aC l1];by_cases q2:r1.2.e=0
  ·rw[aC ⟨l1,q2⟩];have m2:=DW L tb n.line n.col r1.2 p1.1.wth;have p2:=wW p1.1 tb n.line n.col;generalize kH tb n.line n.col r1.2=r2 at*
   have m3:=ha.1 (env++[(n.text,r1.1)]) r2.2 (1+k) heo (p2.1.less (by omega));have p3:=ha.2 (env++[(n.text,r1.1)]) r2.2 (1+k) heo (p2.1.less (by omega));generalize ia (env++[(n.text,r1.1)]) r2.2=r3 at*
   have m4:=yz L r3.1.1 r3.1.2 r2.1 a r3.2 (by have:=p3.1.sites;omega);generalize kz r3.1.1 r3.1.2 r2.1 a.line a.col r3.2=r4 at*
   have m5:=MCall.erd (args:=[.c (.ptr 0 0),.ag [.d (.int .i64 6),.d (.str (bs [])),.d (.sl true 1 []),.d (.sl true 4 [r1.1.enc,r2.1.enc])],.ag (n.enc.map .d)]) (DX L (kS r1.1 r2.1) n r4.2) (by simp[AV.erds,AV.erd,AC.erd,D.erd,D.erdL,D.erdE,kS,tT,nQ,vY,encS]);simp only;generalize pW (kS r1.1 r2.1) n.line n.col r4.2=r5 at*
   simp[hty];refine gU [0,1,2,3,4,5] m1 ?_;simp;refine⟨by decide,?_⟩;refine gp hb0 ?_;simp[hty,q2,l1'];refine gY [0,1,2,3,4,5] m2 (by simp[q2]) ?_;simp[hk];refine⟨by decide,?_⟩;refine gp hwi ?_;simp;refine gU [0,1,2,3,4,5] m3 ?_;simp[hty,l1',hk];refine⟨by decide,?_⟩;refine gU [0,1,2,16,4,17] m4 ?_;simp;refine⟨by decide,?_⟩;refine gU [0,1,2,20,4,17] m5 ?_;simp;refine⟨by decide,?_⟩;exact fP [0,1,2,9,4,11,20,17] [6,7,8,9,10,11]
  ·rw[aB (λz=>q2 z.2)];have m3:=ha.1 (env++[(n.text,r1.1)]) r1.2 (1+k) heo (p1.1.less (by omega));have p3:=ha.2 (env++[(n.text,r1.1)]) r1.2 (1+k) heo (p1.1.less (by omega));generalize ia (env++[(n.text,r1.1)]) r1.2=r3 at*
   have m4:=MCall.erd (args:=[.c (.ptr 0 0),.ag (r3.1.1.enc.map .d),.ag (r3.1.2.enc.map .d),.ag (noT.enc.map .d),.ag (a.enc.map .d)]) (yz L r3.1.1 r3.1.2 noT a r3.2 (by have:=p3.1.sites;omega)) (by simp[AV.erds,AV.erd,AC.erd,D.erd,D.erdL,D.erdE,kS,tT,nQ,vY,encS]);generalize kz r3.1.1 r3.1.2 noT a.line a.col r3.2=r4 at*
   have m5:=MCall.erd (args:=[.c (.ptr 0 0),.ag [.d (.int .i64 6),.d (.str (bs [])),.d (.sl true 1 []),.d (.sl true 4 [r1.1.enc,noT.enc])],.ag (n.enc.map .d)]) (DX L (kS r1.1 noT) n r4.2) (by simp[AV.erds,AV.erd,AC.erd,D.erd,D.erdL,D.erdE,kS,tT,nQ,vY,encS]);simp only;generalize pW (kS r1.1 noT) n.line n.col r4.2=r5 at*
   simp[hty];refine gU [0,1,2,3,4,5] m1 ?_;simp;refine⟨by decide,?_⟩;refine gp hb0 ?_;simp[hty,q2,l1',hk];refine gp hwi ?_;simp;refine gU [0,1,2,3,4,5] m3 ?_;simp[hty,l1',hk];refine⟨by decide,?_⟩;refine gY [0,1,2,16,4,17] m4 (by simp[noT,bT]) ?_;simp;refine⟨by decide,?_⟩;refine gY [0,1,2,20,4,17] m5 (by simp[noT,bT]) ?_;simp;refine⟨by decide,?_⟩;exact fP [0,1,2,9,4,11,20,17] [6,7,8,9,10,11]
theorem OA{L:iV}{b:Nat}(t0:gq)(h0:jG t0)(ln cl:Int)(r:(iB × gq) × CS)(hs:lH L r.2 (b+1))(ht:jG r.1.2):lH L (ko t0 ln cl r).2 b/\jG (ko t0 ln cl r).1.2:=by
 unfold ko;split
 ·exact⟨E9 hs _ _ _ _ _,h0⟩
 ·exact⟨hs.less (by omega),ht⟩
theorem zI4{a b:gq}(ha:jG a)(hb:jG b):jG (kS a b):=(mI _).2 ⟨rfl,λx hx=>by
 have hx:x∈[a,b]:=hx;simp at hx;rcases hx with rfl|rfl
 ·exact ha
 ·exact hb,.inr (.inr (.inl ⟨rfl,rfl,rfl⟩))⟩
theorem zI5(n a b:gz)(hk:n.kids=[a,b])(ia ib:Inf)(ha:jm L a ia)(hb:jm L b ib):jm L n (xW n b ia ib):=λenv s k he hs=>by
 have hn:iK n=iK a+iK b+1:=by rw[qP,hk];simp[iW]
 have h1:=ha env s (2+8*iK b+k) (he.less (by omega)) (hs.less (by omega));have h2:=OA (b:=8*iK b+1+k) (kS noT noT) (zI4 rQ rQ) n.line n.col (ia env s) (h1.1.less (by omega)) h1.2;unfold xW;simp only;generalize ko (kS noT noT) n.line n.col (ia env s)=r at*
 by_cases q:r.1.2.kind≠6
 ·rw[aC q];exact⟨vg (h2.1.less (by omega)) _ _ _,rQ⟩
 ·rw[aB q];have h3:=hb env r.2 (1+k) (he.less (by omega)) (h2.1.less (by omega));have hl:=EZ h2.2 (by omega);exact⟨xg (h3.1.less (by omega)) _ _ _ _ _,yH h2.2 (Aj hl).1⟩
theorem zG8(n a b:gz)(hk:n.kids=[a,b])(ia ib:Inf)(ha:rR L a ia)(hb:rR L b ib):jR L 84 n (xW n b ia ib):=λenv s k he hs=>by
 refine zEb mD λts hts ok hbk c hN hp=>?_;obtain⟨t,u,v,w,x,y,rfl⟩:=mZ hts;have hn:iK n=iK a+iK b+1:=by rw[qP,hk];simp[iW]
 have hb0:=lD 0;have m1:=ha.1 env s (2+8*iK b+k) (he.less (by omega)) (hs.less (by omega));have p1:=ha.2 env s (2+8*iK b+k) (he.less (by omega)) (hs.less (by omega));unfold xW;simp only;generalize ia env s=r1 at*
 unfold Wu;by_cases t0:r1.1.2.kind=0
 ·have e1:ko (kS noT noT) n.line n.col r1=(((mR r1.1.1 r1.1.2 (kS noT noT) n.line n.col r1.2).1,kS noT noT),(mR r1.1.1 r1.1.2 (kS noT noT) n.line n.col r1.2).2):=by unfold ko;rw[aC t0]
  rw[e1];have m2:=MCall.erd (args:=[.c (.ptr 0 0),.ag (r1.1.1.enc.map .d),.ag (r1.1.2.enc.map .d),.ag [.d (.int .i64 6),.d (.str (bs [])),.d (.sl true 1 []),.d (.sl true 4 [[.int .i64 0,.str (bs []),.sl true 1 [],.sl true 4 []],[.int .i64 0,.str (bs []),.sl true 1 [],.sl true 4 []]])],.ag (n.enc.map .d)]) (E8 L r1.1.1 r1.1.2 (kS noT noT) n r1.2 (by have:=p1.1.sites;omega)) (by simp[AV.erds,AV.erd,AC.erd,D.erd,D.erdL,D.erdE,kS,tT,nQ,vY,encS]);have p2:=E9 (b:=8*iK b+1+k) (p1.1.less (by omega)) r1.1.1 r1.1.2 (kS noT noT) n.line n.col;generalize mR r1.1.1 r1.1.2 (kS noT noT) n.line n.col r1.2=r2 at*
  have m3:=hb.1 env r2.2 (1+k) (he.less (by omega)) (p2.less (by omega));have p3:=hb.2 env r2.2 (1+k) (he.less (by omega)) (p2.less (by omega));simp only;generalize ib env r2.2=r3 at*
  have k6:¬(kS noT noT).kind≠6:=by decide
  rw[aB k6];have kk0:jU (kS noT noT)=noT:=rfl;have kk1:jV (kS noT noT)=noT:=rfl;rw[kk0,kk1];have m4:=MCall.erd (args:=[.c (.ptr 0 0),.ag (r3.1.1.enc.map .d),.ag (r3.1.2.enc.map .d),.ag [.d (.int .i64 0),.d (.str (bs [])),.d (.sl true 1 []),.d (.sl true 4 [])],.ag (b.enc.map .d)]) (yz L r3.1.1 r3.1.2 noT b r3.2 (by have:=p3.1.sites;omega)) (by simp[AV.erds,AV.erd,AC.erd,D.erd,D.erdL,D.erdE,kS,tT,nQ,vY,encS]);generalize kz r3.1.1 r3.1.2 noT b.line b.col r3.2=r4 at*
  simp[hk];refine gU [0,1,2,3,4,5] m1 ?_;simp[t0];refine gU [0,1,2,14,4,15] m2 ?_;simp[hk];refine gU [0,1,2,19,4,15] m3 ?_;simp[hk];refine gU [0,1,2,20,4,21] m4 ?_;simp;refine⟨by decide,by decide,?_⟩;exact fP [0,1,2,9,4,11,24,21] [6,7,8,9,10,11]
 have e1:ko (kS noT noT) n.line n.col r1=r1:=by unfold ko;rw[aB t0]
 rw[e1];by_cases k6:r1.1.2.kind=6;rotate_left
 ·rw[aC k6];have m2:=vK L n 16 r1.2;generalize lG n.line n.col 16 r1.2=r2 at*
  simp[hk];refine gU [0,1,2,3,4,5] m1 ?_;simp[t0,k6];refine gU [0,1,2,14,4,15] m2 ?_;simp;refine gp hb0 ?_;simp;exact fP [0,1,2,9,4,11,14,15] [6,7,8,9,10,11]
 rw[aB (λz=>z k6)];obtain⟨ta,tb,hty⟩:=Nw (EZ p1.2 k6);have kk0:jU r1.1.2=ta:=by unfold jU;rw[hty];try rfl
 have kk1:jV r1.1.2=tb:=by unfold jV;rw[hty];try rfl
 rw[kk0,kk1];have m3:=hb.1 env r1.2 (1+k) (he.less (by omega)) (p1.1.less (by omega));have p3:=hb.2 env r1.2 (1+k) (he.less (by omega)) (p1.1.less (by omega));generalize ib env r1.2=r3 at*
 have m4:=yz L r3.1.1 r3.1.2 ta b r3.2 (by have:=p3.1.sites;omega);simp only;generalize kz r3.1.1 r3.1.2 ta b.line b.col r3.2=r4 at*
 simp[hk];refine gU [0,1,2,3,4,5] m1 ?_;simp[t0,k6,hk];refine gU [0,1,2,14,4,15] m3 ?_;simp[hty,hk];refine gU [0,1,2,18,4,19] m4 ?_;simp[hty];refine⟨by decide,by decide,?_⟩;exact fP [0,1,2,9,4,11,22,19] [6,7,8,9,10,11]
theorem zJJ(n a:gz)(hk:n.kids=[a])(ia:Inf)(ha:jm L a ia):jm L n (pY n ia):=λenv s k he hs=>by
 have hn:iK n=iK a+1:=by rw[qP,hk];simp[iW]
 have h1:=ha env s (1+k) (he.less (by omega)) (hs.less (by omega));unfold pY;simp only;generalize ia env s=r at*
 have hf:jG (je r.1.2 n.text).1:=by
  by_cases q:(je r.1.2 n.text).2=true
  ·exact yH h1.2 (JK _ _ _ q)
  ·have:(je r.1.2 n.text).1=noT:=by
    unfold je at q⊢;generalize r.1.2.names=ns at*
    generalize r.1.2.kids=ks at*
    clear h1
    induction ns generalizing ks with
    |nil=>rw[oJ];all_goals (intros;contradiction)
    | cons x ns ih=>
     cases ks with
     |nil=>rw[oJ];all_goals (intros;contradiction)
     |cons y ks=>
      rw[oJ]at q⊢;by_cases e:x=n.text
      ·rw[aC e]at q;exact absurd rfl q
      ·rw[aB e]at q⊢;exact ih ks q
   rw[this];exact rQ
 refine⟨?_,hf⟩;have h2:lH L (if r.1.2.kind=0 then mR r.1.1 r.1.2 (.mk 5 (bs []) [n.text] [noT]) n.line n.col r.2 else(r.1.1,r.2)).2 k:=by
  split
  ·exact E9 (h1.1.less (by omega)) _ _ _ _ _
  ·exact h1.1.less (by omega)
 split
 ·exact h2
 ·exact vg h2 _ _ _
theorem zIh(n a:gz)(hk:n.kids=[a])(ia:Inf)(ha:rR L a ia):jR L 86 n (pY n ia):=λenv s k he hs=>by
 refine zFC mD λts hts ok hbk c hN hp=>?_;obtain⟨t,u,v,w,x,y,rfl⟩:=mZ hts;have hn:iK n=iK a+1:=by rw[qP,hk];simp[iW]
 have m1:=ha.1 env s (1+k) (he.less (by omega)) (hs.less (by omega));have p1:=ha.2 env s (1+k) (he.less (by omega)) (hs.less (by omega));unfold pY;simp only;generalize ia env s=r1 at*
 have hf:=NZ r1.1.2 n.text (Fw p1.2);generalize hfr:je r1.1.2 n.text=f at*
 unfold Wz;by_cases t0:r1.1.2.kind=0
 ·rw[aC t0,aC (.inr t0)];have m2:=MCall.erd (args:=[.c (.ptr 0 0),.ag (r1.1.1.enc.map .d),.ag (r1.1.2.enc.map .d),.ag [.d (.int .i64 5),.d (.str (bs [])),.d (.sl true 1 [[.str n.text]]),.d (.sl true 4 [[.int .i64 0,.str (bs []),.sl true 1 [],.sl true 4 []]])],.ag (n.enc.map .d)]) (E8 L r1.1.1 r1.1.2 (.mk 5 (bs []) [n.text] [noT]) n r1.2 (by have:=p1.1.sites;omega)) (by simp[AV.erds,AV.erd,AC.erd,D.erd,D.erdL,D.erdE,kS,tT,nQ,vY,encS]);generalize mR r1.1.1 r1.1.2 (.mk 5 (bs []) [n.text] [noT]) n.line n.col r1.2=r2 at*
  simp[hk];refine gU [0,1,2,3,4,5] m1 ?_;simp;refine gp hf ?_;simp[t0];refine gU [0,1,2,14,4,15] m2 ?_;simp;refine⟨by decide,?_⟩;exact fP [0,1,2,9,4,11,20,15] [6,7,8,9,10,11]
 ·rw[aB t0];by_cases f2:f.2=true
  ·rw[aC (.inl f2)];simp[hk];refine gU [0,1,2,3,4,5] m1 ?_;simp;refine gp hf ?_;simp[t0,f2];refine⟨by decide,?_⟩;exact fP [0,1,2,9,4,11,14,15] [6,7,8,9,10,11]
  ·rw[aB (by simp[f2,t0])];have m2:=vK L n 17 r1.2;simp only;generalize lG n.line n.col 17 r1.2=r2 at*
   simp[hk];refine gU [0,1,2,3,4,5] m1 ?_;simp;refine gp hf ?_;simp[t0,f2];refine gU [0,1,2,14,4,15] m2 ?_;simp;refine⟨by decide,?_⟩;exact fP [0,1,2,9,4,11,14,15] [6,7,8,9,10,11]
end
section
variable (L:iV)
theorem OB(n a:gz)(hk:n.kids=[a])(ia:Inf)(ha:jm L a ia):jm L n (xZ n ia):=λenv s k he hs=>by
 have hn:iK n=iK a+1:=by rw[qP,hk];simp[iW]
 have h1:=ha env s (2+k) (he.less (by omega)) (hs.less (by omega));unfold xZ;simp only;generalize ia env s=r at*
 by_cases q1:r.2.e≠0
 ·rw[aC q1];exact⟨h1.1.less (by omega),h1.2⟩
 rw[aB q1];have h2:=wW h1.1 (n.types.getD 0 noT) n.line n.col;generalize kH (n.types.getD 0 noT) n.line n.col r.2=u at*
 by_cases q2:u.2.e≠0\/pV r.1.2 u.1=true
 ·rw[aC q2];exact⟨h2.1.less (by omega),h2.2⟩
 rw[aB q2];have h3:lH L (if r.1.2.kind≠0 then mR r.1.1 r.1.2 noT n.line n.col u.2 else(r.1.1,u.2)).2 (1+k):=by
  split
  ·exact E9 (h2.1.less (by omega)) _ _ _ _ _
  ·exact h2.1.less (by omega)
 generalize (if r.1.2.kind≠0 then mR r.1.1 r.1.2 noT n.line n.col u.2 else(r.1.1,u.2))=y at*
 split
 ·exact⟨h3.less (by omega),h2.2⟩
 split
 ·exact⟨E9 (h3.less (by omega)) _ _ _ _ _,h2.2⟩
 ·exact⟨h3.less (by omega),h2.2⟩
@[simp] theorem iB.enc_0(c:iB):c.enc[0]?=some (.int .i64 c.kind):=by rw[c.enc_eq];try rfl
@[simp] theorem iB.enc_1(c:iB):c.enc[1]?=some (.int .i64 c.n):=by rw[c.enc_eq];try rfl
@[simp] theorem iB.enc_g0(c:iB)(h:0<c.enc.length):c.enc[0]=.int .i64 c.kind:=zf c.enc_0 h
@[simp] theorem iB.enc_g1(c:iB)(h:1<c.enc.length):c.enc[1]=.int .i64 c.n:=zf c.enc_1 h
theorem zIN(n a:gz)(hk:n.kids=[a])(hty0:1<=n.types.length)(ia:Inf)(ha:rR L a ia):jR L 89 n (xZ n ia):=λenv s k he hs=>by
 refine zHf mD λts hts ok hbk c hN hp=>?_;obtain⟨t,u,v,w,x,y,rfl⟩:=mZ hts;have hn:iK n=iK a+1:=by rw[qP,hk];simp[iW]
 have hb0:=lD 0;obtain⟨ta,tr,hty⟩:∃ta tr,n.types=ta::tr:=by
  match h:n.types,hty0 with
  |ta::tr,_=>exact⟨ta,tr,rfl⟩
 have e3:n.types.getD 0 noT=ta:=by rw[hty];try rfl
 have m1:=ha.1 env s (2+k) (he.less (by omega)) (hs.less (by omega));have p1:=ha.2 env s (2+k) (he.less (by omega)) (hs.less (by omega));unfold xZ;simp only;rw[e3];generalize ia env s=r1 at*
 unfold XC;by_cases q1:r1.2.e=0;rotate_left
 ·rw[aC q1];simp[hk];refine gU [0,1,2,3,4,5] m1 ?_;simp[q1];refine⟨by decide,?_⟩;exact fP [0,1,2,9,4,11,14,15] [6,7,8,9,10,11]
 rw[aB (by simp[q1])];have m2:=DW L ta n.line n.col r1.2 p1.1.wth;have p2:=wW p1.1 ta n.line n.col;generalize kH ta n.line n.col r1.2=r2 at*
 have hsb:=GA r1.1.2 r2.1;by_cases q2:r2.2.e=0;rotate_left
 ·rw[aC (.inl q2)];simp[hk];refine gU [0,1,2,3,4,5] m1 ?_;simp[q1,hty];refine gY [0,1,2,14,4,15] m2 (by simp[q1]) ?_;simp[q2];refine⟨by decide,by decide,?_⟩;exact fP [0,1,2,9,4,11,14,15] [6,7,8,9,10,11]
 by_cases q3:pV r1.1.2 r2.1=true
 ·rw[aC (.inr q3)];simp[hk];refine gU [0,1,2,3,4,5] m1 ?_;simp[q1,hty];refine gY [0,1,2,14,4,15] m2 (by simp[q1]) ?_;simp[q2];refine⟨by decide,?_⟩;refine gp hsb ?_;simp[q3];refine⟨by decide,?_⟩;exact fO [0,1,2,9,4,11,14,15] [6,7,8,9,10,11] (by simp[q2,cK,cN,cT,yx,tT,kS,vY,nQ,noC,encI,encS,AV.erds,AV.erd,D.erdL,D.erd,D.erdE,jU,jV])
 rw[aB (by simp[q2,q3])];by_cases t0:r1.1.2.kind=0
 ·have ty0:(if r1.1.2.kind≠0 then mR r1.1.1 r1.1.2 noT n.line n.col r2.2 else(r1.1.1,r2.2))=(r1.1.1,r2.2):=aB (λz=>z t0);rw[ty0];by_cases u0:r2.1.kind=0
  ·rw[aC u0];simp[hk];refine gU [0,1,2,3,4,5] m1 ?_;simp[q1,hty];refine gY [0,1,2,14,4,15] m2 (by simp[q1]) ?_;simp[q2];refine⟨by decide,?_⟩;refine gp hsb ?_;simp[q3,t0,u0];refine⟨by decide,?_⟩;exact fO [0,1,2,9,4,11,14,15] [6,7,8,9,10,11] (by simp[q2,cK,cN,cT,yx,tT,kS,vY,nQ,noC,encI,encS,AV.erds,AV.erd,D.erdL,D.erd,D.erdE,jU,jV])
  ·rw[aB u0,aC t0];have m3:=E8 L r1.1.1 r1.1.2 r2.1 n r2.2 (by have:=p2.1.sites;omega);simp only;generalize mR r1.1.1 r1.1.2 r2.1 n.line n.col r2.2=r3 at*
   simp[hk];refine gU [0,1,2,3,4,5] m1 ?_;simp[q1,hty];refine gY [0,1,2,14,4,15] m2 (by simp[q1]) ?_;simp[q2];refine⟨by decide,?_⟩;refine gp hsb ?_;simp[q3,t0,u0];refine gY [0,1,2,14,4,15] m3 (by simp[q2,t0]) ?_;simp;refine⟨by decide,?_⟩;exact fP [0,1,2,9,4,11,20,15] [6,7,8,9,10,11]
 ·have ty0:(if r1.1.2.kind≠0 then mR r1.1.1 r1.1.2 noT n.line n.col r2.2 else(r1.1.1,r2.2))=mR r1.1.1 r1.1.2 noT n.line n.col r2.2:=aC t0;rw[ty0];have m3:=E8 L r1.1.1 r1.1.2 noT n r2.2 (by have:=p2.1.sites;omega);generalize mR r1.1.1 r1.1.2 noT n.line n.col r2.2=r3 at*
  by_cases u0:r2.1.kind=0
  ·rw[aC u0];simp[hk];refine gU [0,1,2,3,4,5] m1 ?_;simp[q1,hty];refine gY [0,1,2,14,4,15] m2 (by simp[q1]) ?_;simp[q2];refine⟨by decide,?_⟩;refine gp hsb ?_;simp[q3,t0];refine gp hb0 ?_;simp;refine gY [0,1,2,14,4,15] m3 (by simp[q2,noT,bT]) ?_;simp[u0];refine⟨by decide,by decide,?_⟩;exact fP [0,1,2,9,4,11,20,15] [6,7,8,9,10,11]
  ·rw[aB u0,aB t0];simp[hk];refine gU [0,1,2,3,4,5] m1 ?_;simp[q1,hty];refine gY [0,1,2,14,4,15] m2 (by simp[q1]) ?_;simp[q2];refine⟨by decide,?_⟩;refine gp hsb ?_;simp[q3,t0];refine gp hb0 ?_;simp;refine gY [0,1,2,14,4,15] m3 (by simp[q2,noT,bT]) ?_;simp[u0,t0];refine⟨by decide,by decide,?_⟩;exact fP [0,1,2,9,4,11,20,15] [6,7,8,9,10,11]
theorem zJw(n a:gz)(hk:n.kids=[a])(ia:Inf)(ha:jm L a ia):jm L n (p8 n a ia):=λenv s k he hs=>by
 have hn:iK n=iK a+1:=by rw[qP,hk];simp[iW]
 have h1:=ha env s k (he.less (by omega)) (hs.less (by omega));have hw:=λt0=>DY L a ia ha t0 env s k (he.less (by omega)) (hs.less (by omega));unfold p8;split
 ·exact⟨hw _,vZ 2 (by omega) (by omega)⟩
 split
 ·exact⟨hw _,vZ 3 (by omega) (by omega)⟩
 split
 ·exact⟨h1.1,vZ 2 (by omega) (by omega)⟩
 ·exact⟨h1.1,vZ 1 (by omega) (by omega)⟩
theorem zH2(n a:gz)(hk:n.kids=[a])(ia:Inf)(ha:rR L a ia):jR L 91 n (p8 n a ia):=λenv s k he hs=>by
 refine zFD mD λts hts ok hbk c hN hp=>?_;obtain⟨t,u,v,w,x,y,rfl⟩:=mZ hts;have hn:iK n=iK a+1:=by rw[qP,hk];simp[iW]
 unfold p8;unfold XG;by_cases k15:n.kind=15
 ·rw[aC k15];have m1:=zg L a ia ha (bT 2) env s k (he.less (by omega)) (hs.less (by omega));simp only;generalize nP a ia (bT 2) env s=r1 at*
  simp[k15,hk];refine gp (lD 2) ?_;simp;refine gU [0,1,2,3,4,5] m1 ?_;simp;refine⟨by decide,?_⟩;refine gp (lD 2) ?_;simp;refine⟨by decide,?_⟩;exact fP [0,1,2,9,4,11,14,15] [6,7,8,9,10,11]
 rw[aB k15];by_cases k16:n.kind=16
 ·rw[aC k16];have m1:=zg L a ia ha (bT 3) env s k (he.less (by omega)) (hs.less (by omega));simp only;generalize nP a ia (bT 3) env s=r1 at*
  simp[k16,hk];refine gp (lD 3) ?_;simp;refine gU [0,1,2,3,4,5] m1 ?_;simp;refine⟨by decide,?_⟩;refine gp (lD 3) ?_;simp;refine⟨by decide,?_⟩;exact fP [0,1,2,9,4,11,14,15] [6,7,8,9,10,11]
 rw[aB k16];have m1:=ha.1 env s k (he.less (by omega)) (hs.less (by omega));generalize ia env s=r1 at*
 by_cases k12:n.kind=12
 ·rw[aC k12];simp[k12,hk];refine gU [0,1,2,3,4,5] m1 ?_;simp;refine gp (lD 2) ?_;simp;refine⟨by decide,?_⟩;exact fP [0,1,2,9,4,11,14,15] [6,7,8,9,10,11]
 ·rw[aB k12];simp[k15,k16,k12,hk];refine gU [0,1,2,3,4,5] m1 ?_;simp;refine gp (lD 1) ?_;simp;refine⟨by decide,?_⟩;exact fP [0,1,2,9,4,11,14,15] [6,7,8,9,10,11]
end
end Go.Gr
