/- Texts of ours, joined and written short by a program of ours. -/
import Derived.Test.YtlfjlokfciejnaaGreatDoorFJ09
import Derived.Test.YtlfjlokfciejnaaGreatDoorFJ10
set_option maxRecDepth 20000
set_option maxHeartbeats 4000000
set_option linter.unusedVariables false
set_option linter.unusedSimpArgs false
namespace Go.Gr
open Go.Abs Go.Proofs
def Mi:MC:=(λx(_:x=gC tt [(7,1)] [(7,[0,0,3,7,0,16,63])] [] (iP 0 (gB Tryz.f131)))=>x) _ (by dsimp[Tryz.f131])
def Mj:MC:=(λx(_:x=gC tt [(9,131),(7,1)] [] [] (iP 2 (gB Tryz.f131)))=>x) _ (by dsimp[Tryz.f131])
def Mk:MC:=(λx(_:x=gC tt [(0,3),(6,2),(7,1)] [] [(0,Mi),(2,Mj)] (gB Tryz.f131))=>x) _ (by dsimp[Tryz.f131])
theorem Uw:WM Pg 131 73 Mk [.cell 6 true 4,.tmp 7]:=wM gy Tryz.func131 (by kernel_rfl)
def Ml:MC:=(λx(_:x=gC tt [(9,131)] [] [] (gB Tryz.f78))=>x) _ (by dsimp[Tryz.f78])
theorem Ux:WM Pg 78 39 Ml [.cell 6 true 4,.tmp 7]:=wM gy Tryz.func78 (by kernel_rfl)
def Uy:MC:=(λx(_:x=gC tt [(9,78)] [(11,[0,0,3,7,15,0,0,0,192,511,1023,2047,2047,0,12287,32767]),(12,[0,0,3,7,0,31,63])] [] (iP 0 (gB Tryz.f136)))=>x) _ (by dsimp[Tryz.f136])
def Uz:MC:=(λx(_:x=gC tt [(6,0)] [] [(0,Uy)] (gB Tryz.f136))=>x) _ (by dsimp[Tryz.f136])
theorem zD3:WT Pg 136 69 Uz [.tmp 4]:=wT gy Tryz.func136 (by kernel_rfl)
def VA:MC:=(λx(_:x=gC tt [] [(6,[0,1,0,7,15,0,32,0,224,480,1023,2047])] [] (iP 0 (gB Tryz.f51)))=>x) _ (by dsimp[Tryz.f51])
def VB:MC:=(λx(_:x=gC tt [] [] [(0,VA)] (gB Tryz.f51))=>x) _ (by dsimp[Tryz.f51])
theorem zD4:WT Pg 51 48 VB [.tmp 4]:=wT gy Tryz.func51 (by kernel_rfl)
def VC:MC:=(λx(_:x=gC tt [] [] [] (iP 0 (gB Tryz.f33)))=>x) _ (by dsimp[Tryz.f33])
def VD:MC:=(λx(_:x=gC tt [] [(10,[0,1,3,7,0,31,63,0,255,511])] [] (iP 2 (gB Tryz.f33)))=>x) _ (by dsimp[Tryz.f33])
def VE:MC:=(λx(_:x=gC tt [] [(13,[0,1,3,7,15,0,32,96,224,511]),(15,[0,0,2,6,14,0,32,126,255,511,1023])] [(0,VC),(2,VD)] (gB Tryz.f33))=>x) _ (by dsimp[Tryz.f33])
theorem zxy:WM Pg 33 71 VE [.tmp 4,.tmp 5]:=wM gy Tryz.func33 (by kernel_rfl)
def VF:MC:=(λx(_:x=gC tt [] [] [] (gB Tryz.f56))=>x) _ (by dsimp[Tryz.f56])
theorem zD5:WT Pg 56 5 VF [.cell 2 true 4]:=wT gy Tryz.func56 (by kernel_rfl)
def VG:MC:=(λx(_:x=gC tt [] [] [] (iP 0 (gB Tryz.f52)))=>x) _ (by dsimp[Tryz.f52])
def VH:MC:=(λx(_:x=gC tt [(6,0)] [] [(0,VG)] (gB Tryz.f52))=>x) _ (by dsimp[Tryz.f52])
theorem zD6:WT Pg 52 22 VH [.tmp 2]:=wT gy Tryz.func52 (by kernel_rfl)
def VI:MC:=(λx(_:x=gC tt [] [] [] (iP 0 (gB Tryz.f134)))=>x) _ (by dsimp[Tryz.f134])
def VJ:MC:=(λx(_:x=gC tt [] [] [(0,VI)] (gB Tryz.f134))=>x) _ (by dsimp[Tryz.f134])
theorem zD7:WT Pg 134 21 VJ [.tmp 4]:=wT gy Tryz.func134 (by kernel_rfl)
def VK:MC:=(λx(_:x=gC tt [] [(1,[0,1,0,0,12,28,63,127])] [] (gB Tryz.f137))=>x) _ (by dsimp[Tryz.f137])
theorem zD8:WT Pg 137 14 VK [.tmp 6]:=wT gy Tryz.func137 (by kernel_rfl)
def VL:MC:=(λx(_:x=gC tt [] [] [] (gB Tryz.f79))=>x) _ (by dsimp[Tryz.f79])
theorem zle:WM Pg 79 25 VL []:=wM gy Tryz.func79 (by kernel_rfl)
def VM:MC:=(λx(_:x=gC tt [(9,79)] [] [] (gB Tryz.f57))=>x) _ (by dsimp[Tryz.f57])
theorem zm5:WM Pg 57 13 VM []:=wM gy Tryz.func57 (by kernel_rfl)
def VN:MC:=(λx(_:x=gC tt [(9,78),(9,79)] [(1,[0,0,2,6,14,0,32,96,224,511,1023,2047,2047,0,12287,32767])] [] (gB Tryz.f53))=>x) _ (by dsimp[Tryz.f53])
theorem zAa:WM Pg 53 31 VN [.cell 8 true 4]:=wM gy Tryz.func53 (by kernel_rfl)
def VO:MC:=(λx(_:x=gC tt [(9,57)] [] [] (gB Tryz.f54))=>x) _ (by dsimp[Tryz.f54])
theorem zD9:WM Pg 54 20 VO [.cell 6 true 4]:=wM gy Tryz.func54 (by kernel_rfl)
def VP:MC:=(λx(_:x=gC tt [] [(3,[0,0,2,6,14,30,0,64,192,448,0,1024,0,4096,16320,32704,65534,131071,262143,524287,1048575]),(4,[0,1,3,7,15,31,63,0,0,384,0,1024,4095,8191])] [] (gB Tryz.f93))=>x) _ (by dsimp[Tryz.f93])
theorem zEa:WM Pg 93 50 VP [.cell 10 true 8]:=wM gy Tryz.func93 (by kernel_rfl)
def VQ:MC:=(λx(_:x=gC tt [(9,93),(9,57)] [] [] (gB Tryz.f59))=>x) _ (by dsimp[Tryz.f59])
theorem zBF:WM Pg 59 34 VQ [.cell 10 true 8]:=wM gy Tryz.func59 (by kernel_rfl)
def VR:MC:=(λx(_:x=gC tt [(9,78)] [(1,[0,1,3,7,15,0,32,127,255,511,0,1024,4095,8191,0,32767])] [] (gB Tryz.f164))=>x) _ (by dsimp[Tryz.f164])
theorem zyD:WM Pg 164 71 VR [.cell 6 true 4,.tmp 7]:=wM gy Tryz.func164 (by kernel_rfl)
def VS:MC:=(λx(_:x=gC tt [(9,164),(9,57),(9,33)] [(5,[0,1,3,7,0,16,0,64,0,496,1023,2047,4095,4095,8191,32767]),(8,[0,1,0,3,15])] [] (gB Tryz.f135))=>x) _ (by dsimp[Tryz.f135])
theorem zBG:WM Pg 135 51 VS [.cell 8 true 8,.cell 9 true 4]:=wM gy Tryz.func135 (by kernel_rfl)
def VT:MC:=(λx(_:x=gC tt [(9,53)] [(22,[0,0,2,0,14,30,0,64,0,256,1023,0,4095])] [] (iP 0 (gB Tryz.f81)))=>x) _ (by dsimp[Tryz.f81])
def VU:MC:=(λx(_:x=gC tt [(9,57),(9,135),(4,146),(6,0)] [(2,[0,1,3,7,15,0,32,96,224,511,1023,0,2048,8191,16383,32767,32767,0,196607,524287]),(5,[0,1,0,0,12,28,60,3,255]),(8,[0,0,3,7]),(11,[0,0,3,7]),(12,[0,1,3,7,15,0,32,127,255,511,0,1024,4095,8191,0,32767]),(15,[0,0,3,7]),(25,[0,0,3,7]),(29,[0,0,3,7])] [(0,VT)] (gB Tryz.f81))=>x) _ (by dsimp[Tryz.f81])
theorem zCo:WM Pg 81 162 VU [.cell 6 true 8,.cell 7 true 4]:=wM gy Tryz.func81 (by kernel_rfl)
def nP:MC:=(λx(_:x=gC tt [(9,81),(9,82),(9,83),(9,84),(9,85),(9,86),(9,87),(9,88),(9,89),(9,90),(9,91)] [(5,[0,1,3,0,15,31]),(7,[0,1,3,0,15,31]),(9,[0,1,3,0,15,31])] [] (gB Tryz.f58))=>x) _ (by dsimp[Tryz.f58])
theorem um:WM Pg 58 130 nP [.cell 6 true 8,.cell 7 true 4]:=wM gy Tryz.func58 (by kernel_rfl)
def VV:MC:=(λx(_:x=gC tt [(9,58),(9,53),(9,59)] [(3,[0,0,2,6,14,0,32,0,128,511,0,2047]),(4,[0,0,0,0,0,16,48,112,255,511]),(6,[0,0,2,6,14,0,0,64,0,480,1023,2047,4095,4095,0,0,57343,131071]),(7,[0,0,3,7,0,15,63])] [] (gB Tryz.f82))=>x) _ (by dsimp[Tryz.f82])
theorem zFB:WM Pg 82 73 VV [.cell 6 true 8,.cell 7 true 4]:=wM gy Tryz.func82 (by kernel_rfl)
def VW:MC:=(λx(_:x=gC tt [(9,53),(9,58),(9,59),(9,54)] [(1,[0,0,2,6,14,0,32,0,128,511,0,2047]),(4,[0,0,2,6,14,0,32,0,128,511,1023]),(5,[0,0,2,6,14,0,0,64,0,480,1023,2047,4095,4095,0,0,57343,131071]),(7,[0,0,0,0,0,16,48,112,255,511]),(10,[0,1,3,0,7,31])] [] (gB Tryz.f83))=>x) _ (by dsimp[Tryz.f83])
theorem zHe:WM Pg 83 84 VW [.cell 6 true 8,.cell 7 true 4]:=wM gy Tryz.func83 (by kernel_rfl)
def VX:MC:=(λx(_:x=gC tt [(9,58),(9,93),(9,57),(9,59)] [(10,[0,0,0,0,8,24,56,0,128,384,896,2047,4095]),(11,[0,0,3,7,0,16,48,112,15,511])] [] (gB Tryz.f84))=>x) _ (by dsimp[Tryz.f84])
theorem zEb:WM Pg 84 75 VX [.cell 6 true 8,.cell 7 true 4]:=wM gy Tryz.func84 (by kernel_rfl)
def VY:MC:=(λx(_:x=gC tt [(9,57)] [(7,[0,1,0,7,15,0,32,0,224,480,1023])] [] (iP 2 (gB Tryz.f85)))=>x) _ (by dsimp[Tryz.f85])
def VZ:MC:=(λx(_:x=gC tt [] [] [(2,VY)] (iP 0 (gB Tryz.f85)))=>x) _ (by dsimp[Tryz.f85])
def V3:MC:=(λx(_:x=gC tt [(9,58)] [] [] (iP 4 (gB Tryz.f85)))=>x) _ (by dsimp[Tryz.f85])
def V4:MC:=(λx(_:x=gC tt [(9,54),(4,81),(6,4)] [(18,[0,0,1,7])] [(0,VZ),(4,V3)] (gB Tryz.f85))=>x) _ (by dsimp[Tryz.f85])
theorem zBI:WM Pg 85 84 V4 [.cell 6 true 8,.cell 7 true 4]:=wM gy Tryz.func85 (by kernel_rfl)
def V5:MC:=(λx(_:x=gC tt [(9,58),(9,93),(9,57)] [(9,[0,1,0,4,15,0,31,127])] [] (gB Tryz.f86))=>x) _ (by dsimp[Tryz.f86])
theorem zFC:WM Pg 86 56 V5 [.cell 6 true 8,.cell 7 true 4]:=wM gy Tryz.func86 (by kernel_rfl)
def Mm:MC:=(λx(_:x=gC tt [] [(14,[0,1,0,7,15,0,32,127]),(15,[0,1,0,4,0,28,60,124,255,511,1023]),(16,[0,1,0,4,0,28,60,124,255,511,1023])] [] (iP 0 (gB Tryz.f87)))=>x) _ (by dsimp[Tryz.f87])
def V6:MC:=(λx(_:x=gC tt [(9,58),(9,93),(9,57),(1,56),(1,58),(9,54),(4,98)] [(18,[0,1,0,0,12,31,0,63,255])] [(0,Mm)] (gB Tryz.f87))=>x) _ (by dsimp[Tryz.f87])
theorem zCp:WM Pg 87 106 V6 [.cell 6 true 8,.cell 7 true 4]:=wM gy Tryz.func87 (by kernel_rfl)
def V7:MC:=(λx(_:x=gC tt [(9,58),(9,59),(4,90)] [(3,[0,0,0,0,0,31,63]),(9,[0,0,3,7,15,0,32,127,255,511,511,0,0,7167,16383]),(15,[0,0,0,0,0,16,48,112,255,511]),(16,[0,0,0,0,0,16,48,112,255,511]),(17,[0,0,0,7,15,0,31,127])] [] (gB Tryz.f88))=>x) _ (by dsimp[Tryz.f88])
theorem zBJ:WM Pg 88 130 V7 [.cell 6 true 8,.cell 7 true 4]:=wM gy Tryz.func88 (by kernel_rfl)
def V8:MC:=(λx(_:x=gC tt [(9,58),(9,53),(9,93)] [(3,[0,0,1,7]),(4,[0,0,2,6,14,0,32,0,128,511,0,2047]),(6,[0,0,1,7]),(9,[0,0,0,0,0,31,63]),(11,[0,0,1,7]),(13,[0,0,0,0,0,31,0,63,255]),(14,[0,1,0,0,12,0,32,127,0,255,1023])] [] (gB Tryz.f89))=>x) _ (by dsimp[Tryz.f89])
theorem zHf:WM Pg 89 85 V8 [.cell 6 true 8,.cell 7 true 4]:=wM gy Tryz.func89 (by kernel_rfl)
def V9:MC:=(λx(_:x=gC tt [(9,58),(9,59)] [] [] (gB Tryz.f140))=>x) _ (by dsimp[Tryz.f140])
theorem zEc:WM Pg 140 24 V9 [.cell 8 true 8]:=wM gy Tryz.func140 (by kernel_rfl)
def Va:MC:=(λx(_:x=gC tt [] [(24,[0,0,3,7,0,16,63])] [] (iP 1 (gB Tryz.f90)))=>x) _ (by dsimp[Tryz.f90])
def Vb:MC:=(λx(_:x=gC tt [(9,140),(9,58)] [(4,[0,0,2,6,14,0,0,127,0,511]),(5,[0,0,2,6,14,0,0,127,0,511]),(6,[0,0,0,7,15,0,31,127]),(8,[0,0,2,6,14,0,0,127,0,511]),(9,[0,0,2,6,14,0,0,127,0,511]),(10,[0,0,0,7,15,0,31,127]),(14,[0,0,3,7,0,15,63]),(16,[0,0,2,6,14,0,0,127,0,511]),(17,[0,0,2,6,14,0,0,127,0,511]),(18,[0,0,3,7,0,31,63]),(26,[0,0,2,6,14,0,0,127,0,511]),(27,[0,0,2,6,14,0,0,127,0,511]),(31,[0,0,0,6,15,0,31,127])] [(1,Va)] (gB Tryz.f90))=>x) _ (by dsimp[Tryz.f90])
theorem zHg:WM Pg 90 167 Vb [.cell 6 true 8,.cell 7 true 4]:=wM gy Tryz.func90 (by kernel_rfl)
def Vd:MC:=(λx(_:x=gC tt [(9,140),(9,58)] [(3,[0,0,2,6,14,0,0,127,0,511]),(4,[0,1,3,0,15,31]),(6,[0,0,2,6,14,0,0,127,0,511]),(7,[0,1,3,0,15,31]),(10,[0,1,0,4,15,0,63,127]),(12,[0,1,3,0,15,31])] [] (gB Tryz.f91))=>x) _ (by dsimp[Tryz.f91])
theorem zFD:WM Pg 91 76 Vd [.cell 6 true 8,.cell 7 true 4]:=wM gy Tryz.func91 (by kernel_rfl)
def Mo:MC:=(λx(_:x=gC tt [] [] [] (iP 0 (gB Tryz.f34)))=>x) _ (by dsimp[Tryz.f34])
def Ve:MC:=(λx(_:x=gC tt [(9,53),(1,74),(9,54),(4,84),(5,87),(4,111),(9,57),(9,58),(9,59)] [(1,[0,1,3,7,15,0,32,127,255,511,0,1024,4095,8191,0,32767]),(7,[0,0,2,6,14,0,32,0,128,511,0,2047]),(8,[0,0,2,6,14,0,32,0,128,511,0,2047]),(12,[0,0,3,7]),(13,[0,1,0,4,12,28,60,124,255,511,1023,2047,1023,5119,13311,29695,62463,127999,262143,524287,1048575,2097151,4194303,8388607]),(17,[0,1,3,7,15,0,32,127,255,511,0,1024,4095,8191]),(27,[0,0,2,6,14,30,0,0,0,448,960,2046,4095,8191,16383,32767]),(29,[0,0,2,6,14,0,32,0,128,384,896,0,2048,6144,14336,0,32768,98304,229376,524256,1048544,2097150,4194303,8388607,16777215])] [(0,Mo)] (gB Tryz.f34))=>x) _ (by dsimp[Tryz.f34])
theorem zy3:WM Pg 34 216 Ve []:=wM gy Tryz.func34 (by kernel_rfl)
def Vf:MC:=(λx(_:x=gC tt [(9,33),(7,1)] [(12,[0,0,0,4,0,16,0,126,254,1,1023])] [] (iP 2 (gB Tryz.f17)))=>x) _ (by dsimp[Tryz.f17])
def Vg:MC:=(λx(_:x=gC tt [] [] [(2,Vf)] (iP 0 (gB Tryz.f17)))=>x) _ (by dsimp[Tryz.f17])
def Vh:MC:=(λx(_:x=gC tt [(9,34)] [] [] (iP 4 (gB Tryz.f17)))=>x) _ (by dsimp[Tryz.f17])
def Vi:MC:=(λx(_:x=gC tt [(0,13),(0,15),(6,0),(7,1)] [(20,[0,0,2,6,14,1,63])] [(0,Vg),(4,Vh)] (gB Tryz.f17))=>x) _ (by dsimp[Tryz.f17])
theorem zCq:WT Pg 17 125 Vi [.cell 2 true 3,.tmp 3]:=wT gy Tryz.func17 (by kernel_rfl)
def Mq:MC:=(λx(_:x=gC tt [] [] [] (iP 0 (gB Tryz.f8)))=>x) _ (by dsimp[Tryz.f8])
def Vj:MC:=(λx(_:x=gC tt [] [] [(0,Mq)] (gB Tryz.f8))=>x) _ (by dsimp[Tryz.f8])
theorem zAb:WT Pg 8 55 Vj [.cell 2 true 3,.tmp 3]:=wT gy Tryz.func8 (by kernel_rfl)
def Vk:MC:=(λx(_:x=gC tt [] [] [] (iP 0 (gB Tryz.f15)))=>x) _ (by dsimp[Tryz.f15])
def Vl:MC:=(λx(_:x=gC tt [] [] [(0,Vk)] (gB Tryz.f15))=>x) _ (by dsimp[Tryz.f15])
theorem zFE:WT Pg 15 40 Vl [.tmp 2]:=wT gy Tryz.func15 (by kernel_rfl)
end Go.Gr
namespace Go.Gr
open Go.Abs Go.Proofs List
abbrev sj(l:List fE):Blk:=.arr 1 ((encS l).map (·.map .d))
def oU(vs:List fE)(wth:List gT)(a:List gT)(l:List gT):List gT × Bool:=if(y7 vs wth l).2=true then(a++(y7 vs wth l).1,true)else([],false)
theorem Vm(vs:List fE)(wth:List gT)(a:List gT)(t:gT)(l:List gT):oU vs wth a (t::l)=if(sV vs wth t).2=true then oU vs wth (a++[(sV vs wth t).1]) l else([],false):=by
 unfold oU;rw[y7];by_cases h:(sV vs wth t).2=true
 ·rw[aC h,aC h];by_cases h2:(y7 vs wth l).2=true
  ·simp[h2]
  ·simp[h2]
 ·rw[aB h,aB h];simp
theorem Vn(vs:List fE)(wth:List gT)(t:gT):sV vs wth t=if t.kind=8 then(if 0<t.names.length\/0<t.kids.length then(t,false)else match y5 vs wth t.name with
   |some u=>(u,true)
   |none=>(t,false))
  else if(oU vs wth [] t.kids).2=true then(.mk t.kind t.name t.names (oU vs wth [] t.kids).1,true)else(t,false):=by
 cases t with
 | mk k n s l=>
  unfold oU;rw[sV];simp only[gT.kind,gT.name,gT.names,gT.kids,nil_append];by_cases h:(y7 vs wth l).2=true
  ·simp[h];rfl
  ·simp[h];rfl
theorem su(k:Int)(n:fE)(s:List fE)(l:List gT):gT.enc (.mk k n s l)=[.int .i64 k,.str n,.sl false 1 (encS s),.sl false 4 (l.map gT.enc)]:=by rw[gT.enc_eq];try rfl
theorem Vo(t:gT)(b n:Nat):put (t.enc.map AC.d) 3 [.msl 4 b 0 n]=[.d (.int .i64 t.kind),.d (.str t.name),.d (.sl false 1 (encS t.names)),.msl 4 b 0 n]:=by rw[gT.enc_eq];try rfl
theorem Vp{ts:List (Nat × Nat)}(h:ts.length=([]:List Blk).length):ts=[]:=aT.1 h
abbrev RepD(vs:List fE)(wth:List gT)(u:gT):Prop:=MCall Pg 131 [.ag (u.enc.map .d),.c (.d (.sl false 1 (encS vs))),.c (.d (.sl false 4 (wth.map gT.enc)))] [] (.tup [.ag ((sV vs wth u).1.enc.map .d),.c (.d (.bool (sV vs wth u).2))]) []
abbrev FZ(vs:List fE)(wth:List gT):List (Nat × AV):=[(6,.c (.ptr 1 0)),(3,.c (.ptr 0 0)),(2,.c (.d (.sl false 4 (wth.map gT.enc)))),(1,.c (.d (.sl false 1 (encS vs))))]
theorem zFq(vs:List fE)(wth:List gT)(hv:vs.length=wth.length)(hl:wth.length<=1000000)(u:gT)(hk:u.kids.length<=200)(ih:∀e,e∈u.kids->RepD vs wth e):RepD vs wth u:=by
 refine Uw mX λts hts ok hb c hN hp=>?_;have hts:=Vp hts;subst hts;obtain⟨R,hR⟩:∃R,sV vs wth u=R:=⟨_,rfl⟩
 rw[hR];rw[Vn]at hR;unfold Mk;by_cases k8:u.kind=8
 ·rw[aC k8]at hR;by_cases n0:0<u.names.length
  ·rw[aC (.inl n0)]at hR;subst hR;simp[k8,n0];refine fT [] ?_;simp;exact fK [] []
  by_cases c0:0<u.kids.length
  ·rw[aC (.inr c0)]at hR;subst hR;simp[k8,n0,c0];refine fT [] ?_;simp;exact fK [] []
  rw[aB (by omega)]at hR;simp[k8,n0,c0];refine fO gy hp (λj:Nat=>j<=vs.length/\y5 (vs.drop j) (wth.drop j) u.name=y5 vs wth u.name) (λj=>(8,.c (.d (.int .i64 j)))::FZ vs wth) (λ_=>[.box (u.enc.map .d),tX]) (λj=>vs.length-j) 0 [0,1] ⟨by simp,by simp⟩ (by simp) λj ⟨h1,h2⟩=>?_;unfold Mi;simp;apply gM<;>intro h
  ·have hj:j<vs.length:=by simpa using h
   have hj2:j<wth.length:=by omega
   rw[aD hj,aD hj2,y5]at h2;have hw:=wI (n:=(j:Int)+1);by_cases q:vs[j]=u.name
   ·rw[aC q]at h2;rw[<-h2]at hR;simp only at hR;subst hR;simp[hj,hj2,q];refine⟨by decide,?_⟩;refine fT [] ?_;simp;exact fK [] []
   ·rw[aB q]at h2;simp[hj,hj2,q];refine⟨by decide,?_⟩;refine fF (j+1) [0,1] ⟨by omega,h2⟩ (by omega) ?_;simp[hw]
  ·have hj:j=vs.length:=by simp at h;omega
   subst hj;rw[aO,y5]at h2;rotate_left
   ·intros;contradiction
   rw[<-h2]at hR;simp only at hR;subst hR;simp;refine fT [] ?_;simp;exact fK [] []
 rw[aB k8]at hR;simp[k8];refine fU [.t 9] ?_;simp;obtain⟨F0,hF⟩:∃F0,oU vs wth [] u.kids=F0:=⟨_,rfl⟩
 rw[hF]at hR;refine fO gy hp (λx:Nat × List gT=>x.1<=u.kids.length/\x.2.length<=x.1/\oU vs wth x.2 (u.kids.drop x.1)=F0) (λx=>(10,.c (.d (.int .i64 x.1)))::(9,.c (.msl 4 2 0 x.2.length))::FZ vs wth) (λx=>[.box (u.enc.map .d),tX,oD x.2]) (λx=>u.kids.length-x.1) (0,[]) [0,1,2] ⟨by simp,by simp,by simpa using hF⟩ (by simp) λ⟨j,a⟩ ⟨h1,h2,h3⟩=>?_;unfold Mj;simp only at h1 h2 h3;simp;apply gM<;>intro h
 ·have hj:j<u.kids.length:=by simpa using h
  rw[aD hj,Vm]at h3;obtain⟨x,hx⟩:∃x,u.kids[j]=x:=⟨_,rfl⟩
  have hm:=aR hj;rw[hx]at h3 hm;have hix:=ih x hm;unfold RepD at hix;have hw:=wI (n:=(j:Int)+1);generalize sV vs wth x=r at*
  simp[hj,hx];refine gN [] hix ?_;by_cases q:r.2=true
  ·rw[aC q]at h3;simp[q];refine⟨by omega,?_⟩;refine fF (j+1,a++[r.1]) [0,1,4] ⟨by simp only;omega,by simp;omega,h3⟩ (by simp only;omega) ?_;simp[hw];exact vR a
  ·rw[aB q]at h3;subst h3;simp only[aa,if_false]at hR;subst hR;simp[q];refine fT [] ?_;simp;exact fK [] []
 ·have hj:j=u.kids.length:=by simp at h;omega
  subst hj;rw[aO]at h3;have e:oU vs wth a []=(a,true):=by unfold oU;simp[y7]
  rw[e]at h3;subst h3;simp only[if_true]at hR;subst hR;simp[Vo];refine fT [2] ?_;simp[iV,nY];exact fM [] [] (by simp[iV,su,nY])
mutual
theorem Vq(vs:List fE)(wth:List gT)(hv:vs.length=wth.length)(hl:wth.length<=1000000):∀t:gT,kr t->RepD vs wth t
|.mk k n s l,h=>by
 rw[kr]at h;exact zFq vs wth hv hl (.mk k n s l) h.1 (λe he=>Vr vs wth hv hl l h.2 e he)
theorem Vr(vs:List fE)(wth:List gT)(hv:vs.length=wth.length)(hl:wth.length<=1000000):∀l:List gT,qY l->∀e,e∈l->RepD vs wth e
|[],_,e,h=>by cases h
|d::l,hf,e,h=>by
 rw[qY]at hf;cases h with
 |head=>exact Vq vs wth hv hl d hf.1
 |tail _ h=>exact Vr vs wth hv hl l hf.2 e h
end
theorem Mr(vs:List fE)(wth:List gT)(hl:wth.length<=1000000)(u:gT):
  MCall Pg 78 [.ag (u.enc.map .d),.c (.d (.sl false 1 (encS vs))),.c (.d (.sl false 4 (wth.map gT.enc)))] [] (.tup [.ag ((qX u vs wth).1.enc.map .d),.c (.d (.int .i64 (qX u vs wth).2))]) []:=by
 refine Ux mX λts hts ok hb c hN hp=>?_;have hts:=Vp hts;subst hts;obtain⟨R,hR⟩:∃R,qX u vs wth=R:=⟨_,rfl⟩
 rw[hR];unfold qX at hR;unfold Ml;by_cases hv:vs.length=wth.length;rotate_left
 ·rw[aC hv]at hR;subst hR;have hv':¬(vs.length:Int)=wth.length:=by omega
  simp[hv,hv'];exact fI [] [] (by simp[nJ,AV.erds,AV.erd])
 rw[aB (λz=>z hv)]at hR;have hv':(vs.length:Int)=wth.length:=by omega
 simp[hv'];refine gQ (ME u) ?_;by_cases s1:200<nN u 201
 ·rw[aC (.inl s1)]at hR;subst hR;simp[s1];exact fI [] [] (by simp[nJ,AV.erds,AV.erd])
 simp[s1];refine gQ (FD u) ?_;by_cases s2:16<nW 17 u
 ·rw[aC (.inr s2)]at hR;subst hR;simp[s2];exact fI [] [] (by simp[nJ,AV.erds,AV.erd])
 rw[aB (by omega)]at hR;have hrp:=Vq vs wth hv hl u (FF u 201 (by omega) (by omega));unfold RepD at hrp;generalize sV vs wth u=r at*
 simp[s2];refine gN [] hrp ?_;by_cases q:r.2=true
 ·rw[aC q]at hR;have hn:=AU r.1;generalize mE r.1=N at*
  subst hR;simp[q];refine gQ hn ?_;simp;exact fK [] []
 ·rw[aB q]at hR;subst hR;simp[q];exact fI [] [] (by simp[nJ,AV.erds,AV.erd])
abbrev xV(vs:List fE)(wth:List gT)(u:gT):Prop:=MCall Pg 131 [.ag (u.enc.map .d),.c (.msl 1 0 0 vs.length),.c (.d (.sl false 4 (wth.map gT.enc)))] [sj vs] (.tup [.ag ((sV vs wth u).1.enc.map .d),.c (.d (.bool (sV vs wth u).2))]) [sj vs]
abbrev F3(vs:List fE)(wth:List gT):List (Nat × AV):=[(6,.c (.ptr 3 0)),(3,.c (.ptr 2 0)),(2,.c (.d (.sl false 4 (wth.map gT.enc)))),(1,.c (.msl 1 0 0 vs.length))]
theorem zFr(vs:List fE)(wth:List gT)(hv:vs.length=wth.length)(hl:wth.length<=1000000)(u:gT)(hk:u.kids.length<=200)(ih:∀e,e∈u.kids->xV vs wth e):xV vs wth u:=by
 refine Uw mX λts hts ok hb c hN hp=>?_;obtain⟨t,rfl⟩:=mD hts;obtain⟨R,hR⟩:∃R,sV vs wth u=R:=⟨_,rfl⟩
 rw[hR];rw[Vn]at hR;unfold Mk;by_cases k8:u.kind=8
 ·rw[aC k8]at hR;by_cases n0:0<u.names.length
  ·rw[aC (.inl n0)]at hR;subst hR;simp[k8,n0];refine fT [] ?_;simp;exact fK [0] [1]
  by_cases c0:0<u.kids.length
  ·rw[aC (.inr c0)]at hR;subst hR;simp[k8,n0,c0];refine fT [] ?_;simp;exact fK [0] [1]
  rw[aB (by omega)]at hR;simp[k8,n0,c0];refine fO gy hp (λj:Nat=>j<=vs.length/\y5 (vs.drop j) (wth.drop j) u.name=y5 vs wth u.name) (λj=>(8,.c (.d (.int .i64 j)))::F3 vs wth) (λ_=>[sj vs,.pin t 0,.box (u.enc.map .d),tX]) (λj=>vs.length-j) 0 [0,1,2,3] ⟨by simp,by simp⟩ (by simp) λj ⟨h1,h2⟩=>?_;unfold Mi;simp;apply gM<;>intro h
  ·have hj:j<vs.length:=by simpa using h
   have hj2:j<wth.length:=by omega
   rw[aD hj,aD hj2,y5]at h2;have hw:=wI (n:=(j:Int)+1);by_cases q:vs[j]=u.name
   ·rw[aC q]at h2;rw[<-h2]at hR;simp only at hR;subst hR;simp[hj,hj2,q];refine⟨by decide,?_⟩;refine fT [] ?_;simp;exact fK [0] [1]
   ·rw[aB q]at h2;simp[hj,hj2,q];refine⟨by decide,?_⟩;refine fF (j+1) [0,1,2,3] ⟨by omega,h2⟩ (by omega) ?_;simp[hw]
  ·have hj:j=vs.length:=by simp at h;omega
   subst hj;rw[aO,y5]at h2;rotate_left
   ·intros;contradiction
   rw[<-h2]at hR;simp only at hR;subst hR;simp;refine fT [] ?_;simp;exact fK [0] [1]
 rw[aB k8]at hR;simp[k8];refine fU [.t 9] ?_;simp;obtain⟨F0,hF⟩:∃F0,oU vs wth [] u.kids=F0:=⟨_,rfl⟩
 rw[hF]at hR;refine fO gy hp (λx:Nat × List gT=>x.1<=u.kids.length/\x.2.length<=x.1/\oU vs wth x.2 (u.kids.drop x.1)=F0) (λx=>(10,.c (.d (.int .i64 x.1)))::(9,.c (.msl 4 4 0 x.2.length))::F3 vs wth) (λx=>[sj vs,.pin t 0,.box (u.enc.map .d),tX,oD x.2]) (λx=>u.kids.length-x.1) (0,[]) [0,1,2,3,4] ⟨by simp,by simp,by simpa using hF⟩ (by simp) λ⟨j,a⟩ ⟨h1,h2,h3⟩=>?_;unfold Mj;simp only at h1 h2 h3;simp;apply gM<;>intro h
 ·have hj:j<u.kids.length:=by simpa using h
  rw[aD hj,Vm]at h3;obtain⟨x,hx⟩:∃x,u.kids[j]=x:=⟨_,rfl⟩
  have hm:=aR hj;rw[hx]at h3 hm;have hix:=ih x hm;unfold xV at hix;have hw:=wI (n:=(j:Int)+1);generalize sV vs wth x=r at*
  simp[hj,hx];refine gN [0] hix ?_;by_cases q:r.2=true
  ·rw[aC q]at h3;simp[q];refine⟨by omega,?_⟩;refine fF (j+1,a++[r.1]) [0,1,2,3,6] ⟨by simp only;omega,by simp;omega,h3⟩ (by simp only;omega) ?_;simp[hw];exact vR a
  ·rw[aB q]at h3;subst h3;simp only[aa,if_false]at hR;subst hR;simp[q];refine fT [] ?_;simp;exact fK [0] [1]
 ·have hj:j=u.kids.length:=by simp at h;omega
  subst hj;rw[aO]at h3;have e:oU vs wth a []=(a,true):=by unfold oU;simp[y7]
  rw[e]at h3;subst h3;simp only[if_true]at hR;subst hR;simp[Vo];refine fT [4] ?_;simp[iV,nY];exact fM [0] [1] (by simp[iV,su,nY])
mutual
theorem Vs(vs:List fE)(wth:List gT)(hv:vs.length=wth.length)(hl:wth.length<=1000000):∀t:gT,kr t->xV vs wth t
|.mk k n s l,h=>by
 rw[kr]at h;exact zFr vs wth hv hl (.mk k n s l) h.1 (λe he=>Vt vs wth hv hl l h.2 e he)
theorem Vt(vs:List fE)(wth:List gT)(hv:vs.length=wth.length)(hl:wth.length<=1000000):∀l:List gT,qY l->∀e,e∈l->xV vs wth e
|[],_,e,h=>by cases h
|d::l,hf,e,h=>by
 rw[qY]at hf;cases h with
 |head=>exact Vs vs wth hv hl d hf.1
 |tail _ h=>exact Vt vs wth hv hl l hf.2 e h
end
theorem zCm(vs:List fE)(wth:List gT)(hl:wth.length<=1000000)(u:gT):
  MCall Pg 78 [.ag (u.enc.map .d),.c (.msl 1 0 0 vs.length),.c (.d (.sl false 4 (wth.map gT.enc)))] [sj vs] (.tup [.ag ((qX u vs wth).1.enc.map .d),.c (.d (.int .i64 (qX u vs wth).2))]) [sj vs]:=by
 refine Ux mX λts hts ok hb c hN hp=>?_;obtain⟨t,rfl⟩:=mD hts;obtain⟨R,hR⟩:∃R,qX u vs wth=R:=⟨_,rfl⟩
 rw[hR];unfold qX at hR;unfold Ml;by_cases hv:vs.length=wth.length;rotate_left
 ·rw[aC hv]at hR;subst hR;have hv':¬(vs.length:Int)=wth.length:=by omega
  simp[hv,hv'];exact fI [0] [1] (by simp[nJ,AV.erds,AV.erd])
 rw[aB (λz=>z hv)]at hR;have hv':(vs.length:Int)=wth.length:=by omega
 simp[hv'];refine gQ (ME u) ?_;by_cases s1:200<nN u 201
 ·rw[aC (.inl s1)]at hR;subst hR;simp[s1];exact fI [0] [1] (by simp[nJ,AV.erds,AV.erd])
 simp[s1];refine gQ (FD u) ?_;by_cases s2:16<nW 17 u
 ·rw[aC (.inr s2)]at hR;subst hR;simp[s2];exact fI [0] [1] (by simp[nJ,AV.erds,AV.erd])
 rw[aB (by omega)]at hR;have hrp:=Vs vs wth hv hl u (FF u 201 (by omega) (by omega));unfold xV at hrp;generalize sV vs wth u=r at*
 simp[s2];refine gN [0] hrp ?_;by_cases q:r.2=true
 ·rw[aC q]at hR;have hn:=AU r.1;generalize mE r.1=N at*
  subst hR;simp[q];refine gQ hn ?_;simp;exact fK [0] [1]
 ·rw[aB q]at hR;subst hR;simp[q];exact fI [0] [1] (by simp[nJ,AV.erds,AV.erd])
@[simp] theorem zLl(v:fE × gT):(iZ v)[0]?=some (.str v.1):=rfl
@[simp] theorem zIT(v:fE × gT):(iZ v)[1]?=some (.int .i64 v.2.kind):=by unfold iZ;rw[gT.enc_eq];try rfl
@[simp] theorem zK4(v:fE × gT)(h:0<(iZ v).length):(iZ v)[0]=.str v.1:=rfl
@[simp] theorem zK5(v:fE × gT)(h:1<(iZ v).length):(iZ v)[1]=.int .i64 v.2.kind:=by have:=zIT v;rw[aA h]at this;exact bN this
@[simp] theorem zKz(v:fE × gT):cut (iZ v) 1 4=v.2.enc:=by unfold iZ;rw[gT.enc_eq];try rfl
theorem zH6(vars:List (fE × gT))(l:List gT)(hl:l.length<=1000000):gU Pg 136 [.one (.sl false 5 (vars.map iZ)),.one (.sl false 4 (l.map gT.enc))] (.one (.int .i64 (Du vars l))):=by
 refine zD3 (by simp) λo c hN hp=>?_;obtain⟨R,hR⟩:∃R,Du vars l=R:=⟨_,rfl⟩
 rw[hR];unfold Du at hR;unfold Uz;by_cases hv:vars.length=l.length;rotate_left
 ·rw[aC hv]at hR;subst hR;have hv':¬(vars.length:Int)=l.length:=by omega
  simp[hv']
 rw[aB (λz=>z hv)]at hR;have hv':(vars.length:Int)=l.length:=by omega
 simp[hv'];refine fU [.t 5] ?_;simp;refine fO gy hp (λi:Nat=>i<=l.length/\FC (vars.drop i) (l.drop i) ((vars.take i).map (·.1)) (l.take i)=R) (λi=>[(6,.c (.d (.int .i64 i))),(5,.c (.msl 1 0 0 i)),(1,.c (.d (.sl false 4 (l.map gT.enc)))),(0,.c (.d (.sl false 5 (vars.map iZ))))]) (λi=>[sj ((vars.take i).map (·.1))]) (λi=>l.length-i) 0 [0] ⟨by simp,by simpa using hR⟩ (by simp[encS]) λi ⟨h1,h2⟩=>?_;unfold Uy;simp;apply gM<;>intro h
 ·have hi:i<l.length:=by simpa using h
  have hi2:i<vars.length:=by omega
  rw[aD hi,aD hi2,FC]at h2;obtain⟨x,hx⟩:∃x,l[i]=x:=⟨_,rfl⟩
  obtain⟨v,hv3⟩:∃v,vars[i]=v:=⟨_,rfl⟩
  rw[hx,hv3]at h2;have hw:=wI (n:=(i:Int)+1);have tk1:(vars.take (i+1)).map (·.1)=(vars.take i).map (·.1)++[v.1]:=by rw[aJ hi2,map_append,hv3];try rfl
  have tk2:l.take (i+1)=l.take i++[x]:=by rw[aJ hi,hx]
  have hlt:(l.take i).length=i:=by rw[bI];omega
  have hvt:((vars.take i).map (·.1)).length=i:=by rw[aU,bI];omega
  simp[hi,hx];refine gQ (AX x) ?_;by_cases n:iC x=true;rotate_left
  ·rw[aC (by simpa using n)]at h2;subst h2;simp[n]
  rw[aB (by simp[n])]at h2;by_cases k0:v.2.kind=0
  ·rw[aB (λz=>z.1 k0)]at h2;simp[n,hi2,hv3,k0];refine⟨by omega,by omega,?_⟩;refine fF (i+1) [1] ⟨by omega,by rw[tk1,tk2];exact h2⟩ (by omega) ?_;rw[tk1];simp[hw,hvt];exact aG (by simp;omega)
  ·have hro:=zCm ((vars.take i).map (·.1)) (l.take i) (by rw[hlt];omega) v.2;rw[hvt]at hro;have hsb:=FW x (qX v.2 ((vars.take i).map (·.1)) (l.take i)).1;generalize qX v.2 ((vars.take i).map (·.1)) (l.take i)=r at*
   simp[n,hi2,hv3,k0,h1];refine gN [0] hro ?_;simp[hi,hx];refine⟨by decide,?_⟩;refine gQ hsb ?_;by_cases e0:r.2=0
   ·by_cases s0:pE x r.1=true
    ·rw[aB (by simp[e0,s0])]at h2;simp[e0,s0,hi2,hv3];refine⟨by decide,by omega,by omega,?_⟩;refine fF (i+1) [2] ⟨by omega,by rw[tk1,tk2];exact h2⟩ (by omega) ?_;rw[tk1];simp[hw,hvt];exact aG (by simp;omega)
    ·rw[aC ⟨k0,.inr (by simpa using s0)⟩]at h2;subst h2;simp[e0,s0];try decide
   ·rw[aC ⟨k0,.inl e0⟩]at h2;subst h2;simp[e0];try decide
 ·have hi:i=l.length:=by simp at h;omega
  subst hi;rw[aO,FC]at h2
  ·subst h2;simp
  ·intros;contradiction
@[simp] theorem kS.enc_length(x:kS):x.enc.length=3:=rfl
@[simp] theorem kS.enc_0(x:kS):x.enc[0]?=some (.int .i64 x.module):=rfl
@[simp] theorem kS.enc_1(x:kS):x.enc[1]?=some (.int .i64 x.decl):=rfl
@[simp] theorem kS.enc_2(x:kS):x.enc[2]?=some (.sl false 4 (x.types.map gT.enc)):=rfl
@[simp] theorem kS.enc_g0(x:kS)(h:0<x.enc.length):x.enc[0]=.int .i64 x.module:=rfl
@[simp] theorem kS.enc_g1(x:kS)(h:1<x.enc.length):x.enc[1]=.int .i64 x.decl:=rfl
@[simp] theorem kS.enc_g2(x:kS)(h:2<x.enc.length):x.enc[2]=.sl false 4 (x.types.map gT.enc):=rfl
@[simp] theorem kS.cut_enc(x:kS):cut x.enc 0 3=x.enc:=rfl
@[simp] theorem kS.cut_map(x:kS):cut (x.enc.map AC.d) 0 3=x.enc.map .d:=rfl
theorem zGT(a b:kS):gU Pg 51 [.agg a.enc,.agg b.enc] (.one (.bool (AP a b))):=by
 refine zD4 (by simp) λo c hN hp=>?_;have hl:a.types.length<=zah:=by
  have:=o.1;simp only[DV.ok,kS.enc,D.okL,D.ok,aU]at this;exact this.2.2.1.1
 unfold zah at hl;obtain⟨R,hR⟩:∃R,AP a b=R:=⟨_,rfl⟩
 rw[hR];unfold AP at hR;unfold VB;by_cases q1:a.module=b.module;rotate_left
 ·simp[q1]at hR;simp[q1,hR]
 by_cases q2:a.decl=b.decl;rotate_left
 ·simp[q2]at hR;simp[q1,q2,hR]
 by_cases q3:a.types.length=b.types.length;rotate_left
 ·have:lD kg a.types b.types=false:=by
   cases h:lD kg a.types b.types with
   |false=>rfl
   |true=>exact absurd (Cf h) q3
  have q3':¬(a.types.length:Int)=b.types.length:=by omega
  simp[this]at hR;simp[q1,q2,q3,q3',hR]
 simp[q1,q2]at hR;simp[q1,q2,q3];refine fO gy hp (λj:Nat=>j<=a.types.length/\lD kg (a.types.drop j) (b.types.drop j)=R) (λj=>[(5,.c (.d (.int .i64 j))),(3,.c (.d (.rp b.enc 0))),(2,.c (.d (.rp a.enc 0)))]) (λ_=>[]) (λj=>a.types.length-j) 0 [] ⟨by simp,by simpa using hR⟩ (by simp) λj ⟨h1,h2⟩=>?_;unfold VA;simp;apply gM<;>intro h
 ·have hj:j<a.types.length:=by simpa using h
  have hj2:j<b.types.length:=by omega
  rw[aD hj,aD hj2,lD]at h2;simp[hj,hj2];refine gQ (Dv _ _) ?_;generalize kg a.types[j] b.types[j]=q at*
  cases q with
  |true=>
   simp at h2;simp;refine⟨by decide,?_⟩;refine fF (j+1) [] ⟨by omega,h2⟩ (by omega) ?_;simp;exact wI
  |false=>
   simp at h2;simp[h2];try decide
 ·have hj:j=a.types.length:=by simp at h;omega
  subst hj;rw[aO,q3,aO]at h2;simp[lD]at h2;simp[h2]
abbrev oF(l:List kS):Blk:=.arr 3 ((l.map kS.enc).map (·.map .d))
abbrev xW(most:Int)(n b:Nat):Blk:=.box [.d (.int .i64 most),.msl 3 b 0 n]
theorem F4{ts:List (Nat × Nat)}{a b:Blk}(h:ts.length=[a,b].length):∃t u,ts=[t,u]:=by
 match ts,h with
 |[t,u],_=>exact⟨t,u,rfl⟩
theorem Vu(most:Int)(l:List kS)(hl:l.length<=100000)(x:kS)(hx:x.types.length<=1000000):
  MCall Pg 33 [.c (.ptr 0 0),.ag (x.enc.map .d)] [xW most l.length 1,oF l] (.tup [.c (.d (.int .i64 (kX most l x).1.1)),.c (.d (.int .i64 (kX most l x).1.2))]) [xW most (kX most l x).2.length 2,.dead,oF (kX most l x).2]:=by
 refine zxy ⟨by simp,by simp,by simp,by simp,by simp,by simp,by simp;rfl⟩ λts hts ok hb c hN hp=>?_;obtain⟨t,u,rfl⟩:=F4 hts;obtain⟨R,hR⟩:∃R,kX most l x=R:=⟨_,rfl⟩
 rw[hR];unfold kX at hR;unfold VE;simp;refine fO gy hp (λj:Nat=>j<=x.types.length/\(x.types.drop j).all iC=x.types.all iC) (λj=>[(6,.c (.d (.int .i64 j))),(3,.c (.d (.rp x.enc 0))),(0,.c (.ptr 0 0))]) (λ_=>[xW most l.length 1,oF l,.pin t 0,.pin u 1]) (λj=>x.types.length-j) 0 [0,1,2,3] ⟨by simp,by simp⟩ (by simp) λj ⟨h1,h2⟩=>?_;unfold VC;simp;apply gM<;>intro h
 ·have hj:j<x.types.length:=by simpa using h
  rw[aD hj,all_cons]at h2;simp[hj];refine gQ (AX _) ?_;have hw:=wI (n:=(j:Int)+1);generalize iC x.types[j]=q at*
  cases q with
  |false=>
   simp only[Bool.false_and]at h2;rw[aC h2.symm]at hR;subst hR;simp;exact fK [0,3,1] [2,3]
  |true=>
   simp only[Bool.true_and]at h2;simp;refine fF (j+1) [0,1,2,3] ⟨by omega,h2⟩ (by omega) ?_;simp[hw]
 ·have hj:j=x.types.length:=by simp at h;omega
  subst hj;rw[aO,all_nil]at h2;rw[aB (by rw[<-h2];simp)]at hR;simp;refine fO gy hp (λi:Nat=>i<=l.length/\fi (λy=>AP y x) i (l.drop i)=fi (λy=>AP y x) 0 l) (λi=>[(8,.c (.d (.int .i64 i))),(3,.c (.d (.rp x.enc 0))),(0,.c (.ptr 0 0))]) (λ_=>[xW most l.length 1,oF l,.pin t 0,.pin u 1]) (λi=>l.length-i) 0 [0,1,2,3] ⟨by simp,by simp⟩ (by simp) λi ⟨h3,h4⟩=>?_;unfold VD;simp;apply gM<;>intro h
  ·have hi:i<l.length:=by simpa using h
   rw[aD hi,fi]at h4;have hw:=wI (n:=(i:Int)+1);simp[hi];refine gQ (zGT _ _) ?_;by_cases q:AP l[i] x=true
   ·rw[aC q]at h4;rw[<-h4,aC (by omega)]at hR;subst hR;simp[q];refine⟨by decide,?_⟩;exact fK [0,3,1] [2,3]
   ·rw[aB q]at h4;simp[q];refine⟨by decide,?_⟩;refine fF (i+1) [0,1,2,3] ⟨by omega,h4⟩ (by omega) ?_;simp[hw]
  ·have hi:i=l.length:=by simp at h;omega
   subst hi;rw[aO,fi]at h4;rw[<-h4,aB (by decide)]at hR;simp;by_cases m:most<=l.length
   ·rw[aC m]at hR;subst hR;simp[m];refine⟨by decide,?_⟩;exact fK [0,3,1] [2,3]
   ·rw[aB m]at hR;subst hR;have hw:IntKind.i64.wrap (l.length:Int)=(l.length:Int):=wI;simp[m];refine⟨by decide,by omega,by decide,?_⟩;exact fM [0,1,4] [2,3] (by simp[hw,nY])
@[simp] theorem jb.enc_length(f:jb):f.enc.length=13:=by simp[jb.enc]
@[simp] theorem Site.enc_length(f:Site):f.enc.length=3:=rfl
abbrev oV(l:List jb):Blk:=.arr 13 ((l.map jb.enc).map (·.map .d))
abbrev q9(l:List Site):Blk:=.arr 3 ((l.map Site.enc).map (·.map .d))
abbrev uT(L:iN)(s:CS)(a b d:Nat):Blk:=.box [.d (.sl false 1 (encS L.names)),.d (.sl false 2 (L.mods.map jP.enc)),.d (.sl false 1 (L.scopes.map qZ)),.d (.str L.main.name),.d (.int .i64 L.main.module),.d (.int .i64 L.main.decl),.ptr 1 0,.msl 13 a 0 s.funs.length,.d (.int .i64 s.main),.msl 3 b 0 s.sites.length,.msl 4 d 0 s.bad.length,.d (.int .i64 s.module),.d (.sl false 1 (encS s.vars)),.d (.sl false 4 (s.wth.map gT.enc)),.d (.int .i64 s.e),.d (.int .i64 s.line),.d (.int .i64 s.col)]
abbrev qc(L:iN)(s:CS):List Blk:=[uT L s 2 3 4,xW 256 s.tab.length 5,oV s.funs,q9 s.sites,lq s.bad,oF s.tab]
abbrev Vv(L:iN)(s:CS):List Blk:=[uT L s 2 6 4,xW 256 s.tab.length 5,oV s.funs,.dead,lq s.bad,oF s.tab,q9 s.sites]
abbrev Ig(L:iN)(s:CS):List Blk:=[uT L s 2 6 4,xW 256 s.tab.length 7,oV s.funs,.dead,lq s.bad,.dead,q9 s.sites,oF s.tab]
theorem mM{ts:List (Nat × Nat)}{a b c d e f:Blk}(h:ts.length=[a,b,c,d,e,f].length):∃t u v w x y,ts=[t,u,v,w,x,y]:=by
 match ts,h with
 |[t,u,v,w,x,y],_=>exact⟨t,u,v,w,x,y,rfl⟩
section
variable (L:iN)
theorem Vw(ln cl e:Int)(s:CS):MCall Pg 79 [.c (.ptr 0 0),.c (.d (.int .i64 ln)),.c (.d (.int .i64 cl)),.c (.d (.int .i64 e))] (qc L s) (.tup []) (qc L (ky ln cl e s)):=by
 refine zle lZ λts hts ok hb c hN hp=>?_;obtain⟨t,u,v,w,x,y,rfl⟩:=mM hts;unfold VL ky;by_cases h0:s.e=0
 ·rw[aC h0];simp[h0];exact fK [0,1,2,3,4,5] [6,7,8,9,10,11]
 ·rw[aB h0];simp[h0];exact fK [0,1,2,3,4,5] [6,7,8,9,10,11]
theorem Ac{α:Type}{l:List α}{i:Nat}{d:α}(e:l[i]?=some d)(h:i<l.length):l[i]=d:=by rw[aA h]at e;exact bN e
@[simp] theorem gp.enc_0(n:gp):n.enc[0]?=some (.int .i64 n.kind):=by rw[n.enc_eq];try rfl
@[simp] theorem gp.enc_g0(n:gp)(h:0<n.enc.length):n.enc[0]=.int .i64 n.kind:=Ac n.enc_0 h
@[simp] theorem gp.enc_1(n:gp):n.enc[1]?=some (.str n.text):=by rw[n.enc_eq];try rfl
@[simp] theorem gp.enc_g1(n:gp)(h:1<n.enc.length):n.enc[1]=.str n.text:=Ac n.enc_1 h
@[simp] theorem gp.enc_2(n:gp):n.enc[2]?=some (.int .i64 n.n):=by rw[n.enc_eq];try rfl
@[simp] theorem gp.enc_g2(n:gp)(h:2<n.enc.length):n.enc[2]=.int .i64 n.n:=Ac n.enc_2 h
@[simp] theorem gp.enc_3(n:gp):n.enc[3]?=some (.int .i64 n.line):=by rw[n.enc_eq];try rfl
@[simp] theorem gp.enc_g3(n:gp)(h:3<n.enc.length):n.enc[3]=.int .i64 n.line:=Ac n.enc_3 h
@[simp] theorem gp.enc_4(n:gp):n.enc[4]?=some (.int .i64 n.col):=by rw[n.enc_eq];try rfl
@[simp] theorem gp.enc_g4(n:gp)(h:4<n.enc.length):n.enc[4]=.int .i64 n.col:=Ac n.enc_4 h
@[simp] theorem gp.enc_5(n:gp):n.enc[5]?=some (.sl false 4 (n.types.map gT.enc)):=by rw[n.enc_eq];try rfl
@[simp] theorem gp.enc_g5(n:gp)(h:5<n.enc.length):n.enc[5]=.sl false 4 (n.types.map gT.enc):=Ac n.enc_5 h
@[simp] theorem gp.enc_6(n:gp):n.enc[6]?=some (.sl false 1 (encS n.names)):=by rw[n.enc_eq];try rfl
@[simp] theorem gp.enc_g6(n:gp)(h:6<n.enc.length):n.enc[6]=.sl false 1 (encS n.names):=Ac n.enc_6 h
@[simp] theorem gp.enc_7(n:gp):n.enc[7]?=some (.sl false 8 (n.kids.map gp.enc)):=by rw[n.enc_eq];try rfl
@[simp] theorem gp.enc_g7(n:gp)(h:7<n.enc.length):n.enc[7]=.sl false 8 (n.kids.map gp.enc):=Ac n.enc_7 h
theorem vE(n:gp)(e:Int)(s:CS):MCall Pg 57 [.c (.ptr 0 0),.ag (n.enc.map .d),.c (.d (.int .i64 e))] (qc L s) (.tup []) (qc L (ky n.line n.col e s)):=by
 refine zm5 lZ λts hts ok hb c hN hp=>?_;obtain⟨t,u,v,w,x,y,rfl⟩:=mM hts;have hf:=Vw L n.line n.col e s;unfold VM;simp;refine gN [0,1,2,3,4,5] hf ?_;simp;exact fK [0,1,2,3,4,5] [6,7,8,9,10,11]
theorem Cn(t0:gT)(ln cl:Int)(s:CS)(hw:s.wth.length<=1000000):MCall Pg 53 [.c (.ptr 0 0),.ag (t0.enc.map .d),.c (.d (.int .i64 ln)),.c (.d (.int .i64 cl))] (qc L s) (.ag ((jo t0 ln cl s).1.enc.map .d)) (qc L (jo t0 ln cl s).2):=by
 refine zAa lZ λts hts ok hb c hN hp=>?_;obtain⟨t,u,v,w,x,y,rfl⟩:=mM hts;have hr:=Mr s.vars s.wth hw t0;have hf:=Vw L ln cl 9 s;unfold jo;simp only;generalize qX t0 s.vars s.wth=r at*
 unfold VN;simp;refine gN [] hr ?_;by_cases h0:r.2=0
 ·rw[aB (by simp[h0])];simp[h0];refine⟨by decide,?_⟩;exact fK [0,1,2,3,4,5] [6,7,8,9,10,11]
 ·rw[aC h0];simp[h0];refine⟨by decide,?_⟩;refine gN [0,1,2,3,4,5] hf ?_;simp;exact fK [0,1,2,3,4,5] [6,7,8,9,10,11]
theorem Co(t0:gT)(n:gp)(s:CS):MCall Pg 54 [.c (.ptr 0 0),.ag (t0.enc.map .d),.ag (n.enc.map .d)] (qc L s) (.ag ((pF t0 n.line n.col s).1.enc.map .d)) (qc L (pF t0 n.line n.col s).2):=by
 refine zD9 lZ λts hts ok hb c hN hp=>?_;obtain⟨t,u,v,w,x,y,rfl⟩:=mM hts;have hr:=AU t0;have hf:=vE L n 9 s;unfold pF;generalize mE t0=r at*
 unfold VO;simp;refine gQ hr ?_;by_cases h0:r.2=0
 ·rw[aB (by simp[h0])];simp[h0];exact fK [0,1,2,3,4,5] [6,7,8,9,10,11]
 ·rw[aC h0];simp[h0];refine gN [0,1,2,3,4,5] hf ?_;simp;exact fK [0,1,2,3,4,5] [6,7,8,9,10,11]
@[simp] theorem gu.er_map(c:gu):c.enc.map D.er=c.enc:=by rw[gu.enc_eq];try rfl
theorem Ms:∀l:List Int,D.erdE (encI l)=encI l
|[]=>rfl
|i::l=>by have:=Ms l;unfold encI at*;simp only[map_cons,D.erdE,D.erdL,D.erd,this]
theorem F5:∀l:List fE,D.erdE (encS l)=encS l
|[]=>rfl
|i::l=>by have:=F5 l;unfold encS at*;simp only[map_cons,D.erdE,D.erdL,D.erd,this]
theorem Vx:∀l:List (fE × Int),D.erdE (iI l)=iI l
|[]=>rfl
|i::l=>by have:=Vx l;unfold iI at*;simp only[map_cons,D.erdE,D.erdL,D.erd,this]
mutual
theorem gT.erdLL:∀c:gT,D.erdL c.enc=c.enc
|.mk k n s l=>by rw[gT.enc];simp only[D.erdL,D.erd,F5,gT.erdEE l]
theorem gT.erdEE:∀l:List gT,D.erdE (gT.encs l)=gT.encs l
|[]=>rfl
|c::l=>by rw[gT.encs,D.erdE,gT.erdLL c,gT.erdEE l]
end
mutual
theorem gY.erdLL:∀c:gY,D.erdL c.enc=c.enc
|.mk t n s f g=>by rw[gY.enc];simp only[D.erdL,D.erd,Ms,Vx,F5,gY.erdEE f,gY.erdEE g]
theorem gY.erdEE:∀l:List gY,D.erdE (gY.encs l)=gY.encs l
|[]=>rfl
|c::l=>by rw[gY.encs,D.erdE,gY.erdLL c,gY.erdEE l]
end
theorem gT.erdE_map(l:List gT):D.erdE (l.map gT.enc)=l.map gT.enc:=by rw[<-gT.encs_map];exact gT.erdEE l
theorem gY.erdE_map(l:List gY):D.erdE (l.map gY.enc)=l.map gY.enc:=by rw[<-gY.encs_map];exact gY.erdEE l
mutual
theorem gu.erdLL:∀c:gu,D.erdL c.enc=c.enc
|.mk k n t is ns ts cs ks=>by rw[gu.enc];simp only[D.erdL,D.erd,Ms,F5,gT.erdE_map,gY.erdE_map,gu.erdEE ks]
theorem gu.erdEE:∀l:List gu,D.erdE (gu.encs l)=gu.encs l
|[]=>rfl
|c::l=>by rw[gu.encs,D.erdE,gu.erdLL c,gu.erdEE l]
end
theorem gu.erdE_map(l:List gu):D.erdE (l.map gu.enc)=l.map gu.enc:=by rw[<-gu.encs_map];exact gu.erdEE l
attribute [simp] gu.erdLL gu.erdE_map
theorem yf(k n:Int)(t:fE)(is:List Int)(ns:List fE)(ts:List gT)(cs:List gY)(ks:List gu):(gu.mk k n t is ns ts cs ks).enc=[.int .i64 k,.int .i64 n,.str t,.sl false 1 (encI is),.sl false 1 (encS ns),.sl false 4 (ts.map gT.enc),.sl false 5 (cs.map gY.enc),.sl false 8 (ks.map gu.enc)]:=by
 rw[gu.enc_eq];try rfl
theorem mr.mkC{v:AV}{bs':List Blk}{ts:List (Nat × Nat)}{vs:List AV}{S:St}(l qs:List Nat)(h:l.Nodup/\(one? vs).erd=v.ren (jA l)/\qQ S l l bs'/\ou S l l qs ts bs':=by simp[cK,cN,cT,yf,su,kM,vT,nJ,noC,encI,encS,AV.erds,AV.erd,D.erdL,D.erd,D.erdE,jY,jZ]):mr v bs' ts vs S:=fI l qs h
theorem EA(z:gu)(a b:gT)(n:gp)(s:CS)(hs:s.sites.length<=1000000000):MCall Pg 93 [.c (.ptr 0 0),.ag (z.enc.map .d),.ag (a.enc.map .d),.ag (b.enc.map .d),.ag (n.enc.map .d)] (qc L s) (.ag ((mF z a b n.line n.col s).1.enc.map .d)) (Vv L (mF z a b n.line n.col s).2):=by
 refine zEa lZ λts hts ok hb c hN hp=>?_;obtain⟨t,u,v,w,x,y,rfl⟩:=mM hts;unfold mF;unfold VP;by_cases h0:s.e=0
 ·rw[aB (by simp[h0])];have hw:IntKind.i64.wrap (s.sites.length:Int)=(s.sites.length:Int):=wI;simp[h0];refine⟨by omega,by decide,by decide,?_⟩;exact fI [0,1,2,3,4,5,13] [6,7,8,9,10,11] (by simp[hw,nY,yf,Site.enc,h0,encI,encS,AV.erd,AC.erd])
 ·rw[aC h0];simp[h0];exact fK [0,1,2,9,4,5,3] [6,7,8,9,10,11]
theorem yg(z:gu)(a b:gT)(n:gp)(s:CS)(hs:s.sites.length<=1000000000):MCall Pg 59 [.c (.ptr 0 0),.ag (z.enc.map .d),.ag (a.enc.map .d),.ag (b.enc.map .d),.ag (n.enc.map .d)] (qc L s) (.ag ((ko z a b n.line n.col s).1.enc.map .d)) (Vv L (ko z a b n.line n.col s).2):=by
 refine zBF lZ λts hts ok hb c hN hp=>?_;obtain⟨t,u,v,w,x,y,rfl⟩:=mM hts;have hc:=EA L z a b n s hs;have hf:=vE L n 15 s;unfold ko;unfold VQ;by_cases h0:s.e=0;rotate_left
 ·rw[aC h0];simp[h0];exact fK [0,1,2,9,4,5,3] [6,7,8,9,10,11]
 rw[aB (by simp[h0])];simp[h0];refine gQ (FW a b) ?_;by_cases h1:pE a b=true
 ·rw[aC h1];simp[h1];exact fM [0,1,2,9,4,5,3] [6,7,8,9,10,11] (by simp[h0])
 rw[aB h1];simp[h1];refine gQ (Ui a b) ?_;by_cases h2:AJ a b=true
 ·rw[aC h2];generalize mF z a b n.line n.col s=r at*
  simp[h2];refine gP [0,1,2,3,4,5] hc (by simp[h0]) ?_;simp;exact fK [0,1,2,3,4,5,13] [6,7,8,9,10,11]
 ·rw[aB h2];generalize ky n.line n.col 15 s=r at*
  simp[h2];refine gP [0,1,2,3,4,5] hf (by simp[h0]) ?_;simp;exact fK [0,1,2,9,4,5,3] [6,7,8,9,10,11]
end
abbrev fJ:=@mr.mkC
theorem ku(k:Int):gU Pg 56 [.one (.int .i64 k)] (.agg (bT k).enc):=by
 refine zD5 (by simp) λo c hN hp=>?_;unfold VF;simp[vT]
theorem Vy(d:jS)(hd:d.vars.length<=1000000):gU Pg 52 [.agg d.enc] (.one (.sl false 1 (encS (d.vars.map (·.1))))):=by
 refine zD6 (by simp) λo c hN hp=>?_;unfold VH;simp;refine fU [.t 3] ?_;simp;refine fO gy hp (λj:Nat=>j<=d.vars.length) (λj=>[(4,.c (.d (.int .i64 j))),(3,.c (.msl 1 0 0 j)),(1,.c (.d (.rp d.enc 0)))]) (λj=>[sj ((d.vars.take j).map (·.1))]) (λj=>d.vars.length-j) 0 [0] (by simp) (by simp[encS]) λj h1=>?_;unfold VG;simp;apply gM<;>intro h
 ·have hj:j<d.vars.length:=by simpa using h
  obtain⟨v,hv⟩:∃v,d.vars[j]=v:=⟨_,rfl⟩
  have hw:=wI (n:=(j:Int)+1);have tk1:(d.vars.take (j+1)).map (·.1)=(d.vars.take j).map (·.1)++[v.1]:=by rw[aJ hj,map_append,hv];try rfl
  simp[hj,hv];refine⟨by omega,by omega,?_⟩;refine fF (j+1) [1] (by omega) (by omega) ?_;rw[tk1];simp[hw];exact aG (by simp;omega)
 ·have hj:j=d.vars.length:=by simp at h;omega
  subst hj;have z:take d.vars.length (encS (take d.vars.length (List.map (λx=>x.1) d.vars)))=encS (List.map (λx=>x.1) d.vars):=by
   rw[aG (by simp),aG (by simp)]
  simp[z]
theorem Mt(env:Env)(hl:env.length<=1000000)(s:fE)(t:gT):gU Pg 137 [.one (.sl false 5 (env.map iZ)),.one (.str s),.agg t.enc] (.one (.sl false 5 ((env++[(s,t)]).map iZ))):=by
 refine zD8 (by simp) λo c hN hp=>?_;unfold VK;have z:take (length env+1) (List.map iZ env++[.str s::t.enc])=List.map iZ env++[.str s::t.enc]:=aG (by simp);simp[nY];refine⟨by omega,by omega,by decide,?_⟩
 first
  |exact z
  |(rw[z];rfl)
  |trace_state
theorem Mv(env:Env)(x:fE):qz env x= -1\/(0<=qz env x/\qz env x<env.length):=by
 have:=FX (λb:fE × gT=>decide (b.1=x)) 0 env.reverse;unfold qz;rw[length_reverse]at this;simp only;split<;>omega
theorem find_ok(env:Env)(hl:env.length<=1000000)(x:fE):gU Pg 134 [.one (.sl false 5 (env.map iZ)),.one (.str x)] (.one (.int .i64 (qz env x))):=by
 refine zD7 (by simp) λo c hN hp=>?_;obtain⟨R,hR⟩:∃R,qz env x=R:=⟨_,rfl⟩
 rw[hR];unfold qz at hR;unfold VJ;have hw0:IntKind.i64.wrap ((env.length:Int)-1)=(env.length:Int)-1:=wI;simp[hw0];refine fO gy hp (λj:Nat=>j<=env.length/\fi (λb:fE × gT=>decide (b.1=x)) j (env.reverse.drop j)=fi (λb:fE × gT=>decide (b.1=x)) 0 env.reverse) (λj=>[(5,.c (.d (.int .i64 ((env.length:Int)-1-j)))),(1,.c (.d (.str x))),(0,.c (.d (.sl false 5 (env.map iZ))))]) (λ_=>[]) (λj=>env.length-j) 0 [] ⟨by simp,by simp⟩ (by simp) λj ⟨h1,h2⟩=>?_;unfold VI;have hw:=wI (n:=(env.length:Int)-1-j-1);simp;apply gM<;>intro h
 ·have hj:j<env.length:=by simp at h;omega
  have hj2:j<env.reverse.length:=by simpa using hj
  rw[aD hj2,fi,getElem_reverse]at h2;obtain⟨k,hk⟩:∃k,env.length-1-j=k:=⟨_,rfl⟩
  have hkl:k<env.length:=by omega
  have hki:(env.length:Int)-1-j=(k:Int):=by omega
  simp only[hk]at h2;rw[hki]at hw;obtain⟨v,hv⟩:∃v,env[k]=v:=⟨_,rfl⟩
  have hg:env[env.length-1-j]?=some v:=by rw[hk,aA hkl,hv]
  have hg2:env[k]?=some v:=by rw[aA hkl,hv]
  have hjl:(j:Int)<=(env.length:Int)-1:=by omega
  rw[hv]at h2;simp[hki,hg,hg2,hjl,hk];by_cases q:v.1=x
  ·rw[aC (by simpa using q)]at h2;rw[<-h2]at hR;have hR:(if(j:Int)<0 then -1 else(env.length:Int)-1-j)=R:=hR;rw[aB (by omega)]at hR;simp[q];omega
  ·rw[aB (by simpa using q)]at h2;simp[q];refine fF (j+1) [] ⟨by omega,h2⟩ (by omega) ?_;simp[hw];omega
 ·have hj:j=env.length:=by simp at h;omega
  subst hj;rw[bE (by simp),fi]at h2;rw[<-h2]at hR;simp at hR;simp[hR]
@[simp] theorem jS.enc_g3(d:jS)(h:3<d.enc.length):d.enc[3]=.str d.param:=rfl
@[simp] theorem jS.enc_g4(d:jS)(h:4<d.enc.length):d.enc[4]=.sl false 4 (d.types.map gT.enc):=rfl
structure BS (d:jS):Prop where
 types:d.types.length=2
 vars:d.vars.length<=1000000
structure jq (L:iN) (e:iy):Prop where
 m0:0<=e.module
 m1:e.module<L.mods.length
 d0:0<=e.decl
 d1:e.decl<(L.mods.getD e.module.toNat oP).decs.length
structure nZ (L:iN):Prop where
 few:L.mods.length<=16
 names:L.names.length=L.mods.length
 scopes:L.scopes.length=L.mods.length
 decs:∀m,m∈L.mods->∀d,d∈m.decs->BS d
 ents:∀sc,sc∈L.scopes->∀e,e∈sc->jq L e
theorem F6{L:iN}(hL:nZ L){m k:Int}(h:jq L ⟨bs [],m,k⟩):∃(mn kn:Nat) (M:jP),m=mn/\k=kn/\L.mods[mn]?=some M/\M.decs[kn]?=some (vP L m k)/\BS (vP L m k):=by
 obtain⟨a1,a2,a3,a4⟩:=h;simp only at a1 a2 a3 a4;obtain⟨g1,g2⟩:=getD_in L.mods oP (z:=m) (n:=L.mods.length) rfl a1 a2;obtain⟨g3,g4⟩:=getD_in (L.mods.getD m.toNat oP).decs BM (z:=k) rfl a3 a4;exact⟨m.toNat,k.toNat,_,by omega,by omega,g1,g3,hL.decs _ g2 _ g4⟩
theorem Mw{l:List gT}(h:l.length=2):∃a b,l=[a,b]:=by
 match l,h with
 |[a,b],_=>exact⟨a,b,rfl⟩
section
variable (L:iN)
theorem zIr(hL:nZ L)(e:iy)(he:jq L ⟨bs [],e.module,e.decl⟩)(l:List gT)(hl:l.length<=1000000)(s:CS):
  MCall Pg 164 [.c (.ptr 0 0),.ag (e.enc.map .d),.c (.d (.sl false 4 (l.map gT.enc)))] (qc L s) (.tup [.ag ((sW L e l).1.enc.map .d),.c (.d (.bool (sW L e l).2))]) (qc L s):=by
 refine zyD lZ λts hts ok hb c hN hp=>?_;obtain⟨t,u,v,w,x,y,rfl⟩:=mM hts;obtain⟨mn,kn,M,e1,e2,g1,g2,hd⟩:=F6 hL he;unfold sW;simp only;generalize vP L e.module e.decl=d at*
 obtain⟨ta,tb,hty⟩:=Mw hd.types;have e3:d.types.getD 0 noT=ta:=by rw[hty];try rfl
 have e4:d.types.getD 1 noT=tb:=by rw[hty];try rfl
 rw[e3,e4];have hv:=Vy d hd.vars;have r1:=Mr (d.vars.map (·.1)) l hl ta;have r2:=Mr (d.vars.map (·.1)) l hl tb;generalize qX ta (d.vars.map (·.1)) l=a at*
 generalize qX tb (d.vars.map (·.1)) l=b at*
 have hn:gU Pg 76 [.agg [.int .i64 6,.str (bs []),.sl true 1 [],.sl true 4 [a.1.enc,b.1.enc]]] (.tup [.agg (mE (kM a.1 b.1)).1.enc,.one (.int .i64 (mE (kM a.1 b.1)).2)]):=gU.erd (AU (kM a.1 b.1)) (by simp[kM,su,DV.erds,DV.erd,D.erdL,D.erd,D.erdE,encS]);generalize mE (kM a.1 b.1)=r at*
 unfold VR;simp[e1,e2,g1,g2];refine⟨by decide,?_⟩;refine gQ hv ?_;simp[hty];refine gN [] r1 ?_;simp[hty];refine gN [] r2 ?_;simp;refine gQ hn ?_;by_cases q1:a.2=0
 ·by_cases q2:b.2=0
  ·by_cases q3:r.2=0
   ·simp[q1,q2,q3];exact fI [0,1,2,3,4,5] [6,7,8,9,10,11] (by simp[q1,q2,q3,AV.erds,AV.erd])
   ·simp[q1,q2,q3];exact fI [0,1,2,3,4,5] [6,7,8,9,10,11] (by simp[q1,q2,q3,AV.erds,AV.erd])
  ·simp[q1,q2];exact fI [0,1,2,3,4,5] [6,7,8,9,10,11] (by simp[q1,q2,AV.erds,AV.erd])
 ·simp[q1];exact fI [0,1,2,3,4,5] [6,7,8,9,10,11] (by simp[q1,AV.erds,AV.erd])
end
end Go.Gr
namespace Go.Gr
open Go.Abs Go.Proofs
structure kz (L:iN) (s:CS) (b:Nat):Prop where
 wth:s.wth.length<=1000000
 sites:s.sites.length+b<=1000000000
 tab:s.tab.length<=256
 m0:0<=s.module
 m1:s.module<L.mods.length
 few:s.funs.length<=1000/\s.bad.length<=1000
 ist:∀x,x∈s.tab->jq L ⟨bs [],x.module,x.decl⟩/\x.types.length<=1000000
structure rX (env:Env) (b:Nat):Prop where
 len:env.length+b<=1000000
 wf:∀v,v∈env->jD v.2
theorem vV{L:iN}{s:CS}{b:Nat}(h:kz L s b)(ln cl e:Int):kz L (ky ln cl e s) b:=by
 unfold ky;split
 ·exact⟨h.wth,h.sites,h.tab,h.m0,h.m1,h.few,h.ist⟩
 ·exact h
theorem kz.less{L:iN}{s:CS}{b c:Nat}(h:kz L s b)(k:c<=b):kz L s c:=⟨h.wth,by have:=h.sites;omega,h.tab,h.m0,h.m1,h.few,h.ist⟩
theorem rX.less{env:Env}{b c:Nat}(h:rX env b)(k:c<=b):rX env c:=⟨by have:=h.len;omega,h.wf⟩
theorem rX.more{env:Env}{b:Nat}(h:rX env (b+1))(x:fE){t:gT}(ht:jD t):rX (env++[(x,t)]) b:=⟨by have:=h.len;simp;omega,λv hv=>by
 rcases aQ.1 hv with hv|hv
 ·exact h.wf v hv
 ·simp at hv;subst hv;exact ht⟩
theorem zB2(t:gT)(vs:List fE)(w:List gT):jD (qX t vs w).1:=by
 unfold qX;split
 ·exact rA
 split
 ·exact rA
 split
 ·exact FK _
 ·exact rA
theorem wQ{L:iN}{s:CS}{b:Nat}(h:kz L s b)(t:gT)(ln cl:Int):kz L (jo t ln cl s).2 b/\jD (jo t ln cl s).1:=by
 refine⟨?_,zB2 _ _ _⟩;unfold jo;simp only;split
 ·exact vV h _ _ _
 ·exact h
theorem F7{L:iN}{s:CS}{b:Nat}(h:kz L s b)(t:gT)(ln cl:Int):kz L (pF t ln cl s).2 b/\jD (pF t ln cl s).1:=by
 refine⟨?_,FK _⟩;unfold pF;simp only;split
 ·exact vV h _ _ _
 ·exact h
theorem EB{L:iN}{s:CS}{b:Nat}(h:kz L s (b+1))(z:gu)(t u:gT)(ln cl:Int):kz L (mF z t u ln cl s).2 b:=by
 unfold mF;split
 ·exact h.less (by omega)
 ·exact⟨h.wth,by have:=h.sites;simp;omega,h.tab,h.m0,h.m1,h.few,h.ist⟩
theorem xX{L:iN}{s:CS}{b:Nat}(h:kz L s (b+1))(z:gu)(t u:gT)(ln cl:Int):kz L (ko z t u ln cl s).2 b:=by
 unfold ko;split
 ·exact h.less (by omega)
 split
 ·exact h.less (by omega)
 split
 ·exact EB h _ _ _ _ _
 ·exact vV (h.less (by omega)) _ _ _
theorem Ih{l:List kS}(h:l.length<=256)(x:kS):(kX 256 l x).2.length<=256:=by
 unfold kX;split
 ·exact h
 split
 ·exact h
 split
 ·exact h
 ·simp;omega
theorem Mx{m:Int}{l:List kS}{x y:kS}(h:y∈(kX m l x).2):y∈l\/y=x:=by
 unfold kX at h;split at h
 ·exact .inl h
 split at h
 ·exact .inl h
 split at h
 ·exact .inl h
 ·rcases aQ.1 h with h|h
  ·exact .inl h
  ·exact .inr (by simpa using h)
theorem Vz{L:iN}{s:CS}{b:Nat}(h:kz L s b)(ln cl:Int)(e:iy)(l:List gT)(he:jq L ⟨bs [],e.module,e.decl⟩)(hl:l.length<=1000000):kz L (sZ L ln cl e l s).2 b/\jD (sZ L ln cl e l s).1.2:=by
 unfold sZ;by_cases q:(sW L e l).2=false
 ·rw[aC q];exact⟨vV h _ _ _,rA⟩
 ·rw[aB q];simp only;have h2:kz L {s with tab:=(kX 256 s.tab ⟨e.module,e.decl,l⟩).2} b:=⟨h.wth,h.sites,Ih h.tab _,h.m0,h.m1,h.few,λx hx=>by
   rcases Mx hx with hx|hx
   ·exact h.ist x hx
   ·subst hx;exact⟨he,hl⟩⟩
  refine⟨?_,FK _⟩;split
  ·exact vV h2 _ _ _
  ·exact h2
section
variable (L:iN)
theorem WA(hL:nZ L)(n:gp)(e:iy)(he:jq L ⟨bs [],e.module,e.decl⟩)(l:List gT)(hl:l.length<=1000000)(s:CS)(ht:s.tab.length<=256):
  MCall Pg 135 [.c (.ptr 0 0),.ag (n.enc.map .d),.ag (e.enc.map .d),.c (.d (.sl false 4 (l.map gT.enc)))] (qc L s) (.tup [.ag ((sZ L n.line n.col e l s).1.1.enc.map .d),.ag ((sZ L n.line n.col e l s).1.2.enc.map .d)]) (Ig L (sZ L n.line n.col e l s).2):=by
 refine zBG lZ λts hts ok hb c hN hp=>?_;obtain⟨t,u,v,w,x,y,rfl⟩:=mM hts;have hs:=zIr L hL e he l hl s;have hf:=vE L n 9 s;have ha:=Vu 256 s.tab (by omega) ⟨e.module,e.decl,l⟩ hl;have hb0:=ku 0;unfold sZ;generalize sW L e l=g at*
 unfold VS;simp;refine gN [0,1,2,3,4,5] hs ?_;by_cases g0:g.2=false
 ·rw[aC g0];simp[g0];refine gN [0,1,2,3,4,5] hf ?_;simp;refine gQ hb0 ?_;simp;exact fI [0,1,2,9,4,11,3,5] [6,7,8,9,10,11] (by simp[noC,cN,yf,vT,nJ,encI,encS,AV.erds,AV.erd])
 ·rw[aB g0];simp only;generalize hr:kX 256 s.tab ⟨e.module,e.decl,l⟩=r at*
  have hf2:=vE L n r.1.2 {s with tab:=r.2};rw[Bool.not_eq_false]at g0;simp[g0];refine gP [1,5] ha (by simp[kS.enc]) ?_;by_cases r0:r.1.2=0
  ·rw[aB (by simp[r0])];simp[r0];refine⟨by decide,by decide,?_⟩;exact fI [0,1,2,9,4,11,3,15] [6,7,8,9,10,11] (by simp[cN,yf,encI,encS,AV.erds,AV.erd])
  ·rw[aC r0];simp[r0];refine⟨by decide,?_⟩;refine gN [0,1,2,3,4,15] hf2 ?_;simp;refine⟨by decide,?_⟩;exact fI [0,1,2,9,4,11,3,15] [6,7,8,9,10,11] (by simp[cN,yf,encI,encS,AV.erds,AV.erd])
end
mutual
def iF:gp->Nat
|.mk _ _ _ _ _ _ _ l=>iO l+1
def iO:List gp->Nat
|[]=>0
|n::l=>iF n+iO l
end
theorem qE(n:gp):iF n=iO n.kids+1:=by cases n;rw[iF];try rfl
abbrev F8(c:gu)(t:gT):AV:=.tup [.ag (c.enc.map .d),.ag (t.enc.map .d)]
abbrev zI2(n:gp)(env:Env):List AV:=[.c (.ptr 0 0),.ag (n.enc.map .d),.c (.d (.sl false 5 (env.map iZ)))]
section
variable (L:iN)
def jL(f:FuncId)(n:gp)(i:Inf):Prop:=∀env s b,rX env (iF n)->kz L s (8*iF n+b)->MCall Pg f (zI2 n env) (qc L s) (F8 (i env s).1.1 (i env s).1.2) (Ig L (i env s).2)
def jd(n:gp)(i:Inf):Prop:=∀env s b,rX env (iF n)->kz L s (8*iF n+b)->kz L (i env s).2 b/\jD (i env s).1.2
abbrev rC(n:gp)(i:Inf):Prop:=jL L 58 n i/\jd L n i
theorem zJH(n a b:gp)(hk:n.kids=[a,b])(ia ib:Inf)(ha:jd L a ia)(hb:jd L b ib):jd L n (pG n a ia ib):=λenv s k he hs=>by
 have hn:iF n=iF a+iF b+1:=by rw[qE,hk];simp[iO]
 have h1:=ha env s (1+8*iF b+k) (he.less (by omega)) (hs.less (by omega));unfold pG;simp only;by_cases q:0<n.types.length/\(ia env s).2.e=0
 ·rw[aC q];have h2:=wQ h1.1 (n.types.getD 0 noT) n.line n.col;have h3:=xX (b:=8*iF b+k) (h2.1.less (by omega)) (ia env s).1.1 (ia env s).1.2 (jo (n.types.getD 0 noT) n.line n.col (ia env s).2).1 a.line a.col;exact hb _ _ k ((he.less (c:=iF b+1) (by omega)).more _ h2.2) h3
 ·rw[aB q];exact hb _ _ k ((he.less (c:=iF b+1) (by omega)).more _ h1.2) (h1.1.less (by omega))
theorem zId(n a b:gp)(hk:n.kids=[a,b])(ia ib:Inf)(ha:rC L a ia)(hb:rC L b ib):jL L 82 n (pG n a ia ib):=λenv s k he hs=>by
 refine zFB lZ λts hts ok hbk c hN hp=>?_;obtain⟨t,u,v,w,x,y,rfl⟩:=mM hts;have hn:iF n=iF a+iF b+1:=by rw[qE,hk];simp[iO]
 have m1:=ha.1 env s (1+8*iF b+k) (he.less (by omega)) (hs.less (by omega));have p1:=ha.2 env s (1+8*iF b+k) (he.less (by omega)) (hs.less (by omega));unfold pG;simp only;generalize ia env s=r1 at*
 have hel:=he.len;unfold VV;simp[hk];refine gN [0,1,2,3,4,5] m1 ?_;by_cases q:0<n.types.length/\r1.2.e=0
 ·rw[aC q];obtain⟨q1,q2⟩:=q;have q1':(0:Int)<n.types.length:=by omega
  obtain⟨ta,tr,hty⟩:∃ta tr,n.types=ta::tr:=by
   match h:n.types,q1 with
   |ta::tr,_=>exact⟨ta,tr,rfl⟩
  have e3:n.types.getD 0 noT=ta:=by rw[hty];try rfl
  rw[e3];have m2:=Cn L ta n.line n.col r1.2 p1.1.wth;have p2:=wQ p1.1 ta n.line n.col;generalize jo ta n.line n.col r1.2=r2 at*
  have m3:=yg L r1.1.1 r1.1.2 r2.1 a r2.2 (by have:=p2.1.sites;omega);have p3:=xX (b:=8*iF b+k) (p2.1.less (by omega)) r1.1.1 r1.1.2 r2.1 a.line a.col;generalize ko r1.1.1 r1.1.2 r2.1 a.line a.col r2.2=r3 at*
  have hwi:=Mt env (by omega) n.text r2.1;have m4:=hb.1 (env++[(n.text,r2.1)]) r3.2 k ((he.less (c:=iF b+1) (by omega)).more _ p2.2) p3;simp only;generalize ib (env++[(n.text,r2.1)]) r3.2=r4 at*
  simp[q1,q1',q2];simp[hty];refine gP [0,1,2,14,4,15] m2 (by simp[q2]) ?_;simp[hk];refine⟨by decide,?_⟩;refine gN [0,1,2,14,4,15] m3 ?_;simp[hk];refine⟨by decide,?_⟩;refine gQ hwi ?_;simp;refine gN [0,1,2,19,4,15] m4 ?_;simp;refine⟨by decide,by decide,?_⟩;exact fI [0,1,2,9,4,11,20,21] [6,7,8,9,10,11] (by simp[cK,yf,encI,encS,AV.erds,AV.erd])
 ·rw[aB q];have hwi:=Mt env (by omega) n.text r1.1.2;have m4:=hb.1 (env++[(n.text,r1.1.2)]) r1.2 k ((he.less (c:=iF b+1) (by omega)).more _ p1.2) (p1.1.less (by omega));generalize ib (env++[(n.text,r1.1.2)]) r1.2=r4 at*
  by_cases q1:0<n.types.length
  ·have q2:¬r1.2.e=0:=λz=>q ⟨q1,z⟩;have q1':(0:Int)<n.types.length:=by omega
   simp[q1,q1',q2,hk];refine gQ hwi ?_;simp;refine gN [0,1,2,14,4,15] m4 ?_;simp;refine⟨by decide,by decide,?_⟩;exact fI [0,1,2,9,4,11,18,19] [6,7,8,9,10,11] (by simp[cK,yf,encI,encS,AV.erds,AV.erd])
  ·have q1':¬(0:Int)<n.types.length:=by omega
   simp[q1,q1',hk];refine gQ hwi ?_;simp;refine gN [0,1,2,14,4,15] m4 ?_;simp;refine⟨by decide,by decide,?_⟩;exact fI [0,1,2,9,4,11,18,19] [6,7,8,9,10,11] (by simp[cK,yf,encI,encS,AV.erds,AV.erd])
end
end Go.Gr
namespace Go.Abs
theorem MCall.erd{P:Program}{f:FuncId}{args args':List AV}{bs:List Blk}{v:AV}{bs':List Blk}(hp:MCall P f args' bs v bs')(e:AV.erds args=args'):MCall P f args bs v bs':=by
 subst e;exact⟨hp.1,hp.2.1,hp.2.2.1,hp.2.2.2.1,hp.2.2.2.2.1,λh ρ w us H hG r=>hp.2.2.2.2.2 h ρ w us H hG (zai.erds r)⟩
end Go.Abs
namespace Go.Gr
open Go.Abs Go.Proofs
@[simp] theorem AV.erd_ag(l:List D):AV.erd (.ag (l.map .d))=.ag ((D.erdL l).map .d):=by
 induction l with
 |nil=>rfl
 |cons x l ih=>
  simp only[AV.erd,AV.ag.injEq,List.map_cons,D.erdL,bi]at ih⊢;rw[dZ];exact⟨rfl,ih⟩
attribute [simp] gT.erdLL
section
variable (L:iN)
theorem Cq(n:gp)(i:Inf)(hi:jd L n i)(t0:gT)(env:Env)(s:CS)(k:Nat)(he:rX env (iF n))(hs:kz L s (8*iF n+1+k)):kz L (nI n i t0 env s).2 k:=by
 have h1:=hi env s (1+k) (he.less (by omega)) (hs.less (by omega));unfold nI;exact xX (h1.1.less (by omega)) _ _ _ _ _
theorem zT(n:gp)(i:Inf)(hi:rC L n i)(t0:gT)(env:Env)(s:CS)(k:Nat)(he:rX env (iF n))(hs:kz L s (8*iF n+1+k)):
  MCall Pg 140 [.c (.ptr 0 0),.ag (n.enc.map .d),.c (.d (.sl false 5 (env.map iZ))),.ag (t0.enc.map .d)] (qc L s) (.ag ((nI n i t0 env s).1.enc.map .d)) (Ig L (nI n i t0 env s).2):=by
 refine zEc lZ λts hts ok hbk c hN hp=>?_;obtain⟨t,u,v,w,x,y,rfl⟩:=mM hts;have m1:=hi.1 env s (1+k) (he.less (by omega)) (hs.less (by omega));have p1:=hi.2 env s (1+k) (he.less (by omega)) (hs.less (by omega));unfold nI;simp only;generalize i env s=r1 at*
 have m2:=yg L r1.1.1 r1.1.2 t0 n r1.2 (by have:=p1.1.sites;omega);generalize ko r1.1.1 r1.1.2 t0 n.line n.col r1.2=r2 at*
 unfold V9;simp;refine gN [0,1,2,3,4,5] m1 ?_;simp;refine gN [0,1,2,13,4,14] m2 ?_;simp;exact fJ [0,1,2,9,4,11,17,14] [6,7,8,9,10,11]
theorem NA(n a:gp)(hk:n.kids=[a])(ia:Inf)(ha:jd L a ia):jd L n (xN n a ia):=λenv s k he hs=>by
 have hn:iF n=iF a+1:=by rw[qE,hk];simp[iO]
 have h1:=wQ (b:=8*iF a+1+k) (hs.less (by omega)) (n.types.getD 0 noT) n.line n.col;unfold xN;simp only;have h2:kz L (if 1<n.types.length/\(jo (n.types.getD 0 noT) n.line n.col s).2.e=0 then jo (n.types.getD 1 noT) n.line n.col (jo (n.types.getD 0 noT) n.line n.col s).2 else(noT,(jo (n.types.getD 0 noT) n.line n.col s).2)).2 (8*iF a+1+k):=by
  split
  ·exact(wQ h1.1 _ _ _).1
  ·exact h1.1
 generalize (if 1<n.types.length/\(jo (n.types.getD 0 noT) n.line n.col s).2.e=0 then jo (n.types.getD 1 noT) n.line n.col (jo (n.types.getD 0 noT) n.line n.col s).2 else(noT,(jo (n.types.getD 0 noT) n.line n.col s).2))=q at*
 have h3:=ha (env++[(n.text,(jo (n.types.getD 0 noT) n.line n.col s).1)]) q.2 (1+k) ((he.less (c:=iF a+1) (by omega)).more _ h1.2) (h2.less (by omega));refine(F7 ?_ _ _ _);split
 ·exact xX (h3.1.less (by omega)) _ _ _ _ _
 ·exact h3.1.less (by omega)
theorem zI3(n a:gp)(hk:n.kids=[a])(hty0:1<=n.types.length)(ia:Inf)(ha:rC L a ia):jL L 83 n (xN n a ia):=λenv s k he hs=>by
 refine zHe lZ λts hts ok hbk c hN hp=>?_;obtain⟨t,u,v,w,x,y,rfl⟩:=mM hts;have hn:iF n=iF a+1:=by rw[qE,hk];simp[iO]
 have hel:=he.len;have hb0:=ku 0;obtain⟨ta,tr,hty⟩:∃ta tr,n.types=ta::tr:=by
  match h:n.types,hty0 with
  |ta::tr,_=>exact⟨ta,tr,rfl⟩
 have e3:n.types.getD 0 noT=ta:=by rw[hty];try rfl
 unfold xN;simp only;rw[e3];have m1:=Cn L ta n.line n.col s hs.wth;have p1:=wQ (b:=8*iF a+1+k) (hs.less (by omega)) ta n.line n.col;generalize jo ta n.line n.col s=r1 at*
 have hwi:=Mt env (by omega) n.text r1.1;have heo:rX (env++[(n.text,r1.1)]) (iF a):=(he.less (c:=iF a+1) (by omega)).more _ p1.2;unfold VW;cases tr with
 |nil=>
  have l1:n.types.length=1:=by rw[hty];try rfl
  rw[aB (by omega),aB (by omega)];have m3:=ha.1 (env++[(n.text,r1.1)]) r1.2 (1+k) heo (p1.1.less (by omega));simp only;generalize ia (env++[(n.text,r1.1)]) r1.2=r3 at*
  have m4:=MCall.erd (args:=[.c (.ptr 0 0),.ag [.d (.int .i64 6),.d (.str (bs [])),.d (.sl true 1 []),.d (.sl true 4 [r1.1.enc,r3.1.2.enc])],.ag (n.enc.map .d)]) (Co L (kM r1.1 r3.1.2) n r3.2) (by simp[AV.erds,AV.erd,AC.erd,D.erd,D.erdL,D.erdE,kM,su,nJ,vT,encS]);generalize pF (kM r1.1 r3.1.2) n.line n.col r3.2=r4 at*
  simp[hty];refine gN [0,1,2,3,4,5] m1 ?_;simp;refine⟨by decide,?_⟩;refine gQ hb0 ?_;simp[hty,hk];refine gQ hwi ?_;simp;refine gN [0,1,2,3,4,5] m3 ?_;simp[hty];refine⟨by decide,?_⟩;refine gN [0,1,2,16,4,17] m4 ?_;simp;refine⟨by decide,?_⟩;exact fJ [0,1,2,9,4,11,16,17] [6,7,8,9,10,11]
 | cons tb tr=>
  have l1:1<n.types.length:=by rw[hty];simp
  have l1':(1:Int)<(tr.length:Int)+1+1:=by omega
  have e4:n.types.getD 1 noT=tb:=by rw[hty];try rfl
  rw[e4,aC l1];by_cases q2:r1.2.e=0
  ·rw[aC ⟨l1,q2⟩];have m2:=Cn L tb n.line n.col r1.2 p1.1.wth;have p2:=wQ p1.1 tb n.line n.col;generalize jo tb n.line n.col r1.2=r2 at*
   have m3:=ha.1 (env++[(n.text,r1.1)]) r2.2 (1+k) heo (p2.1.less (by omega));have p3:=ha.2 (env++[(n.text,r1.1)]) r2.2 (1+k) heo (p2.1.less (by omega));generalize ia (env++[(n.text,r1.1)]) r2.2=r3 at*
   have m4:=yg L r3.1.1 r3.1.2 r2.1 a r3.2 (by have:=p3.1.sites;omega);generalize ko r3.1.1 r3.1.2 r2.1 a.line a.col r3.2=r4 at*
   have m5:=MCall.erd (args:=[.c (.ptr 0 0),.ag [.d (.int .i64 6),.d (.str (bs [])),.d (.sl true 1 []),.d (.sl true 4 [r1.1.enc,r2.1.enc])],.ag (n.enc.map .d)]) (Co L (kM r1.1 r2.1) n r4.2) (by simp[AV.erds,AV.erd,AC.erd,D.erd,D.erdL,D.erdE,kM,su,nJ,vT,encS]);simp only;generalize pF (kM r1.1 r2.1) n.line n.col r4.2=r5 at*
   simp[hty];refine gN [0,1,2,3,4,5] m1 ?_;simp;refine⟨by decide,?_⟩;refine gQ hb0 ?_;simp[hty,q2,l1'];refine gP [0,1,2,3,4,5] m2 (by simp[q2]) ?_;simp[hk];refine⟨by decide,?_⟩;refine gQ hwi ?_;simp;refine gN [0,1,2,3,4,5] m3 ?_;simp[hty,l1',hk];refine⟨by decide,?_⟩;refine gN [0,1,2,16,4,17] m4 ?_;simp;refine⟨by decide,?_⟩;refine gN [0,1,2,20,4,17] m5 ?_;simp;refine⟨by decide,?_⟩;exact fJ [0,1,2,9,4,11,20,17] [6,7,8,9,10,11]
  ·rw[aB (λz=>q2 z.2)];have m3:=ha.1 (env++[(n.text,r1.1)]) r1.2 (1+k) heo (p1.1.less (by omega));have p3:=ha.2 (env++[(n.text,r1.1)]) r1.2 (1+k) heo (p1.1.less (by omega));generalize ia (env++[(n.text,r1.1)]) r1.2=r3 at*
   have m4:=MCall.erd (args:=[.c (.ptr 0 0),.ag (r3.1.1.enc.map .d),.ag (r3.1.2.enc.map .d),.ag (noT.enc.map .d),.ag (a.enc.map .d)]) (yg L r3.1.1 r3.1.2 noT a r3.2 (by have:=p3.1.sites;omega)) (by simp[AV.erds,AV.erd,AC.erd,D.erd,D.erdL,D.erdE,kM,su,nJ,vT,encS]);generalize ko r3.1.1 r3.1.2 noT a.line a.col r3.2=r4 at*
   have m5:=MCall.erd (args:=[.c (.ptr 0 0),.ag [.d (.int .i64 6),.d (.str (bs [])),.d (.sl true 1 []),.d (.sl true 4 [r1.1.enc,noT.enc])],.ag (n.enc.map .d)]) (Co L (kM r1.1 noT) n r4.2) (by simp[AV.erds,AV.erd,AC.erd,D.erd,D.erdL,D.erdE,kM,su,nJ,vT,encS]);simp only;generalize pF (kM r1.1 noT) n.line n.col r4.2=r5 at*
   simp[hty];refine gN [0,1,2,3,4,5] m1 ?_;simp;refine⟨by decide,?_⟩;refine gQ hb0 ?_;simp[hty,q2,l1',hk];refine gQ hwi ?_;simp;refine gN [0,1,2,3,4,5] m3 ?_;simp[hty,l1',hk];refine⟨by decide,?_⟩;refine gP [0,1,2,16,4,17] m4 (by simp[noT,bT]) ?_;simp;refine⟨by decide,?_⟩;refine gP [0,1,2,20,4,17] m5 (by simp[noT,bT]) ?_;simp;refine⟨by decide,?_⟩;exact fJ [0,1,2,9,4,11,20,17] [6,7,8,9,10,11]
theorem NB{L:iN}{b:Nat}(t0:gT)(h0:jD t0)(ln cl:Int)(r:(gu × gT) × CS)(hs:kz L r.2 (b+1))(ht:jD r.1.2):kz L (kV t0 ln cl r).2 b/\jD (kV t0 ln cl r).1.2:=by
 unfold kV;split
 ·exact⟨EB hs _ _ _ _ _,h0⟩
 ·exact⟨hs.less (by omega),ht⟩
theorem zI4{a b:gT}(ha:jD a)(hb:jD b):jD (kM a b):=(ll _).2 ⟨rfl,λx hx=>by
 have hx:x∈[a,b]:=hx;simp at hx;rcases hx with rfl|rfl
 ·exact ha
 ·exact hb,.inr (.inr (.inl ⟨rfl,rfl,rfl⟩))⟩
theorem zI5(n a b:gp)(hk:n.kids=[a,b])(ia ib:Inf)(ha:jd L a ia)(hb:jd L b ib):jd L n (xO n b ia ib):=λenv s k he hs=>by
 have hn:iF n=iF a+iF b+1:=by rw[qE,hk];simp[iO]
 have h1:=ha env s (2+8*iF b+k) (he.less (by omega)) (hs.less (by omega));have h2:=NB (b:=8*iF b+1+k) (kM noT noT) (zI4 rA rA) n.line n.col (ia env s) (h1.1.less (by omega)) h1.2;unfold xO;simp only;generalize kV (kM noT noT) n.line n.col (ia env s)=r at*
 by_cases q:r.1.2.kind≠6
 ·rw[aC q];exact⟨vV (h2.1.less (by omega)) _ _ _,rA⟩
 ·rw[aB q];have h3:=hb env r.2 (1+k) (he.less (by omega)) (h2.1.less (by omega));have hl:=Dx h2.2 (by omega);exact⟨xX (h3.1.less (by omega)) _ _ _ _ _,xy h2.2 (FV hl).1⟩
theorem zG8(n a b:gp)(hk:n.kids=[a,b])(ia ib:Inf)(ha:rC L a ia)(hb:rC L b ib):jL L 84 n (xO n b ia ib):=λenv s k he hs=>by
 refine zEb lZ λts hts ok hbk c hN hp=>?_;obtain⟨t,u,v,w,x,y,rfl⟩:=mM hts;have hn:iF n=iF a+iF b+1:=by rw[qE,hk];simp[iO]
 have hb0:=ku 0;have m1:=ha.1 env s (2+8*iF b+k) (he.less (by omega)) (hs.less (by omega));have p1:=ha.2 env s (2+8*iF b+k) (he.less (by omega)) (hs.less (by omega));unfold xO;simp only;generalize ia env s=r1 at*
 unfold VX;by_cases t0:r1.1.2.kind=0
 ·have e1:kV (kM noT noT) n.line n.col r1=(((mF r1.1.1 r1.1.2 (kM noT noT) n.line n.col r1.2).1,kM noT noT),(mF r1.1.1 r1.1.2 (kM noT noT) n.line n.col r1.2).2):=by unfold kV;rw[aC t0]
  rw[e1];have m2:=MCall.erd (args:=[.c (.ptr 0 0),.ag (r1.1.1.enc.map .d),.ag (r1.1.2.enc.map .d),.ag [.d (.int .i64 6),.d (.str (bs [])),.d (.sl true 1 []),.d (.sl true 4 [[.int .i64 0,.str (bs []),.sl true 1 [],.sl true 4 []],[.int .i64 0,.str (bs []),.sl true 1 [],.sl true 4 []]])],.ag (n.enc.map .d)]) (EA L r1.1.1 r1.1.2 (kM noT noT) n r1.2 (by have:=p1.1.sites;omega)) (by simp[AV.erds,AV.erd,AC.erd,D.erd,D.erdL,D.erdE,kM,su,nJ,vT,encS]);have p2:=EB (b:=8*iF b+1+k) (p1.1.less (by omega)) r1.1.1 r1.1.2 (kM noT noT) n.line n.col;generalize mF r1.1.1 r1.1.2 (kM noT noT) n.line n.col r1.2=r2 at*
  have m3:=hb.1 env r2.2 (1+k) (he.less (by omega)) (p2.less (by omega));have p3:=hb.2 env r2.2 (1+k) (he.less (by omega)) (p2.less (by omega));simp only;generalize ib env r2.2=r3 at*
  have k6:¬(kM noT noT).kind≠6:=by decide
  rw[aB k6];have kk0:jY (kM noT noT)=noT:=rfl;have kk1:jZ (kM noT noT)=noT:=rfl;rw[kk0,kk1];have m4:=MCall.erd (args:=[.c (.ptr 0 0),.ag (r3.1.1.enc.map .d),.ag (r3.1.2.enc.map .d),.ag [.d (.int .i64 0),.d (.str (bs [])),.d (.sl true 1 []),.d (.sl true 4 [])],.ag (b.enc.map .d)]) (yg L r3.1.1 r3.1.2 noT b r3.2 (by have:=p3.1.sites;omega)) (by simp[AV.erds,AV.erd,AC.erd,D.erd,D.erdL,D.erdE,kM,su,nJ,vT,encS]);generalize ko r3.1.1 r3.1.2 noT b.line b.col r3.2=r4 at*
  simp[hk];refine gN [0,1,2,3,4,5] m1 ?_;simp[t0];refine gN [0,1,2,14,4,15] m2 ?_;simp[hk];refine gN [0,1,2,19,4,15] m3 ?_;simp[hk];refine gN [0,1,2,20,4,21] m4 ?_;simp;refine⟨by decide,by decide,?_⟩;exact fJ [0,1,2,9,4,11,24,21] [6,7,8,9,10,11]
 have e1:kV (kM noT noT) n.line n.col r1=r1:=by unfold kV;rw[aB t0]
 rw[e1];by_cases k6:r1.1.2.kind=6;rotate_left
 ·rw[aC k6];have m2:=vE L n 16 r1.2;generalize ky n.line n.col 16 r1.2=r2 at*
  simp[hk];refine gN [0,1,2,3,4,5] m1 ?_;simp[t0,k6];refine gN [0,1,2,14,4,15] m2 ?_;simp;refine gQ hb0 ?_;simp;exact fJ [0,1,2,9,4,11,14,15] [6,7,8,9,10,11]
 rw[aB (λz=>z k6)];obtain⟨ta,tb,hty⟩:=Mw (Dx p1.2 k6);have kk0:jY r1.1.2=ta:=by unfold jY;rw[hty];try rfl
 have kk1:jZ r1.1.2=tb:=by unfold jZ;rw[hty];try rfl
 rw[kk0,kk1];have m3:=hb.1 env r1.2 (1+k) (he.less (by omega)) (p1.1.less (by omega));have p3:=hb.2 env r1.2 (1+k) (he.less (by omega)) (p1.1.less (by omega));generalize ib env r1.2=r3 at*
 have m4:=yg L r3.1.1 r3.1.2 ta b r3.2 (by have:=p3.1.sites;omega);simp only;generalize ko r3.1.1 r3.1.2 ta b.line b.col r3.2=r4 at*
 simp[hk];refine gN [0,1,2,3,4,5] m1 ?_;simp[t0,k6,hk];refine gN [0,1,2,14,4,15] m3 ?_;simp[hty,hk];refine gN [0,1,2,18,4,19] m4 ?_;simp[hty];refine⟨by decide,by decide,?_⟩;exact fJ [0,1,2,9,4,11,22,19] [6,7,8,9,10,11]
theorem zJJ(n a:gp)(hk:n.kids=[a])(ia:Inf)(ha:jd L a ia):jd L n (pI n ia):=λenv s k he hs=>by
 have hn:iF n=iF a+1:=by rw[qE,hk];simp[iO]
 have h1:=ha env s (1+k) (he.less (by omega)) (hs.less (by omega));unfold pI;simp only;generalize ia env s=r at*
 have hf:jD (kH r.1.2 n.text).1:=by
  by_cases q:(kH r.1.2 n.text).2=true
  ·exact xy h1.2 (I8 _ _ _ q)
  ·have:(kH r.1.2 n.text).1=noT:=by
    unfold kH at q⊢;generalize r.1.2.names=ns at*
    generalize r.1.2.kids=ks at*
    clear h1
    induction ns generalizing ks with
    |nil=>rw[nX];all_goals (intros;contradiction)
    | cons x ns ih=>
     cases ks with
     |nil=>rw[nX];all_goals (intros;contradiction)
     |cons y ks=>
      rw[nX]at q⊢;by_cases e:x=n.text
      ·rw[aC e]at q;exact absurd rfl q
      ·rw[aB e]at q⊢;exact ih ks q
   rw[this];exact rA
 refine⟨?_,hf⟩;have h2:kz L (if r.1.2.kind=0 then mF r.1.1 r.1.2 (.mk 5 (bs []) [n.text] [noT]) n.line n.col r.2 else(r.1.1,r.2)).2 k:=by
  split
  ·exact EB (h1.1.less (by omega)) _ _ _ _ _
  ·exact h1.1.less (by omega)
 split
 ·exact h2
 ·exact vV h2 _ _ _
theorem zIh(n a:gp)(hk:n.kids=[a])(ia:Inf)(ha:rC L a ia):jL L 86 n (pI n ia):=λenv s k he hs=>by
 refine zFC lZ λts hts ok hbk c hN hp=>?_;obtain⟨t,u,v,w,x,y,rfl⟩:=mM hts;have hn:iF n=iF a+1:=by rw[qE,hk];simp[iO]
 have m1:=ha.1 env s (1+k) (he.less (by omega)) (hs.less (by omega));have p1:=ha.2 env s (1+k) (he.less (by omega)) (hs.less (by omega));unfold pI;simp only;generalize ia env s=r1 at*
 have hf:=Uh r1.1.2 n.text (M6 p1.2);generalize hfr:kH r1.1.2 n.text=f at*
 unfold V5;by_cases t0:r1.1.2.kind=0
 ·rw[aC t0,aC (.inr t0)];have m2:=MCall.erd (args:=[.c (.ptr 0 0),.ag (r1.1.1.enc.map .d),.ag (r1.1.2.enc.map .d),.ag [.d (.int .i64 5),.d (.str (bs [])),.d (.sl true 1 [[.str n.text]]),.d (.sl true 4 [[.int .i64 0,.str (bs []),.sl true 1 [],.sl true 4 []]])],.ag (n.enc.map .d)]) (EA L r1.1.1 r1.1.2 (.mk 5 (bs []) [n.text] [noT]) n r1.2 (by have:=p1.1.sites;omega)) (by simp[AV.erds,AV.erd,AC.erd,D.erd,D.erdL,D.erdE,kM,su,nJ,vT,encS]);generalize mF r1.1.1 r1.1.2 (.mk 5 (bs []) [n.text] [noT]) n.line n.col r1.2=r2 at*
  simp[hk];refine gN [0,1,2,3,4,5] m1 ?_;simp;refine gQ hf ?_;simp[t0];refine gN [0,1,2,14,4,15] m2 ?_;simp;refine⟨by decide,?_⟩;exact fJ [0,1,2,9,4,11,20,15] [6,7,8,9,10,11]
 ·rw[aB t0];by_cases f2:f.2=true
  ·rw[aC (.inl f2)];simp[hk];refine gN [0,1,2,3,4,5] m1 ?_;simp;refine gQ hf ?_;simp[t0,f2];refine⟨by decide,?_⟩;exact fJ [0,1,2,9,4,11,14,15] [6,7,8,9,10,11]
  ·rw[aB (by simp[f2,t0])];have m2:=vE L n 17 r1.2;simp only;generalize ky n.line n.col 17 r1.2=r2 at*
   simp[hk];refine gN [0,1,2,3,4,5] m1 ?_;simp;refine gQ hf ?_;simp[t0,f2];refine gN [0,1,2,14,4,15] m2 ?_;simp;refine⟨by decide,?_⟩;exact fJ [0,1,2,9,4,11,14,15] [6,7,8,9,10,11]
end
section
variable (L:iN)
theorem NC(n a:gp)(hk:n.kids=[a])(ia:Inf)(ha:jd L a ia):jd L n (xR n ia):=λenv s k he hs=>by
 have hn:iF n=iF a+1:=by rw[qE,hk];simp[iO]
 have h1:=ha env s (2+k) (he.less (by omega)) (hs.less (by omega));unfold xR;simp only;generalize ia env s=r at*
 by_cases q1:r.2.e≠0
 ·rw[aC q1];exact⟨h1.1.less (by omega),h1.2⟩
 rw[aB q1];have h2:=wQ h1.1 (n.types.getD 0 noT) n.line n.col;generalize jo (n.types.getD 0 noT) n.line n.col r.2=u at*
 by_cases q2:u.2.e≠0\/pE r.1.2 u.1=true
 ·rw[aC q2];exact⟨h2.1.less (by omega),h2.2⟩
 rw[aB q2];have h3:kz L (if r.1.2.kind≠0 then mF r.1.1 r.1.2 noT n.line n.col u.2 else(r.1.1,u.2)).2 (1+k):=by
  split
  ·exact EB (h2.1.less (by omega)) _ _ _ _ _
  ·exact h2.1.less (by omega)
 generalize (if r.1.2.kind≠0 then mF r.1.1 r.1.2 noT n.line n.col u.2 else(r.1.1,u.2))=y at*
 split
 ·exact⟨h3.less (by omega),h2.2⟩
 split
 ·exact⟨EB (h3.less (by omega)) _ _ _ _ _,h2.2⟩
 ·exact⟨h3.less (by omega),h2.2⟩
@[simp] theorem gu.enc_1(c:gu):c.enc[1]?=some (.int .i64 c.n):=by rw[c.enc_eq];try rfl
@[simp] theorem gu.enc_g1(c:gu)(h:1<c.enc.length):c.enc[1]=.int .i64 c.n:=Ac c.enc_1 h
theorem zIN(n a:gp)(hk:n.kids=[a])(hty0:1<=n.types.length)(ia:Inf)(ha:rC L a ia):jL L 89 n (xR n ia):=λenv s k he hs=>by
 refine zHf lZ λts hts ok hbk c hN hp=>?_;obtain⟨t,u,v,w,x,y,rfl⟩:=mM hts;have hn:iF n=iF a+1:=by rw[qE,hk];simp[iO]
 have hb0:=ku 0;obtain⟨ta,tr,hty⟩:∃ta tr,n.types=ta::tr:=by
  match h:n.types,hty0 with
  |ta::tr,_=>exact⟨ta,tr,rfl⟩
 have e3:n.types.getD 0 noT=ta:=by rw[hty];try rfl
 have m1:=ha.1 env s (2+k) (he.less (by omega)) (hs.less (by omega));have p1:=ha.2 env s (2+k) (he.less (by omega)) (hs.less (by omega));unfold xR;simp only;rw[e3];generalize ia env s=r1 at*
 unfold V8;by_cases q1:r1.2.e=0;rotate_left
 ·rw[aC q1];simp[hk];refine gN [0,1,2,3,4,5] m1 ?_;simp[q1];refine⟨by decide,?_⟩;exact fJ [0,1,2,9,4,11,14,15] [6,7,8,9,10,11]
 rw[aB (by simp[q1])];have m2:=Cn L ta n.line n.col r1.2 p1.1.wth;have p2:=wQ p1.1 ta n.line n.col;generalize jo ta n.line n.col r1.2=r2 at*
 have hsb:=FW r1.1.2 r2.1;by_cases q2:r2.2.e=0;rotate_left
 ·rw[aC (.inl q2)];simp[hk];refine gN [0,1,2,3,4,5] m1 ?_;simp[q1,hty];refine gP [0,1,2,14,4,15] m2 (by simp[q1]) ?_;simp[q2];refine⟨by decide,by decide,?_⟩;exact fJ [0,1,2,9,4,11,14,15] [6,7,8,9,10,11]
 by_cases q3:pE r1.1.2 r2.1=true
 ·rw[aC (.inr q3)];simp[hk];refine gN [0,1,2,3,4,5] m1 ?_;simp[q1,hty];refine gP [0,1,2,14,4,15] m2 (by simp[q1]) ?_;simp[q2];refine⟨by decide,?_⟩;refine gQ hsb ?_;simp[q3];refine⟨by decide,?_⟩;exact fI [0,1,2,9,4,11,14,15] [6,7,8,9,10,11] (by simp[q2,cK,cN,cT,yf,su,kM,vT,nJ,noC,encI,encS,AV.erds,AV.erd,D.erdL,D.erd,D.erdE,jY,jZ])
 rw[aB (by simp[q2,q3])];by_cases t0:r1.1.2.kind=0
 ·have ty0:(if r1.1.2.kind≠0 then mF r1.1.1 r1.1.2 noT n.line n.col r2.2 else(r1.1.1,r2.2))=(r1.1.1,r2.2):=aB (λz=>z t0);rw[ty0];by_cases u0:r2.1.kind=0
  ·rw[aC u0];simp[hk];refine gN [0,1,2,3,4,5] m1 ?_;simp[q1,hty];refine gP [0,1,2,14,4,15] m2 (by simp[q1]) ?_;simp[q2];refine⟨by decide,?_⟩;refine gQ hsb ?_;simp[q3,t0,u0];refine⟨by decide,?_⟩;exact fI [0,1,2,9,4,11,14,15] [6,7,8,9,10,11] (by simp[q2,cK,cN,cT,yf,su,kM,vT,nJ,noC,encI,encS,AV.erds,AV.erd,D.erdL,D.erd,D.erdE,jY,jZ])
  ·rw[aB u0,aC t0];have m3:=EA L r1.1.1 r1.1.2 r2.1 n r2.2 (by have:=p2.1.sites;omega);simp only;generalize mF r1.1.1 r1.1.2 r2.1 n.line n.col r2.2=r3 at*
   simp[hk];refine gN [0,1,2,3,4,5] m1 ?_;simp[q1,hty];refine gP [0,1,2,14,4,15] m2 (by simp[q1]) ?_;simp[q2];refine⟨by decide,?_⟩;refine gQ hsb ?_;simp[q3,t0,u0];refine gP [0,1,2,14,4,15] m3 (by simp[q2,t0]) ?_;simp;refine⟨by decide,?_⟩;exact fJ [0,1,2,9,4,11,20,15] [6,7,8,9,10,11]
 ·have ty0:(if r1.1.2.kind≠0 then mF r1.1.1 r1.1.2 noT n.line n.col r2.2 else(r1.1.1,r2.2))=mF r1.1.1 r1.1.2 noT n.line n.col r2.2:=aC t0;rw[ty0];have m3:=EA L r1.1.1 r1.1.2 noT n r2.2 (by have:=p2.1.sites;omega);generalize mF r1.1.1 r1.1.2 noT n.line n.col r2.2=r3 at*
  by_cases u0:r2.1.kind=0
  ·rw[aC u0];simp[hk];refine gN [0,1,2,3,4,5] m1 ?_;simp[q1,hty];refine gP [0,1,2,14,4,15] m2 (by simp[q1]) ?_;simp[q2];refine⟨by decide,?_⟩;refine gQ hsb ?_;simp[q3,t0];refine gQ hb0 ?_;simp;refine gP [0,1,2,14,4,15] m3 (by simp[q2,noT,bT]) ?_;simp[u0];refine⟨by decide,by decide,?_⟩;exact fJ [0,1,2,9,4,11,20,15] [6,7,8,9,10,11]
  ·rw[aB u0,aB t0];simp[hk];refine gN [0,1,2,3,4,5] m1 ?_;simp[q1,hty];refine gP [0,1,2,14,4,15] m2 (by simp[q1]) ?_;simp[q2];refine⟨by decide,?_⟩;refine gQ hsb ?_;simp[q3,t0];refine gQ hb0 ?_;simp;refine gP [0,1,2,14,4,15] m3 (by simp[q2,noT,bT]) ?_;simp[u0,t0];refine⟨by decide,by decide,?_⟩;exact fJ [0,1,2,9,4,11,20,15] [6,7,8,9,10,11]
theorem zJw(n a:gp)(hk:n.kids=[a])(ia:Inf)(ha:jd L a ia):jd L n (pJ n a ia):=λenv s k he hs=>by
 have hn:iF n=iF a+1:=by rw[qE,hk];simp[iO]
 have h1:=ha env s k (he.less (by omega)) (hs.less (by omega));have hw:=λt0=>Cq L a ia ha t0 env s k (he.less (by omega)) (hs.less (by omega));unfold pJ;split
 ·exact⟨hw _,vU 2 (by omega) (by omega)⟩
 split
 ·exact⟨hw _,vU 3 (by omega) (by omega)⟩
 split
 ·exact⟨h1.1,vU 2 (by omega) (by omega)⟩
 ·exact⟨h1.1,vU 1 (by omega) (by omega)⟩
theorem zH2(n a:gp)(hk:n.kids=[a])(ia:Inf)(ha:rC L a ia):jL L 91 n (pJ n a ia):=λenv s k he hs=>by
 refine zFD lZ λts hts ok hbk c hN hp=>?_;obtain⟨t,u,v,w,x,y,rfl⟩:=mM hts;have hn:iF n=iF a+1:=by rw[qE,hk];simp[iO]
 unfold pJ;unfold Vd;by_cases k15:n.kind=15
 ·rw[aC k15];have m1:=zT L a ia ha (bT 2) env s k (he.less (by omega)) (hs.less (by omega));simp only;generalize nI a ia (bT 2) env s=r1 at*
  simp[k15,hk];refine gQ (ku 2) ?_;simp;refine gN [0,1,2,3,4,5] m1 ?_;simp;refine⟨by decide,?_⟩;refine gQ (ku 2) ?_;simp;refine⟨by decide,?_⟩;exact fJ [0,1,2,9,4,11,14,15] [6,7,8,9,10,11]
 rw[aB k15];by_cases k16:n.kind=16
 ·rw[aC k16];have m1:=zT L a ia ha (bT 3) env s k (he.less (by omega)) (hs.less (by omega));simp only;generalize nI a ia (bT 3) env s=r1 at*
  simp[k16,hk];refine gQ (ku 3) ?_;simp;refine gN [0,1,2,3,4,5] m1 ?_;simp;refine⟨by decide,?_⟩;refine gQ (ku 3) ?_;simp;refine⟨by decide,?_⟩;exact fJ [0,1,2,9,4,11,14,15] [6,7,8,9,10,11]
 rw[aB k16];have m1:=ha.1 env s k (he.less (by omega)) (hs.less (by omega));generalize ia env s=r1 at*
 by_cases k12:n.kind=12
 ·rw[aC k12];simp[k12,hk];refine gN [0,1,2,3,4,5] m1 ?_;simp;refine gQ (ku 2) ?_;simp;refine⟨by decide,?_⟩;exact fJ [0,1,2,9,4,11,14,15] [6,7,8,9,10,11]
 ·rw[aB k12];simp[k15,k16,k12,hk];refine gN [0,1,2,3,4,5] m1 ?_;simp;refine gQ (ku 1) ?_;simp;refine⟨by decide,?_⟩;exact fJ [0,1,2,9,4,11,14,15] [6,7,8,9,10,11]
end
end Go.Gr
