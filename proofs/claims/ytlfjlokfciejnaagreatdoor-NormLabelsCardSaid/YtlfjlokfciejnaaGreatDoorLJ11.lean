/- Texts of ours, joined and written short by a program of ours. -/
import Derived.Test.YtlfjlokfciejnaaGreatDoorLJ09
import Derived.Test.YtlfjlokfciejnaaGreatDoorLJ10
set_option maxRecDepth 20000
set_option maxHeartbeats 4000000
set_option linter.unusedVariables false
set_option linter.unusedSimpArgs false
namespace Go.Gr
open Go.Abs Go.Proofs
def NK:MC:=(λx(_:x=gC tt [(7,1)] [(7,[0,0,3,7,0,16,63])] [] (iR 0 (gB Tryz.f131)))=>x) _ (by dsimp[Tryz.f131])
def NL:MC:=(λx(_:x=gC tt [(9,131),(7,1)] [] [] (iR 2 (gB Tryz.f131)))=>x) _ (by dsimp[Tryz.f131])
def NM:MC:=(λx(_:x=gC tt [(0,3),(6,2),(7,1)] [] [(0,NK),(2,NL)] (gB Tryz.f131))=>x) _ (by dsimp[Tryz.f131])
theorem VN:WM Pg 131 73 NM [.cell 6 true 4,.tmp 7]:=wM gz Tryz.func131 (by kernel_rfl)
def NN:MC:=(λx(_:x=gC tt [(9,131)] [] [] (gB Tryz.f78))=>x) _ (by dsimp[Tryz.f78])
theorem VO:WM Pg 78 39 NN [.cell 6 true 4,.tmp 7]:=wM gz Tryz.func78 (by kernel_rfl)
def VP:MC:=(λx(_:x=gC tt [(9,78)] [(11,[0,0,3,7,15,0,0,0,192,511,1023,2047,2047,0,12287,32767]),(12,[0,0,3,7,0,31,63])] [] (iR 0 (gB Tryz.f136)))=>x) _ (by dsimp[Tryz.f136])
def VQ:MC:=(λx(_:x=gC tt [(6,0)] [] [(0,VP)] (gB Tryz.f136))=>x) _ (by dsimp[Tryz.f136])
theorem zD3:WT Pg 136 69 VQ [.tmp 4]:=wT gz Tryz.func136 (by kernel_rfl)
def VR:MC:=(λx(_:x=gC tt [] [(6,[0,1,0,7,15,0,32,0,224,480,1023,2047])] [] (iR 0 (gB Tryz.f51)))=>x) _ (by dsimp[Tryz.f51])
def VS:MC:=(λx(_:x=gC tt [] [] [(0,VR)] (gB Tryz.f51))=>x) _ (by dsimp[Tryz.f51])
theorem zD4:WT Pg 51 48 VS [.tmp 4]:=wT gz Tryz.func51 (by kernel_rfl)
def VT:MC:=(λx(_:x=gC tt [] [] [] (iR 0 (gB Tryz.f33)))=>x) _ (by dsimp[Tryz.f33])
def VU:MC:=(λx(_:x=gC tt [] [(10,[0,1,3,7,0,31,63,0,255,511])] [] (iR 2 (gB Tryz.f33)))=>x) _ (by dsimp[Tryz.f33])
def VV:MC:=(λx(_:x=gC tt [] [(13,[0,1,3,7,15,0,32,96,224,511]),(15,[0,0,2,6,14,0,32,126,255,511,1023])] [(0,VT),(2,VU)] (gB Tryz.f33))=>x) _ (by dsimp[Tryz.f33])
theorem zxy:WM Pg 33 71 VV [.tmp 4,.tmp 5]:=wM gz Tryz.func33 (by kernel_rfl)
def VW:MC:=(λx(_:x=gC tt [] [] [] (gB Tryz.f56))=>x) _ (by dsimp[Tryz.f56])
theorem zD5:WT Pg 56 5 VW [.cell 2 true 4]:=wT gz Tryz.func56 (by kernel_rfl)
def VX:MC:=(λx(_:x=gC tt [] [] [] (iR 0 (gB Tryz.f52)))=>x) _ (by dsimp[Tryz.f52])
def VY:MC:=(λx(_:x=gC tt [(6,0)] [] [(0,VX)] (gB Tryz.f52))=>x) _ (by dsimp[Tryz.f52])
theorem zD6:WT Pg 52 22 VY [.tmp 2]:=wT gz Tryz.func52 (by kernel_rfl)
def VZ:MC:=(λx(_:x=gC tt [] [] [] (iR 0 (gB Tryz.f134)))=>x) _ (by dsimp[Tryz.f134])
def V3:MC:=(λx(_:x=gC tt [] [] [(0,VZ)] (gB Tryz.f134))=>x) _ (by dsimp[Tryz.f134])
theorem zD7:WT Pg 134 21 V3 [.tmp 4]:=wT gz Tryz.func134 (by kernel_rfl)
def V4:MC:=(λx(_:x=gC tt [] [(1,[0,1,0,0,12,28,63,127])] [] (gB Tryz.f137))=>x) _ (by dsimp[Tryz.f137])
theorem zD8:WT Pg 137 14 V4 [.tmp 6]:=wT gz Tryz.func137 (by kernel_rfl)
def V5:MC:=(λx(_:x=gC tt [] [] [] (gB Tryz.f79))=>x) _ (by dsimp[Tryz.f79])
theorem zle:WM Pg 79 25 V5 []:=wM gz Tryz.func79 (by kernel_rfl)
def V6:MC:=(λx(_:x=gC tt [(9,79)] [] [] (gB Tryz.f57))=>x) _ (by dsimp[Tryz.f57])
theorem zm5:WM Pg 57 13 V6 []:=wM gz Tryz.func57 (by kernel_rfl)
def V7:MC:=(λx(_:x=gC tt [(9,78),(9,79)] [(1,[0,0,2,6,14,0,32,96,224,511,1023,2047,2047,0,12287,32767])] [] (gB Tryz.f53))=>x) _ (by dsimp[Tryz.f53])
theorem zAa:WM Pg 53 31 V7 [.cell 8 true 4]:=wM gz Tryz.func53 (by kernel_rfl)
def V8:MC:=(λx(_:x=gC tt [(9,57)] [] [] (gB Tryz.f54))=>x) _ (by dsimp[Tryz.f54])
theorem zD9:WM Pg 54 20 V8 [.cell 6 true 4]:=wM gz Tryz.func54 (by kernel_rfl)
def V9:MC:=(λx(_:x=gC tt [] [(3,[0,0,2,6,14,30,0,64,192,448,0,1024,0,4096,16320,32704,65534,131071,262143,524287,1048575]),(4,[0,1,3,7,15,31,63,0,0,384,0,1024,4095,8191])] [] (gB Tryz.f93))=>x) _ (by dsimp[Tryz.f93])
theorem zEa:WM Pg 93 50 V9 [.cell 10 true 8]:=wM gz Tryz.func93 (by kernel_rfl)
def Va:MC:=(λx(_:x=gC tt [(9,93),(9,57)] [] [] (gB Tryz.f59))=>x) _ (by dsimp[Tryz.f59])
theorem zBF:WM Pg 59 34 Va [.cell 10 true 8]:=wM gz Tryz.func59 (by kernel_rfl)
def Vb:MC:=(λx(_:x=gC tt [(9,78)] [(1,[0,1,3,7,15,0,32,127,255,511,0,1024,4095,8191,0,32767])] [] (gB Tryz.f164))=>x) _ (by dsimp[Tryz.f164])
theorem zyD:WM Pg 164 71 Vb [.cell 6 true 4,.tmp 7]:=wM gz Tryz.func164 (by kernel_rfl)
def Vd:MC:=(λx(_:x=gC tt [(9,164),(9,57),(9,33)] [(5,[0,1,3,7,0,16,0,64,0,496,1023,2047,4095,4095,8191,32767]),(8,[0,1,0,3,15])] [] (gB Tryz.f135))=>x) _ (by dsimp[Tryz.f135])
theorem zBG:WM Pg 135 51 Vd [.cell 8 true 8,.cell 9 true 4]:=wM gz Tryz.func135 (by kernel_rfl)
def Ve:MC:=(λx(_:x=gC tt [(9,53)] [(22,[0,0,2,0,14,30,0,64,0,256,1023,0,4095])] [] (iR 0 (gB Tryz.f81)))=>x) _ (by dsimp[Tryz.f81])
def Vf:MC:=(λx(_:x=gC tt [(9,57),(9,135),(4,146),(6,0)] [(2,[0,1,3,7,15,0,32,96,224,511,1023,0,2048,8191,16383,32767,32767,0,196607,524287]),(5,[0,1,0,0,12,28,60,3,255]),(8,[0,0,3,7]),(11,[0,0,3,7]),(12,[0,1,3,7,15,0,32,127,255,511,0,1024,4095,8191,0,32767]),(15,[0,0,3,7]),(25,[0,0,3,7]),(29,[0,0,3,7])] [(0,Ve)] (gB Tryz.f81))=>x) _ (by dsimp[Tryz.f81])
theorem zCo:WM Pg 81 162 Vf [.cell 6 true 8,.cell 7 true 4]:=wM gz Tryz.func81 (by kernel_rfl)
def nX:MC:=(λx(_:x=gC tt [(9,81),(9,82),(9,83),(9,84),(9,85),(9,86),(9,87),(9,88),(9,89),(9,90),(9,91)] [(5,[0,1,3,0,15,31]),(7,[0,1,3,0,15,31]),(9,[0,1,3,0,15,31])] [] (gB Tryz.f58))=>x) _ (by dsimp[Tryz.f58])
theorem vF:WM Pg 58 130 nX [.cell 6 true 8,.cell 7 true 4]:=wM gz Tryz.func58 (by kernel_rfl)
def Vg:MC:=(λx(_:x=gC tt [(9,58),(9,53),(9,59)] [(3,[0,0,2,6,14,0,32,0,128,511,0,2047]),(4,[0,0,0,0,0,16,48,112,255,511]),(6,[0,0,2,6,14,0,0,64,0,480,1023,2047,4095,4095,0,0,57343,131071]),(7,[0,0,3,7,0,15,63])] [] (gB Tryz.f82))=>x) _ (by dsimp[Tryz.f82])
theorem zFB:WM Pg 82 73 Vg [.cell 6 true 8,.cell 7 true 4]:=wM gz Tryz.func82 (by kernel_rfl)
def Vh:MC:=(λx(_:x=gC tt [(9,53),(9,58),(9,59),(9,54)] [(1,[0,0,2,6,14,0,32,0,128,511,0,2047]),(4,[0,0,2,6,14,0,32,0,128,511,1023]),(5,[0,0,2,6,14,0,0,64,0,480,1023,2047,4095,4095,0,0,57343,131071]),(7,[0,0,0,0,0,16,48,112,255,511]),(10,[0,1,3,0,7,31])] [] (gB Tryz.f83))=>x) _ (by dsimp[Tryz.f83])
theorem zHe:WM Pg 83 84 Vh [.cell 6 true 8,.cell 7 true 4]:=wM gz Tryz.func83 (by kernel_rfl)
def Vi:MC:=(λx(_:x=gC tt [(9,58),(9,93),(9,57),(9,59)] [(10,[0,0,0,0,8,24,56,0,128,384,896,2047,4095]),(11,[0,0,3,7,0,16,48,112,15,511])] [] (gB Tryz.f84))=>x) _ (by dsimp[Tryz.f84])
theorem zEb:WM Pg 84 75 Vi [.cell 6 true 8,.cell 7 true 4]:=wM gz Tryz.func84 (by kernel_rfl)
def Vj:MC:=(λx(_:x=gC tt [(9,57)] [(7,[0,1,0,7,15,0,32,0,224,480,1023])] [] (iR 2 (gB Tryz.f85)))=>x) _ (by dsimp[Tryz.f85])
def Vk:MC:=(λx(_:x=gC tt [] [] [(2,Vj)] (iR 0 (gB Tryz.f85)))=>x) _ (by dsimp[Tryz.f85])
def Vl:MC:=(λx(_:x=gC tt [(9,58)] [] [] (iR 4 (gB Tryz.f85)))=>x) _ (by dsimp[Tryz.f85])
def Vm:MC:=(λx(_:x=gC tt [(9,54),(4,81),(6,4)] [(18,[0,0,1,7])] [(0,Vk),(4,Vl)] (gB Tryz.f85))=>x) _ (by dsimp[Tryz.f85])
theorem zBI:WM Pg 85 84 Vm [.cell 6 true 8,.cell 7 true 4]:=wM gz Tryz.func85 (by kernel_rfl)
def Vn:MC:=(λx(_:x=gC tt [(9,58),(9,93),(9,57)] [(9,[0,1,0,4,15,0,31,127])] [] (gB Tryz.f86))=>x) _ (by dsimp[Tryz.f86])
theorem zFC:WM Pg 86 56 Vn [.cell 6 true 8,.cell 7 true 4]:=wM gz Tryz.func86 (by kernel_rfl)
def NP:MC:=(λx(_:x=gC tt [] [(14,[0,1,0,7,15,0,32,127]),(15,[0,1,0,4,0,28,60,124,255,511,1023]),(16,[0,1,0,4,0,28,60,124,255,511,1023])] [] (iR 0 (gB Tryz.f87)))=>x) _ (by dsimp[Tryz.f87])
def Vo:MC:=(λx(_:x=gC tt [(9,58),(9,93),(9,57),(1,56),(1,58),(9,54),(4,98)] [(18,[0,1,0,0,12,31,0,63,255])] [(0,NP)] (gB Tryz.f87))=>x) _ (by dsimp[Tryz.f87])
theorem zCp:WM Pg 87 106 Vo [.cell 6 true 8,.cell 7 true 4]:=wM gz Tryz.func87 (by kernel_rfl)
def Vp:MC:=(λx(_:x=gC tt [(9,58),(9,59),(4,90)] [(3,[0,0,0,0,0,31,63]),(9,[0,0,3,7,15,0,32,127,255,511,511,0,0,7167,16383]),(15,[0,0,0,0,0,16,48,112,255,511]),(16,[0,0,0,0,0,16,48,112,255,511]),(17,[0,0,0,7,15,0,31,127])] [] (gB Tryz.f88))=>x) _ (by dsimp[Tryz.f88])
theorem zBJ:WM Pg 88 130 Vp [.cell 6 true 8,.cell 7 true 4]:=wM gz Tryz.func88 (by kernel_rfl)
def Vq:MC:=(λx(_:x=gC tt [(9,58),(9,53),(9,93)] [(3,[0,0,1,7]),(4,[0,0,2,6,14,0,32,0,128,511,0,2047]),(6,[0,0,1,7]),(9,[0,0,0,0,0,31,63]),(11,[0,0,1,7]),(13,[0,0,0,0,0,31,0,63,255]),(14,[0,1,0,0,12,0,32,127,0,255,1023])] [] (gB Tryz.f89))=>x) _ (by dsimp[Tryz.f89])
theorem zHf:WM Pg 89 85 Vq [.cell 6 true 8,.cell 7 true 4]:=wM gz Tryz.func89 (by kernel_rfl)
def Vr:MC:=(λx(_:x=gC tt [(9,58),(9,59)] [] [] (gB Tryz.f140))=>x) _ (by dsimp[Tryz.f140])
theorem zEc:WM Pg 140 24 Vr [.cell 8 true 8]:=wM gz Tryz.func140 (by kernel_rfl)
def Vs:MC:=(λx(_:x=gC tt [] [(24,[0,0,3,7,0,16,63])] [] (iR 1 (gB Tryz.f90)))=>x) _ (by dsimp[Tryz.f90])
def Vt:MC:=(λx(_:x=gC tt [(9,140),(9,58)] [(4,[0,0,2,6,14,0,0,127,0,511]),(5,[0,0,2,6,14,0,0,127,0,511]),(6,[0,0,0,7,15,0,31,127]),(8,[0,0,2,6,14,0,0,127,0,511]),(9,[0,0,2,6,14,0,0,127,0,511]),(10,[0,0,0,7,15,0,31,127]),(14,[0,0,3,7,0,15,63]),(16,[0,0,2,6,14,0,0,127,0,511]),(17,[0,0,2,6,14,0,0,127,0,511]),(18,[0,0,3,7,0,31,63]),(26,[0,0,2,6,14,0,0,127,0,511]),(27,[0,0,2,6,14,0,0,127,0,511]),(31,[0,0,0,6,15,0,31,127])] [(1,Vs)] (gB Tryz.f90))=>x) _ (by dsimp[Tryz.f90])
theorem zHg:WM Pg 90 167 Vt [.cell 6 true 8,.cell 7 true 4]:=wM gz Tryz.func90 (by kernel_rfl)
def Vu:MC:=(λx(_:x=gC tt [(9,140),(9,58)] [(3,[0,0,2,6,14,0,0,127,0,511]),(4,[0,1,3,0,15,31]),(6,[0,0,2,6,14,0,0,127,0,511]),(7,[0,1,3,0,15,31]),(10,[0,1,0,4,15,0,63,127]),(12,[0,1,3,0,15,31])] [] (gB Tryz.f91))=>x) _ (by dsimp[Tryz.f91])
theorem zFD:WM Pg 91 76 Vu [.cell 6 true 8,.cell 7 true 4]:=wM gz Tryz.func91 (by kernel_rfl)
def NQ:MC:=(λx(_:x=gC tt [] [] [] (iR 0 (gB Tryz.f34)))=>x) _ (by dsimp[Tryz.f34])
def Vv:MC:=(λx(_:x=gC tt [(9,53),(1,74),(9,54),(4,84),(5,87),(4,111),(9,57),(9,58),(9,59)] [(1,[0,1,3,7,15,0,32,127,255,511,0,1024,4095,8191,0,32767]),(7,[0,0,2,6,14,0,32,0,128,511,0,2047]),(8,[0,0,2,6,14,0,32,0,128,511,0,2047]),(12,[0,0,3,7]),(13,[0,1,0,4,12,28,60,124,255,511,1023,2047,1023,5119,13311,29695,62463,127999,262143,524287,1048575,2097151,4194303,8388607]),(17,[0,1,3,7,15,0,32,127,255,511,0,1024,4095,8191]),(27,[0,0,2,6,14,30,0,0,0,448,960,2046,4095,8191,16383,32767]),(29,[0,0,2,6,14,0,32,0,128,384,896,0,2048,6144,14336,0,32768,98304,229376,524256,1048544,2097150,4194303,8388607,16777215])] [(0,NQ)] (gB Tryz.f34))=>x) _ (by dsimp[Tryz.f34])
theorem zy3:WM Pg 34 216 Vv []:=wM gz Tryz.func34 (by kernel_rfl)
def Vw:MC:=(λx(_:x=gC tt [(9,33),(7,1)] [(12,[0,0,0,4,0,16,0,126,254,1,1023])] [] (iR 2 (gB Tryz.f17)))=>x) _ (by dsimp[Tryz.f17])
def Vx:MC:=(λx(_:x=gC tt [] [] [(2,Vw)] (iR 0 (gB Tryz.f17)))=>x) _ (by dsimp[Tryz.f17])
def Vy:MC:=(λx(_:x=gC tt [(9,34)] [] [] (iR 4 (gB Tryz.f17)))=>x) _ (by dsimp[Tryz.f17])
def Vz:MC:=(λx(_:x=gC tt [(0,13),(0,15),(6,0),(7,1)] [(20,[0,0,2,6,14,1,63])] [(0,Vx),(4,Vy)] (gB Tryz.f17))=>x) _ (by dsimp[Tryz.f17])
theorem zCq:WT Pg 17 125 Vz [.cell 2 true 3,.tmp 3]:=wT gz Tryz.func17 (by kernel_rfl)
def NR:MC:=(λx(_:x=gC tt [] [] [] (iR 0 (gB Tryz.f8)))=>x) _ (by dsimp[Tryz.f8])
def WA:MC:=(λx(_:x=gC tt [] [] [(0,NR)] (gB Tryz.f8))=>x) _ (by dsimp[Tryz.f8])
theorem zAb:WT Pg 8 55 WA [.cell 2 true 3,.tmp 3]:=wT gz Tryz.func8 (by kernel_rfl)
def WB:MC:=(λx(_:x=gC tt [] [] [] (iR 0 (gB Tryz.f15)))=>x) _ (by dsimp[Tryz.f15])
def WC:MC:=(λx(_:x=gC tt [] [] [(0,WB)] (gB Tryz.f15))=>x) _ (by dsimp[Tryz.f15])
theorem zFE:WT Pg 15 40 WC [.tmp 2]:=wT gz Tryz.func15 (by kernel_rfl)
end Go.Gr
namespace Go.Gr
open Go.Abs Go.Proofs List
abbrev tV(l:List fF):Blk:=.arr 1 ((encS l).map (·.map .d))
def oh(vs:List fF)(wth:List gU)(a:List gU)(l:List gU):List gU × Bool:=if(yh vs wth l).2=true then(a++(yh vs wth l).1,true)else([],false)
theorem WE(vs:List fF)(wth:List gU)(a:List gU)(t:gU)(l:List gU):oh vs wth a (t::l)=if(tN vs wth t).2=true then oh vs wth (a++[(tN vs wth t).1]) l else([],false):=by
 unfold oh;rw[yh];by_cases h:(tN vs wth t).2=true
 ·rw[aC h,aC h];by_cases h2:(yh vs wth l).2=true
  ·simp[h2]
  ·simp[h2]
 ·rw[aB h,aB h];simp
theorem WF(vs:List fF)(wth:List gU)(t:gU):tN vs wth t=if t.kind=8 then(if 0<t.names.length\/0<t.kids.length then(t,false)else match yg vs wth t.name with
   |some u=>(u,true)
   |none=>(t,false))
  else if(oh vs wth [] t.kids).2=true then(.mk t.kind t.name t.names (oh vs wth [] t.kids).1,true)else(t,false):=by
 cases t with
 | mk k n s l=>
  unfold oh;rw[tN];simp only[gU.kind,gU.name,gU.names,gU.kids,nil_append];by_cases h:(yh vs wth l).2=true
  ·simp[h];rfl
  ·simp[h];rfl
theorem tX(k:Int)(n:fF)(s:List fF)(l:List gU):gU.enc (.mk k n s l)=[.int .i64 k,.str n,.sl false 1 (encS s),.sl false 4 (l.map gU.enc)]:=by rw[gU.enc_eq];try rfl
theorem WG(t:gU)(b n:Nat):put (t.enc.map AC.d) 3 [.msl 4 b 0 n]=[.d (.int .i64 t.kind),.d (.str t.name),.d (.sl false 1 (encS t.names)),.msl 4 b 0 n]:=by rw[gU.enc_eq];try rfl
theorem WH{ts:List (Nat × Nat)}(h:ts.length=([]:List Blk).length):ts=[]:=aU.1 h
abbrev RepD(vs:List fF)(wth:List gU)(u:gU):Prop:=MCall Pg 131 [.ag (u.enc.map .d),.c (.d (.sl false 1 (encS vs))),.c (.d (.sl false 4 (wth.map gU.enc)))] [] (.tup [.ag ((tN vs wth u).1.enc.map .d),.c (.d (.bool (tN vs wth u).2))]) []
abbrev Fp(vs:List fF)(wth:List gU):List (Nat × AV):=[(6,.c (.ptr 1 0)),(3,.c (.ptr 0 0)),(2,.c (.d (.sl false 4 (wth.map gU.enc)))),(1,.c (.d (.sl false 1 (encS vs))))]
theorem zFq(vs:List fF)(wth:List gU)(hv:vs.length=wth.length)(hl:wth.length<=1000000)(u:gU)(hk:u.kids.length<=200)(ih:∀e,e∈u.kids->RepD vs wth e):RepD vs wth u:=by
 refine VN nD λts hts ok hb c hN hp=>?_;have hts:=WH hts;subst hts;obtain⟨R,hR⟩:∃R,tN vs wth u=R:=⟨_,rfl⟩
 rw[hR];rw[WF]at hR;unfold NM;by_cases k8:u.kind=8
 ·rw[aC k8]at hR;by_cases n0:0<u.names.length
  ·rw[aC (.inl n0)]at hR;subst hR;simp[k8,n0];refine fU [] ?_;simp;exact fM [] []
  by_cases c0:0<u.kids.length
  ·rw[aC (.inr c0)]at hR;subst hR;simp[k8,n0,c0];refine fU [] ?_;simp;exact fM [] []
  rw[aB (by omega)]at hR;simp[k8,n0,c0];refine fP gz hp (λj:Nat=>j<=vs.length/\yg (vs.drop j) (wth.drop j) u.name=yg vs wth u.name) (λj=>(8,.c (.d (.int .i64 j)))::Fp vs wth) (λ_=>[.box (u.enc.map .d),uH]) (λj=>vs.length-j) 0 [0,1] ⟨by simp,by simp⟩ (by simp) λj ⟨h1,h2⟩=>?_;unfold NK;simp;apply gN<;>intro h
  ·have hj:j<vs.length:=by simpa using h
   have hj2:j<wth.length:=by omega
   rw[aG hj,aG hj2,yg]at h2;have hw:=wI (n:=(j:Int)+1);by_cases q:vs[j]=u.name
   ·rw[aC q]at h2;rw[<-h2]at hR;simp only at hR;subst hR;simp[hj,hj2,q];refine⟨by decide,?_⟩;refine fU [] ?_;simp;exact fM [] []
   ·rw[aB q]at h2;simp[hj,hj2,q];refine⟨by decide,?_⟩;refine fG (j+1) [0,1] ⟨by omega,h2⟩ (by omega) ?_;simp[hw]
  ·have hj:j=vs.length:=by simp at h;omega
   subst hj;rw[aQ,yg]at h2;rotate_left
   ·intros;contradiction
   rw[<-h2]at hR;simp only at hR;subst hR;simp;refine fU [] ?_;simp;exact fM [] []
 rw[aB k8]at hR;simp[k8];refine fV [.t 9] ?_;simp;obtain⟨F0,hF⟩:∃F0,oh vs wth [] u.kids=F0:=⟨_,rfl⟩
 rw[hF]at hR;refine fP gz hp (λx:Nat × List gU=>x.1<=u.kids.length/\x.2.length<=x.1/\oh vs wth x.2 (u.kids.drop x.1)=F0) (λx=>(10,.c (.d (.int .i64 x.1)))::(9,.c (.msl 4 2 0 x.2.length))::Fp vs wth) (λx=>[.box (u.enc.map .d),uH,oM x.2]) (λx=>u.kids.length-x.1) (0,[]) [0,1,2] ⟨by simp,by simp,by simpa using hF⟩ (by simp) λ⟨j,a⟩ ⟨h1,h2,h3⟩=>?_;unfold NL;simp only at h1 h2 h3;simp;apply gN<;>intro h
 ·have hj:j<u.kids.length:=by simpa using h
  rw[aG hj,WE]at h3;obtain⟨x,hx⟩:∃x,u.kids[j]=x:=⟨_,rfl⟩
  have hm:=aO hj;rw[hx]at h3 hm;have hix:=ih x hm;unfold RepD at hix;have hw:=wI (n:=(j:Int)+1);generalize tN vs wth x=r at*
  simp[hj,hx];refine gP [] hix ?_;by_cases q:r.2=true
  ·rw[aC q]at h3;simp[q];refine⟨by omega,?_⟩;refine fG (j+1,a++[r.1]) [0,1,4] ⟨by simp only;omega,by simp;omega,h3⟩ (by simp only;omega) ?_;simp[hw];exact vZ a
  ·rw[aB q]at h3;subst h3;simp only[af,if_false]at hR;subst hR;simp[q];refine fU [] ?_;simp;exact fM [] []
 ·have hj:j=u.kids.length:=by simp at h;omega
  subst hj;rw[aQ]at h3;have e:oh vs wth a []=(a,true):=by unfold oh;simp[yh]
  rw[e]at h3;subst h3;simp only[if_true]at hR;subst hR;simp[WG];refine fU [2] ?_;simp[iZ,oG];exact fO [] [] (by simp[iZ,tX,oG])
mutual
theorem WI(vs:List fF)(wth:List gU)(hv:vs.length=wth.length)(hl:wth.length<=1000000):∀t:gU,lG t->RepD vs wth t
|.mk k n s l,h=>by
 rw[lG]at h;exact zFq vs wth hv hl (.mk k n s l) h.1 (λe he=>WJ vs wth hv hl l h.2 e he)
theorem WJ(vs:List fF)(wth:List gU)(hv:vs.length=wth.length)(hl:wth.length<=1000000):∀l:List gU,qz l->∀e,e∈l->RepD vs wth e
|[],_,e,h=>by cases h
|d::l,hf,e,h=>by
 rw[qz]at hf;cases h with
 |head=>exact WI vs wth hv hl d hf.1
 |tail _ h=>exact WJ vs wth hv hl l hf.2 e h
end
theorem NS(vs:List fF)(wth:List gU)(hl:wth.length<=1000000)(u:gU):
  MCall Pg 78 [.ag (u.enc.map .d),.c (.d (.sl false 1 (encS vs))),.c (.d (.sl false 4 (wth.map gU.enc)))] [] (.tup [.ag ((qy u vs wth).1.enc.map .d),.c (.d (.int .i64 (qy u vs wth).2))]) []:=by
 refine VO nD λts hts ok hb c hN hp=>?_;have hts:=WH hts;subst hts;obtain⟨R,hR⟩:∃R,qy u vs wth=R:=⟨_,rfl⟩
 rw[hR];unfold qy at hR;unfold NN;by_cases hv:vs.length=wth.length;rotate_left
 ·rw[aC hv]at hR;subst hR;have hv':¬(vs.length:Int)=wth.length:=by omega
  simp[hv,hv'];exact fJ [] [] (by simp[nR,AV.erds,AV.erd])
 rw[aB (λz=>z hv)]at hR;have hv':(vs.length:Int)=wth.length:=by omega
 simp[hv'];refine gT (M9 u) ?_;by_cases s1:200<nV u 201
 ·rw[aC (.inl s1)]at hR;subst hR;simp[s1];exact fJ [] [] (by simp[nR,AV.erds,AV.erd])
 simp[s1];refine gT (FV u) ?_;by_cases s2:16<oD 17 u
 ·rw[aC (.inr s2)]at hR;subst hR;simp[s2];exact fJ [] [] (by simp[nR,AV.erds,AV.erd])
 rw[aB (by omega)]at hR;have hrp:=WI vs wth hv hl u (FX u 201 (by omega) (by omega));unfold RepD at hrp;generalize tN vs wth u=r at*
 simp[s2];refine gP [] hrp ?_;by_cases q:r.2=true
 ·rw[aC q]at hR;have hn:=Ae r.1;generalize mO r.1=N at*
  subst hR;simp[q];refine gT hn ?_;simp;exact fM [] []
 ·rw[aB q]at hR;subst hR;simp[q];exact fJ [] [] (by simp[nR,AV.erds,AV.erd])
abbrev xe(vs:List fF)(wth:List gU)(u:gU):Prop:=MCall Pg 131 [.ag (u.enc.map .d),.c (.msl 1 0 0 vs.length),.c (.d (.sl false 4 (wth.map gU.enc)))] [tV vs] (.tup [.ag ((tN vs wth u).1.enc.map .d),.c (.d (.bool (tN vs wth u).2))]) [tV vs]
abbrev Fq(vs:List fF)(wth:List gU):List (Nat × AV):=[(6,.c (.ptr 3 0)),(3,.c (.ptr 2 0)),(2,.c (.d (.sl false 4 (wth.map gU.enc)))),(1,.c (.msl 1 0 0 vs.length))]
theorem zFr(vs:List fF)(wth:List gU)(hv:vs.length=wth.length)(hl:wth.length<=1000000)(u:gU)(hk:u.kids.length<=200)(ih:∀e,e∈u.kids->xe vs wth e):xe vs wth u:=by
 refine VN nD λts hts ok hb c hN hp=>?_;obtain⟨t,rfl⟩:=lw hts;obtain⟨R,hR⟩:∃R,tN vs wth u=R:=⟨_,rfl⟩
 rw[hR];rw[WF]at hR;unfold NM;by_cases k8:u.kind=8
 ·rw[aC k8]at hR;by_cases n0:0<u.names.length
  ·rw[aC (.inl n0)]at hR;subst hR;simp[k8,n0];refine fU [] ?_;simp;exact fM [0] [1]
  by_cases c0:0<u.kids.length
  ·rw[aC (.inr c0)]at hR;subst hR;simp[k8,n0,c0];refine fU [] ?_;simp;exact fM [0] [1]
  rw[aB (by omega)]at hR;simp[k8,n0,c0];refine fP gz hp (λj:Nat=>j<=vs.length/\yg (vs.drop j) (wth.drop j) u.name=yg vs wth u.name) (λj=>(8,.c (.d (.int .i64 j)))::Fq vs wth) (λ_=>[tV vs,.pin t 0,.box (u.enc.map .d),uH]) (λj=>vs.length-j) 0 [0,1,2,3] ⟨by simp,by simp⟩ (by simp) λj ⟨h1,h2⟩=>?_;unfold NK;simp;apply gN<;>intro h
  ·have hj:j<vs.length:=by simpa using h
   have hj2:j<wth.length:=by omega
   rw[aG hj,aG hj2,yg]at h2;have hw:=wI (n:=(j:Int)+1);by_cases q:vs[j]=u.name
   ·rw[aC q]at h2;rw[<-h2]at hR;simp only at hR;subst hR;simp[hj,hj2,q];refine⟨by decide,?_⟩;refine fU [] ?_;simp;exact fM [0] [1]
   ·rw[aB q]at h2;simp[hj,hj2,q];refine⟨by decide,?_⟩;refine fG (j+1) [0,1,2,3] ⟨by omega,h2⟩ (by omega) ?_;simp[hw]
  ·have hj:j=vs.length:=by simp at h;omega
   subst hj;rw[aQ,yg]at h2;rotate_left
   ·intros;contradiction
   rw[<-h2]at hR;simp only at hR;subst hR;simp;refine fU [] ?_;simp;exact fM [0] [1]
 rw[aB k8]at hR;simp[k8];refine fV [.t 9] ?_;simp;obtain⟨F0,hF⟩:∃F0,oh vs wth [] u.kids=F0:=⟨_,rfl⟩
 rw[hF]at hR;refine fP gz hp (λx:Nat × List gU=>x.1<=u.kids.length/\x.2.length<=x.1/\oh vs wth x.2 (u.kids.drop x.1)=F0) (λx=>(10,.c (.d (.int .i64 x.1)))::(9,.c (.msl 4 4 0 x.2.length))::Fq vs wth) (λx=>[tV vs,.pin t 0,.box (u.enc.map .d),uH,oM x.2]) (λx=>u.kids.length-x.1) (0,[]) [0,1,2,3,4] ⟨by simp,by simp,by simpa using hF⟩ (by simp) λ⟨j,a⟩ ⟨h1,h2,h3⟩=>?_;unfold NL;simp only at h1 h2 h3;simp;apply gN<;>intro h
 ·have hj:j<u.kids.length:=by simpa using h
  rw[aG hj,WE]at h3;obtain⟨x,hx⟩:∃x,u.kids[j]=x:=⟨_,rfl⟩
  have hm:=aO hj;rw[hx]at h3 hm;have hix:=ih x hm;unfold xe at hix;have hw:=wI (n:=(j:Int)+1);generalize tN vs wth x=r at*
  simp[hj,hx];refine gP [0] hix ?_;by_cases q:r.2=true
  ·rw[aC q]at h3;simp[q];refine⟨by omega,?_⟩;refine fG (j+1,a++[r.1]) [0,1,2,3,6] ⟨by simp only;omega,by simp;omega,h3⟩ (by simp only;omega) ?_;simp[hw];exact vZ a
  ·rw[aB q]at h3;subst h3;simp only[af,if_false]at hR;subst hR;simp[q];refine fU [] ?_;simp;exact fM [0] [1]
 ·have hj:j=u.kids.length:=by simp at h;omega
  subst hj;rw[aQ]at h3;have e:oh vs wth a []=(a,true):=by unfold oh;simp[yh]
  rw[e]at h3;subst h3;simp only[if_true]at hR;subst hR;simp[WG];refine fU [4] ?_;simp[iZ,oG];exact fO [0] [1] (by simp[iZ,tX,oG])
mutual
theorem WK(vs:List fF)(wth:List gU)(hv:vs.length=wth.length)(hl:wth.length<=1000000):∀t:gU,lG t->xe vs wth t
|.mk k n s l,h=>by
 rw[lG]at h;exact zFr vs wth hv hl (.mk k n s l) h.1 (λe he=>WL vs wth hv hl l h.2 e he)
theorem WL(vs:List fF)(wth:List gU)(hv:vs.length=wth.length)(hl:wth.length<=1000000):∀l:List gU,qz l->∀e,e∈l->xe vs wth e
|[],_,e,h=>by cases h
|d::l,hf,e,h=>by
 rw[qz]at hf;cases h with
 |head=>exact WK vs wth hv hl d hf.1
 |tail _ h=>exact WL vs wth hv hl l hf.2 e h
end
theorem zCm(vs:List fF)(wth:List gU)(hl:wth.length<=1000000)(u:gU):
  MCall Pg 78 [.ag (u.enc.map .d),.c (.msl 1 0 0 vs.length),.c (.d (.sl false 4 (wth.map gU.enc)))] [tV vs] (.tup [.ag ((qy u vs wth).1.enc.map .d),.c (.d (.int .i64 (qy u vs wth).2))]) [tV vs]:=by
 refine VO nD λts hts ok hb c hN hp=>?_;obtain⟨t,rfl⟩:=lw hts;obtain⟨R,hR⟩:∃R,qy u vs wth=R:=⟨_,rfl⟩
 rw[hR];unfold qy at hR;unfold NN;by_cases hv:vs.length=wth.length;rotate_left
 ·rw[aC hv]at hR;subst hR;have hv':¬(vs.length:Int)=wth.length:=by omega
  simp[hv,hv'];exact fJ [0] [1] (by simp[nR,AV.erds,AV.erd])
 rw[aB (λz=>z hv)]at hR;have hv':(vs.length:Int)=wth.length:=by omega
 simp[hv'];refine gT (M9 u) ?_;by_cases s1:200<nV u 201
 ·rw[aC (.inl s1)]at hR;subst hR;simp[s1];exact fJ [0] [1] (by simp[nR,AV.erds,AV.erd])
 simp[s1];refine gT (FV u) ?_;by_cases s2:16<oD 17 u
 ·rw[aC (.inr s2)]at hR;subst hR;simp[s2];exact fJ [0] [1] (by simp[nR,AV.erds,AV.erd])
 rw[aB (by omega)]at hR;have hrp:=WK vs wth hv hl u (FX u 201 (by omega) (by omega));unfold xe at hrp;generalize tN vs wth u=r at*
 simp[s2];refine gP [0] hrp ?_;by_cases q:r.2=true
 ·rw[aC q]at hR;have hn:=Ae r.1;generalize mO r.1=N at*
  subst hR;simp[q];refine gT hn ?_;simp;exact fM [0] [1]
 ·rw[aB q]at hR;subst hR;simp[q];exact fJ [0] [1] (by simp[nR,AV.erds,AV.erd])
@[simp] theorem zLl(v:fF × gU):(il v)[0]?=some (.str v.1):=rfl
@[simp] theorem zIT(v:fF × gU):(il v)[1]?=some (.int .i64 v.2.kind):=by unfold il;rw[gU.enc_eq];try rfl
@[simp] theorem zK4(v:fF × gU)(h:0<(il v).length):(il v)[0]=.str v.1:=rfl
@[simp] theorem zK5(v:fF × gU)(h:1<(il v).length):(il v)[1]=.int .i64 v.2.kind:=by have:=zIT v;rw[aA h]at this;exact bR this
@[simp] theorem zKz(v:fF × gU):cut (il v) 1 4=v.2.enc:=by unfold il;rw[gU.enc_eq];try rfl
theorem zH6(vars:List (fF × gU))(l:List gU)(hl:l.length<=1000000):gY Pg 136 [.one (.sl false 5 (vars.map il)),.one (.sl false 4 (l.map gU.enc))] (.one (.int .i64 (EG vars l))):=by
 refine zD3 (by simp) λo c hN hp=>?_;obtain⟨R,hR⟩:∃R,EG vars l=R:=⟨_,rfl⟩
 rw[hR];unfold EG at hR;unfold VQ;by_cases hv:vars.length=l.length;rotate_left
 ·rw[aC hv]at hR;subst hR;have hv':¬(vars.length:Int)=l.length:=by omega
  simp[hv']
 rw[aB (λz=>z hv)]at hR;have hv':(vars.length:Int)=l.length:=by omega
 simp[hv'];refine fV [.t 5] ?_;simp;refine fP gz hp (λi:Nat=>i<=l.length/\FU (vars.drop i) (l.drop i) ((vars.take i).map (·.1)) (l.take i)=R) (λi=>[(6,.c (.d (.int .i64 i))),(5,.c (.msl 1 0 0 i)),(1,.c (.d (.sl false 4 (l.map gU.enc)))),(0,.c (.d (.sl false 5 (vars.map il))))]) (λi=>[tV ((vars.take i).map (·.1))]) (λi=>l.length-i) 0 [0] ⟨by simp,by simpa using hR⟩ (by simp[encS]) λi ⟨h1,h2⟩=>?_;unfold VP;simp;apply gN<;>intro h
 ·have hi:i<l.length:=by simpa using h
  have hi2:i<vars.length:=by omega
  rw[aG hi,aG hi2,FU]at h2;obtain⟨x,hx⟩:∃x,l[i]=x:=⟨_,rfl⟩
  obtain⟨v,hv3⟩:∃v,vars[i]=v:=⟨_,rfl⟩
  rw[hx,hv3]at h2;have hw:=wI (n:=(i:Int)+1);have tk1:(vars.take (i+1)).map (·.1)=(vars.take i).map (·.1)++[v.1]:=by rw[aJ hi2,map_append,hv3];try rfl
  have tk2:l.take (i+1)=l.take i++[x]:=by rw[aJ hi,hx]
  have hlt:(l.take i).length=i:=by rw[bN];omega
  have hvt:((vars.take i).map (·.1)).length=i:=by rw[aV,bN];omega
  simp[hi,hx];refine gT (Af x) ?_;by_cases n:iE x=true;rotate_left
  ·rw[aC (by simpa using n)]at h2;subst h2;simp[n]
  rw[aB (by simp[n])]at h2;by_cases k0:v.2.kind=0
  ·rw[aB (λz=>z.1 k0)]at h2;simp[n,hi2,hv3,k0];refine⟨by omega,by omega,?_⟩;refine fG (i+1) [1] ⟨by omega,by rw[tk1,tk2];exact h2⟩ (by omega) ?_;rw[tk1];simp[hw,hvt];exact aD (by simp;omega)
  ·have hro:=zCm ((vars.take i).map (·.1)) (l.take i) (by rw[hlt];omega) v.2;rw[hvt]at hro;have hsb:=Fg x (qy v.2 ((vars.take i).map (·.1)) (l.take i)).1;generalize qy v.2 ((vars.take i).map (·.1)) (l.take i)=r at*
   simp[n,hi2,hv3,k0,h1];refine gP [0] hro ?_;simp[hi,hx];refine⟨by decide,?_⟩;refine gT hsb ?_;by_cases e0:r.2=0
   ·by_cases s0:pW x r.1=true
    ·rw[aB (by simp[e0,s0])]at h2;simp[e0,s0,hi2,hv3];refine⟨by decide,by omega,by omega,?_⟩;refine fG (i+1) [2] ⟨by omega,by rw[tk1,tk2];exact h2⟩ (by omega) ?_;rw[tk1];simp[hw,hvt];exact aD (by simp;omega)
    ·rw[aC ⟨k0,.inr (by simpa using s0)⟩]at h2;subst h2;simp[e0,s0];try decide
   ·rw[aC ⟨k0,.inl e0⟩]at h2;subst h2;simp[e0];try decide
 ·have hi:i=l.length:=by simp at h;omega
  subst hi;rw[aQ,FU]at h2
  ·subst h2;simp
  ·intros;contradiction
@[simp] theorem kX.enc_length(x:kX):x.enc.length=3:=rfl
@[simp] theorem kX.enc_0(x:kX):x.enc[0]?=some (.int .i64 x.module):=rfl
@[simp] theorem kX.enc_1(x:kX):x.enc[1]?=some (.int .i64 x.decl):=rfl
@[simp] theorem kX.enc_2(x:kX):x.enc[2]?=some (.sl false 4 (x.types.map gU.enc)):=rfl
@[simp] theorem kX.enc_g0(x:kX)(h:0<x.enc.length):x.enc[0]=.int .i64 x.module:=rfl
@[simp] theorem kX.enc_g1(x:kX)(h:1<x.enc.length):x.enc[1]=.int .i64 x.decl:=rfl
@[simp] theorem kX.enc_g2(x:kX)(h:2<x.enc.length):x.enc[2]=.sl false 4 (x.types.map gU.enc):=rfl
@[simp] theorem kX.cut_enc(x:kX):cut x.enc 0 3=x.enc:=rfl
@[simp] theorem kX.cut_map(x:kX):cut (x.enc.map AC.d) 0 3=x.enc.map .d:=rfl
theorem zGT(a b:kX):gY Pg 51 [.agg a.enc,.agg b.enc] (.one (.bool (Ab a b))):=by
 refine zD4 (by simp) λo c hN hp=>?_;have hl:a.types.length<=zah:=by
  have:=o.1;simp only[DV.ok,kX.enc,D.okL,D.ok,aV]at this;exact this.2.2.1.1
 unfold zah at hl;obtain⟨R,hR⟩:∃R,Ab a b=R:=⟨_,rfl⟩
 rw[hR];unfold Ab at hR;unfold VS;by_cases q1:a.module=b.module;rotate_left
 ·simp[q1]at hR;simp[q1,hR]
 by_cases q2:a.decl=b.decl;rotate_left
 ·simp[q2]at hR;simp[q1,q2,hR]
 by_cases q3:a.types.length=b.types.length;rotate_left
 ·have:lL lC a.types b.types=false:=by
   cases h:lL lC a.types b.types with
   |false=>rfl
   |true=>exact absurd (Cv h) q3
  have q3':¬(a.types.length:Int)=b.types.length:=by omega
  simp[this]at hR;simp[q1,q2,q3,q3',hR]
 simp[q1,q2]at hR;simp[q1,q2,q3];refine fP gz hp (λj:Nat=>j<=a.types.length/\lL lC (a.types.drop j) (b.types.drop j)=R) (λj=>[(5,.c (.d (.int .i64 j))),(3,.c (.d (.rp b.enc 0))),(2,.c (.d (.rp a.enc 0)))]) (λ_=>[]) (λj=>a.types.length-j) 0 [] ⟨by simp,by simpa using hR⟩ (by simp) λj ⟨h1,h2⟩=>?_;unfold VR;simp;apply gN<;>intro h
 ·have hj:j<a.types.length:=by simpa using h
  have hj2:j<b.types.length:=by omega
  rw[aG hj,aG hj2,lL]at h2;simp[hj,hj2];refine gT (EH _ _) ?_;generalize lC a.types[j] b.types[j]=q at*
  cases q with
  |true=>
   simp at h2;simp;refine⟨by decide,?_⟩;refine fG (j+1) [] ⟨by omega,h2⟩ (by omega) ?_;simp;exact wI
  |false=>
   simp at h2;simp[h2];try decide
 ·have hj:j=a.types.length:=by simp at h;omega
  subst hj;rw[aQ,q3,aQ]at h2;simp[lL]at h2;simp[h2]
abbrev oN(l:List kX):Blk:=.arr 3 ((l.map kX.enc).map (·.map .d))
abbrev xf(most:Int)(n b:Nat):Blk:=.box [.d (.int .i64 most),.msl 3 b 0 n]
theorem Fs{ts:List (Nat × Nat)}{a b:Blk}(h:ts.length=[a,b].length):∃t u,ts=[t,u]:=by
 match ts,h with
 |[t,u],_=>exact⟨t,u,rfl⟩
theorem WN(most:Int)(l:List kX)(hl:l.length<=100000)(x:kX)(hx:x.types.length<=1000000):
  MCall Pg 33 [.c (.ptr 0 0),.ag (x.enc.map .d)] [xf most l.length 1,oN l] (.tup [.c (.d (.int .i64 (ku most l x).1.1)),.c (.d (.int .i64 (ku most l x).1.2))]) [xf most (ku most l x).2.length 2,.dead,oN (ku most l x).2]:=by
 refine zxy ⟨by simp,by simp,by simp,by simp,by simp,by simp,by simp;rfl⟩ λts hts ok hb c hN hp=>?_;obtain⟨t,u,rfl⟩:=Fs hts;obtain⟨R,hR⟩:∃R,ku most l x=R:=⟨_,rfl⟩
 rw[hR];unfold ku at hR;unfold VV;simp;refine fP gz hp (λj:Nat=>j<=x.types.length/\(x.types.drop j).all iE=x.types.all iE) (λj=>[(6,.c (.d (.int .i64 j))),(3,.c (.d (.rp x.enc 0))),(0,.c (.ptr 0 0))]) (λ_=>[xf most l.length 1,oN l,.pin t 0,.pin u 1]) (λj=>x.types.length-j) 0 [0,1,2,3] ⟨by simp,by simp⟩ (by simp) λj ⟨h1,h2⟩=>?_;unfold VT;simp;apply gN<;>intro h
 ·have hj:j<x.types.length:=by simpa using h
  rw[aG hj,all_cons]at h2;simp[hj];refine gT (Af _) ?_;have hw:=wI (n:=(j:Int)+1);generalize iE x.types[j]=q at*
  cases q with
  |false=>
   simp only[Bool.false_and]at h2;rw[aC h2.symm]at hR;subst hR;simp;exact fM [0,3,1] [2,3]
  |true=>
   simp only[Bool.true_and]at h2;simp;refine fG (j+1) [0,1,2,3] ⟨by omega,h2⟩ (by omega) ?_;simp[hw]
 ·have hj:j=x.types.length:=by simp at h;omega
  subst hj;rw[aQ,all_nil]at h2;rw[aB (by rw[<-h2];simp)]at hR;simp;refine fP gz hp (λi:Nat=>i<=l.length/\fi (λy=>Ab y x) i (l.drop i)=fi (λy=>Ab y x) 0 l) (λi=>[(8,.c (.d (.int .i64 i))),(3,.c (.d (.rp x.enc 0))),(0,.c (.ptr 0 0))]) (λ_=>[xf most l.length 1,oN l,.pin t 0,.pin u 1]) (λi=>l.length-i) 0 [0,1,2,3] ⟨by simp,by simp⟩ (by simp) λi ⟨h3,h4⟩=>?_;unfold VU;simp;apply gN<;>intro h
  ·have hi:i<l.length:=by simpa using h
   rw[aG hi,fi]at h4;have hw:=wI (n:=(i:Int)+1);simp[hi];refine gT (zGT _ _) ?_;by_cases q:Ab l[i] x=true
   ·rw[aC q]at h4;rw[<-h4,aC (by omega)]at hR;subst hR;simp[q];refine⟨by decide,?_⟩;exact fM [0,3,1] [2,3]
   ·rw[aB q]at h4;simp[q];refine⟨by decide,?_⟩;refine fG (i+1) [0,1,2,3] ⟨by omega,h4⟩ (by omega) ?_;simp[hw]
  ·have hi:i=l.length:=by simp at h;omega
   subst hi;rw[aQ,fi]at h4;rw[<-h4,aB (by decide)]at hR;simp;by_cases m:most<=l.length
   ·rw[aC m]at hR;subst hR;simp[m];refine⟨by decide,?_⟩;exact fM [0,3,1] [2,3]
   ·rw[aB m]at hR;subst hR;have hw:IntKind.i64.wrap (l.length:Int)=(l.length:Int):=wI;simp[m];refine⟨by decide,by omega,by decide,?_⟩;exact fO [0,1,4] [2,3] (by simp[hw,oG])
@[simp] theorem jh.enc_length(f:jh):f.enc.length=13:=by simp[jh.enc]
@[simp] theorem Site.enc_length(f:Site):f.enc.length=3:=rfl
abbrev om(l:List jh):Blk:=.arr 13 ((l.map jh.enc).map (·.map .d))
abbrev rC(l:List Site):Blk:=.arr 3 ((l.map Site.enc).map (·.map .d))
abbrev ui(L:iQ)(s:CS)(a b d:Nat):Blk:=.box [.d (.sl false 1 (encS L.names)),.d (.sl false 2 (L.mods.map jW.enc)),.d (.sl false 1 (L.scopes.map rA)),.d (.str L.main.name),.d (.int .i64 L.main.module),.d (.int .i64 L.main.decl),.ptr 1 0,.msl 13 a 0 s.funs.length,.d (.int .i64 s.main),.msl 3 b 0 s.sites.length,.msl 4 d 0 s.bad.length,.d (.int .i64 s.module),.d (.sl false 1 (encS s.vars)),.d (.sl false 4 (s.wth.map gU.enc)),.d (.int .i64 s.e),.d (.int .i64 s.line),.d (.int .i64 s.col)]
abbrev rE(L:iQ)(s:CS):List Blk:=[ui L s 2 3 4,xf 256 s.tab.length 5,om s.funs,rC s.sites,mI s.bad,oN s.tab]
abbrev WO(L:iQ)(s:CS):List Blk:=[ui L s 2 6 4,xf 256 s.tab.length 5,om s.funs,.dead,mI s.bad,oN s.tab,rC s.sites]
abbrev JB(L:iQ)(s:CS):List Blk:=[ui L s 2 6 4,xf 256 s.tab.length 7,om s.funs,.dead,mI s.bad,.dead,rC s.sites,oN s.tab]
theorem mZ{ts:List (Nat × Nat)}{a b c d e f:Blk}(h:ts.length=[a,b,c,d,e,f].length):∃t u v w x y,ts=[t,u,v,w,x,y]:=by
 match ts,h with
 |[t,u,v,w,x,y],_=>exact⟨t,u,v,w,x,y,rfl⟩
section
variable (L:iQ)
theorem WP(ln cl e:Int)(s:CS):MCall Pg 79 [.c (.ptr 0 0),.c (.d (.int .i64 ln)),.c (.d (.int .i64 cl)),.c (.d (.int .i64 e))] (rE L s) (.tup []) (rE L (lI ln cl e s)):=by
 refine zle mD λts hts ok hb c hN hp=>?_;obtain⟨t,u,v,w,x,y,rfl⟩:=mZ hts;unfold V5 lI;by_cases h0:s.e=0
 ·rw[aC h0];simp[h0];exact fM [0,1,2,3,4,5] [6,7,8,9,10,11]
 ·rw[aB h0];simp[h0];exact fM [0,1,2,3,4,5] [6,7,8,9,10,11]
theorem Ao{α:Type}{l:List α}{i:Nat}{d:α}(e:l[i]?=some d)(h:i<l.length):l[i]=d:=by rw[aA h]at e;exact bR e
@[simp] theorem gq.enc_0(n:gq):n.enc[0]?=some (.int .i64 n.kind):=by rw[n.enc_eq];try rfl
@[simp] theorem gq.enc_g0(n:gq)(h:0<n.enc.length):n.enc[0]=.int .i64 n.kind:=Ao n.enc_0 h
@[simp] theorem gq.enc_1(n:gq):n.enc[1]?=some (.str n.text):=by rw[n.enc_eq];try rfl
@[simp] theorem gq.enc_g1(n:gq)(h:1<n.enc.length):n.enc[1]=.str n.text:=Ao n.enc_1 h
@[simp] theorem gq.enc_2(n:gq):n.enc[2]?=some (.int .i64 n.n):=by rw[n.enc_eq];try rfl
@[simp] theorem gq.enc_g2(n:gq)(h:2<n.enc.length):n.enc[2]=.int .i64 n.n:=Ao n.enc_2 h
@[simp] theorem gq.enc_3(n:gq):n.enc[3]?=some (.int .i64 n.line):=by rw[n.enc_eq];try rfl
@[simp] theorem gq.enc_g3(n:gq)(h:3<n.enc.length):n.enc[3]=.int .i64 n.line:=Ao n.enc_3 h
@[simp] theorem gq.enc_4(n:gq):n.enc[4]?=some (.int .i64 n.col):=by rw[n.enc_eq];try rfl
@[simp] theorem gq.enc_g4(n:gq)(h:4<n.enc.length):n.enc[4]=.int .i64 n.col:=Ao n.enc_4 h
@[simp] theorem gq.enc_5(n:gq):n.enc[5]?=some (.sl false 4 (n.types.map gU.enc)):=by rw[n.enc_eq];try rfl
@[simp] theorem gq.enc_g5(n:gq)(h:5<n.enc.length):n.enc[5]=.sl false 4 (n.types.map gU.enc):=Ao n.enc_5 h
@[simp] theorem gq.enc_6(n:gq):n.enc[6]?=some (.sl false 1 (encS n.names)):=by rw[n.enc_eq];try rfl
@[simp] theorem gq.enc_g6(n:gq)(h:6<n.enc.length):n.enc[6]=.sl false 1 (encS n.names):=Ao n.enc_6 h
@[simp] theorem gq.enc_7(n:gq):n.enc[7]?=some (.sl false 8 (n.kids.map gq.enc)):=by rw[n.enc_eq];try rfl
@[simp] theorem gq.enc_g7(n:gq)(h:7<n.enc.length):n.enc[7]=.sl false 8 (n.kids.map gq.enc):=Ao n.enc_7 h
theorem vM(n:gq)(e:Int)(s:CS):MCall Pg 57 [.c (.ptr 0 0),.ag (n.enc.map .d),.c (.d (.int .i64 e))] (rE L s) (.tup []) (rE L (lI n.line n.col e s)):=by
 refine zm5 mD λts hts ok hb c hN hp=>?_;obtain⟨t,u,v,w,x,y,rfl⟩:=mZ hts;have hf:=WP L n.line n.col e s;unfold V6;simp;refine gP [0,1,2,3,4,5] hf ?_;simp;exact fM [0,1,2,3,4,5] [6,7,8,9,10,11]
theorem DF(t0:gU)(ln cl:Int)(s:CS)(hw:s.wth.length<=1000000):MCall Pg 53 [.c (.ptr 0 0),.ag (t0.enc.map .d),.c (.d (.int .i64 ln)),.c (.d (.int .i64 cl))] (rE L s) (.ag ((kC t0 ln cl s).1.enc.map .d)) (rE L (kC t0 ln cl s).2):=by
 refine zAa mD λts hts ok hb c hN hp=>?_;obtain⟨t,u,v,w,x,y,rfl⟩:=mZ hts;have hr:=NS s.vars s.wth hw t0;have hf:=WP L ln cl 9 s;unfold kC;simp only;generalize qy t0 s.vars s.wth=r at*
 unfold V7;simp;refine gP [] hr ?_;by_cases h0:r.2=0
 ·rw[aB (by simp[h0])];simp[h0];refine⟨by decide,?_⟩;exact fM [0,1,2,3,4,5] [6,7,8,9,10,11]
 ·rw[aC h0];simp[h0];refine⟨by decide,?_⟩;refine gP [0,1,2,3,4,5] hf ?_;simp;exact fM [0,1,2,3,4,5] [6,7,8,9,10,11]
theorem DI(t0:gU)(n:gq)(s:CS):MCall Pg 54 [.c (.ptr 0 0),.ag (t0.enc.map .d),.ag (n.enc.map .d)] (rE L s) (.ag ((pX t0 n.line n.col s).1.enc.map .d)) (rE L (pX t0 n.line n.col s).2):=by
 refine zD9 mD λts hts ok hb c hN hp=>?_;obtain⟨t,u,v,w,x,y,rfl⟩:=mZ hts;have hr:=Ae t0;have hf:=vM L n 9 s;unfold pX;generalize mO t0=r at*
 unfold V8;simp;refine gT hr ?_;by_cases h0:r.2=0
 ·rw[aB (by simp[h0])];simp[h0];exact fM [0,1,2,3,4,5] [6,7,8,9,10,11]
 ·rw[aC h0];simp[h0];refine gP [0,1,2,3,4,5] hf ?_;simp;exact fM [0,1,2,3,4,5] [6,7,8,9,10,11]
@[simp] theorem gy.er_map(c:gy):c.enc.map D.er=c.enc:=by rw[gy.enc_eq];try rfl
theorem NT:∀l:List Int,D.erdE (encI l)=encI l
|[]=>rfl
|i::l=>by have:=NT l;unfold encI at*;simp only[map_cons,D.erdE,D.erdL,D.erd,this]
theorem Fu:∀l:List fF,D.erdE (encS l)=encS l
|[]=>rfl
|i::l=>by have:=Fu l;unfold encS at*;simp only[map_cons,D.erdE,D.erdL,D.erd,this]
theorem WQ:∀l:List (fF × Int),D.erdE (iK l)=iK l
|[]=>rfl
|i::l=>by have:=WQ l;unfold iK at*;simp only[map_cons,D.erdE,D.erdL,D.erd,this]
mutual
theorem gU.erdLL:∀c:gU,D.erdL c.enc=c.enc
|.mk k n s l=>by rw[gU.enc];simp only[D.erdL,D.erd,Fu,gU.erdEE l]
theorem gU.erdEE:∀l:List gU,D.erdE (gU.encs l)=gU.encs l
|[]=>rfl
|c::l=>by rw[gU.encs,D.erdE,gU.erdLL c,gU.erdEE l]
end
mutual
theorem gp.erdLL:∀c:gp,D.erdL c.enc=c.enc
|.mk t n s f g=>by rw[gp.enc];simp only[D.erdL,D.erd,NT,WQ,Fu,gp.erdEE f,gp.erdEE g]
theorem gp.erdEE:∀l:List gp,D.erdE (gp.encs l)=gp.encs l
|[]=>rfl
|c::l=>by rw[gp.encs,D.erdE,gp.erdLL c,gp.erdEE l]
end
theorem gU.erdE_map(l:List gU):D.erdE (l.map gU.enc)=l.map gU.enc:=by rw[<-gU.encs_map];exact gU.erdEE l
theorem gp.erdE_map(l:List gp):D.erdE (l.map gp.enc)=l.map gp.enc:=by rw[<-gp.encs_map];exact gp.erdEE l
mutual
theorem gy.erdLL:∀c:gy,D.erdL c.enc=c.enc
|.mk k n t is ns ts cs ks=>by rw[gy.enc];simp only[D.erdL,D.erd,NT,Fu,gU.erdE_map,gp.erdE_map,gy.erdEE ks]
theorem gy.erdEE:∀l:List gy,D.erdE (gy.encs l)=gy.encs l
|[]=>rfl
|c::l=>by rw[gy.encs,D.erdE,gy.erdLL c,gy.erdEE l]
end
theorem gy.erdE_map(l:List gy):D.erdE (l.map gy.enc)=l.map gy.enc:=by rw[<-gy.encs_map];exact gy.erdEE l
attribute [simp] gy.erdLL gy.erdE_map
theorem yn(k n:Int)(t:fF)(is:List Int)(ns:List fF)(ts:List gU)(cs:List gp)(ks:List gy):(gy.mk k n t is ns ts cs ks).enc=[.int .i64 k,.int .i64 n,.str t,.sl false 1 (encI is),.sl false 1 (encS ns),.sl false 4 (ts.map gU.enc),.sl false 5 (cs.map gp.enc),.sl false 8 (ks.map gy.enc)]:=by
 rw[gy.enc_eq];try rfl
theorem nK.mkC{v:AV}{bs':List Blk}{ts:List (Nat × Nat)}{vs:List AV}{S:St}(l qs:List Nat)(h:l.Nodup/\(one? vs).erd=v.ren (jH l)/\ql S l l bs'/\pQ S l l qs ts bs':=by simp[cK,cN,cT,yn,tX,kR,vg,nR,noC,encI,encS,AV.erds,AV.erd,D.erdL,D.erd,D.erdE,je,jf]):nK v bs' ts vs S:=fJ l qs h
theorem EM(z:gy)(a b:gU)(n:gq)(s:CS)(hs:s.sites.length<=1000000000):MCall Pg 93 [.c (.ptr 0 0),.ag (z.enc.map .d),.ag (a.enc.map .d),.ag (b.enc.map .d),.ag (n.enc.map .d)] (rE L s) (.ag ((mP z a b n.line n.col s).1.enc.map .d)) (WO L (mP z a b n.line n.col s).2):=by
 refine zEa mD λts hts ok hb c hN hp=>?_;obtain⟨t,u,v,w,x,y,rfl⟩:=mZ hts;unfold mP;unfold V9;by_cases h0:s.e=0
 ·rw[aB (by simp[h0])];have hw:IntKind.i64.wrap (s.sites.length:Int)=(s.sites.length:Int):=wI;simp[h0];refine⟨by omega,by decide,by decide,?_⟩;exact fJ [0,1,2,3,4,5,13] [6,7,8,9,10,11] (by simp[hw,oG,yn,Site.enc,h0,encI,encS,AV.erd,AC.erd])
 ·rw[aC h0];simp[h0];exact fM [0,1,2,9,4,5,3] [6,7,8,9,10,11]
theorem yo(z:gy)(a b:gU)(n:gq)(s:CS)(hs:s.sites.length<=1000000000):MCall Pg 59 [.c (.ptr 0 0),.ag (z.enc.map .d),.ag (a.enc.map .d),.ag (b.enc.map .d),.ag (n.enc.map .d)] (rE L s) (.ag ((lF z a b n.line n.col s).1.enc.map .d)) (WO L (lF z a b n.line n.col s).2):=by
 refine zBF mD λts hts ok hb c hN hp=>?_;obtain⟨t,u,v,w,x,y,rfl⟩:=mZ hts;have hc:=EM L z a b n s hs;have hf:=vM L n 15 s;unfold lF;unfold Va;by_cases h0:s.e=0;rotate_left
 ·rw[aC h0];simp[h0];exact fM [0,1,2,9,4,5,3] [6,7,8,9,10,11]
 rw[aB (by simp[h0])];simp[h0];refine gT (Fg a b) ?_;by_cases h1:pW a b=true
 ·rw[aC h1];simp[h1];exact fO [0,1,2,9,4,5,3] [6,7,8,9,10,11] (by simp[h0])
 rw[aB h1];simp[h1];refine gT (VA a b) ?_;by_cases h2:A8 a b=true
 ·rw[aC h2];generalize mP z a b n.line n.col s=r at*
  simp[h2];refine gQ [0,1,2,3,4,5] hc (by simp[h0]) ?_;simp;exact fM [0,1,2,3,4,5,13] [6,7,8,9,10,11]
 ·rw[aB h2];generalize lI n.line n.col 15 s=r at*
  simp[h2];refine gQ [0,1,2,3,4,5] hf (by simp[h0]) ?_;simp;exact fM [0,1,2,9,4,5,3] [6,7,8,9,10,11]
end
abbrev fK:=@nK.mkC
theorem lH(k:Int):gY Pg 56 [.one (.int .i64 k)] (.agg (bT k).enc):=by
 refine zD5 (by simp) λo c hN hp=>?_;unfold VW;simp[vg]
theorem WR(d:jZ)(hd:d.vars.length<=1000000):gY Pg 52 [.agg d.enc] (.one (.sl false 1 (encS (d.vars.map (·.1))))):=by
 refine zD6 (by simp) λo c hN hp=>?_;unfold VY;simp;refine fV [.t 3] ?_;simp;refine fP gz hp (λj:Nat=>j<=d.vars.length) (λj=>[(4,.c (.d (.int .i64 j))),(3,.c (.msl 1 0 0 j)),(1,.c (.d (.rp d.enc 0)))]) (λj=>[tV ((d.vars.take j).map (·.1))]) (λj=>d.vars.length-j) 0 [0] (by simp) (by simp[encS]) λj h1=>?_;unfold VX;simp;apply gN<;>intro h
 ·have hj:j<d.vars.length:=by simpa using h
  obtain⟨v,hv⟩:∃v,d.vars[j]=v:=⟨_,rfl⟩
  have hw:=wI (n:=(j:Int)+1);have tk1:(d.vars.take (j+1)).map (·.1)=(d.vars.take j).map (·.1)++[v.1]:=by rw[aJ hj,map_append,hv];try rfl
  simp[hj,hv];refine⟨by omega,by omega,?_⟩;refine fG (j+1) [1] (by omega) (by omega) ?_;rw[tk1];simp[hw];exact aD (by simp;omega)
 ·have hj:j=d.vars.length:=by simp at h;omega
  subst hj;have z:take d.vars.length (encS (take d.vars.length (List.map (λx=>x.1) d.vars)))=encS (List.map (λx=>x.1) d.vars):=by
   rw[aD (by simp),aD (by simp)]
  simp[z]
theorem NU(env:Env)(hl:env.length<=1000000)(s:fF)(t:gU):gY Pg 137 [.one (.sl false 5 (env.map il)),.one (.str s),.agg t.enc] (.one (.sl false 5 ((env++[(s,t)]).map il))):=by
 refine zD8 (by simp) λo c hN hp=>?_;unfold V4;have z:take (length env+1) (List.map il env++[.str s::t.enc])=List.map il env++[.str s::t.enc]:=aD (by simp);simp[oG];refine⟨by omega,by omega,by decide,?_⟩
 first
  |exact z
  |(rw[z];rfl)
  |trace_state
theorem NV(env:Env)(x:fF):rT env x= -1\/(0<=rT env x/\rT env x<env.length):=by
 have:=Fh (λb:fF × gU=>decide (b.1=x)) 0 env.reverse;unfold rT;rw[length_reverse]at this;simp only;split<;>omega
theorem find_ok(env:Env)(hl:env.length<=1000000)(x:fF):gY Pg 134 [.one (.sl false 5 (env.map il)),.one (.str x)] (.one (.int .i64 (rT env x))):=by
 refine zD7 (by simp) λo c hN hp=>?_;obtain⟨R,hR⟩:∃R,rT env x=R:=⟨_,rfl⟩
 rw[hR];unfold rT at hR;unfold V3;have hw0:IntKind.i64.wrap ((env.length:Int)-1)=(env.length:Int)-1:=wI;simp[hw0];refine fP gz hp (λj:Nat=>j<=env.length/\fi (λb:fF × gU=>decide (b.1=x)) j (env.reverse.drop j)=fi (λb:fF × gU=>decide (b.1=x)) 0 env.reverse) (λj=>[(5,.c (.d (.int .i64 ((env.length:Int)-1-j)))),(1,.c (.d (.str x))),(0,.c (.d (.sl false 5 (env.map il))))]) (λ_=>[]) (λj=>env.length-j) 0 [] ⟨by simp,by simp⟩ (by simp) λj ⟨h1,h2⟩=>?_;unfold VZ;have hw:=wI (n:=(env.length:Int)-1-j-1);simp;apply gN<;>intro h
 ·have hj:j<env.length:=by simp at h;omega
  have hj2:j<env.reverse.length:=by simpa using hj
  rw[aG hj2,fi,getElem_reverse]at h2;obtain⟨k,hk⟩:∃k,env.length-1-j=k:=⟨_,rfl⟩
  have hkl:k<env.length:=by omega
  have hki:(env.length:Int)-1-j=(k:Int):=by omega
  simp only[hk]at h2;rw[hki]at hw;obtain⟨v,hv⟩:∃v,env[k]=v:=⟨_,rfl⟩
  have hg:env[env.length-1-j]?=some v:=by rw[hk,aA hkl,hv]
  have hg2:env[k]?=some v:=by rw[aA hkl,hv]
  have hjl:(j:Int)<=(env.length:Int)-1:=by omega
  rw[hv]at h2;simp[hki,hg,hg2,hjl,hk];by_cases q:v.1=x
  ·rw[aC (by simpa using q)]at h2;rw[<-h2]at hR;have hR:(if(j:Int)<0 then -1 else(env.length:Int)-1-j)=R:=hR;rw[aB (by omega)]at hR;simp[q];omega
  ·rw[aB (by simpa using q)]at h2;simp[q];refine fG (j+1) [] ⟨by omega,h2⟩ (by omega) ?_;simp[hw];omega
 ·have hj:j=env.length:=by simp at h;omega
  subst hj;rw[bH (by simp),fi]at h2;rw[<-h2]at hR;simp at hR;simp[hR]
@[simp] theorem jZ.enc_g3(d:jZ)(h:3<d.enc.length):d.enc[3]=.str d.param:=rfl
@[simp] theorem jZ.enc_g4(d:jZ)(h:4<d.enc.length):d.enc[4]=.sl false 4 (d.types.map gU.enc):=rfl
structure Bh (d:jZ):Prop where
 types:d.types.length=2
 vars:d.vars.length<=1000000
structure kD (L:iQ) (e:jF):Prop where
 m0:0<=e.module
 m1:e.module<L.mods.length
 d0:0<=e.decl
 d1:e.decl<(L.mods.getD e.module.toNat o9).decs.length
structure oH (L:iQ):Prop where
 few:L.mods.length<=16
 names:L.names.length=L.mods.length
 scopes:L.scopes.length=L.mods.length
 decs:∀m,m∈L.mods->∀d,d∈m.decs->Bh d
 ents:∀sc,sc∈L.scopes->∀e,e∈sc->kD L e
theorem Fv{L:iQ}(hL:oH L){m k:Int}(h:kD L ⟨bs [],m,k⟩):∃(mn kn:Nat) (M:jW),m=mn/\k=kn/\L.mods[mn]?=some M/\M.decs[kn]?=some (vX L m k)/\Bh (vX L m k):=by
 obtain⟨a1,a2,a3,a4⟩:=h;simp only at a1 a2 a3 a4;obtain⟨g1,g2⟩:=getD_in L.mods o9 (z:=m) (n:=L.mods.length) rfl a1 a2;obtain⟨g3,g4⟩:=getD_in (L.mods.getD m.toNat o9).decs Bb (z:=k) rfl a3 a4;exact⟨m.toNat,k.toNat,_,by omega,by omega,g1,g3,hL.decs _ g2 _ g4⟩
theorem NW{l:List gU}(h:l.length=2):∃a b,l=[a,b]:=by
 match l,h with
 |[a,b],_=>exact⟨a,b,rfl⟩
section
variable (L:iQ)
theorem zIr(hL:oH L)(e:jF)(he:kD L ⟨bs [],e.module,e.decl⟩)(l:List gU)(hl:l.length<=1000000)(s:CS):
  MCall Pg 164 [.c (.ptr 0 0),.ag (e.enc.map .d),.c (.d (.sl false 4 (l.map gU.enc)))] (rE L s) (.tup [.ag ((tO L e l).1.enc.map .d),.c (.d (.bool (tO L e l).2))]) (rE L s):=by
 refine zyD mD λts hts ok hb c hN hp=>?_;obtain⟨t,u,v,w,x,y,rfl⟩:=mZ hts;obtain⟨mn,kn,M,e1,e2,g1,g2,hd⟩:=Fv hL he;unfold tO;simp only;generalize vX L e.module e.decl=d at*
 obtain⟨ta,tb,hty⟩:=NW hd.types;have e3:d.types.getD 0 noT=ta:=by rw[hty];try rfl
 have e4:d.types.getD 1 noT=tb:=by rw[hty];try rfl
 rw[e3,e4];have hv:=WR d hd.vars;have r1:=NS (d.vars.map (·.1)) l hl ta;have r2:=NS (d.vars.map (·.1)) l hl tb;generalize qy ta (d.vars.map (·.1)) l=a at*
 generalize qy tb (d.vars.map (·.1)) l=b at*
 have hn:gY Pg 76 [.agg [.int .i64 6,.str (bs []),.sl true 1 [],.sl true 4 [a.1.enc,b.1.enc]]] (.tup [.agg (mO (kR a.1 b.1)).1.enc,.one (.int .i64 (mO (kR a.1 b.1)).2)]):=gY.erd (Ae (kR a.1 b.1)) (by simp[kR,tX,DV.erds,DV.erd,D.erdL,D.erd,D.erdE,encS]);generalize mO (kR a.1 b.1)=r at*
 unfold Vb;simp[e1,e2,g1,g2];refine⟨by decide,?_⟩;refine gT hv ?_;simp[hty];refine gP [] r1 ?_;simp[hty];refine gP [] r2 ?_;simp;refine gT hn ?_;by_cases q1:a.2=0
 ·by_cases q2:b.2=0
  ·by_cases q3:r.2=0
   ·simp[q1,q2,q3];exact fJ [0,1,2,3,4,5] [6,7,8,9,10,11] (by simp[q1,q2,q3,AV.erds,AV.erd])
   ·simp[q1,q2,q3];exact fJ [0,1,2,3,4,5] [6,7,8,9,10,11] (by simp[q1,q2,q3,AV.erds,AV.erd])
  ·simp[q1,q2];exact fJ [0,1,2,3,4,5] [6,7,8,9,10,11] (by simp[q1,q2,AV.erds,AV.erd])
 ·simp[q1];exact fJ [0,1,2,3,4,5] [6,7,8,9,10,11] (by simp[q1,AV.erds,AV.erd])
end
end Go.Gr
namespace Go.Gr
open Go.Abs Go.Proofs
structure lJ (L:iQ) (s:CS) (b:Nat):Prop where
 wth:s.wth.length<=1000000
 sites:s.sites.length+b<=1000000000
 tab:s.tab.length<=256
 m0:0<=s.module
 m1:s.module<L.mods.length
 few:s.funs.length<=1000/\s.bad.length<=1000
 ist:∀x,x∈s.tab->kD L ⟨bs [],x.module,x.decl⟩/\x.types.length<=1000000
structure sG (env:Env) (b:Nat):Prop where
 len:env.length+b<=1000000
 wf:∀v,v∈env->jK v.2
theorem vo{L:iQ}{s:CS}{b:Nat}(h:lJ L s b)(ln cl e:Int):lJ L (lI ln cl e s) b:=by
 unfold lI;split
 ·exact⟨h.wth,h.sites,h.tab,h.m0,h.m1,h.few,h.ist⟩
 ·exact h
theorem lJ.less{L:iQ}{s:CS}{b c:Nat}(h:lJ L s b)(k:c<=b):lJ L s c:=⟨h.wth,by have:=h.sites;omega,h.tab,h.m0,h.m1,h.few,h.ist⟩
theorem sG.less{env:Env}{b c:Nat}(h:sG env b)(k:c<=b):sG env c:=⟨by have:=h.len;omega,h.wf⟩
theorem sG.more{env:Env}{b:Nat}(h:sG env (b+1))(x:fF){t:gU}(ht:jK t):sG (env++[(x,t)]) b:=⟨by have:=h.len;simp;omega,λv hv=>by
 rcases aK.1 hv with hv|hv
 ·exact h.wf v hv
 ·simp at hv;subst hv;exact ht⟩
theorem zB2(t:gU)(vs:List fF)(w:List gU):jK (qy t vs w).1:=by
 unfold qy;split
 ·exact rU
 split
 ·exact rU
 split
 ·exact F4 _
 ·exact rU
theorem wZ{L:iQ}{s:CS}{b:Nat}(h:lJ L s b)(t:gU)(ln cl:Int):lJ L (kC t ln cl s).2 b/\jK (kC t ln cl s).1:=by
 refine⟨?_,zB2 _ _ _⟩;unfold kC;simp only;split
 ·exact vo h _ _ _
 ·exact h
theorem Fw{L:iQ}{s:CS}{b:Nat}(h:lJ L s b)(t:gU)(ln cl:Int):lJ L (pX t ln cl s).2 b/\jK (pX t ln cl s).1:=by
 refine⟨?_,F4 _⟩;unfold pX;simp only;split
 ·exact vo h _ _ _
 ·exact h
theorem EN{L:iQ}{s:CS}{b:Nat}(h:lJ L s (b+1))(z:gy)(t u:gU)(ln cl:Int):lJ L (mP z t u ln cl s).2 b:=by
 unfold mP;split
 ·exact h.less (by omega)
 ·exact⟨h.wth,by have:=h.sites;simp;omega,h.tab,h.m0,h.m1,h.few,h.ist⟩
theorem xg{L:iQ}{s:CS}{b:Nat}(h:lJ L s (b+1))(z:gy)(t u:gU)(ln cl:Int):lJ L (lF z t u ln cl s).2 b:=by
 unfold lF;split
 ·exact h.less (by omega)
 split
 ·exact h.less (by omega)
 split
 ·exact EN h _ _ _ _ _
 ·exact vo (h.less (by omega)) _ _ _
theorem JC{l:List kX}(h:l.length<=256)(x:kX):(ku 256 l x).2.length<=256:=by
 unfold ku;split
 ·exact h
 split
 ·exact h
 split
 ·exact h
 ·simp;omega
theorem NY{m:Int}{l:List kX}{x y:kX}(h:y∈(ku m l x).2):y∈l\/y=x:=by
 unfold ku at h;split at h
 ·exact .inl h
 split at h
 ·exact .inl h
 split at h
 ·exact .inl h
 ·rcases aK.1 h with h|h
  ·exact .inl h
  ·exact .inr (by simpa using h)
theorem WS{L:iQ}{s:CS}{b:Nat}(h:lJ L s b)(ln cl:Int)(e:jF)(l:List gU)(he:kD L ⟨bs [],e.module,e.decl⟩)(hl:l.length<=1000000):lJ L (tQ L ln cl e l s).2 b/\jK (tQ L ln cl e l s).1.2:=by
 unfold tQ;by_cases q:(tO L e l).2=false
 ·rw[aC q];exact⟨vo h _ _ _,rU⟩
 ·rw[aB q];simp only;have h2:lJ L {s with tab:=(ku 256 s.tab ⟨e.module,e.decl,l⟩).2} b:=⟨h.wth,h.sites,JC h.tab _,h.m0,h.m1,h.few,λx hx=>by
   rcases NY hx with hx|hx
   ·exact h.ist x hx
   ·subst hx;exact⟨he,hl⟩⟩
  refine⟨?_,F4 _⟩;split
  ·exact vo h2 _ _ _
  ·exact h2
section
variable (L:iQ)
theorem WU(hL:oH L)(n:gq)(e:jF)(he:kD L ⟨bs [],e.module,e.decl⟩)(l:List gU)(hl:l.length<=1000000)(s:CS)(ht:s.tab.length<=256):
  MCall Pg 135 [.c (.ptr 0 0),.ag (n.enc.map .d),.ag (e.enc.map .d),.c (.d (.sl false 4 (l.map gU.enc)))] (rE L s) (.tup [.ag ((tQ L n.line n.col e l s).1.1.enc.map .d),.ag ((tQ L n.line n.col e l s).1.2.enc.map .d)]) (JB L (tQ L n.line n.col e l s).2):=by
 refine zBG mD λts hts ok hb c hN hp=>?_;obtain⟨t,u,v,w,x,y,rfl⟩:=mZ hts;have hs:=zIr L hL e he l hl s;have hf:=vM L n 9 s;have ha:=WN 256 s.tab (by omega) ⟨e.module,e.decl,l⟩ hl;have hb0:=lH 0;unfold tQ;generalize tO L e l=g at*
 unfold Vd;simp;refine gP [0,1,2,3,4,5] hs ?_;by_cases g0:g.2=false
 ·rw[aC g0];simp[g0];refine gP [0,1,2,3,4,5] hf ?_;simp;refine gT hb0 ?_;simp;exact fJ [0,1,2,9,4,11,3,5] [6,7,8,9,10,11] (by simp[noC,cN,yn,vg,nR,encI,encS,AV.erds,AV.erd])
 ·rw[aB g0];simp only;generalize hr:ku 256 s.tab ⟨e.module,e.decl,l⟩=r at*
  have hf2:=vM L n r.1.2 {s with tab:=r.2};rw[Bool.not_eq_false]at g0;simp[g0];refine gQ [1,5] ha (by simp[kX.enc]) ?_;by_cases r0:r.1.2=0
  ·rw[aB (by simp[r0])];simp[r0];refine⟨by decide,by decide,?_⟩;exact fJ [0,1,2,9,4,11,3,15] [6,7,8,9,10,11] (by simp[cN,yn,encI,encS,AV.erds,AV.erd])
  ·rw[aC r0];simp[r0];refine⟨by decide,?_⟩;refine gP [0,1,2,3,4,15] hf2 ?_;simp;refine⟨by decide,?_⟩;exact fJ [0,1,2,9,4,11,3,15] [6,7,8,9,10,11] (by simp[cN,yn,encI,encS,AV.erds,AV.erd])
end
mutual
def iH:gq->Nat
|.mk _ _ _ _ _ _ _ l=>iT l+1
def iT:List gq->Nat
|[]=>0
|n::l=>iH n+iT l
end
theorem qR(n:gq):iH n=iT n.kids+1:=by cases n;rw[iH];try rfl
abbrev Fx(c:gy)(t:gU):AV:=.tup [.ag (c.enc.map .d),.ag (t.enc.map .d)]
abbrev zI2(n:gq)(env:Env):List AV:=[.c (.ptr 0 0),.ag (n.enc.map .d),.c (.d (.sl false 5 (env.map il)))]
section
variable (L:iQ)
def jU(f:FuncId)(n:gq)(i:Inf):Prop:=∀env s b,sG env (iH n)->lJ L s (8*iH n+b)->MCall Pg f (zI2 n env) (rE L s) (Fx (i env s).1.1 (i env s).1.2) (JB L (i env s).2)
def jk(n:gq)(i:Inf):Prop:=∀env s b,sG env (iH n)->lJ L s (8*iH n+b)->lJ L (i env s).2 b/\jK (i env s).1.2
abbrev rV(n:gq)(i:Inf):Prop:=jU L 58 n i/\jk L n i
theorem zJH(n a b:gq)(hk:n.kids=[a,b])(ia ib:Inf)(ha:jk L a ia)(hb:jk L b ib):jk L n (pY n a ia ib):=λenv s k he hs=>by
 have hn:iH n=iH a+iH b+1:=by rw[qR,hk];simp[iT]
 have h1:=ha env s (1+8*iH b+k) (he.less (by omega)) (hs.less (by omega));unfold pY;simp only;by_cases q:0<n.types.length/\(ia env s).2.e=0
 ·rw[aC q];have h2:=wZ h1.1 (n.types.getD 0 noT) n.line n.col;have h3:=xg (b:=8*iH b+k) (h2.1.less (by omega)) (ia env s).1.1 (ia env s).1.2 (kC (n.types.getD 0 noT) n.line n.col (ia env s).2).1 a.line a.col;exact hb _ _ k ((he.less (c:=iH b+1) (by omega)).more _ h2.2) h3
 ·rw[aB q];exact hb _ _ k ((he.less (c:=iH b+1) (by omega)).more _ h1.2) (h1.1.less (by omega))
theorem zId(n a b:gq)(hk:n.kids=[a,b])(ia ib:Inf)(ha:rV L a ia)(hb:rV L b ib):jU L 82 n (pY n a ia ib):=λenv s k he hs=>by
 refine zFB mD λts hts ok hbk c hN hp=>?_;obtain⟨t,u,v,w,x,y,rfl⟩:=mZ hts;have hn:iH n=iH a+iH b+1:=by rw[qR,hk];simp[iT]
 have m1:=ha.1 env s (1+8*iH b+k) (he.less (by omega)) (hs.less (by omega));have p1:=ha.2 env s (1+8*iH b+k) (he.less (by omega)) (hs.less (by omega));unfold pY;simp only;generalize ia env s=r1 at*
 have hel:=he.len;unfold Vg;simp[hk];refine gP [0,1,2,3,4,5] m1 ?_;by_cases q:0<n.types.length/\r1.2.e=0
 ·rw[aC q];obtain⟨q1,q2⟩:=q;have q1':(0:Int)<n.types.length:=by omega
  obtain⟨ta,tr,hty⟩:∃ta tr,n.types=ta::tr:=by
   match h:n.types,q1 with
   |ta::tr,_=>exact⟨ta,tr,rfl⟩
  have e3:n.types.getD 0 noT=ta:=by rw[hty];try rfl
  rw[e3];have m2:=DF L ta n.line n.col r1.2 p1.1.wth;have p2:=wZ p1.1 ta n.line n.col;generalize kC ta n.line n.col r1.2=r2 at*
  have m3:=yo L r1.1.1 r1.1.2 r2.1 a r2.2 (by have:=p2.1.sites;omega);have p3:=xg (b:=8*iH b+k) (p2.1.less (by omega)) r1.1.1 r1.1.2 r2.1 a.line a.col;generalize lF r1.1.1 r1.1.2 r2.1 a.line a.col r2.2=r3 at*
  have hwi:=NU env (by omega) n.text r2.1;have m4:=hb.1 (env++[(n.text,r2.1)]) r3.2 k ((he.less (c:=iH b+1) (by omega)).more _ p2.2) p3;simp only;generalize ib (env++[(n.text,r2.1)]) r3.2=r4 at*
  simp[q1,q1',q2];simp[hty];refine gQ [0,1,2,14,4,15] m2 (by simp[q2]) ?_;simp[hk];refine⟨by decide,?_⟩;refine gP [0,1,2,14,4,15] m3 ?_;simp[hk];refine⟨by decide,?_⟩;refine gT hwi ?_;simp;refine gP [0,1,2,19,4,15] m4 ?_;simp;refine⟨by decide,by decide,?_⟩;exact fJ [0,1,2,9,4,11,20,21] [6,7,8,9,10,11] (by simp[cK,yn,encI,encS,AV.erds,AV.erd])
 ·rw[aB q];have hwi:=NU env (by omega) n.text r1.1.2;have m4:=hb.1 (env++[(n.text,r1.1.2)]) r1.2 k ((he.less (c:=iH b+1) (by omega)).more _ p1.2) (p1.1.less (by omega));generalize ib (env++[(n.text,r1.1.2)]) r1.2=r4 at*
  by_cases q1:0<n.types.length
  ·have q2:¬r1.2.e=0:=λz=>q ⟨q1,z⟩;have q1':(0:Int)<n.types.length:=by omega
   simp[q1,q1',q2,hk];refine gT hwi ?_;simp;refine gP [0,1,2,14,4,15] m4 ?_;simp;refine⟨by decide,by decide,?_⟩;exact fJ [0,1,2,9,4,11,18,19] [6,7,8,9,10,11] (by simp[cK,yn,encI,encS,AV.erds,AV.erd])
  ·have q1':¬(0:Int)<n.types.length:=by omega
   simp[q1,q1',hk];refine gT hwi ?_;simp;refine gP [0,1,2,14,4,15] m4 ?_;simp;refine⟨by decide,by decide,?_⟩;exact fJ [0,1,2,9,4,11,18,19] [6,7,8,9,10,11] (by simp[cK,yn,encI,encS,AV.erds,AV.erd])
end
end Go.Gr
namespace Go.Abs
theorem MCall.erd{P:Program}{f:FuncId}{args args':List AV}{bs:List Blk}{v:AV}{bs':List Blk}(hp:MCall P f args' bs v bs')(e:AV.erds args=args'):MCall P f args bs v bs':=by
 subst e;exact⟨hp.1,hp.2.1,hp.2.2.1,hp.2.2.2.1,hp.2.2.2.2.1,λh ρ w us H hG r=>hp.2.2.2.2.2 h ρ w us H hG (zai.erds r)⟩
end Go.Abs
namespace Go.Gr
open Go.Abs Go.Proofs
@[simp] theorem AV.erd_ag(l:List D):AV.erd (.ag (l.map .d))=.ag ((D.erdL l).map .d):=by
 induction l with
 |nil=>rfl
 |cons x l ih=>
  simp only[AV.erd,AV.ag.injEq,List.map_cons,D.erdL,bn]at ih⊢;rw[dX];exact⟨rfl,ih⟩
attribute [simp] gU.erdLL
section
variable (L:iQ)
theorem DJ(n:gq)(i:Inf)(hi:jk L n i)(t0:gU)(env:Env)(s:CS)(k:Nat)(he:sG env (iH n))(hs:lJ L s (8*iH n+1+k)):lJ L (nQ n i t0 env s).2 k:=by
 have h1:=hi env s (1+k) (he.less (by omega)) (hs.less (by omega));unfold nQ;exact xg (h1.1.less (by omega)) _ _ _ _ _
theorem zb(n:gq)(i:Inf)(hi:rV L n i)(t0:gU)(env:Env)(s:CS)(k:Nat)(he:sG env (iH n))(hs:lJ L s (8*iH n+1+k)):
  MCall Pg 140 [.c (.ptr 0 0),.ag (n.enc.map .d),.c (.d (.sl false 5 (env.map il))),.ag (t0.enc.map .d)] (rE L s) (.ag ((nQ n i t0 env s).1.enc.map .d)) (JB L (nQ n i t0 env s).2):=by
 refine zEc mD λts hts ok hbk c hN hp=>?_;obtain⟨t,u,v,w,x,y,rfl⟩:=mZ hts;have m1:=hi.1 env s (1+k) (he.less (by omega)) (hs.less (by omega));have p1:=hi.2 env s (1+k) (he.less (by omega)) (hs.less (by omega));unfold nQ;simp only;generalize i env s=r1 at*
 have m2:=yo L r1.1.1 r1.1.2 t0 n r1.2 (by have:=p1.1.sites;omega);generalize lF r1.1.1 r1.1.2 t0 n.line n.col r1.2=r2 at*
 unfold Vr;simp;refine gP [0,1,2,3,4,5] m1 ?_;simp;refine gP [0,1,2,13,4,14] m2 ?_;simp;exact fK [0,1,2,9,4,11,17,14] [6,7,8,9,10,11]
theorem NZ(n a:gq)(hk:n.kids=[a])(ia:Inf)(ha:jk L a ia):jk L n (xW n a ia):=λenv s k he hs=>by
 have hn:iH n=iH a+1:=by rw[qR,hk];simp[iT]
 have h1:=wZ (b:=8*iH a+1+k) (hs.less (by omega)) (n.types.getD 0 noT) n.line n.col;unfold xW;simp only;have h2:lJ L (if 1<n.types.length/\(kC (n.types.getD 0 noT) n.line n.col s).2.e=0 then kC (n.types.getD 1 noT) n.line n.col (kC (n.types.getD 0 noT) n.line n.col s).2 else(noT,(kC (n.types.getD 0 noT) n.line n.col s).2)).2 (8*iH a+1+k):=by
  split
  ·exact(wZ h1.1 _ _ _).1
  ·exact h1.1
 generalize (if 1<n.types.length/\(kC (n.types.getD 0 noT) n.line n.col s).2.e=0 then kC (n.types.getD 1 noT) n.line n.col (kC (n.types.getD 0 noT) n.line n.col s).2 else(noT,(kC (n.types.getD 0 noT) n.line n.col s).2))=q at*
 have h3:=ha (env++[(n.text,(kC (n.types.getD 0 noT) n.line n.col s).1)]) q.2 (1+k) ((he.less (c:=iH a+1) (by omega)).more _ h1.2) (h2.less (by omega));refine(Fw ?_ _ _ _);split
 ·exact xg (h3.1.less (by omega)) _ _ _ _ _
 ·exact h3.1.less (by omega)
theorem zI3(n a:gq)(hk:n.kids=[a])(hty0:1<=n.types.length)(ia:Inf)(ha:rV L a ia):jU L 83 n (xW n a ia):=λenv s k he hs=>by
 refine zHe mD λts hts ok hbk c hN hp=>?_;obtain⟨t,u,v,w,x,y,rfl⟩:=mZ hts;have hn:iH n=iH a+1:=by rw[qR,hk];simp[iT]
 have hel:=he.len;have hb0:=lH 0;obtain⟨ta,tr,hty⟩:∃ta tr,n.types=ta::tr:=by
  match h:n.types,hty0 with
  |ta::tr,_=>exact⟨ta,tr,rfl⟩
 have e3:n.types.getD 0 noT=ta:=by rw[hty];try rfl
 unfold xW;simp only;rw[e3];have m1:=DF L ta n.line n.col s hs.wth;have p1:=wZ (b:=8*iH a+1+k) (hs.less (by omega)) ta n.line n.col;generalize kC ta n.line n.col s=r1 at*
 have hwi:=NU env (by omega) n.text r1.1;have heo:sG (env++[(n.text,r1.1)]) (iH a):=(he.less (c:=iH a+1) (by omega)).more _ p1.2;unfold Vh;cases tr with
 |nil=>
  have l1:n.types.length=1:=by rw[hty];try rfl
  rw[aB (by omega),aB (by omega)];have m3:=ha.1 (env++[(n.text,r1.1)]) r1.2 (1+k) heo (p1.1.less (by omega));simp only;generalize ia (env++[(n.text,r1.1)]) r1.2=r3 at*
  have m4:=MCall.erd (args:=[.c (.ptr 0 0),.ag [.d (.int .i64 6),.d (.str (bs [])),.d (.sl true 1 []),.d (.sl true 4 [r1.1.enc,r3.1.2.enc])],.ag (n.enc.map .d)]) (DI L (kR r1.1 r3.1.2) n r3.2) (by simp[AV.erds,AV.erd,AC.erd,D.erd,D.erdL,D.erdE,kR,tX,nR,vg,encS]);generalize pX (kR r1.1 r3.1.2) n.line n.col r3.2=r4 at*
  simp[hty];refine gP [0,1,2,3,4,5] m1 ?_;simp;refine⟨by decide,?_⟩;refine gT hb0 ?_;simp[hty,hk];refine gT hwi ?_;simp;refine gP [0,1,2,3,4,5] m3 ?_;simp[hty];refine⟨by decide,?_⟩;refine gP [0,1,2,16,4,17] m4 ?_;simp;refine⟨by decide,?_⟩;exact fK [0,1,2,9,4,11,16,17] [6,7,8,9,10,11]
 | cons tb tr=>
  have l1:1<n.types.length:=by rw[hty];simp
  have l1':(1:Int)<(tr.length:Int)+1+1:=by omega
  have e4:n.types.getD 1 noT=tb:=by rw[hty];try rfl
  rw[e4,aC l1];by_cases q2:r1.2.e=0
  ·rw[aC ⟨l1,q2⟩];have m2:=DF L tb n.line n.col r1.2 p1.1.wth;have p2:=wZ p1.1 tb n.line n.col;generalize kC tb n.line n.col r1.2=r2 at*
   have m3:=ha.1 (env++[(n.text,r1.1)]) r2.2 (1+k) heo (p2.1.less (by omega));have p3:=ha.2 (env++[(n.text,r1.1)]) r2.2 (1+k) heo (p2.1.less (by omega));generalize ia (env++[(n.text,r1.1)]) r2.2=r3 at*
   have m4:=yo L r3.1.1 r3.1.2 r2.1 a r3.2 (by have:=p3.1.sites;omega);generalize lF r3.1.1 r3.1.2 r2.1 a.line a.col r3.2=r4 at*
   have m5:=MCall.erd (args:=[.c (.ptr 0 0),.ag [.d (.int .i64 6),.d (.str (bs [])),.d (.sl true 1 []),.d (.sl true 4 [r1.1.enc,r2.1.enc])],.ag (n.enc.map .d)]) (DI L (kR r1.1 r2.1) n r4.2) (by simp[AV.erds,AV.erd,AC.erd,D.erd,D.erdL,D.erdE,kR,tX,nR,vg,encS]);simp only;generalize pX (kR r1.1 r2.1) n.line n.col r4.2=r5 at*
   simp[hty];refine gP [0,1,2,3,4,5] m1 ?_;simp;refine⟨by decide,?_⟩;refine gT hb0 ?_;simp[hty,q2,l1'];refine gQ [0,1,2,3,4,5] m2 (by simp[q2]) ?_;simp[hk];refine⟨by decide,?_⟩;refine gT hwi ?_;simp;refine gP [0,1,2,3,4,5] m3 ?_;simp[hty,l1',hk];refine⟨by decide,?_⟩;refine gP [0,1,2,16,4,17] m4 ?_;simp;refine⟨by decide,?_⟩;refine gP [0,1,2,20,4,17] m5 ?_;simp;refine⟨by decide,?_⟩;exact fK [0,1,2,9,4,11,20,17] [6,7,8,9,10,11]
  ·rw[aB (λz=>q2 z.2)];have m3:=ha.1 (env++[(n.text,r1.1)]) r1.2 (1+k) heo (p1.1.less (by omega));have p3:=ha.2 (env++[(n.text,r1.1)]) r1.2 (1+k) heo (p1.1.less (by omega));generalize ia (env++[(n.text,r1.1)]) r1.2=r3 at*
   have m4:=MCall.erd (args:=[.c (.ptr 0 0),.ag (r3.1.1.enc.map .d),.ag (r3.1.2.enc.map .d),.ag (noT.enc.map .d),.ag (a.enc.map .d)]) (yo L r3.1.1 r3.1.2 noT a r3.2 (by have:=p3.1.sites;omega)) (by simp[AV.erds,AV.erd,AC.erd,D.erd,D.erdL,D.erdE,kR,tX,nR,vg,encS]);generalize lF r3.1.1 r3.1.2 noT a.line a.col r3.2=r4 at*
   have m5:=MCall.erd (args:=[.c (.ptr 0 0),.ag [.d (.int .i64 6),.d (.str (bs [])),.d (.sl true 1 []),.d (.sl true 4 [r1.1.enc,noT.enc])],.ag (n.enc.map .d)]) (DI L (kR r1.1 noT) n r4.2) (by simp[AV.erds,AV.erd,AC.erd,D.erd,D.erdL,D.erdE,kR,tX,nR,vg,encS]);simp only;generalize pX (kR r1.1 noT) n.line n.col r4.2=r5 at*
   simp[hty];refine gP [0,1,2,3,4,5] m1 ?_;simp;refine⟨by decide,?_⟩;refine gT hb0 ?_;simp[hty,q2,l1',hk];refine gT hwi ?_;simp;refine gP [0,1,2,3,4,5] m3 ?_;simp[hty,l1',hk];refine⟨by decide,?_⟩;refine gQ [0,1,2,16,4,17] m4 (by simp[noT,bT]) ?_;simp;refine⟨by decide,?_⟩;refine gQ [0,1,2,20,4,17] m5 (by simp[noT,bT]) ?_;simp;refine⟨by decide,?_⟩;exact fK [0,1,2,9,4,11,20,17] [6,7,8,9,10,11]
theorem N7{L:iQ}{b:Nat}(t0:gU)(h0:jK t0)(ln cl:Int)(r:(gy × gU) × CS)(hs:lJ L r.2 (b+1))(ht:jK r.1.2):lJ L (kg t0 ln cl r).2 b/\jK (kg t0 ln cl r).1.2:=by
 unfold kg;split
 ·exact⟨EN hs _ _ _ _ _,h0⟩
 ·exact⟨hs.less (by omega),ht⟩
theorem zI4{a b:gU}(ha:jK a)(hb:jK b):jK (kR a b):=(mH _).2 ⟨rfl,λx hx=>by
 have hx:x∈[a,b]:=hx;simp at hx;rcases hx with rfl|rfl
 ·exact ha
 ·exact hb,.inr (.inr (.inl ⟨rfl,rfl,rfl⟩))⟩
theorem zI5(n a b:gq)(hk:n.kids=[a,b])(ia ib:Inf)(ha:jk L a ia)(hb:jk L b ib):jk L n (xX n b ia ib):=λenv s k he hs=>by
 have hn:iH n=iH a+iH b+1:=by rw[qR,hk];simp[iT]
 have h1:=ha env s (2+8*iH b+k) (he.less (by omega)) (hs.less (by omega));have h2:=N7 (b:=8*iH b+1+k) (kR noT noT) (zI4 rU rU) n.line n.col (ia env s) (h1.1.less (by omega)) h1.2;unfold xX;simp only;generalize kg (kR noT noT) n.line n.col (ia env s)=r at*
 by_cases q:r.1.2.kind≠6
 ·rw[aC q];exact⟨vo (h2.1.less (by omega)) _ _ _,rU⟩
 ·rw[aB q];have h3:=hb env r.2 (1+k) (he.less (by omega)) (h2.1.less (by omega));have hl:=EJ h2.2 (by omega);exact⟨xg (h3.1.less (by omega)) _ _ _ _ _,yG h2.2 (Ff hl).1⟩
theorem zG8(n a b:gq)(hk:n.kids=[a,b])(ia ib:Inf)(ha:rV L a ia)(hb:rV L b ib):jU L 84 n (xX n b ia ib):=λenv s k he hs=>by
 refine zEb mD λts hts ok hbk c hN hp=>?_;obtain⟨t,u,v,w,x,y,rfl⟩:=mZ hts;have hn:iH n=iH a+iH b+1:=by rw[qR,hk];simp[iT]
 have hb0:=lH 0;have m1:=ha.1 env s (2+8*iH b+k) (he.less (by omega)) (hs.less (by omega));have p1:=ha.2 env s (2+8*iH b+k) (he.less (by omega)) (hs.less (by omega));unfold xX;simp only;generalize ia env s=r1 at*
 unfold Vi;by_cases t0:r1.1.2.kind=0
 ·have e1:kg (kR noT noT) n.line n.col r1=(((mP r1.1.1 r1.1.2 (kR noT noT) n.line n.col r1.2).1,kR noT noT),(mP r1.1.1 r1.1.2 (kR noT noT) n.line n.col r1.2).2):=by unfold kg;rw[aC t0]
  rw[e1];have m2:=MCall.erd (args:=[.c (.ptr 0 0),.ag (r1.1.1.enc.map .d),.ag (r1.1.2.enc.map .d),.ag [.d (.int .i64 6),.d (.str (bs [])),.d (.sl true 1 []),.d (.sl true 4 [[.int .i64 0,.str (bs []),.sl true 1 [],.sl true 4 []],[.int .i64 0,.str (bs []),.sl true 1 [],.sl true 4 []]])],.ag (n.enc.map .d)]) (EM L r1.1.1 r1.1.2 (kR noT noT) n r1.2 (by have:=p1.1.sites;omega)) (by simp[AV.erds,AV.erd,AC.erd,D.erd,D.erdL,D.erdE,kR,tX,nR,vg,encS]);have p2:=EN (b:=8*iH b+1+k) (p1.1.less (by omega)) r1.1.1 r1.1.2 (kR noT noT) n.line n.col;generalize mP r1.1.1 r1.1.2 (kR noT noT) n.line n.col r1.2=r2 at*
  have m3:=hb.1 env r2.2 (1+k) (he.less (by omega)) (p2.less (by omega));have p3:=hb.2 env r2.2 (1+k) (he.less (by omega)) (p2.less (by omega));simp only;generalize ib env r2.2=r3 at*
  have k6:¬(kR noT noT).kind≠6:=by decide
  rw[aB k6];have kk0:je (kR noT noT)=noT:=rfl;have kk1:jf (kR noT noT)=noT:=rfl;rw[kk0,kk1];have m4:=MCall.erd (args:=[.c (.ptr 0 0),.ag (r3.1.1.enc.map .d),.ag (r3.1.2.enc.map .d),.ag [.d (.int .i64 0),.d (.str (bs [])),.d (.sl true 1 []),.d (.sl true 4 [])],.ag (b.enc.map .d)]) (yo L r3.1.1 r3.1.2 noT b r3.2 (by have:=p3.1.sites;omega)) (by simp[AV.erds,AV.erd,AC.erd,D.erd,D.erdL,D.erdE,kR,tX,nR,vg,encS]);generalize lF r3.1.1 r3.1.2 noT b.line b.col r3.2=r4 at*
  simp[hk];refine gP [0,1,2,3,4,5] m1 ?_;simp[t0];refine gP [0,1,2,14,4,15] m2 ?_;simp[hk];refine gP [0,1,2,19,4,15] m3 ?_;simp[hk];refine gP [0,1,2,20,4,21] m4 ?_;simp;refine⟨by decide,by decide,?_⟩;exact fK [0,1,2,9,4,11,24,21] [6,7,8,9,10,11]
 have e1:kg (kR noT noT) n.line n.col r1=r1:=by unfold kg;rw[aB t0]
 rw[e1];by_cases k6:r1.1.2.kind=6;rotate_left
 ·rw[aC k6];have m2:=vM L n 16 r1.2;generalize lI n.line n.col 16 r1.2=r2 at*
  simp[hk];refine gP [0,1,2,3,4,5] m1 ?_;simp[t0,k6];refine gP [0,1,2,14,4,15] m2 ?_;simp;refine gT hb0 ?_;simp;exact fK [0,1,2,9,4,11,14,15] [6,7,8,9,10,11]
 rw[aB (λz=>z k6)];obtain⟨ta,tb,hty⟩:=NW (EJ p1.2 k6);have kk0:je r1.1.2=ta:=by unfold je;rw[hty];try rfl
 have kk1:jf r1.1.2=tb:=by unfold jf;rw[hty];try rfl
 rw[kk0,kk1];have m3:=hb.1 env r1.2 (1+k) (he.less (by omega)) (p1.1.less (by omega));have p3:=hb.2 env r1.2 (1+k) (he.less (by omega)) (p1.1.less (by omega));generalize ib env r1.2=r3 at*
 have m4:=yo L r3.1.1 r3.1.2 ta b r3.2 (by have:=p3.1.sites;omega);simp only;generalize lF r3.1.1 r3.1.2 ta b.line b.col r3.2=r4 at*
 simp[hk];refine gP [0,1,2,3,4,5] m1 ?_;simp[t0,k6,hk];refine gP [0,1,2,14,4,15] m3 ?_;simp[hty,hk];refine gP [0,1,2,18,4,19] m4 ?_;simp[hty];refine⟨by decide,by decide,?_⟩;exact fK [0,1,2,9,4,11,22,19] [6,7,8,9,10,11]
theorem zJJ(n a:gq)(hk:n.kids=[a])(ia:Inf)(ha:jk L a ia):jk L n (p8 n ia):=λenv s k he hs=>by
 have hn:iH n=iH a+1:=by rw[qR,hk];simp[iT]
 have h1:=ha env s (1+k) (he.less (by omega)) (hs.less (by omega));unfold p8;simp only;generalize ia env s=r at*
 have hf:jK (kM r.1.2 n.text).1:=by
  by_cases q:(kM r.1.2 n.text).2=true
  ·exact yG h1.2 (Ir _ _ _ q)
  ·have:(kM r.1.2 n.text).1=noT:=by
    unfold kM at q⊢;generalize r.1.2.names=ns at*
    generalize r.1.2.kids=ks at*
    clear h1
    induction ns generalizing ks with
    |nil=>rw[oF];all_goals (intros;contradiction)
    | cons x ns ih=>
     cases ks with
     |nil=>rw[oF];all_goals (intros;contradiction)
     |cons y ks=>
      rw[oF]at q⊢;by_cases e:x=n.text
      ·rw[aC e]at q;exact absurd rfl q
      ·rw[aB e]at q⊢;exact ih ks q
   rw[this];exact rU
 refine⟨?_,hf⟩;have h2:lJ L (if r.1.2.kind=0 then mP r.1.1 r.1.2 (.mk 5 (bs []) [n.text] [noT]) n.line n.col r.2 else(r.1.1,r.2)).2 k:=by
  split
  ·exact EN (h1.1.less (by omega)) _ _ _ _ _
  ·exact h1.1.less (by omega)
 split
 ·exact h2
 ·exact vo h2 _ _ _
theorem zIh(n a:gq)(hk:n.kids=[a])(ia:Inf)(ha:rV L a ia):jU L 86 n (p8 n ia):=λenv s k he hs=>by
 refine zFC mD λts hts ok hbk c hN hp=>?_;obtain⟨t,u,v,w,x,y,rfl⟩:=mZ hts;have hn:iH n=iH a+1:=by rw[qR,hk];simp[iT]
 have m1:=ha.1 env s (1+k) (he.less (by omega)) (hs.less (by omega));have p1:=ha.2 env s (1+k) (he.less (by omega)) (hs.less (by omega));unfold p8;simp only;generalize ia env s=r1 at*
 have hf:=Uz r1.1.2 n.text (Mx p1.2);generalize hfr:kM r1.1.2 n.text=f at*
 unfold Vn;by_cases t0:r1.1.2.kind=0
 ·rw[aC t0,aC (.inr t0)];have m2:=MCall.erd (args:=[.c (.ptr 0 0),.ag (r1.1.1.enc.map .d),.ag (r1.1.2.enc.map .d),.ag [.d (.int .i64 5),.d (.str (bs [])),.d (.sl true 1 [[.str n.text]]),.d (.sl true 4 [[.int .i64 0,.str (bs []),.sl true 1 [],.sl true 4 []]])],.ag (n.enc.map .d)]) (EM L r1.1.1 r1.1.2 (.mk 5 (bs []) [n.text] [noT]) n r1.2 (by have:=p1.1.sites;omega)) (by simp[AV.erds,AV.erd,AC.erd,D.erd,D.erdL,D.erdE,kR,tX,nR,vg,encS]);generalize mP r1.1.1 r1.1.2 (.mk 5 (bs []) [n.text] [noT]) n.line n.col r1.2=r2 at*
  simp[hk];refine gP [0,1,2,3,4,5] m1 ?_;simp;refine gT hf ?_;simp[t0];refine gP [0,1,2,14,4,15] m2 ?_;simp;refine⟨by decide,?_⟩;exact fK [0,1,2,9,4,11,20,15] [6,7,8,9,10,11]
 ·rw[aB t0];by_cases f2:f.2=true
  ·rw[aC (.inl f2)];simp[hk];refine gP [0,1,2,3,4,5] m1 ?_;simp;refine gT hf ?_;simp[t0,f2];refine⟨by decide,?_⟩;exact fK [0,1,2,9,4,11,14,15] [6,7,8,9,10,11]
  ·rw[aB (by simp[f2,t0])];have m2:=vM L n 17 r1.2;simp only;generalize lI n.line n.col 17 r1.2=r2 at*
   simp[hk];refine gP [0,1,2,3,4,5] m1 ?_;simp;refine gT hf ?_;simp[t0,f2];refine gP [0,1,2,14,4,15] m2 ?_;simp;refine⟨by decide,?_⟩;exact fK [0,1,2,9,4,11,14,15] [6,7,8,9,10,11]
end
section
variable (L:iQ)
theorem N8(n a:gq)(hk:n.kids=[a])(ia:Inf)(ha:jk L a ia):jk L n (x8 n ia):=λenv s k he hs=>by
 have hn:iH n=iH a+1:=by rw[qR,hk];simp[iT]
 have h1:=ha env s (2+k) (he.less (by omega)) (hs.less (by omega));unfold x8;simp only;generalize ia env s=r at*
 by_cases q1:r.2.e≠0
 ·rw[aC q1];exact⟨h1.1.less (by omega),h1.2⟩
 rw[aB q1];have h2:=wZ h1.1 (n.types.getD 0 noT) n.line n.col;generalize kC (n.types.getD 0 noT) n.line n.col r.2=u at*
 by_cases q2:u.2.e≠0\/pW r.1.2 u.1=true
 ·rw[aC q2];exact⟨h2.1.less (by omega),h2.2⟩
 rw[aB q2];have h3:lJ L (if r.1.2.kind≠0 then mP r.1.1 r.1.2 noT n.line n.col u.2 else(r.1.1,u.2)).2 (1+k):=by
  split
  ·exact EN (h2.1.less (by omega)) _ _ _ _ _
  ·exact h2.1.less (by omega)
 generalize (if r.1.2.kind≠0 then mP r.1.1 r.1.2 noT n.line n.col u.2 else(r.1.1,u.2))=y at*
 split
 ·exact⟨h3.less (by omega),h2.2⟩
 split
 ·exact⟨EN (h3.less (by omega)) _ _ _ _ _,h2.2⟩
 ·exact⟨h3.less (by omega),h2.2⟩
@[simp] theorem gy.enc_1(c:gy):c.enc[1]?=some (.int .i64 c.n):=by rw[c.enc_eq];try rfl
@[simp] theorem gy.enc_g1(c:gy)(h:1<c.enc.length):c.enc[1]=.int .i64 c.n:=Ao c.enc_1 h
theorem zIN(n a:gq)(hk:n.kids=[a])(hty0:1<=n.types.length)(ia:Inf)(ha:rV L a ia):jU L 89 n (x8 n ia):=λenv s k he hs=>by
 refine zHf mD λts hts ok hbk c hN hp=>?_;obtain⟨t,u,v,w,x,y,rfl⟩:=mZ hts;have hn:iH n=iH a+1:=by rw[qR,hk];simp[iT]
 have hb0:=lH 0;obtain⟨ta,tr,hty⟩:∃ta tr,n.types=ta::tr:=by
  match h:n.types,hty0 with
  |ta::tr,_=>exact⟨ta,tr,rfl⟩
 have e3:n.types.getD 0 noT=ta:=by rw[hty];try rfl
 have m1:=ha.1 env s (2+k) (he.less (by omega)) (hs.less (by omega));have p1:=ha.2 env s (2+k) (he.less (by omega)) (hs.less (by omega));unfold x8;simp only;rw[e3];generalize ia env s=r1 at*
 unfold Vq;by_cases q1:r1.2.e=0;rotate_left
 ·rw[aC q1];simp[hk];refine gP [0,1,2,3,4,5] m1 ?_;simp[q1];refine⟨by decide,?_⟩;exact fK [0,1,2,9,4,11,14,15] [6,7,8,9,10,11]
 rw[aB (by simp[q1])];have m2:=DF L ta n.line n.col r1.2 p1.1.wth;have p2:=wZ p1.1 ta n.line n.col;generalize kC ta n.line n.col r1.2=r2 at*
 have hsb:=Fg r1.1.2 r2.1;by_cases q2:r2.2.e=0;rotate_left
 ·rw[aC (.inl q2)];simp[hk];refine gP [0,1,2,3,4,5] m1 ?_;simp[q1,hty];refine gQ [0,1,2,14,4,15] m2 (by simp[q1]) ?_;simp[q2];refine⟨by decide,by decide,?_⟩;exact fK [0,1,2,9,4,11,14,15] [6,7,8,9,10,11]
 by_cases q3:pW r1.1.2 r2.1=true
 ·rw[aC (.inr q3)];simp[hk];refine gP [0,1,2,3,4,5] m1 ?_;simp[q1,hty];refine gQ [0,1,2,14,4,15] m2 (by simp[q1]) ?_;simp[q2];refine⟨by decide,?_⟩;refine gT hsb ?_;simp[q3];refine⟨by decide,?_⟩;exact fJ [0,1,2,9,4,11,14,15] [6,7,8,9,10,11] (by simp[q2,cK,cN,cT,yn,tX,kR,vg,nR,noC,encI,encS,AV.erds,AV.erd,D.erdL,D.erd,D.erdE,je,jf])
 rw[aB (by simp[q2,q3])];by_cases t0:r1.1.2.kind=0
 ·have ty0:(if r1.1.2.kind≠0 then mP r1.1.1 r1.1.2 noT n.line n.col r2.2 else(r1.1.1,r2.2))=(r1.1.1,r2.2):=aB (λz=>z t0);rw[ty0];by_cases u0:r2.1.kind=0
  ·rw[aC u0];simp[hk];refine gP [0,1,2,3,4,5] m1 ?_;simp[q1,hty];refine gQ [0,1,2,14,4,15] m2 (by simp[q1]) ?_;simp[q2];refine⟨by decide,?_⟩;refine gT hsb ?_;simp[q3,t0,u0];refine⟨by decide,?_⟩;exact fJ [0,1,2,9,4,11,14,15] [6,7,8,9,10,11] (by simp[q2,cK,cN,cT,yn,tX,kR,vg,nR,noC,encI,encS,AV.erds,AV.erd,D.erdL,D.erd,D.erdE,je,jf])
  ·rw[aB u0,aC t0];have m3:=EM L r1.1.1 r1.1.2 r2.1 n r2.2 (by have:=p2.1.sites;omega);simp only;generalize mP r1.1.1 r1.1.2 r2.1 n.line n.col r2.2=r3 at*
   simp[hk];refine gP [0,1,2,3,4,5] m1 ?_;simp[q1,hty];refine gQ [0,1,2,14,4,15] m2 (by simp[q1]) ?_;simp[q2];refine⟨by decide,?_⟩;refine gT hsb ?_;simp[q3,t0,u0];refine gQ [0,1,2,14,4,15] m3 (by simp[q2,t0]) ?_;simp;refine⟨by decide,?_⟩;exact fK [0,1,2,9,4,11,20,15] [6,7,8,9,10,11]
 ·have ty0:(if r1.1.2.kind≠0 then mP r1.1.1 r1.1.2 noT n.line n.col r2.2 else(r1.1.1,r2.2))=mP r1.1.1 r1.1.2 noT n.line n.col r2.2:=aC t0;rw[ty0];have m3:=EM L r1.1.1 r1.1.2 noT n r2.2 (by have:=p2.1.sites;omega);generalize mP r1.1.1 r1.1.2 noT n.line n.col r2.2=r3 at*
  by_cases u0:r2.1.kind=0
  ·rw[aC u0];simp[hk];refine gP [0,1,2,3,4,5] m1 ?_;simp[q1,hty];refine gQ [0,1,2,14,4,15] m2 (by simp[q1]) ?_;simp[q2];refine⟨by decide,?_⟩;refine gT hsb ?_;simp[q3,t0];refine gT hb0 ?_;simp;refine gQ [0,1,2,14,4,15] m3 (by simp[q2,noT,bT]) ?_;simp[u0];refine⟨by decide,by decide,?_⟩;exact fK [0,1,2,9,4,11,20,15] [6,7,8,9,10,11]
  ·rw[aB u0,aB t0];simp[hk];refine gP [0,1,2,3,4,5] m1 ?_;simp[q1,hty];refine gQ [0,1,2,14,4,15] m2 (by simp[q1]) ?_;simp[q2];refine⟨by decide,?_⟩;refine gT hsb ?_;simp[q3,t0];refine gT hb0 ?_;simp;refine gQ [0,1,2,14,4,15] m3 (by simp[q2,noT,bT]) ?_;simp[u0,t0];refine⟨by decide,by decide,?_⟩;exact fK [0,1,2,9,4,11,20,15] [6,7,8,9,10,11]
theorem zJw(n a:gq)(hk:n.kids=[a])(ia:Inf)(ha:jk L a ia):jk L n (p9 n a ia):=λenv s k he hs=>by
 have hn:iH n=iH a+1:=by rw[qR,hk];simp[iT]
 have h1:=ha env s k (he.less (by omega)) (hs.less (by omega));have hw:=λt0=>DJ L a ia ha t0 env s k (he.less (by omega)) (hs.less (by omega));unfold p9;split
 ·exact⟨hw _,vk 2 (by omega) (by omega)⟩
 split
 ·exact⟨hw _,vk 3 (by omega) (by omega)⟩
 split
 ·exact⟨h1.1,vk 2 (by omega) (by omega)⟩
 ·exact⟨h1.1,vk 1 (by omega) (by omega)⟩
theorem zH2(n a:gq)(hk:n.kids=[a])(ia:Inf)(ha:rV L a ia):jU L 91 n (p9 n a ia):=λenv s k he hs=>by
 refine zFD mD λts hts ok hbk c hN hp=>?_;obtain⟨t,u,v,w,x,y,rfl⟩:=mZ hts;have hn:iH n=iH a+1:=by rw[qR,hk];simp[iT]
 unfold p9;unfold Vu;by_cases k15:n.kind=15
 ·rw[aC k15];have m1:=zb L a ia ha (bT 2) env s k (he.less (by omega)) (hs.less (by omega));simp only;generalize nQ a ia (bT 2) env s=r1 at*
  simp[k15,hk];refine gT (lH 2) ?_;simp;refine gP [0,1,2,3,4,5] m1 ?_;simp;refine⟨by decide,?_⟩;refine gT (lH 2) ?_;simp;refine⟨by decide,?_⟩;exact fK [0,1,2,9,4,11,14,15] [6,7,8,9,10,11]
 rw[aB k15];by_cases k16:n.kind=16
 ·rw[aC k16];have m1:=zb L a ia ha (bT 3) env s k (he.less (by omega)) (hs.less (by omega));simp only;generalize nQ a ia (bT 3) env s=r1 at*
  simp[k16,hk];refine gT (lH 3) ?_;simp;refine gP [0,1,2,3,4,5] m1 ?_;simp;refine⟨by decide,?_⟩;refine gT (lH 3) ?_;simp;refine⟨by decide,?_⟩;exact fK [0,1,2,9,4,11,14,15] [6,7,8,9,10,11]
 rw[aB k16];have m1:=ha.1 env s k (he.less (by omega)) (hs.less (by omega));generalize ia env s=r1 at*
 by_cases k12:n.kind=12
 ·rw[aC k12];simp[k12,hk];refine gP [0,1,2,3,4,5] m1 ?_;simp;refine gT (lH 2) ?_;simp;refine⟨by decide,?_⟩;exact fK [0,1,2,9,4,11,14,15] [6,7,8,9,10,11]
 ·rw[aB k12];simp[k15,k16,k12,hk];refine gP [0,1,2,3,4,5] m1 ?_;simp;refine gT (lH 1) ?_;simp;refine⟨by decide,?_⟩;exact fK [0,1,2,9,4,11,14,15] [6,7,8,9,10,11]
end
end Go.Gr
