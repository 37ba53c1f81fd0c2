/- Texts of ours, joined and written short by a program of ours. -/
import Derived.Test.YtlfjlokfciejnaaGreatDoorCJ13
import Derived.Test.YtlfjlokfciejnaaGreatDoorCJ11
import Derived.Test.YtlfjlokfciejnaaGreatDoorCJ10
import Derived.Test.YtlfjlokfciejnaaGreatDoorCSrt
set_option maxRecDepth 20000
set_option maxHeartbeats 4000000
set_option linter.unusedVariables false
set_option linter.unusedSimpArgs false
namespace Go.Gr
open Go.Abs Go.Proofs
@[simp] theorem iB.get0(c:iB)(h:0<c.enc.length):c.enc[0]=.int .i64 c.kind:=by simp only[c.enc_eq];rfl
@[simp] theorem iB.get1(c:iB)(h:1<c.enc.length):c.enc[1]=.int .i64 c.n:=by simp only[c.enc_eq];rfl
@[simp] theorem iB.get3(c:iB)(h:3<c.enc.length):c.enc[3]=.sl false 1 (encI c.ints):=by simp only[c.enc_eq];rfl
@[simp] theorem iB.get7(c:iB)(h:7<c.enc.length):c.enc[7]=.sl false 8 (c.kids.map iB.enc):=by simp only[c.enc_eq];rfl
theorem xk{ts:List (Nat × Nat)}(h:ts.length=([]:List Blk).length):ts=[]:=by simpa using h
theorem Au(c:iB):kX c=1+jo c.kids:=by cases c;rw[kX];try rfl
theorem J7:∀l:List iB,l.length<=jo l
|[]=>by simp
|c::l=>by
 have:=J7 l;have:=Au c;rw[jo,List.length_cons];omega
theorem zGU(l:List iB)(hl:l.length<=1000000000):MCall Pg 39 [.c (.d (.sl false 8 (l.map iB.enc)))] [] (.c (.msl 8 0 0 l.length)) [.arr 8 ((l.map iB.enc).map (·.map .d))]:=by
 refine zq9 ⟨by simp,by simp,by simp,by simp,by simp,by simp[live],by simp⟩ λts hts ok hb c hN hp=>?_;obtain rfl:=xk hts;unfold YQ;cases l with
 | nil=>
  simp;refine⟨fo [.t 2] ?_,fo [] ?_⟩
  ·simp;exact fQ [0] []
  ·simp;exact fQ [0] []
 |cons x l=>
  simp;refine⟨by simp at hl;omega,?_⟩;refine fo [] ?_;simp;exact fQ [0] []
abbrev sG(c:iB)(x:AC):List AC:=[.d (.int .i64 c.kind),.d (.int .i64 c.n),.d (.str c.text),.d (.sl false 1 (encI c.ints)),.d (.sl false 1 (encS c.names)),.d (.sl false 4 (c.types.map gq.enc)),.d (.sl false 5 (c.cos.map gy.enc)),x]
theorem zJD(c:iB)(x:AC):put (c.enc.map AC.d) 7 [x]=sG c x:=by
 rw[c.enc_eq];try rfl
theorem St.cut7{F:St->Prop}{t:List (Nat × AV)}{m:Hp}{n:Nat}(ts:List (Nat × AV))(bs:List Blk)(ht:∀p,p∈ts->Abs.look t p.1=p.2)(hm:∀i,m i=hpOf bs i)(h:∀T,(∀p,p∈ts->Abs.look T p.1=p.2)->F ⟨T,hpOf bs,n⟩):F ⟨t,m,n⟩:=by
 have e:m=hpOf bs:=funext hm;subst e;exact h t ht
theorem Gg{m:Nat}{k:Int}(h5:k≠5):∀{l:List iB} {i j:Nat} (h:j<l.length),jw m k l i->mM (if k=18 then m+(i+j)else m) l[j]
|c::l,i,0,h,hw=>by
 rw[jw,aB h5]at hw;exact hw.1
|c::l,i,j+1,h,hw=>by
 rw[jw]at hw;have:=Gg h5 (i:=i+1) (j:=j) (by simpa using h) hw.2;rw[show i+1+j=i+(j+1)from by omega]at this;exact this
theorem Bz:∀{l:List iB} {j:Nat} (h:j<l.length),j+kX l[j]<=jo l
|c::l,0,h=>by rw[jo];simp
|c::l,j+1,h=>by
 have:=Bz (l:=l) (j:=j) (by simpa using h);have:=Au c;rw[jo];simp only[List.getElem_cons_succ];omega
@[simp] theorem jW.get0(f:jW)(h:0<f.enc.length):f.enc[0]=.str f.name:=rfl
theorem jW.enc_eq(f:jW):f.enc=.str f.name::(f.type.enc++f.body.enc):=rfl
@[simp] theorem jW.cut_body(f:jW):cut (f.enc.map AC.d) 5 8=f.body.enc.map .d:=by unfold jW.enc;rw[f.type.enc_eq,f.body.enc_eq];try rfl
@[simp] theorem jW.cut_bodyD(f:jW):cut f.enc 5 8=f.body.enc:=by unfold jW.enc;rw[f.type.enc_eq,f.body.enc_eq];try rfl
theorem zFT(l:List jW)(hl:l.length<=1000000000):MCall Pg 18 [.c (.d (.sl false 13 (l.map jW.enc)))] [] (.c (.msl 13 0 0 l.length)) [.arr 13 ((l.map jW.enc).map (·.map .d))]:=by
 refine zry ⟨by simp,by simp,by simp,by simp,by simp,by simp[live],by simp⟩ λts hts ok hb c hN hp=>?_;obtain rfl:=xk hts;unfold YR;cases l with
 | nil=>
  simp;refine⟨fo [.t 2] ?_,fo [] ?_⟩
  ·simp;exact fQ [0] []
  ·simp;exact fQ [0] []
 |cons x l=>
  simp;refine⟨by simp at hl;omega,?_⟩;refine fo [] ?_;simp;exact fQ [0] []
def YS:MC:=(λx(_:x=gC tt [] [(7,[0,1,0,7,15,0,32,0,224,480,1023])] [] (iO 0 (gB Tryz.f11)))=>x) _ (by dsimp[Tryz.f11])
def YT:MC:=(λx(_:x=gC tt [] [(12,[0,1,0,7,15,0,32,0,224,480,1023,2047])] [] (iO 2 (gB Tryz.f11)))=>x) _ (by dsimp[Tryz.f11])
def YU:MC:=(λx(_:x=gC tt [] [(18,[0,1,0,7,15,0,32,0,224,480,1023,2047])] [] (iO 4 (gB Tryz.f11)))=>x) _ (by dsimp[Tryz.f11])
def YV:MC:=(λx(_:x=gC tt [] [] [(0,YS),(2,YT),(4,YU)] (gB Tryz.f11))=>x) _ (by dsimp[Tryz.f11])
theorem zLU:WT Pg 11 133 YV [.tmp 4]:=wT iC Tryz.func11 (by kernel_rfl)
def YW:MC:=(λx(_:x=gC tt [] [(6,[0,0,3,7,0,0,48,112,255])] [] (iO 0 (gB Tryz.f24)))=>x) _ (by dsimp[Tryz.f24])
def YX:MC:=(λx(_:x=gC tt [] [] [(0,YW)] (gB Tryz.f24))=>x) _ (by dsimp[Tryz.f24])
theorem zLV:WT Pg 24 26 YX [.tmp 4]:=wT iC Tryz.func24 (by kernel_rfl)
def Oi:List Nat:=[2,3,5]
def Oj:MC:=(λx(_:x=gC tt [] [(6,[0,1,0,7,15,0,32,0,224,480,1023])] [] (iO 0 (gB Tryz.f25)))=>x) _ (by dsimp[Tryz.f25])
def Ol:List Nat:=[2,3,6]
def Om:MC:=(λx(_:x=gC tt [] [(11,[0,1,0,7,15,0,32,0,224,480,1023])] [] (iO 2 (gB Tryz.f25)))=>x) _ (by dsimp[Tryz.f25])
def Oo:List Nat:=[2,3,7]
def Oq:MC:=(λx(_:x=gC tt [] [(16,[0,1,0,7,15,0,32,0,224,480,1023])] [] (iO 4 (gB Tryz.f25)))=>x) _ (by dsimp[Tryz.f25])
def Ot:List Nat:=[2,3,8]
def Ou:MC:=(λx(_:x=gC tt [] [(21,[0,1,0,7,15,0,32,0,224,480,1023,2047])] [] (iO 6 (gB Tryz.f25)))=>x) _ (by dsimp[Tryz.f25])
def Ov:List Nat:=[2,3,10]
def Ow:MC:=(λx(_:x=gC tt [] [(27,[0,1,0,7,15,0,32,0,224,480,1023,2047])] [] (iO 8 (gB Tryz.f25)))=>x) _ (by dsimp[Tryz.f25])
def Ox:MC:=(λx(_:x=gC tt [] [] [(0,Oj),(2,Om),(4,Oq),(6,Ou),(8,Ow)] (gB Tryz.f25))=>x) _ (by dsimp[Tryz.f25])
theorem YY:WT Pg 25 149 Ox [.tmp 4]:=wT iC Tryz.func25 (by kernel_rfl)
def YZ:MC:=(λx(_:x=gC tt [] [(1,[0,0,3,7])] [] (gB Tryz.f26))=>x) _ (by dsimp[Tryz.f26])
theorem zk8:WT Pg 26 6 YZ [.tmp 2]:=wT iC Tryz.func26 (by kernel_rfl)
def J8:MC:=(λx(_:x=gC tt [(1,1)] [] [] (gB Tryz.f43))=>x) _ (by dsimp[Tryz.f43])
theorem zm4:WT Pg 43 3 J8 [.cell 0 true 5]:=wT iC Tryz.func43 (by kernel_rfl)
theorem zmi:WM Pg 43 3 J8 [.cell 0 true 5]:=wM iC Tryz.func43 (by kernel_rfl)
def Oy:List Nat:=[1,4]
def Y0:MC:=(λx(_:x=gC tt [] [] [] (iO 0 (gB Tryz.f68)))=>x) _ (by dsimp[Tryz.f68])
def Y1:MC:=(λx(_:x=gC tt [] [] [(0,Y0)] (gB Tryz.f68))=>x) _ (by dsimp[Tryz.f68])
theorem zmj:WT Pg 68 74 Y1 [.tmp 2]:=wT iC Tryz.func68 (by kernel_rfl)
def Oz:MC:=(λx(_:x=gC tt [] [(13,[0,1,0,7,15,31,0,64,0,448,960,1984,4095])] [] (iO 2 (gB Tryz.f114)))=>x) _ (by dsimp[Tryz.f114])
def PD:MC:=(λx(_:x=gC tt [] [] [(2,Oz)] (iO 0 (gB Tryz.f114)))=>x) _ (by dsimp[Tryz.f114])
def PE:MC:=(λx(_:x=gC tt [] [(18,[0,1,0,7,15,0,32,0,128,480,992,2047])] [] (iO 4 (gB Tryz.f114)))=>x) _ (by dsimp[Tryz.f114])
def Y2:MC:=(λx(_:x=gC tt [] [] [(0,PD),(4,PE)] (gB Tryz.f114))=>x) _ (by dsimp[Tryz.f114])
theorem zmk:WT Pg 114 106 Y2 [.tmp 2]:=wT iC Tryz.func114 (by kernel_rfl)
def Y3:MC:=(λx(_:x=gC tt [] [] [] (gB Tryz.f112))=>x) _ (by dsimp[Tryz.f112])
theorem zk9:WT Pg 112 18 Y3 [.tmp 4]:=wT iC Tryz.func112 (by kernel_rfl)
def J9:MC:=(λx(_:x=gC tt [(0,3)] [] [] (gB Tryz.f116))=>x) _ (by dsimp[Tryz.f116])
theorem PG:WM Pg 116 25 J9 [.cell 6 true 5]:=wM iC Tryz.func116 (by kernel_rfl)
def PI:List Nat:=[1,2,4,5]
def Y4:MC:=(λx(_:x=gC tt [] [] [] (iO 0 (gB Tryz.f117)))=>x) _ (by dsimp[Tryz.f117])
def Y5:MC:=(λx(_:x=gC tt [] [] [(0,Y4)] (gB Tryz.f117))=>x) _ (by dsimp[Tryz.f117])
theorem zke:WT Pg 117 26 Y5 [.cell 4 true 5]:=wT iC Tryz.func117 (by kernel_rfl)
def Y6:MC:=(λx(_:x=gC tt [(5,7)] [(5,[0,0,2,7,15,31,31,95,255,511,1023,1023,4095,8191,1023,1023,50175,115711,262143,524287,1048575]),(9,[0,0,2,7,15,31,31,127,255,31,31,1567,3615,8191,16383])] [] (iO 0 (gB Tryz.f115)))=>x) _ (by dsimp[Tryz.f115])
def Y7:MC:=(λx(_:x=gC tt [(5,7)] [] [(0,Y6)] (gB Tryz.f115))=>x) _ (by dsimp[Tryz.f115])
theorem zkf:WT Pg 115 75 Y7 [.tmp 4]:=wT iC Tryz.func115 (by kernel_rfl)
def Y8:MC:=(λx(_:x=gC tt [(3,44)] [(5,[0,0,2,6,0,30,62,0,128,384,0,1920,3968,0,0,32640,65535,131071])] [] (iO 0 (gB Tryz.f113)))=>x) _ (by dsimp[Tryz.f113])
def Y9:MC:=(λx(_:x=gC tt [(3,102)] [(10,[0,1,0,4,12,0,60,124,255,511,1023,1023,0,6143,16383]),(12,[0,1,0,4,12,0,60,124,0,508,1020,2047,4095,8191]),(14,[0,0,2,6,0,30,62,0,0,256,768,0,3840,7936,0,32640,65535,131071])] [] (iO 2 (gB Tryz.f113)))=>x) _ (by dsimp[Tryz.f113])
def Ya:MC:=(λx(_:x=gC tt [(0,4),(5,14),(7,1)] [] [(0,Y8),(2,Y9)] (gB Tryz.f113))=>x) _ (by dsimp[Tryz.f113])
theorem ziD:WM Pg 113 104 Ya [.cell 8 true 5]:=wM iC Tryz.func113 (by kernel_rfl)
def PK:MC:=(λx(_:x=gC tt [] [(11,[0,0,2,7,15,31,31,127,255,511,31,1055,4095,8191])] [] (iO 2 (gB Tryz.f67)))=>x) _ (by dsimp[Tryz.f67])
def PL:MC:=(λx(_:x=gC tt [(9,113)] [(17,[0,1,3,7,15,0,32,96,224,480,0,1024,4095,0,8192,24576,57344,122880,0,262144,786432,1835008,3932160,0,16777215,33554431,67108863,134217727])] [(2,PK)] (iO 0 (gB Tryz.f67)))=>x) _ (by dsimp[Tryz.f67])
def PM:MC:=(λx(_:x=gC tt [(3,14),(7,1)] [] [(0,PL)] (gB Tryz.f67))=>x) _ (by dsimp[Tryz.f67])
theorem Yb:WT Pg 67 107 PM [.cell 6 true 5]:=wT iC Tryz.func67 (by kernel_rfl)
def Yc:MC:=(λx(_:x=gC tt [] [] [] (gB Tryz.f40))=>x) _ (by dsimp[Tryz.f40])
theorem zla:WT Pg 40 33 Yc [.cell 6 true 5]:=wT iC Tryz.func40 (by kernel_rfl)
def Yd:MC:=(λx(_:x=gC tt [] [] [] (gB Tryz.f41))=>x) _ (by dsimp[Tryz.f41])
theorem ziE:WT Pg 41 21 Yd [.cell 4 true 5]:=wT iC Tryz.func41 (by kernel_rfl)
def PN:MC:=(λx(_:x=gC tt [] [(5,[0,1,0,0,8,0,56,120,255,511]),(7,[0,1,0,0,8,0,56,120,255,511])] [] (iO 0 (gB Tryz.f69)))=>x) _ (by dsimp[Tryz.f69])
def Ye:MC:=(λx(_:x=gC tt [] [(16,[0,1,3,7,3,31,63,127,3,259,3,1795,3843,7939,16383,32767,65535])] [] (iO 4 (gB Tryz.f69)))=>x) _ (by dsimp[Tryz.f69])
def Ja:MC:=(λx(_:x=gC tt [] [(18,[0,1,0,4,0,28,60,124,255,511,1023])] [(4,Ye)] (iO 2 (gB Tryz.f69)))=>x) _ (by dsimp[Tryz.f69])
def Jb:MC:=(λx(_:x=gC tt [(3,134),(5,11)] [(23,[0,0,0,6,14,0,0,0,192,448,992,0,0,0,12288,28672,65504,131040,262143,524287])] [] (iO 6 (gB Tryz.f69)))=>x) _ (by dsimp[Tryz.f69])
def Yf:MC:=(λx(_:x=gC tt [(3,14),(5,43),(4,98),(5,11),(4,135)] [(32,[0,1,3,0,8,24,63,0,128,384,0,1024,3072,8191,16383,32767,65535])] [(0,PN),(2,Ja),(6,Jb)] (gB Tryz.f69))=>x) _ (by dsimp[Tryz.f69])
theorem zhP:WT Pg 69 188 Yf [.cell 4 true 5]:=wT iC Tryz.func69 (by kernel_rfl)
def Yg:MC:=(λx(_:x=gC tt [] [] [] (iO 0 (gB Tryz.f10)))=>x) _ (by dsimp[Tryz.f10])
def Yh:MC:=(λx(_:x=gC tt [(4,40),(6,0)] [] [(0,Yg)] (gB Tryz.f10))=>x) _ (by dsimp[Tryz.f10])
theorem zlb:WT Pg 10 41 Yh [.cell 4 true 3]:=wT iC Tryz.func10 (by kernel_rfl)
def Yi:MC:=(λx(_:x=gC tt [] [] [] (iO 0 (gB Tryz.f22)))=>x) _ (by dsimp[Tryz.f22])
def Yj:MC:=(λx(_:x=gC tt [(0,1),(4,23),(6,0)] [(7,[0,1,3,7,0,16,48,112,0,256,768,1792,4095,8191,0,32767,65535])] [(0,Yi)] (gB Tryz.f22))=>x) _ (by dsimp[Tryz.f22])
theorem zkg:WT Pg 22 43 Yj [.cell 2 true 8]:=wT iC Tryz.func22 (by kernel_rfl)
def Yk:MC:=(λx(_:x=gC tt [] [] [] (iO 0 (gB Tryz.f23)))=>x) _ (by dsimp[Tryz.f23])
def Yl:MC:=(λx(_:x=gC tt [] [(12,[0,1,3,7,0,31,63])] [] (iO 2 (gB Tryz.f23)))=>x) _ (by dsimp[Tryz.f23])
def Ym:MC:=(λx(_:x=gC tt [(0,1),(4,24),(6,0)] [] [(0,Yk),(2,Yl)] (gB Tryz.f23))=>x) _ (by dsimp[Tryz.f23])
theorem ziF:WT Pg 23 82 Ym [.cell 2 true 8]:=wT iC Tryz.func23 (by kernel_rfl)
def Yn:MC:=(λx(_:x=gC tt [] [] [] (gB Tryz.f42))=>x) _ (by dsimp[Tryz.f42])
theorem zml:WT Pg 42 17 Yn [.tmp 2]:=wT iC Tryz.func42 (by kernel_rfl)
end Go.Gr
namespace Go.Gr
open Go.Abs Go.Proofs List
@[simp] theorem iB.get2(c:iB)(h:2<c.enc.length):c.enc[2]=.str c.text:=by simp only[c.enc_eq];rfl
@[simp] theorem iB.get4(c:iB)(h:4<c.enc.length):c.enc[4]=.sl false 1 (encS c.names):=by simp only[c.enc_eq];rfl
@[simp] theorem iB.get5(c:iB)(h:5<c.enc.length):c.enc[5]=.sl false 4 (c.types.map gq.enc):=by simp only[c.enc_eq];rfl
@[simp] theorem iB.get6(c:iB)(h:6<c.enc.length):c.enc[6]=.sl false 5 (c.cos.map gy.enc):=by simp only[c.enc_eq];rfl
def Jc(c:gy):Prop:=gu Pg 25 [.agg c.enc,.agg c.enc] (.one (.bool true))
theorem zLY(c:gy)(ih:∀x,x∈c.fields++c.fn->Jc x):Jc c:=by
 refine YY (by simp) λo cx hN hp=>?_;have hln:=o.1;rw[c.enc_eq]at hln;simp only[DV.ok,D.okL,D.ok,aU]at hln;unfold zah at hln;have l1:c.tags.length<=4611686018427387904:=by have:=hln.1.1;simpa[encI]using this
 have l2:c.needs.length<=4611686018427387904:=by have:=hln.2.1.1;simpa[iF]using this
 have l3:c.names.length<=4611686018427387904:=by have:=hln.2.2.1.1;simpa[encS]using this
 have l4:c.fields.length<=4611686018427387904:=by have:=hln.2.2.2.1.1;simpa using this
 have l5:c.fn.length<=4611686018427387904:=by have:=hln.2.2.2.2.1.1;simpa using this
 clear hln;unfold Ox;simp;refine fU iC hp (λj:Nat=>j<=c.tags.length) (λj=>[(5,.c (.d (.int .i64 j))),(3,.c (.d (.rp c.enc 0))),(2,.c (.d (.rp c.enc 0)))]) (λ_=>[]) (λj=>c.tags.length-j) 0 [] (by simp) (by simp) λj i1=>?_;unfold Oj;simp;apply gT<;>intro h
 ·have hj:j<c.tags.length:=by simpa[encI,encS,iF]using h
  have hw:=wI (n:=(j:Int)+1);simp[hj,encI,encS,iF];refine⟨by decide,?_⟩;refine fJ (j+1) [] (by omega) (by omega) ?_;simp[hw]
 try simp
 refine fU iC hp (λj:Nat=>j<=c.needs.length) (λj=>[(6,.c (.d (.int .i64 j))),(3,.c (.d (.rp c.enc 0))),(2,.c (.d (.rp c.enc 0)))]) (λ_=>[]) (λj=>c.needs.length-j) 0 [] (by simp) (by simp) λj i1=>?_;unfold Om;simp;apply gT<;>intro h
 ·have hj:j<c.needs.length:=by simpa[encI,encS,iF]using h
  have hw:=wI (n:=(j:Int)+1);simp[hj,encI,encS,iF];refine⟨by decide,?_⟩;refine fJ (j+1) [] (by omega) (by omega) ?_;simp[hw]
 try simp
 refine fU iC hp (λj:Nat=>j<=c.names.length) (λj=>[(7,.c (.d (.int .i64 j))),(3,.c (.d (.rp c.enc 0))),(2,.c (.d (.rp c.enc 0)))]) (λ_=>[]) (λj=>c.names.length-j) 0 [] (by simp) (by simp) λj i1=>?_;unfold Oq;simp;apply gT<;>intro h
 ·have hj:j<c.names.length:=by simpa[encI,encS,iF]using h
  have hw:=wI (n:=(j:Int)+1);simp[hj,encI,encS,iF];refine⟨by decide,?_⟩;refine fJ (j+1) [] (by omega) (by omega) ?_;simp[hw]
 try simp
 refine fU iC hp (λj:Nat=>j<=c.fields.length) (λj=>[(8,.c (.d (.int .i64 j))),(3,.c (.d (.rp c.enc 0))),(2,.c (.d (.rp c.enc 0)))]) (λ_=>[]) (λj=>c.fields.length-j) 0 [] (by simp) (by simp) λj i1=>?_;unfold Ou;simp;apply gT<;>intro h
 ·have hj:j<c.fields.length:=by simpa[encI,encS,iF]using h
  have hw:=wI (n:=(j:Int)+1);have hc:=ih _ (fG _ (aP hj));obtain⟨d,hd⟩:∃d,c.fields[j]=d:=⟨_,rfl⟩
  rw[hd]at hc;simp[hj,hd];refine gp hc ?_;simp;refine⟨by decide,?_⟩;refine fJ (j+1) [] (by omega) (by omega) ?_;simp[hw]
 try simp
 refine fU iC hp (λj:Nat=>j<=c.fn.length) (λj=>[(10,.c (.d (.int .i64 j))),(3,.c (.d (.rp c.enc 0))),(2,.c (.d (.rp c.enc 0)))]) (λ_=>[]) (λj=>c.fn.length-j) 0 [] (by simp) (by simp) λj i1=>?_;unfold Ow;simp;apply gT<;>intro h
 ·have hj:j<c.fn.length:=by simpa[encI,encS,iF]using h
  have hw:=wI (n:=(j:Int)+1);have hc:=ih _ (mem_append_right _ (aP hj));obtain⟨d,hd⟩:∃d,c.fn[j]=d:=⟨_,rfl⟩
  rw[hd]at hc;simp[hj,hd];refine gp hc ?_;simp;refine⟨by decide,?_⟩;refine fJ (j+1) [] (by omega) (by omega) ?_;simp[hw]
 try simp
mutual
theorem Yo:∀c:gy,Jc c
|.mk t n s f g=>zLY _ λx hx=>(aM.1 hx).elim (PO f x) (PO g x)
theorem PO:∀(l:List gy) (x:gy),x∈l->Jc x
|[],x,hx=>by cases hx
|c::l,x,hx=>by
 rcases aN.1 hx with e|hx
 ·rw[e];exact Yo c
 ·exact PO l x hx
end
theorem zLW(l:List fI):gu Pg 24 [.one (.sl false 1 (encS l)),.one (.sl false 1 (encS l))] (.one (.bool true)):=by
 refine zLV (by simp) λo cx hN hp=>?_;have hln:=o.1;simp only[DV.ok,D.ok]at hln;unfold zah at hln;have l1:l.length<=4611686018427387904:=by have:=hln.1;simpa[encS]using this
 clear hln;unfold YX;simp;refine fU iC hp (λj:Nat=>j<=l.length) (λj=>[(5,.c (.d (.int .i64 j))),(1,.c (.d (.sl false 1 (encS l)))),(0,.c (.d (.sl false 1 (encS l))))]) (λ_=>[]) (λj=>l.length-j) 0 [] (by simp) (by simp) λj i1=>?_;unfold YW;simp;apply gT<;>intro h
 ·have hj:j<l.length:=by simpa[encS]using h
  have hw:=wI (n:=(j:Int)+1);simp[hj,encS];refine⟨by decide,?_⟩;refine fJ (j+1) [] (by omega) (by omega) ?_;simp[hw,encS]
 try simp
def Jd(c:iB):Prop:=gu Pg 11 [.agg c.enc,.agg c.enc] (.one (.bool true))
theorem zLZ(c:iB)(ih:∀x,x∈c.kids->Jd x):Jd c:=by
 refine zLU (by simp) λo cx hN hp=>?_;have hln:=o.1;rw[c.enc_eq]at hln;simp only[DV.ok,D.okL,D.ok,aU]at hln;unfold zah at hln;have l1:c.ints.length<=4611686018427387904:=by have:=hln.2.2.2.1.1;simpa[encI]using this
 have l2:c.cos.length<=4611686018427387904:=by have:=hln.2.2.2.2.2.2.1.1;simpa using this
 have l3:c.kids.length<=4611686018427387904:=by have:=hln.2.2.2.2.2.2.2.1.1;simpa using this
 clear hln;unfold YV;simp;refine gp (zLW c.names) ?_;simp;refine fU iC hp (λj:Nat=>j<=c.ints.length) (λj=>[(6,.c (.d (.int .i64 j))),(3,.c (.d (.rp c.enc 0))),(2,.c (.d (.rp c.enc 0)))]) (λ_=>[]) (λj=>c.ints.length-j) 0 [] (by simp) (by simp) λj i1=>?_;unfold YS;simp;apply gT<;>intro h
 ·have hj:j<c.ints.length:=by simpa[encI,encS,iF]using h
  have hw:=wI (n:=(j:Int)+1);simp[hj,encI,encS,iF];refine⟨by decide,?_⟩;refine fJ (j+1) [] (by omega) (by omega) ?_;simp[hw]
 try simp
 refine fU iC hp (λj:Nat=>j<=c.cos.length) (λj=>[(7,.c (.d (.int .i64 j))),(3,.c (.d (.rp c.enc 0))),(2,.c (.d (.rp c.enc 0)))]) (λ_=>[]) (λj=>c.cos.length-j) 0 [] (by simp) (by simp) λj i1=>?_;unfold YT;simp;apply gT<;>intro h
 ·have hj:j<c.cos.length:=by simpa[encI,encS,iF]using h
  have hw:=wI (n:=(j:Int)+1);have hc:=Yo c.cos[j];obtain⟨d,hd⟩:∃d,c.cos[j]=d:=⟨_,rfl⟩
  rw[hd]at hc;simp[hj,hd];refine gp hc ?_;simp;refine⟨by decide,?_⟩;refine fJ (j+1) [] (by omega) (by omega) ?_;simp[hw]
 try simp
 refine fU iC hp (λj:Nat=>j<=c.kids.length) (λj=>[(9,.c (.d (.int .i64 j))),(3,.c (.d (.rp c.enc 0))),(2,.c (.d (.rp c.enc 0)))]) (λ_=>[]) (λj=>c.kids.length-j) 0 [] (by simp) (by simp) λj i1=>?_;unfold YU;simp;apply gT<;>intro h
 ·have hj:j<c.kids.length:=by simpa[encI,encS,iF]using h
  have hw:=wI (n:=(j:Int)+1);have hc:=ih _ (aP hj);obtain⟨d,hd⟩:∃d,c.kids[j]=d:=⟨_,rfl⟩
  rw[hd]at hc;simp[hj,hd];refine gp hc ?_;simp;refine⟨by decide,?_⟩;refine fJ (j+1) [] (by omega) (by omega) ?_;simp[hw]
 try simp
mutual
theorem PP:∀c:iB,Jd c
|.mk k n t is ns ts cs ks=>zLZ _ (Yp ks)
theorem Yp:∀(l:List iB) (x:iB),x∈l->Jd x
|[],x,hx=>by cases hx
|c::l,x,hx=>by
 rcases aN.1 hx with e|hx
 ·rw[e];exact PP c
 ·exact Yp l x hx
end
mutual
def jX:gy->gy->Bool
|.mk t n s f g,.mk t' n' s' f' g'=>decide (t=t')&&(decide (n=n')&&(decide (s=s')&&(uG f f'&&uG g g')))
def uG:List gy->List gy->Bool
|[],[]=>true
|a::l,b::k=>jX a b&&uG l k
|_,_=>false
end
def idC:gy:=.mk [0,0,0,0,0,0] [] [] [] []
theorem wZ:gu Pg 43 [] (.agg idC.enc):=by
 refine zm4 (by simp) λo c hN hp=>?_;unfold J8;simp[idC,gy.enc,encI,iF,encS,gy.encs]
def lK{α:Type}(q:α->α->Bool):List α->List α->Bool
|[],[]=>true
|a::l,b::k=>q a b&&lK q l k
|_,_=>false
theorem PQ{α:Type}(q:α->α->Bool):∀{a b:List α},a.length≠b.length->lK q a b=false
|[],[],h=>by simp at h
|[],_::_,h=>rfl
|_::_,[],h=>rfl
|a::l,b::k,h=>by simp only[lK];rw[PQ q (a:=l) (b:=k) (by simpa using h)];simp
theorem Gh:∀(a b:List gy),uG a b=lK jX a b
|[],[]=>by simp[uG,lK]
|[],_::_=>by simp[uG,lK]
|_::_,[]=>by simp[uG,lK]
|a::l,b::k=>by simp[uG,lK,Gh l k]
theorem PR(a b:gy):jX a b=(decide (a.tags=b.tags)&&(decide (a.needs=b.needs)&&(decide (a.names=b.names)&&(lK jX a.fields b.fields&&lK jX a.fn b.fn)))):=by
 cases a;cases b;simp only[jX,Gh];rfl
theorem PT{α:Type}{a b:List α}{j:Nat}(ha:j<a.length)(hb:j<b.length)(h:a.take j=b.take j)(e:a[j]=b[j]):a.take (j+1)=b.take (j+1):=by
 rw[aJ ha,aJ hb,h,e]
theorem PU{α:Type}{a b:List α}{j:Nat}(ha:j=a.length)(hb:a.length=b.length)(h:a.take j=b.take j):a=b:=by
 subst ha;rw[bG,aD (by omega)]at h;exact h
theorem Yq{α:Type}(q:α->α->Bool):∀{a b:List α} {j:Nat},a.length<=j->a.length=b.length->lK q (a.drop j) (b.drop j)=true
|a,b,j,h,e=>by rw[bF h,bF (by omega)];try rfl
theorem zmr(a b:gy)(ih:∀x,x∈a.fields\/x∈a.fn->∀y,gu Pg 25 [.agg x.enc,.agg y.enc] (.one (.bool (jX x y)))):gu Pg 25 [.agg a.enc,.agg b.enc] (.one (.bool (jX a b))):=by
 have e:=PR a b;rw[gy.enc_eq a,gy.enc_eq b];refine YY (by simp) λo c hN hp=>?_;have hl:a.tags.length<=zah/\a.needs.length<=zah/\a.names.length<=zah/\a.fields.length<=zah/\a.fn.length<=zah:=by
  have:=o.1;simp only[DV.ok,D.okL,D.ok,Ig,Ih,Bc,aU]at this;exact⟨this.1.1,this.2.1.1,this.2.2.1.1,this.2.2.2.1.1,this.2.2.2.2.1.1⟩
 unfold zah at hl;obtain⟨l1,l2,l3,l4,l5⟩:=hl;unfold Ox;simp;have f1:a.tags.length≠b.tags.length->decide (a.tags=b.tags)=false:=λh=>bK λe=>h (by rw[e]);have f2:a.needs.length≠b.needs.length->decide (a.needs=b.needs)=false:=λh=>bK λe=>h (by rw[e]);have f3:a.names.length≠b.names.length->decide (a.names=b.names)=false:=λh=>bK λe=>h (by rw[e]);have f4:a.fields.length≠b.fields.length->lK jX a.fields b.fields=false:=PQ _;have f5:a.fn.length≠b.fn.length->lK jX a.fn b.fn=false:=PQ _;apply gT<;>intro h1;rotate_left
 ·have h1:a.tags.length≠b.tags.length:=by simp at h1;omega
  simp[e,f1 h1]
 have h1:a.tags.length=b.tags.length:=by simp at h1;omega
 apply gT<;>intro h2;rotate_left
 ·have h2:a.needs.length≠b.needs.length:=by simp at h2;omega
  simp[e,f2 h2]
 have h2:a.needs.length=b.needs.length:=by simp at h2;omega
 apply gT<;>intro h3;rotate_left
 ·have h3:a.names.length≠b.names.length:=by simp at h3;omega
  simp[e,f3 h3]
 have h3:a.names.length=b.names.length:=by simp at h3;omega
 apply gT<;>intro h4;rotate_left
 ·have h4:a.fields.length≠b.fields.length:=by simp at h4;omega
  simp[e,f4 h4]
 have h4:a.fields.length=b.fields.length:=by simp at h4;omega
 apply gT<;>intro h5
 ·have h5:a.fn.length≠b.fn.length:=by simp at h5;omega
  simp[e,f5 h5]
 have h5:a.fn.length=b.fn.length:=by simp at h5;omega
 refine fV iC hp Oi [5] (λj:Nat=>j<=a.tags.length/\a.tags.take j=b.tags.take j) (λj=>[.c (.d (.int .i64 j))]) (λ_=>[]) (λj=>a.tags.length-j) 0 [] (by simp) (by simp[Oi]) λj ⟨g1,g2⟩=>?_;unfold Oj Oi;simp;apply gT<;>intro h
 ·have hj:j<a.tags.length:=by simpa using h
  have hj':j<b.tags.length:=by omega
  simp[aA hj,aA hj'];refine⟨by decide,gT (λh=>?_) (λh=>?_)⟩
  ·simp at h;have:decide (a.tags=b.tags)=false:=bK λe=>h (getElem_of_eq e _);rw[e,this];try rfl
  ·simp at h;exact fJ (j+1) [] ⟨by omega,PT hj hj' g2 h⟩ (by omega) (by simp;exact wI)
 have hj:j=a.tags.length:=by simp at h;omega
 have d1:=PU hj h1 g2;refine fV iC hp Ol [6] (λj:Nat=>j<=a.needs.length/\a.needs.take j=b.needs.take j) (λj=>[.c (.d (.int .i64 j))]) (λ_=>[]) (λj=>a.needs.length-j) 0 [] (by simp) (by simp[Ol]) λj ⟨g1,g2⟩=>?_;unfold Om Ol;simp;apply gT<;>intro h
 ·have hj:j<a.needs.length:=by simpa using h
  have hj':j<b.needs.length:=by omega
  simp[iF,aA hj,aA hj'];refine⟨by decide,gT (λh=>?_) (λh=>?_)⟩
  ·have:decide (a.needs=b.needs)=false:=bK λe=>by
    have:=getElem_of_eq e hj;rw[this]at h;simp at h
   rw[e,this,Bool.false_and,Bool.and_false]
  ·simp at h;exact fJ (j+1) [] ⟨by omega,PT hj hj' g2 (Prod.ext h.1 h.2)⟩ (by omega) (by simp;exact wI)
 have hj:j=a.needs.length:=by simp at h;omega
 have d2:=PU hj h2 g2;refine fV iC hp Oo [7] (λj:Nat=>j<=a.names.length/\a.names.take j=b.names.take j) (λj=>[.c (.d (.int .i64 j))]) (λ_=>[]) (λj=>a.names.length-j) 0 [] (by simp) (by simp[Oo]) λj ⟨g1,g2⟩=>?_;unfold Oq Oo;simp;apply gT<;>intro h
 ·have hj:j<a.names.length:=by simpa using h
  have hj':j<b.names.length:=by omega
  simp[aA hj,aA hj'];refine⟨by decide,gT (λh=>?_) (λh=>?_)⟩
  ·simp at h;have:decide (a.names=b.names)=false:=bK λe=>h (getElem_of_eq e _);rw[e,this,Bool.false_and,Bool.and_false,Bool.and_false]
  ·simp at h;exact fJ (j+1) [] ⟨by omega,PT hj hj' g2 h⟩ (by omega) (by simp;exact wI)
 have hj:j=a.names.length:=by simp at h;omega
 have d3:=PU hj h3 g2;have e:jX a b=(lK jX a.fields b.fields&&lK jX a.fn b.fn):=by rw[e,bz d1,bz d2,bz d3];try rfl
 refine fV iC hp Ot [8] (λj:Nat=>j<=a.fields.length/\lK jX (a.fields.drop j) (b.fields.drop j)=lK jX a.fields b.fields) (λj=>[.c (.d (.int .i64 j))]) (λ_=>[]) (λj=>a.fields.length-j) 0 [] (by simp) (by simp[Ot]) λj ⟨g1,g2⟩=>?_;unfold Ou Ot;simp;apply gT<;>intro h
 ·have hj:j<a.fields.length:=by simpa using h
  have hj':j<b.fields.length:=by omega
  rw[aF hj,aF hj',lK]at g2;simp[aA hj,aA hj'];refine gp (ih _ (.inl (aP hj)) _) ?_;simp;refine⟨by decide,gT (λh=>?_) (λh=>?_)⟩
  ·simp at h;rw[h,Bool.false_and]at g2;rw[e,<-g2];try rfl
  ·simp at h;rw[h,Bool.true_and]at g2;exact fJ (j+1) [] ⟨by omega,g2⟩ (by omega) (by simp;exact wI)
 have hj:j=a.fields.length:=by simp at h;omega
 have e:jX a b=lK jX a.fn b.fn:=by rw[e,<-g2,Yq jX (by omega) h4];try rfl
 refine fV iC hp Ov [10] (λj:Nat=>j<=a.fn.length/\lK jX (a.fn.drop j) (b.fn.drop j)=lK jX a.fn b.fn) (λj=>[.c (.d (.int .i64 j))]) (λ_=>[]) (λj=>a.fn.length-j) 0 [] (by simp) (by simp[Ov]) λj ⟨g1,g2⟩=>?_;unfold Ow Ov;simp;apply gT<;>intro h
 ·have hj:j<a.fn.length:=by simpa using h
  have hj':j<b.fn.length:=by omega
  rw[aF hj,aF hj',lK]at g2;simp[aA hj,aA hj'];refine gp (ih _ (.inr (aP hj)) _) ?_;simp;refine⟨by decide,gT (λh=>?_) (λh=>?_)⟩
  ·simp at h;rw[h,Bool.false_and]at g2;rw[e,<-g2]
  ·simp at h;rw[h,Bool.true_and]at g2;exact fJ (j+1) [] ⟨by omega,g2⟩ (by omega) (by simp;exact wI)
 have hj:j=a.fn.length:=by simp at h;omega
 have e:jX a b=true:=by rw[e,<-g2,Yq jX (by omega) h5]
 simp[e]
mutual
theorem Yr:∀(a b:gy),gu Pg 25 [.agg a.enc,.agg b.enc] (.one (.bool (jX a b)))
|.mk t n s f g,b=>zmr _ b λx hx y=>hx.elim (λh=>PV f x h y) (λh=>PV g x h y)
theorem PV:∀(l:List gy) (x:gy),x∈l->∀y,gu Pg 25 [.agg x.enc,.agg y.enc] (.one (.bool (jX x y)))
|c::l,x,h,y=>by
 cases aN.1 h with
 |inl e=>rw[e];exact Yr c y
 |inr e=>exact PV l x e y
end
theorem Av(a:gy):gu Pg 26 [.agg a.enc] (.one (.bool (jX a idC))):=by
 refine zk8 (by simp) λo c hN hp=>?_;unfold YZ;simp;refine gp wZ ?_;simp;refine gp (Yr a idC) ?_;simp;decide
def zD(a b:fI):Bool:=Op.bytesLess a.data.toList b.data.toList||decide (a=b)
def uk:List fI->Bool
|a::b::l=> !zD b a&&uk (b::l)
|_=>true
theorem PW:∀{l:List fI} {i:Nat} (h:i+1<l.length),zD l[i+1] l[i]=true->uk l=false
|a::b::l,0,h,e=>by
 simp only[getElem_cons_succ,getElem_cons_zero]at e;simp[uk,e]
|a::b::l,i+1,h,e=>by
 have:=PW (l:=b::l) (i:=i) (by simpa using h) (by simpa using e);simp[uk,this]
|[],_,h,_=>by simp at h
|[_],_,h,_=>by simp at h
theorem PX:∀{l:List fI},(∀i (h:i+1<l.length),zD l[i+1] l[i]=false)->uk l=true
|[],_=>rfl
|[_],_=>rfl
| a::b::l,H=>by
 have h0:=H 0 (by simp);simp only[getElem_cons_succ,getElem_cons_zero]at h0;have:=PX (l:=b::l) λi h=>by
  have:=H (i+1) (by simpa using h);simpa only[getElem_cons_succ]using this
 simp[uk,h0,this]
def Ec(l:List (fI × Int))(j:Nat):Prop:=∀i (h:i<l.length),i<j->l[i].2≠0/\∀k (hk:k<i),l[k].1≠l[i].1
def uH:List fI->List (fI × Int)->Bool
|_,[]=>true
|seen,x::l=>decide (x.2≠0)&&(!(seen.any λy=>decide (y=x.1))&&uH (x.1::seen) l)
theorem PY:∀(l:List (fI × Int)) (seen:List fI),uH seen l=true↔(∀i (h:i<l.length),l[i].1∉seen)/\Ec l l.length
|[],seen=>by simp[uH,Ec]
| x ::l,seen=>by
 have hm:(!(seen.any λy=>decide (y=x.1)))=true↔x.1∉seen:=by
  simp;exact⟨λh hx=>h _ hx rfl,λh y hy e=>h (e▸hy)⟩
 simp only[uH,aG,aI];rw[PY l (x.1::seen),hm];constructor
 ·rintro⟨h1,h2,h3,h4⟩
  refine⟨λi h=>?_,λi h hj=>?_⟩
  ·cases i with
   |zero=>exact h2
   |succ i=>have:=h3 i (by simpa using h);simp only[aN,dU]at this;exact this.2
  ·cases i with
   |zero=>exact⟨h1,λk hk=>by omega⟩
   |succ i=>
    have h':i<l.length:=by simpa using h
    have:=h4 i h' h';refine⟨this.1,λk hk=>?_⟩;cases k with
    |zero=>have:=h3 i h';simp only[aN,dU]at this;exactλe=>this.1 e.symm
    |succ k=>exact this.2 k (by omega)
 ·rintro⟨h1,h2⟩
  refine⟨(h2 0 (by simp) (by simp)).1,h1 0 (by simp),λi h=>?_,λi h hj=>?_⟩
  ·simp only[aN,dU];exact⟨λe=>(h2 (i+1) (by simpa using h) (by simpa using h)).2 0 (by omega) e.symm,h1 (i+1) (by simpa using h)⟩
  ·have:=h2 (i+1) (by simpa using h) (by simpa using h);exact⟨this.1,λk hk=>this.2 (k+1) (by omega)⟩
theorem Yt{l:List (fI × Int)}(h:Ec l l.length):uH [] l=true:=(PY l []).2 ⟨λ_ _=>by simp,h⟩
theorem Je{l:List (fI × Int)}(h:¬Ec l l.length):uH [] l=false:=by
 cases e:uH [] l with
 |false=>rfl
 |true=>exact absurd ((PY l []).1 e).2 h
def iE(d:gy)(k:Nat):Int:=d.tags.getD k 0
def nz(d:gy):Bool:=
 decide (d.tags.length=6/\d.names.length=d.fields.length/\(d.fn.length=0\/d.fn.length=2))&&
 (decide (¬(iE d 4≠0/\0<d.names.length\/iE d 5≠0/\0<d.fn.length))&&(uH [] d.needs&&uk d.names))
theorem PZ{c:Ctx}(hp:c.pure)(d:gy){i:Nat}(hi:i<d.needs.length)(hl:d.needs.length<=zah){Q:Exit->St->Prop}{S:St}{g}
  (h0:iM [] S [(4,.c (.d (.int .i64 0))),(1,.c (.d (.rp d.enc 0))),(3,.c (.d (.int .i64 i)))] [])
  (hQ:∀T x,(∀k (hk:k<i),d.needs[k].1≠d.needs[i].1)->Abs.look T 1=.c (.d (.rp d.enc 0))->Abs.look T 3=.c (.d (.int .i64 i))->Q (.exit 2) ⟨T,hpOf [],x⟩)
  (hR:∀T x,¬(∀k (hk:k<i),d.needs[k].1≠d.needs[i].1)->Abs.look T 2=.c (.d (.bool false))->Q .ret ⟨T,hpOf [],x⟩):lU Pg c Oz Q g S:=by
 unfold zah at hl;rw[gy.enc_eq]at h0 hQ;refine fU iC hp (λk:Nat=>k<=i/\∀m (hm:m<i),m<k->d.needs[m].1≠d.needs[i].1) (λk=>[(4,.c (.d (.int .i64 k))),(1,.c (.d (.rp _ 0))),(3,.c (.d (.int .i64 i)))]) (λ_=>[]) (λk=>i-k) 0 [] (by simp) h0 λk ⟨g1,g2⟩=>?_;unfold Oz;simp;apply gT<;>intro h
 ·have hk:k<i:=by simpa using h
  simp[iF,aA hi,aA (show k<d.needs.length by omega)];refine⟨by decide,gT (λh=>?_) (λh=>?_)⟩
  ·simp at h;exact hR _ _ (λH=>H k hk h) (by simp)
  ·simp at h;refine fJ (k+1) [] ⟨by omega,λm hm hmk=>?_⟩ (by omega) (by simp;exact wI);by_cases e:m=k
   ·subst e;exact h
   ·exact g2 m hm (by omega)
 ·have hk:k=i:=by simp at h;omega
  exact hQ _ _ (λm hm=>g2 m hm (by omega)) (by simp) (by simp)
theorem own0{c:Ctx}(hp:c.pure)(d:gy)(hl:d.needs.length<=zah){Q:Exit->St->Prop}{S:St}{g}
  (h0:iM [] S [(3,.c (.d (.int .i64 0))),(1,.c (.d (.rp d.enc 0)))] [])
  (hQ:∀T x,uH [] d.needs=true->Abs.look T 1=.c (.d (.rp d.enc 0))->Q (.exit 0) ⟨T,hpOf [],x⟩)
  (hR:∀T x,uH [] d.needs=false->Abs.look T 2=.c (.d (.bool false))->Q .ret ⟨T,hpOf [],x⟩):lU Pg c PD Q g S:=by
 have hl':=hl;unfold zah at hl;refine fU iC hp (λj:Nat=>j<=d.needs.length/\Ec d.needs j) (λj=>[(3,.c (.d (.int .i64 j))),(1,.c (.d (.rp d.enc 0)))]) (λ_=>[]) (λj=>d.needs.length-j) 0 [] ⟨by simp,λi h hj=>by omega⟩ h0 λj ⟨g1,g2⟩=>?_;unfold PD;have hd1:d.enc[1]?=some (.sl false 2 (iF d.needs)):=by rw[gy.enc_eq];try rfl
 simp[hd1];apply gT<;>intro h
 ·have hj:j<d.needs.length:=by simpa using h
  simp[iF,aA hj];apply gT<;>intro h
  ·simp at h;exact hR _ _ (Je λH=>(H j hj hj).1 h) (by simp)
  ·simp at h;refine PZ hp d hj hl' (by simp) (λT x H e1 e3=>?_) (λT x H e2=>?_)
   ·simp;simp[e3];refine fJ (j+1) [] ⟨by omega,λi hi hij=>?_⟩ (by omega) (by simp[e1];exact wI);by_cases e:i=j
    ·subst e;exact⟨h,H⟩
    ·exact g2 i hi (by omega)
   ·exact hR _ _ (Je λH'=>H (H' j hj hj).2) e2
 ·have hj:j=d.needs.length:=by simp at h;omega
  subst hj;exact hQ _ _ (Yt g2) (by simp)
theorem Gi{c:Ctx}(hp:c.pure)(d:gy)(hl:d.names.length<=zah){Q:Exit->St->Prop}{S:St}{g}
  (h0:iM [] S [(5,.c (.d (.int .i64 1))),(1,.c (.d (.rp d.enc 0)))] [])
  (hQ:∀T x,uk d.names=true->Q (.exit 4) ⟨T,hpOf [],x⟩)
  (hR:∀T x,uk d.names=false->Abs.look T 2=.c (.d (.bool false))->Q .ret ⟨T,hpOf [],x⟩):lU Pg c PE Q g S:=by
 unfold zah at hl;refine fU iC hp (λj:Nat=>1<=j/\(j<=d.names.length\/j=1)/\∀i (h:i+1<d.names.length),i+1<j->zD d.names[i+1] d.names[i]=false) (λj=>[(5,.c (.d (.int .i64 j))),(1,.c (.d (.rp d.enc 0)))]) (λ_=>[]) (λj=>d.names.length-j) 1 [] ⟨by simp,by simp,λi h hj=>by omega⟩ h0 λj ⟨g0,g1,g2⟩=>?_;unfold PE;have hd1:d.enc[2]?=some (.sl false 1 (encS d.names)):=by rw[gy.enc_eq];try rfl
 simp[hd1];apply gT<;>intro h
 ·have hj:j<d.names.length:=by simpa using h
  obtain⟨j,rfl⟩:∃k,j=k+1:=⟨j-1,by omega⟩
  have hw:IntKind.i64.wrap (j:Int)=j:=wI;simp[aA hj,hw,aA (show j<d.names.length by omega)];refine⟨by decide,gT (λh=>?_) (λh=>?_)⟩
  ·exact hR _ _ (PW hj (by unfold zD;exact h)) (by simp)
  ·refine fJ (j+2) [] ⟨by omega,by omega,λi hi hij=>?_⟩ (by omega) (by simp;rw[wI];omega);by_cases e:i=j
   ·subst e;unfold zD;exact h
   ·exact g2 i hi (by omega)
 ·have hj:d.names.length<=j:=by simp at h;omega
  exact hQ _ _ (PX λi hi=>g2 i hi (by omega))
theorem zok (d:gy):gu Pg 114 [.agg d.enc] (.one (.bool (nz d))):=by
 refine zmk (by simp) λo c hN hp=>?_;have hl:d.needs.length<=zah/\d.names.length<=zah:=by
  have:=o.1;rw[gy.enc_eq]at this;simp only[DV.ok,D.okL,D.ok,Ig,Ih,Bc,aU]at this;exact⟨this.2.1.1,this.2.2.1.1⟩
 unfold Y2;have e0:d.enc[0]?=some (.sl false 1 (encI d.tags)):=by rw[gy.enc_eq];try rfl
 have e2:d.enc[2]?=some (.sl false 1 (encS d.names)):=by rw[gy.enc_eq];try rfl
 have e3:d.enc[3]?=some (.sl false 5 (d.fields.map gy.enc)):=by rw[gy.enc_eq];try rfl
 have e4:d.enc[4]?=some (.sl false 5 (d.fn.map gy.enc)):=by rw[gy.enc_eq];try rfl
 by_cases k1:d.tags.length=6;rotate_left
 ·simp[e0,show¬((d.tags.length:Int)=6) by omega,nz,k1]
 by_cases k2:d.names.length=d.fields.length;rotate_left
 ·simp[e0,e2,e3,k1,show¬((d.names.length:Int)=(d.fields.length:Int)) by omega,nz,k2]
 have k2i:((d.names.length:Int)=(d.fields.length:Int))=True:=eq_true (by omega);have k1i:(d.tags.length:Int)=6:=by omega
 have ht4:d.tags[4]?=some (iE d 4):=by unfold iE;rw[getD,aA (by omega)];try rfl
 have ht5:d.tags[5]?=some (iE d 5):=by unfold iE;rw[getD,aA (by omega)];try rfl
 have fin:(d.fn.length=0\/d.fn.length=2)->¬(iE d 4≠0/\0<d.names.length\/iE d 5≠0/\0<d.fn.length)->nz d=(uH [] d.needs&&uk d.names):=λh h'=>by
  unfold nz;rw[bz ⟨k1,k2,h⟩,bz h'];simp
 have fon:¬(d.fn.length=0\/d.fn.length=2)\/(iE d 4≠0/\0<d.names.length\/iE d 5≠0/\0<d.fn.length)->nz d=false:=λh=>by
  unfold nz;rcases h with h|h
  ·rw[bK (λx=>h x.2.2)];try rfl
  ·rw[bK (p:=¬_) (λx=>x h)];simp
 have kn:d.names.length=0\/0<d.names.length:=by omega
 have kf:d.fn.length=0\/d.fn.length=2\/¬(d.fn.length=0\/d.fn.length=2):=by omega
 rcases kf with k3|k3|k3;rotate_right
 ·have a1:¬(d.fn.length:Int)=0:=by omega
  have a2:¬(d.fn.length:Int)=2:=by omega
  have a3:d.fn≠[]:=λe=>a1 (by rw[e];rfl);simp[e0,e2,e3,e4,k1i,k2i,a2,a3,fon (.inl k3)]
 all_goals
  have k3':(d.fn.length:Int)=(d.fn.length:Int):=rfl;rw[k3]at k3';by_cases k4:iE d 4=0;rotate_left
  ·rcases kn with kn|kn;rotate_left
   ·simp[e0,e2,e3,e4,k1i,k2i,k3,ht4,ht5,k4,kn,show(0:Int)<d.names.length by omega,fon (.inr (.inl ⟨k4,kn⟩))]
   ·by_cases k5:iE d 5=0
    all_goals
     first
      | (
        have hf:=fin (by omega) (by omega);simp[e0,e2,e3,e4,k1i,k2i,k3,ht4,ht5,k4,kn,k5,show((0:Int)=d.fields.length)=True from eq_true (by omega)];refine own0 hp d hl.1 (by simp) (λT x H e1=>?_) (λT x H e2=>?_)
        ·simp;refine Gi hp d hl.2 (by simp[e1]) (λT x H'=>?_) (λT x H' e2=>?_)
         ·simp[hf,H,H']
         ·simp[e2,hf,H,H']
        ·simp[e2,hf,H])
      | (
        have hf:=fon (.inr (.inr ⟨k5,by omega⟩))
        simp[e0,e2,e3,e4,k1i,k2i,k3,ht4,ht5,k4,kn,k5,show((0:Int)=d.fields.length)=True from eq_true (by omega),hf])
  ·by_cases k5:iE d 5=0
   all_goals
    first
     | (
       have hf:=fin (by omega) (by omega);simp[e0,e2,e3,e4,k1i,k2i,k3,ht4,ht5,k4,k5];refine own0 hp d hl.1 (by simp) (λT x H e1=>?_) (λT x H e2=>?_)
       ·simp;refine Gi hp d hl.2 (by simp[e1]) (λT x H'=>?_) (λT x H' e2=>?_)
        ·simp[hf,H,H']
        ·simp[e2,hf,H,H']
       ·simp[e2,hf,H])
     | (
       have hf:=fon (.inr (.inr ⟨k5,by omega⟩))
       simp[e0,e2,e3,e4,k1i,k2i,k3,ht4,ht5,k4,k5,hf])
mutual
def iU:gy->Bool
|.mk t n s f g=>nz (.mk t n s f g)&&(Gj f&&zF g)
def Gj:List gy->Bool
|[]=>true
|c::l=>(iU c&& !jX c idC)&&Gj l
def zF:List gy->Bool
|a::b::_=>iU a&&(iU b&& !(jX a idC&&jX b idC))
|_=>true
end
theorem Yu:∀l:List gy,Gj l=l.all λc=>iU c&& !jX c idC
|[]=>by simp[Gj]
|c::l=>by simp[Gj,Yu l]
theorem P6(d:gy):iU d=(nz d&&((d.fields.all λc=>iU c&& !jX c idC)&&zF d.fn)):=by
 cases d;simp only[iU,Yu,gy.fields,gy.fn]
theorem znd(d:gy)(ih:∀x,x∈d.fields\/x∈d.fn->gu Pg 68 [.agg x.enc] (.one (.bool (iU x)))):gu Pg 68 [.agg d.enc] (.one (.bool (iU d))):=by
 have e:=P6 d;refine zmj (by simp) λo c hN hp=>?_;have hl:d.fields.length<=zah:=by
  have:=o.1;rw[gy.enc_eq]at this;simp only[DV.ok,D.okL,D.ok,Ig,Ih,Bc,aU]at this;exact this.2.2.2.1.1
 unfold zah at hl;have e3:d.enc[3]?=some (.sl false 5 (d.fields.map gy.enc)):=by rw[gy.enc_eq];try rfl
 have e4:d.enc[4]?=some (.sl false 5 (d.fn.map gy.enc)):=by rw[gy.enc_eq];try rfl
 have e5:∀x:gy,x.enc.length=5:=λx=>by rw[gy.enc_eq];try rfl
 unfold Y1;simp[e5];refine gp (zok d) ?_;simp;apply gT<;>intro h
 ·simp at h;rw[e,h];try rfl
 ·simp at h;rw[h,Bool.true_and]at e;refine fV iC hp Oy [4] (λj:Nat=>j<=d.fields.length/\((d.fields.drop j).all λc=>iU c&& !jX c idC)=d.fields.all λc=>iU c&& !jX c idC) (λj=>[.c (.d (.int .i64 j))]) (λ_=>[]) (λj=>d.fields.length-j) 0 [] (by simp) (by simp[Oy]) λj ⟨g1,g2⟩=>?_;unfold Y0 Oy;simp[e3,e5];apply gT<;>intro h
  ·have hj:j<d.fields.length:=by simpa using h
   rw[aF hj,all_cons]at g2;simp[aA hj,e5];refine gp (ih _ (.inl (aP hj))) ?_;simp[e3,aA hj,e5];refine gp (Av _) ?_;simp;apply gT<;>intro h1
   ·simp at h1;rw[h1]at g2;apply gT<;>intro h2
    ·rw[h2]at g2;rw[e,<-g2];try rfl
    ·simp at h2;rw[h2]at g2;exact fJ (j+1) [] ⟨by omega,by simpa using g2⟩ (by omega) (by simp;exact wI)
   ·simp at h1;rw[h1]at g2;rw[e,<-g2];try rfl
  ·have hj:j=d.fields.length:=by simp at h;omega
   have:(d.fields.all λc=>iU c&& !jX c idC)=true:=by rw[<-g2,hj,aO];try rfl
   rw[this,Bool.true_and]at e;apply gT<;>intro h
   ·have h0:d.fn=[]:=by simpa using h
    simp[e,h0,zF]
   ·have h0:d.fn≠[]:=by simpa using h
    have h2:d.fn.length=2:=by
     have hown:=‹nz d=true›;simp only[nz,aG,aI]at hown;have:=hown.1.2.2;have:d.fn.length≠0:=λe=>h0 (aT.1 e);omega
    obtain⟨x,y,hxy⟩:∃x y,d.fn=[x,y]:=by
     match d.fn,h2 with
     |[x,y],_=>exact⟨x,y,rfl⟩
    rw[hxy]at e4;have hx:=ih x (.inr (by rw[hxy];simp));have hy:=ih y (.inr (by rw[hxy];simp));rw[hxy,zF]at e;rw[hxy];simp[hxy];refine gp hx ?_;simp[hxy];refine gp hy ?_;simp[hxy];refine gp (Av _) ?_;simp[hxy];refine gp (Av _) ?_;simp;cases m1:iU x<;>cases m2:iU y<;>cases m3:jX x idC<;>cases m4:jX y idC<;>simp[e,m1,m2,m3,m4]
mutual
theorem P7:∀(a:gy),gu Pg 68 [.agg a.enc] (.one (.bool (iU a)))
|.mk t n s f g=>znd _ λx hx=>hx.elim (λh=>P8 f x h) (λh=>P8 g x h)
theorem P8:∀(l:List gy) (x:gy),x∈l->gu Pg 68 [.agg x.enc] (.one (.bool (iU x)))
|c::l,x,h=>by
 cases aN.1 h with
 |inl e=>rw[e];exact P7 c
 |inr e=>exact P8 l x e
end
theorem Yv:∀(x y:List UInt8),decide (0<=Lib.compareBytes x y)=(Op.bytesLess y x||decide (y=x))
|[],[]=>by simp[Lib.compareBytes]
|[],b::y=>by simp[Lib.compareBytes,Op.bytesLess]
|a::x,[]=>by simp[Lib.compareBytes,Op.bytesLess]
| a::x,b::y=>by
 have ih:=Yv x y;simp only[Lib.compareBytes,Op.bytesLess];by_cases h1:a<b
 ·have h2:¬b<a:=λh=>absurd (UInt8.lt_trans h1 h) (fE _);have h3:¬b=a:=λh=>by rw[h]at h1;exact fE _ h1
  simp[h1,h2,h3]
 ·by_cases h2:b<a
  ·simp[h1,h2]
  ·have h3:b=a:=UInt8.le_antisymm (UInt8.not_lt.1 h1) (UInt8.not_lt.1 h2);subst h3;simp only[h1,if_false,ih];simp
theorem zIv(a b:fI):zD a b=decide (0<=Lib.compareBytes b.data.toList a.data.toList):=by
 rw[Yv];unfold zD;congr 1;rw[dO];simp only[aI];constructor
 ·intro h;rw[h]
 ·intro h;exact Go.WideShapes.bytes_inj h
def oC(l:List (fI × Int)):List (D × AV):=l.map λx=>(.str x.1,.c (.d (.bool true)))
theorem Yw(s:fI):∀(l:List (fI × Int)) (i:Nat),(∀x,x∈l->s≠x.1)->kN 1 (.str s) (oC l) i=some none
|[],i,_=>rfl
|x::l,i,h=>by
 have h0:=h x (by simp);have ih:=Yw s l (i+1) λy hy=>h y (by simp[hy]);simp only[oC]at ih;simp[oC,h0,ih]
theorem Yx(s:fI):∀(l:List (fI × Int)) (i:Nat),(∃x,x∈l/\s=x.1)->∃k,kN 1 (.str s) (oC l) i=some (some (k,.c (.d (.bool true))))
|[],i,h=>by obtain⟨x,hx,_⟩:=h;cases hx
| x::l,i,h=>by
 by_cases h0:s=x.1
 ·exact⟨i,by simp[oC,h0]⟩
 ·obtain⟨y,hy,e⟩:=h;have:∃y,y∈l/\s=y.1:=by
   cases aN.1 hy with
   |inl h=>subst h;exact absurd e h0
   |inr h=>exact⟨y,h,e⟩
  obtain⟨k,hk⟩:=Yx s l (i+1) this;simp only[oC]at hk;exact⟨k,by simp[oC,h0,hk]⟩
theorem zGX(f:Nat->Nat)(l:List (fI × Int)):(oC l).map (λe=>(e.1,AV.ren f e.2))=oC l:=by simp[oC]
theorem zCj(l:List (fI × Int))(x:fI × Int):oC (l++[x])=oC l++[(.str x.1,.c (.d (.bool true)))]:=by simp[oC]
theorem zH7{n:Nat}{l:List (fI × Int)}{a:D}{b:AV}(h:(a,b)∈oC l):AV.lt n b=true:=by
 simp only[oC,aa]at h;obtain⟨x,_,e⟩:=h;cases e;simp
@[simp] theorem gy.er_map(d:gy):d.enc.map D.er=d.enc:=by rw[gy.enc_eq];try rfl
def lL:List Int:=[0,0,0,0,0,0]
theorem Yy{ts:List (Nat × Nat)}{b c:Blk}(h:ts.length=[b,c].length):∃t u,ts=[t,u]:=by
 match ts,h with
 |[t,u],_=>exact⟨t,u,rfl⟩
theorem D5:MCall Pg 43 [] [] (.ag [.msl 1 0 0 6,.d (.sl true 2 []),.d (.sl true 1 []),.d (.sl true 5 []),.d (.sl true 5 [])]) [.arr 1 ((encI lL).map (·.map .d))]:=by
 refine zmi ⟨by simp,by simp,by simp,by simp,by simp,by simp[encI,lL,live],by simp[encI,lL]⟩ λts hts ok hb c hN hp=>?_;obtain rfl:=xk hts;unfold J8;simp;exact fT [1] [] (by simp[encI,lL])
def zk(x:fI × Int):List D:=[.str x.1,.int .i64 x.2]
def ix{α:Type}(q:α->Bool):Nat->List α->Int
|_,[]=> -1
|j,x::l=>if q x=true then(j:Int)else ix q (j+1) l
theorem Yz{α:Type}(q:α->Bool):∀(j:Nat) (l:List α),decide (0<=ix q j l)=l.any q
|_,[]=>by simp[ix]
| j,x::l=>by
 have ih:=Yz q (j+1) l;simp only[ix,any_cons];split
 ·rename_i h;rw[h,eF];simp
 ·rename_i h;rw[aL]at h;rw[h,d9];exact ih
def oM(a b:List (fI × Int)):List (fI × Int):=a++b.filter λn=> !a.any λm=>decide (m.1=n.1)
def il(c:gy):gy × gy:=match c.fn with
|f::g::_=>(f,g)
|_=>(idC,idC)
def lM(f g:gy):List gy:=if(jX f idC&&jX g idC)=true then []else [f,g]
end Go.Gr
namespace Go.Gr
open Go.Abs Go.Proofs Go.RowKit List
end Go.Gr
namespace Go.Gr
open Go.Abs Go.Proofs List
def ul:gy:=.mk [] [] [] [] []
def sH(l:List (fI × gy))(k:fI):gy:=match l with
|[]=>ul
|x::l=>if k=x.1 then x.2 else sH l k
def kT(l:List (fI × gy))(ks:List fI):List (fI × gy):=(ks.map λk=>(k,sH l k)).filter λx=> !jX x.2 idC
theorem ZA{l:List (fI × gy)}{ks:List fI}{j:Nat}(h:j<ks.length):kT l (ks.take (j+1))=kT l (ks.take j)++if jX (sH l ks[j]) idC=true then []else [(ks[j],sH l ks[j])]:=by
 unfold kT;rw[aJ h,dW,cB];by_cases q:jX (sH l ks[j]) idC=true<;>simp[q]
theorem ZB(l:List (fI × gy))(ks:List fI):(kT l ks).length<=ks.length:=by
 unfold kT;exact ak (bQ _ _) (by simp)
theorem Gl{l:List fI}{k:fI}:k∈zco l↔k∈l:=by
 unfold zco;simp only[aa,mem_mergeSort];constructor
 ·rintro⟨x,⟨s,hs,rfl⟩,rfl⟩
  simpa using hs
 ·intro h;exact⟨_,⟨k,h,rfl⟩,by simp⟩
end Go.Gr
namespace Go.Gr
open Go.Abs
def jY(a b:fI):Prop:=a.data.toList<b.data.toList
instance ltBDec (a b:fI):Decidable (jY a b):=inferInstanceAs (Decidable (a.data.toList<b.data.toList))
theorem Jf:∀(x y:List UInt8),Op.bytesLess x y=decide (x<y)
|[],[]=>by simp[Op.bytesLess]
|_::_,[]=>by simp[Op.bytesLess]
|[],_::_=>by simp[Op.bytesLess]
| a::x,b::y=>by
 rw[Op.bytesLess,Jf x y];by_cases h1:a<b
 ·simp[h1,eU]
 ·by_cases h2:b<a
  ·have:¬a=b:=λe=>by rw[e]at h2;exact fE _ h2
   simp[h1,h2,this,eU]
  ·have:a=b:=UInt8.le_antisymm (UInt8.not_lt.1 h2) (UInt8.not_lt.1 h1);simp[this,eU,fE]
theorem zl(a:fI):¬jY a a:=List.lt_irrefl _
theorem xm{a b c:fI}(h:jY a b)(k:jY b c):jY a c:=List.lt_trans h k
theorem D6{a b:fI}(h:a≠b):jY a b\/jY b a:=by
 by_cases h1:jY a b
 ·exact .inl h1
 ·by_cases h2:jY b a
  ·exact .inr h2
  ·have:a.data.toList=b.data.toList:=List.le_antisymm h2 h1;exact absurd (Go.WideShapes.bytes_inj this) h
theorem zod(a b:fI):(!zD b a)=decide (jY a b):=by
 unfold zD jY;rw[Jf];by_cases h:a=b
 ·subst h;simp[List.lt_irrefl]
 ·have h':¬b=a:=λe=>h e.symm;rcases D6 h with q|q
  ·have:¬jY b a:=λe=>zl _ (xm q e);unfold jY at q this;simp[h',q,this]
  ·have:¬jY a b:=λe=>zl _ (xm q e);unfold jY at q this;simp[h',q,this]
theorem ZC:∀{l:List fI},uk l=true↔l.Pairwise jY
|[]=>by simp[uk]
|[a]=>by simp[uk]
| a::b::l=>by
 rw[uk,zod,aG,aI,ZC (l:=b::l)];constructor
 ·rintro⟨h1,h2⟩
  refine List.Pairwise.cons (λc hc=>?_) h2;cases aN.1 hc with
  |inl e=>rw[e];exact h1
  |inr e=>exact xm h1 (List.rel_of_pairwise_cons h2 e)
 ·intro h;exact⟨List.rel_of_pairwise_cons h (by simp),h.of_cons⟩
theorem rT{l:List fI}(h:l.Pairwise jY):l.Nodup:=h.imp λh e=>by rw[e]at h;exact zl _ h
theorem P9{l k:List fI}(h1:l.Pairwise jY)(h2:k.Pairwise jY)(h:∀x,x∈l↔x∈k):l=k:=
 List.Perm.eq_of_pairwise (le:=jY) (λa b _ _ p q=>absurd (xm p q) (zl _)) h1 h2 ((List.perm_ext_iff_of_nodup (rT h1) (rT h2)).2 h)
theorem Pb{l:List fI}(hn:l.Nodup):(zco l).Pairwise jY:=by
 have tr:∀a b c:List UInt8,decide (a<=b)=true->decide (b<=c)=true->decide (a<=c)=true:=λa b c h1 h2=>by simp only[aI]at*;exact List.le_trans h1 h2
 have to:∀a b:List UInt8,(decide (a<=b)||decide (b<=a))=true:=λa b=>by simp only[dG,aI];exact List.le_total a b
 have h1:=List.pairwise_mergeSort tr to (l.map λs=>s.data.toList);have h2:((l.map λs=>s.data.toList).mergeSort λx y=>decide (x<=y)).Nodup:=by
  refine(List.mergeSort_perm _ _).nodup_iff.2 ?_;refine List.pairwise_map.2 (hn.imp λh e=>h (Go.WideShapes.bytes_inj e))
 unfold zco;rw[List.pairwise_map];refine(h1.and h2).imp λ{a b} ⟨p,q⟩=>?_;simp only[aI]at p;unfold jY;simp only;rcases D6 (a:=⟨a.toArray⟩) (b:=⟨b.toArray⟩) (λe=>q (by simpa using dP (λx:fI=>x.data.toList) e))with r|r
 ·exact r
 ·exact absurd r p
mutual
theorem Aw:∀(a b:gy),jX a b=true↔a=b
|.mk t n s f g,.mk t' n' s' f' g'=>by
 simp only[jX,aG,aI,gy.mk.injEq];rw[Pd f f',Pd g g']
theorem Pd:∀(a b:List gy),uG a b=true↔a=b
|[],[]=>by simp[uG]
|[],_::_=>by simp[uG]
|_::_,[]=>by simp[uG]
|a::l,b::k=>by
 simp only[uG,aG,dh];rw[Aw a b,Pd l k]
end
theorem Gm{a b:gy}:jX a b=false↔a≠b:=by
 rw[<-aL,Aw]
theorem Gn(a:gy):jX a a=true:=(Aw a a).2 rfl
theorem zk1(l:List (fI × Int)):uH [] l=true↔(∀x,x∈l->x.2≠0)/\(l.map (·.1)).Nodup:=by
 have key:∀(l:List (fI × Int)) (seen:List fI),uH seen l=true↔(∀x,x∈l->x.2≠0/\x.1∉seen)/\(l.map (·.1)).Nodup:=by
  intro l
  induction l with
  |nil=>intro seen;simp[uH]
  | cons x l ih=>
   intro seen;have hm:(!(seen.any λy=>decide (y=x.1)))=true↔x.1∉seen:=by
    simp;exact⟨λh hx=>h _ hx rfl,λh y hy e=>h (e▸hy)⟩
   simp only[uH,aG,aI];rw[ih,hm];simp only[List.map_cons,bf,aN,dU];constructor
   ·rintro⟨h1,h2,h3,h4⟩
    refine⟨λy hy=>?_,λh=>?_,h4⟩
    ·rcases hy with rfl|hy
     ·exact⟨h1,h2⟩
     ·exact⟨(h3 y hy).1,(h3 y hy).2.2⟩
    ·obtain⟨y,hy,e⟩:=aa.1 h;exact(h3 y hy).2.1 e
   ·rintro⟨h1,h2,h3⟩
    refine⟨(h1 x (.inl rfl)).1,(h1 x (.inl rfl)).2,λy hy=>⟨(h1 y (.inr hy)).1,λe=>h2 ?_,(h1 y (.inr hy)).2⟩,h3⟩;exact aa.2 ⟨y,hy,e⟩
 rw[key];simp
theorem gy.ext'{a b:gy}(h1:a.tags=b.tags)(h2:a.needs=b.needs)(h3:a.names=b.names)(h4:a.fields=b.fields)(h5:a.fn=b.fn):a=b:=by
 cases a;cases b;simp only[gy.tags,gy.needs,gy.names,gy.fields,gy.fn]at*
 subst h1 h2 h3 h4 h5;rfl
structure May (d:gy):Prop where
 tags:d.tags.length=6
 len:d.names.length=d.fields.length
 fn:d.fn=[]\/∃f g,d.fn=[f,g]/\iU f=true/\iU g=true/\¬(f=idC/\g=idC)
 t4:iE d 4≠0->d.names=[]
 t5:iE d 5≠0->d.fn=[]
 needs:(∀x,x∈d.needs->x.2≠0)/\(d.needs.map (·.1)).Nodup
 names:d.names.Pairwise jY
 fields:∀x,x∈d.fields->iU x=true/\x≠idC
theorem sI(d:gy):iU d=true↔May d:=by
 rw[P6];unfold nz;simp only[aG,aI];rw[zk1,ZC,ah];constructor
 ·rintro⟨⟨⟨h1,h2,h3⟩,h4,h5,h6⟩,h7,h8⟩
  refine⟨h1,h2,?_,λh=>?_,λh=>?_,h5,h6,λx hx=>?_⟩
  ·rcases h3 with h3|h3
   ·exact .inl (aT.1 h3)
   ·obtain⟨x,y,hxy⟩:∃x y,d.fn=[x,y]:=by
     match d.fn,h3 with
     |[x,y],_=>exact⟨x,y,rfl⟩
    rw[hxy,zF]at h8;simp only[aG,bD,Bool.and_eq_false_iff,Gm]at h8;exact .inr ⟨x,y,hxy,h8.1,h8.2.1,λ⟨e1,e2⟩=>h8.2.2.elim (λq=>q e1) (λq=>q e2)⟩
  ·refine aT.1 ?_;omega
  ·refine aT.1 ?_;omega
  ·have:=h7 x hx;simp only[aG,bD,Gm]at this;exact this
 ·rintro⟨h1,h2,h3,h4,h5,h6,h7,h8⟩
  refine⟨⟨⟨h1,h2,?_⟩,?_,h6,h7⟩,λx hx=>?_,?_⟩
  ·rcases h3 with h3|⟨f,g,h3,_⟩<;>rw[h3]<;>simp
  ·rintro(⟨q,r⟩|⟨q,r⟩)
   ·rw[h4 q]at r;simp at r
   ·rw[h5 q]at r;simp at r
  ·simp only[aG,bD,Gm];exact h8 x hx
  ·rcases h3 with h3|⟨f,g,h3,q1,q2,q3⟩
   ·rw[h3];try rfl
   ·rw[h3,zF];simp only[aG,bD,Bool.and_eq_false_iff,Gm];refine⟨q1,q2,?_⟩;by_cases e:f=idC
    ·exact .inr λe'=>q3 ⟨e,e'⟩
    ·exact .inl e
instance memBDec (k:fI) (l:List fI):Decidable (k∈l):=decidable_of_iff (l.any (λx=>decide (x=k))=true) (by simp)
def qZ:List fI->List gy->fI->gy
|n::ns,f::fs,k=>if k=n then f else qZ ns fs k
|_,_,_=>idC
def jy(c:gy)(k:fI):gy:=qZ c.names c.fields k
theorem yJ:∀{ns:List fI} {fs:List gy} {k:fI},k∉ns->qZ ns fs k=idC
|[],fs,k,h=>by simp[qZ]
|n::ns,[],k,h=>by simp[qZ]
|n::ns,f::fs,k,h=>by
 simp only[aN,dU]at h;rw[qZ,aB h.1,yJ h.2]
theorem Gp:∀{ns:List fI} {fs:List gy} {k:fI},ns.length=fs.length->k∈ns->qZ ns fs k∈fs
| n::ns,f::fs,k,e,h=>by
 rw[qZ];split
 ·simp
 ·rename_i q;have:=Gp (ns:=ns) (fs:=fs) (k:=k) (by simpa using e) ((aN.1 h).resolve_left q);simp[this]
|_::_,[],_,e,_=>by simp at e
theorem ZE:∀{ns:List fI} {fs:List gy} {j:Nat} (h:j<ns.length) (h':j<fs.length),ns.Nodup->qZ ns fs ns[j]=fs[j]
|n::ns,f::fs,0,_,_,_=>by simp[qZ]
|n::ns,f::fs,j+1,h,h',hn=>by
 simp only[bf]at hn;simp only[List.getElem_cons_succ];have hj:j<ns.length:=by simpa using h
 have hne:¬ns[j]=n:=λe=>hn.1 (e▸aP hj);rw[qZ,aB hne];exact ZE _ _ hn.2
theorem ZF:∀{ns:List fI} {fs gs:List gy},ns.length=fs.length->ns.length=gs.length->ns.Nodup->(∀k,qZ ns fs k=qZ ns gs k)->fs=gs
|[],[],[],_,_,_,_=>rfl
| n::ns,f::fs,g::gs,h1,h2,hn,h=>by
 have h0:=h n;simp only[bf]at hn;simp only[qZ,if_true]at h0;rw[h0,ZF (ns:=ns) (fs:=fs) (gs:=gs) (by simpa using h1) (by simpa using h2) hn.2 λk=>by
  by_cases q:k=n
  ·rw[q,yJ hn.1,yJ hn.1]
  ·have:=h k
   simpa only[qZ,aB q]using this]
|[],f::fs,_,h1,_,_,_=>by simp at h1
|[],[],g::gs,_,h2,_,_=>by simp at h2
|n::ns,[],_,h1,_,_,_=>by simp at h1
|n::ns,f::fs,[],_,h2,_,_=>by simp at h2
theorem D7:iU idC=true:=by decide
theorem May.idC:May idC:=(sI _).1 D7
theorem May.field{c:gy}(h:May c)(k:fI):iU (jy c k)=true:=by
 unfold jy;by_cases q:k∈c.names
 ·exact(h.fields _ (Gp h.len q)).1
 ·rw[yJ q];exact D7
theorem May.field_ne{c:gy}(h:May c){k:fI}:jy c k≠Go.Gr.idC↔k∈c.names:=by
 unfold jy;constructor
 ·intro q;exact Decidable.byContradiction λe=>q (yJ e)
 ·intro q;exact(h.fields _ (Gp h.len q)).2
theorem May.pair{c:gy}(h:May c):iU (il c).1=true/\iU (il c).2=true:=by
 unfold il;rcases h.fn with e|⟨f,g,e,h1,h2,_⟩<;>rw[e]
 ·exact⟨D7,D7⟩
 ·exact⟨h1,h2⟩
theorem May.pair_fn{c:gy}(h:May c):c.fn=lM (il c).1 (il c).2:=by
 unfold il lM;rcases h.fn with e|⟨f,g,e,h1,h2,h3⟩<;>rw[e]
 ·simp[Gn]
 ·rw[aB];simp only[aG,Aw];exact h3
theorem zFn{c:gy}{f g:gy}(h:c.fn=lM f g):il c=(f,g):=by
 unfold il;rw[h];unfold lM;split
 ·rename_i x y l e;split at e
  ·cases e
  ·cases e;rfl
 ·rename_i e;split at e
  ·rename_i q;simp only[aG,Aw]at q;rw[q.1,q.2]
  ·exact absurd rfl (e _ _ _)
theorem May.ext{a b:gy}(ha:May a)(hb:May b)(h1:a.tags=b.tags)(h2:a.needs=b.needs)(h3:∀k,jy a k=jy b k)(h4:il a=il b):a=b:=by
 have hn:a.names=b.names:=P9 ha.names hb.names λk=>by
  rw[<-ha.field_ne,<-hb.field_ne,h3]
 refine gy.ext' h1 h2 hn ?_ ?_
 ·refine ZF ha.len (by rw[hn];exact hb.len) (rT ha.names) λk=>?_;have:=h3 k;unfold jy at this;rw[this,hn]
 ·rw[ha.pair_fn,hb.pair_fn,h4]
def kG(a b:List Int):List Int:=List.zipWith (λx y=>if x=0 then y else x) a b
def qQ(a b:gy):List (fI × Int):=if iE a 4=0 then oM a.needs b.needs else a.needs
def w9(a b:gy):List fI:=zco (a.names++b.names.filter λk=> !decide (k∈a.names))
def busy(l:List (fI × gy)):List (fI × gy):=l.filter λx=> !jX x.2 idC
def pK(v:gy->gy->gy)(a b:gy):List (fI × gy):=busy ((w9 a b).map λk=>(k,v (jy a k) (jy b k)))
def iZ(v:gy->gy->gy)(a b:gy):gy:=
.mk (kG a.tags b.tags) (qQ a b) (if(kG a.tags b.tags).getD 4 0=0 then(pK v a b).map (·.1)else []) (if(kG a.tags b.tags).getD 4 0=0 then(pK v a b).map (·.2)else [])
 (if(kG a.tags b.tags).getD 5 0=0 then lM (v (il b).1 (il a).1) (v (il a).2 (il b).2)else [])
def mg:Nat->gy->gy->gy
|0,_,_=>idC
|n+1,a,b=>iZ (mg n) a b
theorem zFo{a b:List Int}(ha:a.length=6)(hb:b.length=6)(i:Nat):(kG a b).getD i 0=if a.getD i 0=0 then b.getD i 0 else a.getD i 0:=by
 unfold kG;simp only[aH,List.getElem?_zipWith];by_cases h:i<6
 ·rw[aA (by omega),aA (by omega)];simp
 ·rw[aS (by omega),aS (by omega)];simp
theorem D8{a b:List Int}(ha:a.length=6)(hb:b.length=6):(kG a b).length=6:=by simp[kG,ha,hb]
theorem ZG{a b:List Int}(ha:a.length=6)(hb:b.length=6)(h:∀i,a.getD i 0=b.getD i 0):a=b:=by
 refine List.ext_getElem (by omega) λi h1 h2=>?_;have:=h i;simpa[aH,aA h1,aA h2]using this
theorem ZH{w:fI->gy}:∀{ks:List fI},ks.Nodup->∀k,qZ ((busy (ks.map λk=>(k,w k))).map (·.1)) ((busy (ks.map λk=>(k,w k))).map (·.2)) k=if k∈ks then w k else idC
|[],_,k=>by simp[busy,qZ]
| x::ks,hn,k=>by
 simp only[bf]at hn;have ih:=ZH (w:=w) hn.2 k;by_cases q:jX (w x) idC=true
 ·have e:busy ((x::ks).map λk=>(k,w k))=busy (ks.map λk=>(k,w k)):=by simp[busy,q]
  rw[e,ih];by_cases qk:k=x
  ·subst qk;rw[aB hn.1,aC (by simp),(Aw _ _).1 q]
  ·simp[qk]
 ·have e:busy ((x::ks).map λk=>(k,w k))=(x,w x)::busy (ks.map λk=>(k,w k)):=by simp[busy,q]
  rw[e];simp only[List.map_cons,qZ];by_cases qk:k=x
  ·subst qk;simp
  ·rw[aB qk,ih];simp[qk]
theorem Pe{a b:gy}{k:fI}:k∈w9 a b↔k∈a.names\/k∈b.names:=by
 unfold w9;rw[Gl];simp only[aM,bB,bD,bM];by_cases h:k∈a.names<;>simp[h]
theorem ZI{a b:gy}(ha:a.names.Nodup)(hb:b.names.Nodup):(a.names++b.names.filter λk=> !decide (k∈a.names)).Nodup:=by
 refine bX.2 ⟨ha,hb.filter _,λx hx y hy e=>?_⟩;simp only[bB,bD,bM]at hy;exact hy.2 (e▸hx)
theorem ZJ{a b:gy}(ha:May a)(hb:May b):(w9 a b).Pairwise jY:=Pb (ZI (rT ha.names) (rT hb.names))
section
variable {v:gy->gy->gy} {a b:gy}
theorem D9(ha:May a)(hb:May b)(i:Nat):iE (iZ v a b) i=if iE a i=0 then iE b i else iE a i:=zFo ha.tags hb.tags i
theorem ZK(ha:May a)(hb:May b)(v0:v idC idC=idC)(k:fI):jy (iZ v a b) k=if iE (iZ v a b) 4=0 then v (jy a k) (jy b k)else idC:=by
 have ht:iE (iZ v a b) 4=(kG a.tags b.tags).getD 4 0:=rfl;have hN:(iZ v a b).names=if(kG a.tags b.tags).getD 4 0=0 then(pK v a b).map (·.1)else []:=rfl;have hF:(iZ v a b).fields=if(kG a.tags b.tags).getD 4 0=0 then(pK v a b).map (·.2)else []:=rfl;have hf:jy (iZ v a b) k=qZ (iZ v a b).names (iZ v a b).fields k:=rfl;rw[ht,hf,hN,hF];split
 ·rename_i h;unfold pK;rw[ZH (w:=λk=>v (jy a k) (jy b k)) (rT (ZJ ha hb))];by_cases q:k∈w9 a b
  ·rw[aC q]
  ·rw[aB q];rw[Pe,dU]at q;have e1:jy a k=idC:=yJ q.1;have e2:jy b k=idC:=yJ q.2;rw[e1,e2,v0]
 ·rename_i h;rfl
theorem ZL(v0:v idC idC=idC):il (iZ v a b)=if iE (iZ v a b) 5=0 then(v (il b).1 (il a).1,v (il a).2 (il b).2)else(idC,idC):=by
 have ht:iE (iZ v a b) 5=(kG a.tags b.tags).getD 5 0:=rfl;rw[ht];split
 ·rename_i h;refine zFn ?_;unfold iZ;simp only[gy.fn,h,if_true]
 ·rename_i h;unfold il iZ;simp only[gy.fn,h,if_false]
theorem zCl{a b:List (fI × Int)}(ha:(a.map (·.1)).Nodup)(hb:(b.map (·.1)).Nodup):((oM a b).map (·.1)).Nodup:=by
 unfold oM;rw[List.map_append];refine bX.2 ⟨ha,?_,λx hx y hy e=>?_⟩
 ·exact List.Sublist.nodup (List.filter_sublist.map _) hb
 ·obtain⟨z,hz,rfl⟩:=aa.1 hy;simp only[bB,bD,dX,aI]at hz;obtain⟨u,hu,rfl⟩:=aa.1 hx;exact hz.2 u hu e
theorem Pf(ha:May a)(hb:May b)(hv:∀x y,iU x=true->iU y=true->iU (v x y)=true):May (iZ v a b) where
 tags:=D8 ha.tags hb.tags
 len:=by
  unfold iZ;simp only[gy.names,gy.fields];split<;>simp
 fn :=by
  unfold iZ;simp only[gy.fn];split
  ·unfold lM;split
   ·exact .inl rfl
   ·rename_i q;simp only[aG,Aw]at q;exact .inr ⟨_,_,rfl,hv _ _ hb.pair.1 ha.pair.1,hv _ _ ha.pair.2 hb.pair.2,q⟩
  ·exact .inl rfl
 t4:=λh=>by
  have ht:iE (iZ v a b) 4=(kG a.tags b.tags).getD 4 0:=rfl;rw[ht]at h;unfold iZ;simp only[gy.names,h,if_false]
 t5:=λh=>by
  have ht:iE (iZ v a b) 5=(kG a.tags b.tags).getD 5 0:=rfl;rw[ht]at h;unfold iZ;simp only[gy.fn,h,if_false]
 needs:=by
  show(∀x,x∈qQ a b->x.2≠0)/\((qQ a b).map (·.1)).Nodup;unfold qQ;split
  ·refine⟨λx hx=>?_,zCl ha.needs.2 hb.needs.2⟩;unfold oM at hx;simp only[aM,bB]at hx;exact hx.elim (ha.needs.1 x) (λh=>hb.needs.1 x h.1)
  ·exact ha.needs
 names:=by
  unfold iZ;simp only[gy.names];split
  ·unfold pK busy;refine List.Pairwise.sublist (List.filter_sublist.map _) ?_;rw[bv];have:((λx:fI × gy=>x.1)∘λk=>(k,v (jy a k) (jy b k)))=id:=rfl;rw[this,List.map_id];exact ZJ ha hb
  ·exact List.Pairwise.nil
 fields:=by
  unfold iZ;simp only[gy.fields];split
  ·intro x hx;unfold pK busy at hx;simp only[aa,bB,bD,Gm]at hx;obtain⟨y,⟨⟨k,_,rfl⟩,h2⟩,rfl⟩:=hx;exact⟨hv _ _ (ha.field k) (hb.field k),h2⟩
  ·intro x hx;cases hx
end
def oz:Nat->gy->Prop
|0,c=>c=idC
|n+1,c=>(∀x,x∈c.fields->oz n x)/\∀x,x∈c.fn->oz n x
theorem Jg:∀n,oz n idC
|0=>rfl
|n+1=>⟨(λx hx=>by cases hx),(λx hx=>by cases hx)⟩
theorem yK{n:Nat}{c:gy}(h:oz (n+1) c)(hl:c.names.length=c.fields.length)(k:fI):oz n (jy c k):=by
 unfold jy;by_cases q:k∈c.names
 ·exact h.1 _ (Gp hl q)
 ·rw[yJ q];exact Jg n
theorem sS{n:Nat}{c:gy}(h:oz (n+1) c):oz n (il c).1/\oz n (il c).2:=by
 unfold il;split
 ·rename_i f g l e;exact⟨h.2 f (by rw[e];simp),h.2 g (by rw[e];simp)⟩
 ·exact⟨Jg n,Jg n⟩
theorem ZM(n:Nat)(a b:gy):mg (n+1) a b=iZ (mg n) a b:=rfl
theorem Ed:∀n,mg n idC idC=idC
|0=>rfl
|n+1=>by
 have ih:=Ed n;simp[mg,iZ,kG,qQ,oM,pK,busy,w9,zco,il,idC,gy.tags,gy.needs,gy.names,gy.fields,gy.fn,iE,lM]at ih⊢;rw[ih];simp[Gn]
theorem Jh:∀(n:Nat) (a b:gy),iU a=true->iU b=true->iU (mg n a b)=true
|0,_,_,_,_=>D7
|n+1,a,b,ha,hb=>(sI _).2 (Pf ((sI _).1 ha) ((sI _).1 hb) (Jh n))
theorem Ji:∀(n:Nat) {a b:gy},iU a=true->iU b=true->oz n a->oz n b->oz n (mg n a b)
|0,_,_,_,_,_,_=>rfl
| n +1,a,b,ma,mb,ha,hb=>by
 have Ma:=(sI _).1 ma;have Mb:=(sI _).1 mb;refine⟨λx hx=>?_,λx hx=>?_⟩
 ·unfold mg iZ at hx;simp only[gy.fields]at hx;split at hx
  ·unfold pK busy at hx;simp only[aa,bB]at hx;obtain⟨y,⟨⟨k,_,rfl⟩,h2⟩,rfl⟩:=hx;exact Ji n (Ma.field k) (Mb.field k) (yK ha Ma.len k) (yK hb Mb.len k)
  ·cases hx
 ·unfold mg iZ at hx;simp only[gy.fn]at hx;split at hx
  ·unfold lM at hx;split at hx
   ·cases hx
   ·simp only[aN,List.not_mem_nil,fC]at hx;rcases hx with rfl|rfl
    ·exact Ji n Mb.pair.1 Ma.pair.1 (sS hb).1 (sS ha).1
    ·exact Ji n Ma.pair.2 Mb.pair.2 (sS ha).2 (sS hb).2
  ·cases hx
section
variable {a b c:gy}
theorem May.field4(h:May a)(q:iE a 4≠0)(k:fI):jy a k=Go.Gr.idC:=by
 unfold jy;rw[h.t4 q];exact yJ (by simp)
theorem May.pair5(h:May a)(q:iE a 5≠0):il a=(Go.Gr.idC,Go.Gr.idC):=by
 unfold il;rw[h.t5 q]
end
theorem Ay(i:Nat):iE idC i=0:=by
 unfold iE idC;simp only[gy.tags,aH]
 match i with
 |0|1|2|3|4|5=>rfl
 |i+6=>simp
theorem ZN(k:fI):jy idC k=idC:=rfl
theorem ZO:il idC=(idC,idC):=rfl
theorem CB:∀(n:Nat) (a:gy),oz n a->iU a=true->mg n a idC=a/\mg n idC a=a
|0,a,h,_=>by
 have:a=idC:=h;rw[this];exact⟨rfl,rfl⟩
| n +1,a,h,ma=>by
 have Ma:=(sI _).1 ma;have v0:=Ed n;have M1:May (iZ (mg n) a idC):=Pf Ma May.idC (Jh n);have M2:May (iZ (mg n) idC a):=Pf May.idC Ma (Jh n);constructor
 ·rw[ZM];refine May.ext M1 Ma (ZG M1.tags Ma.tags λi=>?_) ?_ (λk=>?_) ?_
  ·have:=D9 (v:=mg n) Ma May.idC i;rw[Ay]at this;refine this.trans ?_;split
   ·rename_i q;exact q.symm
   ·rfl
  ·show qQ a idC=a.needs;unfold qQ;split
   ·show oM a.needs []=a.needs;simp[oM]
   ·rfl
  ·rw[ZK Ma May.idC v0,D9 Ma May.idC,Ay,ZN];by_cases q:iE a 4=0
   ·rw[aC (by rw[aC q])];exact(CB n _ (yK h Ma.len k) (Ma.field k)).1
   ·rw[aB (by rw[aB q];exact q)];exact(Ma.field4 q k).symm
  ·rw[ZL v0,D9 Ma May.idC,Ay,ZO];by_cases q:iE a 5=0
   ·rw[aC (by rw[aC q])];rw[(CB n _ (sS h).1 Ma.pair.1).2,(CB n _ (sS h).2 Ma.pair.2).1]
   ·rw[aB (by rw[aB q];exact q)];exact(Ma.pair5 q).symm
 ·rw[ZM];refine May.ext M2 Ma (ZG M2.tags Ma.tags λi=>?_) ?_ (λk=>?_) ?_
  ·have:=D9 (v:=mg n) May.idC Ma i;rw[Ay,aC rfl]at this;exact this
  ·show qQ idC a=a.needs;unfold qQ;rw[Ay,aC rfl];show oM [] a.needs=a.needs;unfold oM;simp
  ·rw[ZK May.idC Ma v0,D9 May.idC Ma,Ay,ZN,aC rfl];by_cases q:iE a 4=0
   ·rw[aC q];exact(CB n _ (yK h Ma.len k) (Ma.field k)).2
   ·rw[aB q];exact(Ma.field4 q k).symm
  ·rw[ZL v0,D9 May.idC Ma,Ay,ZO,aC rfl];by_cases q:iE a 5=0
   ·rw[aC q];rw[(CB n _ (sS h).1 Ma.pair.1).1,(CB n _ (sS h).2 Ma.pair.2).2]
   ·rw[aB q];exact(Ma.pair5 q).symm
end Go.Gr
namespace Go.Gr
open Go.Abs Go.Proofs List
def kQ:List (fI × gy)->fI->gy->List (fI × gy)
|[],k,d=>[(k,d)]
|x::l,k,d=>if k=x.1 then(k,d)::l else x::kQ l k d
theorem Jj{k:fI}{d:gy}:∀{l:List (fI × gy)},(kQ l k d).map (·.1)=if k∈l.map (·.1)then l.map (·.1)else l.map (·.1)++[k]
|[]=>by simp[kQ]
| x::l=>by
 by_cases e:k=x.1
 ·simp[kQ,e]
 ·have hh:kQ (x::l) k d=x::kQ l k d:=by simp[kQ,e]
  have ih:=Jj (k:=k) (d:=d) (l:=l);rw[hh,map_cons,ih];by_cases q:k∈l.map (·.1)
  ·rw[aC q,aC (by simp only[map_cons,aN];exact .inr q),map_cons]
  ·rw[aB q,aB (by simp only[map_cons,aN,dU];exact⟨e,q⟩),map_cons,cons_append]
theorem ZP{k:fI}{d:gy}:∀{l:List (fI × gy)} {q:fI},sH (kQ l k d) q=if q=k then d else sH l q
|[],q=>by simp[kQ,sH]
| x::l,q=>by
 by_cases e:k=x.1
 ·subst e;simp only[kQ,if_true,sH];by_cases e':q=x.1<;>simp[e']
 ·simp only[kQ,aB e,sH,ZP (l:=l)];by_cases e':q=x.1
  ·subst e';have:¬x.1=k:=λh=>e h.symm;simp[this]
  ·simp[e']
theorem ZQ{k:fI}{d f:gy}:∀{l:List (fI × gy)},kQ (kQ l k f) k d=kQ l k d
|[]=>by simp[kQ]
|x::l=>by
 by_cases e:k=x.1
 ·simp[kQ,e]
 ·simp[kQ,e,ZQ (l:=l)]
theorem six{l:List Int}(h:l.length=6):∃a b c d e f,l=[a,b,c,d,e,f]:=by
 match l,h with
 |[a,b,c,d,e,f],_=>exact⟨a,b,c,d,e,f,rfl⟩
def nR(L:List Int)(j:Nat):List Int:=L.take j++replicate (6-j) 0
theorem Ph{L:List Int}(hL:L.length=6){j:Nat}(h:j<6):(nR L j).set j L[j]=nR L (j+1):=by
 obtain⟨a,b,c,d,e,f,rfl⟩:=six hL
 match j,h with
 |0,_|1,_|2,_|3,_|4,_|5,_=>rfl
theorem Jk(l:List Int)(j:Nat)(x:Int):encI (l.set j x)=(encI l).set j [.int .i64 x]:=by simp[encI,fA]
def Gq(v:gy->gy->gy)(a b:gy)(j:Nat)(l:List (fI × gy)):Prop:=
 l.map (·.1)=a.names++(b.names.take j).filter (λk=> !decide (k∈a.names))/\∀k,k∈l.map (·.1)->sH l k=if k∈b.names.take j then v (jy a k) (jy b k)else jy a k
structure qz (B:Nat) (d:gy):Prop where
 needs:d.needs.length<=B
 fields:d.fields.length<=B
 fn:d.fn.length<=B
theorem wh{l:List Int}(h:l.length=6){i:Nat}(hi:i<6):l[i]?=some (l.getD i 0):=by
 rw[aH,aA (by omega)];try rfl
theorem Ee{α:Type}{l:List α}(h:l.Nodup){j:Nat}(hj:j<l.length):l[j]∉l.take j:=λhm=>by
 obtain⟨i,hi,e⟩:=bW hm;rw[getElem_take]at e;have hi':i<j:=by simp at hi;omega
 exact(bZ.1 h) i j (by omega) hj hi' e
theorem Gs{α:Type}{l:List α}{j:Nat}(hj:j<l.length){k:α}:k∈l.take (j+1)↔k∈l.take j\/k=l[j]:=by
 rw[aJ hj,aM,aK]
theorem Pi{l:List fI}{f:List gy}(h:l.length=f.length):(l.zip f).map (·.1)=l:=by
 rw[map_fst_zip (by omega)]
theorem zz1{l:List fI}{f:List gy}(h:l.length=f.length){j:Nat}:((l.zip f).take j).map (·.1)=l.take j:=by
 rw[map_take,Pi h]
theorem ZR:∀{l:List fI} {f:List gy} {k:fI},l.length=f.length->k∈l->sH (l.zip f) k=qZ l f k
| n::l,x::f,k,h,hk=>by
 simp only[zip_cons_cons,sH,qZ];split
 ·rfl
 ·rename_i q;exact ZR (by simpa using h) ((aN.1 hk).resolve_left q)
|_::_,[],_,h,_=>by simp at h
theorem zHO{v:gy->gy->gy}{a b:gy}(Ma:May a):Gq v a b 0 (a.names.zip a.fields):=by
 refine⟨by rw[Pi Ma.len];simp,λk hk=>?_⟩;rw[Pi Ma.len]at hk;simp;exact ZR Ma.len hk
theorem zHP{v:gy->gy->gy}{a b:gy}{j:Nat}{l:List (fI × gy)}(Ma:May a)(Mb:May b)(hj:j<b.names.length)(h:Gq v a b j l){d:gy}(hd:d=v (jy a b.names[j]) (jy b b.names[j])):
  Gq v a b (j+1) (kQ l b.names[j] d):=by
 obtain⟨h1,h2⟩:=h;have hnd:=rT Mb.names;have hnot:b.names[j]∉b.names.take j:=Ee hnd hj;constructor
 ·rw[Jj,h1,aJ hj,cB];by_cases q:b.names[j]∈a.names
  ·rw[aC (by simp[q])];simp[q]
  ·rw[aB (by simp only[aM,bB,dU];exact⟨q,λh=>hnot h.1⟩)];simp[q]
 ·intro k hk;rw[ZP];simp only[Gs hj];by_cases q:k=b.names[j]
  ·subst q;simp[hd]
  ·rw[aB q];have hk':k∈l.map (·.1):=by
    rw[Jj]at hk;split at hk
    ·exact hk
    ·simp only[aM,aK]at hk;exact hk.resolve_right q
   rw[h2 k hk'];simp[q]
abbrev jq:Blk:=.box [.d (.sl true 1 []),.d (.sl true 2 []),.d (.sl true 1 []),.d (.sl true 5 []),.d (.sl true 5 [])]
abbrev vv(T:List Int)(N:List (fI × Int)):Blk:=.box [.d (.sl false 1 (encI T)),.d (.sl false 2 (iF N)),.d (.sl true 1 []),.d (.sl true 5 []),.d (.sl true 5 [])]
abbrev vw(a b:gy):List (Nat × AV):=[(2,.c (.d (.rp a.enc 0))),(3,.c (.d (.rp b.enc 0))),(4,.c (.ptr 0 0)),(5,.c (.ptr 2 0))]
@[simp] theorem zJ5:iF []=[]:=rfl
@[simp] theorem zJ6:encI []=[]:=rfl
theorem St.forget{F:St->Prop}{t:List (Nat × AV)}{m:Hp}{n:Nat}(R:List (Nat × AV)->Hp->Prop)(hr:R t m)(h:∀T M,R T M->F ⟨T,M,n⟩):F ⟨t,m,n⟩:=h t m hr
theorem May.fn_len{c:gy}(h:May c):c.fn.length=0\/c.fn.length=2:=by
 rcases h.fn with e|⟨f,g,e,_⟩<;>rw[e]<;>simp
mutual
def lw(B:Nat):gy->Prop
|.mk t n s f g=>n.length<=B/\f.length<=B/\g.length<=B/\vz B f/\vz B g
def vz(B:Nat):List gy->Prop
|[]=>True
|c::l=>lw B c/\vz B l
end
theorem ZT(B:Nat):∀l:List gy,vz B l↔∀x,x∈l->lw B x
|[]=>by simp[vz]
|c::l=>by simp[vz,ZT B l]
theorem zG(B:Nat)(d:gy):lw B d↔d.needs.length<=B/\d.fields.length<=B/\d.fn.length<=B/\(∀x,x∈d.fields->lw B x)/\∀x,x∈d.fn->lw B x:=by
 cases d;simp only[lw,ZT,gy.needs,gy.fields,gy.fn]
theorem Az(B:Nat):lw B idC:=by simp[lw,idC,vz]
theorem Ef{B:Nat}{c:gy}(h:lw B c)(hl:c.names.length=c.fields.length)(k:fI):lw B (jy c k):=by
 unfold jy;by_cases q:k∈c.names
 ·exact((zG B c).1 h).2.2.2.1 _ (Gp hl q)
 ·rw[yJ q];exact Az B
theorem yL{B:Nat}{c:gy}(h:lw B c):lw B (il c).1/\lw B (il c).2:=by
 have h':=((zG B c).1 h).2.2.2.2;unfold il;split
 ·rename_i f g l e;rw[e]at h';exact⟨h' f (by simp),h' g (by simp)⟩
 ·exact⟨Az B,Az B⟩
theorem CE{B:Nat}{c:gy}(h:lw B c):qz B c:=by
 have:=(zG B c).1 h;exact⟨this.1,this.2.1,this.2.2.1⟩
theorem Pj{B B':Nat}(hB:B<=B'):∀(n:Nat) {c:gy},oz n c->lw B c->lw B' c
|0,c,hn,h=>by
 have:c=idC:=hn;rw[this];exact Az B'
|n+1,c,hn,h=>by
 rw[zG]at h⊢;exact⟨by omega,by omega,by omega,λx hx=>Pj hB n (hn.1 x hx) (h.2.2.2.1 x hx),λx hx=>Pj hB n (hn.2 x hx) (h.2.2.2.2 x hx)⟩
theorem ZU(a b:List (fI × Int)):(oM a b).length<=a.length+b.length:=by
 unfold oM;have:=bQ (λn:fI × Int=> !a.any λm=>decide (m.1=n.1)) b;rw[aX];omega
theorem ZV(a b:gy):(w9 a b).length<=a.names.length+b.names.length:=by
 unfold w9 zco;have:=bQ (λk=> !decide (k∈a.names)) b.names;simp only[aU,length_mergeSort,aX];omega
theorem Jl{A B:Nat}(hAB:2<=A+B):∀(n:Nat) {a b:gy},oz n a->oz n b->iU a=true->iU b=true->lw A a->lw B b->lw (A+B) (mg n a b)/\lw (A+B) (mg n b a)
|0,_,_,_,_,_,_,_,_=>⟨Az _,Az _⟩
| n +1,a,b,ia,ib,ma,mb,sa,sb=>by
 have Ma:=(sI _).1 ma;have Mb:=(sI _).1 mb;have ta:=(zG A a).1 sa;have tb:=(zG B b).1 sb;have la:=Ma.len;have lb:=Mb.len;have ihf:=λk=>Jl hAB n (yK ia Ma.len k) (yK ib Mb.len k) (Ma.field k) (Mb.field k) (Ef sa Ma.len k) (Ef sb Mb.len k);have ih1:=Jl hAB n (sS ia).1 (sS ib).1 Ma.pair.1 Mb.pair.1 (yL sa).1 (yL sb).1;have ih2:=Jl hAB n (sS ia).2 (sS ib).2 Ma.pair.2 Mb.pair.2 (yL sa).2 (yL sb).2;have key:∀(c d:gy),c.needs.length+d.needs.length<=A+B->c.names.length+d.names.length<=A+B->(∀k,lw (A+B) (mg n (jy c k) (jy d k)))->lw (A+B) (mg n (il d).1 (il c).1)->lw (A+B) (mg n (il c).2 (il d).2)->lw (A+B) (iZ (mg n) c d):=λc d h1 h2 h3 h4 h5=>by
  rw[zG];have hb:(pK (mg n) c d).length<=A+B:=by
   unfold pK busy;refine ak (bQ _ _) ?_;rw[aU];exact ak (ZV c d) h2
  refine⟨?_,?_,?_,?_,?_⟩
  ·show(qQ c d).length<=A+B;unfold qQ;split
   ·exact ak (ZU _ _) h1
   ·omega
  ·unfold iZ;simp only[gy.fields];split
   ·rw[aU];exact hb
   ·simp
  ·unfold iZ;simp only[gy.fn];split
   ·unfold lM;split
    ·simp
    ·simpa using hAB
   ·simp
  ·intro x hx;unfold iZ at hx;simp only[gy.fields]at hx;split at hx
   ·unfold pK busy at hx;simp only[aa,bB]at hx;obtain⟨y,⟨⟨k,_,rfl⟩,_⟩,rfl⟩:=hx;exact h3 k
   ·cases hx
  ·intro x hx;unfold iZ at hx;simp only[gy.fn]at hx;split at hx
   ·unfold lM at hx;split at hx
    ·cases hx
    ·simp only[aN,cO,fC]at hx;rcases hx with rfl|rfl
     ·exact h4
     ·exact h5
   ·cases hx
 exact⟨key a b (by omega) (by omega) (λk=>(ihf k).1) ih1.2 ih2.1,key b a (by omega) (by omega) (λk=>(ihf k).2) ih1.1 ih2.2⟩
def CF(n:Nat)(a b:gy):gy:=if(iU a&&iU b)=true then mg n a b else ul
end Go.Gr
