/- Texts of ours, joined and written short by a program of ours. -/
import Derived.Test.YtnbgmeamdkggeaaGreatDoorJ09
import Derived.Test.YtnbgmeamdkggeaaGreatDoorJ08
set_option maxRecDepth 20000
set_option maxHeartbeats 4000000
set_option linter.unusedVariables false
set_option linter.unusedSectionVars false
set_option linter.unusedSimpArgs false
set_option linter.defProp false
set_option linter.unnecessarySimpa false
namespace Go.Abs
def MCall.frzV{P:Program}{f:FuncId}{args:List AV}{bs:List Blk}{ds:List DV}{V:DV}(hp:fu P f ds V)(hd:∀(h h':PH) (v:Value),jZ h V v->jZ h' V v)(e:uL (hpOf bs) args=some ds)
  (h1:(bs.all λb=>b.tag !=0)=true) (h2:(bs.all λb=>b.lv (live bs))=true) (h3:V.av.lv (live bs)=true):MCall P f args bs V.av bs:=by
 refine⟨hp.1,aK _,yV h1,h3,λb hb=>aZ.1 h2 b hb,λh ρ w argsC H hG hS r=>?_⟩;have k:=IC (n:=0) H (λ_ _ _ _=>dO _) args ds argsC e r;refine(hp.2 (rT h 0 w.heap) w argsC (IA H) (hG.mono (D6 H)) trivial k).mono λe w' hh=>?_;obtain⟨vC,h',e1,e2,e3,e4,e5,e6,e7,e8⟩:=hh;have hx:∀B,B<w.heap.size->w'.heap[B]?=w.heap[B]?:=e6;have hP:∀B o,h B=some o->w'.heap[B]?=some o:=λB o he=>by
  rw[e6 B (H.lt he)];exact H.pers B o he
 exact⟨vC,h,ρ,e1,⟨λ_ _ he=>he,λB hB _=>rfl,e5,λB hB _=>e6 B hB,λb p hp hr=>.inr ⟨b,p,hp,hr,rfl⟩⟩,H.grow (λ_ _ he=>he) hP (λB hB _=>⟨e6 B hB,rfl⟩),e7,jZ.av (hd _ _ _ e8),λ_ _=>rfl⟩
end Go.Abs
namespace Go.Gr
open Go.Abs Go.Proofs
@[simp] theorem iO.enc_length(e:iO):e.enc.length=3:=rfl
@[simp] theorem iO.enc_0(e:iO):e.enc[0]?=some (.str e.name):=rfl
@[simp] theorem iO.enc_1(e:iO):e.enc[1]?=some (.int .i64 e.module):=rfl
@[simp] theorem iO.enc_2(e:iO):e.enc[2]?=some (.int .i64 e.decl):=rfl
@[simp] theorem iO.enc_g0(e:iO)(h:0<e.enc.length):e.enc[0]=.str e.name:=rfl
@[simp] theorem iO.cut_enc(e:iO):cut e.enc 0 3=e.enc:=rfl
@[simp] theorem iO.cut_map(e:iO):cut (e.enc.map AC.d) 0 3=e.enc.map .d:=rfl
@[simp] theorem iO.er_map(e:iO):e.enc.map D.er=e.enc:=rfl
@[simp] theorem ig.enc_0(m:ig):m.enc[0]?=some (.sl false 4 (m.imps.map jO.enc)):=rfl
@[simp] theorem ig.enc_1(m:ig):m.enc[1]?=some (.sl false 15 (m.decs.map ik.enc)):=rfl
@[simp] theorem ig.enc_g0(m:ig)(h:0<m.enc.length):m.enc[0]=.sl false 4 (m.imps.map jO.enc):=rfl
@[simp] theorem ig.enc_g1(m:ig)(h:1<m.enc.length):m.enc[1]=.sl false 15 (m.decs.map ik.enc):=rfl
@[simp] theorem ik.enc_0(d:ik):d.enc[0]?=some (.str d.name):=rfl
@[simp] theorem ik.enc_1(d:ik):d.enc[1]?=some (.bool d.exp):=rfl
@[simp] theorem ik.enc_2(d:ik):d.enc[2]?=some (.sl false 5 (d.vars.map iI)):=rfl
@[simp] theorem ik.enc_3(d:ik):d.enc[3]?=some (.str d.param):=rfl
@[simp] theorem ik.enc_4(d:ik):d.enc[4]?=some (.sl false 4 (d.types.map fZ.enc)):=rfl
theorem ik.enc_13(d:ik):d.enc[13]?=some (.int .i64 d.line):=by unfold ik.enc;rw[fo.enc_eq];try rfl
theorem ik.enc_14(d:ik):d.enc[14]?=some (.int .i64 d.col):=by unfold ik.enc;rw[fo.enc_eq];try rfl
attribute [simp] ik.enc_13 ik.enc_14
@[simp] theorem ik.enc_g0(d:ik)(h:0<d.enc.length):d.enc[0]=.str d.name:=rfl
@[simp] theorem ik.enc_g1(d:ik)(h:1<d.enc.length):d.enc[1]=.bool d.exp:=rfl
@[simp] theorem ik.enc_g2(d:ik)(h:2<d.enc.length):d.enc[2]=.sl false 5 (d.vars.map iI):=rfl
@[simp] theorem ik.enc_g13(d:ik)(h:13<d.enc.length):d.enc[13]=.int .i64 d.line:=by have:=d.enc_13;rw[aD h]at this;exact bV this
@[simp] theorem ik.enc_g14(d:ik)(h:14<d.enc.length):d.enc[14]=.int .i64 d.col:=by have:=d.enc_14;rw[aD h]at this;exact bV this
@[simp] theorem jO.enc_0(x:jO):x.enc[0]?=some (.str x.from_):=rfl
@[simp] theorem jO.enc_1(x:jO):x.enc[1]?=some (.sl false 1 (encS x.names)):=rfl
@[simp] theorem jO.enc_2(x:jO):x.enc[2]?=some (.int .i64 x.line):=rfl
@[simp] theorem jO.enc_3(x:jO):x.enc[3]?=some (.int .i64 x.col):=rfl
@[simp] theorem jO.enc_g0(x:jO)(h:0<x.enc.length):x.enc[0]=.str x.from_:=rfl
@[simp] theorem jO.enc_g1(x:jO)(h:1<x.enc.length):x.enc[1]=.sl false 1 (encS x.names):=rfl
@[simp] theorem jO.enc_g2(x:jO)(h:2<x.enc.length):x.enc[2]=.int .i64 x.line:=rfl
@[simp] theorem jO.enc_g3(x:jO)(h:3<x.enc.length):x.enc[3]=.int .i64 x.col:=rfl
@[simp] theorem jO.cut_enc(x:jO):cut x.enc 0 4=x.enc:=rfl
@[simp] theorem jO.cut_map(x:jO):cut (x.enc.map AC.d) 0 4=x.enc.map .d:=rfl
def qF(s:List iO):List D:=[.sl false 3 (s.map iO.enc)]
theorem gq.enc_eq(l:gq):l.enc=[.sl false 1 (encS l.names),.sl false 2 (l.mods.map ig.enc),.sl false 1 (l.scopes.map qF),.str l.main.name,.int .i64 l.main.module,.int .i64 l.main.decl]:=rfl
@[simp] theorem gq.enc_length(l:gq):l.enc.length=6:=rfl
@[simp] theorem gq.enc_0(l:gq):l.enc[0]?=some (.sl false 1 (encS l.names)):=rfl
@[simp] theorem gq.enc_1(l:gq):l.enc[1]?=some (.sl false 2 (l.mods.map ig.enc)):=rfl
@[simp] theorem gq.enc_2(l:gq):l.enc[2]?=some (.sl false 1 (l.scopes.map qF)):=rfl
@[simp] theorem gq.enc_g0(l:gq)(h:0<l.enc.length):l.enc[0]=.sl false 1 (encS l.names):=rfl
@[simp] theorem gq.enc_g1(l:gq)(h:1<l.enc.length):l.enc[1]=.sl false 2 (l.mods.map ig.enc):=rfl
@[simp] theorem gq.enc_g2(l:gq)(h:2<l.enc.length):l.enc[2]=.sl false 1 (l.scopes.map qF):=rfl
@[simp] theorem gq.cut_enc(l:gq):cut l.enc 0 6=l.enc:=rfl
@[simp] theorem gq.cut_map(l:gq):cut (l.enc.map AC.d) 0 6=l.enc.map .d:=rfl
@[simp] theorem gq.er_map(l:gq):l.enc.map D.er=l.enc:=rfl
def F8{α:Type}(q:α->Bool):∀(j:Nat) (l:List α),fi q j l= -1\/((j:Int)<=fi q j l/\fi q j l<j+l.length)
|j,[]=>.inl rfl
| j,x::l=>by
 unfold fi;split
 ·exact .inr ⟨Int.le_refl _,by simp;omega⟩
 ·rcases F8 q (j+1) l with h|h
  ·exact .inl h
  ·exact .inr ⟨by omega,by simp;omega⟩
def F9(names:List di)(s:di):fu Pg 17 [.one (.sl false 1 (encS names)),.one (.str s)] (.one (.int .i64 (jU names s))):=by
 refine zwN (by simp) λo c hN hp=>?_;have hl:names.length<=zao:=by have:=o.1;simp only[DV.ok,D.ok,Tp]at this;exact this.1
 unfold zao at hl;unfold Us jU;obtain⟨R,hR⟩:∃R,fi (λn=>decide (n=s)) 0 names=R:=⟨_,rfl⟩
 rw[hR];simp;refine eP gD hp (λj:Nat=>j<=names.length/\fi (λn=>decide (n=s)) j (names.drop j)=R) (λj=>[(5,.c (.d (.int .i64 j))),(1,.c (.d (.str s))),(0,.c (.d (.sl false 1 (encS names))))]) (λ_=>[]) (λj=>names.length-j) 0 [] ⟨by simp,by simpa using hR⟩ (by simp) λj ⟨h1,h2⟩=>?_;unfold Ur;simp;apply fM<;>intro h
 ·have hj:j<names.length:=by simpa using h
  rw[aG hj,fi]at h2;by_cases q:names[j]=s
  ·rw[aB (by simpa using q)]at h2;subst h2;simp[hj,q]
  ·rw[aA (by simpa using q)]at h2;simp[hj,q];refine dm (j+1) [] ⟨by omega,h2⟩ (by omega) ?_;simp;exact wI
 ·have hj:j=names.length:=by simp at h;omega
  subst hj;rw[aQ,fi]at h2;subst h2;simp
def Vk(m:ig)(s:di)(hm:m.decs.length<=100000):fu Pg 18 [.agg m.enc,.one (.str s)] (.one (.int .i64 (sQ m s))):=by
 refine zAc (by simp) λo c hN hp=>?_;unfold Uy sQ;obtain⟨R,hR⟩:∃R,fi (λd:ik=>decide (d.name=s)) 0 m.decs=R:=⟨_,rfl⟩
 rw[hR];simp;refine eP gD hp (λj:Nat=>j<=m.decs.length/\fi (λd:ik=>decide (d.name=s)) j (m.decs.drop j)=R) (λj=>[(5,.c (.d (.int .i64 j))),(2,.c (.d (.rp m.enc 0))),(1,.c (.d (.str s)))]) (λ_=>[]) (λj=>m.decs.length-j) 0 [] ⟨by simp,by simpa using hR⟩ (by simp) λj ⟨h1,h2⟩=>?_;unfold Ux;simp;apply fM<;>intro h
 ·have hj:j<m.decs.length:=by simpa using h
  rw[aG hj,fi]at h2;by_cases q:m.decs[j].name=s
  ·rw[aB (by simpa using q)]at h2;subst h2;simp[hj,q]
  ·rw[aA (by simpa using q)]at h2;simp[hj,q];refine dm (j+1) [] ⟨by omega,h2⟩ (by omega) ?_;simp;exact wI
 ·have hj:j=m.decs.length:=by simp at h;omega
  subst hj;rw[aQ,fi]at h2;subst h2;simp
abbrev xz(r:iO × Bool):DV:=.tup [.agg r.1.enc,.one (.bool r.2)]
def Vl(l:List iO)(s:di):fu Pg 35 [.one (.sl false 3 (l.map iO.enc)),.one (.str s)] (xz (pY l s)):=by
 refine zAb (by simp) λo c hN hp=>?_;have hl:l.length<=zao:=by have:=o.1;simp only[DV.ok,D.ok,ah]at this;exact this.1
 unfold zao at hl;obtain⟨R,hR⟩:∃R,pY l s=R:=⟨_,rfl⟩
 rw[hR];unfold Uw;simp;refine eP gD hp (λj:Nat=>j<=l.length/\pY (l.drop j) s=R) (λj=>[(6,.c (.d (.int .i64 j))),(4,.c (.ptr 0 0)),(1,.c (.d (.str s))),(0,.c (.d (.sl false 3 (l.map iO.enc))))]) (λ_=>[.box [.d (.str (bs [])),.d (.int .i64 0),.d (.int .i64 0)]]) (λj=>l.length-j) 0 [0] ⟨by simp,by simpa using hR⟩ (by simp) λj ⟨h1,h2⟩=>?_;unfold Uv;simp;apply fM<;>intro h
 ·have hj:j<l.length:=by simpa using h
  rw[aG hj,pY]at h2;by_cases q:l[j].name=s
  ·rw[aB q]at h2;subst h2;simp[hj,q]
  ·rw[aA q]at h2;simp[hj,q];refine dm (j+1) [0] ⟨by omega,h2⟩ (by omega) ?_;simp;exact wI
 ·have hj:j=l.length:=by simp at h;omega
  subst hj;rw[aQ,pY]at h2;subst h2;simp;rfl
def zCw(r:iO × Bool):∀(h h':PH) (v:Value),jZ h (xz r) v->jZ h' (xz r) v:=λh h' v q=>by
 simp only[xz,jZ]at q⊢;obtain⟨vs,e,r⟩:=q;refine⟨vs,e,?_⟩;rcases vs with _|⟨v1,_|⟨v2,vs⟩⟩
 ·simp[ja]at r
 ·simp[ja]at r
 ·simp only[ja]at r⊢;refine⟨?_,by simpa[jZ,RepD]using r.2.1,r.2.2⟩;have r1:=r.1;simp only[jZ]at r1⊢;obtain⟨us,e1,e2,e3⟩:=r1;refine⟨us,e1,e2,?_⟩;rcases us with _|⟨u1,_|⟨u2,_|⟨u3,us⟩⟩⟩
  ·simp at e2
  ·simp at e2
  ·simp at e2
  ·simpa[iO.enc,RepL,RepD]using e3
def Vm(l:List iO)(s:di):MCall Pg 35 [.c (.msl 3 0 0 l.length),.c (.d (.str s))] [.arr 3 ((l.map iO.enc).map (·.map .d))] (.tup [.ag ((pY l s).1.enc.map .d),.c (.d (.bool (pY l s).2))]) [.arr 3 ((l.map iO.enc).map (·.map .d))]:=by
 have:=MCall.frzV (bs:=[.arr 3 ((l.map iO.enc).map (·.map .d))]) (args:=[.c (.msl 3 0 0 l.length),.c (.d (.str s))]) (Vl l s) (zCw _) (by simp[nM]) (by simp) (by simp) (by simp[iO.enc]);simpa[xz,DV.av,DV.avs]using this
def zA2(names:List di)(s:di):MCall Pg 17 [.c (.msl 1 0 0 names.length),.c (.d (.str s))] [.arr 1 ((encS names).map (·.map .d))] (.c (.d (.int .i64 (jU names s)))) [.arr 1 ((encS names).map (·.map .d))]:=
 MCall.frzI (F9 names s) (by simp[nM,aH]) (by simp) (by simp)
theorem zFD(d:iA)(i:Int):put (d.enc.map AC.d) 0 [.d (.int .i64 i)]=(⟨i,d.line,d.col,d.e⟩:iA).enc.map .d:=rfl
def kZ(s:di × di):List D:=[.str s.1,.str s.2]
@[simp] theorem zGW(s:di × di):(kZ s).length=2:=rfl
@[simp] theorem zIl(s:di × di):(kZ s)[0]?=some (.str s.1):=rfl
@[simp] theorem zIm(s:di × di):(kZ s)[1]?=some (.str s.2):=rfl
@[simp] theorem zId(s:di × di)(h:0<(kZ s).length):(kZ s)[0]=.str s.1:=rfl
@[simp] theorem zIe(s:di × di)(h:1<(kZ s).length):(kZ s)[1]=.str s.2:=rfl
def yA(x:List di × List ig):gq:=⟨x.1,x.2,[],z8⟩
abbrev lkZ:Blk:=.box [.d (.sl true 1 []),.d (.sl true 2 []),.d (.sl true 1 []),.d (.str (bs [])),.d (.int .i64 0),.d (.int .i64 0)]
abbrev NB(l:List (di × di))(i nb:Nat):List (Nat × AV):=[(6,.c (.d (.int .i64 i))),(5,.c (.msl 4 4 0 nb)),(4,.c (.ptr 1 0)),(2,.c (.ptr 0 0)),(0,.c (.d (.sl false 2 (l.map kZ))))]
abbrev lV(bad:List iA):Blk:=.arr 4 ((bad.map iA.enc).map (·.map .d))
abbrev NC(ns:List di)(ms:List ig)(bad:List iA):List Blk:=[lkZ,.box [.msl 1 2 0 ns.length,.msl 2 3 0 ms.length,.d (.sl true 1 []),.d (.str (bs [])),.d (.int .i64 0),.d (.int .i64 0)],.arr 1 ((encS ns).map (·.map .d)),.arr 2 ((ms.map ig.enc).map (·.map .d)),lV bad]
def zD0(l:List (di × di)):fu Pg 14 [.one (.sl false 2 (l.map kZ))] (.tup [.agg (yA (tX l).1).enc,.one (.sl false 4 ((tX l).2.map iA.enc))]):=by
 refine zyC (by simp) λo c hN hp=>?_;obtain⟨R,hR⟩:∃R,tX l=R:=⟨_,rfl⟩
 rw[hR];unfold tX at hR;unfold Uu;by_cases h16:16<l.length
 ·have h16':(16:Int)<l.length:=by omega
  rw[aB h16]at hR;subst hR;simp[h16'];exact⟨rfl,rfl⟩
 have h16':¬(16:Int)<l.length:=by omega
 rw[aA h16]at hR;simp[h16,h16'];refine eY [.c 1 0,.c 1 1,.t 5] ?_;simp;refine eP gD hp (λx:Nat × List di × List ig × List iA=>x.1<=l.length/\x.2.1.length=x.1/\x.2.2.1.length=x.1/\x.2.2.2.length<=x.1/\qQ (l.drop x.1) x.1 x.2.1 x.2.2.1 x.2.2.2=R) (λx=>NB l x.1 x.2.2.2.length) (λx=>NC x.2.1 x.2.2.1 x.2.2.2) (λx=>l.length-x.1) (0,[],[],[]) [0,1,2,3,4] ⟨by simp,rfl,rfl,by simp,by simpa using hR⟩ (by simp[encS]) λ⟨i,ns,ms,bad⟩ ⟨i1,i2,i3,i4,i5⟩=>?_;unfold Ut;simp only at i1 i2 i3 i4 i5;simp;apply fM<;>intro h
 ·have hi:i<l.length:=by simpa using h
  obtain⟨s,hs⟩:∃s,l[i]=s:=⟨_,rfl⟩
  rw[aG hi,hs,qQ]at i5;have hw:=wI (n:=(i:Int)+1);have hmz:=zA2 ns s.1;simp[hi,hs];refine fU (VI s.1) ?_;simp[hi,hs];refine fU (zDa s.2) ?_;generalize pW s.2=m at*
  simp[hi,hs];refine fO [2] hmz ?_;generalize jU ns s.1=z at*
  simp[hi,hs];refine⟨by decide,by omega,by decide,by omega,?_⟩;by_cases n1:mJ s.1=true;rotate_left
  ·rw[aB (by simpa using n1)]at i5;simp[n1];refine⟨by omega,?_⟩;refine dm (i+1,ns++[s.1],ms++[m.1],bad++[⟨i,1,1,10⟩]) [0,1,7,8,9] ⟨by simp only;omega,by simp[i2],by simp[i3],by simp;omega,i5⟩ (by simp only;omega) ?_;simp[hw,iA.enc];exact⟨aH (by simp),nM _ _,nM _ _⟩
  rw[aA (by simpa using n1)]at i5;by_cases z1:0<=z
  ·rw[aB z1]at i5;simp[n1,z1];refine⟨by omega,?_⟩;refine dm (i+1,ns++[s.1],ms++[m.1],bad++[⟨i,1,1,8⟩]) [0,1,7,8,9] ⟨by simp only;omega,by simp[i2],by simp[i3],by simp;omega,i5⟩ (by simp only;omega) ?_;simp[hw,iA.enc];exact⟨aH (by simp),nM _ _,nM _ _⟩
  rw[aA z1]at i5;by_cases e0:m.2.e=0
  ·rw[aA (by simp[e0])]at i5;simp[n1,z1,e0];refine dm (i+1,ns++[s.1],ms++[m.1],bad) [0,1,7,8,4] ⟨by simp only;omega,by simp[i2],by simp[i3],by simp only;omega,i5⟩ (by simp only;omega) ?_;simp[hw,iA.enc];exact⟨aH (by simp),nM _ _⟩
  ·rw[aB e0]at i5;simp[n1,z1,e0,zFD];refine⟨by omega,?_⟩;refine dm (i+1,ns++[s.1],ms++[m.1],bad++[⟨i,m.2.line,m.2.col,m.2.e⟩]) [0,1,7,8,9] ⟨by simp only;omega,by simp[i2],by simp[i3],by simp;omega,i5⟩ (by simp only;omega) ?_;simp[hw];exact⟨aH (by simp),nM _ _,nM _ _⟩
 ·have hi:i=l.length:=by simp at h;omega
  subst hi;rw[aQ,qQ]at i5;subst i5;simp[nM,yA,gq.enc_eq];exact⟨aH (by simp),rfl,rfl,rfl⟩
end Go.Gr
namespace Go.Gr
open Go.Abs Go.Proofs List
@[simp] theorem zIf(l:List di)(j:Nat)(h:j<(encS l).length):(encS l)[j]=[.str (l[j]'(by simpa using h))]:=by simp[encS]
structure kz (m:ig):Prop where
 imps:m.imps.length<=10001
 names:∀x,x∈m.imps->x.names.length<=10001
 decs:m.decs.length<=10001
def zk(p:gq):Prop:=p.mods.length<=16/\p.names.length=p.mods.length/\∀m,m∈p.mods->kz m
abbrev zl(sc:List iO):Blk:=.arr 3 ((sc.map iO.enc).map (·.map .d))
def Vn(m:ig)(s:di):sQ m s= -1\/(0<=sQ m s/\sQ m s<m.decs.length):=by
 have:=F8 (λd:ik=>decide (d.name=s)) 0 m.decs;unfold sQ;omega
def JF(ns:List di)(s:di):jU ns s= -1\/(0<=jU ns s/\jU ns s<ns.length):=by
 have:=F8 (λn=>decide (n=s)) 0 ns;unfold jU;omega
def getD_in{α:Type}(l:List α)(d:α){z:Int}{n:Int}(hn:n=l.length)(h0:0<=z)(h1:z<n):l[z.toNat]?=some (l.getD z.toNat d)/\l.getD z.toNat d∈l:=by
 have h:z.toNat<l.length:=by omega
 rw[aF,aD h];exact⟨rfl,ai h⟩
def JG(M:ig)(m i:Int)(x:jO):∀(l:List di) (sc:List iO) (bad:List iA),(oH M m i x l sc bad).1.length<=sc.length+l.length/\(oH M m i x l sc bad).2.length<=bad.length+l.length
|[],sc,bad=>by simp[oH]
|s::l,sc,bad=>by
 rw[oH];split
 ·have:=JG M m i x l sc (bad++[⟨i,x.line,x.col,12⟩]);simp at this⊢;omega
 split
 ·have:=JG M m i x l sc (bad++[⟨i,x.line,x.col,8⟩]);simp at this⊢;omega
 ·have:=JG M m i x l (sc++[⟨s,m,sQ M s⟩]) bad;simp at this⊢;omega
def zyo(ns:List di)(ms:List ig)(i:Int)(x:jO)(sc:List iO):(xF ns ms i x sc).1.length<=sc.length+x.names.length/\(xF ns ms i x sc).2.length<=1+x.names.length:=by
 unfold xF;split
 ·simp
 ·have:=JG (ms.getD (jU ns x.from_).toNat oG) (jU ns x.from_) i x x.names sc [];simp only[length_nil,Nat.zero_add]at this;exact⟨this.1,by omega⟩
abbrev ND(p:gq)(x:jO)(m j n nb:Nat):List (Nat × AV):=[(13,.c (.d (.int .i64 j))),(12,.c (.d (.int .i64 m))),(11,.c (.ptr 1 0)),(10,.c (.msl 4 2 0 nb)),(6,.c (.d (.rp x.enc 0))),(4,.c (.d (.rp p.enc 0))),(3,.c (.msl 3 0 0 n))]
abbrev dBx(i:Int)(x:jO)(e:Int):Blk:=.box [.d (.int .i64 i),.d (.int .i64 x.line),.d (.int .i64 x.col),.d (.int .i64 e)]
def zyZ(p:gq)(hp':zk p)(i:Int)(x:jO)(hx:x.names.length<=10001)(sc:List iO)(hsc:sc.length<=1000000000):
  MCall Pg 34 [.ag (p.enc.map .d),.c (.d (.int .i64 i)),.ag (x.enc.map .d),.c (.msl 3 0 0 sc.length)] [zl sc]
   (.tup [.c (.msl 3 1 0 (xF p.names p.mods i x sc).1.length),.c (.d (.sl false 4 ((xF p.names p.mods i x sc).2.map iA.enc)))]) [.dead,zl (xF p.names p.mods i x sc).1]:=by
 refine ztS ⟨by simp,by simp,by simp,by simp,by simp,by simp;rfl,by simp⟩ λts hts ok hb c hN hp=>?_;obtain⟨t,rfl⟩:=mV hts;obtain⟨R,hR⟩:∃R,xF p.names p.mods i x sc=R:=⟨_,rfl⟩
 rw[hR];unfold xF at hR;have hmz:=F9 p.names x.from_;have hml:=JF p.names x.from_;unfold VA;simp;refine fU hmz ?_;generalize jU p.names x.from_=z at*
 by_cases z0:z<0
 ·rw[aB z0]at hR;subst hR;simp[z0];refine⟨by decide,?_⟩;refine eU [] ?_;simp;exact eF [1,0] [1] (by simp[iA.enc,AV.erds,AV.erd])
 rw[aA z0]at hR;obtain⟨g1,g2⟩:=getD_in p.mods oG (z:=z) (n:=p.names.length) (by rw[hp'.2.1]) (by omega) (by omega);generalize p.mods.getD z.toNat oG=M at*
 have hM:=hp'.2.2 M g2;have h16:=hp'.1;have hnm:=hp'.2.1;obtain⟨zn,rfl⟩:∃zn:Nat,z=zn:=⟨z.toNat,by omega⟩
 simp only[bJ]at g1;simp[z0];refine eY [.t 10] ?_;simp;refine eP gD hp (λy:Nat × List iO × List iA × Int=>y.1<=x.names.length/\y.2.1.length<=sc.length+y.1/\y.2.2.1.length<=y.1/\oH M zn i x (x.names.drop y.1) y.2.1 y.2.2.1=R) (λy=>ND p x zn y.1 y.2.1.length y.2.2.1.length) (λy=>[zl y.2.1,dBx i x y.2.2.2,lV y.2.2.1]) (λy=>x.names.length-y.1) (0,sc,[],11) [0,2,3] ⟨by simp,by simp,by simp,by simpa using hR⟩ (by simp) λ⟨j,s,bad,e⟩ ⟨i1,i2,i3,i4⟩=>?_;unfold Uz;simp only at i1 i2 i3 i4;simp;apply fM<;>intro h
 ·have hj:j<x.names.length:=by simpa using h
  obtain⟨n,hn⟩:∃n,x.names[j]=n:=⟨_,rfl⟩
  rw[aG hj,hn,oH]at i4;have hw:=wI (n:=(j:Int)+1);have hdl:=Vn M n;have hfm:=Vm s n;simp[hj,hn,g1];refine fU (Vk M n (by have:=hM.decs;omega)) ?_;simp[hj,hn];refine⟨by decide,?_⟩;refine fO [0] hfm ?_;generalize pY s n=f at*
  generalize sQ M n=k at*
  simp;by_cases k0:k<0
  ·rw[aB (.inl k0)]at i4;simp[k0];refine⟨by omega,?_⟩;refine dm (j+1,s,bad++[⟨i,x.line,x.col,12⟩],12) [0,1,4] ⟨by simp only;omega,by simp only;omega,by simp;omega,i4⟩ (by simp only;omega) ?_;simp[hw,iA.enc];exact nM _ _
  obtain⟨g3,g4⟩:=getD_in M.decs Ak (z:=k) (n:=M.decs.length) rfl (by omega) (by omega);generalize M.decs.getD k.toNat Ak=d at*
  obtain⟨kn,rfl⟩:∃kn:Nat,k=kn:=⟨k.toNat,by omega⟩
  simp only[bJ]at g3;by_cases ex:d.exp=true;rotate_left
  ·rw[aB (.inr (by simpa using ex))]at i4;simp[k0,g1,g3,ex];refine⟨by omega,?_⟩;refine dm (j+1,s,bad++[⟨i,x.line,x.col,12⟩],12) [0,1,4] ⟨by simp only;omega,by simp only;omega,by simp;omega,i4⟩ (by simp only;omega) ?_;simp[hw,iA.enc];exact nM _ _
  by_cases f2:f.2=true
  ·rw[aA (by simp[k0,ex]),aB f2]at i4;simp[k0,g1,g3,ex,f2];refine⟨by omega,?_⟩;refine dm (j+1,s,bad++[⟨i,x.line,x.col,8⟩],8) [0,1,4] ⟨by simp only;omega,by simp only;omega,by simp;omega,i4⟩ (by simp only;omega) ?_;simp[hw,iA.enc];exact nM _ _
  ·rw[aA (by simp[k0,ex]),aA f2]at i4;simp[k0,g1,g3,ex,f2,hj,hn];refine⟨by omega,?_⟩;refine dm (j+1,s++[⟨n,zn,kn⟩],bad,e) [4,1,2] ⟨by simp only;omega,by simp;omega,by simp only;omega,i4⟩ (by simp only;omega) ?_;simp[hw,iO.enc];exact nM _ _
 ·have hj:j=x.names.length:=by simp at h;omega
  subst hj;rw[aQ,oH]at i4;subst i4;simp;refine eU [2] ?_;simp[jT,nM];exact eO [1,0] [1] (by simp[jT])
abbrev allA(all:List (List iO)):Blk:=.arr 1 ((all.map qF).map (·.map .d))
abbrev zm(p:gq)(i na nb n:Nat):List (Nat × AV):=[(8,.c (.ptr 2 0)),(7,.c (.msl 3 3 0 n)),(6,.c (.d (.int .i64 i))),(5,.c (.msl 4 1 0 nb)),(4,.c (.msl 1 0 0 na)),(1,.c (.d (.rp p.enc 0)))]
abbrev wR(all:List (List iO))(bad:List iA)(m:ig)(sc:List iO):List Blk:=[allA all,lV bad,.box (m.enc.map .d),zl sc]
def zAF{c:Ctx}(hp:c.pure)(p:gq)(hp':zk p)(i:Nat)(m:ig)(hm:kz m)(all:List (List iO))(b0:List iA)(hb0:b0.length<=10000000000)(F0:List iO × List iA)(hF:yh p.names p.mods i m.imps [] b0=F0){Q:Exit->St->Prop}{S:St}{g}{ms:List Nat}
  (h0:iU ms S ((9,.c (.d (.int .i64 0)))::zm p i all.length b0.length 0) (wR all b0 m []))
  (hQ:F0.1.length<=100020001->F0.2.length<=b0.length+100030002->∀T,Abs.look T 8=.c (.ptr 2 0)->Abs.look T 7=.c (.msl 3 3 0 F0.1.length)->Abs.look T 6=.c (.d (.int .i64 i))->Abs.look T 5=.c (.msl 4 1 0 F0.2.length)->Abs.look T 4=.c (.msl 1 0 0 all.length)->Abs.look T 1=.c (.d (.rp p.enc 0))->Q (.exit 2) ⟨T,hpOf (wR all F0.2 m F0.1),4⟩):qO Pg c MJ Q g S:=by
 have hmi:=hm.imps;refine eP gD hp (λy:Nat × List iO × List iA=>y.1<=m.imps.length/\y.2.1.length<=y.1*10001/\y.2.2.length<=b0.length+y.1*10002/\yh p.names p.mods i (m.imps.drop y.1) y.2.1 y.2.2=F0) (λy=>(9,.c (.d (.int .i64 y.1)))::zm p i all.length y.2.2.length y.2.1.length) (λy=>wR all y.2.2 m y.2.1) (λy=>m.imps.length-y.1) (0,[],b0) ms ⟨by simp,by simp,by simp,by simpa using hF⟩ h0 λ⟨k,sc,bad⟩ ⟨i1,i2,i3,i4⟩=>?_;unfold MJ;simp only at i1 i2 i3 i4;simp;have hk1:k*10001<=10001*10001:=Nat.mul_le_mul (by omega) (aK _);have hk2:k*10002<=10001*10002:=Nat.mul_le_mul (by omega) (aK _);apply fM<;>intro h
 ·have hk:k<m.imps.length:=by simpa using h
  obtain⟨x,hx⟩:∃x,m.imps[k]=x:=⟨_,rfl⟩
  have hxm:=hm.names x (by rw[<-hx];exact ai hk);rw[aG hk,hx,yh]at i4;have hw:=wI (n:=(k:Int)+1);have him:=zyZ p hp' i x hxm sc (by omega);have hil:=zyo p.names p.mods i x sc;generalize xF p.names p.mods i x sc=r at*
  simp[hk,hx];refine fO [3] him ?_;simp;refine⟨by decide,by omega,?_⟩;refine dm (k+1,r.1,bad++r.2) [0,5,2,4] ⟨by simp only;omega,by simp only;omega,by simp;omega,i4⟩ (by simp only;omega) ?_;simp[hw];exact nM _ _
 ·have hk:k=m.imps.length:=by simp at h;omega
  subst hk;rw[aQ,yh]at i4;subst i4;exact hQ (by simp only;omega) (by simp only;omega) _ (by simp) (by simp) (by simp) (by simp) (by simp) (by simp)
def zAG{c:Ctx}(hp:c.pure)(p:gq)(i:Nat)(m:ig)(hm:kz m)(all:List (List iO))(s0:List iO)(hs0:s0.length<=100020001)(b0:List iA)(hb0:b0.length<=100000000000)(F0:List iO × List iA)(hF:xn i m.decs 0 s0 b0=F0){Q:Exit->St->Prop}{S:St}{g}{ms:List Nat}
  (h0:iU ms S ((12,.c (.d (.int .i64 0)))::zm p i all.length b0.length s0.length) (wR all b0 m s0))
  (hQ:F0.2.length<=b0.length+10001->∀T,Abs.look T 7=.c (.msl 3 3 0 F0.1.length)->Abs.look T 6=.c (.d (.int .i64 i))->Abs.look T 5=.c (.msl 4 1 0 F0.2.length)->Abs.look T 4=.c (.msl 1 0 0 all.length)->Abs.look T 1=.c (.d (.rp p.enc 0))->Q (.exit 4) ⟨T,hpOf (wR all F0.2 m F0.1),4⟩):qO Pg c MK Q g S:=by
 have hmd:=hm.decs;refine eP gD hp (λy:Nat × List iO × List iA=>y.1<=m.decs.length/\y.2.1.length<=s0.length+y.1/\y.2.2.length<=b0.length+y.1/\xn i (m.decs.drop y.1) y.1 y.2.1 y.2.2=F0) (λy=>(12,.c (.d (.int .i64 y.1)))::zm p i all.length y.2.2.length y.2.1.length) (λy=>wR all y.2.2 m y.2.1) (λy=>m.decs.length-y.1) (0,s0,b0) ms ⟨by simp,by simp,by simp,by simpa using hF⟩ h0 λ⟨k,sc,bad⟩ ⟨i1,i2,i3,i4⟩=>?_;unfold MK;simp only at i1 i2 i3 i4;simp;apply fM<;>intro h
 ·have hk:k<m.decs.length:=by simpa using h
  obtain⟨d,hd⟩:∃d,m.decs[k]=d:=⟨_,rfl⟩
  rw[aG hk,hd,xn]at i4;have hw:=wI (n:=(k:Int)+1);have hfm:=Vm sc d.name;simp[hk,hd];refine fO [3] hfm ?_;generalize pY sc d.name=f at*
  simp;by_cases f2:f.2=true
  ·rw[aB f2]at i4;simp[f2,hk,hd];refine⟨by omega,by decide,?_⟩;refine dm (k+1,sc,bad++[⟨i,d.line,d.col,8⟩]) [0,5,2,3] ⟨by simp only;omega,by simp only;omega,by simp;omega,i4⟩ (by simp only;omega) ?_;simp[hw,iA.enc];exact nM _ _
  ·rw[aA f2]at i4;simp[f2,hk,hd];refine⟨by omega,?_⟩;refine dm (k+1,sc++[⟨d.name,i,k⟩],bad) [0,1,2,5] ⟨by simp only;omega,by simp;omega,by simp only;omega,i4⟩ (by simp only;omega) ?_;simp[hw,iO.enc];exact nM _ _
 ·have hk:k=m.decs.length:=by simp at h;omega
  subst hk;rw[aQ,xn]at i4;subst i4;exact hQ (by simp only;omega) _ (by simp) (by simp) (by simp) (by simp) (by simp)
def zB5(p:gq)(hp':zk p):fu Pg 15 [.agg p.enc] (.tup [.one (.sl false 1 ((uQ p.names p.mods p.mods 0 [] []).1.map qF)),.one (.sl false 4 ((uQ p.names p.mods p.mods 0 [] []).2.map iA.enc))]):=by
 refine zwO (by simp) λo c hN hp=>?_;obtain⟨R,hR⟩:∃R,uQ p.names p.mods p.mods 0 [] []=R:=⟨_,rfl⟩
 rw[hR];have h16:=hp'.1;unfold VC;simp;refine eY [.t 4,.t 5] ?_;simp;refine eP gD hp (λy:Nat × List (List iO) × List iA=>y.1<=p.mods.length/\y.2.1.length=y.1/\y.2.2.length<=y.1*200000000/\uQ p.names p.mods (p.mods.drop y.1) y.1 y.2.1 y.2.2=R) (λy=>[(6,.c (.d (.int .i64 y.1))),(5,.c (.msl 4 1 0 y.2.2.length)),(4,.c (.msl 1 0 0 y.2.1.length)),(1,.c (.d (.rp p.enc 0)))]) (λy=>[allA y.2.1,lV y.2.2]) (λy=>p.mods.length-y.1) (0,[],[]) [0,1] ⟨by simp,rfl,by simp,by simpa using hR⟩ (by simp) λ⟨i,all,bad⟩ ⟨i1,i2,i3,i4⟩=>?_;unfold VB;simp only at i1 i2 i3 i4;simp;apply fM<;>intro h
 ·have hi:i<p.mods.length:=by simpa using h
  obtain⟨m,hm⟩:∃m,p.mods[i]=m:=⟨_,rfl⟩
  have hsm:=hp'.2.2 m (by rw[<-hm];exact ai hi);rw[aG hi,hm,uQ]at i4;have hw:=wI (n:=(i:Int)+1);simp[hi,hm];refine eY [.t 7] ?_;simp;refine zAF hp p hp' i m hsm all bad (by omega) _ rfl (ms:=[0,1,2,3]) (by simp) λq1 q2 T t8 t7 t6 t5 t4 t1=>?_;generalize yh p.names p.mods i m.imps [] bad=a at*
  simp;refine zAG hp p i m hsm all a.1 q1 a.2 (by omega) _ rfl (ms:=[0,1,2,3]) (by simp[t8,t7,t6,t5,t4,t1]) λq3 T t7 t6 t5 t4 t1=>?_;generalize xn i m.decs 0 a.1 a.2=b at*
  simp;refine eU [3] ?_;simp[jT,t7,t6,t5,t4,t1,nM];refine⟨by omega,?_⟩;refine dm (i+1,all++[b.1],b.2) [4,1] ⟨by simp only;omega,by simp[i2],by simp only;omega,i4⟩ (by simp only;omega) ?_;simp[jT,t7,t6,t5,t4,t1,nM,hw,qF];try trace_state
 ·have hi:i=p.mods.length:=by simp at h;omega
  subst hi;rw[aQ,uQ]at i4;subst i4;simp[nM];try trace_state
def tZ(l:List Bool):List (List D):=l.map λb=>[.bool b]
@[simp] theorem zFY(l:List Bool):(tZ l).length=l.length:=by simp[tZ]
@[simp] theorem zHO(l:List Bool)(k:Nat):(tZ l)[k]?=(l[k]?).map λb=>[.bool b]:=by simp[tZ]
@[simp] theorem zHR(l:List Bool)(j:Nat)(h:j<(tZ l).length):(tZ l)[j]=[.bool (l[j]'(by simpa using h))]:=by simp[tZ]
def zBd(l:List Bool)(k:Nat)(b:Bool):(tZ l).set k [.bool b]=tZ (l.set k b):=by simp[tZ,map_set]
abbrev CO(l:List Bool):Blk:=.arr 1 ((tZ l).map (·.map .d))
def Vo(l:List Bool)(k:Nat)(b:Bool):((tZ l).map λx=>x.map AC.d).set k [.d (.bool b)]=(tZ (l.set k b)).map λx=>x.map AC.d:=by rw[<-zBd,map_set];try rfl
def NE(ns:List di):∀(l:List jO) (seen:List Bool),(yj ns l seen).length=seen.length
|[],seen=>rfl
|x::l,seen=>by rw[yj,NE ns l];split<;>simp
def Vp(ns:List di):∀(l:List ig) (i:Nat) (seen:List Bool),(za ns l i seen).length=seen.length
|[],i,seen=>rfl
|m::l,i,seen=>by rw[za,Vp ns l];split;exact NE ns _ _;rfl
def zCN{l:List Bool}{i z:Nat}(h:l.getD i false=true):(l.set z true).getD i false=true:=by
 rw[aF]at h⊢;rw[getElem?_set];split
 ·split
  ·rfl
  ·rename_i h1 h2;subst h1;rw[aM (by omega)]at h;exact h
 ·exact h
abbrev zo(p:gq)(to n nn i:Nat):List (Nat × AV):=[(9,.c (.d (.int .i64 i))),(8,.c (.d (.int .i64 nn))),(7,.c (.msl 1 0 0 n)),(3,.c (.d (.rp p.enc 0))),(2,.c (.d (.int .i64 to)))]
def zBe{c:Ctx}(hp:c.pure)(p:gq)(hp':zk p)(to nn i:Nat)(hi:i<p.mods.length)(m:ig)(hm:kz m)(s0:List Bool)(hs0:s0.length=p.mods.length)(F0:List Bool)(hF:(if s0.getD i false=true then yj p.names m.imps s0 else s0)=F0){Q:Exit->St->Prop}{S:St}{g}{ms:List Nat}
  (h0:iU ms S ((11,.c (.d (.int .i64 0)))::(10,.c (.d (.sl false 4 (m.imps.map jO.enc))))::zo p to p.mods.length nn i) [CO s0])
  (hQ:∀T,Abs.look T 9=.c (.d (.int .i64 i))->Abs.look T 8=.c (.d (.int .i64 nn))->Abs.look T 7=.c (.msl 1 0 0 p.mods.length)->Abs.look T 3=.c (.d (.rp p.enc 0))->Abs.look T 2=.c (.d (.int .i64 to))->Q (.exit 4) ⟨T,hpOf [CO F0],1⟩):qO Pg c ML Q g S:=by
 have hmi:=hm.imps;have h16:=hp'.1;have hnn:=hp'.2.1;refine eP gD hp (λy:Nat × List Bool=>y.1<=m.imps.length/\y.2.length=p.mods.length/\(if y.2.getD i false=true then yj p.names (m.imps.drop y.1) y.2 else y.2)=F0) (λy=>(11,.c (.d (.int .i64 y.1)))::(10,.c (.d (.sl false 4 (m.imps.map jO.enc))))::zo p to p.mods.length nn i) (λy=>[CO y.2]) (λy=>m.imps.length-y.1) (0,s0) ms ⟨by simp,hs0,by simpa using hF⟩ h0 λ⟨k,s⟩ ⟨i1,i2,i3⟩=>?_;unfold ML;simp only at i1 i2 i3;have his:i<s.length:=by omega
 have hgi:s.getD i false=s[i]:=by rw[aF,aD his];try rfl
 simp;apply fM<;>intro h
 ·have hk:k<m.imps.length:=by simpa using h
  obtain⟨x,hx⟩:∃x,m.imps[k]=x:=⟨_,rfl⟩
  have hw:=wI (n:=(k:Int)+1);by_cases b:s.getD i false=true
  ·rw[aB b,aG hk,hx,yj]at i3;have b':s[i]=true:=by rw[<-hgi];exact b
   have hml:=JF p.names x.from_;have hmk:=F9 p.names x.from_;generalize jU p.names x.from_=z at*
   simp[his,hi,b',hk,hx];refine fU hmk ?_;by_cases z0:0<=z
   ·rw[aB z0]at i3;obtain⟨zn,rfl⟩:∃zn:Nat,z=zn:=⟨z.toNat,by omega⟩
    have hzn:zn<p.mods.length:=by omega
    have hzs:zn<s.length:=by omega
    simp only[bJ]at i3;simp[hzn,hzs,Vo];refine⟨by decide,?_⟩;refine dm (k+1,s.set zn true) [0] ⟨by simp only;omega,by simpa using i2,by simp only;rw[aB (zCN b)];exact i3⟩ (by simp only;omega) ?_;simp[hw]
   ·rw[aA z0]at i3;simp[z0];refine⟨by decide,?_⟩;refine dm (k+1,s) [0] ⟨by simp only;omega,i2,by simp only;rw[aB b];exact i3⟩ (by simp only;omega) ?_;simp[hw]
  ·rw[aA b]at i3;subst i3;have b':s[i]=false:=by rw[hgi]at b;simpa using b
   simp[his,hi,b'];exact hQ _ (by simp) (by simp) (by simp) (by simp) (by simp)
 ·have hk:k=m.imps.length:=by simp at h;omega
  subst hk;rw[aQ,yj,ite_self]at i3;subst i3;simp;exact hQ _ (by simp) (by simp) (by simp) (by simp) (by simp)
def zBf{c:Ctx}(hp:c.pure)(p:gq)(hp':zk p)(to nn:Nat)(s0:List Bool)(hs0:s0.length=p.mods.length)(F0:List Bool)(hF:za p.names p.mods 0 s0=F0){Q:Exit->St->Prop}{S:St}{g}{ms:List Nat}
  (h0:iU ms S (zo p to p.mods.length nn 0) [CO s0])
  (hQ:∀T,Abs.look T 8=.c (.d (.int .i64 nn))->Abs.look T 7=.c (.msl 1 0 0 p.mods.length)->Abs.look T 3=.c (.d (.rp p.enc 0))->Abs.look T 2=.c (.d (.int .i64 to))->Q (.exit 2) ⟨T,hpOf [CO F0],1⟩):qO Pg c MM Q g S:=by
 have h16:=hp'.1;refine eP gD hp (λy:Nat × List Bool=>y.1<=p.mods.length/\y.2.length=p.mods.length/\za p.names (p.mods.drop y.1) y.1 y.2=F0) (λy=>zo p to p.mods.length nn y.1) (λy=>[CO y.2]) (λy=>p.mods.length-y.1) (0,s0) ms ⟨by simp,hs0,by simpa using hF⟩ h0 λ⟨i,s⟩ ⟨i1,i2,i3⟩=>?_;unfold MM;simp only at i1 i2 i3;simp;apply fM<;>intro h
 ·have hi:i<p.mods.length:=by simpa using h
  obtain⟨m,hm⟩:∃m,p.mods[i]=m:=⟨_,rfl⟩
  have hsm:=hp'.2.2 m (by rw[<-hm];exact ai hi);rw[aG hi,hm,za]at i3;have hw:=wI (n:=(i:Int)+1);have hle:(if s.getD i false=true then yj p.names m.imps s else s).length=p.mods.length:=by
   split
   ·rw[NE,i2]
   ·exact i2
  simp[hi,hm];refine zBe hp p hp' to nn i hi m hsm s i2 _ rfl (ms:=[0]) (by simp) λT t9 t8 t7 t3 t2=>?_;generalize (if s.getD i false=true then yj p.names m.imps s else s)=s2 at*
  simp[t9];refine dm (i+1,s2) [0] ⟨by simp only;omega,hle,i3⟩ (by simp only;omega) ?_;simp[t9,t8,t7,t3,t2,hw]
 ·have hi:i=p.mods.length:=by simp at h;omega
  subst hi;rw[aQ,za]at i3;subst i3;exact hQ _ (by simp) (by simp) (by simp) (by simp)
def zzY(p:gq)(hp':zk p)(f t:Nat)(hf:f<p.mods.length)(ht:t<p.mods.length):fu Pg 36 [.agg p.enc,.one (.int .i64 f),.one (.int .i64 t)] (.one (.bool (Dq p.names p.mods f t))):=by
 refine zwk (by simp) λo c hN hp=>?_;obtain⟨R,hR⟩:∃R,Dq p.names p.mods f t=R:=⟨_,rfl⟩
 rw[hR];unfold Dq at hR;have h16:=hp'.1;have hrep:∀n:Nat,(replicate n [D.bool false]).map (λx=>x.map AC.d)=(tZ (replicate n false)).map (λx=>x.map AC.d):=λn=>by simp[tZ]
 obtain⟨s0,hs⟩:∃s0,(replicate p.mods.length false).set f true=s0:=⟨_,rfl⟩
 have hs0:s0.length=p.mods.length:=by rw[<-hs];simp
 rw[hs]at hR;unfold VE;simp[hf];refine⟨by omega,?_⟩;have e0:(replicate p.mods.length [AC.d (D.bool false)]).set f [AC.d (D.bool true)]=(tZ s0).map λx=>x.map AC.d:=by
  rw[<-hs,<-Vo];simp[tZ]
 rw[e0];refine eP gD hp (λy:Nat × List Bool=>y.1<=p.mods.length/\y.2.length=p.mods.length/\(FK p.names p.mods (p.mods.length-y.1) y.2).getD t false=R) (λy=>[(8,.c (.d (.int .i64 y.1))),(7,.c (.msl 1 0 0 p.mods.length)),(3,.c (.d (.rp p.enc 0))),(2,.c (.d (.int .i64 t)))]) (λy=>[CO y.2]) (λy=>p.mods.length-y.1) (0,s0) [0] ⟨by simp,hs0,hR⟩ (by simp) λ⟨nn,s⟩ ⟨i1,i2,i3⟩=>?_;unfold VD;simp only at i1 i2 i3;simp;apply fM<;>intro h
 ·have hn:nn<p.mods.length:=by simpa using h
  rw[show p.mods.length-nn=(p.mods.length-(nn+1))+1 by omega,FK]at i3;have hw:=wI (n:=(nn:Int)+1);refine zBf hp p hp' t nn s i2 _ rfl (ms:=[0]) (by simp) λT t8 t7 t3 t2=>?_;have hl:=Vp p.names p.mods 0 s;generalize za p.names p.mods 0 s=s2 at*
  simp[t8];refine dm (nn+1,s2) [0] ⟨by simp only;omega,by simp only;omega,i3⟩ (by simp only;omega) ?_;simp[t8,t7,t3,t2,hw]
 ·have hn:nn=p.mods.length:=by simp at h;omega
  subst hn;rw[Nat.sub_self,FK,aF,aD (by omega)]at i3;have hts:t<s.length:=by omega
  simp at i3;simp[ht,hts,i3]
def Vq(ns:List di)(ms:List ig)(i:Nat):∀(l:List jO) (bad:List iA),(yl ns ms i l bad).length<=bad.length+l.length
|[],bad=>by simp[yl]
|x::l,bad=>by
 rw[yl];have:=Vq ns ms i l (if 0<=jU ns x.from_/\Dq ns ms (jU ns x.from_).toNat i=true then bad++[⟨i,x.line,x.col,13⟩]else bad);refine aj this ?_;split<;>simp<;>omega
abbrev CP(p:gq)(i nb:Nat):List (Nat × AV):=[(4,.c (.d (.int .i64 i))),(3,.c (.msl 4 0 0 nb)),(1,.c (.d (.rp p.enc 0)))]
def zBg{c:Ctx}(hp:c.pure)(p:gq)(hp':zk p)(i:Nat)(hi:i<p.mods.length)(m:ig)(hm:kz m)(b0:List iA)(hb0:b0.length<=10000000)(F0:List iA)(hF:yl p.names p.mods i m.imps b0=F0){Q:Exit->St->Prop}{S:St}{g}{ms:List Nat}
  (h0:iU ms S ((6,.c (.d (.int .i64 0)))::(5,.c (.d (.sl false 4 (m.imps.map jO.enc))))::CP p i b0.length) [lV b0])
  (hQ:∀T,Abs.look T 4=.c (.d (.int .i64 i))->Abs.look T 3=.c (.msl 4 0 0 F0.length)->Abs.look T 1=.c (.d (.rp p.enc 0))->Q (.exit 2) ⟨T,hpOf [lV F0],1⟩):qO Pg c MN Q g S:=by
 have hmi:=hm.imps;have h16:=hp'.1;have hnn:=hp'.2.1;refine eP gD hp (λy:Nat × List iA=>y.1<=m.imps.length/\y.2.length<=b0.length+y.1/\yl p.names p.mods i (m.imps.drop y.1) y.2=F0) (λy=>(6,.c (.d (.int .i64 y.1)))::(5,.c (.d (.sl false 4 (m.imps.map jO.enc))))::CP p i y.2.length) (λy=>[lV y.2]) (λy=>m.imps.length-y.1) (0,b0) ms ⟨by simp,by simp,by simpa using hF⟩ h0 λ⟨k,bad⟩ ⟨i1,i2,i3⟩=>?_;unfold MN;simp only at i1 i2 i3;simp;apply fM<;>intro h
 ·have hk:k<m.imps.length:=by simpa using h
  obtain⟨x,hx⟩:∃x,m.imps[k]=x:=⟨_,rfl⟩
  have hw:=wI (n:=(k:Int)+1);rw[aG hk,hx,yl]at i3;have hml:=JF p.names x.from_;have hmk:=F9 p.names x.from_;generalize jU p.names x.from_=z at*
  simp[hk,hx];refine fU hmk ?_;by_cases z0:0<=z
  ·obtain⟨zn,rfl⟩:∃zn:Nat,z=zn:=⟨z.toNat,by omega⟩
   simp only[bJ]at i3;have hro:=zzY p hp' zn i (by omega) hi;obtain⟨r,hr⟩:∃r,Dq p.names p.mods zn i=r:=⟨_,rfl⟩
   simp only[hr]at i3 hro;simp;refine⟨by decide,?_⟩;refine fU hro ?_;cases r with
   |true=>
    rw[aB ⟨z0,rfl⟩]at i3;simp[hk,hx];refine⟨by omega,by decide,?_⟩;refine dm (k+1,bad++[⟨i,x.line,x.col,13⟩]) [1] ⟨by simp only;omega,by simp;omega,i3⟩ (by simp only;omega) ?_;simp[hw,iA.enc];exact nM _ _
   |false=>
    rw[aA (λq=>by cases q.2)]at i3;simp;refine dm (k+1,bad) [0] ⟨by simp only;omega,by simp only;omega,i3⟩ (by simp only;omega) ?_;simp[hw]
  ·rw[aA (λq=>z0 q.1)]at i3;simp[z0];refine⟨by decide,?_⟩;refine dm (k+1,bad) [0] ⟨by simp only;omega,by simp only;omega,i3⟩ (by simp only;omega) ?_;simp[hw]
 ·have hk:k=m.imps.length:=by simp at h;omega
  subst hk;rw[aQ,yl]at i3;subst i3;exact hQ _ (by simp) (by simp) (by simp)
def zCO(p:gq)(hp':zk p):fu Pg 16 [.agg p.enc] (.one (.sl false 4 ((ym p.names p.mods p.mods 0 []).map iA.enc))):=by
 refine zyD (by simp) λo c hN hp=>?_;obtain⟨R,hR⟩:∃R,ym p.names p.mods p.mods 0 []=R:=⟨_,rfl⟩
 rw[hR];have h16:=hp'.1;unfold VG;simp;refine eY [.t 3] ?_;simp;refine eP gD hp (λy:Nat × List iA=>y.1<=p.mods.length/\y.2.length<=y.1*10001/\ym p.names p.mods (p.mods.drop y.1) y.1 y.2=R) (λy=>CP p y.1 y.2.length) (λy=>[lV y.2]) (λy=>p.mods.length-y.1) (0,[]) [0] ⟨by simp,by simp,by simpa using hR⟩ (by simp) λ⟨i,bad⟩ ⟨i1,i2,i3⟩=>?_;unfold VF;simp only at i1 i2 i3;simp;apply fM<;>intro h
 ·have hi:i<p.mods.length:=by simpa using h
  obtain⟨m,hm⟩:∃m,p.mods[i]=m:=⟨_,rfl⟩
  have hsm:=hp'.2.2 m (by rw[<-hm];exact ai hi);have hmi:=hsm.imps;rw[aG hi,hm,ym]at i3;have hw:=wI (n:=(i:Int)+1);have htl:=Vq p.names p.mods i m.imps bad;simp[hi,hm];refine zBg hp p hp' i hi m hsm bad (by omega) _ rfl (ms:=[0]) (by simp) λT t4 t3 t1=>?_;generalize yl p.names p.mods i m.imps bad=b2 at*
  simp[t4];refine dm (i+1,b2) [0] ⟨by simp only;omega,by simp only;omega,i3⟩ (by simp only;omega) ?_;simp[t4,t3,t1,hw]
 ·have hi:i=p.mods.length:=by simp at h;omega
  subst hi;rw[aQ,ym]at i3;subst i3;simp[nM]
def Vr(L:List Tok):∀(n:Nat) (l:List di) (p:PS),(tO L n l p).1.length<=l.length+n
|0,l,p=>by simp[tO]
| n+1,l,p=>by
 rw[tO];split
 ·have:=Vr L n (l++[(iN L p).1]) (gG L (bs [44]) (iN L p).2).2;simp at this⊢;omega
 ·simp
def Vs(L:List Tok)(hL:L.length<=10000):∀(n:Nat) (l:List jO) (p:PS),(∀x,x∈l->x.names.length<=10001)->(wL L n l p).1.length<=l.length+n/\∀x,x∈(wL L n l p).1->x.names.length<=10001
|0,l,p,h=>by simp[wL];exact h
| n+1,l,p,h=>by
 rw[wL];split
 ·simp only;have hn:=Vr L (L.length+1) [] (iV L (bs [58]) (iN L (gG L wK p).2).2);have:=Vs L hL n (l++[⟨(iN L (gG L wK p).2).1,(tO L (L.length+1) [] (iV L (bs [58]) (iN L (gG L wK p).2).2)).1,(gU L p).line,(gU L p).col⟩]) (iV L (bs [59]) (tO L (L.length+1) [] (iV L (bs [58]) (iN L (gG L wK p).2).2)).2) (λx hx=>by
   rcases aU.1 hx with hx|hx
   ·exact h x hx
   ·simp at hx;subst hx;simp at hn⊢;omega)
  refine⟨?_,this.2⟩;have h1:=this.1;simp at h1⊢;omega
 ·exact⟨by simp,h⟩
def Vt(L:List Tok):∀(n:Nat) (l:List ik) (p:PS),(qf L n l p).1.length<=l.length+n
|0,l,p=>by simp[qf]
| n+1,l,p=>by
 rw[qf];split
 ·have:=Vt L n (l++[(qd L p).1]) (qd L p).2;simp at this⊢;omega
 ·simp
def zyx(s:di):kz (pW s).1:=by
 have h0:kz oG:=⟨by simp[oG],by simp[oG],by simp[oG]⟩
 have hk:=JE (s:=s);unfold pW;simp only;split
 ·exact h0
 split
 ·exact h0
 ·rename_i h1 h2;obtain⟨hL,hl⟩:=hk (by simpa using h1);unfold Ah;simp only;generalize (kX s).1=L at*
  have a:=Vs L hl (L.length+1) [] ps0 (by simp);have b:=Vt L (L.length+1) [] (wL L (L.length+1) [] ps0).2;exact⟨by have:=a.1;simp at this;simp only;omega,a.2,by simp at b;simp only;omega⟩
def Vu:∀(l:List (di × di)) (i:Nat) (ns:List di) (ms:List ig) (bad:List iA),ns.length=ms.length->(∀m,m∈ms->kz m)->
 (qQ l i ns ms bad).1.1.length=(qQ l i ns ms bad).1.2.length/\(qQ l i ns ms bad).1.2.length=ms.length+l.length/\∀m,m∈(qQ l i ns ms bad).1.2->kz m
|[],i,ns,ms,bad,h1,h2=>by rw[qQ];exact⟨h1,by simp,h2⟩
| s::l,i,ns,ms,bad,h1,h2=>by
 rw[qQ];have:=Vu l (i+1) (ns++[s.1]) (ms++[(pW s.2).1]) (if mJ s.1=false then bad++[⟨i,1,1,10⟩]else if 0<=jU ns s.1 then bad++[⟨i,1,1,8⟩]else if(pW s.2).2.e≠0 then bad++[⟨i,(pW s.2).2.line,(pW s.2).2.col,(pW s.2).2.e⟩]else bad) (by simp[h1]) (λm hm=>by
  rcases aU.1 hm with hm|hm
  ·exact h2 m hm
  ·simp at hm;subst hm;exact zyx _)
 refine⟨this.1,?_,this.2.2⟩;have h3:=this.2.1;simp at h3⊢;omega
def Vv(l:List (di × di))(sc:List (List iO)):zk ⟨(tX l).1.1,(tX l).1.2,sc,z8⟩:=by
 unfold tX;split
 ·exact⟨by simp,rfl,by simp⟩
 ·have:=Vu l 0 [] [] [] rfl (by simp);exact⟨by have:=this.2.1;simp at this;simp only;omega,this.1,this.2.2⟩
abbrev NG(r:gq × List iA):DV:=.tup [.agg r.1.enc,.one (.sl false 4 (r.2.map iA.enc))]
theorem zEC(x:List di × List ig)(s:List (List iO)):put ((yA x).enc.map AC.d) 2 [.d (.sl false 1 (s.map qF))]=(⟨x.1,x.2,s,z8⟩:gq).enc.map .d:=rfl
theorem zCP(a:List di)(b:List ig)(s:List (List iO))(n:di)(m k:Int):splice ((⟨a,b,s,z8⟩:gq).enc.map AC.d) 3 [.d (.str n),.d (.int .i64 m),.d (.int .i64 k)]=(⟨a,b,s,⟨n,m,k⟩⟩:gq).enc.map .d:=rfl
theorem zBh(a:List di)(b:List ig)(s:List (List iO))(n:di)(m k:Int):put ((⟨a,b,s,z8⟩:gq).enc.map AC.d) 3 [.d (.str n),.d (.int .i64 m),.d (.int .i64 k)]=(⟨a,b,s,⟨n,m,k⟩⟩:gq).enc.map .d:=rfl
attribute [simp] zEC zCP zBh
theorem Dw:Aj.enc=[.sl false 1 [],.sl false 2 [],.sl false 1 [],.str (bs []),.int .i64 0,.int .i64 0]:=rfl
def zED(l:List (di × di)):fu Pg 9 [.one (.sl false 2 (l.map kZ))] (NG (qz l)):=by
 refine zAd (by simp) λo c hN hp=>?_;obtain⟨R,hR⟩:∃R,qz l=R:=⟨_,rfl⟩
 rw[hR];unfold qz at hR;simp only at hR;have hfs:=Vv l;have hf:=zD0 l;generalize tX l=f at*
 unfold VH;simp;refine fU hf ?_;by_cases f0:0<f.2.length
 ·rw[aB f0]at hR;subst hR;simp[f0,Dw]
 rw[aA f0]at hR;have hsec:fu Pg 15 [.agg (yA f.1).enc] (.tup [.one (.sl false 1 ((uQ f.1.1 f.1.2 f.1.2 0 [] []).1.map qF)),.one (.sl false 4 ((uQ f.1.1 f.1.2 f.1.2 0 [] []).2.map iA.enc))]):=zB5 (yA f.1) (hfs []);generalize uQ f.1.1 f.1.2 f.1.2 0 [] []=s at*
 simp[f0];refine fU hsec ?_;by_cases s0:0<s.2.length
 ·rw[aB s0]at hR;subst hR;simp[s0,Dw]
 rw[aA s0]at hR;have hthi:fu Pg 16 [.agg (⟨f.1.1,f.1.2,s.1,z8⟩:gq).enc] (.one (.sl false 4 ((ym f.1.1 f.1.2 f.1.2 0 []).map iA.enc))):=zCO ⟨f.1.1,f.1.2,s.1,z8⟩ (hfs s.1);generalize ym f.1.1 f.1.2 f.1.2 0 []=t at*
 simp[s0];refine fU hthi ?_;by_cases t0:0<t.length
 ·rw[aB t0]at hR;subst hR;simp[t0,Dw]
 rw[aA t0]at hR;have hmk:=F9 f.1.1 uk;have hml:=JF f.1.1 uk;have hsm:=hfs s.1;have hnn:f.1.1.length=f.1.2.length:=hsm.2.1;generalize jU f.1.1 uk=z at*
 simp[t0];refine fU hmk ?_;by_cases z0:z<0
 ·rw[aB z0]at hR;subst hR;simp[z0,Dw,iA.enc]
 rw[aA z0]at hR;obtain⟨g1,g2⟩:=getD_in f.1.2 oG (z:=z) (n:=f.1.1.length) (by rw[hnn]) (by omega) (by omega);generalize f.1.2.getD z.toNat oG=M at*
 have hM:=hsm.2.2 M g2;have hMd:=hM.decs;obtain⟨zn,rfl⟩:∃zn:Nat,z=zn:=⟨z.toNat,by omega⟩
 simp only[bJ]at g1;have hdk:=Vk M uk (by omega);have hdl:=Vn M uk;generalize sQ M uk=k at*
 simp[z0,g1];refine fU hdk ?_;by_cases k0:k<0
 ·rw[aB k0]at hR;subst hR;simp[k0,Dw,iA.enc]
 rw[aA k0]at hR;obtain⟨g3,g4⟩:=getD_in M.decs Ak (z:=k) (n:=M.decs.length) rfl (by omega) (by omega);generalize M.decs.getD k.toNat Ak=d at*
 obtain⟨kn,rfl⟩:∃kn:Nat,k=kn:=⟨k.toNat,by omega⟩
 simp only[bJ]at g3;by_cases v0:0<d.vars.length
 ·rw[aB v0]at hR;subst hR;simp[k0,g1,g3,v0,Dw,iA.enc];decide
 ·rw[aA v0]at hR;subst hR;simp[k0,g1,g3,v0]
end Go.Gr
namespace Go.Gr
open Go.Abs Go.Proofs
def NH:MC:=(λx(_:x=gC tt [(7,1)] [(7,[0,0,3,7,0,16,63])] [] (iL 0 (gB Tryz.f123)))=>x) _ (by dsimp[Tryz.f123])
def NI:MC:=(λx(_:x=gC tt [(9,123),(7,1)] [] [] (iL 2 (gB Tryz.f123)))=>x) _ (by dsimp[Tryz.f123])
def NJ:MC:=(λx(_:x=gC tt [(0,3),(6,2),(7,1)] [] [(0,NH),(2,NI)] (gB Tryz.f123))=>x) _ (by dsimp[Tryz.f123])
def Vw:WM Pg 123 73 NJ [.cell 6 true 4,.tmp 7]:=wM gD Tryz.func123 (by kernel_rfl)
def NK:MC:=(λx(_:x=gC tt [(9,123)] [] [] (gB Tryz.f78))=>x) _ (by dsimp[Tryz.f78])
def Vx:WM Pg 78 39 NK [.cell 6 true 4,.tmp 7]:=wM gD Tryz.func78 (by kernel_rfl)
def Vy:MC:=(λx(_:x=gC tt [(9,78)] [(11,[0,0,3,7,15,0,0,0,192,511,1023,2047,2047,0,12287,32767]),(12,[0,0,3,7,0,31,63])] [] (iL 0 (gB Tryz.f129)))=>x) _ (by dsimp[Tryz.f129])
def Vz:MC:=(λx(_:x=gC tt [(6,0)] [] [(0,Vy)] (gB Tryz.f129))=>x) _ (by dsimp[Tryz.f129])
def zAR:WT Pg 129 69 Vz [.tmp 4]:=wT gD Tryz.func129 (by kernel_rfl)
def WA:MC:=(λx(_:x=gC tt [] [(6,[0,1,0,7,15,0,32,0,224,480,1023,2047])] [] (iL 0 (gB Tryz.f38)))=>x) _ (by dsimp[Tryz.f38])
def WB:MC:=(λx(_:x=gC tt [] [] [(0,WA)] (gB Tryz.f38))=>x) _ (by dsimp[Tryz.f38])
def zAS:WT Pg 38 48 WB [.tmp 4]:=wT gD Tryz.func38 (by kernel_rfl)
def WC:MC:=(λx(_:x=gC tt [] [] [] (iL 0 (gB Tryz.f19)))=>x) _ (by dsimp[Tryz.f19])
def WE:MC:=(λx(_:x=gC tt [] [(10,[0,1,3,7,0,31,63,0,255,511])] [] (iL 2 (gB Tryz.f19)))=>x) _ (by dsimp[Tryz.f19])
def WF:MC:=(λx(_:x=gC tt [] [(13,[0,1,3,7,15,0,32,96,224,511]),(15,[0,0,2,6,14,0,32,126,255,511,1023])] [(0,WC),(2,WE)] (gB Tryz.f19))=>x) _ (by dsimp[Tryz.f19])
def ztA:WM Pg 19 71 WF [.tmp 4,.tmp 5]:=wM gD Tryz.func19 (by kernel_rfl)
def WG:MC:=(λx(_:x=gC tt [] [] [] (gB Tryz.f43))=>x) _ (by dsimp[Tryz.f43])
def zAT:WT Pg 43 5 WG [.cell 2 true 4]:=wT gD Tryz.func43 (by kernel_rfl)
def WH:MC:=(λx(_:x=gC tt [] [] [] (iL 0 (gB Tryz.f39)))=>x) _ (by dsimp[Tryz.f39])
def WI:MC:=(λx(_:x=gC tt [(6,0)] [] [(0,WH)] (gB Tryz.f39))=>x) _ (by dsimp[Tryz.f39])
def zAU:WT Pg 39 22 WI [.tmp 2]:=wT gD Tryz.func39 (by kernel_rfl)
def WJ:MC:=(λx(_:x=gC tt [] [] [] (iL 0 (gB Tryz.f127)))=>x) _ (by dsimp[Tryz.f127])
def WK:MC:=(λx(_:x=gC tt [] [] [(0,WJ)] (gB Tryz.f127))=>x) _ (by dsimp[Tryz.f127])
def zAV:WT Pg 127 21 WK [.tmp 4]:=wT gD Tryz.func127 (by kernel_rfl)
def WL:MC:=(λx(_:x=gC tt [] [(1,[0,1,0,0,12,28,63,127])] [] (gB Tryz.f130))=>x) _ (by dsimp[Tryz.f130])
def zAW:WT Pg 130 14 WL [.tmp 6]:=wT gD Tryz.func130 (by kernel_rfl)
def WN:MC:=(λx(_:x=gC tt [] [] [] (gB Tryz.f79))=>x) _ (by dsimp[Tryz.f79])
def zAX:WM Pg 79 25 WN []:=wM gD Tryz.func79 (by kernel_rfl)
def WO:MC:=(λx(_:x=gC tt [(9,79)] [] [] (gB Tryz.f44))=>x) _ (by dsimp[Tryz.f44])
def zDV:WM Pg 44 13 WO []:=wM gD Tryz.func44 (by kernel_rfl)
def WP:MC:=(λx(_:x=gC tt [(9,78),(9,79)] [(1,[0,0,2,6,14,0,32,96,224,511,1023,2047,2047,0,12287,32767])] [] (gB Tryz.f40))=>x) _ (by dsimp[Tryz.f40])
def zwn:WM Pg 40 31 WP [.cell 8 true 4]:=wM gD Tryz.func40 (by kernel_rfl)
def WQ:MC:=(λx(_:x=gC tt [(9,44)] [] [] (gB Tryz.f41))=>x) _ (by dsimp[Tryz.f41])
def zAY:WM Pg 41 20 WQ [.cell 6 true 4]:=wM gD Tryz.func41 (by kernel_rfl)
def WR:MC:=(λx(_:x=gC tt [] [(3,[0,0,2,6,14,30,0,64,192,448,0,1024,0,4096,16320,32704,65534,131071,262143,524287,1048575]),(4,[0,1,3,7,15,31,63,0,0,384,0,1024,4095,8191])] [] (gB Tryz.f93))=>x) _ (by dsimp[Tryz.f93])
def zAZ:WM Pg 93 50 WR [.cell 10 true 8]:=wM gD Tryz.func93 (by kernel_rfl)
def WS:MC:=(λx(_:x=gC tt [(9,93),(9,44)] [] [] (gB Tryz.f46))=>x) _ (by dsimp[Tryz.f46])
def zyb:WM Pg 46 34 WS [.cell 10 true 8]:=wM gD Tryz.func46 (by kernel_rfl)
def WU:MC:=(λx(_:x=gC tt [(9,78)] [(1,[0,1,3,7,15,0,32,127,255,511,0,1024,4095,8191,0,32767])] [] (gB Tryz.f171))=>x) _ (by dsimp[Tryz.f171])
def zuN:WM Pg 171 71 WU [.cell 6 true 4,.tmp 7]:=wM gD Tryz.func171 (by kernel_rfl)
def WV:MC:=(λx(_:x=gC tt [(9,171),(9,44),(9,19)] [(5,[0,1,3,7,0,16,0,64,0,496,1023,2047,4095,4095,8191,32767]),(8,[0,1,0,3,15])] [] (gB Tryz.f128))=>x) _ (by dsimp[Tryz.f128])
def zyc:WM Pg 128 51 WV [.cell 8 true 8,.cell 9 true 4]:=wM gD Tryz.func128 (by kernel_rfl)
def WW:MC:=(λx(_:x=gC tt [(9,40)] [(22,[0,0,2,0,14,30,0,64,0,256,1023,0,4095])] [] (iL 0 (gB Tryz.f81)))=>x) _ (by dsimp[Tryz.f81])
def WY:MC:=(λx(_:x=gC tt [(9,44),(9,128),(4,146),(6,0)] [(2,[0,1,3,7,15,0,32,96,224,511,1023,0,2048,8191,16383,32767,32767,0,196607,524287]),(5,[0,1,0,0,12,28,60,3,255]),(8,[0,0,3,7]),(11,[0,0,3,7]),(12,[0,1,3,7,15,0,32,127,255,511,0,1024,4095,8191,0,32767]),(15,[0,0,3,7]),(25,[0,0,3,7]),(29,[0,0,3,7])] [(0,WW)] (gB Tryz.f81))=>x) _ (by dsimp[Tryz.f81])
def zyW:WM Pg 81 162 WY [.cell 6 true 8,.cell 7 true 4]:=wM gD Tryz.func81 (by kernel_rfl)
def nE:MC:=(λx(_:x=gC tt [(9,81),(9,82),(9,83),(9,84),(9,85),(9,86),(9,87),(9,88),(9,89),(9,90),(9,91)] [(5,[0,1,3,0,15,31]),(7,[0,1,3,0,15,31]),(9,[0,1,3,0,15,31])] [] (gB Tryz.f45))=>x) _ (by dsimp[Tryz.f45])
def uR:WM Pg 45 130 nE [.cell 6 true 8,.cell 7 true 4]:=wM gD Tryz.func45 (by kernel_rfl)
def WZ:MC:=(λx(_:x=gC tt [(9,45),(9,40),(9,46)] [(3,[0,0,2,6,14,0,32,0,128,511,0,2047]),(4,[0,0,0,0,0,16,48,112,255,511]),(6,[0,0,2,6,14,0,0,64,0,480,1023,2047,4095,4095,0,0,57343,131071]),(7,[0,0,3,7,0,15,63])] [] (gB Tryz.f82))=>x) _ (by dsimp[Tryz.f82])
def zCr:WM Pg 82 73 WZ [.cell 6 true 8,.cell 7 true 4]:=wM gD Tryz.func82 (by kernel_rfl)
def W9:MC:=(λx(_:x=gC tt [(9,40),(9,45),(9,46),(9,41)] [(1,[0,0,2,6,14,0,32,0,128,511,0,2047]),(4,[0,0,2,6,14,0,32,0,128,511,1023]),(5,[0,0,2,6,14,0,0,64,0,480,1023,2047,4095,4095,0,0,57343,131071]),(7,[0,0,0,0,0,16,48,112,255,511]),(10,[0,1,3,0,7,31])] [] (gB Tryz.f83))=>x) _ (by dsimp[Tryz.f83])
def zDW:WM Pg 83 84 W9 [.cell 6 true 8,.cell 7 true 4]:=wM gD Tryz.func83 (by kernel_rfl)
def Wd:MC:=(λx(_:x=gC tt [(9,45),(9,93),(9,44),(9,46)] [(10,[0,0,0,0,8,24,56,0,128,384,896,2047,4095]),(11,[0,0,3,7,0,16,48,112,15,511])] [] (gB Tryz.f84))=>x) _ (by dsimp[Tryz.f84])
def zA0:WM Pg 84 75 Wd [.cell 6 true 8,.cell 7 true 4]:=wM gD Tryz.func84 (by kernel_rfl)
def We:MC:=(λx(_:x=gC tt [(9,44)] [(7,[0,1,0,7,15,0,32,0,224,480,1023])] [] (iL 2 (gB Tryz.f85)))=>x) _ (by dsimp[Tryz.f85])
def Wh:MC:=(λx(_:x=gC tt [] [] [(2,We)] (iL 0 (gB Tryz.f85)))=>x) _ (by dsimp[Tryz.f85])
def Wi:MC:=(λx(_:x=gC tt [(9,45)] [] [] (iL 4 (gB Tryz.f85)))=>x) _ (by dsimp[Tryz.f85])
def Wj:MC:=(λx(_:x=gC tt [(9,41),(4,81),(6,4)] [(18,[0,0,1,7])] [(0,Wh),(4,Wi)] (gB Tryz.f85))=>x) _ (by dsimp[Tryz.f85])
def zye:WM Pg 85 84 Wj [.cell 6 true 8,.cell 7 true 4]:=wM gD Tryz.func85 (by kernel_rfl)
def Wl:MC:=(λx(_:x=gC tt [(9,45),(9,93),(9,44)] [(9,[0,1,0,4,15,0,31,127])] [] (gB Tryz.f86))=>x) _ (by dsimp[Tryz.f86])
def zCs:WM Pg 86 56 Wl [.cell 6 true 8,.cell 7 true 4]:=wM gD Tryz.func86 (by kernel_rfl)
def NL:MC:=(λx(_:x=gC tt [] [(14,[0,1,0,7,15,0,32,127]),(15,[0,1,0,4,0,28,60,124,255,511,1023]),(16,[0,1,0,4,0,28,60,124,255,511,1023])] [] (iL 0 (gB Tryz.f87)))=>x) _ (by dsimp[Tryz.f87])
def Wm:MC:=(λx(_:x=gC tt [(9,45),(9,93),(9,44),(1,56),(1,58),(9,41),(4,98)] [(18,[0,1,0,0,12,31,0,63,255])] [(0,NL)] (gB Tryz.f87))=>x) _ (by dsimp[Tryz.f87])
def zyX:WM Pg 87 106 Wm [.cell 6 true 8,.cell 7 true 4]:=wM gD Tryz.func87 (by kernel_rfl)
def Wn:MC:=(λx(_:x=gC tt [(9,45),(9,46),(4,90)] [(3,[0,0,0,0,0,31,63]),(9,[0,0,3,7,15,0,32,127,255,511,511,0,0,7167,16383]),(15,[0,0,0,0,0,16,48,112,255,511]),(16,[0,0,0,0,0,16,48,112,255,511]),(17,[0,0,0,7,15,0,31,127])] [] (gB Tryz.f88))=>x) _ (by dsimp[Tryz.f88])
def zyf:WM Pg 88 130 Wn [.cell 6 true 8,.cell 7 true 4]:=wM gD Tryz.func88 (by kernel_rfl)
def Wo:MC:=(λx(_:x=gC tt [(9,45),(9,40),(9,93)] [(3,[0,0,1,7]),(4,[0,0,2,6,14,0,32,0,128,511,0,2047]),(6,[0,0,1,7]),(9,[0,0,0,0,0,31,63]),(11,[0,0,1,7]),(13,[0,0,0,0,0,31,0,63,255]),(14,[0,1,0,0,12,0,32,127,0,255,1023])] [] (gB Tryz.f89))=>x) _ (by dsimp[Tryz.f89])
def zDX:WM Pg 89 85 Wo [.cell 6 true 8,.cell 7 true 4]:=wM gD Tryz.func89 (by kernel_rfl)
def Wp:MC:=(λx(_:x=gC tt [(9,45),(9,46)] [] [] (gB Tryz.f133))=>x) _ (by dsimp[Tryz.f133])
def zA1:WM Pg 133 24 Wp [.cell 8 true 8]:=wM gD Tryz.func133 (by kernel_rfl)
def Wq:MC:=(λx(_:x=gC tt [] [(24,[0,0,3,7,0,16,63])] [] (iL 1 (gB Tryz.f90)))=>x) _ (by dsimp[Tryz.f90])
def Ws:MC:=(λx(_:x=gC tt [(9,133),(9,45)] [(4,[0,0,2,6,14,0,0,127,0,511]),(5,[0,0,2,6,14,0,0,127,0,511]),(6,[0,0,0,7,15,0,31,127]),(8,[0,0,2,6,14,0,0,127,0,511]),(9,[0,0,2,6,14,0,0,127,0,511]),(10,[0,0,0,7,15,0,31,127]),(14,[0,0,3,7,0,15,63]),(16,[0,0,2,6,14,0,0,127,0,511]),(17,[0,0,2,6,14,0,0,127,0,511]),(18,[0,0,3,7,0,31,63]),(26,[0,0,2,6,14,0,0,127,0,511]),(27,[0,0,2,6,14,0,0,127,0,511]),(31,[0,0,0,6,15,0,31,127])] [(1,Wq)] (gB Tryz.f90))=>x) _ (by dsimp[Tryz.f90])
def zDY:WM Pg 90 167 Ws [.cell 6 true 8,.cell 7 true 4]:=wM gD Tryz.func90 (by kernel_rfl)
def Wt:MC:=(λx(_:x=gC tt [(9,133),(9,45)] [(3,[0,0,2,6,14,0,0,127,0,511]),(4,[0,1,3,0,15,31]),(6,[0,0,2,6,14,0,0,127,0,511]),(7,[0,1,3,0,15,31]),(10,[0,1,0,4,15,0,63,127]),(12,[0,1,3,0,15,31])] [] (gB Tryz.f91))=>x) _ (by dsimp[Tryz.f91])
def zCt:WM Pg 91 76 Wt [.cell 6 true 8,.cell 7 true 4]:=wM gD Tryz.func91 (by kernel_rfl)
def NM:MC:=(λx(_:x=gC tt [] [] [] (iL 0 (gB Tryz.f20)))=>x) _ (by dsimp[Tryz.f20])
def Wu:MC:=(λx(_:x=gC tt [(9,40),(1,74),(9,41),(4,84),(5,87),(4,111),(9,44),(9,45),(9,46)] [(1,[0,1,3,7,15,0,32,127,255,511,0,1024,4095,8191,0,32767]),(7,[0,0,2,6,14,0,32,0,128,511,0,2047]),(8,[0,0,2,6,14,0,32,0,128,511,0,2047]),(12,[0,0,3,7]),(13,[0,1,0,4,12,28,60,124,255,511,1023,2047,1023,5119,13311,29695,62463,127999,262143,524287,1048575,2097151,4194303,8388607]),(17,[0,1,3,7,15,0,32,127,255,511,0,1024,4095,8191]),(27,[0,0,2,6,14,30,0,0,0,448,960,2046,4095,8191,16383,32767]),(29,[0,0,2,6,14,0,32,0,128,384,896,0,2048,6144,14336,0,32768,98304,229376,524256,1048544,2097150,4194303,8388607,16777215])] [(0,NM)] (gB Tryz.f20))=>x) _ (by dsimp[Tryz.f20])
def zvo:WM Pg 20 216 Wu []:=wM gD Tryz.func20 (by kernel_rfl)
def Wv:MC:=(λx(_:x=gC tt [(9,19),(7,1)] [(12,[0,0,0,4,0,16,0,126,254,1,1023])] [] (iL 2 (gB Tryz.f10)))=>x) _ (by dsimp[Tryz.f10])
def Ww:MC:=(λx(_:x=gC tt [] [] [(2,Wv)] (iL 0 (gB Tryz.f10)))=>x) _ (by dsimp[Tryz.f10])
def Wx:MC:=(λx(_:x=gC tt [(9,20)] [] [] (iL 4 (gB Tryz.f10)))=>x) _ (by dsimp[Tryz.f10])
def Wy:MC:=(λx(_:x=gC tt [(0,13),(0,15),(6,0),(7,1)] [(20,[0,0,2,6,14,1,63])] [(0,Ww),(4,Wx)] (gB Tryz.f10))=>x) _ (by dsimp[Tryz.f10])
def zyY:WT Pg 10 125 Wy [.cell 2 true 3,.tmp 3]:=wT gD Tryz.func10 (by kernel_rfl)
def NN:MC:=(λx(_:x=gC tt [] [] [] (iL 0 (gB Tryz.f5)))=>x) _ (by dsimp[Tryz.f5])
def Wz:MC:=(λx(_:x=gC tt [] [] [(0,NN)] (gB Tryz.f5))=>x) _ (by dsimp[Tryz.f5])
def zwo:WT Pg 5 55 Wz [.cell 2 true 3,.tmp 3]:=wT gD Tryz.func5 (by kernel_rfl)
def XA:MC:=(λx(_:x=gC tt [] [] [] (iL 0 (gB Tryz.f8)))=>x) _ (by dsimp[Tryz.f8])
def XB:MC:=(λx(_:x=gC tt [] [] [(0,XA)] (gB Tryz.f8))=>x) _ (by dsimp[Tryz.f8])
def zCu:WT Pg 8 40 XB [.tmp 2]:=wT gD Tryz.func8 (by kernel_rfl)
end Go.Gr
namespace Go.Gr
open Go.Abs Go.Proofs List
abbrev sF(l:List di):Blk:=.arr 1 ((encS l).map (·.map .d))
def oJ(vs:List di)(wth:List fZ)(a:List fZ)(l:List fZ):List fZ × Bool:=if(xu vs wth l).2=true then(a++(xu vs wth l).1,true)else([],false)
def XC(vs:List di)(wth:List fZ)(a:List fZ)(t:fZ)(l:List fZ):oJ vs wth a (t::l)=if(rf vs wth t).2=true then oJ vs wth (a++[(rf vs wth t).1]) l else([],false):=by
 unfold oJ;rw[xu];by_cases h:(rf vs wth t).2=true
 ·rw[aB h,aB h];by_cases h2:(xu vs wth l).2=true
  ·simp[h2]
  ·simp[h2]
 ·rw[aA h,aA h];simp
def XD(vs:List di)(wth:List fZ)(t:fZ):rf vs wth t=if t.kind=8 then(if 0<t.names.length\/0<t.kids.length then(t,false)else match xq vs wth t.name with
   |some u=>(u,true)
   |none=>(t,false))
  else if(oJ vs wth [] t.kids).2=true then(.mk t.kind t.name t.names (oJ vs wth [] t.kids).1,true)else(t,false):=by
 cases t with
 | mk k n s l=>
  unfold oJ;rw[rf];simp only[fZ.kind,fZ.name,fZ.names,fZ.kids,nil_append];by_cases h:(xu vs wth l).2=true
  ·simp[h];rfl
  ·simp[h];rfl
def sG(k:Int)(n:di)(s:List di)(l:List fZ):fZ.enc (.mk k n s l)=[.int .i64 k,.str n,.sl false 1 (encS s),.sl false 4 (l.map fZ.enc)]:=by rw[fZ.enc_eq];try rfl
def XE(t:fZ)(b n:Nat):put (t.enc.map AC.d) 3 [.msl 4 b 0 n]=[.d (.int .i64 t.kind),.d (.str t.name),.d (.sl false 1 (encS t.names)),.msl 4 b 0 n]:=by rw[fZ.enc_eq];try rfl
def XF{ts:List (Nat × Nat)}(h:ts.length=([]:List Blk).length):ts=[]:=aa.1 h
abbrev RepD(vs:List di)(wth:List fZ)(u:fZ):Prop:=MCall Pg 123 [.ag (u.enc.map .d),.c (.d (.sl false 1 (encS vs))),.c (.d (.sl false 4 (wth.map fZ.enc)))] [] (.tup [.ag ((rf vs wth u).1.enc.map .d),.c (.d (.bool (rf vs wth u).2))]) []
abbrev Fa(vs:List di)(wth:List fZ):List (Nat × AV):=[(6,.c (.ptr 1 0)),(3,.c (.ptr 0 0)),(2,.c (.d (.sl false 4 (wth.map fZ.enc)))),(1,.c (.d (.sl false 1 (encS vs))))]
def zCh(vs:List di)(wth:List fZ)(hv:vs.length=wth.length)(hl:wth.length<=1000000)(u:fZ)(hk:u.kids.length<=200)(ih:∀e,e∈u.kids->RepD vs wth e):RepD vs wth u:=by
 refine Vw mU λts hts ok hb c hN hp=>?_;have hts:=XF hts;subst hts;obtain⟨R,hR⟩:∃R,rf vs wth u=R:=⟨_,rfl⟩
 rw[hR];rw[XD]at hR;unfold NJ;by_cases k8:u.kind=8
 ·rw[aB k8]at hR;by_cases n0:0<u.names.length
  ·rw[aB (.inl n0)]at hR;subst hR;simp[k8,n0];refine eU [] ?_;simp;exact eH [] []
  by_cases c0:0<u.kids.length
  ·rw[aB (.inr c0)]at hR;subst hR;simp[k8,n0,c0];refine eU [] ?_;simp;exact eH [] []
  rw[aA (by omega)]at hR;simp[k8,n0,c0];refine eP gD hp (λj:Nat=>j<=vs.length/\xq (vs.drop j) (wth.drop j) u.name=xq vs wth u.name) (λj=>(8,.c (.d (.int .i64 j)))::Fa vs wth) (λ_=>[.box (u.enc.map .d),sU]) (λj=>vs.length-j) 0 [0,1] ⟨by simp,by simp⟩ (by simp) λj ⟨h1,h2⟩=>?_;unfold NH;simp;apply fM<;>intro h
  ·have hj:j<vs.length:=by simpa using h
   have hj2:j<wth.length:=by omega
   rw[aG hj,aG hj2,xq]at h2;have hw:=wI (n:=(j:Int)+1);by_cases q:vs[j]=u.name
   ·rw[aB q]at h2;rw[<-h2]at hR;simp only at hR;subst hR;simp[hj,hj2,q];refine⟨by decide,?_⟩;refine eU [] ?_;simp;exact eH [] []
   ·rw[aA q]at h2;simp[hj,hj2,q];refine⟨by decide,?_⟩;refine dm (j+1) [0,1] ⟨by omega,h2⟩ (by omega) ?_;simp[hw]
  ·have hj:j=vs.length:=by simp at h;omega
   subst hj;rw[aQ,xq]at h2;rotate_left
   ·intros;contradiction
   rw[<-h2]at hR;simp only at hR;subst hR;simp;refine eU [] ?_;simp;exact eH [] []
 rw[aA k8]at hR;simp[k8];refine eY [.t 9] ?_;simp;obtain⟨F0,hF⟩:∃F0,oJ vs wth [] u.kids=F0:=⟨_,rfl⟩
 rw[hF]at hR;refine eP gD hp (λx:Nat × List fZ=>x.1<=u.kids.length/\x.2.length<=x.1/\oJ vs wth x.2 (u.kids.drop x.1)=F0) (λx=>(10,.c (.d (.int .i64 x.1)))::(9,.c (.msl 4 2 0 x.2.length))::Fa vs wth) (λx=>[.box (u.enc.map .d),sU,nU x.2]) (λx=>u.kids.length-x.1) (0,[]) [0,1,2] ⟨by simp,by simp,by simpa using hF⟩ (by simp) λ⟨j,a⟩ ⟨h1,h2,h3⟩=>?_;unfold NI;simp only at h1 h2 h3;simp;apply fM<;>intro h
 ·have hj:j<u.kids.length:=by simpa using h
  rw[aG hj,XC]at h3;obtain⟨x,hx⟩:∃x,u.kids[j]=x:=⟨_,rfl⟩
  have hm:=ai hj;rw[hx]at h3 hm;have hix:=ih x hm;unfold RepD at hix;have hw:=wI (n:=(j:Int)+1);generalize rf vs wth x=r at*
  simp[hj,hx];refine fO [] hix ?_;by_cases q:r.2=true
  ·rw[aB q]at h3;simp[q];refine⟨by omega,?_⟩;refine dm (j+1,a++[r.1]) [0,1,4] ⟨by simp only;omega,by simp;omega,h3⟩ (by simp only;omega) ?_;simp[hw];exact uw a
  ·rw[aA q]at h3;subst h3;simp only[au,if_false]at hR;subst hR;simp[q];refine eU [] ?_;simp;exact eH [] []
 ·have hj:j=u.kids.length:=by simp at h;omega
  subst hj;rw[aQ]at h3;have e:oJ vs wth a []=(a,true):=by unfold oJ;simp[xu]
  rw[e]at h3;subst h3;simp only[if_true]at hR;subst hR;simp[XE];refine eU [2] ?_;simp[jT,nM];exact eO [] [] (by simp[jT,sG,nM])
mutual
def XG(vs:List di)(wth:List fZ)(hv:vs.length=wth.length)(hl:wth.length<=1000000):∀t:fZ,qE t->RepD vs wth t
|.mk k n s l,h=>by
 rw[qE]at h;exact zCh vs wth hv hl (.mk k n s l) h.1 (λe he=>XH vs wth hv hl l h.2 e he)
def XH(vs:List di)(wth:List fZ)(hv:vs.length=wth.length)(hl:wth.length<=1000000):∀l:List fZ,xH l->∀e,e∈l->RepD vs wth e
|[],_,e,h=>by cases h
|d::l,hf,e,h=>by
 rw[xH]at hf;cases h with
 |head=>exact XG vs wth hv hl d hf.1
 |tail _ h=>exact XH vs wth hv hl l hf.2 e h
end
def NP(vs:List di)(wth:List fZ)(hl:wth.length<=1000000)(u:fZ):
  MCall Pg 78 [.ag (u.enc.map .d),.c (.d (.sl false 1 (encS vs))),.c (.d (.sl false 4 (wth.map fZ.enc)))] [] (.tup [.ag ((oV u vs wth).1.enc.map .d),.c (.d (.int .i64 (oV u vs wth).2))]) []:=by
 refine Vx mU λts hts ok hb c hN hp=>?_;have hts:=XF hts;subst hts;obtain⟨R,hR⟩:∃R,oV u vs wth=R:=⟨_,rfl⟩
 rw[hR];unfold oV at hR;unfold NK;by_cases hv:vs.length=wth.length;rotate_left
 ·rw[aB hv]at hR;subst hR;have hv':¬(vs.length:Int)=wth.length:=by omega
  simp[hv,hv'];exact eF [] [] (by simp[mW,AV.erds,AV.erd])
 rw[aA (λz=>z hv)]at hR;have hv':(vs.length:Int)=wth.length:=by omega
 simp[hv'];refine fU (M5 u) ?_;by_cases s1:200<mq u 201
 ·rw[aB (.inl s1)]at hR;subst hR;simp[s1];exact eF [] [] (by simp[mW,AV.erds,AV.erd])
 simp[s1];refine fU (M7 u) ?_;by_cases s2:16<nK 17 u
 ·rw[aB (.inr s2)]at hR;subst hR;simp[s2];exact eF [] [] (by simp[mW,AV.erds,AV.erd])
 rw[aA (by omega)]at hR;have hrp:=XG vs wth hv hl u (FT u 201 (by omega) (by omega));unfold RepD at hrp;generalize rf vs wth u=r at*
 simp[s2];refine fO [] hrp ?_;by_cases q:r.2=true
 ·rw[aB q]at hR;have hn:=CG r.1;generalize kS r.1=N at*
  subst hR;simp[q];refine fU hn ?_;simp;exact eH [] []
 ·rw[aA q]at hR;subst hR;simp[q];exact eF [] [] (by simp[mW,AV.erds,AV.erd])
abbrev wS(vs:List di)(wth:List fZ)(u:fZ):Prop:=MCall Pg 123 [.ag (u.enc.map .d),.c (.msl 1 0 0 vs.length),.c (.d (.sl false 4 (wth.map fZ.enc)))] [sF vs] (.tup [.ag ((rf vs wth u).1.enc.map .d),.c (.d (.bool (rf vs wth u).2))]) [sF vs]
abbrev Fb(vs:List di)(wth:List fZ):List (Nat × AV):=[(6,.c (.ptr 3 0)),(3,.c (.ptr 2 0)),(2,.c (.d (.sl false 4 (wth.map fZ.enc)))),(1,.c (.msl 1 0 0 vs.length))]
def zCi(vs:List di)(wth:List fZ)(hv:vs.length=wth.length)(hl:wth.length<=1000000)(u:fZ)(hk:u.kids.length<=200)(ih:∀e,e∈u.kids->wS vs wth e):wS vs wth u:=by
 refine Vw mU λts hts ok hb c hN hp=>?_;obtain⟨t,rfl⟩:=mV hts;obtain⟨R,hR⟩:∃R,rf vs wth u=R:=⟨_,rfl⟩
 rw[hR];rw[XD]at hR;unfold NJ;by_cases k8:u.kind=8
 ·rw[aB k8]at hR;by_cases n0:0<u.names.length
  ·rw[aB (.inl n0)]at hR;subst hR;simp[k8,n0];refine eU [] ?_;simp;exact eH [0] [1]
  by_cases c0:0<u.kids.length
  ·rw[aB (.inr c0)]at hR;subst hR;simp[k8,n0,c0];refine eU [] ?_;simp;exact eH [0] [1]
  rw[aA (by omega)]at hR;simp[k8,n0,c0];refine eP gD hp (λj:Nat=>j<=vs.length/\xq (vs.drop j) (wth.drop j) u.name=xq vs wth u.name) (λj=>(8,.c (.d (.int .i64 j)))::Fb vs wth) (λ_=>[sF vs,.pin t 0,.box (u.enc.map .d),sU]) (λj=>vs.length-j) 0 [0,1,2,3] ⟨by simp,by simp⟩ (by simp) λj ⟨h1,h2⟩=>?_;unfold NH;simp;apply fM<;>intro h
  ·have hj:j<vs.length:=by simpa using h
   have hj2:j<wth.length:=by omega
   rw[aG hj,aG hj2,xq]at h2;have hw:=wI (n:=(j:Int)+1);by_cases q:vs[j]=u.name
   ·rw[aB q]at h2;rw[<-h2]at hR;simp only at hR;subst hR;simp[hj,hj2,q];refine⟨by decide,?_⟩;refine eU [] ?_;simp;exact eH [0] [1]
   ·rw[aA q]at h2;simp[hj,hj2,q];refine⟨by decide,?_⟩;refine dm (j+1) [0,1,2,3] ⟨by omega,h2⟩ (by omega) ?_;simp[hw]
  ·have hj:j=vs.length:=by simp at h;omega
   subst hj;rw[aQ,xq]at h2;rotate_left
   ·intros;contradiction
   rw[<-h2]at hR;simp only at hR;subst hR;simp;refine eU [] ?_;simp;exact eH [0] [1]
 rw[aA k8]at hR;simp[k8];refine eY [.t 9] ?_;simp;obtain⟨F0,hF⟩:∃F0,oJ vs wth [] u.kids=F0:=⟨_,rfl⟩
 rw[hF]at hR;refine eP gD hp (λx:Nat × List fZ=>x.1<=u.kids.length/\x.2.length<=x.1/\oJ vs wth x.2 (u.kids.drop x.1)=F0) (λx=>(10,.c (.d (.int .i64 x.1)))::(9,.c (.msl 4 4 0 x.2.length))::Fb vs wth) (λx=>[sF vs,.pin t 0,.box (u.enc.map .d),sU,nU x.2]) (λx=>u.kids.length-x.1) (0,[]) [0,1,2,3,4] ⟨by simp,by simp,by simpa using hF⟩ (by simp) λ⟨j,a⟩ ⟨h1,h2,h3⟩=>?_;unfold NI;simp only at h1 h2 h3;simp;apply fM<;>intro h
 ·have hj:j<u.kids.length:=by simpa using h
  rw[aG hj,XC]at h3;obtain⟨x,hx⟩:∃x,u.kids[j]=x:=⟨_,rfl⟩
  have hm:=ai hj;rw[hx]at h3 hm;have hix:=ih x hm;unfold wS at hix;have hw:=wI (n:=(j:Int)+1);generalize rf vs wth x=r at*
  simp[hj,hx];refine fO [0] hix ?_;by_cases q:r.2=true
  ·rw[aB q]at h3;simp[q];refine⟨by omega,?_⟩;refine dm (j+1,a++[r.1]) [0,1,2,3,6] ⟨by simp only;omega,by simp;omega,h3⟩ (by simp only;omega) ?_;simp[hw];exact uw a
  ·rw[aA q]at h3;subst h3;simp only[au,if_false]at hR;subst hR;simp[q];refine eU [] ?_;simp;exact eH [0] [1]
 ·have hj:j=u.kids.length:=by simp at h;omega
  subst hj;rw[aQ]at h3;have e:oJ vs wth a []=(a,true):=by unfold oJ;simp[xu]
  rw[e]at h3;subst h3;simp only[if_true]at hR;subst hR;simp[XE];refine eU [4] ?_;simp[jT,nM];exact eO [0] [1] (by simp[jT,sG,nM])
mutual
def XI(vs:List di)(wth:List fZ)(hv:vs.length=wth.length)(hl:wth.length<=1000000):∀t:fZ,qE t->wS vs wth t
|.mk k n s l,h=>by
 rw[qE]at h;exact zCi vs wth hv hl (.mk k n s l) h.1 (λe he=>XJ vs wth hv hl l h.2 e he)
def XJ(vs:List di)(wth:List fZ)(hv:vs.length=wth.length)(hl:wth.length<=1000000):∀l:List fZ,xH l->∀e,e∈l->wS vs wth e
|[],_,e,h=>by cases h
|d::l,hf,e,h=>by
 rw[xH]at hf;cases h with
 |head=>exact XI vs wth hv hl d hf.1
 |tail _ h=>exact XJ vs wth hv hl l hf.2 e h
end
def zyV(vs:List di)(wth:List fZ)(hl:wth.length<=1000000)(u:fZ):
  MCall Pg 78 [.ag (u.enc.map .d),.c (.msl 1 0 0 vs.length),.c (.d (.sl false 4 (wth.map fZ.enc)))] [sF vs] (.tup [.ag ((oV u vs wth).1.enc.map .d),.c (.d (.int .i64 (oV u vs wth).2))]) [sF vs]:=by
 refine Vx mU λts hts ok hb c hN hp=>?_;obtain⟨t,rfl⟩:=mV hts;obtain⟨R,hR⟩:∃R,oV u vs wth=R:=⟨_,rfl⟩
 rw[hR];unfold oV at hR;unfold NK;by_cases hv:vs.length=wth.length;rotate_left
 ·rw[aB hv]at hR;subst hR;have hv':¬(vs.length:Int)=wth.length:=by omega
  simp[hv,hv'];exact eF [0] [1] (by simp[mW,AV.erds,AV.erd])
 rw[aA (λz=>z hv)]at hR;have hv':(vs.length:Int)=wth.length:=by omega
 simp[hv'];refine fU (M5 u) ?_;by_cases s1:200<mq u 201
 ·rw[aB (.inl s1)]at hR;subst hR;simp[s1];exact eF [0] [1] (by simp[mW,AV.erds,AV.erd])
 simp[s1];refine fU (M7 u) ?_;by_cases s2:16<nK 17 u
 ·rw[aB (.inr s2)]at hR;subst hR;simp[s2];exact eF [0] [1] (by simp[mW,AV.erds,AV.erd])
 rw[aA (by omega)]at hR;have hrp:=XI vs wth hv hl u (FT u 201 (by omega) (by omega));unfold wS at hrp;generalize rf vs wth u=r at*
 simp[s2];refine fO [0] hrp ?_;by_cases q:r.2=true
 ·rw[aB q]at hR;have hn:=CG r.1;generalize kS r.1=N at*
  subst hR;simp[q];refine fU hn ?_;simp;exact eH [0] [1]
 ·rw[aA q]at hR;subst hR;simp[q];exact eF [0] [1] (by simp[mW,AV.erds,AV.erd])
@[simp] theorem zIi(v:di × fZ):(iI v)[0]?=some (.str v.1):=rfl
@[simp] theorem zGt(v:di × fZ):(iI v)[1]?=some (.int .i64 v.2.kind):=by unfold iI;rw[fZ.enc_eq];try rfl
@[simp] theorem zIa(v:di × fZ)(h:0<(iI v).length):(iI v)[0]=.str v.1:=rfl
@[simp] theorem zIb(v:di × fZ)(h:1<(iI v).length):(iI v)[1]=.int .i64 v.2.kind:=by have:=zGt v;rw[aD h]at this;exact bV this
@[simp] theorem zH3(v:di × fZ):cut (iI v) 1 4=v.2.enc:=by unfold iI;rw[fZ.enc_eq];try rfl
def zFi(vars:List (di × fZ))(l:List fZ)(hl:l.length<=1000000):fu Pg 129 [.one (.sl false 5 (vars.map iI)),.one (.sl false 4 (l.map fZ.enc))] (.one (.int .i64 (Dr vars l))):=by
 refine zAR (by simp) λo c hN hp=>?_;obtain⟨R,hR⟩:∃R,Dr vars l=R:=⟨_,rfl⟩
 rw[hR];unfold Dr at hR;unfold Vz;by_cases hv:vars.length=l.length;rotate_left
 ·rw[aB hv]at hR;subst hR;have hv':¬(vars.length:Int)=l.length:=by omega
  simp[hv']
 rw[aA (λz=>z hv)]at hR;have hv':(vars.length:Int)=l.length:=by omega
 simp[hv'];refine eY [.t 5] ?_;simp;refine eP gD hp (λi:Nat=>i<=l.length/\FL (vars.drop i) (l.drop i) ((vars.take i).map (·.1)) (l.take i)=R) (λi=>[(6,.c (.d (.int .i64 i))),(5,.c (.msl 1 0 0 i)),(1,.c (.d (.sl false 4 (l.map fZ.enc)))),(0,.c (.d (.sl false 5 (vars.map iI))))]) (λi=>[sF ((vars.take i).map (·.1))]) (λi=>l.length-i) 0 [0] ⟨by simp,by simpa using hR⟩ (by simp[encS]) λi ⟨h1,h2⟩=>?_;unfold Vy;simp;apply fM<;>intro h
 ·have hi:i<l.length:=by simpa using h
  have hi2:i<vars.length:=by omega
  rw[aG hi,aG hi2,FL]at h2;obtain⟨x,hx⟩:∃x,l[i]=x:=⟨_,rfl⟩
  obtain⟨v,hv3⟩:∃v,vars[i]=v:=⟨_,rfl⟩
  rw[hx,hv3]at h2;have hw:=wI (n:=(i:Int)+1);have tk1:(vars.take (i+1)).map (·.1)=(vars.take i).map (·.1)++[v.1]:=by rw[ak hi2,map_append,hv3];try rfl
  have tk2:l.take (i+1)=l.take i++[x]:=by rw[ak hi,hx]
  have hlt:(l.take i).length=i:=by rw[bU];omega
  have hvt:((vars.take i).map (·.1)).length=i:=by rw[ah,bU];omega
  simp[hi,hx];refine fU (zf x) ?_;by_cases n:gI x=true;rotate_left
  ·rw[aB (by simpa using n)]at h2;subst h2;simp[n]
  rw[aA (by simp[n])]at h2;by_cases k0:v.2.kind=0
  ·rw[aA (λz=>z.1 k0)]at h2;simp[n,hi2,hv3,k0];refine⟨by omega,by omega,?_⟩;refine dm (i+1) [1] ⟨by omega,by rw[tk1,tk2];exact h2⟩ (by omega) ?_;rw[tk1];simp[hw,hvt];exact aH (by simp;omega)
  ·have hro:=zyV ((vars.take i).map (·.1)) (l.take i) (by rw[hlt];omega) v.2;rw[hvt]at hro;have hsb:=F7 x (oV v.2 ((vars.take i).map (·.1)) (l.take i)).1;generalize oV v.2 ((vars.take i).map (·.1)) (l.take i)=r at*
   simp[n,hi2,hv3,k0,h1];refine fO [0] hro ?_;simp[hi,hx];refine⟨by decide,?_⟩;refine fU hsb ?_;by_cases e0:r.2=0
   ·by_cases s0:lU x r.1=true
    ·rw[aA (by simp[e0,s0])]at h2;simp[e0,s0,hi2,hv3];refine⟨by decide,by omega,by omega,?_⟩;refine dm (i+1) [2] ⟨by omega,by rw[tk1,tk2];exact h2⟩ (by omega) ?_;rw[tk1];simp[hw,hvt];exact aH (by simp;omega)
    ·rw[aB ⟨k0,.inr (by simpa using s0)⟩]at h2;subst h2;simp[e0,s0];try decide
   ·rw[aB ⟨k0,.inl e0⟩]at h2;subst h2;simp[e0];try decide
 ·have hi:i=l.length:=by simp at h;omega
  subst hi;rw[aQ,FL]at h2
  ·subst h2;simp
  ·intros;contradiction
@[simp] theorem jR.enc_length(x:jR):x.enc.length=3:=rfl
@[simp] theorem jR.enc_0(x:jR):x.enc[0]?=some (.int .i64 x.module):=rfl
@[simp] theorem jR.enc_1(x:jR):x.enc[1]?=some (.int .i64 x.decl):=rfl
@[simp] theorem jR.enc_2(x:jR):x.enc[2]?=some (.sl false 4 (x.types.map fZ.enc)):=rfl
@[simp] theorem jR.enc_g0(x:jR)(h:0<x.enc.length):x.enc[0]=.int .i64 x.module:=rfl
@[simp] theorem jR.enc_g1(x:jR)(h:1<x.enc.length):x.enc[1]=.int .i64 x.decl:=rfl
@[simp] theorem jR.enc_g2(x:jR)(h:2<x.enc.length):x.enc[2]=.sl false 4 (x.types.map fZ.enc):=rfl
@[simp] theorem jR.cut_enc(x:jR):cut x.enc 0 3=x.enc:=rfl
@[simp] theorem jR.cut_map(x:jR):cut (x.enc.map AC.d) 0 3=x.enc.map .d:=rfl
def zDF(a b:jR):fu Pg 38 [.agg a.enc,.agg b.enc] (.one (.bool (xw a b))):=by
 refine zAS (by simp) λo c hN hp=>?_;have hl:a.types.length<=zao:=by
  have:=o.1;simp only[DV.ok,jR.enc,D.okL,D.ok,ah]at this;exact this.2.2.1.1
 unfold zao at hl;obtain⟨R,hR⟩:∃R,xw a b=R:=⟨_,rfl⟩
 rw[hR];unfold xw at hR;unfold WB;by_cases q1:a.module=b.module;rotate_left
 ·simp[q1]at hR;simp[q1,hR]
 by_cases q2:a.decl=b.decl;rotate_left
 ·simp[q2]at hR;simp[q1,q2,hR]
 by_cases q3:a.types.length=b.types.length;rotate_left
 ·have:qB nA a.types b.types=false:=by
   cases h:qB nA a.types b.types with
   |false=>rfl
   |true=>exact absurd (M8 h) q3
  have q3':¬(a.types.length:Int)=b.types.length:=by omega
  simp[this]at hR;simp[q1,q2,q3,q3',hR]
 simp[q1,q2]at hR;simp[q1,q2,q3];refine eP gD hp (λj:Nat=>j<=a.types.length/\qB nA (a.types.drop j) (b.types.drop j)=R) (λj=>[(5,.c (.d (.int .i64 j))),(3,.c (.d (.rp b.enc 0))),(2,.c (.d (.rp a.enc 0)))]) (λ_=>[]) (λj=>a.types.length-j) 0 [] ⟨by simp,by simpa using hR⟩ (by simp) λj ⟨h1,h2⟩=>?_;unfold WA;simp;apply fM<;>intro h
 ·have hj:j<a.types.length:=by simpa using h
  have hj2:j<b.types.length:=by omega
  rw[aG hj,aG hj2,qB]at h2;simp[hj,hj2];refine fU (Dt _ _) ?_;generalize nA a.types[j] b.types[j]=q at*
  cases q with
  |true=>
   simp at h2;simp;refine⟨by decide,?_⟩;refine dm (j+1) [] ⟨by omega,h2⟩ (by omega) ?_;simp;exact wI
  |false=>
   simp at h2;simp[h2];try decide
 ·have hj:j=a.types.length:=by simp at h;omega
  subst hj;rw[aQ,q3,aQ]at h2;simp[qB]at h2;simp[h2]
abbrev nW(l:List jR):Blk:=.arr 3 ((l.map jR.enc).map (·.map .d))
abbrev wU(most:Int)(n b:Nat):Blk:=.box [.d (.int .i64 most),.msl 3 b 0 n]
def zHm{ts:List (Nat × Nat)}{a b:Blk}(h:ts.length=[a,b].length):∃t u,ts=[t,u]:=by
 match ts,h with
 |[t,u],_=>exact⟨t,u,rfl⟩
def XK(most:Int)(l:List jR)(hl:l.length<=100000)(x:jR)(hx:x.types.length<=1000000):
  MCall Pg 19 [.c (.ptr 0 0),.ag (x.enc.map .d)] [wU most l.length 1,nW l] (.tup [.c (.d (.int .i64 (jq most l x).1.1)),.c (.d (.int .i64 (jq most l x).1.2))]) [wU most (jq most l x).2.length 2,.dead,nW (jq most l x).2]:=by
 refine ztA ⟨by simp,by simp,by simp,by simp,by simp,by simp,by simp;rfl⟩ λts hts ok hb c hN hp=>?_;obtain⟨t,u,rfl⟩:=zHm hts;obtain⟨R,hR⟩:∃R,jq most l x=R:=⟨_,rfl⟩
 rw[hR];unfold jq at hR;unfold WF;simp;refine eP gD hp (λj:Nat=>j<=x.types.length/\(x.types.drop j).all gI=x.types.all gI) (λj=>[(6,.c (.d (.int .i64 j))),(3,.c (.d (.rp x.enc 0))),(0,.c (.ptr 0 0))]) (λ_=>[wU most l.length 1,nW l,.pin t 0,.pin u 1]) (λj=>x.types.length-j) 0 [0,1,2,3] ⟨by simp,by simp⟩ (by simp) λj ⟨h1,h2⟩=>?_;unfold WC;simp;apply fM<;>intro h
 ·have hj:j<x.types.length:=by simpa using h
  rw[aG hj,all_cons]at h2;simp[hj];refine fU (zf _) ?_;have hw:=wI (n:=(j:Int)+1);generalize gI x.types[j]=q at*
  cases q with
  |false=>
   simp only[Bool.false_and]at h2;rw[aB h2.symm]at hR;subst hR;simp;exact eH [0,3,1] [2,3]
  |true=>
   simp only[Bool.true_and]at h2;simp;refine dm (j+1) [0,1,2,3] ⟨by omega,h2⟩ (by omega) ?_;simp[hw]
 ·have hj:j=x.types.length:=by simp at h;omega
  subst hj;rw[aQ,all_nil]at h2;rw[aA (by rw[<-h2];simp)]at hR;simp;refine eP gD hp (λi:Nat=>i<=l.length/\fi (λy=>xw y x) i (l.drop i)=fi (λy=>xw y x) 0 l) (λi=>[(8,.c (.d (.int .i64 i))),(3,.c (.d (.rp x.enc 0))),(0,.c (.ptr 0 0))]) (λ_=>[wU most l.length 1,nW l,.pin t 0,.pin u 1]) (λi=>l.length-i) 0 [0,1,2,3] ⟨by simp,by simp⟩ (by simp) λi ⟨h3,h4⟩=>?_;unfold WE;simp;apply fM<;>intro h
  ·have hi:i<l.length:=by simpa using h
   rw[aG hi,fi]at h4;have hw:=wI (n:=(i:Int)+1);simp[hi];refine fU (zDF _ _) ?_;by_cases q:xw l[i] x=true
   ·rw[aB q]at h4;rw[<-h4,aB (by omega)]at hR;subst hR;simp[q];refine⟨by decide,?_⟩;exact eH [0,3,1] [2,3]
   ·rw[aA q]at h4;simp[q];refine⟨by decide,?_⟩;refine dm (i+1) [0,1,2,3] ⟨by omega,h4⟩ (by omega) ?_;simp[hw]
  ·have hi:i=l.length:=by simp at h;omega
   subst hi;rw[aQ,fi]at h4;rw[<-h4,aA (by decide)]at hR;simp;by_cases m:most<=l.length
   ·rw[aB m]at hR;subst hR;simp[m];refine⟨by decide,?_⟩;exact eH [0,3,1] [2,3]
   ·rw[aA m]at hR;subst hR;have hw:IntKind.i64.wrap (l.length:Int)=(l.length:Int):=wI;simp[m];refine⟨by decide,by omega,by decide,?_⟩;exact eO [0,1,4] [2,3] (by simp[hw,nM])
@[simp] theorem kJ.enc_length(f:kJ):f.enc.length=13:=by simp[kJ.enc]
@[simp] theorem Site.enc_length(f:Site):f.enc.length=3:=rfl
abbrev qG(l:List kJ):Blk:=.arr 13 ((l.map kJ.enc).map (·.map .d))
abbrev qH(l:List Site):Blk:=.arr 3 ((l.map Site.enc).map (·.map .d))
abbrev tq(L:gq)(s:CS)(a b d:Nat):Blk:=.box [.d (.sl false 1 (encS L.names)),.d (.sl false 2 (L.mods.map ig.enc)),.d (.sl false 1 (L.scopes.map qF)),.d (.str L.main.name),.d (.int .i64 L.main.module),.d (.int .i64 L.main.decl),.ptr 1 0,.msl 13 a 0 s.funs.length,.d (.int .i64 s.main),.msl 3 b 0 s.sites.length,.msl 4 d 0 s.bad.length,.d (.int .i64 s.module),.d (.sl false 1 (encS s.vars)),.d (.sl false 4 (s.wth.map fZ.enc)),.d (.int .i64 s.e),.d (.int .i64 s.line),.d (.int .i64 s.col)]
abbrev qI(L:gq)(s:CS):List Blk:=[tq L s 2 3 4,wU 256 s.tab.length 5,qG s.funs,qH s.sites,lV s.bad,nW s.tab]
abbrev XL(L:gq)(s:CS):List Blk:=[tq L s 2 6 4,wU 256 s.tab.length 5,qG s.funs,.dead,lV s.bad,nW s.tab,qH s.sites]
abbrev JH(L:gq)(s:CS):List Blk:=[tq L s 2 6 4,wU 256 s.tab.length 7,qG s.funs,.dead,lV s.bad,.dead,qH s.sites,nW s.tab]
def lq{ts:List (Nat × Nat)}{a b c d e f:Blk}(h:ts.length=[a,b,c,d,e,f].length):∃t u v w x y,ts=[t,u,v,w,x,y]:=by
 match ts,h with
 |[t,u,v,w,x,y],_=>exact⟨t,u,v,w,x,y,rfl⟩
section
variable (L:gq)
def XM(ln cl e:Int)(s:CS):MCall Pg 79 [.c (.ptr 0 0),.c (.d (.int .i64 ln)),.c (.d (.int .i64 cl)),.c (.d (.int .i64 e))] (qI L s) (.tup []) (qI L (kL ln cl e s)):=by
 refine zAX lY λts hts ok hb c hN hp=>?_;obtain⟨t,u,v,w,x,y,rfl⟩:=lq hts;unfold WN kL;by_cases h0:s.e=0
 ·rw[aB h0];simp[h0];exact eH [0,1,2,3,4,5] [6,7,8,9,10,11]
 ·rw[aA h0];simp[h0];exact eH [0,1,2,3,4,5] [6,7,8,9,10,11]
def zq{α:Type}{l:List α}{i:Nat}{d:α}(e:l[i]?=some d)(h:i<l.length):l[i]=d:=by rw[aD h]at e;exact bV e
@[simp] theorem fo.enc_0(n:fo):n.enc[0]?=some (.int .i64 n.kind):=by rw[n.enc_eq];try rfl
@[simp] theorem fo.enc_g0(n:fo)(h:0<n.enc.length):n.enc[0]=.int .i64 n.kind:=zq n.enc_0 h
@[simp] theorem fo.enc_1(n:fo):n.enc[1]?=some (.str n.text):=by rw[n.enc_eq];try rfl
@[simp] theorem fo.enc_g1(n:fo)(h:1<n.enc.length):n.enc[1]=.str n.text:=zq n.enc_1 h
@[simp] theorem fo.enc_2(n:fo):n.enc[2]?=some (.int .i64 n.n):=by rw[n.enc_eq];try rfl
@[simp] theorem fo.enc_g2(n:fo)(h:2<n.enc.length):n.enc[2]=.int .i64 n.n:=zq n.enc_2 h
@[simp] theorem fo.enc_3(n:fo):n.enc[3]?=some (.int .i64 n.line):=by rw[n.enc_eq];try rfl
@[simp] theorem fo.enc_g3(n:fo)(h:3<n.enc.length):n.enc[3]=.int .i64 n.line:=zq n.enc_3 h
@[simp] theorem fo.enc_4(n:fo):n.enc[4]?=some (.int .i64 n.col):=by rw[n.enc_eq];try rfl
@[simp] theorem fo.enc_g4(n:fo)(h:4<n.enc.length):n.enc[4]=.int .i64 n.col:=zq n.enc_4 h
@[simp] theorem fo.enc_5(n:fo):n.enc[5]?=some (.sl false 4 (n.types.map fZ.enc)):=by rw[n.enc_eq];try rfl
@[simp] theorem fo.enc_g5(n:fo)(h:5<n.enc.length):n.enc[5]=.sl false 4 (n.types.map fZ.enc):=zq n.enc_5 h
@[simp] theorem fo.enc_6(n:fo):n.enc[6]?=some (.sl false 1 (encS n.names)):=by rw[n.enc_eq];try rfl
@[simp] theorem fo.enc_g6(n:fo)(h:6<n.enc.length):n.enc[6]=.sl false 1 (encS n.names):=zq n.enc_6 h
@[simp] theorem fo.enc_7(n:fo):n.enc[7]?=some (.sl false 8 (n.kids.map fo.enc)):=by rw[n.enc_eq];try rfl
@[simp] theorem fo.enc_g7(n:fo)(h:7<n.enc.length):n.enc[7]=.sl false 8 (n.kids.map fo.enc):=zq n.enc_7 h
def uX(n:fo)(e:Int)(s:CS):MCall Pg 44 [.c (.ptr 0 0),.ag (n.enc.map .d),.c (.d (.int .i64 e))] (qI L s) (.tup []) (qI L (kL n.line n.col e s)):=by
 refine zDV lY λts hts ok hb c hN hp=>?_;obtain⟨t,u,v,w,x,y,rfl⟩:=lq hts;have hf:=XM L n.line n.col e s;unfold WO;simp;refine fO [0,1,2,3,4,5] hf ?_;simp;exact eH [0,1,2,3,4,5] [6,7,8,9,10,11]
def CQ(t0:fZ)(ln cl:Int)(s:CS)(hw:s.wth.length<=1000000):MCall Pg 40 [.c (.ptr 0 0),.ag (t0.enc.map .d),.c (.d (.int .i64 ln)),.c (.d (.int .i64 cl))] (qI L s) (.ag ((iZ t0 ln cl s).1.enc.map .d)) (qI L (iZ t0 ln cl s).2):=by
 refine zwn lY λts hts ok hb c hN hp=>?_;obtain⟨t,u,v,w,x,y,rfl⟩:=lq hts;have hr:=NP s.vars s.wth hw t0;have hf:=XM L ln cl 9 s;unfold iZ;simp only;generalize oV t0 s.vars s.wth=r at*
 unfold WP;simp;refine fO [] hr ?_;by_cases h0:r.2=0
 ·rw[aA (by simp[h0])];simp[h0];refine⟨by decide,?_⟩;exact eH [0,1,2,3,4,5] [6,7,8,9,10,11]
 ·rw[aB h0];simp[h0];refine⟨by decide,?_⟩;refine fO [0,1,2,3,4,5] hf ?_;simp;exact eH [0,1,2,3,4,5] [6,7,8,9,10,11]
def CR(t0:fZ)(n:fo)(s:CS):MCall Pg 41 [.c (.ptr 0 0),.ag (t0.enc.map .d),.ag (n.enc.map .d)] (qI L s) (.ag ((nR t0 n.line n.col s).1.enc.map .d)) (qI L (nR t0 n.line n.col s).2):=by
 refine zAY lY λts hts ok hb c hN hp=>?_;obtain⟨t,u,v,w,x,y,rfl⟩:=lq hts;have hr:=CG t0;have hf:=uX L n 9 s;unfold nR;generalize kS t0=r at*
 unfold WQ;simp;refine fU hr ?_;by_cases h0:r.2=0
 ·rw[aA (by simp[h0])];simp[h0];exact eH [0,1,2,3,4,5] [6,7,8,9,10,11]
 ·rw[aB h0];simp[h0];refine fO [0,1,2,3,4,5] hf ?_;simp;exact eH [0,1,2,3,4,5] [6,7,8,9,10,11]
def NQ:∀l:List Int,D.erdE (encI l)=encI l
|[]=>rfl
|i::l=>by have:=NQ l;unfold encI at*;simp only[map_cons,D.erdE,D.erdL,D.erd,this]
def Fe:∀l:List di,D.erdE (encS l)=encS l
|[]=>rfl
|i::l=>by have:=Fe l;unfold encS at*;simp only[map_cons,D.erdE,D.erdL,D.erd,this]
def XN:∀l:List (di × Int),D.erdE (rV l)=rV l
|[]=>rfl
|i::l=>by have:=XN l;unfold rV at*;simp only[map_cons,D.erdE,D.erdL,D.erd,this]
mutual
def fZ.erdLL:∀c:fZ,D.erdL c.enc=c.enc
|.mk k n s l=>by rw[fZ.enc];simp only[D.erdL,D.erd,Fe,fZ.erdEE l]
def fZ.erdEE:∀l:List fZ,D.erdE (fZ.encs l)=fZ.encs l
|[]=>rfl
|c::l=>by rw[fZ.encs,D.erdE,fZ.erdLL c,fZ.erdEE l]
end
mutual
def iJ.erdLL:∀c:iJ,D.erdL c.enc=c.enc
|.mk t n s f g=>by rw[iJ.enc];simp only[D.erdL,D.erd,NQ,XN,Fe,iJ.erdEE f,iJ.erdEE g]
def iJ.erdEE:∀l:List iJ,D.erdE (iJ.encs l)=iJ.encs l
|[]=>rfl
|c::l=>by rw[iJ.encs,D.erdE,iJ.erdLL c,iJ.erdEE l]
end
def fZ.erdE_map(l:List fZ):D.erdE (l.map fZ.enc)=l.map fZ.enc:=by rw[<-fZ.encs_map];exact fZ.erdEE l
def iJ.erdE_map(l:List iJ):D.erdE (l.map iJ.enc)=l.map iJ.enc:=by rw[<-iJ.encs_map];exact iJ.erdEE l
mutual
theorem fw.erdLL:∀c:fw,D.erdL c.enc=c.enc
|.mk k n t is ns ts cs ks=>by rw[fw.enc];simp only[D.erdL,D.erd,NQ,Fe,fZ.erdE_map,iJ.erdE_map,fw.erdEE ks]
theorem fw.erdEE:∀l:List fw,D.erdE (fw.encs l)=fw.encs l
|[]=>rfl
|c::l=>by rw[fw.encs,D.erdE,fw.erdLL c,fw.erdEE l]
end
theorem fw.erdE_map(l:List fw):D.erdE (l.map fw.enc)=l.map fw.enc:=by rw[<-fw.encs_map];exact fw.erdEE l
attribute [simp] fw.erdLL fw.erdE_map
def yB(k n:Int)(t:di)(is:List Int)(ns:List di)(ts:List fZ)(cs:List iJ)(ks:List fw):(fw.mk k n t is ns ts cs ks).enc=[.int .i64 k,.int .i64 n,.str t,.sl false 1 (encI is),.sl false 1 (encS ns),.sl false 4 (ts.map fZ.enc),.sl false 5 (cs.map iJ.enc),.sl false 8 (ks.map fw.enc)]:=by
 rw[fw.enc_eq];try rfl
def kw.mkC{v:AV}{bs':List Blk}{ts:List (Nat × Nat)}{vs:List AV}{S:St}(l qs:List Nat)(h:l.Nodup/\(one? vs).erd=v.ren (gm l)/\mY S l l bs'/\lN S l l qs ts bs':=by simp[cK,cN,cT,yB,sG,jG,uy,mW,noC,encI,encS,AV.erds,AV.erd,D.erdL,D.erd,D.erdE,jg,jh]):kw v bs' ts vs S:=eF l qs h
def Dx(z:fw)(a b:fZ)(n:fo)(s:CS)(hs:s.sites.length<=1000000000):MCall Pg 93 [.c (.ptr 0 0),.ag (z.enc.map .d),.ag (a.enc.map .d),.ag (b.enc.map .d),.ag (n.enc.map .d)] (qI L s) (.ag ((lH z a b n.line n.col s).1.enc.map .d)) (XL L (lH z a b n.line n.col s).2):=by
 refine zAZ lY λts hts ok hb c hN hp=>?_;obtain⟨t,u,v,w,x,y,rfl⟩:=lq hts;unfold lH;unfold WR;by_cases h0:s.e=0
 ·rw[aA (by simp[h0])];have hw:IntKind.i64.wrap (s.sites.length:Int)=(s.sites.length:Int):=wI;simp[h0];refine⟨by omega,by decide,by decide,?_⟩;exact eF [0,1,2,3,4,5,13] [6,7,8,9,10,11] (by simp[hw,nM,yB,Site.enc,h0,encI,encS,AV.erd,AC.erd])
 ·rw[aB h0];simp[h0];exact eH [0,1,2,9,4,5,3] [6,7,8,9,10,11]
def yC(z:fw)(a b:fZ)(n:fo)(s:CS)(hs:s.sites.length<=1000000000):MCall Pg 46 [.c (.ptr 0 0),.ag (z.enc.map .d),.ag (a.enc.map .d),.ag (b.enc.map .d),.ag (n.enc.map .d)] (qI L s) (.ag ((jw z a b n.line n.col s).1.enc.map .d)) (XL L (jw z a b n.line n.col s).2):=by
 refine zyb lY λts hts ok hb c hN hp=>?_;obtain⟨t,u,v,w,x,y,rfl⟩:=lq hts;have hc:=Dx L z a b n s hs;have hf:=uX L n 15 s;unfold jw;unfold WS;by_cases h0:s.e=0;rotate_left
 ·rw[aB h0];simp[h0];exact eH [0,1,2,9,4,5,3] [6,7,8,9,10,11]
 rw[aA (by simp[h0])];simp[h0];refine fU (F7 a b) ?_;by_cases h1:lU a b=true
 ·rw[aB h1];simp[h1];exact eO [0,1,2,9,4,5,3] [6,7,8,9,10,11] (by simp[h0])
 rw[aA h1];simp[h1];refine fU (Vi a b) ?_;by_cases h2:uj a b=true
 ·rw[aB h2];generalize lH z a b n.line n.col s=r at*
  simp[h2];refine fP [0,1,2,3,4,5] hc (by simp[h0]) ?_;simp;exact eH [0,1,2,3,4,5,13] [6,7,8,9,10,11]
 ·rw[aA h2];generalize kL n.line n.col 15 s=r at*
  simp[h2];refine fP [0,1,2,3,4,5] hf (by simp[h0]) ?_;simp;exact eH [0,1,2,9,4,5,3] [6,7,8,9,10,11]
end
abbrev eG:=@kw.mkC
def kU(k:Int):fu Pg 43 [.one (.int .i64 k)] (.agg (bT k).enc):=by
 refine zAT (by simp) λo c hN hp=>?_;unfold WG;simp[uy]
def XP(d:ik)(hd:d.vars.length<=1000000):fu Pg 39 [.agg d.enc] (.one (.sl false 1 (encS (d.vars.map (·.1))))):=by
 refine zAU (by simp) λo c hN hp=>?_;unfold WI;simp;refine eY [.t 3] ?_;simp;refine eP gD hp (λj:Nat=>j<=d.vars.length) (λj=>[(4,.c (.d (.int .i64 j))),(3,.c (.msl 1 0 0 j)),(1,.c (.d (.rp d.enc 0)))]) (λj=>[sF ((d.vars.take j).map (·.1))]) (λj=>d.vars.length-j) 0 [0] (by simp) (by simp[encS]) λj h1=>?_;unfold WH;simp;apply fM<;>intro h
 ·have hj:j<d.vars.length:=by simpa using h
  obtain⟨v,hv⟩:∃v,d.vars[j]=v:=⟨_,rfl⟩
  have hw:=wI (n:=(j:Int)+1);have tk1:(d.vars.take (j+1)).map (·.1)=(d.vars.take j).map (·.1)++[v.1]:=by rw[ak hj,map_append,hv];try rfl
  simp[hj,hv];refine⟨by omega,by omega,?_⟩;refine dm (j+1) [1] (by omega) (by omega) ?_;rw[tk1];simp[hw];exact aH (by simp;omega)
 ·have hj:j=d.vars.length:=by simp at h;omega
  subst hj;have z:take d.vars.length (encS (take d.vars.length (List.map (λx=>x.1) d.vars)))=encS (List.map (λx=>x.1) d.vars):=by
   rw[aH (by simp),aH (by simp)]
  simp[z]
def NR(env:Env)(hl:env.length<=1000000)(s:di)(t:fZ):fu Pg 130 [.one (.sl false 5 (env.map iI)),.one (.str s),.agg t.enc] (.one (.sl false 5 ((env++[(s,t)]).map iI))):=by
 refine zAW (by simp) λo c hN hp=>?_;unfold WL;have z:take (length env+1) (List.map iI env++[.str s::t.enc])=List.map iI env++[.str s::t.enc]:=aH (by simp);simp[nM];refine⟨by omega,by omega,by decide,?_⟩
 first
  |exact z
  |(rw[z];rfl)
  |trace_state
def NS(env:Env)(x:di):nL env x= -1\/(0<=nL env x/\nL env x<env.length):=by
 have:=F8 (λb:di × fZ=>decide (b.1=x)) 0 env.reverse;unfold nL;rw[length_reverse]at this;simp only;split<;>omega
def find_ok(env:Env)(hl:env.length<=1000000)(x:di):fu Pg 127 [.one (.sl false 5 (env.map iI)),.one (.str x)] (.one (.int .i64 (nL env x))):=by
 refine zAV (by simp) λo c hN hp=>?_;obtain⟨R,hR⟩:∃R,nL env x=R:=⟨_,rfl⟩
 rw[hR];unfold nL at hR;unfold WK;have hw0:IntKind.i64.wrap ((env.length:Int)-1)=(env.length:Int)-1:=wI;simp[hw0];refine eP gD hp (λj:Nat=>j<=env.length/\fi (λb:di × fZ=>decide (b.1=x)) j (env.reverse.drop j)=fi (λb:di × fZ=>decide (b.1=x)) 0 env.reverse) (λj=>[(5,.c (.d (.int .i64 ((env.length:Int)-1-j)))),(1,.c (.d (.str x))),(0,.c (.d (.sl false 5 (env.map iI))))]) (λ_=>[]) (λj=>env.length-j) 0 [] ⟨by simp,by simp⟩ (by simp) λj ⟨h1,h2⟩=>?_;unfold WJ;have hw:=wI (n:=(env.length:Int)-1-j-1);simp;apply fM<;>intro h
 ·have hj:j<env.length:=by simp at h;omega
  have hj2:j<env.reverse.length:=by simpa using hj
  rw[aG hj2,fi,getElem_reverse]at h2;obtain⟨k,hk⟩:∃k,env.length-1-j=k:=⟨_,rfl⟩
  have hkl:k<env.length:=by omega
  have hki:(env.length:Int)-1-j=(k:Int):=by omega
  simp only[hk]at h2;rw[hki]at hw;obtain⟨v,hv⟩:∃v,env[k]=v:=⟨_,rfl⟩
  have hg:env[env.length-1-j]?=some v:=by rw[hk,aD hkl,hv]
  have hg2:env[k]?=some v:=by rw[aD hkl,hv]
  have hjl:(j:Int)<=(env.length:Int)-1:=by omega
  rw[hv]at h2;simp[hki,hg,hg2,hjl,hk];by_cases q:v.1=x
  ·rw[aB (by simpa using q)]at h2;rw[<-h2]at hR;have hR:(if(j:Int)<0 then -1 else(env.length:Int)-1-j)=R:=hR;rw[aA (by omega)]at hR;simp[q];omega
  ·rw[aA (by simpa using q)]at h2;simp[q];refine dm (j+1) [] ⟨by omega,h2⟩ (by omega) ?_;simp[hw];omega
 ·have hj:j=env.length:=by simp at h;omega
  subst hj;rw[bN (by simp),fi]at h2;rw[<-h2]at hR;simp at hR;simp[hR]
@[simp] theorem ik.enc_g3(d:ik)(h:3<d.enc.length):d.enc[3]=.str d.param:=rfl
@[simp] theorem ik.enc_g4(d:ik)(h:4<d.enc.length):d.enc[4]=.sl false 4 (d.types.map fZ.enc):=rfl
structure Ap (d:ik):Prop where
 types:d.types.length=2
 vars:d.vars.length<=1000000
structure jX (L:gq) (e:iO):Prop where
 m0:0<=e.module
 m1:e.module<L.mods.length
 d0:0<=e.decl
 d1:e.decl<(L.mods.getD e.module.toNat oG).decs.length
structure nN (L:gq):Prop where
 few:L.mods.length<=16
 names:L.names.length=L.mods.length
 scopes:L.scopes.length=L.mods.length
 decs:∀m,m∈L.mods->∀d,d∈m.decs->Ap d
 ents:∀sc,sc∈L.scopes->∀e,e∈sc->jX L e
def Dy{L:gq}(hL:nN L){m k:Int}(h:jX L ⟨bs [],m,k⟩):∃(mn kn:Nat) (M:ig),m=mn/\k=kn/\L.mods[mn]?=some M/\M.decs[kn]?=some (qD L m k)/\Ap (qD L m k):=by
 obtain⟨a1,a2,a3,a4⟩:=h;simp only at a1 a2 a3 a4;obtain⟨g1,g2⟩:=getD_in L.mods oG (z:=m) (n:=L.mods.length) rfl a1 a2;obtain⟨g3,g4⟩:=getD_in (L.mods.getD m.toNat oG).decs Ak (z:=k) rfl a3 a4;exact⟨m.toNat,k.toNat,_,by omega,by omega,g1,g3,hL.decs _ g2 _ g4⟩
def NT{l:List fZ}(h:l.length=2):∃a b,l=[a,b]:=by
 match l,h with
 |[a,b],_=>exact⟨a,b,rfl⟩
section
variable (L:gq)
def zFO(hL:nN L)(e:iO)(he:jX L ⟨bs [],e.module,e.decl⟩)(l:List fZ)(hl:l.length<=1000000)(s:CS):
  MCall Pg 171 [.c (.ptr 0 0),.ag (e.enc.map .d),.c (.d (.sl false 4 (l.map fZ.enc)))] (qI L s) (.tup [.ag ((pF L e l).1.enc.map .d),.c (.d (.bool (pF L e l).2))]) (qI L s):=by
 refine zuN lY λts hts ok hb c hN hp=>?_;obtain⟨t,u,v,w,x,y,rfl⟩:=lq hts;obtain⟨mn,kn,M,e1,e2,g1,g2,hd⟩:=Dy hL he;unfold pF;simp only;generalize qD L e.module e.decl=d at*
 obtain⟨ta,tb,hty⟩:=NT hd.types;have e3:d.types.getD 0 noT=ta:=by rw[hty];try rfl
 have e4:d.types.getD 1 noT=tb:=by rw[hty];try rfl
 rw[e3,e4];have hv:=XP d hd.vars;have r1:=NP (d.vars.map (·.1)) l hl ta;have r2:=NP (d.vars.map (·.1)) l hl tb;generalize oV ta (d.vars.map (·.1)) l=a at*
 generalize oV tb (d.vars.map (·.1)) l=b at*
 have hn:fu Pg 76 [.agg [.int .i64 6,.str (bs []),.sl true 1 [],.sl true 4 [a.1.enc,b.1.enc]]] (.tup [.agg (kS (jG a.1 b.1)).1.enc,.one (.int .i64 (kS (jG a.1 b.1)).2)]):=fu.erd (CG (jG a.1 b.1)) (by simp[jG,sG,DV.erds,DV.erd,D.erdL,D.erd,D.erdE,encS]);generalize kS (jG a.1 b.1)=r at*
 unfold WU;simp[e1,e2,g1,g2];refine⟨by decide,?_⟩;refine fU hv ?_;simp[hty];refine fO [] r1 ?_;simp[hty];refine fO [] r2 ?_;simp;refine fU hn ?_;by_cases q1:a.2=0
 ·by_cases q2:b.2=0
  ·by_cases q3:r.2=0
   ·simp[q1,q2,q3];exact eF [0,1,2,3,4,5] [6,7,8,9,10,11] (by simp[q1,q2,q3,AV.erds,AV.erd])
   ·simp[q1,q2,q3];exact eF [0,1,2,3,4,5] [6,7,8,9,10,11] (by simp[q1,q2,q3,AV.erds,AV.erd])
  ·simp[q1,q2];exact eF [0,1,2,3,4,5] [6,7,8,9,10,11] (by simp[q1,q2,AV.erds,AV.erd])
 ·simp[q1];exact eF [0,1,2,3,4,5] [6,7,8,9,10,11] (by simp[q1,AV.erds,AV.erd])
end
end Go.Gr
namespace Go.Gr
open Go.Abs Go.Proofs
structure kV (L:gq) (s:CS) (b:Nat):Prop where
 wth:s.wth.length<=1000000
 sites:s.sites.length+b<=1000000000
 tab:s.tab.length<=256
 m0:0<=s.module
 m1:s.module<L.mods.length
 few:s.funs.length<=1000/\s.bad.length<=1000
 ist:∀x,x∈s.tab->jX L ⟨bs [],x.module,x.decl⟩/\x.types.length<=1000000
structure qi (env:Env) (b:Nat):Prop where
 len:env.length+b<=1000000
 wf:∀v,v∈env->jW v.2
def vB{L:gq}{s:CS}{b:Nat}(h:kV L s b)(ln cl e:Int):kV L (kL ln cl e s) b:=by
 unfold kL;split
 ·exact⟨h.wth,h.sites,h.tab,h.m0,h.m1,h.few,h.ist⟩
 ·exact h
def kV.less{L:gq}{s:CS}{b c:Nat}(h:kV L s b)(k:c<=b):kV L s c:=⟨h.wth,by have:=h.sites;omega,h.tab,h.m0,h.m1,h.few,h.ist⟩
def qi.less{env:Env}{b c:Nat}(h:qi env b)(k:c<=b):qi env c:=⟨by have:=h.len;omega,h.wf⟩
def qi.more{env:Env}{b:Nat}(h:qi env (b+1))(x:di){t:fZ}(ht:jW t):qi (env++[(x,t)]) b:=⟨by have:=h.len;simp;omega,λv hv=>by
 rcases aU.1 hv with hv|hv
 ·exact h.wf v hv
 ·simp at hv;subst hv;exact ht⟩
def zyG(t:fZ)(vs:List di)(w:List fZ):jW (oV t vs w).1:=by
 unfold oV;split
 ·exact qR
 split
 ·exact qR
 split
 ·exact FV _
 ·exact qR
def vS{L:gq}{s:CS}{b:Nat}(h:kV L s b)(t:fZ)(ln cl:Int):kV L (iZ t ln cl s).2 b/\jW (iZ t ln cl s).1:=by
 refine⟨?_,zyG _ _ _⟩;unfold iZ;simp only;split
 ·exact vB h _ _ _
 ·exact h
def Ff{L:gq}{s:CS}{b:Nat}(h:kV L s b)(t:fZ)(ln cl:Int):kV L (nR t ln cl s).2 b/\jW (nR t ln cl s).1:=by
 refine⟨?_,FV _⟩;unfold nR;simp only;split
 ·exact vB h _ _ _
 ·exact h
def Dz{L:gq}{s:CS}{b:Nat}(h:kV L s (b+1))(z:fw)(t u:fZ)(ln cl:Int):kV L (lH z t u ln cl s).2 b:=by
 unfold lH;split
 ·exact h.less (by omega)
 ·exact⟨h.wth,by have:=h.sites;simp;omega,h.tab,h.m0,h.m1,h.few,h.ist⟩
def wW{L:gq}{s:CS}{b:Nat}(h:kV L s (b+1))(z:fw)(t u:fZ)(ln cl:Int):kV L (jw z t u ln cl s).2 b:=by
 unfold jw;split
 ·exact h.less (by omega)
 split
 ·exact h.less (by omega)
 split
 ·exact Dz h _ _ _ _ _
 ·exact vB (h.less (by omega)) _ _ _
def JI{l:List jR}(h:l.length<=256)(x:jR):(jq 256 l x).2.length<=256:=by
 unfold jq;split
 ·exact h
 split
 ·exact h
 split
 ·exact h
 ·simp;omega
def NU{m:Int}{l:List jR}{x y:jR}(h:y∈(jq m l x).2):y∈l\/y=x:=by
 unfold jq at h;split at h
 ·exact .inl h
 split at h
 ·exact .inl h
 split at h
 ·exact .inl h
 ·rcases aU.1 h with h|h
  ·exact .inl h
  ·exact .inr (by simpa using h)
def XQ{L:gq}{s:CS}{b:Nat}(h:kV L s b)(ln cl:Int)(e:iO)(l:List fZ)(he:jX L ⟨bs [],e.module,e.decl⟩)(hl:l.length<=1000000):kV L (p8 L ln cl e l s).2 b/\jW (p8 L ln cl e l s).1.2:=by
 unfold p8;by_cases q:(pF L e l).2=false
 ·rw[aB q];exact⟨vB h _ _ _,qR⟩
 ·rw[aA q];simp only;have h2:kV L {s with tab:=(jq 256 s.tab ⟨e.module,e.decl,l⟩).2} b:=⟨h.wth,h.sites,JI h.tab _,h.m0,h.m1,h.few,λx hx=>by
   rcases NU hx with hx|hx
   ·exact h.ist x hx
   ·subst hx;exact⟨he,hl⟩⟩
  refine⟨?_,FV _⟩;split
  ·exact vB h2 _ _ _
  ·exact h2
section
variable (L:gq)
def XR(hL:nN L)(n:fo)(e:iO)(he:jX L ⟨bs [],e.module,e.decl⟩)(l:List fZ)(hl:l.length<=1000000)(s:CS)(ht:s.tab.length<=256):
  MCall Pg 128 [.c (.ptr 0 0),.ag (n.enc.map .d),.ag (e.enc.map .d),.c (.d (.sl false 4 (l.map fZ.enc)))] (qI L s) (.tup [.ag ((p8 L n.line n.col e l s).1.1.enc.map .d),.ag ((p8 L n.line n.col e l s).1.2.enc.map .d)]) (JH L (p8 L n.line n.col e l s).2):=by
 refine zyc lY λts hts ok hb c hN hp=>?_;obtain⟨t,u,v,w,x,y,rfl⟩:=lq hts;have hs:=zFO L hL e he l hl s;have hf:=uX L n 9 s;have ha:=XK 256 s.tab (by omega) ⟨e.module,e.decl,l⟩ hl;have hb0:=kU 0;unfold p8;generalize pF L e l=g at*
 unfold WV;simp;refine fO [0,1,2,3,4,5] hs ?_;by_cases g0:g.2=false
 ·rw[aB g0];simp[g0];refine fO [0,1,2,3,4,5] hf ?_;simp;refine fU hb0 ?_;simp;exact eF [0,1,2,9,4,11,3,5] [6,7,8,9,10,11] (by simp[noC,cN,yB,uy,mW,encI,encS,AV.erds,AV.erd])
 ·rw[aA g0];simp only;generalize hr:jq 256 s.tab ⟨e.module,e.decl,l⟩=r at*
  have hf2:=uX L n r.1.2 {s with tab:=r.2};rw[Bool.not_eq_false]at g0;simp[g0];refine fP [1,5] ha (by simp[jR.enc]) ?_;by_cases r0:r.1.2=0
  ·rw[aA (by simp[r0])];simp[r0];refine⟨by decide,by decide,?_⟩;exact eF [0,1,2,9,4,11,3,15] [6,7,8,9,10,11] (by simp[cN,yB,encI,encS,AV.erds,AV.erd])
  ·rw[aB r0];simp[r0];refine⟨by decide,?_⟩;refine fO [0,1,2,3,4,15] hf2 ?_;simp;refine⟨by decide,?_⟩;exact eF [0,1,2,9,4,11,3,15] [6,7,8,9,10,11] (by simp[cN,yB,encI,encS,AV.erds,AV.erd])
end
end Go.Gr
