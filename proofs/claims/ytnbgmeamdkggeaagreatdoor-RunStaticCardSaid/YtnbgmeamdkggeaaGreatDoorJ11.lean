/- Texts of ours, joined and written short by a program of ours. -/
import Derived.Test.YtnbgmeamdkggeaaGreatDoorJ10
set_option maxRecDepth 20000
set_option maxHeartbeats 4000000
set_option linter.unusedVariables false
set_option linter.unusedSectionVars false
set_option linter.unusedSimpArgs false
set_option linter.defProp false
set_option linter.unnecessarySimpa false
namespace Go.Gr
open Go.Abs Go.Proofs
mutual
def gQ:fo->Nat
|.mk _ _ _ _ _ _ _ l=>gy l+1
def gy:List fo->Nat
|[]=>0
|n::l=>gQ n+gy l
end
def pK(n:fo):gQ n=gy n.kids+1:=by cases n;rw[gQ];try rfl
abbrev Fg(c:fw)(t:fZ):AV:=.tup [.ag (c.enc.map .d),.ag (t.enc.map .d)]
abbrev zGx(n:fo)(env:Env):List AV:=[.c (.ptr 0 0),.ag (n.enc.map .d),.c (.d (.sl false 5 (env.map iI)))]
section
variable (L:gq)
def iY(f:FuncId)(n:fo)(i:Inf):Prop:=∀env s b,qi env (gQ n)->kV L s (8*gQ n+b)->MCall Pg f (zGx n env) (qI L s) (Fg (i env s).1.1 (i env s).1.2) (JH L (i env s).2)
def jM(n:fo)(i:Inf):Prop:=∀env s b,qi env (gQ n)->kV L s (8*gQ n+b)->kV L (i env s).2 b/\jW (i env s).1.2
abbrev qU(n:fo)(i:Inf):Prop:=iY L 45 n i/\jM L n i
def zHr(n a b:fo)(hk:n.kids=[a,b])(ia ib:Inf)(ha:jM L a ia)(hb:jM L b ib):jM L n (nS n a ia ib):=λenv s k he hs=>by
 have hn:gQ n=gQ a+gQ b+1:=by rw[pK,hk];simp[gy]
 have h1:=ha env s (1+8*gQ b+k) (he.less (by omega)) (hs.less (by omega));unfold nS;simp only;by_cases q:0<n.types.length/\(ia env s).2.e=0
 ·rw[aB q];have h2:=vS h1.1 (n.types.getD 0 noT) n.line n.col;have h3:=wW (b:=8*gQ b+k) (h2.1.less (by omega)) (ia env s).1.1 (ia env s).1.2 (iZ (n.types.getD 0 noT) n.line n.col (ia env s).2).1 a.line a.col;exact hb _ _ k ((he.less (c:=gQ b+1) (by omega)).more _ h2.2) h3
 ·rw[aA q];exact hb _ _ k ((he.less (c:=gQ b+1) (by omega)).more _ h1.2) (h1.1.less (by omega))
def zFl(n a b:fo)(hk:n.kids=[a,b])(ia ib:Inf)(ha:qU L a ia)(hb:qU L b ib):iY L 82 n (nS n a ia ib):=λenv s k he hs=>by
 refine zCr lY λts hts ok hbk c hN hp=>?_;obtain⟨t,u,v,w,x,y,rfl⟩:=lq hts;have hn:gQ n=gQ a+gQ b+1:=by rw[pK,hk];simp[gy]
 have m1:=ha.1 env s (1+8*gQ b+k) (he.less (by omega)) (hs.less (by omega));have p1:=ha.2 env s (1+8*gQ b+k) (he.less (by omega)) (hs.less (by omega));unfold nS;simp only;generalize ia env s=r1 at*
 have hel:=he.len;unfold WZ;simp[hk];refine fO [0,1,2,3,4,5] m1 ?_;by_cases q:0<n.types.length/\r1.2.e=0
 ·rw[aB q];obtain⟨q1,q2⟩:=q;have q1':(0:Int)<n.types.length:=by omega
  obtain⟨ta,tr,hty⟩:∃ta tr,n.types=ta::tr:=by
   match h:n.types,q1 with
   |ta::tr,_=>exact⟨ta,tr,rfl⟩
  have e3:n.types.getD 0 noT=ta:=by rw[hty];try rfl
  rw[e3];have m2:=CQ L ta n.line n.col r1.2 p1.1.wth;have p2:=vS p1.1 ta n.line n.col;generalize iZ ta n.line n.col r1.2=r2 at*
  have m3:=yC L r1.1.1 r1.1.2 r2.1 a r2.2 (by have:=p2.1.sites;omega);have p3:=wW (b:=8*gQ b+k) (p2.1.less (by omega)) r1.1.1 r1.1.2 r2.1 a.line a.col;generalize jw r1.1.1 r1.1.2 r2.1 a.line a.col r2.2=r3 at*
  have hwi:=NR env (by omega) n.text r2.1;have m4:=hb.1 (env++[(n.text,r2.1)]) r3.2 k ((he.less (c:=gQ b+1) (by omega)).more _ p2.2) p3;simp only;generalize ib (env++[(n.text,r2.1)]) r3.2=r4 at*
  simp[q1,q1',q2];simp[hty];refine fP [0,1,2,14,4,15] m2 (by simp[q2]) ?_;simp[hk];refine⟨by decide,?_⟩;refine fO [0,1,2,14,4,15] m3 ?_;simp[hk];refine⟨by decide,?_⟩;refine fU hwi ?_;simp;refine fO [0,1,2,19,4,15] m4 ?_;simp;refine⟨by decide,by decide,?_⟩;exact eF [0,1,2,9,4,11,20,21] [6,7,8,9,10,11] (by simp[cK,yB,encI,encS,AV.erds,AV.erd])
 ·rw[aA q];have hwi:=NR env (by omega) n.text r1.1.2;have m4:=hb.1 (env++[(n.text,r1.1.2)]) r1.2 k ((he.less (c:=gQ b+1) (by omega)).more _ p1.2) (p1.1.less (by omega));generalize ib (env++[(n.text,r1.1.2)]) r1.2=r4 at*
  by_cases q1:0<n.types.length
  ·have q2:¬r1.2.e=0:=λz=>q ⟨q1,z⟩;have q1':(0:Int)<n.types.length:=by omega
   simp[q1,q1',q2,hk];refine fU hwi ?_;simp;refine fO [0,1,2,14,4,15] m4 ?_;simp;refine⟨by decide,by decide,?_⟩;exact eF [0,1,2,9,4,11,18,19] [6,7,8,9,10,11] (by simp[cK,yB,encI,encS,AV.erds,AV.erd])
  ·have q1':¬(0:Int)<n.types.length:=by omega
   simp[q1,q1',hk];refine fU hwi ?_;simp;refine fO [0,1,2,14,4,15] m4 ?_;simp;refine⟨by decide,by decide,?_⟩;exact eF [0,1,2,9,4,11,18,19] [6,7,8,9,10,11] (by simp[cK,yB,encI,encS,AV.erds,AV.erd])
end
end Go.Gr
namespace Go.Abs
def MCall.erd{P:Program}{f:FuncId}{args args':List AV}{bs:List Blk}{v:AV}{bs':List Blk}(hp:MCall P f args' bs v bs')(e:AV.erds args=args'):MCall P f args bs v bs':=by
 subst e;exact⟨hp.1,hp.2.1,hp.2.2.1,hp.2.2.2.1,hp.2.2.2.2.1,λh ρ w us H hG hS r=>hp.2.2.2.2.2 h ρ w us H hG hS (zad.erds r)⟩
end Go.Abs
namespace Go.Gr
open Go.Abs Go.Proofs
@[simp] theorem AV.erd_ag(l:List D):AV.erd (.ag (l.map .d))=.ag ((D.erdL l).map .d):=by
 induction l with
 |nil=>rfl
 |cons x l ih=>
  simp only[AV.erd,AV.ag.injEq,List.map_cons,D.erdL,dK]at ih⊢;rw[List.cons.injEq];exact⟨rfl,ih⟩
attribute [simp] fZ.erdLL
section
variable (L:gq)
def CU(n:fo)(i:Inf)(hi:jM L n i)(t0:fZ)(env:Env)(s:CS)(k:Nat)(he:qi env (gQ n))(hs:kV L s (8*gQ n+1+k)):kV L (lg n i t0 env s).2 k:=by
 have h1:=hi env s (1+k) (he.less (by omega)) (hs.less (by omega));unfold lg;exact wW (h1.1.less (by omega)) _ _ _ _ _
def yo(n:fo)(i:Inf)(hi:qU L n i)(t0:fZ)(env:Env)(s:CS)(k:Nat)(he:qi env (gQ n))(hs:kV L s (8*gQ n+1+k)):
  MCall Pg 133 [.c (.ptr 0 0),.ag (n.enc.map .d),.c (.d (.sl false 5 (env.map iI))),.ag (t0.enc.map .d)] (qI L s) (.ag ((lg n i t0 env s).1.enc.map .d)) (JH L (lg n i t0 env s).2):=by
 refine zA1 lY λts hts ok hbk c hN hp=>?_;obtain⟨t,u,v,w,x,y,rfl⟩:=lq hts;have m1:=hi.1 env s (1+k) (he.less (by omega)) (hs.less (by omega));have p1:=hi.2 env s (1+k) (he.less (by omega)) (hs.less (by omega));unfold lg;simp only;generalize i env s=r1 at*
 have m2:=yC L r1.1.1 r1.1.2 t0 n r1.2 (by have:=p1.1.sites;omega);generalize jw r1.1.1 r1.1.2 t0 n.line n.col r1.2=r2 at*
 unfold Wp;simp;refine fO [0,1,2,3,4,5] m1 ?_;simp;refine fO [0,1,2,13,4,14] m2 ?_;simp;exact eG [0,1,2,9,4,11,17,14] [6,7,8,9,10,11]
def NV(n a:fo)(hk:n.kids=[a])(ia:Inf)(ha:jM L a ia):jM L n (ul n a ia):=λenv s k he hs=>by
 have hn:gQ n=gQ a+1:=by rw[pK,hk];simp[gy]
 have h1:=vS (b:=8*gQ a+1+k) (hs.less (by omega)) (n.types.getD 0 noT) n.line n.col;unfold ul;simp only;have h2:kV L (if 1<n.types.length/\(iZ (n.types.getD 0 noT) n.line n.col s).2.e=0 then iZ (n.types.getD 1 noT) n.line n.col (iZ (n.types.getD 0 noT) n.line n.col s).2 else(noT,(iZ (n.types.getD 0 noT) n.line n.col s).2)).2 (8*gQ a+1+k):=by
  split
  ·exact(vS h1.1 _ _ _).1
  ·exact h1.1
 generalize (if 1<n.types.length/\(iZ (n.types.getD 0 noT) n.line n.col s).2.e=0 then iZ (n.types.getD 1 noT) n.line n.col (iZ (n.types.getD 0 noT) n.line n.col s).2 else(noT,(iZ (n.types.getD 0 noT) n.line n.col s).2))=q at*
 have h3:=ha (env++[(n.text,(iZ (n.types.getD 0 noT) n.line n.col s).1)]) q.2 (1+k) ((he.less (c:=gQ a+1) (by omega)).more _ h1.2) (h2.less (by omega));refine(Ff ?_ _ _ _);split
 ·exact wW (h3.1.less (by omega)) _ _ _ _ _
 ·exact h3.1.less (by omega)
def zGF(n a:fo)(hk:n.kids=[a])(hty0:1<=n.types.length)(ia:Inf)(ha:qU L a ia):iY L 83 n (ul n a ia):=λenv s k he hs=>by
 refine zDW lY λts hts ok hbk c hN hp=>?_;obtain⟨t,u,v,w,x,y,rfl⟩:=lq hts;have hn:gQ n=gQ a+1:=by rw[pK,hk];simp[gy]
 have hel:=he.len;have hb0:=kU 0;obtain⟨ta,tr,hty⟩:∃ta tr,n.types=ta::tr:=by
  match h:n.types,hty0 with
  |ta::tr,_=>exact⟨ta,tr,rfl⟩
 have e3:n.types.getD 0 noT=ta:=by rw[hty];try rfl
 unfold ul;simp only;rw[e3];have m1:=CQ L ta n.line n.col s hs.wth;have p1:=vS (b:=8*gQ a+1+k) (hs.less (by omega)) ta n.line n.col;generalize iZ ta n.line n.col s=r1 at*
 have hwi:=NR env (by omega) n.text r1.1;have heo:qi (env++[(n.text,r1.1)]) (gQ a):=(he.less (c:=gQ a+1) (by omega)).more _ p1.2;unfold W9;cases tr with
 |nil=>
  have l1:n.types.length=1:=by rw[hty];try rfl
  rw[aA (by omega),aA (by omega)];have m3:=ha.1 (env++[(n.text,r1.1)]) r1.2 (1+k) heo (p1.1.less (by omega));simp only;generalize ia (env++[(n.text,r1.1)]) r1.2=r3 at*
  have m4:=MCall.erd (args:=[.c (.ptr 0 0),.ag [.d (.int .i64 6),.d (.str (bs [])),.d (.sl true 1 []),.d (.sl true 4 [r1.1.enc,r3.1.2.enc])],.ag (n.enc.map .d)]) (CR L (jG r1.1 r3.1.2) n r3.2) (by simp[AV.erds,AV.erd,AC.erd,D.erd,D.erdL,D.erdE,jG,sG,mW,uy,encS]);generalize nR (jG r1.1 r3.1.2) n.line n.col r3.2=r4 at*
  simp[hty];refine fO [0,1,2,3,4,5] m1 ?_;simp;refine⟨by decide,?_⟩;refine fU hb0 ?_;simp[hty,hk];refine fU hwi ?_;simp;refine fO [0,1,2,3,4,5] m3 ?_;simp[hty];refine⟨by decide,?_⟩;refine fO [0,1,2,16,4,17] m4 ?_;simp;refine⟨by decide,?_⟩;exact eG [0,1,2,9,4,11,16,17] [6,7,8,9,10,11]
 | cons tb tr=>
  have l1:1<n.types.length:=by rw[hty];simp
  have l1':(1:Int)<(tr.length:Int)+1+1:=by omega
  have e4:n.types.getD 1 noT=tb:=by rw[hty];try rfl
  rw[e4,aB l1];by_cases q2:r1.2.e=0
  ·rw[aB ⟨l1,q2⟩];have m2:=CQ L tb n.line n.col r1.2 p1.1.wth;have p2:=vS p1.1 tb n.line n.col;generalize iZ tb n.line n.col r1.2=r2 at*
   have m3:=ha.1 (env++[(n.text,r1.1)]) r2.2 (1+k) heo (p2.1.less (by omega));have p3:=ha.2 (env++[(n.text,r1.1)]) r2.2 (1+k) heo (p2.1.less (by omega));generalize ia (env++[(n.text,r1.1)]) r2.2=r3 at*
   have m4:=yC L r3.1.1 r3.1.2 r2.1 a r3.2 (by have:=p3.1.sites;omega);generalize jw r3.1.1 r3.1.2 r2.1 a.line a.col r3.2=r4 at*
   have m5:=MCall.erd (args:=[.c (.ptr 0 0),.ag [.d (.int .i64 6),.d (.str (bs [])),.d (.sl true 1 []),.d (.sl true 4 [r1.1.enc,r2.1.enc])],.ag (n.enc.map .d)]) (CR L (jG r1.1 r2.1) n r4.2) (by simp[AV.erds,AV.erd,AC.erd,D.erd,D.erdL,D.erdE,jG,sG,mW,uy,encS]);simp only;generalize nR (jG r1.1 r2.1) n.line n.col r4.2=r5 at*
   simp[hty];refine fO [0,1,2,3,4,5] m1 ?_;simp;refine⟨by decide,?_⟩;refine fU hb0 ?_;simp[hty,q2,l1'];refine fP [0,1,2,3,4,5] m2 (by simp[q2]) ?_;simp[hk];refine⟨by decide,?_⟩;refine fU hwi ?_;simp;refine fO [0,1,2,3,4,5] m3 ?_;simp[hty,l1',hk];refine⟨by decide,?_⟩;refine fO [0,1,2,16,4,17] m4 ?_;simp;refine⟨by decide,?_⟩;refine fO [0,1,2,20,4,17] m5 ?_;simp;refine⟨by decide,?_⟩;exact eG [0,1,2,9,4,11,20,17] [6,7,8,9,10,11]
  ·rw[aA (λz=>q2 z.2)];have m3:=ha.1 (env++[(n.text,r1.1)]) r1.2 (1+k) heo (p1.1.less (by omega));have p3:=ha.2 (env++[(n.text,r1.1)]) r1.2 (1+k) heo (p1.1.less (by omega));generalize ia (env++[(n.text,r1.1)]) r1.2=r3 at*
   have m4:=MCall.erd (args:=[.c (.ptr 0 0),.ag (r3.1.1.enc.map .d),.ag (r3.1.2.enc.map .d),.ag (noT.enc.map .d),.ag (a.enc.map .d)]) (yC L r3.1.1 r3.1.2 noT a r3.2 (by have:=p3.1.sites;omega)) (by simp[AV.erds,AV.erd,AC.erd,D.erd,D.erdL,D.erdE,jG,sG,mW,uy,encS]);generalize jw r3.1.1 r3.1.2 noT a.line a.col r3.2=r4 at*
   have m5:=MCall.erd (args:=[.c (.ptr 0 0),.ag [.d (.int .i64 6),.d (.str (bs [])),.d (.sl true 1 []),.d (.sl true 4 [r1.1.enc,noT.enc])],.ag (n.enc.map .d)]) (CR L (jG r1.1 noT) n r4.2) (by simp[AV.erds,AV.erd,AC.erd,D.erd,D.erdL,D.erdE,jG,sG,mW,uy,encS]);simp only;generalize nR (jG r1.1 noT) n.line n.col r4.2=r5 at*
   simp[hty];refine fO [0,1,2,3,4,5] m1 ?_;simp;refine⟨by decide,?_⟩;refine fU hb0 ?_;simp[hty,q2,l1',hk];refine fU hwi ?_;simp;refine fO [0,1,2,3,4,5] m3 ?_;simp[hty,l1',hk];refine⟨by decide,?_⟩;refine fP [0,1,2,16,4,17] m4 (by simp[noT,bT]) ?_;simp;refine⟨by decide,?_⟩;refine fP [0,1,2,20,4,17] m5 (by simp[noT,bT]) ?_;simp;refine⟨by decide,?_⟩;exact eG [0,1,2,9,4,11,20,17] [6,7,8,9,10,11]
def NW{L:gq}{b:Nat}(t0:fZ)(h0:jW t0)(ln cl:Int)(r:(fw × fZ) × CS)(hs:kV L r.2 (b+1))(ht:jW r.1.2):kV L (jV t0 ln cl r).2 b/\jW (jV t0 ln cl r).1.2:=by
 unfold jV;split
 ·exact⟨Dz hs _ _ _ _ _,h0⟩
 ·exact⟨hs.less (by omega),ht⟩
def zGG{a b:fZ}(ha:jW a)(hb:jW b):jW (jG a b):=(og _).2 ⟨rfl,λx hx=>by
 have hx:x∈[a,b]:=hx;simp at hx;rcases hx with rfl|rfl
 ·exact ha
 ·exact hb,.inr (.inr (.inl ⟨rfl,rfl,rfl⟩))⟩
def zGH(n a b:fo)(hk:n.kids=[a,b])(ia ib:Inf)(ha:jM L a ia)(hb:jM L b ib):jM L n (um n b ia ib):=λenv s k he hs=>by
 have hn:gQ n=gQ a+gQ b+1:=by rw[pK,hk];simp[gy]
 have h1:=ha env s (2+8*gQ b+k) (he.less (by omega)) (hs.less (by omega));have h2:=NW (b:=8*gQ b+1+k) (jG noT noT) (zGG qR qR) n.line n.col (ia env s) (h1.1.less (by omega)) h1.2;unfold um;simp only;generalize jV (jG noT noT) n.line n.col (ia env s)=r at*
 by_cases q:r.1.2.kind≠6
 ·rw[aB q];exact⟨vB (h2.1.less (by omega)) _ _ _,qR⟩
 ·rw[aA q];have h3:=hb env r.2 (1+k) (he.less (by omega)) (h2.1.less (by omega));have hl:=JB h2.2 (by omega);exact⟨wW (h3.1.less (by omega)) _ _ _ _ _,xI h2.2 (Ms hl).1⟩
theorem zDO(n a b:fo)(hk:n.kids=[a,b])(ia ib:Inf)(ha:qU L a ia)(hb:qU L b ib):iY L 84 n (um n b ia ib):=λenv s k he hs=>by
 refine zA0 lY λts hts ok hbk c hN hp=>?_;obtain⟨t,u,v,w,x,y,rfl⟩:=lq hts;have hn:gQ n=gQ a+gQ b+1:=by rw[pK,hk];simp[gy]
 have hb0:=kU 0;have m1:=ha.1 env s (2+8*gQ b+k) (he.less (by omega)) (hs.less (by omega));have p1:=ha.2 env s (2+8*gQ b+k) (he.less (by omega)) (hs.less (by omega));unfold um;simp only;generalize ia env s=r1 at*
 unfold Wd;by_cases t0:r1.1.2.kind=0
 ·have e1:jV (jG noT noT) n.line n.col r1=(((lH r1.1.1 r1.1.2 (jG noT noT) n.line n.col r1.2).1,jG noT noT),(lH r1.1.1 r1.1.2 (jG noT noT) n.line n.col r1.2).2):=by unfold jV;rw[aB t0]
  rw[e1];have m2:=MCall.erd (args:=[.c (.ptr 0 0),.ag (r1.1.1.enc.map .d),.ag (r1.1.2.enc.map .d),.ag [.d (.int .i64 6),.d (.str (bs [])),.d (.sl true 1 []),.d (.sl true 4 [[.int .i64 0,.str (bs []),.sl true 1 [],.sl true 4 []],[.int .i64 0,.str (bs []),.sl true 1 [],.sl true 4 []]])],.ag (n.enc.map .d)]) (Dx L r1.1.1 r1.1.2 (jG noT noT) n r1.2 (by have:=p1.1.sites;omega)) (by simp[AV.erds,AV.erd,AC.erd,D.erd,D.erdL,D.erdE,jG,sG,mW,uy,encS]);have p2:=Dz (b:=8*gQ b+1+k) (p1.1.less (by omega)) r1.1.1 r1.1.2 (jG noT noT) n.line n.col;generalize lH r1.1.1 r1.1.2 (jG noT noT) n.line n.col r1.2=r2 at*
  have m3:=hb.1 env r2.2 (1+k) (he.less (by omega)) (p2.less (by omega));have p3:=hb.2 env r2.2 (1+k) (he.less (by omega)) (p2.less (by omega));simp only;generalize ib env r2.2=r3 at*
  have k6:¬(jG noT noT).kind≠6:=by decide
  rw[aA k6];have kk0:jg (jG noT noT)=noT:=rfl;have kk1:jh (jG noT noT)=noT:=rfl;rw[kk0,kk1];have m4:=MCall.erd (args:=[.c (.ptr 0 0),.ag (r3.1.1.enc.map .d),.ag (r3.1.2.enc.map .d),.ag [.d (.int .i64 0),.d (.str (bs [])),.d (.sl true 1 []),.d (.sl true 4 [])],.ag (b.enc.map .d)]) (yC L r3.1.1 r3.1.2 noT b r3.2 (by have:=p3.1.sites;omega)) (by simp[AV.erds,AV.erd,AC.erd,D.erd,D.erdL,D.erdE,jG,sG,mW,uy,encS]);generalize jw r3.1.1 r3.1.2 noT b.line b.col r3.2=r4 at*
  simp[hk];refine fO [0,1,2,3,4,5] m1 ?_;simp[t0];refine fO [0,1,2,14,4,15] m2 ?_;simp[hk];refine fO [0,1,2,19,4,15] m3 ?_;simp[hk];refine fO [0,1,2,20,4,21] m4 ?_;simp;refine⟨by decide,by decide,?_⟩;exact eG [0,1,2,9,4,11,24,21] [6,7,8,9,10,11]
 have e1:jV (jG noT noT) n.line n.col r1=r1:=by unfold jV;rw[aA t0]
 rw[e1];by_cases k6:r1.1.2.kind=6;rotate_left
 ·rw[aB k6];have m2:=uX L n 16 r1.2;generalize kL n.line n.col 16 r1.2=r2 at*
  simp[hk];refine fO [0,1,2,3,4,5] m1 ?_;simp[t0,k6];refine fO [0,1,2,14,4,15] m2 ?_;simp;refine fU hb0 ?_;simp;exact eG [0,1,2,9,4,11,14,15] [6,7,8,9,10,11]
 rw[aA (λz=>z k6)];obtain⟨ta,tb,hty⟩:=NT (JB p1.2 k6);have kk0:jg r1.1.2=ta:=by unfold jg;rw[hty];try rfl
 have kk1:jh r1.1.2=tb:=by unfold jh;rw[hty];try rfl
 rw[kk0,kk1];have m3:=hb.1 env r1.2 (1+k) (he.less (by omega)) (p1.1.less (by omega));have p3:=hb.2 env r1.2 (1+k) (he.less (by omega)) (p1.1.less (by omega));generalize ib env r1.2=r3 at*
 have m4:=yC L r3.1.1 r3.1.2 ta b r3.2 (by have:=p3.1.sites;omega);simp only;generalize jw r3.1.1 r3.1.2 ta b.line b.col r3.2=r4 at*
 simp[hk];refine fO [0,1,2,3,4,5] m1 ?_;simp[t0,k6,hk];refine fO [0,1,2,14,4,15] m3 ?_;simp[hty,hk];refine fO [0,1,2,18,4,19] m4 ?_;simp[hty];refine⟨by decide,by decide,?_⟩;exact eG [0,1,2,9,4,11,22,19] [6,7,8,9,10,11]
def zHD(n a:fo)(hk:n.kids=[a])(ia:Inf)(ha:jM L a ia):jM L n (nT n ia):=λenv s k he hs=>by
 have hn:gQ n=gQ a+1:=by rw[pK,hk];simp[gy]
 have h1:=ha env s (1+k) (he.less (by omega)) (hs.less (by omega));unfold nT;simp only;generalize ia env s=r at*
 have hf:jW (oO r.1.2 n.text).1:=by
  by_cases q:(oO r.1.2 n.text).2=true
  ·exact xI h1.2 (JA _ _ _ q)
  ·have:(oO r.1.2 n.text).1=noT:=by
    unfold oO at q⊢;generalize r.1.2.names=ns at*
    generalize r.1.2.kids=ks at*
    clear h1
    induction ns generalizing ks with
    |nil=>rw[qC];all_goals (intros;contradiction)
    | cons x ns ih=>
     cases ks with
     |nil=>rw[qC];all_goals (intros;contradiction)
     |cons y ks=>
      rw[qC]at q⊢;by_cases e:x=n.text
      ·rw[aB e]at q;exact absurd rfl q
      ·rw[aA e]at q⊢;exact ih ks q
   rw[this];exact qR
 refine⟨?_,hf⟩;have h2:kV L (if r.1.2.kind=0 then lH r.1.1 r.1.2 (.mk 5 (bs []) [n.text] [noT]) n.line n.col r.2 else(r.1.1,r.2)).2 k:=by
  split
  ·exact Dz (h1.1.less (by omega)) _ _ _ _ _
  ·exact h1.1.less (by omega)
 split
 ·exact h2
 ·exact vB h2 _ _ _
def zFr(n a:fo)(hk:n.kids=[a])(ia:Inf)(ha:qU L a ia):iY L 86 n (nT n ia):=λenv s k he hs=>by
 refine zCs lY λts hts ok hbk c hN hp=>?_;obtain⟨t,u,v,w,x,y,rfl⟩:=lq hts;have hn:gQ n=gQ a+1:=by rw[pK,hk];simp[gy]
 have m1:=ha.1 env s (1+k) (he.less (by omega)) (hs.less (by omega));have p1:=ha.2 env s (1+k) (he.less (by omega)) (hs.less (by omega));unfold nT;simp only;generalize ia env s=r1 at*
 have hf:=Vf r1.1.2 n.text (Mr p1.2);generalize hfr:oO r1.1.2 n.text=f at*
 unfold Wl;by_cases t0:r1.1.2.kind=0
 ·rw[aB t0,aB (.inr t0)];have m2:=MCall.erd (args:=[.c (.ptr 0 0),.ag (r1.1.1.enc.map .d),.ag (r1.1.2.enc.map .d),.ag [.d (.int .i64 5),.d (.str (bs [])),.d (.sl true 1 [[.str n.text]]),.d (.sl true 4 [[.int .i64 0,.str (bs []),.sl true 1 [],.sl true 4 []]])],.ag (n.enc.map .d)]) (Dx L r1.1.1 r1.1.2 (.mk 5 (bs []) [n.text] [noT]) n r1.2 (by have:=p1.1.sites;omega)) (by simp[AV.erds,AV.erd,AC.erd,D.erd,D.erdL,D.erdE,jG,sG,mW,uy,encS]);generalize lH r1.1.1 r1.1.2 (.mk 5 (bs []) [n.text] [noT]) n.line n.col r1.2=r2 at*
  simp[hk];refine fO [0,1,2,3,4,5] m1 ?_;simp;refine fU hf ?_;simp[t0];refine fO [0,1,2,14,4,15] m2 ?_;simp;refine⟨by decide,?_⟩;exact eG [0,1,2,9,4,11,20,15] [6,7,8,9,10,11]
 ·rw[aA t0];by_cases f2:f.2=true
  ·rw[aB (.inl f2)];simp[hk];refine fO [0,1,2,3,4,5] m1 ?_;simp;refine fU hf ?_;simp[t0,f2];refine⟨by decide,?_⟩;exact eG [0,1,2,9,4,11,14,15] [6,7,8,9,10,11]
  ·rw[aA (by simp[f2,t0])];have m2:=uX L n 17 r1.2;simp only;generalize kL n.line n.col 17 r1.2=r2 at*
   simp[hk];refine fO [0,1,2,3,4,5] m1 ?_;simp;refine fU hf ?_;simp[t0,f2];refine fO [0,1,2,14,4,15] m2 ?_;simp;refine⟨by decide,?_⟩;exact eG [0,1,2,9,4,11,14,15] [6,7,8,9,10,11]
end
section
variable (L:gq)
def NY(n a:fo)(hk:n.kids=[a])(ia:Inf)(ha:jM L a ia):jM L n (ut n ia):=λenv s k he hs=>by
 have hn:gQ n=gQ a+1:=by rw[pK,hk];simp[gy]
 have h1:=ha env s (2+k) (he.less (by omega)) (hs.less (by omega));unfold ut;simp only;generalize ia env s=r at*
 by_cases q1:r.2.e≠0
 ·rw[aB q1];exact⟨h1.1.less (by omega),h1.2⟩
 rw[aA q1];have h2:=vS h1.1 (n.types.getD 0 noT) n.line n.col;generalize iZ (n.types.getD 0 noT) n.line n.col r.2=u at*
 by_cases q2:u.2.e≠0\/lU r.1.2 u.1=true
 ·rw[aB q2];exact⟨h2.1.less (by omega),h2.2⟩
 rw[aA q2];have h3:kV L (if r.1.2.kind≠0 then lH r.1.1 r.1.2 noT n.line n.col u.2 else(r.1.1,u.2)).2 (1+k):=by
  split
  ·exact Dz (h2.1.less (by omega)) _ _ _ _ _
  ·exact h2.1.less (by omega)
 generalize (if r.1.2.kind≠0 then lH r.1.1 r.1.2 noT n.line n.col u.2 else(r.1.1,u.2))=y at*
 split
 ·exact⟨h3.less (by omega),h2.2⟩
 split
 ·exact⟨Dz (h3.less (by omega)) _ _ _ _ _,h2.2⟩
 ·exact⟨h3.less (by omega),h2.2⟩
@[simp] theorem fw.enc_1(c:fw):c.enc[1]?=some (.int .i64 c.n):=by rw[c.enc_eq];try rfl
@[simp] theorem fw.enc_g1(c:fw)(h:1<c.enc.length):c.enc[1]=.int .i64 c.n:=zq c.enc_1 h
def zGl(n a:fo)(hk:n.kids=[a])(hty0:1<=n.types.length)(ia:Inf)(ha:qU L a ia):iY L 89 n (ut n ia):=λenv s k he hs=>by
 refine zDX lY λts hts ok hbk c hN hp=>?_;obtain⟨t,u,v,w,x,y,rfl⟩:=lq hts;have hn:gQ n=gQ a+1:=by rw[pK,hk];simp[gy]
 have hb0:=kU 0;obtain⟨ta,tr,hty⟩:∃ta tr,n.types=ta::tr:=by
  match h:n.types,hty0 with
  |ta::tr,_=>exact⟨ta,tr,rfl⟩
 have e3:n.types.getD 0 noT=ta:=by rw[hty];try rfl
 have m1:=ha.1 env s (2+k) (he.less (by omega)) (hs.less (by omega));have p1:=ha.2 env s (2+k) (he.less (by omega)) (hs.less (by omega));unfold ut;simp only;rw[e3];generalize ia env s=r1 at*
 unfold Wo;by_cases q1:r1.2.e=0;rotate_left
 ·rw[aB q1];simp[hk];refine fO [0,1,2,3,4,5] m1 ?_;simp[q1];refine⟨by decide,?_⟩;exact eG [0,1,2,9,4,11,14,15] [6,7,8,9,10,11]
 rw[aA (by simp[q1])];have m2:=CQ L ta n.line n.col r1.2 p1.1.wth;have p2:=vS p1.1 ta n.line n.col;generalize iZ ta n.line n.col r1.2=r2 at*
 have hsb:=F7 r1.1.2 r2.1;by_cases q2:r2.2.e=0;rotate_left
 ·rw[aB (.inl q2)];simp[hk];refine fO [0,1,2,3,4,5] m1 ?_;simp[q1,hty];refine fP [0,1,2,14,4,15] m2 (by simp[q1]) ?_;simp[q2];refine⟨by decide,by decide,?_⟩;exact eG [0,1,2,9,4,11,14,15] [6,7,8,9,10,11]
 by_cases q3:lU r1.1.2 r2.1=true
 ·rw[aB (.inr q3)];simp[hk];refine fO [0,1,2,3,4,5] m1 ?_;simp[q1,hty];refine fP [0,1,2,14,4,15] m2 (by simp[q1]) ?_;simp[q2];refine⟨by decide,?_⟩;refine fU hsb ?_;simp[q3];refine⟨by decide,?_⟩;exact eF [0,1,2,9,4,11,14,15] [6,7,8,9,10,11] (by simp[q2,cK,cN,cT,yB,sG,jG,uy,mW,noC,encI,encS,AV.erds,AV.erd,D.erdL,D.erd,D.erdE,jg,jh])
 rw[aA (by simp[q2,q3])];by_cases t0:r1.1.2.kind=0
 ·have ty0:(if r1.1.2.kind≠0 then lH r1.1.1 r1.1.2 noT n.line n.col r2.2 else(r1.1.1,r2.2))=(r1.1.1,r2.2):=aA (λz=>z t0);rw[ty0];by_cases u0:r2.1.kind=0
  ·rw[aB u0];simp[hk];refine fO [0,1,2,3,4,5] m1 ?_;simp[q1,hty];refine fP [0,1,2,14,4,15] m2 (by simp[q1]) ?_;simp[q2];refine⟨by decide,?_⟩;refine fU hsb ?_;simp[q3,t0,u0];refine⟨by decide,?_⟩;exact eF [0,1,2,9,4,11,14,15] [6,7,8,9,10,11] (by simp[q2,cK,cN,cT,yB,sG,jG,uy,mW,noC,encI,encS,AV.erds,AV.erd,D.erdL,D.erd,D.erdE,jg,jh])
  ·rw[aA u0,aB t0];have m3:=Dx L r1.1.1 r1.1.2 r2.1 n r2.2 (by have:=p2.1.sites;omega);simp only;generalize lH r1.1.1 r1.1.2 r2.1 n.line n.col r2.2=r3 at*
   simp[hk];refine fO [0,1,2,3,4,5] m1 ?_;simp[q1,hty];refine fP [0,1,2,14,4,15] m2 (by simp[q1]) ?_;simp[q2];refine⟨by decide,?_⟩;refine fU hsb ?_;simp[q3,t0,u0];refine fP [0,1,2,14,4,15] m3 (by simp[q2,t0]) ?_;simp;refine⟨by decide,?_⟩;exact eG [0,1,2,9,4,11,20,15] [6,7,8,9,10,11]
 ·have ty0:(if r1.1.2.kind≠0 then lH r1.1.1 r1.1.2 noT n.line n.col r2.2 else(r1.1.1,r2.2))=lH r1.1.1 r1.1.2 noT n.line n.col r2.2:=aB t0;rw[ty0];have m3:=Dx L r1.1.1 r1.1.2 noT n r2.2 (by have:=p2.1.sites;omega);generalize lH r1.1.1 r1.1.2 noT n.line n.col r2.2=r3 at*
  by_cases u0:r2.1.kind=0
  ·rw[aB u0];simp[hk];refine fO [0,1,2,3,4,5] m1 ?_;simp[q1,hty];refine fP [0,1,2,14,4,15] m2 (by simp[q1]) ?_;simp[q2];refine⟨by decide,?_⟩;refine fU hsb ?_;simp[q3,t0];refine fU hb0 ?_;simp;refine fP [0,1,2,14,4,15] m3 (by simp[q2,noT,bT]) ?_;simp[u0];refine⟨by decide,by decide,?_⟩;exact eG [0,1,2,9,4,11,20,15] [6,7,8,9,10,11]
  ·rw[aA u0,aA t0];simp[hk];refine fO [0,1,2,3,4,5] m1 ?_;simp[q1,hty];refine fP [0,1,2,14,4,15] m2 (by simp[q1]) ?_;simp[q2];refine⟨by decide,?_⟩;refine fU hsb ?_;simp[q3,t0];refine fU hb0 ?_;simp;refine fP [0,1,2,14,4,15] m3 (by simp[q2,noT,bT]) ?_;simp[u0,t0];refine⟨by decide,by decide,?_⟩;exact eG [0,1,2,9,4,11,20,15] [6,7,8,9,10,11]
def zHf(n a:fo)(hk:n.kids=[a])(ia:Inf)(ha:jM L a ia):jM L n (nC n a ia):=λenv s k he hs=>by
 have hn:gQ n=gQ a+1:=by rw[pK,hk];simp[gy]
 have h1:=ha env s k (he.less (by omega)) (hs.less (by omega));have hw:=λt0=>CU L a ia ha t0 env s k (he.less (by omega)) (hs.less (by omega));unfold nC;split
 ·exact⟨hw _,uz 2 (by omega) (by omega)⟩
 split
 ·exact⟨hw _,uz 3 (by omega) (by omega)⟩
 split
 ·exact⟨h1.1,uz 2 (by omega) (by omega)⟩
 ·exact⟨h1.1,uz 1 (by omega) (by omega)⟩
def zFb(n a:fo)(hk:n.kids=[a])(ia:Inf)(ha:qU L a ia):iY L 91 n (nC n a ia):=λenv s k he hs=>by
 refine zCt lY λts hts ok hbk c hN hp=>?_;obtain⟨t,u,v,w,x,y,rfl⟩:=lq hts;have hn:gQ n=gQ a+1:=by rw[pK,hk];simp[gy]
 unfold nC;unfold Wt;by_cases k15:n.kind=15
 ·rw[aB k15];have m1:=yo L a ia ha (bT 2) env s k (he.less (by omega)) (hs.less (by omega));simp only;generalize lg a ia (bT 2) env s=r1 at*
  simp[k15,hk];refine fU (kU 2) ?_;simp;refine fO [0,1,2,3,4,5] m1 ?_;simp;refine⟨by decide,?_⟩;refine fU (kU 2) ?_;simp;refine⟨by decide,?_⟩;exact eG [0,1,2,9,4,11,14,15] [6,7,8,9,10,11]
 rw[aA k15];by_cases k16:n.kind=16
 ·rw[aB k16];have m1:=yo L a ia ha (bT 3) env s k (he.less (by omega)) (hs.less (by omega));simp only;generalize lg a ia (bT 3) env s=r1 at*
  simp[k16,hk];refine fU (kU 3) ?_;simp;refine fO [0,1,2,3,4,5] m1 ?_;simp;refine⟨by decide,?_⟩;refine fU (kU 3) ?_;simp;refine⟨by decide,?_⟩;exact eG [0,1,2,9,4,11,14,15] [6,7,8,9,10,11]
 rw[aA k16];have m1:=ha.1 env s k (he.less (by omega)) (hs.less (by omega));generalize ia env s=r1 at*
 by_cases k12:n.kind=12
 ·rw[aB k12];simp[k12,hk];refine fO [0,1,2,3,4,5] m1 ?_;simp;refine fU (kU 2) ?_;simp;refine⟨by decide,?_⟩;exact eG [0,1,2,9,4,11,14,15] [6,7,8,9,10,11]
 ·rw[aA k12];simp[k15,k16,k12,hk];refine fO [0,1,2,3,4,5] m1 ?_;simp;refine fU (kU 1) ?_;simp;refine⟨by decide,?_⟩;exact eG [0,1,2,9,4,11,14,15] [6,7,8,9,10,11]
end
end Go.Gr
namespace Go.Gr
open Go.Abs Go.Proofs List
section
variable (L:gq)
def opAt(s:di):Nat->Int
|0=>0
|i+1=>if uu[i]?=some s then(i:Int)else opAt s i
def zCJ(s:di):opAt s 11=Al s:=by
 by_cases h:s∈uu
 ·simp only[uu,aS,dV,or_false]at h;rcases h with h|h|h|h|h|h|h|h|h|h|h<;>subst h<;>decide
 ·have h2:∀i,uu[i]?≠some s:=λi z=>h (aW z);have h3:∀i,opAt s i=0:=λi=>by
   induction i with
   |zero=>rfl
   |succ i ih=>rw[opAt,aA (h2 i),ih]
  have h4:∀(l:List di) (j:Nat),s∉l->fi (λx=>decide (x=s)) j l= -1:=λl=>by
   induction l with
   |nil=>intro j _;rfl
   |cons x l ih=>
    intro j hx;have q:¬x=s:=λz=>hx (by simp[z]);rw[fi,aA (by simp[q]),ih _ (λz=>hx (by simp[z]))]
  rw[h3,Al,h4 _ _ h];try rfl
def NZ(n a b:fo)(hk:n.kids=[a,b])(ia ib:Inf)(ha:jM L a ia)(hb:jM L b ib):jM L n (opC n a b ia ib):=λenv s k he hs=>by
 have hn:gQ n=gQ a+(gQ b+1):=by rw[pK,hk];simp[gy];omega
 have w2:=λt0 t1=>CU L b ib hb t1 env (lg a ia t0 env s).2 k (he.less (by omega)) (CU L a ia ha t0 env s (8*gQ b+1+k) (he.less (by omega)) (hs.less (by omega)));have i1:=ha env s (8*gQ b+k) (he.less (by omega)) (hs.less (by omega));have i2:=hb env (ia env s).2 k (he.less (by omega)) i1.1;unfold opC;split
 ·exact⟨w2 _ _,uz 2 (by omega) (by omega)⟩
 split
 ·exact⟨w2 _ _,uz 2 (by omega) (by omega)⟩
 split
 ·exact⟨i2.1,uz 2 (by omega) (by omega)⟩
 split
 ·exact⟨w2 _ _,uz 4 (by omega) (by omega)⟩
 ·refine⟨w2 _ _,?_⟩;simp only;split
  ·exact uz 2 (by omega) (by omega)
  ·exact uz 3 (by omega) (by omega)
def zFX(n a b:fo)(hk:n.kids=[a,b])(ia ib:Inf)(ha:qU L a ia)(hb:qU L b ib):iY L 90 n (opC n a b ia ib):=λenv s k he hs=>by
 refine zDY lY λts hts ok hbk c hN hp=>?_;obtain⟨t,u,v,w,x,y,rfl⟩:=lq hts;have hn:gQ n=gQ a+(gQ b+1):=by rw[pK,hk];simp[gy];omega
 have d21:¬bs [97,110,100]=bs [111,114]:=by decide
 have d31:¬bs [61,61]=bs [111,114]:=by decide
 have d32:¬bs [61,61]=bs [97,110,100]:=by decide
 have d41:¬bs [43,43]=bs [111,114]:=by decide
 have d42:¬bs [43,43]=bs [97,110,100]:=by decide
 have d43:¬bs [43,43]=bs [61,61]:=by decide
 unfold opC;unfold Ws;by_cases c1:n.text=bs [111,114]
 ·rw[aB c1];have m1:=yo L a ia ha (bT 2) env s (8*gQ b+1+k) (he.less (by omega)) (hs.less (by omega));have p1:=CU L a ia ha.2 (bT 2) env s (8*gQ b+1+k) (he.less (by omega)) (hs.less (by omega));simp only;generalize lg a ia (bT 2) env s=r1 at*
  have m2:=yo L b ib hb (bT 2) env r1.2 k (he.less (by omega)) (p1.less (by omega));generalize lg b ib (bT 2) env r1.2=r2 at*
  simp[c1,hk];refine fU (kU 2) ?_;simp[c1,hk];refine fO [0,1,2,3,4,5] m1 ?_;simp[hk];refine⟨by decide,?_⟩;refine fO [0,1,2,15,4,16] m2 ?_;simp;refine⟨by decide,by decide,?_⟩;exact eG [0,1,2,9,4,11,18,19] [6,7,8,9,10,11]
 rw[aA c1];by_cases c2:n.text=bs [97,110,100]
 ·rw[aB c2];have m1:=yo L a ia ha (bT 2) env s (8*gQ b+1+k) (he.less (by omega)) (hs.less (by omega));have p1:=CU L a ia ha.2 (bT 2) env s (8*gQ b+1+k) (he.less (by omega)) (hs.less (by omega));simp only;generalize lg a ia (bT 2) env s=r1 at*
  have m2:=yo L b ib hb (bT 2) env r1.2 k (he.less (by omega)) (p1.less (by omega));generalize lg b ib (bT 2) env r1.2=r2 at*
  simp[c2,d21,hk];refine fU (kU 2) ?_;simp[c2,d21,hk];refine fO [0,1,2,3,4,5] m1 ?_;simp[hk];refine⟨by decide,?_⟩;refine fO [0,1,2,15,4,16] m2 ?_;simp;refine⟨by decide,by decide,?_⟩;exact eG [0,1,2,9,4,11,18,19] [6,7,8,9,10,11]
 rw[aA c2];by_cases c3:n.text=bs [61,61]
 ·rw[aB c3];have m1:=ha.1 env s (8*gQ b+k) (he.less (by omega)) (hs.less (by omega));have p1:=ha.2 env s (8*gQ b+k) (he.less (by omega)) (hs.less (by omega));simp only;generalize ia env s=r1 at*
  have m2:=hb.1 env r1.2 k (he.less (by omega)) (p1.1.less (by omega));generalize ib env r1.2=r2 at*
  simp[c3,d31,d32,hk];refine fU (kU 2) ?_;simp[c3,d31,d32,hk];refine fO [0,1,2,3,4,5] m1 ?_;simp[hk];refine fO [0,1,2,15,4,16] m2 ?_;simp;refine⟨by decide,?_⟩;exact eG [0,1,2,9,4,11,19,20] [6,7,8,9,10,11]
 rw[aA c3];by_cases c4:n.text=bs [43,43]
 ·rw[aB c4];have m1:=yo L a ia ha (bT 4) env s (8*gQ b+1+k) (he.less (by omega)) (hs.less (by omega));have p1:=CU L a ia ha.2 (bT 4) env s (8*gQ b+1+k) (he.less (by omega)) (hs.less (by omega));simp only;generalize lg a ia (bT 4) env s=r1 at*
  have m2:=yo L b ib hb (bT 4) env r1.2 k (he.less (by omega)) (p1.less (by omega));generalize lg b ib (bT 4) env r1.2=r2 at*
  simp[c4,d41,d42,d43,hk];refine fU (kU 2) ?_;simp[c4,d41,d42,d43,hk];refine fU (kU 4) ?_;simp[hk];refine fO [0,1,2,3,4,5] m1 ?_;simp[hk];refine⟨by decide,?_⟩;refine fU (kU 4) ?_;simp[hk];refine fO [0,1,2,15,4,16] m2 ?_;simp;refine⟨by decide,?_⟩;refine fU (kU 4) ?_;simp[hk];refine⟨by decide,?_⟩;exact eG [0,1,2,9,4,11,18,19] [6,7,8,9,10,11]
 rw[aA c4];have m1:=yo L a ia ha (bT 3) env s (8*gQ b+1+k) (he.less (by omega)) (hs.less (by omega));have p1:=CU L a ia ha.2 (bT 3) env s (8*gQ b+1+k) (he.less (by omega)) (hs.less (by omega));simp only;generalize lg a ia (bT 3) env s=r1 at*
 have m2:=yo L b ib hb (bT 3) env r1.2 k (he.less (by omega)) (p1.less (by omega));generalize lg b ib (bT 3) env r1.2=r2 at*
 obtain⟨R,hR⟩:∃R,Al n.text=R:=⟨_,rfl⟩
 have hR2:=zCJ n.text;rw[hR]at hR2⊢;simp[c1,c2,c3,c4,hk];refine fU (kU 2) ?_;simp[c1,c2,c3,c4,hk];refine eP gD hp (λj:Nat=>j<=11) (λj=>[(21,.c (.d (.int .i64 j))),(20,.c (.d (.int .i64 (opAt n.text j)))),(19,.c (.d (.sl true 1 (encS uu)))),(8,.c (.ptr 14 0)),(7,.c (.ptr 13 0)),(6,.c (.ptr 12 0)),(4,.c (.d (.rp n.enc 0))),(2,.c (.d (.sl false 5 (env.map iI)))),(0,.c (.ptr 0 0))]) (λ_=>[tq L s 2 3 4,wU 256 s.tab.length 5,qG s.funs,qH s.sites,lV s.bad,nW s.tab,.pin t 0,.pin u 1,.pin v 2,.pin w 3,.pin x 4,.pin y 5,.box [.d (.int .i64 0),.d (.int .i64 0),.d (.str (bs [])),.d (.sl true 1 []),.d (.sl true 1 []),.d (.sl true 4 []),.d (.sl true 5 []),.d (.sl true 8 [])],.box [.d (.int .i64 0),.d (.str (bs [])),.d (.sl true 1 []),.d (.sl true 4 [])],.box ((bT 2).enc.map .d)]) (λj=>11-j) 0 [0,1,2,3,4,5,6,7,8,9,10,11,12,13,14] (by simp) (by simp[encS,uu,opAt]) λj h1=>?_;unfold Wq;simp;apply fM<;>intro h
 ·have hj:j<11:=by simpa[uu]using h
  have hj2:j<uu.length:=by simpa[uu]using hj
  obtain⟨z,hz⟩:∃z,uu[j]=z:=⟨_,rfl⟩
  have hz2:uu[j]?=some z:=by rw[aD hj2,hz]
  have hw:=wI (n:=(j:Int)+1);simp[hj2,hz];refine⟨by decide,?_⟩;apply fM<;>intro h
  ·have e:opAt n.text (j+1)=(j:Int):=by rw[opAt,hz2];simp at h;rw[aB (by rw[h])]
   try simp
   refine dm (j+1) [0,1,2,3,4,5,6,7,8,9,10,11,12,13,14] (by omega) (by omega) ?_;simp[hw,e]
  ·have e:opAt n.text (j+1)=opAt n.text j:=by rw[opAt,hz2];simp at h;rw[aA (λq=>h (by simpa using q))]
   try simp
   refine dm (j+1) [0,1,2,3,4,5,6,7,8,9,10,11,12,13,14] (by omega) (by omega) ?_;simp[hw,e]
 have hj:j=11:=by simp[uu]at h;omega
 subst hj;rw[hR2];simp[hk];refine fU (kU 3) ?_;simp[hk];refine fO [0,1,2,3,4,5] m1 ?_;simp[hk];refine⟨by decide,?_⟩;refine fU (kU 3) ?_;simp[hk];refine fO [0,1,2,15,4,16] m2 ?_;simp;refine⟨by decide,?_⟩;refine fU (kU 3) ?_;simp;by_cases c9:9<=R
 ·rw[aB c9];simp[c9];refine⟨by decide,?_⟩;exact eG [0,1,2,9,4,11,18,19] [6,7,8,9,10,11]
 ·rw[aA c9];simp[c9];refine⟨by decide,?_⟩;exact eG [0,1,2,9,4,11,18,19] [6,7,8,9,10,11]
end
section
variable (L:gq)
def N7(x a:di)(b:fZ):∀(l:List di) (m:List fZ),l.length=m.length->oW x (l++[a]) (m++[b])=oW x l m++(if a=x then []else [(a,b)])
|[],[],_=>by simp only[nil_append,oW]
|n::l,k::m,h=>by
 simp only[cons_append,oW];rw[N7 x a b l m (by simpa using h)];split<;>simp
def N8(x:di):∀(l:List di) (m:List fZ),(oW x l m).length<=l.length
|[],_=>by simp[oW]
|_::_,[]=>by simp[oW]
|n::l,k::m=>by
 have:=N8 x l m;rw[oW];split<;>simp<;>omega
def N9:jW (bT 5):=by
 refine(og _).2 ⟨rfl,λx h=>(by cases h),.inr (.inl ⟨rfl,rfl,by decide,λx h=>(by cases h)⟩)⟩
def zGN(n a b:fo)(hk:n.kids=[a,b])(ia ib:Inf)(ha:jM L a ia)(hb:jM L b ib):jM L n (uo n ia ib):=λenv s k he hs=>by
 have hn:gQ n=gQ a+gQ b+1:=by rw[pK,hk];simp[gy]
 have h1:=ha env s (2+8*gQ b+k) (he.less (by omega)) (hs.less (by omega));have h2:=NW (b:=8*gQ b+1+k) (bT 5) (N9) n.line n.col (ia env s) (h1.1.less (by omega)) h1.2;unfold uo;simp only;generalize jV (bT 5) n.line n.col (ia env s)=r at*
 by_cases q:r.1.2.kind≠5
 ·rw[aB q];exact⟨vB (h2.1.less (by omega)) _ _ _,qR⟩
 ·rw[aA q];have h3:=hb env r.2 k (he.less (by omega)) (h2.1.less (by omega));exact Ff h3.1 _ _ _
def XT{t:fZ}(h:jW t)(k:t.kind=5):t.names.length=t.kids.length:=by
 rcases((og t).1 h).2.2 with⟨_,q,_,_⟩|⟨_,q,_⟩|⟨q,_,_⟩|⟨q,_,_⟩<;>omega
abbrev Fh(n:fo)(j:Nat):List (Nat × AV):=[(14,.c (.d (.int .i64 j))),(13,.c (.ptr 19 0)),(11,.c (.ptr 18 0)),(9,.c (.ptr 17 0)),(8,.c (.ptr 16 0)),(7,.c (.ptr 13 0)),(6,.c (.ptr 12 0)),(4,.c (.d (.rp n.enc 0))),(0,.c (.ptr 0 0))]
abbrev zt(s:CS)(P:List Blk)(x y:fw)(xt:fZ)(A:List (di × fZ)):List Blk:=[tq L s 2 14 4,wU 256 s.tab.length 15,qG s.funs,.dead,lV s.bad,.dead]++(P++[.box [.d (.int .i64 0),.d (.int .i64 0),.d (.str (bs [])),.d (.sl true 1 []),.d (.sl true 1 []),.d (.sl true 4 []),.d (.sl true 5 []),.d (.sl true 8 [])],.box [.d (.int .i64 0),.d (.str (bs [])),.d (.sl true 1 []),.d (.sl true 4 [])],qH s.sites,nW s.tab,.box (x.enc.map .d),.box (xt.enc.map .d),.box (y.enc.map .d),.box [.d (.int .i64 5),.d (.str (bs [])),.msl 1 20 0 A.length,.msl 4 21 0 A.length],sF (A.map (·.1)),nU (A.map (·.2))])
def uS{α:Type}(l:List α)(n:Nat)(h:l.length=n):take n l=l:=aH (by omega)
theorem zCp(n a b:fo)(hk:n.kids=[a,b])(ia ib:Inf)(ha:qU L a ia)(hb:qU L b ib):iY L 87 n (uo n ia ib):=λenv s k he hs=>by
 refine zyX lY λts hts ok hbk c hN hp=>?_;obtain⟨t,u,v,w,x,y,rfl⟩:=lq hts;have hn:gQ n=gQ a+gQ b+1:=by rw[pK,hk];simp[gy]
 have hb0:=kU 0;have hb5:=kU 5;have m1:=ha.1 env s (2+8*gQ b+k) (he.less (by omega)) (hs.less (by omega));have p1:=ha.2 env s (2+8*gQ b+k) (he.less (by omega)) (hs.less (by omega));unfold uo;simp only;generalize ia env s=r1 at*
 unfold Wm;by_cases t0:r1.1.2.kind=0
 ·obtain⟨X,eX⟩:∃X,jV (bT 5) n.line n.col r1=X:=⟨_,rfl⟩
  have p2:=NW (b:=8*gQ b+1+k) (bT 5) (N9) n.line n.col r1 (p1.1.less (by omega)) p1.2;rw[eX]at p2⊢;have m2:=Dx L r1.1.1 r1.1.2 (bT 5) n r1.2 (by have:=p1.1.sites;omega);unfold jV at eX;rw[aB t0]at eX;have eX1:(lH r1.1.1 r1.1.2 (bT 5) n.line n.col r1.2).1=X.1.1:=by rw[<-eX]
  have eX2:(lH r1.1.1 r1.1.2 (bT 5) n.line n.col r1.2).2=X.2:=by rw[<-eX]
  have eX3:X.1.2=bT 5:=by rw[<-eX]
  rw[eX1,eX2]at m2;clear eX eX1 eX2;have k5:¬X.1.2.kind≠5:=by rw[eX3];decide
  rw[aA k5];have m3:=hb.1 env X.2 k (he.less (by omega)) (p2.1.less (by omega));have p3:=hb.2 env X.2 k (he.less (by omega)) (p2.1.less (by omega));generalize ib env X.2=r3 at*
  rw[<-eX3]at hb5;rw[<-eX3]at m2;have k5:X.1.2.kind=5:=by rw[eX3];try rfl
  have hl:=XT p2.2 k5;have hl2:=zi p2.2;simp[hk];refine fO [0,1,2,3,4,5] m1 ?_;simp[t0];refine fU hb5 ?_;simp;refine fO [0,1,2,14,4,15] m2 ?_;simp[k5,hk];refine fO [0,1,2,19,4,15] m3 ?_;simp[hk];have e0:oW n.text (X.1.2.names.take 0) (X.1.2.kids.take 0)=[]:=rfl;refine eP gD hp (λj:Nat=>j<=X.1.2.names.length) (Fh n) (λj=>zt L r3.2 [.pin t 0,.pin u 1,.pin v 2,.pin w 3,.pin x 4,.pin y 5] X.1.1 r3.1.1 X.1.2 ((n.text,r3.1.2)::oW n.text (X.1.2.names.take j) (X.1.2.kids.take j))) (λj=>X.1.2.names.length-j) 0 [0,1,2,3,4,5,6,7,8,9,10,11,12,13,20,21,16,17,22,26,24,25] (by simp) (by simp[encS,oW]) λj h1=>?_;unfold NL;simp;apply fM<;>intro h
  ·have hj:j<X.1.2.names.length:=by simpa using h
   have hj2:j<X.1.2.kids.length:=by omega
   obtain⟨z,hz⟩:∃z,X.1.2.names[j]=z:=⟨_,rfl⟩
   obtain⟨q,hq⟩:∃q,X.1.2.kids[j]=q:=⟨_,rfl⟩
   have tk1:X.1.2.names.take (j+1)=X.1.2.names.take j++[z]:=by rw[ak hj,hz]
   have tk2:X.1.2.kids.take (j+1)=X.1.2.kids.take j++[q]:=by rw[ak hj2,hq]
   have rs:=N7 n.text z q (X.1.2.names.take j) (X.1.2.kids.take j) (by rw[bU,bU];omega);rw[<-tk1,<-tk2]at rs;have rl:=N8 n.text (X.1.2.names.take j) (X.1.2.kids.take j);rw[bU]at rl;have hw:=wI (n:=(j:Int)+1);simp[hj,hz];refine⟨by decide,?_⟩;by_cases e:z=n.text
   ·rw[aB e,bQ]at rs;simp[e];refine dm (j+1) [0,1,2,3,4,5,6,7,8,9,10,11,12,13,14,15,16,17,18,19,20,21] (by omega) (by omega) ?_;simp only[zt,rs];simp[hw]
   ·rw[aA e]at rs;generalize hA:oW n.text (X.1.2.names.take j) (X.1.2.kids.take j)=A at*
    simp[e,hj,hz,hj2,hq];refine⟨by omega,by decide,by omega,by decide,?_⟩;refine dm (j+1) [0,1,2,3,4,5,6,7,8,9,10,11,12,13,14,15,16,17,18,19,22,23] (by omega) (by omega) ?_;simp[hw,rs];refine⟨?_,?_⟩
    ·rw[uS _ _ (by simp[encS])];simp[encS]
    ·rw[uS _ _ (by simp)]
  have hj:j=X.1.2.names.length:=by simp at h;omega
  subst hj;rw[dC,hl,dC];generalize oW n.text X.1.2.names X.1.2.kids=B at*
  have z1:take (B.length+1) (encS (n.text::List.map (λx=>x.1) B))=encS (n.text::List.map (λx=>x.1) B):=uS _ _ (by simp[encS]);have z2:take B.length (List.map (fZ.enc∘λx=>x.2) B)=List.map (fZ.enc∘λx=>x.2) B:=uS _ _ (by simp);have m4:=CR L (.mk 5 (bs []) (((n.text,r3.1.2)::B).map (·.1)) (((n.text,r3.1.2)::B).map (·.2))) n r3.2;generalize nR (.mk 5 (bs []) (((n.text,r3.1.2)::B).map (·.1)) (((n.text,r3.1.2)::B).map (·.2))) n.line n.col r3.2=r4 at*
  simp[hk];refine eU [20,21] ?_;simp[jT,z1,z2];refine fP [0,1,2,14,4,15] m4 (by simp[sG]) ?_;simp;refine⟨by decide,?_⟩;exact eG [0,1,2,9,4,11,14,15] [6,7,8,9,10,11]
 have eX:jV (bT 5) n.line n.col r1=r1:=by unfold jV;rw[aA t0]
 have p2:kV L r1.2 (8*gQ b+1+k)/\jW r1.1.2:=⟨p1.1.less (by omega),p1.2⟩
 rw[eX];by_cases k5:r1.1.2.kind=5;rotate_left
 ·rw[aB k5];have m2:=uX L n 17 r1.2;generalize kL n.line n.col 17 r1.2=r2 at*
  simp[hk];refine fO [0,1,2,3,4,5] m1 ?_;simp[t0,k5];refine fO [0,1,2,14,4,15] m2 ?_;simp;refine fU hb0 ?_;simp;exact eG [0,1,2,9,4,11,14,15] [6,7,8,9,10,11]
 rw[aA (λz=>z k5)];obtain⟨X,hX⟩:∃X,X=r1:=⟨_,rfl⟩
 subst hX;have m3:=hb.1 env X.2 k (he.less (by omega)) (p2.1.less (by omega));have p3:=hb.2 env X.2 k (he.less (by omega)) (p2.1.less (by omega));generalize ib env X.2=r3 at*
 have hl:=XT p2.2 k5;have hl2:=zi p2.2;simp[hk];refine fO [0,1,2,3,4,5] m1 ?_;simp[t0,k5,hk];refine fO [0,1,2,14,4,15] m3 ?_;simp[hk];have e0:oW n.text (X.1.2.names.take 0) (X.1.2.kids.take 0)=[]:=rfl;refine eP gD hp (λj:Nat=>j<=X.1.2.names.length) (Fh n) (λj=>zt L r3.2 [.pin t 0,.pin u 1,.pin v 2,.pin w 3,.pin x 4,.pin y 5] X.1.1 r3.1.1 X.1.2 ((n.text,r3.1.2)::oW n.text (X.1.2.names.take j) (X.1.2.kids.take j))) (λj=>X.1.2.names.length-j) 0 [0,1,2,3,4,5,6,7,8,9,10,11,12,13,18,19,16,17,20,24,22,23] (by simp) (by simp[encS,oW]) λj h1=>?_;unfold NL;simp;apply fM<;>intro h
 ·have hj:j<X.1.2.names.length:=by simpa using h
  have hj2:j<X.1.2.kids.length:=by omega
  obtain⟨z,hz⟩:∃z,X.1.2.names[j]=z:=⟨_,rfl⟩
  obtain⟨q,hq⟩:∃q,X.1.2.kids[j]=q:=⟨_,rfl⟩
  have tk1:X.1.2.names.take (j+1)=X.1.2.names.take j++[z]:=by rw[ak hj,hz]
  have tk2:X.1.2.kids.take (j+1)=X.1.2.kids.take j++[q]:=by rw[ak hj2,hq]
  have rs:=N7 n.text z q (X.1.2.names.take j) (X.1.2.kids.take j) (by rw[bU,bU];omega);rw[<-tk1,<-tk2]at rs;have rl:=N8 n.text (X.1.2.names.take j) (X.1.2.kids.take j);rw[bU]at rl;have hw:=wI (n:=(j:Int)+1);simp[hj,hz];refine⟨by decide,?_⟩;by_cases e:z=n.text
  ·rw[aB e,bQ]at rs;simp[e];refine dm (j+1) [0,1,2,3,4,5,6,7,8,9,10,11,12,13,14,15,16,17,18,19,20,21] (by omega) (by omega) ?_;simp only[zt,rs];simp[hw]
  ·rw[aA e]at rs;generalize hA:oW n.text (X.1.2.names.take j) (X.1.2.kids.take j)=A at*
   simp[e,hj,hz,hj2,hq];refine⟨by omega,by decide,by omega,by decide,?_⟩;refine dm (j+1) [0,1,2,3,4,5,6,7,8,9,10,11,12,13,14,15,16,17,18,19,22,23] (by omega) (by omega) ?_;simp[hw,rs];refine⟨?_,?_⟩
   ·rw[uS _ _ (by simp[encS])];simp[encS]
   ·rw[uS _ _ (by simp)]
 have hj:j=X.1.2.names.length:=by simp at h;omega
 subst hj;rw[dC,hl,dC];generalize oW n.text X.1.2.names X.1.2.kids=B at*
 have z1:take (B.length+1) (encS (n.text::List.map (λx=>x.1) B))=encS (n.text::List.map (λx=>x.1) B):=uS _ _ (by simp[encS]);have z2:take B.length (List.map (fZ.enc∘λx=>x.2) B)=List.map (fZ.enc∘λx=>x.2) B:=uS _ _ (by simp);have m4:=CR L (.mk 5 (bs []) (((n.text,r3.1.2)::B).map (·.1)) (((n.text,r3.1.2)::B).map (·.2))) n r3.2;generalize nR (.mk 5 (bs []) (((n.text,r3.1.2)::B).map (·.1)) (((n.text,r3.1.2)::B).map (·.2))) n.line n.col r3.2=r4 at*
 simp[hk];refine eU [20,21] ?_;simp[jT,z1,z2];refine fP [0,1,2,14,4,15] m4 (by simp[sG]) ?_;simp;refine⟨by decide,?_⟩;exact eG [0,1,2,9,4,11,14,15] [6,7,8,9,10,11]
end
section
variable (L:gq)
def zu(l:List di):Nat->Bool
|0=>false
|i+1=>zu l i||(l.take i).any (λm=>decide (some m=l[i]?))
def yt(l:List di)(i j:Nat):Bool:=zu l i||(l.take j).any (λm=>decide (some m=l[i]?))
def XU(l:List di):∀i,i<=l.length->(zu l i||lI (l.take i) (l.drop i))=lI [] l
|0,_=>by simp[zu]
|i+1,h=>by
 have hi:i<l.length:=by omega
 rw[<-XU l i (by omega),aG hi,lI,zu,ak hi];simp[Bool.or_assoc,hi]
def zCb(l:List di):zu l l.length=lI [] l:=by
 have:=XU l l.length (by omega);rw[aQ]at this;simpa[lI]using this
def nG(n:fo)(s:CS)(q:Bool):CS:=if q=true then kL n.line n.col 8 s else s
def zCc(n:fo)(s:CS)(q:Bool):kL n.line n.col 8 (nG n s q)=nG n s true:=by
 unfold nG;cases q with
 |false=>simp
 |true=>
  simp only[aB];unfold kL;by_cases h:s.e=0
  ·rw[aB h];try rfl
  ·rw[aA h,aA h]
def XV{L:gq}{n:fo}{s:CS}{b:Nat}(h:kV L s b)(q:Bool):kV L (nG n s q) b:=by
 unfold nG;split
 ·exact vB h _ _ _
 ·exact h
theorem XW(n:fo)(ks:Env->CS->(List fw × List fZ) × CS)(env:Env)(s:CS):oI n ks env s=((.mk 8 0 (bs []) [] n.names [] [] (ks env (nG n s (lI [] n.names))).1.1,(nR (.mk 5 (bs []) n.names (ks env (nG n s (lI [] n.names))).1.2) n.line n.col (ks env (nG n s (lI [] n.names))).2).1),(nR (.mk 5 (bs []) n.names (ks env (nG n s (lI [] n.names))).1.2) n.line n.col (ks env (nG n s (lI [] n.names))).2).2):=rfl
def XX:∀l:List fo,l.length<=gy l
|[]=>by simp
|n::l=>by
 have:=XX l;have:=pK n;rw[gy,length_cons];omega
def XY:∀(l:List fo) (j:Nat),gy (l.drop j)<=gy l
|[],j=>by simp
|n::l,0=>by simp
|n::l,j+1=>by
 have:=XY l j;rw[drop_succ_cons,gy];omega
def XZ(env:Env):∀(l:List fo),(∀x,x∈l->jM L x (iE L x))->qi env (gy l)->∀(s:CS) (b:Nat),kV L s (8*gy l+b)->kV L (lM L l env s).2 b
|[],_,_,s,b,h=>by rw[lM];exact h.less (by omega)
|n::l,hl,he,s,b,h=>by
 rw[gy]at he h;have h1:=hl n (by simp) env s (8*gy l+b) (he.less (by omega)) (h.less (by omega));rw[lM];exact XZ env l (λx hx=>hl x (by simp[hx])) (he.less (by omega)) _ b h1.1
def zHn(n:fo)(hks:∀x,x∈n.kids->jM L x (iE L x)):jM L n (oI n (lM L n.kids)):=λenv s k he hs=>by
 rw[pK]at he hs;have h1:=XZ L env n.kids hks (he.less (by omega)) (nG n s (lI [] n.names)) k (XV (hs.less (by omega)) _);rw[XW];exact Ff h1 _ _ _
abbrev Na(l:List fw):Blk:=.arr 8 ((l.map fw.enc).map (·.map .d))
abbrev Fj(n:fo)(env:Env)(i:Nat):List (Nat × AV):=[(8,.c (.d (.int .i64 i))),(7,.c (.ptr 13 0)),(6,.c (.ptr 12 0)),(4,.c (.d (.rp n.enc 0))),(2,.c (.d (.sl false 5 (env.map iI)))),(0,.c (.ptr 0 0))]
abbrev Fp(P:List Blk)(S:CS):List Blk:=qI L S++(P++[.box [.d (.int .i64 0),.d (.int .i64 0),.d (.str (bs [])),.d (.sl true 1 []),.d (.sl true 1 []),.d (.sl true 4 []),.d (.sl true 5 []),.d (.sl true 8 [])],.box [.d (.int .i64 0),.d (.str (bs [])),.d (.sl true 1 []),.d (.sl true 4 [])]])
abbrev rcT(n:fo)(env:Env)(j:Nat):List (Nat × AV):=[(12,.c (.d (.int .i64 j))),(11,.c (.ptr 11 0)),(10,.c (.ptr 10 0)),(7,.c (.ptr 9 0)),(6,.c (.ptr 8 0)),(4,.c (.d (.rp n.enc 0))),(2,.c (.d (.sl false 5 (env.map iI)))),(0,.c (.ptr 0 0))]
abbrev rcB(n:fo)(P:List Blk)(S:CS)(cs:List fw)(ts:List fZ):List Blk:=[tq L S 2 12 3,wU 256 S.tab.length 13,qG S.funs,lV S.bad]++(P++[.box [.d (.int .i64 0),.d (.int .i64 0),.d (.str (bs [])),.d (.sl true 1 []),.d (.sl true 1 []),.d (.sl true 4 []),.d (.sl true 5 []),.d (.sl true 8 [])],.box [.d (.int .i64 0),.d (.str (bs [])),.d (.sl true 1 []),.d (.sl true 4 [])],.box [.d (.int .i64 8),.d (.int .i64 0),.d (.str (bs [])),.d (.sl true 1 []),.d (.sl false 1 (encS n.names)),.d (.sl true 4 []),.d (.sl true 5 []),.msl 8 14 0 cs.length],.box [.d (.int .i64 5),.d (.str (bs [])),.d (.sl false 1 (encS n.names)),.msl 4 15 0 ts.length],qH S.sites,nW S.tab,Na cs,nU ts])
theorem zAJ(n:fo)(hnm:n.names.length<=1000000)(hks:∀x,x∈n.kids->qU L x (iE L x)):iY L 85 n (oI n (lM L n.kids)):=λenv s k he hs=>by
 refine zye lY λts hts ok hbk c hN hp=>?_;obtain⟨t,u,v,w,x,y,rfl⟩:=lq hts;have hn:=pK n;rw[XW];unfold Wj;simp;refine eP gD hp (λi:Nat=>i<=n.names.length) (Fj n env) (λi=>Fp L [.pin t 0,.pin u 1,.pin v 2,.pin w 3,.pin x 4,.pin y 5] (nG n s (zu n.names i))) (λi=>n.names.length-i) 0 [0,1,2,3,4,5,6,7,8,9,10,11,12,13] (by simp) (by simp[zu,nG]) λi h1=>?_;unfold Wh;simp;apply fM<;>intro h
 ·have hi:i<n.names.length:=by simpa using h
  obtain⟨z,hz⟩:∃z,n.names[i]=z:=⟨_,rfl⟩
  have hz2:n.names[i]?=some z:=by rw[aD hi,hz]
  try simp
  refine eP gD hp (λj:Nat=>j<=i) (λj=>(9,.c (.d (.int .i64 j)))::Fj n env i) (λj=>Fp L [.pin t 0,.pin u 1,.pin v 2,.pin w 3,.pin x 4,.pin y 5] (nG n s (yt n.names i j))) (λj=>i-j) 0 [0,1,2,3,4,5,6,7,8,9,10,11,12,13] (by simp) (by simp[yt]) λj h2=>?_;unfold We;simp;apply fM<;>intro h
  ·have hj:j<i:=by simpa using h
   have hj2:j<n.names.length:=by omega
   obtain⟨q,hq⟩:∃q,n.names[j]=q:=⟨_,rfl⟩
   have hw:=wI (n:=(j:Int)+1);have m:=uX L n 8 (nG n s (yt n.names i j));rw[zCc]at m;have e:yt n.names i (j+1)=(yt n.names i j||decide (q=z)):=by
    unfold yt;rw[ak hj2,hz2,hq];simp[Bool.or_assoc]
   by_cases c0:q=z
   ·have e2:yt n.names i (j+1)=true:=by rw[e];simp[c0]
    simp[hj2,hq,hz,hi,c0];refine⟨by decide,?_⟩;refine fO [0,1,2,3,4,5] m ?_;simp;refine dm (j+1) [0,1,2,3,4,5,6,7,8,9,10,11,12,13] (by omega) (by omega) ?_;simp[hw,e2]
   ·have e2:yt n.names i (j+1)=yt n.names i j:=by rw[e];simp[c0]
    simp[hj2,hq,hz,hi,c0];refine⟨by decide,?_⟩;refine dm (j+1) [0,1,2,3,4,5,6,7,8,9,10,11,12,13] (by omega) (by omega) ?_;simp[hw,e2]
  ·have hj:j=i:=by simp at h;omega
   subst hj;have hw:=wI (n:=(j:Int)+1);have e:yt n.names j j=zu n.names (j+1):=rfl;simp;refine dm (j+1) [0,1,2,3,4,5,6,7,8,9,10,11,12,13] (by omega) (by omega) ?_;simp[hw,e]
 have hi:i=n.names.length:=by simp at h;omega
 subst hi;rw[zCb];have s1:=XV (n:=n) (b:=8*gy n.kids+k) (hs.less (by omega)) (lI [] n.names);generalize nG n s (lI [] n.names)=s1' at*
 obtain⟨R,hR⟩:∃R,lM L n.kids env s1'=R:=⟨_,rfl⟩
 rw[hR];have hkl:=XX n.kids;have hel:=he.len;simp;refine eY [.c 14 7,.c 15 3] ?_;simp;refine eP gD hp (λY:Nat × CS × List fw × List fZ=>Y.1<=n.kids.length/\kV L Y.2.1 (8*gy (n.kids.drop Y.1)+k)/\Y.2.2.1.length=Y.1/\Y.2.2.2.length=Y.1/\((Y.2.2.1++(lM L (n.kids.drop Y.1) env Y.2.1).1.1,Y.2.2.2++(lM L (n.kids.drop Y.1) env Y.2.1).1.2),(lM L (n.kids.drop Y.1) env Y.2.1).2)=R) (λY=>rcT n env Y.1) (λY=>rcB L n [.pin t 0,.pin u 1,.pin v 2,.pin x 3] Y.2.1 Y.2.2.1 Y.2.2.2) (λY=>n.kids.length-Y.1) (0,s1',[],[]) [0,1,2,4,6,7,8,10,12,13,14,15,3,5,16,17] ⟨by simp,by simpa using s1,by simp,by simp,by simpa using hR⟩ (by simp) λ⟨j,S,cs,ts⟩ ⟨i1,i2,i3,i4,i5⟩=>?_;unfold Wi;simp only at i1 i2 i3 i4 i5;simp;apply fM<;>intro h
 ·have hj:j<n.kids.length:=by simpa using h
  obtain⟨q,hq⟩:∃q,n.kids[j]=q:=⟨_,rfl⟩
  have hqm:q∈n.kids:=by rw[<-hq];exact ai hj
  have hd:=XY n.kids j;rw[aG hj,hq]at i2 i5 hd;rw[lM]at i5;rw[gy]at i2 hd;have m:=(hks q hqm).1 env S (8*gy (n.kids.drop (j+1))+k) (he.less (by omega)) (i2.less (by omega));have p:=(hks q hqm).2 env S (8*gy (n.kids.drop (j+1))+k) (he.less (by omega)) (i2.less (by omega));simp only at i5;generalize iE L q env S=r at*
  have hw:=wI (n:=(j:Int)+1);simp[hj,hq];refine fO [0,1,2,12,3,13] m ?_;simp;refine⟨by omega,by omega,?_⟩;refine dm (j+1,r.2,cs++[r.1.1],ts++[r.1.2]) [0,1,2,3,4,5,6,7,8,9,10,11,16,17,20,21] ⟨by simp only;omega,p.1,by simp;omega,by simp;omega,by simpa using i5⟩ (by simp only;omega) ?_;simp[hw];refine⟨?_,?_⟩
  ·rw[uS _ _ (by simp)]
  ·rw[uS _ _ (by simp)]
 have hj:j=n.kids.length:=by simp at h;omega
 subst hj;rw[aQ,lM]at i5;simp only[bQ]at i5;subst i5;simp only;have m4:=CR L (.mk 5 (bs []) n.names ts) n S;generalize nR (.mk 5 (bs []) n.names ts) n.line n.col S=r4 at*
 simp;refine eU [14,15] ?_;have z1:=uS (cs.map fw.enc) cs.length (by simp);have z2:=uS (ts.map fZ.enc) ts.length (by simp);simp[jT,z1,z2];refine fP [0,1,2,12,3,13] m4 (by simp[sG]) ?_;simp;refine⟨by decide,?_⟩;exact eF [0,1,2,8,3,9,12,13] [4,5,6,4,7,4] (by simp[z1,Fe,yB,sG,encI,AV.erds,AV.erd,D.erdL,D.erd,D.erdE,jg,jh])
end
section
variable (L:gq)
def Nb{L:gq}(ln cl:Int):∀(ts l:List fZ) (s:CS) (b:Nat),kV L s b->kV L (pG ln cl ts l s).2 b
|[],_,_,_,h=>h
|t::ts,l,s,b,h=>by
 rw[pG];split
 ·exact h
 ·exact Nb ln cl ts _ _ b (vS h t ln cl).1
def Nc(x:di):∀l:List iO,(pY l x).2=true->(pY l x).1∈l
|[],h=>by simp[pY]at h
|e::l,h=>by
 rw[pY]at h⊢;split at h
 ·rename_i q;rw[aB q];simp
 ·rename_i q;rw[aA q];exact mem_cons_of_mem _ (Nc x l h)
def X3{env:Env}{b:Nat}(he:qi env b)(k:Nat):jW (env.getD k (bs [],noT)).2:=by
 rw[aF];cases h:env[k]? with
 |none=>exact qR
 |some v=>exact he.wf v (aW h)
def X4(ln cl:Int):∀(ts l:List fZ) (s:CS),(pG ln cl ts l s).1.length<=l.length+ts.length
|[],l,_=>by rw[pG];simp
| t::ts,l,s=>by
 rw[pG];split
 ·simp only[length_cons];omega
 ·refine aj (X4 ln cl ts _ _) ?_;simp only[aR,length_cons,length_nil];omega
def zGo{L:gq}(hL:nN L)(i:Nat)(x:di)(h:(pY (L.scopes.getD i []) x).2=true):jX L ⟨bs [],(pY (L.scopes.getD i []) x).1.module,(pY (L.scopes.getD i []) x).1.decl⟩:=by
 have hm:=Nc x _ h;have:L.scopes.getD i []∈L.scopes:=by
  rw[aF]at hm⊢;cases q:L.scopes[i]? with
  |none=>rw[q]at hm;simp at hm
  |some sc=>exact aW q
 have r:=hL.ents _ this _ hm;exact⟨r.m0,r.m1,r.d0,r.d1⟩
def zFe(hL:nN L)(n:fo)(hty:n.types.length<=1000000):jM L n (sS L n):=λenv s k he hs=>by
 have hs:=hs.less (c:=k) (by omega);have ent:=zGo hL s.module.toNat n.text;unfold sS;simp only;split
 ·exact⟨hs,X3 he _⟩
 rename_i c1;split
 ·exact⟨vB hs _ _ _,qR⟩
 rename_i c2;split
 ·exact⟨vB hs _ _ _,qR⟩
 rename_i c3;have ent:=ent (by
  by_cases q:(pY (L.scopes.getD s.module.toNat []) n.text).2=true
  ·exact q
  ·exact absurd ⟨by omega,by simpa using q⟩ c2)
 split
 ·exact⟨vB hs _ _ _,qR⟩
 split
 ·exact XQ hs _ _ _ _ ent (by simp)
 have h2:=Nb n.line n.col n.types [] s k hs;have h3:=X4 n.line n.col n.types [] s;split
 ·exact⟨h2,qR⟩
 split
 ·exact⟨vB h2 _ _ _,qR⟩
 ·exact XQ h2 _ _ _ _ ent (by simp at h3;omega)
abbrev nmT(n:fo)(j m:Nat):List (Nat × AV):=[(14,.c (.d (.int .i64 j))),(13,.c (.msl 4 17 0 m)),(12,.c (.ptr 16 0)),(11,.c (.ptr 15 0)),(9,.c (.ptr 14 0)),(7,.c (.ptr 13 0)),(6,.c (.ptr 12 0)),(4,.c (.d (.rp n.enc 0))),(0,.c (.ptr 0 0))]
abbrev nmB(P:List Blk)(e:iO)(d:ik)(S:CS)(ts:List fZ):List Blk:=qI L S++(P++[.box [.d (.int .i64 0),.d (.int .i64 0),.d (.str (bs [])),.d (.sl true 1 []),.d (.sl true 1 []),.d (.sl true 4 []),.d (.sl true 5 []),.d (.sl true 8 [])],.box [.d (.int .i64 0),.d (.str (bs [])),.d (.sl true 1 []),.d (.sl true 4 [])],.box (e.enc.map .d),.box [.d (.int .i64 0),.d (.int .i64 0),.d (.str (bs [])),.d (.sl true 1 []),.d (.sl true 1 []),.d (.sl true 4 []),.d (.sl true 5 []),.d (.sl true 8 [])],.box (d.enc.map .d),nU ts])
def zBW(hL:nN L)(n:fo)(hty:n.types.length<=1000000):iY L 81 n (sS L n):=λenv s k he hs=>by
 refine zyW lY λts hts ok hbk c hN hp=>?_;obtain⟨t,u,v,w,x,y,rfl⟩:=lq hts;have hb0:=kU 0;have hel:=he.len;have hfi:=find_ok env (by omega) n.text;have hfl:=NS env n.text;obtain⟨sc,hsc⟩:∃sc,L.scopes.getD s.module.toNat []=sc:=⟨_,rfl⟩
 obtain⟨mn,hmn⟩:∃mn:Nat,s.module=mn:=⟨s.module.toNat,by have:=hs.m0;omega⟩
 have hml:mn<L.scopes.length:=by have:=hs.m1;have:=hL.scopes;omega
 have hsc2:L.scopes[mn]?=some sc:=by rw[hmn]at hsc;simp only[bJ]at hsc;rw[<-hsc,aF,aD hml];try rfl
 have hfe:=Vl sc n.text;have hem:=Nc n.text sc;unfold sS;simp only;rw[hsc];generalize pY sc n.text=e at*
 generalize nL env n.text=z at*
 have hse:∀q:e.2=true,jX L e.1:=λq=>hL.ents sc (aW hsc2) _ (hem q);unfold WY;simp[hmn,hsc2];refine fU hfi ?_;simp[hmn,hsc2];refine fU hfe ?_;have ge1:∀h,e.1.enc[1]'h=D.int .i64 e.1.module:=λ_=>rfl;have ge2:∀h,e.1.enc[2]'h=D.int .i64 e.1.decl:=λ_=>rfl;by_cases z0:0<=z
 ·obtain⟨zn,hzn⟩:∃zn:Nat,z=zn:=⟨z.toNat,by omega⟩
  have hzl:zn<env.length:=by omega
  obtain⟨v,hv⟩:∃v,env[zn]=v:=⟨_,rfl⟩
  have hv2:env.getD z.toNat (bs [],noT)=v:=by rw[hzn];simp only[bJ];rw[aF,aD hzl,hv];try rfl
  by_cases k4:n.kind=4
  ·rw[aB ⟨z0,k4⟩,hv2];subst hzn;simp[k4,hzl,hv];refine⟨by decide,by decide,?_⟩;exact eG [0,1,2,9,4,11,3,5] [6,7,8,9,10,11]
  ·rw[aA (λq=>k4 q.2),aA (λq=>by omega),aB z0];have m:=uX L n 18 s;generalize kL n.line n.col 18 s=s2 at*
   have z1:¬z<0:=by omega
   simp[k4,z0,z1];refine⟨by decide,?_⟩;refine fO [0,1,2,3,4,5] m ?_;simp;refine fU hb0 ?_;simp;refine⟨by decide,?_⟩;exact eG [0,1,2,9,4,11,3,5] [6,7,8,9,10,11]
 have z1:z<0:=by omega
 rw[aA (λq=>z0 q.1)];by_cases e2:e.2=true;rotate_left
 ·rw[aB ⟨z1,by simpa using e2⟩];have m:=uX L n 10 s;generalize kL n.line n.col 10 s=s2 at*
  simp[z0,z1,e2];refine⟨by decide,?_⟩;refine fO [0,1,2,3,4,5] m ?_;simp;refine fU hb0 ?_;simp;refine⟨by decide,?_⟩;exact eG [0,1,2,9,4,11,3,5] [6,7,8,9,10,11]
 rw[aA (λq=>by simp[e2]at q),aA z0];have hen:=hse e2;have hen2:jX L ⟨bs [],e.1.module,e.1.decl⟩:=⟨hen.m0,hen.m1,hen.d0,hen.d1⟩
 obtain⟨mn2,kn,M,e1,e3,g1,g2,hd⟩:=Dy hL hen2;generalize hdd:qD L e.1.module e.1.decl=d at*
 by_cases c9:decide (0<d.vars.length)=decide (n.kind=19);rotate_left
 ·rw[aB c9];have m:=uX L n 18 s;generalize kL n.line n.col 18 s=s2 at*
  simp[z0,z1,e2,ge1,ge2,e1,e3,g1,g2];refine⟨by decide,by decide,?_⟩;by_cases c0:0<d.vars.length
  ·have c1:¬n.kind=19:=λq=>c9 (by simp[c0,q]);simp[c0,c1];refine fO [0,1,2,3,4,5] m ?_;simp;refine fU hb0 ?_;simp;refine⟨by decide,?_⟩;exact eG [0,1,2,9,4,11,3,5] [6,7,8,9,10,11]
  ·have c1:n.kind=19:=by
    by_cases q:n.kind=19
    ·exact q
    ·exact absurd (by simp[c0,q]) c9
   simp[c0,c1];refine fO [0,1,2,3,4,5] m ?_;simp;refine fU hb0 ?_;simp;refine⟨by decide,?_⟩;exact eG [0,1,2,9,4,11,3,5] [6,7,8,9,10,11]
 rw[aA (λq=>q c9)];by_cases k4:n.kind=4
 ·rw[aB k4];have c0:¬0<d.vars.length:=λq=>by simp[q,k4]at c9
  have m:=MCall.erd (args:=[.c (.ptr 0 0),.ag (n.enc.map .d),.ag (e.1.enc.map .d),.c (.d (.sl true 4 []))]) (XR L hL n e.1 hen2 [] (by simp) s hs.tab) (by simp[AV.erds,AV.erd,AC.erd,D.erd,D.erdL,D.erdE,iO.enc]);generalize p8 L n.line n.col e.1 [] s=r at*
  simp[z0,z1,e2,ge1,ge2,e1,e3,g1,g2];refine⟨by decide,by decide,?_⟩;simp[c0,k4];refine fO [0,1,2,3,4,5] m ?_;simp;exact eG [0,1,2,9,4,11,17,18] [6,7,8,9,10,11]
 rw[aA k4];obtain⟨R,hR⟩:∃R,pG n.line n.col n.types [] s=R:=⟨_,rfl⟩
 have pR:=Nb n.line n.col n.types [] s k (hs.less (by omega));rw[hR]at pR⊢;simp[z0,z1,e2,ge1,ge2,e1,e3,g1,g2];refine⟨by decide,by decide,?_⟩;have c9':(decide (0<d.vars.length) !=decide (n.kind=19))=false:=by rw[c9];simp
 apply fM<;>intro h
 ·exfalso;simp_all
 simp[k4];refine eY [.t 13] ?_;simp;refine eP gD hp (λY:Nat × CS × List fZ=>Y.1<=n.types.length/\kV L Y.2.1 k/\Y.2.2.length=Y.1/\pG n.line n.col (n.types.drop Y.1) Y.2.2 Y.2.1=R) (λY=>nmT n Y.1 Y.2.2.length) (λY=>nmB L [.pin t 0,.pin u 1,.pin v 2,.pin w 3,.pin x 4,.pin y 5] e.1 d Y.2.1 Y.2.2) (λY=>n.types.length-Y.1) (0,s,[]) [0,1,2,3,4,5,6,7,8,9,10,11,12,13,14,15,16,17] ⟨by simp,hs.less (by omega),by simp,by simpa using hR⟩ (by simp) λ⟨j,S,ts⟩ ⟨i1,i2,i3,i4⟩=>?_;unfold WW;simp only at i1 i2 i3 i4;simp;by_cases hj:j<n.types.length
 ·by_cases q0:S.e=0
  ·obtain⟨q,hq⟩:∃q,n.types[j]=q:=⟨_,rfl⟩
   rw[aG hj,hq,pG,aA (λz=>z q0)]at i4;have m:=CQ L q n.line n.col S i2.wth;have p:=vS i2 q n.line n.col;generalize iZ q n.line n.col S=r at*
   have hw:=wI (n:=(j:Int)+1);simp[hj,q0,hq];refine fO [0,1,2,3,4,5] m ?_;simp;refine⟨by decide,by omega,?_⟩;refine dm (j+1,r.2,ts++[r.1]) [0,1,2,3,4,5,6,7,8,9,10,11,12,13,14,15,16,19] ⟨by simp only;omega,p.1,by simp;omega,i4⟩ (by simp only;omega) ?_;simp[hw];rw[uS _ _ (by simp)]
  ·have i5:(ts,S)=R:=by rw[aG hj,pG,aB q0]at i4;exact i4
   subst i5;rw[aB q0];simp[hj,q0];refine fU hb0 ?_;simp;refine⟨by decide,?_⟩;exact eG [0,1,2,9,4,11,3,5] [6,7,8,9,10,11]
 have hj2:j=n.types.length:=by omega
 rw[hj2,aQ,pG]at i4;subst i4;by_cases q0:S.e=0;rotate_left
 ·rw[aB q0];simp[hj,q0];refine fU hb0 ?_;simp;refine⟨by decide,?_⟩;exact eG [0,1,2,9,4,11,3,5] [6,7,8,9,10,11]
 rw[aA (λz=>z q0)];have hbi:=zFi d.vars ts (by omega);simp only;generalize Dr d.vars ts=B at*
 have z3:=uS (ts.map fZ.enc) ts.length (by simp);simp[hj,q0];refine eU [17] ?_;simp[jT,z3];refine fU hbi ?_;by_cases b0:B=0;rotate_left
 ·rw[aB b0];have m:=uX L n B S;generalize kL n.line n.col B S=s2 at*
  simp[b0];refine fO [0,1,2,3,4,5] m ?_;simp;refine fU hb0 ?_;simp;refine⟨by decide,?_⟩;exact eG [0,1,2,9,4,11,3,5] [6,7,8,9,10,11]
 rw[aA (λz=>z b0)];have m:=XR L hL n e.1 hen2 ts (by omega) S i2.tab;generalize p8 L n.line n.col e.1 ts S=r at*
 simp[b0,jT,z3];refine fO [0,1,2,3,4,5] m ?_;simp;exact eG [0,1,2,9,4,11,18,19] [6,7,8,9,10,11]
end
section
variable (L:gq)
def zFz(v:di × fZ)(t:fZ):put ((iI v).map AC.d) 1 (t.enc.map AC.d)=(iI (v.1,t)).map AC.d:=by
 obtain⟨x,k⟩:=v;cases k;cases t;rfl
def zDU{a b:fZ}(ha:jW a)(hb:jW b):jW (vR a b):=by
 unfold vR;split
 ·exact hb
 split
 ·exact ha
 split
 ·exact qR
 split
 ·exact qR
 split
 ·exact FV _
 ·exact qR
def zAP{t:fZ}(ht:jW t)(tag:Int):jW (qy t tag).1/\jW (qy t tag).2:=by
 unfold qy;split
 ·exact⟨ht,ht⟩
 split
 ·split
  ·exact⟨ht,ht⟩
  ·rename_i q1 q2 q3;refine⟨?_,ht⟩;by_cases h:tag=4
   ·rw[h];exact N9
   ·exact uz _ (by omega) (by omega)
 split
 ·exact⟨ht,ht⟩
 split
 ·exact⟨ht,ht⟩
 rename_i q1 q2 q3 q4;have p2:(kT (kG t) tag).2=true:=by simpa using q3
 have k7:t.kind=7:=by simpa using q4
 have h1:jW (kT (kG t) tag).1.t:=(F4 ht q2 (F5 p2).1).1;have hm:∀x,x∈(t.kids.filter λk=>decide (iD k≠tag))->x∈t.kids:=λx hx=>(bP.1 hx).1;have hl:(t.kids.filter λk=>decide (iD k≠tag)).length<=t.kids.length:=length_filter_le _ _;have h7:t.kids.length<=6/\∀x,x∈t.kids->1<=x.kind/\x.kind<=6:=by
  rcases((og t).1 ht).2.2 with⟨_,q,_,_⟩|⟨q,_⟩|⟨q,_,_⟩|⟨_,_,q,r⟩
  ·omega
  ·omega
  ·omega
  ·exact⟨q,r⟩
 generalize (t.kids.filter λk=>decide (iD k≠tag))=F at*
 split
 ·rename_i r;exact⟨h1,xI ht (hm r (by simp))⟩
 ·exact⟨h1,(og _).2 ⟨rfl,λx hx=>xI ht (hm x hx),.inr (.inr (.inr ⟨rfl,rfl,by show F.length<=6;omega,λx hx=>h7.2 x (hm x hx)⟩))⟩⟩
def qi.set{env:Env}{b:Nat}(h:qi env b)(k:Nat)(x:di){t:fZ}(ht:jW t):qi (env.set k (x,t)) b:=⟨by simpa using h.len,λv hv=>by
 rcases dY hv with hv|hv
 ·exact h.wf v hv
 ·subst hv;exact ht⟩
def X5{env:Env}{b:Nat}(h:qi env b)(q:fo):qi (lF q env).1 b/\qi (lF q env).2 b:=by
 unfold lF;split
 ·have hw:=zAP (X3 h (nL env (q.kids.getD 0 mZ).text).toNat) q.n;exact⟨h.set _ _ hw.1,h.set _ _ hw.2⟩
 ·exact⟨h,h⟩
def Nf(n q a b:fo)(hk:n.kids=[q,a,b])(iq ia ib:Inf)(hq:jM L q iq)(ha:jM L a ia)(hb:jM L b ib):jM L n (uq q a b iq ia ib):=λenv s k he hs=>by
 have hn:gQ n=gQ q+(gQ a+gQ b)+1:=by rw[pK,hk];simp[gy]
 have h1:=hq env s (3+8*gQ a+8*gQ b+k) (he.less (by omega)) (hs.less (by omega));have hne:=X5 he q;unfold uq;simp only;generalize iq env s=r1 at*
 have h2:=wW (b:=2+8*gQ a+8*gQ b+k) (h1.1.less (by omega)) r1.1.1 r1.1.2 (bT 2) q.line q.col;generalize jw r1.1.1 r1.1.2 (bT 2) q.line q.col r1.2=r2 at*
 have h3:=ha (lF q env).1 r2.2 (2+8*gQ b+k) (hne.1.less (by omega)) (h2.less (by omega));generalize ia (lF q env).1 r2.2=r3 at*
 have h4:=hb (lF q env).2 r3.2 (2+k) (hne.2.less (by omega)) (h3.1.less (by omega));generalize ib (lF q env).2 r3.2=r4 at*
 have h5:=wW (b:=1+k) (h4.1.less (by omega)) r3.1.1 r3.1.2 (vR r3.1.2 r4.1.2) a.line a.col;generalize jw r3.1.1 r3.1.2 (vR r3.1.2 r4.1.2) a.line a.col r4.2=r5 at*
 exact⟨wW (h5.less (by omega)) _ _ _ _ _,zDU h3.2 h4.2⟩
def zAQ(n q a b:fo)(hk:n.kids=[q,a,b])(hqk:q.kind=12->∃w,q.kids=[w])(iq ia ib:Inf)(hq:qU L q iq)(ha:qU L a ia)(hb:qU L b ib):iY L 88 n (uq q a b iq ia ib):=λenv s k he hs=>by
 refine zyf lY λts hts ok hbk c hN hp=>?_;obtain⟨t,u,v,w,x,y,rfl⟩:=lq hts;have hn:gQ n=gQ q+(gQ a+gQ b)+1:=by rw[pK,hk];simp[gy]
 have hel:=he.len;have hb2:=kU 2;have m1:=hq.1 env s (3+8*gQ a+8*gQ b+k) (he.less (by omega)) (hs.less (by omega));have h1:=hq.2 env s (3+8*gQ a+8*gQ b+k) (he.less (by omega)) (hs.less (by omega));have hne:=X5 he q;unfold uq;simp only;generalize iq env s=r1 at*
 have m2:=yC L r1.1.1 r1.1.2 (bT 2) q r1.2 (by have:=h1.1.sites;omega);have h2:=wW (b:=2+8*gQ a+8*gQ b+k) (h1.1.less (by omega)) r1.1.1 r1.1.2 (bT 2) q.line q.col;generalize jw r1.1.1 r1.1.2 (bT 2) q.line q.col r1.2=r2 at*
 obtain⟨ea,hea⟩:∃ea,(lF q env).1=ea:=⟨_,rfl⟩
 obtain⟨eb,heb⟩:∃eb,(lF q env).2=eb:=⟨_,rfl⟩
 rw[hea,heb]at hne⊢;have m3:=ha.1 ea r2.2 (2+8*gQ b+k) (hne.1.less (by omega)) (h2.less (by omega));have h3:=ha.2 ea r2.2 (2+8*gQ b+k) (hne.1.less (by omega)) (h2.less (by omega));generalize ia ea r2.2=r3 at*
 have m4:=hb.1 eb r3.2 (2+k) (hne.2.less (by omega)) (h3.1.less (by omega));have h4:=hb.2 eb r3.2 (2+k) (hne.2.less (by omega)) (h3.1.less (by omega));generalize ib eb r3.2=r4 at*
 have hj:=zEE r3.1.2 r4.1.2;generalize vR r3.1.2 r4.1.2=J at*
 have m5:=yC L r3.1.1 r3.1.2 J a r4.2 (by have:=h4.1.sites;omega);have h5:=wW (b:=1+k) (h4.1.less (by omega)) r3.1.1 r3.1.2 J a.line a.col;generalize jw r3.1.1 r3.1.2 J a.line a.col r4.2=r5 at*
 have m6:=yC L r4.1.1 r4.1.2 J b r5.2 (by have:=h5.sites;omega);generalize jw r4.1.1 r4.1.2 J b.line b.col r5.2=r6 at*
 have zA:=uS (ea.map iI) env.length;have zB:=uS (eb.map iI) env.length;unfold Wn;simp[hk];refine fO [0,1,2,3,4,5] m1 ?_;simp;refine fU hb2 ?_;simp;refine fO [0,1,2,15,4,16] m2 ?_;simp;refine⟨by decide,by omega,?_⟩;by_cases c12:q.kind=12;rotate_left
 ·have e:lF q env=(env,env):=by unfold lF;rw[aA (λz=>c12 z.1)]
  rw[e]at hea heb;simp only at hea heb;subst hea;subst heb;have zA:=zA (by simp);have zB:=zA;simp[c12];refine eU [20,21] ?_;simp[jT,hk,zA,zB, -map_set];refine fO [0,1,2,19,4,16] m3 ?_;simp[jT,hk,zA,zB, -map_set];refine fO [0,1,2,22,4,23] m4 ?_;simp[hk];refine fU hj ?_;simp[hk];refine fO [0,1,2,26,4,27] m5 ?_;simp[hk];refine⟨by decide,?_⟩;refine fO [0,1,2,31,4,27] m6 ?_;simp;refine⟨by decide,by decide,?_⟩;exact eG [0,1,2,9,4,11,32,27] [6,7,8,9,10,11]
 obtain⟨w',hw'⟩:=hqk c12;have g0:q.kids.getD 0 mZ=w':=by rw[hw'];try rfl
 by_cases c4:w'.kind=4;rotate_left
 ·have e:lF q env=(env,env):=by unfold lF;rw[g0,aA (λz=>c4 z.2.1)]
  rw[e]at hea heb;simp only at hea heb;subst hea;subst heb;have zA:=zA (by simp);have zB:=zA;simp[c12,hw',c4];refine eU [20,21] ?_;simp[jT,hk,zA,zB, -map_set];refine fO [0,1,2,19,4,16] m3 ?_;simp[jT,hk,zA,zB, -map_set];refine fO [0,1,2,22,4,23] m4 ?_;simp[hk];refine fU hj ?_;simp[hk];refine fO [0,1,2,26,4,27] m5 ?_;simp[hk];refine⟨by decide,?_⟩;refine fO [0,1,2,31,4,27] m6 ?_;simp;refine⟨by decide,by decide,?_⟩;exact eG [0,1,2,9,4,11,32,27] [6,7,8,9,10,11]
 have hfi:=find_ok env (by omega) w'.text;have hfl:=NS env w'.text;have e:lF q env=if 0<=nL env w'.text then(env.set (nL env w'.text).toNat ((env.getD (nL env w'.text).toNat (bs [],noT)).1,(qy (env.getD (nL env w'.text).toNat (bs [],noT)).2 q.n).1),env.set (nL env w'.text).toNat ((env.getD (nL env w'.text).toNat (bs [],noT)).1,(qy (env.getD (nL env w'.text).toNat (bs [],noT)).2 q.n).2))else(env,env):=by
  unfold lF;rw[g0];by_cases z:0<=nL env w'.text
  ·rw[aB ⟨c12,c4,z⟩,aB z]
  ·rw[aA (λp=>z p.2.2),aA z]
 generalize nL env w'.text=z at*
 by_cases z0:0<=z;rotate_left
 ·rw[aA z0]at e;rw[e]at hea heb;simp only at hea heb;subst hea;subst heb;have zA:=zA (by simp);have zB:=zA;simp[c12,hw',c4];refine fU hfi ?_;simp[z0];refine eU [20,21] ?_;simp[jT,hk,zA,zB, -map_set];refine fO [0,1,2,19,4,16] m3 ?_;simp[jT,hk,zA,zB, -map_set];refine fO [0,1,2,22,4,23] m4 ?_;simp[hk];refine fU hj ?_;simp[hk];refine fO [0,1,2,26,4,27] m5 ?_;simp[hk];refine⟨by decide,?_⟩;refine fO [0,1,2,31,4,27] m6 ?_;simp;refine⟨by decide,by decide,?_⟩;exact eG [0,1,2,9,4,11,32,27] [6,7,8,9,10,11]
 rw[aB z0]at e;obtain⟨zn,hzn⟩:∃zn:Nat,z=zn:=⟨z.toNat,by omega⟩
 have hzl:zn<env.length:=by omega
 obtain⟨v',hv⟩:∃v',env[zn]=v':=⟨_,rfl⟩
 subst hzn;have hv2:env.getD (zn:Int).toNat (bs [],noT)=v':=by simp only[bJ];rw[aF,aD hzl,hv];try rfl
 rw[hv2]at e;simp only[bJ]at e;have hnr:=zBi v'.2 q.n;generalize qy v'.2 q.n=N at*
 rw[e]at hea heb;simp only at hea heb;subst hea;subst heb;have zA:=zA (by simp);have zB:=zB (by simp);simp[c12,hw',c4];refine fU hfi ?_;simp[z0,hzl,hv];refine fU hnr ?_;simp[hzl,hv];refine⟨by decide,?_⟩;have ps:∀t1:fZ,(List.map ((λx=>List.map AC.d x)∘iI) env).set zn (put (List.map AC.d (iI v')) 1 (List.map AC.d t1.enc))=List.map ((λx=>List.map AC.d x)∘iI) (env.set zn (v'.1,t1)):=λt1=>by
  rw[zFz,map_set];try rfl
 simp only[ps];refine eU [20,21] ?_;simp[jT,hk,zA,zB, -map_set];refine fO [0,1,2,19,4,16] m3 ?_;simp[jT,hk,zA,zB, -map_set];refine fO [0,1,2,24,4,25] m4 ?_;simp[hk];refine fU hj ?_;simp[hk];refine fO [0,1,2,28,4,29] m5 ?_;simp[hk];refine⟨by decide,?_⟩;refine fO [0,1,2,33,4,29] m6 ?_;simp;refine⟨by decide,by decide,?_⟩;exact eG [0,1,2,9,4,11,34,29] [6,7,8,9,10,11]
end
end Go.Gr
namespace Go.Gr
open Go.Abs Go.Proofs
def ny(k:Int)(ts:List fZ)(ns:List di)(ks:List fo):Prop:=
(k=0\/k=1\/k=2\/k=3\/k=18)\/((k=4\/k=19)/\ts.length<=1000000)\/(k=8/\ns.length<=1000000)\/(k=6/\ks.length=1/\1<=ts.length)\/(k=13/\ks.length=1/\1<=ts.length)\/(k=9/\ks.length=1)\/((k=12\/k=15\/k=16\/k=17)/\ks.length=1)\/(k=5/\ks.length=2)\/(k=7/\ks.length=2)\/(k=10/\ks.length=2)\/(k=14/\ks.length=2)\/(k=11/\ks.length=3)
mutual
def nH:fo->Prop
|.mk k _ _ _ _ ts ns ks=>lu ks/\ny k ts ns ks
def lu:List fo->Prop
|[]=>True
|n::l=>nH n/\lu l
end
def Fq:∀l:List fo,lu l↔∀x,x∈l->nH x
|[]=>by simp[lu]
|n::l=>by simp[lu,Fq l]
def X6(n:fo):nH n↔(∀x,x∈n.kids->nH x)/\ny n.kind n.types n.names n.kids:=by
 cases n;rw[nH,Fq];try rfl
def jl(j:Inf):Inf:=λenv s=>if s.e≠0 then((noC,noT),s)else j env s
section
variable (L:gq)
def xJ{n:fo}{j:Inf}(h:jM L n j):jM L n (jl j):=λenv s k he hs=>by
 unfold jl;split
 ·exact⟨hs.less (by omega),qR⟩
 ·exact h env s k he hs
def zA8(n:fo)(K:n.kind=4\/n.kind=19)(j:Inf)(h:iY L 81 n j):iY L 45 n (jl j):=λenv s k he hs=>by
 refine uR lY λts hts ok hbk c hN hp=>?_;obtain⟨t,u,v,w,x,y,rfl⟩:=lq hts;have hb0:=kU 0;have m:=h env s k he hs;unfold jl;by_cases q0:s.e=0;rotate_left
 ·rw[aB q0];unfold nE;simp[q0];refine fU hb0 ?_;simp;exact eG [0,1,2,9,4,11,3,5] [6,7,8,9,10,11]
 rw[aA (λz=>z q0)];generalize j env s=r at*
 unfold nE;rcases K with K|K
 ·simp[q0,K];refine fO [0,1,2,3,4,5] m ?_;simp;exact eG [0,1,2,9,4,11,14,15] [6,7,8,9,10,11]
 ·simp[q0,K];refine fO [0,1,2,3,4,5] m ?_;simp;exact eG [0,1,2,9,4,11,14,15] [6,7,8,9,10,11]
def zEp(n:fo)(K:n.kind=5)(j:Inf)(h:iY L 82 n j):iY L 45 n (jl j):=λenv s k he hs=>by
 refine uR lY λts hts ok hbk c hN hp=>?_;obtain⟨t,u,v,w,x,y,rfl⟩:=lq hts;have hb0:=kU 0;have m:=h env s k he hs;unfold jl;by_cases q0:s.e=0;rotate_left
 ·rw[aB q0];unfold nE;simp[q0];refine fU hb0 ?_;simp;exact eG [0,1,2,9,4,11,3,5] [6,7,8,9,10,11]
 rw[aA (λz=>z q0)];generalize j env s=r at*
 unfold nE
 skip
 ·simp[q0,K];refine fO [0,1,2,3,4,5] m ?_;simp;exact eG [0,1,2,9,4,11,14,15] [6,7,8,9,10,11]
def zFR(n:fo)(K:n.kind=6)(j:Inf)(h:iY L 83 n j):iY L 45 n (jl j):=λenv s k he hs=>by
 refine uR lY λts hts ok hbk c hN hp=>?_;obtain⟨t,u,v,w,x,y,rfl⟩:=lq hts;have hb0:=kU 0;have m:=h env s k he hs;unfold jl;by_cases q0:s.e=0;rotate_left
 ·rw[aB q0];unfold nE;simp[q0];refine fU hb0 ?_;simp;exact eG [0,1,2,9,4,11,3,5] [6,7,8,9,10,11]
 rw[aA (λz=>z q0)];generalize j env s=r at*
 unfold nE
 skip
 ·simp[q0,K];refine fO [0,1,2,3,4,5] m ?_;simp;exact eG [0,1,2,9,4,11,14,15] [6,7,8,9,10,11]
def zCF(n:fo)(K:n.kind=7)(j:Inf)(h:iY L 84 n j):iY L 45 n (jl j):=λenv s k he hs=>by
 refine uR lY λts hts ok hbk c hN hp=>?_;obtain⟨t,u,v,w,x,y,rfl⟩:=lq hts;have hb0:=kU 0;have m:=h env s k he hs;unfold jl;by_cases q0:s.e=0;rotate_left
 ·rw[aB q0];unfold nE;simp[q0];refine fU hb0 ?_;simp;exact eG [0,1,2,9,4,11,3,5] [6,7,8,9,10,11]
 rw[aA (λz=>z q0)];generalize j env s=r at*
 unfold nE
 skip
 ·simp[q0,K];refine fO [0,1,2,3,4,5] m ?_;simp;exact eG [0,1,2,9,4,11,14,15] [6,7,8,9,10,11]
def zzU(n:fo)(K:n.kind=8)(j:Inf)(h:iY L 85 n j):iY L 45 n (jl j):=λenv s k he hs=>by
 refine uR lY λts hts ok hbk c hN hp=>?_;obtain⟨t,u,v,w,x,y,rfl⟩:=lq hts;have hb0:=kU 0;have m:=h env s k he hs;unfold jl;by_cases q0:s.e=0;rotate_left
 ·rw[aB q0];unfold nE;simp[q0];refine fU hb0 ?_;simp;exact eG [0,1,2,9,4,11,3,5] [6,7,8,9,10,11]
 rw[aA (λz=>z q0)];generalize j env s=r at*
 unfold nE
 skip
 ·simp[q0,K];refine fO [0,1,2,3,4,5] m ?_;simp;exact eG [0,1,2,9,4,11,14,15] [6,7,8,9,10,11]
def zEq(n:fo)(K:n.kind=9)(j:Inf)(h:iY L 86 n j):iY L 45 n (jl j):=λenv s k he hs=>by
 refine uR lY λts hts ok hbk c hN hp=>?_;obtain⟨t,u,v,w,x,y,rfl⟩:=lq hts;have hb0:=kU 0;have m:=h env s k he hs;unfold jl;by_cases q0:s.e=0;rotate_left
 ·rw[aB q0];unfold nE;simp[q0];refine fU hb0 ?_;simp;exact eG [0,1,2,9,4,11,3,5] [6,7,8,9,10,11]
 rw[aA (λz=>z q0)];generalize j env s=r at*
 unfold nE
 skip
 ·simp[q0,K];refine fO [0,1,2,3,4,5] m ?_;simp;exact eG [0,1,2,9,4,11,14,15] [6,7,8,9,10,11]
def zA9(n:fo)(K:n.kind=10)(j:Inf)(h:iY L 87 n j):iY L 45 n (jl j):=λenv s k he hs=>by
 refine uR lY λts hts ok hbk c hN hp=>?_;obtain⟨t,u,v,w,x,y,rfl⟩:=lq hts;have hb0:=kU 0;have m:=h env s k he hs;unfold jl;by_cases q0:s.e=0;rotate_left
 ·rw[aB q0];unfold nE;simp[q0];refine fU hb0 ?_;simp;exact eG [0,1,2,9,4,11,3,5] [6,7,8,9,10,11]
 rw[aA (λz=>z q0)];generalize j env s=r at*
 unfold nE
 skip
 ·simp[q0,K];refine fO [0,1,2,3,4,5] m ?_;simp;exact eG [0,1,2,9,4,11,14,15] [6,7,8,9,10,11]
def zzV(n:fo)(K:n.kind=11)(j:Inf)(h:iY L 88 n j):iY L 45 n (jl j):=λenv s k he hs=>by
 refine uR lY λts hts ok hbk c hN hp=>?_;obtain⟨t,u,v,w,x,y,rfl⟩:=lq hts;have hb0:=kU 0;have m:=h env s k he hs;unfold jl;by_cases q0:s.e=0;rotate_left
 ·rw[aB q0];unfold nE;simp[q0];refine fU hb0 ?_;simp;exact eG [0,1,2,9,4,11,3,5] [6,7,8,9,10,11]
 rw[aA (λz=>z q0)];generalize j env s=r at*
 unfold nE
 skip
 ·simp[q0,K];refine fO [0,1,2,3,4,5] m ?_;simp;exact eG [0,1,2,9,4,11,14,15] [6,7,8,9,10,11]
def zFS(n:fo)(K:n.kind=13)(j:Inf)(h:iY L 89 n j):iY L 45 n (jl j):=λenv s k he hs=>by
 refine uR lY λts hts ok hbk c hN hp=>?_;obtain⟨t,u,v,w,x,y,rfl⟩:=lq hts;have hb0:=kU 0;have m:=h env s k he hs;unfold jl;by_cases q0:s.e=0;rotate_left
 ·rw[aB q0];unfold nE;simp[q0];refine fU hb0 ?_;simp;exact eG [0,1,2,9,4,11,3,5] [6,7,8,9,10,11]
 rw[aA (λz=>z q0)];generalize j env s=r at*
 unfold nE
 skip
 ·simp[q0,K];refine fO [0,1,2,3,4,5] m ?_;simp;exact eG [0,1,2,9,4,11,14,15] [6,7,8,9,10,11]
def zFT(n:fo)(K:n.kind=14)(j:Inf)(h:iY L 90 n j):iY L 45 n (jl j):=λenv s k he hs=>by
 refine uR lY λts hts ok hbk c hN hp=>?_;obtain⟨t,u,v,w,x,y,rfl⟩:=lq hts;have hb0:=kU 0;have m:=h env s k he hs;unfold jl;by_cases q0:s.e=0;rotate_left
 ·rw[aB q0];unfold nE;simp[q0];refine fU hb0 ?_;simp;exact eG [0,1,2,9,4,11,3,5] [6,7,8,9,10,11]
 rw[aA (λz=>z q0)];generalize j env s=r at*
 unfold nE
 skip
 ·simp[q0,K];refine fO [0,1,2,3,4,5] m ?_;simp;exact eG [0,1,2,9,4,11,14,15] [6,7,8,9,10,11]
def zEr(n:fo)(K:n.kind=12\/n.kind=15\/n.kind=16\/n.kind=17)(j:Inf)(h:iY L 91 n j):iY L 45 n (jl j):=λenv s k he hs=>by
 refine uR lY λts hts ok hbk c hN hp=>?_;obtain⟨t,u,v,w,x,y,rfl⟩:=lq hts;have hb0:=kU 0;have m:=h env s k he hs;unfold jl;by_cases q0:s.e=0;rotate_left
 ·rw[aB q0];unfold nE;simp[q0];refine fU hb0 ?_;simp;exact eG [0,1,2,9,4,11,3,5] [6,7,8,9,10,11]
 rw[aA (λz=>z q0)];generalize j env s=r at*
 unfold nE;rcases K with K|K|K|K
 ·simp[q0,K];refine fO [0,1,2,3,4,5] m ?_;simp;exact eG [0,1,2,9,4,11,14,15] [6,7,8,9,10,11]
 ·simp[q0,K];refine fO [0,1,2,3,4,5] m ?_;simp;exact eG [0,1,2,9,4,11,14,15] [6,7,8,9,10,11]
 ·simp[q0,K];refine fO [0,1,2,3,4,5] m ?_;simp;exact eG [0,1,2,9,4,11,14,15] [6,7,8,9,10,11]
 ·simp[q0,K];refine fO [0,1,2,3,4,5] m ?_;simp;exact eG [0,1,2,9,4,11,14,15] [6,7,8,9,10,11]
def zEs(n:fo)(K:n.kind=0):iY L 45 n (jl λenv s=>((cN 0 n.n,bT 3),s)):=λenv s k he hs=>by
 refine uR lY λts hts ok hbk c hN hp=>?_;obtain⟨t,u,v,w,x,y,rfl⟩:=lq hts;have hb0:=kU 0;have hbK:=kU 3;unfold jl;by_cases q0:s.e=0;rotate_left
 ·rw[aB q0];unfold nE;simp[q0];refine fU hb0 ?_;simp;exact eG [0,1,2,9,4,11,3,5] [6,7,8,9,10,11]
 rw[aA (λz=>z q0)];unfold nE;simp[q0,K];refine fU hbK ?_;simp;refine⟨by decide,?_⟩;exact eG [0,1,2,9,4,11,3,5] [6,7,8,9,10,11]
def zEt(n:fo)(K:n.kind=1):iY L 45 n (jl λenv s=>((cT 1 n.text [],bT 4),s)):=λenv s k he hs=>by
 refine uR lY λts hts ok hbk c hN hp=>?_;obtain⟨t,u,v,w,x,y,rfl⟩:=lq hts;have hb0:=kU 0;have hbK:=kU 4;unfold jl;by_cases q0:s.e=0;rotate_left
 ·rw[aB q0];unfold nE;simp[q0];refine fU hb0 ?_;simp;exact eG [0,1,2,9,4,11,3,5] [6,7,8,9,10,11]
 rw[aA (λz=>z q0)];unfold nE;simp[q0,K];refine fU hbK ?_;simp;refine⟨by decide,?_⟩;exact eG [0,1,2,9,4,11,3,5] [6,7,8,9,10,11]
def zCG(n:fo)(K:n.kind=2):iY L 45 n (jl λenv s=>((cN 2 n.n,bT 2),s)):=λenv s k he hs=>by
 refine uR lY λts hts ok hbk c hN hp=>?_;obtain⟨t,u,v,w,x,y,rfl⟩:=lq hts;have hb0:=kU 0;have hbK:=kU 2;unfold jl;by_cases q0:s.e=0;rotate_left
 ·rw[aB q0];unfold nE;simp[q0];refine fU hb0 ?_;simp;exact eG [0,1,2,9,4,11,3,5] [6,7,8,9,10,11]
 rw[aA (λz=>z q0)];unfold nE;simp[q0,K];refine fU hbK ?_;simp;refine⟨by decide,?_⟩;exact eG [0,1,2,9,4,11,3,5] [6,7,8,9,10,11]
def zEu(n:fo)(K:n.kind=3):iY L 45 n (jl λenv s=>((cN 3 0,bT 1),s)):=λenv s k he hs=>by
 refine uR lY λts hts ok hbk c hN hp=>?_;obtain⟨t,u,v,w,x,y,rfl⟩:=lq hts;have hb0:=kU 0;have hbK:=kU 1;unfold jl;by_cases q0:s.e=0;rotate_left
 ·rw[aB q0];unfold nE;simp[q0];refine fU hb0 ?_;simp;exact eG [0,1,2,9,4,11,3,5] [6,7,8,9,10,11]
 rw[aA (λz=>z q0)];unfold nE;simp[q0,K];refine fU hbK ?_;simp;exact eG [0,1,2,9,4,11,3,5] [6,7,8,9,10,11]
def zCH(n:fo)(K:n.kind=18):iY L 45 n (jl λenv s=>((cN 20 0,bT 3),s)):=λenv s k he hs=>by
 refine uR lY λts hts ok hbk c hN hp=>?_;obtain⟨t,u,v,w,x,y,rfl⟩:=lq hts;have hb0:=kU 0;have hbK:=kU 3;unfold jl;by_cases q0:s.e=0;rotate_left
 ·rw[aB q0];unfold nE;simp[q0];refine fU hb0 ?_;simp;exact eG [0,1,2,9,4,11,3,5] [6,7,8,9,10,11]
 rw[aA (λz=>z q0)];unfold nE;simp[q0,K];refine fU hbK ?_;simp;exact eG [0,1,2,9,4,11,3,5] [6,7,8,9,10,11]
def Fs{n:fo}{c:Env->CS->fw}{b:Int}(h0:0<=b)(h4:b<=4):jM L n (jl λenv s=>((c env s,bT b),s)):=xJ L λenv s k he hs=>⟨hs.less (by omega),uz b h0 h4⟩
def Fu{l:List fo}(h:l.length=1):∃a,l=[a]:=by
 match l,h with
 |[a],_=>exact⟨a,rfl⟩
def JJ{l:List fo}(h:l.length=2):∃a b,l=[a,b]:=by
 match l,h with
 |[a,b],_=>exact⟨a,b,rfl⟩
def zyw{l:List fo}(h:l.length=3):∃a b c,l=[a,b,c]:=by
 match l,h with
 |[a,b,c],_=>exact⟨a,b,c,rfl⟩
def nX(n:fo)(rest:Inf):Inf:=λenv s=>
 if n.kind=0 then((cN 0 n.n,bT 3),s)
 else if n.kind=1 then((cT 1 n.text [],bT 4),s)
 else if n.kind=2 then((cN 2 n.n,bT 2),s)
 else if n.kind=3 then((cN 3 0,bT 1),s)
 else if n.kind=18 then((cN 20 0,bT 3),s)
 else if n.kind=4\/n.kind=19 then sS L n env s
 else if n.kind=8 then oI n (lM L n.kids) env s
 else rest env s
def yu(n a:fo):Inf:=λenv s=>
 if n.kind=6 then ul n a (iE L a) env s
 else if n.kind=9 then nT n (iE L a) env s
 else if n.kind=13 then ut n (iE L a) env s
 else nC n a (iE L a) env s
def zw(n a b:fo):Inf:=λenv s=>
 if n.kind=5 then nS n a (iE L a) (iE L b) env s
 else if n.kind=7 then um n b (iE L a) (iE L b) env s
 else if n.kind=10 then uo n (iE L a) (iE L b) env s
 else opC n a b (iE L a) (iE L b) env s
def Fv(k:Int)(tx:di)(nn ln cl:Int)(ts:List fZ)(ns:List di):iE L (.mk k tx nn ln cl ts ns [])=jl (nX L (.mk k tx nn ln cl ts ns []) λenv s=>((noC,noT),s)):=by with_unfolding_all rfl
def yw(k:Int)(tx:di)(nn ln cl:Int)(ts:List fZ)(ns:List di)(a:fo):iE L (.mk k tx nn ln cl ts ns [a])=jl (nX L (.mk k tx nn ln cl ts ns [a]) (yu L (.mk k tx nn ln cl ts ns [a]) a)):=by with_unfolding_all rfl
def zx(k:Int)(tx:di)(nn ln cl:Int)(ts:List fZ)(ns:List di)(a b:fo):iE L (.mk k tx nn ln cl ts ns [a,b])=jl (nX L (.mk k tx nn ln cl ts ns [a,b]) (zw L (.mk k tx nn ln cl ts ns [a,b]) a b)):=by with_unfolding_all rfl
def EA(k:Int)(tx:di)(nn ln cl:Int)(ts:List fZ)(ns:List di)(a b c:fo)(l:List fo):iE L (.mk k tx nn ln cl ts ns (a::b::c::l))=jl (nX L (.mk k tx nn ln cl ts ns (a::b::c::l)) (uq a b c (iE L a) (iE L b) (iE L c))):=by with_unfolding_all rfl
def Aq(n:fo)(j:Inf)(h:∀rest,nX L n rest=j):iE L n=jl j:=by
 obtain⟨k,tx,nn,ln,cl,ts,ns,ks⟩:=n
 match ks,h with
 |[],h=>rw[Fv,h]
 |[a],h=>rw[yw,h]
 |[a,b],h=>rw[zx,h]
 |a::b::c::l,h=>rw[EA,h]
def zBa(hL:nN L)(n:fo)(hw:nH n)(ih:∀x,x∈n.kids->qU L x (iE L x)):qU L n (iE L n):=by
 obtain⟨hws,hs⟩:=(X6 n).1 hw;obtain⟨k,tx,nn,ln,cl,ts,ns,ks⟩:=n;simp only[fo.kind,fo.kids,fo.types,fo.names]at hws hs ih;have go:∀j:Inf,iE L (.mk k tx nn ln cl ts ns ks)=jl j->iY L 45 (.mk k tx nn ln cl ts ns ks) (jl j)->jM L (.mk k tx nn ln cl ts ns ks) (jl j)->qU L (.mk k tx nn ln cl ts ns ks) (iE L (.mk k tx nn ln cl ts ns ks)):=λj e m p=>by rw[e];exact⟨m,p⟩
 rcases hs with(K|K|K|K|K)|⟨K,t1⟩|⟨K,t1⟩|⟨K,l1,t1⟩|⟨K,l1,t1⟩|⟨K,l1⟩|⟨K,l1⟩|⟨K,l1⟩|⟨K,l1⟩|⟨K,l1⟩|⟨K,l1⟩|⟨K,l1⟩
 ·exact go _ (Aq L _ _ λrest=>by funext env s;simp[nX,fo.kind,fo.n,fo.text,K]) (zEs L _ (by exact K)) (Fs L (by omega) (by omega))
 ·exact go _ (Aq L _ _ λrest=>by funext env s;simp[nX,fo.kind,fo.n,fo.text,K]) (zEt L _ (by exact K)) (Fs L (by omega) (by omega))
 ·exact go _ (Aq L _ _ λrest=>by funext env s;simp[nX,fo.kind,fo.n,fo.text,K]) (zCG L _ (by exact K)) (Fs L (by omega) (by omega))
 ·exact go _ (Aq L _ _ λrest=>by funext env s;simp[nX,fo.kind,fo.n,fo.text,K]) (zEu L _ (by exact K)) (Fs L (by omega) (by omega))
 ·exact go _ (Aq L _ _ λrest=>by funext env s;simp[nX,fo.kind,fo.n,fo.text,K]) (zCH L _ (by exact K)) (Fs L (by omega) (by omega))
 ·exact go (sS L (.mk k tx nn ln cl ts ns ks)) (Aq L _ _ λrest=>by funext env s;rcases K with K|K<;>simp[nX,fo.kind,K]) (zA8 L _ (by exact K) _ (zBW L hL _ (by exact t1))) (xJ L (zFe L hL _ (by exact t1)))
 ·exact go (oI (.mk k tx nn ln cl ts ns ks) (lM L ks)) (Aq L _ _ λrest=>by funext env s;simp[nX,fo.kind,fo.kids,K]) (zzU L _ (by exact K) _ (zAJ L _ (by exact t1) (by exact ih))) (xJ L (zHn L _ λx hx=>(ih x hx).2))
 ·obtain⟨a,rfl⟩:=Fu l1;have ia:=ih a (by simp);exact go (ul (.mk k tx nn ln cl ts ns [a]) a (iE L a)) (by rw[yw];funext env s;simp[jl,nX,yu,fo.kind,K]) (zFR L _ (by exact K) _ (zGF L _ a rfl (by exact t1) _ ia)) (xJ L (NV L _ a rfl _ ia.2))
 ·obtain⟨a,rfl⟩:=Fu l1;have ia:=ih a (by simp);exact go (ut (.mk k tx nn ln cl ts ns [a]) (iE L a)) (by rw[yw];funext env s;simp[jl,nX,yu,fo.kind,K]) (zFS L _ (by exact K) _ (zGl L _ a rfl (by exact t1) _ ia)) (xJ L (NY L _ a rfl _ ia.2))
 ·obtain⟨a,rfl⟩:=Fu l1;have ia:=ih a (by simp);exact go (nT (.mk k tx nn ln cl ts ns [a]) (iE L a)) (by rw[yw];funext env s;simp[jl,nX,yu,fo.kind,K]) (zEq L _ (by exact K) _ (zFr L _ a rfl _ ia)) (xJ L (zHD L _ a rfl _ ia.2))
 ·obtain⟨a,rfl⟩:=Fu l1;have ia:=ih a (by simp);exact go (nC (.mk k tx nn ln cl ts ns [a]) a (iE L a)) (by rw[yw];funext env s;rcases K with K|K|K|K<;>simp[jl,nX,yu,fo.kind,K]) (zEr L _ (by exact K) _ (zFb L _ a rfl _ ia)) (xJ L (zHf L _ a rfl _ ia.2))
 ·obtain⟨a,b,rfl⟩:=JJ l1;have ia:=ih a (by simp);have ib:=ih b (by simp);exact go (nS (.mk k tx nn ln cl ts ns [a,b]) a (iE L a) (iE L b)) (by rw[zx];funext env s;simp[jl,nX,zw,fo.kind,K]) (zEp L _ (by exact K) _ (zFl L _ a b rfl _ _ ia ib)) (xJ L (zHr L _ a b rfl _ _ ia.2 ib.2))
 ·obtain⟨a,b,rfl⟩:=JJ l1;have ia:=ih a (by simp);have ib:=ih b (by simp);exact go (um (.mk k tx nn ln cl ts ns [a,b]) b (iE L a) (iE L b)) (by rw[zx];funext env s;simp[jl,nX,zw,fo.kind,K]) (zCF L _ (by exact K) _ (zDO L _ a b rfl _ _ ia ib)) (xJ L (zGH L _ a b rfl _ _ ia.2 ib.2))
 ·obtain⟨a,b,rfl⟩:=JJ l1;have ia:=ih a (by simp);have ib:=ih b (by simp);exact go (uo (.mk k tx nn ln cl ts ns [a,b]) (iE L a) (iE L b)) (by rw[zx];funext env s;simp[jl,nX,zw,fo.kind,K]) (zA9 L _ (by exact K) _ (zCp L _ a b rfl _ _ ia ib)) (xJ L (zGN L _ a b rfl _ _ ia.2 ib.2))
 ·obtain⟨a,b,rfl⟩:=JJ l1;have ia:=ih a (by simp);have ib:=ih b (by simp);exact go (opC (.mk k tx nn ln cl ts ns [a,b]) a b (iE L a) (iE L b)) (by rw[zx];funext env s;simp[jl,nX,zw,fo.kind,K]) (zFT L _ (by exact K) _ (zFX L _ a b rfl _ _ ia ib)) (xJ L (NZ L _ a b rfl _ _ ia.2 ib.2))
 ·obtain⟨q,a,b,rfl⟩:=zyw l1;have iq:=ih q (by simp);have ia:=ih a (by simp);have ib:=ih b (by simp);have hq:q.kind=12->∃w,q.kids=[w]:=λk12=>by
   have:=((X6 q).1 (hws q (by simp))).2;unfold ny at this;rw[k12]at this;exact Fu (by omega)
  exact go (uq q a b (iE L q) (iE L a) (iE L b)) (by rw[EA];funext env s;simp[jl,nX,fo.kind,K]) (zzV L _ (by exact K) _ (zAQ L _ q a b rfl hq _ _ _ iq ia ib)) (xJ L (Nf L _ q a b rfl _ _ _ iq.2 ia.2 ib.2))
mutual
def Ng(hL:nN L):∀n:fo,nH n->qU L n (iE L n)
|.mk k tx nn ln cl ts ns ks,hw=>zBa L hL _ hw (X7 hL ks (by rw[nH]at hw;exact hw.1))
def X7(hL:nN L):∀l:List fo,lu l->∀x,x∈l->qU L x (iE L x)
|[],_,x,hx=>by cases hx
|n::l,hw,x,hx=>by
 rw[lu]at hw;rcases aS.1 hx with e|hx
 ·rw[e];exact Ng hL n hw.1
 ·exact X7 hL l hw.2 x hx
end
end
end Go.Gr
