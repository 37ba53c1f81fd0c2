/- Texts of ours, joined and written short by a program of ours. -/
import Derived.Test.YtlfjlokfciejnaaGreatDoorLJ24
import Derived.Test.YtlfjlokfciejnaaGreatDoorLJ15
import Derived.Test.YtlfjlokfciejnaaGreatDoorLJ16
import Derived.Test.YtlfjlokfciejnaaGreatDoorLJ13
import Derived.Test.YtlfjlokfciejnaaGreatDoorLJ23
import Derived.Test.YtlfjlokfciejnaaGreatDoorRows
import Derived.Test.YtlfjlokfciejnaaGreatDoorCards
import Derived.Test.YtlfjlokfciejnaaGreatDoorTie
import Derived.WalkKit
import Derived.ProofKit
import Derived.OpenShut
import Derived.JoinedCond
import Derived.LaidMore
import Derived.Stop.Joined
import Derived.SevenTiedAt
import Derived.Stop.LaidErr
import Derived.Lib.LaidTab
import Derived.Lib.Space
set_option maxRecDepth 20000
set_option maxHeartbeats 4000000
set_option linter.unusedSectionVars false
set_option linter.unusedVariables false
set_option linter.unusedSimpArgs false
namespace Go.Gr
open Go.Abs Go.Proofs List
def BJ(g:FuncId)(R:gy->Prop)(q:gy->gy)(c:gy):Prop:=kS c<=1000000000->xw R q c->gY Pg 21 [.agg c.enc,.one (.fn (.func g) [])] (.agg (qH q c).enc)
abbrev QM:Blk:=.box [.d (.int .i64 0),.d (.int .i64 0),.d (.str (bs [])),.d (.sl true 1 []),.d (.sl true 1 []),.d (.sl true 4 []),.d (.sl true 5 []),.d (.sl true 8 [])]
abbrev QN(l:List gy):Blk:=.arr 8 ((l.map gy.enc).map (·.map .d))
theorem zHZ(a b:gy):put (a.enc.map AC.d) 0 (b.enc.map AC.d)=b.enc.map .d:=by rw[a.enc_eq,b.enc_eq];try rfl
theorem zAK{α:Type}{A B:List α}{j:Nat}(h:j<=A.length):(A.take j++B.drop j)[j]?=B[j]?:=by
 rw[bY (by simp;omega),bN,Nat.min_eq_left h,Nat.sub_self,az];try rfl
theorem zzl{α:Type}{A B:List α}{j:Nat}(h:j<A.length)(hl:A.length=B.length):(A.take j++B.drop j).set j A[j]=A.take (j+1)++B.drop (j+1):=by
 rw[set_append_right _ _ (by simp;omega),bN,Nat.min_eq_left (by omega),Nat.sub_self,aG (l:=B) (by omega),set_cons_zero,aJ h,bI];try rfl
theorem zGx(g:FuncId)(R:gy->Prop)(q:gy->gy)(hq:∀x,R x->gY Pg g [.agg x.enc] (.agg (q x).enc))(c:gy)(ih:∀x,x∈c.kids->BJ g R q x):BJ g R q c:=λhs hR=>by
 refine zCe (by simp) λo cx hN hp=>?_;have hsz:=Au c;have hkl:=OO c.kids;have hR':R (.mk c.kind c.n c.text c.ints c.names c.types c.cos (c.kids.map (qH q)))/\∀x,x∈c.kids->xw R q x:=by
  cases c;rw[xw,KT,QL]at hR;exact hR
 have hfin:=hq _ hR'.1;rw[zGy];unfold ZB;simp;refine gP [] (zGU c.kids (by omega)) ?_;simp[zJD];refine fP gz hp (λj:Nat=>j<=c.kids.length) (λj=>[(14,.c (.d (.int .i64 j))),(13,.c (.d (.int .i64 c.kids.length))),(12,.c (.msl 8 2 0 c.kids.length)),(4,.c (.ptr 1 0)),(2,.c (.ptr 0 0)),(1,.c (.d (.fn (.func g) [])))]) (λj=>[.box (yw c (.msl 8 2 0 c.kids.length)),QM,QN ((c.kids.take j).map (qH q)++c.kids.drop j)]) (λj=>c.kids.length-j) 0 [0,1,2] (by simp) (by simp[c.enc_eq]) λj hj=>?_;unfold ZA;simp;apply gN<;>intro h
 ·have hj:j<c.kids.length:=by simpa using h
  have hw:=wI (n:=(j:Int)+1);have hsj:=Bp hj;have hx:=ih _ (aO hj) (by omega) (hR'.2 _ (aO hj));have hat:=zAK (A:=c.kids.map ((λx=>List.map AC.d x)∘gy.enc∘qH q)) (B:=c.kids.map ((λx=>List.map AC.d x)∘gy.enc)) (j:=j) (by simp;omega);rw[getElem?_map,aA hj,Option.map_some]at hat;have hset:=zzl (A:=c.kids.map ((λx=>List.map AC.d x)∘gy.enc∘qH q)) (B:=c.kids.map ((λx=>List.map AC.d x)∘gy.enc)) (j:=j) (by simpa using hj) (by simp);rw[getElem_map]at hset;refine⟨hj,?_⟩;rw[hat];simp;refine gT hx ?_;simp;refine⟨hj,?_⟩;rw[hat];refine⟨by decide,?_⟩;refine fG (j+1) [0,1,2] (by omega) (by omega) ?_;simp[hw,zHZ];have tr:=λ(F:gy->List AC) (hF:∀x,∃y:gy,F x=y.enc.map AC.d) (l:List gy) (k:Nat) (x:List AC) (hx:x∈l.map F)=>(show AC.lts 3 x=true from by
   obtain⟨y,_,rfl⟩:=aY.1 hx;obtain⟨z,hz⟩:=hF y
   rw[hz];simp)
  exact⟨hset,λx hx=>tr _ (λy=>⟨qH q y,rfl⟩) c.kids 0 x (bL hx),λx hx=>tr _ (λy=>⟨y,rfl⟩) c.kids 0 x (dE hx)⟩
 ·have hj:j=c.kids.length:=by simp at h;omega
  subst hj;have hT:take c.kids.length (List.map (qH q) c.kids)=List.map (qH q) c.kids:=aD (by simp);rw[aQ,bM,aD (by simp)];refine fU [2] ?_;simp only[IJ,zcu,RS,IM,aC,aB,reduceIte,Nat.reduceEqDiff,Eo,xF,Blk.fz_arr,II,zJ];refine St.cut7 (F:=w_ Pg cx _ _ _) [(1,.c (.d (.fn (.func g) []))),(2,.c (.ptr 0 0)),(4,.c (.ptr 1 0))] [.box (yw c (.d (.sl false 8 ((c.kids.map (qH q)).map gy.enc)))),QM,.dead] ?_ ?_ λT hT=>?_
  ·simp[iZ]
  ·intro i;rcases(show i=0\/i=1\/i=2\/3<=i from by omega)with rfl|rfl|rfl|q3
   ·simp[iZ];exact aD (by simp)
   ·simp[iZ]
   ·simp[iZ]
   ·simp[iZ,wU (show [Blk.box (yw c (.d (.sl false 8 ((c.kids.map (qH q)).map gy.enc)))),QM,.dead].length<=i from q3),show i≠2 from by omega];rw[wU (by exact q3),wU (by exact q3)];try rfl
  simp only[forall_mem_cons,bv,false_implies,implies_true,and_true]at hT;obtain⟨k1,k2,k3⟩:=hT;have hrow:yw c (.d (.sl false 8 ((c.kids.map (qH q)).map gy.enc)))=(gy.mk c.kind c.n c.text c.ints c.names c.types c.cos (c.kids.map (qH q))).enc.map .d:=by rw[gy.enc_eq];try rfl
  rw[hrow];simp[k1,k2,k3];refine gT hfin ?_;simp[k1,k2,k3]
mutual
theorem QO(g:FuncId)(R:gy->Prop)(q:gy->gy)(hq:∀x,R x->gY Pg g [.agg x.enc] (.agg (q x).enc)):∀c:gy,BJ g R q c
|.mk k n t is ns ts cs ks=>zGx g R q hq _ (zzm g R q hq ks)
theorem zzm(g:FuncId)(R:gy->Prop)(q:gy->gy)(hq:∀x,R x->gY Pg g [.agg x.enc] (.agg (q x).enc)):∀l:List gy,∀x,x∈l->BJ g R q x
|[],x,hx=>by cases hx
|c::l,x,hx=>by
 rcases aN.1 hx with e|e
 ·rw[e];exact QO g R q hq c
 ·exact zzm g R q hq l x e
end
def qN(trim:Bool):gy->gy:=if trim=true then nO else o6
def RN(trim:Bool):gy->Prop:=if trim=true then xu else AA
def Gx(trim:Bool)(p:lZ):lZ:=⟨p.funs.map λf=>⟨f.name,f.type,qH (qN trim) f.body⟩,p.main,p.sites⟩
theorem zIu(f:jh)(b:gy):put (f.enc.map AC.d) 5 (b.enc.map AC.d)=(jh.enc ⟨f.name,f.type,b⟩).map .d:=by unfold jh.enc;rw[f.type.enc_eq,f.body.enc_eq,b.enc_eq];try rfl
def BK(q:gy->gy)(f:jh):jh:=⟨f.name,f.type,qH q f.body⟩
theorem zDg{c:Ctx}(hp:c.pure)(p:lZ)(g:FuncId)(q:gy->gy)(hl:p.funs.length<=1000000)(h:∀f,f∈p.funs->gY Pg 21 [.agg f.body.enc,.one (.fn (.func g) [])] (.agg (qH q f.body).enc)){Q:Exit->St->Prop}{S:St}{gg}{ms:List Nat}
  (h0:iM ms S [(15,.c (.d (.int .i64 (0:Nat)))),(14,.c (.d (.int .i64 p.funs.length))),(5,.c (.d (.fn (.func g) []))),(4,.c (.ptr 1 0)),(2,.c (.ptr 0 0))] [.box [.msl 13 2 0 p.funs.length,.d (.int .i64 p.main),.d (.sl false 3 (p.sites.map Site.enc))],.box [.d (.sl true 13 []),.d (.int .i64 0),.d (.sl true 3 [])],om p.funs])
  (hQ:∀T,Abs.look T 4=.c (.ptr 1 0)->Abs.look T 2=.c (.ptr 0 0)->Q (.exit 0) ⟨T,hpOf [.box [.msl 13 2 0 p.funs.length,.d (.int .i64 p.main),.d (.sl false 3 (p.sites.map Site.enc))],.box [.d (.sl true 13 []),.d (.int .i64 0),.d (.sl true 3 [])],om (p.funs.map (BK q))],3⟩):mV Pg c Ol Q gg S:=by
 refine fP gz hp (λj:Nat=>j<=p.funs.length) (λj=>[(15,.c (.d (.int .i64 j))),(14,.c (.d (.int .i64 p.funs.length))),(5,.c (.d (.fn (.func g) []))),(4,.c (.ptr 1 0)),(2,.c (.ptr 0 0))]) (λj=>[.box [.msl 13 2 0 p.funs.length,.d (.int .i64 p.main),.d (.sl false 3 (p.sites.map Site.enc))],.box [.d (.sl true 13 []),.d (.int .i64 0),.d (.sl true 3 [])],om ((p.funs.map (BK q)).take j++p.funs.drop j)]) (λj=>p.funs.length-j) 0 ms (by simp) (by simpa using h0) λj hj=>?_;unfold Ol;simp;apply gN<;>intro hh
 ·have hj:j<p.funs.length:=by simpa using hh
  have hw:=wI (n:=(j:Int)+1);have hx:=h _ (aO hj);have hat:=zAK (A:=p.funs.map ((λx=>List.map AC.d x)∘jh.enc∘BK q)) (B:=p.funs.map ((λx=>List.map AC.d x)∘jh.enc)) (j:=j) (by simp;omega);rw[getElem?_map,aA hj,Option.map_some]at hat;have hset:=zzl (A:=p.funs.map ((λx=>List.map AC.d x)∘jh.enc∘BK q)) (B:=p.funs.map ((λx=>List.map AC.d x)∘jh.enc)) (j:=j) (by simpa using hj) (by simp);rw[getElem_map]at hset;refine⟨hj,?_⟩;rw[hat];simp;refine gT hx ?_;simp;refine⟨hj,?_⟩;rw[hat];simp;refine⟨by decide,?_⟩;refine fG (j+1) [0,1,2] (by omega) (by omega) ?_;simp[hw,zIu];have tr:=λ(F:jh->List AC) (hF:∀x,∃y:jh,F x=y.enc.map AC.d) (l:List jh) (x:List AC) (hx:x∈l.map F)=>(show AC.lts 3 x=true from by
   obtain⟨y,_,rfl⟩:=aY.1 hx;obtain⟨z,hz⟩:=hF y
   rw[hz];simp)
  exact⟨hset,λx hx=>tr _ (λy=>⟨BK q y,rfl⟩) p.funs x (bL hx),λx hx=>tr _ (λy=>⟨y,rfl⟩) p.funs x (dE hx)⟩
 ·have hj:j=p.funs.length:=by simp at hh;omega
  subst hj;rw[aQ,bM,aD (by simp)];exact hQ _ (by simp) (by simp)
theorem zHq(p:lZ)(trim:Bool)(hl:p.funs.length<=1000000)(h:∀f,f∈p.funs->kS f.body<=1000000000/\xw (RN trim) (qN trim) f.body):gY Pg 9 [.agg p.enc,.one (.bool trim)] (.agg (Gx trim p).enc):=by
 have e:p.enc=[.sl false 13 (p.funs.map jh.enc),.int .i64 p.main,.sl false 3 (p.sites.map Site.enc)]:=rfl;have fin:∀(T:List (Nat × AV)) (c:Ctx),c.pure->Abs.look T 4=.c (.ptr 1 0)->Abs.look T 2=.c (.ptr 0 0)->True:=λ_ _ _ _ _=>trivial;rw[e];refine zCc (by simp) λo cx hN hp=>?_;unfold Yx;simp;refine gP [] (zFT p.funs (by omega)) ?_;cases trim with
 |false=>
  have hin:=λQ S gg ms=>zDg (c:=cx) (Q:=Q) (S:=S) (gg:=gg) (ms:=ms) hp p 19 o6 hl λf hf=>QO 19 AA o6 zAM f.body (h f hf).1 (h f hf).2;simp;refine hin _ _ _ [0,1,2] (by simp) λT h1 h2=>?_;have hT:take p.funs.length (List.map (jh.enc∘BK o6) p.funs)=List.map (jh.enc∘BK o6) p.funs:=aD (by simp);simp;refine fU [2] ?_;simp[iZ,h1,h2,hT];unfold Gx lZ.enc qN;rw[bn];try rfl
 |true=>
  have hin:=λQ S gg ms=>zDg (c:=cx) (Q:=Q) (S:=S) (gg:=gg) (ms:=ms) hp p 20 nO hl λf hf=>QO 20 xu nO zEY f.body (h f hf).1 (h f hf).2;simp;refine hin _ _ _ [0,1,2] (by simp) λT h1 h2=>?_;have hT:take p.funs.length (List.map (jh.enc∘BK nO) p.funs)=List.map (jh.enc∘BK nO) p.funs:=aD (by simp);simp;refine fU [2] ?_;simp[iZ,h1,h2,hT];unfold Gx lZ.enc qN;rw[bn];try rfl
theorem zBp{c:gy}(h:c.kind≠21):o6 c=c:=by unfold o6;rw[aB h]
theorem zzC{c:gy}(h:c.kind=21):o6 c=wy (sZ 32 (c.types.getD 0 noT) (c.types.getD 1 noT) (2*c.n+2)) (c.kids.getD 0 noC):=by unfold o6;rw[aC h]
theorem zG2{c:gy}(h:(o6 c).kind=22):nO c=yz ((o6 c).cos.getD 0 idC) ((o6 c).kids.getD 0 noC):=by unfold nO;rw[aC h]
theorem zIe{c:gy}(h:(o6 c).kind≠22):nO c=o6 c:=by unfold nO;rw[aB h]
theorem zIf(d:gp)(x:gy):qG (.mk 22 0 (bs []) [] [] [] [d] [x])=yz d (qG x):=by rw[qG,aC rfl];try rfl
theorem zC0{k n:Int}{t:fF}{is:List Int}{ns:List fF}{ts:List gU}{cs:List gp}{ks:List gy}(h:k≠22):qG (.mk k n t is ns ts cs ks)=.mk k n t is ns ts cs (wz ks):=by rw[qG,aB h]
theorem AA.no{c:gy}(h:c.kind≠21):AA c:=λe=>absurd e h
section
variable {M G:Nat} (hM:M<=1000000000)
include hM
mutual
theorem zzD:∀c:gy,jm M G c->qH o6 c=oV c/\xw AA o6 c
| .mk k n t is ns ts cs ks,h=>by
 rw[jm]at h;obtain⟨e1,e2⟩:=zyu ks h.2;rw[qH,xw,oV,e1];by_cases q:k=21
 ·subst q;obtain⟨h2,h3,h4,a,b,e,na,nb⟩:=h.1.1.inv;subst e;obtain⟨x,hx⟩:∃x,ks=[x]:=by
   match ks,h2 with
   |[x],_=>exact⟨x,rfl⟩
  subst hx;rw[aC rfl];refine⟨?_,?_,e2⟩
  ·rw[zzC rfl];try rfl
  ·intro _;exact⟨h3,by simp only[gy.n];omega,a,b,oV x,rfl,rfl,na,nb⟩
 ·rw[aB q];exact⟨zBp q,AA.no q,e2⟩
theorem zyu:∀l:List gy,jN M G l->CK o6 l=qg l/\CL AA o6 l
|[],_=>⟨rfl,trivial⟩
|c::l,h=>by
 rw[jN]at h;obtain⟨e1,e2⟩:=zzD c h.1;obtain⟨f1,f2⟩:=zyu l h.2;rw[CK,qg,CL,e1,f1];exact⟨rfl,e2,f2⟩
end
theorem zBq:∀(s:Nat) (c:gy) (m:Nat),kS c<=s->s<=10000000->jm M G c->mR m c->qH nO c=qG (oV c)/\xw xu nO c
|0,c,_,h,_,_,_=>by have:=Au c;omega
| s +1,.mk k n t is ns ts cs ks,m,hs,h7,h,hw=>by
 have hok:=h;rw[jm]at h;rw[kS]at hs;have hpc:=Jf _ hok;have hwp:=Jh _ _ hw;have kid:∀x,x∈ks->(qH nO x=qG (oV x)/\xw xu nO x)/\∃m',mR m' x:=λx hx=>by
  obtain⟨j,hj,rfl⟩:=bF hx;have hsj:=Bp hj;have hw':=hw;rw[mR]at hw';obtain⟨m',hm'⟩:∃m',mR m' ks[j]:=by
   by_cases q5:k=5
   ·subst q5;have hl:=hw'.2.2.2.2.1 rfl
    match ks,hl,hw',j,hj with
    |[x],_,hw,0,_=>exact⟨m+1,by have:=hw.2.2.2.2.2;rw[jr]at this;show mR (m+1) x;simpa using this.1⟩
   ·exact⟨_,GY q5 hj hw'.2.2.2.2.2⟩
  exact⟨zBq s ks[j] m' (by omega) (by omega) (Od.1 h.2 _ hx) hm',m',hm'⟩
 have e1:CK nO ks=wz (qg ks):=by
  rw[KT,Og,Jd,bn];exact bf λx hx=>(kid x hx).1.1
 have e2:CL xu nO ks:=QL.2 λx hx=>(kid x hx).1.2;rw[qH,xw,oV,e1];by_cases q:k=21
 ·subst q;obtain⟨h2,h3,h4,a,b,e,na,nb⟩:=h.1.1.inv;subst e;obtain⟨x,hx⟩:∃x,ks=[x]:=by
   match ks,h2 with
   |[x],_=>exact⟨x,rfl⟩
  subst hx;obtain⟨_,m',hm'⟩:=kid x (by simp);have ox:jm M G x:=Od.1 h.2 x (by simp);have gd:=Yl na nb h3;have tk:=Ji (kS (oV x)) (oV x) m' (aP _) (Jf x ox) (Jh x m' hm');rw[Jg]at tk;have hsx:kS x<=s:=by rw[ji,ji]at hs;omega
  have hc:o6 (.mk 21 n t is ns [a,b] cs [qG (oV x)])=wy (sZ 32 a b (2*n+2)) (qG (oV x)):=by
   rw[zzC rfl];try rfl
  rw[aC rfl];have ek:wz (qg [x])=[qG (oV x)]:=rfl;rw[ek];refine⟨?_,⟨?_,?_⟩,e2⟩
  ·rw[zG2 (by rw[hc];rfl),hc];exact(zIf _ (oV x)).symm
  ·intro _;exact⟨h3,by simp only[gy.n];omega,a,b,_,rfl,rfl,na,nb⟩
  ·rw[hc];intro _;refine⟨_,_,rfl,rfl,gd.le (by omega),λq=>?_⟩;have ht:=tk.tc;generalize qG (oV x)=y at*
   obtain⟨k0,n0,t0,is0,ns0,ts0,cs0,ks0⟩:=y;have q:k0=22:=q;subst q;rw[yJ]at ht;obtain⟨d,z,g1,g2,g3,g4⟩:=ht.2.1 rfl;exact⟨d,z,g1,g2,g4.le (by omega)⟩
 ·rw[aB q];have q22:k≠22:=λe=>by subst e;exact h.1.1.n22.elim
  have hc:o6 (.mk k n t is ns ts cs (wz (qg ks)))=.mk k n t is ns ts cs (wz (qg ks)):=zBp q;refine⟨?_,⟨AA.no q,λe=>?_⟩,e2⟩
  ·rw[zIe (by rw[hc];exact q22),hc,zC0 q22]
  ·rw[hc]at e;exact absurd e q22
end
theorem zG3{p:lZ}(hp:BB p)(trim:Bool):Gx trim p=lY trim p/\∀f,f∈p.funs->kS f.body<=1000000000/\xw (RN trim) (qN trim) f.body:=by
 have key:∀f,f∈p.funs->(qH (qN trim) f.body=vJ trim f.body/\xw (RN trim) (qN trim) f.body)/\kS f.body<=1000000000:=λf hf=>by
  have hg:=(hp.good.1 f hf).1;have hok:=hp.ok f hf;have hz:=hg.2;refine⟨?_,by omega⟩;cases trim with
  |false=>exact zzD hp.sites f.body hok
  |true=>exact zBq hp.sites (kS f.body) f.body 1 (aP _) (by omega) hok hg.1
 refine⟨?_,λf hf=>⟨(key f hf).2,(key f hf).1.2⟩⟩;unfold Gx lY;congr 1;exact bf λf hf=>by rw[(key f hf).1.1]
theorem KU{p:lZ}(hp:BB p)(trim:Bool):gY Pg 9 [.agg p.enc,.one (.bool trim)] (.agg (lY trim p).enc):=by
 obtain⟨h1,h2⟩:=zG3 hp trim;have h:=zHq p trim (by have:=hp.good.2;omega) h2;rw[h1]at h;exact h
end Go.Gr
namespace Go.Gr
open Go.Abs Go.Proofs
def sP:List (fF × fF):=[(bs [109,97,105,110],bs [102,110,32,109,97,105,110,40,120,41,32,61,32,49,59])]
def zHu:Bool:=(vE sP).2&&((match(lY false (vE sP).1).funs with
|[f]=>decide (f.body.kind=22)&&decide (f.body.cos.length=1)
|_=>false)&&(match(lY true (vE sP).1).funs with
|[g]=>decide (g.body.kind=0)
|_=>false))
set_option maxRecDepth 100000 in
theorem zDu:zHu=true:=by decide+kernel
theorem zGj:(vE sP).2=true/\∃f g:jh,(lY false (vE sP).1).funs=[f]/\(lY true (vE sP).1).funs=[g]/\f.body.kind=22/\f.body.cos.length=1/\g.body.kind=0:=by
 have h:=zDu;unfold zHu at h;rw[aF,aF]at h;obtain⟨h1,h2,h3⟩:=h;refine⟨h1,?_⟩;split at h2
 ·rename_i f e;split at h3
  ·rename_i g e';simp only[aF,aI]at h2 h3;exact⟨f,g,e,e',h2.1,h2.2,h3⟩
  ·cases h3
 ·cases h2
@[simp] theorem lZ.get0(p:lZ)(h:0<p.enc.length):p.enc[0]=.sl false 13 (p.funs.map jh.enc):=rfl
@[simp] theorem lZ.geq0(p:lZ):p.enc[0]?=some (.sl false 13 (p.funs.map jh.enc)):=rfl
@[simp] theorem lZ.get1(p:lZ)(h:1<p.enc.length):p.enc[1]=.int .i64 p.main:=rfl
@[simp] theorem lZ.get2(p:lZ)(h:2<p.enc.length):p.enc[2]=.sl false 3 (p.sites.map Site.enc):=rfl
theorem jh.enc13(f:jh):f.enc=[.str f.name,.int .i64 f.type.kind,.str f.type.name,.sl false 1 (encS f.type.names),.sl false 4 (f.type.kids.map gU.enc),.int .i64 f.body.kind,.int .i64 f.body.n,.str f.body.text,.sl false 1 (encI f.body.ints),.sl false 1 (encS f.body.names),.sl false 4 (f.body.types.map gU.enc),.sl false 5 (f.body.cos.map gp.enc),.sl false 8 (f.body.kids.map gy.enc)]:=by
 rw[jh.enc_eq,f.type.enc_eq,f.body.enc_eq];try rfl
@[simp] theorem jh.g5(f:jh)(h:5<f.enc.length):f.enc[5]=.int .i64 f.body.kind:=by simp only[f.enc13];rfl
@[simp] theorem jh.g0(f:jh)(h:0<f.enc.length):f.enc[0]=.str f.name:=rfl
@[simp] theorem jh.q0(f:jh):f.enc[0]?=some (.str f.name):=rfl
@[simp] theorem jh.g11(f:jh)(h:11<f.enc.length):f.enc[11]=.sl false 5 (f.body.cos.map gp.enc):=by simp only[f.enc13];rfl
theorem zDv:gY Pg 7 [] (.one (.bool true)):=by
 refine zCb (by simp) λo cx hN hp=>?_;obtain⟨h1,f,g,e1,e2,f1,f2,g1⟩:=zGj;have hpr:=XI sP;have hk:=Yh (l:=sP) h1;have hn1:=KU hk false;have hn2:=KU hk true;have ev:(sP.map lV)=[[.str (bs [109,97,105,110]),.str (bs [102,110,32,109,97,105,110,40,120,41,32,61,32,49,59])]]:=rfl;rw[ev]at hpr;generalize vE sP=r at*
 obtain⟨p,ok⟩:=r;simp only at h1 hk hn1 hn2 e1 e2;subst h1;generalize lY false p=P1 at*
 generalize lY true p=P2 at*
 unfold Yo;simp;refine gT (gY.erd hpr (by simp[DV.erds,DV.erd,D.erd,D.erdE,D.erdL])) ?_;simp;refine gT hn1 ?_;simp;refine gT hn2 ?_;simp[e1,e2,f1,f2,g1]
end Go.Gr
namespace Go.Gr
open Go.Abs Go.Proofs List
def zDa:MC:=(λx(_:x=gC tt [(6,0),(7,1)] [] [(0,Yv),(2,Yw)] (gB Tryz.f14))=>x) _ (by dsimp[Tryz.f14])
theorem zJb:WT Pg 14 37 zDa [.tmp 2]:=wT gz Tryz.func14 (by kernel_rfl)
def nP(d:gp):List Int:=P.iB (P.jS d)
mutual
def jO:gy->List Int
|.mk _ _ _ _ _ _ cs ks=>cs.flatMap nP++oI ks
def oI:List gy->List Int
|[]=>[]
|c::l=>jO c++oI l
end
mutual
def uK:gy->Prop
|.mk _ _ _ _ _ _ cs ks=>(∀d,d∈cs->ow 32 d)/\sQ ks
def sQ:List gy->Prop
|[]=>True
|c::l=>uK c/\sQ l
end
theorem QP:∀{l:List gy},sQ l↔∀x,x∈l->uK x
|[]=>by simp[sQ]
|c::l=>by simp[sQ,QP (l:=l)]
theorem zDb(c:gy):jO c=c.cos.flatMap nP++oI c.kids:=by cases c;rw[jO];try rfl
theorem zzR:∀a b:List gy,oI (a++b)=oI a++oI b
|[],b=>by simp[oI]
|x::a,b=>by simp[oI,zzR a b]
theorem zyK{l:List gy}{j:Nat}(h:j<l.length):oI (l.take (j+1))=oI (l.take j)++jO l[j]:=by
 rw[aJ h,zzR];simp[oI]
theorem KV:∀l:List gy,oI l=l.flatMap jO
|[]=>rfl
|c::l=>by rw[oI,KV l];try rfl
theorem QQ{α:Type}(f:α->List Int)(l:List α)(j:Nat):((l.take j).flatMap f).length<=(l.flatMap f).length:=by
 have:l.flatMap f=(l.take j).flatMap f++(l.drop j).flatMap f:=by rw[<-flatMap_append,cB]
 rw[this,aT];omega
theorem zFH{α:Type}(f:α->List Int){l:List α}{x:α}(h:x∈l):(f x).length<=(l.flatMap f).length:=by
 obtain⟨a,b,rfl⟩:=append_of_mem h;simp;omega
def BL(c:gy):Prop:=uK c->(jO c).length<=536870912->kS c<=1000000000->gY Pg 14 [.agg c.enc] (.one (.sl false 1 (encI (jO c))))
abbrev Gy(l:List Int):Blk:=.arr 1 ((encI l).map (·.map .d))
theorem zFI(a b:List Int):(((encI a).map λx=>List.map AC.d x).take a.length++((encI b).map λx=>List.map AC.d x))=(encI (a++b)).map λx=>List.map AC.d x:=by
 rw[aD (by simp)];simp[encI]
theorem zEe(c:gy)(ih:∀x,x∈c.kids->BL x):BL c:=λhi hb hs=>by
 have hi':(∀d,d∈c.cos->ow 32 d)/\∀x,x∈c.kids->uK x:=by
  obtain⟨k,n,t,is,ns,ts,cs,ks⟩:=c;rw[uK]at hi;exact⟨hi.1,QP.1 hi.2⟩
 rw[zDb,aT]at hb;have hsz:=Au c;have hkl:=OO c.kids;refine zJb (by simp) λo cx hN hp=>?_;have hcl:c.cos.length<=zah:=by
  have:=o.1;rw[gy.enc_eq]at this;simp only[DV.ok,D.okL,D.ok,Ld,Cc,aV]at this;exact this.2.2.2.2.2.2.1.1
 unfold zah at hcl;unfold zDa;simp;refine fV [.t 3] ?_;simp;refine fP gz hp (λY:Nat × List Int=>Y.1<=c.cos.length/\Y.2=(c.cos.take Y.1).flatMap nP) (λY=>[(4,.c (.d (.int .i64 Y.1))),(1,.c (.d (.rp c.enc 0))),(3,.c (.msl 1 0 0 Y.2.length))]) (λY=>[Gy Y.2]) (λY=>c.cos.length-Y.1) (0,[]) [0] (by simp) (by simp) λ⟨j,K⟩ ⟨h1,hK⟩=>?_;simp only at h1 hK;unfold Yv;have hkl:K.length<=(c.cos.flatMap nP).length:=by rw[hK];exact QQ nP c.cos j
 simp;apply gN<;>intro h
 ·have hj:j<c.cos.length:=by simpa using h
  have hw:=wI (n:=(j:Int)+1);have h2:=zFH nP (aO hj);have h3:=QQ nP c.cos (j+1);have e:(c.cos.take (j+1)).flatMap nP=K++nP c.cos[j]:=by rw[aJ hj,flatMap_append,hK];simp
  rw[e,aT]at h3;have hx:gY Pg 27 [.agg c.cos[j].enc] (.one (.sl false 1 (encI (nP c.cos[j])))):=P.Px 32 (hi'.1 _ (aO hj)) (by show(nP c.cos[j]).length<=_;omega);simp[hj];refine gT hx ?_;generalize nP c.cos[j]=d at*
  simp;refine⟨by omega,?_⟩;refine fG (j+1,K++d) [1] ⟨by simp only;omega,e.symm⟩ (by simp only;omega) ?_;simp[hw,zFI]
 ·have hj:j=c.cos.length:=by simp at h;omega
  subst hj;rw[bO]at hK;rw[zDb,<-hK];rw[<-hK]at hb;clear h1 h hkl;refine fP gz hp (λY:Nat × List Int=>Y.1<=c.kids.length/\Y.2=K++oI (c.kids.take Y.1)) (λY=>[(5,.c (.d (.int .i64 Y.1))),(1,.c (.d (.rp c.enc 0))),(3,.c (.msl 1 0 0 Y.2.length))]) (λY=>[Gy Y.2]) (λY=>c.kids.length-Y.1) (0,K) [0] (by simp[oI]) (by simp) λ⟨j,K'⟩ ⟨h1,hK'⟩=>?_;simp only at h1 hK';unfold Yw;simp;apply gN<;>intro h
  ·have hj:j<c.kids.length:=by simpa using h
   have hw:=wI (n:=(j:Int)+1);have h2:=zFH jO (aO hj);have h3:=QQ jO c.kids (j+1);rw[<-KV,<-KV,zyK hj,aT]at h3;rw[<-KV]at h2;have hsj:=Bp hj;have hl:K'.length=K.length+(oI (c.kids.take j)).length:=by rw[hK'];simp
   have e:K'++jO c.kids[j]=K++oI (c.kids.take (j+1)):=by rw[zyK hj,hK',bI]
   have hx:=ih _ (aO hj) (hi'.2 _ (aO hj)) (by omega) (by omega);simp[hj];refine gT hx ?_;generalize jO c.kids[j]=d at*
   simp;refine⟨by omega,?_⟩;refine fG (j+1,K'++d) [1] ⟨by simp only;omega,e⟩ (by simp only;omega) ?_;simp[hw,zFI]
  ·have hj:j=c.kids.length:=by simp at h;omega
   subst hj;rw[bO]at hK';rw[<-hK'];refine fU [0] ?_;simp;exact aD (by simp)
mutual
theorem QR:∀c:gy,BL c
|.mk k n t is ns ts cs ks=>zEe _ (zyL ks)
theorem zyL:∀l:List gy,∀x,x∈l->BL x
|[],x,hx=>by cases hx
|c::l,x,hx=>by
 rcases aN.1 hx with e|e
 ·rw[e];exact QR c
 ·exact zyL l x e
end
theorem Gz{d:gp}{v:Int}:v∈nP d↔v∈P.jS d/\v≠0:=P.zD
theorem zG6{a b:gU}{l:Int}(ha:iE a=true)(hb:iE b=true){v:Int}(h:v∈nP (sZ 32 a b l)):v=l\/v=P.oQ l:=by
 rw[Gz]at h;obtain⟨h1,h0⟩:=h;rw[<-Gw 32 a b l (zm ha) (zm hb)]at h1;exact(P.KL 32 a b l h1).resolve_left h0
theorem zC6{d:gp}(l:List Int)(h:∀v,v∈nP d->v∈l):(nP d).length<=l.length:=by
 have h1:=P.KE (a:=P.jS d) (b:=l) λx h0 hx=>h x (Gz.2 ⟨hx,h0⟩);have h2:=P.zKv l;unfold nP;omega
theorem zG7{a b:gp}(ha:iY a=true)(hb:iY b=true):(∀v,v∈nP (lc 32 a b)->v∈nP a\/v∈nP b)/\(nP (lc 32 a b)).length<=(nP a).length+(nP b).length:=by
 have h:∀v,v∈nP (lc 32 a b)->v∈nP a\/v∈nP b:=λv hv=>by
  rw[Gz]at hv;rcases P.KI 32 ha hb hv.2 hv.1 with q|q
  ·exact .inl (Gz.2 ⟨q,hv.2⟩)
  ·exact .inr (Gz.2 ⟨q,hv.2⟩)
 refine⟨h,?_⟩;have:=zC6 (nP a++nP b) λv hv=>aK.2 (h v hv);rw[aT]at this;exact this
def Ea(M:Nat)(v:Int):Prop:=2<=v/\(v-2)/2<M
section
variable {M G:Nat}
mutual
theorem zzL:∀c:gy,jm M G c->uK (oV c)/\(jO (oV c)).length<=2*kS c/\∀v,v∈jO (oV c)->Ea M v
| .mk k n t is ns ts cs ks,h=>by
 rw[jm]at h;obtain⟨h1,h2,h3⟩:=zyx ks h.2;rw[oV,kS];split
 ·rename_i q;subst q;obtain⟨g2,g3,g4,a,b,e,na,nb⟩:=h.1.1.inv;subst e;have hm:∀v,v∈nP (sZ 32 a b (2*n+2))->v=2*n+2\/v=2*n+3:=λv hv=>by
   rcases zG6 na nb hv with q|q
   ·exact .inl q
   ·right;rw[q];unfold P.oQ;split<;>omega
  have hl:=zC6 [2*n+2,2*n+3] λv hv=>by
   rcases hm v hv with q|q<;>simp[q]
  rw[uK,jO];simp only[flatMap_cons,flatMap_nil,bM,aT];refine⟨⟨λd hd=>?_,h1⟩,?_,λv hv=>?_⟩
  ·rw[aL.1 hd];exact Oe _ _ _ _
  ·simp only[fD,getD_cons_succ];simp only[length_cons,length_nil]at hl;omega
  ·rcases aK.1 hv with hv|hv
   ·rcases hm v hv with q|q
    ·unfold Ea;omega
    ·unfold Ea;omega
   ·exact h3 v hv
 ·have e:=h.1.2;subst e;rw[uK,jO];simp only[flatMap_nil,nil_append];exact⟨⟨λd hd=>by(cases hd),h1⟩,by omega,h3⟩
theorem zyx:∀l:List gy,jN M G l->sQ (qg l)/\(oI (qg l)).length<=2*ji l/\∀v,v∈oI (qg l)->Ea M v
|[],_=>⟨trivial,dH _,λv hv=>by(cases hv)⟩
|c::l,h=>by
 rw[jN]at h;obtain⟨a1,a2,a3⟩:=zzL c h.1;obtain⟨b1,b2,b3⟩:=zyx l h.2;rw[qg,sQ,oI,ji,aT];refine⟨⟨a1,b1⟩,by omega,λv hv=>?_⟩;rcases aK.1 hv with hv|hv
 ·exact a3 v hv
 ·exact b3 v hv
end
end
structure zF (c:gy) (l:List Int):Prop where
 ic:uK c
 len:(jO c).length<=l.length
 mem:∀v,v∈jO c->v∈l
theorem zC7(d:gp)(k:gy):jO (wy d k)=nP d++jO k:=by
 unfold wy;rw[jO,oI,oI];simp
theorem zFu{B m s:Nat}{d:gp}{k:gy}(gd:wF 16 d)(h:TK B m s k)(hi:uK k):zF (yz d k) (nP d++jO k):=by
 have key:∀(d':gp) (k':gy) (l:List Int),ow 32 d'->uK k'->(nP d'++jO k').length<=l.length->(∀v,v∈nP d'++jO k'->v∈l)->zF (if idleC d' k'=true then k' else wy d' k') l:=λd' k' l g i e f=>by
  split
  ·rw[aT]at e;exact⟨i,by omega,λv hv=>f v (aK.2 (.inr hv))⟩
  ·refine⟨?_,by rw[zC7];exact e,by rw[zC7];exact f⟩;unfold wy;rw[uK];exact⟨λx hx=>by rw[aL.1 hx];exact g,i,trivial⟩
 unfold yz;simp only;by_cases q:k.kind=22
 ·rw[aC q,aC q];obtain⟨k0,n,t,is,ns,ts,cs,ks⟩:=k;have q:k0=22:=q;subst q;have ht:=h.tc;rw[yJ]at ht;obtain⟨e,x,h1,h2,h3,h4⟩:=ht.2.1 rfl;subst h1;subst h2;rw[uK,sQ]at hi;have hc:=zG7 h4.1 gd.1;have el:jO (.mk 22 n t is ns ts [e] [x])=nP e++jO x:=by rw[jO,oI,oI];simp
  rw[el];refine key (lc 32 e d) x _ (h4.comp (B:=200000000+B+16) (by omega) (gd.le (by omega))).2.2 hi.2.1 ?_ λv hv=>?_
  ·have:=hc.2;simp only[aT];omega
  ·simp only[aK]at hv⊢;rcases hv with hv|hv
   ·rcases hc.1 v hv with z|z
    ·exact .inr (.inl z)
    ·exact .inl z
   ·exact .inr (.inr hv)
 ·rw[aB q,aB q];exact key _ _ _ gd.2.2 hi (aP _) λv hv=>hv
theorem zBx:∀(s:Nat) (c:gy) (m:Nat),kS c<=s->zw c->mR m c->uK c->zF (qG c) (jO c)
|0,c,m,h,_,_,_=>by have:=Au c;omega
| s +1,.mk k n t is ns ts cs ks,m,h,hp,hw,hi=>by
 rw[zw]at hp;rw[kS]at h;rw[uK]at hi;have kid:∀x,x∈ks->zF (qG x) (jO x)/\∃m',zw x/\mR m' x:=λx hx=>by
  obtain⟨j,hj,rfl⟩:=bF hx;have hsj:=Bp hj;have hw':=hw;rw[mR]at hw';have h1:=Oh.1 hp.2.2 _ hx;obtain⟨m',hm'⟩:∃m',mR m' ks[j]:=by
   by_cases q5:k=5
   ·subst q5;have hl:=hw'.2.2.2.2.1 rfl
    match ks,hl,hw',j,hj with
    |[x],_,hw,0,_=>exact⟨m+1,by have:=hw.2.2.2.2.2;rw[jr]at this;show mR (m+1) x;simpa using this.1⟩
   ·exact⟨_,GY q5 hj hw'.2.2.2.2.2⟩
  exact⟨zBx s ks[j] m' (by omega) h1 hm' (QP.1 hi.2 _ hx),m',h1,hm'⟩
 by_cases q:k=22
 ·subst q;obtain⟨⟨d,e1,gd⟩,h1⟩:=hp.2.1 rfl;subst e1
  match ks,h1,kid with
  | [x],_,kid=>
   obtain⟨h2,m',px,wx⟩:=kid x (by simp);have tk:=Ji (kS x) x m' (aP _) px wx;have e:qG (.mk 22 n t is ns ts [d] [x])=yz d (qG x):=by rw[qG,aC rfl];try rfl
   have el:jO (.mk 22 n t is ns ts [d] [x])=nP d++jO x:=by rw[jO,oI,oI];simp
   rw[e,el];have f:=zFu gd tk h2.ic;refine⟨f.ic,?_,λv hv=>?_⟩
   ·have a1:=f.len;have a2:=h2.len;simp only[aT]at a1⊢;omega
   ·have:=f.mem v hv;simp only[aK]at this⊢;exact this.imp id (h2.mem v)
 ·have all:∀l:List gy,(∀x,x∈l->zF (qG x) (jO x))->sQ (wz l)/\(oI (wz l)).length<=(oI l).length/\∀v,v∈oI (wz l)->v∈oI l:=λl=>by
   induction l with
   |nil=>intro _;exact⟨trivial,aP _,λv hv=>hv⟩
   |cons x l ih=>
    intro hh;have a:=hh x (by simp);obtain⟨b1,b2,b3⟩:=ih λy hy=>hh y (by simp[hy]);have a2:=a.len;rw[wz,sQ,oI,oI,aT,aT];refine⟨⟨a.ic,b1⟩,by omega,λv hv=>?_⟩;simp only[aK]at hv⊢;exact hv.imp (a.mem v) (b3 v)
  obtain⟨b1,b2,b3⟩:=all ks λx hx=>(kid x hx).1;rw[zC0 q];refine⟨by rw[uK];exact⟨hi.1,b1⟩,?_,λv hv=>?_⟩
  ·rw[jO,jO,aT,aT];omega
  ·rw[jO]at hv⊢;simp only[aK]at hv⊢;exact hv.imp id (b3 v)
theorem zFv{p:lZ}(hp:BB p){f:jh}(hf:f∈p.funs):(kS (vJ false f.body)<=1000000000/\kS (vJ true f.body)<=1000000000)/\(uK (vJ false f.body)/\uK (vJ true f.body))/\((jO (vJ false f.body)).length<=536870912/\(jO (vJ true f.body)).length<=536870912)/\(∀v,v∈jO (vJ true f.body)->v∈jO (vJ false f.body))/\∀v,v∈jO (vJ false f.body)->Ea p.sites.length v:=by
 have hgg:=(hp.good.1 f hf).1;have hok:=hp.ok f hf;have hz:=hgg.2;have pc:=Jf _ hok;have wf:=Jh _ _ hgg.1;have tk:=Ji (kS (oV f.body)) (oV f.body) 1 (aP _) pc wf;obtain⟨p1,p2,p3⟩:=zzL _ hok;have ft:=zBx (kS (oV f.body)) (oV f.body) 1 (aP _) pc wf p1;have hs:=tk.sz;have hl:=ft.len;rw[Jg]at hs;unfold vJ;simp only[if_true,af,if_false];exact⟨⟨by rw[Jg];omega,by omega⟩,⟨p1,ft.ic⟩,⟨by omega,by omega⟩,ft.mem,p3⟩
theorem NormLabels_ok(l:List (fF × fF)):gY Pg 6 [.one (.sl false 2 (l.map lV))] (.one (.bool true)):=by
 refine zxj (by simp) λo cx hN hp=>?_;have hpr:=XI l;have hk:=Yh (l:=l);generalize vE l=r at*
 obtain⟨p,ok⟩:=r;simp only at hk;unfold Yu;simp;refine gT zDv ?_;simp;refine gT hpr ?_;simp;by_cases hok:ok=true;rotate_left
 ·simp[hok]
 have hk:=hk hok;have hn:=KU hk false;have hn2:=KU hk true;have hlen:p.funs.length<=1000000:=by have:=hk.good.2;omega
 have hst:=hk.sites;have hat:=λj (hj:j<p.funs.length)=>zFv hk (aO hj);have e1:(lY false p).funs=p.funs.map λf=>(⟨f.name,f.type,vJ false f.body⟩:jh):=rfl;have e2:(lY true p).funs=p.funs.map λf=>(⟨f.name,f.type,vJ true f.body⟩:jh):=rfl;generalize lY false p=q1 at*
 generalize lY true p=q2 at*
 simp[hok];refine gT hn ?_;simp;refine gT hn2 ?_;simp[e1,e2];refine fP gz hp (λj:Nat=>j<=p.funs.length) (λj=>[(8,.c (.d (.int .i64 j))),(7,.c (.ptr 2 0)),(6,.c (.ptr 1 0)),(4,.c (.ptr 0 0))]) (λ_=>[.box (p.enc.map .d),.box (q1.enc.map .d),.box (q2.enc.map .d)]) (λj=>p.funs.length-j) 0 [0,1,2] (by simp) (by simp) λj hj=>?_;unfold Yt;simp[e1,e2];apply gN<;>intro h
 ·have hj:j<p.funs.length:=by simpa using h
  have hw:=wI (n:=(j:Int)+1);obtain⟨⟨s1,s2⟩,⟨u1,u2⟩,⟨c1,c2⟩,f1,n1⟩:=hat j hj;have k1:=QR _ u1 c1 s1;have k2:=QR _ u2 c2 s2;simp[hj,e1,e2];refine gT k1 ?_;simp[hj,e1,e2];refine gT k2 ?_;simp[hj,e1,e2];generalize jO (vJ false p.funs[j].body)=X at*
  generalize jO (vJ true p.funs[j].body)=Y at*
  refine fP gz hp (λk:Nat=>k<=Y.length) (λk=>[(11,.c (.d (.int .i64 k))),(10,.c (.d (.sl false 1 (encI Y)))),(9,.c (.d (.sl false 1 (encI X)))),(8,.c (.d (.int .i64 j))),(7,.c (.ptr 2 0)),(6,.c (.ptr 1 0)),(4,.c (.ptr 0 0))]) (λ_=>[.box (p.enc.map .d),.box (q1.enc.map .d),.box (q2.enc.map .d)]) (λk=>Y.length-k) 0 [0,1,2] (by simp) (by simp) λk hkk=>?_;unfold Yq;simp;apply gN<;>intro h
  ·have hkk:k<Y.length:=by simpa using h
   have hw2:=wI (n:=(k:Int)+1);refine fP (Y:=Nat × Bool) gz hp (λZ=>Z.1<=X.length/\(Z.2=false->Y[k]∉X.take Z.1)) (λZ=>[(13,.c (.d (.int .i64 Z.1))),(12,.c (.d (.bool Z.2))),(11,.c (.d (.int .i64 k))),(10,.c (.d (.sl false 1 (encI Y)))),(9,.c (.d (.sl false 1 (encI X)))),(8,.c (.d (.int .i64 j))),(7,.c (.ptr 2 0)),(6,.c (.ptr 1 0)),(4,.c (.ptr 0 0))]) (λ_=>[.box (p.enc.map .d),.box (q1.enc.map .d),.box (q2.enc.map .d)]) (λZ=>X.length-Z.1) (0,false) [0,1,2] (by simp) (by simp) λ⟨n,b⟩ ⟨h1,h2⟩=>?_;simp only at h1 h2;unfold Yp;simp;apply gN<;>intro h
   ·have hnn:n<X.length:=by simpa using h
    have hw3:=wI (n:=(n:Int)+1);cases b with
    |true=>
     simp;refine fG (k+1) [0,1,2] (by omega) (by omega) ?_;simp[hw2]
    | false=>
     simp[aA hnn,aA hkk];refine⟨by decide,?_⟩;refine fG (n+1,decide (X[n]=Y[k])) [0,1,2] ⟨by simp only;omega,λq=>?_⟩ (by simp only;omega) ?_
     ·simp only[bV]at q;rw[aJ hnn,aK,aL]
      rintro(z|z)
      ·exact h2 rfl z
      ·exact q z.symm
     ·simp[hw3]
   ·have hnn:n=X.length:=by simp at h;omega
    subst hnn;cases b with
    |true=>
     simp;refine fG (k+1) [0,1,2] (by omega) (by omega) ?_;simp[hw2]
    |false=>
     have:=h2 rfl;rw[bO]at this;exact absurd (f1 _ (aO hkk)) this
  ·refine fP gz hp (λk:Nat=>k<=X.length) (λk=>[(14,.c (.d (.int .i64 k))),(9,.c (.d (.sl false 1 (encI X)))),(8,.c (.d (.int .i64 j))),(7,.c (.ptr 2 0)),(6,.c (.ptr 1 0)),(4,.c (.ptr 0 0))]) (λ_=>[.box (p.enc.map .d),.box (q1.enc.map .d),.box (q2.enc.map .d)]) (λk=>X.length-k) 0 [0,1,2] (by simp) (by simp) λk hkk=>?_;unfold Yr;simp;apply gN<;>intro h
   ·have hkk:k<X.length:=by simpa using h
    have hw2:=wI (n:=(k:Int)+1);have hr:=n1 _ (aO hkk);unfold Ea at hr;have w1:=wI (n:=X[k]-2);have w2:=wI (n:=(X[k]-2)/2);have ed:(X[k]-2).tdiv 2=(X[k]-2)/2:=Int.tdiv_eq_ediv_of_nonneg (by omega);have g1:¬X[k]<2:=by omega
    have g2:¬(p.sites.length:Int)<=(X[k]-2)/2:=by omega
    simp[hkk,w1,w2,ed,g1,g2];refine⟨by decide,?_⟩;refine fG (k+1) [0,1,2] (by omega) (by omega) ?_;simp[hw2]
   ·refine fG (j+1) [0,1,2] (by omega) (by omega) ?_;simp[hw]
 ·simp
end Go.Gr
namespace Go.Gr
open Go.Abs Go.Proofs
theorem zI9{n:Nat}{ds:List D}(h:pO Tryz.prog n 50 ds):∃x:fF × fF,ds=lV x:=by
 obtain⟨m,_,h⟩:=zBw Tryz.underlying50 h;obtain⟨a,b,rfl,ha,h⟩:=R3 h;obtain⟨c,d,rfl,hc,h⟩:=R3 h;obtain rfl:=zFs h;obtain⟨s,rfl⟩:=RZ Tryz.underlying9 ha;obtain⟨i,rfl⟩:=RZ Tryz.underlying9 hc;exact⟨(s,i),rfl⟩
theorem zIl{n:Nat}{ds:List D}(h:pO Tryz.prog n 22 ds):∃l:List (fF × fF),ds=[.sl false 2 (l.map lV)]:=
 zCn (enc:=lV) Tryz.underlying22 (by kernel_rfl) (λm _ x hx=>zI9 hx) h
def types:List TypeId:=[4,9,22,50]
theorem own:ownKnob Tryz.prog.godebug=none:=by kernel_rfl
theorem laidOut:laidOutB Tryz.prog=true:=by kernel_rfl
theorem typesOk:(types.all λt=>nJ Tryz.prog types t&&Tryz.prog.readableRec t&&decide (t<Tryz.prog.types.size))=true:=by kernel_rfl
theorem zJO:Abs.isAgg Tryz.prog 22=false:=by kernel_rfl
theorem args22{dvs:List DV}(h:Et Tryz.prog [22] dvs):∃l:List (fF × fF),dvs=[.one (.sl false 2 (l.map lV))]:=by
 match dvs,h with
 |a::r,h=>
  simp only[Et,zJO,vR]at h;obtain⟨⟨n,x,h1,rfl⟩,rfl⟩:=h;obtain⟨l,rfl⟩:=zIl h1;exact⟨l,rfl⟩
end Go.Gr
namespace Go.Proofs.YtlfjlokfciejnaaGreatDoor
open Go.Abs Go.Gr
noncomputable def laid2 {H : Type} : List (String × DataW H) := [("unicode.White_Space", Rows.laid_unicode_White_Space), ("strings.asciiSpace", Rows.laid_strings_asciiSpace)]
noncomputable def doorW (os:Os):World:=World.doorLaid Tryz.prog 40 os
theorem door_met(os:Os)(args:Array Value):laidMetH Tryz.prog laid2 ((doorW os).forCall (λ_ _=>0) ⟨#[],args,[]⟩).memory:=
 laidMetH_of_parts3 (fuel:=8) (laidMet_of_run' 8 (by kernel_rfl) (by kernel_rfl)) (by kernel_rfl) (by kernel_rfl)
def emptySl:Value:=.slice none 0 0
theorem zIF:∀c,c<256->KW c=if Lib.isSp (UInt8.ofNat c)then 1 else 0:=by decide+kernel
set_option maxRecDepth 100000 in
theorem gnd_of(w:World)(h:laidMetH Tryz.prog laid2 w):yN Tryz.prog λB=>w.heap[B]?:=by
 have h1:laidMet Tryz.prog laid2 w:=by
  have e:((laid2 (H:=Unit)).filter λx=>x.2.handleName?.isSome)=[]:=by kernel_rfl
  unfold laidMetH at h;rw[e]at h;exact h
 have h2 : laidMet Tryz.prog (("strings.asciiSpace", Lib.tabData .u8 Lib.asciiSpaceTab) :: []) w := laidMet.tail h1;have h3:=Lib.tabIs_of_head (g:=1) (t:=274) (e:=5) (n:=256) (by kernel_rfl) (by kernel_rfl) (by kernel_rfl) (by kernel_rfl) (by kernel_rfl) (by kernel_rfl) h2;intro g hg;have hv:=h3;unfold Lib.TabIs World.var? at hv;rw[hg]at hv;simp only[Option.bind_some]at hv;cases ho:w.heap[g]? with
 |none=>rw[ho]at hv;cases hv
 | some o=>
  refine⟨o,ho,λw' hw' c hc=>?_⟩;have h4 : Lib.TabIs Tryz.prog w' "strings.asciiSpace" .u8 Lib.asciiSpaceTab := by
   unfold Lib.TabIs World.var?;rw[hg];simp only[Option.bind_some];rw[ho]at hv;rw[hw'];exact hv
  rw[h4.cell hg c (by rw[Lib.asciiSpaceTab_length];exact hc),Lib.asciiSpaceTab_at c hc,zIF c hc]
end Go.Proofs.YtlfjlokfciejnaaGreatDoor
