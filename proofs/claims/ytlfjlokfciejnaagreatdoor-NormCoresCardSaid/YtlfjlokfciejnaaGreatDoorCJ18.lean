/- Texts of ours, joined and written short by a program of ours. -/
import Derived.Test.YtlfjlokfciejnaaGreatDoorCJ17
import Derived.Test.YtlfjlokfciejnaaGreatDoorCJ15
set_option maxRecDepth 20000
set_option maxHeartbeats 4000000
set_option linter.unusedVariables false
set_option linter.unusedSimpArgs false
namespace Go.Gr
open Go.Abs Go.Proofs List
theorem zmB{a b:gq}{n:Int}(ha:iH a=true)(hb:iH b=true)(h0:0<=n)(h1:n<=1000000000):gu Pg 40 [.agg a.enc,.agg b.enc,.one (.int .i64 (2*n+2))] (.agg (qd 32 a b (2*n+2)).enc):=by
 refine zla (by simp) λo c hN hp=>?_;have hm:=Gw 32 a b (2*n+2) (zo ha) (zo hb) (by have:=Db ha;have:=Db hb;omega) (by omega) (by omega);have na:=yt a;have nb:=yt b;rw[ha]at na;rw[hb]at nb;have hx:=Jz (lb:=2*n+2) (by omega) (by omega);have hf:mV (2*n+2)≠0:=by unfold mV;rw[aC (by omega)];omega
 have h2:¬2*n+2=0:=by omega
 generalize qd 32 a b (2*n+2)=R at*
 generalize 2*n+2=lb at*
 unfold Yc;simp;refine gp na ?_;simp;refine gp nb ?_;simp[h2,hx,hf];refine gp hm ?_;simp
abbrev De:Blk:=.box [.d (.int .i64 0),.d (.int .i64 0),.d (.str (bs [])),.d (.sl true 1 []),.d (.sl true 1 []),.d (.sl true 4 []),.d (.sl true 5 []),.d (.sl true 8 [])]
def BG(M G:Nat)(c:iB):Prop:=jl M G c->kX c<=1000000000->gu Pg 22 [.agg c.enc] (.agg (oF c).enc)
theorem zlt{M G:Nat}(hM:M<=1000000000)(c:iB)(ih:∀x,x∈c.kids->BG M G x):BG M G c:=λho hs=>by
 refine zkg (by simp) λo cx hN hp=>?_;have hsz:=Au c;have hkl:=J7 c.kids;rw[zlE];unfold Yj;simp;refine fo [.t 3] ?_;simp;refine fU iC hp (λY:Nat × List iB=>Y.1<=c.kids.length/\Y.2=(c.kids.take Y.1).map oF) (λY=>[(4,.c (.d (.int .i64 Y.1))),(3,.c (.msl 8 2 0 Y.2.length)),(2,.c (.ptr 1 0)),(1,.c (.ptr 0 0))]) (λY=>[.box (c.enc.map .d),De,.arr 8 ((Y.2.map iB.enc).map (·.map .d))]) (λY=>c.kids.length-Y.1) (0,[]) [0,1,2] (by simp) (by simp) λ⟨j,K⟩ ⟨hj,hK⟩=>?_;unfold Yi;simp only at hj hK;simp;have hl:K.length=j:=by rw[hK];simp;omega
 apply gT<;>intro h
 ·have hj:j<c.kids.length:=by simpa using h
  have hw:=wI (n:=(j:Int)+1);have hx:=ih _ (aP hj);have hsj:=Bz hj;have hok:jl M G c.kids[j]:=by
   obtain⟨k,n,t,is,ns,ts,cs,ks⟩:=c;rw[jl]at ho;exact KI.1 ho.2 _ (aP hj)
  have htK:take K.length (List.map ((λx=>List.map AC.d x)∘iB.enc) K)=List.map ((λx=>List.map AC.d x)∘iB.enc) K:=aD (by simp);have hn:K++[oF c.kids[j]]=(c.kids.take (j+1)).map oF:=by rw[aJ hj,hK,dW];try rfl
  simp[hj];refine gp (hx hok (by omega)) ?_;simp;refine⟨by omega,?_⟩;refine fJ (j+1,K++[oF c.kids[j]]) [0,1,3] ⟨by simp only;omega,hn⟩ (by simp only;omega) ?_;simp[hw,htK]
 ·have hj:j=c.kids.length:=by simp at h;omega
  subst hj;rw[bG]at hK;rw[<-hK];have hT:take K.length (List.map iB.enc K)=List.map iB.enc K:=aD (by simp);refine fe [2] ?_;simp only[BZ,EH,Ci,AQ,aC,aB,reduceIte,Nat.reduceEqDiff,AL,qH,Blk.fz_arr,BX,wQ];refine St.cut7 (F:=w_ Pg cx _ _ _) [(1,.c (.ptr 0 0)),(2,.c (.ptr 1 0)),(3,.c (.d (.sl false 8 (K.map iB.enc))))] [.box (sG c (.d (.sl false 8 (c.kids.map iB.enc)))),De,.dead] ?_ ?_ λT hT=>?_
  ·simp[iT,hT]
  ·intro i;rw[c.enc_eq];rcases(show i=0\/i=1\/i=2\/3<=i from by omega)with rfl|rfl|rfl|q
   ·simp[iT]
   ·simp[iT]
   ·simp[iT]
   ·simp[iT,rW (show [Blk.box (sG c (.d (.sl false 8 (c.kids.map iB.enc)))),De,.dead].length<=i from q),show i≠2 from by omega];rw[rW (by exact q)];try rfl
  simp only[di,cO,false_implies,implies_true,and_true]at hT;obtain⟨k1,k2,k3⟩:=hT;by_cases k:c.kind=21
  ·obtain⟨h1,h2,h3,a,b,e,na,nb⟩:c.kids.length=1/\0<=c.n/\c.n<M/\∃a b,c.types=[a,b]/\iH a=true/\iH b=true:=by
    obtain⟨k',n,t,is,ns,ts,cs,ks⟩:=c;rw[jl]at ho;have k:k'=21:=k;subst k;exact ho.1.1.inv
   have hm:=zmB na nb h2 (by omega);rw[aC k,e];have w1:=wI (n:=2*c.n);have w2:=wI (n:=2*c.n+2);simp[k1,k2,k3,k,e,w1,w2];refine gp hm ?_;simp[k1,k2,k3];exact⟨by decide,by rw[iB.enc_eq];rfl⟩
  ·rw[aB k];simp[k1,k2,k3,k];rw[iB.enc_eq];try rfl
mutual
theorem ziS{M G:Nat}(hM:M<=1000000000):∀c:iB,BG M G c
|.mk k n t is ns ts cs ks=>zlt hM _ (zhY hM ks)
theorem zhY{M G:Nat}(hM:M<=1000000000):∀l:List iB,∀x,x∈l->BG M G x
|[],x,hx=>by cases hx
|c::l,x,hx=>by
 rcases aN.1 hx with e|e
 ·rw[e];exact ziS hM c
 ·exact zhY hM l x e
end
theorem zn1(c:iB):gu Pg 42 [.agg c.enc] (.one (.int .i64 (lq c))):=by
 refine zml (by simp) λo cx hN hp=>?_;obtain⟨R,hR⟩:∃R,lq c=R:=⟨_,rfl⟩
 rw[hR];unfold lq at hR;unfold Yn;by_cases k0:c.kind=0
 ·simp[k0]at hR⊢;exact hR
 by_cases k1:c.kind=20
 ·simp[k1]at hR⊢;exact hR
 by_cases k2:c.kind=1
 ·simp[k2]at hR⊢;exact hR
 by_cases k3:c.kind=2
 ·simp[k3]at hR⊢;exact hR
 by_cases k4:c.kind=3
 ·simp[k4]at hR⊢;exact hR
 by_cases k5:c.kind=5
 ·simp[k5]at hR⊢;exact hR
 by_cases k6:c.kind=6
 ·simp[k6]at hR⊢;exact hR
 simp[k0,k1,k2,k3,k4,k5,k6]at hR⊢;exact hR
@[simp] theorem iB.enc_g6(c:iB)(h:6<c.enc.length):c.enc[6]=.sl false 5 (c.cos.map gy.enc):=by simp only[c.enc_eq];rfl
@[simp] theorem gy.enc_g0(c:gy)(h:0<c.enc.length):c.enc[0]=.sl false 1 (encI c.tags):=by simp only[c.enc_eq];rfl
@[simp] theorem gy.enc_g4(c:gy)(h:4<c.enc.length):c.enc[4]=.sl false 5 (c.fn.map gy.enc):=by simp only[c.enc_eq];rfl
def BH(c:iB):Prop:=∀m,yN c->mM m c->kX c<=10000000->gu Pg 23 [.agg c.enc] (.agg (o5 c).enc)
theorem zmC(c:iB)(ih:∀x,x∈c.kids->BH x):BH c:=λm hpc hwf hs=>by
 refine ziF (by simp) λo cx hN hp=>?_;have hsz:=Au c;have hkl:=J7 c.kids;rw[zmH];unfold Ym;simp;refine fo [.t 3] ?_;simp;refine fU iC hp (λY:Nat × List iB=>Y.1<=c.kids.length/\Y.2=(c.kids.take Y.1).map o5) (λY=>[(4,.c (.d (.int .i64 Y.1))),(3,.c (.msl 8 2 0 Y.2.length)),(2,.c (.ptr 1 0)),(1,.c (.ptr 0 0))]) (λY=>[.box (c.enc.map .d),De,.arr 8 ((Y.2.map iB.enc).map (·.map .d))]) (λY=>c.kids.length-Y.1) (0,[]) [0,1,2] (by simp) (by simp) λ⟨j,K⟩ ⟨hj,hK⟩=>?_;unfold Yk;simp only at hj hK;simp;have hl:K.length=j:=by rw[hK];simp;omega
 apply gT<;>intro h
 ·have hj:j<c.kids.length:=by simpa using h
  have hw:=wI (n:=(j:Int)+1);have hx:=ih _ (aP hj);have hsj:=Bz hj;obtain⟨m',hok,hwk⟩:∃m',yN c.kids[j]/\mM m' c.kids[j]:=by
   obtain⟨k,n,t,is,ns,ts,cs,ks⟩:=c;rw[yN]at hpc;rw[mM]at hwf;have h1:=KN.1 hpc.2.2 _ (aP hj);by_cases q5:k=5
   ·subst q5;have hl:=hwf.2.2.2.2.1 rfl
    match ks,hl,hwf,j,hj,h1 with
    |[x],_,hw,0,_,h1=>exact⟨m+1,h1,by have:=hw.2.2.2.2.2;rw[jw]at this;show mM (m+1) x;simpa using this.1⟩
   ·exact⟨_,h1,Gg q5 hj hwf.2.2.2.2.2⟩
  have htK:take K.length (List.map ((λx=>List.map AC.d x)∘iB.enc) K)=List.map ((λx=>List.map AC.d x)∘iB.enc) K:=aD (by simp);have hn:K++[o5 c.kids[j]]=(c.kids.take (j+1)).map o5:=by rw[aJ hj,hK,dW];try rfl
  simp[hj];refine gp (hx m' hok hwk (by omega)) ?_;simp;refine⟨by omega,?_⟩;refine fJ (j+1,K++[o5 c.kids[j]]) [0,1,3] ⟨by simp only;omega,hn⟩ (by simp only;omega) ?_;simp[hw,htK]
 ·have hj:j=c.kids.length:=by simp at h;omega
  subst hj;rw[bG]at hK;have hT:take K.length (List.map iB.enc K)=List.map iB.enc K:=aD (by simp);refine fe [2] ?_;simp only[BZ,EH,Ci,AQ,aC,aB,reduceIte,Nat.reduceEqDiff,AL,qH,Blk.fz_arr,BX,wQ];refine St.cut7 (F:=w_ Pg cx _ _ _) [(1,.c (.ptr 0 0)),(2,.c (.ptr 1 0)),(3,.c (.d (.sl false 8 (K.map iB.enc))))] [.box (sG c (.d (.sl false 8 (c.kids.map iB.enc)))),De,.dead] ?_ ?_ λT hT=>?_
  ·simp[iT,hT]
  ·intro i;rw[c.enc_eq];rcases(show i=0\/i=1\/i=2\/3<=i from by omega)with rfl|rfl|rfl|q
   ·simp[iT]
   ·simp[iT]
   ·simp[iT]
   ·simp[iT,rW (show [Blk.box (sG c (.d (.sl false 8 (c.kids.map iB.enc)))),De,.dead].length<=i from q),show i≠2 from by omega];rw[rW (by exact q)];try rfl
  simp only[di,cO,false_implies,implies_true,and_true]at hT;obtain⟨k1,k2,k3⟩:=hT;by_cases k:c.kind=22;rotate_left
  ·rw[aB k,<-hK];simp[k1,k2,k3,k];rw[iB.enc_eq];try rfl
  have ht:=KR (kX c) c m (aQ _) hpc hwf;obtain⟨d,x,e1,e2,gd,hpx,hsx⟩:∃d x,c.cos=[d]/\K=[o5 x]/\tY 16 d/\(yN x/\mM m x)/\kX x<=kX c:=by
   obtain⟨k',n,t,is,ns,ts,cs,ks⟩:=c;have k:k'=22:=k;subst k;rw[yN]at hpc;obtain⟨⟨d,e,g⟩,h1⟩:=hpc.2.1 rfl
   match ks,h1 with
   |[x],_=>
    rw[mM,jw]at hwf;exact⟨d,x,e,hK,g,⟨KN.1 hpc.2.2 x (by simp),by simpa using hwf.2.2.2.2.2.1⟩,by simp only[kX,jo];omega⟩
  rw[aC k,<-hK,e1,e2];have hx:=KR (kX x) x m (aQ _) hpx.1 hpx.2;have hbig:16*kX x<=199999984:=by omega
  generalize o5 x=x' at*
  obtain⟨R,hR⟩:∃R,yM d x'=R:=⟨_,rfl⟩
  rw[show yM ([d].getD 0 idC) ([x'].getD 0 noC)=R from hR];unfold yM at hR;simp only at hR;obtain⟨d',hd'⟩:∃d',(if x'.kind=22 then mg 32 (x'.cos.getD 0 idC) d else d)=d':=⟨_,rfl⟩
  obtain⟨k',hk'⟩:∃k',(if x'.kind=22 then x'.kids.getD 0 noC else x')=k':=⟨_,rfl⟩
  rw[hd',hk']at hR;have hx0:x'.kind=22->∃e y,x'.cos=[e]/\x'.kids=[y]/\y.kind≠22/\tY 200000000 e:=λq=>by
   obtain⟨k0,n,t,is,ns,ts,cs,ks⟩:=x';have q:k0=22:=q;subst q;have:=hx.tc;rw[yO]at this;obtain⟨e,y,h1,h2,h3,h4⟩:=this.2.1 rfl;exact⟨e,y,h1,h2,h3,h4.le (by omega)⟩
  simp[k1,k2,k3,k,e1,e2];refine fU iC hp (λY:gy × iB=>(Y.2.kind=22->∃e y,Y.2.cos=[e]/\Y.2.kids=[y]/\y.kind≠22/\tY 200000000 e)/\tY (if Y.2.kind=22 then 200000000 else 400000000) Y.1/\(if Y.2.kind=22 then mg 32 (Y.2.cos.getD 0 idC) Y.1 else Y.1)=d'/\(if Y.2.kind=22 then Y.2.kids.getD 0 noC else Y.2)=k') (λY=>[(6,.c (.ptr 4 0)),(5,.c (.ptr 3 0)),(2,.c (.ptr 1 0))]) (λY=>[.box (sG c (.d (.sl false 8 [x'.enc]))),De,.dead,.box (Y.1.enc.map .d),.box (Y.2.enc.map .d)]) (λY=>if Y.2.kind=22 then 1 else 0) (d,x') [0,1,2,3,4] ⟨hx0,by split<;>exact gd.le (by omega),hd',hk'⟩ (by simp[k2,k,e1]) λ⟨D,X⟩ ⟨i1,i2,i3,i4⟩=>?_;unfold Yl;simp only at i1 i2 i3 i4;simp;by_cases q:X.kind=22
  ·obtain⟨e,y,h1,h2,h3,h4⟩:=i1 q;rw[aC q]at i2 i3 i4;rw[h1]at i3;rw[h2]at i4;simp only[fH]at i3 i4;have hc:=zj1 32 h4.2.2 i2.2.2 (h4.le (B:=536870912) (by omega)).2.1 (i2.le (B:=536870912) (by omega)).2.1;have ec:CF 32 e D=d':=by unfold CF;rw[h4.1,i2.1,i3];try rfl
   rw[ec]at hc;have gd':tY 400000000 d':=by rw[<-i3];exact h4.comp (by omega) i2
   simp[q,h1,h2];refine gp hc ?_;simp[q,h1,h2];refine⟨by decide,?_⟩;refine fJ (d',y) [0,1,2,3,4] ⟨λz=>absurd z h3,by rw[aB h3];exact gd',by rw[aB h3],by rw[aB h3];exact i4⟩ (by simp[q,h3]) ?_;simp[k,e1]
  ·rw [aB q]at i3 i4 i2;subst i3;subst i4;simp[q];refine gp (zn1 X) ?_;simp;refine gp (Av D) ?_;have hlen:D.tags.length=6:=((sI _).1 i2.1).tags;unfold idleC at hR;have ht:lq X= -1\/∃n:Nat,lq X=n/\n<6:=by
    unfold lq;repeat' split
    ·exact .inr ⟨2,rfl,by omega⟩
    ·exact .inr ⟨3,rfl,by omega⟩
    ·exact .inr ⟨1,rfl,by omega⟩
    ·exact .inr ⟨0,rfl,by omega⟩
    ·exact .inr ⟨5,rfl,by omega⟩
    ·exact .inl rfl
   generalize lq X=t at*
   by_cases b1:jX D idC=true
   ·rw[b1]at hR⊢;rw[aC (by rfl)]at hR;subst hR;simp
   rw[aL]at b1;rw[b1]at hR⊢;rcases ht with ht|⟨n,ht,hn⟩
   ·subst ht;simp at hR;subst hR;simp;exact(iB.enc_eq (wz D X)).symm
   ·subst ht;have hg:D.tags[n]?=some (iE D n):=wh hlen hn;simp only[az]at hR;obtain⟨z,hz0⟩:∃z,iE D n=z:=⟨_,rfl⟩
    simp only[hz0]at hR hg;have hz:=(iB.enc_eq (wz D X)).symm;have h5:((n:Int)=5)=(n=5):=by rw[eq_iff_iff];omega
    by_cases b2:z=0
    ·by_cases b3:n=5
     ·subst b3;by_cases b4:D.fn=[]
      ·have hR:X=R:=by simpa[b2,b4]using hR
       simp[encI,hg,b2,b4];rw[hR]
      ·have hR:wz D X=R:=by simpa[b2,b4]using hR
       simp[encI,hg,b2,b4];rw[<-hR];exact hz
     ·have hR:X=R:=by simpa[b2,b3,h5]using hR
      simp[encI,hg,b2,b3,h5];rw[hR]
    ·have hR:wz D X=R:=by simpa[b2]using hR
     simp[encI,hg,b2];rw[<-hR];exact hz
mutual
theorem zkk:∀c:iB,BH c
|.mk k n t is ns ts cs ks=>zmC _ (ziT ks)
theorem ziT:∀l:List iB,∀x,x∈l->BH x
|[],x,hx=>by cases hx
|c::l,x,hx=>by
 rcases aN.1 hx with e|e
 ·rw[e];exact zkk c
 ·exact ziT l x e
end
@[simp] theorem jW.put_body(f:jW)(b:iB):put (f.enc.map AC.d) 5 (b.enc.map AC.d)=(jW.enc ⟨f.name,f.type,b⟩).map .d:=by unfold jW.enc;rw[f.type.enc_eq,f.body.enc_eq,b.enc_eq];try rfl
theorem zoq(p:lZ)(hp:BD p)(trim:Bool):gu Pg 10 [.agg p.enc,.one (.bool trim)] (.agg (lQ trim p).enc):=by
 have e:p.enc=[.sl false 13 (p.funs.map jW.enc),.int .i64 p.main,.sl false 3 (p.sites.map Site.enc)]:=rfl;rw[e];refine zlb (by simp) λo cx hN hpp=>?_;have h257:=hp.good.2;unfold Yh;simp;refine fo [.c 1 0] ?_;simp;refine fU iC hpp (λY:Nat × List jW=>Y.1<=p.funs.length/\Y.2=(p.funs.take Y.1).map λf=>⟨f.name,f.type,BF trim f.body⟩) (λY=>[(6,.c (.d (.int .i64 Y.1))),(5,.c (.ptr 1 0)),(4,.c (.ptr 0 0)),(2,.c (.d (.rp p.enc 0))),(1,.c (.d (.bool trim)))]) (λY=>[.box [.d (.sl true 13 []),.d (.int .i64 0),.d (.sl true 3 [])],.box [.msl 13 2 0 Y.2.length,.d (.int .i64 p.main),.d (.sl false 3 (p.sites.map Site.enc))],oV Y.2]) (λY=>p.funs.length-Y.1) (0,[]) [0,1,2] (by simp) (by simp[e]) λ⟨j,K⟩ ⟨hj,hK⟩=>?_;unfold Yg;simp only at hj hK;have hl:K.length=j:=by rw[hK];simp;omega
 simp[e];apply gT<;>intro h
 ·have hj:j<p.funs.length:=by simpa using h
  have hw:=wI (n:=(j:Int)+1);obtain⟨f,hf⟩:∃f,p.funs[j]=f:=⟨_,rfl⟩
  have hm:f∈p.funs:=by rw[<-hf];exact aP hj
  have hg:=(hp.good.1 f hm).1;have hok:=hp.ok f hm;have h1:=ziS (M:=p.sites.length) (G:=p.funs.length) hp.sites f.body hok (by have:=hg.2;omega);have h2:=zkk (oF f.body) 1 (KP _ hok) (KQ _ _ hg.1) (by rw[QH];have:=hg.2;omega);have hn:K++[⟨f.name,f.type,BF trim f.body⟩]=(p.funs.take (j+1)).map λf=>⟨f.name,f.type,BF trim f.body⟩:=by rw[aJ hj,hf,hK,dW];try rfl
  have htK:take K.length (List.map ((λx=>List.map AC.d x)∘jW.enc) K)=List.map ((λx=>List.map AC.d x)∘jW.enc) K:=aD (by simp);simp[hj,hf];refine gp h1 ?_;simp;cases trim with
  |false=>
   simp;refine⟨by omega,?_⟩;refine fJ (j+1,K++[⟨f.name,f.type,BF false f.body⟩]) [0,1,4] ⟨by simp only;omega,hn⟩ (by simp only;omega) ?_;simp[hw,htK,BF];exact e.symm
  |true=>
   simp;refine gp h2 ?_;simp;refine⟨by omega,?_⟩;refine fJ (j+1,K++[⟨f.name,f.type,BF true f.body⟩]) [0,1,4] ⟨by simp only;omega,hn⟩ (by simp only;omega) ?_;simp[hw,htK,BF];exact e.symm
 ·have hj:j=p.funs.length:=by simp at h;omega
  subst hj;rw[bG]at hK;have hT:take K.length (List.map jW.enc K)=List.map jW.enc K:=aD (by simp);have e2:(lQ trim p).enc=[.sl false 13 (K.map jW.enc),.int .i64 p.main,.sl false 3 (p.sites.map Site.enc)]:=by rw[hK];try rfl
  rw[e2];refine fe [2] ?_;simp[iT,hT]
end Go.Gr
namespace Go.Gr
open Go.Abs Go.Proofs
def zvN:MC:=(λx(_:x=gC tt [] [] [] (gB Tryz.f7))=>x) _ (by dsimp[Tryz.f7])
theorem zCb:WT Pg 7 55 zvN [.tmp 0]:=wT iC Tryz.func7 (by kernel_rfl)
def zLD:MC:=(λx(_:x=gC tt [] [(12,[0,1,0,7,15,31,0,64,0,448,960,1984,4095,8191]),(13,[0,1,3,7,15,7,63,127,255,7,519,7,3591,7687,15879,32767,65535])] [] (iO 0 (gB Tryz.f3)))=>x) _ (by dsimp[Tryz.f3])
def zLE:MC:=(λx(_:x=gC tt [] [(19,[0,1,0,7,15,31,0,64,0,448,960,1984,4095,8191])] [] (iO 2 (gB Tryz.f3)))=>x) _ (by dsimp[Tryz.f3])
def zLG:MC:=(λx(_:x=gC tt [] [] [(0,zLD),(2,zLE)] (gB Tryz.f3))=>x) _ (by dsimp[Tryz.f3])
theorem zLQ:WT Pg 3 126 zLG [.tmp 4]:=wT iC Tryz.func3 (by kernel_rfl)
def QK:MC:=(λx(_:x=gC tt [] [(8,[0,1,0,0,8,0,56,120,248,0,1016,2047,4095,8191])] [] (iO 0 (gB Tryz.f9)))=>x) _ (by dsimp[Tryz.f9])
def zvO:MC:=(λx(_:x=gC tt [(0,2),(3,9),(4,32)] [] [(0,QK)] (gB Tryz.f9))=>x) _ (by dsimp[Tryz.f9])
theorem zCc:WT Pg 9 33 zvO [.cell 4 true 3]:=wT iC Tryz.func9 (by kernel_rfl)
def zvP:MC:=(λx(_:x=gC tt [] [(3,[0,1,3,7,0,16,48,112,0,256,768,1792,4095,0,8192,24576,57344,131071,262143])] [] (gB Tryz.f19))=>x) _ (by dsimp[Tryz.f19])
theorem zCd:WT Pg 19 25 zvP [.cell 2 true 8]:=wT iC Tryz.func19 (by kernel_rfl)
def zvb:MC:=(λx(_:x=gC tt [(0,1)] [(4,[0,1,3,7,0,16,48,112,0,0,783,2047]),(6,[0,1,3,7,0,31,0,64,192,448,63,2047])] [] (gB Tryz.f20))=>x) _ (by dsimp[Tryz.f20])
theorem zAV:WT Pg 20 39 zvb [.cell 2 true 8]:=wT iC Tryz.func20 (by kernel_rfl)
def zt1:MC:=(λx(_:x=gC tt [] [(5,[0,1,0,0,0,24,63,127])] [] (iO 0 (gB Tryz.f21)))=>x) _ (by dsimp[Tryz.f21])
def zvQ:MC:=(λx(_:x=gC tt [(0,2),(3,9),(4,28)] [] [(0,zt1)] (gB Tryz.f21))=>x) _ (by dsimp[Tryz.f21])
theorem zCe:WT Pg 21 30 zvQ [.cell 4 true 8]:=wT iC Tryz.func21 (by kernel_rfl)
def zyj:MC:=(λx(_:x=gC tt [] [] [] (gB Tryz.f35))=>x) _ (by dsimp[Tryz.f35])
theorem zE3:WT Pg 35 10 zyj [.cell 4 true 8]:=wT iC Tryz.func35 (by kernel_rfl)
def BI:MC:=(λx(_:x=gC tt [] [(3,[0,0,3,7])] [] (gB Tryz.f38))=>x) _ (by dsimp[Tryz.f38])
theorem zCf:WT Pg 38 40 BI [.tmp 4]:=wT iC Tryz.func38 (by kernel_rfl)
def zt2:MC:=(λx(_:x=gC tt [] [] [] (gB Tryz.f36))=>x) _ (by dsimp[Tryz.f36])
theorem zz2:WT Pg 36 28 zt2 [.cell 6 true 5]:=wT iC Tryz.func36 (by kernel_rfl)
def zta:MC:=(λx(_:x=gC tt [] [] [] (gB Tryz.f61))=>x) _ (by dsimp[Tryz.f61])
theorem zyk:WT Pg 61 17 zta [.tmp 2]:=wT iC Tryz.func61 (by kernel_rfl)
def QL:MC:=(λx(_:x=gC tt [(3,75),(3,84),(4,85)] [(13,[0,1,3,7,0,16,48,112,0,256,1023,0,2048,6144,14336,0,32768,98304,229376,0,1048575,2097151])] [] (iO 0 (gB Tryz.f62)))=>x) _ (by dsimp[Tryz.f62])
def QM:MC:=(λx(_:x=gC tt [(3,15)] [] [(0,QL)] (gB Tryz.f62))=>x) _ (by dsimp[Tryz.f62])
theorem zz3:WT Pg 62 87 QM [.cell 6 true 5]:=wT iC Tryz.func62 (by kernel_rfl)
def KS:MC:=(λx(_:x=gC tt [] [] [] (gB Tryz.f98))=>x) _ (by dsimp[Tryz.f98])
theorem QN:WT Pg 98 30 KS [.cell 4 true 4,.tmp 5,.tmp 6]:=wT iC Tryz.func98 (by kernel_rfl)
def zcN:MC:=(λx(_:x=gC tt [] [] [] (gB Tryz.f97))=>x) _ (by dsimp[Tryz.f97])
theorem zgI:WT Pg 97 6 zcN [.tmp 2]:=wT iC Tryz.func97 (by kernel_rfl)
def QO:MC:=(λx(_:x=gC tt [] [] [] (iO 0 (gB Tryz.f100)))=>x) _ (by dsimp[Tryz.f100])
def QP:MC:=(λx(_:x=gC tt [] [(15,[0,0,0,4,0,28,60,0,128,0,896,1920,0,8188,16383])] [] (iO 2 (gB Tryz.f100)))=>x) _ (by dsimp[Tryz.f100])
def ztb:MC:=(λx(_:x=gC tt [(5,39),(3,97),(4,97)] [] [(0,QO),(2,QP)] (gB Tryz.f100))=>x) _ (by dsimp[Tryz.f100])
theorem zxk:WM Pg 100 98 ztb []:=wM iC Tryz.func100 (by kernel_rfl)
def KT:MC:=(λx(_:x=gC tt [(1,1)] [] [] (gB Tryz.f66))=>x) _ (by dsimp[Tryz.f66])
theorem zCg:WT Pg 66 3 KT [.cell 0 true 5]:=wT iC Tryz.func66 (by kernel_rfl)
theorem zAW:WM Pg 66 3 KT [.cell 0 true 5]:=wM iC Tryz.func66 (by kernel_rfl)
def zt3:MC:=(λx(_:x=gC tt [] [(1,[0,0,3,7])] [] (gB Tryz.f102))=>x) _ (by dsimp[Tryz.f102])
theorem zz4:WT Pg 102 6 zt3 [.tmp 2]:=wT iC Tryz.func102 (by kernel_rfl)
def zsG:MC:=(λx(_:x=gC tt [] [] [] (gB Tryz.f37))=>x) _ (by dsimp[Tryz.f37])
theorem zxl:WT Pg 37 17 zsG [.cell 4 true 5]:=wT iC Tryz.func37 (by kernel_rfl)
def QQ:MC:=(λx(_:x=gC tt [] [] [] (iO 0 (gB Tryz.f64)))=>x) _ (by dsimp[Tryz.f64])
def QR:MC:=(λx(_:x=gC tt [] [] [] (iO 2 (gB Tryz.f64)))=>x) _ (by dsimp[Tryz.f64])
def QS:MC:=(λx(_:x=gC tt [] [(25,[0,0,0,0,8,0,56,120,252,511])] [] (iO 4 (gB Tryz.f64)))=>x) _ (by dsimp[Tryz.f64])
def KU:MC:=(λx(_:x=gC tt [(3,19),(4,41),(3,111),(4,112),(3,143)] [(31,[0,0,3,0,0,31,63])] [(0,QQ),(2,QR),(4,QS)] (gB Tryz.f64))=>x) _ (by dsimp[Tryz.f64])
theorem QT:WT Pg 64 145 KU [.cell 4 true 5]:=wT iC Tryz.func64 (by kernel_rfl)
def QU:MC:=(λx(_:x=gC tt [] [] [] (iO 0 (gB Tryz.f63)))=>x) _ (by dsimp[Tryz.f63])
def QV:MC:=(λx(_:x=gC tt [] [(16,[0,1,3,7,15,7,39,127,255,7,519,7,3591,7687,16383,32767,65535,131071,262143,524287,1048575,2097151,4194303,8388607,16777215,33554431])] [] (iO 2 (gB Tryz.f63)))=>x) _ (by dsimp[Tryz.f63])
def zvc:MC:=(λx(_:x=gC tt [] [] [(0,QU),(2,QV)] (gB Tryz.f63))=>x) _ (by dsimp[Tryz.f63])
theorem zAX:WT Pg 63 147 zvc [.tmp 2]:=wT iC Tryz.func63 (by kernel_rfl)
def zt4:MC:=(λx(_:x=gC tt [] [] [] (gB Tryz.f65))=>x) _ (by dsimp[Tryz.f65])
theorem zz5:WT Pg 65 38 zt4 [.tmp 4]:=wT iC Tryz.func65 (by kernel_rfl)
def zt5:MC:=(λx(_:x=gC tt [] [(3,[0,1,3,7,0,16,48,112,15,511])] [] (gB Tryz.f106))=>x) _ (by dsimp[Tryz.f106])
theorem zz6:WT Pg 106 18 zt5 [.cell 2 true 5,.cell 3 true 5]:=wT iC Tryz.func106 (by kernel_rfl)
def QW:MC:=(λx(_:x=gC tt [] [] [] (gB Tryz.f99))=>x) _ (by dsimp[Tryz.f99])
theorem zvd:WM Pg 99 20 QW []:=wM iC Tryz.func99 (by kernel_rfl)
def QX:List Nat:=[0,5,10,11,12]
def zsH:MC:=(λx(_:x=gC tt [(3,18)] [] [] (iO 0 (gB Tryz.f104)))=>x) _ (by dsimp[Tryz.f104])
def zty:MC:=(λx(_:x=gC tt [(3,9)] [] [(0,zsH)] (gB Tryz.f104))=>x) _ (by dsimp[Tryz.f104])
theorem zyW:WT Pg 104 26 zty [.tmp 4]:=wT iC Tryz.func104 (by kernel_rfl)
def zsI:MC:=(λx(_:x=gC tt [] [] [] (gB Tryz.f149))=>x) _ (by dsimp[Tryz.f149])
theorem zxm:WT Pg 149 9 zsI [.tmp 3]:=wT iC Tryz.func149 (by kernel_rfl)
def El:List Nat:=[0,1,9,10,11]
def QY:MC:=(λx(_:x=gC tt [] [(5,[0,0,0,4,12,28,0,64,252,0,512,1536,3584,0,8192,32764,65533,131069,262141,524287,1048575,2097151])] [] (iO 0 (gB Tryz.f105)))=>x) _ (by dsimp[Tryz.f105])
def QZ:MC:=(λx(_:x=gC tt [(3,8),(5,8),(3,9)] [] [(0,QY)] (gB Tryz.f105))=>x) _ (by dsimp[Tryz.f105])
theorem ztc:WM Pg 105 42 QZ []:=wM iC Tryz.func105 (by kernel_rfl)
def ze6:MC:=(λx(_:x=gC tt [] [] [] (gB Tryz.f95))=>x) _ (by dsimp[Tryz.f95])
theorem zjm:WT Pg 95 24 ze6 [.cell 2 true 4,.tmp 3]:=wT iC Tryz.func95 (by kernel_rfl)
def Q0:MC:=(λx(_:x=gC tt [] [] [] (iO 0 (gB Tryz.f143)))=>x) _ (by dsimp[Tryz.f143])
def HY:MC:=(λx(_:x=gC tt [(5,17),(4,50),(4,58),(4,65)] [] [(0,Q0)] (gB Tryz.f143))=>x) _ (by dsimp[Tryz.f143])
theorem KV:WT Pg 143 70 HY [.cell 2 true 4,.tmp 3]:=wT iC Tryz.func143 (by kernel_rfl)
def zdD:MC:=(λx(_:x=gC tt [] [] [] (gB Tryz.f141))=>x) _ (by dsimp[Tryz.f141])
theorem zhB:WT Pg 141 5 zdD [.tmp 2]:=wT iC Tryz.func141 (by kernel_rfl)
def zcO:MC:=(λx(_:x=gC tt [] [] [] (iO 0 (gB Tryz.f165)))=>x) _ (by dsimp[Tryz.f165])
def Q3:MC:=(λx(_:x=gC tt [] [] [(0,zcO)] (gB Tryz.f165))=>x) _ (by dsimp[Tryz.f165])
theorem zd8:WT Pg 165 26 Q3 [.tmp 4]:=wT iC Tryz.func165 (by kernel_rfl)
def zdE:MC:=(λx(_:x=gC tt [] [] [] (iO 0 (gB Tryz.f142)))=>x) _ (by dsimp[Tryz.f142])
def ze7:MC:=(λx(_:x=gC tt [] [] [(0,zdE)] (gB Tryz.f142))=>x) _ (by dsimp[Tryz.f142])
theorem zjn:WT Pg 142 22 ze7 [.tmp 2]:=wT iC Tryz.func142 (by kernel_rfl)
def ze8:MC:=(λx(_:x=gC tt [] [] [] (gB Tryz.f96))=>x) _ (by dsimp[Tryz.f96])
theorem zjo:WT Pg 96 31 ze8 [.tmp 4]:=wT iC Tryz.func96 (by kernel_rfl)
def HZ:MC:=(λx(_:x=gC tt [] [] [] (gB Tryz.f145))=>x) _ (by dsimp[Tryz.f145])
theorem zhC:WT Pg 145 29 HZ [.cell 4 true 4,.tmp 5]:=wT iC Tryz.func145 (by kernel_rfl)
def zcP:MC:=(λx(_:x=gC tt [] [(1,[0,1,0,7,15])] [] (gB Tryz.f169))=>x) _ (by dsimp[Tryz.f169])
theorem zgJ:WT Pg 169 8 zcP [.tmp 3]:=wT iC Tryz.func169 (by kernel_rfl)
def zfA:MC:=(λx(_:x=gC tt [] [] [] (gB Tryz.f170))=>x) _ (by dsimp[Tryz.f170])
theorem zj4:WT Pg 170 14 zfA [.tmp 2]:=wT iC Tryz.func170 (by kernel_rfl)
def Q4:MC:=(λx(_:x=gC tt [(2,36)] [] [] (iO 2 (gB Tryz.f167)))=>x) _ (by dsimp[Tryz.f167])
def zdg:MC:=(λx(_:x=gC tt [] [] [(2,Q4)] (iO 0 (gB Tryz.f167)))=>x) _ (by dsimp[Tryz.f167])
def zdh:MC:=(λx(_:x=gC tt [(5,43)] [(21,[0,1,0,4,12,28,63,127,255])] [] (iO 4 (gB Tryz.f167)))=>x) _ (by dsimp[Tryz.f167])
def zd9:MC:=(λx(_:x=gC tt [(5,43)] [(25,[0,0,2,6,14,1,63])] [(0,zdg),(4,zdh)] (gB Tryz.f167))=>x) _ (by dsimp[Tryz.f167])
theorem ziA:WT Pg 167 70 zd9 [.cell 2 true 4,.tmp 3]:=wT iC Tryz.func167 (by kernel_rfl)
def zdi:MC:=(λx(_:x=gC tt [] [(6,[0,0,2,6,14,30,63,127])] [] (gB Tryz.f186))=>x) _ (by dsimp[Tryz.f186])
theorem zgK:WM Pg 186 22 zdi [.tmp 3]:=wM iC Tryz.func186 (by kernel_rfl)
def Q5:MC:=(λx(_:x=gC tt [] [] [] (iO 0 (gB Tryz.f166)))=>x) _ (by dsimp[Tryz.f166])
def Q6:MC:=(λx(_:x=gC tt [] [(16,[0,1,3,7,7,23,63,127,255,7,519,2047,4095]),(18,[0,1,0,4,12,31,0,64,0,256,768,2047,255,8191,16383,32767])] [] (iO 2 (gB Tryz.f166)))=>x) _ (by dsimp[Tryz.f166])
def zdF:MC:=(λx(_:x=gC tt [(5,23),(3,45),(4,46),(5,47)] [] [(0,Q5),(2,Q6)] (gB Tryz.f166))=>x) _ (by dsimp[Tryz.f166])
theorem zhD:WT Pg 166 84 zdF [.cell 4 true 4,.tmp 5]:=wT iC Tryz.func166 (by kernel_rfl)
def zgr:MC:=(λx(_:x=gC tt [] [] [] (gB Tryz.f182))=>x) _ (by dsimp[Tryz.f182])
theorem zkX:WT Pg 182 28 zgr [.tmp 2]:=wT iC Tryz.func182 (by kernel_rfl)
def ze9:MC:=(λx(_:x=gC tt [] [] [] (gB Tryz.f193))=>x) _ (by dsimp[Tryz.f193])
theorem zjq:WT Pg 193 21 ze9 [.tmp 2]:=wT iC Tryz.func193 (by kernel_rfl)
def zfB:MC:=(λx(_:x=gC tt [] [] [] (iO 0 (gB Tryz.f194)))=>x) _ (by dsimp[Tryz.f194])
def zg8:MC:=(λx(_:x=gC tt [] [] [(0,zfB)] (gB Tryz.f194))=>x) _ (by dsimp[Tryz.f194])
theorem zlT:WT Pg 194 21 zg8 [.tmp 4]:=wT iC Tryz.func194 (by kernel_rfl)
def zfC:MC:=(λx(_:x=gC tt [] [] [] (gB Tryz.f195))=>x) _ (by dsimp[Tryz.f195])
theorem zj5:WT Pg 195 9 zfC [.tmp 2]:=wT iC Tryz.func195 (by kernel_rfl)
def zfD:MC:=(λx(_:x=gC tt [] [] [] (gB Tryz.f212))=>x) _ (by dsimp[Tryz.f212])
theorem zj6:WT Pg 212 9 zfD [.tmp 2]:=wT iC Tryz.func212 (by kernel_rfl)
def zfE:MC:=(λx(_:x=gC tt [] [] [] (gB Tryz.f197))=>x) _ (by dsimp[Tryz.f197])
theorem zj7:WT Pg 197 2 zfE [.tmp 0]:=wT iC Tryz.func197 (by kernel_rfl)
def za4:MC:=(λx(_:x=gC tt [] [] [] (gB Tryz.f196))=>x) _ (by dsimp[Tryz.f196])
theorem zb1:WT Pg 196 9 za4 [.tmp 4]:=wT iC Tryz.func196 (by kernel_rfl)
def za7:MC:=(λx(_:x=gC tt [] [] [] (iO 0 (gB Tryz.f146)))=>x) _ (by dsimp[Tryz.f146])
def zbg:MC:=(λx(_:x=gC tt [] [] [(0,za7)] (gB Tryz.f146))=>x) _ (by dsimp[Tryz.f146])
theorem zcj:WT Pg 146 19 zbg [.tmp 4]:=wT iC Tryz.func146 (by kernel_rfl)
def zaO:MC:=(λx(_:x=gC tt [] [] [] (iO 0 (gB Tryz.f168)))=>x) _ (by dsimp[Tryz.f168])
def zaU:MC:=(λx(_:x=gC tt [] [] [(0,zaO)] (gB Tryz.f168))=>x) _ (by dsimp[Tryz.f168])
theorem zbD:WT Pg 168 19 zaU [.tmp 4]:=wT iC Tryz.func168 (by kernel_rfl)
def Q7:List Nat:=[1,2,15,16,17]
def zaz:MC:=(λx(_:x=gC tt [] [] [] (iO 0 (gB Tryz.f144)))=>x) _ (by dsimp[Tryz.f144])
def zaC:MC:=(λx(_:x=gC tt [] [] [(0,zaz)] (gB Tryz.f144))=>x) _ (by dsimp[Tryz.f144])
theorem zaX:WT Pg 144 32 zaC [.tmp 6]:=wT iC Tryz.func144 (by kernel_rfl)
def KW:MC:=(λx(_:x=gC tt [(7,0)] [] [] (gB Tryz.f103))=>x) _ (by dsimp[Tryz.f103])
theorem zro:WT Pg 103 8 KW [.tmp 2]:=wT iC Tryz.func103 (by kernel_rfl)
theorem zra:WM Pg 103 8 KW [.tmp 2]:=wM iC Tryz.func103 (by kernel_rfl)
def Q8:List Nat:=[0,1,12,13]
def zqC:MC:=(λx(_:x=gC tt [] [(6,[0,0,3,7,0,0,48,112,255])] [] (iO 0 (gB Tryz.f107)))=>x) _ (by dsimp[Tryz.f107])
def zq4:MC:=(λx(_:x=gC tt [] [] [(0,zqC)] (gB Tryz.f107))=>x) _ (by dsimp[Tryz.f107])
theorem ztK:WT Pg 107 26 zq4 [.tmp 4]:=wT iC Tryz.func107 (by kernel_rfl)
def Q9:List Nat:=[0,1,12,13]
def za8:MC:=(λx(_:x=gC tt [] [(6,[0,0,3,7,0,0,48,112,255])] [] (iO 0 (gB Tryz.f109)))=>x) _ (by dsimp[Tryz.f109])
def zbh:MC:=(λx(_:x=gC tt [] [] [(0,za8)] (gB Tryz.f109))=>x) _ (by dsimp[Tryz.f109])
theorem zck:WT Pg 109 26 zbh [.tmp 4]:=wT iC Tryz.func109 (by kernel_rfl)
def Qa:List Nat:=[0,1,12,13]
def zpI:MC:=(λx(_:x=gC tt [] [(6,[0,0,3,7,0,0,48,112,255])] [] (iO 0 (gB Tryz.f108)))=>x) _ (by dsimp[Tryz.f108])
def zpR:MC:=(λx(_:x=gC tt [] [] [(0,zpI)] (gB Tryz.f108))=>x) _ (by dsimp[Tryz.f108])
theorem zrp:WT Pg 108 26 zpR [.tmp 4]:=wT iC Tryz.func108 (by kernel_rfl)
def Qb:List Nat:=[1,2,15,16,17]
def zo2:MC:=(λx(_:x=gC tt [] [] [] (iO 0 (gB Tryz.f110)))=>x) _ (by dsimp[Tryz.f110])
def zo4:MC:=(λx(_:x=gC tt [] [] [(0,zo2)] (gB Tryz.f110))=>x) _ (by dsimp[Tryz.f110])
theorem zp0:WT Pg 110 32 zo4 [.tmp 6]:=wT iC Tryz.func110 (by kernel_rfl)
def zsr:MC:=(λx(_:x=gC tt [] [] [] (gB Tryz.f101))=>x) _ (by dsimp[Tryz.f101])
theorem zwz:WT Pg 101 8 zsr [.tmp 4]:=wT iC Tryz.func101 (by kernel_rfl)
def zpS:MC:=(λx(_:x=gC tt [(8,171)] [] [] (gB Tryz.f147))=>x) _ (by dsimp[Tryz.f147])
theorem zrq:WT Pg 147 8 zpS [.tmp 4]:=wT iC Tryz.func147 (by kernel_rfl)
def zpm:MC:=(λx(_:x=gC tt [] [] [] (gB Tryz.f148))=>x) _ (by dsimp[Tryz.f148])
theorem zqt:WT Pg 148 9 zpm [.tmp 4]:=wT iC Tryz.func148 (by kernel_rfl)
def Qc:List Nat:=[0,1,7,8]
def zpr:MC:=(λx(_:x=gC tt [] [] [] (iO 0 (gB Tryz.f172)))=>x) _ (by dsimp[Tryz.f172])
def zpz:MC:=(λx(_:x=gC tt [] [] [(0,zpr)] (gB Tryz.f172))=>x) _ (by dsimp[Tryz.f172])
theorem zqL:WT Pg 172 19 zpz [.tmp 4]:=wT iC Tryz.func172 (by kernel_rfl)
def zpg:MC:=(λx(_:x=gC tt [(0,1)] [] [] (gB Tryz.f151))=>x) _ (by dsimp[Tryz.f151])
theorem zqe:WM Pg 151 4 zpg [.tmp 2]:=wM iC Tryz.func151 (by kernel_rfl)
end Go.Gr
namespace Go.Gr.P
open Go.Abs Go.Proofs List
@[simp] theorem zKA(l:List (fI × Int))(k:Nat):(iF l)[k]?=(l[k]?).map λx=>[.str x.1,.int .i64 x.2]:=by simp[iF]
theorem zFk(a b:List Int):gu Pg 107 [.one (.sl false 1 (encI a)),.one (.sl false 1 (encI b))] (.one (.bool (decide (a=b)))):=by
 refine ztK (by simp) λo c hN hp=>?_;have hl:a.length<=zah:=by have:=o.1;simp only[DV.ok,D.ok]at this;simpa[encI]using this.1
 unfold zah at hl;unfold zq4;simp;apply gT<;>intro h
 ·simp at h;intro e;rw[e]at h;exact h rfl
 ·simp at h;refine fV iC hp Q8 [13] (λj:Nat=>j<=a.length/\a.take j=b.take j) (λj=>[.c (.d (.int .i64 j))]) (λ_=>[]) (λj=>a.length-j) 0 [] (by simp) (by simp[Q8]) λj ⟨h1,h2⟩=>?_;unfold zqC Q8;simp;apply gT<;>intro h
  ·have hj:j<a.length:=by simpa using h
   have hj':j<b.length:=by omega
   simp[aA hj,aA hj'];refine⟨by decide,gT (λh=>?_) (λh=>?_)⟩
   ·simp at h;intro e;subst e;exact h rfl
   ·simp at h;refine fJ (j+1) [] ⟨by omega,?_⟩ (by omega) (by simp;exact wI);rw[aJ hj,aJ hj',h2,h]
  ·have hj:j=a.length:=by simp at h;omega
   subst hj;rw[bG,aD (by omega)]at h2;exact h2
theorem zlY(a b:List fI):gu Pg 109 [.one (.sl false 1 (encS a)),.one (.sl false 1 (encS b))] (.one (.bool (decide (a=b)))):=by
 refine zck (by simp) λo c hN hp=>?_;have hl:a.length<=zah:=by have:=o.1;simp only[DV.ok,D.ok]at this;simpa[encS]using this.1
 unfold zah at hl;unfold zbh;simp;apply gT<;>intro h
 ·simp at h;intro e;rw[e]at h;exact h rfl
 ·simp at h;refine fV iC hp Q9 [13] (λj:Nat=>j<=a.length/\a.take j=b.take j) (λj=>[.c (.d (.int .i64 j))]) (λ_=>[]) (λj=>a.length-j) 0 [] (by simp) (by simp[Q9]) λj ⟨h1,h2⟩=>?_;unfold za8 Q9;simp;apply gT<;>intro h
  ·have hj:j<a.length:=by simpa using h
   have hj':j<b.length:=by omega
   simp[aA hj,aA hj'];refine⟨by decide,gT (λh=>?_) (λh=>?_)⟩
   ·simp at h;intro e;subst e;exact h rfl
   ·simp at h;refine fJ (j+1) [] ⟨by omega,?_⟩ (by omega) (by simp;exact wI);rw[aJ hj,aJ hj',h2,h]
  ·have hj:j=a.length:=by simp at h;omega
   subst hj;rw[bG,aD (by omega)]at h2;exact h2
theorem zDW(a b:List (fI × Int)):gu Pg 108 [.one (.sl false 2 (iF a)),.one (.sl false 2 (iF b))] (.one (.bool (decide (a=b)))):=by
 refine zrp (by simp) λo c hN hp=>?_;have hl:a.length<=zah:=by have:=o.1;simp only[DV.ok,D.ok]at this;simpa[iF]using this.1
 unfold zah at hl;unfold zpR;simp;apply gT<;>intro h
 ·simp at h;intro e;rw[e]at h;exact h rfl
 ·simp at h;refine fV iC hp Qa [13] (λj:Nat=>j<=a.length/\a.take j=b.take j) (λj=>[.c (.d (.int .i64 j))]) (λ_=>[]) (λj=>a.length-j) 0 [] (by simp) (by simp[Qa]) λj ⟨h1,h2⟩=>?_;unfold zpI Qa;simp;apply gT<;>intro h
  ·have hj:j<a.length:=by simpa using h
   have hj':j<b.length:=by omega
   simp[aA hj,aA hj'];refine⟨by decide,gT (λh=>?_) (λh=>?_)⟩
   ·simp at h;intro e;subst e;simp at h
   ·simp at h;refine fJ (j+1) [] ⟨by omega,?_⟩ (by omega) (by simp;exact wI);rw[aJ hj,aJ hj',h2,Prod.ext h.1 h.2]
  ·have hj:j=a.length:=by simp at h;omega
   subst hj;rw[bG,aD (by omega)]at h2;exact h2
theorem KX:gu Pg 66 [] (.agg idC.enc):=by
 refine zCg (by simp) λo c hN hp=>?_;unfold KT;simp[idC,gy.enc,encI,iF,encS,gy.encs]
def lJ{α:Type}(q:α->α->Bool):List α->List α->Bool
|[],[]=>true
|a::l,b::k=>q a b&&lJ q l k
|_,_=>false
theorem DF{α:Type}(q:α->α->Bool):∀{a b:List α},a.length≠b.length->lJ q a b=false
|[],[],h=>by simp at h
|[],_::_,h=>rfl
|_::_,[],h=>rfl
|a::l,b::k,h=>by simp only[lJ];rw[DF q (a:=l) (b:=k) (by simpa using h)];simp
theorem zvx(a b:List gy)(g:FuncId)(caps:List D)(q:gy->gy->Bool)(H:∀x,x∈a->∀y,gu Pg g (.agg x.enc::.agg y.enc::caps.map .one) (.one (.bool (q x y)))):
  gu Pg 110 [.one (.sl false 5 (a.map gy.enc)),.one (.sl false 5 (b.map gy.enc)),.one (.fn (.func g) caps)] (.one (.bool (lJ q a b))):=by
 refine zp0 (by simp) λo c hN hp=>?_;have hl:a.length<=zah:=by have:=o.1;simp only[DV.ok,D.ok]at this;simpa using this.1
 unfold zah at hl;unfold zo4;simp;apply gT<;>intro h
 ·simp at h;exact DF q (by omega)
 ·simp at h;refine fV iC hp Qb [17] (λj:Nat=>j<=a.length/\lJ q (a.drop j) (b.drop j)=lJ q a b) (λj=>[.c (.d (.int .i64 j))]) (λ_=>[]) (λj=>a.length-j) 0 [] (by simp) (by simp[Qb]) λj ⟨h1,h2⟩=>?_;unfold zo2 Qb;simp;apply gT<;>intro h
  ·have hj:j<a.length:=by simpa using h
   have hj':j<b.length:=by omega
   rw[aF hj,aF hj',lJ]at h2;simp[aA hj,aA hj'];refine gp (H _ (aP hj) _) ?_;simp;apply gT<;>intro h
   ·simp at h;rw[h,Bool.false_and]at h2;exact h2.symm
   ·simp at h;rw[h,Bool.true_and]at h2;exact fJ (j+1) [] ⟨by omega,h2⟩ (by omega) (by simp;exact wI)
  ·have hj:j=a.length:=by simp at h;omega
   subst hj;rw[aO,bF (by omega)]at h2;rw[<-h2];try rfl
theorem Gh:∀(a b:List gy),uG a b=lJ jX a b
|[],[]=>by simp[uG,lJ]
|[],_::_=>by simp[uG,lJ]
|_::_,[]=>by simp[uG,lJ]
|a::l,b::k=>by simp[uG,lJ,Gh l k]
theorem PR(a b:gy):jX a b=(decide (a.tags=b.tags)&&(decide (a.needs=b.needs)&&(decide (a.names=b.names)&&(lJ jX a.fields b.fields&&lJ jX a.fn b.fn)))):=by
 cases a;cases b;simp only[jX,Gh];rfl
theorem zGn(a b:gy)(ih:∀x,x∈a.fields\/x∈a.fn->∀y,gu Pg 65 [.agg x.enc,.agg y.enc] (.one (.bool (jX x y)))):gu Pg 65 [.agg a.enc,.agg b.enc] (.one (.bool (jX a b))):=by
 have e:=PR a b;rw[gy.enc_eq a,gy.enc_eq b];refine zz5 (by simp) λo c hN hp=>?_;unfold zt4;simp;refine gp (zFk _ _) ?_;generalize decide (a.tags=b.tags)=p1 at e⊢;simp;apply gT<;>intro h1
 ·refine gp (zDW _ _) ?_;generalize decide (a.needs=b.needs)=p2 at e⊢;simp;apply gT<;>intro h2
  ·refine gp (zlY _ _) ?_;generalize decide (a.names=b.names)=p3 at e⊢;simp;apply gT<;>intro h3
   ·refine gp (zvx _ _ 65 [] jX λx hx y=>ih x (.inl hx) y) ?_;generalize lJ jX a.fields b.fields=p4 at e⊢;simp;apply gT<;>intro h4
    ·refine gp (zvx _ _ 65 [] jX λx hx y=>ih x (.inr hx) y) ?_;simp[e,h1,h2,h3,h4]
    ·simp at h4;simp[e,h4]
   ·simp at h3;simp[e,h3]
  ·simp at h2;simp[e,h2]
 ·simp at h1;simp[e,h1]
mutual
theorem Qd:∀(a b:gy),gu Pg 65 [.agg a.enc,.agg b.enc] (.one (.bool (jX a b)))
|.mk t n s f g,b=>zGn _ b λx hx y=>hx.elim (λh=>Qe f x h y) (λh=>Qe g x h y)
theorem Qe:∀(l:List gy) (x:gy),x∈l->∀y,gu Pg 65 [.agg x.enc,.agg y.enc] (.one (.bool (jX x y)))
|c::l,x,h,y=>by
 cases aN.1 h with
 |inl e=>rw[e];exact Qd c y
 |inr e=>exact Qe l x e y
end
end Go.Gr.P
namespace Go.Gr.P
open Go.Abs Go.Proofs
theorem yP(a:gy):gu Pg 102 [.agg a.enc] (.one (.bool (jX a idC))):=by
 refine zz4 (by simp) λo c hN hp=>?_;unfold zt3;simp;refine gp KX ?_;simp;refine gp (Qd a idC) ?_;simp;decide
theorem zDZ(a b:fI):gu Pg 101 [.one (.str a),.one (.str b)] (.one (.int .i64 (Lib.compareBytes a.data.toList b.data.toList))):=by
 have h:gu Pg 147 [.one (.str a),.one (.str b)] (.one (.int .i64 (Lib.compareBytes a.data.toList b.data.toList))):=by
  refine zrq (by simp) λo c hN hp=>?_;unfold zpS;simp
 refine zwz (by simp) λo c hN hp=>?_;unfold zsr;simp;refine gp h ?_;simp
end Go.Gr.P
namespace Go.Gr.P
open Go.Abs Go.Proofs List
theorem KY{c:Ctx}(hp:c.pure)(d:gy)(hl:d.needs.length<=zah){Q:Exit->St->Prop}{S:St}{g}(l0:List Nat)
  (h0:iM l0 S [(62,.c (.d (.int .i64 0))),(1,.c (.d (.rp d.enc 0))),(60,.c (.d (.sl false 2 (iF d.needs)))),(61,.c (.d (.int .i64 d.needs.length))),(3,.c (.map 0))] [.map []])
  (hQ:∀T b x,uH [] d.needs=true->Abs.look T 1=.c (.d (.rp d.enc 0))->Q (.exit 0) ⟨T,hpOf [b],x⟩)
  (hR:∀T m x,uH [] d.needs=false->Abs.look T 2=.c (.d (.bool false))->Q .ret ⟨T,m,x⟩):lU Pg c QU Q g S:=by
 unfold zah at hl;refine fU iC hp (λj:Nat=>j<=d.needs.length/\Ec d.needs j) (λj=>[(62,.c (.d (.int .i64 j))),(1,.c (.d (.rp d.enc 0))),(60,.c (.d (.sl false 2 (iF d.needs)))),(61,.c (.d (.int .i64 d.needs.length))),(3,.c (.map 0))]) (λj=>[.map (oC (d.needs.take j))]) (λj=>d.needs.length-j) 0 l0 ⟨by simp,λi h hj=>by omega⟩ h0 λj ⟨g1,g2⟩=>?_;unfold QU;simp;apply gT<;>intro h
 ·have hj:j<d.needs.length:=by simpa using h
  simp[aA hj];apply gT<;>intro h
  ·simp at h;by_cases hm:∃x,x∈d.needs.take j/\d.needs[j].1=x.1
   ·obtain⟨k,hk⟩:=Yx _ _ 0 hm;simp[hk];refine hR _ _ _ (Je λH=>?_) (by simp);obtain⟨x,hx,e⟩:=hm;obtain⟨i,hi,rfl⟩:=bW hx;simp at hi;rw[getElem_take]at e;exact(H j hj hj).2 i (by omega) e.symm
   ·have hk:=Yw d.needs[j].1 (d.needs.take j) 0 λx hx e=>hm ⟨x,hx,e⟩;simp[hk];refine fJ (j+1) [0] ⟨by omega,λi hi hij=>?_⟩ (by omega) ?_
    ·by_cases e:i=j
     ·subst e;refine⟨h,λk hk e=>hm ⟨d.needs[k],?_,e.symm⟩⟩;exact List.mem_iff_getElem.2 ⟨k,by simp;omega,by rw[getElem_take]⟩
     ·exact g2 i hi (by omega)
    ·simp;exact⟨wI,by rw[zGX,aJ hj,zCj],λa b hab=>zH7 hab⟩
  ·simp at h;exact hR _ _ _ (Je λH=>(H j hj hj).1 h) (by simp)
 ·have hj:j=d.needs.length:=by simp at h;omega
  subst hj;exact hQ _ _ _ (Yt g2) (by simp)
theorem KZ{c:Ctx}(hp:c.pure)(d:gy)(hn:d.names.length=d.fields.length)(hl:d.fields.length<=zah){Q:Exit->St->Prop}{S:St}{g}
  (ih:∀x,x∈d.fields\/x∈d.fn->gu Pg 63 [.agg x.enc] (.one (.bool (iU x))))
  (h0:iM [] S [(82,.c (.d (.int .i64 0))),(1,.c (.d (.rp d.enc 0))),(80,.c (.d (.sl false 5 (d.fields.map gy.enc)))),(81,.c (.d (.int .i64 d.fields.length)))] [])
  (hQ:∀T m x,(uk d.names&&d.fields.all λc=>iU c&& !jX c idC)=true->Abs.look T 1=.c (.d (.rp d.enc 0))->Q (.exit 2) ⟨T,m,x⟩)
  (hR:∀T m x,(uk d.names&&d.fields.all λc=>iU c&& !jX c idC)=false->Abs.look T 2=.c (.d (.bool false))->Q .ret ⟨T,m,x⟩):lU Pg c QV Q g S:=by
 unfold zah at hl;refine fU iC hp (λj:Nat=>j<=d.fields.length/\(∀i (h:i+1<d.names.length),i+1<j->zD d.names[i+1] d.names[i]=false)/\((d.fields.drop j).all λc=>iU c&& !jX c idC)=d.fields.all λc=>iU c&& !jX c idC) (λj=>[(82,.c (.d (.int .i64 j))),(1,.c (.d (.rp d.enc 0))),(80,.c (.d (.sl false 5 (d.fields.map gy.enc)))),(81,.c (.d (.int .i64 d.fields.length)))]) (λj=>[]) (λj=>d.fields.length-j) 0 [] ⟨by simp,λi h hj=>by omega,by simp⟩ h0 λj ⟨g1,g2,g3⟩=>?_;unfold QV;simp;apply gT<;>intro h
 ·have hj:j<d.fields.length:=by simpa using h
  have hj':j<d.names.length:=by omega
  rw[aF hj,all_cons]at g3;simp[aA hj];cases j with
  | zero=>
   simp;refine gp (ih _ (.inl (aP hj))) ?_;simp;apply gT<;>intro h1
   ·simp at h1;refine gp (yP _) ?_;simp;refine⟨by decide,gT (λh2=>?_) (λh2=>?_)⟩
    ·refine hR _ _ _ ?_ (by simp);rw[<-g3,h1,h2];simp
    ·simp at h2;rw[h1,h2]at g3;exact fJ (0+1) [] ⟨by omega,λi hi hij=>by omega,by simpa using g3⟩ (by omega) (by simp;exact wI)
   ·simp at h1;refine⟨by decide,hR _ _ _ ?_ (by simp)⟩;rw[<-g3,h1];simp
  | succ k=>
   have hk:k<d.names.length:=by omega
   have hw:IntKind.i64.wrap (k:Int)=k:=wI;simp[hw,aA hk,aA hj',show(0:Int)<(k:Int)+1 by omega];refine gp (zDZ _ _) ?_;have hcmp:=zIv d.names[k+1] d.names[k];simp;rw[<-hcmp];apply gT<;>intro hle
   ·refine gp (ih _ (.inl (aP hj))) ?_;simp;apply gT<;>intro h1
    ·simp at h1;refine gp (yP _) ?_;simp;refine⟨by decide,gT (λh2=>?_) (λh2=>?_)⟩
     ·refine hR _ _ _ ?_ (by simp);rw[<-g3,h1,h2];simp
     ·simp at h2;rw[h1,h2]at g3;exact fJ ((k+1)+1) [] ⟨by omega,λi hi hij=>by
       by_cases e:i=k
       ·subst e;exact hle
       ·exact g2 i hi (by omega),by simpa using g3⟩ (by omega) (by simp;exact wI)
    ·simp at h1;refine⟨by decide,hR _ _ _ ?_ (by simp)⟩;rw[<-g3,h1];simp
   ·refine⟨by decide,hR _ _ _ ?_ (by simp)⟩;rw[PW (by omega) hle];try rfl
 ·have hj:j=d.fields.length:=by simp at h;omega
  subst hj;refine hQ _ _ _ ?_ (by simp);rw[PX λi h=>g2 i h (by omega),<-g3,aO];try rfl
theorem zHd (d:gy) (ih:∀x,x∈d.fields\/x∈d.fn->gu Pg 63 [.agg x.enc] (.one (.bool (iU x)))):gu Pg 63 [.agg d.enc] (.one (.bool (iU d))):=by
 have e:=P6 d;refine zAX (by simp) λo c hN hp=>?_;have hl:d.needs.length<=zah/\d.fields.length<=zah/\d.fn.length<=zah:=by
  have:=o.1;rw[gy.enc_eq]at this;simp only[DV.ok,D.okL,D.ok,Ig,Ih,Bc,aU]at this;exact⟨this.2.1.1,this.2.2.2.1.1,this.2.2.2.2.1.1⟩
 have hl3:=hl.2.2;unfold zah at hl3;unfold zvc;by_cases k1:d.tags.length=6;rotate_left
 ·simp[show¬((d.tags.length:Int)=6) by omega,e,nz,k1]
 by_cases k2:d.names.length=d.fields.length;rotate_left
 ·simp[k1,show¬((d.names.length:Int)=(d.fields.length:Int)) by omega,e,nz,k2]
 have k2i:((d.names.length:Int)=(d.fields.length:Int))=True:=eq_true (by omega);have k1i:(d.tags.length:Int)=6:=by omega
 have ht4:d.tags[4]?=some (iE d 4):=by unfold iE;rw[getD,aA (by omega)];try rfl
 have ht5:d.tags[5]?=some (iE d 5):=by unfold iE;rw[getD,aA (by omega)];try rfl
 have fin:(d.fn.length=0\/d.fn.length=2)->¬(iE d 4≠0/\0<d.names.length\/iE d 5≠0/\0<d.fn.length)->iU d=(uH [] d.needs&&((uk d.names&&d.fields.all λc=>iU c&& !jX c idC)&&zF d.fn)):=λh h'=>by
  rw[e];unfold nz;rw[bz ⟨k1,k2,h⟩,bz h'];simp[Bool.and_assoc]
 have fon:¬(d.fn.length=0\/d.fn.length=2)\/(iE d 4≠0/\0<d.names.length\/iE d 5≠0/\0<d.fn.length)->iU d=false:=λh=>by
  rw[e];unfold nz;rcases h with h|h
  ·rw[bK (λx=>h x.2.2)];try rfl
  ·rw[bK (p:=¬_) (λx=>x h)];simp
 have kn:d.names.length=0\/0<d.names.length:=by omega
 have kf:(d.fn=[]\/∃x y,d.fn=[x,y])\/¬(d.fn.length=0\/d.fn.length=2):=by
  match d.fn with
  |[]=>simp
  |[_]=>simp
  |[x,y]=>simp
  |_::_::_::_=>simp
 rcases kf with k3|k3;rotate_right
 ·have hf:=fon (.inl k3);have a2:((d.fn.length:Int).tmod 2=0)->(2<(d.fn.length:Int)):=by
   intro h;have h2:((d.fn.length:Int).tmod 2)=(d.fn.length:Int)%2:=Int.tmod_eq_emod_of_nonneg (by omega);omega
  simp[k1i,k2i];apply gT<;>intro h
  ·have h3:=a2 (by simpa using h);simp[h3,hf]
  ·simp[hf]
 rcases k3 with k3|⟨x0,y0,k3⟩
 ·have k3l :d.fn.length=0:=by rw[k3];try rfl
  by_cases k4:iE d 4=0;rotate_left
  ·rcases kn with kn|kn;rotate_left
   ·have hf:=fon (.inr (.inl ⟨k4,kn⟩));simp[k1i,k2i,k3,ht4,ht5,k4,kn,show(0:Int)<d.names.length by omega,hf]
   ·have kn':((0:Int)=d.fields.length)=True:=eq_true (by omega);by_cases k5:iE d 5=0
    all_goals
     first
       | (
         have hf:=fin (by omega) (by omega);simp[k1i,k2i,k3,ht4,ht5,k4,kn,kn',k5];refine KY hp d hl.1 [0] (by simp) (λT b x H e1=>?_) (λT m x H e2=>?_)
         ·simp[e1];refine KZ hp d k2 hl.2.1 ih (by simp[e1]) (λT m x H' e1=>?_) (λT m x H' e2=>?_)
          ·simp[e1,k3];simp[hf,H,H',k3,zF]
          ·simp[e2,hf,H,H']
         ·simp[e2,hf,H])
       | (
         have hf:=fon (.inr (.inr ⟨k5,by omega⟩))
         simp[k1i,k2i,k3,ht4,ht5,k4,kn,kn',k5,hf])
  ·by_cases k5:iE d 5=0
   all_goals
    first
      | (
        have hf:=fin (by omega) (by omega);simp[k1i,k2i,k3,ht4,ht5,k4,k5];refine KY hp d hl.1 [0] (by simp) (λT b x H e1=>?_) (λT m x H e2=>?_)
        ·simp[e1];refine KZ hp d k2 hl.2.1 ih (by simp[e1]) (λT m x H' e1=>?_) (λT m x H' e2=>?_)
         ·simp[e1,k3];simp[hf,H,H',k3,zF]
         ·simp[e2,hf,H,H']
        ·simp[e2,hf,H])
      | (
        have hf:=fon (.inr (.inr ⟨k5,by omega⟩))
        simp[k1i,k2i,k3,ht4,ht5,k4,k5,hf])
 ·have k3l : d.fn.length=2:=by rw[k3];try rfl
  by_cases k4:iE d 4=0;rotate_left
  ·rcases kn with kn|kn;rotate_left
   ·have hf:=fon (.inr (.inl ⟨k4,kn⟩));simp[k1i,k2i,k3,ht4,ht5,k4,kn,show(0:Int)<d.names.length by omega,hf]
   ·have kn' :((0:Int)=d.fields.length)=True:=eq_true (by omega);by_cases k5:iE d 5=0
    all_goals
     first
       | (
         have hf:=fin (by omega) (by omega);simp[k1i,k2i,k3,ht4,ht5,k4,kn,kn',k5];refine KY hp d hl.1 [0] (by simp) (λT b x H e1=>?_) (λT m x H e2=>?_)
         ·simp[e1];refine KZ hp d k2 hl.2.1 ih (by simp[e1]) (λT m x H' e1=>?_) (λT m x H' e2=>?_)
          ·simp[e1,k3];rw[H,H',k3,zF]at hf;refine gp (ih x0 (.inr (by simp[k3]))) ?_;simp[e1,k3];apply gT<;>intro m1
           ·refine gp (ih y0 (.inr (by simp[k3]))) ?_;simp[e1,k3];apply gT<;>intro m2
            ·refine gp (yP x0) ?_;simp[e1,k3];apply gT<;>intro m3
             ·refine gp (yP y0) ?_;simp;rw[hf,m1,m2,m3];simp
             ·simp at m3;rw[hf,m1,m2,m3];simp
            ·simp at m2;rw[hf,m1,m2];simp
           ·simp at m1;rw[hf,m1];simp
          ·simp[e2,hf,H,H']
         ·simp[e2,hf,H])
       | (
         have hf:=fon (.inr (.inr ⟨k5,by omega⟩))
         simp[k1i,k2i,k3,ht4,ht5,k4,kn,kn',k5,hf])
  ·by_cases k5:iE d 5=0
   all_goals
    first
      | (
        have hf:=fin (by omega) (by omega);simp[k1i,k2i,k3,ht4,ht5,k4,k5];refine KY hp d hl.1 [0] (by simp) (λT b x H e1=>?_) (λT m x H e2=>?_)
        ·simp[e1];refine KZ hp d k2 hl.2.1 ih (by simp[e1]) (λT m x H' e1=>?_) (λT m x H' e2=>?_)
         ·simp[e1,k3];rw[H,H',k3,zF]at hf;refine gp (ih x0 (.inr (by simp[k3]))) ?_;simp[e1,k3];apply gT<;>intro m1
          ·refine gp (ih y0 (.inr (by simp[k3]))) ?_;simp[e1,k3];apply gT<;>intro m2
           ·refine gp (yP x0) ?_;simp[e1,k3];apply gT<;>intro m3
            ·refine gp (yP y0) ?_;simp;rw[hf,m1,m2,m3];simp
            ·simp at m3;rw[hf,m1,m2,m3];simp
           ·simp at m2;rw[hf,m1,m2];simp
          ·simp at m1;rw[hf,m1];simp
         ·simp[e2,hf,H,H']
        ·simp[e2,hf,H])
      | (
        have hf:=fon (.inr (.inr ⟨k5,by omega⟩))
        simp[k1i,k2i,k3,ht4,ht5,k4,k5,hf])
mutual
theorem Qf:∀(a:gy),gu Pg 63 [.agg a.enc] (.one (.bool (iU a)))
|.mk t n s f g=>zHd _ λx hx=>hx.elim (λh=>Qg f x h) (λh=>Qg g x h)
theorem Qg:∀(l:List gy) (x:gy),x∈l->gu Pg 63 [.agg x.enc] (.one (.bool (iU x)))
|c::l,x,h=>by
 cases aN.1 h with
 |inl e=>rw[e];exact Qf c
 |inr e=>exact Qg l x e
end
theorem xk{ts:List (Nat × Nat)}(h:ts.length=([]:List Blk).length):ts=[]:=by simpa using h
theorem mF{ts:List (Nat × Nat)}{b:Blk}(h:ts.length=[b].length):∃t,ts=[t]:=by
 match ts,h with
 |[t],_=>exact⟨t,rfl⟩
theorem GJ{ts:List (Nat × Nat)}{b c:Blk}(h:ts.length=[b,c].length):∃t u,ts=[t,u]:=by
 match ts,h with
 |[t,u],_=>exact⟨t,u,rfl⟩
theorem H7:MCall Pg 66 [] [] (.ag [.msl 1 0 0 6,.d (.sl true 2 []),.d (.sl true 1 []),.d (.sl true 5 []),.d (.sl true 5 [])]) [.arr 1 ((encI lL).map (·.map .d))]:=by
 refine zAW ⟨by simp,by simp,by simp,by simp,by simp,by simp[encI,lL,live],by simp[encI,lL]⟩ λts hts ok hb c hN hp=>?_;obtain rfl:=xk hts;unfold KT;simp;exact fT [1] [] (by simp[encI,lL])
theorem zFw(l:List (fI × Int))(hl:l.length<=1073741824):MCall Pg 103 [.c (.d (.sl false 2 (iF l)))] [] (.c (.msl 2 0 0 l.length)) [.arr 2 ((iF l).map (·.map .d))]:=by
 refine zra ⟨by simp,by simp,by simp,by simp,by simp,by simp[iF,live],by simp[iF]⟩ λts hts ok hb c hN hp=>?_;obtain rfl:=xk hts;unfold KW;cases l with
 | nil=>
  simp[iF];refine⟨fo [.t 2] ?_,fo [] ?_⟩
  ·simp;exact fQ [0] []
  ·simp;exact fQ [0] []
 |cons x l=>
  simp[iF];refine⟨by simp at hl;omega,?_⟩;refine fo [] ?_;simp;exact fQ [0] []
theorem zFx(l:List (fI × Int))(g:FuncId)(caps:List D)(q:fI × Int->Bool)(H:∀x,x∈l->gu Pg g (.agg (zk x)::caps.map .one) (.one (.bool (q x)))):
  gu Pg 172 [.one (.sl false 2 (iF l)),.one (.fn (.func g) caps)] (.one (.int .i64 (ix q 0 l))):=by
 refine zqL (by simp) λo c' hN hp=>?_;have hl:l.length<=zah:=by
  have:=o.1;simp only[DV.ok,D.ok]at this;simpa using this.1
 unfold zah at hl;unfold zpz;simp;refine fV iC hp Qc [8] (λj:Nat=>j<=l.length/\ix q j (l.drop j)=ix q 0 l) (λj=>[.c (.d (.int .i64 j))]) (λ_=>[]) (λj=>l.length-j) 0 [] ⟨by simp,by simp⟩ (by simp[Qc]) λj ⟨h1,h2⟩=>?_;unfold zpr Qc;simp;apply gT<;>intro h
 ·simp at h;have hj:j<l.length:=by omega
  simp[aA hj];rw[aF hj,ix]at h2;refine gp (H _ (aP hj)) ?_;simp;refine gT (λh'=>?_) (λh'=>?_)
  ·rw[aC h']at h2;exact h2
  ·rw[Bool.not_true]at h';rw[aB (by rw[h'];simp)]at h2;refine fJ (j+1) [] ⟨by omega,h2⟩ (by omega) ?_;simp;exact wI
 ·have hj:j=l.length:=by simp at h;omega
  rw[<-h2,hj];simp[ix]
theorem zBy(l:List (fI × Int))(g:FuncId)(caps:List D)(q:fI × Int->Bool)(H:∀x,x∈l->gu Pg g (.agg (zk x)::caps.map .one) (.one (.bool (q x)))):
  gu Pg 148 [.one (.sl false 2 (iF l)),.one (.fn (.func g) caps)] (.one (.bool (l.any q))):=by
 refine zqt (by simp) λo c' hN hp=>?_;unfold zpm;simp;refine gp (zFx l g caps q H) ?_;simp[Yz]
theorem zFy(m n:fI × Int):gu Pg 149 [.agg (zk m),.one (.rp (zk n) 0)] (.one (.bool (decide (m.1=n.1)))):=by
 refine zxm (by simp) λo c' hN hp=>?_;unfold zsI;simp[zk]
theorem zBz(a b:List (fI × Int))(ha:a.length<=1073741824)(hb:b.length<=1073741824):gu Pg 104 [.one (.sl false 2 (iF a)),.one (.sl false 2 (iF b))] (.one (.sl false 2 (iF (oM a b)))):=by
 refine zyW (by simp) λo c' hN hp=>?_;unfold zty;simp;refine gU [] (zFw a ha) ?_;simp;have K:∀j,(b.take j).length<=1073741824:=λj=>by rw[bH];omega
 refine fV iC hp QX [12,5] (λj:Nat=>j<=b.length) (λj=>[.c (.d (.int .i64 j)),.c (.msl 2 0 0 (oM a (b.take j)).length)]) (λj=>[.arr 2 ((iF (oM a (b.take j))).map (·.map .d))]) (λj=>b.length-j) 0 [0] (by simp) (by simp[QX,oM]) λj h1=>?_;unfold zsH QX;simp;apply gT<;>intro h
 ·have hj:j<b.length:=by simpa using h
  simp[aA hj];have hc:gu Pg 148 [.one (.sl false 2 (iF a)),.one (.fn (.func 149) [.rp (zk b[j]) 0])] (.one (.bool (a.any λm=>decide (m.1=b[j].1)))):=zBy a 149 [.rp (zk b[j]) 0] (λm=>decide (m.1=b[j].1)) λm hm=>zFy m b[j];have hs:oM a (b.take (j+1))=if(a.any λm=>decide (m.1=b[j].1))=true then oM a (b.take j)else oM a (b.take j)++[b[j]]:=by
   unfold oM;rw[aJ hj,cB];by_cases hq:(a.any λm=>decide (m.1=b[j].1))=true<;>simp[hq]
  generalize (a.any λm=>decide (m.1=b[j].1))=t at hc hs;refine gY [1] (MCall.frzB (bs:=[.box ((zk b[j]).map .d)]) (args:=[.c (.d (.sl false 2 (iF a))),.c (.fn (.func 149) [.ptr 0 0])]) hc (by simp) (by simp) (by simp)) (by simp[zk]) ?_;simp[zk];have hlen:(oM a (b.take j)).length<=2147483648:=by
   unfold oM;have:=bQ (λn:fI × Int=> !a.any λm=>decide (m.1=n.1)) (b.take j);have:=K j;simp only[aX];omega
  apply gT<;>intro h
  ·simp at h;refine⟨by omega,?_⟩;rw[h]at hs;simp at hs;refine fJ (j+1) [2] (by omega) (by omega) ?_;simp[hs];exact⟨wI,by rw[aD (by simp)];simp[iF]⟩
  ·simp at h;rw[h]at hs;simp at hs;refine fJ (j+1) [0] (by omega) (by omega) ?_;simp[hs];exact wI
 ·have hj:j=b.length:=by simp at h;omega
  subst hj;simp;rw[aD (by simp)]
theorem Em(c:gy)(h:c.fn.length=0\/c.fn.length=2):gu Pg 106 [.agg c.enc] (.tup [.agg (il c).1.enc,.agg (il c).2.enc]):=by
 refine zz6 (by simp) λo c' hN hp=>?_;unfold zt5;simp;apply gT<;>intro h1
 ·have h0:c.fn=[]:=by simpa using h1
  refine gp KX ?_;simp;refine gp KX ?_;simp[il,h0]
 ·have h0:c.fn≠[]:=by simpa using h1
  have h2:c.fn.length=2:=h.resolve_left λe=>h0 (aT.1 e);obtain⟨x,y,hxy⟩:∃x y,c.fn=[x,y]:=by
   match c.fn,h2 with
   |[x,y],_=>exact⟨x,y,rfl⟩
  simp[hxy,il];decide
theorem Qh(a b s x:D)(h1:a.one=true)(f g:gy):MCall Pg 99 [.c (.ptr 0 0),.ag (f.enc.map .d),.ag (g.enc.map .d)] [.box [.d a,.d b,.d s,.d x,.d (.sl true 5 [])]] (.tup []) [.box [.d a,.d b,.d s,.d x,.d (.sl true 5 ((lM f g).map gy.enc))]]:=by
 refine zvd nE λts hts ok hb c hN hp=>?_;obtain⟨t,rfl⟩:=mF hts;unfold QW;simp;refine gp (yP f) ?_;simp;apply gT<;>intro h2
 ·simp at h2;refine gp (yP g) ?_;simp;apply gT<;>intro h3
  ·simp at h3;exact fT [0] [1] (by simp[lM,h2,h3])
  ·simp at h3;exact fT [0] [1] (by simp[lM,h2,h3])
 ·simp at h2;exact fT [0] [1] (by simp[lM,h2])
end Go.Gr.P
