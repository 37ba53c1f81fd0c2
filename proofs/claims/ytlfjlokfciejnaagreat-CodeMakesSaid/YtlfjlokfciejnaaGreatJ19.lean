/- Of ours. -/
import Derived.Test.YtlfjlokfciejnaaGreatJ18
import Derived.Recover
set_option maxRecDepth 20000
set_option maxHeartbeats 4000000
set_option linter.unusedVariables false
set_option linter.unusedSectionVars false
set_option linter.unusedSimpArgs false
set_option linter.defProp false
set_option linter.unnecessarySimpa false
open List renaming length->lN
open Bool renaming true->tT,false->oK
open Option renaming some->sS,none->nN
namespace Go.Gr
open Go.Abs Go.Proofs List
def zF2{a b:f_}{n:Int}(ha:H_ a=tT)(hb:H_ b=tT)(h0:0<=n)(h1:n<=1000000000):h_ Pg 41 [.agg a.enc,.agg b.enc,.one (.int .i64 (2*n+2))] (.agg (zN 32 a b (2*n+2)).enc):=by
 refine zCv oC λo c hN hp=>?_;have hm:=LC 32 a b (2*n+2) (Gs ha) (Gs hb) (by have:=O5 ha;have:=O5 hb;omega) oM oM;have na:=Bi a;have nb:=Bi b;rw[ha]at na;rw[hb]at nb;have hx:=zAJ (lb:=2*n+2) oM oM;have hf:wL (2*n+2)≠0:=by unfold wL;rw[aC oM];omega
 have h2:¬2*n+2=0:=oM;generalize zN 32 a b (2*n+2)=R at*
 generalize 2*n+2=lb at*
 simp[zqi];apply gQ na;simp;apply gQ nb;simp[h2,hx,hf];apply gQ hm;simp
abbrev Gv:A_:=.box [.d (.int .i64 0),.d (.int .i64 0),.d (.str (bs [])),.d (.sl tT 1 []),.d (.sl tT 1 []),.d (.sl tT 4 []),.d (.sl tT 5 []),.d (.sl tT 8 [])]
def EO(M G:Nat)(c:n_):Prop:=V? M G c->Q_ c<=1000000000->h_ Pg 21 [.agg c.enc] (.agg (tC c).enc)
def zDA{M G:Nat}(hM:M<=1000000000)(c:n_)(ih:∀x,x∈c.b_->EO M G x):EO M G c:=λho hs=>by
 refine zzG oC λo cx hN hp=>?_;have hsz:=lc c;have hkl:=Cv c.b_;rw[zDT];unfold zor;simp;refine fT [.t 3] ?_;simp;refine fM gm hp (λY:Nat × List n_=>Y.1<=lN c.b_/\Y.2=(c.b_.take Y.1).map tC) (λY=>[(4,.c (.d (.int .i64 Y.1))),(3,.c (.x_ 8 2 0 (lN Y.2))),(2,.c (.ptr 1 0)),(1,.c (.ptr 0 0))]) (λY=>[.box (c.enc.map .d),Gv,.arr 8 ((Y.2.map n_.enc).map (·.map .d))]) (λY=>lN c.b_-Y.1) (0,[]) [0,1,2] oC oC λ⟨j,K⟩ ⟨hj,hK⟩=>?_;unfold zlb;simp only at hj hK;simp;have hl:lN K=j:=by rw[hK];simp;omega
 apply gM<;>intro h
 .have hj:j<lN c.b_:=uM h;have hw:=wI (n:=(j:Int)+1);have hx:=ih _ (aO hj);have hsj:=G9 hj;have hok:V? M G c.b_[j]:=by
   let⟨k,n,t,is,ns,ts,cs,ks⟩:=c;rw[V?]at ho;exact Uw.1 ho.2 _ (aO hj)
  have htK:take (lN K) (List.map ((λx=>List.map AC.d x)∘n_.enc) K)=List.map ((λx=>List.map AC.d x)∘n_.enc) K:=aD oC;have hn:K++[tC c.b_[j]]=(c.b_.take (j+1)).map tC:=by rw[aN hj,hK,dO];try rfl
  simp[hj];refine gQ (hx hok oM) ?_;simp;refine jV ?_;refine fE (j+1,K++[tC c.b_[j]]) [0,1,3] ⟨qM,hn⟩ qM ?_;simp[hw,htK]
 .have hj:j=lN c.b_:=oI h;subst hj;rw[bJ]at hK;rw[<-hK];have hT:take (lN K) (List.map n_.enc K)=List.map n_.enc K:=aD oC;refine fQ [2] ?_;simp only[D5,JW,JV,Ef,aC,aB,reduceIte,Nat.reduceEqDiff,CV,yG,A_.fz_arr,F8,DZ];refine St.cut7 (F:=w_ Pg cx _ _ _) [(1,.c (.ptr 0 0)),(2,.c (.ptr 1 0)),(3,.c (.d (.sl oK 8 (K.map n_.enc))))] [.box (AO c (.d (.sl oK 8 (c.b_.map n_.enc)))),Gv,.dead] ?_ ?_ λT hT=>?_
  .simp[iE,hT]
  .intro i;rw[c.l_];rcases(show i=0\/i=1\/i=2\/3<=i from by omega)with rfl|rfl|rfl|q
   .simp[iE]
   .simp[iE]
   .simp[iE]
   .simp[iE,wR (show [A_.box (AO c (.d (.sl oK 8 (c.b_.map n_.enc)))),Gv,.dead].length<=i from q),show i≠2 from by omega];rw[wR (by exact q)];try rfl
  simp only[dx,bv,false_implies,implies_true,and_true]at hT;let⟨k1,k2,k3⟩:=hT;by_cases k:c.d_=21
  .let⟨h1,h2,h3,a,b,e,na,nb⟩:lN c.b_=1/\0<=c.n/\c.n<M/\∃a b,c.types=[a,b]/\H_ a=tT/\H_ b=tT:=by
    let⟨k',n,t,is,ns,ts,cs,ks⟩:=c;rw[V?]at ho;have k:k'=21:=k;subst k;exact ho.1.1.inv
   have hm:=zF2 na nb h2 oM;rw[aC k,e];have w1:=wI (n:=2*c.n);have w2:=wI (n:=2*c.n+2);simp[k1,k2,k3,k,e,w1,w2];refine gQ hm ?_;simp[k1,k2,k3];exact⟨oD,by rw[n_.l_];rfl⟩
  .rw[aB k];simp[k1,k2,k3,k];rw[n_.l_];try rfl
mutual
def zwu{M G:Nat}(hM:M<=1000000000):∀c:n_,EO M G c
|.mk k n t is ns ts cs ks=>zDA hM _ (zuv hM ks)
def zuv{M G:Nat}(hM:M<=1000000000):∀l:List n_,∀x,x∈l->EO M G x
|[],x,hx=>by cases hx
|c::l,x,hx=>by
 rcases aM.1 hx with e|e
 .rw[e];exact zwu hM c
 .exact zuv hM l x e
end
def zJV(c:n_):h_ Pg 43 [.agg c.enc] (.one (.int .i64 (vJ c))):=by
 refine zE5 oC λo cx hN hp=>?_;let⟨R,hR⟩:=oJ (vJ c);rw[hR];unfold vJ at hR;unfold zs2;by_cases k0:c.d_=0
 .simp[k0]at hR⊢;exact hR
 by_cases k1:c.d_=20
 .simp[k1]at hR⊢;exact hR
 by_cases k2:c.d_=1
 .simp[k2]at hR⊢;exact hR
 by_cases k3:c.d_=2
 .simp[k3]at hR⊢;exact hR
 by_cases k4:c.d_=3
 .simp[k4]at hR⊢;exact hR
 by_cases k5:c.d_=5
 .simp[k5]at hR⊢;exact hR
 by_cases k6:c.d_=6
 .simp[k6]at hR⊢;exact hR
 simp[k0,k1,k2,k3,k4,k5,k6]at hR⊢;exact hR
@[simp] theorem n_.enc_g6(c:n_)(h:6<lN c.enc):c.enc[6]=.sl oK 5 (c.cos.map gT.enc):=by simp only[c.l_];rfl
@[simp] theorem gT.enc_g0(c:gT)(h:0<lN c.enc):c.enc[0]=.sl oK 1 (encI c.tags):=by simp only[c.l_];rfl
@[simp] theorem gT.enc_g4(c:gT)(h:4<lN c.enc):c.enc[4]=.sl oK 5 (c.fn.map gT.enc):=by simp only[c.l_];rfl
def EP(c:n_):Prop:=∀m,zP c->jD m c->Q_ c<=10000000->h_ Pg 22 [.agg c.enc] (.agg (tF c).enc)
def zF3(c:n_)(ih:∀x,x∈c.b_->EP x):EP c:=λm hpc hwf hs=>by
 refine zvW oC λo cx hN hp=>?_;have hsz:=lc c;have hkl:=Cv c.b_;rw[zGq];unfold zlc;simp;refine fT [.t 3] ?_;simp;refine fM gm hp (λY:Nat × List n_=>Y.1<=lN c.b_/\Y.2=(c.b_.take Y.1).map tF) (λY=>[(4,.c (.d (.int .i64 Y.1))),(3,.c (.x_ 8 2 0 (lN Y.2))),(2,.c (.ptr 1 0)),(1,.c (.ptr 0 0))]) (λY=>[.box (c.enc.map .d),Gv,.arr 8 ((Y.2.map n_.enc).map (·.map .d))]) (λY=>lN c.b_-Y.1) (0,[]) [0,1,2] oC oC λ⟨j,K⟩ ⟨hj,hK⟩=>?_;unfold zjq;simp only at hj hK;simp;have hl:lN K=j:=by rw[hK];simp;omega
 apply gM<;>intro h
 .have hj:j<lN c.b_:=uM h;have hw:=wI (n:=(j:Int)+1);have hx:=ih _ (aO hj);have hsj:=G9 hj;let⟨m',hok,hwk⟩:∃m',zP c.b_[j]/\jD m' c.b_[j]:=by
   let⟨k,n,t,is,ns,ts,cs,ks⟩:=c;rw[zP]at hpc;rw[jD]at hwf;have h1:=LG.1 hpc.2.2 _ (aO hj);by_cases q5:k=5
   .subst q5;have hl:=hwf.2.2.2.2.1 rfl
    match ks,hl,hwf,j,hj,h1 with
    |[x],_,hw,0,_,h1=>exact⟨m+1,h1,by have:=hw.2.2.2.2.2;rw[h?]at this;show jD (m+1) x;simpa using this.1⟩
   .exact⟨_,h1,Kl q5 hj hwf.2.2.2.2.2⟩
  have htK:take (lN K) (List.map ((λx=>List.map AC.d x)∘n_.enc) K)=List.map ((λx=>List.map AC.d x)∘n_.enc) K:=aD oC;have hn:K++[tF c.b_[j]]=(c.b_.take (j+1)).map tF:=by rw[aN hj,hK,dO];try rfl
  simp[hj];refine gQ (hx m' hok hwk oM) ?_;simp;refine jV ?_;refine fE (j+1,K++[tF c.b_[j]]) [0,1,3] ⟨qM,hn⟩ qM ?_;simp[hw,htK]
 .have hj:j=lN c.b_:=oI h;subst hj;rw[bJ]at hK;have hT:take (lN K) (List.map n_.enc K)=List.map n_.enc K:=aD oC;refine fQ [2] ?_;simp only[D5,JW,JV,Ef,aC,aB,reduceIte,Nat.reduceEqDiff,CV,yG,A_.fz_arr,F8,DZ];refine St.cut7 (F:=w_ Pg cx _ _ _) [(1,.c (.ptr 0 0)),(2,.c (.ptr 1 0)),(3,.c (.d (.sl oK 8 (K.map n_.enc))))] [.box (AO c (.d (.sl oK 8 (c.b_.map n_.enc)))),Gv,.dead] ?_ ?_ λT hT=>?_
  .simp[iE,hT]
  .intro i;rw[c.l_];rcases(show i=0\/i=1\/i=2\/3<=i from by omega)with rfl|rfl|rfl|q
   .simp[iE]
   .simp[iE]
   .simp[iE]
   .simp[iE,wR (show [A_.box (AO c (.d (.sl oK 8 (c.b_.map n_.enc)))),Gv,.dead].length<=i from q),show i≠2 from by omega];rw[wR (by exact q)];try rfl
  simp only[dx,bv,false_implies,implies_true,and_true]at hT;let⟨k1,k2,k3⟩:=hT;by_cases k:c.d_=22;rotate_left
  .rw[aB k,<-hK];simp[k1,k2,k3,k];rw[n_.l_];try rfl
  have ht:=Od (Q_ c) c m (aJ _) hpc hwf;let⟨d,x,e1,e2,gd,hpx,hsx⟩:∃d x,c.cos=[d]/\K=[tF x]/\xg 16 d/\(zP x/\jD m x)/\Q_ x<=Q_ c:=by
   let⟨k',n,t,is,ns,ts,cs,ks⟩:=c;have k:k'=22:=k;subst k;rw[zP]at hpc;let⟨⟨d,e,g⟩,h1⟩:=hpc.2.1 rfl
   match ks,h1 with
   |[x],_=>
    rw[jD,h?]at hwf;exact⟨d,x,e,hK,g,⟨LG.1 hpc.2.2 x oC,uM hwf.2.2.2.2.2.1⟩,by simp only[Q_,B_];omega⟩
  rw[aC k,<-hK,e1,e2];have hx:=Od (Q_ x) x m (aJ _) hpx.1 hpx.2;have hbig:16*Q_ x<=199999984:=oM;generalize tF x=x' at*
  let⟨R,hR⟩:=oJ (CK d x');rw[show CK ([d].getD 0 r?) ([x'].getD 0 noC)=R from hR];unfold CK at hR;simp only at hR;let⟨d',hd'⟩:=oJ (if x'.d_=22 then uT 32 (x'.cos.getD 0 r?) d else d);let⟨k',hk'⟩:=oJ (if x'.d_=22 then x'.b_.getD 0 noC else x');rw[hd',hk']at hR;have hx0:x'.d_=22->∃e y,x'.cos=[e]/\x'.b_=[y]/\y.d_≠22/\xg 200000000 e:=λq=>by
   let⟨k0,n,t,is,ns,ts,cs,ks⟩:=x';have q:k0=22:=q;subst q;have:=hx.tc;rw[A8]at this;let⟨e,y,h1,h2,h3,h4⟩:=this.2.1 rfl;exact⟨e,y,h1,h2,h3,h4.le oM⟩
  simp[k1,k2,k3,k,e1,e2];refine fM gm hp (λY:gT × n_=>(Y.2.d_=22->∃e y,Y.2.cos=[e]/\Y.2.b_=[y]/\y.d_≠22/\xg 200000000 e)/\xg (if Y.2.d_=22 then 200000000 else 400000000) Y.1/\(if Y.2.d_=22 then uT 32 (Y.2.cos.getD 0 r?) Y.1 else Y.1)=d'/\(if Y.2.d_=22 then Y.2.b_.getD 0 noC else Y.2)=k') (λY=>[(6,.c (.ptr 4 0)),(5,.c (.ptr 3 0)),(2,.c (.ptr 1 0))]) (λY=>[.box (AO c (.d (.sl oK 8 [x'.enc]))),Gv,.dead,.box (Y.1.enc.map .d),.box (Y.2.enc.map .d)]) (λY=>if Y.2.d_=22 then 1 else 0) (d,x') [0,1,2,3,4] ⟨hx0,by split<;>exact gd.le oM,hd',hk'⟩ (by simp[k2,k,e1]) λ⟨D,X⟩ ⟨i1,i2,i3,i4⟩=>?_;unfold zjr;simp only at i1 i2 i3 i4;simp;by_cases q:X.d_=22
  .let⟨e,y,h1,h2,h3,h4⟩:=i1 q;rw[aC q]at i2 i3 i4;rw[h1]at i3;rw[h2]at i4;simp only[dE]at i3 i4;have hc:=zzg 32 h4.2.2 i2.2.2 (h4.le (B:=536870912) oM).2.1 (i2.le (B:=536870912) oM).2.1;have ec:OO 32 e D=d':=by unfold OO;rw[h4.1,i2.1,i3];try rfl
   rw[ec]at hc;have gd':xg 400000000 d':=by rw[<-i3];exact h4.comp oM i2
   simp[q,h1,h2];refine gQ hc ?_;simp[q,h1,h2];refine oG ?_;refine fE (d',y) [0,1,2,3,4] ⟨λz=>absurd z h3,by rw[aB h3];exact gd',by rw[aB h3],by rw[aB h3];exact i4⟩ (by simp[q,h3]) ?_;simp[k,e1]
  .rw [aB q]at i3 i4 i2;subst i3;subst i4;simp[q];refine gQ (zJV X) ?_;simp;refine gQ (EF D) ?_;have hlen:lN D.tags=6:=((zI _).1 i2.1).tags;unfold idleC at hR;have ht:vJ X= -1\/∃n:Nat,vJ X=n/\n<6:=by
    unfold vJ;repeat' split
    .exact .inr ⟨2,rfl,oM⟩
    .exact .inr ⟨3,rfl,oM⟩
    .exact .inr ⟨1,rfl,oM⟩
    .exact .inr ⟨0,rfl,oM⟩
    .exact .inr ⟨5,rfl,oM⟩
    .exact .inl rfl
   generalize vJ X=t at*
   by_cases b1:ja D r?=tT
   .rw[b1]at hR⊢;rw[aC (by rfl)]at hR;subst hR;simp
   rw[aT]at b1;rw[b1]at hR⊢;rcases ht with ht|⟨n,ht,hn⟩
   .subst ht;simp at hR;subst hR;simp;exact(n_.l_ (A7 D X)).symm
   .subst ht;have hg:D.tags[n]?=sS (m? D n):=OH hlen hn;simp only[bC]at hR;let⟨z,hz0⟩:=oJ (m? D n);simp only[hz0]at hR hg;have hz:=(n_.l_ (A7 D X)).symm;have h5:((n:Int)=5)=(n=5):=by rw[eq_iff_iff];omega
    by_cases b2:z=0
    .by_cases b3:n=5
     .subst b3;by_cases b4:D.fn=[]
      .have hR:X=R:=by simpa[b2,b4]using hR
       simp[encI,hg,b2,b4];rw[hR]
      .have hR:A7 D X=R:=by simpa[b2,b4]using hR
       simp[encI,hg,b2,b4];rw[<-hR];exact hz
     .have hR:X=R:=by simpa[b2,b3,h5]using hR
      simp[encI,hg,b2,b3,h5];rw[hR]
    .have hR:A7 D X=R:=by simpa[b2]using hR
     simp[encI,hg,b2];rw[<-hR];exact hz
mutual
def zAa:∀c:n_,EP c
|.mk k n t is ns ts cs ks=>zF3 _ (zwv ks)
def zwv:∀l:List n_,∀x,x∈l->EP x
|[],x,hx=>by cases hx
|c::l,x,hx=>by
 rcases aM.1 hx with e|e
 .rw[e];exact zAa c
 .exact zwv l x e
end
@[simp] theorem jN.put_body(f:jN)(b:n_):put (f.enc.map AC.d) 5 (b.enc.map AC.d)=(jN.enc ⟨f.name,f.type,b⟩).map .d:=by unfold jN.enc;rw[f.type.l_,f.body.l_,b.l_];try rfl
theorem Oi(p:lC)(hp:xk p)(trim:Bool):h_ Pg 9 [.agg p.enc,.one (.bool trim)] (.agg (rC trim p).enc):=by
 have e:p.enc=[.sl oK 13 (p.v_.map jN.enc),.int .i64 p.main,.sl oK 3 (p.sites.map Site.enc)]:=rfl;rw[e];refine zCw oC λo cx hN hpp=>?_;have h257:=hp.good.2;unfold zqj;simp;refine fT [.c 1 0] ?_;simp;refine fM gm hpp (λY:Nat × List jN=>Y.1<=lN p.v_/\Y.2=(p.v_.take Y.1).map λf=>⟨f.name,f.type,wh trim f.body⟩) (λY=>[(6,.c (.d (.int .i64 Y.1))),(5,.c (.ptr 1 0)),(4,.c (.ptr 0 0)),(2,.c (.d (.rp p.enc 0))),(1,.c (.d (.bool trim)))]) (λY=>[.box [.d (.sl tT 13 []),.d (.int .i64 0),.d (.sl tT 3 [])],.box [.x_ 13 2 0 (lN Y.2),.d (.int .i64 p.main),.d (.sl oK 3 (p.sites.map Site.enc))],r9 Y.2]) (λY=>lN p.v_-Y.1) (0,[]) [0,1,2] oC (by simp[e]) λ⟨j,K⟩ ⟨hj,hK⟩=>?_;unfold zm4;simp only at hj hK;have hl:lN K=j:=by rw[hK];simp;omega
 simp[e];apply gM<;>intro h
 .have hj:j<lN p.v_:=uM h;have hw:=wI (n:=(j:Int)+1);let⟨f,hf⟩:=oJ (p.v_[j]);have hm:f∈p.v_:=by rw[<-hf];exact aO hj
  have hg:=(hp.good.1 f hm).1;have hok:=hp.ok f hm;have h1:=zwu (M:=lN p.sites) (G:=lN p.v_) hp.sites f.body hok (by have:=hg.2;omega);have h2:=zAa (tC f.body) 1 (Ux _ hok) (Uz _ _ hg.1) (by rw[Uy];have:=hg.2;omega);have hn:K++[⟨f.name,f.type,wh trim f.body⟩]=(p.v_.take (j+1)).map λf=>⟨f.name,f.type,wh trim f.body⟩:=by rw[aN hj,hf,hK,dO];try rfl
  have htK:take (lN K) (List.map ((λx=>List.map AC.d x)∘jN.enc) K)=List.map ((λx=>List.map AC.d x)∘jN.enc) K:=aD oC;simp[hj,hf];refine gQ h1 ?_;simp;cases trim with
  |false=>
   simp;refine jV ?_;refine fE (j+1,K++[⟨f.name,f.type,wh oK f.body⟩]) [0,1,4] ⟨qM,hn⟩ qM ?_;simp[hw,htK,wh];exact e.symm
  |true=>
   simp;refine gQ h2 ?_;simp;refine jV ?_;refine fE (j+1,K++[⟨f.name,f.type,wh tT f.body⟩]) [0,1,4] ⟨qM,hn⟩ qM ?_;simp[hw,htK,wh];exact e.symm
 .have hj:j=lN p.v_:=oI h;subst hj;rw[bJ]at hK;have hT:take (lN K) (List.map jN.enc K)=List.map jN.enc K:=aD oC;have e2:(rC trim p).enc=[.sl oK 13 (K.map jN.enc),.int .i64 p.main,.sl oK 3 (p.sites.map Site.enc)]:=by rw[hK];try rfl
  rw[e2];refine fQ [2] ?_;simp[iE,hT]
end Go.Gr
namespace Go.Gr
open Go.Proofs Go.RowKit
def VD:Code->Code
|.seq a _=>a
|c=>c
def EQ:Code->Code
|.seq _ b=>b
|c=>c
def cCt:Code->Code
|.cond _ a _=>a
|c=>c
noncomputable def VE:Code:=EQ (cCt (EQ (EQ (Go.Abs.gB Tryz.f24))))
set_option maxRecDepth 100000 in
def zBF(p q:Addr)(w:World):
  CallsD Tryz.prog 24 #[.pointer (sS p),.pointer (sS q)] .returning w λe u' w'=>e=.returned (.tuple #[])/\u'=.returning/\w'=w:=by
 refine callsD_of_wpS Tryz.func24 rfl λc₀ cs hu=>?_;have hnil:∀w:World,(binOp BinOp.neq 20 .nilIface .nilIface).run Tryz.prog w=.ok (.bool oK) w:=λ_=>by kernel_rfl
 apply wpS_seq;apply wpS_region;simp[wpOpsS,go_sem,recoverD,hu,Tryz.ntmps24,Exit.thenS];apply wpS_seq;apply wpS_region;simp[wpOpsS,go_sem,Exit.thenS,hnil];apply wpS_cond (t:=oK) (by simp[Act.eval,Array.replicate]);simp only[bD,if_false];refine wpS_of_wp (wp_skip ?_);cases c₀;simp_all[bodyPostS,results,Tryz.results24]
set_option maxRecDepth 100000 in
def zrU(p q:Addr)(w:World)(Q:World->Prop)
  (H:∀a:Act,a.defers=[]->a.tmps.size=17->a.tmps.getD 0 undef=.pointer (sS p)->a.tmps.getD 1 undef=.pointer (sS q)->VE.wp Tryz.prog (λe a' w'=>e=.normal/\a'.defers=[]/\Q w') a (w.alloc (.cells #[] 90))):
  CallsD Tryz.prog 24 #[.pointer (sS p),.pointer (sS q)] (.panicking [{v:=.iface 90 (.agg #[]),recovered:=oK}]) w λe u' w'=>e=.returned (.tuple #[])/\u'=.panicking [{v:=.iface 90 (.agg #[]),recovered:=tT}]/\Q w':=by
 refine callsD_of_wpS Tryz.func24 rfl λc₀ cs hu=>?_;have hta:∀w:World,(Instr.typeAssert (.iface 90 (.agg #[])) 20 90 tT).run Tryz.prog w=.ok (.tuple #[.agg #[],.bool tT]) w:=λ_=>by kernel_rfl
 have _A:∀w:World,(binOp BinOp.neq 20 (.iface 90 (.agg #[])) .nilIface).run Tryz.prog w=.ok (.bool tT) w:=λ_=>by rfl
 apply wpS_seq;apply wpS_region;simp[wpOpsS,go_sem,recoverD,hu,Tryz.ntmps24,Exit.thenS];apply wpS_seq;apply wpS_region;simp[wpOpsS,go_sem,Exit.thenS,_A];apply wpS_cond (t:=tT) (by simp[Act.eval,Array.replicate]);simp only[if_true];apply wpS_seq;apply wpS_seq;apply wpS_region;simp[wpOpsS,go_sem,Exit.thenS,hta,storeCells];apply wpS_seq;apply wpS_region;simp[wpOpsS,go_sem,Exit.thenS];apply wpS_cond (t:=oK) (by simp[Act.eval,Array.replicate]);simp only[bD,if_false];refine wpS_of_wp (wp_skip ?_);simp only[Exit.thenS];refine wpS_of_wp (wp_mono (H _ ?_ ?_ ?_ ?_) ?_)
 .rfl
 .simp
 .simp
 .simp
 .rintro e a' w' ⟨rfl,h2,h3⟩
  cases c₀;simp_all[bodyPostS,results,Tryz.results24]
end Go.Gr
namespace Go.Gr
open Go.Abs Go.Proofs
variable {c:Ctx}
def Oj:MC->MC
|.seq a _=>a
|c=>c
def DK:MC->MC
|.seq _ b=>b
|c=>c
def yC:iN:=⟨[],[],[],[],[],0,oK⟩
abbrev zC:A_:=.box [.d (.sl tT 1 []),.d (.sl tT 1 []),.d (.sl tT 1 []),.d (.sl tT 5 []),.d (.sl tT 3 []),.d (.int .i64 0),.d (.bool oK)]
abbrev zE:A_:=.box [.d (.int .i64 0)]
noncomputable def VG:MC:=Oj Ih
noncomputable def VH:MC:=Oj (DK Ih)
noncomputable def LM:MC:=DK (DK (DK Ih))
noncomputable def VI:Code:=VD (gB Tryz.f11)
noncomputable def VJ:Code:=VD (EQ (gB Tryz.f11))
noncomputable def cdR:Code:=VD (EQ (EQ (gB Tryz.f11)))
noncomputable def Ol:Code:=EQ (EQ (EQ (gB Tryz.f11)))
theorem VK:w? Pg 46 VG VI=tT:=kR
theorem VL:w? Pg 46 VH VJ=tT:=kR
theorem zLh:w? Pg 46 LM Ol=tT:=kR
theorem zLi:gB Tryz.f11=.seq VI (.seq VJ (.seq cdR Ol)):=rfl
abbrev VN:qC:=[.cell 6 tT 7,.cell 7 oK 1]
theorem VO:kJ Pg VN Tryz.f11.results.toList=tT:=kR
abbrev CL(r:iN × Int):DV:=.a? [.agg r.1.enc,.one (.int .i64 r.2)]
def KA(l:og)(main:Int)(merge:Bool)(S:St):Prop:=
 Abs.look S.t 0=.c (.d (.sl oK 10 (l.map B?.enc)))/\Abs.look S.t 1=.c (.d (.int .i64 main))/\Abs.look S.t 2=.c (.d (.bool merge))/\Abs.look S.t 6=.c (.ptr 0 0)/\Abs.look S.t 7=.c (.ptr 1 0)/\S.m=r_ [zC,zE]/\S.n=2/\Abs.look S.t 15=.c (.d .any)
def KG(l:og)(main:Int)(merge:Bool)(p q:Nat × Nat)(S:St):Prop:=
 Abs.look S.t 0=.c (.d (.sl oK 10 (l.map B?.enc)))/\Abs.look S.t 1=.c (.d (.int .i64 main))/\Abs.look S.t 2=.c (.d (.bool merge))/\Abs.look S.t 6=.c (.ptr 0 0)/\Abs.look S.t 7=.c (.ptr 1 0)/\S.m=r_ [zC,zE,.G_ p 0,.G_ q 1]/\S.n=4
def LP(S:St)(r:iN × Int):Prop:=Abs.look S.t 6=.c (.ptr 0 0)/\Abs.look S.t 7=.c (.ptr 1 0)/\BL VN (CL r) .ret S
def zLj(hp:c.pure)(l:og)(hll:lN l<=zaf)(main:Int)(merge:Bool):AW Pg c VG (λe S=>e=.normal/\AW Pg c VH (λe S=>match e with
  |.ret=>4096<lN l/\LP S (yC,19)
  |.normal=>lN l<=4096/\KA l main merge S
  |_=>False) S) ⟨qd 0 [.one (.sl oK 10 (l.map B?.enc)),.one (.int .i64 main),.one (.bool merge)],λ_=>.c?,0⟩:=by
 refine W.aw gm (F9 ?_);simp[VG,Ih,Oj];refine W.aw gm (F9 ?_);simp[VH,Ih,Oj,DK];apply gM<;>intro q
 .refine⟨by simp at q;omega,oC,oC,?_⟩;simp[yC,iN.enc,encI,encS]
 .refine⟨by simp at q;omega,oC,oC,oC,oC,oC,?_,rfl,oC⟩;funext i
  match i with
  |0=>simp
  |1=>simp
  |i+2=>simp[r_]
abbrev dG(a:Act):Deferred:={target:=.fn (.func 24) #[a.tmps.getD 6 undef,a.tmps.getD 7 undef],args:=#[]}
def wpR{a:Act}{w:World}{Q:Exit->Act->World->Prop}(hs:a.tmps.size=46)(h:∀a':Act,a'.tmps=a.tmps.setIfInBounds 15 (.func (.func 24) #[] #[a.tmps.getD 6 undef,a.tmps.getD 7 undef])->a'.defers=dG a::a.defers->Q .normal a' w):cdR.wp Pg Q a w:=by
 show(Code.region 3 _ oK).wp Pg Q a w;apply wp_region;simp[wpOps,go_sem];refine .inl (.inl ?_);simp[hs,go_sem];have e6:a.tmps[6]?=sS (a.tmps[6]' oM):=bM oM;have e7:a.tmps[7]?=sS (a.tmps[7]' oM):=bM oM;exact h _ (by simp[undef,e6,e7]) (by simp[undef,e6,e7])
def mCt:MC->MC
|.cond _ a _=>a
|c=>c
noncomputable def VP:MC:=DK (mCt (DK (DK zm6)))
theorem zLk:w? Pg 17 VP VE=tT:=kR
def zLl{m:Hp}{n:Nat}(h0:m 0=zC)(h1:m 1=zE):AW Pg c VP (λe S=>e=.normal/\S.m=upd (upd m 0 zC) 1 (.box [.d (.int .i64 19)])) ⟨[(0,.c (.ptr 0 0)),(1,.c (.ptr 1 0))],m,n⟩:=by
 refine W.aw gm (F9 ?_);unfold VP zm6 DK mCt;simp[h0,h1]
def QC(p q:Nat × Nat)(R:Option (iN × Int)):Exit->St->Prop
|.ret,S=>∃r,R=sS r/\LP S r
|.panic ch,S=>ch=[{v:=.iface 90 (.agg #[]),recovered:=oK}]/\R=nN/\Abs.look S.t 6=.c (.ptr 0 0)/\Abs.look S.t 7=.c (.ptr 1 0)/\S.m 0=zC/\S.m 1=zE/\S.m 2=.G_ p 0/\S.m 3=.G_ q 1
|_,_=>False
def zKh{l:og} (hll:lN l<=zaf) (main:Int) (merge:Bool) {R:Option (iN × Int)} (hC:lN l<=4096->∀(c:Ctx) (p q:Nat × Nat) (S:St),KG l main merge p q S->AW Pg c LM (QC p q R) S):
  h_ Pg 11 [.one (.sl oK 10 (l.map B?.enc)),.one (.int .i64 main),.one (.bool merge)] (CL (if 4096<lN l then(yC,19)else R.getD (yC,19))):=by
 refine h_.of_defers Tryz.func11 (code:=gB Tryz.f11) rfl oD (by simp[Tryz.ntmps11]) λok c hN hD hρ hm a w r=>?_;rw[Tryz.ntmps11]at hN;rw[zLi];have hA:=zLj (c:=c) trivial l hll main merge VI (by rw[hN];exact VK) a w r;refine wp_seq (wp_mono hA λe a1 w1 ⟨S1,r1,he,hB⟩=>?_);subst he;refine wp_seq (wp_mono (hB VJ (by rw[hN];exact VL) a1 w1 r1) λe a2 w2 ⟨S2,r2,q⟩=>?_);cases e with
 |ret=>
  let⟨q1,q2,q3,q4⟩:=q;rw[aC q1];show Leaves Pg Tryz.f11 a2.tmps _ a2.defers .returning w2;rw[r2.defers,hD];exact QF hρ r2 VO q4
 | normal=>
  let⟨q1,k0,k1,k2,k6,k7,km,kn,k15⟩:=q;rw[aB oM];have hs2:a2.tmps.size=46:=by rw[r2.size,hN]
  refine wp_seq (wpR hs2 λa3 t3 d3=>?_);let⟨ph,ρ,H,S0,e0,hg⟩:=r2.ex;have g6:=hg 6;have g7:=hg 7;have e6:S2.get 6=.c (.ptr 0 0):=k6;have e7:S2.get 7=.c (.ptr 1 0):=k7;rw[e6]at g6;rw[e7]at g7;simp only[g_,m_]at g6 g7;let⟨p,hp,v6⟩:=g6;let⟨q,hq,v7⟩:=g7;have m2:S2.m 2=.c?:=by rw[km];try rfl
  have m3:S2.m 3=.c?:=by rw[km];try rfl
  let⟨H1,T1⟩:=H.G_ hp m2;have hq1:upd ρ 2 (sS p) 1=sS q:=by rw[zao _ _ oD];exact hq
  let⟨H2,T2⟩:=H1.G_ (j:=3) hq1 (by rw[zao _ _ oD];exact m3);have km':upd (upd S2.m 2 (.G_ p 0)) 3 (.G_ q 1)=r_ [zC,zE,.G_ p 0,.G_ q 1]:=by
   rw[km];funext i
   match i with
   |0=>rfl
   |1=>rfl
   |2=>rfl
   |3=>rfl
   |i+4=>simp[upd,r_]
  have r3:jo Pg {c with D:=dG a2::c.D} S2.get (r_ [zC,zE,.G_ p 0,.G_ q 1]) a3 w2:=by
   rw[<-km'];refine⟨r2.gnd,r2.sd,by rw[d3,r2.defers],by rw[t3];simpa using r2.size,ph,_,H2,(S0.transW T1).transW T2,e0,λk=>?_⟩;have hle:ρ.le (upd (upd ρ 2 (sS p)) 3 (sS q)):=λb x hb=>by
    have h2:ρ 2=nN:=(H.dom 2).1 m2;have h3:ρ 3=nN:=(H.dom 3).1 m3;rw[zao _ _ (λe=>by subst e;rw[h3]at hb;cases hb),zao _ _ (λe=>by subst e;rw[h2]at hb;cases hb)];exact hb
   rw[t3];by_cases hk:k=15
   .subst hk;have:S2.get 15=.c (.d .any):=k15;rw[this];simp[g_,m_,Abs.RepD]
   .have:(a2.tmps.setIfInBounds 15 (.func (.func 24) #[] #[a2.tmps.getD 6 undef,a2.tmps.getD 7 undef])).getD k undef=a2.tmps.getD k undef:=by
     simp only[aZ];rw[bU (λe=>hk e.symm)]
    rw[this];exact g_.mono (fU _) hle _ _ (hg k)
  have hC':=hC q1 {c with D:=dG a2::c.D} p q ⟨S2.t,r_ [zC,zE,.G_ p 0,.G_ q 1],4⟩ ⟨k0,k1,k2,k6,k7,rfl,rfl⟩ Ol (by show w? Pg c.N LM Ol=tT;rw[hN];exact zLh) a3 w2 r3;refine wp_mono hC' λe a4 w4 ⟨S4,r4,q4⟩=>?_;have hdf:a4.defers=[{target:=.fn (.func 24) #[.pointer (sS ⟨p.1,0,nN⟩),.pointer (sS ⟨q.1,0,nN⟩)],args:=#[]}]:=by
   rw[r4.defers];simp only[hD,dG,v6,v7]
  cases e with
  |ret=>
   let⟨x,hx,g6',g7',gq⟩:=q4;rw[hx];show Leaves Pg Tryz.f11 a4.tmps _ a4.defers .returning w4;rw[hdf];apply leaves_cons (f:=24) (args:=#[.pointer (sS ⟨p.1,0,nN⟩),.pointer (sS ⟨q.1,0,nN⟩)]) oC (by simp[go_sem]);refine(zBF _ _ _).mono ?_
   rintro e u' w'' ⟨rfl,rfl,rfl⟩
   exact QF (c:={c with D:=dG a2::c.D}) hρ r4 VO gq
  | panic ch=>
   let⟨hch,hx,g6',g7',b0,b1,b2,b3⟩:=q4;rw[hx,hch];show Leaves Pg Tryz.f11 a4.tmps _ a4.defers (.panicking _) w4;rw[hdf];let⟨ph4,ρ4,H4,S04,e04,hg4⟩:=r4.ex;have x6:=hg4 6;have x7:=hg4 7;have z6:S4.get 6=.c (.ptr 0 0):=g6';have z7:S4.get 7=.c (.ptr 1 0):=g7';rw[z6]at x6;rw[z7]at x7;simp only[g_,m_]at x6 x7;have pin2:ρ4 0=sS p:=by
    have hd:∃t,ρ4 2=sS t:=by
     cases hh:ρ4 2 with
     |none=>have:=(H4.dom 2).2 hh;rw[b2]at this;cases this
     |some t=>exact⟨t,rfl⟩
    let⟨t,ht⟩:=hd;have:=H4.own 2 t ht;rw[b2]at this;exact this.2
   have pin3:ρ4 1=sS q:=by
    have hd:∃t,ρ4 3=sS t:=by
     cases hh:ρ4 3 with
     |none=>have:=(H4.dom 3).2 hh;rw[b3]at this;cases this
     |some t=>exact⟨t,rfl⟩
    let⟨t,ht⟩:=hd;have:=H4.own 3 t ht;rw[b3]at this;exact this.2
   have y6:a4.tmps.getD 6 undef=.pointer (sS ⟨p.1,0,nN⟩):=by
    let⟨t,t1,t2⟩:=x6;rw[pin2]at t1;cases t1;exact t2
   have y7:a4.tmps.getD 7 undef=.pointer (sS ⟨q.1,0,nN⟩):=by
    let⟨t,t1,t2⟩:=x7;rw[pin3]at t1;cases t1;exact t2
   apply leaves_cons (f:=24) (args:=#[.pointer (sS ⟨p.1,0,nN⟩),.pointer (sS ⟨q.1,0,nN⟩)]) oC (by simp[go_sem]);let⟨H5,T5⟩:=H4.more (w':=(w4.alloc (.cells #[] 90)).heap) oC (λB hB=>Go.RowKit.Below.heap_alloc _ _ _ hB);have S05:=S04.transW T5;have hsm:Same w4 (w4.alloc (.cells #[] 90)):=⟨rfl,rfl,rfl⟩
   have r5:jo Pg {c with D:=dG a2::c.D} S4.get S4.m a4 (w4.alloc (.cells #[] 90)):=⟨r4.gnd,r4.sd,r4.defers,r4.size,ph4,ρ4,H5,S05,e04.trans hsm,hg4⟩
   refine(zrU ⟨p.1,0,nN⟩ ⟨q.1,0,nN⟩ w4 (λw6=>∃vC,(results Tryz.f11 a4.tmps).run Pg w6=.ok vC w6/\Fg c (CL (yC,19)) (.returned vC) w6) λa5 d5 s5 t50 t51=>?_).mono ?_
   .let c2:Ctx:=⟨ph4,ρ4,S4.m,w4.alloc (.cells #[] 90),17,[]⟩
    have rr:jo Pg c2 (St.get ⟨[(0,.c (.ptr 0 0)),(1,.c (.ptr 1 0))],S4.m,0⟩) S4.m a5 (w4.alloc (.cells #[] 90)):=by
     refine⟨r4.gnd.mono S04.hle,r5.side S05,d5,s5,ph4,ρ4,H5,(Step.refl _ _ _ _).wk,fZ _,λk=>?_⟩;by_cases h0:k=0
     .subst h0;show g_ ph4 ρ4 (.c (.ptr 0 0)) _;rw[t50];simp only[g_,m_];exact⟨p,pin2,rfl⟩
     .by_cases h1:k=1
      .subst h1;show g_ ph4 ρ4 (.c (.ptr 1 0)) _;rw[t51];simp only[g_,m_];exact⟨q,pin3,rfl⟩
      .have:St.get ⟨[(0,.c (.ptr 0 0)),(1,.c (.ptr 1 0))],S4.m,0⟩ k=.c (.d .any):=by
        simp[St.get,h0,h1]
       rw[this];simp[g_,m_,Abs.RepD]
    refine wp_mono (zLl (c:=c2) (n:=0) b0 b1 VE zLk a5 _ rr) λe a6 w6 ⟨S6,r6,he,hm6⟩=>?_;refine⟨he,r6.defers,?_⟩;let⟨h6,ρ6,H6,S6',q6,g6⟩:=r6.ex;have m62:S6.m 2=.G_ p 0:=by rw[hm6];simpa[upd]using b2
    have m63:S6.m 3=.G_ q 1:=by rw[hm6];simpa[upd]using b3
    have pin62:ρ6 0=sS p:=by
     have hd:∃t,ρ6 2=sS t:=by
      cases hh:ρ6 2 with
      |none=>have:=(H6.dom 2).2 hh;rw[m62]at this;cases this
      |some t=>exact⟨t,rfl⟩
     let⟨t,ht⟩:=hd;have:=H6.own 2 t ht;rw[m62]at this;exact this.2
    have pin63:ρ6 1=sS q:=by
     have hd:∃t,ρ6 3=sS t:=by
      cases hh:ρ6 3 with
      |none=>have:=(H6.dom 3).2 hh;rw[m63]at this;cases this
      |some t=>exact⟨t,rfl⟩
     let⟨t,ht⟩:=hd;have:=H6.own 3 t ht;rw[m63]at this;exact this.2
    let SF:St:=⟨[(6,.c (.ptr 0 0)),(7,.c (.ptr 1 0))],S6.m,0⟩
    have rF:jo Pg {c with D:=dG a2::c.D} SF.get SF.m a4 w6:=by
     refine⟨r4.gnd,r4.sd,r4.defers,r4.size,h6,ρ6,H6,S05.transW S6',(e04.trans hsm).trans q6,λk=>?_⟩;by_cases h0:k=6
     .subst h0;show g_ h6 ρ6 (.c (.ptr 0 0)) _;rw[y6];simp only[g_,m_];exact⟨p,pin62,rfl⟩
     .by_cases h1:k=7
      .subst h1;show g_ h6 ρ6 (.c (.ptr 1 0)) _;rw[y7];simp only[g_,m_];exact⟨q,pin63,rfl⟩
      .have:SF.get k=.c (.d .any):=by
        simp[SF,St.get,h0,h1]
       rw[this];simp[g_,m_,Abs.RepD]
    apply QF (c:={c with D:=dG a2::c.D}) hρ rF VO;show BL VN (CL (yC,19)) .ret SF;simp[SF,hm6,yC,iN.enc,encI,encS]
   .rintro e u' w'' ⟨rfl,rfl,hQ⟩
    exact hQ
  |_=>exact q4.elim
 |_=>exact q.elim
end Go.Gr
