/- Of ours. -/
import Derived.Test.YtlfjlokfciejnaaGreatJ16
set_option maxRecDepth 20000
set_option maxHeartbeats 4000000
set_option linter.unusedVariables false
set_option linter.unusedSectionVars false
set_option linter.unusedSimpArgs false
set_option linter.defProp false
set_option linter.unnecessarySimpa false
open List renaming length->lN
open Bool renaming true->tT,false->oK
open Option renaming some->sS,none->nN
namespace Go.Gr
open Go.Abs Go.Proofs List
variable {x y:Int}{t:D_}
def OG:∀{l:List Int} {i:Nat},x∈l->(i:Int)<=qp x l i/\qp x l i<i+lN l
| y::l,i,h=>by
 rw[qp];split
 .simp;omega
 next q=>
  have:=OG (l:=l) (i:=i+1) ((aM.1 h).resolve_left q);simp only[length_cons];omega
def zul(hxy:x<y):∀{l:List Int} {i:Nat},l.Pairwise (· < ·)->x∈l->y∈l->qp x l i<qp y l i
| a::l,i,hl,hx,hy=>by
 rw[ak]at hl;rw[qp,qp];by_cases e:x=a
 .have ey:¬y=a:=oM;rw[aC e,aB ey];have:=OG (l:=l) (i:=i+1) ((aM.1 hy).resolve_left ey);omega
 .have hx':=(aM.1 hx).resolve_left e;have hax:=hl.1 x hx';have ey:¬y=a:=oM;rw[aB e,aB ey];exact zul hxy hl.2 hx' ((aM.1 hy).resolve_left ey)
def zz3{D:Nat}(hD:t.deep=D){m:Nat}(h:x∈t.k_\/(D:Int)<=x)(hx:x<m)(hm:D<=m):0<=lZ t x/\lZ t x<(lN t.k_+(m-D):Nat):=by
 unfold lZ;rw[hD];split
 next q=>
  omega
 next q=>
  have h':=h.resolve_right q;have:=OG (i:=0) h';omega
def zDk{D:Nat}(hD:t.deep=D)(hr:t.k_.Pairwise (· < ·))(h:x∈t.k_\/(D:Int)<=x)(h':y∈t.k_\/(D:Int)<=y)(hxy:x<y):lZ t x<lZ t y:=by
 unfold lZ;rw[hD];by_cases q:(D:Int)<=x
 .rw[aC q,aC oM];omega
 .rw[aB q];have hx':=h.resolve_right q;by_cases q':(D:Int)<=y
  .rw[aC q'];have:=OG (i:=0) hx';omega
  .rw[aB q'];exact zul hxy hr hx' (h'.resolve_right q')
mutual
def zum:∀(c:n_) (b b' x:Int),b<=b'->(x∈iQ c b↔x∈iQ c b'/\x<b)
| .mk k n t is ns ts cs ks,b,b',x,hb=>by
 rw[iQ,iQ,aL,aL,zrs ks b b' x hb];by_cases q:k=4/\n<b
 .rw[aC q,aC ⟨q.1,oM⟩,aK];have:=q.2;constructor
  .rintro(e|e)
   .subst e;exact⟨.inl rfl,this⟩
   .exact⟨.inr e.1,e.2⟩
  .rintro⟨e|e,h⟩
   .exact .inl e
   .exact .inr ⟨e,h⟩
 .rw[aB q];by_cases q':k=4/\n<b'
  .rw[aC q',aK];constructor
   .rintro(e|e)
    .cases e
    .exact⟨.inr e.1,e.2⟩
   .rintro⟨e|e,h⟩
    .subst e;exact absurd ⟨q'.1,h⟩ q
    .exact .inr ⟨e,h⟩
  .rw[aB q'];simp
def zrs:∀(l:List n_) (b b' x:Int),b<=b'->(x∈lQ l b↔x∈lQ l b'/\x<b)
|[],b,b',x,hb=>by simp[lQ]
| c::l,b,b',x,hb=>by
 rw[lQ,lQ,aL,aL,zum c b b' x hb,zrs l b b' x hb];constructor
 .rintro(e|e)
  .exact⟨.inl e.1,e.2⟩
  .exact⟨.inr e.1,e.2⟩
 .rintro⟨e|e,h⟩
  .exact .inl ⟨e,h⟩
  .exact .inr ⟨e,h⟩
end
mutual
def uV(all:List B?):n_->Nat->Prop
|.mk k n _ is _ _ _ ks,v=>k≠5/\(k=4->0<=n/\n<v)/\(k=23->0<=n/\(∃f,all[n.toNat]?=sS f/\f.k_=lN is)/\(∀x,x∈is->0<=x/\x<v)/\is.Pairwise (· < ·))/\AU all k ks 0 v
def AU(all:List B?):Int->List n_->Nat->Nat->Prop
|_,[],_,_=>True
|k,c::l,i,v=>uV all c (if k=18 then v+i else v)/\AU all k l (i+1) v
end
def HF(all:og)(lf:ou):Prop:=∀(j:Nat) (t:D_),lf[j]?=sS t->∃f:B?,all[j]?=sS f/\f.k_=lN t.k_
mutual
def zrt{t:D_}{D:Nat}(hD:t.deep=D)(hr:t.k_.Pairwise (· < ·)){all:List B?}{lf:List D_}(hf:HF all lf):∀(c:n_) (m:Nat) (l:List D_),jD m c->D<m->(∀x,x∈iQ c D->x∈t.k_)->l++jh t c m<+:lf->uV all (lG t c m l).1 (lN t.k_+(m-D))
| .mk k n tx is ns ts cs ks,m,l,h,hm,hv,hp=>by
 rw[jD]at h;rw[jh]at hp;rw[lG];rw[iQ]at hv;by_cases k4:k=4
 .simp only[aC k4];have h4:=h.2.2.2.1 k4;have hin:n∈t.k_\/(D:Int)<=n:=by
   by_cases q:n<D
   .exact .inl (hv n (bY _ (by rw[aC ⟨k4,q⟩];simp)))
   .exact .inr oM
  have hn:=zz3 hD hin h4.2.1 oM;rw[uV,h4.2.2,AU];exact⟨oM,λ_=>hn,λe=>by omega,trivial⟩
 by_cases k5:k=5
 .simp only[aB k4,aC k5]at hp⊢;have e:=Gb (h.2.2.2.2.1 k5);have hw:=h.2.2.2.2.2;rw[e,k5,h?,aC rfl]at hw;have hv2:∀x,x∈iQ (ks.getD 0 noC) D->x∈t.k_:=λx hx=>hv x (bf _ (by rw[e,lQ,lQ,bi];exact hx));clear hv;generalize ks.getD 0 noC=a at*
  have hin:∀x,x∈yA a m->(x∈t.k_\/(D:Int)<=x)/\x<m:=λx hx=>by
   have h1:=Ii.1 hx;have h2:=Kj a _ _ x hw.1 h1;refine⟨?_,h2.2⟩;by_cases q:x<D
   .exact .inl (hv2 x ((zum a D m x oM).2 ⟨h1,q⟩))
   .exact .inr oM
  rw[uV,AU];refine⟨oD,λe=>absurd e oD,λ_=>⟨oM,?_,λx hx=>?_,?_⟩,trivial⟩
  .let⟨r,hr'⟩:=hp;have hg:lf[lN l]?=sS ⟨t.name++bs [39],a,yA a m,m,oK⟩:=by
    rw[<-hr'];simp
   let⟨f,f1,f2⟩:=hf _ _ hg;exact⟨f,uM f1,by rw[f2];simp⟩
  .let⟨y,hy,e⟩:=af.1 hx;subst e;exact zz3 hD (hin y hy).1 (hin y hy).2 oM
  .rw[pairwise_map];refine(Tp a m).imp_of_mem λ{x y} hx hy hxy=>?_;exact zDk hD hr (hin x hx).1 (hin y hy).1 hxy
 .simp only[aB k4,aB k5]at hp⊢;rw[uV];refine⟨k5,λe=>absurd e k4,λe=>absurd e h.1,?_⟩;exact zpF hD hr hf k k5 ks m 0 l h.2.2.2.2.2 hm (λx hx=>hv x (bf _ hx)) hp
def zpF{t:D_}{D:Nat}(hD:t.deep=D)(hr:t.k_.Pairwise (· < ·)){all:List B?}{lf:List D_}(hf:HF all lf)(k:Int)(k5:k≠5):∀(c:List n_) (m i:Nat) (l:List D_),h? m k c i->D<m->(∀x,x∈lQ c D->x∈t.k_)->l++pF t k c i m<+:lf->AU all k (ko t k c i m l).1 i (lN t.k_+(m-D))
|[],m,i,l,h,hm,hv,hp=>by rw[ko,AU];trivial
| c::r,m,i,l,h,hm,hv,hp=>by
 rw[h?,aB k5]at h;rw[lQ]at hv;rw[pF]at hp;rw[ko];simp only at hp⊢;rw[Ey]at hp⊢;rw[AU];refine⟨?_,?_⟩
 .have h1:=zrt hD hr hf c (if k=18 then m+i else m) l h.1 (by split<;>omega) (λx hx=>hv x (bY _ hx)) (by
   rw[<-dC]at hp
   exact(List.prefix_append _ _).trans hp)
  have e:lN t.k_+((if k=18 then m+i else m)-D)=(if k=18 then lN t.k_+(m-D)+i else lN t.k_+(m-D)):=by split<;>omega
  rw[e]at h1;exact h1
 .refine zpF hD hr hf k k5 r m (i+1) _ h.2 hm (λx hx=>hv x (bf _ hx)) ?_;rw[Ga,dC];exact hp
end
mutual
def zun(t:D_):∀(c:n_) (m:Int) (l:List D_),Q_ (lG t c m l).1<=Q_ c
|.mk k n tx is ns ts cs ks,m,l=>by
 have:=zru t k ks 0 m l;rw[lG];simp only;split
 .simp only[Q_];omega
 split
 .simp only[Q_,B_];omega
 .simp only[Q_];omega
def zru(t:D_)(k:Int):∀(c:List n_) (i:Nat) (m:Int) (l:List D_),B_ (ko t k c i m l).1<=B_ c
|[],i,m,l=>by simp[ko]
|c::r,i,m,l=>by
 have h1:=zun t c (if k=18 then m+i else m) l;have h2:=zru t k r (i+1) m (lG t c (if k=18 then m+i else m) l).2;rw[ko,B_];simp only[B_];omega
end
inductive Run:Nat->List D_->List B?->List D_->Prop
|done (l:List D_):Run (lN l) l [] l
|step {i:Nat} {l:List D_} {t:D_} {fs:List B?} {lf:List D_} (h:l[i]?=sS t) (r:Run (i+1) (l++jh t t.body (t.deep+1)) fs lf):Run i l (⟨t.name,lN t.k_,(lG t t.body (t.deep+1) l).1⟩::fs) lf
def zuo:∀(n i:Nat) (l:List D_) (o:List B?),uh l i->n=Av l i->∃fs lf,Run i l fs lf/\G8 (n+1) i l o=o++fs
| n,i,l,o,hI,hn=>by
 rw[G8];by_cases hi:i<lN l
 .let⟨D,hD,hw,hb,_⟩:=(hI.2.1 _ (aO hi)).ex;have hs:=hI.step hi hD hw hb;have hp:=zyC hi hD hw;rw[aA hi];simp only
  match n,hn with
  |0,hn=>omega
  |n+1,hn=>
   let⟨fs,lf,r,e⟩:=zuo n (i+1) _ (o++[⟨l[i].name,l[i].k_.length,(lG l[i] l[i].body (l[i].deep+1) l).1⟩]) hs oM;rw[Ga]at r;exact⟨_,lf,.step (aA hi) r,by rw[e];simp⟩
 .have e:i=lN l:=by have:=hI.1;omega
  subst e;rw[aR (aJ _)];exact⟨[],l,.done l,oC⟩
def zDl{p:lC}(hp:wE p):∃lf,Run 0 (p.v_.map pg) (Ct p) lf:=by
 have hpf:Bq p.v_=Av (p.v_.map pg) 0:=by
  unfold Bq Av jH;have key:∀l:List jN,nU (l.map (·.body))=((l.map pg).map λt=>Cs t.body).sum:=λl=>by
   induction l with
   |nil=>simp[nU]
   |cons f l ih=>simp only[map_cons,nU,ih,List.sum_cons];rfl
  rw[key];simp
 let⟨fs,lf,r,e⟩:=zuo (Bq p.v_) 0 (p.v_.map pg) [] (uh.start hp) hpf;unfold Ct;rw[e];exact⟨lf,r⟩
variable {l:List D_}{i:Nat}
def Run.pre:∀{i:Nat} {l lf:ou} {fs:og},Run i l fs lf->l<+:lf
|_,_,_,_,.done l=>List.prefix_refl l
|_,_,_,_,.step h r=>(List.prefix_append _ _).trans r.pre
def Run.len:∀{i:Nat} {l lf:ou} {fs:og},Run i l fs lf->lN fs+i=lN lf
|_,_,_,_,.done l=>by simp
|_,_,_,_,.step h r=>by have:=r.len;rw[length_cons];omega
def Run.k_:∀{i:Nat} {l lf:ou} {fs:og},Run i l fs lf->∀(j:Nat) (t:D_),i<=j->lf[j]?=sS t->∃f:B?,fs[j-i]?=sS f/\f.k_=lN t.k_
|_,_,_,_,.done l,j,t,hj,h=>by rw[aR hj]at h;cases h
| _,_,_,_,.step (i:=i) (l:=l) (t:=t0) h r,j,t,hj,h'=>by
 by_cases e:j=i
 .subst e;have hp:=(List.prefix_append l (jh t0 t0.body (t0.deep+1))).trans r.pre;let⟨q,hq⟩:=hp;have _k:j<lN l:=by
   rcases aY j (lN l) with q|q
   .exact q
   .rw[aR q]at h;cases h
  rw[<-hq,aj _k,h]at h';cases h';rw[Nat.sub_self];exact⟨_,rfl,rfl⟩
 .let⟨f,f1,f2⟩:=r.k_ j t oM h';refine⟨f,?_,f2⟩;rw[show j-i=(j-(i+1))+1 from by omega,getElem?_cons_succ];exact f1
def Run.hf{l lf:ou}{fs:og}(r:Run 0 l fs lf):HF fs lf:=λj t h=>r.k_ j t oM h
def uh.at{l:ou}(hI:uh l i)(h:l[i]?=sS t):∃hi:i<lN l,l[i]=t:=by
 rcases aY i (lN l) with q|q
 .rw[aA q]at h;exact⟨q,uM h⟩
 .rw[aR q]at h;cases h
def uh.next{l:ou}(hI:uh l i)(h:l[i]?=sS t):uh (l++jh t t.body (t.deep+1)) (i+1):=by
 let⟨hi,e⟩:=hI.at h;let⟨D,hD,hw,hb,_⟩:=(hI.2.1 _ (aO hi)).ex;have:=hI.step hi hD hw hb;rw[Ga,e]at this;exact this
def Run.good:∀{i:Nat} {l lf:ou} {fs:og},Run i l fs lf->uh l i->uh lf (lN lf)
|_,_,_,_,.done l,hI=>hI
|_,_,_,_,.step h r,hI=>r.good (hI.next h)
def zLE(all:og)(f:B?):Prop:=∃n:Nat,f.k_=n/\n<=1000000000/\Q_ f.body<=500000000/\uV all f.body (n+1)
def Run.sound{all:og}:∀{i:Nat} {l lf:ou} {fs:og},Run i l fs lf->uh l i->HF all lf->∀f,f∈fs->zLE all f
|_,_,_,_,.done l,hI,ha,f,hf=>by cases hf
| _,_,_,_,.step (l:=l) (t:=t) h r,hI,ha,f,hf=>by
 rcases aM.1 hf with e|hf
 .subst e;let⟨hi,e⟩:=hI.at h;have hg:=hI.2.1 _ (aO hi);rw[e]at hg;let⟨D,hD,hw,hb,hc,hv⟩:=hg.ex;have e2:t.deep+1=((D+1:Nat):Int):=by rw[hD];omega
  have hp:=r.pre;have hs:=zun t t.body (t.deep+1) l;rw[e2]at hp;refine⟨lN t.k_,rfl,hg.k_,qM,?_⟩;have:=zrt hD hg.rise ha t.body (D+1) l hw oM hv hp;rw[show D+1-D=1 from by omega]at this;simp only;rw[e2];exact this
 .exact r.sound (hI.next h) ha f hf
variable {ki:PS->f_ × PS}{ex rk:PS->o_ × PS}{p:PS}{a:o_}
mutual
def jB:o_->Prop
|.mk k tx n _ _ _ _ ks=>(k=9->mP tx=tT)/\(k=2->n=0\/n=1)/\(k=12->0<=n/\n<6)/\zK ks
def zK:List o_->Prop
|[]=>True
|n::l=>jB n/\zK l
end
def Ub:∀l:List o_,zK l↔∀x,x∈l->jB x
|[]=>by simp[zK]
|n::l=>by simp[zK,Ub l]
def zxv:∀l:List UInt8,(l.take (y? oK l)).all (λb=>lY b||jG b)=tT
|[]=>by simp[y?]
| b::l=>by
 rw[y?];split
 next h=>
  rw[take_succ_cons,all_cons,zxv l];simpa[Bool.or_comm]using h
 .simp
def zGH{c:UInt8}(h:lY c=tT):jG c=oK:=by
 unfold lY xE at h;unfold jG rT;simp only[aI,bQ]at*
 omega
def zGI:∀{l:o9},(x? l).e=0->(x? l).d_=1->mP (bA (x? l).text)=tT
|[],h,_=>absurd h oD
| c::r,h,k=>by
 unfold x? at h k⊢;simp only at h k⊢;by_cases c1:lY c=tT
 .rw[aC c1]at h k⊢;by_cases c2:32<y? oK (c::r)
  .rw[aC c2]at h;exact absurd h oD
  rw[aB c2]at h k⊢;simp only at h k⊢;have hw:¬Dc (bA ((c::r).take (y? oK (c::r))))=tT:=λz=>by rw[aC z]at k;exact absurd k oD
  have ha:=zxv (c::r);have e:y? oK (c::r)=y? oK r+1:=by rw[y?,aC (by simp[c1])]
  rw[e,take_succ_cons]at hw ha⊢;rw[aT]at hw;have hs:(bA (c::r.take (y? oK r))).size<=32:=by
   show(c::r.take (y? oK r)).toArray.size<=32;simp only[size_toArray,length_cons,bz];omega
  unfold mP;show(decide ((bA (c::r.take (y? oK r))).size<=32)&&(!Dc (bA (c::r.take (y? oK r)))&&(!jG c&&(c::r.take (y? oK r)).all λb=>lY b||jG b)))=tT;rw[hw,zGH c1,ha];simpa using hs
 rw[aB c1]at h k⊢;exfalso;revert h k;repeat' split
 all_goals (intro h k;first|exact absurd k oC|exact absurd h (by simp[kK]))
def DC(L:sF):Prop:=∀i,(L.getD i Ai).d_=1->mP (L.getD i Ai).text=tT
def zAu{L:sF}{t:Tok}(h:DC L)(ht:t.d_=1->mP t.text=tT):DC (L++[t]):=λi hk=>by
 rw[aH,getElem?_append]at hk⊢;split at hk
 next q=>
  rw[aC q,<-aH];rw[<-aH]at hk;exact h i hk
 next q=>
  rw[aB q];by_cases z:i-lN L=0
  .rw[z]at hk⊢;exact ht hk
  .rw[aR (by simp;omega)]at hk;exact absurd hk oD
def zAv:∀(n:Nat) (l:List UInt8) (a b:Int) (ts:List Tok),DC ts->DC (pM n l a b ts).1
|0,l,a,b,ts,h=>by rw[pM];exact h
| n+1,l,a,b,ts,h=>by
 rw[pM];simp only;split
 .exact zAu h λk=>absurd (show(0:Int)=1 from k) oD
 have ht:=zGI (l:=l.drop (k? oK l));generalize x? (l.drop (k? oK l))=t at*
 let⟨e,he⟩:=oJ (if t.e=0/\lN ts=8192 then 19 else t.e);rw[he];split
 .exactλi k=>absurd k (by simp[Ai])
 next q=>
  have e0:t.e=0:=by
   apply bH;intro z;rw[aB (λy=>z y.1)]at he;omega
  exact zAv n _ _ _ _ (zAu h λk=>ht e0 k)
def zIR(s:fD):DC (kE s).1:=by
 unfold kE;split
 .exactλi k=>absurd k (by simp[Ai])
 .exact zAv _ _ _ _ _ λi k=>absurd k (by simp[Ai])
section
variable {L:List Tok}
def Tm.z{q:PS}(h:Tm L p q)(e:q.e=0):p.e=0:=bH λz=>h.bad z e
def zGJ(hN:DC L)(h:(iG L p).2.e=0):mP (iG L p).1=tT:=by
 unfold iG at h⊢;split
 next q=>exact hN _ q.2
 next q=>rw[aB q]at h;exact absurd h (Ji oD)
def wK{k:Int}{t:fD}{n:Int}{ts:oL}{ns:oN}{ks:sJ}(h:zK ks)(s:k≠9/\k≠2/\k≠12):jB (jX L p k t n ts ns ks):=by
 unfold jX;rw[jB];exact⟨λz=>absurd z s.1,λz=>absurd z s.2.1,λz=>absurd z s.2.2,h⟩
def s1(h:jB a):zK [a]:=⟨h,trivial⟩
def s2{b:o_}(h:jB a)(k:jB b):zK [a,b]:=⟨h,k,trivial⟩
def qy(L:sF)(f:PS->o_ × PS):Prop:=∀p,p.L_<lN L->(f p).2.e=0->jB (f p).1
def zGK(hL:C? L)(hk:y_ L ki)(he:y_ L ex)(ne:qy L ex)(nr:qy L rk):qy L (C8 L ki ex rk):=λp hp=>by
 unfold C8;split
 .have h1:=iB hL hp (s:=vV);have h2:=h1.trans (kX hL h1.lt);have h3:=h2.trans (Cb hL hk _ h2.lt);have h4:=(kX hL h1.lt).trans ((Cb hL hk _ h2.lt).trans (iF hL h3.lt (s:=bs [61])));have h5:=he _ h4.lt;have h6:=iF hL h5.lt (s:=bs [59]);have h7:=he _ h6.lt;intro e;exact wK (s2 (ne _ h4.lt (h6.z (h7.z e))) (ne _ h6.lt e)) oD
 split
 .have h1:=iB hL hp (s:=Df);have h2:=he _ h1.lt;have h3:=iF hL h2.lt (s:=Fh);have h4:=he _ h3.lt;have h5:=iF hL h4.lt (s:=Fj);have h6:=he _ h5.lt;intro e;have e4:=h5.z (h6.z e);exact wK ⟨ne _ h1.lt (h3.z (h4.z e4)),ne _ h3.lt e4,ne _ h5.lt e,trivial⟩ oD
 split
 .have h1:=iB hL hp (s:=wU);have h2:=El hL hk _ h1.lt;have h3:=h2.trans (iF hL h2.lt (s:=bs [61,62]));intro e;exact wK (s1 (ne _ h3.lt e)) oD
 .exact nr p hp
def zAw(hL:C? L)(hr:y_ L rk)(nr:qy L rk)(_t:List fD):∀(n:Nat) (a:o_) (p:PS),p.L_<lN L->Tm L p (jY L rk _t n a p).2/\(jB a->(jY L rk _t n a p).2.e=0->jB (jY L rk _t n a p).1)
|0,a,p,hp=>by rw[jY];exact⟨Tm.refl hp,λha _=>ha⟩
| n+1,a,p,hp=>by
 rw[jY];split
 .exact⟨Tm.refl hp,λha _=>ha⟩
 next s q h=>
  have h1:=GA hL _ hp h;have h2:=hr _ h1.1.lt;have r:=zAw hL hr nr _t n (jX L p 14 s 0 [] [] [a,(rk q).1]) (rk q).2 h2.lt;exact⟨(h1.1.trans h2).trans r.1,λha e=>r.2 (wK (s2 ha (nr _ h1.1.lt (r.1.z e))) oD) e⟩
theorem zIS(hL:C? L)(hk:y_ L ki)(hr:y_ L rk)(nr:qy L rk):qy L (uu L ki rk):=λp hp=>by
 have h1:=hr p hp;have n1:=nr p hp;unfold uu;simp only;split
 next s q h=>
  have h2:=GA hL _ h1.lt h;have h3:=hr _ h2.1.lt;intro e;exact wK (s2 (n1 (h2.1.z (h3.z e))) (nr _ h2.1.lt e)) oD
 split
 .have h2:=iB hL h1.lt (s:=bs [97,115]);have h3:=hk _ h2.lt;intro e;exact wK (s1 (n1 (h2.z (h3.z e)))) oD
 split
 .have h2:=iB hL h1.lt (s:=bs [105,115]);split
  next i q h=>
   have h3:=Jj hL _ _ h2.lt h;intro e;have:lN zi=6:=rfl;unfold jX;rw[jB];exact⟨λz=>absurd z oD,λz=>absurd z oD,λ_=>by omega,s1 (n1 (h2.z h3.2.2.1))⟩
  .intro e;exact absurd e (Ji oD)
 .exact n1
def zGL(hL:C? L){un:PS->o_ × PS}(hk:y_ L ki)(hu:y_ L un)(nu:qy L un):qy L (Jg L ki un):=by
 let⟨t5,t4,t3,t2,t1,t0⟩:=Jl hL hk hu;have op:∀(f:PS->o_ × PS) (_t:oN),y_ L f->qy L f->qy L (λp=>jY L f _t (lN L+1) (f p).1 (f p).2):=λf _t tf nf p hp e=>by
  have r:=zAw hL tf nf _t (lN L+1) (f p).1 (f p).2 (tf p hp).lt;exact r.2 (nf p hp (r.1.z e)) e
 have n5:qy L (Fp L un):=op un (ut 5) hu nu;have n4:qy L (Fq L un):=op _ (ut 4) t5 n5;have n3:qy L (Jf L un):=op _ (ut 3) t4 n4;have n2:qy L (Fs L ki un):=zIS hL hk t3 n3;have n1:qy L (Fu L ki un):=op _ (ut 1) t2 n2;exact op _ (ut 0) t1 n1
def zxw(hL:C? L)(he:y_ L ex)(ne:qy L ex):∀(n:Nat) (ns:List fD) (ks:List o_) (p:PS),p.L_<lN L->zK ks->(xH L ex n ns ks p).2.e=0->zK (xH L ex n ns ks p).1.2
|0,ns,ks,p,hp,hk,e=>by rw[xH];exact hk
| n+1,ns,ks,p,hp,hk,e=>by
 have h1:=kX hL hp;have h2:=h1.trans (iF hL h1.lt (s:=bs [58]));have h3:=he _ h2.lt;have h4:=iB hL h3.lt (s:=bs [44]);have w:(ex (iH L (bs [58]) (iG L p).2)).2.e=0->zK (ks++[(ex (iH L (bs [58]) (iG L p).2)).1]):=λe=>(Ub _).2 λx hx=>by
  rcases aL.1 hx with hx|hx
  .exact(Ub _).1 hk x hx
  .rw[aK.1 hx];exact ne _ h2.lt e
 rw[xH]at e⊢;split
 next c=>
  rw[aC c]at e;exact zxw hL he ne n _ _ _ h4.lt (w (h4.z ((Jm hL he n _ _ _ h4.lt).z e))) e
 next c=>
  rw[aB c]at e;exact w (h4.z e)
def zB1(hL:C? L)(he:y_ L ex)(ne:qy L ex)(q p:PS)(hp:p.L_<lN L):(yL L ex q p).2.e=0->jB (yL L ex q p).1:=by
 unfold yL;split
 .exactλ_=>wK trivial oD
 split
 .have h1:=he p hp;have h2:=iF hL h1.lt (s:=Fv);have h3:=h2.trans (kX hL h2.lt);have h4:=h3.trans (iF hL h3.lt (s:=bs [58]));have h5:=he _ h4.lt;have h6:=iF hL h5.lt (s:=bs [125]);intro e;have e5:=h6.z e;exact wK (s2 (ne _ hp (h4.z (h5.z e5))) (ne _ h4.lt e5)) oD
 .have h1:=Jm hL he (lN L+1) [] [] p hp;have h2:=iF hL h1.lt (s:=bs [125]);intro e;exact wK (zxw hL he ne (lN L+1) [] [] p hp trivial (h2.z e)) oD
def zGM(hL:C? L)(hk:y_ L ki)(he:y_ L ex)(ne:qy L ex):qy L (zk L ki ex):=λp hp=>by
 unfold zk;by_cases c0:p.e=0/\(U_ L p).d_=3
 .rw[aC c0];exactλ_=>wK trivial oD
 rw[aB c0];by_cases c1:p.e=0/\(U_ L p).d_=4
 .rw[aC c1];exactλ_=>wK trivial oD
 rw[aB c1];by_cases c2:(gU L Fw p).1=tT
 .rw[aC c2];exactλ_=>by unfold jX;rw[jB];exact⟨λz=>absurd z oD,λ_=>by omega,λz=>absurd z oD,trivial⟩
 rw[aB c2];by_cases c3:(gU L Fx p).1=tT
 .rw[aC c3];exactλ_=>by unfold jX;rw[jB];exact⟨λz=>absurd z oD,λ_=>by omega,λz=>absurd z oD,trivial⟩
 rw[aB c3];by_cases c4:(gU L Fy p).1=tT
 .rw[aC c4];exactλ_=>wK trivial oD
 rw[aB c4];by_cases c5:(gU L BR p).1=tT
 .rw[aC c5];exactλ_=>wK trivial oD
 rw[aB c5];by_cases c6:(gU L Aj p).1=tT
 .rw[aC c6];have h1:=iB hL hp (s:=Aj);have h2:=iF hL h1.lt (s:=bs [40]);have h3:=he _ h2.lt;exactλe=>wK (s1 (ne _ h2.lt ((iF hL h3.lt (s:=bs [41])).z e))) oD
 rw[aB c6];by_cases c7:(gU L (bs [40]) p).1=tT
 .rw[aC c7];have h1:=iB hL hp (s:=bs [40]);exactλe=>ne _ h1.lt ((iF hL (he _ h1.lt).lt (s:=bs [41])).z e)
 rw[aB c7];by_cases c8:(gU L (bs [123]) p).1=tT
 .rw[aC c8];exact zB1 hL he ne p _ (iB hL hp (s:=bs [123])).lt
 rw[aB c8];intro _;show jB (if(gU L (bs [91]) (iG L p).2).1=tT then _ else _:o_ × PS).1;split
 .exact wK trivial oD
 .exact wK trivial oD
def Uc(hL:C? L)(hN:DC L)(he:y_ L ex)(ne:qy L ex):∀(n:Nat) (a:o_) (p:PS),p.L_<lN L->Tm L p (vW L ex n a p).2/\(jB a->(vW L ex n a p).2.e=0->jB (vW L ex n a p).1)
|0,a,p,hp=>by rw[vW];exact⟨Tm.refl hp,λha _=>ha⟩
| n+1,a,p,hp=>by
 rw[vW];split
 .have h1:=iB hL hp (s:=bs [40]);have h2:=he _ h1.lt;have h3:=iF hL h2.lt (s:=bs [41]);have r:=Uc hL hN he ne n (jX L p 7 (bs []) 0 [] [] [a,(ex (gU L (bs [40]) p).2).1]) _ h3.lt;exact⟨((h1.trans h2).trans h3).trans r.1,λha e=>r.2 (wK (s2 ha (ne _ h1.lt (h3.z (r.1.z e)))) oD) e⟩
 split
 .have h1:=iB hL hp (s:=bs [46]);have h2:=kX hL h1.lt;have r:=Uc hL hN he ne n (jX L p 9 (iG L (gU L (bs [46]) p).2).1 0 [] [] [a]) _ h2.lt;exact⟨(h1.trans h2).trans r.1,λha e=>r.2 (by unfold jX;rw[jB];exact⟨λ_=>zGJ hN (r.1.z e),λz=>absurd z oD,λz=>absurd z oD,s1 ha⟩) e⟩
 .exact⟨Tm.refl hp,λha _=>ha⟩
def zEg(hL:C? L)(hN:DC L){un:PS->o_ × PS}(hk:y_ L ki)(he:y_ L ex)(ne:qy L ex)(nu:qy L un):qy L (C9 L ki ex un):=λp hp=>by
 unfold C9;split
 .exactλe=>wK (s1 (nu _ (iB hL hp (s:=bs [45])).lt e)) oD
 split
 .exactλe=>wK (s1 (nu _ (iB hL hp (s:=vX)).lt e)) oD
 .have ta:=M6 hL hk he p hp;have r:=Uc hL hN he ne (lN L+1) (zk L ki ex p).1 (zk L ki ex p).2 ta.lt;exactλe=>r.2 (zGM hL hk he ne p hp (r.1.z e)) e
def zKa(hL:C? L)(hN:DC L)(hk:y_ L ki)(d:Nat):qy L (xI L ki d).1/\qy L (xI L ki d).2:=by
 have n0:jB uC:=by simp[jB,uC,zK]
 induction d with
 |zero=>exact⟨λp hp _=>n0,λp hp _=>n0⟩
 | succ d ih=>
  have tm:=Jn hL hk d;have up:∀(f:PS->o_ × PS),qy L f->qy L (λp=>if(iL L p).1=tT then xG (f (iL L p).2)else(uC,(iL L p).2)):=λf nf p hp=>by
   show(if(iL L p).1=tT then _ else _:o_ × PS).2.e=0->jB (if(iL L p).1=tT then _ else _:o_ × PS).1;by_cases c:(iL L p).1=tT
   .have _C:(iL L p).2.L_<lN L:=by rw[(Ca c).1];exact hp
    rw[aC c];exactλe=>nf _ _C e
   .rw[aB c];exactλ_=>n0
  rw[xI];exact⟨up _ (zGK hL hk tm.1 ih.1 (zGL hL hk tm.2 ih.2)),up _ (zEg hL hN hk tm.1 ih.1 ih.2)⟩
def zxx(hL:C? L)(hN:DC L):∀(n:Nat) (l:List P?) (p:PS),p.L_<lN L->(uy L n l p).2.e=0->(∀d,d∈l->jB d.body)->∀d,d∈(uy L n l p).1->jB d.body
|0,l,p,hp,e,h,d,hd=>by rw[uy]at hd;exact h d hd
| n+1,l,p,hp,e,h,d,hd=>by
 rw[uy]at hd e;split at hd
 next c=>
  rw[aC c]at e;have h1:=Qp hL p hp;have e1:=(Me hL n (l++[(uw L p).1]) _ h1.lt).z e;refine zxx hL hN n _ _ h1.lt e (λx hx=>?_) d hd;rcases aL.1 hx with hx|hx
  .exact h x hx
  .rw[aK.1 hx];have h1:=iB hL hp (s:=Dg);have h2:=h1.trans (iF hL h1.lt (s:=wU));have h3:=h2.trans (kX hL h2.lt);have h4:=h3.trans (Md hL _ h3.lt);have h5:=h4.trans (El hL (Ba hL) _ h4.lt);have h6:=h5.trans (iF hL h5.lt (s:=bs [61]));have h7:=Mc hL _ h6.lt;exact(zKa hL hN (Ba hL) 102).1 _ h6.lt ((iF hL h7.lt (s:=bs [59])).z e1)
 .exact h d hd
end
def zEh(s:fD):∀d,d∈(tN s).1.T_->jB d.body:=λd hd=>by
 unfold tN at hd;simp only at hd;by_cases q1:(kE s).2.e=0
 .let⟨hL,hl⟩:=NA q1;rw[aB (λz=>z q1)]at hd;split at hd
  .cases hd
  next q2=>
   have h0:ps0.L_<(kE s).1.length:=hL.pos;refine zxx hL (zIR s) _ _ _ (Jr hL _ _ _ h0).lt ?_ (λx hx=>by cases hx) d hd;apply bH;intro z;apply q2;unfold xM;rw[aB (λy=>z y.1)];exact z
 .rw[aC q1]at hd;cases hd
def six{l:oW}(h:lN l=6):∃a b c d e f,l=[a,b,c,d,e,f]:=by
 match l,h with
 |[a,b,c,d,e,f],_=>exact⟨a,b,c,d,e,f,rfl⟩
def CB(L:oW)(j:Nat):oW:=L.take j++replicate (6-j) 0
def zIB{L:oW}(hL:lN L=6){j:Nat}(h:j<6):(CB L j).set j L[j]=CB L (j+1):=by
 obtain⟨a,b,c,d,e,f,rfl⟩:=six hL
 match j,h with
 |0,_|1,_|2,_|3,_|4,_|5,_=>rfl
def zwU(l:oW)(j:Nat)(x:Int):encI (l.set j x)=(encI l).set j [.int .i64 x]:=by simp[encI,map_set]
structure y8 (B:Nat) (d:gT):Prop where
 i_:lN d.i_<=B
 fields:lN d.fields<=B
 fn:lN d.fn<=B
def OH{l:oW}(h:lN l=6){i:Nat}(hi:i<6):l[i]?=sS (l.getD i 0):=by
 rw[aH,aA oM];try rfl
def OI{α:Type}{l:List α}{j:Nat}(hj:j<lN l){k:α}:k∈l.take (j+1)↔k∈l.take j\/k=l[j]:=by
 rw[aN hj,aL,aK]
abbrev mh:A_:=.box [.d (.sl tT 1 []),.d (.sl tT 2 []),.d (.sl tT 1 []),.d (.sl tT 5 []),.d (.sl tT 5 [])]
abbrev EI(a b:gT):oZ:=[(2,.c (.d (.rp a.enc 0))),(3,.c (.d (.rp b.enc 0))),(4,.c (.ptr 0 0)),(5,.c (.ptr 2 0))]
@[simp] theorem zL2:u? []=[]:=rfl
@[simp] theorem zL3:encI []=[]:=rfl
def St.forget{F:St->Prop}{t:oZ}{m:Hp}{n:Nat}(R:oZ->Hp->Prop)(hr:R t m)(h:∀T M,R T M->F ⟨T,M,n⟩):F ⟨t,m,n⟩:=h t m hr
def May.fn_len{c:gT}(h:May c):lN c.fn=0\/lN c.fn=2:=by
 rcases h.fn with e|⟨f,g,e,_⟩<;>rw[e]<;>simp
mutual
def lV(B:Nat):gT->Prop
|.mk t n s f g=>lN n<=B/\lN f<=B/\lN g<=B/\y9 B f/\y9 B g
def y9(B:Nat):List gT->Prop
|[]=>True
|c::l=>lV B c/\y9 B l
end
def zwV(B:Nat):∀l:List gT,y9 B l↔∀x,x∈l->lV B x
|[]=>by simp[y9]
|c::l=>by simp[y9,zwV B l]
def CF(B:Nat)(d:gT):lV B d↔lN d.i_<=B/\lN d.fields<=B/\lN d.fn<=B/\(∀x,x∈d.fields->lV B x)/\∀x,x∈d.fn->lV B x:=by
 cases d;simp only[lV,zwV,gT.i_,gT.fields,gT.fn]
def EJ(B:Nat):lV B r?:=by simp[lV,r?,y9]
def OJ{B:Nat}{c:gT}(h:lV B c)(hl:lN c.a_=lN c.fields)(k:fD):lV B (ru c k):=by
 unfold ru;by_cases q:k∈c.a_
 .exact((CF B c).1 h).2.2.2.1 _ (Nv hl q)
 .rw[Nu q];exact EJ B
def FJ{B:Nat}{c:gT}(h:lV B c):lV B (je c).1/\lV B (je c).2:=by
 have h':=((CF B c).1 h).2.2.2.2;unfold je;split
 next f g l e=>
  rw[e]at h';exact⟨h' f oC,h' g oC⟩
 .exact⟨EJ B,EJ B⟩
def OL{B:Nat}{c:gT}(h:lV B c):y8 B c:=by
 have:=(CF B c).1 h;exact⟨this.1,this.2.1,this.2.2.1⟩
def Ud{B B':Nat}(hB:B<=B'):∀(n:Nat) {c:gT},tV n c->lV B c->lV B' c
|0,c,hn,h=>by
 have:c=r?:=hn;rw[this];exact EJ B'
|n+1,c,hn,h=>by
 rw[CF]at h⊢;exact⟨oM,oM,oM,λx hx=>Ud hB n (hn.1 x hx) (h.2.2.2.1 x hx),λx hx=>Ud hB n (hn.2 x hx) (h.2.2.2.2 x hx)⟩
def zrN(a b:sG):(Cy a b).length<=lN a+lN b:=by
 unfold Cy;have:=dS (λn:fD × Int=> !a.any λm=>decide (m.1=n.1)) b;rw[aV];omega
def zuG(a b:gT):(BA a b).length<=lN a.a_+lN b.a_:=by
 unfold BA zaT;have:=dS (λk=> !decide (k∈a.a_)) b.a_;simp only[aa,length_mergeSort,aV];omega
def OM{A B:Nat}(hAB:2<=A+B):∀(n:Nat) {a b:gT},tV n a->tV n b->i? a=tT->i? b=tT->lV A a->lV B b->lV (A+B) (uT n a b)/\lV (A+B) (uT n b a)
|0,_,_,_,_,_,_,_,_=>⟨EJ _,EJ _⟩
| n +1,a,b,ia,ib,ma,mb,sa,sb=>by
 have Ma:=(zI _).1 ma;have Mb:=(zI _).1 mb;have ta:=(CF A a).1 sa;have tb:=(CF B b).1 sb;have la:=Ma.len;have lb:=Mb.len;have ihf:=λk=>OM hAB n (Iw ia Ma.len k) (Iw ib Mb.len k) (Ma.field k) (Mb.field k) (OJ sa Ma.len k) (OJ sb Mb.len k);have ih1:=OM hAB n (BB ia).1 (BB ib).1 Ma.pair.1 Mb.pair.1 (FJ sa).1 (FJ sb).1;have ih2:=OM hAB n (BB ia).2 (BB ib).2 Ma.pair.2 Mb.pair.2 (FJ sa).2 (FJ sb).2;have key:∀(c d:gT),lN c.i_+lN d.i_<=A+B->lN c.a_+lN d.a_<=A+B->(∀k,lV (A+B) (uT n (ru c k) (ru d k)))->lV (A+B) (uT n (je d).1 (je c).1)->lV (A+B) (uT n (je c).2 (je d).2)->lV (A+B) (kI (uT n) c d):=λc d h1 h2 h3 h4 h5=>by
  rw[CF];have hb:(yB (uT n) c d).length<=A+B:=by
   unfold yB busy;apply aX (dS _ _);rw[aa];exact aX (zuG c d) h2
  refine⟨?_,?_,?_,?_,?_⟩
  .show(y5 c d).length<=A+B;unfold y5;split
   .exact aX (zrN _ _) h1
   .omega
  .unfold kI;simp only[gT.fields];split
   .rw[aa];exact hb
   .simp
  .unfold kI;simp only[gT.fn];split
   .unfold rQ;split
    .simp
    .simpa using hAB
   .simp
  .intro x hx;unfold kI at hx;simp only[gT.fields]at hx;split at hx
   .unfold yB busy at hx;simp only[af,bP]at hx;obtain⟨y,⟨⟨k,_,rfl⟩,_⟩,rfl⟩:=hx;exact h3 k
   .cases hx
  .intro x hx;unfold kI at hx;simp only[gT.fn]at hx;split at hx
   .unfold rQ at hx;split at hx
    .cases hx
    .simp only[aM,bv,df]at hx;rcases hx with rfl|rfl
     .exact h4
     .exact h5
   .cases hx
 exact⟨key a b oM oM (λk=>(ihf k).1) ih1.2 ih2.1,key b a oM oM (λk=>(ihf k).2) ih1.1 ih2.2⟩
def OO(n:Nat)(a b:gT):gT:=if(i? a&&i? b)=tT then uT n a b else Gl
def OP(a b:fD):Op.bytesLess a.data.toList b.data.toList=decide (W? a b):=Kw _ _
structure CG (a b:List fD) (i k:Nat) (l:List fD):Prop where
 hi:i<=lN a
 hk:k<=lN b
 len:lN l<=i+k
 rises:l.Pairwise W?
 mem:∀x,x∈l↔x∈a.take i\/x∈b.take k
 la:∀x,x∈l->∀j (h:j<lN a),i<=j->W? x a[j]
 lb:∀x,x∈l->∀j (h:j<lN b),k<=j->W? x b[j]
def Iy{l:oN}(h:l.Pairwise W?){i j:Nat}(hj:j<lN l)(hij:i<j):W? (l[i]' oM) l[j]:=(dL.1 h) i j oM hj hij
def CG.left{a b l:oN}{i k:Nat}(ha:a.Pairwise W?)(hb:b.Pairwise W?)(M:CG a b i k l)(h:i<lN a)(hl:∀(hk:k<lN b),W? a[i] b[k]):CG a b (i+1) k (l++[a[i]]) where
 hi:=h
 hk:=M.hk
 len:=by have:=M.len;simp;omega
 rises:=bn.2 ⟨M.rises,oC,λx hx y hy=>by rw[aK.1 hy];exact M.la x hx i h (aJ _)⟩
 mem x:=by rw[aL,M.mem,OI h,aK];exact⟨λh=>h.elim (λh=>h.elim (λh=>.inl (.inl h)) .inr) (λh=>.inl (.inr h)),λh=>h.elim (λh=>h.elim (λh=>.inl (.inl h)) .inr) (λh=>.inl (.inr h))⟩
 la x hx j hj hij:=by
  rcases aL.1 hx with q|q
  .exact M.la x q j hj oM
  .rw[aK.1 q];exact Iy ha hj oM
 lb x hx j hj hkj:=by
  rcases aL.1 hx with q|q
  .exact M.lb x q j hj hkj
  .rw[aK.1 q];have h1:=hl oM;by_cases e:k=j
   .subst e;exact h1
   .exact Cz h1 (Iy hb hj oM)
def CG.right{a b l:oN}{i k:Nat}(ha:a.Pairwise W?)(hb:b.Pairwise W?)(M:CG a b i k l)(h:k<lN b)(hl:∀(hi:i<lN a),W? b[k] a[i]):CG a b i (k+1) (l++[b[k]]) where
 hi:=M.hi
 hk:=h
 len:=by have:=M.len;simp;omega
 rises:=bn.2 ⟨M.rises,oC,λx hx y hy=>by rw[aK.1 hy];exact M.lb x hx k h (aJ _)⟩
 mem x:=by rw[aL,M.mem,OI h,aK,or_assoc]
 la x hx j hj hij:=by
  rcases aL.1 hx with q|q
  .exact M.la x q j hj hij
  .rw[aK.1 q];have h1:=hl oM;by_cases e:i=j
   .subst e;exact h1
   .exact Cz h1 (Iy ha hj oM)
 lb x hx j hj hkj:=by
  rcases aL.1 hx with q|q
  .exact M.lb x q j hj oM
  .rw[aK.1 q];exact Iy hb hj oM
def CG.both{a b l:oN}{i k:Nat}(ha:a.Pairwise W?)(hb:b.Pairwise W?)(M:CG a b i k l)(h:i<lN a)(h':k<lN b)(e:a[i]=b[k]):CG a b (i+1) (k+1) (l++[b[k]]) where
 hi:=h
 hk:=h'
 len:=by have:=M.len;simp;omega
 rises:=bn.2 ⟨M.rises,oC,λx hx y hy=>by rw[aK.1 hy];exact M.lb x hx k h' (aJ _)⟩
 mem x:=by
  rw[aL,M.mem,OI h,OI h',aK,e];exact⟨λh=>h.elim (λh=>h.elim (λh=>.inl (.inl h)) (λh=>.inr (.inl h))) (λh=>.inr (.inr h)),λh=>h.elim (λh=>h.elim (λh=>.inl (.inl h)) .inr) (λh=>h.elim (λh=>.inl (.inr h)) .inr)⟩
 la x hx j hj hij:=by
  rcases aL.1 hx with q|q
  .exact M.la x q j hj oM
  .rw[aK.1 q,<-e];exact Iy ha hj oM
 lb x hx j hj hkj:=by
  rcases aL.1 hx with q|q
  .exact M.lb x q j hj oM
  .rw[aK.1 q];exact Iy hb hj oM
def zDX(a b:oN)(ha:a.Pairwise W?)(hb:b.Pairwise W?)(sa:lN a<=536870912)(sb:lN b<=536870912):
  h_ Pg 116 [.one (.sl oK 1 (encS a)),.one (.sl oK 1 (encS b))] (.one (.sl oK 1 (encS (zaT (a++b.filter λk=> !decide (k∈a)))))):=by
 have hfin:∀l,CG a b (lN a) (lN b) l->l=zaT (a++b.filter λk=> !decide (k∈a)):=λl M=>by
  have hnd:(a++b.filter λk=> !decide (k∈a)).Nodup:=by
   refine bK.2 ⟨Gm ha,(Gm hb).filter _,λx hx y hy e=>?_⟩;simp only[bP,bB,bQ]at hy;exact hy.2 (e▸hx)
  refine zEJ M.rises (UV hnd) λx=>?_;rw[M.mem,UU,bJ,bJ];simp only[aL,bP,bB,bQ];by_cases h:x∈a<;>simp[h]
 refine zzF oC λo c hN hp=>?_;unfold zoq;simp;refine fT [.t 5] ?_;simp
 refine fM gm hp (λx:Nat × Nat × List fD=>CG a b x.1 x.2.1 x.2.2) (λx=>[(6,.c (.d (.int .i64 x.1))),(7,.c (.d (.int .i64 x.2.1))),(5,.c (.x_ 1 0 0 (lN x.2.2))),(0,.c (.d (.sl oK 1 (encS a)))),(1,.c (.d (.sl oK 1 (encS b))))])
  (λx=>[.arr 1 ((encS x.2.2).map (·.map .d))]) (λx=>(lN a-x.1)+(lN b-x.2.1)) (0,0,[]) [0] ⟨oC,oC,oC,oC,oC,oC,oC⟩ oC λ⟨i,k,l⟩ M=>?_
 have m1:=M.hi;have m2:=M.hk;have m3:=M.len;simp only at m1 m2 m3 M;unfold zk9;simp;have ta:∀{l:oN},(encS l).take (lN l)=encS l:=aD oC;by_cases hi:i<lN a
 .by_cases hk:k<lN b
  .have kne:¬((k:Int)=lN b):=oM;have hd:W? a[i] b[k]\/a[i]=b[k]\/(W? b[k] a[i]/\¬a[i]=b[k]/\¬W? a[i] b[k]):=by
    by_cases e:a[i]=b[k]
    .exact .inr (.inl e)
    .rcases Nt e with q|q
     .exact .inl q
     .exact .inr (.inr ⟨q,e,λh=>EH _ (Cz h q)⟩)
   rcases hd with q|q|⟨q,q1,q2⟩
   .have q':=(OP a[i] b[k]).trans (bS q);simp[hi,hk,kne,aA hi,aA hk,q',ta];refine⟨oD,oM,?_⟩;refine fE (i+1,k,l++[a[i]]) [1] (M.left ha hb hi λ_=>q) (by simp;omega) ?_;simp;exact⟨wI,by rw[aD oC];try simp[encS]⟩
   .have q':=(OP a[i] b[k]).trans (bL (by rw[q];exact EH _));simp[hi,hk,kne,aA hi,aA hk,q',ta];refine⟨oD,oM,?_⟩;refine oG ?_;simp only[q,decide_true,zKY];refine fT [] ?_;simp;refine fE (i+1,k+1,l++[b[k]]) [1] (M.both ha hb hi hk q) (by simp;omega) ?_;simp;exact⟨⟨wI,wI⟩,by rw[aD oC];try simp[encS]⟩
   .have q':=(OP a[i] b[k]).trans (bL q2);simp[hi,hk,kne,aA hi,aA hk,q',ta];refine⟨oD,oM,?_⟩;refine oG ?_;simp only[q1,decide_false,zKZ];refine fT [] ?_;simp;refine fE (i,k+1,l++[b[k]]) [1] (M.right ha hb hk λ_=>q) (by simp;omega) ?_;simp;exact⟨wI,by rw[aD oC];try simp[encS]⟩
  .have ek:k=lN b:=oM;subst ek;simp[hi,aA hi,ta];refine⟨oD,oM,?_⟩;refine fE (i+1,lN b,l++[a[i]]) [1] (M.left ha hb hi λh=>absurd h hk) (by simp;omega) ?_;simp;exact⟨wI,by rw[aD oC];try simp[encS]⟩
 .have ei:i=lN a:=oM;subst ei;by_cases hk:k<lN b
  .have kne:¬((k:Int)=lN b):=oM;simp[hk,kne,aA hk,ta];refine⟨oD,oM,oD,?_⟩;refine fT [] ?_;simp;refine fE (lN a,k+1,l++[b[k]]) [1] (M.right ha hb hk λh=>absurd h hi) (by simp;omega) ?_;simp;exact⟨wI,by rw[aD oC];try simp[encS]⟩
  .have ek:k=lN b:=oM;subst ek;simp[ta];rw[hfin l M]
def zuP(d:gT)(k:fD)(hn:lN d.a_=lN d.fields)(hl:lN d.a_<=536870912):h_ Pg 118 [.agg d.enc,.one (.str k)] (.agg (ru d k).enc):=by
 refine zzE oC λo c hN hp=>?_;simp[zop]
 refine fO gm hp TH [5] (λj:Nat=>j<=lN d.a_/\Bz (d.a_.drop j) (d.fields.drop j) k=ru d k) (λj=>[.c (.d (.int .i64 j))])
  (λ_=>[mh]) (λj=>lN d.a_-j) 0 [0] ⟨oC,by simp[ru]⟩ (by simp[TH]) λj ⟨g1,g2⟩=>?_
 simp[zk8,TH];apply gM<;>intro h
 .have hj:j<lN d.a_:=uM h;have _q:j<lN d.fields:=oM;rw[aF hj,aF _q,Bz]at g2;simp[aA hj,aA _q];apply gM<;>intro q
  .have q':k=d.a_[j]:=(of_decide_eq_true q).symm;rw[aC q']at g2;simp[g2]
  .have q':¬k=d.a_[j]:=λe=>by rw[e]at q;simp at q
   rw[aB q']at g2;exact fE (j+1) [0] ⟨oM,g2⟩ oM (by simp;exact wI)
 .have hj:j=lN d.a_:=oI h;subst hj;apply gQ zG;rw[aS]at g2;simp[Bz]at g2;simp[<-g2]
def OQ(a b:gT):h_ Pg 114 [.agg a.enc,.agg b.enc] (.one (.sl oK 5 ((rQ a b).map gT.enc))):=by
 refine zCu oC λo c hN hp=>?_;simp[zqh];apply gQ (EF a);simp;apply gQ (EF b);simp;refine gM (λh1=>gM (λh2=>?_) (λh2=>?_)) (λh1=>?_)
 .simp[rQ,h1,h2]
 .simp at h2;simp[rQ,h2]
 .simp at h1;simp[rQ,h1]
def zIM(a b f:D)(N:oN)(F':sN)(k:fD)(d:gT)(hd:ja d r?=tT):
  q_ Pg 117 [.ag [.d a,.d b,.x_ 1 0 0 (lN N),.x_ 5 1 0 (lN F'),.d f],.c (.d (.str k)),.ag (d.enc.map .d)] [.arr 1 ((encS N).map (·.map .d)),.arr 5 ((F'.map gT.enc).map (·.map .d))]
   (.ag [.d a,.d b,.x_ 1 0 0 (lN N),.x_ 5 1 0 (lN F'),.d f]) [.arr 1 ((encS N).map (·.map .d)),.arr 5 ((F'.map gT.enc).map (·.map .d))]:=by
 refine TG ⟨oC,oC,oC,oC,oC,by simp[live],oC⟩ λts _e ok hb c hN hp=>?_;obtain⟨t0,t1,rfl⟩:=zEF _e;simp[NU];apply gQ (EF d);simp[hd];exact fJ [0,1] [2,3]
def zGu(a b f:D)(N:oN)(F':sN)(k:fD)(d:gT)(hd:ja d r?=oK)(h1:lN N<=1073741824)(h2:lN F'<=1073741824):
  q_ Pg 117 [.ag [.d a,.d b,.x_ 1 0 0 (lN N),.x_ 5 1 0 (lN F'),.d f],.c (.d (.str k)),.ag (d.enc.map .d)] [.arr 1 ((encS N).map (·.map .d)),.arr 5 ((F'.map gT.enc).map (·.map .d))]
   (.ag [.d a,.d b,.x_ 1 2 0 (N++[k]).length,.x_ 5 3 0 (F'++[d]).length,.d f]) [.dead,.dead,.arr 1 ((encS (N++[k])).map (·.map .d)),.arr 5 (((F'++[d]).map gT.enc).map (·.map .d))]:=by
 refine TG ⟨oC,oC,oC,oC,oC,by simp[live],by simp[live]⟩ λts _e ok hb c hN hp=>?_;obtain⟨t0,t1,rfl⟩:=zEF _e;simp[NU];apply gQ (EF d);simp[hd];refine⟨oM,oM,fK [0,1,6,7] [2,3] ?_⟩;simp[encS];exact⟨aD oC,aD oC⟩
def Ue{c:Ctx}(hp:c.pure){a b:gT}(Ma:May a)(Mb:May b){Q:Exit->St->Prop}{S:St}{g}
  (h0:gy [0,1,2] S ((6,.c (.d (.int .i64 0)))::EI a b) [mh,.arr 1 ((encI uS).map (·.map .d)),.box [.x_ 1 1 0 6,.d (.sl tT 2 []),.d (.sl tT 1 []),.d (.sl tT 5 []),.d (.sl tT 5 [])]])
  (hQ:∀T,Abs.look T 2=.c (.d (.rp a.enc 0))->Abs.look T 3=.c (.d (.rp b.enc 0))->Abs.look T 4=.c (.ptr 0 0)->Abs.look T 5=.c (.ptr 2 0)->
   Q (.exit 0) ⟨T,r_ [mh,.arr 1 ((encI (pu a.tags b.tags)).map (·.map .d)),.box [.x_ 1 1 0 6,.d (.sl tT 2 []),.d (.sl tT 1 []),.d (.sl tT 5 []),.d (.sl tT 5 [])]],3⟩):mI Pg c TM Q g S:=by
 have hL:(pu a.tags b.tags).length=6:=UY Ma.tags Mb.tags
 refine fM gm hp (λj:Nat=>j<=6) (λj=>(6,.c (.d (.int .i64 j)))::EI a b)
  (λj=>[mh,.arr 1 ((encI (CB (pu a.tags b.tags) j)).map (·.map .d)),.box [.x_ 1 1 0 6,.d (.sl tT 2 []),.d (.sl tT 1 []),.d (.sl tT 5 []),.d (.sl tT 5 [])]])
  (λj=>6-j) 0 [0,1,2] oC h0 λj h1=>?_
 unfold TM;simp;apply gM<;>intro h
 .have hj:j<6:=oI h;have hja:j<lN a.tags:=by rw[Ma.tags];exact hj
  have hjb:j<lN b.tags:=by rw[Mb.tags];exact hj
  have hup:(CB (pu a.tags b.tags) j).length=6:=by simp[CB,hL];omega
  have hju:j<(CB (pu a.tags b.tags) j).length:=oM;have hset:∀x,x=(pu a.tags b.tags)[j]' oM->(encI (CB (pu a.tags b.tags) j)).set j [.int .i64 x]=encI (CB (pu a.tags b.tags) (j+1)):=λx e=>by
   rw[e,<-zwU,zIB hL hj]
  have _R:(pu a.tags b.tags)[j]' oM=if a.tags[j]=0 then b.tags[j]else a.tags[j]:=by simp[pu]
  simp[aA hja,aA hjb,aA hju];refine⟨oM,oD,?_⟩;apply gM<;>intro h
  .simp at h;have hju2:((List.map (λx=>List.map AC.d x) (encI (CB (pu a.tags b.tags) j))).set j [AC.d (D.int IntKind.i64 a.tags[j])])[j]?=sS [AC.d (D.int IntKind.i64 a.tags[j])]:=by
    rw[getElem?_set_self (by simp[hup];exact hj)]
   rw[hju2];refine jV ?_;refine oG ?_;refine fE (j+1) [0,1,2] oM oM ?_;simp;refine⟨wI,?_⟩;rw[<-hset b.tags[j] (by rw[_R,aC h])];simp[map_set]
  .simp at h;refine fE (j+1) [0,1,2] oM oM ?_;simp;refine⟨wI,?_⟩;rw[<-hset a.tags[j] (by rw[_R,aB h])];simp[map_set]
 .have hj:j=6:=oI h;subst hj;have hup:CB (pu a.tags b.tags) 6=pu a.tags b.tags:=by
   unfold CB;rw[aD oM];simp
  rw[hup];exact hQ _ oC oC oC oC
def zL(a b:gT)(j:Nat):sG:=Cy a.i_ (b.i_.take j)
def zBG{a b:gT}{j:Nat}(h:j<lN b.i_):zL a b (j+1)=if(a.i_.any λm=>decide (m.1=b.i_[j].1))=tT then zL a b j else zL a b j++[b.i_[j]]:=by
 unfold zL Cy;rw[aN h,filter_append];by_cases q:(a.i_.any λm=>decide (m.1=b.i_[j].1))=tT
 .rw[aC q];simp[q]
 .rw[aB q];simp[q]
def zDY(a b:gT)(j:Nat):(zL a b j).length<=lN a.i_+lN b.i_:=by
 have h1:=zrN a.i_ (b.i_.take j);have h2:(b.i_.take j).length<=lN b.i_:=by rw[bz];omega
 unfold zL;omega
abbrev AX(n:Nat):A_:=.box [.x_ 1 1 0 6,.x_ 2 3 0 n,.d (.sl tT 1 []),.d (.sl tT 5 []),.d (.sl tT 5 [])]
def Uf{c:Ctx}(hp:c.pure){a b:gT}(Ma:May a)(Mb:May b)(T:oW)(hal:lN a.i_<=536870912)(hbl:lN b.i_<=536870912){Q:Exit->St->Prop}{S:St}{g}{ms:oO}
  (h0:gy ms S ((7,.c (.d (.int .i64 0)))::EI a b) [mh,.arr 1 ((encI T).map (·.map .d)),AX (lN a.i_),.arr 2 ((u? a.i_).map (·.map .d))])
  (hQ:∀T',Abs.look T' 2=.c (.d (.rp a.enc 0))->Abs.look T' 3=.c (.d (.rp b.enc 0))->Abs.look T' 4=.c (.ptr 0 0)->Abs.look T' 5=.c (.ptr 2 0)->
   Q (.exit 2) ⟨T',r_ [mh,.arr 1 ((encI T).map (·.map .d)),AX (y5 a b).length,.arr 2 ((u? (y5 a b)).map (·.map .d))],4⟩):mI Pg c NV Q g S:=by
 have ha4:a.tags[4]?=sS (m? a 4):=OH Ma.tags oM;by_cases q4:m? a 4=0;rotate_left
 .have hn:y5 a b=a.i_:=by unfold y5;rw[aB q4]
  rw[hn]at hQ
  refine fM gm hp (λj:Nat=>j=0) (λj=>(7,.c (.d (.int .i64 0)))::EI a b) (λ_=>[mh,.arr 1 ((encI T).map (·.map .d)),AX (lN a.i_),.arr 2 ((u? a.i_).map (·.map .d))])
   (λj=>0) 0 ms rfl h0 λj h1=>?_
  unfold NV;simp;apply gM<;>intro h
  .simp[ha4,q4];exact hQ _ oC oC oC oC
  .exact hQ _ oC oC oC oC
 have hn:y5 a b=zL a b (lN b.i_):=by unfold y5 zL;rw[aC q4,bJ]
 have hn0:zL a b 0=a.i_:=by simp[zL,Cy]
 rw[hn]at hQ
 refine fM gm hp (λj:Nat=>j<=lN b.i_) (λj=>(7,.c (.d (.int .i64 j)))::EI a b) (λj=>[mh,.arr 1 ((encI T).map (·.map .d)),AX (zL a b j).length,.arr 2 ((u? (zL a b j)).map (·.map .d))])
  (λj=>lN b.i_-j) 0 ms oC (by simpa[hn0]using h0) λj h1=>?_
 unfold NV;simp;apply gM<;>intro h
 .have hj:j<lN b.i_:=uM h;simp[ha4,q4]
  refine fM gm hp (λk:Nat=>k<=lN a.i_) (λk=>(9,.c (.d (.int .i64 k)))::(8,.c (.d (.bool ((a.i_.take k).any λm=>decide (m.1=b.i_[j].1)))))::(7,.c (.d (.int .i64 j)))::EI a b)
   (λk=>[mh,.arr 1 ((encI T).map (·.map .d)),AX (zL a b j).length,.arr 2 ((u? (zL a b j)).map (·.map .d))])
   (λk=>lN a.i_-k) 0 [0,1,2,3] oC oC λk h2=>?_
  unfold zid;simp;apply gM<;>intro h
  .have hk:k<lN a.i_:=uM h;have hany:((a.i_.take (k+1)).any λm=>decide (m.1=b.i_[j].1))=(((a.i_.take k).any λm=>decide (m.1=b.i_[j].1))||decide (a.i_[k].1=b.i_[j].1)):=by
    rw[aN hk,any_append];simp
   apply gM<;>intro h
   .rw[h,Bool.false_or]at hany;simp[u?,aA hk,aA hj];refine oG ?_;refine fE (k+1) [0,1,2,3] oM oM ?_;rw[hany];simp;exact wI
   .simp only[Bool.not_false]at h;rw[h,Bool.true_or]at hany;refine oG ?_;refine fE (k+1) [0,1,2,3] oM oM ?_;rw[hany];simp;exact wI
  .have hk:k=lN a.i_:=oI h;subst hk;have hs:=zBG (a:=a) hj;have hlen:=zDY a b j;simp;apply gM<;>intro h
   .have hf:(a.i_.any λm=>decide (m.1=b.i_[j].1))=oK:=uM h;rw[aB (by simp[hf])]at hs;simp[u?,aA hj];refine⟨oM,oD,?_⟩;refine fE (j+1) [0,1,2,4] oM oM ?_;rw[hs];simp;refine⟨wI,?_⟩;rw[aD oC];try simp[u?]
   .have hf:(a.i_.any λm=>decide (m.1=b.i_[j].1))=tT:=uM h;rw[aC hf]at hs;refine fE (j+1) [0,1,2,3] oM oM ?_;rw[hs];simp;exact wI
 .have hj:j=lN b.i_:=oI h;subst hj;exact hQ _ oC oC oC oC
def yc(V:fD->gT)(l:oN)(j:Nat):List (fD × gT):=busy ((l.take j).map λk=>(k,V k))
def zGv{V:fD->gT}{l:oN}{j:Nat}(h:j<lN l):yc V l (j+1)=if ja (V l[j]) r?=tT then yc V l j else yc V l j++[(l[j],V l[j])]:=by
 unfold yc busy;rw[aN h,dO,filter_append];by_cases q:ja (V l[j]) r?=tT
 .rw[aC q];simp[q]
 .rw[aB q];simp[q]
def zIN(V:fD->gT)(l:oN)(j:Nat):(yc V l j).length<=lN l:=by
 unfold yc busy;apply aX (dS _ _);rw[aa,bz];omega
abbrev EK(A B:D)(n:Nat):A_:=.box [.d A,.d B,.x_ 1 4 0 n,.x_ 5 5 0 n,.d (.sl tT 5 [])]
abbrev Kz(L:List (fD × gT)):A_:=.arr 1 ((encS (L.map (·.1))).map (·.map .d))
abbrev LA(L:List (fD × gT)):A_:=.arr 5 (((L.map (·.2)).map gT.enc).map (·.map .d))
def Ug{c:Ctx}(hp:c.pure){a b:gT}(Ma:May a)(Mb:May b)(V:fD->gT)(l:oN)(hl:lN l<=1073741824)(sa:lN a.a_<=536870912)(sb:lN b.a_<=536870912)
  (H1:∀k,k∈l->h_ Pg 72 [.agg (ru a k).enc,.agg (ru b k).enc] (.agg (V k).enc))
  (T:oW) (hT:lN T=6) (B:D) {Q:Exit->St->Prop} {S:St} {g} {ms:oO}
  (h0:gy ms S ((11,.c (.d (.int .i64 0)))::(10,.c (.d (.sl oK 1 (encS l))))::EI a b) [mh,.dead,EK (.sl oK 1 (encI T)) B 0,.dead,.arr 1 [],.arr 5 []])
  (hQ:∀T' L,L=(if T.getD 4 0=0 then yc V l (lN l) else [])->Abs.look T' 2=.c (.d (.rp a.enc 0))->Abs.look T' 3=.c (.d (.rp b.enc 0))->Abs.look T' 4=.c (.ptr 0 0)->Abs.look T' 5=.c (.ptr 2 0)->
   Q (.exit 6) ⟨T',r_ [mh,.dead,EK (.sl oK 1 (encI T)) B (lN L),.dead,Kz L,LA L],6⟩):mI Pg c NW Q g S:=by
 have hT4:T[4]?=sS (T.getD 4 0):=OH hT oM;have _u:yc V l 0=[]:=by simp[yc,busy]
 generalize T.getD 4 0=t4 at*
 by_cases q4:t4=0;rotate_left
 .rw[aB q4]at hQ
  refine fM gm hp (λj:Nat=>j=0) (λj=>(11,.c (.d (.int .i64 0)))::(10,.c (.d (.sl oK 1 (encS l))))::EI a b) (λ_=>[mh,.dead,EK (.sl oK 1 (encI T)) B 0,.dead,.arr 1 [],.arr 5 []])
   (λj=>0) 0 ms rfl h0 λj h1=>?_
  simp[NW];apply gM<;>intro h
  .simp[hT4,q4];exact hQ _ [] rfl oC oC oC oC
  .exact hQ _ [] rfl oC oC oC oC
 rw[aC q4]at hQ
 refine fM gm hp (λj:Nat=>j<=lN l) (λj=>(11,.c (.d (.int .i64 j)))::(10,.c (.d (.sl oK 1 (encS l))))::EI a b)
  (λj=>[mh,.dead,EK (.sl oK 1 (encI T)) B (yc V l j).length,.dead,Kz (yc V l j),LA (yc V l j)])
  (λj=>lN l-j) 0 ms oC (by simp only[_u];exact h0) λj h1=>?_
 simp[NW];apply gM<;>intro h
 .have hj:j<lN l:=uM h;have hs:=zGv (V:=V) hj;have hlen:=zIN V l j;simp[hT4,q4,aA hj];apply gQ (zuP a l[j] Ma.len sa);simp[aA hj];apply gQ (zuP b l[j] Mb.len sb);simp[aA hj];apply gQ (H1 l[j] (aO hj));simp;generalize yc V l j=L at*
  by_cases q:ja (V l[j]) r?=tT
  .rw[aC q]at hs;have hr:=zIM (.sl oK 1 (encI T)) B (.sl tT 5 []) (L.map (·.1)) (L.map (·.2)) l[j] (V l[j]) q;simp only[aa]at hr;apply gN [4,5] hr;simp;refine⟨oD,fT [] ?_⟩;simp;apply fE (j+1) [0,1,2,3,4,5] oM oM;rw[hs];simp;exact wI
  .rw[aB q]at hs;have hr:=zGu (.sl oK 1 (encI T)) B (.sl tT 5 []) (L.map (·.1)) (L.map (·.2)) l[j] (V l[j]) (uM q) (by simp;omega) (by simp;omega);simp only[aa]at hr;apply gN [4,5] hr;simp;refine⟨oD,fT [] ?_⟩;simp;apply fE (j+1) [0,1,2,3,6,7] oM oM;rw[hs];simp;exact wI
 .have hj:j=lN l:=oI h;subst hj;exact hQ _ _ rfl oC oC oC oC
structure RcH (v:gT->gT->gT) (a b:gT):Prop where
 Ma:May a
 Mb:May b
 v0:v r? r?=r?
 sa:y8 536870912 a
 sb:y8 536870912 b
 H1:∀k,k∈BA a b->h_ Pg 72 [.agg (ru a k).enc,.agg (ru b k).enc] (.agg (v (ru a k) (ru b k)).enc)
 H2:0<lN a.fn+lN b.fn->h_ Pg 72 [.agg (je b).1.enc,.agg (je a).1.enc] (.agg (v (je b).1 (je a).1).enc)
 H3:0<lN a.fn+lN b.fn->h_ Pg 72 [.agg (je a).2.enc,.agg (je b).2.enc] (.agg (v (je a).2 (je b).2).enc)
theorem zGw{v:gT->gT->gT}{a b:gT}(H:RcH v a b):(kI v a b).fn=if m? (kI v a b) 5=0/\0<lN a.fn+lN b.fn then rQ (v (je b).1 (je a).1) (v (je a).2 (je b).2)else []:=by
 have h0:(kI v a b).fn=if m? (kI v a b) 5=0 then rQ (v (je b).1 (je a).1) (v (je a).2 (je b).2)else []:=rfl;rw[h0];by_cases q:m? (kI v a b) 5=0
 .by_cases r:0<lN a.fn+lN b.fn
  .rw[aC q,aC ⟨q,r⟩]
  .have ea:a.fn=[]:=aW.1 oM;have eb:b.fn=[]:=aW.1 oM;have pa:je a=(r?,r?):=by unfold je;rw[ea]
   have pb:je b=(r?,r?):=by unfold je;rw[eb]
   rw[aC q,aB (λh=>r h.2),pa,pb];unfold rQ;simp[H.v0,UX]
 .rw[aB q,aB (λh=>q h.1)]
theorem zmO{v:gT->gT->gT}{a b:gT}(H:RcH v a b):h_ Pg 72 [.agg a.enc,.agg b.enc] (.agg (kI v a b).enc):=by
 have Ma:=H.Ma;have Mb:=H.Mb;have sa:=H.sa;have sb:=H.sb;refine ztW oC λo c hN hp=>?_;have hL:(pu a.tags b.tags).length=6:=UY Ma.tags Mb.tags;have hc5:(pu a.tags b.tags)[5]?=sS (m? (kI v a b) 5):=OH hL oM;have hc4:(pu a.tags b.tags).getD 4 0=m? (kI v a b) 4:=rfl;have hE:(kI v a b).enc=[.sl oK 1 (encI (pu a.tags b.tags)),.sl oK 2 (u? (kI v a b).i_),.sl oK 1 (encS (kI v a b).a_),.sl oK 5 ((kI v a b).fields.map gT.enc),.sl oK 5 ((kI v a b).fn.map gT.enc)]:=gT.l_ _;have hneeds:(kI v a b).i_=y5 a b:=rfl;have hnames:(kI v a b).a_=(if m? (kI v a b) 4=0 then yB v a b else []).map (·.1):=by
  have:(kI v a b).a_=if m? (kI v a b) 4=0 then(yB v a b).map (·.1)else []:=rfl;rw[this];split<;>rfl
 have hfields:(kI v a b).fields=(if m? (kI v a b) 4=0 then yB v a b else []).map (·.2):=by
  have:(kI v a b).fields=if m? (kI v a b) 4=0 then(yB v a b).map (·.2)else []:=rfl;rw[this];split<;>rfl
 have hfn:=zGw H;rw[hE,hneeds,hnames,hfields,hfn];clear hE hneeds hnames hfields hfn;have hfs:yB v a b=yc (λk=>v (ru a k) (ru b k)) (BA a b) (BA a b).length:=by unfold yc yB;rw[bJ]
 generalize hL0:(if m? (kI v a b) 4=0 then yB v a b else [])=L0;generalize hG:(if m? (kI v a b) 5=0/\0<lN a.fn+lN b.fn then rQ (v (je b).1 (je a).1) (v (je a).2 (je b).2)else [])=G;have h6:6<=(pu a.tags b.tags).length:=oM;have han:lN a.i_<=536870912:=sa.i_;have hbn:lN b.i_<=536870912:=sb.i_;have hfl:lN a.fn<=2/\lN b.fn<=2:=⟨by have:=Ma.fn_len;omega,by have:=Mb.fn_len;omega⟩
 have hal:lN a.a_<=536870912:=by have:=sa.fields;have:=Ma.len;omega
 have hbl:lN b.a_<=536870912:=by have:=sb.fields;have:=Mb.len;omega
 have hkl:=zuG a b;unfold zj2;simp;refine gN [] Gj ?_;simp;refine Ue hp Ma Mb oC λS0 e2 e3 e4 e5=>?_;generalize pu a.tags b.tags=T at*
 have htk:(encI T).take 6=encI T:=aD (by simp[hL]);simp;refine fT [.c 2 1] ?_;simp only[Wx,Ed];simp only[JW,JV,getElem?_cons_zero,getElem?_cons_succ];refine⟨oC,?_⟩
 refine St.forget (F:=w_ Pg c _ _ _) (λT' M=>Abs.look T' 2=.c (.d (.rp a.enc 0))/\Abs.look T' 3=.c (.d (.rp b.enc 0))/\Abs.look T' 4=.c (.ptr 0 0)/\Abs.look T' 5=.c (.ptr 2 0)/\
  M 0=mh/\M 1=.arr 1 ((encI T).map (·.map .d))/\M 2=AX 0/\M 3=.arr 2 []/\∀i,4<=i->M i=.c?) ?_ λT' M ⟨e2,e3,e4,e5,m0,m1,m2,m3,mn⟩=>?_
 .refine⟨e2,e3,e4,e5,oC,oC,oC,oC,λi hi=>?_⟩;have h1:i≠2:=oM;have h2:i≠3:=oM;simp only[Ef,aB h1,aB h2];exact wR (by simp;omega)
 simp[e2,e3,e4,e5,m0,m1,m2,m3,mn];refine jV ?_;clear mn;refine Uf hp Ma Mb T han hbn (ms:=[0,1,2,4]) (by simp[e2,e3,e4,e5,m0,m1,m2,m3]) λS1 e2 e3 e4 e5=>?_;clear m0 m1 m2 m3;generalize y5 a b=Nd at*
 have hNd:(u? Nd).take (lN Nd)=u? Nd:=aD oC;simp;refine fQ [1,3] ?_;simp only[D5,Ef,aC,aB,reduceIte,Nat.reduceEqDiff,CV,yG,A_.fz_arr,F8,DZ,JW,JV]
 refine St.forget (F:=w_ Pg c _ _ _) (λT' M=>Abs.look T' 2=.c (.d (.rp a.enc 0))/\Abs.look T' 3=.c (.d (.rp b.enc 0))/\Abs.look T' 4=.c (.ptr 0 0)/\Abs.look T' 5=.c (.ptr 2 0)/\
  M 0=mh/\M 1=.dead/\M 2=.box [.d (.sl oK 1 (encI T)),.d (.sl oK 2 (u? Nd)),.d (.sl tT 1 []),.d (.sl tT 5 []),.d (.sl tT 5 [])]/\M 3=.dead/\∀i,4<=i->M i=.c?) ?_ λT' M ⟨e2,e3,e4,e5,m0,m1,m2,m3,mn⟩=>?_
 .refine⟨?_,?_,?_,?_,?_,?_,?_,?_,λi hi=>?_⟩
  .simp only[iE,Ee,aB,reduceIte,Nat.reduceEqDiff,e2,gG,AC.fz_d]
  .simp only[iE,Ee,aB,reduceIte,Nat.reduceEqDiff,e3,gG,AC.fz_d]
  .simp only[iE,Ee,aB,reduceIte,Nat.reduceEqDiff,e4,gG,AC.fz_ptr]
  .simp only[iE,Ee,aB,reduceIte,Nat.reduceEqDiff,e5,gG,AC.fz_ptr]
  .simp[yG]
  .simp[yG]
  .simp[yG,h6,htk,hNd]
  .simp[yG]
  .have h1:i≠1:=oM;have h3:i≠3:=oM;simp[yG,h1,h3];rw[wR (by simp;omega)];try rfl
 simp[e2,e3,e4,e5,m0,m1,m2,m3,mn];refine gQ (zDX a.a_ b.a_ Ma.a_ Mb.a_ hal hbl) ?_;have hku:zaT (a.a_++b.a_.filter λk=> !decide (k∈a.a_))=BA a b:=rfl;rw[hku];have H1:=H.H1;clear hku;generalize BA a b=K at*
 simp[e2,e3,e4,e5,m0,m1,m2,m3,mn];refine fT [.c 2 2,.c 2 3] ?_;simp[e2,e3,e4,e5,m0,m1,m2,m3,mn];refine Ug hp Ma Mb (λk=>v (ru a k) (ru b k)) K oM hal hbl H1 T hL (.sl oK 2 (u? Nd)) (ms:=[0,1,2,3,4,5]) (by simp[e2,e3,e4,e5,m0,m1,m2,m3]) λS2 L hL2 e2 e3 e4 e5=>?_;clear m0 m1 m2 m3 mn;rw[hc4,<-hfs,hL0]at hL2;subst hL2;clear hL0 hfs;have ht1:(encS (L.map (·.1))).take (lN L)=encS (L.map (·.1)):=aD oC;have ht2:((L.map (·.2)).map gT.enc).take (lN L)=(L.map (·.2)).map gT.enc:=aD oC;simp;refine fQ [4,5] ?_;simp only[D5,Ef,aC,aB,reduceIte,Nat.reduceEqDiff,CV,yG,A_.fz_arr,F8,DZ,JW,JV]
 refine St.forget (F:=w_ Pg c _ _ _) (λT' M=>Abs.look T' 2=.c (.d (.rp a.enc 0))/\Abs.look T' 3=.c (.d (.rp b.enc 0))/\Abs.look T' 4=.c (.ptr 0 0)/\Abs.look T' 5=.c (.ptr 2 0)/\
  M 0=mh/\M 2=.box [.d (.sl oK 1 (encI T)),.d (.sl oK 2 (u? Nd)),.d (.sl oK 1 (encS (L.map (·.1)))),.d (.sl oK 5 ((L.map (·.2)).map gT.enc)),.d (.sl tT 5 [])]/\∀i,6<=i->M i=.c?) ?_ λT' M ⟨e2,e3,e4,e5,m0,m2,mn⟩=>?_
 .refine⟨?_,?_,?_,?_,?_,?_,λi hi=>?_⟩
  .simp only[iE,Ee,aB,reduceIte,Nat.reduceEqDiff,e2,gG,AC.fz_d]
  .simp only[iE,Ee,aB,reduceIte,Nat.reduceEqDiff,e3,gG,AC.fz_d]
  .simp only[iE,Ee,aB,reduceIte,Nat.reduceEqDiff,e4,gG,AC.fz_ptr]
  .simp only[iE,Ee,aB,reduceIte,Nat.reduceEqDiff,e5,gG,AC.fz_ptr]
  .simp[yG]
  .simp only[dP]at ht2;simp[yG,ht1,ht2]
  .have h1:i≠4:=oM;have h3:i≠5:=oM;simp[yG,h1,h3];rw[wR (by simp;omega)];try rfl
 generalize (L.map (·.2)).map gT.enc=F5 at*
 generalize encS (L.map (·.1))=F4 at*
 have H2:=H.H2;have H3:=H.H3;generalize m? (kI v a b) 5=t5 at*
 have ha:(a.fn=[]/\je a=(r?,r?))\/∃x y,a.fn=[x,y]/\je a=(x,y):=by
  rcases Ma.fn with e|⟨f,g,e,_⟩
  .exact .inl ⟨e,by unfold je;rw[e]⟩
  .exact .inr ⟨f,g,e,by unfold je;rw[e]⟩
 have hb:(b.fn=[]/\je b=(r?,r?))\/∃x y,b.fn=[x,y]/\je b=(x,y):=by
  rcases Mb.fn with e|⟨f,g,e,_⟩
  .exact .inl ⟨e,by unfold je;rw[e]⟩
  .exact .inr ⟨f,g,e,by unfold je;rw[e]⟩
 by_cases q5:t5=0
 .rcases ha with⟨ea,pa⟩|⟨x,y,ea,pa⟩<;>rcases hb with⟨eb,pb⟩|⟨x',y',eb,pb⟩
  .have q:¬(t5=0/\0<lN a.fn+lN b.fn):=by simp[ea,eb]
   rw[aB q]at hG;subst hG;simp[hc5,e2,e3,e4,e5,m0,m2,mn,q5,ea,eb]
  .have q:0<lN a.fn+lN b.fn:=by simp[ea,eb]
   have H2:=H2 q;have H3:=H3 q;rw[aC ⟨q5,q⟩]at hG;rw[pa,pb]at H2 H3 hG;simp only at H2 H3 hG;subst hG;simp[hc5,e2,e3,e4,e5,m0,m2,mn,q5,ea,eb];refine gQ zG ?_;simp;refine gQ zG ?_;simp;refine gQ zG ?_;simp;refine gQ zG ?_;simp[e2,e3,e4,e5,m0,m2,mn,ea,eb];refine gQ H2 ?_;simp[e2,e3,e4,e5,m0,m2,mn,ea,eb];refine gQ H3 ?_;simp[e2,e3,e4,e5,m0,m2,mn,ea,eb];refine gQ (OQ _ _) ?_;simp[e2,e3,e4,e5,m0,m2,mn,ea,eb];decide
  .have q:0<lN a.fn+lN b.fn:=by simp[ea,eb]
   have H2:=H2 q;have H3:=H3 q;rw[aC ⟨q5,q⟩]at hG;rw[pa,pb]at H2 H3 hG;simp only at H2 H3 hG;subst hG;simp[hc5,e2,e3,e4,e5,m0,m2,mn,q5,ea,eb];refine gQ zG ?_;simp;refine gQ zG ?_;simp;refine gQ zG ?_;simp;refine gQ zG ?_;simp[e2,e3,e4,e5,m0,m2,mn,ea,eb];refine gQ H2 ?_;simp[e2,e3,e4,e5,m0,m2,mn,ea,eb];refine gQ H3 ?_;simp[e2,e3,e4,e5,m0,m2,mn,ea,eb];refine gQ (OQ _ _) ?_;simp[e2,e3,e4,e5,m0,m2,mn,ea,eb];decide
  .have q:0<lN a.fn+lN b.fn:=by simp[ea,eb]
   have H2:=H2 q;have H3:=H3 q;rw[aC ⟨q5,q⟩]at hG;rw[pa,pb]at H2 H3 hG;simp only at H2 H3 hG;subst hG;simp[hc5,e2,e3,e4,e5,m0,m2,mn,q5,ea,eb];refine gQ zG ?_;simp;refine gQ zG ?_;simp;refine gQ zG ?_;simp;refine gQ zG ?_;simp[e2,e3,e4,e5,m0,m2,mn,ea,eb];refine gQ H2 ?_;simp[e2,e3,e4,e5,m0,m2,mn,ea,eb];refine gQ H3 ?_;simp[e2,e3,e4,e5,m0,m2,mn,ea,eb];refine gQ (OQ _ _) ?_;simp[e2,e3,e4,e5,m0,m2,mn,ea,eb];decide
 .simp[q5]at hG;subst hG;simp[hc5,e2,e3,e4,e5,m0,m2,mn,q5]
def OT:∀(n:Nat) {a b:gT},tV n a->tV n b->i? a=tT->i? b=tT->lV 536870912 a->lV 536870912 b->h_ Pg 72 [.agg a.enc,.agg b.enc] (.agg (uT n a b).enc)
| 0,a,b,ia,ib,ma,mb,sa,sb=>by
 have ea:a=r?:=ia;have eb:b=r?:=ib;have e:uT 0 a b=kI (uT 0) a b:=by rw[ea,eb];exact(UZ 1).symm
 rw[e];refine zmO ⟨(zI _).1 ma,(zI _).1 mb,rfl,OL sa,OL sb,λk hk=>?_,λh=>?_,λh=>?_⟩
 .rw[ea,eb]at hk;rcases zEK.1 hk with h|h<;>cases h
 .rw[ea,eb]at h;simp[r?,gT.fn]at h
 .rw[ea,eb]at h;simp[r?,gT.fn]at h
|n+1,a,b,ia,ib,ma,mb,sa,sb=>by
 have Ma:=(zI _).1 ma;have Mb:=(zI _).1 mb;refine zmO ⟨Ma,Mb,UZ n,OL sa,OL sb,λk _=>?_,λ_=>?_,λ_=>?_⟩
 .exact OT n (Iw ia Ma.len k) (Iw ib Mb.len k) (Ma.field k) (Mb.field k) (OJ sa Ma.len k) (OJ sb Mb.len k)
 .exact OT n (BB ib).1 (BB ia).1 Mb.pair.1 Ma.pair.1 (FJ sb).1 (FJ sa).1
 .exact OT n (BB ia).2 (BB ib).2 Ma.pair.2 Mb.pair.2 (FJ sa).2 (FJ sb).2
def zzg(n:Nat){a b:gT}(ia:tV n a)(ib:tV n b)(sa:lV 536870912 a)(sb:lV 536870912 b):h_ Pg 42 [.agg a.enc,.agg b.enc] (.agg (OO n a b).enc):=by
 refine zvV oC λo c hN hp=>?_;simp[zla,OO];apply gQ (Ns a);simp;apply gQ (Ns b);simp;by_cases h1:i? a=tT
 .by_cases h2:i? b=tT
  .simp[h1,h2];apply gQ (OT n ia ib h1 h2 sa sb);simp[h1,h2]
  .simp at h2;simp[h1,h2,Gl,gT.enc,gT.j?]
 .simp at h1;simp[h1,Gl,gT.enc,gT.j?]
variable {v:f_->f_->Int->gT}{lb:Int}{ns:List fD}{ks:List f_}{j:Nat}
abbrev coA(t n k f:Nat)(T:oW)(C:gT)(x:D):AV:=.ag [.x_ 1 t 0 (lN T),.x_ 2 n 0 (lN C.i_),.x_ 1 k 0 (lN C.a_),.x_ 5 f 0 (lN C.fields),.d x]
abbrev zM(T:oW):A_:=.arr 1 ((encI T).map (·.map .d))
abbrev OU(C:gT):A_:=.arr 2 ((u? C.i_).map (·.map .d))
abbrev OV(C:gT):A_:=.arr 1 ((encS C.a_).map (·.map .d))
abbrev OW(C:gT):A_:=.arr 5 ((C.fields.map gT.enc).map (·.map .d))
def K?(C:gT)(k:fD)(d:gT):gT:=if ja d r?=tT then C else .mk C.tags C.i_ (C.a_++[k]) (C.fields++[d]) C.fn
def zKD{ts:o6}{a b c d:A_}(h:lN ts=[a,b,c,d].length):∃t u v w,ts=[t,u,v,w]:=by
 match ts,h with
 |[t,u,v,w],_=>exact⟨t,u,v,w,rfl⟩
def OX(T:oW)(C:gT)(x:D)(k:fD)(d:gT)(h1:lN C.a_<=1073741824)(h2:lN C.fields<=1073741824):
  q_ Pg 117 [coA 0 1 2 3 T C x,.c (.d (.str k)),.ag (d.enc.map .d)] [zM T,OU C,OV C,OW C]
   (coA 0 1 4 5 T (K? C k d) x) [zM T,OU (K? C k d),.dead,.dead,OV (K? C k d),OW (K? C k d)]:=by
 refine TG ⟨oC,oC,oC,oC,oC,by simp[live],by simp[live]⟩ λts _e ok hb c hN hp=>?_;obtain⟨t,u,v,w,rfl⟩:=zKD _e;simp[NU,K?];apply gQ (EF d);simp;by_cases hd:ja d r?=tT
 .simp[hd];exact fJ [0,1,8,9,2,3] [4,5,4,4]
 .simp[hd];refine⟨oM,oM,fK [0,1,2,3,10,11] [4,5,4,4] ?_⟩;simp[encS,gT.i_,gT.a_,gT.fields,gT.tags,gT.fn];exact⟨aD oC,aD oC⟩
def OY(C:gT)(k:fD)(d:gT):(K? C k d).a_.length<=lN C.a_+1/\(K? C k d).fields.length<=lN C.fields+1/\(K? C k d).i_=C.i_/\(K? C k d).fn=C.fn:=by
 unfold K?;split
 .exact⟨oM,oM,rfl,rfl⟩
 .exact⟨by simp[gT.a_],by simp[gT.fields],rfl,rfl⟩
def tX(C:gT)(k:fD)(lb:Int):gT:=.mk C.tags (C.i_++[(k,lb)]) C.a_ C.fields C.fn
def ui(v:f_->f_->Int->gT)(lb:Int):List fD->List f_->gT->gT
|k::ks,t::ts,C=>ui v lb ks ts (K? C k (v t C_ lb))
|_,_,C=>C
def uW(v:f_->f_->Int->gT)(m:I?)(lb:Int):List fD->List f_->gT->gT
|k::ks,t::ts,C=>
 let c1:=if(jC m.t k).2=oK then tX C k lb else C
 uW v m lb ks ts (if(jC m.t k).2=tT\/m.opn=tT then K? c1 k (v (jC m.t k).1 t lb)else c1)
|_,_,C=>C
def xe(v:f_->f_->Int->gT)(m n:I?)(lb:Int)(C:gT):gT:=
 if n.opn=tT then(if m.opn=tT then C else ui v lb m.t.a_ m.t.b_ C)else uW v m lb n.t.a_ n.t.b_ C
@[simp] theorem I?.gt0(p:I?)(h:0<lN p.enc):p.enc[0]=.int .i64 p.tag:=rfl
@[simp] theorem I?.gt1(p:I?)(h:1<lN p.enc):p.enc[1]=.bool p.opn:=rfl
def yf(T:oW)(x:sN):gT:=.mk T [] [] [] x
abbrev FK:A_:=.box [.d (.sl tT 1 []),.d (.sl tT 2 []),.d (.sl tT 1 []),.d (.sl tT 5 []),.d (.sl tT 5 [])]
abbrev LB(T:oW)(C:gT)(x:D):A_:=.box [.x_ 1 0 0 (lN T),.x_ 2 4 0 (lN C.i_),.x_ 1 5 0 (lN C.a_),.x_ 5 6 0 (lN C.fields),.d x]
@[simp] theorem EL(C:gT)(k:fD)(lb:Int):(tX C k lb).i_=C.i_++[(k,lb)]:=rfl
@[simp] theorem Uh(C:gT)(k:fD)(lb:Int):(tX C k lb).a_=C.a_:=rfl
@[simp] theorem Ui(C:gT)(k:fD)(lb:Int):(tX C k lb).fields=C.fields:=rfl
def OZ(a:sG)(k:fD)(lb:Int):u? (a++[(k,lb)])=u? a++[[.str k,.int .i64 lb]]:=by simp[u?]
def take1(l:oN):(encS l).take (lN l)=encS l:=aD (by simp[encS])
def take2(l:sG):(u? l).take (lN l)=u? l:=aD (by simp[u?])
def O0(l:sG):((u? l).map λx=>x.map AC.d).take (lN l)=(u? l).map λx=>x.map AC.d:=aD (by simp[u?])
def Uj(l:sN):(l.map gT.enc).take (lN l)=l.map gT.enc:=aD oC
def zHE{ns:oN}{ks:oL}(h1:j<lN ns)(h2:j<lN ks)(C:gT):ui v lb (ns.drop j) (ks.drop j) C=ui v lb (ns.drop (j+1)) (ks.drop (j+1)) (K? C ns[j] (v ks[j] C_ lb)):=by
 rw[aF h1,aF h2,ui]
def zHF{m:I?}{ns:oN}{ks:oL}(h1:j<lN ns)(h2:j<lN ks)(C:gT):uW v m lb (ns.drop j) (ks.drop j) C=uW v m lb (ns.drop (j+1)) (ks.drop (j+1)) (if(jC m.t ns[j]).2=tT\/m.opn=tT then K? (if(jC m.t ns[j]).2=oK then tX C ns[j] lb else C) ns[j] (v (jC m.t ns[j]).1 ks[j] lb)else(if(jC m.t ns[j]).2=oK then tX C ns[j] lb else C)):=by
 rw[aF h1,aF h2,uW]
def zCZ(v:f_->f_->Int->gT)(m n:I?)(lb:Int)(T:oW)(x:D)(hm:lN m.t.a_<=lN m.t.b_)(hn:lN n.t.a_<=lN n.t.b_)(sm:lN m.t.b_<=1000)(sn:lN n.t.b_<=1000)
  (hA:∀a,a∈m.t.b_->h_ Pg 71 [.agg a.enc,.agg C_.enc,.one (.int .i64 lb)] (.agg (v a C_ lb).enc))
  (hB:∀k a,a∈n.t.b_->h_ Pg 71 [.agg (jC m.t k).1.enc,.agg a.enc,.one (.int .i64 lb)] (.agg (v (jC m.t k).1 a lb).enc)) (X:sN):
  q_ Pg 115 [.ag [.x_ 1 0 0 (lN T),.d (.sl tT 2 []),.d (.sl tT 1 []),.d (.sl tT 5 []),.d x],.ag (m.enc.map .d),.ag (n.enc.map .d),.c (.d (.int .i64 lb))] [zM T]
   (.ag [.x_ 1 0 0 (lN T),.d (.sl oK 2 (u? (xe v m n lb (yf T X)).i_)),.d (.sl oK 1 (encS (xe v m n lb (yf T X)).a_)),.d (.sl oK 5 ((xe v m n lb (yf T X)).fields.map gT.enc)),.d x]) [zM T]:=by
 refine zvU ⟨oC,oC,oC,oC,oC,by simp[live],by simp[live]⟩ λts _e ok hb c hN hp=>?_;obtain⟨t,rfl⟩:=lK _e;let⟨R,hR⟩:=oJ (xe v m n lb (yf T X));rw[hR];unfold xe at hR;unfold zm3;simp;refine fT [.c 2 1,.c 2 2,.c 2 3] ?_;simp only[Wx,Ed];simp;apply gM<;>intro h
 .rw [aC h]at hR;refine fM gm hp (λY:Nat × gT=>Y.1<=lN m.t.a_/\(if m.opn=tT then Y.2 else ui v lb (m.t.a_.drop Y.1) (m.t.b_.drop Y.1) Y.2)=R/\lN Y.2.a_<=Y.1/\lN Y.2.fields<=Y.1) (λY=>[(9,.c (.d (.int .i64 Y.1))),(8,.c (.ptr 3 0)),(5,.c (.d (.rp m.enc 0))),(4,.c (.ptr 2 0)),(3,.c (.d (.int .i64 lb)))]) (λY=>[zM T,.G_ t 0,LB T Y.2 x,FK,OU Y.2,OV Y.2,OW Y.2]) (λY=>lN m.t.a_-Y.1) (0,yf T X) [0,1,2,3,4,5,6] ⟨oC,uM hR,by simp[yf,gT.a_],by simp[yf,gT.fields]⟩ (by simp[yf,gT.a_,gT.fields,gT.i_,u?,encS]) λ⟨j,C⟩ ⟨i1,i2,i3,i4⟩=>?_;unfold zj0;simp only at i1 i2 i3 i4;by_cases hj:j<lN m.t.a_
  .by_cases ho:m.opn=tT
   .rw[aC ho]at i2;subst i2;simp[encS,hj,ho];refine fQ [4,5,6] ?_;simp[nA,A?,LB];exact fK [0] [1] (by simp[take1,take2,Uj];rfl)
   .rw[aB ho]at i2;have _x:j<lN m.t.b_:=oM;simp[encS,hj,ho,aA _x];refine gQ (h_.K_ (hA _ (aO _x)) (by simp[C_,DV.R_,DV.K_,D.K_,f_.enc,f_.j?])) ?_;simp;refine gN [0,4,5,6] (OX T C x m.t.a_[j] (v m.t.b_[j] C_ lb) oM oM) ?_;simp;refine oG ?_;have pl:=OY C m.t.a_[j] (v m.t.b_[j] C_ lb);refine fE (j+1,K? C m.t.a_[j] (v m.t.b_[j] C_ lb)) [0,1,2,3,4,7,8] ⟨by simp;omega,?_,by simp;omega,by simp;omega⟩ (by simp;omega) ?_
    .simp only[aB ho];rw[<-i2,zHE hj _x]
    .simp;exact wI
  .have ej:j=lN m.t.a_:=oM;subst ej;have i2':C=R:=by
    rw[aS]at i2;revert i2;split<;>simp[ui]
   subst i2';simp[encS];refine fQ [4,5,6] ?_;simp[nA,A?,LB];exact fK [0] [1] (by simp[take1,take2,Uj];rfl)
 .rw[aB (by simp[h])]at hR;refine fM gm hp (λY:Nat × gT=>Y.1<=lN n.t.a_/\uW v m lb (n.t.a_.drop Y.1) (n.t.b_.drop Y.1) Y.2=R/\lN Y.2.a_<=Y.1/\lN Y.2.fields<=Y.1/\lN Y.2.i_<=Y.1) (λY=>[(10,.c (.d (.int .i64 Y.1))),(8,.c (.ptr 3 0)),(6,.c (.d (.rp n.enc 0))),(5,.c (.d (.rp m.enc 0))),(4,.c (.ptr 2 0)),(3,.c (.d (.int .i64 lb)))]) (λY=>[zM T,.G_ t 0,LB T Y.2 x,FK,OU Y.2,OV Y.2,OW Y.2]) (λY=>lN n.t.a_-Y.1) (0,yf T X) [0,1,2,3,4,5,6] ⟨oC,uM hR,by simp[yf,gT.a_],by simp[yf,gT.fields],by simp[yf,gT.i_]⟩ (by simp[yf,gT.a_,gT.fields,gT.i_,u?,encS]) λ⟨j,C⟩ ⟨i1,i2,i3,i4,i5⟩=>?_;unfold zj1;simp only at i1 i2 i3 i4 i5;by_cases hj:j<lN n.t.a_
  .have _x:j<lN n.t.b_:=oM;simp[encS,hj];refine gQ (R6 m.t n.t.a_[j] hm) ?_;simp;have hB':=hB n.t.a_[j] _ (aO _x);have hd:=zHF (v:=v) (m:=m) (lb:=lb) hj _x C;cases hF:(jC m.t n.t.a_[j]).2<;>cases ho:m.opn<;>simp[hF,ho]at hd<;>simp[aA hj,aA _x,put,z_,A?,nA]
   .refine⟨oD,oM,oD,?_⟩;refine fE (j+1,tX C n.t.a_[j] lb) [0,1,2,3,8,5,6] ⟨by simp;omega,by rw[<-i2,hd],by simp;omega,by simp;omega,by simp;omega⟩ (by simp;omega) ?_;simp[OZ,O0];exact wI
   .refine⟨oD,oM,oD,?_⟩;refine gQ hB' ?_;simp;refine gP [0,8,5,6] (OX T (tX C n.t.a_[j] lb) x n.t.a_[j] (v (jC m.t n.t.a_[j]).1 n.t.b_[j] lb) (by show lN C.a_<=_;omega) (by show lN C.fields<=_;omega)) (by simp[OZ,O0]) ?_;simp;refine oG ?_;have pl:=OY (tX C n.t.a_[j] lb) n.t.a_[j] (v (jC m.t n.t.a_[j]).1 n.t.b_[j] lb);try simp only[EL,Uh,Ui]at pl
    refine fE (j+1,K? (tX C n.t.a_[j] lb) n.t.a_[j] (v (jC m.t n.t.a_[j]).1 n.t.b_[j] lb)) [0,1,2,3,8,9,10] ⟨by simp;omega,by rw[<-i2,hd],by simp;omega,by simp;omega,by simp[pl];omega⟩ (by simp;omega) ?_;simp;exact wI
   .refine oG ?_;refine gQ hB' ?_;simp;refine gP [0,4,5,6] (OX T C x n.t.a_[j] (v (jC m.t n.t.a_[j]).1 n.t.b_[j] lb) (by show lN C.a_<=_;omega) (by show lN C.fields<=_;omega)) (by simp[OZ,O0]) ?_;simp;refine oG ?_;have pl:=OY C n.t.a_[j] (v (jC m.t n.t.a_[j]).1 n.t.b_[j] lb);try simp only[EL,Uh,Ui]at pl
    refine fE (j+1,K? C n.t.a_[j] (v (jC m.t n.t.a_[j]).1 n.t.b_[j] lb)) [0,1,2,3,4,8,9] ⟨by simp;omega,by rw[<-i2,hd],by simp;omega,by simp;omega,by simp[pl];omega⟩ (by simp;omega) ?_;simp;exact wI
   .refine oG ?_;refine gQ hB' ?_;simp;refine gP [0,4,5,6] (OX T C x n.t.a_[j] (v (jC m.t n.t.a_[j]).1 n.t.b_[j] lb) (by show lN C.a_<=_;omega) (by show lN C.fields<=_;omega)) (by simp[OZ,O0]) ?_;simp;refine oG ?_;have pl:=OY C n.t.a_[j] (v (jC m.t n.t.a_[j]).1 n.t.b_[j] lb);try simp only[EL,Uh,Ui]at pl
    refine fE (j+1,K? C n.t.a_[j] (v (jC m.t n.t.a_[j]).1 n.t.b_[j] lb)) [0,1,2,3,4,8,9] ⟨by simp;omega,by rw[<-i2,hd],by simp;omega,by simp;omega,by simp[pl];omega⟩ (by simp;omega) ?_;simp;exact wI
  .have ej:j=lN n.t.a_:=oM;subst ej;have i2':C=R:=by
    rw[aS]at i2;revert i2;simp[uW]
   subst i2';simp[encS];refine fQ [4,5,6] ?_;simp[nA,A?,LB];exact fK [0] [1] (by simp[take1,take2,Uj];rfl)
variable {c:Ctx}{Q:Exit->St->Prop}{S:St}{ms:List Nat}
def wL(x:Int):Int:=if x%2=0 then x+1 else x-1
def zI4(n:Nat):((n^^^1:Nat):Int)=wL n:=by
 have h1:(n^^^1)/2=n/2:=by rw[Nat.xor_div_two];simp
 have h2:(n^^^1)%2=(n+1)%2:=by
  have:=Nat.xor_mod_two_pow (a:=n) (b:=1) (n:=1);simp only[Nat.pow_one]at this;rw[this];have h:n%2=0\/n%2=1:=oM;rcases h with h|h<;>rw[h]<;>simp<;>omega
 unfold wL;split<;>omega
theorem zAJ{lb:Int}(h0:0<=lb)(h1:lb<=9223372036854775807):IntKind.i64.wrap (((lb%2^IntKind.i64.bits).toNat^^^1%2^IntKind.i64.bits:Nat):Int)=wL lb:=by
 obtain⟨n,rfl⟩:∃n:Nat,lb=n:=⟨lb.toNat,oM⟩
 have e1:(((n:Int)%2^IntKind.i64.bits).toNat)=n:=by
  show((n:Int)%18446744073709551616).toNat=n;omega
 have e2:1%2^IntKind.i64.bits=1:=rfl;rw[e1,e2,zI4];have h2:wL (n:Int)<=9223372036854775807/\0<=wL (n:Int):=by unfold wL;split<;>omega
 exact wI
def uX(C:gT)(i:Nat)(x:Int):gT:=.mk (C.tags.set i x) C.i_ C.a_ C.fields C.fn
def EM(C:gT)(g:sN):gT:=.mk C.tags C.i_ C.a_ C.fields g
def AY(v:f_->f_->Int->gT)(R:qB)(lb:Int)(m:I?)(C:gT):gT:=
 if(jl R m.tag).2=oK then uX C m.tag.toNat lb
 else if m.tag=5 then EM C (rQ (v (R? (jl R 5).1.t) (R? m.t) (wL lb)) (v (Q? m.t) (Q? (jl R 5).1.t) lb))
 else if m.tag=4 then xe v m (jl R 4).1 lb C else C
def xf(v:f_->f_->Int->gT)(R:List I?)(lb:Int):List I?->gT->gT
|[],C=>C
|m::l,C=>xf v R lb l (AY v R lb m C)
def zN:Nat->f_->f_->Int->gT
|0,_,_,_=>r?
|n+1,a,b,lb=>if a.d_=0/\b.d_=0 then r? else xf (zN n) (jk b) lb (jk a) r?
def zCa{R:qB}{tag:Int}{k:Nat}(h:(R.drop k).find? (λp=>decide (p.tag=tag))=R.find? λp=>decide (p.tag=tag)):
  (∀hk:k<lN R,R[k].tag=tag->jl R tag=(R[k],tT))/\(∀hk:k<lN R,R[k].tag≠tag->(R.drop (k+1)).find? (λp=>decide (p.tag=tag))=R.find? λp=>decide (p.tag=tag))/\(k=lN R->jl R tag=(Qq,oK)):=by
 refine⟨λhk e=>?_,λhk e=>?_,λe=>?_⟩
 .rw[aF hk,find?_cons]at h;simp only[e,decide_true]at h;unfold jl;rw[<-h]
 .rw[aF hk,find?_cons]at h;simpa only[e,decide_false]using h
 .subst e;rw[aS,find?_nil]at h;unfold jl;rw[<-h]
def zvb(C:gT)(k:fD)(d:gT):(K? C k d).tags=C.tags/\(K? C k d).fn=C.fn:=by
 unfold K?;split<;>exact⟨rfl,rfl⟩
def zxI(v:f_->f_->Int->gT)(lb:Int):∀(ns:List fD) (ks:List f_) (C:gT),(ui v lb ns ks C).tags=C.tags/\(ui v lb ns ks C).fn=C.fn
|[],_,C=>by rw[ui];exact⟨rfl,rfl⟩;intros;contradiction
|_::_,[],C=>by rw[ui];exact⟨rfl,rfl⟩;intros;contradiction
|n::ns,k::ks,C=>by
 rw[ui];have h:=zxI v lb ns ks (K? C n (v k C_ lb));have h2:=zvb C n (v k C_ lb);exact⟨h.1.trans h2.1,h.2.trans h2.2⟩
def zxJ(v:f_->f_->Int->gT)(m:I?)(lb:Int):∀(ns:List fD) (ks:List f_) (C:gT),(uW v m lb ns ks C).tags=C.tags/\(uW v m lb ns ks C).fn=C.fn
|[],_,C=>by rw[uW];exact⟨rfl,rfl⟩;intros;contradiction
|_::_,[],C=>by rw[uW];exact⟨rfl,rfl⟩;intros;contradiction
| n::ns,k::ks,C=>by
 rw[uW];have h1:(if(jC m.t n).2=oK then tX C n lb else C).tags=C.tags/\(if(jC m.t n).2=oK then tX C n lb else C).fn=C.fn:=by split<;>exact⟨rfl,rfl⟩
 generalize (if(jC m.t n).2=oK then tX C n lb else C)=c1 at*
 have h:=zxJ v m lb ns ks (if(jC m.t n).2=tT\/m.opn=tT then K? c1 n (v (jC m.t n).1 k lb)else c1);have h2:(if(jC m.t n).2=tT\/m.opn=tT then K? c1 n (v (jC m.t n).1 k lb)else c1).tags=c1.tags/\(if(jC m.t n).2=tT\/m.opn=tT then K? c1 n (v (jC m.t n).1 k lb)else c1).fn=c1.fn:=by
  split
  .exact zvb _ _ _
  .exact⟨rfl,rfl⟩
 exact⟨h.1.trans (h2.1.trans h1.1),h.2.trans (h2.2.trans h1.2)⟩
def Uk(v:f_->f_->Int->gT)(m n:I?)(lb:Int)(C:gT):(xe v m n lb C).tags=C.tags/\(xe v m n lb C).fn=C.fn:=by
 unfold xe;split
 .split
  .exact⟨rfl,rfl⟩
  .exact zxI v lb _ _ _
 .exact zxJ v m lb _ _ _
abbrev AZ(C:gT)(r f:Bool):A_:=.box [.x_ 1 1 0 6,.d (.sl (!r) 2 (u? C.i_)),.d (.sl (!r) 1 (encS C.a_)),.d (.sl (!r) 5 (C.fields.map gT.enc)),.d (.sl f 5 (C.fn.map gT.enc))]
abbrev boxM(p:I?):A_:=.box (p.enc.map .d)
abbrev O1(L R:qB)(lb:Int)(i:Nat):oZ:=[(10,.c (.d (.int .i64 i))),(9,.c (.d (.sl oK 6 (R.map I?.enc)))),(8,.c (.d (.sl oK 6 (L.map I?.enc)))),(7,.c (.ptr 2 0)),(6,.c (.ptr 0 0)),(2,.c (.d (.int .i64 lb)))]
def zG0(hp:c.pure)(L R:qB)(lb:Int)(i:Nat)(m:I?)(T:oW)(C:gT)(r f:Bool)(hR:lN R<=1000){g}{ms:oO}
  (h0:gy ms S ((12,.c (.d (.int .i64 0)))::(11,.c (.ptr 3 0))::O1 L R lb i) [FK,zM T,AZ C r f,boxM m])
  (hQ:∀k,k<=lN R->(∀hk:k<lN R,jl R m.tag=(R[k],tT))->(k=lN R->jl R m.tag=(Qq,oK))->∀T',Abs.look T' 12=.c (.d (.int .i64 k))->Abs.look T' 11=.c (.ptr 3 0)->Abs.look T' 10=.c (.d (.int .i64 i))->Abs.look T' 9=.c (.d (.sl oK 6 (R.map I?.enc)))->Abs.look T' 8=.c (.d (.sl oK 6 (L.map I?.enc)))->Abs.look T' 7=.c (.ptr 2 0)->Abs.look T' 6=.c (.ptr 0 0)->Abs.look T' 2=.c (.d (.int .i64 lb))->Q (.exit 2) ⟨T',r_ [FK,zM T,AZ C r f,boxM m],4⟩):mI Pg c TI Q g S:=by
 refine fM gm hp (λk:Nat=>k<=lN R/\(R.drop k).find? (λp=>decide (p.tag=m.tag))=R.find? λp=>decide (p.tag=m.tag)) (λk=>(12,.c (.d (.int .i64 k)))::(11,.c (.ptr 3 0))::O1 L R lb i) (λ_=>[FK,zM T,AZ C r f,boxM m]) (λk=>lN R-k) 0 ms ⟨oC,oC⟩ h0 λk ⟨h1,h2⟩=>?_;let⟨d1,d2,d3⟩:=zCa h2;unfold TI;by_cases hk:k<lN R
 .by_cases e:R[k].tag=m.tag
  .simp[hk,e];refine⟨oD,hQ k h1 (λhk=>d1 hk e) (λq=>by omega) _ oC oC oC oC oC oC oC oC⟩
  .simp[hk,e];refine⟨oD,fE (k+1) [0,1,2,3] ⟨oM,d2 hk e⟩ oM ?_⟩;simp;exact wI
 .have e:k=lN R:=oM;subst e;simp;exact⟨oD,hQ _ h1 (λhk=>absurd hk oM) d3 _ oC oC oC oC oC oC oC oC⟩
structure FL (v:f_->f_->Int->gT) (L R:List I?) (lb:Int):Prop where
 dis:(L.map (·.tag)).Nodup
 tag:∀m,m∈L->0<=m.tag/\m.tag<6
 fn:∀m n,m∈L->n∈R->m.tag=5->n.tag=5->lN m.t.b_=2/\lN n.t.b_=2/\h_ Pg 71 [.agg (R? n.t).enc,.agg (R? m.t).enc,.one (.int .i64 (wL lb))] (.agg (v (R? n.t) (R? m.t) (wL lb)).enc)/\h_ Pg 71 [.agg (Q? m.t).enc,.agg (Q? n.t).enc,.one (.int .i64 lb)] (.agg (v (Q? m.t) (Q? n.t) lb).enc)
 rc:∀m n,m∈L->n∈R->m.tag=4->n.tag=4->lN m.t.a_<=lN m.t.b_/\lN n.t.a_<=lN n.t.b_/\lN m.t.b_<=1000/\lN n.t.b_<=1000/\
  (∀a,a∈m.t.b_->h_ Pg 71 [.agg a.enc,.agg C_.enc,.one (.int .i64 lb)] (.agg (v a C_ lb).enc))/\
  (∀k a,a∈n.t.b_->h_ Pg 71 [.agg (jC m.t k).1.enc,.agg a.enc,.one (.int .i64 lb)] (.agg (v (jC m.t k).1 a lb).enc))
def zEs(hp:c.pure)(v:f_->f_->Int->gT)(L R:qB)(lb:Int)(l0:0<=lb)(l1:lb<=9223372036854775807)(hL:lN L<=1000)(hR:lN R<=1000)(H:FL v L R lb){g}{ms:oO}
  (h0:gy ms S (O1 L R lb 0) [FK,zM r?.tags,AZ r? oK tT])
  (hQ:∀T r f,Abs.look T 6=.c (.ptr 0 0)->Abs.look T 7=.c (.ptr 2 0)->Q (.exit 0) ⟨T,r_ [FK,zM (xf v R lb L r?).tags,AZ (xf v R lb L r?) r f],3⟩):mI Pg c TJ Q g S:=by
 let⟨F0,hF⟩:=oJ (xf v R lb L r?);rw[hF]at hQ;refine fM gm hp (λx:Nat × gT × Bool × Bool=>x.1<=lN L/\xf v R lb (L.drop x.1) x.2.1=F0/\lN x.2.1.tags=6/\(x.2.2.1=oK->x.2.1.i_=[]/\x.2.1.a_=[]/\x.2.1.fields=[])/\(x.2.2.1=tT->(4:Int)∈(L.map (·.tag)).take x.1)) (λx=>O1 L R lb x.1) (λx=>[FK,zM x.2.1.tags,AZ x.2.1 x.2.2.1 x.2.2.2]) (λx=>lN L-x.1) (0,r?,oK,tT) ms ⟨oC,uM hF,rfl,λ_=>⟨rfl,rfl,rfl⟩,λh=>by cases h⟩ h0 λ⟨i,C,r,f⟩ ⟨i1,i2,i3,i4,i5⟩=>?_;simp only at i1 i2 i3 i4 i5;unfold TJ;by_cases hi:i<lN L
 .rw [aF hi,xf]at i2;let⟨m,hx⟩:=oJ (L[i]);have hm:m∈L:=by rw[<-hx];exact aO hi
  have hmt:=H.tag m hm;have _Z:m.tag∉(L.map (·.tag)).take i:=λq=>by
   have hd:=H.dis;rw[<-dA i (L.map (·.tag))]at hd;have hd:=(bK.1 hd).2.2 _ q m.tag (by rw[aF (uM hi)];simp[hx]);exact hd rfl
  have hin:(L.map (·.tag)).take (i+1)=(L.map (·.tag)).take i++[m.tag]:=by rw[aN (uM hi)];simp[hx]
  rw[hx]at i2;have hx':L[i]?=sS m:=by rw[aA hi,hx]
  simp[hi,hx];refine zG0 hp L R lb i m C.tags C r f hR (ms:=[0,1,2,3]) oC λk k1 k2 k3 T' t12 t11 t10 t9 t8 t7 t6 t2=>?_;have mt:m.tag=(m.tag.toNat:Int):=oM;by_cases hk:k<lN R
  .have hpr:=k2 hk;have hn0:R[k]∈R:=aO hk;have hnt:R[k].tag=m.tag:=by have:=(GR (l:=R) (tag:=m.tag) (by rw[hpr])).2;rw[hpr]at this;exact this
   have hy':R[k]?=sS R[k]:=aA hk;generalize R[k]=n at*
   have kne:¬((k:Int)=lN R):=oM;by_cases e5:m.tag=5
   .have e4:¬m.tag=4:=oM;let⟨f1,f2,f3,f4⟩:=H.fn m n hm hn0 e5 oM;have m0:=Er f1;have m1:=Dt f1;have n0:=Er f2;have n1:=Dt f2;have hxf:=zAJ l0 l1;simp[t12,t11,t10,t9,t8,t7,t6,t2,kne,hy',e5,n0.2,m0.2,hxf];refine gQ f3 ?_;simp[t12,t11,t10,t9,t8,t7,t6,t2,n1.2,m1.2];refine gQ f4 ?_;simp[t12,t11,t10,t9,t8,t7,t6,t2];refine gQ (OQ _ _) ?_;simp[t12,t11,t10,t9,t8,t7,t6,t2,e5];refine oG ?_;have hst:AY v R lb m C=EM C (rQ (v (R? n.t) (R? m.t) (wL lb)) (v (Q? m.t) (Q? n.t) lb)):=by
     unfold AY;rw[e5]at hpr⊢;simp[hpr]
    rw[hst]at i2;refine fE (i+1,EM C (rQ (v (R? n.t) (R? m.t) (wL lb)) (v (Q? m.t) (Q? n.t) lb)),r,oK) [0,1,2] ⟨by simp;omega,i2,i3,i4,λh=>by rw[hin];exact bY _ (i5 h)⟩ (by simp;omega) ?_;simp[t12,t11,t10,t9,t8,t7,t6,t2,EM,gT.tags,gT.i_,gT.a_,gT.fields,gT.fn];exact wI
   .by_cases e4:m.tag=4
    .let⟨f1,f2,f3,f4,f5,f6⟩:=H.rc m n hm hn0 e4 oM;have hr:r=oK:=by
      cases r with
      |false=>rfl
      |true=>exact absurd (i5 rfl) (by rw[<-e4];exact _Z)
     subst hr;let⟨c1,c2,c3⟩:=i4 rfl;have hC:yf C.tags C.fn=C:=by
      unfold yf;cases C;simp only[gT.i_,gT.a_,gT.fields]at c1 c2 c3;subst c1;subst c2;subst c3;rfl
     have hst:AY v R lb m C=xe v m n lb C:=by
      unfold AY;rw[e4]at hpr⊢;simp[hpr]
     rw[hst]at i2;have hrec:=zCZ v m n lb C.tags (.sl f 5 (C.fn.map gT.enc)) f1 f2 f3 f4 f5 f6 C.fn;rw[hC,i3]at hrec;simp[t12,t11,t10,t9,t8,t7,t6,t2,kne,hy',e4,c1,c2,c3];refine gP [1] hrec (by simp[c1,c2,c3]) ?_;have hk:=Uk v m n lb C;simp[t12,t11,t10,t9,t8,t7,t6,t2];refine fE (i+1,xe v m n lb C,tT,f) [0,1,2] ⟨by simp;omega,i2,by rw[hk.1];exact i3,λh=>(by cases h),λ_=>by rw[hin,e4];simp⟩ (by simp;omega) ?_;simp[t12,t11,t10,t9,t8,t7,t6,t2,hk.1,hk.2];exact wI
    .have hst:AY v R lb m C=C:=by
      unfold AY;simp[hpr,e4,e5]
     rw[hst]at i2;simp[t12,t11,t10,t9,t8,t7,t6,t2,kne,hy',e4,e5];refine fE (i+1,C,r,f) [0,1,2] ⟨by simp;omega,i2,i3,i4,λh=>by rw[hin];exact bY _ (i5 h)⟩ (by simp;omega) ?_;simp[t12,t11,t10,t9,t8,t7,t6,t2];exact wI
  .have ek:k=lN R:=oM;have hpr:=k3 ek;subst ek;have hj:m.tag.toNat<lN C.tags:=oM;have hst:AY v R lb m C=uX C m.tag.toNat lb:=by
    unfold AY;simp[hpr]
   rw[hst]at i2;simp[t12,t11,t10,t9,t8,t7,t6,t2,aA hj];refine⟨oM,oM,?_⟩;refine fE (i+1,uX C m.tag.toNat lb,r,f) [0,1,2] ⟨by simp;omega,i2,by simpa[uX,gT.tags]using i3,i4,λh=>by rw[hin];exact bY _ (i5 h)⟩ (by simp;omega) ?_;simp[t12,t11,t10,t9,t8,t7,t6,t2,uX,gT.tags,gT.i_,gT.a_,gT.fields,gT.fn,zwU];refine⟨wI,λx hx=>?_⟩;rcases dZ hx with hx|hx
   .obtain⟨y,_,rfl⟩:=af.1 hx;simp
   .rw[hx];simp
 .have ei:i=lN L:=oM;subst ei;rw[aS,xf]at i2;subst i2;simp;exact hQ _ _ _ oC oC
variable {t:f_}
mutual
def nY:f_->Prop
|.mk k _ s l=>s.Pairwise W?/\(k=7->(l.map iJ).Pairwise (· < ·)/\2<=lN l)/\EN l
def EN:List f_->Prop
|[]=>True
|t::l=>nY t/\EN l
end
def zvd:∀l:List f_,EN l↔∀x,x∈l->nY x
|[]=>by simp[EN]
|t::l=>by simp[EN,zvd l]
def CJ(t:f_):nY t↔t.a_.Pairwise W?/\(t.d_=7->(t.b_.map iJ).Pairwise (· < ·)/\2<=lN t.b_)/\∀x,x∈t.b_->nY x:=by
 cases t;rw[nY,zvd];try rfl
def NF(t:f_):Prop:=iU t/\nY t
def NF.kid{x:f_}(h:NF t)(hx:x∈t.b_):NF x:=⟨Aq h.1 hx,((CJ t).1 h.2).2.2 x hx⟩
def NF.base(k:Int)(h0:0<=k)(h4:k<=4):NF (bT k):=⟨yS k h0 h4,by simp[nY,bT,EN];omega⟩
def NF.no:NF C_:=NF.base 0 oM oM
def NF.bt5:NF (bT 5):=⟨(rP _).2 ⟨rfl,λx h=>(by cases h),.inr (.inl ⟨rfl,rfl,oD,λx h=>(by cases h)⟩)⟩,by simp[nY,bT,EN]⟩
def NF.fn{a b:f_}(ha:NF a)(hb:NF b):NF (.mk 6 (bs []) [] [a,b]):=⟨(rP _).2 ⟨rfl,λx h=>by
 simp only[f_.b_,aM,bv,df]at h;rcases h with rfl|rfl
 .exact ha.1
 .exact hb.1,.inr (.inr (.inl ⟨rfl,rfl,rfl⟩))⟩,by simp[nY,EN];exact⟨ha.2,hb.2⟩⟩
def Ul(h:iU t)(h0:t.d_≠0)(h7:t.d_≠7):iJ t=t.d_-1/\1<=t.d_/\t.d_<=6:=by
 have hk:1<=t.d_/\t.d_<=6:=by
  rcases((rP t).1 h).2.2 with⟨a,b,_⟩|⟨a,_⟩|⟨a,_⟩|⟨a,_⟩<;>omega
 refine⟨?_,hk⟩;unfold iJ;rw[aB oM]
theorem O3(h:NF t):((jk t).map (·.tag)).Nodup/\∀p,p∈jk t->0<=p.tag/\p.tag<6/\NF p.t/\(p.tag=5->lN p.t.b_=2)/\(∀x,x∈p.t.b_->jU x+(if t.d_=0 then 0 else 1)<=jU t)/\(p.tag=4->∀x,x∈p.t.b_->jU x+1<=jU t):=by
 have d1:=I8 t;unfold jk;by_cases h0:t.d_=0
 .rw[aC h0];refine⟨oD,λp hp=>?_⟩;have e0:jU C_=1:=rfl;simp only[aM,bv,df]at hp;simp only[h0,aC];rcases hp with rfl|rfl|rfl|rfl|rfl|rfl
  .exact⟨oD,oD,NF.base 1 oM oM,λh=>absurd h oD,λx hx=>(by cases hx),λ_ x hx=>(by cases hx)⟩
  .exact⟨oD,oD,NF.base 2 oM oM,λh=>absurd h oD,λx hx=>(by cases hx),λ_ x hx=>(by cases hx)⟩
  .exact⟨oD,oD,NF.base 3 oM oM,λh=>absurd h oD,λx hx=>(by cases hx),λ_ x hx=>(by cases hx)⟩
  .exact⟨oD,oD,NF.base 4 oM oM,λh=>absurd h oD,λx hx=>(by cases hx),λ_ x hx=>(by cases hx)⟩
  .exact⟨oD,oD,NF.bt5,λh=>absurd h oD,λx hx=>(by cases hx),λ_ x hx=>(by cases hx)⟩
  .refine⟨oD,oD,NF.fn NF.no NF.no,λ_=>rfl,λx hx=>?_,λh=>absurd h oD⟩;simp only[f_.b_,aM,bv,df]at hx;rcases hx with rfl|rfl<;>omega
 .rw [aB h0];by_cases h7:t.d_=7
  .rw[aB oM];have ho:=((CJ t).1 h.2).2.1 h7;refine⟨?_,λp hp=>?_⟩
   .rw[dP];have he:((λx:I?=>x.tag)∘λk=>(⟨iJ k,oK,k⟩:I?))=iJ:=rfl;rw[he];exact ho.1.imp λh=>by omega
   .obtain⟨x,hx,rfl⟩:=af.1 hp;have hk:1<=x.d_/\x.d_<=6:=by
     rcases((rP t).1 h.1).2.2 with⟨_,q,_⟩|⟨q,_⟩|⟨q,_⟩|⟨_,_,_,q⟩
     .omega
     .omega
     .omega
     .exact q x hx
    have ht:=(Ul (h.kid hx).1 oM oM).1;simp only;have hd:∀y,y∈x.b_->jU y+1<=jU t:=λy hy=>by
     have:=Dr hy;have:=Dr hx;omega
    refine⟨oM,oM,h.kid hx,λq=>I7 (h.kid hx).1 oM,λy hy=>?_,λ_=>hd⟩;rw[aB h0];exact hd y hy
  .rw[aC h7];refine⟨oC,λp hp=>?_⟩;simp only[aK]at hp;subst hp;have ht:=Ul h.1 h0 h7;simp only;refine⟨oM,oM,h,λq=>I7 h.1 oM,λy hy=>?_,λ_ y hy=>Dr hy⟩;have:=Dr hy;rw[aB h0];omega
theorem zG3(a b:f_)(lb:Int)(ha:a.d_=0)(hb:b.d_=0):h_ Pg 71 [.agg a.enc,.agg b.enc,.one (.int .i64 lb)] (.agg r?.enc):=by
 refine zs1 oC λo c hN hp=>?_;simp[TL];apply gN [] Gj;simp[ha,hb];apply fQ [1];have h6:6<=lN uS:=by decide
 have ht:(encI uS).take 6=encI uS:=rfl;simp[nA,A?,h6,ht,r?,gT.enc,u?,encS,gT.j?];rfl
def zsH(v:f_->f_->Int->gT)(R:List I?)(lb:Int):∀(L:List I?) (C:gT),(xf v R lb L C).tags.length=lN C.tags
|[],C=>rfl
|m::l,C=>by
 rw[xf,zsH v R lb l];unfold AY;split
 .simp[uX,gT.tags]
 split
 .rfl
 split
 .rw[(Uk _ _ _ _ _).1]
 .rfl
theorem zG4(v:f_->f_->Int->gT)(a b:f_)(lb:Int)(wa:iU a)(wb:iU b)(_A:¬(a.d_=0/\b.d_=0))(l0:0<=lb)(l1:lb<=9223372036854775807)(H:FL v (jk a) (jk b) lb):
  h_ Pg 71 [.agg a.enc,.agg b.enc,.one (.int .i64 lb)] (.agg (xf v (jk b) lb (jk a) r?).enc):=by
 refine zs1 oC λo c hN hp=>?_;have hL:(jk a).length<=1000:=by have:=yT wa;have:=R8 a;omega
 have hR:(jk b).length<=1000:=by have:=yT wb;have:=R8 b;omega
 have h6:=zsH v (jk b) lb (jk a) r?;have h6':lN r?.tags=6:=rfl;rw[h6']at h6;have _W:¬a.d_=0\/(a.d_=0/\¬b.d_=0):=oM;have hP1:=GQ a (by have:=yT wa;omega);have hP2:=GQ b (by have:=yT wb;omega);have e6:zM r?.tags=zM uS:=rfl;have hloop:=λ(Q:Exit->St->Prop) (S:St) (ms:oO)=>zEs (Q:=Q) (S:=S) (g:={}) (ms:=ms) hp v (jk a) (jk b) lb l0 l1 hL hR H;generalize jk a=L at*
 generalize jk b=R at*
 let⟨F0,hF⟩:=oJ (xf v R lb L r?);rw[hF]at hloop h6⊢;have ht:(encI F0.tags).take 6=encI F0.tags:=aD (by simp;omega);have hle:6<=F0.tags.length:=oM;simp[TL];apply gN [] Gj;simp;rcases _W with a0|⟨a0,b0⟩
 .simp[a0];apply gQ hP1;simp;apply gQ hP2;simp;refine hloop _ _ [0,1,2] (by simp[r?,gT.tags,gT.i_,gT.a_,gT.fields,gT.fn,u?,encS,uS]) λT r f t6 t7=>?_;simp[t6,t7];apply fQ [1];simp[nA,A?,iE,t6,t7,ht,hle,gT.l_]
 .simp[a0,b0];apply gQ hP1;simp;apply gQ hP2;simp;refine hloop _ _ [0,1,2] (by simp[r?,gT.tags,gT.i_,gT.a_,gT.fields,gT.fn,u?,encS,uS]) λT r f t6 t7=>?_;simp[t6,t7];apply fQ [1];simp[nA,A?,iE,t6,t7,ht,hle,gT.l_]
def zEz{lb:Int}(h0:0<=lb)(h1:lb<=9223372036854775807):0<=wL lb/\wL lb<=9223372036854775807:=by unfold wL;split<;>omega
def NF.field(h:NF t)(k:fD):NF (jC t k).1/\((jC t k).1∈t.b_\/(jC t k).1=C_):=by
 cases q:(jC t k).2 with
 |true=>have hm:=Mv t.a_ t.b_ k q;exact⟨h.kid hm,.inl hm⟩
 | false=>
  have:(jC t k).1=C_:=by
   have hz:∀(ns:oN) (ks:oL),(vZ ns ks k).2=oK->(vZ ns ks k).1=C_:=λns=>by
    induction ns with
    |nil=>intro ks _;rw[vZ];intros;contradiction
    | cons n ns ih=>
     intro ks;cases ks with
     |nil=>intro _;rw[vZ];intros;contradiction
     |cons x ks=>
      rw[vZ];split
      .intro h;cases h
      .exact ih ks
   exact hz _ _ q
  rw[this];exact⟨NF.no,.inr rfl⟩
theorem LC:∀(n:Nat) (a b:f_) (lb:Int),NF a->NF b->jU a+jU b<=n->0<=lb->lb<=9223372036854775807->h_ Pg 71 [.agg a.enc,.agg b.enc,.one (.int .i64 lb)] (.agg (zN n a b lb).enc)
|0,a,b,lb,_,_,h,_,_=>by have:=I8 a;omega
| n +1,a,b,lb,na,nb,hd,l0,l1=>by
 rw[zN];by_cases _A:a.d_=0/\b.d_=0
 .rw[aC _A];exact zG3 a b lb _A.1 _A.2
 .rw[aB _A];have pa:=O3 na;have pb:=O3 nb;have fr:=zEz l0 l1;have e0:jU C_=1:=rfl;have hda:=I8 a;have hdb:=I8 b;have hsum:(if a.d_=0 then 0 else 1)+(if b.d_=0 then 0 else 1)≥1:=by split<;>split<;>omega
  have step:∀p q x y,p∈jk a->q∈jk b->x∈p.t.b_->y∈q.t.b_->jU x+jU y<=n:=λp q x y hp hq hx hy=>by
   have:=(pa.2 p hp).2.2.2.2.1 x hx;have:=(pb.2 q hq).2.2.2.2.1 y hy;omega
  refine zG4 (zN n) a b lb na.1 nb.1 _A l0 l1 ⟨pa.1,λm hm=>⟨(pa.2 m hm).1,(pa.2 m hm).2.1⟩,λm q hm hq h5 h5'=>?_,λm q hm hq h4 h4'=>?_⟩
  .have m2:=(pa.2 m hm).2.2.2.1 h5;have q2:=(pb.2 q hq).2.2.2.1 h5';have nm:=(pa.2 m hm).2.2.1;have nq:=(pb.2 q hq).2.2.1;have m0:=(Er m2).1;have m1:=(Dt m2).1;have q0:=(Er q2).1;have q1:=(Dt q2).1;exact⟨m2,q2,LC n _ _ _ (nq.kid q0) (nm.kid m0) (by have:=step m q _ _ hm hq m0 q0;omega) fr.1 fr.2,LC n _ _ _ (nm.kid m1) (nq.kid q1) (step m q _ _ hm hq m1 q1) l0 l1⟩
  .have nm:=(pa.2 m hm).2.2.1;have nq:=(pb.2 q hq).2.2.1;refine⟨KJ nm.1,KJ nq.1,by have:=yT nm.1;omega,by have:=yT nq.1;omega,λx hx=>?_,λk x hx=>?_⟩
   .have hk:=(pa.2 m hm).2.2.2.2.2 h4 x hx;refine LC n _ _ _ (nm.kid hx) NF.no ?_ l0 l1;rw[e0];omega
   .have hk:=(pb.2 q hq).2.2.2.2.2 h4' x hx;refine LC n _ _ _ (nm.field k).1 (nq.kid hx) ?_ l0 l1;rcases(nm.field k).2 with h|h
    .exact step m q _ _ hm hq h hx
    .rw[h,e0];omega
end Go.Gr
