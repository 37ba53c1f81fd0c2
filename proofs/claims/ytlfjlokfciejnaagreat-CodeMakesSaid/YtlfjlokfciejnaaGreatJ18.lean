/- Of ours. -/
import Derived.Test.YtlfjlokfciejnaaGreatJ17
set_option maxRecDepth 20000
set_option maxHeartbeats 4000000
set_option linter.unusedVariables false
set_option linter.unusedSectionVars false
set_option linter.unusedSimpArgs false
set_option linter.defProp false
set_option linter.unnecessarySimpa false
open List renaming length->lN
open Bool renaming true->tT,false->oK
open Option renaming some->sS,none->nN
namespace Go.Gr
open Go.Abs Go.Proofs List
variable {k:fD}{ns:List fD}{R:List I?}
structure RI (C:gT) (ns:List fD):Prop where
 len:lN C.a_=lN C.fields
 a_:C.a_.Pairwise W?
 fields:∀x,x∈C.fields->i? x=tT/\x≠r?/\lV 16 x
 i_:(∀x,x∈C.i_->x.2≠0)/\(C.i_.map (·.1)).Nodup
 an:∀x,x∈C.a_->∀k,k∈ns->W? x k
 ad:∀x,x∈C.i_->∀k,k∈ns->W? x.1 k
def RI.put{C:gT}{ns:oN}(h:RI C (k::ns))(hk:(k::ns).Pairwise W?){d:gT}(hd:i? d=tT)(sd:lV 16 d):RI (K? C k d) ns/\(K? C k d).a_.length<=lN C.a_+1/\(K? C k d).i_=C.i_:=by
 have hk':=ak.1 hk;have h0:RI C ns:=⟨h.len,h.a_,h.fields,h.i_,λx hx k hk=>h.an x hx k (by simp[hk]),λx hx k hk=>h.ad x hx k (by simp[hk])⟩
 unfold K?;split
 .exact⟨h0,oM,rfl⟩
 next q=>
  refine⟨⟨?_,?_,?_,h.i_,?_,h0.ad⟩,?_,rfl⟩
  .simpa[gT.a_,gT.fields]using h.len
  .simp only[gT.a_];exact bn.2 ⟨h.a_,oC,λx hx y hy=>by rw[aK.1 hy];exact h.an x hx k oC⟩
  .intro x hx;simp only[gT.fields,aL,aK]at hx;rcases hx with hx|rfl
   .exact h.fields x hx
   .exact⟨hd,λe=>q ((Iu _ _).2 e),sd⟩
  .intro x hx y hy;simp only[gT.a_,aL,aK]at hx;rcases hx with hx|rfl
   .exact h0.an x hx y hy
   .exact hk'.1 y hy
  .simp[gT.a_]
def RI.tail{C:gT}{ns:oN}(h:RI C (k::ns)):RI C ns:=⟨h.len,h.a_,h.fields,h.i_,λx hx k hk=>h.an x hx k (by simp[hk]),λx hx k hk=>h.ad x hx k (by simp[hk])⟩
section
variable {v:f_->f_->Int->gT} {lb:Int} (l2:2<=lb) (hv:∀x y,NF x->NF y->i? (v x y lb)=true/\lV 16 (v x y lb))
include hv in
def zEA:∀(ns:List fD) (ks:List f_) (C:gT),ns.Pairwise W?->(∀x,x∈ks->NF x)->RI C ns->RI (ui v lb ns ks C) []/\(ui v lb ns ks C).a_.length<=lN C.a_+lN ns/\(ui v lb ns ks C).i_=C.i_
|[],ks,C,_,_,h=>by rw[ui];exact⟨h,oM,rfl⟩;intros;contradiction
|n::ns,[],C,_,_,h=>by rw[ui];exact⟨⟨h.len,h.a_,h.fields,h.i_,λ_ _ k hk=>(by cases hk),λ_ _ k hk=>(by cases hk)⟩,oM,rfl⟩;intros;contradiction
|n::ns,k::ks,C,hn,hk,h=>by
 rw[ui];have h1:=hv k C_ (hk k oC) NF.no;let⟨g1,g2,g3⟩:=h.put hn h1.1 h1.2;have h2:=zEA ns ks (K? C n (v k C_ lb)) (ak.1 hn).2 (λx hx=>hk x (by simp[hx])) g1;exact⟨h2.1,by have:=h2.2.1;simp only[length_cons];omega,h2.2.2.trans g3⟩
include l2 in
def RI.need{C:gT}{ns:oN}(h:RI C (k::ns)):(∀x,x∈C.a_->W? x k)/\((tX C k lb).i_.map (·.1)).Nodup/\(∀x,x∈(tX C k lb).i_->x.2≠0):=by
 refine⟨λx hx=>h.an x hx k oC,?_,λx hx=>?_⟩
 .rw[EL,dO];refine bK.2 ⟨h.i_.2,oC,λx hx y hy e=>?_⟩;obtain⟨z,hz,rfl⟩:=af.1 hx;simp only[map_cons,map_nil,aK]at hy;have:=h.ad z hz k oC;rw[e,hy]at this;exact EH _ this
 .rw[EL,aL,aK]at hx;rcases hx with hx|rfl
  .exact h.i_.1 x hx
  .simp only;omega
include l2 hv in
def zEB(m:I?)(nm:NF m.t):∀(ns:List fD) (ks:List f_) (C:gT),ns.Pairwise W?->(∀x,x∈ks->NF x)->RI C ns->RI (uW v m lb ns ks C) []/\(uW v m lb ns ks C).a_.length<=lN C.a_+lN ns/\(uW v m lb ns ks C).i_.length<=lN C.i_+lN ns
|[],ks,C,_,_,h=>by rw[uW];exact⟨h,oM,oM⟩;intros;contradiction
|n::ns,[],C,_,_,h=>by rw[uW];exact⟨⟨h.len,h.a_,h.fields,h.i_,λ_ _ k hk=>(by cases hk),λ_ _ k hk=>(by cases hk)⟩,oM,oM⟩;intros;contradiction
| n ::ns,k::ks,C,hn,hk,h=>by
 rw[uW];have hn':=ak.1 hn;have h1:=hv (jC m.t n).1 k (nm.field n).1 (hk k oC);generalize v (jC m.t n).1 k lb=d at*
 let⟨C2,hC2⟩:=oJ (if(jC m.t n).2=tT\/m.opn=tT then K? (if(jC m.t n).2=oK then tX C n lb else C) n d else(if(jC m.t n).2=oK then tX C n lb else C));show RI (uW v m lb ns ks _) []/\_;have key:RI C2 ns/\C2.a_.length<=lN C.a_+1/\C2.i_.length<=lN C.i_+1:=by
  have hP:RI (K? C n d) ns/\(K? C n d).a_.length<=lN C.a_+1/\(K? C n d).i_=C.i_:=h.put hn h1.1 h1.2;have hN:=h.need l2;by_cases q:(jC m.t n).2=oK
  .rw[aC q]at hC2;have e1:∀D:gT,RI D ns->D.i_=C.i_->RI (tX D n lb) ns:=λD hD eD=>by
    have hdn:(tX D n lb).i_=(tX C n lb).i_:=by rw[EL,EL,eD]
    refine⟨hD.len,hD.a_,hD.fields,by rw[hdn];exact⟨hN.2.2,hN.2.1⟩,hD.an,λx hx y hy=>?_⟩;rw[EL,aL,aK]at hx;rcases hx with hx|rfl
    .exact hD.ad x hx y hy
    .exact hn'.1 y hy
   by_cases o:(jC m.t n).2=tT\/m.opn=tT
   .rw[aC o]at hC2;have e2:K? (tX C n lb) n d=tX (K? C n d) n lb:=by
     unfold K? tX;split<;>rfl
    rw[<-hC2,e2];exact⟨e1 _ hP.1 hP.2.2,hP.2.1,by rw[EL,hP.2.2];simp⟩
   .rw[aB o]at hC2;rw[<-hC2];exact⟨e1 _ h.tail rfl,oC,oC⟩
  .rw[aB q]at hC2;have o:(jC m.t n).2=tT\/m.opn=tT:=.inl (uM q);rw[aC o]at hC2;rw[<-hC2];exact⟨hP.1,hP.2.1,by rw[hP.2.2];omega⟩
 rw[hC2];have h2:=zEB m nm ns ks C2 hn'.2 (λx hx=>hk x (by simp[hx])) key.1;exact⟨h2.1,by have:=h2.2.1;simp only[length_cons];omega,by have:=h2.2.2;simp only[length_cons];omega⟩
include l2 hv in
def zKl(m n:I?)(nm:NF m.t)(nn:NF n.t)(C:gT)(c1:C.i_=[])(c2:C.a_=[])(c3:C.fields=[]):
  RI (xe v m n lb C) []/\(xe v m n lb C).a_.length<=16/\(xe v m n lb C).i_.length<=16:=by
 have h0:∀ns,RI C ns:=λns=>⟨by rw[c2,c3];rfl,by rw[c2];simp,(by rw[c3];intro x hx;cases hx),by rw[c1];exact⟨λx hx=>(by cases hx),oC⟩,(by rw[c2];intro x hx;cases hx),(by rw[c1];intro x hx;cases hx)⟩
 have hm:=R7 nm.1;have hn:=R7 nn.1;unfold xe;split
 .split
  .exact⟨h0 [],by rw[c2];simp,by rw[c1];simp⟩
  .have h:=zEA hv m.t.a_ m.t.b_ C ((CJ _).1 nm.2).1 (λx hx=>nm.kid hx) (h0 _);exact⟨h.1,by have:=h.2.1;rw[c2]at this;simp only[length_nil]at this;omega,by rw[h.2.2,c1];simp⟩
 .have h:=zEB l2 hv m nm n.t.a_ n.t.b_ C ((CJ _).1 nn.2).1 (λx hx=>nn.kid hx) (h0 _);exact⟨h.1,by have:=h.2.1;rw[c2]at this;simp only[length_nil]at this;omega,by have:=h.2.2;rw[c1]at this;simp only[length_nil]at this;omega⟩
end
def zxX(C:gT)(i:Nat)(x:Int)(j:Nat)(h:j≠i):m? (uX C i x) j=m? C j:=by
 unfold m? uX;simp only[gT.tags,aH];rw[getElem?_set_ne (Ne.symm h)]
structure MI (C:gT) (done:List Int):Prop where
 may:May C
 n4:(4:Int)∉done->m? C 4=0/\C.i_=[]/\C.a_=[]/\C.fields=[]
 n5:(5:Int)∉done->m? C 5=0/\C.fn=[]
 sm:lV 16 C
def MI.step{v:f_->f_->Int->gT}{R:qB}{lb:Int}(l2:2<=lb)(hv:∀x y l,2<=l->NF x->NF y->i? (v x y l)=tT/\lV 16 (v x y l)){C:gT}{done:oW}{m:I?}(h:MI C done)(hm:m.tag∉done)(mt:0<=m.tag/\m.tag<6)(nm:NF m.t)(m5:m.tag=5->lN m.t.b_=2)
  (hR:∀p,p∈R->NF p.t/\(p.tag=5->lN p.t.b_=2)):MI (AY v R lb m C) (done++[m.tag]):=by
 have hsm:=(CF _ _).1 h.sm;unfold AY;split
 .have h4:m.tag.toNat≠4->m? (uX C m.tag.toNat lb) 4=m? C 4:=λq=>zxX _ _ _ _ (Ne.symm q);have h5:m.tag.toNat≠5->m? (uX C m.tag.toNat lb) 5=m? C 5:=λq=>zxX _ _ _ _ (Ne.symm q);refine⟨⟨by simpa[uX,gT.tags]using h.may.tags,h.may.len,h.may.fn,λq=>?_,λq=>?_,h.may.i_,h.may.a_,h.may.fields⟩,λq=>?_,λq=>?_,?_⟩
  .by_cases e:m.tag=4
   .exact(h.n4 (e▸hm)).2.2.1
   .rw[h4 oM]at q;exact h.may.t4 q
  .by_cases e:m.tag=5
   .exact(h.n5 (e▸hm)).2
   .rw[h5 oM]at q;exact h.may.t5 q
  .simp only[aL,aK,d9]at q;rw[h4 oM];exact h.n4 q.1
  .simp only[aL,aK,d9]at q;rw[h5 oM];exact h.n5 q.1
  .exact(CF _ _).2 hsm
 rename_i q;have hq:∀t,m.tag=t->(jl R t).1∈R/\(jl R t).1.tag=t:=λt e=>by
  subst e;exact GR (uM q)
 split
 next e5=>
  have hp:=hq 5 e5;have nq:=hR _ hp.1;have m2:=m5 e5;have q2:=nq.2 hp.2;have f0:=hv (R? (jl R 5).1.t) (R? m.t) (wL lb) (by unfold wL;split<;>omega) (nq.1.kid (Er q2).1) (nm.kid (Er m2).1);have f1:=hv (Q? m.t) (Q? (jl R 5).1.t) lb l2 (nm.kid (Dt m2).1) (nq.1.kid (Dt q2).1);have n5:=h.n5 (e5▸hm);generalize v (R? (jl R 5).1.t) (R? m.t) (wL lb)=f at*
  generalize v (Q? m.t) (Q? (jl R 5).1.t) lb=g at*
  refine⟨⟨h.may.tags,h.may.len,?_,h.may.t4,λq=>absurd n5.1 q,h.may.i_,h.may.a_,h.may.fields⟩,λq=>?_,λq=>?_,?_⟩
  .show rQ f g=[]\/∃f' g',rQ f g=[f',g']/\_;unfold rQ;split
   .exact .inl rfl
   next e=>
    refine .inr ⟨f,g,rfl,f0.1,f1.1,λx=>e ?_⟩;rw[x.1,x.2,UX];try rfl
  .simp only[aL,aK,d9]at q;exact h.n4 q.1
  .exact absurd (by rw[e5];simp) q
  .refine(CF _ _).2 ⟨hsm.1,hsm.2.1,?_,hsm.2.2.2.1,?_⟩
   .show(rQ f g).length<=16;unfold rQ;split<;>simp
   .intro x hx;have hx:x∈rQ f g:=hx;unfold rQ at hx;split at hx
    .cases hx
    .simp only[aM,bv,df]at hx;rcases hx with rfl|rfl
     .exact f0.2
     .exact f1.2
 split
 next e5 e4=>
  have hp:=hq 4 e4;have nq:=(hR _ hp.1).1;let⟨c0,c1,c2,c3⟩:=h.n4 (e4▸hm);have hr:=zKl l2 (λx y nx ny=>hv x y lb l2 nx ny) m (jl R 4).1 nm nq C c1 c2 c3;have hk:=Uk v m (jl R 4).1 lb C;generalize xe v m (jl R 4).1 lb C=C' at*
  have hz:∀i,m? C' i=m? C i:=λi=>by unfold m?;rw[hk.1]
  refine⟨⟨by rw[hk.1];exact h.may.tags,hr.1.len,by rw[hk.2];exact h.may.fn,λq=>absurd (by rw[hz];exact c0) q,λq=>by rw[hz]at q;rw[hk.2];exact h.may.t5 q,hr.1.i_,hr.1.a_,λx hx=>⟨(hr.1.fields x hx).1,(hr.1.fields x hx).2.1⟩⟩,λq=>absurd (by rw[e4];simp) q,λq=>?_,?_⟩
  .simp only[aL,aK,d9]at q;rw[hz,hk.2];exact h.n5 q.1
  .exact(CF _ _).2 ⟨hr.2.2,by rw[<-hr.1.len];exact hr.2.1,by rw[hk.2];exact hsm.2.2.1,λx hx=>(hr.1.fields x hx).2.2,by rw[hk.2];exact hsm.2.2.2.2⟩
 next e5 e4=>
  refine⟨h.may,λq=>?_,λq=>?_,h.sm⟩
  .simp only[aL,aK,d9]at q;exact h.n4 q.1
  .simp only[aL,aK,d9]at q;exact h.n5 q.1
def MI.all{v:f_->f_->Int->gT}{lb:Int}(l2:2<=lb)(hv:∀x y l,2<=l->NF x->NF y->i? (v x y l)=tT/\lV 16 (v x y l))(hR:∀p,p∈R->NF p.t/\(p.tag=5->lN p.t.b_=2)):∀(L:List I?) (C:gT) (done:List Int),MI C done->(done++L.map (·.tag)).Nodup->(∀p,p∈L->0<=p.tag/\p.tag<6/\NF p.t/\(p.tag=5->lN p.t.b_=2))->∃d,MI (xf v R lb L C) d
|[],C,done,h,_,_=>⟨done,h⟩
|m::L,C,done,h,hn,hL=>by
 rw[xf];have hm:=hL m oC;have _Z:m.tag∉done:=λq=>(bK.1 hn).2.2 _ q m.tag oC rfl;exact MI.all l2 hv hR L _ (done++[m.tag]) (h.step l2 hv _Z ⟨hm.1,hm.2.1⟩ hm.2.2.1 hm.2.2.2 hR) (uM hn) (λp hp=>hL p (by simp[hp]))
def zxY:∀(n:Nat) (a b:f_) (lb:Int),2<=lb->NF a->NF b->i? (zN n a b lb)=tT/\lV 16 (zN n a b lb)
|0,a,b,lb,_,_,_=>⟨Gn,EJ _⟩
| n+1,a,b,lb,l2,na,nb=>by
 rw[zN];split
 .exact⟨Gn,EJ _⟩
 .have pa:=O3 na;have pb:=O3 nb;let⟨d,hd⟩:=MI.all l2 (λx y l hl nx ny=>zxY n x y l hl nx ny) (λp hp=>⟨(pb.2 p hp).2.2.1,(pb.2 p hp).2.2.2.1⟩) (jk a) r? [] ⟨May.r?,λ_=>⟨zEL 4,rfl,rfl,rfl⟩,λ_=>⟨zEL 5,rfl⟩,EJ _⟩ (uM pa.1) (λp hp=>⟨(pa.2 p hp).1,(pa.2 p hp).2.1,(pa.2 p hp).2.2.1,(pa.2 p hp).2.2.2.1⟩);exact⟨(zI _).2 hd.may,hd.sm⟩
variable {s:fD}{l:List f_}
def Um(a b:fD):IZ a b=tT↔W? a b:=by unfold IZ;rw[OP];exact decide_eq_true_iff
def zxo:∀{ns:List fD},(∀n,n∈ns->W? n s)->U? s ns=lN ns
|[],_=>rfl
|n::l,h=>by rw[U?,aC ((Um _ _).2 (h n oC)),zxo λx hx=>h x (by simp[hx])];rfl
def zxp:∀{ns:List fD},ns.Pairwise W?->ns[U? s ns]?≠sS s->(∀x,x∈ns.take (U? s ns)->W? x s)/\∀x,x∈ns.drop (U? s ns)->W? s x
|[],_,_=>by simp[U?]
| n::l,hp,h=>by
 have _C:=ak.1 hp;rw[U?]at h⊢;by_cases q:IZ n s=tT
 .rw[aC q]at h⊢;have i:=zxp _C.2 (uM h);refine⟨λx hx=>?_,λx hx=>i.2 x (uM hx)⟩;rw[take_succ_cons]at hx;rcases aM.1 hx with rfl|hx
  .exact(Um _ _).1 q
  .exact i.1 x hx
 .rw[aB q]at h⊢;have _A:n≠s:=λe=>h (by simp[e]);have hs:W? s n:=(Nt _A).resolve_left λe=>q ((Um _ _).2 e);refine⟨λx hx=>(by simp at hx),λx hx=>?_⟩;rw[fC]at hx;rcases aM.1 hx with rfl|hx
  .exact hs
  .exact Cz hs (_C.1 x hx)
def zEa{ns:oN}(hp:ns.Pairwise W?)(h:ns[U? s ns]?≠sS s):(ns.take (U? s ns)++s::ns.drop (U? s ns)).Pairwise W?:=by
 have i:=zxp hp h;have _C:=hp;rw[<-dA (U? s ns) ns]at _C;have _C:=bn.1 _C;refine bn.2 ⟨_C.1,ak.2 ⟨i.2,_C.2.1⟩,λx hx y hy=>?_⟩;rcases aM.1 hy with rfl|hy
 .exact i.1 x hx
 .exact Cz (i.1 x hx) (i.2 y hy)
def zso:∀(ss:List fD) (ts:List f_) (ns:List fD) (ks:List f_),ns.Pairwise W?->(iy ss ts ns ks).1.1.Pairwise W?
|[],ts,ns,ks,h=>by rw[iy];exact h;all_goals (intros;contradiction)
|s::ss,[],ns,ks,h=>by rw[iy];exact h;all_goals (intros;contradiction)
| s::ss,t::ts,ns,ks,h=>by
 rw[iy];split
 .exact h
 next q=>
  exact zso ss ts _ _ (zEa h λe=>q (.inr e))
def LD:∀a b:List f_,iK (a++b)=iK a+iK b
|[],b=>by simp[iK]
|t::a,b=>by rw[cons_append,iK,iK,LD a b];omega
def zxq:∀(ss:List fD) (ts:List f_) (ns:List fD) (ks:List f_),iK (iy ss ts ns ks).1.2<=iK ks+iK ts
|[],ts,ns,ks=>by rw[iy];exact eP _ _;all_goals (intros;contradiction)
|s::ss,[],ns,ks=>by rw[iy];exact eP _ _;all_goals (intros;contradiction)
| s::ss,t::ts,ns,ks=>by
 rw[iy];split
 .exact eP _ _
 .have i:=zxq ss ts (ns.take (U? s ns)++s::ns.drop (U? s ns)) (ks.take (U? s ns)++t::ks.drop (U? s ns));have e:=LD (ks.take (U? s ns)) (ks.drop (U? s ns));rw[dA]at e;rw[LD,iK]at i;rw[iK];omega
def zuZ:∀(ss:List fD) (ts:List f_) (ns:List fD) (ks:List f_),lN ss=lN ts->lN ns=lN ks->(ns++ss).Pairwise W?->(∀x,x∈ss->mP x=tT)->iy ss ts ns ks=((ns++ss,ks++ts),tT)
|[],ts,ns,ks,h0,_,_,_=>by
 cases ts with
 |nil=>rw[iy,bi,bi];all_goals (intros;contradiction)
 |cons _ _=>simp at h0
|s::ss,[],ns,ks,h0,_,_,_=>by simp at h0
| s::ss,t::ts,ns,ks,h0,h1,h2,h3=>by
 have hp:=zxo (s:=s) (ns:=ns) λn hn=>(bn.1 h2).2.2 n hn s oC;rw[iy,hp,aB]
 .rw[bJ,aS,h1,bJ,aS,zuZ ss ts _ _ (uM h0) (by simp[h1]) (uM h2) λx hx=>h3 x (by simp[hx])];simp
 .rw[h3 s oC];simp
def Un{l:oL}{B:Nat}(h:∀x,x∈l->jU x<=B):jQ l<=B:=by
 induction l with
 |nil=>simp[jQ]
 |cons t l ih=>
  rw[jQ];have:=h t oC;have:=ih λx hx=>h x (by simp[hx]);omega
def zu0(tag:Int)(l:oL)(ks:oL):(T? tag l oK ks).1.2=ks\/∃x,x∈l/\iJ x=tag/\(T? tag l oK ks).1.2=ks++[x]:=by
 have hT:∀(l:oL) (ks:oL),(T? tag l tT ks).1.2=ks:=λl=>by
  induction l with
  |nil=>intro ks;rfl
  | cons x l ih=>
   intro ks;rw[T?];split
   .rfl
   split
   .exact ih ks
   .simp only[if_true];split
    .exact ih ks
    .rfl
 induction l with
 |nil=>exact .inl rfl
 | cons x l ih=>
  rw[T?];split
  .exact .inl rfl
  split
  .rcases ih with h|⟨y,h1,h2,h3⟩
   .exact .inl h
   .exact .inr ⟨y,by simp[h1],h2,h3⟩
  next q=>
   refine .inr ⟨x,oC,Decidable.not_not.1 q,?_⟩;simp only[bD,if_false];split
   .exact hT l _
   .rfl
def zxr(p q:f_->Bool)(h:∀x,¬(p x=tT/\q x=tT)):∀l:List f_,iK (l.filter p)+iK (l.filter q)<=iK (l.filter λx=>p x||q x)
|[]=>by simp[iK]
|x::l=>by
 have i:=zxr p q h l;have hx:=h x;simp only[fB];cases hp:p x<;>cases hq:q x
 .simpa using i
 .simp[iK];omega
 .simp[iK];omega
 .exact absurd ⟨hp,hq⟩ hx
def Uo(p:f_->Bool):∀l:List f_,iK (l.filter p)<=iK l
|[]=>by simp[iK]
|x::l=>by
 have i:=Uo p l;simp only[fB];split
 .rw[iK,iK];omega
 .rw[iK];omega
def zu1(all:List f_):∀(l:List Int) (ks:List f_),l.Nodup->iK (tO all l ks).1<=iK ks+iK (all.filter λx=>decide (iJ x∈l))
|[],ks,_=>by rw[tO];exact eP _ _
| tag::l,ks,hn=>by
 have hn':=dY.1 hn;have hf:=zxr (λx=>decide (iJ x=tag)) (λx=>decide (iJ x∈l)) (λx ⟨a,b⟩=>hn'.1 (by simp only[aI]at a b;rw[<-a];exact b)) all;have he:(λx=>decide (iJ x=tag)||decide (iJ x∈l))=λx:f_=>decide (iJ x∈tag::l):=by
  funext x;rw[<-Bool.decide_or];simp only[aM]
 rw[he]at hf;have h1:iK (T? tag all oK ks).1.2<=iK ks+iK (all.filter λx=>decide (iJ x=tag)):=by
  rcases zu0 tag all ks with h|⟨x,h1,h2,h3⟩
  .rw[h];omega
  .rw[h3,LD];have:=RZ (l:=all.filter λx=>decide (iJ x=tag)) (x:=x) (bP.2 ⟨h1,uM h2⟩);simp only[iK];omega
 rw[tO];split
 .have i:=zu1 all l (T? tag all oK ks).1.2 hn'.2;omega
 .simp only;omega
def zqa(all:List f_):∀(l:List Int) (ks:List f_),l.Pairwise (· < ·)->(ks.map iJ).Pairwise (· < ·)->(∀x,x∈ks->∀t,t∈l->iJ x<t)->((tO all l ks).1.map iJ).Pairwise (· < ·)
|[],ks,_,h,_=>by rw[tO];exact h
| tag::l,ks,hl,h,hk=>by
 have hl':=ak.1 hl;have h1:((T? tag all oK ks).1.2.map iJ).Pairwise (· < ·)/\∀x,x∈(T? tag all oK ks).1.2->∀t,t∈l->iJ x<t:=by
  rcases zu0 tag all ks with e|⟨x,h1,h2,h3⟩
  .rw[e];exact⟨h,λx hx t ht=>hk x hx t (by simp[ht])⟩
  .rw[h3];refine⟨?_,λy hy t ht=>?_⟩
   .rw[dO];refine bn.2 ⟨h,oC,λa ha b hb=>?_⟩;obtain⟨z,hz,rfl⟩:=af.1 ha;simp only[map_cons,map_nil,aK]at hb;rw[hb,h2];exact hk z hz tag oC
   .rcases aL.1 hy with hy|hy
    .exact hk y hy t (by simp[ht])
    .rw[aK.1 hy,h2];exact hl'.1 t ht
 rw[tO];split
 .exact zqa all l _ hl'.2 h1.1 h1.2
 .exact h1.1
def zxs:∀l:List f_,iK (l.flatMap Y?)<=iK l
|[]=>by simp[iK]
| t::l=>by
 rw[flatMap_cons,LD,iK];have:=zxs l;have:iK (Y? t)<=M? t:=by
  unfold Y?;split
  .cases t;rw[M?];simp only[f_.b_];omega
  .simp[iK]
 omega
def zGE{l:oL}{x:f_}(h:x∈l.flatMap Y?):jU x<=jQ l:=by
 let⟨t,ht,hx⟩:=List.mem_flatMap.1 h;have h1:=KI ht;unfold Y? at hx;split at hx
 .have:=Dr hx;omega
 .rw[aK.1 hx];exact h1
def zIP(k:Int)(s:oN)(l:oL)(hl:∀x,x∈l->nY x)(hk:5<=k/\k<=7)(h:(nO k s l).2=tT):nY (nO k s l).1/\M? (nO k s l).1<=iK l+1/\jU (nO k s l).1<=jQ l+1:=by
 unfold nO at h⊢;by_cases k5:k=5
 .rw[aC k5]at h⊢;unfold Bc at h⊢;by_cases q:lN s≠lN l\/16<lN s
  .rw[aC q]at h;cases h
  rw[aB q]at h⊢;have i:=RV s l [] [] oM rfl oC h;have hc:=zxq s l [] [];have hmem:∀x,x∈(iy s l [] []).1.2->x∈l:=λx hx=>by
   rcases i.2.2.2 x hx with hx|hx
   .cases hx
   .exact hx
  refine⟨(CJ _).2 ⟨zso _ _ _ _ oC,λe=>absurd e (by simp only[f_.d_];decide),λx hx=>hl x (hmem x hx)⟩,?_,?_⟩
  .rw[M?];simp only[iK]at hc;omega
  .rw[jU];have:=Un (l:=(iy s l [] []).1.2) (B:=jQ l) λx hx=>KI (hmem x hx);omega
 rw[aB k5]at h⊢;by_cases k6:k=6
 .rw[aC k6]at h⊢;exact⟨(CJ _).2 ⟨by simp[f_.a_],λe=>absurd e (by simp only[f_.d_];decide),hl⟩,by rw[M?];omega,by rw[jU];omega⟩
 rw[aB k6]at h⊢;unfold Ce at h⊢;have hm:=Mq (l.flatMap Y?) [0,1,2,3,4,5] [];have hr:=zqa (l.flatMap Y?) [0,1,2,3,4,5] [] oD oC oC;have hc:=zu1 (l.flatMap Y?) [0,1,2,3,4,5] [] oD;have hc2:=Uo (λx=>decide (iJ x∈([0,1,2,3,4,5]:oW))) (l.flatMap Y?);have hc3:=zxs l;simp only at h⊢;generalize tO (l.flatMap Y?) [0,1,2,3,4,5] []=r at*
 have hw:∀y,y∈r.1->nY y/\jU y<=jQ l:=λy hy=>by
  rcases hm y hy with q|⟨q1,q2⟩
  .cases q
  .refine⟨?_,zGE q1⟩;let⟨t,ht,hx⟩:=List.mem_flatMap.1 q1;unfold Y? at hx;split at hx
   .exact((CJ t).1 (hl t ht)).2.2 y hx
   .rw[aK.1 hx];exact hl t ht
 have hcnt:iK r.1<=iK l:=by simp only[iK]at hc;omega
 by_cases q:r.2=tT
 .rw [aC q]at h⊢;split
  next x e=>
   have:=hw x (by rw[e];simp);refine⟨this.1,?_,qM⟩;rw[e]at hcnt;simp only[iK]at hcnt⊢;omega
  next L e=>
   have hlen:2<=lN r.1:=by
    split at h
    next x e'=>exact absurd e' (e x)
    .simp only[aI]at h
     match hr1:r.1,h,e with
     |[],h,_=>simp at h
     |[x],_,e=>exact absurd rfl (e x)
     |_::_::_,_,_=>simp
   refine⟨(CJ _).2 ⟨by simp[f_.a_],λ_=>⟨hr,hlen⟩,λx hx=>(hw x hx).1⟩,by simp only;rw[M?];omega,?_⟩;simp only;rw[jU];have:=Un (l:=r.1) (B:=jQ l) λx hx=>(hw x hx).2;omega
 .rw[aB q]at h;cases h
mutual
def Uq:∀t:f_,(kQ t).2=tT->nY (kQ t).1/\M? (kQ t).1<=M? t/\jU (kQ t).1<=jU t
| .mk k n s l,h=>by
 rw[kQ]at h⊢;by_cases q:5<=k/\k<=7
 .rw[aC q]at h⊢;by_cases q2:(jP l).2=tT
  .rw[aC q2]at h⊢;have i:=zu3 l q2;have f:=zIP k s _ i.1 q h;rw[M?,jU];exact⟨f.1,oM,oM⟩
  .rw[aB q2]at h;cases h
 .rw[aB q]at h⊢;by_cases q2:0<=k/\k<=4
  .rw[aC q2];exact⟨(NF.base k q2.1 q2.2).2,by rw[M?];simp[bT,M?,iK],by rw[jU];simp[bT,jU,jQ]⟩
  .rw[aB q2]at h;cases h
def zu3:∀l:List f_,(jP l).2=tT->(∀x,x∈(jP l).1->nY x)/\iK (jP l).1<=iK l/\jQ (jP l).1<=jQ l
|[],_=>by rw[jP];exact⟨λx hx=>(by cases hx),aJ _,aJ _⟩
| t::l,h=>by
 rw[jP]at h⊢;by_cases q:(kQ t).2=tT
 .rw[aC q]at h⊢;have a:=Uq t q;have b:=zu3 l h;refine⟨λx hx=>?_,by rw[iK,iK];omega,by rw[jQ,jQ];omega⟩;rcases aM.1 hx with rfl|hx
  .exact a.1
  .exact b.1 x hx
 .rw[aB q]at h;cases h
end
def Gs{t:f_}(h:H_ t=tT):NF t:=by
 have e:=KF.1 h;have f:=KE e.1;refine⟨Cn h,?_⟩;rw[<-e.2,f.2.2.2];exact(Uq t f.1).1
variable {t:f_}
mutual
def zAC:∀(t:f_) (m:Int),mR t m<=M? t
|.mk k n s l,m=>by
 rw[mR,M?];have:=zxA l m 1;omega
def zxA:∀(l:List f_) (m n:Int),rV l m n<=n+iK l
|[],m,n=>by rw[rV,iK];omega
| t::l,m,n=>by
 rw[rV,iK];split
 .have a:=zAC t (m-n);have b:=zxA l m (n+mR t (m-n));omega
 .omega
end
def zu5(f:f_->Int)(B:Int):∀(l:List f_) (h:Int),0<=h->h<=B->(∀x,x∈l->f x=min B (jU x))->l.foldl (λh k=>if h<f k then f k else h) h=max h (min B (jQ l))
|[],h,h0,hB,_=>by simp only[foldl_nil,jQ];omega
|t::l,h,h0,hB,hf=>by
 have ht:=hf t oC;rw[foldl_cons,zu5 f B l _ (by split<;>omega) (by split<;>omega) λx hx=>hf x (by simp[hx]),ht,jQ];split<;>omega
def zAD:∀(n:Nat) (t:f_),nC (n+1) t=min ((n:Int)+1) (jU t)
|0,t=>by rw[nC];have:=I8 t;omega
|n+1,t=>by
 rw[nC,zu5 _ ((n:Int)+1) t.b_ 0 oM oM λx _=>zAD n x];have:jU t=jQ t.b_+1:=by cases t;rw[jU];try rfl
 rw[this];omega
def Ur(t:f_):nC 17 t=min (17:Int) (jU t):=by rw[zAD 16 t];try rfl
def zEm{l:oL}(h:∀x,x∈l->x.d_≠7):l.flatMap Y?=l:=by
 induction l with
 |nil=>rfl
 |cons t l ih=>rw[flatMap_cons,ih λx hx=>h x (by simp[hx])];unfold Y?;rw[aB (h t oC)];try rfl
def zu6(tag:Int):∀(l:List f_) (_G:Bool) (ks:List f_),(∀x,x∈l->x.d_≠0/\iJ x≠tag)->T? tag l _G ks=((_G,ks),tT)
|[],_G,ks,_=>rfl
|x::l,_G,ks,h=>by
 rw[T?,aB (h x oC).1,aC (h x oC).2];exact zu6 tag l _G ks λy hy=>h y (by simp[hy])
def zu7(tag:Int):∀(l:List f_) (ks:List f_),(l.map iJ).Pairwise (· < ·)->(∀x,x∈l->x.d_≠0)->(T? tag l oK ks).1.2=ks++l.filter (λx=>decide (iJ x=tag))/\(T? tag l oK ks).2=tT
|[],ks,_,_=>⟨by simp[T?],rfl⟩
| x::l,ks,hp,h0=>by
 rw[map_cons]at hp;have _C:=ak.1 hp;rw[T?,aB (h0 x oC)];by_cases q:iJ x=tag
 .have hno:∀y,y∈l->y.d_≠0/\iJ y≠tag:=λy hy=>⟨h0 y (by simp[hy]),λe=>by have:=_C.1 (iJ y) (af.2 ⟨y,hy,rfl⟩);omega⟩
  have hf:l.filter (λx=>decide (iJ x=tag))=[]:=eH.2 λy hy=>uM ((hno y hy).2);rw[aB (uM q)];have hs:nD x ((ks++[x]).getLastD C_)=tT:=by
   rw[getLastD_concat];exact RL x
  simp only[bD,if_false];rw[aC hs,zu6 tag l tT _ hno];simp[q,hf]
 .rw[aC q];have i:=zu7 tag l ks _C.2 λy hy=>h0 y (by simp[hy]);rw[i.1];exact⟨by simp[q],i.2⟩
def zsx(all:List f_)(hp:(all.map iJ).Pairwise (· < ·))(h0:∀x,x∈all->x.d_≠0):∀(l:List Int) (ks:List f_),tO all l ks=(ks++l.flatMap λt=>all.filter λx=>decide (iJ x=t),tT)
|[],ks=>by rw[tO];simp
|t::l,ks=>by
 have i:=zu7 t all ks hp h0;rw[tO,aC i.2,zsx all hp h0 l,i.1];simp
def O4:∀(l:List Int) (all:List f_),l.Pairwise (· < ·)->(all.map iJ).Pairwise (· < ·)->(∀x,x∈all->iJ x∈l)->(l.flatMap λt=>all.filter λx=>decide (iJ x=t))=all
|[],all,_,_,h=>by
 cases all with
 |nil=>rfl
 |cons x l=>exact absurd (h x oC) oC
| t ::l,all,hl,hp,h=>by
 have hl':=ak.1 hl;have skip:∀x:f_,iJ x=t->∀r:List f_,(l.flatMap λt=>(x::r).filter λy=>decide (iJ y=t))=l.flatMap λt=>r.filter λy=>decide (iJ y=t):=λx hx r=>by
  rw[flatMap_def,flatMap_def];congr 1;refine map_congr_left λu hu=>?_;have:=hl'.1 u hu;rw[fB,aB (by simp only[aI];omega)]
 rw[flatMap_cons];cases all with
 |nil=>rw[O4 l [] hl'.2 oC oC];rfl
 | cons x r=>
  rw[map_cons]at hp;have _C:=ak.1 hp;have gt:∀y,y∈r->iJ x<iJ y:=λy hy=>_C.1 _ (af.2 ⟨y,hy,rfl⟩);by_cases q:iJ x=t
  .have hf:r.filter (λx=>decide (iJ x=t))=[]:=eH.2 λy hy=>by have:=gt y hy;simp only[aI];omega
   rw[fB,aC (uM q),hf,skip x q r,O4 l r hl'.2 _C.2 λy hy=>?_]
   .rfl
   .have:=gt y hy;rcases aM.1 (h y (by simp[hy]))with e|e
    .omega
    .exact e
  .have hx:iJ x∈l:=(aM.1 (h x oC)).resolve_left q;have hxt:=hl'.1 _ hx;have hf:(x::r).filter (λx=>decide (iJ x=t))=[]:=eH.2 λy hy=>by
    simp only[aI];rcases aM.1 hy with rfl|hy
    .exact q
    .have:=gt y hy;omega
   rw[hf,O4 l (x::r) hl'.2 (by rw[map_cons];exact hp) λy hy=>?_]
   .rfl
   .refine(aM.1 (h y hy)).resolve_left λe=>?_;rcases aM.1 hy with rfl|hy
    .exact q e
    .have:=gt y hy;omega
def zGQ(h:NF t)(hk:5<=t.d_/\t.d_<=7):nO t.d_ t.a_ t.b_=(t,tT):=by
 have ho:=(CJ t).1 h.2;have hw:=(rP t).1 h.1;have eta:∀t:f_,t=.mk t.d_ t.name t.a_ t.b_:=λt=>by cases t;rfl
 have e:=eta t;rw[hw.1]at e;unfold nO;rcases hw.2.2 with⟨a,b,_⟩|⟨a,b,c,d⟩|⟨a,b,c⟩|⟨a,b,c,d⟩
 .omega
 .rw[aC a];unfold Bc;rw[aB oM,zuZ t.a_ t.b_ [] [] b rfl (uM ho.1) d];simp only[nil_append];rw[<-a,<-e]
 .rw[aB oM,aC a,c];rw[a,b]at e;rw[<-e];try rfl
 .rw[aB oM,aB oM];have h2:=ho.2.1 a;have hm:=zEm (l:=t.b_) λx hx=>by have:=d x hx;omega
  have h0:∀x,x∈t.b_->x.d_≠0:=λx hx=>by have:=d x hx;omega
  have ht:∀x,x∈t.b_->iJ x∈([0,1,2,3,4,5]:oW):=λx hx=>by
   have:=d x hx;have:=(Ul (h.kid hx).1 oM oM).1;simp only[aM,bv,df];omega
  unfold Ce;rw[hm,zsx t.b_ h2.1 h0,nil_append,O4 _ _ oD h2.1 ht];simp only[if_true];rw[a,b]at e;split
  next x q=>
   rw[q]at h2;exact absurd h2.2 oC
  .rw[<-e];simp;omega
mutual
def zAE:∀t:f_,NF t->kQ t=(t,tT)
| .mk k n s l,h=>by
 have hl:=zxC l λx hx=>h.kid hx;rw[kQ];by_cases q:5<=k/\k<=7
 .rw[aC q,hl,aC rfl];exact zGQ h q
 .rw[aB q];rcases((rP _).1 h.1).2.2 with⟨a,b,c,d⟩|⟨a,_⟩|⟨a,_⟩|⟨a,_⟩
  .have hn:=((rP _).1 h.1).1;simp only[f_.d_,f_.a_,f_.b_,f_.name]at a b c d hn;rw[aC ⟨a,b⟩,c,d,hn];try rfl
  all_goals simp only[f_.d_]at a;omega
def zxC:∀l:List f_,(∀x,x∈l->NF x)->jP l=(l,tT)
|[],_=>by rw[jP]
|t::l,h=>by
 have a:=zAE t (h t oC);have b:=zxC l λx hx=>h x (by simp[hx]);rw[jP,a,b,aC rfl]
end
def Gt(h:NF t)(hc:M? t<=200)(hd:jU t<=16):H_ t=tT:=by
 have a:=zAC t 201;have b:=Ur t;rw[KF];unfold kz;rw[aB oM,zAE t h,aC rfl];exact⟨rfl,rfl⟩
def O5(h:H_ t=tT):jU t<=16:=by
 have e:=(KE (KF.1 h).1).2.2.1;have b:=Ur t;omega
def O6(h:(kz t).2=0):H_ (kz t).1=tT:=by
 have f:=KE h;have o:=Uq t f.1;have b:=Ur t;have c:=RY t 201 oM;rw[f.2.2.2];exact Gt ⟨RX t f.1,o.1⟩ oM oM
def O7{x:f_}(h:H_ t=tT)(hx:x∈t.b_):H_ x=tT:=by
 have a:=Mr h;have b:=O5 h;have c:=Dr hx;have d:M? x<M? t:=by
  cases t;rw[M?];have:=RZ hx;simp only[f_.b_]at this;omega
 exact Gt ((Gs h).kid hx) oM oM
def zO(k:Int)(h0:0<=k)(h4:k<=4):H_ (bT k)=tT:=Gt (NF.base k h0 h4) (by simp[bT,M?,iK]) (by simp[bT,jU,jQ])
def DD:H_ C_=tT:=zO 0 oM oM
def zxD:H_ (bT 5)=tT:=Gt NF.bt5 (by simp[bT,M?,iK]) (by simp[bT,jU,jQ])
def zGR:H_ (jO C_ C_)=tT:=Gt (NF.fn NF.no NF.no) oD oD
def zGS{s:fD}(h:mP s=tT):H_ (.mk 5 (bs []) [s] [C_])=tT:=
 Gt ⟨(rP _).2 ⟨rfl,λx hx=>by rw[aK.1 hx];exact uf,.inr (.inl ⟨rfl,rfl,by simp[f_.a_],λx hx=>by rw[aK.1 hx];exact h⟩)⟩,by simp[nY,EN];exact NF.no.2⟩ (by simp[M?,iK,C_]) (by simp[jU,jQ,C_])
def zB4(h:H_ t=tT)(k:fD):H_ (jC t k).1=tT:=by
 rcases((Gs h).field k).2 with e|e
 .exact O7 h e
 .rw[e];exact DD
def zGT{a b:f_}(ha:H_ a=tT)(hb:H_ b=tT):H_ (Bd a b)=tT:=by
 unfold Bd;split
 .exact hb
 split
 .exact ha
 split
 .exact DD
 split
 .exact DD
 .split
  next h=>exact O6 h
  .exact DD
def zB5(p:f_->Bool)(l:oL):iK (l.filter p)<=iK l:=Uo p l
def zB6(h:H_ t=tT)(tag:Int):H_ (yN t tag).1=tT/\H_ (yN t tag).2=tT:=by
 unfold yN;split
 .exact⟨h,h⟩
 rename_i q;split
 .split
  .exact⟨h,h⟩
  next q5=>
   by_cases q4:tag=4
   .subst q4;exact⟨zxD,h⟩
   .exact⟨zO _ oM oM,h⟩
 rename_i h0;split
 .exact⟨h,h⟩
 rename_i hp;split
 .exact⟨h,h⟩
 rename_i h7;have h7:t.d_=7:=oM;have hm:=(GR (l:=jk t) (tag:=tag) (uM hp)).1;have hk:(jl (jk t) tag).1.t∈t.b_:=by
  unfold jk at hm⊢;rw[aB h0,aB oM]at hm⊢;let⟨x,hx,e⟩:=af.1 hm;rw[<-e];exact hx
 have n1:=O7 h hk;have hsub:∀x,x∈t.b_.filter (λk=>decide (iJ k≠tag))->x∈t.b_:=λx hx=>(bP.1 hx).1;split
 next r e=>
  exact⟨n1,O7 h (hsub r (by rw[e];simp))⟩
 next L e=>
  refine⟨n1,?_⟩;have nf:=Gs h;have hw:=(rP t).1 nf.1;have ho:=((CJ t).1 nf.2).2.1 h7;have hw7:lN t.b_<=6/\∀x,x∈t.b_->1<=x.d_/\x.d_<=6:=by
   rcases hw.2.2 with⟨_,a,_⟩|⟨a,_⟩|⟨a,_⟩|⟨_,_,a,b⟩
   .omega
   .omega
   .omega
   .exact⟨a,b⟩
  have hlen:2<=(t.b_.filter λk=>decide (iJ k≠tag)).length:=by
   have hpos:0<(t.b_.filter λk=>decide (iJ k≠tag)).length:=by
    match hl:t.b_,ho with
    |[],ho=>exact absurd ho.2 oC
    |[_],ho=>exact absurd ho.2 oC
    |a::b::r,ho=>
     have hab:=(ak.1 ho.1).1 (iJ b) oC;by_cases qa:iJ a=tag
     .exact length_pos_of_mem (a:=b) (bP.2 ⟨oC,by simp only[aI];omega⟩)
     .exact length_pos_of_mem (a:=a) (bP.2 ⟨oC,uM qa⟩)
   match hf:t.b_.filter (λk=>decide (iJ k≠tag)),hpos,e with
   |[],hp,_=>simp at hp
   |[x],_,e=>exact absurd rfl (e x)
   |_::_::_,_,_=>simp
  have hc:=zB5 (λk=>decide (iJ k≠tag)) t.b_;have hle:=dS (λk=>decide (iJ k≠tag)) t.b_;have c1:=Mr h;have c2:=O5 h;have e1:M? t=iK t.b_+1:=by cases t;rw[M?];try rfl
  have e2:jU t=jQ t.b_+1:=by cases t;rw[jU];try rfl
  have hd:=Un (l:=t.b_.filter λk=>decide (iJ k≠tag)) (B:=jQ t.b_) λx hx=>KI (hsub x hx);refine Gt ⟨(rP _).2 ⟨rfl,λx hx=>(nf.kid (hsub x hx)).1,.inr (.inr (.inr ⟨rfl,rfl,?_,λx hx=>hw7.2 x (hsub x hx)⟩))⟩,(CJ _).2 ⟨by simp[f_.a_],λ_=>⟨?_,hlen⟩,λx hx=>(nf.kid (hsub x hx)).2⟩⟩ (by simp only;rw[M?];omega) (by simp only;rw[jU];omega)
  .show(t.b_.filter _).length<=6;omega
  .show((t.b_.filter _).map iJ).Pairwise _;exact ho.1.sublist (List.filter_sublist.map iJ)
def zzu{vars:oN}{V_:oL}(h:(uG t vars V_).2=0):H_ (uG t vars V_).1=tT:=by
 unfold uG at h⊢;split
 next q=>rw[aC q]at h;cases h
 rename_i q;rw[aB q]at h;split
 next q=>rw[aC q]at h;cases h
 rename_i q;rw[aB q]at h;split
 next q=>rw[aC q]at h;exact O6 h
 next q=>rw[aB q]at h;cases h
variable {ia ib:Inf}{s t:CS}{P Q:Prop}{env:Env}{a b e:Int}
def lH(M G:Nat)(k n:Int)(ns:oN)(ts:oL)(q:Nat):Prop:=
((k=0\/k=1\/k=3\/k=4\/k=20)/\q=0)\/(k=2/\q=0/\(n=0\/n=1))\/(k=6/\q=0/\0<=n/\n<G)\/((k=5\/k=9\/k=16\/k=17\/k=19)/\q=1)\/(k=12/\q=1/\0<=n/\n<6)\/((k=7\/k=10\/k=14\/k=15\/k=18)/\q=2)\/(k=13/\q=2/\0<=n/\n<11)\/(k=11/\q=3)\/(k=8/\lN ns=q/\ns.Nodup)\/(k=21/\q=1/\0<=n/\n<M/\∃a b,ts=[a,b]/\H_ a=tT/\H_ b=tT)
def lH.cast{M G:Nat}{n:Int}{ns:oN}{a b:f_}(h0:0<=n)(h1:n<M)(ha:H_ a=tT)(hb:H_ b=tT):lH M G 21 n ns [a,b] 1:=by
 simp[lH];exact⟨h0,h1,a,b,⟨rfl,rfl⟩,ha,hb⟩
mutual
def V?(M G:Nat):n_->Prop
|.mk k n _ _ ns ts cs ks=>(lH M G k n ns ts (lN ks)/\cs=[])/\G? M G ks
def G?(M G:Nat):List n_->Prop
|[]=>True
|c::l=>V? M G c/\G? M G l
end
structure mq (s s':CS):Prop where
 e:s'.e=0->s.e=0
 sites:lN s.sites<=lN s'.sites
 n?:lN s.n?<=lN s'.n?
def mq.refl(s:CS):mq s s:=⟨id,aJ _,aJ _⟩
def mq.trans{a b c:CS}(h:mq a b)(k:mq b c):mq a c:=⟨λe=>h.e (k.e e),aX h.sites k.sites,aX h.n? k.n?⟩
def Iz(a b e:Int)(s:CS):mq s (jw a b e s):=by
 unfold jw;split
 next q=>exact⟨λ_=>q,aJ _,aJ _⟩
 .exact mq.refl s
def JA(h:e≠0):(jw a b e s).e≠0:=by
 unfold jw;split
 .exact h
 next q=>exact q
section
variable (M G:Nat)
def pX(s:CS)(P:Prop)(s':CS):Prop:=mq s s'/\(s'.e=0->lN s'.sites<=M->lN s'.n?<=G->P)
variable {M G}
def pX.ret(h:P):pX M G s P s:=⟨mq.refl s,λ_ _ _=>h⟩
def pX.bind{u:CS}(h:pX M G s P t)(k:pX M G t Q u):pX M G s (P/\Q) u:=
⟨h.1.trans k.1,λe a b=>⟨h.2 (k.1.e e) (aX k.1.sites a) (aX k.1.n? b),k.2 e a b⟩⟩
def pX.imp(h:pX M G s P t)(f:P->Q):pX M G s Q t:=⟨h.1,λe a b=>f (h.2 e a b)⟩
def pX.fail(h:e≠0):pX M G s P (jw a b e s):=⟨Iz a b e s,λz=>absurd z (JA h)⟩
def Gu(t:f_)(a b:Int)(s:CS):pX M G s (H_ (ig t a b s).1=tT) (ig t a b s).2:=by
 unfold ig;simp only;split
 .exact .fail oD
 next q=>exact .ret (zzu (uM q))
def O8(t:f_)(a b:Int)(s:CS):pX M G s (H_ (qh t a b s).1=tT/\(kz t).2=0) (qh t a b s).2:=by
 unfold qh;simp only;split
 .exact .fail oD
 next q=>
  have q:(kz t).2=0:=uM q;exact .ret ⟨O6 q,q⟩
def LF(x:n_)(t u:f_)(a b:Int)(s:CS):pX M G s (V? M G x->H_ t=tT->H_ u=tT->V? M G (lD x t u a b s).1) (lD x t u a b s).2:=by
 unfold lD;split
 .exact .ret λh _ _=>h
 next q=>
  have q:s.e=0:=uM q;refine⟨⟨λ_=>q,oC,aJ _⟩,λ_ h _ hx ht hu=>?_⟩;simp only[aV,length_cons,length_nil]at h;simp only[V?,G?,and_true];exact⟨.cast oM oM ht hu,hx⟩
def FM(x:n_)(t u:f_)(a b:Int)(s:CS):pX M G s (V? M G x->H_ t=tT->H_ u=tT->V? M G (jq x t u a b s).1) (jq x t u a b s).2:=by
 unfold jq;split
 .exact .ret λh _ _=>h
 split
 .exact .ret λh _ _=>h
 split
 .exact LF x t u a b s
 .exact .fail oD
def zH5(u:f_)(hu:H_ u=tT)(a b:Int)(x:(n_ × f_) × CS):pX M G x.2 (V? M G x.1.1/\H_ x.1.2=tT->V? M G (jZ u a b x).1.1/\H_ (jZ u a b x).1.2=tT) (jZ u a b x).2:=by
 unfold jZ;split
 .exact(LF _ _ _ _ _ _).imp λh k=>⟨h k.1 k.2 hu,hu⟩
 .exact .ret id
def O9(a b:Int):∀(ts l:List f_) (s:CS),mq s (vO a b ts l s).2
|[],l,s=>by rw[vO];exact mq.refl s
|t::ts,l,s=>by
 rw[vO];split
 .exact mq.refl s
 .exact(Gu (M:=0) (G:=0) t a b s).1.trans (O9 a b ts _ _)
def zAn{l:List jc}{x:jc}:lN l<=(jf 256 l x).2.length/\((jf 256 l x).1.2=0->0<=(jf 256 l x).1.1/\(jf 256 l x).1.1<(jf 256 l x).2.length):=by
 have h:=Ie (λy=>Dl y x) l;unfold jf;split
 .exact⟨aJ _,λz=>absurd z oC⟩
 split
 next q=>
  refine⟨aJ _,λ_=>⟨q,?_⟩⟩;simp only;omega
 split
 .exact⟨aJ _,λz=>absurd z oC⟩
 .exact⟨oC,λ_=>by simp;omega⟩
def qz(env:Env):Prop:=∀v,v∈env->H_ v.2=tT
def qz.more(h:qz env)(x:fD){t:f_}(ht:H_ t=tT):qz (env++[(x,t)]):=λv hv=>by
 rcases aL.1 hv with hv|hv
 .exact h v hv
 .rw[aK.1 hv];exact ht
def qz.get(h:qz env)(k:Nat):H_ (env.getD k (bs [],C_)).2=tT:=by
 rw[aH];cases e:env[k]? with
 |none=>exact DD
 |some v=>exact h v (ah e)
variable (M G)
def O?(i:Inf):Prop:=∀env s,pX M G s (qz env->V? M G (i env s).1.1/\H_ (i env s).1.2=tT) (i env s).2
variable {M G}
section
variable (L:f?)
def zw9(a b:Int)(e:iO)(l:oL)(s:CS):pX M G s (V? M G (vk L a b e l s).1.1/\H_ (vk L a b e l s).1.2=tT) (vk L a b e l s).2:=by
 unfold vk;split
 .exact .fail oD
 next q=>
  simp only;have h:=zAn (l:=s.n?) (x:=⟨e.module,e.decl,l⟩);generalize jf 256 s.n? ⟨e.module,e.decl,l⟩=r at*
  have k:mq s {s with n?:=r.2}:=⟨id,aJ _,h.1⟩
  split
  next q2=>
   exact⟨k.trans (Iz _ _ _ _),λz=>absurd z (JA q2)⟩
  next q2=>
   have q2:=h.2 (uM q2);refine⟨k,λ_ _ hG=>⟨?_,?_⟩⟩
   .simp only[cN,V?,G?,and_true];simp[lH];simp only at hG;omega
   .have q:(vg L e l).2=tT:=uM q;unfold vg at q⊢;simp only[aG,aI]at q;exact O6 q.2.2
def zIK(n:o_):O? M G (zu L n):=λenv s=>by
 unfold zu;simp only;split
 .exact .ret λhe=>⟨by simp[cN,V?,G?,lH],he.get _⟩
 split
 .exact .fail oD
 split
 .exact .fail oD
 split
 .exact .fail oD
 split
 .exact(zw9 L _ _ _ _ _).imp λh _=>h
 split
 next q=>
  exact⟨O9 _ _ _ _ _,λz=>absurd z q⟩
 split
 next q=>
  exact⟨(O9 _ _ _ _ _).trans (Iz _ _ _ _),λz=>absurd z (JA q)⟩
 .have h:=zw9 (M:=M) (G:=G) L n.line n.t_ (uF (L.scopes.getD s.module.toNat []) n.text).1 (vO n.line n.t_ n.types [] s).1 (vO n.line n.t_ n.types [] s).2;exact⟨(O9 _ _ _ _ _).trans h.1,λe a b _=>h.2 e a b⟩
def zK5(n a:o_)(ha:O? M G ia)(hb:O? M G ib):O? M G (qi n a ia ib):=λenv s=>by
 unfold qi;simp only;have h1:=ha env s;generalize ia env s=x at*
 let⟨y,hy⟩:=oJ (if 0<lN n.types/\x.2.e=0 then(((jq x.1.1 x.1.2 (ig (n.types.getD 0 C_) n.line n.t_ x.2).1 a.line a.t_ (ig (n.types.getD 0 C_) n.line n.t_ x.2).2).1,(ig (n.types.getD 0 C_) n.line n.t_ x.2).1),(jq x.1.1 x.1.2 (ig (n.types.getD 0 C_) n.line n.t_ x.2).1 a.line a.t_ (ig (n.types.getD 0 C_) n.line n.t_ x.2).2).2)else x);have h2:pX M G x.2 (V? M G x.1.1/\H_ x.1.2=tT->V? M G y.1.1/\H_ y.1.2=tT) y.2:=by
  rw[<-hy];split
  .exact((Gu _ _ _ _).bind (FM _ _ _ _ _ _)).imp λh k=>⟨h.2 k.1 k.2 h.1,h.1⟩
  .exact .ret id
 rw[hy];refine(h1.bind (h2.bind (hb (env++[(n.text,y.1.2)]) y.2))).imp λh he=>?_;have y1:=h.2.1 (h.1 he);have z1:=h.2.2 (he.more _ y1.2);exact⟨by simp only[cK,V?,G?,and_true];exact⟨by simp[lH],y1.1,z1.1⟩,z1.2⟩
def Us(n a:o_)(ha:O? M G ia):O? M G (zw n a ia):=λenv s=>by
 unfold zw;simp only;have h1:=Gu (M:=M) (G:=G) (n.types.getD 0 C_) n.line n.t_ s;generalize ig (n.types.getD 0 C_) n.line n.t_ s=p at*
 let⟨q,hq⟩:=oJ (if 1<lN n.types/\p.2.e=0 then ig (n.types.getD 1 C_) n.line n.t_ p.2 else(C_,p.2));have h2:pX M G p.2 (H_ q.1=tT) q.2:=by
  rw[<-hq];split
  .exact Gu _ _ _ _
  .exact .ret DD
 rw[hq];have h3:=ha (env++[(n.text,p.1)]) q.2;generalize ia (env++[(n.text,p.1)]) q.2=x at*
 let⟨y,hy⟩:=oJ (if 1<lN n.types then(((jq x.1.1 x.1.2 q.1 a.line a.t_ x.2).1,q.1),(jq x.1.1 x.1.2 q.1 a.line a.t_ x.2).2)else x);have h4:pX M G x.2 (V? M G x.1.1/\H_ x.1.2=tT->H_ q.1=tT->V? M G y.1.1) y.2:=by
  rw[<-hy];split
  .exact(FM _ _ _ _ _ _).imp λh k kq=>h k.1 k.2 kq
  .exact .ret λk _=>k.1
 rw[hy];refine(((h1.bind h2).bind h3).bind (h4.bind (O8 _ _ _ _))).imp λh he=>?_;exact⟨by simp only[cK,V?,G?,and_true];exact⟨by simp[lH],h.2.1 (h.1.2 (he.more _ h.1.1.1)) h.1.1.2⟩,h.2.2.1⟩
def zDV{t:f_}(h:H_ t=tT)(i:Nat):H_ (t.b_.getD i C_)=tT:=by
 rw[aH];cases e:t.b_[i]? with
 |none=>exact DD
 |some v=>exact O7 h (ah e)
def g_call(n b:o_)(ha:O? M G ia)(hb:O? M G ib):O? M G (zx n b ia ib):=λenv s=>by
 unfold zx;simp only;have h1:=(ha env s).bind (zH5 (jO C_ C_) zGR n.line n.t_ (ia env s));generalize jZ (jO C_ C_) n.line n.t_ (ia env s)=x at*
 split
 .exact⟨h1.1.trans (Iz _ _ _ _),λz=>absurd z (JA oD)⟩
 .refine(h1.bind ((hb env x.2).bind (FM _ _ _ _ _ _))).imp λh he=>?_;have x1:=h.1.2 (h.1.1 he);have y1:=h.2.1 he;exact⟨by simp only[cK,V?,G?,and_true];exact⟨by simp[lH],x1.1,h.2.2 y1.1 y1.2 (zDV x1.2 0)⟩,zDV x1.2 1⟩
def zK6(n:o_)(hn:mP n.text=tT)(ha:O? M G ia):O? M G (qj n ia):=λenv s=>by
 unfold qj;simp only;have h1:=ha env s;generalize ia env s=x at*
 let⟨y,hy⟩:=oJ (if x.1.2.d_=0 then lD x.1.1 x.1.2 (.mk 5 (bs []) [n.text] [C_]) n.line n.t_ x.2 else(x.1.1,x.2));have h2:pX M G x.2 (V? M G x.1.1/\H_ x.1.2=tT->V? M G y.1) y.2:=by
  rw[<-hy];split
  .exact(LF _ _ _ _ _ _).imp λh k=>h k.1 k.2 (zGS hn)
  .exact .ret λk=>k.1
 rw[hy]
 have key:(qz env->V? M G x.1.1/\H_ x.1.2=tT)/\(V? M G x.1.1/\H_ x.1.2=tT->V? M G y.1)->qz env->V? M G (cT 9 n.text [y.1])/\H_ (jC x.1.2 n.text).1=tT:=λh he=>
  ⟨by simp only[cT,V?,G?,and_true];exact⟨by simp[lH],h.2 (h.1 he)⟩,zB4 (h.1 he).2 _⟩
 split
 .exact(h1.bind h2).imp key
 .exact⟨(h1.bind h2).1.trans (Iz _ _ _ _),λz=>absurd z (JA oD)⟩
def zJ5(n:o_)(ha:O? M G ia)(hb:O? M G ib):O? M G (zy n ia ib):=λenv s=>by
 unfold zy;simp only;have h1:=(ha env s).bind (zH5 (bT 5) zxD n.line n.t_ (ia env s));generalize jZ (bT 5) n.line n.t_ (ia env s)=x at*
 split
 .exact⟨h1.1.trans (Iz _ _ _ _),λz=>absurd z (JA oD)⟩
 .refine(h1.bind ((hb env x.2).bind (O8 _ _ _ _))).imp λh he=>?_;exact⟨by simp only[cT,V?,G?,and_true];exact⟨by simp[lH],(h.1.2 (h.1.1 he)).1,(h.2.1 he).1⟩,h.2.2.1⟩
def zxa(q:o_)(h:qz env):qz (pE q env).1/\qz (pE q env).2:=by
 unfold pE;split
 .simp only;have k:=zB6 (h.get (u7 env (q.b_.getD 0 uC).text).toNat) q.n;exact⟨λv hv=>(dZ hv).elim (h v) λe=>by rw[e];exact k.1,λv hv=>(dZ hv).elim (h v) λe=>by rw[e];exact k.2⟩
 .exact⟨h,h⟩
def Ut(q a b:o_){iq:Inf}(hq:O? M G iq)(ha:O? M G ia)(hb:O? M G ib):O? M G (zz q a b iq ia ib):=λenv s=>by
 unfold zz;simp only;have h1:=(hq env s).bind (FM (iq env s).1.1 (iq env s).1.2 (bT 2) q.line q.t_ (iq env s).2);generalize jq (iq env s).1.1 (iq env s).1.2 (bT 2) q.line q.t_ (iq env s).2=x at*
 have h2:=ha (pE q env).1 x.2;generalize ia (pE q env).1 x.2=y at*
 have h3:=hb (pE q env).2 y.2;generalize ib (pE q env).2 y.2=z at*
 refine(h1.bind (h2.bind (h3.bind ((FM _ _ _ _ _ _).bind (FM _ _ _ _ _ _))))).imp λh he=>?_;have q1:=h.1.1 he;have y1:=h.2.1 (zxa q he).1;have z1:=h.2.2.1 (zxa q he).2;have j:=zGT y1.2 z1.2;exact⟨by simp only[cK,V?,G?,and_true];exact⟨by simp[lH],h.1.2 q1.1 q1.2 (zO 2 oM oM),h.2.2.2.1 y1.1 y1.2 j,h.2.2.2.2 z1.1 z1.2 j⟩,j⟩
def Uu(n:o_)(ha:O? M G ia):O? M G (AA n ia):=λenv s=>by
 unfold AA;simp only;have h1:=ha env s;generalize ia env s=x at*
 split
 .exact h1
 have h2:=h1.bind (Gu (M:=M) (G:=G) (n.types.getD 0 C_) n.line n.t_ x.2);generalize ig (n.types.getD 0 C_) n.line n.t_ x.2=u at*
 split
 .exact h2.imp λh he=>⟨(h.1 he).1,h.2⟩
 rename_i q;have e0:u.2.e=0:=bH λz=>q (.inl z);let⟨y,hy⟩:=oJ (if x.1.2.d_≠0 then lD x.1.1 x.1.2 C_ n.line n.t_ u.2 else(x.1.1,u.2));have h3:pX M G u.2 (V? M G x.1.1/\H_ x.1.2=tT->V? M G y.1) y.2:=by
  rw[<-hy];split
  .exact(LF _ _ _ _ _ _).imp λh k=>h k.1 k.2 DD
  .exact .ret λk=>k.1
 have h4:x.1.2.d_≠0->pX M G y.2 (0<=y.1.n/\y.1.n<M) y.2:=λk=>by
  rw[aC k]at hy;unfold lD at hy;rw[aB (λz=>z e0)]at hy;rw[<-hy];exact⟨mq.refl _,λ_ a _=>by simp only[aV,length_cons,length_nil]at a;simp only[n_.n];omega⟩
 rw[hy];split
 .exact(h2.bind h3).imp λh he=>⟨h.2 (h.1.1 he),h.1.2⟩
 split
 .exact(h2.bind (h3.bind (LF _ _ _ _ _ _))).imp λh he=>⟨h.2.2 (h.2.1 (h.1.1 he)) (h.1.1 he).2 h.1.2,h.1.2⟩
 next k0=>
  refine(h2.bind (h3.bind (h4 k0))).imp λh he=>⟨?_,h.1.2⟩
  simp only[V?,G?,and_true];exact⟨.cast h.2.2.1 h.2.2.2 DD h.1.2,h.2.1 (h.1.1 he)⟩
def DF(n:o_){i:Inf}(hi:O? M G i)(t:f_)(ht:H_ t=tT)(env:Env)(s:CS):pX M G s (qz env->V? M G (mF n i t env s).1) (mF n i t env s).2:=by
 unfold mF;exact((hi env s).bind (FM _ _ _ _ _ _)).imp λh he=>h.2 (h.1 he).1 (h.1 he).2 ht
theorem Uv(n a b:o_)(ha:O? M G ia)(hb:O? M G ib):O? M G (opC n a b ia ib):=λenv s=>by
 have b2:=zO 2 oM oM;have b3:=zO 3 oM oM;have b4:=zO 4 oM oM;unfold opC;simp only;split
 .exact((DF a ha _ b2 env s).bind (DF b hb _ b2 env _)).imp λh he=>⟨by simp only[cK,V?,G?,and_true];exact⟨by simp[lH],h.1 he,by simp[cN,V?,G?,lH],h.2 he⟩,b2⟩
 split
 .exact((DF a ha _ b2 env s).bind (DF b hb _ b2 env _)).imp λh he=>⟨by simp only[cK,V?,G?,and_true];exact⟨by simp[lH],h.1 he,h.2 he,by simp[cN,V?,G?,lH]⟩,b2⟩
 split
 .exact((ha env s).bind (hb env _)).imp λh he=>⟨by simp only[cK,V?,G?,and_true];exact⟨by simp[lH],(h.1 he).1,(h.2 he).1⟩,b2⟩
 split
 .exact((DF a ha _ b4 env s).bind (DF b hb _ b4 env _)).imp λh he=>⟨by simp only[cK,V?,G?,and_true];exact⟨by simp[lH],h.1 he,h.2 he⟩,b4⟩
 .refine((DF a ha _ b3 env s).bind (DF b hb _ b3 env _)).imp λh he=>⟨?_,by split<;>assumption⟩
  simp only[V?,G?,and_true];have o:0<=Eo n.text/\Eo n.text<11:=by
   have:=Ie (λx=>decide (x=n.text)) yP;have e:lN yP=11:=rfl;unfold Eo;omega
  exact⟨by simp[lH];exact o,h.1 he,h.2 he⟩
def zK7(n a:o_)(hn:n.d_=12->0<=n.n/\n.n<6)(ha:O? M G ia):O? M G (ql n a ia):=λenv s=>by
 have b2:=zO 2 oM oM;have b3:=zO 3 oM oM;unfold ql;split
 .exact(DF a ha _ b2 env s).imp λh he=>⟨by simp only[cK,V?,G?,and_true];exact⟨by simp[lH],h he⟩,b2⟩
 split
 .exact(DF a ha _ b3 env s).imp λh he=>⟨by simp only[cK,V?,G?,and_true];exact⟨by simp[lH],h he⟩,b3⟩
 split
 next k=>
  exact(ha env s).imp λh he=>⟨by simp only[V?,G?,and_true];exact⟨by simp[lH];exact hn k,(h he).1⟩,b2⟩
 .exact(ha env s).imp λh he=>⟨by simp only[cK,V?,G?,and_true];exact⟨by simp[lH],(h he).1⟩,zO 1 oM oM⟩
def Uw:∀{l:List n_},G? M G l↔∀x,x∈l->V? M G x
|[]=>by simp[G?]
|c::l=>by simp[G?,Uw (l:=l)]
def zxb:∀(l:List o_),(∀x,x∈l->O? M G (iD L x))->∀env s,pX M G s (qz env->G? M G (nP L l env s).1.1/\(nP L l env s).1.1.length=(nP L l env s).1.2.length) (nP L l env s).2
|[],_,env,s=>by rw[nP];exact .ret λ_=>⟨trivial,rfl⟩
|n::l,h,env,s=>by
 rw[nP];exact((h n oC env s).bind (zxb l (λx hx=>h x (by simp[hx])) env _)).imp λh he=>⟨⟨(h.1 he).1,(h.2 he).1⟩,by simp[(h.2 he).2]⟩
def zDW:∀(l _G:List fD),kZ _G l=oK->_G.Nodup->(_G++l).Nodup
|[],_G,_,h=>uM h
| n::l,_G,e,h=>by
 rw[kZ,Bool.or_eq_false_iff]at e;have:=zDW l (_G++[n]) e.2 (bK.2 ⟨h,oC,λa ha b hb z=>by
  rw[aK]at hb;have:=e.1;rw[eZ]at this
  exact this a ha (by simp[z,hb])⟩)
 simpa using this
def zuO:∀l:List f_,(jP l).2=tT->(jP l).1.length=lN l
|[],_=>rfl
| t::l,h=>by
 rw[jP]at h⊢;split at h
 next q=>
  rw[aC q,length_cons,length_cons,zuO l h]
 .cases h
def zIL{ns:oN}{ts:oL}(h:(kz (.mk 5 (bs []) ns ts)).2=0):lN ns=lN ts:=by
 have f:=(KE h).1;rw[kQ,aC oM]at f;split at f
 next q=>
  have e:(jP ts).1.length=lN ts:=zuO ts q;rw[nO,aC rfl]at f;unfold Bc at f;split at f
  .cases f
  next z=>omega
 .cases f
def zK8(n:o_)(h:∀x,x∈n.b_->O? M G (iD L x)):O? M G (rW n (nP L n.b_)):=λenv s=>by
 unfold rW;simp only;let⟨s1,e1⟩:=oJ (if kZ [] n.a_=tT then jw n.line n.t_ 8 s else s);have h1:pX M G s (n.a_.Nodup) s1:=by
  rw[<-e1];split
  .exact .fail oD
  next q=>
   exact .ret (by simpa using zDW n.a_ [] (uM q) oC)
 rw[e1];refine(h1.bind ((zxb L n.b_ h env s1).bind (O8 _ _ _ _))).imp λh he=>?_;have k:=h.2.1 he;have e:=zIL h.2.2.2;exact⟨by simp only[V?];exact⟨by simp[lH,k.2,e];exact h.1,k.1⟩,h.2.2.1⟩
def Oa{j:Inf}(h:O? M G j):O? M G (jI j):=λenv s=>by
 unfold jI;split
 next q=>exact⟨mq.refl s,λz=>absurd z q⟩
 .exact h env s
def Ob(n:o_)(hn:n.d_=2->n.n=0\/n.n=1){rest:Inf}(hr:O? M G rest)(h:∀x,x∈n.b_->O? M G (iD L x)):O? M G (qo L n rest):=λenv s=>by
 unfold qo;split
 .exact .ret λ_=>⟨by simp[cN,V?,G?,lH],zO 3 oM oM⟩
 split
 .exact .ret λ_=>⟨by simp[cT,V?,G?,lH],zO 4 oM oM⟩
 split
 next k=>
  exact .ret λ_=>⟨by simp[cN,V?,G?,lH,hn k],zO 2 oM oM⟩
 split
 .exact .ret λ_=>⟨by simp[cN,V?,G?,lH],zO 1 oM oM⟩
 split
 .exact .ret λ_=>⟨by simp[cN,V?,G?,lH],zO 3 oM oM⟩
 split
 .exact zIK L n env s
 split
 .exact zK8 L n h env s
 .exact hr env s
def zGs(n:o_)(hn:jB n)(h:∀x,x∈n.b_->O? M G (iD L x)):O? M G (iD L n):=by
 let⟨k,tx,nn,ln,cl,ts,ns,ks⟩:=n;rw[jB]at hn;let⟨n9,n2,n12,_⟩:=hn
 match ks,h with
 |[],h=>
  rw[NI];exact Oa (Ob L (.mk k tx nn ln cl ts ns []) n2 (λenv s=>.ret λ_=>⟨by simp[noC,cN,V?,G?,lH],DD⟩) h)
 |[a],h=>
  have ha:=h a (by simp[o_.b_]);rw[Ev];refine Oa (Ob L (.mk k tx nn ln cl ts ns [a]) n2 (λenv s=>?_) h);unfold Et;split
  .exact Us _ _ ha env s
  split
  next k9=>exact zK6 (.mk k tx nn ln cl ts ns [a]) (n9 k9) ha env s
  split
  .exact Uu _ ha env s
  .exact zK7 (.mk k tx nn ln cl ts ns [a]) _ n12 ha env s
 |[a,b],h=>
  have ha:=h a (by simp[o_.b_]);have hb:=h b (by simp[o_.b_]);rw[Ew];refine Oa (Ob L (.mk k tx nn ln cl ts ns [a,b]) n2 (λenv s=>?_) h);unfold Eu;split
  .exact zK5 _ _ ha hb env s
  split
  .exact g_call _ _ ha hb env s
  split
  .exact zJ5 _ ha hb env s
  .exact Uv _ _ _ ha hb env s
 |a::b::c::l,h=>
  rw[K5];exact Oa (Ob L (.mk k tx nn ln cl ts ns (a::b::c::l)) n2 (Ut a b c (h a (by simp[o_.b_])) (h b (by simp[o_.b_])) (h c (by simp[o_.b_]))) h)
mutual
def zAo:∀n:o_,jB n->O? M G (iD L n)
|.mk k tx nn ln cl ts ns ks,h=>zGs L _ h (zxc ks (by rw[jB]at h;exact h.2.2.2))
def zxc:∀l:List o_,zK l->∀x,x∈l->O? M G (iD L x)
|[],_,x,hx=>by cases hx
|n::l,h,x,hx=>by
 rw[zK]at h;rcases aM.1 hx with e|e
 .rw[e];exact zAo n h.1
 .exact zxc l h.2 x e
end
end
end
def DI(n:Nat)(C:gT):Prop:=(∀x,x∈C.fields->tV n x)/\∀x,x∈C.fn->tV n x
def DI.put{n:Nat}{C:gT}(h:DI n C)(k:fD){d:gT}(hd:tV n d):DI n (K? C k d):=by
 unfold K?;split
 .exact h
 .refine⟨λx hx=>?_,h.2⟩;rcases aL.1 hx with hx|hx
  .exact h.1 x hx
  .rw[aK.1 hx];exact hd
section
variable {n:Nat} {v:f_->f_->Int->gT} (hv:∀x y l,tV n (v x y l))
include hv
def zH2(lb:Int):∀(ns:List fD) (ks:List f_) (C:gT),DI n C->DI n (ui v lb ns ks C)
|[],_,C,h=>by rw[ui];exact h;intros;contradiction
|_::_,[],C,h=>by rw[ui];exact h;intros;contradiction
|k::ns,t::ks,C,h=>by rw[ui];exact zH2 lb ns ks _ (h.put k (hv _ _ _))
def zH3(m:I?)(lb:Int):∀(ns:List fD) (ks:List f_) (C:gT),DI n C->DI n (uW v m lb ns ks C)
|[],_,C,h=>by rw[uW];exact h;intros;contradiction
|_::_,[],C,h=>by rw[uW];exact h;intros;contradiction
| k::ns,t::ks,C,h=>by
 rw[uW];have h1:DI n (if(jC m.t k).2=oK then tX C k lb else C):=by
  split
  .exact h
  .exact h
 apply zH3 m lb ns ks _;split
 .exact h1.put k (hv _ _ _)
 .exact h1
def zH4(R:List I?)(lb:Int):∀(L:List I?) (C:gT),DI n C->DI n (xf v R lb L C)
|[],C,h=>by rw[xf];exact h
| m::L,C,h=>by
 rw[xf];apply zH4 R lb L _;unfold AY;split
 .exact h
 split
 .refine⟨h.1,λx hx=>?_⟩;have hx:x∈rQ _ _:=hx;unfold rQ at hx;split at hx
  .cases hx
  .rcases aM.1 hx with e|hx
   .rw[e];exact hv _ _ _
   .rw[aK.1 hx];exact hv _ _ _
 split
 .unfold xe;split
  .split
   .exact h
   .exact zH2 hv _ _ _ _ h
  .exact zH3 hv _ _ _ _ _ h
 .exact h
end
def zAm:∀(n:Nat) (a b:f_) (lb:Int),tV n (zN n a b lb)
|0,a,b,lb=>rfl
|n+1,a,b,lb=>by
 rw[zN];split
 .exact Nw _
 .exact zH4 (λx y l=>zAm n x y l) _ _ _ _ ⟨λx hx=>(by cases hx),λx hx=>(by cases hx)⟩
def A7(d:gT)(k:n_):n_:=.mk 22 0 (bs []) [] [] [] [d] [k]
mutual
def tC:n_->n_
|.mk k n t is ns ts cs ks=>if k=21 then .mk 22 0 (bs []) [] [] [] [zN 32 (ts.getD 0 C_) (ts.getD 1 C_) (2*n+2)] (wN ks)else .mk k n t is ns ts cs (wN ks)
def wN:List n_->List n_
|[]=>[]
|c::l=>tC c::wN l
end
def JB:∀l:List n_,wN l=l.map tC
|[]=>rfl
|c::l=>by rw[wN,JB l];try rfl
def zDT(c:n_):tC c=if c.d_=21 then .mk 22 0 (bs []) [] [] [] [zN 32 (c.types.getD 0 C_) (c.types.getD 1 C_) (2*c.n+2)] (c.b_.map tC)else .mk c.d_ c.n c.text c.ints c.a_ c.types c.cos (c.b_.map tC):=by
 cases c;rw[tC,JB];try rfl
def vJ(c:n_):Int:=if c.d_=0\/c.d_=20 then 2 else if c.d_=1 then 3 else if c.d_=2 then 1 else if c.d_=3 then 0 else if c.d_=5\/c.d_=6 then 5 else -1
def idleC(d:gT)(k:n_):Bool:=ja d r?||(decide (0<=vJ k)&&decide (m? d (vJ k).toNat=0)&&(decide (vJ k≠5)||decide (lN d.fn=0)))
def CK(d:gT)(k:n_):n_:=
 let d':=if k.d_=22 then uT 32 (k.cos.getD 0 r?) d else d;let k':=if k.d_=22 then k.b_.getD 0 noC else k
 if idleC d' k'=tT then k' else A7 d' k'
mutual
def tF:n_->n_
|.mk k n t is ns ts cs ks=>if k=22 then CK (cs.getD 0 r?) ((DJ ks).getD 0 noC)else .mk k n t is ns ts cs (DJ ks)
def DJ:List n_->List n_
|[]=>[]
|c::l=>tF c::DJ l
end
def Oc:∀l:List n_,DJ l=l.map tF
|[]=>rfl
|c::l=>by rw[DJ,Oc l];try rfl
def zGq(c:n_):tF c=if c.d_=22 then CK (c.cos.getD 0 r?) ((c.b_.map tF).getD 0 noC)else .mk c.d_ c.n c.text c.ints c.a_ c.types c.cos (c.b_.map tF):=by
 cases c;rw[tF,Oc];try rfl
def wh(trim:Bool)(c:n_):n_:=if trim=tT then tF (tC c)else tC c
def rC(trim:Bool)(p:lC):lC:=⟨p.v_.map λf=>⟨f.name,f.type,wh trim f.body⟩,p.main,p.sites⟩
def xg(B:Nat)(d:gT):Prop:=i? d=tT/\lV B d/\tV 32 d
mutual
def zP:n_->Prop
|.mk k _ _ _ _ _ cs ks=>k≠21/\(k=22->(∃d,cs=[d]/\xg 16 d)/\lN ks=1)/\yg ks
def yg:List n_->Prop
|[]=>True
|c::l=>zP c/\yg l
end
mutual
def A8(B:Nat):n_->Prop
|.mk k _ _ _ _ _ cs ks=>k≠21/\(k=22->∃d x,cs=[d]/\ks=[x]/\x.d_≠22/\xg B d)/\A9 B ks
def A9(B:Nat):List n_->Prop
|[]=>True
|c::l=>A8 B c/\A9 B l
end
def LG:∀{l:List n_},yg l↔∀x,x∈l->zP x
|[]=>by simp[yg]
|c::l=>by simp[yg,LG (l:=l)]
def LH{B:Nat}:∀{l:List n_},A9 B l↔∀x,x∈l->A8 B x
|[]=>by simp[A9]
|c::l=>by simp[A9,LH (l:=l)]
def zDU{a b:f_}{n:Int}(ha:H_ a=tT)(hb:H_ b=tT)(hn:0<=n):xg 16 (zN 32 a b (2*n+2)):=by
 have h:=zxY 32 a b (2*n+2) oM (Gs ha) (Gs hb);exact⟨h.1,h.2,zAm _ _ _ _⟩
def xg.le{A B:Nat}(hAB:A<=B){d:gT}(h:xg A d):xg B d:=⟨h.1,Ud hAB 32 h.2.2 h.2.1,h.2.2⟩
def xg.comp{A B:Nat}(hAB:2<=A+B){c d:gT}(h:xg A c)(k:xg B d):xg (A+B) (uT 32 c d):=⟨zx8 _ _ _ h.1 k.1,(OM hAB 32 h.2.2 k.2.2 h.1 k.1 h.2.1 k.2.1).1,Ny _ h.1 k.1 h.2.2 k.2.2⟩
variable {M G:Nat}
def lH.inv{n:Int}{ns:oN}{ts:oL}{q:Nat}(h:lH M G 21 n ns ts q):q=1/\0<=n/\n<M/\∃a b,ts=[a,b]/\H_ a=tT/\H_ b=tT:=by
 simpa[lH]using h
def lH.n22{n:Int}{ns:oN}{ts:oL}{q:Nat}(h:lH M G 22 n ns ts q):False:=by
 simp[lH]at h
mutual
def Ux:∀c:n_,V? M G c->zP (tC c)
| .mk k n t is ns ts cs ks,h=>by
 rw[V?]at h;have hk:=zuN ks h.2;have hl:(wN ks).length=lN ks:=by rw[JB];simp
 rw[tC];split
 next q=>
  subst q;let⟨h2,h3,h4,a,b,e,na,nb⟩:=h.1.1.inv;subst e;rw[zP];exact⟨oD,λ_=>⟨⟨_,rfl,zDU na nb h3⟩,oM⟩,hk⟩
 next q=>
  rw[zP];refine⟨q,λe=>?_,hk⟩;subst e;exact h.1.1.n22.elim
def zuN:∀l:List n_,G? M G l->yg (wN l)
|[],_=>trivial
|c::l,h=>by rw[G?]at h;rw[wN,yg];exact⟨Ux c h.1,zuN l h.2⟩
end
mutual
def Uy:∀c:n_,Q_ (tC c)=Q_ c
|.mk k n t is ns ts cs ks=>by
 have:=zrT ks;rw[tC];split<;>simp only[Q_]<;>omega
def zrT:∀l:List n_,B_ (wN l)=B_ l
|[]=>rfl
|c::l=>by rw[wN,B_,B_,Uy c,zrT l]
end
mutual
def Uz:∀(c:n_) (m:Nat),jD m c->jD m (tC c)
| .mk k n t is ns ts cs ks,m,h=>by
 rw[jD]at h;let⟨h23,h18,h21,h4,h5,hk⟩:=h;have hs:=VA ks m k 0 hk;have hl:(wN ks).length=lN ks:=by rw[JB];simp
 rw[tC];split
 next q=>
  subst q;have hs:h? m 22 (wN ks) 0:=by
   have:=VA ks m 22 0 (by
    have hl1:=(h21 rfl).1
    match ks,hl1,hk with
    |[x],_,hk=>simpa[h?]using hk)
   exact this
  rw[jD];exact⟨oD,λe=>absurd e oD,λe=>absurd e oD,λe=>absurd e oD,λe=>absurd e oD,hs⟩
 .rw[jD];refine⟨h23,λe=>by rw[hl];exact h18 e,λe=>by rw[hl];exact h21 e,λe=>?_,λe=>by rw[hl];exact h5 e,hs⟩;let⟨a,b,c⟩:=h4 e;subst c;exact⟨a,b,rfl⟩
def VA:∀(l:List n_) (m:Nat) (k:Int) (i:Nat),h? m k l i->h? m k (wN l) i
|[],m,k,i,_=>trivial
|c::l,m,k,i,h=>by
 rw[h?]at h;rw[wN,h?];exact⟨Uz c _ h.1,VA l m k (i+1) h.2⟩
end
structure TK (B m:Nat) (s:Nat) (c:n_):Prop where
 tc:A8 B c
 wf:jD m c
 sz:Q_ c<=s
def VB{A B:Nat}(hAB:A<=B):∀(n:Nat) (c:n_),Q_ c<=n->A8 A c->A8 B c
|0,c,h,_=>by have:=lc c;omega
| n+1,.mk k _ _ _ _ _ cs ks,h,hc=>by
 rw[A8]at hc⊢;rw[Q_]at h;refine⟨hc.1,λe=>?_,LH.2 λx hx=>?_⟩
 .let⟨d,x,h1,h2,h3,h4⟩:=hc.2.1 e;exact⟨d,x,h1,h2,h3,h4.le hAB⟩
 .obtain⟨j,hj,rfl⟩:=bg hx;have:=G9 hj;exact VB hAB n _ oM (LH.1 hc.2.2 _ (aO hj))
def zGr{B m s:Nat}{d:gT}{k:n_}(hd:xg 16 d)(h:TK B m s k):TK (B+16) m (s+1) (CK d k):=by
 have key:∀(d':gT) (k':n_),xg (B+16) d'->k'.d_≠22->TK (B+16) m s k'->TK (B+16) m (s+1) (if idleC d' k'=tT then k' else A7 d' k'):=λd' k' gd nk tk=>by
  split
  .exact⟨tk.tc,tk.wf,by have:=tk.sz;omega⟩
  .refine⟨?_,?_,?_⟩
   .unfold A7;rw[A8];exact⟨oD,λ_=>⟨d',k',rfl,rfl,nk,gd⟩,tk.tc,trivial⟩
   .unfold A7;rw[jD];exact⟨oD,λe=>absurd e oD,λe=>absurd e oD,λe=>absurd e oD,λe=>absurd e oD,by simpa[h?]using tk.wf⟩
   .have:=tk.sz;simp only[A7,Q_,B_];omega
 have h':TK (B+16) m s k:=⟨VB oM _ k (aJ _) h.tc,h.wf,h.sz⟩
 unfold CK;simp only;by_cases q:k.d_=22
 .rw[aC q,aC q];let⟨k0,n,t,is,ns,ts,cs,ks⟩:=k;have q:k0=22:=q;subst q;have ht:=h.tc;rw[A8]at ht;let⟨e,x,h1,h2,h3,h4⟩:=ht.2.1 rfl;subst h1;subst h2;refine key _ _ (h4.comp oM hd) h3 ⟨?_,?_,?_⟩
  .have:=h'.tc;rw[A8,A9]at this;exact this.2.2.1
  .have:=h.wf;rw[jD,h?]at this;show jD m x;simpa using this.2.2.2.2.2.1
  .have:=h.sz;rw[Q_,B_]at this;show Q_ x<=s;omega
 .rw[aB q,aB q];exact key _ _ (hd.le oM) q h'
def Od:∀(n:Nat) (c:n_) (m:Nat),Q_ c<=n->zP c->jD m c->TK (16*Q_ c) m (Q_ c) (tF c)
|0,c,m,h,_,_=>by have:=lc c;omega
| n + 1,c,m,h,hp,hw=>by
 have hz:=lc c;let⟨k,nn,t,is,ns,ts,cs,ks⟩:=c;rw[zP]at hp;rw[jD]at hw;simp only[n_.b_]at hz;have hk:∀(j:Nat) (hj:j<lN ks) (m':Nat),jD m' ks[j]->TK (16*Q_ ks[j]) m' (Q_ ks[j]) (tF ks[j]):=λj hj m' hw'=>by
  have:=G9 hj;exact Od n _ m' oM (LG.1 hp.2.2 _ (aO hj)) hw'
 rw[tF];by_cases q:k=22
 .rw[aC q];subst q;let⟨⟨d,h1,h2⟩,h3⟩:=hp.2.1 rfl;subst h1
  match ks,h3,hk,hw,hz with
  |[x],_,hk,hw,hz=>
   have hx:=hk 0 oC m (by have:=hw.2.2.2.2.2;rw[h?]at this;simpa using this.1);simp only[getElem_cons_zero]at hx;have hz:Q_ (n_.mk 22 nn t is ns ts [d] [x])=Q_ x+1:=by simp only[Q_,B_];omega
   rw[hz];have:=zGr h2 hx;exact⟨by rw[Nat.mul_add];exact this.tc,this.wf,this.sz⟩
 .rw [aB q,Oc];refine⟨?_,?_,?_⟩
  .rw[A8];refine⟨hp.1,λe=>absurd e q,LH.2 λx hx=>?_⟩;obtain⟨y,hy,rfl⟩:=af.1 hx;obtain⟨j,hj,rfl⟩:=bg hy;have:=G9 hj;let⟨m',hw'⟩:∃m',jD m' ks[j]:=by
    by_cases q5:k=5
    .subst q5;have hl:=hw.2.2.2.2.1 rfl
     match ks,hl,hw,j,hj with
     |[x],_,hw,0,_=>exact⟨m+1,by have:=hw.2.2.2.2.2;rw[h?]at this;simpa using this.1⟩
    .exact⟨_,Kl q5 hj hw.2.2.2.2.2⟩
   exact VB (by rw[hz];omega) _ _ (aJ _) (hk j hj m' hw').tc
  .have hs:∀(l:List n_) (i j:Nat),ks.drop j=l->h? m k l i->h? m k (l.map tF) i:=λl=>by
    induction l with
    |nil=>intro i j _ _;trivial
    | cons y l ih=>
     intro i j e hw;have hj:j<lN ks:=by
      rcases aY j (lN ks) with z|z
      .exact z
      .rw[eG z]at e;cases e
     rw[aF hj]at e;injection e with e1 e2
     rw[h?]at hw;rw[map_cons,h?];refine⟨?_,ih (i+1) (j+1) e2 hw.2⟩;rw[<-e1]at hw⊢;exact(hk j hj _ hw.1).wf
   rw[jD];refine⟨hw.1,λe=>uM (hw.2.1 e),λe=>absurd e hp.1,λe=>?_,λe=>uM (hw.2.2.2.2.1 e),hs ks 0 0 oC hw.2.2.2.2.2⟩;let⟨a,b,c⟩:=hw.2.2.2.1 e;subst c;exact⟨a,b,rfl⟩
  .have hs:∀(l:List n_) (j:Nat),ks.drop j=l->B_ (l.map tF)<=B_ l:=λl=>by
    induction l with
    |nil=>intro j _;exact aJ _
    | cons y l ih=>
     intro j e;have hj:j<lN ks:=by
      rcases aY j (lN ks) with z|z
      .exact z
      .rw[eG z]at e;cases e
     rw[aF hj]at e;injection e with e1 e2
     have:=ih (j+1) e2;have h2:Q_ (tF y)<=Q_ y:=by
      rw[<-e1];let⟨m',hw'⟩:∃m',jD m' ks[j]:=by
       by_cases q5:k=5
       .subst q5;have hl:=hw.2.2.2.2.1 rfl
        match ks,hl,hw,j,hj with
        |[x],_,hw,0,_=>exact⟨m+1,by have:=hw.2.2.2.2.2;rw[h?]at this;simpa using this.1⟩
       .exact⟨_,Kl q5 hj hw.2.2.2.2.2⟩
      exact(hk j hj m' hw').sz
     rw[map_cons,B_,B_];omega
   have:=hs ks 0 oC;simp only[Q_];omega
def FN(G:Nat)(k n:Int)(ns:oN)(q:Nat):Prop:=
((k=0\/k=1\/k=3\/k=4\/k=20)/\q=0)\/(k=2/\q=0/\(n=0\/n=1))\/(k=6/\q=0/\0<=n/\n<G)\/((k=5\/k=9\/k=16\/k=17\/k=19)/\q=1)\/(k=12/\q=1/\0<=n/\n<6)\/((k=7\/k=10\/k=14\/k=15\/k=18)/\q=2)\/(k=13/\q=2/\0<=n/\n<11)\/(k=11/\q=3)\/(k=8/\lN ns=q/\ns.Nodup)\/(k=22/\q=1)
mutual
def tH(G:Nat):n_->Prop
|.mk k n _ _ ns _ _ ks=>FN G k n ns (lN ks)/\uY G ks
def uY(G:Nat):List n_->Prop
|[]=>True
|c::l=>tH G c/\uY G l
end
def LJ{G:Nat}:∀{l:List n_},uY G l↔∀x,x∈l->tH G x
|[]=>by simp[uY]
|c::l=>by simp[uY,LJ (l:=l)]
def zvf{M G:Nat}:∀(n:Nat) (c:n_),Q_ c<=n->V? M G c->tH G (tC c)
|0,c,h,_=>by have:=lc c;omega
| m+1,.mk k n t is ns ts cs ks,h,ho=>by
 rw[Q_]at h;rw[V?]at ho;have hk:uY G (wN ks):=by
  rw[JB];refine LJ.2 λx hx=>?_;obtain⟨y,hy,rfl⟩:=af.1 hx;have:=Br hy;exact zvf m y oM (Uw.1 ho.2 y hy)
 have hl:(wN ks).length=lN ks:=by rw[JB];simp
 rw[tC];split
 next q=>
  subst q;rw[tH];exact⟨by have:=ho.1.1.inv;simp[FN];omega,hk⟩
 next q=>
  rw[tH];refine⟨?_,hk⟩;rw[hl];have:=ho.1.1;unfold lH at this;unfold FN;rcases this with h|h|h|h|h|h|h|h|h|h
  .exact .inl h
  .exact .inr (.inl h)
  .exact .inr (.inr (.inl h))
  .exact .inr (.inr (.inr (.inl h)))
  .exact .inr (.inr (.inr (.inr (.inl h))))
  .exact .inr (.inr (.inr (.inr (.inr (.inl h)))))
  .exact .inr (.inr (.inr (.inr (.inr (.inr (.inl h))))))
  .exact .inr (.inr (.inr (.inr (.inr (.inr (.inr (.inl h)))))))
  .exact .inr (.inr (.inr (.inr (.inr (.inr (.inr (.inr (.inl h))))))))
  .exact absurd h.1 q
def zEC{G:Nat}{d:gT}{k:n_}(h:tH G k):tH G (CK d k):=by
 have key:∀(d':gT) (k':n_),tH G k'->tH G (if idleC d' k'=tT then k' else A7 d' k'):=λd' k' h'=>by
  split
  .exact h'
  .unfold A7;rw[tH];exact⟨by simp[FN],h',trivial⟩
 unfold CK;simp only;by_cases q:k.d_=22
 .rw[aC q,aC q];let⟨k0,n,t,is,ns,ts,cs,ks⟩:=k;have q:k0=22:=q;subst q;rw[tH]at h;have hl:lN ks=1:=by
   have:=h.1;simpa[FN]using this
  match ks,hl,h with
  |[x],_,h=>
   rw[uY]at h;exact key _ _ h.2.1
 .rw[aB q,aB q];exact key _ _ h
def zx3{G:Nat}:∀(n:Nat) (c:n_),Q_ c<=n->tH G c->tH G (tF c)
|0,c,h,_=>by have:=lc c;omega
| m+1,.mk k n t is ns ts cs ks,h,ho=>by
 rw[Q_]at h;rw[tH]at ho;have hk:∀x,x∈ks->tH G (tF x):=λx hx=>by
  have:=Br hx;exact zx3 m x oM (LJ.1 ho.2 x hx)
 rw[tF];by_cases q:k=22
 .rw[aC q];subst q;have hl:lN ks=1:=by
   have:=ho.1;simpa[FN]using this
  match ks,hl,hk with
  |[x],_,hk=>
   rw[DJ];exact zEC (hk x oC)
 .rw[aB q,Oc,tH];refine⟨by rw[aa];exact ho.1,LJ.2 λx hx=>?_⟩;obtain⟨y,hy,rfl⟩:=af.1 hx;exact hk y hy
mutual
def ku(b:Prop):n_->Prop
|.mk k _ _ _ _ _ cs ks=>(k=22->b/\∃d,cs=[d]/\i? d=tT)/\Aa b ks
def Aa(b:Prop):List n_->Prop
|[]=>True
|c::l=>ku b c/\Aa b l
end
def Oe{b:Prop}:∀{l:List n_},Aa b l↔∀x,x∈l->ku b x
|[]=>by simp[Aa]
|c::l=>by simp[Aa,Oe (l:=l)]
def zED:∀(n:Nat) (c:n_),Q_ c<=n->zP c->ku True c
|0,c,h,_=>by have:=lc c;omega
| m+1,.mk k n t is ns ts cs ks,h,hp=>by
 rw[Q_]at h;rw[zP]at hp;rw[ku];refine⟨λe=>?_,Oe.2 λx hx=>?_⟩
 .let⟨⟨d,h1,h2⟩,_⟩:=hp.2.1 e;exact⟨trivial,d,h1,h2.1⟩
 .have:=Br hx;exact zED m x oM (LG.1 hp.2.2 x hx)
def zEE{B:Nat}:∀(n:Nat) (c:n_),Q_ c<=n->A8 B c->ku True c
|0,c,h,_=>by have:=lc c;omega
| m+1,.mk k n t is ns ts cs ks,h,hp=>by
 rw[Q_]at h;rw[A8]at hp;rw[ku];refine⟨λe=>?_,Oe.2 λx hx=>?_⟩
 .let⟨d,x,h1,_,_,h2⟩:=hp.2.1 e;exact⟨trivial,d,h1,h2.1⟩
 .have:=Br hx;exact zEE m x oM (LH.1 hp.2.2 x hx)
def Og{M G:Nat}{c:n_}{m:Nat}(ho:V? M G c)(hw:jD m c)(trim:Bool):tH G (wh trim c)/\ku True (wh trim c)/\jD m (wh trim c)/\Q_ (wh trim c)<=Q_ c:=by
 have h1:=zvf _ c (aJ _) ho;have h2:=Ux c ho;have h3:=Uz c m hw;have h4:=Uy c;unfold wh;cases trim with
 |false=>exact⟨h1,zED _ _ (aJ _) h2,h3,by simp[h4]⟩
 |true=>
  have k:=Od _ (tC c) m (aJ _) h2 h3;rw[aC rfl];exact⟨zx3 _ _ (aJ _) h1,zEE _ _ (aJ _) k.tc,k.wf,by have:=k.sz;omega⟩
def zvg(t:D_)(k:Int):∀(l:List n_) (i:Nat) (m:Int) (w:List D_),(ko t k l i m w).1.length=lN l
|[],i,m,w=>by rw[ko]
|c::r,i,m,w=>by
 rw[ko];simp only[length_cons];rw[zvg t k r]
section
variable {all:List B?} {b:Prop} {G:Nat} (hG:∀n:Int,0<=n->n<G->∃f,all[n.toNat]?=some f/\f.k_=0)
include hG
mutual
def zx4(t:D_):∀(c:n_) (m:Int) (l:List D_) (v:Nat),tH G c->ku b c->uV all (lG t c m l).1 v->okF all b (lG t c m l).1
| .mk k n tx is ns ts cs ks,m,l,v,ho,hm,hs=>by
 rw[tH]at ho;rw[ku]at hm;rw[lG]at hs⊢;by_cases k4:k=4
 .simp only[aC k4]at hs⊢;subst k4;have hl:ks=[]:=by
   have:=ho.1;simpa[FN]using this
  subst hl;rw[okF];exact⟨by simp[BF],trivial⟩
 by_cases k5:k=5
 .simp only[aB k4,aC k5]at hs⊢;rw[uV]at hs;let⟨h1,h2,h3⟩:=hs.2.2.1 rfl;rw[okF];refine⟨?_,trivial⟩;unfold BF;simp only[length_nil];exact .inr (.inr (.inr (.inr (.inr (.inr (.inr (.inr (.inr (.inr ⟨trivial,trivial,h1,h2⟩)))))))))
 .simp only[aB k4,aB k5]at hs⊢;rw[uV]at hs;rw[okF];have hl:(ko t k ks 0 m l).1.length=lN ks:=zvg t k ks 0 m l;refine⟨?_,zvh t k ks 0 m l v ho.2 hm.2 hs.2.2.2⟩;rw[hl];have:=ho.1;unfold FN at this;unfold BF;rcases this with h|h|h|h|h|h|h|h|h|h
  .exact .inl h
  .exact .inr (.inl h)
  .exact .inr (.inr (.inl ⟨h.1,h.2.1,h.2.2.1,hG n h.2.2.1 h.2.2.2⟩))
  .exact .inr (.inr (.inr (.inl ⟨h.1.resolve_left k5,h.2⟩)))
  .exact .inr (.inr (.inr (.inr (.inl h))))
  .exact .inr (.inr (.inr (.inr (.inr (.inl h)))))
  .exact .inr (.inr (.inr (.inr (.inr (.inr (.inl h))))))
  .exact .inr (.inr (.inr (.inr (.inr (.inr (.inr (.inl h)))))))
  .exact .inr (.inr (.inr (.inr (.inr (.inr (.inr (.inr (.inl h))))))))
  .let⟨q1,q2⟩:=hm.1 h.1;exact .inr (.inr (.inr (.inr (.inr (.inr (.inr (.inr (.inr (.inl ⟨h.1,h.2,q1,q2⟩)))))))))
def zvh(t:D_)(k:Int):∀(l:List n_) (i:Nat) (m:Int) (w:List D_) (v:Nat),uY G l->Aa b l->AU all k (ko t k l i m w).1 i v->jb all b (ko t k l i m w).1
|[],i,m,w,v,_,_,_=>by rw[ko,jb];trivial
|c::r,i,m,w,v,ho,hm,hs=>by
 rw[uY]at ho;rw[Aa]at hm;rw[ko]at hs⊢;simp only at hs⊢;rw[AU]at hs;rw[jb];exact⟨zx4 t c _ _ _ ho.1 hm.1 hs.1,zvh t k r (i+1) m _ v ho.2 hm.2 hs.2⟩
end
end
def Oh{all:List B?}{b:Prop}:∀(n:Nat) (c:n_) (v:Nat),Q_ c<=n->okF all b c->uV all c v->nK c v
|0,c,v,h,_,_=>by have:=lc c;omega
| m+1,.mk k n t is ns ts cs ks,v,h,ho,hs=>by
 rw[Q_]at h;rw[okF]at ho;rw[uV]at hs;let⟨h5,h4,h23,hks⟩:=hs;have hrec:∀(l:List n_),(∀x,x∈l->x∈ks)->∀i,k≠18->AU all k l i v->iZ l v:=by
  intro l
  induction l with
  |nil=>intro _ _ _ _;trivial
  |cons x l ih=>
   intro hm i k18 hs;rw[AU,aB k18]at hs;have:=Br (hm x oC);rw[iZ];exact⟨Oh m x v oM (OE ho.2 (hm x oC)) hs.1,ih (λy hy=>hm y (by simp[hy])) (i+1) k18 hs.2⟩
 have hsh:=ho.1;unfold BF at hsh;rw[nK];by_cases k18:k=18
 .rw[aC k18];have hl:lN ks=2:=by subst k18;simpa using hsh
  match ks,hl with
  |[k0,k1],_=>
   rw[AU,aC k18,AU,aC k18]at hks;rw[B_,B_]at h;rw[Gg];exact⟨Oh m k0 v oM (OE ho.2 oC) hks.1,Oh m k1 (v+1) oM (OE ho.2 oC) (uM hks.2.1)⟩
 rw[aB k18];have _H:=hrec ks (λ_ h=>h) 0 k18 hks;by_cases k11:k=11
 .rw[aC k11];have hl:lN ks=3:=by subst k11;simpa using hsh
  match ks,hl,_H with
  |[k0,k1,k2],_,_H=>rw[iZ,iZ,iZ]at _H;rw[Gh];exact⟨_H.1,_H.2.1,_H.2.2.1⟩
 rw[aB k11];by_cases k8:k=8
 .rw[aC k8];have hl:lN ns=lN ks/\ns.Nodup:=by subst k8;simpa using hsh
  exact⟨oM,_H⟩
 rw[aB k8];by_cases k23:k=23
 .rw[aC k23];exact(h23 k23).2.2.1
 rw[aB k23];by_cases k10:k=10
 .rw[aC k10];have hl:lN ks=2:=by subst k10;simpa using hsh
  match ks,hl,_H with
  |[k0,k1],_,_H=>rw[iZ,iZ]at _H;rw[Gi];exact⟨_H.1,_H.2.1⟩
 rw[aB k10];refine⟨?_,_H,h4,λe=>?_⟩
 .rcases hsh with h|h|h|h|h|h|h|h|h|h|h<;>omega
 .subst e;have:∃d,cs=[d]/\i? d=tT:=by
   have h22:lN ks=1/\b/\∃d,cs=[d]/\i? d=tT:=uM hsh;exact h22.2.2
  let⟨d,e,_⟩:=this;rw[e];simp
variable {B:Nat}
mutual
def wi:n_->Nat
|.mk k _ _ is _ _ _ ks=>(if k=23 then lN is else 0)+FO ks
def FO:List n_->Nat
|[]=>0
|c::l=>wi c+FO l
end
mutual
def zH1{all:List B?}{b:Prop}:∀c:n_,okF all b c->wt c+1<=2*Q_ c+wi c
| .mk k n t is ns ts cs ks,h=>by
 rw[okF]at h;have hk:=zDS ks h.2;have h8:k=8->lN ns=lN ks:=λe=>by
  subst e;have:=h.1;unfold BF at this;simpa using (show lN ns=lN ks from by simpa using (by simpa using this:lN ns=lN ks/\ns.Nodup).1)
 rw[wt,Q_,wi];by_cases e:k=8
 .rw[aC e,h8 e];omega
 .rw[aB e];omega
def zDS{all:List B?}{b:Prop}:∀l:List n_,jb all b l->kr l+lN l<=2*B_ l+FO l
|[],_=>by simp[kr,B_,FO]
|c::l,h=>by
 rw[jb]at h;have h1:=zH1 c h.1;have h2:=zDS l h.2;rw[kr,B_,FO,length_cons];omega
end
def nZ(l:ou):Nat:=(l.map λt=>lN t.k_).sum
def zw3(a b:ou):nZ (a++b)=nZ a+nZ b:=by simp[nZ]
mutual
def zAj(t:D_):∀(c:n_) (m:Nat) (l:List D_),jD m c->wi (lG t c m l).1=nZ (jh t c m)
| .mk k n tx is ns ts cs ks,m,l,h=>by
 rw[jD]at h;rw[jh,lG];by_cases k4:k=4
 .simp only[aC k4];rw[wi,(h.2.2.2.1 k4).2.2,aB h.1];try rfl
 by_cases k5:k=5
 .simp only[aB k4,aC k5];simp[wi,FO,nZ]
 .simp only[aB k4,aB k5];rw[wi,aB h.1,zw4 t k k5 ks m 0 l h.2.2.2.2.2];simp
def zw4(t:D_)(k:Int)(k5:k≠5):∀(c:List n_) (m i:Nat) (l:List D_),h? m k c i->FO (ko t k c i m l).1=nZ (pF t k c i m)
|[],m,i,l,h=>by rw[ko,pF];try rfl
|c::r,m,i,l,h=>by
 rw[h?,aB k5]at h;rw[ko,pF];simp only;rw[Ey,FO,zAj t c _ l h.1,zw4 t k k5 r m (i+1) _ h.2,zw3]
end
mutual
def zw5(t:D_):∀(c:n_) (m:Nat) (l:List D_),jD m c->Q_ (lG t c m l).1+jH Q_ (jh t c m)<=Q_ c
| .mk k n tx is ns ts cs ks,m,l,h=>by
 rw[jD]at h;rw[jh,lG];by_cases k4:k=4
 .simp only[aC k4];simp[jH,Q_]
 by_cases k5:k=5
 .simp only[aB k4,aC k5];have e:=Gb (h.2.2.2.2.1 k5);have e2:B_ ks=Q_ (ks.getD 0 noC):=by rw[e];simp[B_]
  simp only[Q_,B_,jH,e2,map_cons,map_nil,List.sum_cons,List.sum_nil];omega
 .simp only[aB k4,aB k5];have:=zuK t k k5 ks m 0 l h.2.2.2.2.2;rw[Q_,Q_];omega
def zuK(t:D_)(k:Int)(k5:k≠5):∀(c:List n_) (m i:Nat) (l:List D_),h? m k c i->B_ (ko t k c i m l).1+jH Q_ (pF t k c i m)<=B_ c
|[],m,i,l,h=>by rw[ko,pF];simp
|c::r,m,i,l,h=>by
 rw[h?,aB k5]at h;rw[ko,pF];simp only;have h1:=zw5 t c _ l h.1;have h2:=zuK t k k5 r m (i+1) (lG t c ((if k=18 then m+i else m:Nat):Int) l).2 h.2;rw[Ey,B_,B_,Ij];omega
end
mutual
def zrQ(t:D_):∀(c:n_) (m:Nat),jD m c->∀q,q∈jh t c m->Q_ q.body<=Q_ c/\lN q.k_<=Q_ c
| .mk k n tx is ns ts cs ks,m,h,q,hq=>by
 rw[jD]at h;rw[jh]at hq;rw[Q_];by_cases k4:k=4
 .simp only[aC k4]at hq;cases hq
 by_cases k5:k=5
 .simp only[aB k4,aC k5,aK]at hq;have e:=Gb (h.2.2.2.2.1 k5);have e2:B_ ks=Q_ (ks.getD 0 noC):=by rw[e];simp[B_]
  subst hq;have:=Tn (ks.getD 0 noC) m;simp only;omega
 .simp only[aB k4,aB k5]at hq;have:=zpZ t k k5 ks m 0 h.2.2.2.2.2 q hq;omega
def zpZ(t:D_)(k:Int)(k5:k≠5):∀(c:List n_) (m i:Nat),h? m k c i->∀q,q∈pF t k c i m->Q_ q.body<=B_ c/\lN q.k_<=B_ c
|[],m,i,h,q,hq=>by rw[pF]at hq;cases hq
| c::r,m,i,h,q,hq=>by
 rw[h?,aB k5]at h;rw[pF]at hq;simp only at hq;rw[Ey]at hq;rw[B_];rcases aL.1 hq with hq|hq
 .have:=zrQ t c _ h.1 q hq;omega
 .have:=zpZ t k k5 r m (i+1) h.2 q hq;omega
end
def tJ(f:n_->Nat)(l:og):Nat:=(l.map λx=>f x.body).sum
def Run.wi:∀{i:Nat} {l lf:List D_} {fs:List B?},Run i l fs lf->uh l i->tJ wi fs+nZ l=nZ lf
|_,_,_,_,.done l,_=>by simp[tJ]
|_,_,_,_,.step (l:=l) (t:=t) h r,hI=>by
 have ih:=Run.wi r (hI.next h);let⟨hi,e⟩:=hI.at h;let⟨D,hD,hw,hb,_⟩:=(hI.2.1 _ (aO hi)).ex;rw[e]at hD hw;have e2:t.deep+1=((D+1:Nat):Int):=by rw[hD];omega
 have hc:=zAj t t.body (D+1) l hw;rw[<-e2]at hc;rw[zw3,<-hc]at ih;simp only[tJ,map_cons,List.sum_cons]at ih⊢;omega
def Run.Q_:∀{i:Nat} {l lf:List D_} {fs:List B?},Run i l fs lf->uh l i->tJ Q_ fs<=jH Q_ (l.drop i)
|_,_,_,_,.done l,_=>by simp[tJ]
|_,_,_,_,.step (l:=l) (t:=t) h r,hI=>by
 have ih:=Run.Q_ r (hI.next h);let⟨hi,e⟩:=hI.at h;let⟨D,hD,hw,hb,_⟩:=(hI.2.1 _ (aO hi)).ex;rw[e]at hD hw;have e2:t.deep+1=((D+1:Nat):Int):=by rw[hD];omega
 have hc:=zw5 t t.body (D+1) l hw;rw[<-e2]at hc;rw[bV oM,Ij]at ih;rw[Ng Go.Gr.Q_ hi,e];simp only[tJ,map_cons,List.sum_cons]at ih⊢;omega
def Run.small:∀{i:Nat} {l lf:List D_} {fs:List B?},Run i l fs lf->uh l i->(∀t,t∈l->Go.Gr.Q_ t.body<=B/\lN t.k_<=B)->∀t,t∈lf->Go.Gr.Q_ t.body<=B/\lN t.k_<=B
|_,_,_,_,.done l,_,hl=>hl
| _,_,_,_,.step (l:=l) (t:=t) h r,hI,hl=>by
 refine Run.small r (hI.next h) λq hq=>?_;rcases aL.1 hq with hq|hq
 .exact hl q hq
 .let⟨hi,e⟩:=hI.at h;let⟨D,hD,hw,hb,_⟩:=(hI.2.1 _ (aO hi)).ex;rw[e]at hD hw;have e2:t.deep+1=((D+1:Nat):Int):=by rw[hD];omega
  rw[e2]at hq;have h1:=zrQ t t.body (D+1) hw q hq;have h2:=hl t (e▸aO hi);omega
def zAk:∀{l:List D_},(∀t,t∈l->lN t.k_<=B)->nZ l<=lN l*B
|[],_=>by simp[nZ]
|t::l,h=>by
 have h1:=h t oC;have h2:=zAk (l:=l) λx hx=>h x (by simp[hx]);simp only[nZ,map_cons,List.sum_cons,length_cons]at h2⊢;rw[bF];omega
variable {L:f?}
def xh(l:sP):Prop:=∀m,m∈l->∀d,d∈m.T_->jB d.body
def zrD:∀(l:List (fD × fD)) (i:Nat) (ns:List fD) (ms:List X?) (bad:List l?),xh ms->xh (u6 l i ns ms bad).1.2
|[],i,ns,ms,bad,h=>by rw[u6];exact h
|s::l,i,ns,ms,bad,h=>by
 rw[u6];refine zrD l _ _ _ _ λm hm=>?_;rcases aL.1 hm with hm|hm
 .exact h m hm
 .rw[aK.1 hm];exact zEh s.2
def zww(l:ow):xh (vN l).1.u_:=by
 have h0:xh Em.u_:=λm hm=>by cases hm
 have hg:xh (xN l).1.2:=by
  unfold xN;split
  .intro m hm;cases hm
  .exact zrD l 0 [] [] [] λm hm=>by cases hm
 unfold vN;simp only;repeat' split
 all_goals first|exact h0|exact hg
def zDB(hG:lF L)(hs:xh L.u_){m k:Int}(h:ik L ⟨bs [],m,k⟩):jB (xO L m k).body:=by
 let⟨mn,kn,M,e1,e2,g1,g2,_⟩:=Ib hG.good h;exact hs M (ah g1) _ (ah g2)
section
theorem zKT(hG:lF L)(hs:xh L.u_){x:jc}(hx:ik L ⟨bs [],x.module,x.decl⟩)(s:CS):
  (lN s.sites<=(lL L x s).sites.length/\lN s.n?<=(lL L x s).n?.length/\(lL L x s).v_.length=lN s.v_+1)/\
  ((lL L x s).bad=[]->s.bad=[]/\((lL L x s).sites.length<=M->(lL L x s).n?.length<=G->(∀f,f∈s.v_->V? M G f.body)->∀f,f∈(lL L x s).v_->V? M G f.body)):=by
 have hd:=zDB hG hs hx;have f0:fb (zD L x s)=fb s:=rfl;have k0:(zD L x s).sites=s.sites/\(zD L x s).n?=s.n?:=⟨rfl,rfl⟩
 unfold lL;unfold zD at f0 k0;simp only;generalize xO L x.module x.decl=d at*
 generalize ({s with module:=x.module,vars:=d.vars.map (·.1),V_:=x.types,e:=0}:CS)=s0 at*
 have f1:=Ig (d.types.getD 0 C_) d.line d.t_ s0;have r1:=Gu (M:=M) (G:=G) (d.types.getD 0 C_) d.line d.t_ s0;generalize ig (d.types.getD 0 C_) d.line d.t_ s0=a at*
 have f2:=Ig (d.types.getD 1 C_) d.line d.t_ a.2;have r2:=Gu (M:=M) (G:=G) (d.types.getD 1 C_) d.line d.t_ a.2;generalize ig (d.types.getD 1 C_) d.line d.t_ a.2=b at*
 let⟨T,hT⟩:=oJ (if b.2.e=0 then qh (jO a.1 b.1) d.line d.t_ b.2 else(jO a.1 b.1,b.2));have p3:fb T.2=fb b.2/\pX M G b.2 True T.2:=by
  rw[<-hT];split
  .exact⟨NK _ _ _ _,(O8 _ _ _ _).imp λ_=>trivial⟩
  .exact⟨rfl,.ret trivial⟩
 rw[hT];clear hT;let⟨S,hS⟩:=oJ (if x.module=L.main.module/\x.decl=L.main.decl/\Di (bT 1) a.1=oK then jw d.line d.t_ 14 T.2 else T.2);have p4:fb S=fb T.2/\pX M G T.2 True S:=by
  rw[<-hS];split
  .exact⟨Sc _ _ _ _,.fail oD⟩
  .exact⟨rfl,.ret trivial⟩
 rw[hS];clear hS;have f5:=NN L d.body [(d.param,a.1)] S;have r5:=zAo (M:=M) (G:=G) L d.body hd [(d.param,a.1)] S;generalize iD L d.body [(d.param,a.1)] S=y at*
 have f6:=Sd y.1.1 y.1.2 b.1 d.body.line d.body.t_ y.2;have r6:=FM (M:=M) (G:=G) y.1.1 y.1.2 b.1 d.body.line d.body.t_ y.2;generalize jq y.1.1 y.1.2 b.1 d.body.line d.body.t_ y.2=z at*
 have f:fb z.2=fb s:=by rw[f6,f5,p4.1,p3.1,f2,f1,f0]
 have g1:z.2.v_=s.v_:=dM (·.1) f;have g2:z.2.bad=s.bad:=dM (·.2.1) f;have r:=((r1.bind r2).bind (p3.2.bind p4.2)).bind (r5.bind r6);have r:=r.imp λh=>h.2.2 (h.2.1 λv hv=>by rw[aK.1 hv];exact h.1.1.1).1 (h.2.1 λv hv=>by rw[aK.1 hv];exact h.1.1.1).2 h.1.1.2;rw[<-k0.1,<-k0.2];generalize (if 0<lN x.types then xP x.types 0 (L.a_.getD x.module.toNat (bs [])++bs [46]++d.name)++bs [93]else xP x.types 0 (L.a_.getD x.module.toNat (bs [])++bs [46]++d.name))=nm;split
 .exact⟨⟨r.1.sites,r.1.n?,by simp[g1]⟩,λh=>absurd h oC⟩
 next q=>
  refine⟨⟨r.1.sites,r.1.n?,by simp[g1]⟩,λh=>⟨by rw[<-g2];exact h,λh1 h2 h3 f hf=>?_⟩⟩;have hf:f∈z.2.v_++[(⟨nm,T.1,z.1⟩:jN)]:=hf;rw[g1]at hf;rcases aL.1 hf with hf|hf
  .exact h3 f hf
  .rw[aK.1 hf];exact r.2 (uM q) h1 h2
def VC(hG:lF L)(hs:xh L.u_):∀(n i:Nat) (s:CS),i+n<=257->yz L s i->
 (lN s.sites<=(nG L n i s).sites.length/\lN s.n?<=(nG L n i s).n?.length)/\
 ((nG L n i s).bad=[]->s.bad=[]/\((nG L n i s).sites.length<=M->(nG L n i s).n?.length<=G->(∀f,f∈s.v_->V? M G f.body)->∀f,f∈(nG L n i s).v_->V? M G f.body))/\
 (i+n=257->lN s.v_=i->(nG L n i s).n?.length<=(nG L n i s).v_.length)
|0,i,s,hi,h=>by
 rw[nG];exact⟨⟨aJ _,aJ _⟩,λe=>⟨e,λ_ _ h=>h⟩,λe1 e2=>by have:=h.n?;omega⟩
| n+1,i,s,hi,h=>by
 rw[nG];split
 next q=>
  have hm:s.n?.getD i ⟨0,0,[]⟩∈s.n?:=by
   rw[aH,aA q];exact aO q
  have h1:=h.ist _ hm;have k:=zKT (M:=M) (G:=G) hG hs h1.1 s;have r:=VC hG hs n (i+1) _ oM (NP hG h1.1 h1.2 oM h);refine⟨⟨aX k.1.1 r.1.1,aX k.1.2.1 r.1.2⟩,λe=>?_,λe1 e2=>r.2.2 oM (by rw[k.1.2.2];omega)⟩;have r2:=r.2.1 e;have k2:=k.2 r2.1;exact⟨k2.1,λa b hf=>r2.2 a b (k2.2 (aX r.1.1 a) (aX r.1.2 b) hf)⟩
 next q=>
  exact⟨⟨aJ _,aJ _⟩,λe=>⟨e,λ_ _ h=>h⟩,λe1 e2=>by omega⟩
end
def zwy(hG:lF L):∀(n i:Nat) (s:CS),i+n<=257->yz L s i->(nG L n i s).sites.length<=1000000000
|0,i,s,hi,h=>by rw[nG];have:=h.sites;omega
| n+1,i,s,hi,h=>by
 rw[nG];split
 next q=>
  have hm:s.n?.getD i ⟨0,0,[]⟩∈s.n?:=by
   rw[aH,aA q];exact aO q
  have h1:=h.ist _ hm;exact zwy hG n (i+1) _ oM (NP hG h1.1 h1.2 oM h)
 .have:=h.sites;omega
structure xk (p:lC):Prop where
 good:wE p
 ok:∀f,f∈p.v_->V? (lN p.sites) (lN p.v_) f.body
 sites:lN p.sites<=1000000000
def zDC{M G G':Nat}(h:G<=G'):∀(n:Nat) (c:n_),Q_ c<=n->V? M G c->V? M G' c
|0,.mk _ _ _ _ _ _ _ ks,e,_=>by rw[Q_]at e;omega
| n +1,.mk k _ _ _ ns ts _ ks,e,hc=>by
 rw[Q_]at e;rw[V?]at hc⊢;refine⟨⟨?_,hc.1.2⟩,?_⟩
 .have:=hc.1.1;unfold lH at this⊢;rcases this with h|h|h|h|h|h|h|h|h|h
  .exact .inl h
  .exact .inr (.inl h)
  .exact .inr (.inr (.inl oM))
  .exact .inr (.inr (.inr (.inl h)))
  .exact .inr (.inr (.inr (.inr (.inl h))))
  .exact .inr (.inr (.inr (.inr (.inr (.inl h)))))
  .exact .inr (.inr (.inr (.inr (.inr (.inr (.inl h))))))
  .exact .inr (.inr (.inr (.inr (.inr (.inr (.inr (.inl h)))))))
  .exact .inr (.inr (.inr (.inr (.inr (.inr (.inr (.inr (.inl h))))))))
  .exact .inr (.inr (.inr (.inr (.inr (.inr (.inr (.inr (.inr h))))))))
 .have key:∀l:List n_,B_ l<=n->G? M G l->G? M G' l:=λl=>by
   induction l with
   |nil=>intro _ _;trivial
   |cons c l ih=>
    intro e h;rw[B_]at e;rw[G?]at h⊢;exact⟨zDC (by assumption) n c oM h.1,ih oM h.2⟩
  exact key ks oM hc.2
def LK{l:ow}(h:(uH l).2=tT):xk (uH l).1:=by
 have hg:=zvQ l;unfold uH at h hg⊢;split at h
 .cases h
 rename_i q1;rw[aB q1]at hg⊢;simp only at h hg⊢;split at h
 .cases h
 rename_i q2;rw[aB q2]at hg⊢;have hG:=K7 l oM;have hs:=zww l;generalize (vN l).1=L at*
 have h0:=NQ L.u_ 0 cs0 oC (Tj L);have hf0:(nE L L.u_ 0 cs0).1.v_=[]:=by rw[Ki];try rfl
 unfold Cm at h hg⊢;simp only at h hg⊢;by_cases q3:0<(nE L L.u_ 0 cs0).2.length
 .rw[aC q3]at h;simp at h;rw[h]at q3;simp at q3
 rw[aB q3]at h hg⊢;by_cases q4:0<(nG L 257 0 (nE L L.u_ 0 cs0).1).bad.length
 .rw[aC q4]at h;simp at h;rw[h]at q4;simp at q4
 rw[aB q4]at h hg⊢;have hb:(nG L 257 0 (nE L L.u_ 0 cs0).1).bad=[]:=aW.1 oM;have hk:=VC (M:=(nG L 257 0 (nE L L.u_ 0 cs0).1).sites.length) (G:=(nG L 257 0 (nE L L.u_ 0 cs0).1).n?.length) hG hs 257 0 _ oM h0;have ht:=zwy hG 257 0 _ oM h0;refine⟨hg,λf hf=>?_,ht⟩;have hl:=hk.2.2 oM (by rw[hf0];rfl);exact zDC hl _ _ (aJ _) ((hk.2.1 hb).2 (aJ _) (aJ _) (λf hf=>by rw[hf0]at hf;cases hf) f hf)
end Go.Gr
