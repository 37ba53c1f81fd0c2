/- Texts of ours, joined and written short by a program of ours. -/
import Derived.Test.YtlfjlokfciejnaaGreatDoorFJ15
import Derived.Test.YtlfjlokfciejnaaGreatDoorFJ12
import Derived.Test.YtlfjlokfciejnaaGreatDoorFJ08
import Derived.Test.YtlfjlokfciejnaaGreatDoorFJ13
set_option maxRecDepth 20000
set_option maxHeartbeats 4000000
set_option linter.unusedVariables false
set_option linter.unusedSimpArgs false
namespace Go.Gr
open Go.Abs Go.Proofs List
theorem OM(a b:fE):Dr a b=true↔jl a b:=by unfold Dr;rw[zb5];exact decide_eq_true_iff
theorem Xx{s:fE}:∀{ns:List fE},(∀n,n∈ns->jl n s)->jU s ns=ns.length
|[],_=>rfl
|n::l,h=>by rw[jU,aC ((OM _ _).2 (h n (by simp))),Xx λx hx=>h x (by simp[hx])];rfl
theorem Xy{s:fE}:∀{ns:List fE},ns.Pairwise jl->ns[jU s ns]?≠some s->(∀x,x∈ns.take (jU s ns)->jl x s)/\∀x,x∈ns.drop (jU s ns)->jl s x
|[],_,_=>by simp[jU]
| n::l,hp,h=>by
 have hp':=bK.1 hp;rw[jU]at h⊢;by_cases q:Dr n s=true
 ·rw[aC q]at h⊢;have i:=Xy hp'.2 (by simpa using h);refine⟨λx hx=>?_,λx hx=>i.2 x (by simpa using hx)⟩;rw[take_succ_cons]at hx;rcases aN.1 hx with rfl|hx
  ·exact(OM _ _).1 q
  ·exact i.1 x hx
 ·rw[aB q]at h⊢;have hne:n≠s:=λe=>h (by simp[e]);have hs:jl s n:=(EF hne).resolve_left λe=>q ((OM _ _).2 e);refine⟨λx hx=>(by simp at hx),λx hx=>?_⟩;rw[drop_zero]at hx;rcases aN.1 hx with rfl|hx
  ·exact hs
  ·exact zY hs (hp'.1 x hx)
theorem zlO{s:fE}{ns:List fE}(hp:ns.Pairwise jl)(h:ns[jU s ns]?≠some s):(ns.take (jU s ns)++s::ns.drop (jU s ns)).Pairwise jl:=by
 have i:=Xy hp h;have hp':=hp;rw[<-dI (jU s ns) ns]at hp';have hp':=dD.1 hp';refine dD.2 ⟨hp'.1,bK.2 ⟨i.2,hp'.2.1⟩,λx hx y hy=>?_⟩;rcases aN.1 hy with rfl|hy
 ·exact i.1 x hx
 ·exact zY (i.1 x hx) (i.2 y hy)
theorem Xz:∀(ss:List fE) (ts:List gT) (ns:List fE) (ks:List gT),ns.Pairwise jl->(jw ss ts ns ks).1.1.Pairwise jl
|[],ts,ns,ks,h=>by rw[jw];exact h;all_goals (intros;contradiction)
|s::ss,[],ns,ks,h=>by rw[jw];exact h;all_goals (intros;contradiction)
| s::ss,t::ts,ns,ks,h=>by
 rw[jw];split
 ·exact h
 ·rename_i q;exact Xz ss ts _ _ (zlO h λe=>q (.inr e))
theorem GM:∀a b:List gT,jF (a++b)=jF a+jF b
|[],b=>by simp[jF]
|t::a,b=>by rw[cons_append,jF,jF,GM a b];omega
theorem YA:∀(ss:List fE) (ts:List gT) (ns:List fE) (ks:List gT),jF (jw ss ts ns ks).1.2<=jF ks+jF ts
|[],ts,ns,ks=>by rw[jw];exact eP _ _;all_goals (intros;contradiction)
|s::ss,[],ns,ks=>by rw[jw];exact eP _ _;all_goals (intros;contradiction)
| s::ss,t::ts,ns,ks=>by
 rw[jw];split
 ·exact eP _ _
 ·have i:=YA ss ts (ns.take (jU s ns)++s::ns.drop (jU s ns)) (ks.take (jU s ns)++t::ks.drop (jU s ns));have e:=GM (ks.take (jU s ns)) (ks.drop (jU s ns));rw[dI]at e;rw[GM,jF]at i;rw[jF];omega
theorem YB:∀(ss:List fE) (ts:List gT) (ns:List fE) (ks:List gT),ss.length=ts.length->ns.length=ks.length->(ns++ss).Pairwise jl->(∀x,x∈ss->mY x=true)->jw ss ts ns ks=((ns++ss,ks++ts),true)
|[],ts,ns,ks,h0,_,_,_=>by
 cases ts with
 |nil=>rw[jw,bL,bL];all_goals (intros;contradiction)
 |cons _ _=>simp at h0
|s::ss,[],ns,ks,h0,_,_,_=>by simp at h0
| s::ss,t::ts,ns,ks,h0,h1,h2,h3=>by
 have hp:=Xx (s:=s) (ns:=ns) λn hn=>(dD.1 h2).2.2 n hn s (by simp);rw[jw,hp,aB]
 ·rw[bO,aO,h1,bO,aO,YB ss ts _ _ (by simpa using h0) (by simp[h1]) (by simpa using h2) λx hx=>h3 x (by simp[hx])];simp
 ·rw[h3 s (by simp)];simp
theorem OO{l:List gT}{B:Nat}(h:∀x,x∈l->jE x<=B):ja l<=B:=by
 induction l with
 |nil=>simp[ja]
 |cons t l ih=>
  rw[ja];have:=h t (by simp);have:=ih λx hx=>h x (by simp[hx]);omega
theorem YC(tag:Int)(l:List gT)(ks:List gT):(jV tag l false ks).1.2=ks\/∃x,x∈l/\iH x=tag/\(jV tag l false ks).1.2=ks++[x]:=by
 have hT:∀(l:List gT) (ks:List gT),(jV tag l true ks).1.2=ks:=λl=>by
  induction l with
  |nil=>intro ks;rfl
  | cons x l ih=>
   intro ks;rw[jV];split
   ·rfl
   split
   ·exact ih ks
   ·simp only[if_true];split
    ·exact ih ks
    ·rfl
 induction l with
 |nil=>exact .inl rfl
 | cons x l ih=>
  rw[jV];split
  ·exact .inl rfl
  split
  ·rcases ih with h|⟨y,h1,h2,h3⟩
   ·exact .inl h
   ·exact .inr ⟨y,by simp[h1],h2,h3⟩
  ·rename_i q;refine .inr ⟨x,by simp,Decidable.not_not.1 q,?_⟩;simp only[aa,if_false];split
   ·exact hT l _
   ·rfl
theorem YD(p q:gT->Bool)(h:∀x,¬(p x=true/\q x=true)):∀l:List gT,jF (l.filter p)+jF (l.filter q)<=jF (l.filter λx=>p x||q x)
|[]=>by simp[jF]
|x::l=>by
 have i:=YD p q h l;have hx:=h x;simp only[dS];cases hp:p x<;>cases hq:q x
 ·simpa using i
 ·simp[jF];omega
 ·simp[jF];omega
 ·exact absurd ⟨hp,hq⟩ hx
theorem OP(p:gT->Bool):∀l:List gT,jF (l.filter p)<=jF l
|[]=>by simp[jF]
|x::l=>by
 have i:=OP p l;simp only[dS];split
 ·rw[jF,jF];omega
 ·rw[jF];omega
theorem YE(all:List gT):∀(l:List Int) (ks:List gT),l.Nodup->jF (qO all l ks).1<=jF ks+jF (all.filter λx=>decide (iH x∈l))
|[],ks,_=>by rw[qO];exact eP _ _
| tag::l,ks,hn=>by
 have hn':=bV.1 hn;have hf:=YD (λx=>decide (iH x=tag)) (λx=>decide (iH x∈l)) (λx ⟨a,b⟩=>hn'.1 (by simp only[aI]at a b;rw[<-a];exact b)) all;have he:(λx=>decide (iH x=tag)||decide (iH x∈l))=λx:gT=>decide (iH x∈tag::l):=by
  funext x;rw[<-Bool.decide_or];simp only[aN]
 rw[he]at hf;have h1:jF (jV tag all false ks).1.2<=jF ks+jF (all.filter λx=>decide (iH x=tag)):=by
  rcases YC tag all ks with h|⟨x,h1,h2,h3⟩
  ·rw[h];omega
  ·rw[h3,GM];have:=M3 (l:=all.filter λx=>decide (iH x=tag)) (x:=x) (bD.2 ⟨h1,by simpa using h2⟩);simp only[jF];omega
 rw[qO];split
 ·have i:=YE all l (jV tag all false ks).1.2 hn'.2;omega
 ·simp only;omega
theorem YF(all:List gT):∀(l:List Int) (ks:List gT),l.Pairwise (· < ·)->(ks.map iH).Pairwise (· < ·)->(∀x,x∈ks->∀t,t∈l->iH x<t)->((qO all l ks).1.map iH).Pairwise (· < ·)
|[],ks,_,h,_=>by rw[qO];exact h
| tag::l,ks,hl,h,hk=>by
 have hl':=bK.1 hl;have h1:((jV tag all false ks).1.2.map iH).Pairwise (· < ·)/\∀x,x∈(jV tag all false ks).1.2->∀t,t∈l->iH x<t:=by
  rcases YC tag all ks with e|⟨x,h1,h2,h3⟩
  ·rw[e];exact⟨h,λx hx t ht=>hk x hx t (by simp[ht])⟩
  ·rw[h3];refine⟨?_,λy hy t ht=>?_⟩
   ·rw[map_append];refine dD.2 ⟨h,by simp,λa ha b hb=>?_⟩;obtain⟨z,hz,rfl⟩:=ae.1 ha;simp only[map_cons,map_nil,aL]at hb;rw[hb,h2];exact hk z hz tag (by simp)
   ·rcases aQ.1 hy with hy|hy
    ·exact hk y hy t (by simp[ht])
    ·rw[aL.1 hy,h2];exact hl'.1 t ht
 rw[qO];split
 ·exact YF all l _ hl'.2 h1.1 h1.2
 ·exact h1.1
theorem YG:∀l:List gT,jF (l.flatMap iX)<=jF l
|[]=>by simp[jF]
| t::l=>by
 rw[flatMap_cons,GM,jF];have:=YG l;have:jF (iX t)<=jK t:=by
  unfold iX;split
  ·cases t;rw[jK];simp only[gT.kids];omega
  ·simp[jF]
 omega
theorem zmO{l:List gT}{x:gT}(h:x∈l.flatMap iX):jE x<=ja l:=by
 obtain⟨t,ht,hx⟩:=eO.1 h;have h1:=BQ ht;unfold iX at hx;split at hx
 ·have:=wP hx;omega
 ·rw[aL.1 hx];exact h1
theorem znM(k:Int)(s:List fE)(l:List gT)(hl:∀x,x∈l->oI x)(hk:5<=k/\k<=7)(h:(nz k s l).2=true):oI (nz k s l).1/\jK (nz k s l).1<=jF l+1/\jE (nz k s l).1<=ja l+1:=by
 unfold nz at h⊢;by_cases k5:k=5
 ·rw[aC k5]at h⊢;unfold yV at h⊢;by_cases q:s.length≠l.length\/16<s.length
  ·rw[aC q]at h;cases h
  rw[aB q]at h⊢;have i:=MV s l [] [] (by omega) rfl (by simp) h;have hc:=YA s l [] [];have hmem:∀x,x∈(jw s l [] []).1.2->x∈l:=λx hx=>by
   rcases i.2.2.2 x hx with hx|hx
   ·cases hx
   ·exact hx
  refine⟨(wV _).2 ⟨Xz _ _ _ _ (by simp),λe=>absurd e (by simp only[gT.kind];decide),λx hx=>hl x (hmem x hx)⟩,?_,?_⟩
  ·rw[jK];simp only[jF]at hc;omega
  ·rw[jE];have:=OO (l:=(jw s l [] []).1.2) (B:=ja l) λx hx=>BQ (hmem x hx);omega
 rw[aB k5]at h⊢;by_cases k6:k=6
 ·rw[aC k6]at h⊢;exact⟨(wV _).2 ⟨by simp[gT.names],λe=>absurd e (by simp only[gT.kind];decide),hl⟩,by rw[jK];omega,by rw[jE];omega⟩
 rw[aB k6]at h⊢;unfold zJ at h⊢;have hm:=I6 (l.flatMap iX) [0,1,2,3,4,5] [];have hr:=YF (l.flatMap iX) [0,1,2,3,4,5] [] (by decide) (by simp) (by simp);have hc:=YE (l.flatMap iX) [0,1,2,3,4,5] [] (by decide);have hc2:=OP (λx=>decide (iH x∈([0,1,2,3,4,5]:List Int))) (l.flatMap iX);have hc3:=YG l;simp only at h⊢;generalize qO (l.flatMap iX) [0,1,2,3,4,5] []=r at*
 have hw:∀y,y∈r.1->oI y/\jE y<=ja l:=λy hy=>by
  rcases hm y hy with q|⟨q1,q2⟩
  ·cases q
  ·refine⟨?_,zmO q1⟩;obtain⟨t,ht,hx⟩:=eO.1 q1;unfold iX at hx;split at hx
   ·exact((wV t).1 (hl t ht)).2.2 y hx
   ·rw[aL.1 hx];exact hl t ht
 have hcnt:jF r.1<=jF l:=by simp only[jF]at hc;omega
 by_cases q:r.2=true
 ·rw [aC q]at h⊢;split
  ·rename_i x e;have:=hw x (by rw[e];simp);refine⟨this.1,?_,by simp only;omega⟩;rw[e]at hcnt;simp only[jF]at hcnt⊢;omega
  ·rename_i L e;have hlen:2<=r.1.length:=by
    split at h
    ·rename_i x e';exact absurd e' (e x)
    ·simp only[aI]at h
     match hr1:r.1,h,e with
     |[],h,_=>simp at h
     |[x],_,e=>exact absurd rfl (e x)
     |_::_::_,_,_=>simp
   refine⟨(wV _).2 ⟨by simp[gT.names],λ_=>⟨hr,hlen⟩,λx hx=>(hw x hx).1⟩,by simp only;rw[jK];omega,?_⟩;simp only;rw[jE];have:=OO (l:=r.1) (B:=ja l) λx hx=>(hw x hx).2;omega
 ·rw[aB q]at h;cases h
mutual
theorem OQ:∀t:gT,(lW t).2=true->oI (lW t).1/\jK (lW t).1<=jK t/\jE (lW t).1<=jE t
| .mk k n s l,h=>by
 rw[lW]at h⊢;by_cases q:5<=k/\k<=7
 ·rw[aC q]at h⊢;by_cases q2:(kQ l).2=true
  ·rw[aC q2]at h⊢;have i:=YH l q2;have f:=znM k s _ i.1 q h;rw[jK,jE];exact⟨f.1,by omega,by omega⟩
  ·rw[aB q2]at h;cases h
 ·rw[aB q]at h⊢;by_cases q2:0<=k/\k<=4
  ·rw[aC q2];exact⟨(NF.base k q2.1 q2.2).2,by rw[jK];simp[bT,jK,jF],by rw[jE];simp[bT,jE,ja]⟩
  ·rw[aB q2]at h;cases h
theorem YH:∀l:List gT,(kQ l).2=true->(∀x,x∈(kQ l).1->oI x)/\jF (kQ l).1<=jF l/\ja (kQ l).1<=ja l
|[],_=>by rw[kQ];exact⟨λx hx=>(by cases hx),aM _,aM _⟩
| t::l,h=>by
 rw[kQ]at h⊢;by_cases q:(lW t).2=true
 ·rw[aC q]at h⊢;have a:=OQ t q;have b:=YH l h;refine⟨λx hx=>?_,by rw[jF,jF];omega,by rw[ja,ja];omega⟩;rcases aN.1 hx with rfl|hx
  ·exact a.1
  ·exact b.1 x hx
 ·rw[aB q]at h;cases h
end
theorem Bf{t:gT}(h:iC t=true):NF t:=by
 have e:=FM.1 h;have f:=FL e.1;refine⟨zR h,?_⟩;rw[<-e.2,f.2.2.2];exact(OQ t f.1).1
mutual
theorem YI:∀(t:gT) (m:Int),nN t m<=jK t
|.mk k n s l,m=>by
 rw[nN,jK];have:=YJ l m 1;omega
theorem YJ:∀(l:List gT) (m n:Int),qA l m n<=n+jF l
|[],m,n=>by rw[qA,jF];omega
| t::l,m,n=>by
 rw[qA,jF];split
 ·have a:=YI t (m-n);have b:=YJ l m (n+nN t (m-n));omega
 ·omega
end
theorem YK(f:gT->Int)(B:Int):∀(l:List gT) (h:Int),0<=h->h<=B->(∀x,x∈l->f x=min B (jE x))->l.foldl (λh k=>if h<f k then f k else h) h=max h (min B (ja l))
|[],h,h0,hB,_=>by simp only[foldl_nil,ja];omega
|t::l,h,h0,hB,hf=>by
 have ht:=hf t (by simp);rw[foldl_cons,YK f B l _ (by split<;>omega) (by split<;>omega) λx hx=>hf x (by simp[hx]),ht,ja];split<;>omega
theorem YL:∀(n:Nat) (t:gT),nW (n+1) t=min ((n:Int)+1) (jE t)
|0,t=>by rw[nW];have:=zS t;omega
|n+1,t=>by
 rw[nW,YK _ ((n:Int)+1) t.kids 0 (by omega) (by omega) λx _=>YL n x];have:jE t=ja t.kids+1:=by cases t;rw[jE];try rfl
 rw[this];omega
theorem OT(t:gT):nW 17 t=min (17:Int) (jE t):=by rw[YL 16 t];try rfl
theorem zE7{l:List gT}(h:∀x,x∈l->x.kind≠7):l.flatMap iX=l:=by
 induction l with
 |nil=>rfl
 |cons t l ih=>rw[flatMap_cons,ih λx hx=>h x (by simp[hx])];unfold iX;rw[aB (h t (by simp))];try rfl
theorem YM(tag:Int):∀(l:List gT) (had:Bool) (ks:List gT),(∀x,x∈l->x.kind≠0/\iH x≠tag)->jV tag l had ks=((had,ks),true)
|[],had,ks,_=>rfl
|x::l,had,ks,h=>by
 rw[jV,aB (h x (by simp)).1,aC (h x (by simp)).2];exact YM tag l had ks λy hy=>h y (by simp[hy])
theorem YN(tag:Int):∀(l:List gT) (ks:List gT),(l.map iH).Pairwise (· < ·)->(∀x,x∈l->x.kind≠0)->(jV tag l false ks).1.2=ks++l.filter (λx=>decide (iH x=tag))/\(jV tag l false ks).2=true
|[],ks,_,_=>⟨by simp[jV],rfl⟩
| x::l,ks,hp,h0=>by
 rw[map_cons]at hp;have hp':=bK.1 hp;rw[jV,aB (h0 x (by simp))];by_cases q:iH x=tag
 ·have hno:∀y,y∈l->y.kind≠0/\iH y≠tag:=λy hy=>⟨h0 y (by simp[hy]),λe=>by have:=hp'.1 (iH y) (ae.2 ⟨y,hy,rfl⟩);omega⟩
  have hf:l.filter (λx=>decide (iH x=tag))=[]:=di.2 λy hy=>by simpa using (hno y hy).2
  rw[aB (by simpa using q)];have hs:kg x ((ks++[x]).getLastD noT)=true:=by
   rw[getLastD_concat];exact ML x
  simp only[aa,if_false];rw[aC hs,YM tag l true _ hno];simp[q,hf]
 ·rw[aC q];have i:=YN tag l ks hp'.2 λy hy=>h0 y (by simp[hy]);rw[i.1];exact⟨by simp[q],i.2⟩
theorem YO(all:List gT)(hp:(all.map iH).Pairwise (· < ·))(h0:∀x,x∈all->x.kind≠0):∀(l:List Int) (ks:List gT),qO all l ks=(ks++l.flatMap λt=>all.filter λx=>decide (iH x=t),true)
|[],ks=>by rw[qO];simp
|t::l,ks=>by
 have i:=YN t all ks hp h0;rw[qO,aC i.2,YO all hp h0 l,i.1];simp
theorem JN:∀(l:List Int) (all:List gT),l.Pairwise (· < ·)->(all.map iH).Pairwise (· < ·)->(∀x,x∈all->iH x∈l)->(l.flatMap λt=>all.filter λx=>decide (iH x=t))=all
|[],all,_,_,h=>by
 cases all with
 |nil=>rfl
 |cons x l=>exact absurd (h x (by simp)) (by simp)
| t ::l,all,hl,hp,h=>by
 have hl':=bK.1 hl;have skip:∀x:gT,iH x=t->∀r:List gT,(l.flatMap λt=>(x::r).filter λy=>decide (iH y=t))=l.flatMap λt=>r.filter λy=>decide (iH y=t):=λx hx r=>by
  rw[flatMap_def,flatMap_def];congr 1;refine bW λu hu=>?_;have:=hl'.1 u hu;rw[dS,aB (by simp only[aI];omega)]
 rw[flatMap_cons];cases all with
 |nil=>rw[JN l [] hl'.2 (by simp) (by simp)];rfl
 | cons x r=>
  rw[map_cons]at hp;have hp':=bK.1 hp;have gt:∀y,y∈r->iH x<iH y:=λy hy=>hp'.1 _ (ae.2 ⟨y,hy,rfl⟩);by_cases q:iH x=t
  ·have hf:r.filter (λx=>decide (iH x=t))=[]:=di.2 λy hy=>by have:=gt y hy;simp only[aI];omega
   rw[dS,aC (by simpa using q),hf,skip x q r,JN l r hl'.2 hp'.2 λy hy=>?_]
   ·rfl
   ·have:=gt y hy;rcases aN.1 (h y (by simp[hy]))with e|e
    ·omega
    ·exact e
  ·have hx:iH x∈l:=(aN.1 (h x (by simp))).resolve_left q;have hxt:=hl'.1 _ hx;have hf:(x::r).filter (λx=>decide (iH x=t))=[]:=di.2 λy hy=>by
    simp only[aI];rcases aN.1 hy with rfl|hy
    ·exact q
    ·have:=gt y hy;omega
   rw[hf,JN l (x::r) hl'.2 (by rw[map_cons];exact hp) λy hy=>?_]
   ·rfl
   ·refine(aN.1 (h y hy)).resolve_left λe=>?_;rcases aN.1 hy with rfl|hy
    ·exact q e
    ·have:=gt y hy;omega
theorem zGH{t:gT}(h:NF t)(hk:5<=t.kind/\t.kind<=7):nz t.kind t.names t.kids=(t,true):=by
 have ho:=(wV t).1 h.2;have hw:=(ll t).1 h.1;have eta:∀t:gT,t=.mk t.kind t.name t.names t.kids:=λt=>by cases t;rfl
 have e:=eta t;rw[hw.1]at e;unfold nz;rcases hw.2.2 with⟨a,b,_⟩|⟨a,b,c,d⟩|⟨a,b,c⟩|⟨a,b,c,d⟩
 ·omega
 ·rw[aC a];unfold yV;rw[aB (by omega),YB t.names t.kids [] [] b rfl (by simpa using ho.1) d];simp only[nil_append];rw[<-a,<-e]
 ·rw[aB (by omega),aC a,c];rw[a,b]at e;rw[<-e];try rfl
 ·rw[aB (by omega),aB (by omega)];have h2:=ho.2.1 a;have hm:=zE7 (l:=t.kids) λx hx=>by have:=d x hx;omega
  have h0:∀x,x∈t.kids->x.kind≠0:=λx hx=>by have:=d x hx;omega
  have ht:∀x,x∈t.kids->iH x∈([0,1,2,3,4,5]:List Int):=λx hx=>by
   have:=d x hx;have:=(OJ (h.kid hx).1 (by omega) (by omega)).1;simp only[aN,dE,eY];omega
  unfold zJ;rw[hm,YO t.kids h2.1 h0,nil_append,JN _ _ (by decide) h2.1 ht];simp only[if_true];rw[a,b]at e;split
  ·rename_i x q;rw[q]at h2;exact absurd h2.2 (by simp)
  ·rw[<-e];simp;omega
mutual
theorem YP:∀t:gT,NF t->lW t=(t,true)
| .mk k n s l,h=>by
 have hl:=YQ l λx hx=>h.kid hx;rw[lW];by_cases q:5<=k/\k<=7
 ·rw[aC q,hl,aC rfl];exact zGH h q
 ·rw[aB q];rcases((ll _).1 h.1).2.2 with⟨a,b,c,d⟩|⟨a,_⟩|⟨a,_⟩|⟨a,_⟩
  ·have hn:=((ll _).1 h.1).1;simp only[gT.kind,gT.names,gT.kids,gT.name]at a b c d hn;rw[aC ⟨a,b⟩,c,d,hn];try rfl
  all_goals simp only[gT.kind]at a;omega
theorem YQ:∀l:List gT,(∀x,x∈l->NF x)->kQ l=(l,true)
|[],_=>by rw[kQ]
|t::l,h=>by
 have a:=YP t (h t (by simp));have b:=YQ l λx hx=>h x (by simp[hx]);rw[kQ,a,b,aC rfl]
end
theorem Cv{t:gT}(h:NF t)(hc:jK t<=200)(hd:jE t<=16):iC t=true:=by
 have a:=YI t 201;have b:=OT t;rw[FM];unfold mE;rw[aB (by omega),YP t h,aC rfl];exact⟨rfl,rfl⟩
theorem GN{t:gT}(h:iC t=true):jE t<=16:=by
 have e:=(FL (FM.1 h).1).2.2.1;have b:=OT t;omega
theorem JO{t:gT}(h:(mE t).2=0):iC (mE t).1=true:=by
 have f:=FL h;have o:=OQ t f.1;have b:=OT t;have c:=MZ t 201 (by omega);rw[f.2.2.2];exact Cv ⟨MW t f.1,o.1⟩ (by omega) (by omega)
theorem JP{t x:gT}(h:iC t=true)(hx:x∈t.kids):iC x=true:=by
 have a:=FN h;have b:=GN h;have c:=wP hx;have d:jK x<jK t:=by
  cases t;rw[jK];have:=M3 hx;simp only[gT.kids]at this;omega
 exact Cv ((Bf h).kid hx) (by omega) (by omega)
theorem wW(k:Int)(h0:0<=k)(h4:k<=4):iC (bT k)=true:=Cv (NF.base k h0 h4) (by simp[bT,jK,jF]) (by simp[bT,jE,ja])
theorem zb:iC noT=true:=wW 0 (by omega) (by omega)
theorem YR:iC (bT 5)=true:=Cv NF.bt5 (by simp[bT,jK,jF]) (by simp[bT,jE,ja])
theorem zGI:iC (kM noT noT)=true:=Cv (NF.fn NF.no NF.no) (by decide) (by decide)
theorem zGJ{s:fE}(h:mY s=true):iC (.mk 5 (bs []) [s] [noT])=true:=
 Cv ⟨(ll _).2 ⟨rfl,λx hx=>by rw[aL.1 hx];exact rA,.inr (.inl ⟨rfl,rfl,by simp[gT.names],λx hx=>by rw[aL.1 hx];exact h⟩)⟩,by simp[oI,Ak];exact NF.no.2⟩ (by simp[jK,jF,noT]) (by simp[jE,ja,noT])
theorem zDP{t:gT}(h:iC t=true)(k:fE):iC (kH t k).1=true:=by
 rcases((Bf h).field k).2 with e|e
 ·exact JP h e
 ·rw[e];exact zb
theorem zGK{a b:gT}(ha:iC a=true)(hb:iC b=true):iC (yX a b)=true:=by
 unfold yX;split
 ·exact hb
 split
 ·exact ha
 split
 ·exact zb
 split
 ·exact zb
 ·split
  ·rename_i h;exact JO h
  ·exact zb
theorem zDQ(p:gT->Bool)(l:List gT):jF (l.filter p)<=jF l:=OP p l
theorem zDR{t:gT}(h:iC t=true)(tag:Int):iC (vN t tag).1=true/\iC (vN t tag).2=true:=by
 unfold vN;split
 ·exact⟨h,h⟩
 rename_i q;split
 ·split
  ·exact⟨h,h⟩
  ·rename_i q5;by_cases q4:tag=4
   ·subst q4;exact⟨YR,h⟩
   ·exact⟨wW _ (by omega) (by omega),h⟩
 rename_i h0;split
 ·exact⟨h,h⟩
 rename_i hp;split
 ·exact⟨h,h⟩
 rename_i h7;have h7:t.kind=7:=by omega
 have hm:=(Dy (l:=kW t) (tag:=tag) (by simpa using hp)).1;have hk:(jy (kW t) tag).1.t∈t.kids:=by
  unfold kW at hm⊢;rw[aB h0,aB (by omega)]at hm⊢;obtain⟨x,hx,e⟩:=ae.1 hm;rw[<-e];exact hx
 have n1:=JP h hk;have hsub:∀x,x∈t.kids.filter (λk=>decide (iH k≠tag))->x∈t.kids:=λx hx=>(bD.1 hx).1;split
 ·rename_i r e;exact⟨n1,JP h (hsub r (by rw[e];simp))⟩
 ·rename_i L e;refine⟨n1,?_⟩;have nf:=Bf h;have hw:=(ll t).1 nf.1;have ho:=((wV t).1 nf.2).2.1 h7;have hw7:t.kids.length<=6/\∀x,x∈t.kids->1<=x.kind/\x.kind<=6:=by
   rcases hw.2.2 with⟨_,a,_⟩|⟨a,_⟩|⟨a,_⟩|⟨_,_,a,b⟩
   ·omega
   ·omega
   ·omega
   ·exact⟨a,b⟩
  have hlen:2<=(t.kids.filter λk=>decide (iH k≠tag)).length:=by
   have hpos:0<(t.kids.filter λk=>decide (iH k≠tag)).length:=by
    match hl:t.kids,ho with
    |[],ho=>exact absurd ho.2 (by simp)
    |[_],ho=>exact absurd ho.2 (by simp)
    |a::b::r,ho=>
     have hab:=(bK.1 ho.1).1 (iH b) (by simp);by_cases qa:iH a=tag
     ·exact length_pos_of_mem (a:=b) (bD.2 ⟨by simp,by simp only[aI];omega⟩)
     ·exact length_pos_of_mem (a:=a) (bD.2 ⟨by simp,by simpa using qa⟩)
   match hf:t.kids.filter (λk=>decide (iH k≠tag)),hpos,e with
   |[],hp,_=>simp at hp
   |[x],_,e=>exact absurd rfl (e x)
   |_::_::_,_,_=>simp
  have hc:=zDQ (λk=>decide (iH k≠tag)) t.kids;have hle:=bS (λk=>decide (iH k≠tag)) t.kids;have c1:=FN h;have c2:=GN h;have e1:jK t=jF t.kids+1:=by cases t;rw[jK];try rfl
  have e2:jE t=ja t.kids+1:=by cases t;rw[jE];try rfl
  have hd:=OO (l:=t.kids.filter λk=>decide (iH k≠tag)) (B:=ja t.kids) λx hx=>BQ (hsub x hx);refine Cv ⟨(ll _).2 ⟨rfl,λx hx=>(nf.kid (hsub x hx)).1,.inr (.inr (.inr ⟨rfl,rfl,?_,λx hx=>hw7.2 x (hsub x hx)⟩))⟩,(wV _).2 ⟨by simp[gT.names],λ_=>⟨?_,hlen⟩,λx hx=>(nf.kid (hsub x hx)).2⟩⟩ (by simp only;rw[jK];omega) (by simp only;rw[jE];omega)
  ·show(t.kids.filter _).length<=6;omega
  ·show((t.kids.filter _).map iH).Pairwise _;exact ho.1.sublist (List.filter_sublist.map iH)
theorem zCh{t:gT}{vars:List fE}{wth:List gT}(h:(qX t vars wth).2=0):iC (qX t vars wth).1=true:=by
 unfold qX at h⊢;split
 ·rename_i q;rw[aC q]at h;cases h
 rename_i q;rw[aB q]at h;split
 ·rename_i q;rw[aC q]at h;cases h
 rename_i q;rw[aB q]at h;split
 ·rename_i q;rw[aC q]at h;exact JO h
 ·rename_i q;rw[aB q]at h;cases h
mutual
def kD:gp->Prop
|.mk k tx n _ _ _ _ ks=>(k=9->mY tx=true)/\(k=2->n=0\/n=1)/\(k=12->0<=n/\n<6)/\wX ks
def wX:List gp->Prop
|[]=>True
|n::l=>kD n/\wX l
end
theorem OU:∀l:List gp,wX l↔∀x,x∈l->kD x
|[]=>by simp[wX]
|n::l=>by simp[wX,OU l]
theorem YS:∀l:List UInt8,(l.take (ik false l)).all (λb=>mI b||jv b)=true
|[]=>by simp[ik]
| b::l=>by
 rw[ik];split
 ·rename_i h;rw[take_succ_cons,all_cons,YS l];simpa[Bool.or_comm]using h
 ·simp
theorem zGA{c:UInt8}(h:mI c=true):jv c=false:=by
 unfold mI sO at h;unfold jv ow;simp only[aI,bf]at*
 omega
theorem zGB:∀{l:List UInt8},(il l).e=0->(il l).kind=1->mY (bA (il l).text)=true
|[],h,_=>absurd h (by decide)
| c::r,h,k=>by
 unfold il at h k⊢;simp only at h k⊢;by_cases c1:mI c=true
 ·rw[aC c1]at h k⊢;by_cases c2:32<ik false (c::r)
  ·rw[aC c2]at h;exact absurd h (by decide)
  rw[aB c2]at h k⊢;simp only at h k⊢;have hw:¬zC (bA ((c::r).take (ik false (c::r))))=true:=λz=>by rw[aC z]at k;exact absurd k (by decide)
  have ha:=YS (c::r);have e:ik false (c::r)=ik false r+1:=by rw[ik,aC (by simp[c1])]
  rw[e,take_succ_cons]at hw ha⊢;rw[aK]at hw;have hs:(bA (c::r.take (ik false r))).size<=32:=by
   show(c::r.take (ik false r)).toArray.size<=32;simp only[size_toArray,length_cons,bI];omega
  unfold mY;show(decide ((bA (c::r.take (ik false r))).size<=32)&&(!zC (bA (c::r.take (ik false r)))&&(!jv c&&(c::r.take (ik false r)).all λb=>mI b||jv b)))=true;rw[hw,zGA c1,ha];simpa using hs
 rw[aB c1]at h k⊢;exfalso;revert h k;repeat' split
 all_goals (intro h k;first|exact absurd k (by simp)|exact absurd h (by simp[lK]))
def ze(L:List Tok):Prop:=∀i,(L.getD i xm).kind=1->mY (L.getD i xm).text=true
theorem YT{L:List Tok}{t:Tok}(h:ze L)(ht:t.kind=1->mY t.text=true):ze (L++[t]):=λi hk=>by
 rw[aH,getElem?_append]at hk⊢;split at hk
 ·rename_i q;rw[aC q,<-aH];rw[<-aH]at hk;exact h i hk
 ·rename_i q;rw[aB q];by_cases z:i-L.length=0
  ·rw[z]at hk⊢;exact ht hk
  ·rw[aS (by simp;omega)]at hk;exact absurd hk (by decide)
theorem YU:∀(n:Nat) (l:List UInt8) (a b:Int) (ts:List Tok),ze ts->ze (oO n l a b ts).1
|0,l,a,b,ts,h=>by rw[oO];exact h
| n+1,l,a,b,ts,h=>by
 rw[oO];simp only;split
 ·exact YT h λk=>absurd (show(0:Int)=1 from k) (by decide)
 have ht:=zGB (l:=l.drop (iU false l));generalize il (l.drop (iU false l))=t at*
 obtain⟨e,he⟩:∃e,(if t.e=0/\ts.length=8192 then 19 else t.e)=e:=⟨_,rfl⟩
 rw[he];split
 ·exactλi k=>absurd k (by simp[xm])
 ·rename_i q;have e0:t.e=0:=by
   apply bC;intro z;rw[aB (λy=>z y.1)]at he;omega
  exact YU n _ _ _ _ (YT h λk=>ht e0 k)
theorem zH0(s:fE):ze (lC s).1:=by
 unfold lC;split
 ·exactλi k=>absurd k (by simp[xm])
 ·exact YU _ _ _ _ _ λi k=>absurd k (by simp[xm])
section
variable {L:List Tok}
theorem Tm.z{p q:PS}(h:Tm L p q)(e:q.e=0):p.e=0:=bC λz=>h.bad z e
theorem zGC(hN:ze L){p:PS}(h:(jB L p).2.e=0):mY (jB L p).1=true:=by
 unfold jB at h⊢;split
 ·rename_i q;exact hN _ q.2
 ·rename_i q;rw[aB q]at h;exact absurd h (En (by decide))
theorem tF{p:PS}{k:Int}{t:fE}{n:Int}{ts:List gT}{ns:List fE}{ks:List gp}(h:wX ks)(s:k≠9/\k≠2/\k≠12):kD (kT L p k t n ts ns ks):=by
 unfold kT;rw[kD];exact⟨λz=>absurd z s.1,λz=>absurd z s.2.1,λz=>absurd z s.2.2,h⟩
theorem s1{a:gp}(h:kD a):wX [a]:=⟨h,trivial⟩
theorem s2{a b:gp}(h:kD a)(k:kD b):wX [a,b]:=⟨h,k,trivial⟩
def pM(L:List Tok)(f:PS->gp × PS):Prop:=∀p,p.at'<L.length->(f p).2.e=0->kD (f p).1
theorem zGD(hL:jC L){ki:PS->gT × PS}{ex rk:PS->gp × PS}(hk:gz L ki)(he:gz L ex)(ne:pM L ex)(nr:pM L rk):pM L (zD L ki ex rk):=λp hp=>by
 unfold zD;split
 ·have h1:=iW hL hp (s:=sP);have h2:=h1.trans (lc hL h1.lt);have h3:=h2.trans (zH hL hk _ h2.lt);have h4:=(lc hL h1.lt).trans ((zH hL hk _ h2.lt).trans (iw hL h3.lt (s:=bs [61])));have h5:=he _ h4.lt;have h6:=iw hL h5.lt (s:=bs [59]);have h7:=he _ h6.lt;intro e;exact tF (s2 (ne _ h4.lt (h6.z (h7.z e))) (ne _ h6.lt e)) (by decide)
 split
 ·have h1:=iW hL hp (s:=zz);have h2:=he _ h1.lt;have h3:=iw hL h2.lt (s:=CP);have h4:=he _ h3.lt;have h5:=iw hL h4.lt (s:=CQ);have h6:=he _ h5.lt;intro e;have e4:=h5.z (h6.z e);exact tF ⟨ne _ h1.lt (h3.z (h4.z e4)),ne _ h3.lt e4,ne _ h5.lt e,trivial⟩ (by decide)
 split
 ·have h1:=iW hL hp (s:=tT);have h2:=BK hL hk _ h1.lt;have h3:=h2.trans (iw hL h2.lt (s:=bs [61,62]));intro e;exact tF (s1 (ne _ h3.lt e)) (by decide)
 ·exact nr p hp
theorem YV(hL:jC L){rk:PS->gp × PS}(hr:gz L rk)(nr:pM L rk)(signs:List fE):∀(n:Nat) (a:gp) (p:PS),p.at'<L.length->Tm L p (kU L rk signs n a p).2/\(kD a->(kU L rk signs n a p).2.e=0->kD (kU L rk signs n a p).1)
|0,a,p,hp=>by rw[kU];exact⟨Tm.refl hp,λha _=>ha⟩
| n+1,a,p,hp=>by
 rw[kU];split
 ·exact⟨Tm.refl hp,λha _=>ha⟩
 ·rename_i s q h;have h1:=Cb hL _ hp h;have h2:=hr _ h1.1.lt;have r:=YV hL hr nr signs n (kT L p 14 s 0 [] [] [a,(rk q).1]) (rk q).2 h2.lt;exact⟨(h1.1.trans h2).trans r.1,λha e=>r.2 (tF (s2 ha (nr _ h1.1.lt (r.1.z e))) (by decide)) e⟩
theorem zH1(hL:jC L){ki:PS->gT × PS}{rk:PS->gp × PS}(hk:gz L ki)(hr:gz L rk)(nr:pM L rk):pM L (rR L ki rk):=λp hp=>by
 have h1:=hr p hp;have n1:=nr p hp;unfold rR;simp only;split
 ·rename_i s q h;have h2:=Cb hL _ h1.lt h;have h3:=hr _ h2.1.lt;intro e;exact tF (s2 (n1 (h2.1.z (h3.z e))) (nr _ h2.1.lt e)) (by decide)
 split
 ·have h2:=iW hL h1.lt (s:=bs [97,115]);have h3:=hk _ h2.lt;intro e;exact tF (s1 (n1 (h2.z (h3.z e)))) (by decide)
 split
 ·have h2:=iW hL h1.lt (s:=bs [105,115]);split
  ·rename_i i q h;have h3:=Eo hL _ _ h2.lt h;intro e;have:xF.length=6:=rfl;unfold kT;rw[kD];exact⟨λz=>absurd z (by decide),λz=>absurd z (by decide),λ_=>by omega,s1 (n1 (h2.z h3.2.2.1))⟩
  ·intro e;exact absurd e (En (by decide))
 ·exact n1
theorem zGE(hL:jC L){ki:PS->gT × PS}{un:PS->gp × PS}(hk:gz L ki)(hu:gz L un)(nu:pM L un):pM L (El L ki un):=by
 obtain⟨t5,t4,t3,t2,t1,t0⟩:=Er hL hk hu;have op:∀(f:PS->gp × PS) (signs:List fE),gz L f->pM L f->pM L (λp=>kU L f signs (L.length+1) (f p).1 (f p).2):=λf signs tf nf p hp e=>by
  have r:=YV hL tf nf signs (L.length+1) (f p).1 (f p).2 (tf p hp).lt;exact r.2 (nf p hp (r.1.z e)) e
 have n5:pM L (CR L un):=op un (rQ 5) hu nu;have n4:pM L (CU L un):=op _ (rQ 4) t5 n5;have n3:pM L (Ej L un):=op _ (rQ 3) t4 n4;have n2:pM L (CV L ki un):=zH1 hL hk t3 n3;have n1:pM L (CX L ki un):=op _ (rQ 1) t2 n2;exact op _ (rQ 0) t1 n1
theorem YW(hL:jC L){ex:PS->gp × PS}(he:gz L ex)(ne:pM L ex):∀(n:Nat) (ns:List fE) (ks:List gp) (p:PS),p.at'<L.length->wX ks->(uI L ex n ns ks p).2.e=0->wX (uI L ex n ns ks p).1.2
|0,ns,ks,p,hp,hk,e=>by rw[uI];exact hk
| n+1,ns,ks,p,hp,hk,e=>by
 have h1:=lc hL hp;have h2:=h1.trans (iw hL h1.lt (s:=bs [58]));have h3:=he _ h2.lt;have h4:=iW hL h3.lt (s:=bs [44]);have w:(ex (jI L (bs [58]) (jB L p).2)).2.e=0->wX (ks++[(ex (jI L (bs [58]) (jB L p).2)).1]):=λe=>(OU _).2 λx hx=>by
  rcases aQ.1 hx with hx|hx
  ·exact(OU _).1 hk x hx
  ·rw[aL.1 hx];exact ne _ h2.lt e
 rw[uI]at e⊢;split
 ·rename_i c;rw[aC c]at e;exact YW hL he ne n _ _ _ h4.lt (w (h4.z ((Es hL he n _ _ _ h4.lt).z e))) e
 ·rename_i c;rw[aB c]at e;exact w (h4.z e)
theorem zDN(hL:jC L){ex:PS->gp × PS}(he:gz L ex)(ne:pM L ex)(q p:PS)(hp:p.at'<L.length):(vL L ex q p).2.e=0->kD (vL L ex q p).1:=by
 unfold vL;split
 ·exactλ_=>tF trivial (by decide)
 split
 ·have h1:=he p hp;have h2:=iw hL h1.lt (s:=CY);have h3:=h2.trans (lc hL h2.lt);have h4:=h3.trans (iw hL h3.lt (s:=bs [58]));have h5:=he _ h4.lt;have h6:=iw hL h5.lt (s:=bs [125]);intro e;have e5:=h6.z e;exact tF (s2 (ne _ hp (h4.z (h5.z e5))) (ne _ h4.lt e5)) (by decide)
 ·have h1:=Es hL he (L.length+1) [] [] p hp;have h2:=iw hL h1.lt (s:=bs [125]);intro e;exact tF (YW hL he ne (L.length+1) [] [] p hp trivial (h2.z e)) (by decide)
theorem zGF(hL:jC L){ki:PS->gT × PS}{ex:PS->gp × PS}(hk:gz L ki)(he:gz L ex)(ne:pM L ex):pM L (xG L ki ex):=λp hp=>by
 unfold xG;by_cases c0:p.e=0/\(iG L p).kind=3
 ·rw[aC c0];exactλ_=>tF trivial (by decide)
 rw[aB c0];by_cases c1:p.e=0/\(iG L p).kind=4
 ·rw[aC c1];exactλ_=>tF trivial (by decide)
 rw[aB c1];by_cases c2:(iA L CZ p).1=true
 ·rw[aC c2];exactλ_=>by unfold kT;rw[kD];exact⟨λz=>absurd z (by decide),λ_=>by omega,λz=>absurd z (by decide),trivial⟩
 rw[aB c2];by_cases c3:(iA L C8 p).1=true
 ·rw[aC c3];exactλ_=>by unfold kT;rw[kD];exact⟨λz=>absurd z (by decide),λ_=>by omega,λz=>absurd z (by decide),trivial⟩
 rw[aB c3];by_cases c4:(iA L C9 p).1=true
 ·rw[aC c4];exactλ_=>tF trivial (by decide)
 rw[aB c4];by_cases c5:(iA L yO p).1=true
 ·rw[aC c5];exactλ_=>tF trivial (by decide)
 rw[aB c5];by_cases c6:(iA L xn p).1=true
 ·rw[aC c6];have h1:=iW hL hp (s:=xn);have h2:=iw hL h1.lt (s:=bs [40]);have h3:=he _ h2.lt;exactλe=>tF (s1 (ne _ h2.lt ((iw hL h3.lt (s:=bs [41])).z e))) (by decide)
 rw[aB c6];by_cases c7:(iA L (bs [40]) p).1=true
 ·rw[aC c7];have h1:=iW hL hp (s:=bs [40]);exactλe=>ne _ h1.lt ((iw hL (he _ h1.lt).lt (s:=bs [41])).z e)
 rw[aB c7];by_cases c8:(iA L (bs [123]) p).1=true
 ·rw[aC c8];exact zDN hL he ne p _ (iW hL hp (s:=bs [123])).lt
 rw[aB c8];intro _;show kD (if(iA L (bs [91]) (jB L p).2).1=true then _ else _:gp × PS).1;split
 ·exact tF trivial (by decide)
 ·exact tF trivial (by decide)
theorem OV(hL:jC L)(hN:ze L){ex:PS->gp × PS}(he:gz L ex)(ne:pM L ex):∀(n:Nat) (a:gp) (p:PS),p.at'<L.length->Tm L p (sQ L ex n a p).2/\(kD a->(sQ L ex n a p).2.e=0->kD (sQ L ex n a p).1)
|0,a,p,hp=>by rw[sQ];exact⟨Tm.refl hp,λha _=>ha⟩
| n+1,a,p,hp=>by
 rw[sQ];split
 ·have h1:=iW hL hp (s:=bs [40]);have h2:=he _ h1.lt;have h3:=iw hL h2.lt (s:=bs [41]);have r:=OV hL hN he ne n (kT L p 7 (bs []) 0 [] [] [a,(ex (iA L (bs [40]) p).2).1]) _ h3.lt;exact⟨((h1.trans h2).trans h3).trans r.1,λha e=>r.2 (tF (s2 ha (ne _ h1.lt (h3.z (r.1.z e)))) (by decide)) e⟩
 split
 ·have h1:=iW hL hp (s:=bs [46]);have h2:=lc hL h1.lt;have r:=OV hL hN he ne n (kT L p 9 (jB L (iA L (bs [46]) p).2).1 0 [] [] [a]) _ h2.lt;exact⟨(h1.trans h2).trans r.1,λha e=>r.2 (by unfold kT;rw[kD];exact⟨λ_=>zGC hN (r.1.z e),λz=>absurd z (by decide),λz=>absurd z (by decide),s1 ha⟩) e⟩
 ·exact⟨Tm.refl hp,λha _=>ha⟩
theorem zE4(hL:jC L)(hN:ze L){ki:PS->gT × PS}{ex un:PS->gp × PS}(hk:gz L ki)(he:gz L ex)(ne:pM L ex)(nu:pM L un):pM L (zF L ki ex un):=λp hp=>by
 unfold zF;split
 ·exactλe=>tF (s1 (nu _ (iW hL hp (s:=bs [45])).lt e)) (by decide)
 split
 ·exactλe=>tF (s1 (nu _ (iW hL hp (s:=sS)).lt e)) (by decide)
 ·have ta:=IG hL hk he p hp;have r:=OV hL hN he ne (L.length+1) (xG L ki ex p).1 (xG L ki ex p).2 ta.lt;exactλe=>r.2 (zGF hL hk he ne p hp (r.1.z e)) e
theorem zIM(hL:jC L)(hN:ze L){ki:PS->gT × PS}(hk:gz L ki)(d:Nat):pM L (uJ L ki d).1/\pM L (uJ L ki d).2:=by
 have n0:kD qR:=by simp[kD,qR,wX]
 induction d with
 |zero=>exact⟨λp hp _=>n0,λp hp _=>n0⟩
 | succ d ih=>
  have tm:=Et hL hk d;have up:∀(f:PS->gp × PS),pM L f->pM L (λp=>if(jN L p).1=true then uH (f (jN L p).2)else(qR,(jN L p).2)):=λf nf p hp=>by
   show(if(jN L p).1=true then _ else _:gp × PS).2.e=0->kD (if(jN L p).1=true then _ else _:gp × PS).1;by_cases c:(jN L p).1=true
   ·have hp':(jN L p).2.at'<L.length:=by rw[(zG c).1];exact hp
    rw[aC c];exactλe=>nf _ hp' e
   ·rw[aB c];exactλ_=>n0
  rw[uJ];exact⟨up _ (zGD hL hk tm.1 ih.1 (zGE hL hk tm.2 ih.2)),up _ (zE4 hL hN hk tm.1 ih.1 ih.2)⟩
theorem YX(hL:jC L)(hN:ze L):∀(n:Nat) (l:List jS) (p:PS),p.at'<L.length->(rU L n l p).2.e=0->(∀d,d∈l->kD d.body)->∀d,d∈(rU L n l p).1->kD d.body
|0,l,p,hp,e,h,d,hd=>by rw[rU]at hd;exact h d hd
| n+1,l,p,hp,e,h,d,hd=>by
 rw[rU]at hd e;split at hd
 ·rename_i c;rw[aC c]at e;have h1:=LW hL p hp;have e1:=(IP hL n (l++[(rT L p).1]) _ h1.lt).z e;refine YX hL hN n _ _ h1.lt e (λx hx=>?_) d hd;rcases aQ.1 hx with hx|hx
  ·exact h x hx
  ·rw[aL.1 hx];have h1:=iW hL hp (s:=AA);have h2:=h1.trans (iw hL h1.lt (s:=tT));have h3:=h2.trans (lc hL h2.lt);have h4:=h3.trans (IM hL _ h3.lt);have h5:=h4.trans (BK hL (yT hL) _ h4.lt);have h6:=h5.trans (iw hL h5.lt (s:=bs [61]));have h7:=IL hL _ h6.lt;exact(zIM hL hN (yT hL) 102).1 _ h6.lt ((iw hL h7.lt (s:=bs [59])).z e1)
 ·exact h d hd
end
theorem zE5(s:fE):∀d,d∈(qL s).1.decs->kD d.body:=λd hd=>by
 unfold qL at hd;simp only at hd;by_cases q1:(lC s).2.e=0
 ·obtain⟨hL,hl⟩:=IX q1;rw[aB (λz=>z q1)]at hd;split at hd
  ·cases hd
  ·rename_i q2;have h0:ps0.at'<(lC s).1.length:=hL.pos;refine YX hL (zH0 s) _ _ _ (Ex hL _ _ _ h0).lt ?_ (λx hx=>by cases hx) d hd;apply bC;intro z;refine q2 ?_;unfold uO;rw[aB (λy=>z y.1)];exact z
 ·rw[aC q1]at hd;cases hd
def mP(M G:Nat)(k n:Int)(ns:List fE)(ts:List gT)(q:Nat):Prop:=
((k=0\/k=1\/k=3\/k=4\/k=20)/\q=0)\/(k=2/\q=0/\(n=0\/n=1))\/(k=6/\q=0/\0<=n/\n<G)\/((k=5\/k=9\/k=16\/k=17\/k=19)/\q=1)\/(k=12/\q=1/\0<=n/\n<6)\/((k=7\/k=10\/k=14\/k=15\/k=18)/\q=2)\/(k=13/\q=2/\0<=n/\n<11)\/(k=11/\q=3)\/(k=8/\ns.length=q/\ns.Nodup)\/(k=21/\q=1/\0<=n/\n<M/\∃a b,ts=[a,b]/\iC a=true/\iC b=true)
theorem mP.cast{M G:Nat}{n:Int}{ns:List fE}{a b:gT}(h0:0<=n)(h1:n<M)(ha:iC a=true)(hb:iC b=true):mP M G 21 n ns [a,b] 1:=by
 simp[mP];exact⟨h0,h1,a,b,⟨rfl,rfl⟩,ha,hb⟩
mutual
def jg(M G:Nat):gu->Prop
|.mk k n _ _ ns ts cs ks=>(mP M G k n ns ts ks.length/\cs=[])/\jM M G ks
def jM(M G:Nat):List gu->Prop
|[]=>True
|c::l=>jg M G c/\jM M G l
end
structure nT (s s':CS):Prop where
 e:s'.e=0->s.e=0
 sites:s.sites.length<=s'.sites.length
 tab:s.tab.length<=s'.tab.length
theorem nT.refl(s:CS):nT s s:=⟨id,aM _,aM _⟩
theorem nT.trans{a b c:CS}(h:nT a b)(k:nT b c):nT a c:=⟨λe=>h.e (k.e e),ak h.sites k.sites,ak h.tab k.tab⟩
theorem EI(a b e:Int)(s:CS):nT s (ky a b e s):=by
 unfold ky;split
 ·rename_i q;exact⟨λ_=>q,aM _,aM _⟩
 ·exact nT.refl s
theorem EJ{a b e:Int}{s:CS}(h:e≠0):(ky a b e s).e≠0:=by
 unfold ky;split
 ·exact h
 ·rename_i q;exact q
section
variable (M G:Nat)
def o7(s:CS)(P:Prop)(s':CS):Prop:=nT s s'/\(s'.e=0->s'.sites.length<=M->s'.tab.length<=G->P)
variable {M G}
theorem o7.ret{s:CS}{P:Prop}(h:P):o7 M G s P s:=⟨nT.refl s,λ_ _ _=>h⟩
theorem o7.bind{s t u:CS}{P Q:Prop}(h:o7 M G s P t)(k:o7 M G t Q u):o7 M G s (P/\Q) u:=
⟨h.1.trans k.1,λe a b=>⟨h.2 (k.1.e e) (ak k.1.sites a) (ak k.1.tab b),k.2 e a b⟩⟩
theorem o7.imp{s t:CS}{P Q:Prop}(h:o7 M G s P t)(f:P->Q):o7 M G s Q t:=⟨h.1,λe a b=>f (h.2 e a b)⟩
theorem o7.fail{s:CS}{P:Prop}{a b e:Int}(h:e≠0):o7 M G s P (ky a b e s):=⟨EI a b e s,λz=>absurd z (EJ h)⟩
theorem Cw(t:gT)(a b:Int)(s:CS):o7 M G s (iC (jo t a b s).1=true) (jo t a b s).2:=by
 unfold jo;simp only;split
 ·exact .fail (by decide)
 ·rename_i q;exact .ret (zCh (by simpa using q))
theorem JQ(t:gT)(a b:Int)(s:CS):o7 M G s (iC (pF t a b s).1=true/\(mE t).2=0) (pF t a b s).2:=by
 unfold pF;simp only;split
 ·exact .fail (by decide)
 ·rename_i q;have q:(mE t).2=0:=by simpa using q
  exact .ret ⟨JO q,q⟩
theorem GQ(x:gu)(t u:gT)(a b:Int)(s:CS):o7 M G s (jg M G x->iC t=true->iC u=true->jg M G (mF x t u a b s).1) (mF x t u a b s).2:=by
 unfold mF;split
 ·exact .ret λh _ _=>h
 ·rename_i q;have q:s.e=0:=by simpa using q
  refine⟨⟨λ_=>q,by simp,aM _⟩,λ_ h _ hx ht hu=>?_⟩;simp only[aX,length_cons,length_nil]at h;simp only[jg,jM,and_true];exact⟨.cast (by omega) (by omega) ht hu,hx⟩
theorem Bg(x:gu)(t u:gT)(a b:Int)(s:CS):o7 M G s (jg M G x->iC t=true->iC u=true->jg M G (ko x t u a b s).1) (ko x t u a b s).2:=by
 unfold ko;split
 ·exact .ret λh _ _=>h
 split
 ·exact .ret λh _ _=>h
 split
 ·exact GQ x t u a b s
 ·exact .fail (by decide)
theorem YY(u:gT)(hu:iC u=true)(a b:Int)(x:(gu × gT) × CS):o7 M G x.2 (jg M G x.1.1/\iC x.1.2=true->jg M G (kV u a b x).1.1/\iC (kV u a b x).1.2=true) (kV u a b x).2:=by
 unfold kV;split
 ·exact(GQ _ _ _ _ _ _).imp λh k=>⟨h k.1 k.2 hu,hu⟩
 ·exact .ret id
theorem JR(a b:Int):∀(ts l:List gT) (s:CS),nT s (sF a b ts l s).2
|[],l,s=>by rw[sF];exact nT.refl s
|t::ts,l,s=>by
 rw[sF];split
 ·exact nT.refl s
 ·exact(Cw (M:=0) (G:=0) t a b s).1.trans (JR a b ts _ _)
theorem zHW{l:List kS}{x:kS}:l.length<=(kX 256 l x).2.length/\((kX 256 l x).1.2=0->0<=(kX 256 l x).1.1/\(kX 256 l x).1.1<(kX 256 l x).2.length):=by
 have h:=EC (λy=>AP y x) l;unfold kX;split
 ·exact⟨aM _,λz=>absurd z (by simp)⟩
 split
 ·rename_i q;refine⟨aM _,λ_=>⟨q,?_⟩⟩;simp only;omega
 split
 ·exact⟨aM _,λz=>absurd z (by simp)⟩
 ·exact⟨by simp,λ_=>by simp;omega⟩
def pO(env:Env):Prop:=∀v,v∈env->iC v.2=true
theorem pO.more{env:Env}(h:pO env)(x:fE){t:gT}(ht:iC t=true):pO (env++[(x,t)]):=λv hv=>by
 rcases aQ.1 hv with hv|hv
 ·exact h v hv
 ·rw[aL.1 hv];exact ht
theorem pO.get{env:Env}(h:pO env)(k:Nat):iC (env.getD k (bs [],noT)).2=true:=by
 rw[aH];cases e:env[k]? with
 |none=>exact zb
 |some v=>exact h v (af e)
variable (M G)
def jR(i:Inf):Prop:=∀env s,o7 M G s (pO env->jg M G (i env s).1.1/\iC (i env s).1.2=true) (i env s).2
variable {M G}
section
variable (L:iN)
theorem YZ(a b:Int)(e:iy)(l:List gT)(s:CS):o7 M G s (jg M G (sZ L a b e l s).1.1/\iC (sZ L a b e l s).1.2=true) (sZ L a b e l s).2:=by
 unfold sZ;split
 ·exact .fail (by decide)
 ·rename_i q;simp only;have h:=zHW (l:=s.tab) (x:=⟨e.module,e.decl,l⟩);generalize kX 256 s.tab ⟨e.module,e.decl,l⟩=r at*
  have k:nT s {s with tab:=r.2}:=⟨id,aM _,h.1⟩
  split
  ·rename_i q2;exact⟨k.trans (EI _ _ _ _),λz=>absurd z (EJ q2)⟩
  ·rename_i q2;have q2:=h.2 (by simpa using q2);refine⟨k,λ_ _ hG=>⟨?_,?_⟩⟩
   ·simp only[cN,jg,jM,and_true];simp[mP];simp only at hG;omega
   ·have q:(sW L e l).2=true:=by simpa using q
    unfold sW at q⊢;simp only[aF,aI]at q;exact JO q.2.2
theorem zHX(n:gp):jR M G (xM L n):=λenv s=>by
 unfold xM;simp only;split
 ·exact .ret λhe=>⟨by simp[cN,jg,jM,mP],he.get _⟩
 split
 ·exact .fail (by decide)
 split
 ·exact .fail (by decide)
 split
 ·exact .fail (by decide)
 split
 ·exact(YZ L _ _ _ _ _).imp λh _=>h
 split
 ·rename_i q;exact⟨JR _ _ _ _ _,λz=>absurd z q⟩
 split
 ·rename_i q;exact⟨(JR _ _ _ _ _).trans (EI _ _ _ _),λz=>absurd z (EJ q)⟩
 ·have h:=YZ (M:=M) (G:=G) L n.line n.col (qW (L.scopes.getD s.module.toNat []) n.text).1 (sF n.line n.col n.types [] s).1 (sF n.line n.col n.types [] s).2;exact⟨(JR _ _ _ _ _).trans h.1,λe a b _=>h.2 e a b⟩
theorem zJr(n a:gp){ia ib:Inf}(ha:jR M G ia)(hb:jR M G ib):jR M G (pG n a ia ib):=λenv s=>by
 unfold pG;simp only;have h1:=ha env s;generalize ia env s=x at*
 obtain⟨y,hy⟩:∃y,(if 0<n.types.length/\x.2.e=0 then(((ko x.1.1 x.1.2 (jo (n.types.getD 0 noT) n.line n.col x.2).1 a.line a.col (jo (n.types.getD 0 noT) n.line n.col x.2).2).1,(jo (n.types.getD 0 noT) n.line n.col x.2).1),(ko x.1.1 x.1.2 (jo (n.types.getD 0 noT) n.line n.col x.2).1 a.line a.col (jo (n.types.getD 0 noT) n.line n.col x.2).2).2)else x)=y:=⟨_,rfl⟩
 have h2:o7 M G x.2 (jg M G x.1.1/\iC x.1.2=true->jg M G y.1.1/\iC y.1.2=true) y.2:=by
  rw[<-hy];split
  ·exact((Cw _ _ _ _).bind (Bg _ _ _ _ _ _)).imp λh k=>⟨h.2 k.1 k.2 h.1,h.1⟩
  ·exact .ret id
 rw[hy];refine(h1.bind (h2.bind (hb (env++[(n.text,y.1.2)]) y.2))).imp λh he=>?_;have y1:=h.2.1 (h.1 he);have z1:=h.2.2 (he.more _ y1.2);exact⟨by simp only[cK,jg,jM,and_true];exact⟨by simp[mP],y1.1,z1.1⟩,z1.2⟩
theorem OW(n a:gp){ia:Inf}(ha:jR M G ia):jR M G (xN n a ia):=λenv s=>by
 unfold xN;simp only;have h1:=Cw (M:=M) (G:=G) (n.types.getD 0 noT) n.line n.col s;generalize jo (n.types.getD 0 noT) n.line n.col s=p at*
 obtain⟨q,hq⟩:∃q,(if 1<n.types.length/\p.2.e=0 then jo (n.types.getD 1 noT) n.line n.col p.2 else(noT,p.2))=q:=⟨_,rfl⟩
 have h2:o7 M G p.2 (iC q.1=true) q.2:=by
  rw[<-hq];split
  ·exact Cw _ _ _ _
  ·exact .ret zb
 rw[hq];have h3:=ha (env++[(n.text,p.1)]) q.2;generalize ia (env++[(n.text,p.1)]) q.2=x at*
 obtain⟨y,hy⟩:∃y,(if 1<n.types.length then(((ko x.1.1 x.1.2 q.1 a.line a.col x.2).1,q.1),(ko x.1.1 x.1.2 q.1 a.line a.col x.2).2)else x)=y:=⟨_,rfl⟩
 have h4:o7 M G x.2 (jg M G x.1.1/\iC x.1.2=true->iC q.1=true->jg M G y.1.1) y.2:=by
  rw[<-hy];split
  ·exact(Bg _ _ _ _ _ _).imp λh k kq=>h k.1 k.2 kq
  ·exact .ret λk _=>k.1
 rw[hy];refine(((h1.bind h2).bind h3).bind (h4.bind (JQ _ _ _ _))).imp λh he=>?_;exact⟨by simp only[cK,jg,jM,and_true];exact⟨by simp[mP],h.2.1 (h.1.2 (he.more _ h.1.1.1)) h.1.1.2⟩,h.2.2.1⟩
theorem Y0{t:gT}(h:iC t=true)(i:Nat):iC (t.kids.getD i noT)=true:=by
 rw[aH];cases e:t.kids[i]? with
 |none=>exact zb
 |some v=>exact JP h (af e)
theorem g_call(n b:gp){ia ib:Inf}(ha:jR M G ia)(hb:jR M G ib):jR M G (xO n b ia ib):=λenv s=>by
 unfold xO;simp only;have h1:=(ha env s).bind (YY (kM noT noT) zGI n.line n.col (ia env s));generalize kV (kM noT noT) n.line n.col (ia env s)=x at*
 split
 ·exact⟨h1.1.trans (EI _ _ _ _),λz=>absurd z (EJ (by decide))⟩
 ·refine(h1.bind ((hb env x.2).bind (Bg _ _ _ _ _ _))).imp λh he=>?_;have x1:=h.1.2 (h.1.1 he);have y1:=h.2.1 he;exact⟨by simp only[cK,jg,jM,and_true];exact⟨by simp[mP],x1.1,h.2.2 y1.1 y1.2 (Y0 x1.2 0)⟩,Y0 x1.2 1⟩
theorem zJs(n:gp)(hn:mY n.text=true){ia:Inf}(ha:jR M G ia):jR M G (pI n ia):=λenv s=>by
 unfold pI;simp only;have h1:=ha env s;generalize ia env s=x at*
 obtain⟨y,hy⟩:∃y,(if x.1.2.kind=0 then mF x.1.1 x.1.2 (.mk 5 (bs []) [n.text] [noT]) n.line n.col x.2 else(x.1.1,x.2))=y:=⟨_,rfl⟩
 have h2:o7 M G x.2 (jg M G x.1.1/\iC x.1.2=true->jg M G y.1) y.2:=by
  rw[<-hy];split
  ·exact(GQ _ _ _ _ _ _).imp λh k=>h k.1 k.2 (zGJ hn)
  ·exact .ret λk=>k.1
 rw[hy]
 have key:(pO env->jg M G x.1.1/\iC x.1.2=true)/\(jg M G x.1.1/\iC x.1.2=true->jg M G y.1)->pO env->jg M G (cT 9 n.text [y.1])/\iC (kH x.1.2 n.text).1=true:=λh he=>
  ⟨by simp only[cT,jg,jM,and_true];exact⟨by simp[mP],h.2 (h.1 he)⟩,zDP (h.1 he).2 _⟩
 split
 ·exact(h1.bind h2).imp key
 ·exact⟨(h1.bind h2).1.trans (EI _ _ _ _),λz=>absurd z (EJ (by decide))⟩
theorem zIJ(n:gp){ia ib:Inf}(ha:jR M G ia)(hb:jR M G ib):jR M G (xP n ia ib):=λenv s=>by
 unfold xP;simp only;have h1:=(ha env s).bind (YY (bT 5) YR n.line n.col (ia env s));generalize kV (bT 5) n.line n.col (ia env s)=x at*
 split
 ·exact⟨h1.1.trans (EI _ _ _ _),λz=>absurd z (EJ (by decide))⟩
 ·refine(h1.bind ((hb env x.2).bind (JQ _ _ _ _))).imp λh he=>?_;exact⟨by simp only[cT,jg,jM,and_true];exact⟨by simp[mP],(h.1.2 (h.1.1 he)).1,(h.2.1 he).1⟩,h.2.2.1⟩
theorem Y1(q:gp){env:Env}(h:pO env):pO (oL q env).1/\pO (oL q env).2:=by
 unfold oL;split
 ·simp only;have k:=zDR (h.get (qz env (q.kids.getD 0 qR).text).toNat) q.n;exact⟨λv hv=>(eT hv).elim (h v) λe=>by rw[e];exact k.1,λv hv=>(eT hv).elim (h v) λe=>by rw[e];exact k.2⟩
 ·exact⟨h,h⟩
theorem OX(q a b:gp){iq ia ib:Inf}(hq:jR M G iq)(ha:jR M G ia)(hb:jR M G ib):jR M G (xQ q a b iq ia ib):=λenv s=>by
 unfold xQ;simp only;have h1:=(hq env s).bind (Bg (iq env s).1.1 (iq env s).1.2 (bT 2) q.line q.col (iq env s).2);generalize ko (iq env s).1.1 (iq env s).1.2 (bT 2) q.line q.col (iq env s).2=x at*
 have h2:=ha (oL q env).1 x.2;generalize ia (oL q env).1 x.2=y at*
 have h3:=hb (oL q env).2 y.2;generalize ib (oL q env).2 y.2=z at*
 refine(h1.bind (h2.bind (h3.bind ((Bg _ _ _ _ _ _).bind (Bg _ _ _ _ _ _))))).imp λh he=>?_;have q1:=h.1.1 he;have y1:=h.2.1 (Y1 q he).1;have z1:=h.2.2.1 (Y1 q he).2;have j:=zGK y1.2 z1.2;exact⟨by simp only[cK,jg,jM,and_true];exact⟨by simp[mP],h.1.2 q1.1 q1.2 (wW 2 (by omega) (by omega)),h.2.2.2.1 y1.1 y1.2 j,h.2.2.2.2 z1.1 z1.2 j⟩,j⟩
theorem OY(n:gp){ia:Inf}(ha:jR M G ia):jR M G (xR n ia):=λenv s=>by
 unfold xR;simp only;have h1:=ha env s;generalize ia env s=x at*
 split
 ·exact h1
 have h2:=h1.bind (Cw (M:=M) (G:=G) (n.types.getD 0 noT) n.line n.col x.2);generalize jo (n.types.getD 0 noT) n.line n.col x.2=u at*
 split
 ·exact h2.imp λh he=>⟨(h.1 he).1,h.2⟩
 rename_i q;have e0:u.2.e=0:=bC λz=>q (.inl z);obtain⟨y,hy⟩:∃y,(if x.1.2.kind≠0 then mF x.1.1 x.1.2 noT n.line n.col u.2 else(x.1.1,u.2))=y:=⟨_,rfl⟩
 have h3:o7 M G u.2 (jg M G x.1.1/\iC x.1.2=true->jg M G y.1) y.2:=by
  rw[<-hy];split
  ·exact(GQ _ _ _ _ _ _).imp λh k=>h k.1 k.2 zb
  ·exact .ret λk=>k.1
 have h4:x.1.2.kind≠0->o7 M G y.2 (0<=y.1.n/\y.1.n<M) y.2:=λk=>by
  rw[aC k]at hy;unfold mF at hy;rw[aB (λz=>z e0)]at hy;rw[<-hy];exact⟨nT.refl _,λ_ a _=>by simp only[aX,length_cons,length_nil]at a;simp only[gu.n];omega⟩
 rw[hy];split
 ·exact(h2.bind h3).imp λh he=>⟨h.2 (h.1.1 he),h.1.2⟩
 split
 ·exact(h2.bind (h3.bind (GQ _ _ _ _ _ _))).imp λh he=>⟨h.2.2 (h.2.1 (h.1.1 he)) (h.1.1 he).2 h.1.2,h.1.2⟩
 ·rename_i k0;refine(h2.bind (h3.bind (h4 k0))).imp λh he=>⟨?_,h.1.2⟩
  simp only[jg,jM,and_true];exact⟨.cast h.2.2.1 h.2.2.2 zb h.1.2,h.2.1 (h.1.1 he)⟩
theorem zf(n:gp){i:Inf}(hi:jR M G i)(t:gT)(ht:iC t=true)(env:Env)(s:CS):o7 M G s (pO env->jg M G (nI n i t env s).1) (nI n i t env s).2:=by
 unfold nI;exact((hi env s).bind (Bg _ _ _ _ _ _)).imp λh he=>h.2 (h.1 he).1 (h.1 he).2 ht
theorem OZ(n a b:gp){ia ib:Inf}(ha:jR M G ia)(hb:jR M G ib):jR M G (opC n a b ia ib):=λenv s=>by
 have b2:=wW 2 (by omega) (by omega);have b3:=wW 3 (by omega) (by omega);have b4:=wW 4 (by omega) (by omega);unfold opC;simp only;split
 ·exact((zf a ha _ b2 env s).bind (zf b hb _ b2 env _)).imp λh he=>⟨by simp only[cK,jg,jM,and_true];exact⟨by simp[mP],h.1 he,by simp[cN,jg,jM,mP],h.2 he⟩,b2⟩
 split
 ·exact((zf a ha _ b2 env s).bind (zf b hb _ b2 env _)).imp λh he=>⟨by simp only[cK,jg,jM,and_true];exact⟨by simp[mP],h.1 he,h.2 he,by simp[cN,jg,jM,mP]⟩,b2⟩
 split
 ·exact((ha env s).bind (hb env _)).imp λh he=>⟨by simp only[cK,jg,jM,and_true];exact⟨by simp[mP],(h.1 he).1,(h.2 he).1⟩,b2⟩
 split
 ·exact((zf a ha _ b4 env s).bind (zf b hb _ b4 env _)).imp λh he=>⟨by simp only[cK,jg,jM,and_true];exact⟨by simp[mP],h.1 he,h.2 he⟩,b4⟩
 ·refine((zf a ha _ b3 env s).bind (zf b hb _ b3 env _)).imp λh he=>⟨?_,by split<;>assumption⟩
  simp only[jg,jM,and_true];have o:0<=BN n.text/\BN n.text<11:=by
   have:=EC (λx=>decide (x=n.text)) vQ;have e:vQ.length=11:=rfl;unfold BN;omega
  exact⟨by simp[mP];exact o,h.1 he,h.2 he⟩
theorem zJt(n a:gp)(hn:n.kind=12->0<=n.n/\n.n<6){ia:Inf}(ha:jR M G ia):jR M G (pJ n a ia):=λenv s=>by
 have b2:=wW 2 (by omega) (by omega);have b3:=wW 3 (by omega) (by omega);unfold pJ;split
 ·exact(zf a ha _ b2 env s).imp λh he=>⟨by simp only[cK,jg,jM,and_true];exact⟨by simp[mP],h he⟩,b2⟩
 split
 ·exact(zf a ha _ b3 env s).imp λh he=>⟨by simp only[cK,jg,jM,and_true];exact⟨by simp[mP],h he⟩,b3⟩
 split
 ·rename_i k;exact(ha env s).imp λh he=>⟨by simp only[jg,jM,and_true];exact⟨by simp[mP];exact hn k,(h he).1⟩,b2⟩
 ·exact(ha env s).imp λh he=>⟨by simp only[cK,jg,jM,and_true];exact⟨by simp[mP],(h he).1⟩,wW 1 (by omega) (by omega)⟩
theorem O0:∀{l:List gu},jM M G l↔∀x,x∈l->jg M G x
|[]=>by simp[jM]
|c::l=>by simp[jM,O0 (l:=l)]
theorem Y2:∀(l:List gp),(∀x,x∈l->jR M G (ig L x))->∀env s,o7 M G s (pO env->jM M G (oC L l env s).1.1/\(oC L l env s).1.1.length=(oC L l env s).1.2.length) (oC L l env s).2
|[],_,env,s=>by rw[oC];exact .ret λ_=>⟨trivial,rfl⟩
|n::l,h,env,s=>by
 rw[oC];exact((h n (by simp) env s).bind (Y2 l (λx hx=>h x (by simp[hx])) env _)).imp λh he=>⟨⟨(h.1 he).1,(h.2 he).1⟩,by simp[(h.2 he).2]⟩
theorem Y3:∀(l had:List fE),lh had l=false->had.Nodup->(had++l).Nodup
|[],had,_,h=>by simpa using h
| n::l,had,e,h=>by
 rw[lh,Bool.or_eq_false_iff]at e;have:=Y3 l (had++[n]) e.2 (bv.2 ⟨h,by simp,λa ha b hb z=>by
  rw[aL]at hb;have:=e.1;rw[dW]at this
  exact this a ha (by simp[z,hb])⟩)
 simpa using this
theorem Y4:∀l:List gT,(kQ l).2=true->(kQ l).1.length=l.length
|[],_=>rfl
| t::l,h=>by
 rw[kQ]at h⊢;split at h
 ·rename_i q;rw[aC q,length_cons,length_cons,Y4 l h]
 ·cases h
theorem zHY{ns:List fE}{ts:List gT}(h:(mE (.mk 5 (bs []) ns ts)).2=0):ns.length=ts.length:=by
 have f:=(FL h).1;rw[lW,aC (by omega)]at f;split at f
 ·rename_i q;have e:(kQ ts).1.length=ts.length:=Y4 ts q;rw[nz,aC rfl]at f;unfold yV at f;split at f
  ·cases f
  ·rename_i z;omega
 ·cases f
theorem zJu(n:gp)(h:∀x,x∈n.kids->jR M G (ig L x)):jR M G (qB n (oC L n.kids)):=λenv s=>by
 unfold qB;simp only;obtain⟨s1,e1⟩:∃s1,(if lh [] n.names=true then ky n.line n.col 8 s else s)=s1:=⟨_,rfl⟩
 have h1:o7 M G s (n.names.Nodup) s1:=by
  rw[<-e1];split
  ·exact .fail (by decide)
  ·rename_i q;exact .ret (by simpa using Y3 n.names [] (by simpa using q) (by simp))
 rw[e1];refine(h1.bind ((Y2 L n.kids h env s1).bind (JQ _ _ _ _))).imp λh he=>?_;have k:=h.2.1 he;have e:=zHY h.2.2.2;exact⟨by simp only[jg];exact⟨by simp[mP,k.2,e];exact h.1,k.1⟩,h.2.2.1⟩
theorem JS{j:Inf}(h:jR M G j):jR M G (kI j):=λenv s=>by
 unfold kI;split
 ·rename_i q;exact⟨nT.refl s,λz=>absurd z q⟩
 ·exact h env s
theorem JU(n:gp)(hn:n.kind=2->n.n=0\/n.n=1){rest:Inf}(hr:jR M G rest)(h:∀x,x∈n.kids->jR M G (ig L x)):jR M G (pK L n rest):=λenv s=>by
 unfold pK;split
 ·exact .ret λ_=>⟨by simp[cN,jg,jM,mP],wW 3 (by omega) (by omega)⟩
 split
 ·exact .ret λ_=>⟨by simp[cT,jg,jM,mP],wW 4 (by omega) (by omega)⟩
 split
 ·rename_i k;exact .ret λ_=>⟨by simp[cN,jg,jM,mP,hn k],wW 2 (by omega) (by omega)⟩
 split
 ·exact .ret λ_=>⟨by simp[cN,jg,jM,mP],wW 1 (by omega) (by omega)⟩
 split
 ·exact .ret λ_=>⟨by simp[cN,jg,jM,mP],wW 3 (by omega) (by omega)⟩
 split
 ·exact zHX L n env s
 split
 ·exact zJu L n h env s
 ·exact hr env s
theorem zGu(n:gp)(hn:kD n)(h:∀x,x∈n.kids->jR M G (ig L x)):jR M G (ig L n):=by
 obtain⟨k,tx,nn,ln,cl,ts,ns,ks⟩:=n;rw[kD]at hn;obtain⟨n9,n2,n12,_⟩:=hn
 match ks,h with
 |[],h=>
  rw[Ij];exact JS (JU L (.mk k tx nn ln cl ts ns []) n2 (λenv s=>.ret λ_=>⟨by simp[noC,cN,jg,jM,mP],zb⟩) h)
 |[a],h=>
  have ha:=h a (by simp[gp.kids]);rw[BX];refine JS (JU L (.mk k tx nn ln cl ts ns [a]) n2 (λenv s=>?_) h);unfold BU;split
  ·exact OW _ _ ha env s
  split
  ·rename_i k9;exact zJs (.mk k tx nn ln cl ts ns [a]) (n9 k9) ha env s
  split
  ·exact OY _ ha env s
  ·exact zJt (.mk k tx nn ln cl ts ns [a]) _ n12 ha env s
 |[a,b],h=>
  have ha:=h a (by simp[gp.kids]);have hb:=h b (by simp[gp.kids]);rw[BZ];refine JS (JU L (.mk k tx nn ln cl ts ns [a,b]) n2 (λenv s=>?_) h);unfold BV;split
  ·exact zJr _ _ ha hb env s
  split
  ·exact g_call _ _ ha hb env s
  split
  ·exact zIJ _ ha hb env s
  ·exact OZ _ _ _ ha hb env s
 |a::b::c::l,h=>
  rw[Fh];exact JS (JU L (.mk k tx nn ln cl ts ns (a::b::c::l)) n2 (OX a b c (h a (by simp[gp.kids])) (h b (by simp[gp.kids])) (h c (by simp[gp.kids]))) h)
mutual
theorem Y5:∀n:gp,kD n->jR M G (ig L n)
|.mk k tx nn ln cl ts ns ks,h=>zGu L _ h (Y6 ks (by rw[kD]at h;exact h.2.2.2))
theorem Y6:∀l:List gp,wX l->∀x,x∈l->jR M G (ig L x)
|[],_,x,hx=>by cases hx
|n::l,h,x,hx=>by
 rw[wX]at h;rcases aN.1 hx with e|e
 ·rw[e];exact Y5 n h.1
 ·exact Y6 l h.2 x e
end
end
end
def uY(l:List jP):Prop:=∀m,m∈l->∀d,d∈m.decs->kD d.body
theorem Y7:∀(l:List (fE × fE)) (i:Nat) (ns:List fE) (ms:List jP) (bad:List iR),uY ms->uY (qy l i ns ms bad).1.2
|[],i,ns,ms,bad,h=>by rw[qy];exact h
|s::l,i,ns,ms,bad,h=>by
 rw[qy];refine Y7 l _ _ _ _ λm hm=>?_;rcases aQ.1 hm with hm|hm
 ·exact h m hm
 ·rw[aL.1 hm];exact zE5 s.2
theorem zGb(l:List (fE × fE)):uY (yZ l).1.mods:=by
 have h0:uY BL.mods:=λm hm=>by cases hm
 have hg:uY (uP l).1.2:=by
  unfold uP;split
  ·intro m hm;cases hm
  ·exact Y7 l 0 [] [] [] λm hm=>by cases hm
 unfold yZ;simp only;repeat' split
 all_goals first|exact h0|exact hg
theorem zED{L:iN}(hG:mG L)(hs:uY L.mods){m k:Int}(h:jq L ⟨bs [],m,k⟩):kD (vP L m k).body:=by
 obtain⟨mn,kn,M,e1,e2,g1,g2,_⟩:=F6 hG.good h;exact hs M (af g1) _ (af g2)
section
variable {M G:Nat}
theorem zJk{L:iN}(hG:mG L)(hs:uY L.mods){x:kS}(hx:jq L ⟨bs [],x.module,x.decl⟩)(s:CS):
  (s.sites.length<=(nA L x s).sites.length/\s.tab.length<=(nA L x s).tab.length/\(nA L x s).funs.length=s.funs.length+1)/\
  ((nA L x s).bad=[]->s.bad=[]/\((nA L x s).sites.length<=M->(nA L x s).tab.length<=G->(∀f,f∈s.funs->jg M G f.body)->∀f,f∈(nA L x s).funs->jg M G f.body)):=by
 have hd:=zED hG hs hx;have f0:fb (wS L x s)=fb s:=rfl;have k0:(wS L x s).sites=s.sites/\(wS L x s).tab=s.tab:=⟨rfl,rfl⟩
 unfold nA;unfold wS at f0 k0;simp only;generalize vP L x.module x.decl=d at*
 generalize ({s with module:=x.module,vars:=d.vars.map (·.1),wth:=x.types,e:=0}:CS)=s0 at*
 have f1:=ED (d.types.getD 0 noT) d.line d.col s0;have r1:=Cw (M:=M) (G:=G) (d.types.getD 0 noT) d.line d.col s0;generalize jo (d.types.getD 0 noT) d.line d.col s0=a at*
 have f2:=ED (d.types.getD 1 noT) d.line d.col a.2;have r2:=Cw (M:=M) (G:=G) (d.types.getD 1 noT) d.line d.col a.2;generalize jo (d.types.getD 1 noT) d.line d.col a.2=b at*
 obtain⟨T,hT⟩:∃T,(if b.2.e=0 then pF (kM a.1 b.1) d.line d.col b.2 else(kM a.1 b.1,b.2))=T:=⟨_,rfl⟩
 have p3:fb T.2=fb b.2/\o7 M G b.2 True T.2:=by
  rw[<-hT];split
  ·exact⟨Il _ _ _ _,(JQ _ _ _ _).imp λ_=>trivial⟩
  ·exact⟨rfl,.ret trivial⟩
 rw[hT];clear hT;obtain⟨S,hS⟩:∃S,(if x.module=L.main.module/\x.decl=L.main.decl/\AJ (bT 1) a.1=false then ky d.line d.col 14 T.2 else T.2)=S:=⟨_,rfl⟩
 have p4:fb S=fb T.2/\o7 M G T.2 True S:=by
  rw[<-hS];split
  ·exact⟨NU _ _ _ _,.fail (by decide)⟩
  ·exact⟨rfl,.ret trivial⟩
 rw[hS];clear hS;have f5:=Ip L d.body [(d.param,a.1)] S;have r5:=Y5 (M:=M) (G:=G) L d.body hd [(d.param,a.1)] S;generalize ig L d.body [(d.param,a.1)] S=y at*
 have f6:=NV y.1.1 y.1.2 b.1 d.body.line d.body.col y.2;have r6:=Bg (M:=M) (G:=G) y.1.1 y.1.2 b.1 d.body.line d.body.col y.2;generalize ko y.1.1 y.1.2 b.1 d.body.line d.body.col y.2=z at*
 have f:fb z.2=fb s:=by rw[f6,f5,p4.1,p3.1,f2,f1,f0]
 have g1:z.2.funs=s.funs:=dO (·.1) f;have g2:z.2.bad=s.bad:=dO (·.2) f;have r:=((r1.bind r2).bind (p3.2.bind p4.2)).bind (r5.bind r6);have r:=r.imp λh=>h.2.2 (h.2.1 λv hv=>by rw[aL.1 hv];exact h.1.1.1).1 (h.2.1 λv hv=>by rw[aL.1 hv];exact h.1.1.1).2 h.1.1.2;rw[<-k0.1,<-k0.2];generalize (if 0<x.types.length then uQ x.types 0 (L.names.getD x.module.toNat (bs [])++bs [46]++d.name)++bs [93]else uQ x.types 0 (L.names.getD x.module.toNat (bs [])++bs [46]++d.name))=nm;split
 ·exact⟨⟨r.1.sites,r.1.tab,by simp[g1]⟩,λh=>absurd h (by simp)⟩
 ·rename_i q;refine⟨⟨r.1.sites,r.1.tab,by simp[g1]⟩,λh=>⟨by rw[<-g2];exact h,λh1 h2 h3 f hf=>?_⟩⟩;have hf:f∈z.2.funs++[(⟨nm,T.1,z.1⟩:jb)]:=hf;rw[g1]at hf;rcases aQ.1 hf with hf|hf
  ·exact h3 f hf
  ·rw[aL.1 hf];exact r.2 (by simpa using q) h1 h2
theorem Y8{L:iN}(hG:mG L)(hs:uY L.mods):∀(n i:Nat) (s:CS),i+n<=257->wR L s i->
 (s.sites.length<=(oh L n i s).sites.length/\s.tab.length<=(oh L n i s).tab.length)/\
 ((oh L n i s).bad=[]->s.bad=[]/\((oh L n i s).sites.length<=M->(oh L n i s).tab.length<=G->(∀f,f∈s.funs->jg M G f.body)->∀f,f∈(oh L n i s).funs->jg M G f.body))/\
 (i+n=257->s.funs.length=i->(oh L n i s).tab.length<=(oh L n i s).funs.length)
|0,i,s,hi,h=>by
 rw[oh];exact⟨⟨aM _,aM _⟩,λe=>⟨e,λ_ _ h=>h⟩,λe1 e2=>by have:=h.tab;omega⟩
| n+1,i,s,hi,h=>by
 rw[oh];split
 ·rename_i q;have hm:s.tab.getD i ⟨0,0,[]⟩∈s.tab:=by
   rw[aH,aA q];exact aR q
  have h1:=h.ist _ hm;have k:=zJk (M:=M) (G:=G) hG hs h1.1 s;have r:=Y8 hG hs n (i+1) _ (by omega) (Iq hG h1.1 h1.2 (by omega) h);refine⟨⟨ak k.1.1 r.1.1,ak k.1.2.1 r.1.2⟩,λe=>?_,λe1 e2=>r.2.2 (by omega) (by rw[k.1.2.2];omega)⟩;have r2:=r.2.1 e;have k2:=k.2 r2.1;exact⟨k2.1,λa b hf=>r2.2 a b (k2.2 (ak r.1.1 a) (ak r.1.2 b) hf)⟩
 ·rename_i q;exact⟨⟨aM _,aM _⟩,λe=>⟨e,λ_ _ h=>h⟩,λe1 e2=>by omega⟩
end
theorem Y9{L:iN}(hG:mG L):∀(n i:Nat) (s:CS),i+n<=257->wR L s i->(oh L n i s).sites.length<=1000000000
|0,i,s,hi,h=>by rw[oh];have:=h.sites;omega
| n+1,i,s,hi,h=>by
 rw[oh];split
 ·rename_i q;have hm:s.tab.getD i ⟨0,0,[]⟩∈s.tab:=by
   rw[aH,aA q];exact aR q
  have h1:=h.ist _ hm;exact Y9 hG n (i+1) _ (by omega) (Iq hG h1.1 h1.2 (by omega) h)
 ·have:=h.sites;omega
structure Al (p:lT):Prop where
 good:yh p
 ok:∀f,f∈p.funs->jg p.sites.length p.funs.length f.body
 sites:p.sites.length<=1000000000
theorem Ya{M G G':Nat}(h:G<=G'):∀(n:Nat) (c:gu),kC c<=n->jg M G c->jg M G' c
|0,.mk _ _ _ _ _ _ _ ks,e,_=>by rw[kC]at e;omega
| n +1,.mk k _ _ _ ns ts _ ks,e,hc=>by
 rw[kC]at e;rw[jg]at hc⊢;refine⟨⟨?_,hc.1.2⟩,?_⟩
 ·have:=hc.1.1;unfold mP at this⊢;rcases this with h|h|h|h|h|h|h|h|h|h
  ·exact .inl h
  ·exact .inr (.inl h)
  ·exact .inr (.inr (.inl (by omega)))
  ·exact .inr (.inr (.inr (.inl h)))
  ·exact .inr (.inr (.inr (.inr (.inl h))))
  ·exact .inr (.inr (.inr (.inr (.inr (.inl h)))))
  ·exact .inr (.inr (.inr (.inr (.inr (.inr (.inl h))))))
  ·exact .inr (.inr (.inr (.inr (.inr (.inr (.inr (.inl h)))))))
  ·exact .inr (.inr (.inr (.inr (.inr (.inr (.inr (.inr (.inl h))))))))
  ·exact .inr (.inr (.inr (.inr (.inr (.inr (.inr (.inr (.inr h))))))))
 ·have key:∀l:List gu,jc l<=n->jM M G l->jM M G' l:=λl=>by
   induction l with
   |nil=>intro _ _;trivial
   |cons c l ih=>
    intro e h;rw[jc]at e;rw[jM]at h⊢;exact⟨Ya (by assumption) n c (by omega) h.1,ih (by omega) h.2⟩
  exact key ks (by omega) hc.2
theorem Yb{l:List (fE × fE)}(h:(ul l).2=true):Al (ul l).1:=by
 have hg:=zz7 l;unfold ul at h hg⊢;split at h
 ·cases h
 rename_i q1;rw[aB q1]at hg⊢;simp only at h hg⊢;split at h
 ·cases h
 rename_i q2;rw[aB q2]at hg⊢;have hG:=NT l (by omega);have hs:=zGb l;generalize (yZ l).1=L at*
 have h0:=Na L.mods 0 cs0 (by simp) (XB L);have hf0:(rW L L.mods 0 cs0).1.funs=[]:=by rw[Np];try rfl
 unfold AQ at h hg⊢;simp only at h hg⊢;by_cases q3:0<(rW L L.mods 0 cs0).2.length
 ·rw[aC q3]at h;simp at h;rw[h]at q3;simp at q3
 rw[aB q3]at h hg⊢;by_cases q4:0<(oh L 257 0 (rW L L.mods 0 cs0).1).bad.length
 ·rw[aC q4]at h;simp at h;rw[h]at q4;simp at q4
 rw[aB q4]at h hg⊢;have hb:(oh L 257 0 (rW L L.mods 0 cs0).1).bad=[]:=aT.1 (by omega);have hk:=Y8 (M:=(oh L 257 0 (rW L L.mods 0 cs0).1).sites.length) (G:=(oh L 257 0 (rW L L.mods 0 cs0).1).tab.length) hG hs 257 0 _ (by omega) h0;have ht:=Y9 hG 257 0 _ (by omega) h0;refine⟨hg,λf hf=>?_,ht⟩;have hl:=hk.2.2 (by omega) (by rw[hf0];rfl);exact Ya hl _ _ (aM _) ((hk.2.1 hb).2 (aM _) (aM _) (λf hf=>by rw[hf0]at hf;cases hf) f hf)
def zg(n:Nat)(C:gY):Prop:=(∀x,x∈C.fields->qF n x)/\∀x,x∈C.fn->qF n x
theorem zg.put{n:Nat}{C:gY}(h:zg n C)(k:fE){d:gY}(hd:qF n d):zg n (jm C k d):=by
 unfold jm;split
 ·exact h
 ·refine⟨λx hx=>?_,h.2⟩;rcases aQ.1 hx with hx|hx
  ·exact h.1 x hx
  ·rw[aL.1 hx];exact hd
section
variable {n:Nat} {v:gT->gT->Int->gY} (hv:∀x y l,qF n (v x y l))
include hv
theorem Yc(lb:Int):∀(ns:List fE) (ks:List gT) (C:gY),zg n C->zg n (o5 v lb ns ks C)
|[],_,C,h=>by rw[o5];exact h;intros;contradiction
|_::_,[],C,h=>by rw[o5];exact h;intros;contradiction
|k::ns,t::ks,C,h=>by rw[o5];exact Yc lb ns ks _ (h.put k (hv _ _ _))
theorem Yd(m:ic)(lb:Int):∀(ns:List fE) (ks:List gT) (C:gY),zg n C->zg n (o6 v m lb ns ks C)
|[],_,C,h=>by rw[o6];exact h;intros;contradiction
|_::_,[],C,h=>by rw[o6];exact h;intros;contradiction
| k::ns,t::ks,C,h=>by
 rw[o6];have h1:zg n (if(kH m.t k).2=false then oH C k lb else C):=by
  split
  ·exact h
  ·exact h
 refine Yd m lb ns ks _ ?_;split
 ·exact h1.put k (hv _ _ _)
 ·exact h1
theorem Ye(R:List ic)(lb:Int):∀(L:List ic) (C:gY),zg n C->zg n (uu v R lb L C)
|[],C,h=>by rw[uu];exact h
| m::L,C,h=>by
 rw[uu];refine Ye R lb L _ ?_;unfold yC;split
 ·exact h
 split
 ·refine⟨h.1,λx hx=>?_⟩;have hx:x∈nC _ _:=hx;unfold nC at hx;split at hx
  ·cases hx
  ·rcases aN.1 hx with e|hx
   ·rw[e];exact hv _ _ _
   ·rw[aL.1 hx];exact hv _ _ _
 split
 ·unfold uX;split
  ·split
   ·exact h
   ·exact Yc hv _ _ _ _ h
  ·exact Yd hv _ _ _ _ _ h
 ·exact h
end
theorem Yf:∀(n:Nat) (a b:gT) (lb:Int),qF n (tZ n a b lb)
|0,a,b,lb=>rfl
|n+1,a,b,lb=>by
 rw[tZ];split
 ·exact JD _
 ·exact Ye (λx y l=>Yf n x y l) _ _ _ _ ⟨λx hx=>(by cases hx),λx hx=>(by cases hx)⟩
def vk(d:gY)(k:gu):gu:=.mk 22 0 (bs []) [] [] [] [d] [k]
mutual
def o8:gu->gu
|.mk k n t is ns ts cs ks=>if k=21 then .mk 22 0 (bs []) [] [] [] [tZ 32 (ts.getD 0 noT) (ts.getD 1 noT) (2*n+2)] (sH ks)else .mk k n t is ns ts cs (sH ks)
def sH:List gu->List gu
|[]=>[]
|c::l=>o8 c::sH l
end
theorem JV:∀l:List gu,sH l=l.map o8
|[]=>rfl
|c::l=>by rw[sH,JV l];try rfl
def pQ(c:gu):Int:=if c.kind=0\/c.kind=20 then 2 else if c.kind=1 then 3 else if c.kind=2 then 1 else if c.kind=3 then 0 else if c.kind=5\/c.kind=6 then 5 else -1
def idleC(d:gY)(k:gu):Bool:=jW d idC||(decide (0<=pQ k)&&decide (iE d (pQ k).toNat=0)&&(decide (pQ k≠5)||decide (d.fn.length=0)))
def wY(d:gY)(k:gu):gu:=
 let d':=if k.kind=22 then nD 32 (k.cos.getD 0 idC) d else d;let k':=if k.kind=22 then k.kids.getD 0 noC else k
 if idleC d' k'=true then k' else vk d' k'
mutual
def oJ:gu->gu
|.mk k n t is ns ts cs ks=>if k=22 then wY (cs.getD 0 idC) ((x8 ks).getD 0 noC)else .mk k n t is ns ts cs (x8 ks)
def x8:List gu->List gu
|[]=>[]
|c::l=>oJ c::x8 l
end
theorem JW:∀l:List gu,x8 l=l.map oJ
|[]=>rfl
|c::l=>by rw[x8,JW l];try rfl
def uw(trim:Bool)(c:gu):gu:=if trim=true then oJ (o8 c)else o8 c
def lS(trim:Bool)(p:lT):lT:=⟨p.funs.map λf=>⟨f.name,f.type,uw trim f.body⟩,p.main,p.sites⟩
def wZ(B:Nat)(d:gY):Prop:=iY d=true/\mZ B d/\qF 32 d
mutual
def vo:gu->Prop
|.mk k _ _ _ _ _ cs ks=>k≠21/\(k=22->(∃d,cs=[d]/\wZ 16 d)/\ks.length=1)/\tH ks
def tH:List gu->Prop
|[]=>True
|c::l=>vo c/\tH l
end
mutual
def vv(B:Nat):gu->Prop
|.mk k _ _ _ _ _ cs ks=>k≠21/\(k=22->∃d x,cs=[d]/\ks=[x]/\x.kind≠22/\wZ B d)/\uZ B ks
def uZ(B:Nat):List gu->Prop
|[]=>True
|c::l=>vv B c/\uZ B l
end
theorem JX:∀{l:List gu},tH l↔∀x,x∈l->vo x
|[]=>by simp[tH]
|c::l=>by simp[tH,JX (l:=l)]
theorem JY{B:Nat}:∀{l:List gu},uZ B l↔∀x,x∈l->vv B x
|[]=>by simp[uZ]
|c::l=>by simp[uZ,JY (l:=l)]
theorem Yg{a b:gT}{n:Int}(ha:iC a=true)(hb:iC b=true)(hn:0<=n):wZ 16 (tZ 32 a b (2*n+2)):=by
 have h:=Xw 32 a b (2*n+2) (by omega) (Bf ha) (Bf hb);exact⟨h.1,h.2,Yf _ _ _ _⟩
theorem wZ.le{A B:Nat}(hAB:A<=B){d:gY}(h:wZ A d):wZ B d:=⟨h.1,OG hAB 32 h.2.2 h.2.1,h.2.2⟩
theorem wZ.comp{A B:Nat}(hAB:2<=A+B){c d:gY}(h:wZ A c)(k:wZ B d):wZ (A+B) (nD 32 c d):=⟨JF _ _ _ h.1 k.1,(JK hAB 32 h.2.2 k.2.2 h.1 k.1 h.2.1 k.2.1).1,JG _ h.1 k.1 h.2.2 k.2.2⟩
variable {M G:Nat}
theorem mP.inv{n:Int}{ns:List fE}{ts:List gT}{q:Nat}(h:mP M G 21 n ns ts q):q=1/\0<=n/\n<M/\∃a b,ts=[a,b]/\iC a=true/\iC b=true:=by
 simpa[mP]using h
theorem mP.n22{n:Int}{ns:List fE}{ts:List gT}{q:Nat}(h:mP M G 22 n ns ts q):False:=by
 simp[mP]at h
mutual
theorem JZ:∀c:gu,jg M G c->vo (o8 c)
| .mk k n t is ns ts cs ks,h=>by
 rw[jg]at h;have hk:=Yh ks h.2;have hl:(sH ks).length=ks.length:=by rw[JV];simp
 rw[o8];split
 ·rename_i q;subst q;obtain⟨h2,h3,h4,a,b,e,na,nb⟩:=h.1.1.inv;subst e;rw[vo];exact⟨by decide,λ_=>⟨⟨_,rfl,Yg na nb h3⟩,by omega⟩,hk⟩
 ·rename_i q;rw[vo];refine⟨q,λe=>?_,hk⟩;subst e;exact h.1.1.n22.elim
theorem Yh:∀l:List gu,jM M G l->tH (sH l)
|[],_=>trivial
|c::l,h=>by rw[jM]at h;rw[sH,tH];exact⟨JZ c h.1,Yh l h.2⟩
end
mutual
theorem J2:∀c:gu,kC (o8 c)=kC c
|.mk k n t is ns ts cs ks=>by
 have:=Yi ks;rw[o8];split<;>simp only[kC]<;>omega
theorem Yi:∀l:List gu,jc (sH l)=jc l
|[]=>rfl
|c::l=>by rw[sH,jc,jc,J2 c,Yi l]
end
mutual
theorem J3:∀(c:gu) (m:Nat),lQ m c->lQ m (o8 c)
| .mk k n t is ns ts cs ks,m,h=>by
 rw[lQ]at h;obtain⟨h23,h18,h21,h4,h5,hk⟩:=h;have hs:=O1 ks m k 0 hk;have hl:(sH ks).length=ks.length:=by rw[JV];simp
 rw[o8];split
 ·rename_i q;subst q;have hs:jf m 22 (sH ks) 0:=by
   have:=O1 ks m 22 0 (by
    have hl1:=(h21 rfl).1
    match ks,hl1,hk with
    |[x],_,hk=>simpa[jf]using hk)
   exact this
  rw[lQ];exact⟨by decide,λe=>absurd e (by decide),λe=>absurd e (by decide),λe=>absurd e (by decide),λe=>absurd e (by decide),hs⟩
 ·rw[lQ];refine⟨h23,λe=>by rw[hl];exact h18 e,λe=>by rw[hl];exact h21 e,λe=>?_,λe=>by rw[hl];exact h5 e,hs⟩;obtain⟨a,b,c⟩:=h4 e;subst c;exact⟨a,b,rfl⟩
theorem O1:∀(l:List gu) (m:Nat) (k:Int) (i:Nat),jf m k l i->jf m k (sH l) i
|[],m,k,i,_=>trivial
|c::l,m,k,i,h=>by
 rw[jf]at h;rw[sH,jf];exact⟨J3 c _ h.1,O1 l m k (i+1) h.2⟩
end
structure TK (B m:Nat) (s:Nat) (c:gu):Prop where
 tc:vv B c
 wf:lQ m c
 sz:kC c<=s
theorem O3{A B:Nat}(hAB:A<=B):∀(n:Nat) (c:gu),kC c<=n->vv A c->vv B c
|0,c,h,_=>by have:=yA c;omega
| n+1,.mk k _ _ _ _ _ cs ks,h,hc=>by
 rw[vv]at hc⊢;rw[kC]at h;refine⟨hc.1,λe=>?_,JY.2 λx hx=>?_⟩
 ·obtain⟨d,x,h1,h2,h3,h4⟩:=hc.2.1 e;exact⟨d,x,h1,h2,h3,h4.le hAB⟩
 ·obtain⟨j,hj,rfl⟩:=bJ hx;have:=zW hj;exact O3 hAB n _ (by omega) (JY.1 hc.2.2 _ (aR hj))
theorem zmI{B m s:Nat}{d:gY}{k:gu}(hd:wZ 16 d)(h:TK B m s k):TK (B+16) m (s+1) (wY d k):=by
 have key:∀(d':gY) (k':gu),wZ (B+16) d'->k'.kind≠22->TK (B+16) m s k'->TK (B+16) m (s+1) (if idleC d' k'=true then k' else vk d' k'):=λd' k' gd nk tk=>by
  split
  ·exact⟨tk.tc,tk.wf,by have:=tk.sz;omega⟩
  ·refine⟨?_,?_,?_⟩
   ·unfold vk;rw[vv];exact⟨by decide,λ_=>⟨d',k',rfl,rfl,nk,gd⟩,tk.tc,trivial⟩
   ·unfold vk;rw[lQ];exact⟨by decide,λe=>absurd e (by decide),λe=>absurd e (by decide),λe=>absurd e (by decide),λe=>absurd e (by decide),by simpa[jf]using tk.wf⟩
   ·have:=tk.sz;simp only[vk,kC,jc];omega
 have h':TK (B+16) m s k:=⟨O3 (by omega) _ k (aM _) h.tc,h.wf,h.sz⟩
 unfold wY;simp only;by_cases q:k.kind=22
 ·rw[aC q,aC q];obtain⟨k0,n,t,is,ns,ts,cs,ks⟩:=k;have q:k0=22:=q;subst q;have ht:=h.tc;rw[vv]at ht;obtain⟨e,x,h1,h2,h3,h4⟩:=ht.2.1 rfl;subst h1;subst h2;refine key _ _ (h4.comp (by omega) hd) h3 ⟨?_,?_,?_⟩
  ·have:=h'.tc;rw[vv,uZ]at this;exact this.2.2.1
  ·have:=h.wf;rw[lQ,jf]at this;show lQ m x;simpa using this.2.2.2.2.2.1
  ·have:=h.sz;rw[kC,jc]at this;show kC x<=s;omega
 ·rw[aB q,aB q];exact key _ _ (hd.le (by omega)) q h'
theorem GR:∀(n:Nat) (c:gu) (m:Nat),kC c<=n->vo c->lQ m c->TK (16*kC c) m (kC c) (oJ c)
|0,c,m,h,_,_=>by have:=yA c;omega
| n + 1,c,m,h,hp,hw=>by
 have hz:=yA c;obtain⟨k,nn,t,is,ns,ts,cs,ks⟩:=c;rw[vo]at hp;rw[lQ]at hw;simp only[gu.kids]at hz;have hk:∀(j:Nat) (hj:j<ks.length) (m':Nat),lQ m' ks[j]->TK (16*kC ks[j]) m' (kC ks[j]) (oJ ks[j]):=λj hj m' hw'=>by
  have:=zW hj;exact GR n _ m' (by omega) (JX.1 hp.2.2 _ (aR hj)) hw'
 rw[oJ];by_cases q:k=22
 ·rw[aC q];subst q;obtain⟨⟨d,h1,h2⟩,h3⟩:=hp.2.1 rfl;subst h1
  match ks,h3,hk,hw,hz with
  |[x],_,hk,hw,hz=>
   have hx:=hk 0 (by simp) m (by have:=hw.2.2.2.2.2;rw[jf]at this;simpa using this.1);simp only[getElem_cons_zero]at hx;have hz:kC (gu.mk 22 nn t is ns ts [d] [x])=kC x+1:=by simp only[kC,jc];omega
   rw[hz];have:=zmI h2 hx;exact⟨by rw[Nat.mul_add];exact this.tc,this.wf,this.sz⟩
 ·rw [aB q,JW];refine⟨?_,?_,?_⟩
  ·rw[vv];refine⟨hp.1,λe=>absurd e q,JY.2 λx hx=>?_⟩;obtain⟨y,hy,rfl⟩:=ae.1 hx;obtain⟨j,hj,rfl⟩:=bJ hy;have:=zW hj;obtain⟨m',hw'⟩:∃m',lQ m' ks[j]:=by
    by_cases q5:k=5
    ·subst q5;have hl:=hw.2.2.2.2.1 rfl
     match ks,hl,hw,j,hj with
     |[x],_,hw,0,_=>exact⟨m+1,by have:=hw.2.2.2.2.2;rw[jf]at this;simpa using this.1⟩
    ·exact⟨_,EE q5 hj hw.2.2.2.2.2⟩
   exact O3 (by rw[hz];omega) _ _ (aM _) (hk j hj m' hw').tc
  ·have hs:∀(l:List gu) (i j:Nat),ks.drop j=l->jf m k l i->jf m k (l.map oJ) i:=λl=>by
    induction l with
    |nil=>intro i j _ _;trivial
    | cons y l ih=>
     intro i j e hw;have hj:j<ks.length:=by
      rcases aW j ks.length with z|z
      ·exact z
      ·rw[dx z]at e;cases e
     rw[aD hj]at e;injection e with e1 e2
     rw[jf]at hw;rw[map_cons,jf];refine⟨?_,ih (i+1) (j+1) e2 hw.2⟩;rw[<-e1]at hw⊢;exact(hk j hj _ hw.1).wf
   rw[lQ];refine⟨hw.1,λe=>by simpa using hw.2.1 e,λe=>absurd e hp.1,λe=>?_,λe=>by simpa using hw.2.2.2.2.1 e,hs ks 0 0 (by simp) hw.2.2.2.2.2⟩;obtain⟨a,b,c⟩:=hw.2.2.2.1 e;subst c;exact⟨a,b,rfl⟩
  ·have hs:∀(l:List gu) (j:Nat),ks.drop j=l->jc (l.map oJ)<=jc l:=λl=>by
    induction l with
    |nil=>intro j _;exact aM _
    | cons y l ih=>
     intro j e;have hj:j<ks.length:=by
      rcases aW j ks.length with z|z
      ·exact z
      ·rw[dx z]at e;cases e
     rw[aD hj]at e;injection e with e1 e2
     have:=ih (j+1) e2;have h2:kC (oJ y)<=kC y:=by
      rw[<-e1];obtain⟨m',hw'⟩:∃m',lQ m' ks[j]:=by
       by_cases q5:k=5
       ·subst q5;have hl:=hw.2.2.2.2.1 rfl
        match ks,hl,hw,j,hj with
        |[x],_,hw,0,_=>exact⟨m+1,by have:=hw.2.2.2.2.2;rw[jf]at this;simpa using this.1⟩
       ·exact⟨_,EE q5 hj hw.2.2.2.2.2⟩
      exact(hk j hj m' hw').sz
     rw[map_cons,jc,jc];omega
   have:=hs ks 0 (by simp);simp only[kC];omega
end Go.Gr
