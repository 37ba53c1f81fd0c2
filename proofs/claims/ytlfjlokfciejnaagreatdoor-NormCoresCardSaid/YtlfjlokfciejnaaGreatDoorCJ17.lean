/- Texts of ours, joined and written short by a program of ours. -/
import Derived.Test.YtlfjlokfciejnaaGreatDoorCJ16
import Derived.Test.YtlfjlokfciejnaaGreatDoorCJ12
import Derived.Test.YtlfjlokfciejnaaGreatDoorCJ08
import Derived.Test.YtlfjlokfciejnaaGreatDoorCJ13
import Derived.Test.YtlfjlokfciejnaaGreatDoorCJ15
set_option maxRecDepth 20000
set_option maxHeartbeats 4000000
set_option linter.unusedVariables false
set_option linter.unusedSimpArgs false
namespace Go.Gr
open Go.Abs Go.Proofs List
theorem Pw(a b:fI):ET a b=true↔jY a b:=by unfold ET;rw[Jm];exact decide_eq_true_iff
theorem Za{s:fI}:∀{ns:List fI},(∀n,n∈ns->jY n s)->jg s ns=ns.length
|[],_=>rfl
|n::l,h=>by rw[jg,aC ((Pw _ _).2 (h n (by simp))),Za λx hx=>h x (by simp[hx])];rfl
theorem Zb{s:fI}:∀{ns:List fI},ns.Pairwise jY->ns[jg s ns]?≠some s->(∀x,x∈ns.take (jg s ns)->jY x s)/\∀x,x∈ns.drop (jg s ns)->jY s x
|[],_,_=>by simp[jg]
| n::l,hp,h=>by
 have hp':=bL.1 hp;rw[jg]at h⊢;by_cases q:ET n s=true
 ·rw[aC q]at h⊢;have i:=Zb hp'.2 (by simpa using h);refine⟨λx hx=>?_,λx hx=>i.2 x (by simpa using hx)⟩;rw[take_succ_cons]at hx;rcases aN.1 hx with rfl|hx
  ·exact(Pw _ _).1 q
  ·exact i.1 x hx
 ·rw[aB q]at h⊢;have hne:n≠s:=λe=>h (by simp[e]);have hs:jY s n:=(D6 hne).resolve_left λe=>q ((Pw _ _).2 e);refine⟨λx hx=>(by simp at hx),λx hx=>?_⟩;rw[drop_zero]at hx;rcases aN.1 hx with rfl|hx
  ·exact hs
  ·exact xm hs (hp'.1 x hx)
theorem zlO{s:fI}{ns:List fI}(hp:ns.Pairwise jY)(h:ns[jg s ns]?≠some s):(ns.take (jg s ns)++s::ns.drop (jg s ns)).Pairwise jY:=by
 have i:=Zb hp h;have hp':=hp;rw[<-dC (jg s ns) ns]at hp';have hp':=bU.1 hp';refine bU.2 ⟨hp'.1,bL.2 ⟨i.2,hp'.2.1⟩,λx hx y hy=>?_⟩;rcases aN.1 hy with rfl|hy
 ·exact i.1 x hx
 ·exact xm (i.1 x hx) (i.2 y hy)
theorem Zc:∀(ss:List fI) (ts:List gq) (ns:List fI) (ks:List gq),ns.Pairwise jY->(kK ss ts ns ks).1.1.Pairwise jY
|[],ts,ns,ks,h=>by rw[kK];exact h;all_goals (intros;contradiction)
|s::ss,[],ns,ks,h=>by rw[kK];exact h;all_goals (intros;contradiction)
| s::ss,t::ts,ns,ks,h=>by
 rw[kK];split
 ·exact h
 ·rename_i q;exact Zc ss ts _ _ (zlO h λe=>q (.inr e))
theorem Gx:∀a b:List gq,jM (a++b)=jM a+jM b
|[],b=>by simp[jM]
|t::a,b=>by rw[cons_append,jM,jM,Gx a b];omega
theorem Zd:∀(ss:List fI) (ts:List gq) (ns:List fI) (ks:List gq),jM (kK ss ts ns ks).1.2<=jM ks+jM ts
|[],ts,ns,ks=>by rw[kK];exact eY _ _;all_goals (intros;contradiction)
|s::ss,[],ns,ks=>by rw[kK];exact eY _ _;all_goals (intros;contradiction)
| s::ss,t::ts,ns,ks=>by
 rw[kK];split
 ·exact eY _ _
 ·have i:=Zd ss ts (ns.take (jg s ns)++s::ns.drop (jg s ns)) (ks.take (jg s ns)++t::ks.drop (jg s ns));have e:=Gx (ks.take (jg s ns)) (ks.drop (jg s ns));rw[dC]at e;rw[Gx,jM]at i;rw[jM];omega
theorem Ze:∀(ss:List fI) (ts:List gq) (ns:List fI) (ks:List gq),ss.length=ts.length->ns.length=ks.length->(ns++ss).Pairwise jY->(∀x,x∈ss->nG x=true)->kK ss ts ns ks=((ns++ss,ks++ts),true)
|[],ts,ns,ks,h0,_,_,_=>by
 cases ts with
 |nil=>rw[kK,bN,bN];all_goals (intros;contradiction)
 |cons _ _=>simp at h0
|s::ss,[],ns,ks,h0,_,_,_=>by simp at h0
| s::ss,t::ts,ns,ks,h0,h1,h2,h3=>by
 have hp:=Za (s:=s) (ns:=ns) λn hn=>(bU.1 h2).2.2 n hn s (by simp);rw[kK,hp,aB]
 ·rw[bG,aO,h1,bG,aO,Ze ss ts _ _ (by simpa using h0) (by simp[h1]) (by simpa using h2) λx hx=>h3 x (by simp[hx])];simp
 ·rw[h3 s (by simp)];simp
theorem Px{l:List gq}{B:Nat}(h:∀x,x∈l->jD x<=B):jk l<=B:=by
 induction l with
 |nil=>simp[jk]
 |cons t l ih=>
  rw[jk];have:=h t (by simp);have:=ih λx hx=>h x (by simp[hx]);omega
theorem Zf(tag:Int)(l:List gq)(ks:List gq):(jh tag l false ks).1.2=ks\/∃x,x∈l/\iN x=tag/\(jh tag l false ks).1.2=ks++[x]:=by
 have hT:∀(l:List gq) (ks:List gq),(jh tag l true ks).1.2=ks:=λl=>by
  induction l with
  |nil=>intro ks;rfl
  | cons x l ih=>
   intro ks;rw[jh];split
   ·rfl
   split
   ·exact ih ks
   ·simp only[if_true];split
    ·exact ih ks
    ·rfl
 induction l with
 |nil=>exact .inl rfl
 | cons x l ih=>
  rw[jh];split
  ·exact .inl rfl
  split
  ·rcases ih with h|⟨y,h1,h2,h3⟩
   ·exact .inl h
   ·exact .inr ⟨y,by simp[h1],h2,h3⟩
  ·rename_i q;refine .inr ⟨x,by simp,Decidable.not_not.1 q,?_⟩;simp only[ai,if_false];split
   ·exact hT l _
   ·rfl
theorem Zg(p q:gq->Bool)(h:∀x,¬(p x=true/\q x=true)):∀l:List gq,jM (l.filter p)+jM (l.filter q)<=jM (l.filter λx=>p x||q x)
|[]=>by simp[jM]
|x::l=>by
 have i:=Zg p q h l;have hx:=h x;simp only[dS];cases hp:p x<;>cases hq:q x
 ·simpa using i
 ·simp[jM];omega
 ·simp[jM];omega
 ·exact absurd ⟨hp,hq⟩ hx
theorem Py(p:gq->Bool):∀l:List gq,jM (l.filter p)<=jM l
|[]=>by simp[jM]
|x::l=>by
 have i:=Py p l;simp only[dS];split
 ·rw[jM,jM];omega
 ·rw[jM];omega
theorem Zh(all:List gq):∀(l:List Int) (ks:List gq),l.Nodup->jM (qY all l ks).1<=jM ks+jM (all.filter λx=>decide (iN x∈l))
|[],ks,_=>by rw[qY];exact eY _ _
| tag::l,ks,hn=>by
 have hn':=bf.1 hn;have hf:=Zg (λx=>decide (iN x=tag)) (λx=>decide (iN x∈l)) (λx ⟨a,b⟩=>hn'.1 (by simp only[aI]at a b;rw[<-a];exact b)) all;have he:(λx=>decide (iN x=tag)||decide (iN x∈l))=λx:gq=>decide (iN x∈tag::l):=by
  funext x;rw[<-Bool.decide_or];simp only[aN]
 rw[he]at hf;have h1:jM (jh tag all false ks).1.2<=jM ks+jM (all.filter λx=>decide (iN x=tag)):=by
  rcases Zf tag all ks with h|⟨x,h1,h2,h3⟩
  ·rw[h];omega
  ·rw[h3,Gx];have:=NV (l:=all.filter λx=>decide (iN x=tag)) (x:=x) (bB.2 ⟨h1,by simpa using h2⟩);simp only[jM];omega
 rw[qY];split
 ·have i:=Zh all l (jh tag all false ks).1.2 hn'.2;omega
 ·simp only;omega
theorem Zi(all:List gq):∀(l:List Int) (ks:List gq),l.Pairwise (· < ·)->(ks.map iN).Pairwise (· < ·)->(∀x,x∈ks->∀t,t∈l->iN x<t)->((qY all l ks).1.map iN).Pairwise (· < ·)
|[],ks,_,h,_=>by rw[qY];exact h
| tag::l,ks,hl,h,hk=>by
 have hl':=bL.1 hl;have h1:((jh tag all false ks).1.2.map iN).Pairwise (· < ·)/\∀x,x∈(jh tag all false ks).1.2->∀t,t∈l->iN x<t:=by
  rcases Zf tag all ks with e|⟨x,h1,h2,h3⟩
  ·rw[e];exact⟨h,λx hx t ht=>hk x hx t (by simp[ht])⟩
  ·rw[h3];refine⟨?_,λy hy t ht=>?_⟩
   ·rw[dW];refine bU.2 ⟨h,by simp,λa ha b hb=>?_⟩;obtain⟨z,hz,rfl⟩:=aa.1 ha;simp only[map_cons,map_nil,aK]at hb;rw[hb,h2];exact hk z hz tag (by simp)
   ·rcases aM.1 hy with hy|hy
    ·exact hk y hy t (by simp[ht])
    ·rw[aK.1 hy,h2];exact hl'.1 t ht
 rw[qY];split
 ·exact Zi all l _ hl'.2 h1.1 h1.2
 ·exact h1.1
theorem Zj:∀l:List gq,jM (l.flatMap iy)<=jM l
|[]=>by simp[jM]
| t::l=>by
 rw[flatMap_cons,Gx,jM];have:=Zj l;have:jM (iy t)<=jQ t:=by
  unfold iy;split
  ·cases t;rw[jQ];simp only[gq.kids];omega
  ·simp[jM]
 omega
theorem zmO{l:List gq}{x:gq}(h:x∈l.flatMap iy):jD x<=jk l:=by
 obtain⟨t,ht,hx⟩:=eZ.1 h;have h1:=Bn ht;unfold iy at hx;split at hx
 ·have:=wV hx;omega
 ·rw[aK.1 hx];exact h1
theorem znM(k:Int)(s:List fI)(l:List gq)(hl:∀x,x∈l->oZ x)(hk:5<=k/\k<=7)(h:(oO k s l).2=true):oZ (oO k s l).1/\jQ (oO k s l).1<=jM l+1/\jD (oO k s l).1<=jk l+1:=by
 unfold oO at h⊢;by_cases k5:k=5
 ·rw[aC k5]at h⊢;unfold yg at h⊢;by_cases q:s.length≠l.length\/16<s.length
  ·rw[aC q]at h;cases h
  rw[aB q]at h⊢;have i:=NS s l [] [] (by omega) rfl (by simp) h;have hc:=Zd s l [] [];have hmem:∀x,x∈(kK s l [] []).1.2->x∈l:=λx hx=>by
   rcases i.2.2.2 x hx with hx|hx
   ·cases hx
   ·exact hx
  refine⟨(wu _).2 ⟨Zc _ _ _ _ (by simp),λe=>absurd e (by simp only[gq.kind];decide),λx hx=>hl x (hmem x hx)⟩,?_,?_⟩
  ·rw[jQ];simp only[jM]at hc;omega
  ·rw[jD];have:=Px (l:=(kK s l [] []).1.2) (B:=jk l) λx hx=>Bn (hmem x hx);omega
 rw[aB k5]at h⊢;by_cases k6:k=6
 ·rw[aC k6]at h⊢;exact⟨(wu _).2 ⟨by simp[gq.names],λe=>absurd e (by simp only[gq.kind];decide),hl⟩,by rw[jQ];omega,by rw[jD];omega⟩
 rw[aB k6]at h⊢;unfold zV at h⊢;have hm:=JI (l.flatMap iy) [0,1,2,3,4,5] [];have hr:=Zi (l.flatMap iy) [0,1,2,3,4,5] [] (by decide) (by simp) (by simp);have hc:=Zh (l.flatMap iy) [0,1,2,3,4,5] [] (by decide);have hc2:=Py (λx=>decide (iN x∈([0,1,2,3,4,5]:List Int))) (l.flatMap iy);have hc3:=Zj l;simp only at h⊢;generalize qY (l.flatMap iy) [0,1,2,3,4,5] []=r at*
 have hw:∀y,y∈r.1->oZ y/\jD y<=jk l:=λy hy=>by
  rcases hm y hy with q|⟨q1,q2⟩
  ·cases q
  ·refine⟨?_,zmO q1⟩;obtain⟨t,ht,hx⟩:=eZ.1 q1;unfold iy at hx;split at hx
   ·exact((wu t).1 (hl t ht)).2.2 y hx
   ·rw[aK.1 hx];exact hl t ht
 have hcnt:jM r.1<=jM l:=by simp only[jM]at hc;omega
 by_cases q:r.2=true
 ·rw [aC q]at h⊢;split
  ·rename_i x e;have:=hw x (by rw[e];simp);refine⟨this.1,?_,by simp only;omega⟩;rw[e]at hcnt;simp only[jM]at hcnt⊢;omega
  ·rename_i L e;have hlen:2<=r.1.length:=by
    split at h
    ·rename_i x e';exact absurd e' (e x)
    ·simp only[aI]at h
     match hr1:r.1,h,e with
     |[],h,_=>simp at h
     |[x],_,e=>exact absurd rfl (e x)
     |_::_::_,_,_=>simp
   refine⟨(wu _).2 ⟨by simp[gq.names],λ_=>⟨hr,hlen⟩,λx hx=>(hw x hx).1⟩,by simp only;rw[jQ];omega,?_⟩;simp only;rw[jD];have:=Px (l:=r.1) (B:=jk l) λx hx=>(hw x hx).2;omega
 ·rw[aB q]at h;cases h
mutual
theorem Pz:∀t:gq,(lh t).2=true->oZ (lh t).1/\jQ (lh t).1<=jQ t/\jD (lh t).1<=jD t
| .mk k n s l,h=>by
 rw[lh]at h⊢;by_cases q:5<=k/\k<=7
 ·rw[aC q]at h⊢;by_cases q2:(kV l).2=true
  ·rw[aC q2]at h⊢;have i:=Zk l q2;have f:=znM k s _ i.1 q h;rw[jQ,jD];exact⟨f.1,by omega,by omega⟩
  ·rw[aB q2]at h;cases h
 ·rw[aB q]at h⊢;by_cases q2:0<=k/\k<=4
  ·rw[aC q2];exact⟨(NF.base k q2.1 q2.2).2,by rw[jQ];simp[bT,jQ,jM],by rw[jD];simp[bT,jD,jk]⟩
  ·rw[aB q2]at h;cases h
theorem Zk:∀l:List gq,(kV l).2=true->(∀x,x∈(kV l).1->oZ x)/\jM (kV l).1<=jM l/\jk (kV l).1<=jk l
|[],_=>by rw[kV];exact⟨λx hx=>(by cases hx),aQ _,aQ _⟩
| t::l,h=>by
 rw[kV]at h⊢;by_cases q:(lh t).2=true
 ·rw[aC q]at h⊢;have a:=Pz t q;have b:=Zk l h;refine⟨λx hx=>?_,by rw[jM,jM];omega,by rw[jk,jk];omega⟩;rcases aN.1 hx with rfl|hx
  ·exact a.1
  ·exact b.1 x hx
 ·rw[aB q]at h;cases h
end
theorem zo{t:gq}(h:iH t=true):NF t:=by
 have e:=Fs.1 h;have f:=Fq e.1;refine⟨ze h,?_⟩;rw[<-e.2,f.2.2.2];exact(Pz t f.1).1
mutual
theorem Zl:∀(t:gq) (m:Int),nX t m<=jQ t
|.mk k n s l,m=>by
 rw[nX,jQ];have:=Zm l m 1;omega
theorem Zm:∀(l:List gq) (m n:Int),qK l m n<=n+jM l
|[],m,n=>by rw[qK,jM];omega
| t::l,m,n=>by
 rw[qK,jM];split
 ·have a:=Zl t (m-n);have b:=Zm l m (n+nX t (m-n));omega
 ·omega
end
theorem Zn(f:gq->Int)(B:Int):∀(l:List gq) (h:Int),0<=h->h<=B->(∀x,x∈l->f x=min B (jD x))->l.foldl (λh k=>if h<f k then f k else h) h=max h (min B (jk l))
|[],h,h0,hB,_=>by simp only[foldl_nil,jk];omega
|t::l,h,h0,hB,hf=>by
 have ht:=hf t (by simp);rw[foldl_cons,Zn f B l _ (by split<;>omega) (by split<;>omega) λx hx=>hf x (by simp[hx]),ht,jk];split<;>omega
theorem Zo:∀(n:Nat) (t:gq),oI (n+1) t=min ((n:Int)+1) (jD t)
|0,t=>by rw[oI];have:=x9 t;omega
|n+1,t=>by
 rw[oI,Zn _ ((n:Int)+1) t.kids 0 (by omega) (by omega) λx _=>Zo n x];have:jD t=jk t.kids+1:=by cases t;rw[jD];try rfl
 rw[this];omega
theorem QA(t:gq):oI 17 t=min (17:Int) (jD t):=by rw[Zo 16 t];try rfl
theorem zE7{l:List gq}(h:∀x,x∈l->x.kind≠7):l.flatMap iy=l:=by
 induction l with
 |nil=>rfl
 |cons t l ih=>rw[flatMap_cons,ih λx hx=>h x (by simp[hx])];unfold iy;rw[aB (h t (by simp))];try rfl
theorem Zp(tag:Int):∀(l:List gq) (had:Bool) (ks:List gq),(∀x,x∈l->x.kind≠0/\iN x≠tag)->jh tag l had ks=((had,ks),true)
|[],had,ks,_=>rfl
|x::l,had,ks,h=>by
 rw[jh,aB (h x (by simp)).1,aC (h x (by simp)).2];exact Zp tag l had ks λy hy=>h y (by simp[hy])
theorem Zq(tag:Int):∀(l:List gq) (ks:List gq),(l.map iN).Pairwise (· < ·)->(∀x,x∈l->x.kind≠0)->(jh tag l false ks).1.2=ks++l.filter (λx=>decide (iN x=tag))/\(jh tag l false ks).2=true
|[],ks,_,_=>⟨by simp[jh],rfl⟩
| x::l,ks,hp,h0=>by
 rw[map_cons]at hp;have hp':=bL.1 hp;rw[jh,aB (h0 x (by simp))];by_cases q:iN x=tag
 ·have hno:∀y,y∈l->y.kind≠0/\iN y≠tag:=λy hy=>⟨h0 y (by simp[hy]),λe=>by have:=hp'.1 (iN y) (aa.2 ⟨y,hy,rfl⟩);omega⟩
  have hf:l.filter (λx=>decide (iN x=tag))=[]:=eH.2 λy hy=>by simpa using (hno y hy).2
  rw[aB (by simpa using q)];have hs:ky x ((ks++[x]).getLastD noT)=true:=by
   rw[getLastD_concat];exact NK x
  simp only[ai,if_false];rw[aC hs,Zp tag l true _ hno];simp[q,hf]
 ·rw[aC q];have i:=Zq tag l ks hp'.2 λy hy=>h0 y (by simp[hy]);rw[i.1];exact⟨by simp[q],i.2⟩
theorem Zr(all:List gq)(hp:(all.map iN).Pairwise (· < ·))(h0:∀x,x∈all->x.kind≠0):∀(l:List Int) (ks:List gq),qY all l ks=(ks++l.flatMap λt=>all.filter λx=>decide (iN x=t),true)
|[],ks=>by rw[qY];simp
|t::l,ks=>by
 have i:=Zq t all ks hp h0;rw[qY,aC i.2,Zr all hp h0 l,i.1];simp
theorem KD:∀(l:List Int) (all:List gq),l.Pairwise (· < ·)->(all.map iN).Pairwise (· < ·)->(∀x,x∈all->iN x∈l)->(l.flatMap λt=>all.filter λx=>decide (iN x=t))=all
|[],all,_,_,h=>by
 cases all with
 |nil=>rfl
 |cons x l=>exact absurd (h x (by simp)) (by simp)
| t ::l,all,hl,hp,h=>by
 have hl':=bL.1 hl;have skip:∀x:gq,iN x=t->∀r:List gq,(l.flatMap λt=>(x::r).filter λy=>decide (iN y=t))=l.flatMap λt=>r.filter λy=>decide (iN y=t):=λx hx r=>by
  rw[flatMap_def,flatMap_def];congr 1;refine bg λu hu=>?_;have:=hl'.1 u hu;rw[dS,aB (by simp only[aI];omega)]
 rw[flatMap_cons];cases all with
 |nil=>rw[KD l [] hl'.2 (by simp) (by simp)];rfl
 | cons x r=>
  rw[map_cons]at hp;have hp':=bL.1 hp;have gt:∀y,y∈r->iN x<iN y:=λy hy=>hp'.1 _ (aa.2 ⟨y,hy,rfl⟩);by_cases q:iN x=t
  ·have hf:r.filter (λx=>decide (iN x=t))=[]:=eH.2 λy hy=>by have:=gt y hy;simp only[aI];omega
   rw[dS,aC (by simpa using q),hf,skip x q r,KD l r hl'.2 hp'.2 λy hy=>?_]
   ·rfl
   ·have:=gt y hy;rcases aN.1 (h y (by simp[hy]))with e|e
    ·omega
    ·exact e
  ·have hx:iN x∈l:=(aN.1 (h x (by simp))).resolve_left q;have hxt:=hl'.1 _ hx;have hf:(x::r).filter (λx=>decide (iN x=t))=[]:=eH.2 λy hy=>by
    simp only[aI];rcases aN.1 hy with rfl|hy
    ·exact q
    ·have:=gt y hy;omega
   rw[hf,KD l (x::r) hl'.2 (by rw[map_cons];exact hp) λy hy=>?_]
   ·rfl
   ·refine(aN.1 (h y hy)).resolve_left λe=>?_;rcases aN.1 hy with rfl|hy
    ·exact q e
    ·have:=gt y hy;omega
theorem zGH{t:gq}(h:NF t)(hk:5<=t.kind/\t.kind<=7):oO t.kind t.names t.kids=(t,true):=by
 have ho:=(wu t).1 h.2;have hw:=(mI t).1 h.1;have eta:∀t:gq,t=.mk t.kind t.name t.names t.kids:=λt=>by cases t;rfl
 have e:=eta t;rw[hw.1]at e;unfold oO;rcases hw.2.2 with⟨a,b,_⟩|⟨a,b,c,d⟩|⟨a,b,c⟩|⟨a,b,c,d⟩
 ·omega
 ·rw[aC a];unfold yg;rw[aB (by omega),Ze t.names t.kids [] [] b rfl (by simpa using ho.1) d];simp only[nil_append];rw[<-a,<-e]
 ·rw[aB (by omega),aC a,c];rw[a,b]at e;rw[<-e];try rfl
 ·rw[aB (by omega),aB (by omega)];have h2:=ho.2.1 a;have hm:=zE7 (l:=t.kids) λx hx=>by have:=d x hx;omega
  have h0:∀x,x∈t.kids->x.kind≠0:=λx hx=>by have:=d x hx;omega
  have ht:∀x,x∈t.kids->iN x∈([0,1,2,3,4,5]:List Int):=λx hx=>by
   have:=d x hx;have:=(Pq (h.kid hx).1 (by omega) (by omega)).1;simp only[aN,cO,fC];omega
  unfold zV;rw[hm,Zr t.kids h2.1 h0,nil_append,KD _ _ (by decide) h2.1 ht];simp only[if_true];rw[a,b]at e;split
  ·rename_i x q;rw[q]at h2;exact absurd h2.2 (by simp)
  ·rw[<-e];simp;omega
mutual
theorem Zt:∀t:gq,NF t->lh t=(t,true)
| .mk k n s l,h=>by
 have hl:=Zu l λx hx=>h.kid hx;rw[lh];by_cases q:5<=k/\k<=7
 ·rw[aC q,hl,aC rfl];exact zGH h q
 ·rw[aB q];rcases((mI _).1 h.1).2.2 with⟨a,b,c,d⟩|⟨a,_⟩|⟨a,_⟩|⟨a,_⟩
  ·have hn:=((mI _).1 h.1).1;simp only[gq.kind,gq.names,gq.kids,gq.name]at a b c d hn;rw[aC ⟨a,b⟩,c,d,hn];try rfl
  all_goals simp only[gq.kind]at a;omega
theorem Zu:∀l:List gq,(∀x,x∈l->NF x)->kV l=(l,true)
|[],_=>by rw[kV]
|t::l,h=>by
 have a:=Zt t (h t (by simp));have b:=Zu l λx hx=>h x (by simp[hx]);rw[kV,a,b,aC rfl]
end
theorem Da{t:gq}(h:NF t)(hc:jQ t<=200)(hd:jD t<=16):iH t=true:=by
 have a:=Zl t 201;have b:=QA t;rw[Fs];unfold mQ;rw[aB (by omega),Zt t h,aC rfl];exact⟨rfl,rfl⟩
theorem Db{t:gq}(h:iH t=true):jD t<=16:=by
 have e:=(Fq (Fs.1 h).1).2.2.1;have b:=QA t;omega
theorem KE{t:gq}(h:(mQ t).2=0):iH (mQ t).1=true:=by
 have f:=Fq h;have o:=Pz t f.1;have b:=QA t;have c:=NU t 201 (by omega);rw[f.2.2.2];exact Da ⟨NT t f.1,o.1⟩ (by omega) (by omega)
theorem KF{t x:gq}(h:iH t=true)(hx:x∈t.kids):iH x=true:=by
 have a:=Fu h;have b:=Db h;have c:=wV hx;have d:jQ x<jQ t:=by
  cases t;rw[jQ];have:=NV hx;simp only[gq.kids]at this;omega
 exact Da ((zo h).kid hx) (by omega) (by omega)
theorem ww(k:Int)(h0:0<=k)(h4:k<=4):iH (bT k)=true:=Da (NF.base k h0 h4) (by simp[bT,jQ,jM]) (by simp[bT,jD,jk])
theorem zq:iH noT=true:=ww 0 (by omega) (by omega)
theorem Zv:iH (bT 5)=true:=Da NF.bt5 (by simp[bT,jQ,jM]) (by simp[bT,jD,jk])
theorem zGI:iH (kS noT noT)=true:=Da (NF.fn NF.no NF.no) (by decide) (by decide)
theorem zGJ{s:fI}(h:nG s=true):iH (.mk 5 (bs []) [s] [noT])=true:=
 Da ⟨(mI _).2 ⟨rfl,λx hx=>by rw[aK.1 hx];exact rQ,.inr (.inl ⟨rfl,rfl,by simp[gq.names],λx hx=>by rw[aK.1 hx];exact h⟩)⟩,by simp[oZ,BC];exact NF.no.2⟩ (by simp[jQ,jM,noT]) (by simp[jD,jk,noT])
theorem zDP{t:gq}(h:iH t=true)(k:fI):iH (je t k).1=true:=by
 rcases((zo h).field k).2 with e|e
 ·exact KF h e
 ·rw[e];exact zq
theorem zGK{a b:gq}(ha:iH a=true)(hb:iH b=true):iH (yh a b)=true:=by
 unfold yh;split
 ·exact hb
 split
 ·exact ha
 split
 ·exact zq
 split
 ·exact zq
 ·split
  ·rename_i h;exact KE h
  ·exact zq
theorem zDQ(p:gq->Bool)(l:List gq):jM (l.filter p)<=jM l:=Py p l
theorem zDR{t:gq}(h:iH t=true)(tag:Int):iH (vS t tag).1=true/\iH (vS t tag).2=true:=by
 unfold vS;split
 ·exact⟨h,h⟩
 rename_i q;split
 ·split
  ·exact⟨h,h⟩
  ·rename_i q5;by_cases q4:tag=4
   ·subst q4;exact⟨Zv,h⟩
   ·exact⟨ww _ (by omega) (by omega),h⟩
 rename_i h0;split
 ·exact⟨h,h⟩
 rename_i hp;split
 ·exact⟨h,h⟩
 rename_i h7;have h7:t.kind=7:=by omega
 have hm:=(DN (l:=kF t) (tag:=tag) (by simpa using hp)).1;have hk:(jv (kF t) tag).1.t∈t.kids:=by
  unfold kF at hm⊢;rw[aB h0,aB (by omega)]at hm⊢;obtain⟨x,hx,e⟩:=aa.1 hm;rw[<-e];exact hx
 have n1:=KF h hk;have hsub:∀x,x∈t.kids.filter (λk=>decide (iN k≠tag))->x∈t.kids:=λx hx=>(bB.1 hx).1;split
 ·rename_i r e;exact⟨n1,KF h (hsub r (by rw[e];simp))⟩
 ·rename_i L e;refine⟨n1,?_⟩;have nf:=zo h;have hw:=(mI t).1 nf.1;have ho:=((wu t).1 nf.2).2.1 h7;have hw7:t.kids.length<=6/\∀x,x∈t.kids->1<=x.kind/\x.kind<=6:=by
   rcases hw.2.2 with⟨_,a,_⟩|⟨a,_⟩|⟨a,_⟩|⟨_,_,a,b⟩
   ·omega
   ·omega
   ·omega
   ·exact⟨a,b⟩
  have hlen:2<=(t.kids.filter λk=>decide (iN k≠tag)).length:=by
   have hpos:0<(t.kids.filter λk=>decide (iN k≠tag)).length:=by
    match hl:t.kids,ho with
    |[],ho=>exact absurd ho.2 (by simp)
    |[_],ho=>exact absurd ho.2 (by simp)
    |a::b::r,ho=>
     have hab:=(bL.1 ho.1).1 (iN b) (by simp);by_cases qa:iN a=tag
     ·exact length_pos_of_mem (a:=b) (bB.2 ⟨by simp,by simp only[aI];omega⟩)
     ·exact length_pos_of_mem (a:=a) (bB.2 ⟨by simp,by simpa using qa⟩)
   match hf:t.kids.filter (λk=>decide (iN k≠tag)),hpos,e with
   |[],hp,_=>simp at hp
   |[x],_,e=>exact absurd rfl (e x)
   |_::_::_,_,_=>simp
  have hc:=zDQ (λk=>decide (iN k≠tag)) t.kids;have hle:=bQ (λk=>decide (iN k≠tag)) t.kids;have c1:=Fu h;have c2:=Db h;have e1:jQ t=jM t.kids+1:=by cases t;rw[jQ];try rfl
  have e2:jD t=jk t.kids+1:=by cases t;rw[jD];try rfl
  have hd:=Px (l:=t.kids.filter λk=>decide (iN k≠tag)) (B:=jk t.kids) λx hx=>Bn (hsub x hx);refine Da ⟨(mI _).2 ⟨rfl,λx hx=>(nf.kid (hsub x hx)).1,.inr (.inr (.inr ⟨rfl,rfl,?_,λx hx=>hw7.2 x (hsub x hx)⟩))⟩,(wu _).2 ⟨by simp[gq.names],λ_=>⟨?_,hlen⟩,λx hx=>(nf.kid (hsub x hx)).2⟩⟩ (by simp only;rw[jQ];omega) (by simp only;rw[jD];omega)
  ·show(t.kids.filter _).length<=6;omega
  ·show((t.kids.filter _).map iN).Pairwise _;exact ho.1.sublist (List.filter_sublist.map iN)
theorem zCh{t:gq}{vars:List fI}{wth:List gq}(h:(qo t vars wth).2=0):iH (qo t vars wth).1=true:=by
 unfold qo at h⊢;split
 ·rename_i q;rw[aC q]at h;cases h
 rename_i q;rw[aB q]at h;split
 ·rename_i q;rw[aC q]at h;cases h
 rename_i q;rw[aB q]at h;split
 ·rename_i q;rw[aC q]at h;exact KE h
 ·rename_i q;rw[aB q]at h;cases h
mutual
def kL:gz->Prop
|.mk k tx n _ _ _ _ ks=>(k=9->nG tx=true)/\(k=2->n=0\/n=1)/\(k=12->0<=n/\n<6)/\wy ks
def wy:List gz->Prop
|[]=>True
|n::l=>kL n/\wy l
end
theorem QB:∀l:List gz,wy l↔∀x,x∈l->kL x
|[]=>by simp[wy]
|n::l=>by simp[wy,QB l]
theorem Zw:∀l:List UInt8,(l.take (jE false l)).all (λb=>mX b||kJ b)=true
|[]=>by simp[jE]
| b::l=>by
 rw[jE];split
 ·rename_i h;rw[take_succ_cons,all_cons,Zw l];simpa[Bool.or_comm]using h
 ·simp
theorem zGA{c:UInt8}(h:mX c=true):kJ c=false:=by
 unfold mX sw at h;unfold kJ pQ;simp only[aI,bM]at*
 omega
theorem zGB:∀{l:List UInt8},(jF l).e=0->(jF l).kind=1->nG (bA (jF l).text)=true
|[],h,_=>absurd h (by decide)
| c::r,h,k=>by
 unfold jF at h k⊢;simp only at h k⊢;by_cases c1:mX c=true
 ·rw[aC c1]at h k⊢;by_cases c2:32<jE false (c::r)
  ·rw[aC c2]at h;exact absurd h (by decide)
  rw[aB c2]at h k⊢;simp only at h k⊢;have hw:¬zO (bA ((c::r).take (jE false (c::r))))=true:=λz=>by rw[aC z]at k;exact absurd k (by decide)
  have ha:=Zw (c::r);have e:jE false (c::r)=jE false r+1:=by rw[jE,aC (by simp[c1])]
  rw[e,take_succ_cons]at hw ha⊢;rw[aL]at hw;have hs:(bA (c::r.take (jE false r))).size<=32:=by
   show(c::r.take (jE false r)).toArray.size<=32;simp only[size_toArray,length_cons,bH];omega
  unfold nG;show(decide ((bA (c::r.take (jE false r))).size<=32)&&(!zO (bA (c::r.take (jE false r)))&&(!kJ c&&(c::r.take (jE false r)).all λb=>mX b||kJ b)))=true;rw[hw,zGA c1,ha];simpa using hs
 rw[aB c1]at h k⊢;exfalso;revert h k;repeat' split
 all_goals (intro h k;first|exact absurd k (by simp)|exact absurd h (by simp[lV]))
def zt(L:List Tok):Prop:=∀i,(L.getD i yB).kind=1->nG (L.getD i yB).text=true
theorem Zx{L:List Tok}{t:Tok}(h:zt L)(ht:t.kind=1->nG t.text=true):zt (L++[t]):=λi hk=>by
 rw[aH,getElem?_append]at hk⊢;split at hk
 ·rename_i q;rw[aC q,<-aH];rw[<-aH]at hk;exact h i hk
 ·rename_i q;rw[aB q];by_cases z:i-L.length=0
  ·rw[z]at hk⊢;exact ht hk
  ·rw[aS (by simp;omega)]at hk;exact absurd hk (by decide)
theorem Zy:∀(n:Nat) (l:List UInt8) (a b:Int) (ts:List Tok),zt ts->zt (oh n l a b ts).1
|0,l,a,b,ts,h=>by rw[oh];exact h
| n+1,l,a,b,ts,h=>by
 rw[oh];simp only;split
 ·exact Zx h λk=>absurd (show(0:Int)=1 from k) (by decide)
 have ht:=zGB (l:=l.drop (ig false l));generalize jF (l.drop (ig false l))=t at*
 obtain⟨e,he⟩:∃e,(if t.e=0/\ts.length=8192 then 19 else t.e)=e:=⟨_,rfl⟩
 rw[he];split
 ·exactλi k=>absurd k (by simp[yB])
 ·rename_i q;have e0:t.e=0:=by
   apply bE;intro z;rw[aB (λy=>z y.1)]at he;omega
  exact Zy n _ _ _ _ (Zx h λk=>ht e0 k)
theorem zH0(s:fI):zt (lI s).1:=by
 unfold lI;split
 ·exactλi k=>absurd k (by simp[yB])
 ·exact Zy _ _ _ _ _ λi k=>absurd k (by simp[yB])
section
variable {L:List Tok}
theorem Tm.z{p q:PS}(h:Tm L p q)(e:q.e=0):p.e=0:=bE λz=>h.bad z e
theorem zGC(hN:zt L){p:PS}(h:(jK L p).2.e=0):nG (jK L p).1=true:=by
 unfold jK at h⊢;split
 ·rename_i q;exact hN _ q.2
 ·rename_i q;rw[aB q]at h;exact absurd h (FR (by decide))
theorem tX{p:PS}{k:Int}{t:fI}{n:Int}{ts:List gq}{ns:List fI}{ks:List gz}(h:wy ks)(s:k≠9/\k≠2/\k≠12):kL (kZ L p k t n ts ns ks):=by
 unfold kZ;rw[kL];exact⟨λz=>absurd z s.1,λz=>absurd z s.2.1,λz=>absurd z s.2.2,h⟩
theorem s1{a:gz}(h:kL a):wy [a]:=⟨h,trivial⟩
theorem s2{a b:gz}(h:kL a)(k:kL b):wy [a,b]:=⟨h,k,trivial⟩
def pq(L:List Tok)(f:PS->gz × PS):Prop:=∀p,p.at'<L.length->(f p).2.e=0->kL (f p).1
theorem zGD(hL:jL L){ki:PS->gq × PS}{ex rk:PS->gz × PS}(hk:iD L ki)(he:iD L ex)(ne:pq L ex)(nr:pq L rk):pq L (zQ L ki ex rk):=λp hp=>by
 unfold zQ;split
 ·have h1:=iw hL hp (s:=tC);have h2:=h1.trans (mE hL h1.lt);have h3:=h2.trans (zT hL hk _ h2.lt);have h4:=(mE hL h1.lt).trans ((zT hL hk _ h2.lt).trans (jH hL h3.lt (s:=bs [61])));have h5:=he _ h4.lt;have h6:=jH hL h5.lt (s:=bs [59]);have h7:=he _ h6.lt;intro e;exact tX (s2 (ne _ h4.lt (h6.z (h7.z e))) (ne _ h6.lt e)) (by decide)
 split
 ·have h1:=iw hL hp (s:=AZ);have h2:=he _ h1.lt;have h3:=jH hL h2.lt (s:=Cn);have h4:=he _ h3.lt;have h5:=jH hL h4.lt (s:=Co);have h6:=he _ h5.lt;intro e;have e4:=h5.z (h6.z e);exact tX ⟨ne _ h1.lt (h3.z (h4.z e4)),ne _ h3.lt e4,ne _ h5.lt e,trivial⟩ (by decide)
 split
 ·have h1:=iw hL hp (s:=uD);have h2:=Bf hL hk _ h1.lt;have h3:=h2.trans (jH hL h2.lt (s:=bs [61,62]));intro e;exact tX (s1 (ne _ h3.lt e)) (by decide)
 ·exact nr p hp
theorem Zz(hL:jL L){rk:PS->gz × PS}(hr:iD L rk)(nr:pq L rk)(signs:List fI):∀(n:Nat) (a:gz) (p:PS),p.at'<L.length->Tm L p (kg L rk signs n a p).2/\(kL a->(kg L rk signs n a p).2.e=0->kL (kg L rk signs n a p).1)
|0,a,p,hp=>by rw[kg];exact⟨Tm.refl hp,λha _=>ha⟩
| n+1,a,p,hp=>by
 rw[kg];split
 ·exact⟨Tm.refl hp,λha _=>ha⟩
 ·rename_i s q h;have h1:=Cz hL _ hp h;have h2:=hr _ h1.1.lt;have r:=Zz hL hr nr signs n (kZ L p 14 s 0 [] [] [a,(rk q).1]) (rk q).2 h2.lt;exact⟨(h1.1.trans h2).trans r.1,λha e=>r.2 (tX (s2 ha (nr _ h1.1.lt (r.1.z e))) (by decide)) e⟩
theorem zH1(hL:jL L){ki:PS->gq × PS}{rk:PS->gz × PS}(hk:iD L ki)(hr:iD L rk)(nr:pq L rk):pq L (rf L ki rk):=λp hp=>by
 have h1:=hr p hp;have n1:=nr p hp;unfold rf;simp only;split
 ·rename_i s q h;have h2:=Cz hL _ h1.lt h;have h3:=hr _ h2.1.lt;intro e;exact tX (s2 (n1 (h2.1.z (h3.z e))) (nr _ h2.1.lt e)) (by decide)
 split
 ·have h2:=iw hL h1.lt (s:=bs [97,115]);have h3:=hk _ h2.lt;intro e;exact tX (s1 (n1 (h2.z (h3.z e)))) (by decide)
 split
 ·have h2:=iw hL h1.lt (s:=bs [105,115]);split
  ·rename_i i q h;have h3:=FT hL _ _ h2.lt h;intro e;have:xM.length=6:=rfl;unfold kZ;rw[kL];exact⟨λz=>absurd z (by decide),λz=>absurd z (by decide),λ_=>by omega,s1 (n1 (h2.z h3.2.2.1))⟩
  ·intro e;exact absurd e (FR (by decide))
 ·exact n1
theorem zGE(hL:jL L){ki:PS->gq × PS}{un:PS->gz × PS}(hk:iD L ki)(hu:iD L un)(nu:pq L un):pq L (FO L ki un):=by
 obtain⟨t5,t4,t3,t2,t1,t0⟩:=FV hL hk hu;have op:∀(f:PS->gz × PS) (signs:List fI),iD L f->pq L f->pq L (λp=>kg L f signs (L.length+1) (f p).1 (f p).2):=λf signs tf nf p hp e=>by
  have r:=Zz hL tf nf signs (L.length+1) (f p).1 (f p).2 (tf p hp).lt;exact r.2 (nf p hp (r.1.z e)) e
 have n5:pq L (Cq L un):=op un (r9 5) hu nu;have n4:pq L (Cr L un):=op _ (r9 4) t5 n5;have n3:pq L (FN L un):=op _ (r9 3) t4 n4;have n2:pq L (Cs L ki un):=zH1 hL hk t3 n3;have n1:pq L (Ct L ki un):=op _ (r9 1) t2 n2;exact op _ (r9 0) t1 n1
theorem zA0(hL:jL L){ex:PS->gz × PS}(he:iD L ex)(ne:pq L ex):∀(n:Nat) (ns:List fI) (ks:List gz) (p:PS),p.at'<L.length->wy ks->(uT L ex n ns ks p).2.e=0->wy (uT L ex n ns ks p).1.2
|0,ns,ks,p,hp,hk,e=>by rw[uT];exact hk
| n+1,ns,ks,p,hp,hk,e=>by
 have h1:=mE hL hp;have h2:=h1.trans (jH hL h1.lt (s:=bs [58]));have h3:=he _ h2.lt;have h4:=iw hL h3.lt (s:=bs [44]);have w:(ex (jO L (bs [58]) (jK L p).2)).2.e=0->wy (ks++[(ex (jO L (bs [58]) (jK L p).2)).1]):=λe=>(QB _).2 λx hx=>by
  rcases aM.1 hx with hx|hx
  ·exact(QB _).1 hk x hx
  ·rw[aK.1 hx];exact ne _ h2.lt e
 rw[uT]at e⊢;split
 ·rename_i c;rw[aC c]at e;exact zA0 hL he ne n _ _ _ h4.lt (w (h4.z ((FW hL he n _ _ _ h4.lt).z e))) e
 ·rename_i c;rw[aB c]at e;exact w (h4.z e)
theorem zDN(hL:jL L){ex:PS->gz × PS}(he:iD L ex)(ne:pq L ex)(q p:PS)(hp:p.at'<L.length):(vQ L ex q p).2.e=0->kL (vQ L ex q p).1:=by
 unfold vQ;split
 ·exactλ_=>tX trivial (by decide)
 split
 ·have h1:=he p hp;have h2:=jH hL h1.lt (s:=Cu);have h3:=h2.trans (mE hL h2.lt);have h4:=h3.trans (jH hL h3.lt (s:=bs [58]));have h5:=he _ h4.lt;have h6:=jH hL h5.lt (s:=bs [125]);intro e;have e5:=h6.z e;exact tX (s2 (ne _ hp (h4.z (h5.z e5))) (ne _ h4.lt e5)) (by decide)
 ·have h1:=FW hL he (L.length+1) [] [] p hp;have h2:=jH hL h1.lt (s:=bs [125]);intro e;exact tX (zA0 hL he ne (L.length+1) [] [] p hp trivial (h2.z e)) (by decide)
theorem zGF(hL:jL L){ki:PS->gq × PS}{ex:PS->gz × PS}(hk:iD L ki)(he:iD L ex)(ne:pq L ex):pq L (xN L ki ex):=λp hp=>by
 unfold xN;by_cases c0:p.e=0/\(iL L p).kind=3
 ·rw[aC c0];exactλ_=>tX trivial (by decide)
 rw[aB c0];by_cases c1:p.e=0/\(iL L p).kind=4
 ·rw[aC c1];exactλ_=>tX trivial (by decide)
 rw[aB c1];by_cases c2:(iG L Cv p).1=true
 ·rw[aC c2];exactλ_=>by unfold kZ;rw[kL];exact⟨λz=>absurd z (by decide),λ_=>by omega,λz=>absurd z (by decide),trivial⟩
 rw[aB c2];by_cases c3:(iG L Cw p).1=true
 ·rw[aC c3];exactλ_=>by unfold kZ;rw[kL];exact⟨λz=>absurd z (by decide),λ_=>by omega,λz=>absurd z (by decide),trivial⟩
 rw[aB c3];by_cases c4:(iG L Cx p).1=true
 ·rw[aC c4];exactλ_=>tX trivial (by decide)
 rw[aB c4];by_cases c5:(iG L yZ p).1=true
 ·rw[aC c5];exactλ_=>tX trivial (by decide)
 rw[aB c5];by_cases c6:(iG L yC p).1=true
 ·rw[aC c6];have h1:=iw hL hp (s:=yC);have h2:=jH hL h1.lt (s:=bs [40]);have h3:=he _ h2.lt;exactλe=>tX (s1 (ne _ h2.lt ((jH hL h3.lt (s:=bs [41])).z e))) (by decide)
 rw[aB c6];by_cases c7:(iG L (bs [40]) p).1=true
 ·rw[aC c7];have h1:=iw hL hp (s:=bs [40]);exactλe=>ne _ h1.lt ((jH hL (he _ h1.lt).lt (s:=bs [41])).z e)
 rw[aB c7];by_cases c8:(iG L (bs [123]) p).1=true
 ·rw[aC c8];exact zDN hL he ne p _ (iw hL hp (s:=bs [123])).lt
 rw[aB c8];intro _;show kL (if(iG L (bs [91]) (jK L p).2).1=true then _ else _:gz × PS).1;split
 ·exact tX trivial (by decide)
 ·exact tX trivial (by decide)
theorem QC(hL:jL L)(hN:zt L){ex:PS->gz × PS}(he:iD L ex)(ne:pq L ex):∀(n:Nat) (a:gz) (p:PS),p.at'<L.length->Tm L p (tF L ex n a p).2/\(kL a->(tF L ex n a p).2.e=0->kL (tF L ex n a p).1)
|0,a,p,hp=>by rw[tF];exact⟨Tm.refl hp,λha _=>ha⟩
| n+1,a,p,hp=>by
 rw[tF];split
 ·have h1:=iw hL hp (s:=bs [40]);have h2:=he _ h1.lt;have h3:=jH hL h2.lt (s:=bs [41]);have r:=QC hL hN he ne n (kZ L p 7 (bs []) 0 [] [] [a,(ex (iG L (bs [40]) p).2).1]) _ h3.lt;exact⟨((h1.trans h2).trans h3).trans r.1,λha e=>r.2 (tX (s2 ha (ne _ h1.lt (h3.z (r.1.z e)))) (by decide)) e⟩
 split
 ·have h1:=iw hL hp (s:=bs [46]);have h2:=mE hL h1.lt;have r:=QC hL hN he ne n (kZ L p 9 (jK L (iG L (bs [46]) p).2).1 0 [] [] [a]) _ h2.lt;exact⟨(h1.trans h2).trans r.1,λha e=>r.2 (by unfold kZ;rw[kL];exact⟨λ_=>zGC hN (r.1.z e),λz=>absurd z (by decide),λz=>absurd z (by decide),s1 ha⟩) e⟩
 ·exact⟨Tm.refl hp,λha _=>ha⟩
theorem zE4(hL:jL L)(hN:zt L){ki:PS->gq × PS}{ex un:PS->gz × PS}(hk:iD L ki)(he:iD L ex)(ne:pq L ex)(nu:pq L un):pq L (zR L ki ex un):=λp hp=>by
 unfold zR;split
 ·exactλe=>tX (s1 (nu _ (iw hL hp (s:=bs [45])).lt e)) (by decide)
 split
 ·exactλe=>tX (s1 (nu _ (iw hL hp (s:=tH)).lt e)) (by decide)
 ·have ta:=Ik hL hk he p hp;have r:=QC hL hN he ne (L.length+1) (xN L ki ex p).1 (xN L ki ex p).2 ta.lt;exactλe=>r.2 (zGF hL hk he ne p hp (r.1.z e)) e
theorem zIM(hL:jL L)(hN:zt L){ki:PS->gq × PS}(hk:iD L ki)(d:Nat):pq L (uU L ki d).1/\pq L (uU L ki d).2:=by
 have n0:kL qh:=by simp[kL,qh,wy]
 induction d with
 |zero=>exact⟨λp hp _=>n0,λp hp _=>n0⟩
 | succ d ih=>
  have tm:=FX hL hk d;have up:∀(f:PS->gz × PS),pq L f->pq L (λp=>if(jT L p).1=true then uS (f (jT L p).2)else(qh,(jT L p).2)):=λf nf p hp=>by
   show(if(jT L p).1=true then _ else _:gz × PS).2.e=0->kL (if(jT L p).1=true then _ else _:gz × PS).1;by_cases c:(jT L p).1=true
   ·have hp':(jT L p).2.at'<L.length:=by rw[(zS c).1];exact hp
    rw[aC c];exactλe=>nf _ hp' e
   ·rw[aB c];exactλ_=>n0
  rw[uU];exact⟨up _ (zGD hL hk tm.1 ih.1 (zGE hL hk tm.2 ih.2)),up _ (zE4 hL hN hk tm.1 ih.1 ih.2)⟩
theorem zA1(hL:jL L)(hN:zt L):∀(n:Nat) (l:List jd) (p:PS),p.at'<L.length->(ru L n l p).2.e=0->(∀d,d∈l->kL d.body)->∀d,d∈(ru L n l p).1->kL d.body
|0,l,p,hp,e,h,d,hd=>by rw[ru]at hd;exact h d hd
| n+1,l,p,hp,e,h,d,hd=>by
 rw[ru]at hd e;split at hd
 ·rename_i c;rw[aC c]at e;have h1:=M5 hL p hp;have e1:=(Ir hL n (l++[(rq L p).1]) _ h1.lt).z e;refine zA1 hL hN n _ _ h1.lt e (λx hx=>?_) d hd;rcases aM.1 hx with hx|hx
  ·exact h x hx
  ·rw[aK.1 hx];have h1:=iw hL hp (s:=A7);have h2:=h1.trans (jH hL h1.lt (s:=uD));have h3:=h2.trans (mE hL h2.lt);have h4:=h3.trans (Iq hL _ h3.lt);have h5:=h4.trans (Bf hL (yc hL) _ h4.lt);have h6:=h5.trans (jH hL h5.lt (s:=bs [61]));have h7:=Ip hL _ h6.lt;exact(zIM hL hN (yc hL) 102).1 _ h6.lt ((jH hL h7.lt (s:=bs [59])).z e1)
 ·exact h d hd
end
theorem zE5(s:fI):∀d,d∈(qW s).1.decs->kL d.body:=λd hd=>by
 unfold qW at hd;simp only at hd;by_cases q1:(lI s).2.e=0
 ·obtain⟨hL,hl⟩:=JB q1;rw[aB (λz=>z q1)]at hd;split at hd
  ·cases hd
  ·rename_i q2;have h0:ps0.at'<(lI s).1.length:=hL.pos;refine zA1 hL (zH0 s) _ _ _ (F6 hL _ _ _ h0).lt ?_ (λx hx=>by cases hx) d hd;apply bE;intro z;refine q2 ?_;unfold uZ;rw[aB (λy=>z y.1)];exact z
 ·rw[aC q1]at hd;cases hd
def mq(M G:Nat)(k n:Int)(ns:List fI)(ts:List gq)(q:Nat):Prop:=
((k=0\/k=1\/k=3\/k=4\/k=20)/\q=0)\/(k=2/\q=0/\(n=0\/n=1))\/(k=6/\q=0/\0<=n/\n<G)\/((k=5\/k=9\/k=16\/k=17\/k=19)/\q=1)\/(k=12/\q=1/\0<=n/\n<6)\/((k=7\/k=10\/k=14\/k=15\/k=18)/\q=2)\/(k=13/\q=2/\0<=n/\n<11)\/(k=11/\q=3)\/(k=8/\ns.length=q/\ns.Nodup)\/(k=21/\q=1/\0<=n/\n<M/\∃a b,ts=[a,b]/\iH a=true/\iH b=true)
theorem mq.cast{M G:Nat}{n:Int}{ns:List fI}{a b:gq}(h0:0<=n)(h1:n<M)(ha:iH a=true)(hb:iH b=true):mq M G 21 n ns [a,b] 1:=by
 simp[mq];exact⟨h0,h1,a,b,⟨rfl,rfl⟩,ha,hb⟩
mutual
def jl(M G:Nat):iB->Prop
|.mk k n _ _ ns ts cs ks=>(mq M G k n ns ts ks.length/\cs=[])/\jS M G ks
def jS(M G:Nat):List iB->Prop
|[]=>True
|c::l=>jl M G c/\jS M G l
end
structure oD (s s':CS):Prop where
 e:s'.e=0->s.e=0
 sites:s.sites.length<=s'.sites.length
 tab:s.tab.length<=s'.tab.length
theorem oD.refl(s:CS):oD s s:=⟨id,aQ _,aQ _⟩
theorem oD.trans{a b c:CS}(h:oD a b)(k:oD b c):oD a c:=⟨λe=>h.e (k.e e),ak h.sites k.sites,ak h.tab k.tab⟩
theorem Ei(a b e:Int)(s:CS):oD s (lG a b e s):=by
 unfold lG;split
 ·rename_i q;exact⟨λ_=>q,aQ _,aQ _⟩
 ·exact oD.refl s
theorem Ej{a b e:Int}{s:CS}(h:e≠0):(lG a b e s).e≠0:=by
 unfold lG;split
 ·exact h
 ·rename_i q;exact q
section
variable (M G:Nat)
def pE(s:CS)(P:Prop)(s':CS):Prop:=oD s s'/\(s'.e=0->s'.sites.length<=M->s'.tab.length<=G->P)
variable {M G}
theorem pE.ret{s:CS}{P:Prop}(h:P):pE M G s P s:=⟨oD.refl s,λ_ _ _=>h⟩
theorem pE.bind{s t u:CS}{P Q:Prop}(h:pE M G s P t)(k:pE M G t Q u):pE M G s (P/\Q) u:=
⟨h.1.trans k.1,λe a b=>⟨h.2 (k.1.e e) (ak k.1.sites a) (ak k.1.tab b),k.2 e a b⟩⟩
theorem pE.imp{s t:CS}{P Q:Prop}(h:pE M G s P t)(f:P->Q):pE M G s Q t:=⟨h.1,λe a b=>f (h.2 e a b)⟩
theorem pE.fail{s:CS}{P:Prop}{a b e:Int}(h:e≠0):pE M G s P (lG a b e s):=⟨Ei a b e s,λz=>absurd z (Ej h)⟩
theorem Dc(t:gq)(a b:Int)(s:CS):pE M G s (iH (kH t a b s).1=true) (kH t a b s).2:=by
 unfold kH;simp only;split
 ·exact .fail (by decide)
 ·rename_i q;exact .ret (zCh (by simpa using q))
theorem KG(t:gq)(a b:Int)(s:CS):pE M G s (iH (pW t a b s).1=true/\(mQ t).2=0) (pW t a b s).2:=by
 unfold pW;simp only;split
 ·exact .fail (by decide)
 ·rename_i q;have q:(mQ t).2=0:=by simpa using q
  exact .ret ⟨KE q,q⟩
theorem Gy(x:iB)(t u:gq)(a b:Int)(s:CS):pE M G s (jl M G x->iH t=true->iH u=true->jl M G (mR x t u a b s).1) (mR x t u a b s).2:=by
 unfold mR;split
 ·exact .ret λh _ _=>h
 ·rename_i q;have q:s.e=0:=by simpa using q
  refine⟨⟨λ_=>q,by simp,aQ _⟩,λ_ h _ hx ht hu=>?_⟩;simp only[aX,length_cons,length_nil]at h;simp only[jl,jS,and_true];exact⟨.cast (by omega) (by omega) ht hu,hx⟩
theorem CK(x:iB)(t u:gq)(a b:Int)(s:CS):pE M G s (jl M G x->iH t=true->iH u=true->jl M G (kz x t u a b s).1) (kz x t u a b s).2:=by
 unfold kz;split
 ·exact .ret λh _ _=>h
 split
 ·exact .ret λh _ _=>h
 split
 ·exact Gy x t u a b s
 ·exact .fail (by decide)
theorem zHw(u:gq)(hu:iH u=true)(a b:Int)(x:(iB × gq) × CS):pE M G x.2 (jl M G x.1.1/\iH x.1.2=true->jl M G (ko u a b x).1.1/\iH (ko u a b x).1.2=true) (ko u a b x).2:=by
 unfold ko;split
 ·exact(Gy _ _ _ _ _ _).imp λh k=>⟨h k.1 k.2 hu,hu⟩
 ·exact .ret id
theorem KH(a b:Int):∀(ts l:List gq) (s:CS),oD s (sQ a b ts l s).2
|[],l,s=>by rw[sQ];exact oD.refl s
|t::ts,l,s=>by
 rw[sQ];split
 ·exact oD.refl s
 ·exact(Dc (M:=0) (G:=0) t a b s).1.trans (KH a b ts _ _)
theorem zHW{l:List kY}{x:kY}:l.length<=(kr 256 l x).2.length/\((kr 256 l x).1.2=0->0<=(kr 256 l x).1.1/\(kr 256 l x).1.1<(kr 256 l x).2.length):=by
 have h:=Ea (λy=>Ad y x) l;unfold kr;split
 ·exact⟨aQ _,λz=>absurd z (by simp)⟩
 split
 ·rename_i q;refine⟨aQ _,λ_=>⟨q,?_⟩⟩;simp only;omega
 split
 ·exact⟨aQ _,λz=>absurd z (by simp)⟩
 ·exact⟨by simp,λ_=>by simp;omega⟩
def pu(env:Env):Prop:=∀v,v∈env->iH v.2=true
theorem pu.more{env:Env}(h:pu env)(x:fI){t:gq}(ht:iH t=true):pu (env++[(x,t)]):=λv hv=>by
 rcases aM.1 hv with hv|hv
 ·exact h v hv
 ·rw[aK.1 hv];exact ht
theorem pu.get{env:Env}(h:pu env)(k:Nat):iH (env.getD k (bs [],noT)).2=true:=by
 rw[aH];cases e:env[k]? with
 |none=>exact zq
 |some v=>exact h v (ae e)
variable (M G)
def jb(i:Inf):Prop:=∀env s,pE M G s (pu env->jl M G (i env s).1.1/\iH (i env s).1.2=true) (i env s).2
variable {M G}
section
variable (L:iV)
theorem zAF(a b:Int)(e:jI)(l:List gq)(s:CS):pE M G s (jl M G (tN L a b e l s).1.1/\iH (tN L a b e l s).1.2=true) (tN L a b e l s).2:=by
 unfold tN;split
 ·exact .fail (by decide)
 ·rename_i q;simp only;have h:=zHW (l:=s.tab) (x:=⟨e.module,e.decl,l⟩);generalize kr 256 s.tab ⟨e.module,e.decl,l⟩=r at*
  have k:oD s {s with tab:=r.2}:=⟨id,aQ _,h.1⟩
  split
  ·rename_i q2;exact⟨k.trans (Ei _ _ _ _),λz=>absurd z (Ej q2)⟩
  ·rename_i q2;have q2:=h.2 (by simpa using q2);refine⟨k,λ_ _ hG=>⟨?_,?_⟩⟩
   ·simp only[cN,jl,jS,and_true];simp[mq];simp only at hG;omega
   ·have q:(tL L e l).2=true:=by simpa using q
    unfold tL at q⊢;simp only[aG,aI]at q;exact KE q.2.2
theorem zHX(n:gz):jb M G (xU L n):=λenv s=>by
 unfold xU;simp only;split
 ·exact .ret λhe=>⟨by simp[cN,jl,jS,mq],he.get _⟩
 split
 ·exact .fail (by decide)
 split
 ·exact .fail (by decide)
 split
 ·exact .fail (by decide)
 split
 ·exact(zAF L _ _ _ _ _).imp λh _=>h
 split
 ·rename_i q;exact⟨KH _ _ _ _ _,λz=>absurd z q⟩
 split
 ·rename_i q;exact⟨(KH _ _ _ _ _).trans (Ei _ _ _ _),λz=>absurd z (Ej q)⟩
 ·have h:=zAF (M:=M) (G:=G) L n.line n.col (ql (L.scopes.getD s.module.toNat []) n.text).1 (sQ n.line n.col n.types [] s).1 (sQ n.line n.col n.types [] s).2;exact⟨(KH _ _ _ _ _).trans h.1,λe a b _=>h.2 e a b⟩
theorem zJr(n a:gz){ia ib:Inf}(ha:jb M G ia)(hb:jb M G ib):jb M G (pX n a ia ib):=λenv s=>by
 unfold pX;simp only;have h1:=ha env s;generalize ia env s=x at*
 obtain⟨y,hy⟩:∃y,(if 0<n.types.length/\x.2.e=0 then(((kz x.1.1 x.1.2 (kH (n.types.getD 0 noT) n.line n.col x.2).1 a.line a.col (kH (n.types.getD 0 noT) n.line n.col x.2).2).1,(kH (n.types.getD 0 noT) n.line n.col x.2).1),(kz x.1.1 x.1.2 (kH (n.types.getD 0 noT) n.line n.col x.2).1 a.line a.col (kH (n.types.getD 0 noT) n.line n.col x.2).2).2)else x)=y:=⟨_,rfl⟩
 have h2:pE M G x.2 (jl M G x.1.1/\iH x.1.2=true->jl M G y.1.1/\iH y.1.2=true) y.2:=by
  rw[<-hy];split
  ·exact((Dc _ _ _ _).bind (CK _ _ _ _ _ _)).imp λh k=>⟨h.2 k.1 k.2 h.1,h.1⟩
  ·exact .ret id
 rw[hy];refine(h1.bind (h2.bind (hb (env++[(n.text,y.1.2)]) y.2))).imp λh he=>?_;have y1:=h.2.1 (h.1 he);have z1:=h.2.2 (he.more _ y1.2);exact⟨by simp only[cK,jl,jS,and_true];exact⟨by simp[mq],y1.1,z1.1⟩,z1.2⟩
theorem QD(n a:gz){ia:Inf}(ha:jb M G ia):jb M G (xV n a ia):=λenv s=>by
 unfold xV;simp only;have h1:=Dc (M:=M) (G:=G) (n.types.getD 0 noT) n.line n.col s;generalize kH (n.types.getD 0 noT) n.line n.col s=p at*
 obtain⟨q,hq⟩:∃q,(if 1<n.types.length/\p.2.e=0 then kH (n.types.getD 1 noT) n.line n.col p.2 else(noT,p.2))=q:=⟨_,rfl⟩
 have h2:pE M G p.2 (iH q.1=true) q.2:=by
  rw[<-hq];split
  ·exact Dc _ _ _ _
  ·exact .ret zq
 rw[hq];have h3:=ha (env++[(n.text,p.1)]) q.2;generalize ia (env++[(n.text,p.1)]) q.2=x at*
 obtain⟨y,hy⟩:∃y,(if 1<n.types.length then(((kz x.1.1 x.1.2 q.1 a.line a.col x.2).1,q.1),(kz x.1.1 x.1.2 q.1 a.line a.col x.2).2)else x)=y:=⟨_,rfl⟩
 have h4:pE M G x.2 (jl M G x.1.1/\iH x.1.2=true->iH q.1=true->jl M G y.1.1) y.2:=by
  rw[<-hy];split
  ·exact(CK _ _ _ _ _ _).imp λh k kq=>h k.1 k.2 kq
  ·exact .ret λk _=>k.1
 rw[hy];refine(((h1.bind h2).bind h3).bind (h4.bind (KG _ _ _ _))).imp λh he=>?_;exact⟨by simp only[cK,jl,jS,and_true];exact⟨by simp[mq],h.2.1 (h.1.2 (he.more _ h.1.1.1)) h.1.1.2⟩,h.2.2.1⟩
theorem zEU{t:gq}(h:iH t=true)(i:Nat):iH (t.kids.getD i noT)=true:=by
 rw[aH];cases e:t.kids[i]? with
 |none=>exact zq
 |some v=>exact KF h (ae e)
theorem g_call(n b:gz){ia ib:Inf}(ha:jb M G ia)(hb:jb M G ib):jb M G (xW n b ia ib):=λenv s=>by
 unfold xW;simp only;have h1:=(ha env s).bind (zHw (kS noT noT) zGI n.line n.col (ia env s));generalize ko (kS noT noT) n.line n.col (ia env s)=x at*
 split
 ·exact⟨h1.1.trans (Ei _ _ _ _),λz=>absurd z (Ej (by decide))⟩
 ·refine(h1.bind ((hb env x.2).bind (CK _ _ _ _ _ _))).imp λh he=>?_;have x1:=h.1.2 (h.1.1 he);have y1:=h.2.1 he;exact⟨by simp only[cK,jl,jS,and_true];exact⟨by simp[mq],x1.1,h.2.2 y1.1 y1.2 (zEU x1.2 0)⟩,zEU x1.2 1⟩
theorem zJs(n:gz)(hn:nG n.text=true){ia:Inf}(ha:jb M G ia):jb M G (pY n ia):=λenv s=>by
 unfold pY;simp only;have h1:=ha env s;generalize ia env s=x at*
 obtain⟨y,hy⟩:∃y,(if x.1.2.kind=0 then mR x.1.1 x.1.2 (.mk 5 (bs []) [n.text] [noT]) n.line n.col x.2 else(x.1.1,x.2))=y:=⟨_,rfl⟩
 have h2:pE M G x.2 (jl M G x.1.1/\iH x.1.2=true->jl M G y.1) y.2:=by
  rw[<-hy];split
  ·exact(Gy _ _ _ _ _ _).imp λh k=>h k.1 k.2 (zGJ hn)
  ·exact .ret λk=>k.1
 rw[hy]
 have key:(pu env->jl M G x.1.1/\iH x.1.2=true)/\(jl M G x.1.1/\iH x.1.2=true->jl M G y.1)->pu env->jl M G (cT 9 n.text [y.1])/\iH (je x.1.2 n.text).1=true:=λh he=>
  ⟨by simp only[cT,jl,jS,and_true];exact⟨by simp[mq],h.2 (h.1 he)⟩,zDP (h.1 he).2 _⟩
 split
 ·exact(h1.bind h2).imp key
 ·exact⟨(h1.bind h2).1.trans (Ei _ _ _ _),λz=>absurd z (Ej (by decide))⟩
theorem zIJ(n:gz){ia ib:Inf}(ha:jb M G ia)(hb:jb M G ib):jb M G (xX n ia ib):=λenv s=>by
 unfold xX;simp only;have h1:=(ha env s).bind (zHw (bT 5) Zv n.line n.col (ia env s));generalize ko (bT 5) n.line n.col (ia env s)=x at*
 split
 ·exact⟨h1.1.trans (Ei _ _ _ _),λz=>absurd z (Ej (by decide))⟩
 ·refine(h1.bind ((hb env x.2).bind (KG _ _ _ _))).imp λh he=>?_;exact⟨by simp only[cT,jl,jS,and_true];exact⟨by simp[mq],(h.1.2 (h.1.1 he)).1,(h.2.1 he).1⟩,h.2.2.1⟩
theorem zAG(q:gz){env:Env}(h:pu env):pu (o8 q env).1/\pu (o8 q env).2:=by
 unfold o8;split
 ·simp only;have k:=zDR (h.get (rP env (q.kids.getD 0 qh).text).toNat) q.n;exact⟨λv hv=>(dV hv).elim (h v) λe=>by rw[e];exact k.1,λv hv=>(dV hv).elim (h v) λe=>by rw[e];exact k.2⟩
 ·exact⟨h,h⟩
theorem QE(q a b:gz){iq ia ib:Inf}(hq:jb M G iq)(ha:jb M G ia)(hb:jb M G ib):jb M G (xY q a b iq ia ib):=λenv s=>by
 unfold xY;simp only;have h1:=(hq env s).bind (CK (iq env s).1.1 (iq env s).1.2 (bT 2) q.line q.col (iq env s).2);generalize kz (iq env s).1.1 (iq env s).1.2 (bT 2) q.line q.col (iq env s).2=x at*
 have h2:=ha (o8 q env).1 x.2;generalize ia (o8 q env).1 x.2=y at*
 have h3:=hb (o8 q env).2 y.2;generalize ib (o8 q env).2 y.2=z at*
 refine(h1.bind (h2.bind (h3.bind ((CK _ _ _ _ _ _).bind (CK _ _ _ _ _ _))))).imp λh he=>?_;have q1:=h.1.1 he;have y1:=h.2.1 (zAG q he).1;have z1:=h.2.2.1 (zAG q he).2;have j:=zGK y1.2 z1.2;exact⟨by simp only[cK,jl,jS,and_true];exact⟨by simp[mq],h.1.2 q1.1 q1.2 (ww 2 (by omega) (by omega)),h.2.2.2.1 y1.1 y1.2 j,h.2.2.2.2 z1.1 z1.2 j⟩,j⟩
theorem QF(n:gz){ia:Inf}(ha:jb M G ia):jb M G (xZ n ia):=λenv s=>by
 unfold xZ;simp only;have h1:=ha env s;generalize ia env s=x at*
 split
 ·exact h1
 have h2:=h1.bind (Dc (M:=M) (G:=G) (n.types.getD 0 noT) n.line n.col x.2);generalize kH (n.types.getD 0 noT) n.line n.col x.2=u at*
 split
 ·exact h2.imp λh he=>⟨(h.1 he).1,h.2⟩
 rename_i q;have e0:u.2.e=0:=bE λz=>q (.inl z);obtain⟨y,hy⟩:∃y,(if x.1.2.kind≠0 then mR x.1.1 x.1.2 noT n.line n.col u.2 else(x.1.1,u.2))=y:=⟨_,rfl⟩
 have h3:pE M G u.2 (jl M G x.1.1/\iH x.1.2=true->jl M G y.1) y.2:=by
  rw[<-hy];split
  ·exact(Gy _ _ _ _ _ _).imp λh k=>h k.1 k.2 zq
  ·exact .ret λk=>k.1
 have h4:x.1.2.kind≠0->pE M G y.2 (0<=y.1.n/\y.1.n<M) y.2:=λk=>by
  rw[aC k]at hy;unfold mR at hy;rw[aB (λz=>z e0)]at hy;rw[<-hy];exact⟨oD.refl _,λ_ a _=>by simp only[aX,length_cons,length_nil]at a;simp only[iB.n];omega⟩
 rw[hy];split
 ·exact(h2.bind h3).imp λh he=>⟨h.2 (h.1.1 he),h.1.2⟩
 split
 ·exact(h2.bind (h3.bind (Gy _ _ _ _ _ _))).imp λh he=>⟨h.2.2 (h.2.1 (h.1.1 he)) (h.1.1 he).2 h.1.2,h.1.2⟩
 ·rename_i k0;refine(h2.bind (h3.bind (h4 k0))).imp λh he=>⟨?_,h.1.2⟩
  simp only[jl,jS,and_true];exact⟨.cast h.2.2.1 h.2.2.2 zq h.1.2,h.2.1 (h.1.1 he)⟩
theorem zu(n:gz){i:Inf}(hi:jb M G i)(t:gq)(ht:iH t=true)(env:Env)(s:CS):pE M G s (pu env->jl M G (nP n i t env s).1) (nP n i t env s).2:=by
 unfold nP;exact((hi env s).bind (CK _ _ _ _ _ _)).imp λh he=>h.2 (h.1 he).1 (h.1 he).2 ht
theorem QG(n a b:gz){ia ib:Inf}(ha:jb M G ia)(hb:jb M G ib):jb M G (opC n a b ia ib):=λenv s=>by
 have b2:=ww 2 (by omega) (by omega);have b3:=ww 3 (by omega) (by omega);have b4:=ww 4 (by omega) (by omega);unfold opC;simp only;split
 ·exact((zu a ha _ b2 env s).bind (zu b hb _ b2 env _)).imp λh he=>⟨by simp only[cK,jl,jS,and_true];exact⟨by simp[mq],h.1 he,by simp[cN,jl,jS,mq],h.2 he⟩,b2⟩
 split
 ·exact((zu a ha _ b2 env s).bind (zu b hb _ b2 env _)).imp λh he=>⟨by simp only[cK,jl,jS,and_true];exact⟨by simp[mq],h.1 he,h.2 he,by simp[cN,jl,jS,mq]⟩,b2⟩
 split
 ·exact((ha env s).bind (hb env _)).imp λh he=>⟨by simp only[cK,jl,jS,and_true];exact⟨by simp[mq],(h.1 he).1,(h.2 he).1⟩,b2⟩
 split
 ·exact((zu a ha _ b4 env s).bind (zu b hb _ b4 env _)).imp λh he=>⟨by simp only[cK,jl,jS,and_true];exact⟨by simp[mq],h.1 he,h.2 he⟩,b4⟩
 ·refine((zu a ha _ b3 env s).bind (zu b hb _ b3 env _)).imp λh he=>⟨?_,by split<;>assumption⟩
  simp only[jl,jS,and_true];have o:0<=Bi n.text/\Bi n.text<11:=by
   have:=Ea (λx=>decide (x=n.text)) vV;have e:vV.length=11:=rfl;unfold Bi;omega
  exact⟨by simp[mq];exact o,h.1 he,h.2 he⟩
theorem zJt(n a:gz)(hn:n.kind=12->0<=n.n/\n.n<6){ia:Inf}(ha:jb M G ia):jb M G (p8 n a ia):=λenv s=>by
 have b2:=ww 2 (by omega) (by omega);have b3:=ww 3 (by omega) (by omega);unfold p8;split
 ·exact(zu a ha _ b2 env s).imp λh he=>⟨by simp only[cK,jl,jS,and_true];exact⟨by simp[mq],h he⟩,b2⟩
 split
 ·exact(zu a ha _ b3 env s).imp λh he=>⟨by simp only[cK,jl,jS,and_true];exact⟨by simp[mq],h he⟩,b3⟩
 split
 ·rename_i k;exact(ha env s).imp λh he=>⟨by simp only[jl,jS,and_true];exact⟨by simp[mq];exact hn k,(h he).1⟩,b2⟩
 ·exact(ha env s).imp λh he=>⟨by simp only[cK,jl,jS,and_true];exact⟨by simp[mq],(h he).1⟩,ww 1 (by omega) (by omega)⟩
theorem KI:∀{l:List iB},jS M G l↔∀x,x∈l->jl M G x
|[]=>by simp[jS]
|c::l=>by simp[jS,KI (l:=l)]
theorem zAH:∀(l:List gz),(∀x,x∈l->jb M G (jC L x))->∀env s,pE M G s (pu env->jS M G (oP L l env s).1.1/\(oP L l env s).1.1.length=(oP L l env s).1.2.length) (oP L l env s).2
|[],_,env,s=>by rw[oP];exact .ret λ_=>⟨trivial,rfl⟩
|n::l,h,env,s=>by
 rw[oP];exact((h n (by simp) env s).bind (zAH l (λx hx=>h x (by simp[hx])) env _)).imp λh he=>⟨⟨(h.1 he).1,(h.2 he).1⟩,by simp[(h.2 he).2]⟩
theorem zEV:∀(l had:List fI),mH had l=false->had.Nodup->(had++l).Nodup
|[],had,_,h=>by simpa using h
| n::l,had,e,h=>by
 rw[mH,Bool.or_eq_false_iff]at e;have:=zEV l (had++[n]) e.2 (bX.2 ⟨h,by simp,λa ha b hb z=>by
  rw[aK]at hb;have:=e.1;rw[dX]at this
  exact this a ha (by simp[z,hb])⟩)
 simpa using this
theorem zzk:∀l:List gq,(kV l).2=true->(kV l).1.length=l.length
|[],_=>rfl
| t::l,h=>by
 rw[kV]at h⊢;split at h
 ·rename_i q;rw[aC q,length_cons,length_cons,zzk l h]
 ·cases h
theorem zHY{ns:List fI}{ts:List gq}(h:(mQ (.mk 5 (bs []) ns ts)).2=0):ns.length=ts.length:=by
 have f:=(Fq h).1;rw[lh,aC (by omega)]at f;split at f
 ·rename_i q;have e:(kV ts).1.length=ts.length:=zzk ts q;rw[oO,aC rfl]at f;unfold yg at f;split at f
  ·cases f
  ·rename_i z;omega
 ·cases f
theorem zJu(n:gz)(h:∀x,x∈n.kids->jb M G (jC L x)):jb M G (qL n (oP L n.kids)):=λenv s=>by
 unfold qL;simp only;obtain⟨s1,e1⟩:∃s1,(if mH [] n.names=true then lG n.line n.col 8 s else s)=s1:=⟨_,rfl⟩
 have h1:pE M G s (n.names.Nodup) s1:=by
  rw[<-e1];split
  ·exact .fail (by decide)
  ·rename_i q;exact .ret (by simpa using zEV n.names [] (by simpa using q) (by simp))
 rw[e1];refine(h1.bind ((zAH L n.kids h env s1).bind (KG _ _ _ _))).imp λh he=>?_;have k:=h.2.1 he;have e:=zHY h.2.2.2;exact⟨by simp only[jl];exact⟨by simp[mq,k.2,e];exact h.1,k.1⟩,h.2.2.1⟩
theorem KJ{j:Inf}(h:jb M G j):jb M G (kP j):=λenv s=>by
 unfold kP;split
 ·rename_i q;exact⟨oD.refl s,λz=>absurd z q⟩
 ·exact h env s
theorem KL(n:gz)(hn:n.kind=2->n.n=0\/n.n=1){rest:Inf}(hr:jb M G rest)(h:∀x,x∈n.kids->jb M G (jC L x)):jb M G (p9 L n rest):=λenv s=>by
 unfold p9;split
 ·exact .ret λ_=>⟨by simp[cN,jl,jS,mq],ww 3 (by omega) (by omega)⟩
 split
 ·exact .ret λ_=>⟨by simp[cT,jl,jS,mq],ww 4 (by omega) (by omega)⟩
 split
 ·rename_i k;exact .ret λ_=>⟨by simp[cN,jl,jS,mq,hn k],ww 2 (by omega) (by omega)⟩
 split
 ·exact .ret λ_=>⟨by simp[cN,jl,jS,mq],ww 1 (by omega) (by omega)⟩
 split
 ·exact .ret λ_=>⟨by simp[cN,jl,jS,mq],ww 3 (by omega) (by omega)⟩
 split
 ·exact zHX L n env s
 split
 ·exact zJu L n h env s
 ·exact hr env s
theorem zGu(n:gz)(hn:kL n)(h:∀x,x∈n.kids->jb M G (jC L x)):jb M G (jC L n):=by
 obtain⟨k,tx,nn,ln,cl,ts,ns,ks⟩:=n;rw[kL]at hn;obtain⟨n9,n2,n12,_⟩:=hn
 match ks,h with
 |[],h=>
  rw[JS];exact KJ (KL L (.mk k tx nn ln cl ts ns []) n2 (λenv s=>.ret λ_=>⟨by simp[noC,cN,jl,jS,mq],zq⟩) h)
 |[a],h=>
  have ha:=h a (by simp[gz.kids]);rw[Bu];refine KJ (KL L (.mk k tx nn ln cl ts ns [a]) n2 (λenv s=>?_) h);unfold Br;split
  ·exact QD _ _ ha env s
  split
  ·rename_i k9;exact zJs (.mk k tx nn ln cl ts ns [a]) (n9 k9) ha env s
  split
  ·exact QF _ ha env s
  ·exact zJt (.mk k tx nn ln cl ts ns [a]) _ n12 ha env s
 |[a,b],h=>
  have ha:=h a (by simp[gz.kids]);have hb:=h b (by simp[gz.kids]);rw[Bv];refine KJ (KL L (.mk k tx nn ln cl ts ns [a,b]) n2 (λenv s=>?_) h);unfold Bt;split
  ·exact zJr _ _ ha hb env s
  split
  ·exact g_call _ _ ha hb env s
  split
  ·exact zIJ _ ha hb env s
  ·exact QG _ _ _ ha hb env s
 |a::b::c::l,h=>
  rw[GZ];exact KJ (KL L (.mk k tx nn ln cl ts ns (a::b::c::l)) n2 (QE a b c (h a (by simp[gz.kids])) (h b (by simp[gz.kids])) (h c (by simp[gz.kids]))) h)
mutual
theorem zCL:∀n:gz,kL n->jb M G (jC L n)
|.mk k tx nn ln cl ts ns ks,h=>zGu L _ h (zAI ks (by rw[kL]at h;exact h.2.2.2))
theorem zAI:∀l:List gz,wy l->∀x,x∈l->jb M G (jC L x)
|[],_,x,hx=>by cases hx
|n::l,h,x,hx=>by
 rw[wy]at h;rcases aN.1 hx with e|e
 ·rw[e];exact zCL n h.1
 ·exact zAI l h.2 x e
end
end
end
def um(l:List jZ):Prop:=∀m,m∈l->∀d,d∈m.decs->kL d.body
theorem zxR:∀(l:List (fI × fI)) (i:Nat) (ns:List fI) (ms:List jZ) (bad:List iY),um ms->um (rM l i ns ms bad).1.2
|[],i,ns,ms,bad,h=>by rw[rM];exact h
|s::l,i,ns,ms,bad,h=>by
 rw[rM];refine zxR l _ _ _ _ λm hm=>?_;rcases aM.1 hm with hm|hm
 ·exact h m hm
 ·rw[aK.1 hm];exact zE5 s.2
theorem zGb(l:List (fI × fI)):um (yl l).1.mods:=by
 have h0:um Bg.mods:=λm hm=>by cases hm
 have hg:um (u6 l).1.2:=by
  unfold u6;split
  ·intro m hm;cases hm
  ·exact zxR l 0 [] [] [] λm hm=>by cases hm
 unfold yl;simp only;repeat' split
 all_goals first|exact h0|exact hg
theorem zED{L:iV}(hG:mU L)(hs:um L.mods){m k:Int}(h:kI L ⟨bs [],m,k⟩):kL (vU L m k).body:=by
 obtain⟨mn,kn,M,e1,e2,g1,g2,_⟩:=GL hG.good h;exact hs M (ae g1) _ (ae g2)
section
variable {M G:Nat}
theorem zJk{L:iV}(hG:mU L)(hs:um L.mods){x:kY}(hx:kI L ⟨bs [],x.module,x.decl⟩)(s:CS):
  (s.sites.length<=(nL L x s).sites.length/\s.tab.length<=(nL L x s).tab.length/\(nL L x s).funs.length=s.funs.length+1)/\
  ((nL L x s).bad=[]->s.bad=[]/\((nL L x s).sites.length<=M->(nL L x s).tab.length<=G->(∀f,f∈s.funs->jl M G f.body)->∀f,f∈(nL L x s).funs->jl M G f.body)):=by
 have hd:=zED hG hs hx;have f0:fb (wY L x s)=fb s:=rfl;have k0:(wY L x s).sites=s.sites/\(wY L x s).tab=s.tab:=⟨rfl,rfl⟩
 unfold nL;unfold wY at f0 k0;simp only;generalize vU L x.module x.decl=d at*
 generalize ({s with module:=x.module,vars:=d.vars.map (·.1),wth:=x.types,e:=0}:CS)=s0 at*
 have f1:=Eb (d.types.getD 0 noT) d.line d.col s0;have r1:=Dc (M:=M) (G:=G) (d.types.getD 0 noT) d.line d.col s0;generalize kH (d.types.getD 0 noT) d.line d.col s0=a at*
 have f2:=Eb (d.types.getD 1 noT) d.line d.col a.2;have r2:=Dc (M:=M) (G:=G) (d.types.getD 1 noT) d.line d.col a.2;generalize kH (d.types.getD 1 noT) d.line d.col a.2=b at*
 obtain⟨T,hT⟩:∃T,(if b.2.e=0 then pW (kS a.1 b.1) d.line d.col b.2 else(kS a.1 b.1,b.2))=T:=⟨_,rfl⟩
 have p3:fb T.2=fb b.2/\pE M G b.2 True T.2:=by
  rw[<-hT];split
  ·exact⟨JV _ _ _ _,(KG _ _ _ _).imp λ_=>trivial⟩
  ·exact⟨rfl,.ret trivial⟩
 rw[hT];clear hT;obtain⟨S,hS⟩:∃S,(if x.module=L.main.module/\x.decl=L.main.decl/\Aa (bT 1) a.1=false then lG d.line d.col 14 T.2 else T.2)=S:=⟨_,rfl⟩
 have p4:fb S=fb T.2/\pE M G T.2 True S:=by
  rw[<-hS];split
  ·exact⟨OW _ _ _ _,.fail (by decide)⟩
  ·exact⟨rfl,.ret trivial⟩
 rw[hS];clear hS;have f5:=JY L d.body [(d.param,a.1)] S;have r5:=zCL (M:=M) (G:=G) L d.body hd [(d.param,a.1)] S;generalize jC L d.body [(d.param,a.1)] S=y at*
 have f6:=OX y.1.1 y.1.2 b.1 d.body.line d.body.col y.2;have r6:=CK (M:=M) (G:=G) y.1.1 y.1.2 b.1 d.body.line d.body.col y.2;generalize kz y.1.1 y.1.2 b.1 d.body.line d.body.col y.2=z at*
 have f:fb z.2=fb s:=by rw[f6,f5,p4.1,p3.1,f2,f1,f0]
 have g1:z.2.funs=s.funs:=dP (·.1) f;have g2:z.2.bad=s.bad:=dP (·.2) f;have r:=((r1.bind r2).bind (p3.2.bind p4.2)).bind (r5.bind r6);have r:=r.imp λh=>h.2.2 (h.2.1 λv hv=>by rw[aK.1 hv];exact h.1.1.1).1 (h.2.1 λv hv=>by rw[aK.1 hv];exact h.1.1.1).2 h.1.1.2;rw[<-k0.1,<-k0.2];generalize (if 0<x.types.length then u7 x.types 0 (L.names.getD x.module.toNat (bs [])++bs [46]++d.name)++bs [93]else u7 x.types 0 (L.names.getD x.module.toNat (bs [])++bs [46]++d.name))=nm;split
 ·exact⟨⟨r.1.sites,r.1.tab,by simp[g1]⟩,λh=>absurd h (by simp)⟩
 ·rename_i q;refine⟨⟨r.1.sites,r.1.tab,by simp[g1]⟩,λh=>⟨by rw[<-g2];exact h,λh1 h2 h3 f hf=>?_⟩⟩;have hf:f∈z.2.funs++[(⟨nm,T.1,z.1⟩:jW)]:=hf;rw[g1]at hf;rcases aM.1 hf with hf|hf
  ·exact h3 f hf
  ·rw[aK.1 hf];exact r.2 (by simpa using q) h1 h2
theorem zEE{L:iV}(hG:mU L)(hs:um L.mods):∀(n i:Nat) (s:CS),i+n<=257->wX L s i->
 (s.sites.length<=(pJ L n i s).sites.length/\s.tab.length<=(pJ L n i s).tab.length)/\
 ((pJ L n i s).bad=[]->s.bad=[]/\((pJ L n i s).sites.length<=M->(pJ L n i s).tab.length<=G->(∀f,f∈s.funs->jl M G f.body)->∀f,f∈(pJ L n i s).funs->jl M G f.body))/\
 (i+n=257->s.funs.length=i->(pJ L n i s).tab.length<=(pJ L n i s).funs.length)
|0,i,s,hi,h=>by
 rw[pJ];exact⟨⟨aQ _,aQ _⟩,λe=>⟨e,λ_ _ h=>h⟩,λe1 e2=>by have:=h.tab;omega⟩
| n+1,i,s,hi,h=>by
 rw[pJ];split
 ·rename_i q;have hm:s.tab.getD i ⟨0,0,[]⟩∈s.tab:=by
   rw[aH,aA q];exact aP q
  have h1:=h.ist _ hm;have k:=zJk (M:=M) (G:=G) hG hs h1.1 s;have r:=zEE hG hs n (i+1) _ (by omega) (JZ hG h1.1 h1.2 (by omega) h);refine⟨⟨ak k.1.1 r.1.1,ak k.1.2.1 r.1.2⟩,λe=>?_,λe1 e2=>r.2.2 (by omega) (by rw[k.1.2.2];omega)⟩;have r2:=r.2.1 e;have k2:=k.2 r2.1;exact⟨k2.1,λa b hf=>r2.2 a b (k2.2 (ak r.1.1 a) (ak r.1.2 b) hf)⟩
 ·rename_i q;exact⟨⟨aQ _,aQ _⟩,λe=>⟨e,λ_ _ h=>h⟩,λe1 e2=>by omega⟩
end
theorem zAm{L:iV}(hG:mU L):∀(n i:Nat) (s:CS),i+n<=257->wX L s i->(pJ L n i s).sites.length<=1000000000
|0,i,s,hi,h=>by rw[pJ];have:=h.sites;omega
| n+1,i,s,hi,h=>by
 rw[pJ];split
 ·rename_i q;have hm:s.tab.getD i ⟨0,0,[]⟩∈s.tab:=by
   rw[aH,aA q];exact aP q
  have h1:=h.ist _ hm;exact zAm hG n (i+1) _ (by omega) (JZ hG h1.1 h1.2 (by omega) h)
 ·have:=h.sites;omega
structure BD (p:lZ):Prop where
 good:zC p
 ok:∀f,f∈p.funs->jl p.sites.length p.funs.length f.body
 sites:p.sites.length<=1000000000
theorem zEF{M G G':Nat}(h:G<=G'):∀(n:Nat) (c:iB),kX c<=n->jl M G c->jl M G' c
|0,.mk _ _ _ _ _ _ _ ks,e,_=>by rw[kX]at e;omega
| n +1,.mk k _ _ _ ns ts _ ks,e,hc=>by
 rw[kX]at e;rw[jl]at hc⊢;refine⟨⟨?_,hc.1.2⟩,?_⟩
 ·have:=hc.1.1;unfold mq at this⊢;rcases this with h|h|h|h|h|h|h|h|h|h
  ·exact .inl h
  ·exact .inr (.inl h)
  ·exact .inr (.inr (.inl (by omega)))
  ·exact .inr (.inr (.inr (.inl h)))
  ·exact .inr (.inr (.inr (.inr (.inl h))))
  ·exact .inr (.inr (.inr (.inr (.inr (.inl h)))))
  ·exact .inr (.inr (.inr (.inr (.inr (.inr (.inl h))))))
  ·exact .inr (.inr (.inr (.inr (.inr (.inr (.inr (.inl h)))))))
  ·exact .inr (.inr (.inr (.inr (.inr (.inr (.inr (.inr (.inl h))))))))
  ·exact .inr (.inr (.inr (.inr (.inr (.inr (.inr (.inr (.inr h))))))))
 ·have key:∀l:List iB,jo l<=n->jS M G l->jS M G' l:=λl=>by
   induction l with
   |nil=>intro _ _;trivial
   |cons c l ih=>
    intro e h;rw[jo]at e;rw[jS]at h⊢;exact⟨zEF (by assumption) n c (by omega) h.1,ih (by omega) h.2⟩
  exact key ks (by omega) hc.2
theorem zwE{l:List (fI × fI)}(h:(vE l).2=true):BD (vE l).1:=by
 have hg:=zz7 l;unfold vE at h hg⊢;split at h
 ·cases h
 rename_i q1;rw[aB q1]at hg⊢;simp only at h hg⊢;split at h
 ·cases h
 rename_i q2;rw[aB q2]at hg⊢;have hG:=OV l (by omega);have hs:=zGb l;generalize (yl l).1=L at*
 have h0:=O5 L.mods 0 cs0 (by simp) (YP L);have hf0:(rz L L.mods 0 cs0).1.funs=[]:=by rw[Oh];try rfl
 unfold Ae at h hg⊢;simp only at h hg⊢;by_cases q3:0<(rz L L.mods 0 cs0).2.length
 ·rw[aC q3]at h;simp at h;rw[h]at q3;simp at q3
 rw[aB q3]at h hg⊢;by_cases q4:0<(pJ L 257 0 (rz L L.mods 0 cs0).1).bad.length
 ·rw[aC q4]at h;simp at h;rw[h]at q4;simp at q4
 rw[aB q4]at h hg⊢;have hb:(pJ L 257 0 (rz L L.mods 0 cs0).1).bad=[]:=aT.1 (by omega);have hk:=zEE (M:=(pJ L 257 0 (rz L L.mods 0 cs0).1).sites.length) (G:=(pJ L 257 0 (rz L L.mods 0 cs0).1).tab.length) hG hs 257 0 _ (by omega) h0;have ht:=zAm hG 257 0 _ (by omega) h0;refine⟨hg,λf hf=>?_,ht⟩;have hl:=hk.2.2 (by omega) (by rw[hf0];rfl);exact zEF hl _ _ (aQ _) ((hk.2.1 hb).2 (aQ _) (aQ _) (λf hf=>by rw[hf0]at hf;cases hf) f hf)
def zw(n:Nat)(C:gy):Prop:=(∀x,x∈C.fields->oz n x)/\∀x,x∈C.fn->oz n x
theorem zw.put{n:Nat}{C:gy}(h:zw n C)(k:fI){d:gy}(hd:oz n d):zw n (jB C k d):=by
 unfold jB;split
 ·exact h
 ·refine⟨λx hx=>?_,h.2⟩;rcases aM.1 hx with hx|hx
  ·exact h.1 x hx
  ·rw[aK.1 hx];exact hd
section
variable {n:Nat} {v:gq->gq->Int->gy} (hv:∀x y l,oz n (v x y l))
include hv
theorem znn(lb:Int):∀(ns:List fI) (ks:List gq) (C:gy),zw n C->zw n (nS v lb ns ks C)
|[],_,C,h=>by rw[nS];exact h;intros;contradiction
|_::_,[],C,h=>by rw[nS];exact h;intros;contradiction
|k::ns,t::ks,C,h=>by rw[nS];exact znn lb ns ks _ (h.put k (hv _ _ _))
theorem zno(m:ik)(lb:Int):∀(ns:List fI) (ks:List gq) (C:gy),zw n C->zw n (nT v m lb ns ks C)
|[],_,C,h=>by rw[nT];exact h;intros;contradiction
|_::_,[],C,h=>by rw[nT];exact h;intros;contradiction
| k::ns,t::ks,C,h=>by
 rw[nT];have h1:zw n (if(je m.t k).2=false then mh C k lb else C):=by
  split
  ·exact h
  ·exact h
 refine zno m lb ns ks _ ?_;split
 ·exact h1.put k (hv _ _ _)
 ·exact h1
theorem znp(R:List ik)(lb:Int):∀(L:List ik) (C:gy),zw n C->zw n (qc v R lb L C)
|[],C,h=>by rw[qc];exact h
| m::L,C,h=>by
 rw[qc];refine znp R lb L _ ?_;unfold sU;split
 ·exact h
 split
 ·refine⟨h.1,λx hx=>?_⟩;have hx:x∈lM _ _:=hx;unfold lM at hx;split at hx
  ·cases hx
  ·rcases aN.1 hx with e|hx
   ·rw[e];exact hv _ _ _
   ·rw[aK.1 hx];exact hv _ _ _
 split
 ·unfold q9;split
  ·split
   ·exact h
   ·exact znn hv _ _ _ _ h
  ·exact zno hv _ _ _ _ _ h
 ·exact h
end
theorem zkp:∀(n:Nat) (a b:gq) (lb:Int),oz n (qd n a b lb)
|0,a,b,lb=>rfl
|n+1,a,b,lb=>by
 rw[qd];split
 ·exact Jg _
 ·exact znp (λx y l=>zkp n x y l) _ _ _ _ ⟨λx hx=>(by cases hx),λx hx=>(by cases hx)⟩
def wz(d:gy)(k:iB):iB:=.mk 22 0 (bs []) [] [] [] [d] [k]
mutual
def oF:iB->iB
|.mk k n t is ns ts cs ks=>if k=21 then .mk 22 0 (bs []) [] [] [] [qd 32 (ts.getD 0 noT) (ts.getD 1 noT) (2*n+2)] (sV ks)else .mk k n t is ns ts cs (sV ks)
def sV:List iB->List iB
|[]=>[]
|c::l=>oF c::sV l
end
theorem Gz:∀l:List iB,sV l=l.map oF
|[]=>rfl
|c::l=>by rw[sV,Gz l];try rfl
theorem zlE(c:iB):oF c=if c.kind=21 then .mk 22 0 (bs []) [] [] [] [qd 32 (c.types.getD 0 noT) (c.types.getD 1 noT) (2*c.n+2)] (c.kids.map oF)else .mk c.kind c.n c.text c.ints c.names c.types c.cos (c.kids.map oF):=by
 cases c;rw[oF,Gz];try rfl
def lq(c:iB):Int:=if c.kind=0\/c.kind=20 then 2 else if c.kind=1 then 3 else if c.kind=2 then 1 else if c.kind=3 then 0 else if c.kind=5\/c.kind=6 then 5 else -1
def idleC(d:gy)(k:iB):Bool:=jX d idC||(decide (0<=lq k)&&decide (iE d (lq k).toNat=0)&&(decide (lq k≠5)||decide (d.fn.length=0)))
def yM(d:gy)(k:iB):iB:=
 let d':=if k.kind=22 then mg 32 (k.cos.getD 0 idC) d else d;let k':=if k.kind=22 then k.kids.getD 0 noC else k
 if idleC d' k'=true then k' else wz d' k'
mutual
def o5:iB->iB
|.mk k n t is ns ts cs ks=>if k=22 then yM (cs.getD 0 idC) ((zx ks).getD 0 noC)else .mk k n t is ns ts cs (zx ks)
def zx:List iB->List iB
|[]=>[]
|c::l=>o5 c::zx l
end
theorem KM:∀l:List iB,zx l=l.map o5
|[]=>rfl
|c::l=>by rw[zx,KM l];try rfl
theorem zmH(c:iB):o5 c=if c.kind=22 then yM (c.cos.getD 0 idC) ((c.kids.map o5).getD 0 noC)else .mk c.kind c.n c.text c.ints c.names c.types c.cos (c.kids.map o5):=by
 cases c;rw[o5,KM];try rfl
def BF(trim:Bool)(c:iB):iB:=if trim=true then o5 (oF c)else oF c
def lQ(trim:Bool)(p:lZ):lZ:=⟨p.funs.map λf=>⟨f.name,f.type,BF trim f.body⟩,p.main,p.sites⟩
def tY(B:Nat)(d:gy):Prop:=iU d=true/\lw B d/\oz 32 d
mutual
def yN:iB->Prop
|.mk k _ _ _ _ _ cs ks=>k≠21/\(k=22->(∃d,cs=[d]/\tY 16 d)/\ks.length=1)/\wE ks
def wE:List iB->Prop
|[]=>True
|c::l=>yN c/\wE l
end
mutual
def yO(B:Nat):iB->Prop
|.mk k _ _ _ _ _ cs ks=>k≠21/\(k=22->∃d x,cs=[d]/\ks=[x]/\x.kind≠22/\tY B d)/\xu B ks
def xu(B:Nat):List iB->Prop
|[]=>True
|c::l=>yO B c/\xu B l
end
theorem KN:∀{l:List iB},wE l↔∀x,x∈l->yN x
|[]=>by simp[wE]
|c::l=>by simp[wE,KN (l:=l)]
theorem KO{B:Nat}:∀{l:List iB},xu B l↔∀x,x∈l->yO B x
|[]=>by simp[xu]
|c::l=>by simp[xu,KO (l:=l)]
theorem zlF{a b:gq}{n:Int}(ha:iH a=true)(hb:iH b=true)(hn:0<=n):tY 16 (qd 32 a b (2*n+2)):=by
 have h:=Z9 32 a b (2*n+2) (by omega) (zo ha) (zo hb);exact⟨h.1,h.2,zkp _ _ _ _⟩
theorem tY.le{A B:Nat}(hAB:A<=B){d:gy}(h:tY A d):tY B d:=⟨h.1,Pj hAB 32 h.2.2 h.2.1,h.2.2⟩
theorem tY.comp{A B:Nat}(hAB:2<=A+B){c d:gy}(h:tY A c)(k:tY B d):tY (A+B) (mg 32 c d):=⟨Jh _ _ _ h.1 k.1,(Jl hAB 32 h.2.2 k.2.2 h.1 k.1 h.2.1 k.2.1).1,Ji _ h.1 k.1 h.2.2 k.2.2⟩
variable {M G:Nat}
theorem mq.inv{n:Int}{ns:List fI}{ts:List gq}{q:Nat}(h:mq M G 21 n ns ts q):q=1/\0<=n/\n<M/\∃a b,ts=[a,b]/\iH a=true/\iH b=true:=by
 simpa[mq]using h
theorem mq.n22{n:Int}{ns:List fI}{ts:List gq}{q:Nat}(h:mq M G 22 n ns ts q):False:=by
 simp[mq]at h
mutual
theorem KP:∀c:iB,jl M G c->yN (oF c)
| .mk k n t is ns ts cs ks,h=>by
 rw[jl]at h;have hk:=zh5 ks h.2;have hl:(sV ks).length=ks.length:=by rw[Gz];simp
 rw[oF];split
 ·rename_i q;subst q;obtain⟨h2,h3,h4,a,b,e,na,nb⟩:=h.1.1.inv;subst e;rw[yN];exact⟨by decide,λ_=>⟨⟨_,rfl,zlF na nb h3⟩,by omega⟩,hk⟩
 ·rename_i q;rw[yN];refine⟨q,λe=>?_,hk⟩;subst e;exact h.1.1.n22.elim
theorem zh5:∀l:List iB,jS M G l->wE (sV l)
|[],_=>trivial
|c::l,h=>by rw[jS]at h;rw[sV,wE];exact⟨KP c h.1,zh5 l h.2⟩
end
mutual
theorem QH:∀c:iB,kX (oF c)=kX c
|.mk k n t is ns ts cs ks=>by
 have:=zg2 ks;rw[oF];split<;>simp only[kX]<;>omega
theorem zg2:∀l:List iB,jo (sV l)=jo l
|[]=>rfl
|c::l=>by rw[sV,jo,jo,QH c,zg2 l]
end
mutual
theorem KQ:∀(c:iB) (m:Nat),mM m c->mM m (oF c)
| .mk k n t is ns ts cs ks,m,h=>by
 rw[mM]at h;obtain⟨h23,h18,h21,h4,h5,hk⟩:=h;have hs:=QI ks m k 0 hk;have hl:(sV ks).length=ks.length:=by rw[Gz];simp
 rw[oF];split
 ·rename_i q;subst q;have hs:jw m 22 (sV ks) 0:=by
   have:=QI ks m 22 0 (by
    have hl1:=(h21 rfl).1
    match ks,hl1,hk with
    |[x],_,hk=>simpa[jw]using hk)
   exact this
  rw[mM];exact⟨by decide,λe=>absurd e (by decide),λe=>absurd e (by decide),λe=>absurd e (by decide),λe=>absurd e (by decide),hs⟩
 ·rw[mM];refine⟨h23,λe=>by rw[hl];exact h18 e,λe=>by rw[hl];exact h21 e,λe=>?_,λe=>by rw[hl];exact h5 e,hs⟩;obtain⟨a,b,c⟩:=h4 e;subst c;exact⟨a,b,rfl⟩
theorem QI:∀(l:List iB) (m:Nat) (k:Int) (i:Nat),jw m k l i->jw m k (sV l) i
|[],m,k,i,_=>trivial
|c::l,m,k,i,h=>by
 rw[jw]at h;rw[sV,jw];exact⟨KQ c _ h.1,QI l m k (i+1) h.2⟩
end
structure TK (B m:Nat) (s:Nat) (c:iB):Prop where
 tc:yO B c
 wf:mM m c
 sz:kX c<=s
theorem QJ{A B:Nat}(hAB:A<=B):∀(n:Nat) (c:iB),kX c<=n->yO A c->yO B c
|0,c,h,_=>by have:=Au c;omega
| n+1,.mk k _ _ _ _ _ cs ks,h,hc=>by
 rw[yO]at hc⊢;rw[kX]at h;refine⟨hc.1,λe=>?_,KO.2 λx hx=>?_⟩
 ·obtain⟨d,x,h1,h2,h3,h4⟩:=hc.2.1 e;exact⟨d,x,h1,h2,h3,h4.le hAB⟩
 ·obtain⟨j,hj,rfl⟩:=bW hx;have:=Bz hj;exact QJ hAB n _ (by omega) (KO.1 hc.2.2 _ (aP hj))
theorem zmI{B m s:Nat}{d:gy}{k:iB}(hd:tY 16 d)(h:TK B m s k):TK (B+16) m (s+1) (yM d k):=by
 have key:∀(d':gy) (k':iB),tY (B+16) d'->k'.kind≠22->TK (B+16) m s k'->TK (B+16) m (s+1) (if idleC d' k'=true then k' else wz d' k'):=λd' k' gd nk tk=>by
  split
  ·exact⟨tk.tc,tk.wf,by have:=tk.sz;omega⟩
  ·refine⟨?_,?_,?_⟩
   ·unfold wz;rw[yO];exact⟨by decide,λ_=>⟨d',k',rfl,rfl,nk,gd⟩,tk.tc,trivial⟩
   ·unfold wz;rw[mM];exact⟨by decide,λe=>absurd e (by decide),λe=>absurd e (by decide),λe=>absurd e (by decide),λe=>absurd e (by decide),by simpa[jw]using tk.wf⟩
   ·have:=tk.sz;simp only[wz,kX,jo];omega
 have h':TK (B+16) m s k:=⟨QJ (by omega) _ k (aQ _) h.tc,h.wf,h.sz⟩
 unfold yM;simp only;by_cases q:k.kind=22
 ·rw[aC q,aC q];obtain⟨k0,n,t,is,ns,ts,cs,ks⟩:=k;have q:k0=22:=q;subst q;have ht:=h.tc;rw[yO]at ht;obtain⟨e,x,h1,h2,h3,h4⟩:=ht.2.1 rfl;subst h1;subst h2;refine key _ _ (h4.comp (by omega) hd) h3 ⟨?_,?_,?_⟩
  ·have:=h'.tc;rw[yO,xu]at this;exact this.2.2.1
  ·have:=h.wf;rw[mM,jw]at this;show mM m x;simpa using this.2.2.2.2.2.1
  ·have:=h.sz;rw[kX,jo]at this;show kX x<=s;omega
 ·rw[aB q,aB q];exact key _ _ (hd.le (by omega)) q h'
theorem KR:∀(n:Nat) (c:iB) (m:Nat),kX c<=n->yN c->mM m c->TK (16*kX c) m (kX c) (o5 c)
|0,c,m,h,_,_=>by have:=Au c;omega
| n + 1,c,m,h,hp,hw=>by
 have hz:=Au c;obtain⟨k,nn,t,is,ns,ts,cs,ks⟩:=c;rw[yN]at hp;rw[mM]at hw;simp only[iB.kids]at hz;have hk:∀(j:Nat) (hj:j<ks.length) (m':Nat),mM m' ks[j]->TK (16*kX ks[j]) m' (kX ks[j]) (o5 ks[j]):=λj hj m' hw'=>by
  have:=Bz hj;exact KR n _ m' (by omega) (KN.1 hp.2.2 _ (aP hj)) hw'
 rw[o5];by_cases q:k=22
 ·rw[aC q];subst q;obtain⟨⟨d,h1,h2⟩,h3⟩:=hp.2.1 rfl;subst h1
  match ks,h3,hk,hw,hz with
  |[x],_,hk,hw,hz=>
   have hx:=hk 0 (by simp) m (by have:=hw.2.2.2.2.2;rw[jw]at this;simpa using this.1);simp only[getElem_cons_zero]at hx;have hz:kX (iB.mk 22 nn t is ns ts [d] [x])=kX x+1:=by simp only[kX,jo];omega
   rw[hz];have:=zmI h2 hx;exact⟨by rw[Nat.mul_add];exact this.tc,this.wf,this.sz⟩
 ·rw [aB q,KM];refine⟨?_,?_,?_⟩
  ·rw[yO];refine⟨hp.1,λe=>absurd e q,KO.2 λx hx=>?_⟩;obtain⟨y,hy,rfl⟩:=aa.1 hx;obtain⟨j,hj,rfl⟩:=bW hy;have:=Bz hj;obtain⟨m',hw'⟩:∃m',mM m' ks[j]:=by
    by_cases q5:k=5
    ·subst q5;have hl:=hw.2.2.2.2.1 rfl
     match ks,hl,hw,j,hj with
     |[x],_,hw,0,_=>exact⟨m+1,by have:=hw.2.2.2.2.2;rw[jw]at this;simpa using this.1⟩
    ·exact⟨_,Gg q5 hj hw.2.2.2.2.2⟩
   exact QJ (by rw[hz];omega) _ _ (aQ _) (hk j hj m' hw').tc
  ·have hs:∀(l:List iB) (i j:Nat),ks.drop j=l->jw m k l i->jw m k (l.map o5) i:=λl=>by
    induction l with
    |nil=>intro i j _ _;trivial
    | cons y l ih=>
     intro i j e hw;have hj:j<ks.length:=by
      rcases aW j ks.length with z|z
      ·exact z
      ·rw[eG z]at e;cases e
     rw[aF hj]at e;injection e with e1 e2
     rw[jw]at hw;rw[map_cons,jw];refine⟨?_,ih (i+1) (j+1) e2 hw.2⟩;rw[<-e1]at hw⊢;exact(hk j hj _ hw.1).wf
   rw[mM];refine⟨hw.1,λe=>by simpa using hw.2.1 e,λe=>absurd e hp.1,λe=>?_,λe=>by simpa using hw.2.2.2.2.1 e,hs ks 0 0 (by simp) hw.2.2.2.2.2⟩;obtain⟨a,b,c⟩:=hw.2.2.2.1 e;subst c;exact⟨a,b,rfl⟩
  ·have hs:∀(l:List iB) (j:Nat),ks.drop j=l->jo (l.map o5)<=jo l:=λl=>by
    induction l with
    |nil=>intro j _;exact aQ _
    | cons y l ih=>
     intro j e;have hj:j<ks.length:=by
      rcases aW j ks.length with z|z
      ·exact z
      ·rw[eG z]at e;cases e
     rw[aF hj]at e;injection e with e1 e2
     have:=ih (j+1) e2;have h2:kX (o5 y)<=kX y:=by
      rw[<-e1];obtain⟨m',hw'⟩:∃m',mM m' ks[j]:=by
       by_cases q5:k=5
       ·subst q5;have hl:=hw.2.2.2.2.1 rfl
        match ks,hl,hw,j,hj with
        |[x],_,hw,0,_=>exact⟨m+1,by have:=hw.2.2.2.2.2;rw[jw]at this;simpa using this.1⟩
       ·exact⟨_,Gg q5 hj hw.2.2.2.2.2⟩
      exact(hk j hj m' hw').sz
     rw[map_cons,jo,jo];omega
   have:=hs ks 0 (by simp);simp only[kX];omega
end Go.Gr
