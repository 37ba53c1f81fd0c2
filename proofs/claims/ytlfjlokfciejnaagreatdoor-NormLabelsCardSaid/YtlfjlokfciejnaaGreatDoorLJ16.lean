/- Texts of ours, joined and written short by a program of ours. -/
import Derived.Test.YtlfjlokfciejnaaGreatDoorLJ15
import Derived.Test.YtlfjlokfciejnaaGreatDoorLJ12
import Derived.Test.YtlfjlokfciejnaaGreatDoorLJ08
import Derived.Test.YtlfjlokfciejnaaGreatDoorLJ13
set_option maxRecDepth 20000
set_option maxHeartbeats 4000000
set_option linter.unusedVariables false
set_option linter.unusedSimpArgs false
namespace Go.Gr
open Go.Abs Go.Proofs List
mutual
theorem YO:∀(t:gU) (m:Int),nV t m<=jT t
|.mk k n s l,m=>by
 rw[nV,jT];have:=YP l m 1;omega
theorem YP:∀(l:List gU) (m n:Int),qM l m n<=n+jM l
|[],m,n=>by rw[qM,jM];omega
| t::l,m,n=>by
 rw[qM,jM];split
 ·have a:=YO t (m-n);have b:=YP l m (n+nV t (m-n));omega
 ·omega
end
theorem YQ(f:gU->Int)(B:Int):∀(l:List gU) (h:Int),0<=h->h<=B->(∀x,x∈l->f x=min B (jL x))->l.foldl (λh k=>if h<f k then f k else h) h=max h (min B (jg l))
|[],h,h0,hB,_=>by simp only[foldl_nil,jg];omega
|t::l,h,h0,hB,hf=>by
 have ht:=hf t (by simp);rw[foldl_cons,YQ f B l _ (by split<;>omega) (by split<;>omega) λx hx=>hf x (by simp[hx]),ht,jg];split<;>omega
theorem YR:∀(n:Nat) (t:gU),oD (n+1) t=min ((n:Int)+1) (jL t)
|0,t=>by rw[oD];have:=za t;omega
|n+1,t=>by
 rw[oD,YQ _ ((n:Int)+1) t.kids 0 (by omega) (by omega) λx _=>YR n x];have:jL t=jg t.kids+1:=by cases t;rw[jL];try rfl
 rw[this];omega
theorem O6(t:gU):oD 17 t=min (17:Int) (jL t):=by rw[YR 16 t];try rfl
theorem zE7{l:List gU}(h:∀x,x∈l->x.kind≠7):l.flatMap ik=l:=by
 induction l with
 |nil=>rfl
 |cons t l ih=>rw[flatMap_cons,ih λx hx=>h x (by simp[hx])];unfold ik;rw[aB (h t (by simp))];try rfl
theorem YS(tag:Int):∀(l:List gU) (had:Bool) (ks:List gU),(∀x,x∈l->x.kind≠0/\iJ x≠tag)->jc tag l had ks=((had,ks),true)
|[],had,ks,_=>rfl
|x::l,had,ks,h=>by
 rw[jc,aB (h x (by simp)).1,aC (h x (by simp)).2];exact YS tag l had ks λy hy=>h y (by simp[hy])
theorem YT(tag:Int):∀(l:List gU) (ks:List gU),(l.map iJ).Pairwise (· < ·)->(∀x,x∈l->x.kind≠0)->(jc tag l false ks).1.2=ks++l.filter (λx=>decide (iJ x=tag))/\(jc tag l false ks).2=true
|[],ks,_,_=>⟨by simp[jc],rfl⟩
| x::l,ks,hp,h0=>by
 rw[map_cons]at hp;have hp':=bJ.1 hp;rw[jc,aB (h0 x (by simp))];by_cases q:iJ x=tag
 ·have hno:∀y,y∈l->y.kind≠0/\iJ y≠tag:=λy hy=>⟨h0 y (by simp[hy]),λe=>by have:=hp'.1 (iJ y) (aY.2 ⟨y,hy,rfl⟩);omega⟩
  have hf:l.filter (λx=>decide (iJ x=tag))=[]:=dx.2 λy hy=>by simpa using (hno y hy).2
  rw[aB (by simpa using q)];have hs:lC x ((ks++[x]).getLastD noT)=true:=by
   rw[getLastD_concat];exact Mh x
  simp only[af,if_false];rw[aC hs,YS tag l true _ hno];simp[q,hf]
 ·rw[aC q];have i:=YT tag l ks hp'.2 λy hy=>h0 y (by simp[hy]);rw[i.1];exact⟨by simp[q],i.2⟩
theorem YU(all:List gU)(hp:(all.map iJ).Pairwise (· < ·))(h0:∀x,x∈all->x.kind≠0):∀(l:List Int) (ks:List gU),qf all l ks=(ks++l.flatMap λt=>all.filter λx=>decide (iJ x=t),true)
|[],ks=>by rw[qf];simp
|t::l,ks=>by
 have i:=YT t all ks hp h0;rw[qf,aC i.2,YU all hp h0 l,i.1];simp
theorem J6:∀(l:List Int) (all:List gU),l.Pairwise (· < ·)->(all.map iJ).Pairwise (· < ·)->(∀x,x∈all->iJ x∈l)->(l.flatMap λt=>all.filter λx=>decide (iJ x=t))=all
|[],all,_,_,h=>by
 cases all with
 |nil=>rfl
 |cons x l=>exact absurd (h x (by simp)) (by simp)
| t ::l,all,hl,hp,h=>by
 have hl':=bJ.1 hl;have skip:∀x:gU,iJ x=t->∀r:List gU,(l.flatMap λt=>(x::r).filter λy=>decide (iJ y=t))=l.flatMap λt=>r.filter λy=>decide (iJ y=t):=λx hx r=>by
  rw[flatMap_def,flatMap_def];congr 1;refine bf λu hu=>?_;have:=hl'.1 u hu;rw[dS,aB (by simp only[aI];omega)]
 rw[flatMap_cons];cases all with
 |nil=>rw[J6 l [] hl'.2 (by simp) (by simp)];rfl
 | cons x r=>
  rw[map_cons]at hp;have hp':=bJ.1 hp;have gt:∀y,y∈r->iJ x<iJ y:=λy hy=>hp'.1 _ (aY.2 ⟨y,hy,rfl⟩);by_cases q:iJ x=t
  ·have hf:r.filter (λx=>decide (iJ x=t))=[]:=dx.2 λy hy=>by have:=gt y hy;simp only[aI];omega
   rw[dS,aC (by simpa using q),hf,skip x q r,J6 l r hl'.2 hp'.2 λy hy=>?_]
   ·rfl
   ·have:=gt y hy;rcases aN.1 (h y (by simp[hy]))with e|e
    ·omega
    ·exact e
  ·have hx:iJ x∈l:=(aN.1 (h x (by simp))).resolve_left q;have hxt:=hl'.1 _ hx;have hf:(x::r).filter (λx=>decide (iJ x=t))=[]:=dx.2 λy hy=>by
    simp only[aI];rcases aN.1 hy with rfl|hy
    ·exact q
    ·have:=gt y hy;omega
   rw[hf,J6 l (x::r) hl'.2 (by rw[map_cons];exact hp) λy hy=>?_]
   ·rfl
   ·refine(aN.1 (h y hy)).resolve_left λe=>?_;rcases aN.1 hy with rfl|hy
    ·exact q e
    ·have:=gt y hy;omega
theorem zGH{t:gU}(h:NF t)(hk:5<=t.kind/\t.kind<=7):oK t.kind t.names t.kids=(t,true):=by
 have ho:=(wo t).1 h.2;have hw:=(mH t).1 h.1;have eta:∀t:gU,t=.mk t.kind t.name t.names t.kids:=λt=>by cases t;rfl
 have e:=eta t;rw[hw.1]at e;unfold oK;rcases hw.2.2 with⟨a,b,_⟩|⟨a,b,c,d⟩|⟨a,b,c⟩|⟨a,b,c,d⟩
 ·omega
 ·rw[aC a];unfold y8;rw[aB (by omega),YH t.names t.kids [] [] b rfl (by simpa using ho.1) d];simp only[nil_append];rw[<-a,<-e]
 ·rw[aB (by omega),aC a,c];rw[a,b]at e;rw[<-e];try rfl
 ·rw[aB (by omega),aB (by omega)];have h2:=ho.2.1 a;have hm:=zE7 (l:=t.kids) λx hx=>by have:=d x hx;omega
  have h0:∀x,x∈t.kids->x.kind≠0:=λx hx=>by have:=d x hx;omega
  have ht:∀x,x∈t.kids->iJ x∈([0,1,2,3,4,5]:List Int):=λx hx=>by
   have:=d x hx;have:=(OZ (h.kid hx).1 (by omega) (by omega)).1;simp only[aN,bv,dR];omega
  unfold zS;rw[hm,YU t.kids h2.1 h0,nil_append,J6 _ _ (by decide) h2.1 ht];simp only[if_true];rw[a,b]at e;split
  ·rename_i x q;rw[q]at h2;exact absurd h2.2 (by simp)
  ·rw[<-e];simp;omega
mutual
theorem YV:∀t:gU,NF t->ll t=(t,true)
| .mk k n s l,h=>by
 have hl:=YW l λx hx=>h.kid hx;rw[ll];by_cases q:5<=k/\k<=7
 ·rw[aC q,hl,aC rfl];exact zGH h q
 ·rw[aB q];rcases((mH _).1 h.1).2.2 with⟨a,b,c,d⟩|⟨a,_⟩|⟨a,_⟩|⟨a,_⟩
  ·have hn:=((mH _).1 h.1).1;simp only[gU.kind,gU.names,gU.kids,gU.name]at a b c d hn;rw[aC ⟨a,b⟩,c,d,hn];try rfl
  all_goals simp only[gU.kind]at a;omega
theorem YW:∀l:List gU,(∀x,x∈l->NF x)->kV l=(l,true)
|[],_=>by rw[kV]
|t::l,h=>by
 have a:=YV t (h t (by simp));have b:=YW l λx hx=>h x (by simp[hx]);rw[kV,a,b,aC rfl]
end
theorem DT{t:gU}(h:NF t)(hc:jT t<=200)(hd:jL t<=16):iE t=true:=by
 have a:=YO t 201;have b:=O6 t;rw[F6];unfold mO;rw[aB (by omega),YV t h,aC rfl];exact⟨rfl,rfl⟩
theorem G8{t:gU}(h:iE t=true):jL t<=16:=by
 have e:=(F5 (F6.1 h).1).2.2.1;have b:=O6 t;omega
theorem J7{t:gU}(h:(mO t).2=0):iE (mO t).1=true:=by
 have f:=F5 h;have o:=O5 t f.1;have b:=O6 t;have c:=Ms t 201 (by omega);rw[f.2.2.2];exact DT ⟨Mr t f.1,o.1⟩ (by omega) (by omega)
theorem J8{t x:gU}(h:iE t=true)(hx:x∈t.kids):iE x=true:=by
 have a:=F7 h;have b:=G8 h;have c:=wY hx;have d:jT x<jT t:=by
  cases t;rw[jT];have:=Mt hx;simp only[gU.kids]at this;omega
 exact DT ((zm h).kid hx) (by omega) (by omega)
theorem wu(k:Int)(h0:0<=k)(h4:k<=4):iE (bT k)=true:=DT (NF.base k h0 h4) (by simp[bT,jT,jM]) (by simp[bT,jL,jg])
theorem zo:iE noT=true:=wu 0 (by omega) (by omega)
theorem YX:iE (bT 5)=true:=DT NF.bt5 (by simp[bT,jT,jM]) (by simp[bT,jL,jg])
theorem zGI:iE (kR noT noT)=true:=DT (NF.fn NF.no NF.no) (by decide) (by decide)
theorem zGJ{s:fF}(h:nE s=true):iE (.mk 5 (bs []) [s] [noT])=true:=
 DT ⟨(mH _).2 ⟨rfl,λx hx=>by rw[aL.1 hx];exact rU,.inr (.inl ⟨rfl,rfl,by simp[gU.names],λx hx=>by rw[aL.1 hx];exact h⟩)⟩,by simp[oU,BA];exact NF.no.2⟩ (by simp[jT,jM,noT]) (by simp[jL,jg,noT])
theorem zDP{t:gU}(h:iE t=true)(k:fF):iE (kM t k).1=true:=by
 rcases((zm h).field k).2 with e|e
 ·exact J8 h e
 ·rw[e];exact zo
theorem zGK{a b:gU}(ha:iE a=true)(hb:iE b=true):iE (y9 a b)=true:=by
 unfold y9;split
 ·exact hb
 split
 ·exact ha
 split
 ·exact zo
 split
 ·exact zo
 ·split
  ·rename_i h;exact J7 h
  ·exact zo
theorem zDQ(p:gU->Bool)(l:List gU):jM (l.filter p)<=jM l:=O4 p l
theorem zDR{t:gU}(h:iE t=true)(tag:Int):iE (vV t tag).1=true/\iE (vV t tag).2=true:=by
 unfold vV;split
 ·exact⟨h,h⟩
 rename_i q;split
 ·split
  ·exact⟨h,h⟩
  ·rename_i q5;by_cases q4:tag=4
   ·subst q4;exact⟨YX,h⟩
   ·exact⟨wu _ (by omega) (by omega),h⟩
 rename_i h0;split
 ·exact⟨h,h⟩
 rename_i hp;split
 ·exact⟨h,h⟩
 rename_i h7;have h7:t.kind=7:=by omega
 have hm:=(EK (l:=ko t) (tag:=tag) (by simpa using hp)).1;have hk:(kH (ko t) tag).1.t∈t.kids:=by
  unfold ko at hm⊢;rw[aB h0,aB (by omega)]at hm⊢;obtain⟨x,hx,e⟩:=aY.1 hm;rw[<-e];exact hx
 have n1:=J8 h hk;have hsub:∀x,x∈t.kids.filter (λk=>decide (iJ k≠tag))->x∈t.kids:=λx hx=>(au.1 hx).1;split
 ·rename_i r e;exact⟨n1,J8 h (hsub r (by rw[e];simp))⟩
 ·rename_i L e;refine⟨n1,?_⟩;have nf:=zm h;have hw:=(mH t).1 nf.1;have ho:=((wo t).1 nf.2).2.1 h7;have hw7:t.kids.length<=6/\∀x,x∈t.kids->1<=x.kind/\x.kind<=6:=by
   rcases hw.2.2 with⟨_,a,_⟩|⟨a,_⟩|⟨a,_⟩|⟨_,_,a,b⟩
   ·omega
   ·omega
   ·omega
   ·exact⟨a,b⟩
  have hlen:2<=(t.kids.filter λk=>decide (iJ k≠tag)).length:=by
   have hpos:0<(t.kids.filter λk=>decide (iJ k≠tag)).length:=by
    match hl:t.kids,ho with
    |[],ho=>exact absurd ho.2 (by simp)
    |[_],ho=>exact absurd ho.2 (by simp)
    |a::b::r,ho=>
     have hab:=(bJ.1 ho.1).1 (iJ b) (by simp);by_cases qa:iJ a=tag
     ·exact length_pos_of_mem (a:=b) (au.2 ⟨by simp,by simp only[aI];omega⟩)
     ·exact length_pos_of_mem (a:=a) (au.2 ⟨by simp,by simpa using qa⟩)
   match hf:t.kids.filter (λk=>decide (iJ k≠tag)),hpos,e with
   |[],hp,_=>simp at hp
   |[x],_,e=>exact absurd rfl (e x)
   |_::_::_,_,_=>simp
  have hc:=zDQ (λk=>decide (iJ k≠tag)) t.kids;have hle:=bP (λk=>decide (iJ k≠tag)) t.kids;have c1:=F7 h;have c2:=G8 h;have e1:jT t=jM t.kids+1:=by cases t;rw[jT];try rfl
  have e2:jL t=jg t.kids+1:=by cases t;rw[jL];try rfl
  have hd:=O3 (l:=t.kids.filter λk=>decide (iJ k≠tag)) (B:=jg t.kids) λx hx=>Bf (hsub x hx);refine DT ⟨(mH _).2 ⟨rfl,λx hx=>(nf.kid (hsub x hx)).1,.inr (.inr (.inr ⟨rfl,rfl,?_,λx hx=>hw7.2 x (hsub x hx)⟩))⟩,(wo _).2 ⟨by simp[gU.names],λ_=>⟨?_,hlen⟩,λx hx=>(nf.kid (hsub x hx)).2⟩⟩ (by simp only;rw[jT];omega) (by simp only;rw[jL];omega)
  ·show(t.kids.filter _).length<=6;omega
  ·show((t.kids.filter _).map iJ).Pairwise _;exact ho.1.sublist (List.filter_sublist.map iJ)
theorem zCh{t:gU}{vars:List fF}{wth:List gU}(h:(qy t vars wth).2=0):iE (qy t vars wth).1=true:=by
 unfold qy at h⊢;split
 ·rename_i q;rw[aC q]at h;cases h
 rename_i q;rw[aB q]at h;split
 ·rename_i q;rw[aC q]at h;cases h
 rename_i q;rw[aB q]at h;split
 ·rename_i q;rw[aC q]at h;exact J7 h
 ·rename_i q;rw[aB q]at h;cases h
mutual
def kI:gq->Prop
|.mk k tx n _ _ _ _ ks=>(k=9->nE tx=true)/\(k=2->n=0\/n=1)/\(k=12->0<=n/\n<6)/\ww ks
def ww:List gq->Prop
|[]=>True
|n::l=>kI n/\ww l
end
theorem O7:∀l:List gq,ww l↔∀x,x∈l->kI x
|[]=>by simp[ww]
|n::l=>by simp[ww,O7 l]
theorem YY:∀l:List UInt8,(l.take (jA false l)).all (λb=>mX b||kF b)=true
|[]=>by simp[jA]
| b::l=>by
 rw[jA];split
 ·rename_i h;rw[take_succ_cons,all_cons,YY l];simpa[Bool.or_comm]using h
 ·simp
theorem zGA{c:UInt8}(h:mX c=true):kF c=false:=by
 unfold mX tF at h;unfold kF pU;simp only[aI,bV]at*
 omega
theorem zGB:∀{l:List UInt8},(jB l).e=0->(jB l).kind=1->nE (bA (jB l).text)=true
|[],h,_=>absurd h (by decide)
| c::r,h,k=>by
 unfold jB at h k⊢;simp only at h k⊢;by_cases c1:mX c=true
 ·rw[aC c1]at h k⊢;by_cases c2:32<jA false (c::r)
  ·rw[aC c2]at h;exact absurd h (by decide)
  rw[aB c2]at h k⊢;simp only at h k⊢;have hw:¬zM (bA ((c::r).take (jA false (c::r))))=true:=λz=>by rw[aC z]at k;exact absurd k (by decide)
  have ha:=YY (c::r);have e:jA false (c::r)=jA false r+1:=by rw[jA,aC (by simp[c1])]
  rw[e,take_succ_cons]at hw ha⊢;rw[aM]at hw;have hs:(bA (c::r.take (jA false r))).size<=32:=by
   show(c::r.take (jA false r)).toArray.size<=32;simp only[size_toArray,length_cons,bN];omega
  unfold nE;show(decide ((bA (c::r.take (jA false r))).size<=32)&&(!zM (bA (c::r.take (jA false r)))&&(!kF c&&(c::r.take (jA false r)).all λb=>mX b||kF b)))=true;rw[hw,zGA c1,ha];simpa using hs
 rw[aB c1]at h k⊢;exfalso;revert h k;repeat' split
 all_goals (intro h k;first|exact absurd k (by simp)|exact absurd h (by simp[lT]))
def zq(L:List Tok):Prop:=∀i,(L.getD i yA).kind=1->nE (L.getD i yA).text=true
theorem YZ{L:List Tok}{t:Tok}(h:zq L)(ht:t.kind=1->nE t.text=true):zq (L++[t]):=λi hk=>by
 rw[aH,getElem?_append]at hk⊢;split at hk
 ·rename_i q;rw[aC q,<-aH];rw[<-aH]at hk;exact h i hk
 ·rename_i q;rw[aB q];by_cases z:i-L.length=0
  ·rw[z]at hk⊢;exact ht hk
  ·rw[aS (by simp;omega)]at hk;exact absurd hk (by decide)
theorem Y0:∀(n:Nat) (l:List UInt8) (a b:Int) (ts:List Tok),zq ts->zq (o8 n l a b ts).1
|0,l,a,b,ts,h=>by rw[o8];exact h
| n+1,l,a,b,ts,h=>by
 rw[o8];simp only;split
 ·exact YZ h λk=>absurd (show(0:Int)=1 from k) (by decide)
 have ht:=zGB (l:=l.drop (iX false l));generalize jB (l.drop (iX false l))=t at*
 obtain⟨e,he⟩:∃e,(if t.e=0/\ts.length=8192 then 19 else t.e)=e:=⟨_,rfl⟩
 rw[he];split
 ·exactλi k=>absurd k (by simp[yA])
 ·rename_i q;have e0:t.e=0:=by
   apply bD;intro z;rw[aB (λy=>z y.1)]at he;omega
  exact Y0 n _ _ _ _ (YZ h λk=>ht e0 k)
theorem zH0(s:fF):zq (lK s).1:=by
 unfold lK;split
 ·exactλi k=>absurd k (by simp[yA])
 ·exact Y0 _ _ _ _ _ λi k=>absurd k (by simp[yA])
section
variable {L:List Tok}
theorem Tm.z{p q:PS}(h:Tm L p q)(e:q.e=0):p.e=0:=bD λz=>h.bad z e
theorem zGC(hN:zq L){p:PS}(h:(jI L p).2.e=0):nE (jI L p).1=true:=by
 unfold jI at h⊢;split
 ·rename_i q;exact hN _ q.2
 ·rename_i q;rw[aB q]at h;exact absurd h (FE (by decide))
theorem tu{p:PS}{k:Int}{t:fF}{n:Int}{ts:List gU}{ns:List fF}{ks:List gq}(h:ww ks)(s:k≠9/\k≠2/\k≠12):kI (kY L p k t n ts ns ks):=by
 unfold kY;rw[kI];exact⟨λz=>absurd z s.1,λz=>absurd z s.2.1,λz=>absurd z s.2.2,h⟩
theorem s1{a:gq}(h:kI a):ww [a]:=⟨h,trivial⟩
theorem s2{a b:gq}(h:kI a)(k:kI b):ww [a,b]:=⟨h,k,trivial⟩
def pq(L:List Tok)(f:PS->gq × PS):Prop:=∀p,p.at'<L.length->(f p).2.e=0->kI (f p).1
theorem zGD(hL:jJ L){ki:PS->gU × PS}{ex rk:PS->gq × PS}(hk:iA L ki)(he:iA L ex)(ne:pq L ex)(nr:pq L rk):pq L (zN L ki ex rk):=λp hp=>by
 unfold zN;split
 ·have h1:=ig hL hp (s:=tH);have h2:=h1.trans (mE hL h1.lt);have h3:=h2.trans (zQ hL hk _ h2.lt);have h4:=(mE hL h1.lt).trans ((zQ hL hk _ h2.lt).trans (jE hL h3.lt (s:=bs [61])));have h5:=he _ h4.lt;have h6:=jE hL h5.lt (s:=bs [59]);have h7:=he _ h6.lt;intro e;exact tu (s2 (ne _ h4.lt (h6.z (h7.z e))) (ne _ h6.lt e)) (by decide)
 split
 ·have h1:=ig hL hp (s:=AX);have h2:=he _ h1.lt;have h3:=jE hL h2.lt (s:=Cf);have h4:=he _ h3.lt;have h5:=jE hL h4.lt (s:=Cg);have h6:=he _ h5.lt;intro e;have e4:=h5.z (h6.z e);exact tu ⟨ne _ h1.lt (h3.z (h4.z e4)),ne _ h3.lt e4,ne _ h5.lt e,trivial⟩ (by decide)
 split
 ·have h1:=ig hL hp (s:=uF);have h2:=BZ hL hk _ h1.lt;have h3:=h2.trans (jE hL h2.lt (s:=bs [61,62]));intro e;exact tu (s1 (ne _ h3.lt e)) (by decide)
 ·exact nr p hp
theorem Y1(hL:jJ L){rk:PS->gq × PS}(hr:iA L rk)(nr:pq L rk)(signs:List fF):∀(n:Nat) (a:gq) (p:PS),p.at'<L.length->Tm L p (kZ L rk signs n a p).2/\(kI a->(kZ L rk signs n a p).2.e=0->kI (kZ L rk signs n a p).1)
|0,a,p,hp=>by rw[kZ];exact⟨Tm.refl hp,λha _=>ha⟩
| n+1,a,p,hp=>by
 rw[kZ];split
 ·exact⟨Tm.refl hp,λha _=>ha⟩
 ·rename_i s q h;have h1:=Cs hL _ hp h;have h2:=hr _ h1.1.lt;have r:=Y1 hL hr nr signs n (kY L p 14 s 0 [] [] [a,(rk q).1]) (rk q).2 h2.lt;exact⟨(h1.1.trans h2).trans r.1,λha e=>r.2 (tu (s2 ha (nr _ h1.1.lt (r.1.z e))) (by decide)) e⟩
theorem zH1(hL:jJ L){ki:PS->gU × PS}{rk:PS->gq × PS}(hk:iA L ki)(hr:iA L rk)(nr:pq L rk):pq L (ru L ki rk):=λp hp=>by
 have h1:=hr p hp;have n1:=nr p hp;unfold ru;simp only;split
 ·rename_i s q h;have h2:=Cs hL _ h1.lt h;have h3:=hr _ h2.1.lt;intro e;exact tu (s2 (n1 (h2.1.z (h3.z e))) (nr _ h2.1.lt e)) (by decide)
 split
 ·have h2:=ig hL h1.lt (s:=bs [97,115]);have h3:=hk _ h2.lt;intro e;exact tu (s1 (n1 (h2.z (h3.z e)))) (by decide)
 split
 ·have h2:=ig hL h1.lt (s:=bs [105,115]);split
  ·rename_i i q h;have h3:=FF hL _ _ h2.lt h;intro e;have:xN.length=6:=rfl;unfold kY;rw[kI];exact⟨λz=>absurd z (by decide),λz=>absurd z (by decide),λ_=>by omega,s1 (n1 (h2.z h3.2.2.1))⟩
  ·intro e;exact absurd e (FE (by decide))
 ·exact n1
theorem zGE(hL:jJ L){ki:PS->gU × PS}{un:PS->gq × PS}(hk:iA L ki)(hu:iA L un)(nu:pq L un):pq L (FC L ki un):=by
 obtain⟨t5,t4,t3,t2,t1,t0⟩:=FI hL hk hu;have op:∀(f:PS->gq × PS) (signs:List fF),iA L f->pq L f->pq L (λp=>kZ L f signs (L.length+1) (f p).1 (f p).2):=λf signs tf nf p hp e=>by
  have r:=Y1 hL tf nf signs (L.length+1) (f p).1 (f p).2 (tf p hp).lt;exact r.2 (nf p hp (r.1.z e)) e
 have n5:pq L (Ch L un):=op un (rq 5) hu nu;have n4:pq L (Ci L un):=op _ (rq 4) t5 n5;have n3:pq L (FB L un):=op _ (rq 3) t4 n4;have n2:pq L (Cj L ki un):=zH1 hL hk t3 n3;have n1:pq L (Ck L ki un):=op _ (rq 1) t2 n2;exact op _ (rq 0) t1 n1
theorem Y2(hL:jJ L){ex:PS->gq × PS}(he:iA L ex)(ne:pq L ex):∀(n:Nat) (ns:List fF) (ks:List gq) (p:PS),p.at'<L.length->ww ks->(uU L ex n ns ks p).2.e=0->ww (uU L ex n ns ks p).1.2
|0,ns,ks,p,hp,hk,e=>by rw[uU];exact hk
| n+1,ns,ks,p,hp,hk,e=>by
 have h1:=mE hL hp;have h2:=h1.trans (jE hL h1.lt (s:=bs [58]));have h3:=he _ h2.lt;have h4:=ig hL h3.lt (s:=bs [44]);have w:(ex (jQ L (bs [58]) (jI L p).2)).2.e=0->ww (ks++[(ex (jQ L (bs [58]) (jI L p).2)).1]):=λe=>(O7 _).2 λx hx=>by
  rcases aK.1 hx with hx|hx
  ·exact(O7 _).1 hk x hx
  ·rw[aL.1 hx];exact ne _ h2.lt e
 rw[uU]at e⊢;split
 ·rename_i c;rw[aC c]at e;exact Y2 hL he ne n _ _ _ h4.lt (w (h4.z ((FJ hL he n _ _ _ h4.lt).z e))) e
 ·rename_i c;rw[aB c]at e;exact w (h4.z e)
theorem zDN(hL:jJ L){ex:PS->gq × PS}(he:iA L ex)(ne:pq L ex)(q p:PS)(hp:p.at'<L.length):(vT L ex q p).2.e=0->kI (vT L ex q p).1:=by
 unfold vT;split
 ·exactλ_=>tu trivial (by decide)
 split
 ·have h1:=he p hp;have h2:=jE hL h1.lt (s:=Cm);have h3:=h2.trans (mE hL h2.lt);have h4:=h3.trans (jE hL h3.lt (s:=bs [58]));have h5:=he _ h4.lt;have h6:=jE hL h5.lt (s:=bs [125]);intro e;have e5:=h6.z e;exact tu (s2 (ne _ hp (h4.z (h5.z e5))) (ne _ h4.lt e5)) (by decide)
 ·have h1:=FJ hL he (L.length+1) [] [] p hp;have h2:=jE hL h1.lt (s:=bs [125]);intro e;exact tu (Y2 hL he ne (L.length+1) [] [] p hp trivial (h2.z e)) (by decide)
theorem zGF(hL:jJ L){ki:PS->gU × PS}{ex:PS->gq × PS}(hk:iA L ki)(he:iA L ex)(ne:pq L ex):pq L (xO L ki ex):=λp hp=>by
 unfold xO;by_cases c0:p.e=0/\(iI L p).kind=3
 ·rw[aC c0];exactλ_=>tu trivial (by decide)
 rw[aB c0];by_cases c1:p.e=0/\(iI L p).kind=4
 ·rw[aC c1];exactλ_=>tu trivial (by decide)
 rw[aB c1];by_cases c2:(iC L Cn p).1=true
 ·rw[aC c2];exactλ_=>by unfold kY;rw[kI];exact⟨λz=>absurd z (by decide),λ_=>by omega,λz=>absurd z (by decide),trivial⟩
 rw[aB c2];by_cases c3:(iC L Co p).1=true
 ·rw[aC c3];exactλ_=>by unfold kY;rw[kI];exact⟨λz=>absurd z (by decide),λ_=>by omega,λz=>absurd z (by decide),trivial⟩
 rw[aB c3];by_cases c4:(iC L Cq p).1=true
 ·rw[aC c4];exactλ_=>tu trivial (by decide)
 rw[aB c4];by_cases c5:(iC L yU p).1=true
 ·rw[aC c5];exactλ_=>tu trivial (by decide)
 rw[aB c5];by_cases c6:(iC L yB p).1=true
 ·rw[aC c6];have h1:=ig hL hp (s:=yB);have h2:=jE hL h1.lt (s:=bs [40]);have h3:=he _ h2.lt;exactλe=>tu (s1 (ne _ h2.lt ((jE hL h3.lt (s:=bs [41])).z e))) (by decide)
 rw[aB c6];by_cases c7:(iC L (bs [40]) p).1=true
 ·rw[aC c7];have h1:=ig hL hp (s:=bs [40]);exactλe=>ne _ h1.lt ((jE hL (he _ h1.lt).lt (s:=bs [41])).z e)
 rw[aB c7];by_cases c8:(iC L (bs [123]) p).1=true
 ·rw[aC c8];exact zDN hL he ne p _ (ig hL hp (s:=bs [123])).lt
 rw[aB c8];intro _;show kI (if(iC L (bs [91]) (jI L p).2).1=true then _ else _:gq × PS).1;split
 ·exact tu trivial (by decide)
 ·exact tu trivial (by decide)
theorem O8(hL:jJ L)(hN:zq L){ex:PS->gq × PS}(he:iA L ex)(ne:pq L ex):∀(n:Nat) (a:gq) (p:PS),p.at'<L.length->Tm L p (tJ L ex n a p).2/\(kI a->(tJ L ex n a p).2.e=0->kI (tJ L ex n a p).1)
|0,a,p,hp=>by rw[tJ];exact⟨Tm.refl hp,λha _=>ha⟩
| n+1,a,p,hp=>by
 rw[tJ];split
 ·have h1:=ig hL hp (s:=bs [40]);have h2:=he _ h1.lt;have h3:=jE hL h2.lt (s:=bs [41]);have r:=O8 hL hN he ne n (kY L p 7 (bs []) 0 [] [] [a,(ex (iC L (bs [40]) p).2).1]) _ h3.lt;exact⟨((h1.trans h2).trans h3).trans r.1,λha e=>r.2 (tu (s2 ha (ne _ h1.lt (h3.z (r.1.z e)))) (by decide)) e⟩
 split
 ·have h1:=ig hL hp (s:=bs [46]);have h2:=mE hL h1.lt;have r:=O8 hL hN he ne n (kY L p 9 (jI L (iC L (bs [46]) p).2).1 0 [] [] [a]) _ h2.lt;exact⟨(h1.trans h2).trans r.1,λha e=>r.2 (by unfold kY;rw[kI];exact⟨λ_=>zGC hN (r.1.z e),λz=>absurd z (by decide),λz=>absurd z (by decide),s1 ha⟩) e⟩
 ·exact⟨Tm.refl hp,λha _=>ha⟩
theorem zE4(hL:jJ L)(hN:zq L){ki:PS->gU × PS}{ex un:PS->gq × PS}(hk:iA L ki)(he:iA L ex)(ne:pq L ex)(nu:pq L un):pq L (zO L ki ex un):=λp hp=>by
 unfold zO;split
 ·exactλe=>tu (s1 (nu _ (ig hL hp (s:=bs [45])).lt e)) (by decide)
 split
 ·exactλe=>tu (s1 (nu _ (ig hL hp (s:=tK)).lt e)) (by decide)
 ·have ta:=I4 hL hk he p hp;have r:=O8 hL hN he ne (L.length+1) (xO L ki ex p).1 (xO L ki ex p).2 ta.lt;exactλe=>r.2 (zGF hL hk he ne p hp (r.1.z e)) e
theorem zIM(hL:jJ L)(hN:zq L){ki:PS->gU × PS}(hk:iA L ki)(d:Nat):pq L (uV L ki d).1/\pq L (uV L ki d).2:=by
 have n0:kI qo:=by simp[kI,qo,ww]
 induction d with
 |zero=>exact⟨λp hp _=>n0,λp hp _=>n0⟩
 | succ d ih=>
  have tm:=FK hL hk d;have up:∀(f:PS->gq × PS),pq L f->pq L (λp=>if(jV L p).1=true then uT (f (jV L p).2)else(qo,(jV L p).2)):=λf nf p hp=>by
   show(if(jV L p).1=true then _ else _:gq × PS).2.e=0->kI (if(jV L p).1=true then _ else _:gq × PS).1;by_cases c:(jV L p).1=true
   ·have hp':(jV L p).2.at'<L.length:=by rw[(zP c).1];exact hp
    rw[aC c];exactλe=>nf _ hp' e
   ·rw[aB c];exactλ_=>n0
  rw[uV];exact⟨up _ (zGD hL hk tm.1 ih.1 (zGE hL hk tm.2 ih.2)),up _ (zE4 hL hN hk tm.1 ih.1 ih.2)⟩
theorem Y3(hL:jJ L)(hN:zq L):∀(n:Nat) (l:List jZ) (p:PS),p.at'<L.length->(rz L n l p).2.e=0->(∀d,d∈l->kI d.body)->∀d,d∈(rz L n l p).1->kI d.body
|0,l,p,hp,e,h,d,hd=>by rw[rz]at hd;exact h d hd
| n+1,l,p,hp,e,h,d,hd=>by
 rw[rz]at hd e;split at hd
 ·rename_i c;rw[aC c]at e;have h1:=Lt hL p hp;have e1:=(Ia hL n (l++[(ry L p).1]) _ h1.lt).z e;refine Y3 hL hN n _ _ h1.lt e (λx hx=>?_) d hd;rcases aK.1 hx with hx|hx
  ·exact h x hx
  ·rw[aL.1 hx];have h1:=ig hL hp (s:=AY);have h2:=h1.trans (jE hL h1.lt (s:=uF));have h3:=h2.trans (mE hL h2.lt);have h4:=h3.trans (I9 hL _ h3.lt);have h5:=h4.trans (BZ hL (y5 hL) _ h4.lt);have h6:=h5.trans (jE hL h5.lt (s:=bs [61]));have h7:=I8 hL _ h6.lt;exact(zIM hL hN (y5 hL) 102).1 _ h6.lt ((jE hL h7.lt (s:=bs [59])).z e1)
 ·exact h d hd
end
theorem zE5(s:fF):∀d,d∈(qc s).1.decs->kI d.body:=λd hd=>by
 unfold qc at hd;simp only at hd;by_cases q1:(lK s).2.e=0
 ·obtain⟨hL,hl⟩:=Ii q1;rw[aB (λz=>z q1)]at hd;split at hd
  ·cases hd
  ·rename_i q2;have h0:ps0.at'<(lK s).1.length:=hL.pos;refine Y3 hL (zH0 s) _ _ _ (FO hL _ _ _ h0).lt ?_ (λx hx=>by cases hx) d hd;apply bD;intro z;refine q2 ?_;unfold u6;rw[aB (λy=>z y.1)];exact z
 ·rw[aC q1]at hd;cases hd
def mh(M G:Nat)(k n:Int)(ns:List fF)(ts:List gU)(q:Nat):Prop:=
((k=0\/k=1\/k=3\/k=4\/k=20)/\q=0)\/(k=2/\q=0/\(n=0\/n=1))\/(k=6/\q=0/\0<=n/\n<G)\/((k=5\/k=9\/k=16\/k=17\/k=19)/\q=1)\/(k=12/\q=1/\0<=n/\n<6)\/((k=7\/k=10\/k=14\/k=15\/k=18)/\q=2)\/(k=13/\q=2/\0<=n/\n<11)\/(k=11/\q=3)\/(k=8/\ns.length=q/\ns.Nodup)\/(k=21/\q=1/\0<=n/\n<M/\∃a b,ts=[a,b]/\iE a=true/\iE b=true)
theorem mh.cast{M G:Nat}{n:Int}{ns:List fF}{a b:gU}(h0:0<=n)(h1:n<M)(ha:iE a=true)(hb:iE b=true):mh M G 21 n ns [a,b] 1:=by
 simp[mh];exact⟨h0,h1,a,b,⟨rfl,rfl⟩,ha,hb⟩
mutual
def jm(M G:Nat):gy->Prop
|.mk k n _ _ ns ts cs ks=>(mh M G k n ns ts ks.length/\cs=[])/\jN M G ks
def jN(M G:Nat):List gy->Prop
|[]=>True
|c::l=>jm M G c/\jN M G l
end
structure ni (s s':CS):Prop where
 e:s'.e=0->s.e=0
 sites:s.sites.length<=s'.sites.length
 tab:s.tab.length<=s'.tab.length
theorem ni.refl(s:CS):ni s s:=⟨id,aP _,aP _⟩
theorem ni.trans{a b c:CS}(h:ni a b)(k:ni b c):ni a c:=⟨λe=>h.e (k.e e),aj h.sites k.sites,aj h.tab k.tab⟩
theorem EX(a b e:Int)(s:CS):ni s (lI a b e s):=by
 unfold lI;split
 ·rename_i q;exact⟨λ_=>q,aP _,aP _⟩
 ·exact ni.refl s
theorem EY{a b e:Int}{s:CS}(h:e≠0):(lI a b e s).e≠0:=by
 unfold lI;split
 ·exact h
 ·rename_i q;exact q
section
variable (M G:Nat)
def pF(s:CS)(P:Prop)(s':CS):Prop:=ni s s'/\(s'.e=0->s'.sites.length<=M->s'.tab.length<=G->P)
variable {M G}
theorem pF.ret{s:CS}{P:Prop}(h:P):pF M G s P s:=⟨ni.refl s,λ_ _ _=>h⟩
theorem pF.bind{s t u:CS}{P Q:Prop}(h:pF M G s P t)(k:pF M G t Q u):pF M G s (P/\Q) u:=
⟨h.1.trans k.1,λe a b=>⟨h.2 (k.1.e e) (aj k.1.sites a) (aj k.1.tab b),k.2 e a b⟩⟩
theorem pF.imp{s t:CS}{P Q:Prop}(h:pF M G s P t)(f:P->Q):pF M G s Q t:=⟨h.1,λe a b=>f (h.2 e a b)⟩
theorem pF.fail{s:CS}{P:Prop}{a b e:Int}(h:e≠0):pF M G s P (lI a b e s):=⟨EX a b e s,λz=>absurd z (EY h)⟩
theorem DU(t:gU)(a b:Int)(s:CS):pF M G s (iE (kC t a b s).1=true) (kC t a b s).2:=by
 unfold kC;simp only;split
 ·exact .fail (by decide)
 ·rename_i q;exact .ret (zCh (by simpa using q))
theorem J9(t:gU)(a b:Int)(s:CS):pF M G s (iE (pX t a b s).1=true/\(mO t).2=0) (pX t a b s).2:=by
 unfold pX;simp only;split
 ·exact .fail (by decide)
 ·rename_i q;have q:(mO t).2=0:=by simpa using q
  exact .ret ⟨J7 q,q⟩
theorem G9(x:gy)(t u:gU)(a b:Int)(s:CS):pF M G s (jm M G x->iE t=true->iE u=true->jm M G (mP x t u a b s).1) (mP x t u a b s).2:=by
 unfold mP;split
 ·exact .ret λh _ _=>h
 ·rename_i q;have q:s.e=0:=by simpa using q
  refine⟨⟨λ_=>q,by simp,aP _⟩,λ_ h _ hx ht hu=>?_⟩;simp only[aT,length_cons,length_nil]at h;simp only[jm,jN,and_true];exact⟨.cast (by omega) (by omega) ht hu,hx⟩
theorem Bv(x:gy)(t u:gU)(a b:Int)(s:CS):pF M G s (jm M G x->iE t=true->iE u=true->jm M G (lF x t u a b s).1) (lF x t u a b s).2:=by
 unfold lF;split
 ·exact .ret λh _ _=>h
 split
 ·exact .ret λh _ _=>h
 split
 ·exact G9 x t u a b s
 ·exact .fail (by decide)
theorem Y4(u:gU)(hu:iE u=true)(a b:Int)(x:(gy × gU) × CS):pF M G x.2 (jm M G x.1.1/\iE x.1.2=true->jm M G (kg u a b x).1.1/\iE (kg u a b x).1.2=true) (kg u a b x).2:=by
 unfold kg;split
 ·exact(G9 _ _ _ _ _ _).imp λh k=>⟨h k.1 k.2 hu,hu⟩
 ·exact .ret id
theorem Ja(a b:Int):∀(ts l:List gU) (s:CS),ni s (sV a b ts l s).2
|[],l,s=>by rw[sV];exact ni.refl s
|t::ts,l,s=>by
 rw[sV];split
 ·exact ni.refl s
 ·exact(DU (M:=0) (G:=0) t a b s).1.trans (Ja a b ts _ _)
theorem zHW{l:List kX}{x:kX}:l.length<=(ku 256 l x).2.length/\((ku 256 l x).1.2=0->0<=(ku 256 l x).1.1/\(ku 256 l x).1.1<(ku 256 l x).2.length):=by
 have h:=EO (λy=>Ab y x) l;unfold ku;split
 ·exact⟨aP _,λz=>absurd z (by simp)⟩
 split
 ·rename_i q;refine⟨aP _,λ_=>⟨q,?_⟩⟩;simp only;omega
 split
 ·exact⟨aP _,λz=>absurd z (by simp)⟩
 ·exact⟨by simp,λ_=>by simp;omega⟩
def pu(env:Env):Prop:=∀v,v∈env->iE v.2=true
theorem pu.more{env:Env}(h:pu env)(x:fF){t:gU}(ht:iE t=true):pu (env++[(x,t)]):=λv hv=>by
 rcases aK.1 hv with hv|hv
 ·exact h v hv
 ·rw[aL.1 hv];exact ht
theorem pu.get{env:Env}(h:pu env)(k:Nat):iE (env.getD k (bs [],noT)).2=true:=by
 rw[aH];cases e:env[k]? with
 |none=>exact zo
 |some v=>exact h v (ah e)
variable (M G)
def jY(i:Inf):Prop:=∀env s,pF M G s (pu env->jm M G (i env s).1.1/\iE (i env s).1.2=true) (i env s).2
variable {M G}
section
variable (L:iQ)
theorem Y5(a b:Int)(e:jF)(l:List gU)(s:CS):pF M G s (jm M G (tQ L a b e l s).1.1/\iE (tQ L a b e l s).1.2=true) (tQ L a b e l s).2:=by
 unfold tQ;split
 ·exact .fail (by decide)
 ·rename_i q;simp only;have h:=zHW (l:=s.tab) (x:=⟨e.module,e.decl,l⟩);generalize ku 256 s.tab ⟨e.module,e.decl,l⟩=r at*
  have k:ni s {s with tab:=r.2}:=⟨id,aP _,h.1⟩
  split
  ·rename_i q2;exact⟨k.trans (EX _ _ _ _),λz=>absurd z (EY q2)⟩
  ·rename_i q2;have q2:=h.2 (by simpa using q2);refine⟨k,λ_ _ hG=>⟨?_,?_⟩⟩
   ·simp only[cN,jm,jN,and_true];simp[mh];simp only at hG;omega
   ·have q:(tO L e l).2=true:=by simpa using q
    unfold tO at q⊢;simp only[aF,aI]at q;exact J7 q.2.2
theorem zHX(n:gq):jY M G (xV L n):=λenv s=>by
 unfold xV;simp only;split
 ·exact .ret λhe=>⟨by simp[cN,jm,jN,mh],he.get _⟩
 split
 ·exact .fail (by decide)
 split
 ·exact .fail (by decide)
 split
 ·exact .fail (by decide)
 split
 ·exact(Y5 L _ _ _ _ _).imp λh _=>h
 split
 ·rename_i q;exact⟨Ja _ _ _ _ _,λz=>absurd z q⟩
 split
 ·rename_i q;exact⟨(Ja _ _ _ _ _).trans (EX _ _ _ _),λz=>absurd z (EY q)⟩
 ·have h:=Y5 (M:=M) (G:=G) L n.line n.col (qx (L.scopes.getD s.module.toNat []) n.text).1 (sV n.line n.col n.types [] s).1 (sV n.line n.col n.types [] s).2;exact⟨(Ja _ _ _ _ _).trans h.1,λe a b _=>h.2 e a b⟩
theorem zJr(n a:gq){ia ib:Inf}(ha:jY M G ia)(hb:jY M G ib):jY M G (pY n a ia ib):=λenv s=>by
 unfold pY;simp only;have h1:=ha env s;generalize ia env s=x at*
 obtain⟨y,hy⟩:∃y,(if 0<n.types.length/\x.2.e=0 then(((lF x.1.1 x.1.2 (kC (n.types.getD 0 noT) n.line n.col x.2).1 a.line a.col (kC (n.types.getD 0 noT) n.line n.col x.2).2).1,(kC (n.types.getD 0 noT) n.line n.col x.2).1),(lF x.1.1 x.1.2 (kC (n.types.getD 0 noT) n.line n.col x.2).1 a.line a.col (kC (n.types.getD 0 noT) n.line n.col x.2).2).2)else x)=y:=⟨_,rfl⟩
 have h2:pF M G x.2 (jm M G x.1.1/\iE x.1.2=true->jm M G y.1.1/\iE y.1.2=true) y.2:=by
  rw[<-hy];split
  ·exact((DU _ _ _ _).bind (Bv _ _ _ _ _ _)).imp λh k=>⟨h.2 k.1 k.2 h.1,h.1⟩
  ·exact .ret id
 rw[hy];refine(h1.bind (h2.bind (hb (env++[(n.text,y.1.2)]) y.2))).imp λh he=>?_;have y1:=h.2.1 (h.1 he);have z1:=h.2.2 (he.more _ y1.2);exact⟨by simp only[cK,jm,jN,and_true];exact⟨by simp[mh],y1.1,z1.1⟩,z1.2⟩
theorem O9(n a:gq){ia:Inf}(ha:jY M G ia):jY M G (xW n a ia):=λenv s=>by
 unfold xW;simp only;have h1:=DU (M:=M) (G:=G) (n.types.getD 0 noT) n.line n.col s;generalize kC (n.types.getD 0 noT) n.line n.col s=p at*
 obtain⟨q,hq⟩:∃q,(if 1<n.types.length/\p.2.e=0 then kC (n.types.getD 1 noT) n.line n.col p.2 else(noT,p.2))=q:=⟨_,rfl⟩
 have h2:pF M G p.2 (iE q.1=true) q.2:=by
  rw[<-hq];split
  ·exact DU _ _ _ _
  ·exact .ret zo
 rw[hq];have h3:=ha (env++[(n.text,p.1)]) q.2;generalize ia (env++[(n.text,p.1)]) q.2=x at*
 obtain⟨y,hy⟩:∃y,(if 1<n.types.length then(((lF x.1.1 x.1.2 q.1 a.line a.col x.2).1,q.1),(lF x.1.1 x.1.2 q.1 a.line a.col x.2).2)else x)=y:=⟨_,rfl⟩
 have h4:pF M G x.2 (jm M G x.1.1/\iE x.1.2=true->iE q.1=true->jm M G y.1.1) y.2:=by
  rw[<-hy];split
  ·exact(Bv _ _ _ _ _ _).imp λh k kq=>h k.1 k.2 kq
  ·exact .ret λk _=>k.1
 rw[hy];refine(((h1.bind h2).bind h3).bind (h4.bind (J9 _ _ _ _))).imp λh he=>?_;exact⟨by simp only[cK,jm,jN,and_true];exact⟨by simp[mh],h.2.1 (h.1.2 (he.more _ h.1.1.1)) h.1.1.2⟩,h.2.2.1⟩
theorem Y6{t:gU}(h:iE t=true)(i:Nat):iE (t.kids.getD i noT)=true:=by
 rw[aH];cases e:t.kids[i]? with
 |none=>exact zo
 |some v=>exact J8 h (ah e)
theorem g_call(n b:gq){ia ib:Inf}(ha:jY M G ia)(hb:jY M G ib):jY M G (xX n b ia ib):=λenv s=>by
 unfold xX;simp only;have h1:=(ha env s).bind (Y4 (kR noT noT) zGI n.line n.col (ia env s));generalize kg (kR noT noT) n.line n.col (ia env s)=x at*
 split
 ·exact⟨h1.1.trans (EX _ _ _ _),λz=>absurd z (EY (by decide))⟩
 ·refine(h1.bind ((hb env x.2).bind (Bv _ _ _ _ _ _))).imp λh he=>?_;have x1:=h.1.2 (h.1.1 he);have y1:=h.2.1 he;exact⟨by simp only[cK,jm,jN,and_true];exact⟨by simp[mh],x1.1,h.2.2 y1.1 y1.2 (Y6 x1.2 0)⟩,Y6 x1.2 1⟩
theorem zJs(n:gq)(hn:nE n.text=true){ia:Inf}(ha:jY M G ia):jY M G (p8 n ia):=λenv s=>by
 unfold p8;simp only;have h1:=ha env s;generalize ia env s=x at*
 obtain⟨y,hy⟩:∃y,(if x.1.2.kind=0 then mP x.1.1 x.1.2 (.mk 5 (bs []) [n.text] [noT]) n.line n.col x.2 else(x.1.1,x.2))=y:=⟨_,rfl⟩
 have h2:pF M G x.2 (jm M G x.1.1/\iE x.1.2=true->jm M G y.1) y.2:=by
  rw[<-hy];split
  ·exact(G9 _ _ _ _ _ _).imp λh k=>h k.1 k.2 (zGJ hn)
  ·exact .ret λk=>k.1
 rw[hy]
 have key:(pu env->jm M G x.1.1/\iE x.1.2=true)/\(jm M G x.1.1/\iE x.1.2=true->jm M G y.1)->pu env->jm M G (cT 9 n.text [y.1])/\iE (kM x.1.2 n.text).1=true:=λh he=>
  ⟨by simp only[cT,jm,jN,and_true];exact⟨by simp[mh],h.2 (h.1 he)⟩,zDP (h.1 he).2 _⟩
 split
 ·exact(h1.bind h2).imp key
 ·exact⟨(h1.bind h2).1.trans (EX _ _ _ _),λz=>absurd z (EY (by decide))⟩
theorem zIJ(n:gq){ia ib:Inf}(ha:jY M G ia)(hb:jY M G ib):jY M G (xY n ia ib):=λenv s=>by
 unfold xY;simp only;have h1:=(ha env s).bind (Y4 (bT 5) YX n.line n.col (ia env s));generalize kg (bT 5) n.line n.col (ia env s)=x at*
 split
 ·exact⟨h1.1.trans (EX _ _ _ _),λz=>absurd z (EY (by decide))⟩
 ·refine(h1.bind ((hb env x.2).bind (J9 _ _ _ _))).imp λh he=>?_;exact⟨by simp only[cT,jm,jN,and_true];exact⟨by simp[mh],(h.1.2 (h.1.1 he)).1,(h.2.1 he).1⟩,h.2.2.1⟩
theorem Y7(q:gq){env:Env}(h:pu env):pu (oZ q env).1/\pu (oZ q env).2:=by
 unfold oZ;split
 ·simp only;have k:=zDR (h.get (rT env (q.kids.getD 0 qo).text).toNat) q.n;exact⟨λv hv=>(eT hv).elim (h v) λe=>by rw[e];exact k.1,λv hv=>(eT hv).elim (h v) λe=>by rw[e];exact k.2⟩
 ·exact⟨h,h⟩
theorem Oa(q a b:gq){iq ia ib:Inf}(hq:jY M G iq)(ha:jY M G ia)(hb:jY M G ib):jY M G (xZ q a b iq ia ib):=λenv s=>by
 unfold xZ;simp only;have h1:=(hq env s).bind (Bv (iq env s).1.1 (iq env s).1.2 (bT 2) q.line q.col (iq env s).2);generalize lF (iq env s).1.1 (iq env s).1.2 (bT 2) q.line q.col (iq env s).2=x at*
 have h2:=ha (oZ q env).1 x.2;generalize ia (oZ q env).1 x.2=y at*
 have h3:=hb (oZ q env).2 y.2;generalize ib (oZ q env).2 y.2=z at*
 refine(h1.bind (h2.bind (h3.bind ((Bv _ _ _ _ _ _).bind (Bv _ _ _ _ _ _))))).imp λh he=>?_;have q1:=h.1.1 he;have y1:=h.2.1 (Y7 q he).1;have z1:=h.2.2.1 (Y7 q he).2;have j:=zGK y1.2 z1.2;exact⟨by simp only[cK,jm,jN,and_true];exact⟨by simp[mh],h.1.2 q1.1 q1.2 (wu 2 (by omega) (by omega)),h.2.2.2.1 y1.1 y1.2 j,h.2.2.2.2 z1.1 z1.2 j⟩,j⟩
theorem Ob(n:gq){ia:Inf}(ha:jY M G ia):jY M G (x8 n ia):=λenv s=>by
 unfold x8;simp only;have h1:=ha env s;generalize ia env s=x at*
 split
 ·exact h1
 have h2:=h1.bind (DU (M:=M) (G:=G) (n.types.getD 0 noT) n.line n.col x.2);generalize kC (n.types.getD 0 noT) n.line n.col x.2=u at*
 split
 ·exact h2.imp λh he=>⟨(h.1 he).1,h.2⟩
 rename_i q;have e0:u.2.e=0:=bD λz=>q (.inl z);obtain⟨y,hy⟩:∃y,(if x.1.2.kind≠0 then mP x.1.1 x.1.2 noT n.line n.col u.2 else(x.1.1,u.2))=y:=⟨_,rfl⟩
 have h3:pF M G u.2 (jm M G x.1.1/\iE x.1.2=true->jm M G y.1) y.2:=by
  rw[<-hy];split
  ·exact(G9 _ _ _ _ _ _).imp λh k=>h k.1 k.2 zo
  ·exact .ret λk=>k.1
 have h4:x.1.2.kind≠0->pF M G y.2 (0<=y.1.n/\y.1.n<M) y.2:=λk=>by
  rw[aC k]at hy;unfold mP at hy;rw[aB (λz=>z e0)]at hy;rw[<-hy];exact⟨ni.refl _,λ_ a _=>by simp only[aT,length_cons,length_nil]at a;simp only[gy.n];omega⟩
 rw[hy];split
 ·exact(h2.bind h3).imp λh he=>⟨h.2 (h.1.1 he),h.1.2⟩
 split
 ·exact(h2.bind (h3.bind (G9 _ _ _ _ _ _))).imp λh he=>⟨h.2.2 (h.2.1 (h.1.1 he)) (h.1.1 he).2 h.1.2,h.1.2⟩
 ·rename_i k0;refine(h2.bind (h3.bind (h4 k0))).imp λh he=>⟨?_,h.1.2⟩
  simp only[jm,jN,and_true];exact⟨.cast h.2.2.1 h.2.2.2 zo h.1.2,h.2.1 (h.1.1 he)⟩
theorem zt(n:gq){i:Inf}(hi:jY M G i)(t:gU)(ht:iE t=true)(env:Env)(s:CS):pF M G s (pu env->jm M G (nQ n i t env s).1) (nQ n i t env s).2:=by
 unfold nQ;exact((hi env s).bind (Bv _ _ _ _ _ _)).imp λh he=>h.2 (h.1 he).1 (h.1 he).2 ht
theorem Oc(n a b:gq){ia ib:Inf}(ha:jY M G ia)(hb:jY M G ib):jY M G (opC n a b ia ib):=λenv s=>by
 have b2:=wu 2 (by omega) (by omega);have b3:=wu 3 (by omega) (by omega);have b4:=wu 4 (by omega) (by omega);unfold opC;simp only;split
 ·exact((zt a ha _ b2 env s).bind (zt b hb _ b2 env _)).imp λh he=>⟨by simp only[cK,jm,jN,and_true];exact⟨by simp[mh],h.1 he,by simp[cN,jm,jN,mh],h.2 he⟩,b2⟩
 split
 ·exact((zt a ha _ b2 env s).bind (zt b hb _ b2 env _)).imp λh he=>⟨by simp only[cK,jm,jN,and_true];exact⟨by simp[mh],h.1 he,h.2 he,by simp[cN,jm,jN,mh]⟩,b2⟩
 split
 ·exact((ha env s).bind (hb env _)).imp λh he=>⟨by simp only[cK,jm,jN,and_true];exact⟨by simp[mh],(h.1 he).1,(h.2 he).1⟩,b2⟩
 split
 ·exact((zt a ha _ b4 env s).bind (zt b hb _ b4 env _)).imp λh he=>⟨by simp only[cK,jm,jN,and_true];exact⟨by simp[mh],h.1 he,h.2 he⟩,b4⟩
 ·refine((zt a ha _ b3 env s).bind (zt b hb _ b3 env _)).imp λh he=>⟨?_,by split<;>assumption⟩
  simp only[jm,jN,and_true];have o:0<=Bc n.text/\Bc n.text<11:=by
   have:=EO (λx=>decide (x=n.text)) vY;have e:vY.length=11:=rfl;unfold Bc;omega
  exact⟨by simp[mh];exact o,h.1 he,h.2 he⟩
theorem zJt(n a:gq)(hn:n.kind=12->0<=n.n/\n.n<6){ia:Inf}(ha:jY M G ia):jY M G (p9 n a ia):=λenv s=>by
 have b2:=wu 2 (by omega) (by omega);have b3:=wu 3 (by omega) (by omega);unfold p9;split
 ·exact(zt a ha _ b2 env s).imp λh he=>⟨by simp only[cK,jm,jN,and_true];exact⟨by simp[mh],h he⟩,b2⟩
 split
 ·exact(zt a ha _ b3 env s).imp λh he=>⟨by simp only[cK,jm,jN,and_true];exact⟨by simp[mh],h he⟩,b3⟩
 split
 ·rename_i k;exact(ha env s).imp λh he=>⟨by simp only[jm,jN,and_true];exact⟨by simp[mh];exact hn k,(h he).1⟩,b2⟩
 ·exact(ha env s).imp λh he=>⟨by simp only[cK,jm,jN,and_true];exact⟨by simp[mh],(h he).1⟩,wu 1 (by omega) (by omega)⟩
theorem Od:∀{l:List gy},jN M G l↔∀x,x∈l->jm M G x
|[]=>by simp[jN]
|c::l=>by simp[jN,Od (l:=l)]
theorem Y8:∀(l:List gq),(∀x,x∈l->jY M G (iy L x))->∀env s,pF M G s (pu env->jN M G (oL L l env s).1.1/\(oL L l env s).1.1.length=(oL L l env s).1.2.length) (oL L l env s).2
|[],_,env,s=>by rw[oL];exact .ret λ_=>⟨trivial,rfl⟩
|n::l,h,env,s=>by
 rw[oL];exact((h n (by simp) env s).bind (Y8 l (λx hx=>h x (by simp[hx])) env _)).imp λh he=>⟨⟨(h.1 he).1,(h.2 he).1⟩,by simp[(h.2 he).2]⟩
theorem Y9:∀(l had:List fF),mG had l=false->had.Nodup->(had++l).Nodup
|[],had,_,h=>by simpa using h
| n::l,had,e,h=>by
 rw[mG,Bool.or_eq_false_iff]at e;have:=Y9 l (had++[n]) e.2 (bu.2 ⟨h,by simp,λa ha b hb z=>by
  rw[aL]at hb;have:=e.1;rw[dV]at this
  exact this a ha (by simp[z,hb])⟩)
 simpa using this
theorem Ya:∀l:List gU,(kV l).2=true->(kV l).1.length=l.length
|[],_=>rfl
| t::l,h=>by
 rw[kV]at h⊢;split at h
 ·rename_i q;rw[aC q,length_cons,length_cons,Ya l h]
 ·cases h
theorem zHY{ns:List fF}{ts:List gU}(h:(mO (.mk 5 (bs []) ns ts)).2=0):ns.length=ts.length:=by
 have f:=(F5 h).1;rw[ll,aC (by omega)]at f;split at f
 ·rename_i q;have e:(kV ts).1.length=ts.length:=Ya ts q;rw[oK,aC rfl]at f;unfold y8 at f;split at f
  ·cases f
  ·rename_i z;omega
 ·cases f
theorem zJu(n:gq)(h:∀x,x∈n.kids->jY M G (iy L x)):jY M G (qO n (oL L n.kids)):=λenv s=>by
 unfold qO;simp only;obtain⟨s1,e1⟩:∃s1,(if mG [] n.names=true then lI n.line n.col 8 s else s)=s1:=⟨_,rfl⟩
 have h1:pF M G s (n.names.Nodup) s1:=by
  rw[<-e1];split
  ·exact .fail (by decide)
  ·rename_i q;exact .ret (by simpa using Y9 n.names [] (by simpa using q) (by simp))
 rw[e1];refine(h1.bind ((Y8 L n.kids h env s1).bind (J9 _ _ _ _))).imp λh he=>?_;have k:=h.2.1 he;have e:=zHY h.2.2.2;exact⟨by simp only[jm];exact⟨by simp[mh,k.2,e];exact h.1,k.1⟩,h.2.2.1⟩
theorem Jb{j:Inf}(h:jY M G j):jY M G (kN j):=λenv s=>by
 unfold kN;split
 ·rename_i q;exact⟨ni.refl s,λz=>absurd z q⟩
 ·exact h env s
theorem Jc(n:gq)(hn:n.kind=2->n.n=0\/n.n=1){rest:Inf}(hr:jY M G rest)(h:∀x,x∈n.kids->jY M G (iy L x)):jY M G (pg L n rest):=λenv s=>by
 unfold pg;split
 ·exact .ret λ_=>⟨by simp[cN,jm,jN,mh],wu 3 (by omega) (by omega)⟩
 split
 ·exact .ret λ_=>⟨by simp[cT,jm,jN,mh],wu 4 (by omega) (by omega)⟩
 split
 ·rename_i k;exact .ret λ_=>⟨by simp[cN,jm,jN,mh,hn k],wu 2 (by omega) (by omega)⟩
 split
 ·exact .ret λ_=>⟨by simp[cN,jm,jN,mh],wu 1 (by omega) (by omega)⟩
 split
 ·exact .ret λ_=>⟨by simp[cN,jm,jN,mh],wu 3 (by omega) (by omega)⟩
 split
 ·exact zHX L n env s
 split
 ·exact zJu L n h env s
 ·exact hr env s
theorem zGu(n:gq)(hn:kI n)(h:∀x,x∈n.kids->jY M G (iy L x)):jY M G (iy L n):=by
 obtain⟨k,tx,nn,ln,cl,ts,ns,ks⟩:=n;rw[kI]at hn;obtain⟨n9,n2,n12,_⟩:=hn
 match ks,h with
 |[],h=>
  rw[JE];exact Jb (Jc L (.mk k tx nn ln cl ts ns []) n2 (λenv s=>.ret λ_=>⟨by simp[noC,cN,jm,jN,mh],zo⟩) h)
 |[a],h=>
  have ha:=h a (by simp[gq.kids]);rw[Bl];refine Jb (Jc L (.mk k tx nn ln cl ts ns [a]) n2 (λenv s=>?_) h);unfold Bi;split
  ·exact O9 _ _ ha env s
  split
  ·rename_i k9;exact zJs (.mk k tx nn ln cl ts ns [a]) (n9 k9) ha env s
  split
  ·exact Ob _ ha env s
  ·exact zJt (.mk k tx nn ln cl ts ns [a]) _ n12 ha env s
 |[a,b],h=>
  have ha:=h a (by simp[gq.kids]);have hb:=h b (by simp[gq.kids]);rw[Bn];refine Jb (Jc L (.mk k tx nn ln cl ts ns [a,b]) n2 (λenv s=>?_) h);unfold Bj;split
  ·exact zJr _ _ ha hb env s
  split
  ·exact g_call _ _ ha hb env s
  split
  ·exact zIJ _ ha hb env s
  ·exact Oc _ _ _ ha hb env s
 |a::b::c::l,h=>
  rw[GI];exact Jb (Jc L (.mk k tx nn ln cl ts ns (a::b::c::l)) n2 (Oa a b c (h a (by simp[gq.kids])) (h b (by simp[gq.kids])) (h c (by simp[gq.kids]))) h)
mutual
theorem Yb:∀n:gq,kI n->jY M G (iy L n)
|.mk k tx nn ln cl ts ns ks,h=>zGu L _ h (Yc ks (by rw[kI]at h;exact h.2.2.2))
theorem Yc:∀l:List gq,ww l->∀x,x∈l->jY M G (iy L x)
|[],_,x,hx=>by cases hx
|n::l,h,x,hx=>by
 rw[ww]at h;rcases aN.1 hx with e|e
 ·rw[e];exact Yb n h.1
 ·exact Yc l h.2 x e
end
end
end
def um(l:List jW):Prop:=∀m,m∈l->∀d,d∈m.decs->kI d.body
theorem Yd:∀(l:List (fF × fF)) (i:Nat) (ns:List fF) (ms:List jW) (bad:List iV),um ms->um (rR l i ns ms bad).1.2
|[],i,ns,ms,bad,h=>by rw[rR];exact h
|s::l,i,ns,ms,bad,h=>by
 rw[rR];refine Yd l _ _ _ _ λm hm=>?_;rcases aK.1 hm with hm|hm
 ·exact h m hm
 ·rw[aL.1 hm];exact zE5 s.2
theorem zGb(l:List (fF × fF)):um (yf l).1.mods:=by
 have h0:um Ba.mods:=λm hm=>by cases hm
 have hg:um (u7 l).1.2:=by
  unfold u7;split
  ·intro m hm;cases hm
  ·exact Yd l 0 [] [] [] λm hm=>by cases hm
 unfold yf;simp only;repeat' split
 all_goals first|exact h0|exact hg
theorem zED{L:iQ}(hG:mQ L)(hs:um L.mods){m k:Int}(h:kD L ⟨bs [],m,k⟩):kI (vX L m k).body:=by
 obtain⟨mn,kn,M,e1,e2,g1,g2,_⟩:=Fv hG.good h;exact hs M (ah g1) _ (ah g2)
section
variable {M G:Nat}
theorem zJk{L:iQ}(hG:mQ L)(hs:um L.mods){x:kX}(hx:kD L ⟨bs [],x.module,x.decl⟩)(s:CS):
  (s.sites.length<=(nL L x s).sites.length/\s.tab.length<=(nL L x s).tab.length/\(nL L x s).funs.length=s.funs.length+1)/\
  ((nL L x s).bad=[]->s.bad=[]/\((nL L x s).sites.length<=M->(nL L x s).tab.length<=G->(∀f,f∈s.funs->jm M G f.body)->∀f,f∈(nL L x s).funs->jm M G f.body)):=by
 have hd:=zED hG hs hx;have f0:fb (wh L x s)=fb s:=rfl;have k0:(wh L x s).sites=s.sites/\(wh L x s).tab=s.tab:=⟨rfl,rfl⟩
 unfold nL;unfold wh at f0 k0;simp only;generalize vX L x.module x.decl=d at*
 generalize ({s with module:=x.module,vars:=d.vars.map (·.1),wth:=x.types,e:=0}:CS)=s0 at*
 have f1:=EP (d.types.getD 0 noT) d.line d.col s0;have r1:=DU (M:=M) (G:=G) (d.types.getD 0 noT) d.line d.col s0;generalize kC (d.types.getD 0 noT) d.line d.col s0=a at*
 have f2:=EP (d.types.getD 1 noT) d.line d.col a.2;have r2:=DU (M:=M) (G:=G) (d.types.getD 1 noT) d.line d.col a.2;generalize kC (d.types.getD 1 noT) d.line d.col a.2=b at*
 obtain⟨T,hT⟩:∃T,(if b.2.e=0 then pX (kR a.1 b.1) d.line d.col b.2 else(kR a.1 b.1,b.2))=T:=⟨_,rfl⟩
 have p3:fb T.2=fb b.2/\pF M G b.2 True T.2:=by
  rw[<-hT];split
  ·exact⟨JG _ _ _ _,(J9 _ _ _ _).imp λ_=>trivial⟩
  ·exact⟨rfl,.ret trivial⟩
 rw[hT];clear hT;obtain⟨S,hS⟩:∃S,(if x.module=L.main.module/\x.decl=L.main.decl/\A8 (bT 1) a.1=false then lI d.line d.col 14 T.2 else T.2)=S:=⟨_,rfl⟩
 have p4:fb S=fb T.2/\pF M G T.2 True S:=by
  rw[<-hS];split
  ·exact⟨Ns _ _ _ _,.fail (by decide)⟩
  ·exact⟨rfl,.ret trivial⟩
 rw[hS];clear hS;have f5:=JJ L d.body [(d.param,a.1)] S;have r5:=Yb (M:=M) (G:=G) L d.body hd [(d.param,a.1)] S;generalize iy L d.body [(d.param,a.1)] S=y at*
 have f6:=Nt y.1.1 y.1.2 b.1 d.body.line d.body.col y.2;have r6:=Bv (M:=M) (G:=G) y.1.1 y.1.2 b.1 d.body.line d.body.col y.2;generalize lF y.1.1 y.1.2 b.1 d.body.line d.body.col y.2=z at*
 have f:fb z.2=fb s:=by rw[f6,f5,p4.1,p3.1,f2,f1,f0]
 have g1:z.2.funs=s.funs:=dL (·.1) f;have g2:z.2.bad=s.bad:=dL (·.2) f;have r:=((r1.bind r2).bind (p3.2.bind p4.2)).bind (r5.bind r6);have r:=r.imp λh=>h.2.2 (h.2.1 λv hv=>by rw[aL.1 hv];exact h.1.1.1).1 (h.2.1 λv hv=>by rw[aL.1 hv];exact h.1.1.1).2 h.1.1.2;rw[<-k0.1,<-k0.2];generalize (if 0<x.types.length then uf x.types 0 (L.names.getD x.module.toNat (bs [])++bs [46]++d.name)++bs [93]else uf x.types 0 (L.names.getD x.module.toNat (bs [])++bs [46]++d.name))=nm;split
 ·exact⟨⟨r.1.sites,r.1.tab,by simp[g1]⟩,λh=>absurd h (by simp)⟩
 ·rename_i q;refine⟨⟨r.1.sites,r.1.tab,by simp[g1]⟩,λh=>⟨by rw[<-g2];exact h,λh1 h2 h3 f hf=>?_⟩⟩;have hf:f∈z.2.funs++[(⟨nm,T.1,z.1⟩:jh)]:=hf;rw[g1]at hf;rcases aK.1 hf with hf|hf
  ·exact h3 f hf
  ·rw[aL.1 hf];exact r.2 (by simpa using q) h1 h2
theorem Ye{L:iQ}(hG:mQ L)(hs:um L.mods):∀(n i:Nat) (s:CS),i+n<=257->w9 L s i->
 (s.sites.length<=(pK L n i s).sites.length/\s.tab.length<=(pK L n i s).tab.length)/\
 ((pK L n i s).bad=[]->s.bad=[]/\((pK L n i s).sites.length<=M->(pK L n i s).tab.length<=G->(∀f,f∈s.funs->jm M G f.body)->∀f,f∈(pK L n i s).funs->jm M G f.body))/\
 (i+n=257->s.funs.length=i->(pK L n i s).tab.length<=(pK L n i s).funs.length)
|0,i,s,hi,h=>by
 rw[pK];exact⟨⟨aP _,aP _⟩,λe=>⟨e,λ_ _ h=>h⟩,λe1 e2=>by have:=h.tab;omega⟩
| n+1,i,s,hi,h=>by
 rw[pK];split
 ·rename_i q;have hm:s.tab.getD i ⟨0,0,[]⟩∈s.tab:=by
   rw[aH,aA q];exact aO q
  have h1:=h.ist _ hm;have k:=zJk (M:=M) (G:=G) hG hs h1.1 s;have r:=Ye hG hs n (i+1) _ (by omega) (JK hG h1.1 h1.2 (by omega) h);refine⟨⟨aj k.1.1 r.1.1,aj k.1.2.1 r.1.2⟩,λe=>?_,λe1 e2=>r.2.2 (by omega) (by rw[k.1.2.2];omega)⟩;have r2:=r.2.1 e;have k2:=k.2 r2.1;exact⟨k2.1,λa b hf=>r2.2 a b (k2.2 (aj r.1.1 a) (aj r.1.2 b) hf)⟩
 ·rename_i q;exact⟨⟨aP _,aP _⟩,λe=>⟨e,λ_ _ h=>h⟩,λe1 e2=>by omega⟩
end
theorem Yf{L:iQ}(hG:mQ L):∀(n i:Nat) (s:CS),i+n<=257->w9 L s i->(pK L n i s).sites.length<=1000000000
|0,i,s,hi,h=>by rw[pK];have:=h.sites;omega
| n+1,i,s,hi,h=>by
 rw[pK];split
 ·rename_i q;have hm:s.tab.getD i ⟨0,0,[]⟩∈s.tab:=by
   rw[aH,aA q];exact aO q
  have h1:=h.ist _ hm;exact Yf hG n (i+1) _ (by omega) (JK hG h1.1 h1.2 (by omega) h)
 ·have:=h.sites;omega
structure BB (p:lZ):Prop where
 good:yt p
 ok:∀f,f∈p.funs->jm p.sites.length p.funs.length f.body
 sites:p.sites.length<=1000000000
theorem Yg{M G G':Nat}(h:G<=G'):∀(n:Nat) (c:gy),kS c<=n->jm M G c->jm M G' c
|0,.mk _ _ _ _ _ _ _ ks,e,_=>by rw[kS]at e;omega
| n +1,.mk k _ _ _ ns ts _ ks,e,hc=>by
 rw[kS]at e;rw[jm]at hc⊢;refine⟨⟨?_,hc.1.2⟩,?_⟩
 ·have:=hc.1.1;unfold mh at this⊢;rcases this with h|h|h|h|h|h|h|h|h|h
  ·exact .inl h
  ·exact .inr (.inl h)
  ·exact .inr (.inr (.inl (by omega)))
  ·exact .inr (.inr (.inr (.inl h)))
  ·exact .inr (.inr (.inr (.inr (.inl h))))
  ·exact .inr (.inr (.inr (.inr (.inr (.inl h)))))
  ·exact .inr (.inr (.inr (.inr (.inr (.inr (.inl h))))))
  ·exact .inr (.inr (.inr (.inr (.inr (.inr (.inr (.inl h)))))))
  ·exact .inr (.inr (.inr (.inr (.inr (.inr (.inr (.inr (.inl h))))))))
  ·exact .inr (.inr (.inr (.inr (.inr (.inr (.inr (.inr (.inr h))))))))
 ·have key:∀l:List gy,ji l<=n->jN M G l->jN M G' l:=λl=>by
   induction l with
   |nil=>intro _ _;trivial
   |cons c l ih=>
    intro e h;rw[ji]at e;rw[jN]at h⊢;exact⟨Yg (by assumption) n c (by omega) h.1,ih (by omega) h.2⟩
  exact key ks (by omega) hc.2
theorem Yh{l:List (fF × fF)}(h:(vE l).2=true):BB (vE l).1:=by
 have hg:=zz7 l;unfold vE at h hg⊢;split at h
 ·cases h
 rename_i q1;rw[aB q1]at hg⊢;simp only at h hg⊢;split at h
 ·cases h
 rename_i q2;rw[aB q2]at hg⊢;have hG:=Nr l (by omega);have hs:=zGb l;generalize (yf l).1=L at*
 have h0:=OB L.mods 0 cs0 (by simp) (XT L);have hf0:(sF L L.mods 0 cs0).1.funs=[]:=by rw[OM];try rfl
 unfold Ac at h hg⊢;simp only at h hg⊢;by_cases q3:0<(sF L L.mods 0 cs0).2.length
 ·rw[aC q3]at h;simp at h;rw[h]at q3;simp at q3
 rw[aB q3]at h hg⊢;by_cases q4:0<(pK L 257 0 (sF L L.mods 0 cs0).1).bad.length
 ·rw[aC q4]at h;simp at h;rw[h]at q4;simp at q4
 rw[aB q4]at h hg⊢;have hb:(pK L 257 0 (sF L L.mods 0 cs0).1).bad=[]:=aU.1 (by omega);have hk:=Ye (M:=(pK L 257 0 (sF L L.mods 0 cs0).1).sites.length) (G:=(pK L 257 0 (sF L L.mods 0 cs0).1).tab.length) hG hs 257 0 _ (by omega) h0;have ht:=Yf hG 257 0 _ (by omega) h0;refine⟨hg,λf hf=>?_,ht⟩;have hl:=hk.2.2 (by omega) (by rw[hf0];rfl);exact Yg hl _ _ (aP _) ((hk.2.1 hb).2 (aP _) (aP _) (λf hf=>by rw[hf0]at hf;cases hf) f hf)
def zu(n:Nat)(C:gp):Prop:=(∀x,x∈C.fields->ow n x)/\∀x,x∈C.fn->ow n x
theorem zu.put{n:Nat}{C:gp}(h:zu n C)(k:fF){d:gp}(hd:ow n d):zu n (jy C k d):=by
 unfold jy;split
 ·exact h
 ·refine⟨λx hx=>?_,h.2⟩;rcases aK.1 hx with hx|hx
  ·exact h.1 x hx
  ·rw[aL.1 hx];exact hd
section
variable {n:Nat} {v:gU->gU->Int->gp} (hv:∀x y l,ow n (v x y l))
include hv
theorem Yi(lb:Int):∀(ns:List fF) (ks:List gU) (C:gp),zu n C->zu n (oz v lb ns ks C)
|[],_,C,h=>by rw[oz];exact h;intros;contradiction
|_::_,[],C,h=>by rw[oz];exact h;intros;contradiction
|k::ns,t::ks,C,h=>by rw[oz];exact Yi lb ns ks _ (h.put k (hv _ _ _))
theorem Yj(m:iw)(lb:Int):∀(ns:List fF) (ks:List gU) (C:gp),zu n C->zu n (pE v m lb ns ks C)
|[],_,C,h=>by rw[pE];exact h;intros;contradiction
|_::_,[],C,h=>by rw[pE];exact h;intros;contradiction
| k::ns,t::ks,C,h=>by
 rw[pE];have h1:zu n (if(kM m.t k).2=false then oP C k lb else C):=by
  split
  ·exact h
  ·exact h
 refine Yj m lb ns ks _ ?_;split
 ·exact h1.put k (hv _ _ _)
 ·exact h1
theorem Yk(R:List iw)(lb:Int):∀(L:List iw) (C:gp),zu n C->zu n (vI v R lb L C)
|[],C,h=>by rw[vI];exact h
| m::L,C,h=>by
 rw[vI];refine Yk R lb L _ ?_;unfold yI;split
 ·exact h
 split
 ·refine⟨h.1,λx hx=>?_⟩;have hx:x∈mU _ _:=hx;unfold mU at hx;split at hx
  ·cases hx
  ·rcases aN.1 hx with e|hx
   ·rw[e];exact hv _ _ _
   ·rw[aL.1 hx];exact hv _ _ _
 split
 ·unfold ul;split
  ·split
   ·exact h
   ·exact Yi hv _ _ _ _ h
  ·exact Yj hv _ _ _ _ _ h
 ·exact h
end
theorem Oe:∀(n:Nat) (a b:gU) (lb:Int),ow n (sZ n a b lb)
|0,a,b,lb=>rfl
|n+1,a,b,lb=>by
 rw[sZ];split
 ·exact JU _
 ·exact Yk (λx y l=>Oe n x y l) _ _ _ _ ⟨λx hx=>(by cases hx),λx hx=>(by cases hx)⟩
def wy(d:gp)(k:gy):gy:=.mk 22 0 (bs []) [] [] [] [d] [k]
mutual
def oV:gy->gy
|.mk k n t is ns ts cs ks=>if k=21 then .mk 22 0 (bs []) [] [] [] [sZ 32 (ts.getD 0 noT) (ts.getD 1 noT) (2*n+2)] (qg ks)else .mk k n t is ns ts cs (qg ks)
def qg:List gy->List gy
|[]=>[]
|c::l=>oV c::qg l
end
theorem Jd:∀l:List gy,qg l=l.map oV
|[]=>rfl
|c::l=>by rw[qg,Jd l];try rfl
def qA(c:gy):Int:=if c.kind=0\/c.kind=20 then 2 else if c.kind=1 then 3 else if c.kind=2 then 1 else if c.kind=3 then 0 else if c.kind=5\/c.kind=6 then 5 else -1
def idleC(d:gp)(k:gy):Bool:=lX d idC||(decide (0<=qA k)&&decide (iF d (qA k).toNat=0)&&(decide (qA k≠5)||decide (d.fn.length=0)))
def yz(d:gp)(k:gy):gy:=
 let d':=if k.kind=22 then lc 32 (k.cos.getD 0 idC) d else d;let k':=if k.kind=22 then k.kids.getD 0 noC else k
 if idleC d' k'=true then k' else wy d' k'
mutual
def qG:gy->gy
|.mk k n t is ns ts cs ks=>if k=22 then yz (cs.getD 0 idC) ((wz ks).getD 0 noC)else .mk k n t is ns ts cs (wz ks)
def wz:List gy->List gy
|[]=>[]
|c::l=>qG c::wz l
end
theorem Og:∀l:List gy,wz l=l.map qG
|[]=>rfl
|c::l=>by rw[wz,Og l];try rfl
def vJ(trim:Bool)(c:gy):gy:=if trim=true then qG (oV c)else oV c
def lY(trim:Bool)(p:lZ):lZ:=⟨p.funs.map λf=>⟨f.name,f.type,vJ trim f.body⟩,p.main,p.sites⟩
def wF(B:Nat)(d:gp):Prop:=iY d=true/\nG B d/\ow 32 d
mutual
def zw:gy->Prop
|.mk k _ _ _ _ _ cs ks=>k≠21/\(k=22->(∃d,cs=[d]/\wF 16 d)/\ks.length=1)/\wG ks
def wG:List gy->Prop
|[]=>True
|c::l=>zw c/\wG l
end
mutual
def yJ(B:Nat):gy->Prop
|.mk k _ _ _ _ _ cs ks=>k≠21/\(k=22->∃d x,cs=[d]/\ks=[x]/\x.kind≠22/\wF B d)/\xq B ks
def xq(B:Nat):List gy->Prop
|[]=>True
|c::l=>yJ B c/\xq B l
end
theorem Oh:∀{l:List gy},wG l↔∀x,x∈l->zw x
|[]=>by simp[wG]
|c::l=>by simp[wG,Oh (l:=l)]
theorem Je{B:Nat}:∀{l:List gy},xq B l↔∀x,x∈l->yJ B x
|[]=>by simp[xq]
|c::l=>by simp[xq,Je (l:=l)]
theorem Yl{a b:gU}{n:Int}(ha:iE a=true)(hb:iE b=true)(hn:0<=n):wF 16 (sZ 32 a b (2*n+2)):=by
 have h:=YC 32 a b (2*n+2) (by omega) (zm ha) (zm hb);exact⟨h.1,h.2,Oe _ _ _ _⟩
theorem wF.le{A B:Nat}(hAB:A<=B){d:gp}(h:wF A d):wF B d:=⟨h.1,OW hAB 32 h.2.2 h.2.1,h.2.2⟩
theorem wF.comp{A B:Nat}(hAB:2<=A+B){c d:gp}(h:wF A c)(k:wF B d):wF (A+B) (lc 32 c d):=⟨JW _ _ _ h.1 k.1,(J3 hAB 32 h.2.2 k.2.2 h.1 k.1 h.2.1 k.2.1).1,JX _ h.1 k.1 h.2.2 k.2.2⟩
variable {M G:Nat}
theorem mh.inv{n:Int}{ns:List fF}{ts:List gU}{q:Nat}(h:mh M G 21 n ns ts q):q=1/\0<=n/\n<M/\∃a b,ts=[a,b]/\iE a=true/\iE b=true:=by
 simpa[mh]using h
theorem mh.n22{n:Int}{ns:List fF}{ts:List gU}{q:Nat}(h:mh M G 22 n ns ts q):False:=by
 simp[mh]at h
mutual
theorem Jf:∀c:gy,jm M G c->zw (oV c)
| .mk k n t is ns ts cs ks,h=>by
 rw[jm]at h;have hk:=Ym ks h.2;have hl:(qg ks).length=ks.length:=by rw[Jd];simp
 rw[oV];split
 ·rename_i q;subst q;obtain⟨h2,h3,h4,a,b,e,na,nb⟩:=h.1.1.inv;subst e;rw[zw];exact⟨by decide,λ_=>⟨⟨_,rfl,Yl na nb h3⟩,by omega⟩,hk⟩
 ·rename_i q;rw[zw];refine⟨q,λe=>?_,hk⟩;subst e;exact h.1.1.n22.elim
theorem Ym:∀l:List gy,jN M G l->wG (qg l)
|[],_=>trivial
|c::l,h=>by rw[jN]at h;rw[qg,wG];exact⟨Jf c h.1,Ym l h.2⟩
end
mutual
theorem Jg:∀c:gy,kS (oV c)=kS c
|.mk k n t is ns ts cs ks=>by
 have:=Yn ks;rw[oV];split<;>simp only[kS]<;>omega
theorem Yn:∀l:List gy,ji (qg l)=ji l
|[]=>rfl
|c::l=>by rw[qg,ji,ji,Jg c,Yn l]
end
mutual
theorem Jh:∀(c:gy) (m:Nat),mR m c->mR m (oV c)
| .mk k n t is ns ts cs ks,m,h=>by
 rw[mR]at h;obtain⟨h23,h18,h21,h4,h5,hk⟩:=h;have hs:=Oi ks m k 0 hk;have hl:(qg ks).length=ks.length:=by rw[Jd];simp
 rw[oV];split
 ·rename_i q;subst q;have hs:jr m 22 (qg ks) 0:=by
   have:=Oi ks m 22 0 (by
    have hl1:=(h21 rfl).1
    match ks,hl1,hk with
    |[x],_,hk=>simpa[jr]using hk)
   exact this
  rw[mR];exact⟨by decide,λe=>absurd e (by decide),λe=>absurd e (by decide),λe=>absurd e (by decide),λe=>absurd e (by decide),hs⟩
 ·rw[mR];refine⟨h23,λe=>by rw[hl];exact h18 e,λe=>by rw[hl];exact h21 e,λe=>?_,λe=>by rw[hl];exact h5 e,hs⟩;obtain⟨a,b,c⟩:=h4 e;subst c;exact⟨a,b,rfl⟩
theorem Oi:∀(l:List gy) (m:Nat) (k:Int) (i:Nat),jr m k l i->jr m k (qg l) i
|[],m,k,i,_=>trivial
|c::l,m,k,i,h=>by
 rw[jr]at h;rw[qg,jr];exact⟨Jh c _ h.1,Oi l m k (i+1) h.2⟩
end
structure TK (B m:Nat) (s:Nat) (c:gy):Prop where
 tc:yJ B c
 wf:mR m c
 sz:kS c<=s
theorem Oj{A B:Nat}(hAB:A<=B):∀(n:Nat) (c:gy),kS c<=n->yJ A c->yJ B c
|0,c,h,_=>by have:=Au c;omega
| n+1,.mk k _ _ _ _ _ cs ks,h,hc=>by
 rw[yJ]at hc⊢;rw[kS]at h;refine⟨hc.1,λe=>?_,Je.2 λx hx=>?_⟩
 ·obtain⟨d,x,h1,h2,h3,h4⟩:=hc.2.1 e;exact⟨d,x,h1,h2,h3,h4.le hAB⟩
 ·obtain⟨j,hj,rfl⟩:=bF hx;have:=Bp hj;exact Oj hAB n _ (by omega) (Je.1 hc.2.2 _ (aO hj))
theorem zmI{B m s:Nat}{d:gp}{k:gy}(hd:wF 16 d)(h:TK B m s k):TK (B+16) m (s+1) (yz d k):=by
 have key:∀(d':gp) (k':gy),wF (B+16) d'->k'.kind≠22->TK (B+16) m s k'->TK (B+16) m (s+1) (if idleC d' k'=true then k' else wy d' k'):=λd' k' gd nk tk=>by
  split
  ·exact⟨tk.tc,tk.wf,by have:=tk.sz;omega⟩
  ·refine⟨?_,?_,?_⟩
   ·unfold wy;rw[yJ];exact⟨by decide,λ_=>⟨d',k',rfl,rfl,nk,gd⟩,tk.tc,trivial⟩
   ·unfold wy;rw[mR];exact⟨by decide,λe=>absurd e (by decide),λe=>absurd e (by decide),λe=>absurd e (by decide),λe=>absurd e (by decide),by simpa[jr]using tk.wf⟩
   ·have:=tk.sz;simp only[wy,kS,ji];omega
 have h':TK (B+16) m s k:=⟨Oj (by omega) _ k (aP _) h.tc,h.wf,h.sz⟩
 unfold yz;simp only;by_cases q:k.kind=22
 ·rw[aC q,aC q];obtain⟨k0,n,t,is,ns,ts,cs,ks⟩:=k;have q:k0=22:=q;subst q;have ht:=h.tc;rw[yJ]at ht;obtain⟨e,x,h1,h2,h3,h4⟩:=ht.2.1 rfl;subst h1;subst h2;refine key _ _ (h4.comp (by omega) hd) h3 ⟨?_,?_,?_⟩
  ·have:=h'.tc;rw[yJ,xq]at this;exact this.2.2.1
  ·have:=h.wf;rw[mR,jr]at this;show mR m x;simpa using this.2.2.2.2.2.1
  ·have:=h.sz;rw[kS,ji]at this;show kS x<=s;omega
 ·rw[aB q,aB q];exact key _ _ (hd.le (by omega)) q h'
theorem Ji:∀(n:Nat) (c:gy) (m:Nat),kS c<=n->zw c->mR m c->TK (16*kS c) m (kS c) (qG c)
|0,c,m,h,_,_=>by have:=Au c;omega
| n + 1,c,m,h,hp,hw=>by
 have hz:=Au c;obtain⟨k,nn,t,is,ns,ts,cs,ks⟩:=c;rw[zw]at hp;rw[mR]at hw;simp only[gy.kids]at hz;have hk:∀(j:Nat) (hj:j<ks.length) (m':Nat),mR m' ks[j]->TK (16*kS ks[j]) m' (kS ks[j]) (qG ks[j]):=λj hj m' hw'=>by
  have:=Bp hj;exact Ji n _ m' (by omega) (Oh.1 hp.2.2 _ (aO hj)) hw'
 rw[qG];by_cases q:k=22
 ·rw[aC q];subst q;obtain⟨⟨d,h1,h2⟩,h3⟩:=hp.2.1 rfl;subst h1
  match ks,h3,hk,hw,hz with
  |[x],_,hk,hw,hz=>
   have hx:=hk 0 (by simp) m (by have:=hw.2.2.2.2.2;rw[jr]at this;simpa using this.1);simp only[getElem_cons_zero]at hx;have hz:kS (gy.mk 22 nn t is ns ts [d] [x])=kS x+1:=by simp only[kS,ji];omega
   rw[hz];have:=zmI h2 hx;exact⟨by rw[Nat.mul_add];exact this.tc,this.wf,this.sz⟩
 ·rw [aB q,Og];refine⟨?_,?_,?_⟩
  ·rw[yJ];refine⟨hp.1,λe=>absurd e q,Je.2 λx hx=>?_⟩;obtain⟨y,hy,rfl⟩:=aY.1 hx;obtain⟨j,hj,rfl⟩:=bF hy;have:=Bp hj;obtain⟨m',hw'⟩:∃m',mR m' ks[j]:=by
    by_cases q5:k=5
    ·subst q5;have hl:=hw.2.2.2.2.1 rfl
     match ks,hl,hw,j,hj with
     |[x],_,hw,0,_=>exact⟨m+1,by have:=hw.2.2.2.2.2;rw[jr]at this;simpa using this.1⟩
    ·exact⟨_,GY q5 hj hw.2.2.2.2.2⟩
   exact Oj (by rw[hz];omega) _ _ (aP _) (hk j hj m' hw').tc
  ·have hs:∀(l:List gy) (i j:Nat),ks.drop j=l->jr m k l i->jr m k (l.map qG) i:=λl=>by
    induction l with
    |nil=>intro i j _ _;trivial
    | cons y l ih=>
     intro i j e hw;have hj:j<ks.length:=by
      rcases aW j ks.length with z|z
      ·exact z
      ·rw[di z]at e;cases e
     rw[aG hj]at e;injection e with e1 e2
     rw[jr]at hw;rw[map_cons,jr];refine⟨?_,ih (i+1) (j+1) e2 hw.2⟩;rw[<-e1]at hw⊢;exact(hk j hj _ hw.1).wf
   rw[mR];refine⟨hw.1,λe=>by simpa using hw.2.1 e,λe=>absurd e hp.1,λe=>?_,λe=>by simpa using hw.2.2.2.2.1 e,hs ks 0 0 (by simp) hw.2.2.2.2.2⟩;obtain⟨a,b,c⟩:=hw.2.2.2.1 e;subst c;exact⟨a,b,rfl⟩
  ·have hs:∀(l:List gy) (j:Nat),ks.drop j=l->ji (l.map qG)<=ji l:=λl=>by
    induction l with
    |nil=>intro j _;exact aP _
    | cons y l ih=>
     intro j e;have hj:j<ks.length:=by
      rcases aW j ks.length with z|z
      ·exact z
      ·rw[di z]at e;cases e
     rw[aG hj]at e;injection e with e1 e2
     have:=ih (j+1) e2;have h2:kS (qG y)<=kS y:=by
      rw[<-e1];obtain⟨m',hw'⟩:∃m',mR m' ks[j]:=by
       by_cases q5:k=5
       ·subst q5;have hl:=hw.2.2.2.2.1 rfl
        match ks,hl,hw,j,hj with
        |[x],_,hw,0,_=>exact⟨m+1,by have:=hw.2.2.2.2.2;rw[jr]at this;simpa using this.1⟩
       ·exact⟨_,GY q5 hj hw.2.2.2.2.2⟩
      exact(hk j hj m' hw').sz
     rw[map_cons,ji,ji];omega
   have:=hs ks 0 (by simp);simp only[kS];omega
end Go.Gr
namespace Go.Gr
open Go.Abs Go.Proofs
def Yo:MC:=(λx(_:x=gC tt [] [] [] (gB Tryz.f7))=>x) _ (by dsimp[Tryz.f7])
theorem zCb:WT Pg 7 55 Yo [.tmp 0]:=wT gz Tryz.func7 (by kernel_rfl)
def Yp:MC:=(λx(_:x=gC tt [] [(21,[0,0,3,7,0,0,48,112,255,511])] [] (iR 4 (gB Tryz.f6)))=>x) _ (by dsimp[Tryz.f6])
def Yq:MC:=(λx(_:x=gC tt [] [] [(4,Yp)] (iR 2 (gB Tryz.f6)))=>x) _ (by dsimp[Tryz.f6])
def Yr:MC:=(λx(_:x=gC tt [] [(27,[0,0,3,7,15,31,63,63,255,511,1023,2047,63,4159,12351,32767,65535])] [] (iR 6 (gB Tryz.f6)))=>x) _ (by dsimp[Tryz.f6])
def Yt:MC:=(λx(_:x=gC tt [] [] [(2,Yq),(6,Yr)] (iR 0 (gB Tryz.f6)))=>x) _ (by dsimp[Tryz.f6])
def Yu:MC:=(λx(_:x=gC tt [] [] [(0,Yt)] (gB Tryz.f6))=>x) _ (by dsimp[Tryz.f6])
theorem zxj:WT Pg 6 119 Yu [.tmp 2]:=wT gz Tryz.func6 (by kernel_rfl)
def Yv:MC:=(λx(_:x=gC tt [] [] [] (iR 0 (gB Tryz.f14)))=>x) _ (by dsimp[Tryz.f14])
def Yw:MC:=(λx(_:x=gC tt [] [] [] (iR 2 (gB Tryz.f14)))=>x) _ (by dsimp[Tryz.f14])
def Ol:MC:=(λx(_:x=gC tt [] [(8,[0,1,0,0,8,0,56,120,248,0,1016,2047,4095,8191])] [] (iR 0 (gB Tryz.f9)))=>x) _ (by dsimp[Tryz.f9])
def Yx:MC:=(λx(_:x=gC tt [(0,2),(3,9),(4,32)] [] [(0,Ol)] (gB Tryz.f9))=>x) _ (by dsimp[Tryz.f9])
theorem zCc:WT Pg 9 33 Yx [.cell 4 true 3]:=wT gz Tryz.func9 (by kernel_rfl)
def Yy:MC:=(λx(_:x=gC tt [] [(3,[0,1,3,7,0,16,48,112,0,256,768,1792,4095,0,8192,24576,57344,131071,262143])] [] (gB Tryz.f19))=>x) _ (by dsimp[Tryz.f19])
theorem zCd:WT Pg 19 25 Yy [.cell 2 true 8]:=wT gz Tryz.func19 (by kernel_rfl)
def Yz:MC:=(λx(_:x=gC tt [(0,1)] [(4,[0,1,3,7,0,16,48,112,0,0,783,2047]),(6,[0,1,3,7,0,31,0,64,192,448,63,2047])] [] (gB Tryz.f20))=>x) _ (by dsimp[Tryz.f20])
theorem zAV:WT Pg 20 39 Yz [.cell 2 true 8]:=wT gz Tryz.func20 (by kernel_rfl)
def ZA:MC:=(λx(_:x=gC tt [] [(5,[0,1,0,0,0,24,63,127])] [] (iR 0 (gB Tryz.f21)))=>x) _ (by dsimp[Tryz.f21])
def ZB:MC:=(λx(_:x=gC tt [(0,2),(3,9),(4,28)] [] [(0,ZA)] (gB Tryz.f21))=>x) _ (by dsimp[Tryz.f21])
theorem zCe:WT Pg 21 30 ZB [.cell 4 true 8]:=wT gz Tryz.func21 (by kernel_rfl)
def ZC:MC:=(λx(_:x=gC tt [] [] [] (gB Tryz.f35))=>x) _ (by dsimp[Tryz.f35])
theorem zE3:WT Pg 35 10 ZC [.cell 4 true 8]:=wT gz Tryz.func35 (by kernel_rfl)
def BC:MC:=(λx(_:x=gC tt [] [(3,[0,0,3,7])] [] (gB Tryz.f38))=>x) _ (by dsimp[Tryz.f38])
theorem zCf:WT Pg 38 40 BC [.tmp 4]:=wT gz Tryz.func38 (by kernel_rfl)
def ZE:MC:=(λx(_:x=gC tt [] [] [] (gB Tryz.f36))=>x) _ (by dsimp[Tryz.f36])
theorem zz2:WT Pg 36 28 ZE [.cell 6 true 5]:=wT gz Tryz.func36 (by kernel_rfl)
def ZF:MC:=(λx(_:x=gC tt [] [] [] (gB Tryz.f61))=>x) _ (by dsimp[Tryz.f61])
theorem zyk:WT Pg 61 17 ZF [.tmp 2]:=wT gz Tryz.func61 (by kernel_rfl)
def Om:MC:=(λx(_:x=gC tt [(3,75),(3,84),(4,85)] [(13,[0,1,3,7,0,16,48,112,0,256,1023,0,2048,6144,14336,0,32768,98304,229376,0,1048575,2097151])] [] (iR 0 (gB Tryz.f62)))=>x) _ (by dsimp[Tryz.f62])
def Oo:MC:=(λx(_:x=gC tt [(3,15)] [] [(0,Om)] (gB Tryz.f62))=>x) _ (by dsimp[Tryz.f62])
theorem zz3:WT Pg 62 87 Oo [.cell 6 true 5]:=wT gz Tryz.func62 (by kernel_rfl)
def Jj:MC:=(λx(_:x=gC tt [] [] [] (gB Tryz.f98))=>x) _ (by dsimp[Tryz.f98])
theorem Oq:WT Pg 98 30 Jj [.cell 4 true 4,.tmp 5,.tmp 6]:=wT gz Tryz.func98 (by kernel_rfl)
def ZG:MC:=(λx(_:x=gC tt [] [] [] (gB Tryz.f97))=>x) _ (by dsimp[Tryz.f97])
theorem zgI:WT Pg 97 6 ZG [.tmp 2]:=wT gz Tryz.func97 (by kernel_rfl)
def Ot:MC:=(λx(_:x=gC tt [] [] [] (iR 0 (gB Tryz.f100)))=>x) _ (by dsimp[Tryz.f100])
def Ou:MC:=(λx(_:x=gC tt [] [(15,[0,0,0,4,0,28,60,0,128,0,896,1920,0,8188,16383])] [] (iR 2 (gB Tryz.f100)))=>x) _ (by dsimp[Tryz.f100])
def ZH:MC:=(λx(_:x=gC tt [(5,39),(3,97),(4,97)] [] [(0,Ot),(2,Ou)] (gB Tryz.f100))=>x) _ (by dsimp[Tryz.f100])
theorem zxk:WM Pg 100 98 ZH []:=wM gz Tryz.func100 (by kernel_rfl)
def Jk:MC:=(λx(_:x=gC tt [(1,1)] [] [] (gB Tryz.f66))=>x) _ (by dsimp[Tryz.f66])
theorem zCg:WT Pg 66 3 Jk [.cell 0 true 5]:=wT gz Tryz.func66 (by kernel_rfl)
theorem zAW:WM Pg 66 3 Jk [.cell 0 true 5]:=wM gz Tryz.func66 (by kernel_rfl)
def ZI:MC:=(λx(_:x=gC tt [] [(1,[0,0,3,7])] [] (gB Tryz.f102))=>x) _ (by dsimp[Tryz.f102])
theorem zz4:WT Pg 102 6 ZI [.tmp 2]:=wT gz Tryz.func102 (by kernel_rfl)
def ZJ:MC:=(λx(_:x=gC tt [] [] [] (gB Tryz.f37))=>x) _ (by dsimp[Tryz.f37])
theorem zxl:WT Pg 37 17 ZJ [.cell 4 true 5]:=wT gz Tryz.func37 (by kernel_rfl)
def Ov:MC:=(λx(_:x=gC tt [] [] [] (iR 0 (gB Tryz.f64)))=>x) _ (by dsimp[Tryz.f64])
def Ow:MC:=(λx(_:x=gC tt [] [] [] (iR 2 (gB Tryz.f64)))=>x) _ (by dsimp[Tryz.f64])
def Ox:MC:=(λx(_:x=gC tt [] [(25,[0,0,0,0,8,0,56,120,252,511])] [] (iR 4 (gB Tryz.f64)))=>x) _ (by dsimp[Tryz.f64])
def Jl:MC:=(λx(_:x=gC tt [(3,19),(4,41),(3,111),(4,112),(3,143)] [(31,[0,0,3,0,0,31,63])] [(0,Ov),(2,Ow),(4,Ox)] (gB Tryz.f64))=>x) _ (by dsimp[Tryz.f64])
theorem Oy:WT Pg 64 145 Jl [.cell 4 true 5]:=wT gz Tryz.func64 (by kernel_rfl)
def Oz:MC:=(λx(_:x=gC tt [] [] [] (iR 0 (gB Tryz.f63)))=>x) _ (by dsimp[Tryz.f63])
def PD:MC:=(λx(_:x=gC tt [] [(16,[0,1,3,7,15,7,39,127,255,7,519,7,3591,7687,16383,32767,65535,131071,262143,524287,1048575,2097151,4194303,8388607,16777215,33554431])] [] (iR 2 (gB Tryz.f63)))=>x) _ (by dsimp[Tryz.f63])
def ZK:MC:=(λx(_:x=gC tt [] [] [(0,Oz),(2,PD)] (gB Tryz.f63))=>x) _ (by dsimp[Tryz.f63])
theorem zAX:WT Pg 63 147 ZK [.tmp 2]:=wT gz Tryz.func63 (by kernel_rfl)
def ZL:MC:=(λx(_:x=gC tt [] [] [] (gB Tryz.f65))=>x) _ (by dsimp[Tryz.f65])
theorem zz5:WT Pg 65 38 ZL [.tmp 4]:=wT gz Tryz.func65 (by kernel_rfl)
def ZM:MC:=(λx(_:x=gC tt [] [(3,[0,1,3,7,0,16,48,112,15,511])] [] (gB Tryz.f106))=>x) _ (by dsimp[Tryz.f106])
theorem zz6:WT Pg 106 18 ZM [.cell 2 true 5,.cell 3 true 5]:=wT gz Tryz.func106 (by kernel_rfl)
def PE:MC:=(λx(_:x=gC tt [] [] [] (gB Tryz.f99))=>x) _ (by dsimp[Tryz.f99])
theorem ZN:WM Pg 99 20 PE []:=wM gz Tryz.func99 (by kernel_rfl)
def PG:List Nat:=[0,5,10,11,12]
def ZO:MC:=(λx(_:x=gC tt [(3,18)] [] [] (iR 0 (gB Tryz.f104)))=>x) _ (by dsimp[Tryz.f104])
def ZP:MC:=(λx(_:x=gC tt [(3,9)] [] [(0,ZO)] (gB Tryz.f104))=>x) _ (by dsimp[Tryz.f104])
theorem zyW:WT Pg 104 26 ZP [.tmp 4]:=wT gz Tryz.func104 (by kernel_rfl)
def ZQ:MC:=(λx(_:x=gC tt [] [] [] (gB Tryz.f149))=>x) _ (by dsimp[Tryz.f149])
theorem zxm:WT Pg 149 9 ZQ [.tmp 3]:=wT gz Tryz.func149 (by kernel_rfl)
def EZ:List Nat:=[0,1,9,10,11]
def PI:MC:=(λx(_:x=gC tt [] [(5,[0,0,0,4,12,28,0,64,252,0,512,1536,3584,0,8192,32764,65533,131069,262141,524287,1048575,2097151])] [] (iR 0 (gB Tryz.f105)))=>x) _ (by dsimp[Tryz.f105])
def PK:MC:=(λx(_:x=gC tt [(3,8),(5,8),(3,9)] [] [(0,PI)] (gB Tryz.f105))=>x) _ (by dsimp[Tryz.f105])
theorem ZR:WM Pg 105 42 PK []:=wM gz Tryz.func105 (by kernel_rfl)
def ZT:MC:=(λx(_:x=gC tt [] [] [] (gB Tryz.f95))=>x) _ (by dsimp[Tryz.f95])
theorem zjm:WT Pg 95 24 ZT [.cell 2 true 4,.tmp 3]:=wT gz Tryz.func95 (by kernel_rfl)
def PL:MC:=(λx(_:x=gC tt [] [] [] (iR 0 (gB Tryz.f143)))=>x) _ (by dsimp[Tryz.f143])
def Ga:MC:=(λx(_:x=gC tt [(5,17),(4,50),(4,58),(4,65)] [] [(0,PL)] (gB Tryz.f143))=>x) _ (by dsimp[Tryz.f143])
theorem Jm:WT Pg 143 70 Ga [.cell 2 true 4,.tmp 3]:=wT gz Tryz.func143 (by kernel_rfl)
def ZU:MC:=(λx(_:x=gC tt [] [] [] (gB Tryz.f141))=>x) _ (by dsimp[Tryz.f141])
theorem zhB:WT Pg 141 5 ZU [.tmp 2]:=wT gz Tryz.func141 (by kernel_rfl)
def ZV:MC:=(λx(_:x=gC tt [] [] [] (iR 0 (gB Tryz.f165)))=>x) _ (by dsimp[Tryz.f165])
def PM:MC:=(λx(_:x=gC tt [] [] [(0,ZV)] (gB Tryz.f165))=>x) _ (by dsimp[Tryz.f165])
theorem ZW:WT Pg 165 26 PM [.tmp 4]:=wT gz Tryz.func165 (by kernel_rfl)
def ZX:MC:=(λx(_:x=gC tt [] [] [] (iR 0 (gB Tryz.f142)))=>x) _ (by dsimp[Tryz.f142])
def ZY:MC:=(λx(_:x=gC tt [] [] [(0,ZX)] (gB Tryz.f142))=>x) _ (by dsimp[Tryz.f142])
theorem zjn:WT Pg 142 22 ZY [.tmp 2]:=wT gz Tryz.func142 (by kernel_rfl)
def ZZ:MC:=(λx(_:x=gC tt [] [] [] (gB Tryz.f96))=>x) _ (by dsimp[Tryz.f96])
theorem zjo:WT Pg 96 31 ZZ [.tmp 4]:=wT gz Tryz.func96 (by kernel_rfl)
def Gb:MC:=(λx(_:x=gC tt [] [] [] (gB Tryz.f145))=>x) _ (by dsimp[Tryz.f145])
theorem zhC:WT Pg 145 29 Gb [.cell 4 true 4,.tmp 5]:=wT gz Tryz.func145 (by kernel_rfl)
def Z0:MC:=(λx(_:x=gC tt [] [(1,[0,1,0,7,15])] [] (gB Tryz.f169))=>x) _ (by dsimp[Tryz.f169])
theorem zgJ:WT Pg 169 8 Z0 [.tmp 3]:=wT gz Tryz.func169 (by kernel_rfl)
def Z4:MC:=(λx(_:x=gC tt [] [] [] (gB Tryz.f170))=>x) _ (by dsimp[Tryz.f170])
theorem zj4:WT Pg 170 14 Z4 [.tmp 2]:=wT gz Tryz.func170 (by kernel_rfl)
def PN:MC:=(λx(_:x=gC tt [(2,36)] [] [] (iR 2 (gB Tryz.f167)))=>x) _ (by dsimp[Tryz.f167])
def Z5:MC:=(λx(_:x=gC tt [] [] [(2,PN)] (iR 0 (gB Tryz.f167)))=>x) _ (by dsimp[Tryz.f167])
def Z6:MC:=(λx(_:x=gC tt [(5,43)] [(21,[0,1,0,4,12,28,63,127,255])] [] (iR 4 (gB Tryz.f167)))=>x) _ (by dsimp[Tryz.f167])
def Z7:MC:=(λx(_:x=gC tt [(5,43)] [(25,[0,0,2,6,14,1,63])] [(0,Z5),(4,Z6)] (gB Tryz.f167))=>x) _ (by dsimp[Tryz.f167])
theorem ziA:WT Pg 167 70 Z7 [.cell 2 true 4,.tmp 3]:=wT gz Tryz.func167 (by kernel_rfl)
def Z8:MC:=(λx(_:x=gC tt [] [(6,[0,0,2,6,14,30,63,127])] [] (gB Tryz.f186))=>x) _ (by dsimp[Tryz.f186])
theorem zgK:WM Pg 186 22 Z8 [.tmp 3]:=wM gz Tryz.func186 (by kernel_rfl)
def PO:MC:=(λx(_:x=gC tt [] [] [] (iR 0 (gB Tryz.f166)))=>x) _ (by dsimp[Tryz.f166])
def PP:MC:=(λx(_:x=gC tt [] [(16,[0,1,3,7,7,23,63,127,255,7,519,2047,4095]),(18,[0,1,0,4,12,31,0,64,0,256,768,2047,255,8191,16383,32767])] [] (iR 2 (gB Tryz.f166)))=>x) _ (by dsimp[Tryz.f166])
def Z9:MC:=(λx(_:x=gC tt [(5,23),(3,45),(4,46),(5,47)] [] [(0,PO),(2,PP)] (gB Tryz.f166))=>x) _ (by dsimp[Tryz.f166])
theorem zhD:WT Pg 166 84 Z9 [.cell 4 true 4,.tmp 5]:=wT gz Tryz.func166 (by kernel_rfl)
def Za:MC:=(λx(_:x=gC tt [] [] [] (gB Tryz.f182))=>x) _ (by dsimp[Tryz.f182])
theorem zkX:WT Pg 182 28 Za [.tmp 2]:=wT gz Tryz.func182 (by kernel_rfl)
def Zb:MC:=(λx(_:x=gC tt [] [] [] (gB Tryz.f193))=>x) _ (by dsimp[Tryz.f193])
theorem zjq:WT Pg 193 21 Zb [.tmp 2]:=wT gz Tryz.func193 (by kernel_rfl)
def Zc:MC:=(λx(_:x=gC tt [] [] [] (iR 0 (gB Tryz.f194)))=>x) _ (by dsimp[Tryz.f194])
def Zd:MC:=(λx(_:x=gC tt [] [] [(0,Zc)] (gB Tryz.f194))=>x) _ (by dsimp[Tryz.f194])
theorem zlT:WT Pg 194 21 Zd [.tmp 4]:=wT gz Tryz.func194 (by kernel_rfl)
def Ze:MC:=(λx(_:x=gC tt [] [] [] (gB Tryz.f195))=>x) _ (by dsimp[Tryz.f195])
theorem zj5:WT Pg 195 9 Ze [.tmp 2]:=wT gz Tryz.func195 (by kernel_rfl)
def Zf:MC:=(λx(_:x=gC tt [] [] [] (gB Tryz.f212))=>x) _ (by dsimp[Tryz.f212])
theorem zj6:WT Pg 212 9 Zf [.tmp 2]:=wT gz Tryz.func212 (by kernel_rfl)
def Zg:MC:=(λx(_:x=gC tt [] [] [] (gB Tryz.f197))=>x) _ (by dsimp[Tryz.f197])
theorem zj7:WT Pg 197 2 Zg [.tmp 0]:=wT gz Tryz.func197 (by kernel_rfl)
def Zh:MC:=(λx(_:x=gC tt [] [] [] (gB Tryz.f196))=>x) _ (by dsimp[Tryz.f196])
theorem zb1:WT Pg 196 9 Zh [.tmp 4]:=wT gz Tryz.func196 (by kernel_rfl)
def Zi:MC:=(λx(_:x=gC tt [] [] [] (iR 0 (gB Tryz.f146)))=>x) _ (by dsimp[Tryz.f146])
def Zj:MC:=(λx(_:x=gC tt [] [] [(0,Zi)] (gB Tryz.f146))=>x) _ (by dsimp[Tryz.f146])
theorem zcj:WT Pg 146 19 Zj [.tmp 4]:=wT gz Tryz.func146 (by kernel_rfl)
def Zk:MC:=(λx(_:x=gC tt [] [] [] (iR 0 (gB Tryz.f168)))=>x) _ (by dsimp[Tryz.f168])
def Zl:MC:=(λx(_:x=gC tt [] [] [(0,Zk)] (gB Tryz.f168))=>x) _ (by dsimp[Tryz.f168])
theorem zbD:WT Pg 168 19 Zl [.tmp 4]:=wT gz Tryz.func168 (by kernel_rfl)
def PQ:List Nat:=[1,2,15,16,17]
def Zm:MC:=(λx(_:x=gC tt [] [] [] (iR 0 (gB Tryz.f144)))=>x) _ (by dsimp[Tryz.f144])
def Zn:MC:=(λx(_:x=gC tt [] [] [(0,Zm)] (gB Tryz.f144))=>x) _ (by dsimp[Tryz.f144])
theorem zaX:WT Pg 144 32 Zn [.tmp 6]:=wT gz Tryz.func144 (by kernel_rfl)
def Jn:MC:=(λx(_:x=gC tt [(7,0)] [] [] (gB Tryz.f103))=>x) _ (by dsimp[Tryz.f103])
theorem zro:WT Pg 103 8 Jn [.tmp 2]:=wT gz Tryz.func103 (by kernel_rfl)
theorem zra:WM Pg 103 8 Jn [.tmp 2]:=wM gz Tryz.func103 (by kernel_rfl)
def PR:List Nat:=[0,1,12,13]
def Zo:MC:=(λx(_:x=gC tt [] [(6,[0,0,3,7,0,0,48,112,255])] [] (iR 0 (gB Tryz.f107)))=>x) _ (by dsimp[Tryz.f107])
def Zp:MC:=(λx(_:x=gC tt [] [] [(0,Zo)] (gB Tryz.f107))=>x) _ (by dsimp[Tryz.f107])
theorem ztK:WT Pg 107 26 Zp [.tmp 4]:=wT gz Tryz.func107 (by kernel_rfl)
def PT:List Nat:=[0,1,12,13]
def Zq:MC:=(λx(_:x=gC tt [] [(6,[0,0,3,7,0,0,48,112,255])] [] (iR 0 (gB Tryz.f109)))=>x) _ (by dsimp[Tryz.f109])
def Zr:MC:=(λx(_:x=gC tt [] [] [(0,Zq)] (gB Tryz.f109))=>x) _ (by dsimp[Tryz.f109])
theorem zck:WT Pg 109 26 Zr [.tmp 4]:=wT gz Tryz.func109 (by kernel_rfl)
def PU:List Nat:=[0,1,12,13]
def Zt:MC:=(λx(_:x=gC tt [] [(6,[0,0,3,7,0,0,48,112,255])] [] (iR 0 (gB Tryz.f108)))=>x) _ (by dsimp[Tryz.f108])
def Zu:MC:=(λx(_:x=gC tt [] [] [(0,Zt)] (gB Tryz.f108))=>x) _ (by dsimp[Tryz.f108])
theorem zrp:WT Pg 108 26 Zu [.tmp 4]:=wT gz Tryz.func108 (by kernel_rfl)
def PV:List Nat:=[1,2,15,16,17]
def Zv:MC:=(λx(_:x=gC tt [] [] [] (iR 0 (gB Tryz.f110)))=>x) _ (by dsimp[Tryz.f110])
def Zw:MC:=(λx(_:x=gC tt [] [] [(0,Zv)] (gB Tryz.f110))=>x) _ (by dsimp[Tryz.f110])
theorem zp0:WT Pg 110 32 Zw [.tmp 6]:=wT gz Tryz.func110 (by kernel_rfl)
def Zx:MC:=(λx(_:x=gC tt [] [] [] (gB Tryz.f101))=>x) _ (by dsimp[Tryz.f101])
theorem zwz:WT Pg 101 8 Zx [.tmp 4]:=wT gz Tryz.func101 (by kernel_rfl)
def Zy:MC:=(λx(_:x=gC tt [(8,171)] [] [] (gB Tryz.f147))=>x) _ (by dsimp[Tryz.f147])
theorem zrq:WT Pg 147 8 Zy [.tmp 4]:=wT gz Tryz.func147 (by kernel_rfl)
def Zz:MC:=(λx(_:x=gC tt [] [] [] (gB Tryz.f148))=>x) _ (by dsimp[Tryz.f148])
theorem zqt:WT Pg 148 9 Zz [.tmp 4]:=wT gz Tryz.func148 (by kernel_rfl)
def PW:List Nat:=[0,1,7,8]
def zpr:MC:=(λx(_:x=gC tt [] [] [] (iR 0 (gB Tryz.f172)))=>x) _ (by dsimp[Tryz.f172])
def zpz:MC:=(λx(_:x=gC tt [] [] [(0,zpr)] (gB Tryz.f172))=>x) _ (by dsimp[Tryz.f172])
theorem zqL:WT Pg 172 19 zpz [.tmp 4]:=wT gz Tryz.func172 (by kernel_rfl)
def zpg:MC:=(λx(_:x=gC tt [(0,1)] [] [] (gB Tryz.f151))=>x) _ (by dsimp[Tryz.f151])
theorem zqe:WM Pg 151 4 zpg [.tmp 2]:=wM gz Tryz.func151 (by kernel_rfl)
def ztz:MC:=(λx(_:x=gC tt [(9,44),(5,4)] [] [] (iR 0 (gB Tryz.f27)))=>x) _ (by dsimp[Tryz.f27])
def ztA:MC:=(λx(_:x=gC tt [(9,44)] [] [] (iR 2 (gB Tryz.f27)))=>x) _ (by dsimp[Tryz.f27])
def ztB:MC:=(λx(_:x=gC tt [(9,44)] [] [] (iR 4 (gB Tryz.f27)))=>x) _ (by dsimp[Tryz.f27])
def ztC:MC:=(λx(_:x=gC tt [(9,44)] [] [] (iR 6 (gB Tryz.f27)))=>x) _ (by dsimp[Tryz.f27])
def zve:MC:=(λx(_:x=gC tt [(5,4)] [] [(0,ztz),(2,ztA),(4,ztB),(6,ztC)] (gB Tryz.f27))=>x) _ (by dsimp[Tryz.f27])
theorem zAY:WT Pg 27 70 zve [.tmp 2]:=wT gz Tryz.func27 (by kernel_rfl)
def PX:MC:=(λx(_:x=gC tt [] [(5,[0,0,2,7,15,31,31,127,255,31,31,1567,3615,8191,16383])] [] (iR 2 (gB Tryz.f44)))=>x) _ (by dsimp[Tryz.f44])
def PY:MC:=(λx(_:x=gC tt [] [(7,[0,0,3,7,15,31,63,63,191,511,1023,2047,2047,8191,16383,2047,2047,100351,231423,524287,1048575,2097151]),(9,[0,0,3,0,0,24,56,120,255,511])] [(2,PX)] (iR 0 (gB Tryz.f44)))=>x) _ (by dsimp[Tryz.f44])
def PZ:MC:=(λx(_:x=gC tt [] [] [(0,PY)] (gB Tryz.f44))=>x) _ (by dsimp[Tryz.f44])
theorem zyl:WM Pg 44 70 PZ [.tmp 4]:=wM gz Tryz.func44 (by kernel_rfl)
end Go.Gr
