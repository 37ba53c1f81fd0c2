/- Texts of ours, joined and written short by a program of ours. -/
import Derived.Test.YtlfjlokfciejnaaGreatDoorLJ11
import Derived.Test.YtlfjlokfciejnaaGreatDoorLJ06
set_option maxRecDepth 20000
set_option maxHeartbeats 4000000
set_option linter.unusedVariables false
set_option linter.unusedSimpArgs false
namespace Go.Gr
open Go.Abs Go.Proofs List
section
variable (L:iQ)
def opAt(s:fF):Nat->Int
|0=>0
|i+1=>if vY[i]?=some s then(i:Int)else opAt s i
theorem zF0(s:fF):opAt s 11=Bc s:=by
 by_cases h:s∈vY
 ·simp only[vY,aN,bv,dR]at h;rcases h with h|h|h|h|h|h|h|h|h|h|h<;>subst h<;>decide
 ·have h2:∀i,vY[i]?≠some s:=λi z=>h (ah z);have h3:∀i,opAt s i=0:=λi=>by
   induction i with
   |zero=>rfl
   |succ i ih=>rw[opAt,aB (h2 i),ih]
  have h4:∀(l:List fF) (j:Nat),s∉l->fi (λx=>decide (x=s)) j l= -1:=λl=>by
   induction l with
   |nil=>intro j _;rfl
   |cons x l ih=>
    intro j hx;have q:¬x=s:=λz=>hx (by simp[z]);rw[fi,aB (by simp[q]),ih _ (λz=>hx (by simp[z]))]
  rw[h3,Bc,h4 _ _ h];try rfl
theorem N9(n a b:gq)(hk:n.kids=[a,b])(ia ib:Inf)(ha:jk L a ia)(hb:jk L b ib):jk L n (opC n a b ia ib):=λenv s k he hs=>by
 have hn:iH n=iH a+(iH b+1):=by rw[qR,hk];simp[iT];omega
 have w2:=λt0 t1=>DJ L b ib hb t1 env (nQ a ia t0 env s).2 k (he.less (by omega)) (DJ L a ia ha t0 env s (8*iH b+1+k) (he.less (by omega)) (hs.less (by omega)));have i1:=ha env s (8*iH b+k) (he.less (by omega)) (hs.less (by omega));have i2:=hb env (ia env s).2 k (he.less (by omega)) i1.1;unfold opC;split
 ·exact⟨w2 _ _,vk 2 (by omega) (by omega)⟩
 split
 ·exact⟨w2 _ _,vk 2 (by omega) (by omega)⟩
 split
 ·exact⟨i2.1,vk 2 (by omega) (by omega)⟩
 split
 ·exact⟨w2 _ _,vk 4 (by omega) (by omega)⟩
 ·refine⟨w2 _ _,?_⟩;simp only;split
  ·exact vk 2 (by omega) (by omega)
  ·exact vk 3 (by omega) (by omega)
theorem zIB(n a b:gq)(hk:n.kids=[a,b])(ia ib:Inf)(ha:rV L a ia)(hb:rV L b ib):jU L 90 n (opC n a b ia ib):=λenv s k he hs=>by
 refine zHg mD λts hts ok hbk c hN hp=>?_;obtain⟨t,u,v,w,x,y,rfl⟩:=mZ hts;have hn:iH n=iH a+(iH b+1):=by rw[qR,hk];simp[iT];omega
 have d21:¬bs [97,110,100]=bs [111,114]:=by decide
 have d31:¬bs [61,61]=bs [111,114]:=by decide
 have d32:¬bs [61,61]=bs [97,110,100]:=by decide
 have d41:¬bs [43,43]=bs [111,114]:=by decide
 have d42:¬bs [43,43]=bs [97,110,100]:=by decide
 have d43:¬bs [43,43]=bs [61,61]:=by decide
 unfold opC;unfold Vt;by_cases c1:n.text=bs [111,114]
 ·rw[aC c1];have m1:=zb L a ia ha (bT 2) env s (8*iH b+1+k) (he.less (by omega)) (hs.less (by omega));have p1:=DJ L a ia ha.2 (bT 2) env s (8*iH b+1+k) (he.less (by omega)) (hs.less (by omega));simp only;generalize nQ a ia (bT 2) env s=r1 at*
  have m2:=zb L b ib hb (bT 2) env r1.2 k (he.less (by omega)) (p1.less (by omega));generalize nQ b ib (bT 2) env r1.2=r2 at*
  simp[c1,hk];refine gT (lH 2) ?_;simp[c1,hk];refine gP [0,1,2,3,4,5] m1 ?_;simp[hk];refine⟨by decide,?_⟩;refine gP [0,1,2,15,4,16] m2 ?_;simp;refine⟨by decide,by decide,?_⟩;exact fK [0,1,2,9,4,11,18,19] [6,7,8,9,10,11]
 rw[aB c1];by_cases c2:n.text=bs [97,110,100]
 ·rw[aC c2];have m1:=zb L a ia ha (bT 2) env s (8*iH b+1+k) (he.less (by omega)) (hs.less (by omega));have p1:=DJ L a ia ha.2 (bT 2) env s (8*iH b+1+k) (he.less (by omega)) (hs.less (by omega));simp only;generalize nQ a ia (bT 2) env s=r1 at*
  have m2:=zb L b ib hb (bT 2) env r1.2 k (he.less (by omega)) (p1.less (by omega));generalize nQ b ib (bT 2) env r1.2=r2 at*
  simp[c2,d21,hk];refine gT (lH 2) ?_;simp[c2,d21,hk];refine gP [0,1,2,3,4,5] m1 ?_;simp[hk];refine⟨by decide,?_⟩;refine gP [0,1,2,15,4,16] m2 ?_;simp;refine⟨by decide,by decide,?_⟩;exact fK [0,1,2,9,4,11,18,19] [6,7,8,9,10,11]
 rw[aB c2];by_cases c3:n.text=bs [61,61]
 ·rw[aC c3];have m1:=ha.1 env s (8*iH b+k) (he.less (by omega)) (hs.less (by omega));have p1:=ha.2 env s (8*iH b+k) (he.less (by omega)) (hs.less (by omega));simp only;generalize ia env s=r1 at*
  have m2:=hb.1 env r1.2 k (he.less (by omega)) (p1.1.less (by omega));generalize ib env r1.2=r2 at*
  simp[c3,d31,d32,hk];refine gT (lH 2) ?_;simp[c3,d31,d32,hk];refine gP [0,1,2,3,4,5] m1 ?_;simp[hk];refine gP [0,1,2,15,4,16] m2 ?_;simp;refine⟨by decide,?_⟩;exact fK [0,1,2,9,4,11,19,20] [6,7,8,9,10,11]
 rw[aB c3];by_cases c4:n.text=bs [43,43]
 ·rw[aC c4];have m1:=zb L a ia ha (bT 4) env s (8*iH b+1+k) (he.less (by omega)) (hs.less (by omega));have p1:=DJ L a ia ha.2 (bT 4) env s (8*iH b+1+k) (he.less (by omega)) (hs.less (by omega));simp only;generalize nQ a ia (bT 4) env s=r1 at*
  have m2:=zb L b ib hb (bT 4) env r1.2 k (he.less (by omega)) (p1.less (by omega));generalize nQ b ib (bT 4) env r1.2=r2 at*
  simp[c4,d41,d42,d43,hk];refine gT (lH 2) ?_;simp[c4,d41,d42,d43,hk];refine gT (lH 4) ?_;simp[hk];refine gP [0,1,2,3,4,5] m1 ?_;simp[hk];refine⟨by decide,?_⟩;refine gT (lH 4) ?_;simp[hk];refine gP [0,1,2,15,4,16] m2 ?_;simp;refine⟨by decide,?_⟩;refine gT (lH 4) ?_;simp[hk];refine⟨by decide,?_⟩;exact fK [0,1,2,9,4,11,18,19] [6,7,8,9,10,11]
 rw[aB c4];have m1:=zb L a ia ha (bT 3) env s (8*iH b+1+k) (he.less (by omega)) (hs.less (by omega));have p1:=DJ L a ia ha.2 (bT 3) env s (8*iH b+1+k) (he.less (by omega)) (hs.less (by omega));simp only;generalize nQ a ia (bT 3) env s=r1 at*
 have m2:=zb L b ib hb (bT 3) env r1.2 k (he.less (by omega)) (p1.less (by omega));generalize nQ b ib (bT 3) env r1.2=r2 at*
 obtain⟨R,hR⟩:∃R,Bc n.text=R:=⟨_,rfl⟩
 have hR2:=zF0 n.text;rw[hR]at hR2⊢;simp[c1,c2,c3,c4,hk];refine gT (lH 2) ?_;simp[c1,c2,c3,c4,hk];refine fP gz hp (λj:Nat=>j<=11) (λj=>[(21,.c (.d (.int .i64 j))),(20,.c (.d (.int .i64 (opAt n.text j)))),(19,.c (.d (.sl true 1 (encS vY)))),(8,.c (.ptr 14 0)),(7,.c (.ptr 13 0)),(6,.c (.ptr 12 0)),(4,.c (.d (.rp n.enc 0))),(2,.c (.d (.sl false 5 (env.map il)))),(0,.c (.ptr 0 0))]) (λ_=>[ui L s 2 3 4,xf 256 s.tab.length 5,om s.funs,rC s.sites,mI s.bad,oN s.tab,.pin t 0,.pin u 1,.pin v 2,.pin w 3,.pin x 4,.pin y 5,.box [.d (.int .i64 0),.d (.int .i64 0),.d (.str (bs [])),.d (.sl true 1 []),.d (.sl true 1 []),.d (.sl true 4 []),.d (.sl true 5 []),.d (.sl true 8 [])],.box [.d (.int .i64 0),.d (.str (bs [])),.d (.sl true 1 []),.d (.sl true 4 [])],.box ((bT 2).enc.map .d)]) (λj=>11-j) 0 [0,1,2,3,4,5,6,7,8,9,10,11,12,13,14] (by simp) (by simp[encS,vY,opAt]) λj h1=>?_;unfold Vs;simp;apply gN<;>intro h
 ·have hj:j<11:=by simpa[vY]using h
  have hj2:j<vY.length:=by simpa[vY]using hj
  obtain⟨z,hz⟩:∃z,vY[j]=z:=⟨_,rfl⟩
  have hz2:vY[j]?=some z:=by rw[aA hj2,hz]
  have hw:=wI (n:=(j:Int)+1);simp[hj2,hz];refine⟨by decide,?_⟩;apply gN<;>intro h
  ·have e:opAt n.text (j+1)=(j:Int):=by rw[opAt,hz2];simp at h;rw[aC (by rw[h])]
   try simp
   refine fG (j+1) [0,1,2,3,4,5,6,7,8,9,10,11,12,13,14] (by omega) (by omega) ?_;simp[hw,e]
  ·have e:opAt n.text (j+1)=opAt n.text j:=by rw[opAt,hz2];simp at h;rw[aB (λq=>h (by simpa using q))]
   try simp
   refine fG (j+1) [0,1,2,3,4,5,6,7,8,9,10,11,12,13,14] (by omega) (by omega) ?_;simp[hw,e]
 have hj:j=11:=by simp[vY]at h;omega
 subst hj;rw[hR2];simp[hk];refine gT (lH 3) ?_;simp[hk];refine gP [0,1,2,3,4,5] m1 ?_;simp[hk];refine⟨by decide,?_⟩;refine gT (lH 3) ?_;simp[hk];refine gP [0,1,2,15,4,16] m2 ?_;simp;refine⟨by decide,?_⟩;refine gT (lH 3) ?_;simp;by_cases c9:9<=R
 ·rw[aC c9];simp[c9];refine⟨by decide,?_⟩;exact fK [0,1,2,9,4,11,18,19] [6,7,8,9,10,11]
 ·rw[aB c9];simp[c9];refine⟨by decide,?_⟩;exact fK [0,1,2,9,4,11,18,19] [6,7,8,9,10,11]
end
section
variable (L:iQ)
theorem Na(x a:fF)(b:gU):∀(l:List fF) (m:List gU),l.length=m.length->sD x (l++[a]) (m++[b])=sD x l m++(if a=x then []else [(a,b)])
|[],[],_=>by simp only[nil_append,sD]
|n::l,k::m,h=>by
 simp only[cons_append,sD];rw[Na x a b l m (by simpa using h)];split<;>simp
theorem Nb(x:fF):∀(l:List fF) (m:List gU),(sD x l m).length<=l.length
|[],_=>by simp[sD]
|_::_,[]=>by simp[sD]
|n::l,k::m=>by
 have:=Nb x l m;rw[sD];split<;>simp<;>omega
theorem Nc:jK (bT 5):=by
 refine(mH _).2 ⟨rfl,λx h=>(by cases h),.inr (.inl ⟨rfl,rfl,by decide,λx h=>(by cases h)⟩)⟩
theorem zI8(n a b:gq)(hk:n.kids=[a,b])(ia ib:Inf)(ha:jk L a ia)(hb:jk L b ib):jk L n (xY n ia ib):=λenv s k he hs=>by
 have hn:iH n=iH a+iH b+1:=by rw[qR,hk];simp[iT]
 have h1:=ha env s (2+8*iH b+k) (he.less (by omega)) (hs.less (by omega));have h2:=N7 (b:=8*iH b+1+k) (bT 5) (Nc) n.line n.col (ia env s) (h1.1.less (by omega)) h1.2;unfold xY;simp only;generalize kg (bT 5) n.line n.col (ia env s)=r at*
 by_cases q:r.1.2.kind≠5
 ·rw[aC q];exact⟨vo (h2.1.less (by omega)) _ _ _,rU⟩
 ·rw[aB q];have h3:=hb env r.2 k (he.less (by omega)) (h2.1.less (by omega));exact Fw h3.1 _ _ _
theorem WV{t:gU}(h:jK t)(k:t.kind=5):t.names.length=t.kids.length:=by
 rcases((mH t).1 h).2.2 with⟨_,q,_,_⟩|⟨_,q,_⟩|⟨q,_,_⟩|⟨q,_,_⟩<;>omega
abbrev Fy(n:gq)(j:Nat):List (Nat × AV):=[(14,.c (.d (.int .i64 j))),(13,.c (.ptr 19 0)),(11,.c (.ptr 18 0)),(9,.c (.ptr 17 0)),(8,.c (.ptr 16 0)),(7,.c (.ptr 13 0)),(6,.c (.ptr 12 0)),(4,.c (.d (.rp n.enc 0))),(0,.c (.ptr 0 0))]
abbrev Ap(s:CS)(P:List Blk)(x y:gy)(xt:gU)(A:List (fF × gU)):List Blk:=[ui L s 2 14 4,xf 256 s.tab.length 15,om s.funs,.dead,mI s.bad,.dead]++(P++[.box [.d (.int .i64 0),.d (.int .i64 0),.d (.str (bs [])),.d (.sl true 1 []),.d (.sl true 1 []),.d (.sl true 4 []),.d (.sl true 5 []),.d (.sl true 8 [])],.box [.d (.int .i64 0),.d (.str (bs [])),.d (.sl true 1 []),.d (.sl true 4 [])],rC s.sites,oN s.tab,.box (x.enc.map .d),.box (xt.enc.map .d),.box (y.enc.map .d),.box [.d (.int .i64 5),.d (.str (bs [])),.msl 1 20 0 A.length,.msl 4 21 0 A.length],tV (A.map (·.1)),oM (A.map (·.2))])
theorem vG{α:Type}(l:List α)(n:Nat)(h:l.length=n):take n l=l:=aD (by omega)
theorem zFA(n a b:gq)(hk:n.kids=[a,b])(ia ib:Inf)(ha:rV L a ia)(hb:rV L b ib):jU L 87 n (xY n ia ib):=λenv s k he hs=>by
 refine zCp mD λts hts ok hbk c hN hp=>?_;obtain⟨t,u,v,w,x,y,rfl⟩:=mZ hts;have hn:iH n=iH a+iH b+1:=by rw[qR,hk];simp[iT]
 have hb0:=lH 0;have hb5:=lH 5;have m1:=ha.1 env s (2+8*iH b+k) (he.less (by omega)) (hs.less (by omega));have p1:=ha.2 env s (2+8*iH b+k) (he.less (by omega)) (hs.less (by omega));unfold xY;simp only;generalize ia env s=r1 at*
 unfold Vo;by_cases t0:r1.1.2.kind=0
 ·obtain⟨X,eX⟩:∃X,kg (bT 5) n.line n.col r1=X:=⟨_,rfl⟩
  have p2:=N7 (b:=8*iH b+1+k) (bT 5) (Nc) n.line n.col r1 (p1.1.less (by omega)) p1.2;rw[eX]at p2⊢;have m2:=EM L r1.1.1 r1.1.2 (bT 5) n r1.2 (by have:=p1.1.sites;omega);unfold kg at eX;rw[aC t0]at eX;have eX1:(mP r1.1.1 r1.1.2 (bT 5) n.line n.col r1.2).1=X.1.1:=by rw[<-eX]
  have eX2:(mP r1.1.1 r1.1.2 (bT 5) n.line n.col r1.2).2=X.2:=by rw[<-eX]
  have eX3:X.1.2=bT 5:=by rw[<-eX]
  rw[eX1,eX2]at m2;clear eX eX1 eX2;have k5:¬X.1.2.kind≠5:=by rw[eX3];decide
  rw[aB k5];have m3:=hb.1 env X.2 k (he.less (by omega)) (p2.1.less (by omega));have p3:=hb.2 env X.2 k (he.less (by omega)) (p2.1.less (by omega));generalize ib env X.2=r3 at*
  rw[<-eX3]at hb5;rw[<-eX3]at m2;have k5:X.1.2.kind=5:=by rw[eX3];try rfl
  have hl:=WV p2.2 k5;have hl2:=Ai p2.2;simp[hk];refine gP [0,1,2,3,4,5] m1 ?_;simp[t0];refine gT hb5 ?_;simp;refine gP [0,1,2,14,4,15] m2 ?_;simp[k5,hk];refine gP [0,1,2,19,4,15] m3 ?_;simp[hk];have e0:sD n.text (X.1.2.names.take 0) (X.1.2.kids.take 0)=[]:=rfl;refine fP gz hp (λj:Nat=>j<=X.1.2.names.length) (Fy n) (λj=>Ap L r3.2 [.pin t 0,.pin u 1,.pin v 2,.pin w 3,.pin x 4,.pin y 5] X.1.1 r3.1.1 X.1.2 ((n.text,r3.1.2)::sD n.text (X.1.2.names.take j) (X.1.2.kids.take j))) (λj=>X.1.2.names.length-j) 0 [0,1,2,3,4,5,6,7,8,9,10,11,12,13,20,21,16,17,22,26,24,25] (by simp) (by simp[encS,sD]) λj h1=>?_;unfold NP;simp;apply gN<;>intro h
  ·have hj:j<X.1.2.names.length:=by simpa using h
   have hj2:j<X.1.2.kids.length:=by omega
   obtain⟨z,hz⟩:∃z,X.1.2.names[j]=z:=⟨_,rfl⟩
   obtain⟨q,hq⟩:∃q,X.1.2.kids[j]=q:=⟨_,rfl⟩
   have tk1:X.1.2.names.take (j+1)=X.1.2.names.take j++[z]:=by rw[aJ hj,hz]
   have tk2:X.1.2.kids.take (j+1)=X.1.2.kids.take j++[q]:=by rw[aJ hj2,hq]
   have rs:=Na n.text z q (X.1.2.names.take j) (X.1.2.kids.take j) (by rw[bN,bN];omega);rw[<-tk1,<-tk2]at rs;have rl:=Nb n.text (X.1.2.names.take j) (X.1.2.kids.take j);rw[bN]at rl;have hw:=wI (n:=(j:Int)+1);simp[hj,hz];refine⟨by decide,?_⟩;by_cases e:z=n.text
   ·rw[aC e,bM]at rs;simp[e];refine fG (j+1) [0,1,2,3,4,5,6,7,8,9,10,11,12,13,14,15,16,17,18,19,20,21] (by omega) (by omega) ?_;simp only[Ap,rs];simp[hw]
   ·rw[aB e]at rs;generalize hA:sD n.text (X.1.2.names.take j) (X.1.2.kids.take j)=A at*
    simp[e,hj,hz,hj2,hq];refine⟨by omega,by decide,by omega,by decide,?_⟩;refine fG (j+1) [0,1,2,3,4,5,6,7,8,9,10,11,12,13,14,15,16,17,18,19,22,23] (by omega) (by omega) ?_;simp[hw,rs];refine⟨?_,?_⟩
    ·rw[vG _ _ (by simp[encS])];simp[encS]
    ·rw[vG _ _ (by simp)]
  have hj:j=X.1.2.names.length:=by simp at h;omega
  subst hj;rw[bO,hl,bO];generalize sD n.text X.1.2.names X.1.2.kids=B at*
  have z1:take (B.length+1) (encS (n.text::List.map (λx=>x.1) B))=encS (n.text::List.map (λx=>x.1) B):=vG _ _ (by simp[encS]);have z2:take B.length (List.map (gU.enc∘λx=>x.2) B)=List.map (gU.enc∘λx=>x.2) B:=vG _ _ (by simp);have m4:=DI L (.mk 5 (bs []) (((n.text,r3.1.2)::B).map (·.1)) (((n.text,r3.1.2)::B).map (·.2))) n r3.2;generalize pX (.mk 5 (bs []) (((n.text,r3.1.2)::B).map (·.1)) (((n.text,r3.1.2)::B).map (·.2))) n.line n.col r3.2=r4 at*
  simp[hk];refine fU [20,21] ?_;simp[iZ,z1,z2];refine gQ [0,1,2,14,4,15] m4 (by simp[tX]) ?_;simp;refine⟨by decide,?_⟩;exact fK [0,1,2,9,4,11,14,15] [6,7,8,9,10,11]
 have eX:kg (bT 5) n.line n.col r1=r1:=by unfold kg;rw[aB t0]
 have p2:lJ L r1.2 (8*iH b+1+k)/\jK r1.1.2:=⟨p1.1.less (by omega),p1.2⟩
 rw[eX];by_cases k5:r1.1.2.kind=5;rotate_left
 ·rw[aC k5];have m2:=vM L n 17 r1.2;generalize lI n.line n.col 17 r1.2=r2 at*
  simp[hk];refine gP [0,1,2,3,4,5] m1 ?_;simp[t0,k5];refine gP [0,1,2,14,4,15] m2 ?_;simp;refine gT hb0 ?_;simp;exact fK [0,1,2,9,4,11,14,15] [6,7,8,9,10,11]
 rw[aB (λz=>z k5)];obtain⟨X,hX⟩:∃X,X=r1:=⟨_,rfl⟩
 subst hX;have m3:=hb.1 env X.2 k (he.less (by omega)) (p2.1.less (by omega));have p3:=hb.2 env X.2 k (he.less (by omega)) (p2.1.less (by omega));generalize ib env X.2=r3 at*
 have hl:=WV p2.2 k5;have hl2:=Ai p2.2;simp[hk];refine gP [0,1,2,3,4,5] m1 ?_;simp[t0,k5,hk];refine gP [0,1,2,14,4,15] m3 ?_;simp[hk];have e0:sD n.text (X.1.2.names.take 0) (X.1.2.kids.take 0)=[]:=rfl;refine fP gz hp (λj:Nat=>j<=X.1.2.names.length) (Fy n) (λj=>Ap L r3.2 [.pin t 0,.pin u 1,.pin v 2,.pin w 3,.pin x 4,.pin y 5] X.1.1 r3.1.1 X.1.2 ((n.text,r3.1.2)::sD n.text (X.1.2.names.take j) (X.1.2.kids.take j))) (λj=>X.1.2.names.length-j) 0 [0,1,2,3,4,5,6,7,8,9,10,11,12,13,18,19,16,17,20,24,22,23] (by simp) (by simp[encS,sD]) λj h1=>?_;unfold NP;simp;apply gN<;>intro h
 ·have hj:j<X.1.2.names.length:=by simpa using h
  have hj2:j<X.1.2.kids.length:=by omega
  obtain⟨z,hz⟩:∃z,X.1.2.names[j]=z:=⟨_,rfl⟩
  obtain⟨q,hq⟩:∃q,X.1.2.kids[j]=q:=⟨_,rfl⟩
  have tk1:X.1.2.names.take (j+1)=X.1.2.names.take j++[z]:=by rw[aJ hj,hz]
  have tk2:X.1.2.kids.take (j+1)=X.1.2.kids.take j++[q]:=by rw[aJ hj2,hq]
  have rs:=Na n.text z q (X.1.2.names.take j) (X.1.2.kids.take j) (by rw[bN,bN];omega);rw[<-tk1,<-tk2]at rs;have rl:=Nb n.text (X.1.2.names.take j) (X.1.2.kids.take j);rw[bN]at rl;have hw:=wI (n:=(j:Int)+1);simp[hj,hz];refine⟨by decide,?_⟩;by_cases e:z=n.text
  ·rw[aC e,bM]at rs;simp[e];refine fG (j+1) [0,1,2,3,4,5,6,7,8,9,10,11,12,13,14,15,16,17,18,19,20,21] (by omega) (by omega) ?_;simp only[Ap,rs];simp[hw]
  ·rw[aB e]at rs;generalize hA:sD n.text (X.1.2.names.take j) (X.1.2.kids.take j)=A at*
   simp[e,hj,hz,hj2,hq];refine⟨by omega,by decide,by omega,by decide,?_⟩;refine fG (j+1) [0,1,2,3,4,5,6,7,8,9,10,11,12,13,14,15,16,17,18,19,22,23] (by omega) (by omega) ?_;simp[hw,rs];refine⟨?_,?_⟩
   ·rw[vG _ _ (by simp[encS])];simp[encS]
   ·rw[vG _ _ (by simp)]
 have hj:j=X.1.2.names.length:=by simp at h;omega
 subst hj;rw[bO,hl,bO];generalize sD n.text X.1.2.names X.1.2.kids=B at*
 have z1:take (B.length+1) (encS (n.text::List.map (λx=>x.1) B))=encS (n.text::List.map (λx=>x.1) B):=vG _ _ (by simp[encS]);have z2:take B.length (List.map (gU.enc∘λx=>x.2) B)=List.map (gU.enc∘λx=>x.2) B:=vG _ _ (by simp);have m4:=DI L (.mk 5 (bs []) (((n.text,r3.1.2)::B).map (·.1)) (((n.text,r3.1.2)::B).map (·.2))) n r3.2;generalize pX (.mk 5 (bs []) (((n.text,r3.1.2)::B).map (·.1)) (((n.text,r3.1.2)::B).map (·.2))) n.line n.col r3.2=r4 at*
 simp[hk];refine fU [20,21] ?_;simp[iZ,z1,z2];refine gQ [0,1,2,14,4,15] m4 (by simp[tX]) ?_;simp;refine⟨by decide,?_⟩;exact fK [0,1,2,9,4,11,14,15] [6,7,8,9,10,11]
end
section
variable (L:iQ)
def Aq(l:List fF):Nat->Bool
|0=>false
|i+1=>Aq l i||(l.take i).any (λm=>decide (some m=l[i]?))
def ze(l:List fF)(i j:Nat):Bool:=Aq l i||(l.take j).any (λm=>decide (some m=l[i]?))
theorem WW(l:List fF):∀i,i<=l.length->(Aq l i||mG (l.take i) (l.drop i))=mG [] l
|0,_=>by simp[Aq]
|i+1,h=>by
 have hi:i<l.length:=by omega
 rw[<-WW l i (by omega),aG hi,mG,Aq,aJ hi];simp[Bool.or_assoc,hi]
theorem zFg(l:List fF):Aq l l.length=mG [] l:=by
 have:=WW l l.length (by omega);rw[aQ]at this;simpa[mG]using this
def nY(n:gq)(s:CS)(q:Bool):CS:=if q=true then lI n.line n.col 8 s else s
theorem zFh(n:gq)(s:CS)(q:Bool):lI n.line n.col 8 (nY n s q)=nY n s true:=by
 unfold nY;cases q with
 |false=>simp
 |true=>
  simp only[aC];unfold lI;by_cases h:s.e=0
  ·rw[aC h];try rfl
  ·rw[aB h,aB h]
theorem WX{L:iQ}{n:gq}{s:CS}{b:Nat}(h:lJ L s b)(q:Bool):lJ L (nY n s q) b:=by
 unfold nY;split
 ·exact vo h _ _ _
 ·exact h
theorem WY(n:gq)(ks:Env->CS->(List gy × List gU) × CS)(env:Env)(s:CS):qO n ks env s=((.mk 8 0 (bs []) [] n.names [] [] (ks env (nY n s (mG [] n.names))).1.1,(pX (.mk 5 (bs []) n.names (ks env (nY n s (mG [] n.names))).1.2) n.line n.col (ks env (nY n s (mG [] n.names))).2).1),(pX (.mk 5 (bs []) n.names (ks env (nY n s (mG [] n.names))).1.2) n.line n.col (ks env (nY n s (mG [] n.names))).2).2):=rfl
theorem WZ:∀l:List gq,l.length<=iT l
|[]=>by simp
|n::l=>by
 have:=WZ l;have:=qR n;rw[iT,length_cons];omega
theorem W9:∀(l:List gq) (j:Nat),iT (l.drop j)<=iT l
|[],j=>by simp
|n::l,0=>by simp
|n::l,j+1=>by
 have:=W9 l j;rw[drop_succ_cons,iT];omega
theorem Wd(env:Env):∀(l:List gq),(∀x,x∈l->jk L x (iy L x))->sG env (iT l)->∀(s:CS) (b:Nat),lJ L s (8*iT l+b)->lJ L (oL L l env s).2 b
|[],_,_,s,b,h=>by rw[oL];exact h.less (by omega)
|n::l,hl,he,s,b,h=>by
 rw[iT]at he h;have h1:=hl n (by simp) env s (8*iT l+b) (he.less (by omega)) (h.less (by omega));rw[oL];exact Wd env l (λx hx=>hl x (by simp[hx])) (he.less (by omega)) _ b h1.1
theorem zJC(n:gq)(hks:∀x,x∈n.kids->jk L x (iy L x)):jk L n (qO n (oL L n.kids)):=λenv s k he hs=>by
 rw[qR]at he hs;have h1:=Wd L env n.kids hks (he.less (by omega)) (nY n s (mG [] n.names)) k (WX (hs.less (by omega)) _);rw[WY];exact Fw h1 _ _ _
abbrev Nf(l:List gy):Blk:=.arr 8 ((l.map gy.enc).map (·.map .d))
abbrev Fz(n:gq)(env:Env)(i:Nat):List (Nat × AV):=[(8,.c (.d (.int .i64 i))),(7,.c (.ptr 13 0)),(6,.c (.ptr 12 0)),(4,.c (.d (.rp n.enc 0))),(2,.c (.d (.sl false 5 (env.map il)))),(0,.c (.ptr 0 0))]
abbrev GA(P:List Blk)(S:CS):List Blk:=rE L S++(P++[.box [.d (.int .i64 0),.d (.int .i64 0),.d (.str (bs [])),.d (.sl true 1 []),.d (.sl true 1 []),.d (.sl true 4 []),.d (.sl true 5 []),.d (.sl true 8 [])],.box [.d (.int .i64 0),.d (.str (bs [])),.d (.sl true 1 []),.d (.sl true 4 [])]])
abbrev rcT(n:gq)(env:Env)(j:Nat):List (Nat × AV):=[(12,.c (.d (.int .i64 j))),(11,.c (.ptr 11 0)),(10,.c (.ptr 10 0)),(7,.c (.ptr 9 0)),(6,.c (.ptr 8 0)),(4,.c (.d (.rp n.enc 0))),(2,.c (.d (.sl false 5 (env.map il)))),(0,.c (.ptr 0 0))]
abbrev rcB(n:gq)(P:List Blk)(S:CS)(cs:List gy)(ts:List gU):List Blk:=[ui L S 2 12 3,xf 256 S.tab.length 13,om S.funs,mI S.bad]++(P++[.box [.d (.int .i64 0),.d (.int .i64 0),.d (.str (bs [])),.d (.sl true 1 []),.d (.sl true 1 []),.d (.sl true 4 []),.d (.sl true 5 []),.d (.sl true 8 [])],.box [.d (.int .i64 0),.d (.str (bs [])),.d (.sl true 1 []),.d (.sl true 4 [])],.box [.d (.int .i64 8),.d (.int .i64 0),.d (.str (bs [])),.d (.sl true 1 []),.d (.sl false 1 (encS n.names)),.d (.sl true 4 []),.d (.sl true 5 []),.msl 8 14 0 cs.length],.box [.d (.int .i64 5),.d (.str (bs [])),.d (.sl false 1 (encS n.names)),.msl 4 15 0 ts.length],rC S.sites,oN S.tab,Nf cs,oM ts])
theorem zDV(n:gq)(hnm:n.names.length<=1000000)(hks:∀x,x∈n.kids->rV L x (iy L x)):jU L 85 n (qO n (oL L n.kids)):=λenv s k he hs=>by
 refine zBI mD λts hts ok hbk c hN hp=>?_;obtain⟨t,u,v,w,x,y,rfl⟩:=mZ hts;have hn:=qR n;rw[WY];unfold Vm;simp;refine fP gz hp (λi:Nat=>i<=n.names.length) (Fz n env) (λi=>GA L [.pin t 0,.pin u 1,.pin v 2,.pin w 3,.pin x 4,.pin y 5] (nY n s (Aq n.names i))) (λi=>n.names.length-i) 0 [0,1,2,3,4,5,6,7,8,9,10,11,12,13] (by simp) (by simp[Aq,nY]) λi h1=>?_;unfold Vk;simp;apply gN<;>intro h
 ·have hi:i<n.names.length:=by simpa using h
  obtain⟨z,hz⟩:∃z,n.names[i]=z:=⟨_,rfl⟩
  have hz2:n.names[i]?=some z:=by rw[aA hi,hz]
  try simp
  refine fP gz hp (λj:Nat=>j<=i) (λj=>(9,.c (.d (.int .i64 j)))::Fz n env i) (λj=>GA L [.pin t 0,.pin u 1,.pin v 2,.pin w 3,.pin x 4,.pin y 5] (nY n s (ze n.names i j))) (λj=>i-j) 0 [0,1,2,3,4,5,6,7,8,9,10,11,12,13] (by simp) (by simp[ze]) λj h2=>?_;unfold Vj;simp;apply gN<;>intro h
  ·have hj:j<i:=by simpa using h
   have hj2:j<n.names.length:=by omega
   obtain⟨q,hq⟩:∃q,n.names[j]=q:=⟨_,rfl⟩
   have hw:=wI (n:=(j:Int)+1);have m:=vM L n 8 (nY n s (ze n.names i j));rw[zFh]at m;have e:ze n.names i (j+1)=(ze n.names i j||decide (q=z)):=by
    unfold ze;rw[aJ hj2,hz2,hq];simp[Bool.or_assoc]
   by_cases c0:q=z
   ·have e2:ze n.names i (j+1)=true:=by rw[e];simp[c0]
    simp[hj2,hq,hz,hi,c0];refine⟨by decide,?_⟩;refine gP [0,1,2,3,4,5] m ?_;simp;refine fG (j+1) [0,1,2,3,4,5,6,7,8,9,10,11,12,13] (by omega) (by omega) ?_;simp[hw,e2]
   ·have e2:ze n.names i (j+1)=ze n.names i j:=by rw[e];simp[c0]
    simp[hj2,hq,hz,hi,c0];refine⟨by decide,?_⟩;refine fG (j+1) [0,1,2,3,4,5,6,7,8,9,10,11,12,13] (by omega) (by omega) ?_;simp[hw,e2]
  ·have hj:j=i:=by simp at h;omega
   subst hj;have hw:=wI (n:=(j:Int)+1);have e:ze n.names j j=Aq n.names (j+1):=rfl;simp;refine fG (j+1) [0,1,2,3,4,5,6,7,8,9,10,11,12,13] (by omega) (by omega) ?_;simp[hw,e]
 have hi:i=n.names.length:=by simp at h;omega
 subst hi;rw[zFg];have s1:=WX (n:=n) (b:=8*iT n.kids+k) (hs.less (by omega)) (mG [] n.names);generalize nY n s (mG [] n.names)=s1' at*
 obtain⟨R,hR⟩:∃R,oL L n.kids env s1'=R:=⟨_,rfl⟩
 rw[hR];have hkl:=WZ n.kids;have hel:=he.len;simp;refine fV [.c 14 7,.c 15 3] ?_;simp;refine fP gz hp (λY:Nat × CS × List gy × List gU=>Y.1<=n.kids.length/\lJ L Y.2.1 (8*iT (n.kids.drop Y.1)+k)/\Y.2.2.1.length=Y.1/\Y.2.2.2.length=Y.1/\((Y.2.2.1++(oL L (n.kids.drop Y.1) env Y.2.1).1.1,Y.2.2.2++(oL L (n.kids.drop Y.1) env Y.2.1).1.2),(oL L (n.kids.drop Y.1) env Y.2.1).2)=R) (λY=>rcT n env Y.1) (λY=>rcB L n [.pin t 0,.pin u 1,.pin v 2,.pin x 3] Y.2.1 Y.2.2.1 Y.2.2.2) (λY=>n.kids.length-Y.1) (0,s1',[],[]) [0,1,2,4,6,7,8,10,12,13,14,15,3,5,16,17] ⟨by simp,by simpa using s1,by simp,by simp,by simpa using hR⟩ (by simp) λ⟨j,S,cs,ts⟩ ⟨i1,i2,i3,i4,i5⟩=>?_;unfold Vl;simp only at i1 i2 i3 i4 i5;simp;apply gN<;>intro h
 ·have hj:j<n.kids.length:=by simpa using h
  obtain⟨q,hq⟩:∃q,n.kids[j]=q:=⟨_,rfl⟩
  have hqm:q∈n.kids:=by rw[<-hq];exact aO hj
  have hd:=W9 n.kids j;rw[aG hj,hq]at i2 i5 hd;rw[oL]at i5;rw[iT]at i2 hd;have m:=(hks q hqm).1 env S (8*iT (n.kids.drop (j+1))+k) (he.less (by omega)) (i2.less (by omega));have p:=(hks q hqm).2 env S (8*iT (n.kids.drop (j+1))+k) (he.less (by omega)) (i2.less (by omega));simp only at i5;generalize iy L q env S=r at*
  have hw:=wI (n:=(j:Int)+1);simp[hj,hq];refine gP [0,1,2,12,3,13] m ?_;simp;refine⟨by omega,by omega,?_⟩;refine fG (j+1,r.2,cs++[r.1.1],ts++[r.1.2]) [0,1,2,3,4,5,6,7,8,9,10,11,16,17,20,21] ⟨by simp only;omega,p.1,by simp;omega,by simp;omega,by simpa using i5⟩ (by simp only;omega) ?_;simp[hw];refine⟨?_,?_⟩
  ·rw[vG _ _ (by simp)]
  ·rw[vG _ _ (by simp)]
 have hj:j=n.kids.length:=by simp at h;omega
 subst hj;rw[aQ,oL]at i5;simp only[bM]at i5;subst i5;simp only;have m4:=DI L (.mk 5 (bs []) n.names ts) n S;generalize pX (.mk 5 (bs []) n.names ts) n.line n.col S=r4 at*
 simp;refine fU [14,15] ?_;have z1:=vG (cs.map gy.enc) cs.length (by simp);have z2:=vG (ts.map gU.enc) ts.length (by simp);simp[iZ,z1,z2];refine gQ [0,1,2,12,3,13] m4 (by simp[tX]) ?_;simp;refine⟨by decide,?_⟩;exact fJ [0,1,2,8,3,9,12,13] [4,5,6,4,7,4] (by simp[z1,Fu,yn,tX,encI,AV.erds,AV.erd,D.erdL,D.erd,D.erdE,je,jf])
end
section
variable (L:iQ)
theorem Ng{L:iQ}(ln cl:Int):∀(ts l:List gU) (s:CS) (b:Nat),lJ L s b->lJ L (sV ln cl ts l s).2 b
|[],_,_,_,h=>h
|t::ts,l,s,b,h=>by
 rw[sV];split
 ·exact h
 ·exact Ng ln cl ts _ _ b (wZ h t ln cl).1
theorem Nh(x:fF):∀l:List jF,(qx l x).2=true->(qx l x).1∈l
|[],h=>by simp[qx]at h
|e::l,h=>by
 rw[qx]at h⊢;split at h
 ·rename_i q;rw[aC q];simp
 ·rename_i q;rw[aB q];exact mem_cons_of_mem _ (Nh x l h)
theorem We{env:Env}{b:Nat}(he:sG env b)(k:Nat):jK (env.getD k (bs [],noT)).2:=by
 rw[aH];cases h:env[k]? with
 |none=>exact rU
 |some v=>exact he.wf v (ah h)
theorem Wh(ln cl:Int):∀(ts l:List gU) (s:CS),(sV ln cl ts l s).1.length<=l.length+ts.length
|[],l,_=>by rw[sV];simp
| t::ts,l,s=>by
 rw[sV];split
 ·simp only[length_cons];omega
 ·refine aj (Wh ln cl ts _ _) ?_;simp only[aT,length_cons,length_nil];omega
theorem zIO{L:iQ}(hL:oH L)(i:Nat)(x:fF)(h:(qx (L.scopes.getD i []) x).2=true):kD L ⟨bs [],(qx (L.scopes.getD i []) x).1.module,(qx (L.scopes.getD i []) x).1.decl⟩:=by
 have hm:=Nh x _ h;have:L.scopes.getD i []∈L.scopes:=by
  rw[aH]at hm⊢;cases q:L.scopes[i]? with
  |none=>rw[q]at hm;simp at hm
  |some sc=>exact ah q
 have r:=hL.ents _ this _ hm;exact⟨r.m0,r.m1,r.d0,r.d1⟩
theorem zH3(hL:oH L)(n:gq)(hty:n.types.length<=1000000):jk L n (xV L n):=λenv s k he hs=>by
 have hs:=hs.less (c:=k) (by omega);have ent:=zIO hL s.module.toNat n.text;unfold xV;simp only;split
 ·exact⟨hs,We he _⟩
 rename_i c1;split
 ·exact⟨vo hs _ _ _,rU⟩
 rename_i c2;split
 ·exact⟨vo hs _ _ _,rU⟩
 rename_i c3;have ent:=ent (by
  by_cases q:(qx (L.scopes.getD s.module.toNat []) n.text).2=true
  ·exact q
  ·exact absurd ⟨by omega,by simpa using q⟩ c2)
 split
 ·exact⟨vo hs _ _ _,rU⟩
 split
 ·exact WS hs _ _ _ _ ent (by simp)
 have h2:=Ng n.line n.col n.types [] s k hs;have h3:=Wh n.line n.col n.types [] s;split
 ·exact⟨h2,rU⟩
 split
 ·exact⟨vo h2 _ _ _,rU⟩
 ·exact WS h2 _ _ _ _ ent (by simp at h3;omega)
abbrev nmT(n:gq)(j m:Nat):List (Nat × AV):=[(14,.c (.d (.int .i64 j))),(13,.c (.msl 4 17 0 m)),(12,.c (.ptr 16 0)),(11,.c (.ptr 15 0)),(9,.c (.ptr 14 0)),(7,.c (.ptr 13 0)),(6,.c (.ptr 12 0)),(4,.c (.d (.rp n.enc 0))),(0,.c (.ptr 0 0))]
abbrev nmB(P:List Blk)(e:jF)(d:jZ)(S:CS)(ts:List gU):List Blk:=rE L S++(P++[.box [.d (.int .i64 0),.d (.int .i64 0),.d (.str (bs [])),.d (.sl true 1 []),.d (.sl true 1 []),.d (.sl true 4 []),.d (.sl true 5 []),.d (.sl true 8 [])],.box [.d (.int .i64 0),.d (.str (bs [])),.d (.sl true 1 []),.d (.sl true 4 [])],.box (e.enc.map .d),.box [.d (.int .i64 0),.d (.int .i64 0),.d (.str (bs [])),.d (.sl true 1 []),.d (.sl true 1 []),.d (.sl true 4 []),.d (.sl true 5 []),.d (.sl true 8 [])],.box (d.enc.map .d),oM ts])
theorem zE8(hL:oH L)(n:gq)(hty:n.types.length<=1000000):jU L 81 n (xV L n):=λenv s k he hs=>by
 refine zCo mD λts hts ok hbk c hN hp=>?_;obtain⟨t,u,v,w,x,y,rfl⟩:=mZ hts;have hb0:=lH 0;have hel:=he.len;have hfi:=find_ok env (by omega) n.text;have hfl:=NV env n.text;obtain⟨sc,hsc⟩:∃sc,L.scopes.getD s.module.toNat []=sc:=⟨_,rfl⟩
 obtain⟨mn,hmn⟩:∃mn:Nat,s.module=mn:=⟨s.module.toNat,by have:=hs.m0;omega⟩
 have hml:mn<L.scopes.length:=by have:=hs.m1;have:=hL.scopes;omega
 have hsc2:L.scopes[mn]?=some sc:=by rw[hmn]at hsc;simp only[bC]at hsc;rw[<-hsc,aH,aA hml];try rfl
 have hfe:=VC sc n.text;have hem:=Nh n.text sc;unfold xV;simp only;rw[hsc];generalize qx sc n.text=e at*
 generalize rT env n.text=z at*
 have hse:∀q:e.2=true,kD L e.1:=λq=>hL.ents sc (ah hsc2) _ (hem q);unfold Vf;simp[hmn,hsc2];refine gT hfi ?_;simp[hmn,hsc2];refine gT hfe ?_;have ge1:∀h,e.1.enc[1]'h=D.int .i64 e.1.module:=λ_=>rfl;have ge2:∀h,e.1.enc[2]'h=D.int .i64 e.1.decl:=λ_=>rfl;by_cases z0:0<=z
 ·obtain⟨zn,hzn⟩:∃zn:Nat,z=zn:=⟨z.toNat,by omega⟩
  have hzl:zn<env.length:=by omega
  obtain⟨v,hv⟩:∃v,env[zn]=v:=⟨_,rfl⟩
  have hv2:env.getD z.toNat (bs [],noT)=v:=by rw[hzn];simp only[bC];rw[aH,aA hzl,hv];try rfl
  by_cases k4:n.kind=4
  ·rw[aC ⟨z0,k4⟩,hv2];subst hzn;simp[k4,hzl,hv];refine⟨by decide,by decide,?_⟩;exact fK [0,1,2,9,4,11,3,5] [6,7,8,9,10,11]
  ·rw[aB (λq=>k4 q.2),aB (λq=>by omega),aC z0];have m:=vM L n 18 s;generalize lI n.line n.col 18 s=s2 at*
   have z1:¬z<0:=by omega
   simp[k4,z0,z1];refine⟨by decide,?_⟩;refine gP [0,1,2,3,4,5] m ?_;simp;refine gT hb0 ?_;simp;refine⟨by decide,?_⟩;exact fK [0,1,2,9,4,11,3,5] [6,7,8,9,10,11]
 have z1:z<0:=by omega
 rw[aB (λq=>z0 q.1)];by_cases e2:e.2=true;rotate_left
 ·rw[aC ⟨z1,by simpa using e2⟩];have m:=vM L n 10 s;generalize lI n.line n.col 10 s=s2 at*
  simp[z0,z1,e2];refine⟨by decide,?_⟩;refine gP [0,1,2,3,4,5] m ?_;simp;refine gT hb0 ?_;simp;refine⟨by decide,?_⟩;exact fK [0,1,2,9,4,11,3,5] [6,7,8,9,10,11]
 rw[aB (λq=>by simp[e2]at q),aB z0];have hen:=hse e2;have hen2:kD L ⟨bs [],e.1.module,e.1.decl⟩:=⟨hen.m0,hen.m1,hen.d0,hen.d1⟩
 obtain⟨mn2,kn,M,e1,e3,g1,g2,hd⟩:=Fv hL hen2;generalize hdd:vX L e.1.module e.1.decl=d at*
 by_cases c9:decide (0<d.vars.length)=decide (n.kind=19);rotate_left
 ·rw[aC c9];have m:=vM L n 18 s;generalize lI n.line n.col 18 s=s2 at*
  simp[z0,z1,e2,ge1,ge2,e1,e3,g1,g2];refine⟨by decide,by decide,?_⟩;by_cases c0:0<d.vars.length
  ·have c1:¬n.kind=19:=λq=>c9 (by simp[c0,q]);simp[c0,c1];refine gP [0,1,2,3,4,5] m ?_;simp;refine gT hb0 ?_;simp;refine⟨by decide,?_⟩;exact fK [0,1,2,9,4,11,3,5] [6,7,8,9,10,11]
  ·have c1:n.kind=19:=by
    by_cases q:n.kind=19
    ·exact q
    ·exact absurd (by simp[c0,q]) c9
   simp[c0,c1];refine gP [0,1,2,3,4,5] m ?_;simp;refine gT hb0 ?_;simp;refine⟨by decide,?_⟩;exact fK [0,1,2,9,4,11,3,5] [6,7,8,9,10,11]
 rw[aB (λq=>q c9)];by_cases k4:n.kind=4
 ·rw[aC k4];have c0:¬0<d.vars.length:=λq=>by simp[q,k4]at c9
  have m:=MCall.erd (args:=[.c (.ptr 0 0),.ag (n.enc.map .d),.ag (e.1.enc.map .d),.c (.d (.sl true 4 []))]) (WU L hL n e.1 hen2 [] (by simp) s hs.tab) (by simp[AV.erds,AV.erd,AC.erd,D.erd,D.erdL,D.erdE,jF.enc]);generalize tQ L n.line n.col e.1 [] s=r at*
  simp[z0,z1,e2,ge1,ge2,e1,e3,g1,g2];refine⟨by decide,by decide,?_⟩;simp[c0,k4];refine gP [0,1,2,3,4,5] m ?_;simp;exact fK [0,1,2,9,4,11,17,18] [6,7,8,9,10,11]
 rw[aB k4];obtain⟨R,hR⟩:∃R,sV n.line n.col n.types [] s=R:=⟨_,rfl⟩
 have pR:=Ng n.line n.col n.types [] s k (hs.less (by omega));rw[hR]at pR⊢;simp[z0,z1,e2,ge1,ge2,e1,e3,g1,g2];refine⟨by decide,by decide,?_⟩;have c9':(decide (0<d.vars.length) !=decide (n.kind=19))=false:=by rw[c9];simp
 apply gN<;>intro h
 ·exfalso;simp_all
 simp[k4];refine fV [.t 13] ?_;simp;refine fP gz hp (λY:Nat × CS × List gU=>Y.1<=n.types.length/\lJ L Y.2.1 k/\Y.2.2.length=Y.1/\sV n.line n.col (n.types.drop Y.1) Y.2.2 Y.2.1=R) (λY=>nmT n Y.1 Y.2.2.length) (λY=>nmB L [.pin t 0,.pin u 1,.pin v 2,.pin w 3,.pin x 4,.pin y 5] e.1 d Y.2.1 Y.2.2) (λY=>n.types.length-Y.1) (0,s,[]) [0,1,2,3,4,5,6,7,8,9,10,11,12,13,14,15,16,17] ⟨by simp,hs.less (by omega),by simp,by simpa using hR⟩ (by simp) λ⟨j,S,ts⟩ ⟨i1,i2,i3,i4⟩=>?_;unfold Ve;simp only at i1 i2 i3 i4;simp;by_cases hj:j<n.types.length
 ·by_cases q0:S.e=0
  ·obtain⟨q,hq⟩:∃q,n.types[j]=q:=⟨_,rfl⟩
   rw[aG hj,hq,sV,aB (λz=>z q0)]at i4;have m:=DF L q n.line n.col S i2.wth;have p:=wZ i2 q n.line n.col;generalize kC q n.line n.col S=r at*
   have hw:=wI (n:=(j:Int)+1);simp[hj,q0,hq];refine gP [0,1,2,3,4,5] m ?_;simp;refine⟨by decide,by omega,?_⟩;refine fG (j+1,r.2,ts++[r.1]) [0,1,2,3,4,5,6,7,8,9,10,11,12,13,14,15,16,19] ⟨by simp only;omega,p.1,by simp;omega,i4⟩ (by simp only;omega) ?_;simp[hw];rw[vG _ _ (by simp)]
  ·have i5:(ts,S)=R:=by rw[aG hj,sV,aC q0]at i4;exact i4
   subst i5;rw[aC q0];simp[hj,q0];refine gT hb0 ?_;simp;refine⟨by decide,?_⟩;exact fK [0,1,2,9,4,11,3,5] [6,7,8,9,10,11]
 have hj2:j=n.types.length:=by omega
 rw[hj2,aQ,sV]at i4;subst i4;by_cases q0:S.e=0;rotate_left
 ·rw[aC q0];simp[hj,q0];refine gT hb0 ?_;simp;refine⟨by decide,?_⟩;exact fK [0,1,2,9,4,11,3,5] [6,7,8,9,10,11]
 rw[aB (λz=>z q0)];have hbi:=zH6 d.vars ts (by omega);simp only;generalize EG d.vars ts=B at*
 have z3:=vG (ts.map gU.enc) ts.length (by simp);simp[hj,q0];refine fU [17] ?_;simp[iZ,z3];refine gT hbi ?_;by_cases b0:B=0;rotate_left
 ·rw[aC b0];have m:=vM L n B S;generalize lI n.line n.col B S=s2 at*
  simp[b0];refine gP [0,1,2,3,4,5] m ?_;simp;refine gT hb0 ?_;simp;refine⟨by decide,?_⟩;exact fK [0,1,2,9,4,11,3,5] [6,7,8,9,10,11]
 rw[aB (λz=>z b0)];have m:=WU L hL n e.1 hen2 ts (by omega) S i2.tab;generalize tQ L n.line n.col e.1 ts S=r at*
 simp[b0,iZ,z3];refine gP [0,1,2,3,4,5] m ?_;simp;exact fK [0,1,2,9,4,11,18,19] [6,7,8,9,10,11]
end
section
variable (L:iQ)
theorem zIk(v:fF × gU)(t:gU):put ((il v).map AC.d) 1 (t.enc.map AC.d)=(il (v.1,t)).map AC.d:=by
 obtain⟨x,k⟩:=v;cases k;cases t;rfl
theorem zHc{a b:gU}(ha:jK a)(hb:jK b):jK (y9 a b):=by
 unfold y9;split
 ·exact hb
 split
 ·exact ha
 split
 ·exact rU
 split
 ·exact rU
 split
 ·exact F4 _
 ·exact rU
theorem zD1{t:gU}(ht:jK t)(tag:Int):jK (vV t tag).1/\jK (vV t tag).2:=by
 unfold vV;split
 ·exact⟨ht,ht⟩
 split
 ·split
  ·exact⟨ht,ht⟩
  ·rename_i q1 q2 q3;refine⟨?_,ht⟩;by_cases h:tag=4
   ·rw[h];exact Nc
   ·exact vk _ (by omega) (by omega)
 split
 ·exact⟨ht,ht⟩
 split
 ·exact⟨ht,ht⟩
 rename_i q1 q2 q3 q4;have p2:(kH (ko t) tag).2=true:=by simpa using q3
 have k7:t.kind=7:=by simpa using q4
 have h1:jK (kH (ko t) tag).1.t:=(Fb ht q2 (EK p2).1).1;have hm:∀x,x∈(t.kids.filter λk=>decide (iJ k≠tag))->x∈t.kids:=λx hx=>(au.1 hx).1;have hl:(t.kids.filter λk=>decide (iJ k≠tag)).length<=t.kids.length:=bP _ _;have h7:t.kids.length<=6/\∀x,x∈t.kids->1<=x.kind/\x.kind<=6:=by
  rcases((mH t).1 ht).2.2 with⟨_,q,_,_⟩|⟨q,_⟩|⟨q,_,_⟩|⟨_,_,q,r⟩
  ·omega
  ·omega
  ·omega
  ·exact⟨q,r⟩
 generalize (t.kids.filter λk=>decide (iJ k≠tag))=F at*
 split
 ·rename_i r;exact⟨h1,yG ht (hm r (by simp))⟩
 ·exact⟨h1,(mH _).2 ⟨rfl,λx hx=>yG ht (hm x hx),.inr (.inr (.inr ⟨rfl,rfl,by show F.length<=6;omega,λx hx=>h7.2 x (hm x hx)⟩))⟩⟩
theorem sG.set{env:Env}{b:Nat}(h:sG env b)(k:Nat)(x:fF){t:gU}(ht:jK t):sG (env.set k (x,t)) b:=⟨by simpa using h.len,λv hv=>by
 rcases eT hv with hv|hv
 ·exact h.wf v hv
 ·subst hv;exact ht⟩
theorem Wi{env:Env}{b:Nat}(h:sG env b)(q:gq):sG (oZ q env).1 b/\sG (oZ q env).2 b:=by
 unfold oZ;split
 ·have hw:=zD1 (We h (rT env (q.kids.getD 0 qo).text).toNat) q.n;exact⟨h.set _ _ hw.1,h.set _ _ hw.2⟩
 ·exact⟨h,h⟩
theorem Ni(n q a b:gq)(hk:n.kids=[q,a,b])(iq ia ib:Inf)(hq:jk L q iq)(ha:jk L a ia)(hb:jk L b ib):jk L n (xZ q a b iq ia ib):=λenv s k he hs=>by
 have hn:iH n=iH q+(iH a+iH b)+1:=by rw[qR,hk];simp[iT]
 have h1:=hq env s (3+8*iH a+8*iH b+k) (he.less (by omega)) (hs.less (by omega));have hne:=Wi he q;unfold xZ;simp only;generalize iq env s=r1 at*
 have h2:=xg (b:=2+8*iH a+8*iH b+k) (h1.1.less (by omega)) r1.1.1 r1.1.2 (bT 2) q.line q.col;generalize lF r1.1.1 r1.1.2 (bT 2) q.line q.col r1.2=r2 at*
 have h3:=ha (oZ q env).1 r2.2 (2+8*iH b+k) (hne.1.less (by omega)) (h2.less (by omega));generalize ia (oZ q env).1 r2.2=r3 at*
 have h4:=hb (oZ q env).2 r3.2 (2+k) (hne.2.less (by omega)) (h3.1.less (by omega));generalize ib (oZ q env).2 r3.2=r4 at*
 have h5:=xg (b:=1+k) (h4.1.less (by omega)) r3.1.1 r3.1.2 (y9 r3.1.2 r4.1.2) a.line a.col;generalize lF r3.1.1 r3.1.2 (y9 r3.1.2 r4.1.2) a.line a.col r4.2=r5 at*
 exact⟨xg (h5.less (by omega)) _ _ _ _ _,zHc h3.2 h4.2⟩
theorem zD2(n q a b:gq)(hk:n.kids=[q,a,b])(hqk:q.kind=12->∃w,q.kids=[w])(iq ia ib:Inf)(hq:rV L q iq)(ha:rV L a ia)(hb:rV L b ib):jU L 88 n (xZ q a b iq ia ib):=λenv s k he hs=>by
 refine zBJ mD λts hts ok hbk c hN hp=>?_;obtain⟨t,u,v,w,x,y,rfl⟩:=mZ hts;have hn:iH n=iH q+(iH a+iH b)+1:=by rw[qR,hk];simp[iT]
 have hel:=he.len;have hb2:=lH 2;have m1:=hq.1 env s (3+8*iH a+8*iH b+k) (he.less (by omega)) (hs.less (by omega));have h1:=hq.2 env s (3+8*iH a+8*iH b+k) (he.less (by omega)) (hs.less (by omega));have hne:=Wi he q;unfold xZ;simp only;generalize iq env s=r1 at*
 have m2:=yo L r1.1.1 r1.1.2 (bT 2) q r1.2 (by have:=h1.1.sites;omega);have h2:=xg (b:=2+8*iH a+8*iH b+k) (h1.1.less (by omega)) r1.1.1 r1.1.2 (bT 2) q.line q.col;generalize lF r1.1.1 r1.1.2 (bT 2) q.line q.col r1.2=r2 at*
 obtain⟨ea,hea⟩:∃ea,(oZ q env).1=ea:=⟨_,rfl⟩
 obtain⟨eb,heb⟩:∃eb,(oZ q env).2=eb:=⟨_,rfl⟩
 rw[hea,heb]at hne⊢;have m3:=ha.1 ea r2.2 (2+8*iH b+k) (hne.1.less (by omega)) (h2.less (by omega));have h3:=ha.2 ea r2.2 (2+8*iH b+k) (hne.1.less (by omega)) (h2.less (by omega));generalize ia ea r2.2=r3 at*
 have m4:=hb.1 eb r3.2 (2+k) (hne.2.less (by omega)) (h3.1.less (by omega));have h4:=hb.2 eb r3.2 (2+k) (hne.2.less (by omega)) (h3.1.less (by omega));generalize ib eb r3.2=r4 at*
 have hj:=zHL r3.1.2 r4.1.2;generalize y9 r3.1.2 r4.1.2=J at*
 have m5:=yo L r3.1.1 r3.1.2 J a r4.2 (by have:=h4.1.sites;omega);have h5:=xg (b:=1+k) (h4.1.less (by omega)) r3.1.1 r3.1.2 J a.line a.col;generalize lF r3.1.1 r3.1.2 J a.line a.col r4.2=r5 at*
 have m6:=yo L r4.1.1 r4.1.2 J b r5.2 (by have:=h5.sites;omega);generalize lF r4.1.1 r4.1.2 J b.line b.col r5.2=r6 at*
 have zA:=vG (ea.map il) env.length;have zB:=vG (eb.map il) env.length;unfold Vp;simp[hk];refine gP [0,1,2,3,4,5] m1 ?_;simp;refine gT hb2 ?_;simp;refine gP [0,1,2,15,4,16] m2 ?_;simp;refine⟨by decide,by omega,?_⟩;by_cases c12:q.kind=12;rotate_left
 ·have e:oZ q env=(env,env):=by unfold oZ;rw[aB (λz=>c12 z.1)]
  rw[e]at hea heb;simp only at hea heb;subst hea;subst heb;have zA:=zA (by simp);have zB:=zA;simp[c12];refine fU [20,21] ?_;simp[iZ,hk,zA,zB, -map_set];refine gP [0,1,2,19,4,16] m3 ?_;simp[iZ,hk,zA,zB, -map_set];refine gP [0,1,2,22,4,23] m4 ?_;simp[hk];refine gT hj ?_;simp[hk];refine gP [0,1,2,26,4,27] m5 ?_;simp[hk];refine⟨by decide,?_⟩;refine gP [0,1,2,31,4,27] m6 ?_;simp;refine⟨by decide,by decide,?_⟩;exact fK [0,1,2,9,4,11,32,27] [6,7,8,9,10,11]
 obtain⟨w',hw'⟩:=hqk c12;have g0:q.kids.getD 0 qo=w':=by rw[hw'];try rfl
 by_cases c4:w'.kind=4;rotate_left
 ·have e:oZ q env=(env,env):=by unfold oZ;rw[g0,aB (λz=>c4 z.2.1)]
  rw[e]at hea heb;simp only at hea heb;subst hea;subst heb;have zA:=zA (by simp);have zB:=zA;simp[c12,hw',c4];refine fU [20,21] ?_;simp[iZ,hk,zA,zB, -map_set];refine gP [0,1,2,19,4,16] m3 ?_;simp[iZ,hk,zA,zB, -map_set];refine gP [0,1,2,22,4,23] m4 ?_;simp[hk];refine gT hj ?_;simp[hk];refine gP [0,1,2,26,4,27] m5 ?_;simp[hk];refine⟨by decide,?_⟩;refine gP [0,1,2,31,4,27] m6 ?_;simp;refine⟨by decide,by decide,?_⟩;exact fK [0,1,2,9,4,11,32,27] [6,7,8,9,10,11]
 have hfi:=find_ok env (by omega) w'.text;have hfl:=NV env w'.text;have e:oZ q env=if 0<=rT env w'.text then(env.set (rT env w'.text).toNat ((env.getD (rT env w'.text).toNat (bs [],noT)).1,(vV (env.getD (rT env w'.text).toNat (bs [],noT)).2 q.n).1),env.set (rT env w'.text).toNat ((env.getD (rT env w'.text).toNat (bs [],noT)).1,(vV (env.getD (rT env w'.text).toNat (bs [],noT)).2 q.n).2))else(env,env):=by
  unfold oZ;rw[g0];by_cases z:0<=rT env w'.text
  ·rw[aC ⟨c12,c4,z⟩,aC z]
  ·rw[aB (λp=>z p.2.2),aB z]
 generalize rT env w'.text=z at*
 by_cases z0:0<=z;rotate_left
 ·rw[aB z0]at e;rw[e]at hea heb;simp only at hea heb;subst hea;subst heb;have zA:=zA (by simp);have zB:=zA;simp[c12,hw',c4];refine gT hfi ?_;simp[z0];refine fU [20,21] ?_;simp[iZ,hk,zA,zB, -map_set];refine gP [0,1,2,19,4,16] m3 ?_;simp[iZ,hk,zA,zB, -map_set];refine gP [0,1,2,22,4,23] m4 ?_;simp[hk];refine gT hj ?_;simp[hk];refine gP [0,1,2,26,4,27] m5 ?_;simp[hk];refine⟨by decide,?_⟩;refine gP [0,1,2,31,4,27] m6 ?_;simp;refine⟨by decide,by decide,?_⟩;exact fK [0,1,2,9,4,11,32,27] [6,7,8,9,10,11]
 rw[aC z0]at e;obtain⟨zn,hzn⟩:∃zn:Nat,z=zn:=⟨z.toNat,by omega⟩
 have hzl:zn<env.length:=by omega
 obtain⟨v',hv⟩:∃v',env[zn]=v':=⟨_,rfl⟩
 subst hzn;have hv2:env.getD (zn:Int).toNat (bs [],noT)=v':=by simp only[bC];rw[aH,aA hzl,hv];try rfl
 rw[hv2]at e;simp only[bC]at e;have hnr:=zEz v'.2 q.n;generalize vV v'.2 q.n=N at*
 rw[e]at hea heb;simp only at hea heb;subst hea;subst heb;have zA:=zA (by simp);have zB:=zB (by simp);simp[c12,hw',c4];refine gT hfi ?_;simp[z0,hzl,hv];refine gT hnr ?_;simp[hzl,hv];refine⟨by decide,?_⟩;have ps:∀t1:gU,(List.map ((λx=>List.map AC.d x)∘il) env).set zn (put (List.map AC.d (il v')) 1 (List.map AC.d t1.enc))=List.map ((λx=>List.map AC.d x)∘il) (env.set zn (v'.1,t1)):=λt1=>by
  rw[zIk,fE];try rfl
 simp only[ps];refine fU [20,21] ?_;simp[iZ,hk,zA,zB, -map_set];refine gP [0,1,2,19,4,16] m3 ?_;simp[iZ,hk,zA,zB, -map_set];refine gP [0,1,2,24,4,25] m4 ?_;simp[hk];refine gT hj ?_;simp[hk];refine gP [0,1,2,28,4,29] m5 ?_;simp[hk];refine⟨by decide,?_⟩;refine gP [0,1,2,33,4,29] m6 ?_;simp;refine⟨by decide,by decide,?_⟩;exact fK [0,1,2,9,4,11,34,29] [6,7,8,9,10,11]
end
end Go.Gr
namespace Go.Gr
open Go.Abs Go.Proofs
def oo(k:Int)(ts:List gU)(ns:List fF)(ks:List gq):Prop:=
(k=0\/k=1\/k=2\/k=3\/k=18)\/((k=4\/k=19)/\ts.length<=1000000)\/(k=8/\ns.length<=1000000)\/(k=6/\ks.length=1/\1<=ts.length)\/(k=13/\ks.length=1/\1<=ts.length)\/(k=9/\ks.length=1)\/((k=12\/k=15\/k=16\/k=17)/\ks.length=1)\/(k=5/\ks.length=2)\/(k=7/\ks.length=2)\/(k=10/\ks.length=2)\/(k=14/\ks.length=2)\/(k=11/\ks.length=3)
mutual
def oO:gq->Prop
|.mk k _ _ _ _ ts ns ks=>nZ ks/\oo k ts ns ks
def nZ:List gq->Prop
|[]=>True
|n::l=>oO n/\nZ l
end
theorem GD:∀l:List gq,nZ l↔∀x,x∈l->oO x
|[]=>by simp[nZ]
|n::l=>by simp[nZ,GD l]
theorem Wj(n:gq):oO n↔(∀x,x∈n.kids->oO x)/\oo n.kind n.types n.names n.kids:=by
 cases n;rw[oO,GD];try rfl
def kN(j:Inf):Inf:=λenv s=>if s.e≠0 then((noC,noT),s)else j env s
section
variable (L:iQ)
theorem yH{n:gq}{j:Inf}(h:jk L n j):jk L n (kN j):=λenv s k he hs=>by
 unfold kN;split
 ·exact⟨hs.less (by omega),rU⟩
 ·exact h env s k he hs
theorem zEi(n:gq)(K:n.kind=4\/n.kind=19)(j:Inf)(h:jU L 81 n j):jU L 58 n (kN j):=λenv s k he hs=>by
 refine vF mD λts hts ok hbk c hN hp=>?_;obtain⟨t,u,v,w,x,y,rfl⟩:=mZ hts;have hb0:=lH 0;have m:=h env s k he hs;unfold kN;by_cases q0:s.e=0;rotate_left
 ·rw[aC q0];unfold nX;simp[q0];refine gT hb0 ?_;simp;exact fK [0,1,2,9,4,11,3,5] [6,7,8,9,10,11]
 rw[aB (λz=>z q0)];generalize j env s=r at*
 unfold nX;rcases K with K|K
 ·simp[q0,K];refine gP [0,1,2,3,4,5] m ?_;simp;exact fK [0,1,2,9,4,11,14,15] [6,7,8,9,10,11]
 ·simp[q0,K];refine gP [0,1,2,3,4,5] m ?_;simp;exact fK [0,1,2,9,4,11,14,15] [6,7,8,9,10,11]
theorem zHB(n:gq)(K:n.kind=5)(j:Inf)(h:jU L 82 n j):jU L 58 n (kN j):=λenv s k he hs=>by
 refine vF mD λts hts ok hbk c hN hp=>?_;obtain⟨t,u,v,w,x,y,rfl⟩:=mZ hts;have hb0:=lH 0;have m:=h env s k he hs;unfold kN;by_cases q0:s.e=0;rotate_left
 ·rw[aC q0];unfold nX;simp[q0];refine gT hb0 ?_;simp;exact fK [0,1,2,9,4,11,3,5] [6,7,8,9,10,11]
 rw[aB (λz=>z q0)];generalize j env s=r at*
 unfold nX
 skip
 ·simp[q0,K];refine gP [0,1,2,3,4,5] m ?_;simp;exact fK [0,1,2,9,4,11,14,15] [6,7,8,9,10,11]
theorem zIx(n:gq)(K:n.kind=6)(j:Inf)(h:jU L 83 n j):jU L 58 n (kN j):=λenv s k he hs=>by
 refine vF mD λts hts ok hbk c hN hp=>?_;obtain⟨t,u,v,w,x,y,rfl⟩:=mZ hts;have hb0:=lH 0;have m:=h env s k he hs;unfold kN;by_cases q0:s.e=0;rotate_left
 ·rw[aC q0];unfold nX;simp[q0];refine gT hb0 ?_;simp;exact fK [0,1,2,9,4,11,3,5] [6,7,8,9,10,11]
 rw[aB (λz=>z q0)];generalize j env s=r at*
 unfold nX
 skip
 ·simp[q0,K];refine gP [0,1,2,3,4,5] m ?_;simp;exact fK [0,1,2,9,4,11,14,15] [6,7,8,9,10,11]
theorem zFU(n:gq)(K:n.kind=7)(j:Inf)(h:jU L 84 n j):jU L 58 n (kN j):=λenv s k he hs=>by
 refine vF mD λts hts ok hbk c hN hp=>?_;obtain⟨t,u,v,w,x,y,rfl⟩:=mZ hts;have hb0:=lH 0;have m:=h env s k he hs;unfold kN;by_cases q0:s.e=0;rotate_left
 ·rw[aC q0];unfold nX;simp[q0];refine gT hb0 ?_;simp;exact fK [0,1,2,9,4,11,3,5] [6,7,8,9,10,11]
 rw[aB (λz=>z q0)];generalize j env s=r at*
 unfold nX
 skip
 ·simp[q0,K];refine gP [0,1,2,3,4,5] m ?_;simp;exact fK [0,1,2,9,4,11,14,15] [6,7,8,9,10,11]
theorem zDh(n:gq)(K:n.kind=8)(j:Inf)(h:jU L 85 n j):jU L 58 n (kN j):=λenv s k he hs=>by
 refine vF mD λts hts ok hbk c hN hp=>?_;obtain⟨t,u,v,w,x,y,rfl⟩:=mZ hts;have hb0:=lH 0;have m:=h env s k he hs;unfold kN;by_cases q0:s.e=0;rotate_left
 ·rw[aC q0];unfold nX;simp[q0];refine gT hb0 ?_;simp;exact fK [0,1,2,9,4,11,3,5] [6,7,8,9,10,11]
 rw[aB (λz=>z q0)];generalize j env s=r at*
 unfold nX
 skip
 ·simp[q0,K];refine gP [0,1,2,3,4,5] m ?_;simp;exact fK [0,1,2,9,4,11,14,15] [6,7,8,9,10,11]
theorem zHC(n:gq)(K:n.kind=9)(j:Inf)(h:jU L 86 n j):jU L 58 n (kN j):=λenv s k he hs=>by
 refine vF mD λts hts ok hbk c hN hp=>?_;obtain⟨t,u,v,w,x,y,rfl⟩:=mZ hts;have hb0:=lH 0;have m:=h env s k he hs;unfold kN;by_cases q0:s.e=0;rotate_left
 ·rw[aC q0];unfold nX;simp[q0];refine gT hb0 ?_;simp;exact fK [0,1,2,9,4,11,3,5] [6,7,8,9,10,11]
 rw[aB (λz=>z q0)];generalize j env s=r at*
 unfold nX
 skip
 ·simp[q0,K];refine gP [0,1,2,3,4,5] m ?_;simp;exact fK [0,1,2,9,4,11,14,15] [6,7,8,9,10,11]
theorem zEj(n:gq)(K:n.kind=10)(j:Inf)(h:jU L 87 n j):jU L 58 n (kN j):=λenv s k he hs=>by
 refine vF mD λts hts ok hbk c hN hp=>?_;obtain⟨t,u,v,w,x,y,rfl⟩:=mZ hts;have hb0:=lH 0;have m:=h env s k he hs;unfold kN;by_cases q0:s.e=0;rotate_left
 ·rw[aC q0];unfold nX;simp[q0];refine gT hb0 ?_;simp;exact fK [0,1,2,9,4,11,3,5] [6,7,8,9,10,11]
 rw[aB (λz=>z q0)];generalize j env s=r at*
 unfold nX
 skip
 ·simp[q0,K];refine gP [0,1,2,3,4,5] m ?_;simp;exact fK [0,1,2,9,4,11,14,15] [6,7,8,9,10,11]
theorem zDi(n:gq)(K:n.kind=11)(j:Inf)(h:jU L 88 n j):jU L 58 n (kN j):=λenv s k he hs=>by
 refine vF mD λts hts ok hbk c hN hp=>?_;obtain⟨t,u,v,w,x,y,rfl⟩:=mZ hts;have hb0:=lH 0;have m:=h env s k he hs;unfold kN;by_cases q0:s.e=0;rotate_left
 ·rw[aC q0];unfold nX;simp[q0];refine gT hb0 ?_;simp;exact fK [0,1,2,9,4,11,3,5] [6,7,8,9,10,11]
 rw[aB (λz=>z q0)];generalize j env s=r at*
 unfold nX
 skip
 ·simp[q0,K];refine gP [0,1,2,3,4,5] m ?_;simp;exact fK [0,1,2,9,4,11,14,15] [6,7,8,9,10,11]
theorem zIy(n:gq)(K:n.kind=13)(j:Inf)(h:jU L 89 n j):jU L 58 n (kN j):=λenv s k he hs=>by
 refine vF mD λts hts ok hbk c hN hp=>?_;obtain⟨t,u,v,w,x,y,rfl⟩:=mZ hts;have hb0:=lH 0;have m:=h env s k he hs;unfold kN;by_cases q0:s.e=0;rotate_left
 ·rw[aC q0];unfold nX;simp[q0];refine gT hb0 ?_;simp;exact fK [0,1,2,9,4,11,3,5] [6,7,8,9,10,11]
 rw[aB (λz=>z q0)];generalize j env s=r at*
 unfold nX
 skip
 ·simp[q0,K];refine gP [0,1,2,3,4,5] m ?_;simp;exact fK [0,1,2,9,4,11,14,15] [6,7,8,9,10,11]
theorem zIz(n:gq)(K:n.kind=14)(j:Inf)(h:jU L 90 n j):jU L 58 n (kN j):=λenv s k he hs=>by
 refine vF mD λts hts ok hbk c hN hp=>?_;obtain⟨t,u,v,w,x,y,rfl⟩:=mZ hts;have hb0:=lH 0;have m:=h env s k he hs;unfold kN;by_cases q0:s.e=0;rotate_left
 ·rw[aC q0];unfold nX;simp[q0];refine gT hb0 ?_;simp;exact fK [0,1,2,9,4,11,3,5] [6,7,8,9,10,11]
 rw[aB (λz=>z q0)];generalize j env s=r at*
 unfold nX
 skip
 ·simp[q0,K];refine gP [0,1,2,3,4,5] m ?_;simp;exact fK [0,1,2,9,4,11,14,15] [6,7,8,9,10,11]
theorem zHD(n:gq)(K:n.kind=12\/n.kind=15\/n.kind=16\/n.kind=17)(j:Inf)(h:jU L 91 n j):jU L 58 n (kN j):=λenv s k he hs=>by
 refine vF mD λts hts ok hbk c hN hp=>?_;obtain⟨t,u,v,w,x,y,rfl⟩:=mZ hts;have hb0:=lH 0;have m:=h env s k he hs;unfold kN;by_cases q0:s.e=0;rotate_left
 ·rw[aC q0];unfold nX;simp[q0];refine gT hb0 ?_;simp;exact fK [0,1,2,9,4,11,3,5] [6,7,8,9,10,11]
 rw[aB (λz=>z q0)];generalize j env s=r at*
 unfold nX;rcases K with K|K|K|K
 ·simp[q0,K];refine gP [0,1,2,3,4,5] m ?_;simp;exact fK [0,1,2,9,4,11,14,15] [6,7,8,9,10,11]
 ·simp[q0,K];refine gP [0,1,2,3,4,5] m ?_;simp;exact fK [0,1,2,9,4,11,14,15] [6,7,8,9,10,11]
 ·simp[q0,K];refine gP [0,1,2,3,4,5] m ?_;simp;exact fK [0,1,2,9,4,11,14,15] [6,7,8,9,10,11]
 ·simp[q0,K];refine gP [0,1,2,3,4,5] m ?_;simp;exact fK [0,1,2,9,4,11,14,15] [6,7,8,9,10,11]
theorem zHE(n:gq)(K:n.kind=0):jU L 58 n (kN λenv s=>((cN 0 n.n,bT 3),s)):=λenv s k he hs=>by
 refine vF mD λts hts ok hbk c hN hp=>?_;obtain⟨t,u,v,w,x,y,rfl⟩:=mZ hts;have hb0:=lH 0;have hbK:=lH 3;unfold kN;by_cases q0:s.e=0;rotate_left
 ·rw[aC q0];unfold nX;simp[q0];refine gT hb0 ?_;simp;exact fK [0,1,2,9,4,11,3,5] [6,7,8,9,10,11]
 rw[aB (λz=>z q0)];unfold nX;simp[q0,K];refine gT hbK ?_;simp;refine⟨by decide,?_⟩;exact fK [0,1,2,9,4,11,3,5] [6,7,8,9,10,11]
theorem zHF(n:gq)(K:n.kind=1):jU L 58 n (kN λenv s=>((cT 1 n.text [],bT 4),s)):=λenv s k he hs=>by
 refine vF mD λts hts ok hbk c hN hp=>?_;obtain⟨t,u,v,w,x,y,rfl⟩:=mZ hts;have hb0:=lH 0;have hbK:=lH 4;unfold kN;by_cases q0:s.e=0;rotate_left
 ·rw[aC q0];unfold nX;simp[q0];refine gT hb0 ?_;simp;exact fK [0,1,2,9,4,11,3,5] [6,7,8,9,10,11]
 rw[aB (λz=>z q0)];unfold nX;simp[q0,K];refine gT hbK ?_;simp;refine⟨by decide,?_⟩;exact fK [0,1,2,9,4,11,3,5] [6,7,8,9,10,11]
theorem zFV(n:gq)(K:n.kind=2):jU L 58 n (kN λenv s=>((cN 2 n.n,bT 2),s)):=λenv s k he hs=>by
 refine vF mD λts hts ok hbk c hN hp=>?_;obtain⟨t,u,v,w,x,y,rfl⟩:=mZ hts;have hb0:=lH 0;have hbK:=lH 2;unfold kN;by_cases q0:s.e=0;rotate_left
 ·rw[aC q0];unfold nX;simp[q0];refine gT hb0 ?_;simp;exact fK [0,1,2,9,4,11,3,5] [6,7,8,9,10,11]
 rw[aB (λz=>z q0)];unfold nX;simp[q0,K];refine gT hbK ?_;simp;refine⟨by decide,?_⟩;exact fK [0,1,2,9,4,11,3,5] [6,7,8,9,10,11]
theorem zHG(n:gq)(K:n.kind=3):jU L 58 n (kN λenv s=>((cN 3 0,bT 1),s)):=λenv s k he hs=>by
 refine vF mD λts hts ok hbk c hN hp=>?_;obtain⟨t,u,v,w,x,y,rfl⟩:=mZ hts;have hb0:=lH 0;have hbK:=lH 1;unfold kN;by_cases q0:s.e=0;rotate_left
 ·rw[aC q0];unfold nX;simp[q0];refine gT hb0 ?_;simp;exact fK [0,1,2,9,4,11,3,5] [6,7,8,9,10,11]
 rw[aB (λz=>z q0)];unfold nX;simp[q0,K];refine gT hbK ?_;simp;exact fK [0,1,2,9,4,11,3,5] [6,7,8,9,10,11]
theorem zFW(n:gq)(K:n.kind=18):jU L 58 n (kN λenv s=>((cN 20 0,bT 3),s)):=λenv s k he hs=>by
 refine vF mD λts hts ok hbk c hN hp=>?_;obtain⟨t,u,v,w,x,y,rfl⟩:=mZ hts;have hb0:=lH 0;have hbK:=lH 3;unfold kN;by_cases q0:s.e=0;rotate_left
 ·rw[aC q0];unfold nX;simp[q0];refine gT hb0 ?_;simp;exact fK [0,1,2,9,4,11,3,5] [6,7,8,9,10,11]
 rw[aB (λz=>z q0)];unfold nX;simp[q0,K];refine gT hbK ?_;simp;exact fK [0,1,2,9,4,11,3,5] [6,7,8,9,10,11]
theorem GG{n:gq}{c:Env->CS->gy}{b:Int}(h0:0<=b)(h4:b<=4):jk L n (kN λenv s=>((c env s,bT b),s)):=yH L λenv s k he hs=>⟨hs.less (by omega),vk b h0 h4⟩
theorem GH{l:List gq}(h:l.length=1):∃a,l=[a]:=by
 match l,h with
 |[a],_=>exact⟨a,rfl⟩
theorem JD{l:List gq}(h:l.length=2):∃a b,l=[a,b]:=by
 match l,h with
 |[a,b],_=>exact⟨a,b,rfl⟩
theorem zBW{l:List gq}(h:l.length=3):∃a b c,l=[a,b,c]:=by
 match l,h with
 |[a,b,c],_=>exact⟨a,b,c,rfl⟩
def pg(n:gq)(rest:Inf):Inf:=λenv s=>
 if n.kind=0 then((cN 0 n.n,bT 3),s)
 else if n.kind=1 then((cT 1 n.text [],bT 4),s)
 else if n.kind=2 then((cN 2 n.n,bT 2),s)
 else if n.kind=3 then((cN 3 0,bT 1),s)
 else if n.kind=18 then((cN 20 0,bT 3),s)
 else if n.kind=4\/n.kind=19 then xV L n env s
 else if n.kind=8 then qO n (oL L n.kids) env s
 else rest env s
def Bi(n a:gq):Inf:=λenv s=>
 if n.kind=6 then xW n a (iy L a) env s
 else if n.kind=9 then p8 n (iy L a) env s
 else if n.kind=13 then x8 n (iy L a) env s
 else p9 n a (iy L a) env s
def Bj(n a b:gq):Inf:=λenv s=>
 if n.kind=5 then pY n a (iy L a) (iy L b) env s
 else if n.kind=7 then xX n b (iy L a) (iy L b) env s
 else if n.kind=10 then xY n (iy L a) (iy L b) env s
 else opC n a b (iy L a) (iy L b) env s
theorem JE(k:Int)(tx:fF)(nn ln cl:Int)(ts:List gU)(ns:List fF):iy L (.mk k tx nn ln cl ts ns [])=kN (pg L (.mk k tx nn ln cl ts ns []) λenv s=>((noC,noT),s)):=by with_unfolding_all rfl
theorem Bl(k:Int)(tx:fF)(nn ln cl:Int)(ts:List gU)(ns:List fF)(a:gq):iy L (.mk k tx nn ln cl ts ns [a])=kN (pg L (.mk k tx nn ln cl ts ns [a]) (Bi L (.mk k tx nn ln cl ts ns [a]) a)):=by with_unfolding_all rfl
theorem Bn(k:Int)(tx:fF)(nn ln cl:Int)(ts:List gU)(ns:List fF)(a b:gq):iy L (.mk k tx nn ln cl ts ns [a,b])=kN (pg L (.mk k tx nn ln cl ts ns [a,b]) (Bj L (.mk k tx nn ln cl ts ns [a,b]) a b)):=by with_unfolding_all rfl
theorem GI(k:Int)(tx:fF)(nn ln cl:Int)(ts:List gU)(ns:List fF)(a b c:gq)(l:List gq):iy L (.mk k tx nn ln cl ts ns (a::b::c::l))=kN (pg L (.mk k tx nn ln cl ts ns (a::b::c::l)) (xZ a b c (iy L a) (iy L b) (iy L c))):=by with_unfolding_all rfl
theorem DK(n:gq)(j:Inf)(h:∀rest,pg L n rest=j):iy L n=kN j:=by
 obtain⟨k,tx,nn,ln,cl,ts,ns,ks⟩:=n
 match ks,h with
 |[],h=>rw[JE,h]
 |[a],h=>rw[Bl,h]
 |[a,b],h=>rw[Bn,h]
 |a::b::c::l,h=>rw[GI,h]
theorem zEk(hL:oH L)(n:gq)(hw:oO n)(ih:∀x,x∈n.kids->rV L x (iy L x)):rV L n (iy L n):=by
 obtain⟨hws,hs⟩:=(Wj n).1 hw;obtain⟨k,tx,nn,ln,cl,ts,ns,ks⟩:=n;simp only[gq.kind,gq.kids,gq.types,gq.names]at hws hs ih;have go:∀j:Inf,iy L (.mk k tx nn ln cl ts ns ks)=kN j->jU L 58 (.mk k tx nn ln cl ts ns ks) (kN j)->jk L (.mk k tx nn ln cl ts ns ks) (kN j)->rV L (.mk k tx nn ln cl ts ns ks) (iy L (.mk k tx nn ln cl ts ns ks)):=λj e m p=>by rw[e];exact⟨m,p⟩
 rcases hs with(K|K|K|K|K)|⟨K,t1⟩|⟨K,t1⟩|⟨K,l1,t1⟩|⟨K,l1,t1⟩|⟨K,l1⟩|⟨K,l1⟩|⟨K,l1⟩|⟨K,l1⟩|⟨K,l1⟩|⟨K,l1⟩|⟨K,l1⟩
 ·exact go _ (DK L _ _ λrest=>by funext env s;simp[pg,gq.kind,gq.n,gq.text,K]) (zHE L _ (by exact K)) (GG L (by omega) (by omega))
 ·exact go _ (DK L _ _ λrest=>by funext env s;simp[pg,gq.kind,gq.n,gq.text,K]) (zHF L _ (by exact K)) (GG L (by omega) (by omega))
 ·exact go _ (DK L _ _ λrest=>by funext env s;simp[pg,gq.kind,gq.n,gq.text,K]) (zFV L _ (by exact K)) (GG L (by omega) (by omega))
 ·exact go _ (DK L _ _ λrest=>by funext env s;simp[pg,gq.kind,gq.n,gq.text,K]) (zHG L _ (by exact K)) (GG L (by omega) (by omega))
 ·exact go _ (DK L _ _ λrest=>by funext env s;simp[pg,gq.kind,gq.n,gq.text,K]) (zFW L _ (by exact K)) (GG L (by omega) (by omega))
 ·exact go (xV L (.mk k tx nn ln cl ts ns ks)) (DK L _ _ λrest=>by funext env s;rcases K with K|K<;>simp[pg,gq.kind,K]) (zEi L _ (by exact K) _ (zE8 L hL _ (by exact t1))) (yH L (zH3 L hL _ (by exact t1)))
 ·exact go (qO (.mk k tx nn ln cl ts ns ks) (oL L ks)) (DK L _ _ λrest=>by funext env s;simp[pg,gq.kind,gq.kids,K]) (zDh L _ (by exact K) _ (zDV L _ (by exact t1) (by exact ih))) (yH L (zJC L _ λx hx=>(ih x hx).2))
 ·obtain⟨a,rfl⟩:=GH l1;have ia:=ih a (by simp);exact go (xW (.mk k tx nn ln cl ts ns [a]) a (iy L a)) (by rw[Bl];funext env s;simp[kN,pg,Bi,gq.kind,K]) (zIx L _ (by exact K) _ (zI3 L _ a rfl (by exact t1) _ ia)) (yH L (NZ L _ a rfl _ ia.2))
 ·obtain⟨a,rfl⟩:=GH l1;have ia:=ih a (by simp);exact go (x8 (.mk k tx nn ln cl ts ns [a]) (iy L a)) (by rw[Bl];funext env s;simp[kN,pg,Bi,gq.kind,K]) (zIy L _ (by exact K) _ (zIN L _ a rfl (by exact t1) _ ia)) (yH L (N8 L _ a rfl _ ia.2))
 ·obtain⟨a,rfl⟩:=GH l1;have ia:=ih a (by simp);exact go (p8 (.mk k tx nn ln cl ts ns [a]) (iy L a)) (by rw[Bl];funext env s;simp[kN,pg,Bi,gq.kind,K]) (zHC L _ (by exact K) _ (zIh L _ a rfl _ ia)) (yH L (zJJ L _ a rfl _ ia.2))
 ·obtain⟨a,rfl⟩:=GH l1;have ia:=ih a (by simp);exact go (p9 (.mk k tx nn ln cl ts ns [a]) a (iy L a)) (by rw[Bl];funext env s;rcases K with K|K|K|K<;>simp[kN,pg,Bi,gq.kind,K]) (zHD L _ (by exact K) _ (zH2 L _ a rfl _ ia)) (yH L (zJw L _ a rfl _ ia.2))
 ·obtain⟨a,b,rfl⟩:=JD l1;have ia:=ih a (by simp);have ib:=ih b (by simp);exact go (pY (.mk k tx nn ln cl ts ns [a,b]) a (iy L a) (iy L b)) (by rw[Bn];funext env s;simp[kN,pg,Bj,gq.kind,K]) (zHB L _ (by exact K) _ (zId L _ a b rfl _ _ ia ib)) (yH L (zJH L _ a b rfl _ _ ia.2 ib.2))
 ·obtain⟨a,b,rfl⟩:=JD l1;have ia:=ih a (by simp);have ib:=ih b (by simp);exact go (xX (.mk k tx nn ln cl ts ns [a,b]) b (iy L a) (iy L b)) (by rw[Bn];funext env s;simp[kN,pg,Bj,gq.kind,K]) (zFU L _ (by exact K) _ (zG8 L _ a b rfl _ _ ia ib)) (yH L (zI5 L _ a b rfl _ _ ia.2 ib.2))
 ·obtain⟨a,b,rfl⟩:=JD l1;have ia:=ih a (by simp);have ib:=ih b (by simp);exact go (xY (.mk k tx nn ln cl ts ns [a,b]) (iy L a) (iy L b)) (by rw[Bn];funext env s;simp[kN,pg,Bj,gq.kind,K]) (zEj L _ (by exact K) _ (zFA L _ a b rfl _ _ ia ib)) (yH L (zI8 L _ a b rfl _ _ ia.2 ib.2))
 ·obtain⟨a,b,rfl⟩:=JD l1;have ia:=ih a (by simp);have ib:=ih b (by simp);exact go (opC (.mk k tx nn ln cl ts ns [a,b]) a b (iy L a) (iy L b)) (by rw[Bn];funext env s;simp[kN,pg,Bj,gq.kind,K]) (zIz L _ (by exact K) _ (zIB L _ a b rfl _ _ ia ib)) (yH L (N9 L _ a b rfl _ _ ia.2 ib.2))
 ·obtain⟨q,a,b,rfl⟩:=zBW l1;have iq:=ih q (by simp);have ia:=ih a (by simp);have ib:=ih b (by simp);have hq:q.kind=12->∃w,q.kids=[w]:=λk12=>by
   have:=((Wj q).1 (hws q (by simp))).2;unfold oo at this;rw[k12]at this;exact GH (by omega)
  exact go (xZ q a b (iy L q) (iy L a) (iy L b)) (by rw[GI];funext env s;simp[kN,pg,gq.kind,K]) (zDi L _ (by exact K) _ (zD2 L _ q a b rfl hq _ _ _ iq ia ib)) (yH L (Ni L _ q a b rfl _ _ _ iq.2 ia.2 ib.2))
mutual
theorem Nj(hL:oH L):∀n:gq,oO n->rV L n (iy L n)
|.mk k tx nn ln cl ts ns ks,hw=>zEk L hL _ hw (Wl hL ks (by rw[oO]at hw;exact hw.1))
theorem Wl(hL:oH L):∀l:List gq,nZ l->∀x,x∈l->rV L x (iy L x)
|[],_,x,hx=>by cases hx
|n::l,hw,x,hx=>by
 rw[nZ]at hw;rcases aN.1 hx with e|hx
 ·rw[e];exact Nj hL n hw.1
 ·exact Wl hL l hw.2 x hx
end
end
end Go.Gr
namespace Go.Gr
open Go.Abs Go.Proofs List
theorem Nk:∀l m:List gq,iT (l++m)=iT l+iT m
|[],m=>by simp[iT]
|n::l,m=>by rw[cons_append,iT,iT,Nk l m];omega
theorem zHm{l m:List gq}(h:nZ l)(k:nZ m):nZ (l++m):=(GD _).2 λx hx=>by
 rcases aK.1 hx with hx|hx
 ·exact(GD _).1 h x hx
 ·exact(GD _).1 k x hx
section
variable {L:List Tok}
theorem uj(p:PS)(k:Int)(t:fF)(n:Int)(ts:List gU)(ns:List fF)(ks:List gq):iH (kY L p k t n ts ns ks)=iT ks+1:=by unfold kY;rw[iH]
theorem uk(p:PS)(k:Int)(t:fF)(n:Int)(ts:List gU)(ns:List fF)(ks:List gq)(h:nZ ks)(s:oo k ts ns ks):oO (kY L p k t n ts ns ks):=by unfold kY;rw[oO];exact⟨h,s⟩
theorem Ar{a:gq}(h:oO a):nZ [a]:=⟨h,trivial⟩
theorem GJ{a b:gq}(h:oO a)(k:oO b):nZ [a,b]:=⟨h,k,trivial⟩
theorem ks3{a b c:gq}(h:oO a)(k:oO b)(l:oO c):nZ [a,b,c]:=⟨h,k,l,trivial⟩
theorem z1(a:gq):iT [a]=iH a:=by simp[iT]
theorem z2(a b:gq):iT [a,b]=iH a+iH b:=by simp[iT]
theorem z3(a b c:gq):iT [a,b,c]=iH a+iH b+iH c:=by simp[iT];omega
def kW(L:List Tok)(f:PS->gq × PS):Prop:=∀p,p.at'<L.length->oO (f p).1/\iH (f p).1+3*p.at'<=3*(f p).2.at'+1
theorem Wm{ki:PS->gU × PS}(p:PS):(qF L ki p).1.length<=1:=by
 unfold qF;split<;>simp
theorem Wn{ki:PS->gU × PS}(p:PS):1<=(rf L ki p).1.2.length/\(rf L ki p).1.2.length<=2:=by
 unfold rf;simp only;have a:=Wm (L:=L) (ki:=ki) (jI L (jQ L (bs [40]) p)).2;have b:=Wm (L:=L) (ki:=ki) (jQ L (bs [41]) (qF L ki (jI L (jQ L (bs [40]) p)).2).2);rw[aT];split
 ·simp only[length_cons,length_nil];omega
 ·omega
theorem Nl:oO qo:=⟨trivial,.inl (.inl rfl)⟩
theorem zFP(hL:jJ L){ki:PS->gU × PS}{ex rk:PS->gq × PS}(hk:iA L ki)(he:iA L ex)(ne:kW L ex)(nr:kW L rk):kW L (zN L ki ex rk):=λp hp=>by
 unfold zN;split
 ·rename_i c;have h1:=ig hL hp (s:=tH);have h2:=h1.trans (mE hL h1.lt);have h3:=h2.trans (zQ hL hk _ h2.lt);have h4:=(mE hL h1.lt).trans ((zQ hL hk _ h2.lt).trans (jE hL h3.lt (s:=bs [61])));have n5:=ne _ h4.lt;have h5:=he _ h4.lt;have h6:=jE hL h5.lt (s:=bs [59]);have n7:=ne _ h6.lt;have t:=(take_at c).1;refine⟨uk _ _ _ _ _ _ _ (GJ n5.1 n7.1) (by simp[oo]),?_⟩;rw[uj,z2];have:=h4.le;have:=h6.le;simp only at*
  omega
 split
 ·rename_i c;have h1:=ig hL hp (s:=AX);have n2:=ne _ h1.lt;have h2:=he _ h1.lt;have h3:=jE hL h2.lt (s:=Cf);have n4:=ne _ h3.lt;have h4:=he _ h3.lt;have h5:=jE hL h4.lt (s:=Cg);have n6:=ne _ h5.lt;have t:=(take_at c).1;refine⟨uk _ _ _ _ _ _ _ (ks3 n2.1 n4.1 n6.1) (by simp[oo]),?_⟩;rw[uj,z3];have:=h3.le;have:=h5.le;simp only at*
  omega
 split
 ·rename_i c;have h1:=ig hL hp (s:=uF);have h2:=BZ hL hk _ h1.lt;have h3:=h2.trans (jE hL h2.lt (s:=bs [61,62]));have n4:=ne _ h3.lt;have t:=(take_at c).1;have hh:=(Wn (L:=L) (ki:=ki) (iC L uF p).2).1;refine⟨uk _ _ _ _ _ _ _ (Ar n4.1) (by simp[oo];simpa using hh),?_⟩;rw[uj,z1];have:=h3.le;simp only at*
  omega
 ·exact nr p hp
theorem Wo(hL:jJ L){rk:PS->gq × PS}(hr:iA L rk)(nr:kW L rk)(signs:List fF):∀(n:Nat) (a:gq) (p:PS),p.at'<L.length->oO a->oO (kZ L rk signs n a p).1/\iH (kZ L rk signs n a p).1+3*p.at'<=3*(kZ L rk signs n a p).2.at'+iH a
|0,a,p,hp,ha=>by rw[kZ];exact⟨ha,by show iH a+3*p.at'<=3*p.at'+iH a;omega⟩
| n+1,a,p,hp,ha=>by
 rw[kZ];split
 ·exact⟨ha,by show iH a+3*p.at'<=3*p.at'+iH a;omega⟩
 ·rename_i s q h;have h1:=Cs hL _ hp h;have h2:=hr _ h1.1.lt;have n2:=nr _ h1.1.lt;have r:=Wo hL hr nr signs n (kY L p 14 s 0 [] [] [a,(rk q).1]) (rk q).2 h2.lt (uk _ _ _ _ _ _ _ (GJ ha n2.1) (by simp[oo]));rw[uj,z2]at r;refine⟨r.1,?_⟩;have:=h1.2.1;omega
theorem zHn(hL:jJ L){ki:PS->gU × PS}{rk:PS->gq × PS}(hk:iA L ki)(hr:iA L rk)(nr:kW L rk):kW L (ru L ki rk):=λp hp=>by
 have h1:=hr p hp;have n1:=nr p hp;unfold ru;simp only;split
 ·rename_i s q h;have h2:=Cs hL _ h1.lt h;have n3:=nr _ h2.1.lt;refine⟨uk _ _ _ _ _ _ _ (GJ n1.1 n3.1) (by simp[oo]),?_⟩;rw[uj,z2];have:=h2.2.1;simp only at*
  omega
 split
 ·rename_i c;have t:=(take_at c).1;have h2:=ig hL h1.lt (s:=bs [97,115]);have h3:=hk _ h2.lt;refine⟨uk _ _ _ _ _ _ _ (Ar n1.1) (by simp[oo]),?_⟩;rw[uj,z1];have:=h3.le;simp only at*
  omega
 split
 ·rename_i c;have t:=(take_at c).1;have h2:=ig hL h1.lt (s:=bs [105,115]);split
  ·rename_i i q h;have h3:=FF hL _ _ h2.lt h;refine⟨uk _ _ _ _ _ _ _ (Ar n1.1) (by simp[oo]),?_⟩;rw[uj,z1];have:=h3.2.1;simp only at*
   omega
  ·have h3:=Dz (L:=L) (e:=7) h2.lt;refine⟨uk _ _ _ _ _ _ _ (Ar n1.1) (by simp[oo]),?_⟩;rw[uj,z1];have:=h3.le;simp only at*
   omega
 ·exact n1
theorem zFQ(hL:jJ L){ki:PS->gU × PS}{un:PS->gq × PS}(hk:iA L ki)(hu:iA L un)(nu:kW L un):kW L (FC L ki un):=by
 obtain⟨t5,t4,t3,t2,t1,t0⟩:=FI hL hk hu;have op:∀(f:PS->gq × PS) (signs:List fF),iA L f->kW L f->kW L (λp=>kZ L f signs (L.length+1) (f p).1 (f p).2):=λf signs tf nf p hp=>by
  have a:=nf p hp;have r:=Wo hL tf nf signs (L.length+1) (f p).1 (f p).2 (tf p hp).lt a.1;exact⟨r.1,by simp only;omega⟩
 have n5:kW L (Ch L un):=op un (rq 5) hu nu;have n4:kW L (Ci L un):=op _ (rq 4) t5 n5;have n3:kW L (FB L un):=op _ (rq 3) t4 n4;have n2:kW L (Cj L ki un):=zHn hL hk t3 n3;have n1:kW L (Ck L ki un):=op _ (rq 1) t2 n2;exact op _ (rq 0) t1 n1
theorem Wp{ki:PS->gU × PS}:∀(n:Nat) (l:List gU) (p:PS),(wX L ki n l p).1.length<=l.length+n
|0,l,p=>by rw[wX];exact aP _
| n+1,l,p=>by
 rw[wX];split
 ·have:=Wp (ki:=ki) n (l++[(ki p).1]) (iC L (bs [44]) (ki p).2).2;rw[aT]at this;simp only[length_cons,length_nil]at this;omega
 ·simp only[aT,length_cons,length_nil];omega
theorem Wq(hL:jJ L){ex:PS->gq × PS}(he:iA L ex)(ne:kW L ex):∀(n:Nat) (ns:List fF) (ks:List gq) (p:PS),p.at'<L.length->nZ ks->nZ (uU L ex n ns ks p).1.2/\iT (uU L ex n ns ks p).1.2+3*p.at'<=3*(uU L ex n ns ks p).2.at'+iT ks+1/\(uU L ex n ns ks p).1.1.length<=ns.length+n
|0,ns,ks,p,hp,hk=>by rw[uU];exact⟨hk,by simp only;omega,by simp⟩
| n+1,ns,ks,p,hp,hk=>by
 have h1:=mE hL hp;have h2:=h1.trans (jE hL h1.lt (s:=bs [58]));have h3:=he _ h2.lt;have n3:=ne _ h2.lt;have h4:=ig hL h3.lt (s:=bs [44]);have e2:=h2.le;have w:=zHm hk (Ar n3.1);rw[uU];split
 ·rename_i c;have t:=(take_at c).1;have r:=Wq hL he ne n (ns++[(jI L p).1]) (ks++[(ex (jQ L (bs [58]) (jI L p).2)).1]) _ h4.lt w;rw[Nk,z1,aT]at r;simp only[length_cons,length_nil]at r;refine⟨r.1,?_,by omega⟩;omega
 ·refine⟨w,?_,by simp only[aT,length_cons,length_nil];omega⟩;rw[Nk,z1];have:=h4.le;have:=n3.2;try simp only at*
  omega
theorem zCs(hL:jJ L)(hl:L.length<=10000){ex:PS->gq × PS}(he:iA L ex)(ne:kW L ex)(q p:PS)(hp:p.at'<L.length):oO (vT L ex q p).1/\iH (vT L ex q p).1+3*p.at'<=3*(vT L ex q p).2.at'+4:=by
 unfold vT;split
 ·have h1:=ig hL hp (s:=bs [125]);refine⟨uk _ _ _ _ _ _ _ trivial (by simp[oo]),?_⟩;rw[uj];have:=h1.le;simp only[iT];omega
 split
 ·have h1:=he p hp;have n1:=ne p hp;have h2:=jE hL h1.lt (s:=Cm);have h3:=h2.trans (mE hL h2.lt);have h4:=h3.trans (jE hL h3.lt (s:=bs [58]));have h5:=he _ h4.lt;have n5:=ne _ h4.lt;have h6:=jE hL h5.lt (s:=bs [125]);refine⟨uk _ _ _ _ _ _ _ (GJ n1.1 n5.1) (by simp[oo]),?_⟩;rw[uj,z2];have:=h4.le;have:=h6.le;simp only at*
  omega
 ·have h1:=FJ hL he (L.length+1) [] [] p hp;have n1:=Wq hL he ne (L.length+1) [] [] p hp trivial;have h2:=jE hL h1.lt (s:=bs [125]);have e0:iT []=0:=rfl;rw[e0]at n1;refine⟨uk _ _ _ _ _ _ _ n1.1 (by have:=n1.2.2;simp only[length_nil]at this;simp[oo];omega),?_⟩;rw[uj];have:=h2.le;have:=n1.2.1;simp only at*
  omega
theorem Bo{p q:PS}{k:Int}{t:fF}{n:Int}{ts:List gU}{ns:List fF}(hs:oo k ts ns [])(h:p.at'<=q.at'):oO (kY L p k t n ts ns [])/\iH (kY L p k t n ts ns [])+3*p.at'<=3*q.at'+1:=by
 refine⟨uk _ _ _ _ _ _ _ trivial hs,?_⟩;rw[uj];simp only[iT];omega
theorem zFR(hL:jJ L)(hl:L.length<=10000){ki:PS->gU × PS}{ex:PS->gq × PS}(hk:iA L ki)(he:iA L ex)(ne:kW L ex):kW L (xO L ki ex):=λp hp=>by
 unfold xO;by_cases c1:p.e=0/\(iI L p).kind=3
 ·rw[aC c1];exact Bo (by simp[oo]) (by simp only;omega)
 rw[aB c1];by_cases c2:p.e=0/\(iI L p).kind=4
 ·rw[aC c2];exact Bo (by simp[oo]) (by simp only;omega)
 rw[aB c2];by_cases c3:(iC L Cn p).1=true
 ·rw[aC c3];exact Bo (by simp[oo]) (ig hL hp).le
 rw[aB c3];by_cases c4:(iC L Co p).1=true
 ·rw[aC c4];exact Bo (by simp[oo]) (ig hL hp).le
 rw[aB c4];by_cases c5:(iC L Cq p).1=true
 ·rw[aC c5];exact Bo (by simp[oo]) (ig hL hp).le
 rw[aB c5];by_cases c6:(iC L yU p).1=true
 ·rw[aC c6];have h1:=ig hL hp (s:=yU);have h2:=h1.trans (jE hL h1.lt (s:=bs [40]));exact Bo (by simp[oo]) (h2.trans (jE hL h2.lt)).le
 rw[aB c6];by_cases c7:(iC L yB p).1=true
 ·rw[aC c7];have h1:=ig hL hp (s:=yB);have h2:=jE hL h1.lt (s:=bs [40]);have h3:=he _ h2.lt;have n3:=ne _ h2.lt;have h4:=jE hL h3.lt (s:=bs [41]);have t:=(take_at c7).1;refine⟨uk _ _ _ _ _ _ _ (Ar n3.1) (by simp[oo]),?_⟩;rw[uj,z1];have:=h2.le;have:=h4.le;simp only at*
  omega
 rw[aB c7];by_cases c8:(iC L (bs [40]) p).1=true
 ·rw[aC c8];have h1:=ig hL hp (s:=bs [40]);have h2:=he _ h1.lt;have n2:=ne _ h1.lt;have h3:=jE hL h2.lt (s:=bs [41]);have t:=(take_at c8).1;refine⟨n2.1,?_⟩;have:=n2.2;have:=h3.le;show iH (ex (iC L (bs [40]) p).2).1+3*p.at'<=3*(jQ L (bs [41]) (ex (iC L (bs [40]) p).2).2).at'+1;omega
 rw[aB c8];by_cases c9:(iC L (bs [123]) p).1=true
 ·rw[aC c9];have h1:=ig hL hp (s:=bs [123]);have r:=zCs hL hl he ne p _ h1.lt;have t:=(take_at c9).1;exact⟨r.1,by omega⟩
 rw[aB c9];have h1:=mE hL hp;by_cases c10:(iC L (bs [91]) (jI L p).2).1=true
 ·have h2:=h1.trans (ig hL h1.lt (s:=bs [91]));have h3:=h2.trans (Lj hL hk (L.length+1) [] _ h2.lt);have tl:=Wp (L:=L) (ki:=ki) (L.length+1) [] (iC L (bs [91]) (jI L p).2).2;show oO (if(iC L (bs [91]) (jI L p).2).1=true then _ else _:gq × PS).1/\iH (if(iC L (bs [91]) (jI L p).2).1=true then _ else _:gq × PS).1+3*p.at'<=3*(if(iC L (bs [91]) (jI L p).2).1=true then _ else _:gq × PS).2.at'+1;rw[aC c10];exact Bo (by simp only[length_nil]at tl;simp[oo];omega) h3.le
 ·show oO (if(iC L (bs [91]) (jI L p).2).1=true then _ else _:gq × PS).1/\iH (if(iC L (bs [91]) (jI L p).2).1=true then _ else _:gq × PS).1+3*p.at'<=3*(if(iC L (bs [91]) (jI L p).2).1=true then _ else _:gq × PS).2.at'+1;rw[aB c10];exact Bo (by simp[oo]) h1.le
theorem Nn(hL:jJ L){ex:PS->gq × PS}(he:iA L ex)(ne:kW L ex):∀(n:Nat) (a:gq) (p:PS),p.at'<L.length->oO a->oO (tJ L ex n a p).1/\iH (tJ L ex n a p).1+3*p.at'<=3*(tJ L ex n a p).2.at'+iH a
|0,a,p,hp,ha=>by rw[tJ];exact⟨ha,by show iH a+3*p.at'<=3*p.at'+iH a;omega⟩
| n+1,a,p,hp,ha=>by
 rw[tJ];split
 ·rename_i c;have t:=(take_at c).1;have h1:=ig hL hp (s:=bs [40]);have h2:=he _ h1.lt;have n2:=ne _ h1.lt;have h3:=jE hL h2.lt (s:=bs [41]);have r:=Nn hL he ne n (kY L p 7 (bs []) 0 [] [] [a,(ex (iC L (bs [40]) p).2).1]) _ h3.lt (uk _ _ _ _ _ _ _ (GJ ha n2.1) (by simp[oo]));rw[uj,z2]at r;refine⟨r.1,?_⟩;have:=h3.le;have:=n2.2;have:=r.2;simp only at*
  omega
 split
 ·rename_i c;have t:=(take_at c).1;have h1:=ig hL hp (s:=bs [46]);have h2:=mE hL h1.lt;have r:=Nn hL he ne n (kY L p 9 (jI L (iC L (bs [46]) p).2).1 0 [] [] [a]) _ h2.lt (uk _ _ _ _ _ _ _ (Ar ha) (by simp[oo]));rw[uj,z1]at r;refine⟨r.1,?_⟩;have:=h2.le;have:=r.2;simp only at*
  omega
 ·exact⟨ha,by show iH a+3*p.at'<=3*p.at'+iH a;omega⟩
theorem zEg(hL:jJ L)(hl:L.length<=10000){ki:PS->gU × PS}{ex un:PS->gq × PS}(hk:iA L ki)(he:iA L ex)(ne:kW L ex)(nu:kW L un):kW L (zO L ki ex un):=λp hp=>by
 unfold zO;split
 ·rename_i c;have t:=(take_at c).1;have h1:=ig hL hp (s:=bs [45]);have n2:=nu _ h1.lt;refine⟨uk _ _ _ _ _ _ _ (Ar n2.1) (by simp[oo]),?_⟩;rw[uj,z1];have:=n2.2;simp only at*
  omega
 split
 ·rename_i c;have t:=(take_at c).1;have h1:=ig hL hp (s:=tK);have n2:=nu _ h1.lt;refine⟨uk _ _ _ _ _ _ _ (Ar n2.1) (by simp[oo]),?_⟩;rw[uj,z1];have:=n2.2;simp only at*
  omega
 ·have a:=zFR hL hl hk he ne p hp;have ta:=I4 hL hk he p hp;have r:=Nn hL he ne (L.length+1) (xO L ki ex p).1 (xO L ki ex p).2 ta.lt a.1;unfold Cr;exact⟨r.1,by simp only;omega⟩
theorem zIt(hL:jJ L)(hl:L.length<=10000){ki:PS->gU × PS}(hk:iA L ki)(d:Nat):kW L (uV L ki d).1/\kW L (uV L ki d).2:=by
 induction d with
 |zero=>exact⟨λp hp=>⟨Nl,by show 1+3*p.at'<=3*p.at'+1;omega⟩,λp hp=>⟨Nl,by show 1+3*p.at'<=3*p.at'+1;omega⟩⟩
 | succ d ih=>
  have tm:=FK hL hk d;have dn:∀p:PS,p.at'<L.length->¬(jV L p).1=true->oO qo/\iH qo+3*p.at'<=3*(jV L p).2.at'+1:=λp hp c=>by
   have:=(IZ (L:=L) hp).le;rw[I1 c];exact⟨Nl,by show 1+3*p.at'<=3*(yT L p).at'+1;omega⟩
  have up:∀(f:PS->gq × PS),kW L f->∀p:PS,p.at'<L.length->(jV L p).1=true->oO (uT (f (jV L p).2)).1/\iH (uT (f (jV L p).2)).1+3*p.at'<=3*(uT (f (jV L p).2)).2.at'+1:=λf nf p hp c=>by
   have hp':(jV L p).2.at'<L.length:=by rw[(zP c).1];exact hp
   have r:=nf _ hp';have e:(jV L p).2.at'=p.at':=by rw[(zP c).1]
   rw[e]at r;exact r
  rw[uV];refine⟨λp hp=>?_,λp hp=>?_⟩
  ·show oO (if(jV L p).1=true then _ else _:gq × PS).1/\iH (if(jV L p).1=true then _ else _:gq × PS).1+3*p.at'<=3*(if(jV L p).1=true then _ else _:gq × PS).2.at'+1;by_cases c:(jV L p).1=true
   ·rw[aC c];exact up _ (zFP hL hk tm.1 ih.1 (zFQ hL hk tm.2 ih.2)) p hp c
   ·rw[aB c];exact dn p hp c
  ·show oO (if(jV L p).1=true then _ else _:gq × PS).1/\iH (if(jV L p).1=true then _ else _:gq × PS).1+3*p.at'<=3*(if(jV L p).1=true then _ else _:gq × PS).2.at'+1;by_cases c:(jV L p).1=true
   ·rw[aC c];exact up _ (zEg hL hl hk tm.1 ih.1 ih.2) p hp c
   ·rw[aB c];exact dn p hp c
structure tY (d:jZ):Prop where
 types:d.types.length=2
 vars:d.vars.length<=10001
 body:oO d.body
 size:iH d.body<=30001
theorem Ws:∀(n:Nat) (l:List (fF × gU)) (p:PS),(yV L n l p).1.length<=l.length+n
|0,l,p=>by rw[yV];exact aP _
| n+1,l,p=>by
 rw[yV]
 split<;>split<;>first
  |(refine aj (Ws n _ _) ?_;simp only[aT,length_cons,length_nil];omega)
  |(simp only[aT,length_cons,length_nil];omega)
theorem zHo(hl:L.length<=10000)(p:PS):(yX L p).1.length<=10001:=by
 unfold yX;split
 ·have:=Ws (L:=L) (L.length+1) [] (iC L (bs [91]) p).2;simp only[length_nil]at this;omega
 ·simp
theorem zHp(hL:jJ L)(hl:L.length<=10000)(p:PS)(hp:p.at'<L.length):tY (ry L p).1:=by
 have h1:=ig hL hp (s:=AY);have h2:=h1.trans (jE hL h1.lt (s:=uF));have h3:=h2.trans (mE hL h2.lt);have h4:=h3.trans (I9 hL _ h3.lt);have h5:=h4.trans (BZ hL (y5 hL) _ h4.lt);have h6:=h5.trans (jE hL h5.lt (s:=bs [61]));have n7:=(zIt hL hl (y5 hL) 102).1 _ h6.lt;have h7:=I8 hL _ h6.lt;have hh:=Wn (L:=L) (ki:=uy L) (yX L (jI L (jQ L uF (iC L AY p).2)).2).2;unfold ry;refine⟨?_,zHo hl _,n7.1,?_⟩
 ·simp only;split
  ·simp only[aT,length_cons,length_nil];omega
  ·omega
 ·have:=n7.2;have:=h7.lt;simp only[Dy]at*
  omega
theorem Wt(hL:jJ L)(hl:L.length<=10000):∀(n:Nat) (l:List jZ) (p:PS),p.at'<L.length->(∀d,d∈l->tY d)->∀d,d∈(rz L n l p).1->tY d
|0,l,p,hp,h,d,hd=>by rw[rz]at hd;exact h d hd
| n+1,l,p,hp,h,d,hd=>by
 rw[rz]at hd;split at hd
 ·refine Wt hL hl n _ _ (Lt hL p hp).lt (λx hx=>?_) d hd;rcases aK.1 hx with hx|hx
  ·exact h x hx
  ·simp only[aL]at hx;subst hx;exact zHp hL hl p hp
 ·exact h d hd
end
theorem zEh(s:fF):∀d,d∈(qc s).1.decs->tY d:=λd hd=>by
 unfold qc at hd;simp only at hd;by_cases q1:(lK s).2.e=0
 ·obtain⟨hL,hl⟩:=Ii q1;rw[aB (λz=>z q1)]at hd;split at hd
  ·cases hd
  ·have h0:ps0.at'<(lK s).1.length:=hL.pos;exact Wt hL hl _ _ _ (FO hL _ _ _ h0).lt (λx hx=>by cases hx) d hd
 ·rw[aC q1]at hd;cases hd
end Go.Gr
