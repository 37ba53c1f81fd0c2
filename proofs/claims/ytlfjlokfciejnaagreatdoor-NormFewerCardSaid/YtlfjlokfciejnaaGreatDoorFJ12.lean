/- Texts of ours, joined and written short by a program of ours. -/
import Derived.Test.YtlfjlokfciejnaaGreatDoorFJ11
import Derived.Test.YtlfjlokfciejnaaGreatDoorFJ06
set_option maxRecDepth 20000
set_option maxHeartbeats 4000000
set_option linter.unusedVariables false
set_option linter.unusedSimpArgs false
namespace Go.Gr
open Go.Abs Go.Proofs List
section
variable (L:iN)
def opAt(s:fE):Nat->Int
|0=>0
|i+1=>if vQ[i]?=some s then(i:Int)else opAt s i
theorem zF0(s:fE):opAt s 11=BN s:=by
 by_cases h:s∈vQ
 ·simp only[vQ,aN,dE,eY]at h;rcases h with h|h|h|h|h|h|h|h|h|h|h<;>subst h<;>decide
 ·have h2:∀i,vQ[i]?≠some s:=λi z=>h (af z);have h3:∀i,opAt s i=0:=λi=>by
   induction i with
   |zero=>rfl
   |succ i ih=>rw[opAt,aB (h2 i),ih]
  have h4:∀(l:List fE) (j:Nat),s∉l->fi (λx=>decide (x=s)) j l= -1:=λl=>by
   induction l with
   |nil=>intro j _;rfl
   |cons x l ih=>
    intro j hx;have q:¬x=s:=λz=>hx (by simp[z]);rw[fi,aB (by simp[q]),ih _ (λz=>hx (by simp[z]))]
  rw[h3,BN,h4 _ _ h];try rfl
theorem ND(n a b:gp)(hk:n.kids=[a,b])(ia ib:Inf)(ha:jd L a ia)(hb:jd L b ib):jd L n (opC n a b ia ib):=λenv s k he hs=>by
 have hn:iF n=iF a+(iF b+1):=by rw[qE,hk];simp[iO];omega
 have w2:=λt0 t1=>Cq L b ib hb t1 env (nI a ia t0 env s).2 k (he.less (by omega)) (Cq L a ia ha t0 env s (8*iF b+1+k) (he.less (by omega)) (hs.less (by omega)));have i1:=ha env s (8*iF b+k) (he.less (by omega)) (hs.less (by omega));have i2:=hb env (ia env s).2 k (he.less (by omega)) i1.1;unfold opC;split
 ·exact⟨w2 _ _,vU 2 (by omega) (by omega)⟩
 split
 ·exact⟨w2 _ _,vU 2 (by omega) (by omega)⟩
 split
 ·exact⟨i2.1,vU 2 (by omega) (by omega)⟩
 split
 ·exact⟨w2 _ _,vU 4 (by omega) (by omega)⟩
 ·refine⟨w2 _ _,?_⟩;simp only;split
  ·exact vU 2 (by omega) (by omega)
  ·exact vU 3 (by omega) (by omega)
theorem zIB(n a b:gp)(hk:n.kids=[a,b])(ia ib:Inf)(ha:rC L a ia)(hb:rC L b ib):jL L 90 n (opC n a b ia ib):=λenv s k he hs=>by
 refine zHg lZ λts hts ok hbk c hN hp=>?_;obtain⟨t,u,v,w,x,y,rfl⟩:=mM hts;have hn:iF n=iF a+(iF b+1):=by rw[qE,hk];simp[iO];omega
 have d21:¬bs [97,110,100]=bs [111,114]:=by decide
 have d31:¬bs [61,61]=bs [111,114]:=by decide
 have d32:¬bs [61,61]=bs [97,110,100]:=by decide
 have d41:¬bs [43,43]=bs [111,114]:=by decide
 have d42:¬bs [43,43]=bs [97,110,100]:=by decide
 have d43:¬bs [43,43]=bs [61,61]:=by decide
 unfold opC;unfold Vb;by_cases c1:n.text=bs [111,114]
 ·rw[aC c1];have m1:=zT L a ia ha (bT 2) env s (8*iF b+1+k) (he.less (by omega)) (hs.less (by omega));have p1:=Cq L a ia ha.2 (bT 2) env s (8*iF b+1+k) (he.less (by omega)) (hs.less (by omega));simp only;generalize nI a ia (bT 2) env s=r1 at*
  have m2:=zT L b ib hb (bT 2) env r1.2 k (he.less (by omega)) (p1.less (by omega));generalize nI b ib (bT 2) env r1.2=r2 at*
  simp[c1,hk];refine gQ (ku 2) ?_;simp[c1,hk];refine gN [0,1,2,3,4,5] m1 ?_;simp[hk];refine⟨by decide,?_⟩;refine gN [0,1,2,15,4,16] m2 ?_;simp;refine⟨by decide,by decide,?_⟩;exact fJ [0,1,2,9,4,11,18,19] [6,7,8,9,10,11]
 rw[aB c1];by_cases c2:n.text=bs [97,110,100]
 ·rw[aC c2];have m1:=zT L a ia ha (bT 2) env s (8*iF b+1+k) (he.less (by omega)) (hs.less (by omega));have p1:=Cq L a ia ha.2 (bT 2) env s (8*iF b+1+k) (he.less (by omega)) (hs.less (by omega));simp only;generalize nI a ia (bT 2) env s=r1 at*
  have m2:=zT L b ib hb (bT 2) env r1.2 k (he.less (by omega)) (p1.less (by omega));generalize nI b ib (bT 2) env r1.2=r2 at*
  simp[c2,d21,hk];refine gQ (ku 2) ?_;simp[c2,d21,hk];refine gN [0,1,2,3,4,5] m1 ?_;simp[hk];refine⟨by decide,?_⟩;refine gN [0,1,2,15,4,16] m2 ?_;simp;refine⟨by decide,by decide,?_⟩;exact fJ [0,1,2,9,4,11,18,19] [6,7,8,9,10,11]
 rw[aB c2];by_cases c3:n.text=bs [61,61]
 ·rw[aC c3];have m1:=ha.1 env s (8*iF b+k) (he.less (by omega)) (hs.less (by omega));have p1:=ha.2 env s (8*iF b+k) (he.less (by omega)) (hs.less (by omega));simp only;generalize ia env s=r1 at*
  have m2:=hb.1 env r1.2 k (he.less (by omega)) (p1.1.less (by omega));generalize ib env r1.2=r2 at*
  simp[c3,d31,d32,hk];refine gQ (ku 2) ?_;simp[c3,d31,d32,hk];refine gN [0,1,2,3,4,5] m1 ?_;simp[hk];refine gN [0,1,2,15,4,16] m2 ?_;simp;refine⟨by decide,?_⟩;exact fJ [0,1,2,9,4,11,19,20] [6,7,8,9,10,11]
 rw[aB c3];by_cases c4:n.text=bs [43,43]
 ·rw[aC c4];have m1:=zT L a ia ha (bT 4) env s (8*iF b+1+k) (he.less (by omega)) (hs.less (by omega));have p1:=Cq L a ia ha.2 (bT 4) env s (8*iF b+1+k) (he.less (by omega)) (hs.less (by omega));simp only;generalize nI a ia (bT 4) env s=r1 at*
  have m2:=zT L b ib hb (bT 4) env r1.2 k (he.less (by omega)) (p1.less (by omega));generalize nI b ib (bT 4) env r1.2=r2 at*
  simp[c4,d41,d42,d43,hk];refine gQ (ku 2) ?_;simp[c4,d41,d42,d43,hk];refine gQ (ku 4) ?_;simp[hk];refine gN [0,1,2,3,4,5] m1 ?_;simp[hk];refine⟨by decide,?_⟩;refine gQ (ku 4) ?_;simp[hk];refine gN [0,1,2,15,4,16] m2 ?_;simp;refine⟨by decide,?_⟩;refine gQ (ku 4) ?_;simp[hk];refine⟨by decide,?_⟩;exact fJ [0,1,2,9,4,11,18,19] [6,7,8,9,10,11]
 rw[aB c4];have m1:=zT L a ia ha (bT 3) env s (8*iF b+1+k) (he.less (by omega)) (hs.less (by omega));have p1:=Cq L a ia ha.2 (bT 3) env s (8*iF b+1+k) (he.less (by omega)) (hs.less (by omega));simp only;generalize nI a ia (bT 3) env s=r1 at*
 have m2:=zT L b ib hb (bT 3) env r1.2 k (he.less (by omega)) (p1.less (by omega));generalize nI b ib (bT 3) env r1.2=r2 at*
 obtain⟨R,hR⟩:∃R,BN n.text=R:=⟨_,rfl⟩
 have hR2:=zF0 n.text;rw[hR]at hR2⊢;simp[c1,c2,c3,c4,hk];refine gQ (ku 2) ?_;simp[c1,c2,c3,c4,hk];refine fO gy hp (λj:Nat=>j<=11) (λj=>[(21,.c (.d (.int .i64 j))),(20,.c (.d (.int .i64 (opAt n.text j)))),(19,.c (.d (.sl true 1 (encS vQ)))),(8,.c (.ptr 14 0)),(7,.c (.ptr 13 0)),(6,.c (.ptr 12 0)),(4,.c (.d (.rp n.enc 0))),(2,.c (.d (.sl false 5 (env.map iZ)))),(0,.c (.ptr 0 0))]) (λ_=>[uT L s 2 3 4,xW 256 s.tab.length 5,oV s.funs,q9 s.sites,lq s.bad,oF s.tab,.pin t 0,.pin u 1,.pin v 2,.pin w 3,.pin x 4,.pin y 5,.box [.d (.int .i64 0),.d (.int .i64 0),.d (.str (bs [])),.d (.sl true 1 []),.d (.sl true 1 []),.d (.sl true 4 []),.d (.sl true 5 []),.d (.sl true 8 [])],.box [.d (.int .i64 0),.d (.str (bs [])),.d (.sl true 1 []),.d (.sl true 4 [])],.box ((bT 2).enc.map .d)]) (λj=>11-j) 0 [0,1,2,3,4,5,6,7,8,9,10,11,12,13,14] (by simp) (by simp[encS,vQ,opAt]) λj h1=>?_;unfold Va;simp;apply gM<;>intro h
 ·have hj:j<11:=by simpa[vQ]using h
  have hj2:j<vQ.length:=by simpa[vQ]using hj
  obtain⟨z,hz⟩:∃z,vQ[j]=z:=⟨_,rfl⟩
  have hz2:vQ[j]?=some z:=by rw[aA hj2,hz]
  have hw:=wI (n:=(j:Int)+1);simp[hj2,hz];refine⟨by decide,?_⟩;apply gM<;>intro h
  ·have e:opAt n.text (j+1)=(j:Int):=by rw[opAt,hz2];simp at h;rw[aC (by rw[h])]
   try simp
   refine fF (j+1) [0,1,2,3,4,5,6,7,8,9,10,11,12,13,14] (by omega) (by omega) ?_;simp[hw,e]
  ·have e:opAt n.text (j+1)=opAt n.text j:=by rw[opAt,hz2];simp at h;rw[aB (λq=>h (by simpa using q))]
   try simp
   refine fF (j+1) [0,1,2,3,4,5,6,7,8,9,10,11,12,13,14] (by omega) (by omega) ?_;simp[hw,e]
 have hj:j=11:=by simp[vQ]at h;omega
 subst hj;rw[hR2];simp[hk];refine gQ (ku 3) ?_;simp[hk];refine gN [0,1,2,3,4,5] m1 ?_;simp[hk];refine⟨by decide,?_⟩;refine gQ (ku 3) ?_;simp[hk];refine gN [0,1,2,15,4,16] m2 ?_;simp;refine⟨by decide,?_⟩;refine gQ (ku 3) ?_;simp;by_cases c9:9<=R
 ·rw[aC c9];simp[c9];refine⟨by decide,?_⟩;exact fJ [0,1,2,9,4,11,18,19] [6,7,8,9,10,11]
 ·rw[aB c9];simp[c9];refine⟨by decide,?_⟩;exact fJ [0,1,2,9,4,11,18,19] [6,7,8,9,10,11]
end
section
variable (L:iN)
theorem NE(x a:fE)(b:gT):∀(l:List fE) (m:List gT),l.length=m.length->rV x (l++[a]) (m++[b])=rV x l m++(if a=x then []else [(a,b)])
|[],[],_=>by simp only[nil_append,rV]
|n::l,k::m,h=>by
 simp only[cons_append,rV];rw[NE x a b l m (by simpa using h)];split<;>simp
theorem NG(x:fE):∀(l:List fE) (m:List gT),(rV x l m).length<=l.length
|[],_=>by simp[rV]
|_::_,[]=>by simp[rV]
|n::l,k::m=>by
 have:=NG x l m;rw[rV];split<;>simp<;>omega
theorem NH:jD (bT 5):=by
 refine(ll _).2 ⟨rfl,λx h=>(by cases h),.inr (.inl ⟨rfl,rfl,by decide,λx h=>(by cases h)⟩)⟩
theorem zI8(n a b:gp)(hk:n.kids=[a,b])(ia ib:Inf)(ha:jd L a ia)(hb:jd L b ib):jd L n (xP n ia ib):=λenv s k he hs=>by
 have hn:iF n=iF a+iF b+1:=by rw[qE,hk];simp[iO]
 have h1:=ha env s (2+8*iF b+k) (he.less (by omega)) (hs.less (by omega));have h2:=NB (b:=8*iF b+1+k) (bT 5) (NH) n.line n.col (ia env s) (h1.1.less (by omega)) h1.2;unfold xP;simp only;generalize kV (bT 5) n.line n.col (ia env s)=r at*
 by_cases q:r.1.2.kind≠5
 ·rw[aC q];exact⟨vV (h2.1.less (by omega)) _ _ _,rA⟩
 ·rw[aB q];have h3:=hb env r.2 k (he.less (by omega)) (h2.1.less (by omega));exact F7 h3.1 _ _ _
theorem WB{t:gT}(h:jD t)(k:t.kind=5):t.names.length=t.kids.length:=by
 rcases((ll t).1 h).2.2 with⟨_,q,_,_⟩|⟨_,q,_⟩|⟨q,_,_⟩|⟨q,_,_⟩<;>omega
abbrev F9(n:gp)(j:Nat):List (Nat × AV):=[(14,.c (.d (.int .i64 j))),(13,.c (.ptr 19 0)),(11,.c (.ptr 18 0)),(9,.c (.ptr 17 0)),(8,.c (.ptr 16 0)),(7,.c (.ptr 13 0)),(6,.c (.ptr 12 0)),(4,.c (.d (.rp n.enc 0))),(0,.c (.ptr 0 0))]
abbrev Ad(s:CS)(P:List Blk)(x y:gu)(xt:gT)(A:List (fE × gT)):List Blk:=[uT L s 2 14 4,xW 256 s.tab.length 15,oV s.funs,.dead,lq s.bad,.dead]++(P++[.box [.d (.int .i64 0),.d (.int .i64 0),.d (.str (bs [])),.d (.sl true 1 []),.d (.sl true 1 []),.d (.sl true 4 []),.d (.sl true 5 []),.d (.sl true 8 [])],.box [.d (.int .i64 0),.d (.str (bs [])),.d (.sl true 1 []),.d (.sl true 4 [])],q9 s.sites,oF s.tab,.box (x.enc.map .d),.box (xt.enc.map .d),.box (y.enc.map .d),.box [.d (.int .i64 5),.d (.str (bs [])),.msl 1 20 0 A.length,.msl 4 21 0 A.length],sj (A.map (·.1)),oD (A.map (·.2))])
theorem uo{α:Type}(l:List α)(n:Nat)(h:l.length=n):take n l=l:=aG (by omega)
theorem zFA(n a b:gp)(hk:n.kids=[a,b])(ia ib:Inf)(ha:rC L a ia)(hb:rC L b ib):jL L 87 n (xP n ia ib):=λenv s k he hs=>by
 refine zCp lZ λts hts ok hbk c hN hp=>?_;obtain⟨t,u,v,w,x,y,rfl⟩:=mM hts;have hn:iF n=iF a+iF b+1:=by rw[qE,hk];simp[iO]
 have hb0:=ku 0;have hb5:=ku 5;have m1:=ha.1 env s (2+8*iF b+k) (he.less (by omega)) (hs.less (by omega));have p1:=ha.2 env s (2+8*iF b+k) (he.less (by omega)) (hs.less (by omega));unfold xP;simp only;generalize ia env s=r1 at*
 unfold V6;by_cases t0:r1.1.2.kind=0
 ·obtain⟨X,eX⟩:∃X,kV (bT 5) n.line n.col r1=X:=⟨_,rfl⟩
  have p2:=NB (b:=8*iF b+1+k) (bT 5) (NH) n.line n.col r1 (p1.1.less (by omega)) p1.2;rw[eX]at p2⊢;have m2:=EA L r1.1.1 r1.1.2 (bT 5) n r1.2 (by have:=p1.1.sites;omega);unfold kV at eX;rw[aC t0]at eX;have eX1:(mF r1.1.1 r1.1.2 (bT 5) n.line n.col r1.2).1=X.1.1:=by rw[<-eX]
  have eX2:(mF r1.1.1 r1.1.2 (bT 5) n.line n.col r1.2).2=X.2:=by rw[<-eX]
  have eX3:X.1.2=bT 5:=by rw[<-eX]
  rw[eX1,eX2]at m2;clear eX eX1 eX2;have k5:¬X.1.2.kind≠5:=by rw[eX3];decide
  rw[aB k5];have m3:=hb.1 env X.2 k (he.less (by omega)) (p2.1.less (by omega));have p3:=hb.2 env X.2 k (he.less (by omega)) (p2.1.less (by omega));generalize ib env X.2=r3 at*
  rw[<-eX3]at hb5;rw[<-eX3]at m2;have k5:X.1.2.kind=5:=by rw[eX3];try rfl
  have hl:=WB p2.2 k5;have hl2:=A7 p2.2;simp[hk];refine gN [0,1,2,3,4,5] m1 ?_;simp[t0];refine gQ hb5 ?_;simp;refine gN [0,1,2,14,4,15] m2 ?_;simp[k5,hk];refine gN [0,1,2,19,4,15] m3 ?_;simp[hk];have e0:rV n.text (X.1.2.names.take 0) (X.1.2.kids.take 0)=[]:=rfl;refine fO gy hp (λj:Nat=>j<=X.1.2.names.length) (F9 n) (λj=>Ad L r3.2 [.pin t 0,.pin u 1,.pin v 2,.pin w 3,.pin x 4,.pin y 5] X.1.1 r3.1.1 X.1.2 ((n.text,r3.1.2)::rV n.text (X.1.2.names.take j) (X.1.2.kids.take j))) (λj=>X.1.2.names.length-j) 0 [0,1,2,3,4,5,6,7,8,9,10,11,12,13,20,21,16,17,22,26,24,25] (by simp) (by simp[encS,rV]) λj h1=>?_;unfold Mm;simp;apply gM<;>intro h
  ·have hj:j<X.1.2.names.length:=by simpa using h
   have hj2:j<X.1.2.kids.length:=by omega
   obtain⟨z,hz⟩:∃z,X.1.2.names[j]=z:=⟨_,rfl⟩
   obtain⟨q,hq⟩:∃q,X.1.2.kids[j]=q:=⟨_,rfl⟩
   have tk1:X.1.2.names.take (j+1)=X.1.2.names.take j++[z]:=by rw[aJ hj,hz]
   have tk2:X.1.2.kids.take (j+1)=X.1.2.kids.take j++[q]:=by rw[aJ hj2,hq]
   have rs:=NE n.text z q (X.1.2.names.take j) (X.1.2.kids.take j) (by rw[bI,bI];omega);rw[<-tk1,<-tk2]at rs;have rl:=NG n.text (X.1.2.names.take j) (X.1.2.kids.take j);rw[bI]at rl;have hw:=wI (n:=(j:Int)+1);simp[hj,hz];refine⟨by decide,?_⟩;by_cases e:z=n.text
   ·rw[aC e,bL]at rs;simp[e];refine fF (j+1) [0,1,2,3,4,5,6,7,8,9,10,11,12,13,14,15,16,17,18,19,20,21] (by omega) (by omega) ?_;simp only[Ad,rs];simp[hw]
   ·rw[aB e]at rs;generalize hA:rV n.text (X.1.2.names.take j) (X.1.2.kids.take j)=A at*
    simp[e,hj,hz,hj2,hq];refine⟨by omega,by decide,by omega,by decide,?_⟩;refine fF (j+1) [0,1,2,3,4,5,6,7,8,9,10,11,12,13,14,15,16,17,18,19,22,23] (by omega) (by omega) ?_;simp[hw,rs];refine⟨?_,?_⟩
    ·rw[uo _ _ (by simp[encS])];simp[encS]
    ·rw[uo _ _ (by simp)]
  have hj:j=X.1.2.names.length:=by simp at h;omega
  subst hj;rw[bO,hl,bO];generalize rV n.text X.1.2.names X.1.2.kids=B at*
  have z1:take (B.length+1) (encS (n.text::List.map (λx=>x.1) B))=encS (n.text::List.map (λx=>x.1) B):=uo _ _ (by simp[encS]);have z2:take B.length (List.map (gT.enc∘λx=>x.2) B)=List.map (gT.enc∘λx=>x.2) B:=uo _ _ (by simp);have m4:=Co L (.mk 5 (bs []) (((n.text,r3.1.2)::B).map (·.1)) (((n.text,r3.1.2)::B).map (·.2))) n r3.2;generalize pF (.mk 5 (bs []) (((n.text,r3.1.2)::B).map (·.1)) (((n.text,r3.1.2)::B).map (·.2))) n.line n.col r3.2=r4 at*
  simp[hk];refine fT [20,21] ?_;simp[iV,z1,z2];refine gP [0,1,2,14,4,15] m4 (by simp[su]) ?_;simp;refine⟨by decide,?_⟩;exact fJ [0,1,2,9,4,11,14,15] [6,7,8,9,10,11]
 have eX:kV (bT 5) n.line n.col r1=r1:=by unfold kV;rw[aB t0]
 have p2:kz L r1.2 (8*iF b+1+k)/\jD r1.1.2:=⟨p1.1.less (by omega),p1.2⟩
 rw[eX];by_cases k5:r1.1.2.kind=5;rotate_left
 ·rw[aC k5];have m2:=vE L n 17 r1.2;generalize ky n.line n.col 17 r1.2=r2 at*
  simp[hk];refine gN [0,1,2,3,4,5] m1 ?_;simp[t0,k5];refine gN [0,1,2,14,4,15] m2 ?_;simp;refine gQ hb0 ?_;simp;exact fJ [0,1,2,9,4,11,14,15] [6,7,8,9,10,11]
 rw[aB (λz=>z k5)];obtain⟨X,hX⟩:∃X,X=r1:=⟨_,rfl⟩
 subst hX;have m3:=hb.1 env X.2 k (he.less (by omega)) (p2.1.less (by omega));have p3:=hb.2 env X.2 k (he.less (by omega)) (p2.1.less (by omega));generalize ib env X.2=r3 at*
 have hl:=WB p2.2 k5;have hl2:=A7 p2.2;simp[hk];refine gN [0,1,2,3,4,5] m1 ?_;simp[t0,k5,hk];refine gN [0,1,2,14,4,15] m3 ?_;simp[hk];have e0:rV n.text (X.1.2.names.take 0) (X.1.2.kids.take 0)=[]:=rfl;refine fO gy hp (λj:Nat=>j<=X.1.2.names.length) (F9 n) (λj=>Ad L r3.2 [.pin t 0,.pin u 1,.pin v 2,.pin w 3,.pin x 4,.pin y 5] X.1.1 r3.1.1 X.1.2 ((n.text,r3.1.2)::rV n.text (X.1.2.names.take j) (X.1.2.kids.take j))) (λj=>X.1.2.names.length-j) 0 [0,1,2,3,4,5,6,7,8,9,10,11,12,13,18,19,16,17,20,24,22,23] (by simp) (by simp[encS,rV]) λj h1=>?_;unfold Mm;simp;apply gM<;>intro h
 ·have hj:j<X.1.2.names.length:=by simpa using h
  have hj2:j<X.1.2.kids.length:=by omega
  obtain⟨z,hz⟩:∃z,X.1.2.names[j]=z:=⟨_,rfl⟩
  obtain⟨q,hq⟩:∃q,X.1.2.kids[j]=q:=⟨_,rfl⟩
  have tk1:X.1.2.names.take (j+1)=X.1.2.names.take j++[z]:=by rw[aJ hj,hz]
  have tk2:X.1.2.kids.take (j+1)=X.1.2.kids.take j++[q]:=by rw[aJ hj2,hq]
  have rs:=NE n.text z q (X.1.2.names.take j) (X.1.2.kids.take j) (by rw[bI,bI];omega);rw[<-tk1,<-tk2]at rs;have rl:=NG n.text (X.1.2.names.take j) (X.1.2.kids.take j);rw[bI]at rl;have hw:=wI (n:=(j:Int)+1);simp[hj,hz];refine⟨by decide,?_⟩;by_cases e:z=n.text
  ·rw[aC e,bL]at rs;simp[e];refine fF (j+1) [0,1,2,3,4,5,6,7,8,9,10,11,12,13,14,15,16,17,18,19,20,21] (by omega) (by omega) ?_;simp only[Ad,rs];simp[hw]
  ·rw[aB e]at rs;generalize hA:rV n.text (X.1.2.names.take j) (X.1.2.kids.take j)=A at*
   simp[e,hj,hz,hj2,hq];refine⟨by omega,by decide,by omega,by decide,?_⟩;refine fF (j+1) [0,1,2,3,4,5,6,7,8,9,10,11,12,13,14,15,16,17,18,19,22,23] (by omega) (by omega) ?_;simp[hw,rs];refine⟨?_,?_⟩
   ·rw[uo _ _ (by simp[encS])];simp[encS]
   ·rw[uo _ _ (by simp)]
 have hj:j=X.1.2.names.length:=by simp at h;omega
 subst hj;rw[bO,hl,bO];generalize rV n.text X.1.2.names X.1.2.kids=B at*
 have z1:take (B.length+1) (encS (n.text::List.map (λx=>x.1) B))=encS (n.text::List.map (λx=>x.1) B):=uo _ _ (by simp[encS]);have z2:take B.length (List.map (gT.enc∘λx=>x.2) B)=List.map (gT.enc∘λx=>x.2) B:=uo _ _ (by simp);have m4:=Co L (.mk 5 (bs []) (((n.text,r3.1.2)::B).map (·.1)) (((n.text,r3.1.2)::B).map (·.2))) n r3.2;generalize pF (.mk 5 (bs []) (((n.text,r3.1.2)::B).map (·.1)) (((n.text,r3.1.2)::B).map (·.2))) n.line n.col r3.2=r4 at*
 simp[hk];refine fT [20,21] ?_;simp[iV,z1,z2];refine gP [0,1,2,14,4,15] m4 (by simp[su]) ?_;simp;refine⟨by decide,?_⟩;exact fJ [0,1,2,9,4,11,14,15] [6,7,8,9,10,11]
end
section
variable (L:iN)
def Ae(l:List fE):Nat->Bool
|0=>false
|i+1=>Ae l i||(l.take i).any (λm=>decide (some m=l[i]?))
def zU(l:List fE)(i j:Nat):Bool:=Ae l i||(l.take j).any (λm=>decide (some m=l[i]?))
theorem WC(l:List fE):∀i,i<=l.length->(Ae l i||lh (l.take i) (l.drop i))=lh [] l
|0,_=>by simp[Ae]
|i+1,h=>by
 have hi:i<l.length:=by omega
 rw[<-WC l i (by omega),aD hi,lh,Ae,aJ hi];simp[Bool.or_assoc,hi]
theorem zFg(l:List fE):Ae l l.length=lh [] l:=by
 have:=WC l l.length (by omega);rw[aO]at this;simpa[lh]using this
def nQ(n:gp)(s:CS)(q:Bool):CS:=if q=true then ky n.line n.col 8 s else s
theorem zFh(n:gp)(s:CS)(q:Bool):ky n.line n.col 8 (nQ n s q)=nQ n s true:=by
 unfold nQ;cases q with
 |false=>simp
 |true=>
  simp only[aC];unfold ky;by_cases h:s.e=0
  ·rw[aC h];try rfl
  ·rw[aB h,aB h]
theorem WE{L:iN}{n:gp}{s:CS}{b:Nat}(h:kz L s b)(q:Bool):kz L (nQ n s q) b:=by
 unfold nQ;split
 ·exact vV h _ _ _
 ·exact h
theorem WF(n:gp)(ks:Env->CS->(List gu × List gT) × CS)(env:Env)(s:CS):qB n ks env s=((.mk 8 0 (bs []) [] n.names [] [] (ks env (nQ n s (lh [] n.names))).1.1,(pF (.mk 5 (bs []) n.names (ks env (nQ n s (lh [] n.names))).1.2) n.line n.col (ks env (nQ n s (lh [] n.names))).2).1),(pF (.mk 5 (bs []) n.names (ks env (nQ n s (lh [] n.names))).1.2) n.line n.col (ks env (nQ n s (lh [] n.names))).2).2):=rfl
theorem WG:∀l:List gp,l.length<=iO l
|[]=>by simp
|n::l=>by
 have:=WG l;have:=qE n;rw[iO,length_cons];omega
theorem WH:∀(l:List gp) (j:Nat),iO (l.drop j)<=iO l
|[],j=>by simp
|n::l,0=>by simp
|n::l,j+1=>by
 have:=WH l j;rw[drop_succ_cons,iO];omega
theorem WI(env:Env):∀(l:List gp),(∀x,x∈l->jd L x (ig L x))->rX env (iO l)->∀(s:CS) (b:Nat),kz L s (8*iO l+b)->kz L (oC L l env s).2 b
|[],_,_,s,b,h=>by rw[oC];exact h.less (by omega)
|n::l,hl,he,s,b,h=>by
 rw[iO]at he h;have h1:=hl n (by simp) env s (8*iO l+b) (he.less (by omega)) (h.less (by omega));rw[oC];exact WI env l (λx hx=>hl x (by simp[hx])) (he.less (by omega)) _ b h1.1
theorem zJC(n:gp)(hks:∀x,x∈n.kids->jd L x (ig L x)):jd L n (qB n (oC L n.kids)):=λenv s k he hs=>by
 rw[qE]at he hs;have h1:=WI L env n.kids hks (he.less (by omega)) (nQ n s (lh [] n.names)) k (WE (hs.less (by omega)) _);rw[WF];exact F7 h1 _ _ _
abbrev NI(l:List gu):Blk:=.arr 8 ((l.map gu.enc).map (·.map .d))
abbrev Fa(n:gp)(env:Env)(i:Nat):List (Nat × AV):=[(8,.c (.d (.int .i64 i))),(7,.c (.ptr 13 0)),(6,.c (.ptr 12 0)),(4,.c (.d (.rp n.enc 0))),(2,.c (.d (.sl false 5 (env.map iZ)))),(0,.c (.ptr 0 0))]
abbrev Fb(P:List Blk)(S:CS):List Blk:=qc L S++(P++[.box [.d (.int .i64 0),.d (.int .i64 0),.d (.str (bs [])),.d (.sl true 1 []),.d (.sl true 1 []),.d (.sl true 4 []),.d (.sl true 5 []),.d (.sl true 8 [])],.box [.d (.int .i64 0),.d (.str (bs [])),.d (.sl true 1 []),.d (.sl true 4 [])]])
abbrev rcT(n:gp)(env:Env)(j:Nat):List (Nat × AV):=[(12,.c (.d (.int .i64 j))),(11,.c (.ptr 11 0)),(10,.c (.ptr 10 0)),(7,.c (.ptr 9 0)),(6,.c (.ptr 8 0)),(4,.c (.d (.rp n.enc 0))),(2,.c (.d (.sl false 5 (env.map iZ)))),(0,.c (.ptr 0 0))]
abbrev rcB(n:gp)(P:List Blk)(S:CS)(cs:List gu)(ts:List gT):List Blk:=[uT L S 2 12 3,xW 256 S.tab.length 13,oV S.funs,lq S.bad]++(P++[.box [.d (.int .i64 0),.d (.int .i64 0),.d (.str (bs [])),.d (.sl true 1 []),.d (.sl true 1 []),.d (.sl true 4 []),.d (.sl true 5 []),.d (.sl true 8 [])],.box [.d (.int .i64 0),.d (.str (bs [])),.d (.sl true 1 []),.d (.sl true 4 [])],.box [.d (.int .i64 8),.d (.int .i64 0),.d (.str (bs [])),.d (.sl true 1 []),.d (.sl false 1 (encS n.names)),.d (.sl true 4 []),.d (.sl true 5 []),.msl 8 14 0 cs.length],.box [.d (.int .i64 5),.d (.str (bs [])),.d (.sl false 1 (encS n.names)),.msl 4 15 0 ts.length],q9 S.sites,oF S.tab,NI cs,oD ts])
theorem zDV(n:gp)(hnm:n.names.length<=1000000)(hks:∀x,x∈n.kids->rC L x (ig L x)):jL L 85 n (qB n (oC L n.kids)):=λenv s k he hs=>by
 refine zBI lZ λts hts ok hbk c hN hp=>?_;obtain⟨t,u,v,w,x,y,rfl⟩:=mM hts;have hn:=qE n;rw[WF];unfold V4;simp;refine fO gy hp (λi:Nat=>i<=n.names.length) (Fa n env) (λi=>Fb L [.pin t 0,.pin u 1,.pin v 2,.pin w 3,.pin x 4,.pin y 5] (nQ n s (Ae n.names i))) (λi=>n.names.length-i) 0 [0,1,2,3,4,5,6,7,8,9,10,11,12,13] (by simp) (by simp[Ae,nQ]) λi h1=>?_;unfold VZ;simp;apply gM<;>intro h
 ·have hi:i<n.names.length:=by simpa using h
  obtain⟨z,hz⟩:∃z,n.names[i]=z:=⟨_,rfl⟩
  have hz2:n.names[i]?=some z:=by rw[aA hi,hz]
  try simp
  refine fO gy hp (λj:Nat=>j<=i) (λj=>(9,.c (.d (.int .i64 j)))::Fa n env i) (λj=>Fb L [.pin t 0,.pin u 1,.pin v 2,.pin w 3,.pin x 4,.pin y 5] (nQ n s (zU n.names i j))) (λj=>i-j) 0 [0,1,2,3,4,5,6,7,8,9,10,11,12,13] (by simp) (by simp[zU]) λj h2=>?_;unfold VY;simp;apply gM<;>intro h
  ·have hj:j<i:=by simpa using h
   have hj2:j<n.names.length:=by omega
   obtain⟨q,hq⟩:∃q,n.names[j]=q:=⟨_,rfl⟩
   have hw:=wI (n:=(j:Int)+1);have m:=vE L n 8 (nQ n s (zU n.names i j));rw[zFh]at m;have e:zU n.names i (j+1)=(zU n.names i j||decide (q=z)):=by
    unfold zU;rw[aJ hj2,hz2,hq];simp[Bool.or_assoc]
   by_cases c0:q=z
   ·have e2:zU n.names i (j+1)=true:=by rw[e];simp[c0]
    simp[hj2,hq,hz,hi,c0];refine⟨by decide,?_⟩;refine gN [0,1,2,3,4,5] m ?_;simp;refine fF (j+1) [0,1,2,3,4,5,6,7,8,9,10,11,12,13] (by omega) (by omega) ?_;simp[hw,e2]
   ·have e2:zU n.names i (j+1)=zU n.names i j:=by rw[e];simp[c0]
    simp[hj2,hq,hz,hi,c0];refine⟨by decide,?_⟩;refine fF (j+1) [0,1,2,3,4,5,6,7,8,9,10,11,12,13] (by omega) (by omega) ?_;simp[hw,e2]
  ·have hj:j=i:=by simp at h;omega
   subst hj;have hw:=wI (n:=(j:Int)+1);have e:zU n.names j j=Ae n.names (j+1):=rfl;simp;refine fF (j+1) [0,1,2,3,4,5,6,7,8,9,10,11,12,13] (by omega) (by omega) ?_;simp[hw,e]
 have hi:i=n.names.length:=by simp at h;omega
 subst hi;rw[zFg];have s1:=WE (n:=n) (b:=8*iO n.kids+k) (hs.less (by omega)) (lh [] n.names);generalize nQ n s (lh [] n.names)=s1' at*
 obtain⟨R,hR⟩:∃R,oC L n.kids env s1'=R:=⟨_,rfl⟩
 rw[hR];have hkl:=WG n.kids;have hel:=he.len;simp;refine fU [.c 14 7,.c 15 3] ?_;simp;refine fO gy hp (λY:Nat × CS × List gu × List gT=>Y.1<=n.kids.length/\kz L Y.2.1 (8*iO (n.kids.drop Y.1)+k)/\Y.2.2.1.length=Y.1/\Y.2.2.2.length=Y.1/\((Y.2.2.1++(oC L (n.kids.drop Y.1) env Y.2.1).1.1,Y.2.2.2++(oC L (n.kids.drop Y.1) env Y.2.1).1.2),(oC L (n.kids.drop Y.1) env Y.2.1).2)=R) (λY=>rcT n env Y.1) (λY=>rcB L n [.pin t 0,.pin u 1,.pin v 2,.pin x 3] Y.2.1 Y.2.2.1 Y.2.2.2) (λY=>n.kids.length-Y.1) (0,s1',[],[]) [0,1,2,4,6,7,8,10,12,13,14,15,3,5,16,17] ⟨by simp,by simpa using s1,by simp,by simp,by simpa using hR⟩ (by simp) λ⟨j,S,cs,ts⟩ ⟨i1,i2,i3,i4,i5⟩=>?_;unfold V3;simp only at i1 i2 i3 i4 i5;simp;apply gM<;>intro h
 ·have hj:j<n.kids.length:=by simpa using h
  obtain⟨q,hq⟩:∃q,n.kids[j]=q:=⟨_,rfl⟩
  have hqm:q∈n.kids:=by rw[<-hq];exact aR hj
  have hd:=WH n.kids j;rw[aD hj,hq]at i2 i5 hd;rw[oC]at i5;rw[iO]at i2 hd;have m:=(hks q hqm).1 env S (8*iO (n.kids.drop (j+1))+k) (he.less (by omega)) (i2.less (by omega));have p:=(hks q hqm).2 env S (8*iO (n.kids.drop (j+1))+k) (he.less (by omega)) (i2.less (by omega));simp only at i5;generalize ig L q env S=r at*
  have hw:=wI (n:=(j:Int)+1);simp[hj,hq];refine gN [0,1,2,12,3,13] m ?_;simp;refine⟨by omega,by omega,?_⟩;refine fF (j+1,r.2,cs++[r.1.1],ts++[r.1.2]) [0,1,2,3,4,5,6,7,8,9,10,11,16,17,20,21] ⟨by simp only;omega,p.1,by simp;omega,by simp;omega,by simpa using i5⟩ (by simp only;omega) ?_;simp[hw];refine⟨?_,?_⟩
  ·rw[uo _ _ (by simp)]
  ·rw[uo _ _ (by simp)]
 have hj:j=n.kids.length:=by simp at h;omega
 subst hj;rw[aO,oC]at i5;simp only[bL]at i5;subst i5;simp only;have m4:=Co L (.mk 5 (bs []) n.names ts) n S;generalize pF (.mk 5 (bs []) n.names ts) n.line n.col S=r4 at*
 simp;refine fT [14,15] ?_;have z1:=uo (cs.map gu.enc) cs.length (by simp);have z2:=uo (ts.map gT.enc) ts.length (by simp);simp[iV,z1,z2];refine gP [0,1,2,12,3,13] m4 (by simp[su]) ?_;simp;refine⟨by decide,?_⟩;exact fI [0,1,2,8,3,9,12,13] [4,5,6,4,7,4] (by simp[z1,F5,yf,su,encI,AV.erds,AV.erd,D.erdL,D.erd,D.erdE,jY,jZ])
end
section
variable (L:iN)
theorem NJ{L:iN}(ln cl:Int):∀(ts l:List gT) (s:CS) (b:Nat),kz L s b->kz L (sF ln cl ts l s).2 b
|[],_,_,_,h=>h
|t::ts,l,s,b,h=>by
 rw[sF];split
 ·exact h
 ·exact NJ ln cl ts _ _ b (wQ h t ln cl).1
theorem NK(x:fE):∀l:List iy,(qW l x).2=true->(qW l x).1∈l
|[],h=>by simp[qW]at h
|e::l,h=>by
 rw[qW]at h⊢;split at h
 ·rename_i q;rw[aC q];simp
 ·rename_i q;rw[aB q];exact mem_cons_of_mem _ (NK x l h)
theorem WJ{env:Env}{b:Nat}(he:rX env b)(k:Nat):jD (env.getD k (bs [],noT)).2:=by
 rw[aH];cases h:env[k]? with
 |none=>exact rA
 |some v=>exact he.wf v (af h)
theorem WK(ln cl:Int):∀(ts l:List gT) (s:CS),(sF ln cl ts l s).1.length<=l.length+ts.length
|[],l,_=>by rw[sF];simp
| t::ts,l,s=>by
 rw[sF];split
 ·simp only[length_cons];omega
 ·refine ak (WK ln cl ts _ _) ?_;simp only[aX,length_cons,length_nil];omega
theorem zIO{L:iN}(hL:nZ L)(i:Nat)(x:fE)(h:(qW (L.scopes.getD i []) x).2=true):jq L ⟨bs [],(qW (L.scopes.getD i []) x).1.module,(qW (L.scopes.getD i []) x).1.decl⟩:=by
 have hm:=NK x _ h;have:L.scopes.getD i []∈L.scopes:=by
  rw[aH]at hm⊢;cases q:L.scopes[i]? with
  |none=>rw[q]at hm;simp at hm
  |some sc=>exact af q
 have r:=hL.ents _ this _ hm;exact⟨r.m0,r.m1,r.d0,r.d1⟩
theorem zH3(hL:nZ L)(n:gp)(hty:n.types.length<=1000000):jd L n (xM L n):=λenv s k he hs=>by
 have hs:=hs.less (c:=k) (by omega);have ent:=zIO hL s.module.toNat n.text;unfold xM;simp only;split
 ·exact⟨hs,WJ he _⟩
 rename_i c1;split
 ·exact⟨vV hs _ _ _,rA⟩
 rename_i c2;split
 ·exact⟨vV hs _ _ _,rA⟩
 rename_i c3;have ent:=ent (by
  by_cases q:(qW (L.scopes.getD s.module.toNat []) n.text).2=true
  ·exact q
  ·exact absurd ⟨by omega,by simpa using q⟩ c2)
 split
 ·exact⟨vV hs _ _ _,rA⟩
 split
 ·exact Vz hs _ _ _ _ ent (by simp)
 have h2:=NJ n.line n.col n.types [] s k hs;have h3:=WK n.line n.col n.types [] s;split
 ·exact⟨h2,rA⟩
 split
 ·exact⟨vV h2 _ _ _,rA⟩
 ·exact Vz h2 _ _ _ _ ent (by simp at h3;omega)
abbrev nmT(n:gp)(j m:Nat):List (Nat × AV):=[(14,.c (.d (.int .i64 j))),(13,.c (.msl 4 17 0 m)),(12,.c (.ptr 16 0)),(11,.c (.ptr 15 0)),(9,.c (.ptr 14 0)),(7,.c (.ptr 13 0)),(6,.c (.ptr 12 0)),(4,.c (.d (.rp n.enc 0))),(0,.c (.ptr 0 0))]
abbrev nmB(P:List Blk)(e:iy)(d:jS)(S:CS)(ts:List gT):List Blk:=qc L S++(P++[.box [.d (.int .i64 0),.d (.int .i64 0),.d (.str (bs [])),.d (.sl true 1 []),.d (.sl true 1 []),.d (.sl true 4 []),.d (.sl true 5 []),.d (.sl true 8 [])],.box [.d (.int .i64 0),.d (.str (bs [])),.d (.sl true 1 []),.d (.sl true 4 [])],.box (e.enc.map .d),.box [.d (.int .i64 0),.d (.int .i64 0),.d (.str (bs [])),.d (.sl true 1 []),.d (.sl true 1 []),.d (.sl true 4 []),.d (.sl true 5 []),.d (.sl true 8 [])],.box (d.enc.map .d),oD ts])
theorem zE8(hL:nZ L)(n:gp)(hty:n.types.length<=1000000):jL L 81 n (xM L n):=λenv s k he hs=>by
 refine zCo lZ λts hts ok hbk c hN hp=>?_;obtain⟨t,u,v,w,x,y,rfl⟩:=mM hts;have hb0:=ku 0;have hel:=he.len;have hfi:=find_ok env (by omega) n.text;have hfl:=Mv env n.text;obtain⟨sc,hsc⟩:∃sc,L.scopes.getD s.module.toNat []=sc:=⟨_,rfl⟩
 obtain⟨mn,hmn⟩:∃mn:Nat,s.module=mn:=⟨s.module.toNat,by have:=hs.m0;omega⟩
 have hml:mn<L.scopes.length:=by have:=hs.m1;have:=hL.scopes;omega
 have hsc2:L.scopes[mn]?=some sc:=by rw[hmn]at hsc;simp only[bB]at hsc;rw[<-hsc,aH,aA hml];try rfl
 have hfe:=Uk sc n.text;have hem:=NK n.text sc;unfold xM;simp only;rw[hsc];generalize qW sc n.text=e at*
 generalize qz env n.text=z at*
 have hse:∀q:e.2=true,jq L e.1:=λq=>hL.ents sc (af hsc2) _ (hem q);unfold VU;simp[hmn,hsc2];refine gQ hfi ?_;simp[hmn,hsc2];refine gQ hfe ?_;have ge1:∀h,e.1.enc[1]'h=D.int .i64 e.1.module:=λ_=>rfl;have ge2:∀h,e.1.enc[2]'h=D.int .i64 e.1.decl:=λ_=>rfl;by_cases z0:0<=z
 ·obtain⟨zn,hzn⟩:∃zn:Nat,z=zn:=⟨z.toNat,by omega⟩
  have hzl:zn<env.length:=by omega
  obtain⟨v,hv⟩:∃v,env[zn]=v:=⟨_,rfl⟩
  have hv2:env.getD z.toNat (bs [],noT)=v:=by rw[hzn];simp only[bB];rw[aH,aA hzl,hv];try rfl
  by_cases k4:n.kind=4
  ·rw[aC ⟨z0,k4⟩,hv2];subst hzn;simp[k4,hzl,hv];refine⟨by decide,by decide,?_⟩;exact fJ [0,1,2,9,4,11,3,5] [6,7,8,9,10,11]
  ·rw[aB (λq=>k4 q.2),aB (λq=>by omega),aC z0];have m:=vE L n 18 s;generalize ky n.line n.col 18 s=s2 at*
   have z1:¬z<0:=by omega
   simp[k4,z0,z1];refine⟨by decide,?_⟩;refine gN [0,1,2,3,4,5] m ?_;simp;refine gQ hb0 ?_;simp;refine⟨by decide,?_⟩;exact fJ [0,1,2,9,4,11,3,5] [6,7,8,9,10,11]
 have z1:z<0:=by omega
 rw[aB (λq=>z0 q.1)];by_cases e2:e.2=true;rotate_left
 ·rw[aC ⟨z1,by simpa using e2⟩];have m:=vE L n 10 s;generalize ky n.line n.col 10 s=s2 at*
  simp[z0,z1,e2];refine⟨by decide,?_⟩;refine gN [0,1,2,3,4,5] m ?_;simp;refine gQ hb0 ?_;simp;refine⟨by decide,?_⟩;exact fJ [0,1,2,9,4,11,3,5] [6,7,8,9,10,11]
 rw[aB (λq=>by simp[e2]at q),aB z0];have hen:=hse e2;have hen2:jq L ⟨bs [],e.1.module,e.1.decl⟩:=⟨hen.m0,hen.m1,hen.d0,hen.d1⟩
 obtain⟨mn2,kn,M,e1,e3,g1,g2,hd⟩:=F6 hL hen2;generalize hdd:vP L e.1.module e.1.decl=d at*
 by_cases c9:decide (0<d.vars.length)=decide (n.kind=19);rotate_left
 ·rw[aC c9];have m:=vE L n 18 s;generalize ky n.line n.col 18 s=s2 at*
  simp[z0,z1,e2,ge1,ge2,e1,e3,g1,g2];refine⟨by decide,by decide,?_⟩;by_cases c0:0<d.vars.length
  ·have c1:¬n.kind=19:=λq=>c9 (by simp[c0,q]);simp[c0,c1];refine gN [0,1,2,3,4,5] m ?_;simp;refine gQ hb0 ?_;simp;refine⟨by decide,?_⟩;exact fJ [0,1,2,9,4,11,3,5] [6,7,8,9,10,11]
  ·have c1:n.kind=19:=by
    by_cases q:n.kind=19
    ·exact q
    ·exact absurd (by simp[c0,q]) c9
   simp[c0,c1];refine gN [0,1,2,3,4,5] m ?_;simp;refine gQ hb0 ?_;simp;refine⟨by decide,?_⟩;exact fJ [0,1,2,9,4,11,3,5] [6,7,8,9,10,11]
 rw[aB (λq=>q c9)];by_cases k4:n.kind=4
 ·rw[aC k4];have c0:¬0<d.vars.length:=λq=>by simp[q,k4]at c9
  have m:=MCall.erd (args:=[.c (.ptr 0 0),.ag (n.enc.map .d),.ag (e.1.enc.map .d),.c (.d (.sl true 4 []))]) (WA L hL n e.1 hen2 [] (by simp) s hs.tab) (by simp[AV.erds,AV.erd,AC.erd,D.erd,D.erdL,D.erdE,iy.enc]);generalize sZ L n.line n.col e.1 [] s=r at*
  simp[z0,z1,e2,ge1,ge2,e1,e3,g1,g2];refine⟨by decide,by decide,?_⟩;simp[c0,k4];refine gN [0,1,2,3,4,5] m ?_;simp;exact fJ [0,1,2,9,4,11,17,18] [6,7,8,9,10,11]
 rw[aB k4];obtain⟨R,hR⟩:∃R,sF n.line n.col n.types [] s=R:=⟨_,rfl⟩
 have pR:=NJ n.line n.col n.types [] s k (hs.less (by omega));rw[hR]at pR⊢;simp[z0,z1,e2,ge1,ge2,e1,e3,g1,g2];refine⟨by decide,by decide,?_⟩;have c9':(decide (0<d.vars.length) !=decide (n.kind=19))=false:=by rw[c9];simp
 apply gM<;>intro h
 ·exfalso;simp_all
 simp[k4];refine fU [.t 13] ?_;simp;refine fO gy hp (λY:Nat × CS × List gT=>Y.1<=n.types.length/\kz L Y.2.1 k/\Y.2.2.length=Y.1/\sF n.line n.col (n.types.drop Y.1) Y.2.2 Y.2.1=R) (λY=>nmT n Y.1 Y.2.2.length) (λY=>nmB L [.pin t 0,.pin u 1,.pin v 2,.pin w 3,.pin x 4,.pin y 5] e.1 d Y.2.1 Y.2.2) (λY=>n.types.length-Y.1) (0,s,[]) [0,1,2,3,4,5,6,7,8,9,10,11,12,13,14,15,16,17] ⟨by simp,hs.less (by omega),by simp,by simpa using hR⟩ (by simp) λ⟨j,S,ts⟩ ⟨i1,i2,i3,i4⟩=>?_;unfold VT;simp only at i1 i2 i3 i4;simp;by_cases hj:j<n.types.length
 ·by_cases q0:S.e=0
  ·obtain⟨q,hq⟩:∃q,n.types[j]=q:=⟨_,rfl⟩
   rw[aD hj,hq,sF,aB (λz=>z q0)]at i4;have m:=Cn L q n.line n.col S i2.wth;have p:=wQ i2 q n.line n.col;generalize jo q n.line n.col S=r at*
   have hw:=wI (n:=(j:Int)+1);simp[hj,q0,hq];refine gN [0,1,2,3,4,5] m ?_;simp;refine⟨by decide,by omega,?_⟩;refine fF (j+1,r.2,ts++[r.1]) [0,1,2,3,4,5,6,7,8,9,10,11,12,13,14,15,16,19] ⟨by simp only;omega,p.1,by simp;omega,i4⟩ (by simp only;omega) ?_;simp[hw];rw[uo _ _ (by simp)]
  ·have i5:(ts,S)=R:=by rw[aD hj,sF,aC q0]at i4;exact i4
   subst i5;rw[aC q0];simp[hj,q0];refine gQ hb0 ?_;simp;refine⟨by decide,?_⟩;exact fJ [0,1,2,9,4,11,3,5] [6,7,8,9,10,11]
 have hj2:j=n.types.length:=by omega
 rw[hj2,aO,sF]at i4;subst i4;by_cases q0:S.e=0;rotate_left
 ·rw[aC q0];simp[hj,q0];refine gQ hb0 ?_;simp;refine⟨by decide,?_⟩;exact fJ [0,1,2,9,4,11,3,5] [6,7,8,9,10,11]
 rw[aB (λz=>z q0)];have hbi:=zH6 d.vars ts (by omega);simp only;generalize Du d.vars ts=B at*
 have z3:=uo (ts.map gT.enc) ts.length (by simp);simp[hj,q0];refine fT [17] ?_;simp[iV,z3];refine gQ hbi ?_;by_cases b0:B=0;rotate_left
 ·rw[aC b0];have m:=vE L n B S;generalize ky n.line n.col B S=s2 at*
  simp[b0];refine gN [0,1,2,3,4,5] m ?_;simp;refine gQ hb0 ?_;simp;refine⟨by decide,?_⟩;exact fJ [0,1,2,9,4,11,3,5] [6,7,8,9,10,11]
 rw[aB (λz=>z b0)];have m:=WA L hL n e.1 hen2 ts (by omega) S i2.tab;generalize sZ L n.line n.col e.1 ts S=r at*
 simp[b0,iV,z3];refine gN [0,1,2,3,4,5] m ?_;simp;exact fJ [0,1,2,9,4,11,18,19] [6,7,8,9,10,11]
end
section
variable (L:iN)
theorem zIk(v:fE × gT)(t:gT):put ((iZ v).map AC.d) 1 (t.enc.map AC.d)=(iZ (v.1,t)).map AC.d:=by
 obtain⟨x,k⟩:=v;cases k;cases t;rfl
theorem zHc{a b:gT}(ha:jD a)(hb:jD b):jD (yX a b):=by
 unfold yX;split
 ·exact hb
 split
 ·exact ha
 split
 ·exact rA
 split
 ·exact rA
 split
 ·exact FK _
 ·exact rA
theorem zD1{t:gT}(ht:jD t)(tag:Int):jD (vN t tag).1/\jD (vN t tag).2:=by
 unfold vN;split
 ·exact⟨ht,ht⟩
 split
 ·split
  ·exact⟨ht,ht⟩
  ·rename_i q1 q2 q3;refine⟨?_,ht⟩;by_cases h:tag=4
   ·rw[h];exact NH
   ·exact vU _ (by omega) (by omega)
 split
 ·exact⟨ht,ht⟩
 split
 ·exact⟨ht,ht⟩
 rename_i q1 q2 q3 q4;have p2:(jy (kW t) tag).2=true:=by simpa using q3
 have k7:t.kind=7:=by simpa using q4
 have h1:jD (jy (kW t) tag).1.t:=(FT ht q2 (Dy p2).1).1;have hm:∀x,x∈(t.kids.filter λk=>decide (iH k≠tag))->x∈t.kids:=λx hx=>(bD.1 hx).1;have hl:(t.kids.filter λk=>decide (iH k≠tag)).length<=t.kids.length:=bS _ _;have h7:t.kids.length<=6/\∀x,x∈t.kids->1<=x.kind/\x.kind<=6:=by
  rcases((ll t).1 ht).2.2 with⟨_,q,_,_⟩|⟨q,_⟩|⟨q,_,_⟩|⟨_,_,q,r⟩
  ·omega
  ·omega
  ·omega
  ·exact⟨q,r⟩
 generalize (t.kids.filter λk=>decide (iH k≠tag))=F at*
 split
 ·rename_i r;exact⟨h1,xy ht (hm r (by simp))⟩
 ·exact⟨h1,(ll _).2 ⟨rfl,λx hx=>xy ht (hm x hx),.inr (.inr (.inr ⟨rfl,rfl,by show F.length<=6;omega,λx hx=>h7.2 x (hm x hx)⟩))⟩⟩
theorem rX.set{env:Env}{b:Nat}(h:rX env b)(k:Nat)(x:fE){t:gT}(ht:jD t):rX (env.set k (x,t)) b:=⟨by simpa using h.len,λv hv=>by
 rcases eT hv with hv|hv
 ·exact h.wf v hv
 ·subst hv;exact ht⟩
theorem WL{env:Env}{b:Nat}(h:rX env b)(q:gp):rX (oL q env).1 b/\rX (oL q env).2 b:=by
 unfold oL;split
 ·have hw:=zD1 (WJ h (qz env (q.kids.getD 0 qR).text).toNat) q.n;exact⟨h.set _ _ hw.1,h.set _ _ hw.2⟩
 ·exact⟨h,h⟩
theorem NL(n q a b:gp)(hk:n.kids=[q,a,b])(iq ia ib:Inf)(hq:jd L q iq)(ha:jd L a ia)(hb:jd L b ib):jd L n (xQ q a b iq ia ib):=λenv s k he hs=>by
 have hn:iF n=iF q+(iF a+iF b)+1:=by rw[qE,hk];simp[iO]
 have h1:=hq env s (3+8*iF a+8*iF b+k) (he.less (by omega)) (hs.less (by omega));have hne:=WL he q;unfold xQ;simp only;generalize iq env s=r1 at*
 have h2:=xX (b:=2+8*iF a+8*iF b+k) (h1.1.less (by omega)) r1.1.1 r1.1.2 (bT 2) q.line q.col;generalize ko r1.1.1 r1.1.2 (bT 2) q.line q.col r1.2=r2 at*
 have h3:=ha (oL q env).1 r2.2 (2+8*iF b+k) (hne.1.less (by omega)) (h2.less (by omega));generalize ia (oL q env).1 r2.2=r3 at*
 have h4:=hb (oL q env).2 r3.2 (2+k) (hne.2.less (by omega)) (h3.1.less (by omega));generalize ib (oL q env).2 r3.2=r4 at*
 have h5:=xX (b:=1+k) (h4.1.less (by omega)) r3.1.1 r3.1.2 (yX r3.1.2 r4.1.2) a.line a.col;generalize ko r3.1.1 r3.1.2 (yX r3.1.2 r4.1.2) a.line a.col r4.2=r5 at*
 exact⟨xX (h5.less (by omega)) _ _ _ _ _,zHc h3.2 h4.2⟩
theorem zD2(n q a b:gp)(hk:n.kids=[q,a,b])(hqk:q.kind=12->∃w,q.kids=[w])(iq ia ib:Inf)(hq:rC L q iq)(ha:rC L a ia)(hb:rC L b ib):jL L 88 n (xQ q a b iq ia ib):=λenv s k he hs=>by
 refine zBJ lZ λts hts ok hbk c hN hp=>?_;obtain⟨t,u,v,w,x,y,rfl⟩:=mM hts;have hn:iF n=iF q+(iF a+iF b)+1:=by rw[qE,hk];simp[iO]
 have hel:=he.len;have hb2:=ku 2;have m1:=hq.1 env s (3+8*iF a+8*iF b+k) (he.less (by omega)) (hs.less (by omega));have h1:=hq.2 env s (3+8*iF a+8*iF b+k) (he.less (by omega)) (hs.less (by omega));have hne:=WL he q;unfold xQ;simp only;generalize iq env s=r1 at*
 have m2:=yg L r1.1.1 r1.1.2 (bT 2) q r1.2 (by have:=h1.1.sites;omega);have h2:=xX (b:=2+8*iF a+8*iF b+k) (h1.1.less (by omega)) r1.1.1 r1.1.2 (bT 2) q.line q.col;generalize ko r1.1.1 r1.1.2 (bT 2) q.line q.col r1.2=r2 at*
 obtain⟨ea,hea⟩:∃ea,(oL q env).1=ea:=⟨_,rfl⟩
 obtain⟨eb,heb⟩:∃eb,(oL q env).2=eb:=⟨_,rfl⟩
 rw[hea,heb]at hne⊢;have m3:=ha.1 ea r2.2 (2+8*iF b+k) (hne.1.less (by omega)) (h2.less (by omega));have h3:=ha.2 ea r2.2 (2+8*iF b+k) (hne.1.less (by omega)) (h2.less (by omega));generalize ia ea r2.2=r3 at*
 have m4:=hb.1 eb r3.2 (2+k) (hne.2.less (by omega)) (h3.1.less (by omega));have h4:=hb.2 eb r3.2 (2+k) (hne.2.less (by omega)) (h3.1.less (by omega));generalize ib eb r3.2=r4 at*
 have hj:=zHL r3.1.2 r4.1.2;generalize yX r3.1.2 r4.1.2=J at*
 have m5:=yg L r3.1.1 r3.1.2 J a r4.2 (by have:=h4.1.sites;omega);have h5:=xX (b:=1+k) (h4.1.less (by omega)) r3.1.1 r3.1.2 J a.line a.col;generalize ko r3.1.1 r3.1.2 J a.line a.col r4.2=r5 at*
 have m6:=yg L r4.1.1 r4.1.2 J b r5.2 (by have:=h5.sites;omega);generalize ko r4.1.1 r4.1.2 J b.line b.col r5.2=r6 at*
 have zA:=uo (ea.map iZ) env.length;have zB:=uo (eb.map iZ) env.length;unfold V7;simp[hk];refine gN [0,1,2,3,4,5] m1 ?_;simp;refine gQ hb2 ?_;simp;refine gN [0,1,2,15,4,16] m2 ?_;simp;refine⟨by decide,by omega,?_⟩;by_cases c12:q.kind=12;rotate_left
 ·have e:oL q env=(env,env):=by unfold oL;rw[aB (λz=>c12 z.1)]
  rw[e]at hea heb;simp only at hea heb;subst hea;subst heb;have zA:=zA (by simp);have zB:=zA;simp[c12];refine fT [20,21] ?_;simp[iV,hk,zA,zB, -map_set];refine gN [0,1,2,19,4,16] m3 ?_;simp[iV,hk,zA,zB, -map_set];refine gN [0,1,2,22,4,23] m4 ?_;simp[hk];refine gQ hj ?_;simp[hk];refine gN [0,1,2,26,4,27] m5 ?_;simp[hk];refine⟨by decide,?_⟩;refine gN [0,1,2,31,4,27] m6 ?_;simp;refine⟨by decide,by decide,?_⟩;exact fJ [0,1,2,9,4,11,32,27] [6,7,8,9,10,11]
 obtain⟨w',hw'⟩:=hqk c12;have g0:q.kids.getD 0 qR=w':=by rw[hw'];try rfl
 by_cases c4:w'.kind=4;rotate_left
 ·have e:oL q env=(env,env):=by unfold oL;rw[g0,aB (λz=>c4 z.2.1)]
  rw[e]at hea heb;simp only at hea heb;subst hea;subst heb;have zA:=zA (by simp);have zB:=zA;simp[c12,hw',c4];refine fT [20,21] ?_;simp[iV,hk,zA,zB, -map_set];refine gN [0,1,2,19,4,16] m3 ?_;simp[iV,hk,zA,zB, -map_set];refine gN [0,1,2,22,4,23] m4 ?_;simp[hk];refine gQ hj ?_;simp[hk];refine gN [0,1,2,26,4,27] m5 ?_;simp[hk];refine⟨by decide,?_⟩;refine gN [0,1,2,31,4,27] m6 ?_;simp;refine⟨by decide,by decide,?_⟩;exact fJ [0,1,2,9,4,11,32,27] [6,7,8,9,10,11]
 have hfi:=find_ok env (by omega) w'.text;have hfl:=Mv env w'.text;have e:oL q env=if 0<=qz env w'.text then(env.set (qz env w'.text).toNat ((env.getD (qz env w'.text).toNat (bs [],noT)).1,(vN (env.getD (qz env w'.text).toNat (bs [],noT)).2 q.n).1),env.set (qz env w'.text).toNat ((env.getD (qz env w'.text).toNat (bs [],noT)).1,(vN (env.getD (qz env w'.text).toNat (bs [],noT)).2 q.n).2))else(env,env):=by
  unfold oL;rw[g0];by_cases z:0<=qz env w'.text
  ·rw[aC ⟨c12,c4,z⟩,aC z]
  ·rw[aB (λp=>z p.2.2),aB z]
 generalize qz env w'.text=z at*
 by_cases z0:0<=z;rotate_left
 ·rw[aB z0]at e;rw[e]at hea heb;simp only at hea heb;subst hea;subst heb;have zA:=zA (by simp);have zB:=zA;simp[c12,hw',c4];refine gQ hfi ?_;simp[z0];refine fT [20,21] ?_;simp[iV,hk,zA,zB, -map_set];refine gN [0,1,2,19,4,16] m3 ?_;simp[iV,hk,zA,zB, -map_set];refine gN [0,1,2,22,4,23] m4 ?_;simp[hk];refine gQ hj ?_;simp[hk];refine gN [0,1,2,26,4,27] m5 ?_;simp[hk];refine⟨by decide,?_⟩;refine gN [0,1,2,31,4,27] m6 ?_;simp;refine⟨by decide,by decide,?_⟩;exact fJ [0,1,2,9,4,11,32,27] [6,7,8,9,10,11]
 rw[aC z0]at e;obtain⟨zn,hzn⟩:∃zn:Nat,z=zn:=⟨z.toNat,by omega⟩
 have hzl:zn<env.length:=by omega
 obtain⟨v',hv⟩:∃v',env[zn]=v':=⟨_,rfl⟩
 subst hzn;have hv2:env.getD (zn:Int).toNat (bs [],noT)=v':=by simp only[bB];rw[aH,aA hzl,hv];try rfl
 rw[hv2]at e;simp only[bB]at e;have hnr:=zEz v'.2 q.n;generalize vN v'.2 q.n=N at*
 rw[e]at hea heb;simp only at hea heb;subst hea;subst heb;have zA:=zA (by simp);have zB:=zB (by simp);simp[c12,hw',c4];refine gQ hfi ?_;simp[z0,hzl,hv];refine gQ hnr ?_;simp[hzl,hv];refine⟨by decide,?_⟩;have ps:∀t1:gT,(List.map ((λx=>List.map AC.d x)∘iZ) env).set zn (put (List.map AC.d (iZ v')) 1 (List.map AC.d t1.enc))=List.map ((λx=>List.map AC.d x)∘iZ) (env.set zn (v'.1,t1)):=λt1=>by
  rw[zIk,fD];try rfl
 simp only[ps];refine fT [20,21] ?_;simp[iV,hk,zA,zB, -map_set];refine gN [0,1,2,19,4,16] m3 ?_;simp[iV,hk,zA,zB, -map_set];refine gN [0,1,2,24,4,25] m4 ?_;simp[hk];refine gQ hj ?_;simp[hk];refine gN [0,1,2,28,4,29] m5 ?_;simp[hk];refine⟨by decide,?_⟩;refine gN [0,1,2,33,4,29] m6 ?_;simp;refine⟨by decide,by decide,?_⟩;exact fJ [0,1,2,9,4,11,34,29] [6,7,8,9,10,11]
end
end Go.Gr
namespace Go.Gr
open Go.Abs Go.Proofs
def oW(k:Int)(ts:List gT)(ns:List fE)(ks:List gp):Prop:=
(k=0\/k=1\/k=2\/k=3\/k=18)\/((k=4\/k=19)/\ts.length<=1000000)\/(k=8/\ns.length<=1000000)\/(k=6/\ks.length=1/\1<=ts.length)\/(k=13/\ks.length=1/\1<=ts.length)\/(k=9/\ks.length=1)\/((k=12\/k=15\/k=16\/k=17)/\ks.length=1)\/(k=5/\ks.length=2)\/(k=7/\ks.length=2)\/(k=10/\ks.length=2)\/(k=14/\ks.length=2)\/(k=11/\ks.length=3)
mutual
def oG:gp->Prop
|.mk k _ _ _ _ ts ns ks=>nR ks/\oW k ts ns ks
def nR:List gp->Prop
|[]=>True
|n::l=>oG n/\nR l
end
theorem Fe:∀l:List gp,nR l↔∀x,x∈l->oG x
|[]=>by simp[nR]
|n::l=>by simp[nR,Fe l]
theorem WN(n:gp):oG n↔(∀x,x∈n.kids->oG x)/\oW n.kind n.types n.names n.kids:=by
 cases n;rw[oG,Fe];try rfl
def kI(j:Inf):Inf:=λenv s=>if s.e≠0 then((noC,noT),s)else j env s
section
variable (L:iN)
theorem xz{n:gp}{j:Inf}(h:jd L n j):jd L n (kI j):=λenv s k he hs=>by
 unfold kI;split
 ·exact⟨hs.less (by omega),rA⟩
 ·exact h env s k he hs
theorem zEi(n:gp)(K:n.kind=4\/n.kind=19)(j:Inf)(h:jL L 81 n j):jL L 58 n (kI j):=λenv s k he hs=>by
 refine um lZ λts hts ok hbk c hN hp=>?_;obtain⟨t,u,v,w,x,y,rfl⟩:=mM hts;have hb0:=ku 0;have m:=h env s k he hs;unfold kI;by_cases q0:s.e=0;rotate_left
 ·rw[aC q0];unfold nP;simp[q0];refine gQ hb0 ?_;simp;exact fJ [0,1,2,9,4,11,3,5] [6,7,8,9,10,11]
 rw[aB (λz=>z q0)];generalize j env s=r at*
 unfold nP;rcases K with K|K
 ·simp[q0,K];refine gN [0,1,2,3,4,5] m ?_;simp;exact fJ [0,1,2,9,4,11,14,15] [6,7,8,9,10,11]
 ·simp[q0,K];refine gN [0,1,2,3,4,5] m ?_;simp;exact fJ [0,1,2,9,4,11,14,15] [6,7,8,9,10,11]
theorem zHB(n:gp)(K:n.kind=5)(j:Inf)(h:jL L 82 n j):jL L 58 n (kI j):=λenv s k he hs=>by
 refine um lZ λts hts ok hbk c hN hp=>?_;obtain⟨t,u,v,w,x,y,rfl⟩:=mM hts;have hb0:=ku 0;have m:=h env s k he hs;unfold kI;by_cases q0:s.e=0;rotate_left
 ·rw[aC q0];unfold nP;simp[q0];refine gQ hb0 ?_;simp;exact fJ [0,1,2,9,4,11,3,5] [6,7,8,9,10,11]
 rw[aB (λz=>z q0)];generalize j env s=r at*
 unfold nP
 skip
 ·simp[q0,K];refine gN [0,1,2,3,4,5] m ?_;simp;exact fJ [0,1,2,9,4,11,14,15] [6,7,8,9,10,11]
theorem zIx(n:gp)(K:n.kind=6)(j:Inf)(h:jL L 83 n j):jL L 58 n (kI j):=λenv s k he hs=>by
 refine um lZ λts hts ok hbk c hN hp=>?_;obtain⟨t,u,v,w,x,y,rfl⟩:=mM hts;have hb0:=ku 0;have m:=h env s k he hs;unfold kI;by_cases q0:s.e=0;rotate_left
 ·rw[aC q0];unfold nP;simp[q0];refine gQ hb0 ?_;simp;exact fJ [0,1,2,9,4,11,3,5] [6,7,8,9,10,11]
 rw[aB (λz=>z q0)];generalize j env s=r at*
 unfold nP
 skip
 ·simp[q0,K];refine gN [0,1,2,3,4,5] m ?_;simp;exact fJ [0,1,2,9,4,11,14,15] [6,7,8,9,10,11]
theorem zFU(n:gp)(K:n.kind=7)(j:Inf)(h:jL L 84 n j):jL L 58 n (kI j):=λenv s k he hs=>by
 refine um lZ λts hts ok hbk c hN hp=>?_;obtain⟨t,u,v,w,x,y,rfl⟩:=mM hts;have hb0:=ku 0;have m:=h env s k he hs;unfold kI;by_cases q0:s.e=0;rotate_left
 ·rw[aC q0];unfold nP;simp[q0];refine gQ hb0 ?_;simp;exact fJ [0,1,2,9,4,11,3,5] [6,7,8,9,10,11]
 rw[aB (λz=>z q0)];generalize j env s=r at*
 unfold nP
 skip
 ·simp[q0,K];refine gN [0,1,2,3,4,5] m ?_;simp;exact fJ [0,1,2,9,4,11,14,15] [6,7,8,9,10,11]
theorem zDh(n:gp)(K:n.kind=8)(j:Inf)(h:jL L 85 n j):jL L 58 n (kI j):=λenv s k he hs=>by
 refine um lZ λts hts ok hbk c hN hp=>?_;obtain⟨t,u,v,w,x,y,rfl⟩:=mM hts;have hb0:=ku 0;have m:=h env s k he hs;unfold kI;by_cases q0:s.e=0;rotate_left
 ·rw[aC q0];unfold nP;simp[q0];refine gQ hb0 ?_;simp;exact fJ [0,1,2,9,4,11,3,5] [6,7,8,9,10,11]
 rw[aB (λz=>z q0)];generalize j env s=r at*
 unfold nP
 skip
 ·simp[q0,K];refine gN [0,1,2,3,4,5] m ?_;simp;exact fJ [0,1,2,9,4,11,14,15] [6,7,8,9,10,11]
theorem zHC(n:gp)(K:n.kind=9)(j:Inf)(h:jL L 86 n j):jL L 58 n (kI j):=λenv s k he hs=>by
 refine um lZ λts hts ok hbk c hN hp=>?_;obtain⟨t,u,v,w,x,y,rfl⟩:=mM hts;have hb0:=ku 0;have m:=h env s k he hs;unfold kI;by_cases q0:s.e=0;rotate_left
 ·rw[aC q0];unfold nP;simp[q0];refine gQ hb0 ?_;simp;exact fJ [0,1,2,9,4,11,3,5] [6,7,8,9,10,11]
 rw[aB (λz=>z q0)];generalize j env s=r at*
 unfold nP
 skip
 ·simp[q0,K];refine gN [0,1,2,3,4,5] m ?_;simp;exact fJ [0,1,2,9,4,11,14,15] [6,7,8,9,10,11]
theorem zEj(n:gp)(K:n.kind=10)(j:Inf)(h:jL L 87 n j):jL L 58 n (kI j):=λenv s k he hs=>by
 refine um lZ λts hts ok hbk c hN hp=>?_;obtain⟨t,u,v,w,x,y,rfl⟩:=mM hts;have hb0:=ku 0;have m:=h env s k he hs;unfold kI;by_cases q0:s.e=0;rotate_left
 ·rw[aC q0];unfold nP;simp[q0];refine gQ hb0 ?_;simp;exact fJ [0,1,2,9,4,11,3,5] [6,7,8,9,10,11]
 rw[aB (λz=>z q0)];generalize j env s=r at*
 unfold nP
 skip
 ·simp[q0,K];refine gN [0,1,2,3,4,5] m ?_;simp;exact fJ [0,1,2,9,4,11,14,15] [6,7,8,9,10,11]
theorem zDi(n:gp)(K:n.kind=11)(j:Inf)(h:jL L 88 n j):jL L 58 n (kI j):=λenv s k he hs=>by
 refine um lZ λts hts ok hbk c hN hp=>?_;obtain⟨t,u,v,w,x,y,rfl⟩:=mM hts;have hb0:=ku 0;have m:=h env s k he hs;unfold kI;by_cases q0:s.e=0;rotate_left
 ·rw[aC q0];unfold nP;simp[q0];refine gQ hb0 ?_;simp;exact fJ [0,1,2,9,4,11,3,5] [6,7,8,9,10,11]
 rw[aB (λz=>z q0)];generalize j env s=r at*
 unfold nP
 skip
 ·simp[q0,K];refine gN [0,1,2,3,4,5] m ?_;simp;exact fJ [0,1,2,9,4,11,14,15] [6,7,8,9,10,11]
theorem zIy(n:gp)(K:n.kind=13)(j:Inf)(h:jL L 89 n j):jL L 58 n (kI j):=λenv s k he hs=>by
 refine um lZ λts hts ok hbk c hN hp=>?_;obtain⟨t,u,v,w,x,y,rfl⟩:=mM hts;have hb0:=ku 0;have m:=h env s k he hs;unfold kI;by_cases q0:s.e=0;rotate_left
 ·rw[aC q0];unfold nP;simp[q0];refine gQ hb0 ?_;simp;exact fJ [0,1,2,9,4,11,3,5] [6,7,8,9,10,11]
 rw[aB (λz=>z q0)];generalize j env s=r at*
 unfold nP
 skip
 ·simp[q0,K];refine gN [0,1,2,3,4,5] m ?_;simp;exact fJ [0,1,2,9,4,11,14,15] [6,7,8,9,10,11]
theorem zIz(n:gp)(K:n.kind=14)(j:Inf)(h:jL L 90 n j):jL L 58 n (kI j):=λenv s k he hs=>by
 refine um lZ λts hts ok hbk c hN hp=>?_;obtain⟨t,u,v,w,x,y,rfl⟩:=mM hts;have hb0:=ku 0;have m:=h env s k he hs;unfold kI;by_cases q0:s.e=0;rotate_left
 ·rw[aC q0];unfold nP;simp[q0];refine gQ hb0 ?_;simp;exact fJ [0,1,2,9,4,11,3,5] [6,7,8,9,10,11]
 rw[aB (λz=>z q0)];generalize j env s=r at*
 unfold nP
 skip
 ·simp[q0,K];refine gN [0,1,2,3,4,5] m ?_;simp;exact fJ [0,1,2,9,4,11,14,15] [6,7,8,9,10,11]
theorem zHD(n:gp)(K:n.kind=12\/n.kind=15\/n.kind=16\/n.kind=17)(j:Inf)(h:jL L 91 n j):jL L 58 n (kI j):=λenv s k he hs=>by
 refine um lZ λts hts ok hbk c hN hp=>?_;obtain⟨t,u,v,w,x,y,rfl⟩:=mM hts;have hb0:=ku 0;have m:=h env s k he hs;unfold kI;by_cases q0:s.e=0;rotate_left
 ·rw[aC q0];unfold nP;simp[q0];refine gQ hb0 ?_;simp;exact fJ [0,1,2,9,4,11,3,5] [6,7,8,9,10,11]
 rw[aB (λz=>z q0)];generalize j env s=r at*
 unfold nP;rcases K with K|K|K|K
 ·simp[q0,K];refine gN [0,1,2,3,4,5] m ?_;simp;exact fJ [0,1,2,9,4,11,14,15] [6,7,8,9,10,11]
 ·simp[q0,K];refine gN [0,1,2,3,4,5] m ?_;simp;exact fJ [0,1,2,9,4,11,14,15] [6,7,8,9,10,11]
 ·simp[q0,K];refine gN [0,1,2,3,4,5] m ?_;simp;exact fJ [0,1,2,9,4,11,14,15] [6,7,8,9,10,11]
 ·simp[q0,K];refine gN [0,1,2,3,4,5] m ?_;simp;exact fJ [0,1,2,9,4,11,14,15] [6,7,8,9,10,11]
theorem zHE(n:gp)(K:n.kind=0):jL L 58 n (kI λenv s=>((cN 0 n.n,bT 3),s)):=λenv s k he hs=>by
 refine um lZ λts hts ok hbk c hN hp=>?_;obtain⟨t,u,v,w,x,y,rfl⟩:=mM hts;have hb0:=ku 0;have hbK:=ku 3;unfold kI;by_cases q0:s.e=0;rotate_left
 ·rw[aC q0];unfold nP;simp[q0];refine gQ hb0 ?_;simp;exact fJ [0,1,2,9,4,11,3,5] [6,7,8,9,10,11]
 rw[aB (λz=>z q0)];unfold nP;simp[q0,K];refine gQ hbK ?_;simp;refine⟨by decide,?_⟩;exact fJ [0,1,2,9,4,11,3,5] [6,7,8,9,10,11]
theorem zHF(n:gp)(K:n.kind=1):jL L 58 n (kI λenv s=>((cT 1 n.text [],bT 4),s)):=λenv s k he hs=>by
 refine um lZ λts hts ok hbk c hN hp=>?_;obtain⟨t,u,v,w,x,y,rfl⟩:=mM hts;have hb0:=ku 0;have hbK:=ku 4;unfold kI;by_cases q0:s.e=0;rotate_left
 ·rw[aC q0];unfold nP;simp[q0];refine gQ hb0 ?_;simp;exact fJ [0,1,2,9,4,11,3,5] [6,7,8,9,10,11]
 rw[aB (λz=>z q0)];unfold nP;simp[q0,K];refine gQ hbK ?_;simp;refine⟨by decide,?_⟩;exact fJ [0,1,2,9,4,11,3,5] [6,7,8,9,10,11]
theorem zFV(n:gp)(K:n.kind=2):jL L 58 n (kI λenv s=>((cN 2 n.n,bT 2),s)):=λenv s k he hs=>by
 refine um lZ λts hts ok hbk c hN hp=>?_;obtain⟨t,u,v,w,x,y,rfl⟩:=mM hts;have hb0:=ku 0;have hbK:=ku 2;unfold kI;by_cases q0:s.e=0;rotate_left
 ·rw[aC q0];unfold nP;simp[q0];refine gQ hb0 ?_;simp;exact fJ [0,1,2,9,4,11,3,5] [6,7,8,9,10,11]
 rw[aB (λz=>z q0)];unfold nP;simp[q0,K];refine gQ hbK ?_;simp;refine⟨by decide,?_⟩;exact fJ [0,1,2,9,4,11,3,5] [6,7,8,9,10,11]
theorem zHG(n:gp)(K:n.kind=3):jL L 58 n (kI λenv s=>((cN 3 0,bT 1),s)):=λenv s k he hs=>by
 refine um lZ λts hts ok hbk c hN hp=>?_;obtain⟨t,u,v,w,x,y,rfl⟩:=mM hts;have hb0:=ku 0;have hbK:=ku 1;unfold kI;by_cases q0:s.e=0;rotate_left
 ·rw[aC q0];unfold nP;simp[q0];refine gQ hb0 ?_;simp;exact fJ [0,1,2,9,4,11,3,5] [6,7,8,9,10,11]
 rw[aB (λz=>z q0)];unfold nP;simp[q0,K];refine gQ hbK ?_;simp;exact fJ [0,1,2,9,4,11,3,5] [6,7,8,9,10,11]
theorem zFW(n:gp)(K:n.kind=18):jL L 58 n (kI λenv s=>((cN 20 0,bT 3),s)):=λenv s k he hs=>by
 refine um lZ λts hts ok hbk c hN hp=>?_;obtain⟨t,u,v,w,x,y,rfl⟩:=mM hts;have hb0:=ku 0;have hbK:=ku 3;unfold kI;by_cases q0:s.e=0;rotate_left
 ·rw[aC q0];unfold nP;simp[q0];refine gQ hb0 ?_;simp;exact fJ [0,1,2,9,4,11,3,5] [6,7,8,9,10,11]
 rw[aB (λz=>z q0)];unfold nP;simp[q0,K];refine gQ hbK ?_;simp;exact fJ [0,1,2,9,4,11,3,5] [6,7,8,9,10,11]
theorem Ff{n:gp}{c:Env->CS->gu}{b:Int}(h0:0<=b)(h4:b<=4):jd L n (kI λenv s=>((c env s,bT b),s)):=xz L λenv s k he hs=>⟨hs.less (by omega),vU b h0 h4⟩
theorem Fg{l:List gp}(h:l.length=1):∃a,l=[a]:=by
 match l,h with
 |[a],_=>exact⟨a,rfl⟩
theorem Ii{l:List gp}(h:l.length=2):∃a b,l=[a,b]:=by
 match l,h with
 |[a,b],_=>exact⟨a,b,rfl⟩
theorem zBW{l:List gp}(h:l.length=3):∃a b c,l=[a,b,c]:=by
 match l,h with
 |[a,b,c],_=>exact⟨a,b,c,rfl⟩
def pK(n:gp)(rest:Inf):Inf:=λenv s=>
 if n.kind=0 then((cN 0 n.n,bT 3),s)
 else if n.kind=1 then((cT 1 n.text [],bT 4),s)
 else if n.kind=2 then((cN 2 n.n,bT 2),s)
 else if n.kind=3 then((cN 3 0,bT 1),s)
 else if n.kind=18 then((cN 20 0,bT 3),s)
 else if n.kind=4\/n.kind=19 then xM L n env s
 else if n.kind=8 then qB n (oC L n.kids) env s
 else rest env s
def BU(n a:gp):Inf:=λenv s=>
 if n.kind=6 then xN n a (ig L a) env s
 else if n.kind=9 then pI n (ig L a) env s
 else if n.kind=13 then xR n (ig L a) env s
 else pJ n a (ig L a) env s
def BV(n a b:gp):Inf:=λenv s=>
 if n.kind=5 then pG n a (ig L a) (ig L b) env s
 else if n.kind=7 then xO n b (ig L a) (ig L b) env s
 else if n.kind=10 then xP n (ig L a) (ig L b) env s
 else opC n a b (ig L a) (ig L b) env s
theorem Ij(k:Int)(tx:fE)(nn ln cl:Int)(ts:List gT)(ns:List fE):ig L (.mk k tx nn ln cl ts ns [])=kI (pK L (.mk k tx nn ln cl ts ns []) λenv s=>((noC,noT),s)):=by with_unfolding_all rfl
theorem BX(k:Int)(tx:fE)(nn ln cl:Int)(ts:List gT)(ns:List fE)(a:gp):ig L (.mk k tx nn ln cl ts ns [a])=kI (pK L (.mk k tx nn ln cl ts ns [a]) (BU L (.mk k tx nn ln cl ts ns [a]) a)):=by with_unfolding_all rfl
theorem BZ(k:Int)(tx:fE)(nn ln cl:Int)(ts:List gT)(ns:List fE)(a b:gp):ig L (.mk k tx nn ln cl ts ns [a,b])=kI (pK L (.mk k tx nn ln cl ts ns [a,b]) (BV L (.mk k tx nn ln cl ts ns [a,b]) a b)):=by with_unfolding_all rfl
theorem Fh(k:Int)(tx:fE)(nn ln cl:Int)(ts:List gT)(ns:List fE)(a b c:gp)(l:List gp):ig L (.mk k tx nn ln cl ts ns (a::b::c::l))=kI (pK L (.mk k tx nn ln cl ts ns (a::b::c::l)) (xQ a b c (ig L a) (ig L b) (ig L c))):=by with_unfolding_all rfl
theorem Cr(n:gp)(j:Inf)(h:∀rest,pK L n rest=j):ig L n=kI j:=by
 obtain⟨k,tx,nn,ln,cl,ts,ns,ks⟩:=n
 match ks,h with
 |[],h=>rw[Ij,h]
 |[a],h=>rw[BX,h]
 |[a,b],h=>rw[BZ,h]
 |a::b::c::l,h=>rw[Fh,h]
theorem zEk(hL:nZ L)(n:gp)(hw:oG n)(ih:∀x,x∈n.kids->rC L x (ig L x)):rC L n (ig L n):=by
 obtain⟨hws,hs⟩:=(WN n).1 hw;obtain⟨k,tx,nn,ln,cl,ts,ns,ks⟩:=n;simp only[gp.kind,gp.kids,gp.types,gp.names]at hws hs ih;have go:∀j:Inf,ig L (.mk k tx nn ln cl ts ns ks)=kI j->jL L 58 (.mk k tx nn ln cl ts ns ks) (kI j)->jd L (.mk k tx nn ln cl ts ns ks) (kI j)->rC L (.mk k tx nn ln cl ts ns ks) (ig L (.mk k tx nn ln cl ts ns ks)):=λj e m p=>by rw[e];exact⟨m,p⟩
 rcases hs with(K|K|K|K|K)|⟨K,t1⟩|⟨K,t1⟩|⟨K,l1,t1⟩|⟨K,l1,t1⟩|⟨K,l1⟩|⟨K,l1⟩|⟨K,l1⟩|⟨K,l1⟩|⟨K,l1⟩|⟨K,l1⟩|⟨K,l1⟩
 ·exact go _ (Cr L _ _ λrest=>by funext env s;simp[pK,gp.kind,gp.n,gp.text,K]) (zHE L _ (by exact K)) (Ff L (by omega) (by omega))
 ·exact go _ (Cr L _ _ λrest=>by funext env s;simp[pK,gp.kind,gp.n,gp.text,K]) (zHF L _ (by exact K)) (Ff L (by omega) (by omega))
 ·exact go _ (Cr L _ _ λrest=>by funext env s;simp[pK,gp.kind,gp.n,gp.text,K]) (zFV L _ (by exact K)) (Ff L (by omega) (by omega))
 ·exact go _ (Cr L _ _ λrest=>by funext env s;simp[pK,gp.kind,gp.n,gp.text,K]) (zHG L _ (by exact K)) (Ff L (by omega) (by omega))
 ·exact go _ (Cr L _ _ λrest=>by funext env s;simp[pK,gp.kind,gp.n,gp.text,K]) (zFW L _ (by exact K)) (Ff L (by omega) (by omega))
 ·exact go (xM L (.mk k tx nn ln cl ts ns ks)) (Cr L _ _ λrest=>by funext env s;rcases K with K|K<;>simp[pK,gp.kind,K]) (zEi L _ (by exact K) _ (zE8 L hL _ (by exact t1))) (xz L (zH3 L hL _ (by exact t1)))
 ·exact go (qB (.mk k tx nn ln cl ts ns ks) (oC L ks)) (Cr L _ _ λrest=>by funext env s;simp[pK,gp.kind,gp.kids,K]) (zDh L _ (by exact K) _ (zDV L _ (by exact t1) (by exact ih))) (xz L (zJC L _ λx hx=>(ih x hx).2))
 ·obtain⟨a,rfl⟩:=Fg l1;have ia:=ih a (by simp);exact go (xN (.mk k tx nn ln cl ts ns [a]) a (ig L a)) (by rw[BX];funext env s;simp[kI,pK,BU,gp.kind,K]) (zIx L _ (by exact K) _ (zI3 L _ a rfl (by exact t1) _ ia)) (xz L (NA L _ a rfl _ ia.2))
 ·obtain⟨a,rfl⟩:=Fg l1;have ia:=ih a (by simp);exact go (xR (.mk k tx nn ln cl ts ns [a]) (ig L a)) (by rw[BX];funext env s;simp[kI,pK,BU,gp.kind,K]) (zIy L _ (by exact K) _ (zIN L _ a rfl (by exact t1) _ ia)) (xz L (NC L _ a rfl _ ia.2))
 ·obtain⟨a,rfl⟩:=Fg l1;have ia:=ih a (by simp);exact go (pI (.mk k tx nn ln cl ts ns [a]) (ig L a)) (by rw[BX];funext env s;simp[kI,pK,BU,gp.kind,K]) (zHC L _ (by exact K) _ (zIh L _ a rfl _ ia)) (xz L (zJJ L _ a rfl _ ia.2))
 ·obtain⟨a,rfl⟩:=Fg l1;have ia:=ih a (by simp);exact go (pJ (.mk k tx nn ln cl ts ns [a]) a (ig L a)) (by rw[BX];funext env s;rcases K with K|K|K|K<;>simp[kI,pK,BU,gp.kind,K]) (zHD L _ (by exact K) _ (zH2 L _ a rfl _ ia)) (xz L (zJw L _ a rfl _ ia.2))
 ·obtain⟨a,b,rfl⟩:=Ii l1;have ia:=ih a (by simp);have ib:=ih b (by simp);exact go (pG (.mk k tx nn ln cl ts ns [a,b]) a (ig L a) (ig L b)) (by rw[BZ];funext env s;simp[kI,pK,BV,gp.kind,K]) (zHB L _ (by exact K) _ (zId L _ a b rfl _ _ ia ib)) (xz L (zJH L _ a b rfl _ _ ia.2 ib.2))
 ·obtain⟨a,b,rfl⟩:=Ii l1;have ia:=ih a (by simp);have ib:=ih b (by simp);exact go (xO (.mk k tx nn ln cl ts ns [a,b]) b (ig L a) (ig L b)) (by rw[BZ];funext env s;simp[kI,pK,BV,gp.kind,K]) (zFU L _ (by exact K) _ (zG8 L _ a b rfl _ _ ia ib)) (xz L (zI5 L _ a b rfl _ _ ia.2 ib.2))
 ·obtain⟨a,b,rfl⟩:=Ii l1;have ia:=ih a (by simp);have ib:=ih b (by simp);exact go (xP (.mk k tx nn ln cl ts ns [a,b]) (ig L a) (ig L b)) (by rw[BZ];funext env s;simp[kI,pK,BV,gp.kind,K]) (zEj L _ (by exact K) _ (zFA L _ a b rfl _ _ ia ib)) (xz L (zI8 L _ a b rfl _ _ ia.2 ib.2))
 ·obtain⟨a,b,rfl⟩:=Ii l1;have ia:=ih a (by simp);have ib:=ih b (by simp);exact go (opC (.mk k tx nn ln cl ts ns [a,b]) a b (ig L a) (ig L b)) (by rw[BZ];funext env s;simp[kI,pK,BV,gp.kind,K]) (zIz L _ (by exact K) _ (zIB L _ a b rfl _ _ ia ib)) (xz L (ND L _ a b rfl _ _ ia.2 ib.2))
 ·obtain⟨q,a,b,rfl⟩:=zBW l1;have iq:=ih q (by simp);have ia:=ih a (by simp);have ib:=ih b (by simp);have hq:q.kind=12->∃w,q.kids=[w]:=λk12=>by
   have:=((WN q).1 (hws q (by simp))).2;unfold oW at this;rw[k12]at this;exact Fg (by omega)
  exact go (xQ q a b (ig L q) (ig L a) (ig L b)) (by rw[Fh];funext env s;simp[kI,pK,gp.kind,K]) (zDi L _ (by exact K) _ (zD2 L _ q a b rfl hq _ _ _ iq ia ib)) (xz L (NL L _ q a b rfl _ _ _ iq.2 ia.2 ib.2))
mutual
theorem NM(hL:nZ L):∀n:gp,oG n->rC L n (ig L n)
|.mk k tx nn ln cl ts ns ks,hw=>zEk L hL _ hw (WO hL ks (by rw[oG]at hw;exact hw.1))
theorem WO(hL:nZ L):∀l:List gp,nR l->∀x,x∈l->rC L x (ig L x)
|[],_,x,hx=>by cases hx
|n::l,hw,x,hx=>by
 rw[nR]at hw;rcases aN.1 hx with e|hx
 ·rw[e];exact NM hL n hw.1
 ·exact WO hL l hw.2 x hx
end
end
end Go.Gr
namespace Go.Gr
open Go.Abs Go.Proofs List
theorem NN:∀l m:List gp,iO (l++m)=iO l+iO m
|[],m=>by simp[iO]
|n::l,m=>by rw[cons_append,iO,iO,NN l m];omega
theorem zHm{l m:List gp}(h:nR l)(k:nR m):nR (l++m):=(Fe _).2 λx hx=>by
 rcases aQ.1 hx with hx|hx
 ·exact(Fe _).1 h x hx
 ·exact(Fe _).1 k x hx
section
variable {L:List Tok}
theorem uU(p:PS)(k:Int)(t:fE)(n:Int)(ts:List gT)(ns:List fE)(ks:List gp):iF (kT L p k t n ts ns ks)=iO ks+1:=by unfold kT;rw[iF]
theorem uV(p:PS)(k:Int)(t:fE)(n:Int)(ts:List gT)(ns:List fE)(ks:List gp)(h:nR ks)(s:oW k ts ns ks):oG (kT L p k t n ts ns ks):=by unfold kT;rw[oG];exact⟨h,s⟩
theorem Af{a:gp}(h:oG a):nR [a]:=⟨h,trivial⟩
theorem Fj{a b:gp}(h:oG a)(k:oG b):nR [a,b]:=⟨h,k,trivial⟩
theorem ks3{a b c:gp}(h:oG a)(k:oG b)(l:oG c):nR [a,b,c]:=⟨h,k,l,trivial⟩
theorem z1(a:gp):iO [a]=iF a:=by simp[iO]
theorem z2(a b:gp):iO [a,b]=iF a+iF b:=by simp[iO]
theorem z3(a b c:gp):iO [a,b,c]=iF a+iF b+iF c:=by simp[iO];omega
def kR(L:List Tok)(f:PS->gp × PS):Prop:=∀p,p.at'<L.length->oG (f p).1/\iF (f p).1+3*p.at'<=3*(f p).2.at'+1
theorem WP{ki:PS->gT × PS}(p:PS):(pY L ki p).1.length<=1:=by
 unfold pY;split<;>simp
theorem WQ{ki:PS->gT × PS}(p:PS):1<=(rP L ki p).1.2.length/\(rP L ki p).1.2.length<=2:=by
 unfold rP;simp only;have a:=WP (L:=L) (ki:=ki) (jB L (jI L (bs [40]) p)).2;have b:=WP (L:=L) (ki:=ki) (jI L (bs [41]) (pY L ki (jB L (jI L (bs [40]) p)).2).2);rw[aX];split
 ·simp only[length_cons,length_nil];omega
 ·omega
theorem NP:oG qR:=⟨trivial,.inl (.inl rfl)⟩
theorem zFP(hL:jC L){ki:PS->gT × PS}{ex rk:PS->gp × PS}(hk:gz L ki)(he:gz L ex)(ne:kR L ex)(nr:kR L rk):kR L (zD L ki ex rk):=λp hp=>by
 unfold zD;split
 ·rename_i c;have h1:=iW hL hp (s:=sP);have h2:=h1.trans (lc hL h1.lt);have h3:=h2.trans (zH hL hk _ h2.lt);have h4:=(lc hL h1.lt).trans ((zH hL hk _ h2.lt).trans (iw hL h3.lt (s:=bs [61])));have n5:=ne _ h4.lt;have h5:=he _ h4.lt;have h6:=iw hL h5.lt (s:=bs [59]);have n7:=ne _ h6.lt;have t:=(take_at c).1;refine⟨uV _ _ _ _ _ _ _ (Fj n5.1 n7.1) (by simp[oW]),?_⟩;rw[uU,z2];have:=h4.le;have:=h6.le;simp only at*
  omega
 split
 ·rename_i c;have h1:=iW hL hp (s:=zz);have n2:=ne _ h1.lt;have h2:=he _ h1.lt;have h3:=iw hL h2.lt (s:=CP);have n4:=ne _ h3.lt;have h4:=he _ h3.lt;have h5:=iw hL h4.lt (s:=CQ);have n6:=ne _ h5.lt;have t:=(take_at c).1;refine⟨uV _ _ _ _ _ _ _ (ks3 n2.1 n4.1 n6.1) (by simp[oW]),?_⟩;rw[uU,z3];have:=h3.le;have:=h5.le;simp only at*
  omega
 split
 ·rename_i c;have h1:=iW hL hp (s:=tT);have h2:=BK hL hk _ h1.lt;have h3:=h2.trans (iw hL h2.lt (s:=bs [61,62]));have n4:=ne _ h3.lt;have t:=(take_at c).1;have hh:=(WQ (L:=L) (ki:=ki) (iA L tT p).2).1;refine⟨uV _ _ _ _ _ _ _ (Af n4.1) (by simp[oW];simpa using hh),?_⟩;rw[uU,z1];have:=h3.le;simp only at*
  omega
 ·exact nr p hp
theorem WR(hL:jC L){rk:PS->gp × PS}(hr:gz L rk)(nr:kR L rk)(signs:List fE):∀(n:Nat) (a:gp) (p:PS),p.at'<L.length->oG a->oG (kU L rk signs n a p).1/\iF (kU L rk signs n a p).1+3*p.at'<=3*(kU L rk signs n a p).2.at'+iF a
|0,a,p,hp,ha=>by rw[kU];exact⟨ha,by show iF a+3*p.at'<=3*p.at'+iF a;omega⟩
| n+1,a,p,hp,ha=>by
 rw[kU];split
 ·exact⟨ha,by show iF a+3*p.at'<=3*p.at'+iF a;omega⟩
 ·rename_i s q h;have h1:=Cb hL _ hp h;have h2:=hr _ h1.1.lt;have n2:=nr _ h1.1.lt;have r:=WR hL hr nr signs n (kT L p 14 s 0 [] [] [a,(rk q).1]) (rk q).2 h2.lt (uV _ _ _ _ _ _ _ (Fj ha n2.1) (by simp[oW]));rw[uU,z2]at r;refine⟨r.1,?_⟩;have:=h1.2.1;omega
theorem zHn(hL:jC L){ki:PS->gT × PS}{rk:PS->gp × PS}(hk:gz L ki)(hr:gz L rk)(nr:kR L rk):kR L (rR L ki rk):=λp hp=>by
 have h1:=hr p hp;have n1:=nr p hp;unfold rR;simp only;split
 ·rename_i s q h;have h2:=Cb hL _ h1.lt h;have n3:=nr _ h2.1.lt;refine⟨uV _ _ _ _ _ _ _ (Fj n1.1 n3.1) (by simp[oW]),?_⟩;rw[uU,z2];have:=h2.2.1;simp only at*
  omega
 split
 ·rename_i c;have t:=(take_at c).1;have h2:=iW hL h1.lt (s:=bs [97,115]);have h3:=hk _ h2.lt;refine⟨uV _ _ _ _ _ _ _ (Af n1.1) (by simp[oW]),?_⟩;rw[uU,z1];have:=h3.le;simp only at*
  omega
 split
 ·rename_i c;have t:=(take_at c).1;have h2:=iW hL h1.lt (s:=bs [105,115]);split
  ·rename_i i q h;have h3:=Eo hL _ _ h2.lt h;refine⟨uV _ _ _ _ _ _ _ (Af n1.1) (by simp[oW]),?_⟩;rw[uU,z1];have:=h3.2.1;simp only at*
   omega
  ·have h3:=Dl (L:=L) (e:=7) h2.lt;refine⟨uV _ _ _ _ _ _ _ (Af n1.1) (by simp[oW]),?_⟩;rw[uU,z1];have:=h3.le;simp only at*
   omega
 ·exact n1
theorem zFQ(hL:jC L){ki:PS->gT × PS}{un:PS->gp × PS}(hk:gz L ki)(hu:gz L un)(nu:kR L un):kR L (El L ki un):=by
 obtain⟨t5,t4,t3,t2,t1,t0⟩:=Er hL hk hu;have op:∀(f:PS->gp × PS) (signs:List fE),gz L f->kR L f->kR L (λp=>kU L f signs (L.length+1) (f p).1 (f p).2):=λf signs tf nf p hp=>by
  have a:=nf p hp;have r:=WR hL tf nf signs (L.length+1) (f p).1 (f p).2 (tf p hp).lt a.1;exact⟨r.1,by simp only;omega⟩
 have n5:kR L (CR L un):=op un (rQ 5) hu nu;have n4:kR L (CU L un):=op _ (rQ 4) t5 n5;have n3:kR L (Ej L un):=op _ (rQ 3) t4 n4;have n2:kR L (CV L ki un):=zHn hL hk t3 n3;have n1:kR L (CX L ki un):=op _ (rQ 1) t2 n2;exact op _ (rQ 0) t1 n1
theorem WS{ki:PS->gT × PS}:∀(n:Nat) (l:List gT) (p:PS),(wO L ki n l p).1.length<=l.length+n
|0,l,p=>by rw[wO];exact aM _
| n+1,l,p=>by
 rw[wO];split
 ·have:=WS (ki:=ki) n (l++[(ki p).1]) (iA L (bs [44]) (ki p).2).2;rw[aX]at this;simp only[length_cons,length_nil]at this;omega
 ·simp only[aX,length_cons,length_nil];omega
theorem WU(hL:jC L){ex:PS->gp × PS}(he:gz L ex)(ne:kR L ex):∀(n:Nat) (ns:List fE) (ks:List gp) (p:PS),p.at'<L.length->nR ks->nR (uI L ex n ns ks p).1.2/\iO (uI L ex n ns ks p).1.2+3*p.at'<=3*(uI L ex n ns ks p).2.at'+iO ks+1/\(uI L ex n ns ks p).1.1.length<=ns.length+n
|0,ns,ks,p,hp,hk=>by rw[uI];exact⟨hk,by simp only;omega,by simp⟩
| n+1,ns,ks,p,hp,hk=>by
 have h1:=lc hL hp;have h2:=h1.trans (iw hL h1.lt (s:=bs [58]));have h3:=he _ h2.lt;have n3:=ne _ h2.lt;have h4:=iW hL h3.lt (s:=bs [44]);have e2:=h2.le;have w:=zHm hk (Af n3.1);rw[uI];split
 ·rename_i c;have t:=(take_at c).1;have r:=WU hL he ne n (ns++[(jB L p).1]) (ks++[(ex (jI L (bs [58]) (jB L p).2)).1]) _ h4.lt w;rw[NN,z1,aX]at r;simp only[length_cons,length_nil]at r;refine⟨r.1,?_,by omega⟩;omega
 ·refine⟨w,?_,by simp only[aX,length_cons,length_nil];omega⟩;rw[NN,z1];have:=h4.le;have:=n3.2;try simp only at*
  omega
theorem zCs(hL:jC L)(hl:L.length<=10000){ex:PS->gp × PS}(he:gz L ex)(ne:kR L ex)(q p:PS)(hp:p.at'<L.length):oG (vL L ex q p).1/\iF (vL L ex q p).1+3*p.at'<=3*(vL L ex q p).2.at'+4:=by
 unfold vL;split
 ·have h1:=iW hL hp (s:=bs [125]);refine⟨uV _ _ _ _ _ _ _ trivial (by simp[oW]),?_⟩;rw[uU];have:=h1.le;simp only[iO];omega
 split
 ·have h1:=he p hp;have n1:=ne p hp;have h2:=iw hL h1.lt (s:=CY);have h3:=h2.trans (lc hL h2.lt);have h4:=h3.trans (iw hL h3.lt (s:=bs [58]));have h5:=he _ h4.lt;have n5:=ne _ h4.lt;have h6:=iw hL h5.lt (s:=bs [125]);refine⟨uV _ _ _ _ _ _ _ (Fj n1.1 n5.1) (by simp[oW]),?_⟩;rw[uU,z2];have:=h4.le;have:=h6.le;simp only at*
  omega
 ·have h1:=Es hL he (L.length+1) [] [] p hp;have n1:=WU hL he ne (L.length+1) [] [] p hp trivial;have h2:=iw hL h1.lt (s:=bs [125]);have e0:iO []=0:=rfl;rw[e0]at n1;refine⟨uV _ _ _ _ _ _ _ n1.1 (by have:=n1.2.2;simp only[length_nil]at this;simp[oW];omega),?_⟩;rw[uU];have:=h2.le;have:=n1.2.1;simp only at*
  omega
theorem Ba{p q:PS}{k:Int}{t:fE}{n:Int}{ts:List gT}{ns:List fE}(hs:oW k ts ns [])(h:p.at'<=q.at'):oG (kT L p k t n ts ns [])/\iF (kT L p k t n ts ns [])+3*p.at'<=3*q.at'+1:=by
 refine⟨uV _ _ _ _ _ _ _ trivial hs,?_⟩;rw[uU];simp only[iO];omega
theorem zFR(hL:jC L)(hl:L.length<=10000){ki:PS->gT × PS}{ex:PS->gp × PS}(hk:gz L ki)(he:gz L ex)(ne:kR L ex):kR L (xG L ki ex):=λp hp=>by
 unfold xG;by_cases c1:p.e=0/\(iG L p).kind=3
 ·rw[aC c1];exact Ba (by simp[oW]) (by simp only;omega)
 rw[aB c1];by_cases c2:p.e=0/\(iG L p).kind=4
 ·rw[aC c2];exact Ba (by simp[oW]) (by simp only;omega)
 rw[aB c2];by_cases c3:(iA L CZ p).1=true
 ·rw[aC c3];exact Ba (by simp[oW]) (iW hL hp).le
 rw[aB c3];by_cases c4:(iA L C8 p).1=true
 ·rw[aC c4];exact Ba (by simp[oW]) (iW hL hp).le
 rw[aB c4];by_cases c5:(iA L C9 p).1=true
 ·rw[aC c5];exact Ba (by simp[oW]) (iW hL hp).le
 rw[aB c5];by_cases c6:(iA L yO p).1=true
 ·rw[aC c6];have h1:=iW hL hp (s:=yO);have h2:=h1.trans (iw hL h1.lt (s:=bs [40]));exact Ba (by simp[oW]) (h2.trans (iw hL h2.lt)).le
 rw[aB c6];by_cases c7:(iA L xn p).1=true
 ·rw[aC c7];have h1:=iW hL hp (s:=xn);have h2:=iw hL h1.lt (s:=bs [40]);have h3:=he _ h2.lt;have n3:=ne _ h2.lt;have h4:=iw hL h3.lt (s:=bs [41]);have t:=(take_at c7).1;refine⟨uV _ _ _ _ _ _ _ (Af n3.1) (by simp[oW]),?_⟩;rw[uU,z1];have:=h2.le;have:=h4.le;simp only at*
  omega
 rw[aB c7];by_cases c8:(iA L (bs [40]) p).1=true
 ·rw[aC c8];have h1:=iW hL hp (s:=bs [40]);have h2:=he _ h1.lt;have n2:=ne _ h1.lt;have h3:=iw hL h2.lt (s:=bs [41]);have t:=(take_at c8).1;refine⟨n2.1,?_⟩;have:=n2.2;have:=h3.le;show iF (ex (iA L (bs [40]) p).2).1+3*p.at'<=3*(jI L (bs [41]) (ex (iA L (bs [40]) p).2).2).at'+1;omega
 rw[aB c8];by_cases c9:(iA L (bs [123]) p).1=true
 ·rw[aC c9];have h1:=iW hL hp (s:=bs [123]);have r:=zCs hL hl he ne p _ h1.lt;have t:=(take_at c9).1;exact⟨r.1,by omega⟩
 rw[aB c9];have h1:=lc hL hp;by_cases c10:(iA L (bs [91]) (jB L p).2).1=true
 ·have h2:=h1.trans (iW hL h1.lt (s:=bs [91]));have h3:=h2.trans (LK hL hk (L.length+1) [] _ h2.lt);have tl:=WS (L:=L) (ki:=ki) (L.length+1) [] (iA L (bs [91]) (jB L p).2).2;show oG (if(iA L (bs [91]) (jB L p).2).1=true then _ else _:gp × PS).1/\iF (if(iA L (bs [91]) (jB L p).2).1=true then _ else _:gp × PS).1+3*p.at'<=3*(if(iA L (bs [91]) (jB L p).2).1=true then _ else _:gp × PS).2.at'+1;rw[aC c10];exact Ba (by simp only[length_nil]at tl;simp[oW];omega) h3.le
 ·show oG (if(iA L (bs [91]) (jB L p).2).1=true then _ else _:gp × PS).1/\iF (if(iA L (bs [91]) (jB L p).2).1=true then _ else _:gp × PS).1+3*p.at'<=3*(if(iA L (bs [91]) (jB L p).2).1=true then _ else _:gp × PS).2.at'+1;rw[aB c10];exact Ba (by simp[oW]) h1.le
theorem NQ(hL:jC L){ex:PS->gp × PS}(he:gz L ex)(ne:kR L ex):∀(n:Nat) (a:gp) (p:PS),p.at'<L.length->oG a->oG (sQ L ex n a p).1/\iF (sQ L ex n a p).1+3*p.at'<=3*(sQ L ex n a p).2.at'+iF a
|0,a,p,hp,ha=>by rw[sQ];exact⟨ha,by show iF a+3*p.at'<=3*p.at'+iF a;omega⟩
| n+1,a,p,hp,ha=>by
 rw[sQ];split
 ·rename_i c;have t:=(take_at c).1;have h1:=iW hL hp (s:=bs [40]);have h2:=he _ h1.lt;have n2:=ne _ h1.lt;have h3:=iw hL h2.lt (s:=bs [41]);have r:=NQ hL he ne n (kT L p 7 (bs []) 0 [] [] [a,(ex (iA L (bs [40]) p).2).1]) _ h3.lt (uV _ _ _ _ _ _ _ (Fj ha n2.1) (by simp[oW]));rw[uU,z2]at r;refine⟨r.1,?_⟩;have:=h3.le;have:=n2.2;have:=r.2;simp only at*
  omega
 split
 ·rename_i c;have t:=(take_at c).1;have h1:=iW hL hp (s:=bs [46]);have h2:=lc hL h1.lt;have r:=NQ hL he ne n (kT L p 9 (jB L (iA L (bs [46]) p).2).1 0 [] [] [a]) _ h2.lt (uV _ _ _ _ _ _ _ (Af ha) (by simp[oW]));rw[uU,z1]at r;refine⟨r.1,?_⟩;have:=h2.le;have:=r.2;simp only at*
  omega
 ·exact⟨ha,by show iF a+3*p.at'<=3*p.at'+iF a;omega⟩
theorem zEg(hL:jC L)(hl:L.length<=10000){ki:PS->gT × PS}{ex un:PS->gp × PS}(hk:gz L ki)(he:gz L ex)(ne:kR L ex)(nu:kR L un):kR L (zF L ki ex un):=λp hp=>by
 unfold zF;split
 ·rename_i c;have t:=(take_at c).1;have h1:=iW hL hp (s:=bs [45]);have n2:=nu _ h1.lt;refine⟨uV _ _ _ _ _ _ _ (Af n2.1) (by simp[oW]),?_⟩;rw[uU,z1];have:=n2.2;simp only at*
  omega
 split
 ·rename_i c;have t:=(take_at c).1;have h1:=iW hL hp (s:=sS);have n2:=nu _ h1.lt;refine⟨uV _ _ _ _ _ _ _ (Af n2.1) (by simp[oW]),?_⟩;rw[uU,z1];have:=n2.2;simp only at*
  omega
 ·have a:=zFR hL hl hk he ne p hp;have ta:=IG hL hk he p hp;have r:=NQ hL he ne (L.length+1) (xG L ki ex p).1 (xG L ki ex p).2 ta.lt a.1;unfold Ca;exact⟨r.1,by simp only;omega⟩
theorem zIt(hL:jC L)(hl:L.length<=10000){ki:PS->gT × PS}(hk:gz L ki)(d:Nat):kR L (uJ L ki d).1/\kR L (uJ L ki d).2:=by
 induction d with
 |zero=>exact⟨λp hp=>⟨NP,by show 1+3*p.at'<=3*p.at'+1;omega⟩,λp hp=>⟨NP,by show 1+3*p.at'<=3*p.at'+1;omega⟩⟩
 | succ d ih=>
  have tm:=Et hL hk d;have dn:∀p:PS,p.at'<L.length->¬(jN L p).1=true->oG qR/\iF qR+3*p.at'<=3*(jN L p).2.at'+1:=λp hp c=>by
   have:=(IC (L:=L) hp).le;rw[IE c];exact⟨NP,by show 1+3*p.at'<=3*(yN L p).at'+1;omega⟩
  have up:∀(f:PS->gp × PS),kR L f->∀p:PS,p.at'<L.length->(jN L p).1=true->oG (uH (f (jN L p).2)).1/\iF (uH (f (jN L p).2)).1+3*p.at'<=3*(uH (f (jN L p).2)).2.at'+1:=λf nf p hp c=>by
   have hp':(jN L p).2.at'<L.length:=by rw[(zG c).1];exact hp
   have r:=nf _ hp';have e:(jN L p).2.at'=p.at':=by rw[(zG c).1]
   rw[e]at r;exact r
  rw[uJ];refine⟨λp hp=>?_,λp hp=>?_⟩
  ·show oG (if(jN L p).1=true then _ else _:gp × PS).1/\iF (if(jN L p).1=true then _ else _:gp × PS).1+3*p.at'<=3*(if(jN L p).1=true then _ else _:gp × PS).2.at'+1;by_cases c:(jN L p).1=true
   ·rw[aC c];exact up _ (zFP hL hk tm.1 ih.1 (zFQ hL hk tm.2 ih.2)) p hp c
   ·rw[aB c];exact dn p hp c
  ·show oG (if(jN L p).1=true then _ else _:gp × PS).1/\iF (if(jN L p).1=true then _ else _:gp × PS).1+3*p.at'<=3*(if(jN L p).1=true then _ else _:gp × PS).2.at'+1;by_cases c:(jN L p).1=true
   ·rw[aC c];exact up _ (zEg hL hl hk tm.1 ih.1 ih.2) p hp c
   ·rw[aB c];exact dn p hp c
structure sw (d:jS):Prop where
 types:d.types.length=2
 vars:d.vars.length<=10001
 body:oG d.body
 size:iF d.body<=30001
theorem WV:∀(n:Nat) (l:List (fE × gT)) (p:PS),(yP L n l p).1.length<=l.length+n
|0,l,p=>by rw[yP];exact aM _
| n+1,l,p=>by
 rw[yP]
 split<;>split<;>first
  |(refine ak (WV n _ _) ?_;simp only[aX,length_cons,length_nil];omega)
  |(simp only[aX,length_cons,length_nil];omega)
theorem zHo(hl:L.length<=10000)(p:PS):(yQ L p).1.length<=10001:=by
 unfold yQ;split
 ·have:=WV (L:=L) (L.length+1) [] (iA L (bs [91]) p).2;simp only[length_nil]at this;omega
 ·simp
theorem zHp(hL:jC L)(hl:L.length<=10000)(p:PS)(hp:p.at'<L.length):sw (rT L p).1:=by
 have h1:=iW hL hp (s:=AA);have h2:=h1.trans (iw hL h1.lt (s:=tT));have h3:=h2.trans (lc hL h2.lt);have h4:=h3.trans (IM hL _ h3.lt);have h5:=h4.trans (BK hL (yT hL) _ h4.lt);have h6:=h5.trans (iw hL h5.lt (s:=bs [61]));have n7:=(zIt hL hl (yT hL) 102).1 _ h6.lt;have h7:=IL hL _ h6.lt;have hh:=WQ (L:=L) (ki:=ui L) (yQ L (jB L (jI L tT (iA L AA p).2)).2).2;unfold rT;refine⟨?_,zHo hl _,n7.1,?_⟩
 ·simp only;split
  ·simp only[aX,length_cons,length_nil];omega
  ·omega
 ·have:=n7.2;have:=h7.lt;simp only[Dk]at*
  omega
theorem WW(hL:jC L)(hl:L.length<=10000):∀(n:Nat) (l:List jS) (p:PS),p.at'<L.length->(∀d,d∈l->sw d)->∀d,d∈(rU L n l p).1->sw d
|0,l,p,hp,h,d,hd=>by rw[rU]at hd;exact h d hd
| n+1,l,p,hp,h,d,hd=>by
 rw[rU]at hd;split at hd
 ·refine WW hL hl n _ _ (LW hL p hp).lt (λx hx=>?_) d hd;rcases aQ.1 hx with hx|hx
  ·exact h x hx
  ·simp only[aL]at hx;subst hx;exact zHp hL hl p hp
 ·exact h d hd
end
theorem zEh(s:fE):∀d,d∈(qL s).1.decs->sw d:=λd hd=>by
 unfold qL at hd;simp only at hd;by_cases q1:(lC s).2.e=0
 ·obtain⟨hL,hl⟩:=IX q1;rw[aB (λz=>z q1)]at hd;split at hd
  ·cases hd
  ·have h0:ps0.at'<(lC s).1.length:=hL.pos;exact WW hL hl _ _ _ (Ex hL _ _ _ h0).lt (λx hx=>by cases hx) d hd
 ·rw[aC q1]at hd;cases hd
end Go.Gr
