/- Texts of ours, joined and written short by a program of ours. -/
import Derived.Test.YtlfjlokfciejnaaGreatDoorCJ11
import Derived.Test.YtlfjlokfciejnaaGreatDoorCJ06
set_option maxRecDepth 20000
set_option maxHeartbeats 4000000
set_option linter.unusedVariables false
set_option linter.unusedSimpArgs false
namespace Go.Gr
open Go.Abs Go.Proofs List
section
variable (L:iV)
def opAt(s:fI):Nat->Int
|0=>0
|i+1=>if vV[i]?=some s then(i:Int)else opAt s i
theorem zF0(s:fI):opAt s 11=Bi s:=by
 by_cases h:s∈vV
 ·simp only[vV,aN,cO,fC]at h;rcases h with h|h|h|h|h|h|h|h|h|h|h<;>subst h<;>decide
 ·have h2:∀i,vV[i]?≠some s:=λi z=>h (ae z);have h3:∀i,opAt s i=0:=λi=>by
   induction i with
   |zero=>rfl
   |succ i ih=>rw[opAt,aB (h2 i),ih]
  have h4:∀(l:List fI) (j:Nat),s∉l->fi (λx=>decide (x=s)) j l= -1:=λl=>by
   induction l with
   |nil=>intro j _;rfl
   |cons x l ih=>
    intro j hx;have q:¬x=s:=λz=>hx (by simp[z]);rw[fi,aB (by simp[q]),ih _ (λz=>hx (by simp[z]))]
  rw[h3,Bi,h4 _ _ h];try rfl
theorem OC(n a b:gz)(hk:n.kids=[a,b])(ia ib:Inf)(ha:jm L a ia)(hb:jm L b ib):jm L n (opC n a b ia ib):=λenv s k he hs=>by
 have hn:iK n=iK a+(iK b+1):=by rw[qP,hk];simp[iW];omega
 have w2:=λt0 t1=>DY L b ib hb t1 env (nP a ia t0 env s).2 k (he.less (by omega)) (DY L a ia ha t0 env s (8*iK b+1+k) (he.less (by omega)) (hs.less (by omega)));have i1:=ha env s (8*iK b+k) (he.less (by omega)) (hs.less (by omega));have i2:=hb env (ia env s).2 k (he.less (by omega)) i1.1;unfold opC;split
 ·exact⟨w2 _ _,vZ 2 (by omega) (by omega)⟩
 split
 ·exact⟨w2 _ _,vZ 2 (by omega) (by omega)⟩
 split
 ·exact⟨i2.1,vZ 2 (by omega) (by omega)⟩
 split
 ·exact⟨w2 _ _,vZ 4 (by omega) (by omega)⟩
 ·refine⟨w2 _ _,?_⟩;simp only;split
  ·exact vZ 2 (by omega) (by omega)
  ·exact vZ 3 (by omega) (by omega)
theorem zIB(n a b:gz)(hk:n.kids=[a,b])(ia ib:Inf)(ha:rR L a ia)(hb:rR L b ib):jR L 90 n (opC n a b ia ib):=λenv s k he hs=>by
 refine zHg mD λts hts ok hbk c hN hp=>?_;obtain⟨t,u,v,w,x,y,rfl⟩:=mZ hts;have hn:iK n=iK a+(iK b+1):=by rw[qP,hk];simp[iW];omega
 have d21:¬bs [97,110,100]=bs [111,114]:=by decide
 have d31:¬bs [61,61]=bs [111,114]:=by decide
 have d32:¬bs [61,61]=bs [97,110,100]:=by decide
 have d41:¬bs [43,43]=bs [111,114]:=by decide
 have d42:¬bs [43,43]=bs [97,110,100]:=by decide
 have d43:¬bs [43,43]=bs [61,61]:=by decide
 unfold opC;unfold XF;by_cases c1:n.text=bs [111,114]
 ·rw[aC c1];have m1:=zg L a ia ha (bT 2) env s (8*iK b+1+k) (he.less (by omega)) (hs.less (by omega));have p1:=DY L a ia ha.2 (bT 2) env s (8*iK b+1+k) (he.less (by omega)) (hs.less (by omega));simp only;generalize nP a ia (bT 2) env s=r1 at*
  have m2:=zg L b ib hb (bT 2) env r1.2 k (he.less (by omega)) (p1.less (by omega));generalize nP b ib (bT 2) env r1.2=r2 at*
  simp[c1,hk];refine gp (lD 2) ?_;simp[c1,hk];refine gU [0,1,2,3,4,5] m1 ?_;simp[hk];refine⟨by decide,?_⟩;refine gU [0,1,2,15,4,16] m2 ?_;simp;refine⟨by decide,by decide,?_⟩;exact fP [0,1,2,9,4,11,18,19] [6,7,8,9,10,11]
 rw[aB c1];by_cases c2:n.text=bs [97,110,100]
 ·rw[aC c2];have m1:=zg L a ia ha (bT 2) env s (8*iK b+1+k) (he.less (by omega)) (hs.less (by omega));have p1:=DY L a ia ha.2 (bT 2) env s (8*iK b+1+k) (he.less (by omega)) (hs.less (by omega));simp only;generalize nP a ia (bT 2) env s=r1 at*
  have m2:=zg L b ib hb (bT 2) env r1.2 k (he.less (by omega)) (p1.less (by omega));generalize nP b ib (bT 2) env r1.2=r2 at*
  simp[c2,d21,hk];refine gp (lD 2) ?_;simp[c2,d21,hk];refine gU [0,1,2,3,4,5] m1 ?_;simp[hk];refine⟨by decide,?_⟩;refine gU [0,1,2,15,4,16] m2 ?_;simp;refine⟨by decide,by decide,?_⟩;exact fP [0,1,2,9,4,11,18,19] [6,7,8,9,10,11]
 rw[aB c2];by_cases c3:n.text=bs [61,61]
 ·rw[aC c3];have m1:=ha.1 env s (8*iK b+k) (he.less (by omega)) (hs.less (by omega));have p1:=ha.2 env s (8*iK b+k) (he.less (by omega)) (hs.less (by omega));simp only;generalize ia env s=r1 at*
  have m2:=hb.1 env r1.2 k (he.less (by omega)) (p1.1.less (by omega));generalize ib env r1.2=r2 at*
  simp[c3,d31,d32,hk];refine gp (lD 2) ?_;simp[c3,d31,d32,hk];refine gU [0,1,2,3,4,5] m1 ?_;simp[hk];refine gU [0,1,2,15,4,16] m2 ?_;simp;refine⟨by decide,?_⟩;exact fP [0,1,2,9,4,11,19,20] [6,7,8,9,10,11]
 rw[aB c3];by_cases c4:n.text=bs [43,43]
 ·rw[aC c4];have m1:=zg L a ia ha (bT 4) env s (8*iK b+1+k) (he.less (by omega)) (hs.less (by omega));have p1:=DY L a ia ha.2 (bT 4) env s (8*iK b+1+k) (he.less (by omega)) (hs.less (by omega));simp only;generalize nP a ia (bT 4) env s=r1 at*
  have m2:=zg L b ib hb (bT 4) env r1.2 k (he.less (by omega)) (p1.less (by omega));generalize nP b ib (bT 4) env r1.2=r2 at*
  simp[c4,d41,d42,d43,hk];refine gp (lD 2) ?_;simp[c4,d41,d42,d43,hk];refine gp (lD 4) ?_;simp[hk];refine gU [0,1,2,3,4,5] m1 ?_;simp[hk];refine⟨by decide,?_⟩;refine gp (lD 4) ?_;simp[hk];refine gU [0,1,2,15,4,16] m2 ?_;simp;refine⟨by decide,?_⟩;refine gp (lD 4) ?_;simp[hk];refine⟨by decide,?_⟩;exact fP [0,1,2,9,4,11,18,19] [6,7,8,9,10,11]
 rw[aB c4];have m1:=zg L a ia ha (bT 3) env s (8*iK b+1+k) (he.less (by omega)) (hs.less (by omega));have p1:=DY L a ia ha.2 (bT 3) env s (8*iK b+1+k) (he.less (by omega)) (hs.less (by omega));simp only;generalize nP a ia (bT 3) env s=r1 at*
 have m2:=zg L b ib hb (bT 3) env r1.2 k (he.less (by omega)) (p1.less (by omega));generalize nP b ib (bT 3) env r1.2=r2 at*
 obtain⟨R,hR⟩:∃R,Bi n.text=R:=⟨_,rfl⟩
 have hR2:=zF0 n.text;rw[hR]at hR2⊢;simp[c1,c2,c3,c4,hk];refine gp (lD 2) ?_;simp[c1,c2,c3,c4,hk];refine fU iC hp (λj:Nat=>j<=11) (λj=>[(21,.c (.d (.int .i64 j))),(20,.c (.d (.int .i64 (opAt n.text j)))),(19,.c (.d (.sl true 1 (encS vV)))),(8,.c (.ptr 14 0)),(7,.c (.ptr 13 0)),(6,.c (.ptr 12 0)),(4,.c (.d (.rp n.enc 0))),(2,.c (.d (.sl false 5 (env.map jA)))),(0,.c (.ptr 0 0))]) (λ_=>[uh L s 2 3 4,xf 256 s.tab.length 5,oV s.funs,qx s.sites,mJ s.bad,oU s.tab,.pin t 0,.pin u 1,.pin v 2,.pin w 3,.pin x 4,.pin y 5,.box [.d (.int .i64 0),.d (.int .i64 0),.d (.str (bs [])),.d (.sl true 1 []),.d (.sl true 1 []),.d (.sl true 4 []),.d (.sl true 5 []),.d (.sl true 8 [])],.box [.d (.int .i64 0),.d (.str (bs [])),.d (.sl true 1 []),.d (.sl true 4 [])],.box ((bT 2).enc.map .d)]) (λj=>11-j) 0 [0,1,2,3,4,5,6,7,8,9,10,11,12,13,14] (by simp) (by simp[encS,vV,opAt]) λj h1=>?_;unfold XE;simp;apply gT<;>intro h
 ·have hj:j<11:=by simpa[vV]using h
  have hj2:j<vV.length:=by simpa[vV]using hj
  obtain⟨z,hz⟩:∃z,vV[j]=z:=⟨_,rfl⟩
  have hz2:vV[j]?=some z:=by rw[aA hj2,hz]
  have hw:=wI (n:=(j:Int)+1);simp[hj2,hz];refine⟨by decide,?_⟩;apply gT<;>intro h
  ·have e:opAt n.text (j+1)=(j:Int):=by rw[opAt,hz2];simp at h;rw[aC (by rw[h])]
   try simp
   refine fJ (j+1) [0,1,2,3,4,5,6,7,8,9,10,11,12,13,14] (by omega) (by omega) ?_;simp[hw,e]
  ·have e:opAt n.text (j+1)=opAt n.text j:=by rw[opAt,hz2];simp at h;rw[aB (λq=>h (by simpa using q))]
   try simp
   refine fJ (j+1) [0,1,2,3,4,5,6,7,8,9,10,11,12,13,14] (by omega) (by omega) ?_;simp[hw,e]
 have hj:j=11:=by simp[vV]at h;omega
 subst hj;rw[hR2];simp[hk];refine gp (lD 3) ?_;simp[hk];refine gU [0,1,2,3,4,5] m1 ?_;simp[hk];refine⟨by decide,?_⟩;refine gp (lD 3) ?_;simp[hk];refine gU [0,1,2,15,4,16] m2 ?_;simp;refine⟨by decide,?_⟩;refine gp (lD 3) ?_;simp;by_cases c9:9<=R
 ·rw[aC c9];simp[c9];refine⟨by decide,?_⟩;exact fP [0,1,2,9,4,11,18,19] [6,7,8,9,10,11]
 ·rw[aB c9];simp[c9];refine⟨by decide,?_⟩;exact fP [0,1,2,9,4,11,18,19] [6,7,8,9,10,11]
end
section
variable (L:iV)
theorem OD(x a:fI)(b:gq):∀(l:List fI) (m:List gq),l.length=m.length->ry x (l++[a]) (m++[b])=ry x l m++(if a=x then []else [(a,b)])
|[],[],_=>by simp only[nil_append,ry]
|n::l,k::m,h=>by
 simp only[cons_append,ry];rw[OD x a b l m (by simpa using h)];split<;>simp
theorem OE(x:fI):∀(l:List fI) (m:List gq),(ry x l m).length<=l.length
|[],_=>by simp[ry]
|_::_,[]=>by simp[ry]
|n::l,k::m=>by
 have:=OE x l m;rw[ry];split<;>simp<;>omega
theorem OG:jG (bT 5):=by
 refine(mI _).2 ⟨rfl,λx h=>(by cases h),.inr (.inl ⟨rfl,rfl,by decide,λx h=>(by cases h)⟩)⟩
theorem zI8(n a b:gz)(hk:n.kids=[a,b])(ia ib:Inf)(ha:jm L a ia)(hb:jm L b ib):jm L n (xX n ia ib):=λenv s k he hs=>by
 have hn:iK n=iK a+iK b+1:=by rw[qP,hk];simp[iW]
 have h1:=ha env s (2+8*iK b+k) (he.less (by omega)) (hs.less (by omega));have h2:=OA (b:=8*iK b+1+k) (bT 5) (OG) n.line n.col (ia env s) (h1.1.less (by omega)) h1.2;unfold xX;simp only;generalize ko (bT 5) n.line n.col (ia env s)=r at*
 by_cases q:r.1.2.kind≠5
 ·rw[aC q];exact⟨vg (h2.1.less (by omega)) _ _ _,rQ⟩
 ·rw[aB q];have h3:=hb env r.2 k (he.less (by omega)) (h2.1.less (by omega));exact GM h3.1 _ _ _
theorem X7{t:gq}(h:jG t)(k:t.kind=5):t.names.length=t.kids.length:=by
 rcases((mI t).1 h).2.2 with⟨_,q,_,_⟩|⟨_,q,_⟩|⟨q,_,_⟩|⟨q,_,_⟩<;>omega
abbrev GQ(n:gz)(j:Nat):List (Nat × AV):=[(14,.c (.d (.int .i64 j))),(13,.c (.ptr 19 0)),(11,.c (.ptr 18 0)),(9,.c (.ptr 17 0)),(8,.c (.ptr 16 0)),(7,.c (.ptr 13 0)),(6,.c (.ptr 12 0)),(4,.c (.d (.rp n.enc 0))),(0,.c (.ptr 0 0))]
abbrev Ap(s:CS)(P:List Blk)(x y:iB)(xt:gq)(A:List (fI × gq)):List Blk:=[uh L s 2 14 4,xf 256 s.tab.length 15,oV s.funs,.dead,mJ s.bad,.dead]++(P++[.box [.d (.int .i64 0),.d (.int .i64 0),.d (.str (bs [])),.d (.sl true 1 []),.d (.sl true 1 []),.d (.sl true 4 []),.d (.sl true 5 []),.d (.sl true 8 [])],.box [.d (.int .i64 0),.d (.str (bs [])),.d (.sl true 1 []),.d (.sl true 4 [])],qx s.sites,oU s.tab,.box (x.enc.map .d),.box (xt.enc.map .d),.box (y.enc.map .d),.box [.d (.int .i64 5),.d (.str (bs [])),.msl 1 20 0 A.length,.msl 4 21 0 A.length],tQ (A.map (·.1)),oQ (A.map (·.2))])
theorem vG{α:Type}(l:List α)(n:Nat)(h:l.length=n):take n l=l:=aD (by omega)
theorem zFA(n a b:gz)(hk:n.kids=[a,b])(ia ib:Inf)(ha:rR L a ia)(hb:rR L b ib):jR L 87 n (xX n ia ib):=λenv s k he hs=>by
 refine zCp mD λts hts ok hbk c hN hp=>?_;obtain⟨t,u,v,w,x,y,rfl⟩:=mZ hts;have hn:iK n=iK a+iK b+1:=by rw[qP,hk];simp[iW]
 have hb0:=lD 0;have hb5:=lD 5;have m1:=ha.1 env s (2+8*iK b+k) (he.less (by omega)) (hs.less (by omega));have p1:=ha.2 env s (2+8*iK b+k) (he.less (by omega)) (hs.less (by omega));unfold xX;simp only;generalize ia env s=r1 at*
 unfold XA;by_cases t0:r1.1.2.kind=0
 ·obtain⟨X,eX⟩:∃X,ko (bT 5) n.line n.col r1=X:=⟨_,rfl⟩
  have p2:=OA (b:=8*iK b+1+k) (bT 5) (OG) n.line n.col r1 (p1.1.less (by omega)) p1.2;rw[eX]at p2⊢;have m2:=E8 L r1.1.1 r1.1.2 (bT 5) n r1.2 (by have:=p1.1.sites;omega);unfold ko at eX;rw[aC t0]at eX;have eX1:(mR r1.1.1 r1.1.2 (bT 5) n.line n.col r1.2).1=X.1.1:=by rw[<-eX]
  have eX2:(mR r1.1.1 r1.1.2 (bT 5) n.line n.col r1.2).2=X.2:=by rw[<-eX]
  have eX3:X.1.2=bT 5:=by rw[<-eX]
  rw[eX1,eX2]at m2;clear eX eX1 eX2;have k5:¬X.1.2.kind≠5:=by rw[eX3];decide
  rw[aB k5];have m3:=hb.1 env X.2 k (he.less (by omega)) (p2.1.less (by omega));have p3:=hb.2 env X.2 k (he.less (by omega)) (p2.1.less (by omega));generalize ib env X.2=r3 at*
  rw[<-eX3]at hb5;rw[<-eX3]at m2;have k5:X.1.2.kind=5:=by rw[eX3];try rfl
  have hl:=X7 p2.2 k5;have hl2:=ve p2.2;simp[hk];refine gU [0,1,2,3,4,5] m1 ?_;simp[t0];refine gp hb5 ?_;simp;refine gU [0,1,2,14,4,15] m2 ?_;simp[k5,hk];refine gU [0,1,2,19,4,15] m3 ?_;simp[hk];have e0:ry n.text (X.1.2.names.take 0) (X.1.2.kids.take 0)=[]:=rfl;refine fU iC hp (λj:Nat=>j<=X.1.2.names.length) (GQ n) (λj=>Ap L r3.2 [.pin t 0,.pin u 1,.pin v 2,.pin w 3,.pin x 4,.pin y 5] X.1.1 r3.1.1 X.1.2 ((n.text,r3.1.2)::ry n.text (X.1.2.names.take j) (X.1.2.kids.take j))) (λj=>X.1.2.names.length-j) 0 [0,1,2,3,4,5,6,7,8,9,10,11,12,13,20,21,16,17,22,26,24,25] (by simp) (by simp[encS,ry]) λj h1=>?_;unfold Np;simp;apply gT<;>intro h
  ·have hj:j<X.1.2.names.length:=by simpa using h
   have hj2:j<X.1.2.kids.length:=by omega
   obtain⟨z,hz⟩:∃z,X.1.2.names[j]=z:=⟨_,rfl⟩
   obtain⟨q,hq⟩:∃q,X.1.2.kids[j]=q:=⟨_,rfl⟩
   have tk1:X.1.2.names.take (j+1)=X.1.2.names.take j++[z]:=by rw[aJ hj,hz]
   have tk2:X.1.2.kids.take (j+1)=X.1.2.kids.take j++[q]:=by rw[aJ hj2,hq]
   have rs:=OD n.text z q (X.1.2.names.take j) (X.1.2.kids.take j) (by rw[bH,bH];omega);rw[<-tk1,<-tk2]at rs;have rl:=OE n.text (X.1.2.names.take j) (X.1.2.kids.take j);rw[bH]at rl;have hw:=wI (n:=(j:Int)+1);simp[hj,hz];refine⟨by decide,?_⟩;by_cases e:z=n.text
   ·rw[aC e,bN]at rs;simp[e];refine fJ (j+1) [0,1,2,3,4,5,6,7,8,9,10,11,12,13,14,15,16,17,18,19,20,21] (by omega) (by omega) ?_;simp only[Ap,rs];simp[hw]
   ·rw[aB e]at rs;generalize hA:ry n.text (X.1.2.names.take j) (X.1.2.kids.take j)=A at*
    simp[e,hj,hz,hj2,hq];refine⟨by omega,by decide,by omega,by decide,?_⟩;refine fJ (j+1) [0,1,2,3,4,5,6,7,8,9,10,11,12,13,14,15,16,17,18,19,22,23] (by omega) (by omega) ?_;simp[hw,rs];refine⟨?_,?_⟩
    ·rw[vG _ _ (by simp[encS])];simp[encS]
    ·rw[vG _ _ (by simp)]
  have hj:j=X.1.2.names.length:=by simp at h;omega
  subst hj;rw[bG,hl,bG];generalize ry n.text X.1.2.names X.1.2.kids=B at*
  have z1:take (B.length+1) (encS (n.text::List.map (λx=>x.1) B))=encS (n.text::List.map (λx=>x.1) B):=vG _ _ (by simp[encS]);have z2:take B.length (List.map (gq.enc∘λx=>x.2) B)=List.map (gq.enc∘λx=>x.2) B:=vG _ _ (by simp);have m4:=DX L (.mk 5 (bs []) (((n.text,r3.1.2)::B).map (·.1)) (((n.text,r3.1.2)::B).map (·.2))) n r3.2;generalize pW (.mk 5 (bs []) (((n.text,r3.1.2)::B).map (·.1)) (((n.text,r3.1.2)::B).map (·.2))) n.line n.col r3.2=r4 at*
  simp[hk];refine fe [20,21] ?_;simp[iT,z1,z2];refine gY [0,1,2,14,4,15] m4 (by simp[tT]) ?_;simp;refine⟨by decide,?_⟩;exact fP [0,1,2,9,4,11,14,15] [6,7,8,9,10,11]
 have eX:ko (bT 5) n.line n.col r1=r1:=by unfold ko;rw[aB t0]
 have p2:lH L r1.2 (8*iK b+1+k)/\jG r1.1.2:=⟨p1.1.less (by omega),p1.2⟩
 rw[eX];by_cases k5:r1.1.2.kind=5;rotate_left
 ·rw[aC k5];have m2:=vK L n 17 r1.2;generalize lG n.line n.col 17 r1.2=r2 at*
  simp[hk];refine gU [0,1,2,3,4,5] m1 ?_;simp[t0,k5];refine gU [0,1,2,14,4,15] m2 ?_;simp;refine gp hb0 ?_;simp;exact fP [0,1,2,9,4,11,14,15] [6,7,8,9,10,11]
 rw[aB (λz=>z k5)];obtain⟨X,hX⟩:∃X,X=r1:=⟨_,rfl⟩
 subst hX;have m3:=hb.1 env X.2 k (he.less (by omega)) (p2.1.less (by omega));have p3:=hb.2 env X.2 k (he.less (by omega)) (p2.1.less (by omega));generalize ib env X.2=r3 at*
 have hl:=X7 p2.2 k5;have hl2:=ve p2.2;simp[hk];refine gU [0,1,2,3,4,5] m1 ?_;simp[t0,k5,hk];refine gU [0,1,2,14,4,15] m3 ?_;simp[hk];have e0:ry n.text (X.1.2.names.take 0) (X.1.2.kids.take 0)=[]:=rfl;refine fU iC hp (λj:Nat=>j<=X.1.2.names.length) (GQ n) (λj=>Ap L r3.2 [.pin t 0,.pin u 1,.pin v 2,.pin w 3,.pin x 4,.pin y 5] X.1.1 r3.1.1 X.1.2 ((n.text,r3.1.2)::ry n.text (X.1.2.names.take j) (X.1.2.kids.take j))) (λj=>X.1.2.names.length-j) 0 [0,1,2,3,4,5,6,7,8,9,10,11,12,13,18,19,16,17,20,24,22,23] (by simp) (by simp[encS,ry]) λj h1=>?_;unfold Np;simp;apply gT<;>intro h
 ·have hj:j<X.1.2.names.length:=by simpa using h
  have hj2:j<X.1.2.kids.length:=by omega
  obtain⟨z,hz⟩:∃z,X.1.2.names[j]=z:=⟨_,rfl⟩
  obtain⟨q,hq⟩:∃q,X.1.2.kids[j]=q:=⟨_,rfl⟩
  have tk1:X.1.2.names.take (j+1)=X.1.2.names.take j++[z]:=by rw[aJ hj,hz]
  have tk2:X.1.2.kids.take (j+1)=X.1.2.kids.take j++[q]:=by rw[aJ hj2,hq]
  have rs:=OD n.text z q (X.1.2.names.take j) (X.1.2.kids.take j) (by rw[bH,bH];omega);rw[<-tk1,<-tk2]at rs;have rl:=OE n.text (X.1.2.names.take j) (X.1.2.kids.take j);rw[bH]at rl;have hw:=wI (n:=(j:Int)+1);simp[hj,hz];refine⟨by decide,?_⟩;by_cases e:z=n.text
  ·rw[aC e,bN]at rs;simp[e];refine fJ (j+1) [0,1,2,3,4,5,6,7,8,9,10,11,12,13,14,15,16,17,18,19,20,21] (by omega) (by omega) ?_;simp only[Ap,rs];simp[hw]
  ·rw[aB e]at rs;generalize hA:ry n.text (X.1.2.names.take j) (X.1.2.kids.take j)=A at*
   simp[e,hj,hz,hj2,hq];refine⟨by omega,by decide,by omega,by decide,?_⟩;refine fJ (j+1) [0,1,2,3,4,5,6,7,8,9,10,11,12,13,14,15,16,17,18,19,22,23] (by omega) (by omega) ?_;simp[hw,rs];refine⟨?_,?_⟩
   ·rw[vG _ _ (by simp[encS])];simp[encS]
   ·rw[vG _ _ (by simp)]
 have hj:j=X.1.2.names.length:=by simp at h;omega
 subst hj;rw[bG,hl,bG];generalize ry n.text X.1.2.names X.1.2.kids=B at*
 have z1:take (B.length+1) (encS (n.text::List.map (λx=>x.1) B))=encS (n.text::List.map (λx=>x.1) B):=vG _ _ (by simp[encS]);have z2:take B.length (List.map (gq.enc∘λx=>x.2) B)=List.map (gq.enc∘λx=>x.2) B:=vG _ _ (by simp);have m4:=DX L (.mk 5 (bs []) (((n.text,r3.1.2)::B).map (·.1)) (((n.text,r3.1.2)::B).map (·.2))) n r3.2;generalize pW (.mk 5 (bs []) (((n.text,r3.1.2)::B).map (·.1)) (((n.text,r3.1.2)::B).map (·.2))) n.line n.col r3.2=r4 at*
 simp[hk];refine fe [20,21] ?_;simp[iT,z1,z2];refine gY [0,1,2,14,4,15] m4 (by simp[tT]) ?_;simp;refine⟨by decide,?_⟩;exact fP [0,1,2,9,4,11,14,15] [6,7,8,9,10,11]
end
section
variable (L:iV)
def Aq(l:List fI):Nat->Bool
|0=>false
|i+1=>Aq l i||(l.take i).any (λm=>decide (some m=l[i]?))
def zh(l:List fI)(i j:Nat):Bool:=Aq l i||(l.take j).any (λm=>decide (some m=l[i]?))
theorem X8(l:List fI):∀i,i<=l.length->(Aq l i||mH (l.take i) (l.drop i))=mH [] l
|0,_=>by simp[Aq]
|i+1,h=>by
 have hi:i<l.length:=by omega
 rw[<-X8 l i (by omega),aF hi,mH,Aq,aJ hi];simp[Bool.or_assoc,hi]
theorem zFg(l:List fI):Aq l l.length=mH [] l:=by
 have:=X8 l l.length (by omega);rw[aO]at this;simpa[mH]using this
def ng(n:gz)(s:CS)(q:Bool):CS:=if q=true then lG n.line n.col 8 s else s
theorem zFh(n:gz)(s:CS)(q:Bool):lG n.line n.col 8 (ng n s q)=ng n s true:=by
 unfold ng;cases q with
 |false=>simp
 |true=>
  simp only[aC];unfold lG;by_cases h:s.e=0
  ·rw[aC h];try rfl
  ·rw[aB h,aB h]
theorem X9{L:iV}{n:gz}{s:CS}{b:Nat}(h:lH L s b)(q:Bool):lH L (ng n s q) b:=by
 unfold ng;split
 ·exact vg h _ _ _
 ·exact h
theorem Xa(n:gz)(ks:Env->CS->(List iB × List gq) × CS)(env:Env)(s:CS):qL n ks env s=((.mk 8 0 (bs []) [] n.names [] [] (ks env (ng n s (mH [] n.names))).1.1,(pW (.mk 5 (bs []) n.names (ks env (ng n s (mH [] n.names))).1.2) n.line n.col (ks env (ng n s (mH [] n.names))).2).1),(pW (.mk 5 (bs []) n.names (ks env (ng n s (mH [] n.names))).1.2) n.line n.col (ks env (ng n s (mH [] n.names))).2).2):=rfl
theorem Xb:∀l:List gz,l.length<=iW l
|[]=>by simp
|n::l=>by
 have:=Xb l;have:=qP n;rw[iW,length_cons];omega
theorem Xc:∀(l:List gz) (j:Nat),iW (l.drop j)<=iW l
|[],j=>by simp
|n::l,0=>by simp
|n::l,j+1=>by
 have:=Xc l j;rw[drop_succ_cons,iW];omega
theorem Xd(env:Env):∀(l:List gz),(∀x,x∈l->jm L x (jC L x))->sD env (iW l)->∀(s:CS) (b:Nat),lH L s (8*iW l+b)->lH L (oP L l env s).2 b
|[],_,_,s,b,h=>by rw[oP];exact h.less (by omega)
|n::l,hl,he,s,b,h=>by
 rw[iW]at he h;have h1:=hl n (by simp) env s (8*iW l+b) (he.less (by omega)) (h.less (by omega));rw[oP];exact Xd env l (λx hx=>hl x (by simp[hx])) (he.less (by omega)) _ b h1.1
theorem zJC(n:gz)(hks:∀x,x∈n.kids->jm L x (jC L x)):jm L n (qL n (oP L n.kids)):=λenv s k he hs=>by
 rw[qP]at he hs;have h1:=Xd L env n.kids hks (he.less (by omega)) (ng n s (mH [] n.names)) k (X9 (hs.less (by omega)) _);rw[Xa];exact GM h1 _ _ _
abbrev OH(l:List iB):Blk:=.arr 8 ((l.map iB.enc).map (·.map .d))
abbrev GR(n:gz)(env:Env)(i:Nat):List (Nat × AV):=[(8,.c (.d (.int .i64 i))),(7,.c (.ptr 13 0)),(6,.c (.ptr 12 0)),(4,.c (.d (.rp n.enc 0))),(2,.c (.d (.sl false 5 (env.map jA)))),(0,.c (.ptr 0 0))]
abbrev GU(P:List Blk)(S:CS):List Blk:=qy L S++(P++[.box [.d (.int .i64 0),.d (.int .i64 0),.d (.str (bs [])),.d (.sl true 1 []),.d (.sl true 1 []),.d (.sl true 4 []),.d (.sl true 5 []),.d (.sl true 8 [])],.box [.d (.int .i64 0),.d (.str (bs [])),.d (.sl true 1 []),.d (.sl true 4 [])]])
abbrev rcT(n:gz)(env:Env)(j:Nat):List (Nat × AV):=[(12,.c (.d (.int .i64 j))),(11,.c (.ptr 11 0)),(10,.c (.ptr 10 0)),(7,.c (.ptr 9 0)),(6,.c (.ptr 8 0)),(4,.c (.d (.rp n.enc 0))),(2,.c (.d (.sl false 5 (env.map jA)))),(0,.c (.ptr 0 0))]
abbrev rcB(n:gz)(P:List Blk)(S:CS)(cs:List iB)(ts:List gq):List Blk:=[uh L S 2 12 3,xf 256 S.tab.length 13,oV S.funs,mJ S.bad]++(P++[.box [.d (.int .i64 0),.d (.int .i64 0),.d (.str (bs [])),.d (.sl true 1 []),.d (.sl true 1 []),.d (.sl true 4 []),.d (.sl true 5 []),.d (.sl true 8 [])],.box [.d (.int .i64 0),.d (.str (bs [])),.d (.sl true 1 []),.d (.sl true 4 [])],.box [.d (.int .i64 8),.d (.int .i64 0),.d (.str (bs [])),.d (.sl true 1 []),.d (.sl false 1 (encS n.names)),.d (.sl true 4 []),.d (.sl true 5 []),.msl 8 14 0 cs.length],.box [.d (.int .i64 5),.d (.str (bs [])),.d (.sl false 1 (encS n.names)),.msl 4 15 0 ts.length],qx S.sites,oU S.tab,OH cs,oQ ts])
theorem zDV(n:gz)(hnm:n.names.length<=1000000)(hks:∀x,x∈n.kids->rR L x (jC L x)):jR L 85 n (qL n (oP L n.kids)):=λenv s k he hs=>by
 refine zBI mD λts hts ok hbk c hN hp=>?_;obtain⟨t,u,v,w,x,y,rfl⟩:=mZ hts;have hn:=qP n;rw[Xa];unfold Wy;simp;refine fU iC hp (λi:Nat=>i<=n.names.length) (GR n env) (λi=>GU L [.pin t 0,.pin u 1,.pin v 2,.pin w 3,.pin x 4,.pin y 5] (ng n s (Aq n.names i))) (λi=>n.names.length-i) 0 [0,1,2,3,4,5,6,7,8,9,10,11,12,13] (by simp) (by simp[Aq,ng]) λi h1=>?_;unfold Ww;simp;apply gT<;>intro h
 ·have hi:i<n.names.length:=by simpa using h
  obtain⟨z,hz⟩:∃z,n.names[i]=z:=⟨_,rfl⟩
  have hz2:n.names[i]?=some z:=by rw[aA hi,hz]
  try simp
  refine fU iC hp (λj:Nat=>j<=i) (λj=>(9,.c (.d (.int .i64 j)))::GR n env i) (λj=>GU L [.pin t 0,.pin u 1,.pin v 2,.pin w 3,.pin x 4,.pin y 5] (ng n s (zh n.names i j))) (λj=>i-j) 0 [0,1,2,3,4,5,6,7,8,9,10,11,12,13] (by simp) (by simp[zh]) λj h2=>?_;unfold Wv;simp;apply gT<;>intro h
  ·have hj:j<i:=by simpa using h
   have hj2:j<n.names.length:=by omega
   obtain⟨q,hq⟩:∃q,n.names[j]=q:=⟨_,rfl⟩
   have hw:=wI (n:=(j:Int)+1);have m:=vK L n 8 (ng n s (zh n.names i j));rw[zFh]at m;have e:zh n.names i (j+1)=(zh n.names i j||decide (q=z)):=by
    unfold zh;rw[aJ hj2,hz2,hq];simp[Bool.or_assoc]
   by_cases c0:q=z
   ·have e2:zh n.names i (j+1)=true:=by rw[e];simp[c0]
    simp[hj2,hq,hz,hi,c0];refine⟨by decide,?_⟩;refine gU [0,1,2,3,4,5] m ?_;simp;refine fJ (j+1) [0,1,2,3,4,5,6,7,8,9,10,11,12,13] (by omega) (by omega) ?_;simp[hw,e2]
   ·have e2:zh n.names i (j+1)=zh n.names i j:=by rw[e];simp[c0]
    simp[hj2,hq,hz,hi,c0];refine⟨by decide,?_⟩;refine fJ (j+1) [0,1,2,3,4,5,6,7,8,9,10,11,12,13] (by omega) (by omega) ?_;simp[hw,e2]
  ·have hj:j=i:=by simp at h;omega
   subst hj;have hw:=wI (n:=(j:Int)+1);have e:zh n.names j j=Aq n.names (j+1):=rfl;simp;refine fJ (j+1) [0,1,2,3,4,5,6,7,8,9,10,11,12,13] (by omega) (by omega) ?_;simp[hw,e]
 have hi:i=n.names.length:=by simp at h;omega
 subst hi;rw[zFg];have s1:=X9 (n:=n) (b:=8*iW n.kids+k) (hs.less (by omega)) (mH [] n.names);generalize ng n s (mH [] n.names)=s1' at*
 obtain⟨R,hR⟩:∃R,oP L n.kids env s1'=R:=⟨_,rfl⟩
 rw[hR];have hkl:=Xb n.kids;have hel:=he.len;simp;refine fo [.c 14 7,.c 15 3] ?_;simp;refine fU iC hp (λY:Nat × CS × List iB × List gq=>Y.1<=n.kids.length/\lH L Y.2.1 (8*iW (n.kids.drop Y.1)+k)/\Y.2.2.1.length=Y.1/\Y.2.2.2.length=Y.1/\((Y.2.2.1++(oP L (n.kids.drop Y.1) env Y.2.1).1.1,Y.2.2.2++(oP L (n.kids.drop Y.1) env Y.2.1).1.2),(oP L (n.kids.drop Y.1) env Y.2.1).2)=R) (λY=>rcT n env Y.1) (λY=>rcB L n [.pin t 0,.pin u 1,.pin v 2,.pin x 3] Y.2.1 Y.2.2.1 Y.2.2.2) (λY=>n.kids.length-Y.1) (0,s1',[],[]) [0,1,2,4,6,7,8,10,12,13,14,15,3,5,16,17] ⟨by simp,by simpa using s1,by simp,by simp,by simpa using hR⟩ (by simp) λ⟨j,S,cs,ts⟩ ⟨i1,i2,i3,i4,i5⟩=>?_;unfold Wx;simp only at i1 i2 i3 i4 i5;simp;apply gT<;>intro h
 ·have hj:j<n.kids.length:=by simpa using h
  obtain⟨q,hq⟩:∃q,n.kids[j]=q:=⟨_,rfl⟩
  have hqm:q∈n.kids:=by rw[<-hq];exact aP hj
  have hd:=Xc n.kids j;rw[aF hj,hq]at i2 i5 hd;rw[oP]at i5;rw[iW]at i2 hd;have m:=(hks q hqm).1 env S (8*iW (n.kids.drop (j+1))+k) (he.less (by omega)) (i2.less (by omega));have p:=(hks q hqm).2 env S (8*iW (n.kids.drop (j+1))+k) (he.less (by omega)) (i2.less (by omega));simp only at i5;generalize jC L q env S=r at*
  have hw:=wI (n:=(j:Int)+1);simp[hj,hq];refine gU [0,1,2,12,3,13] m ?_;simp;refine⟨by omega,by omega,?_⟩;refine fJ (j+1,r.2,cs++[r.1.1],ts++[r.1.2]) [0,1,2,3,4,5,6,7,8,9,10,11,16,17,20,21] ⟨by simp only;omega,p.1,by simp;omega,by simp;omega,by simpa using i5⟩ (by simp only;omega) ?_;simp[hw];refine⟨?_,?_⟩
  ·rw[vG _ _ (by simp)]
  ·rw[vG _ _ (by simp)]
 have hj:j=n.kids.length:=by simp at h;omega
 subst hj;rw[aO,oP]at i5;simp only[bN]at i5;subst i5;simp only;have m4:=DX L (.mk 5 (bs []) n.names ts) n S;generalize pW (.mk 5 (bs []) n.names ts) n.line n.col S=r4 at*
 simp;refine fe [14,15] ?_;have z1:=vG (cs.map iB.enc) cs.length (by simp);have z2:=vG (ts.map gq.enc) ts.length (by simp);simp[iT,z1,z2];refine gY [0,1,2,12,3,13] m4 (by simp[tT]) ?_;simp;refine⟨by decide,?_⟩;exact fO [0,1,2,8,3,9,12,13] [4,5,6,4,7,4] (by simp[z1,GK,yx,tT,encI,AV.erds,AV.erd,D.erdL,D.erd,D.erdE,jU,jV])
end
section
variable (L:iV)
theorem OI{L:iV}(ln cl:Int):∀(ts l:List gq) (s:CS) (b:Nat),lH L s b->lH L (sQ ln cl ts l s).2 b
|[],_,_,_,h=>h
|t::ts,l,s,b,h=>by
 rw[sQ];split
 ·exact h
 ·exact OI ln cl ts _ _ b (wW h t ln cl).1
theorem OJ(x:fI):∀l:List jI,(ql l x).2=true->(ql l x).1∈l
|[],h=>by simp[ql]at h
|e::l,h=>by
 rw[ql]at h⊢;split at h
 ·rename_i q;rw[aC q];simp
 ·rename_i q;rw[aB q];exact mem_cons_of_mem _ (OJ x l h)
theorem Xe{env:Env}{b:Nat}(he:sD env b)(k:Nat):jG (env.getD k (bs [],noT)).2:=by
 rw[aH];cases h:env[k]? with
 |none=>exact rQ
 |some v=>exact he.wf v (ae h)
theorem Xf(ln cl:Int):∀(ts l:List gq) (s:CS),(sQ ln cl ts l s).1.length<=l.length+ts.length
|[],l,_=>by rw[sQ];simp
| t::ts,l,s=>by
 rw[sQ];split
 ·simp only[length_cons];omega
 ·refine ak (Xf ln cl ts _ _) ?_;simp only[aX,length_cons,length_nil];omega
theorem zIO{L:iV}(hL:oL L)(i:Nat)(x:fI)(h:(ql (L.scopes.getD i []) x).2=true):kI L ⟨bs [],(ql (L.scopes.getD i []) x).1.module,(ql (L.scopes.getD i []) x).1.decl⟩:=by
 have hm:=OJ x _ h;have:L.scopes.getD i []∈L.scopes:=by
  rw[aH]at hm⊢;cases q:L.scopes[i]? with
  |none=>rw[q]at hm;simp at hm
  |some sc=>exact ae q
 have r:=hL.ents _ this _ hm;exact⟨r.m0,r.m1,r.d0,r.d1⟩
theorem zH3(hL:oL L)(n:gz)(hty:n.types.length<=1000000):jm L n (xU L n):=λenv s k he hs=>by
 have hs:=hs.less (c:=k) (by omega);have ent:=zIO hL s.module.toNat n.text;unfold xU;simp only;split
 ·exact⟨hs,Xe he _⟩
 rename_i c1;split
 ·exact⟨vg hs _ _ _,rQ⟩
 rename_i c2;split
 ·exact⟨vg hs _ _ _,rQ⟩
 rename_i c3;have ent:=ent (by
  by_cases q:(ql (L.scopes.getD s.module.toNat []) n.text).2=true
  ·exact q
  ·exact absurd ⟨by omega,by simpa using q⟩ c2)
 split
 ·exact⟨vg hs _ _ _,rQ⟩
 split
 ·exact X5 hs _ _ _ _ ent (by simp)
 have h2:=OI n.line n.col n.types [] s k hs;have h3:=Xf n.line n.col n.types [] s;split
 ·exact⟨h2,rQ⟩
 split
 ·exact⟨vg h2 _ _ _,rQ⟩
 ·exact X5 h2 _ _ _ _ ent (by simp at h3;omega)
abbrev nmT(n:gz)(j m:Nat):List (Nat × AV):=[(14,.c (.d (.int .i64 j))),(13,.c (.msl 4 17 0 m)),(12,.c (.ptr 16 0)),(11,.c (.ptr 15 0)),(9,.c (.ptr 14 0)),(7,.c (.ptr 13 0)),(6,.c (.ptr 12 0)),(4,.c (.d (.rp n.enc 0))),(0,.c (.ptr 0 0))]
abbrev nmB(P:List Blk)(e:jI)(d:jd)(S:CS)(ts:List gq):List Blk:=qy L S++(P++[.box [.d (.int .i64 0),.d (.int .i64 0),.d (.str (bs [])),.d (.sl true 1 []),.d (.sl true 1 []),.d (.sl true 4 []),.d (.sl true 5 []),.d (.sl true 8 [])],.box [.d (.int .i64 0),.d (.str (bs [])),.d (.sl true 1 []),.d (.sl true 4 [])],.box (e.enc.map .d),.box [.d (.int .i64 0),.d (.int .i64 0),.d (.str (bs [])),.d (.sl true 1 []),.d (.sl true 1 []),.d (.sl true 4 []),.d (.sl true 5 []),.d (.sl true 8 [])],.box (d.enc.map .d),oQ ts])
theorem zE8(hL:oL L)(n:gz)(hty:n.types.length<=1000000):jR L 81 n (xU L n):=λenv s k he hs=>by
 refine zCo mD λts hts ok hbk c hN hp=>?_;obtain⟨t,u,v,w,x,y,rfl⟩:=mZ hts;have hb0:=lD 0;have hel:=he.len;have hfi:=find_ok env (by omega) n.text;have hfl:=Nv env n.text;obtain⟨sc,hsc⟩:∃sc,L.scopes.getD s.module.toNat []=sc:=⟨_,rfl⟩
 obtain⟨mn,hmn⟩:∃mn:Nat,s.module=mn:=⟨s.module.toNat,by have:=hs.m0;omega⟩
 have hml:mn<L.scopes.length:=by have:=hs.m1;have:=hL.scopes;omega
 have hsc2:L.scopes[mn]?=some sc:=by rw[hmn]at hsc;simp only[az]at hsc;rw[<-hsc,aH,aA hml];try rfl
 have hfe:=Vz sc n.text;have hem:=OJ n.text sc;unfold xU;simp only;rw[hsc];generalize ql sc n.text=e at*
 generalize rP env n.text=z at*
 have hse:∀q:e.2=true,kI L e.1:=λq=>hL.ents sc (ae hsc2) _ (hem q);unfold Wq;simp[hmn,hsc2];refine gp hfi ?_;simp[hmn,hsc2];refine gp hfe ?_;have ge1:∀h,e.1.enc[1]'h=D.int .i64 e.1.module:=λ_=>rfl;have ge2:∀h,e.1.enc[2]'h=D.int .i64 e.1.decl:=λ_=>rfl;by_cases z0:0<=z
 ·obtain⟨zn,hzn⟩:∃zn:Nat,z=zn:=⟨z.toNat,by omega⟩
  have hzl:zn<env.length:=by omega
  obtain⟨v,hv⟩:∃v,env[zn]=v:=⟨_,rfl⟩
  have hv2:env.getD z.toNat (bs [],noT)=v:=by rw[hzn];simp only[az];rw[aH,aA hzl,hv];try rfl
  by_cases k4:n.kind=4
  ·rw[aC ⟨z0,k4⟩,hv2];subst hzn;simp[k4,hzl,hv];refine⟨by decide,by decide,?_⟩;exact fP [0,1,2,9,4,11,3,5] [6,7,8,9,10,11]
  ·rw[aB (λq=>k4 q.2),aB (λq=>by omega),aC z0];have m:=vK L n 18 s;generalize lG n.line n.col 18 s=s2 at*
   have z1:¬z<0:=by omega
   simp[k4,z0,z1];refine⟨by decide,?_⟩;refine gU [0,1,2,3,4,5] m ?_;simp;refine gp hb0 ?_;simp;refine⟨by decide,?_⟩;exact fP [0,1,2,9,4,11,3,5] [6,7,8,9,10,11]
 have z1:z<0:=by omega
 rw[aB (λq=>z0 q.1)];by_cases e2:e.2=true;rotate_left
 ·rw[aC ⟨z1,by simpa using e2⟩];have m:=vK L n 10 s;generalize lG n.line n.col 10 s=s2 at*
  simp[z0,z1,e2];refine⟨by decide,?_⟩;refine gU [0,1,2,3,4,5] m ?_;simp;refine gp hb0 ?_;simp;refine⟨by decide,?_⟩;exact fP [0,1,2,9,4,11,3,5] [6,7,8,9,10,11]
 rw[aB (λq=>by simp[e2]at q),aB z0];have hen:=hse e2;have hen2:kI L ⟨bs [],e.1.module,e.1.decl⟩:=⟨hen.m0,hen.m1,hen.d0,hen.d1⟩
 obtain⟨mn2,kn,M,e1,e3,g1,g2,hd⟩:=GL hL hen2;generalize hdd:vU L e.1.module e.1.decl=d at*
 by_cases c9:decide (0<d.vars.length)=decide (n.kind=19);rotate_left
 ·rw[aC c9];have m:=vK L n 18 s;generalize lG n.line n.col 18 s=s2 at*
  simp[z0,z1,e2,ge1,ge2,e1,e3,g1,g2];refine⟨by decide,by decide,?_⟩;by_cases c0:0<d.vars.length
  ·have c1:¬n.kind=19:=λq=>c9 (by simp[c0,q]);simp[c0,c1];refine gU [0,1,2,3,4,5] m ?_;simp;refine gp hb0 ?_;simp;refine⟨by decide,?_⟩;exact fP [0,1,2,9,4,11,3,5] [6,7,8,9,10,11]
  ·have c1:n.kind=19:=by
    by_cases q:n.kind=19
    ·exact q
    ·exact absurd (by simp[c0,q]) c9
   simp[c0,c1];refine gU [0,1,2,3,4,5] m ?_;simp;refine gp hb0 ?_;simp;refine⟨by decide,?_⟩;exact fP [0,1,2,9,4,11,3,5] [6,7,8,9,10,11]
 rw[aB (λq=>q c9)];by_cases k4:n.kind=4
 ·rw[aC k4];have c0:¬0<d.vars.length:=λq=>by simp[q,k4]at c9
  have m:=MCall.erd (args:=[.c (.ptr 0 0),.ag (n.enc.map .d),.ag (e.1.enc.map .d),.c (.d (.sl true 4 []))]) (X6 L hL n e.1 hen2 [] (by simp) s hs.tab) (by simp[AV.erds,AV.erd,AC.erd,D.erd,D.erdL,D.erdE,jI.enc]);generalize tN L n.line n.col e.1 [] s=r at*
  simp[z0,z1,e2,ge1,ge2,e1,e3,g1,g2];refine⟨by decide,by decide,?_⟩;simp[c0,k4];refine gU [0,1,2,3,4,5] m ?_;simp;exact fP [0,1,2,9,4,11,17,18] [6,7,8,9,10,11]
 rw[aB k4];obtain⟨R,hR⟩:∃R,sQ n.line n.col n.types [] s=R:=⟨_,rfl⟩
 have pR:=OI n.line n.col n.types [] s k (hs.less (by omega));rw[hR]at pR⊢;simp[z0,z1,e2,ge1,ge2,e1,e3,g1,g2];refine⟨by decide,by decide,?_⟩;have c9':(decide (0<d.vars.length) !=decide (n.kind=19))=false:=by rw[c9];simp
 apply gT<;>intro h
 ·exfalso;simp_all
 simp[k4];refine fo [.t 13] ?_;simp;refine fU iC hp (λY:Nat × CS × List gq=>Y.1<=n.types.length/\lH L Y.2.1 k/\Y.2.2.length=Y.1/\sQ n.line n.col (n.types.drop Y.1) Y.2.2 Y.2.1=R) (λY=>nmT n Y.1 Y.2.2.length) (λY=>nmB L [.pin t 0,.pin u 1,.pin v 2,.pin w 3,.pin x 4,.pin y 5] e.1 d Y.2.1 Y.2.2) (λY=>n.types.length-Y.1) (0,s,[]) [0,1,2,3,4,5,6,7,8,9,10,11,12,13,14,15,16,17] ⟨by simp,hs.less (by omega),by simp,by simpa using hR⟩ (by simp) λ⟨j,S,ts⟩ ⟨i1,i2,i3,i4⟩=>?_;unfold Wp;simp only at i1 i2 i3 i4;simp;by_cases hj:j<n.types.length
 ·by_cases q0:S.e=0
  ·obtain⟨q,hq⟩:∃q,n.types[j]=q:=⟨_,rfl⟩
   rw[aF hj,hq,sQ,aB (λz=>z q0)]at i4;have m:=DW L q n.line n.col S i2.wth;have p:=wW i2 q n.line n.col;generalize kH q n.line n.col S=r at*
   have hw:=wI (n:=(j:Int)+1);simp[hj,q0,hq];refine gU [0,1,2,3,4,5] m ?_;simp;refine⟨by decide,by omega,?_⟩;refine fJ (j+1,r.2,ts++[r.1]) [0,1,2,3,4,5,6,7,8,9,10,11,12,13,14,15,16,19] ⟨by simp only;omega,p.1,by simp;omega,i4⟩ (by simp only;omega) ?_;simp[hw];rw[vG _ _ (by simp)]
  ·have i5:(ts,S)=R:=by rw[aF hj,sQ,aC q0]at i4;exact i4
   subst i5;rw[aC q0];simp[hj,q0];refine gp hb0 ?_;simp;refine⟨by decide,?_⟩;exact fP [0,1,2,9,4,11,3,5] [6,7,8,9,10,11]
 have hj2:j=n.types.length:=by omega
 rw[hj2,aO,sQ]at i4;subst i4;by_cases q0:S.e=0;rotate_left
 ·rw[aC q0];simp[hj,q0];refine gp hb0 ?_;simp;refine⟨by decide,?_⟩;exact fP [0,1,2,9,4,11,3,5] [6,7,8,9,10,11]
 rw[aB (λz=>z q0)];have hbi:=zH6 d.vars ts (by omega);simp only;generalize EW d.vars ts=B at*
 have z3:=vG (ts.map gq.enc) ts.length (by simp);simp[hj,q0];refine fe [17] ?_;simp[iT,z3];refine gp hbi ?_;by_cases b0:B=0;rotate_left
 ·rw[aC b0];have m:=vK L n B S;generalize lG n.line n.col B S=s2 at*
  simp[b0];refine gU [0,1,2,3,4,5] m ?_;simp;refine gp hb0 ?_;simp;refine⟨by decide,?_⟩;exact fP [0,1,2,9,4,11,3,5] [6,7,8,9,10,11]
 rw[aB (λz=>z b0)];have m:=X6 L hL n e.1 hen2 ts (by omega) S i2.tab;generalize tN L n.line n.col e.1 ts S=r at*
 simp[b0,iT,z3];refine gU [0,1,2,3,4,5] m ?_;simp;exact fP [0,1,2,9,4,11,18,19] [6,7,8,9,10,11]
end
section
variable (L:iV)
theorem zIk(v:fI × gq)(t:gq):put ((jA v).map AC.d) 1 (t.enc.map AC.d)=(jA (v.1,t)).map AC.d:=by
 obtain⟨x,k⟩:=v;cases k;cases t;rfl
theorem zHc{a b:gq}(ha:jG a)(hb:jG b):jG (yh a b):=by
 unfold yh;split
 ·exact hb
 split
 ·exact ha
 split
 ·exact rQ
 split
 ·exact rQ
 split
 ·exact Fp _
 ·exact rQ
theorem zD1{t:gq}(ht:jG t)(tag:Int):jG (vS t tag).1/\jG (vS t tag).2:=by
 unfold vS;split
 ·exact⟨ht,ht⟩
 split
 ·split
  ·exact⟨ht,ht⟩
  ·rename_i q1 q2 q3;refine⟨?_,ht⟩;by_cases h:tag=4
   ·rw[h];exact OG
   ·exact vZ _ (by omega) (by omega)
 split
 ·exact⟨ht,ht⟩
 split
 ·exact⟨ht,ht⟩
 rename_i q1 q2 q3 q4;have p2:(jv (kF t) tag).2=true:=by simpa using q3
 have k7:t.kind=7:=by simpa using q4
 have h1:jG (jv (kF t) tag).1.t:=(Fy ht q2 (DN p2).1).1;have hm:∀x,x∈(t.kids.filter λk=>decide (iN k≠tag))->x∈t.kids:=λx hx=>(bB.1 hx).1;have hl:(t.kids.filter λk=>decide (iN k≠tag)).length<=t.kids.length:=bQ _ _;have h7:t.kids.length<=6/\∀x,x∈t.kids->1<=x.kind/\x.kind<=6:=by
  rcases((mI t).1 ht).2.2 with⟨_,q,_,_⟩|⟨q,_⟩|⟨q,_,_⟩|⟨_,_,q,r⟩
  ·omega
  ·omega
  ·omega
  ·exact⟨q,r⟩
 generalize (t.kids.filter λk=>decide (iN k≠tag))=F at*
 split
 ·rename_i r;exact⟨h1,yH ht (hm r (by simp))⟩
 ·exact⟨h1,(mI _).2 ⟨rfl,λx hx=>yH ht (hm x hx),.inr (.inr (.inr ⟨rfl,rfl,by show F.length<=6;omega,λx hx=>h7.2 x (hm x hx)⟩))⟩⟩
theorem sD.set{env:Env}{b:Nat}(h:sD env b)(k:Nat)(x:fI){t:gq}(ht:jG t):sD (env.set k (x,t)) b:=⟨by simpa using h.len,λv hv=>by
 rcases dV hv with hv|hv
 ·exact h.wf v hv
 ·subst hv;exact ht⟩
theorem Xg{env:Env}{b:Nat}(h:sD env b)(q:gz):sD (o8 q env).1 b/\sD (o8 q env).2 b:=by
 unfold o8;split
 ·have hw:=zD1 (Xe h (rP env (q.kids.getD 0 qh).text).toNat) q.n;exact⟨h.set _ _ hw.1,h.set _ _ hw.2⟩
 ·exact⟨h,h⟩
theorem OL(n q a b:gz)(hk:n.kids=[q,a,b])(iq ia ib:Inf)(hq:jm L q iq)(ha:jm L a ia)(hb:jm L b ib):jm L n (xY q a b iq ia ib):=λenv s k he hs=>by
 have hn:iK n=iK q+(iK a+iK b)+1:=by rw[qP,hk];simp[iW]
 have h1:=hq env s (3+8*iK a+8*iK b+k) (he.less (by omega)) (hs.less (by omega));have hne:=Xg he q;unfold xY;simp only;generalize iq env s=r1 at*
 have h2:=xg (b:=2+8*iK a+8*iK b+k) (h1.1.less (by omega)) r1.1.1 r1.1.2 (bT 2) q.line q.col;generalize kz r1.1.1 r1.1.2 (bT 2) q.line q.col r1.2=r2 at*
 have h3:=ha (o8 q env).1 r2.2 (2+8*iK b+k) (hne.1.less (by omega)) (h2.less (by omega));generalize ia (o8 q env).1 r2.2=r3 at*
 have h4:=hb (o8 q env).2 r3.2 (2+k) (hne.2.less (by omega)) (h3.1.less (by omega));generalize ib (o8 q env).2 r3.2=r4 at*
 have h5:=xg (b:=1+k) (h4.1.less (by omega)) r3.1.1 r3.1.2 (yh r3.1.2 r4.1.2) a.line a.col;generalize kz r3.1.1 r3.1.2 (yh r3.1.2 r4.1.2) a.line a.col r4.2=r5 at*
 exact⟨xg (h5.less (by omega)) _ _ _ _ _,zHc h3.2 h4.2⟩
theorem zD2(n q a b:gz)(hk:n.kids=[q,a,b])(hqk:q.kind=12->∃w,q.kids=[w])(iq ia ib:Inf)(hq:rR L q iq)(ha:rR L a ia)(hb:rR L b ib):jR L 88 n (xY q a b iq ia ib):=λenv s k he hs=>by
 refine zBJ mD λts hts ok hbk c hN hp=>?_;obtain⟨t,u,v,w,x,y,rfl⟩:=mZ hts;have hn:iK n=iK q+(iK a+iK b)+1:=by rw[qP,hk];simp[iW]
 have hel:=he.len;have hb2:=lD 2;have m1:=hq.1 env s (3+8*iK a+8*iK b+k) (he.less (by omega)) (hs.less (by omega));have h1:=hq.2 env s (3+8*iK a+8*iK b+k) (he.less (by omega)) (hs.less (by omega));have hne:=Xg he q;unfold xY;simp only;generalize iq env s=r1 at*
 have m2:=yz L r1.1.1 r1.1.2 (bT 2) q r1.2 (by have:=h1.1.sites;omega);have h2:=xg (b:=2+8*iK a+8*iK b+k) (h1.1.less (by omega)) r1.1.1 r1.1.2 (bT 2) q.line q.col;generalize kz r1.1.1 r1.1.2 (bT 2) q.line q.col r1.2=r2 at*
 obtain⟨ea,hea⟩:∃ea,(o8 q env).1=ea:=⟨_,rfl⟩
 obtain⟨eb,heb⟩:∃eb,(o8 q env).2=eb:=⟨_,rfl⟩
 rw[hea,heb]at hne⊢;have m3:=ha.1 ea r2.2 (2+8*iK b+k) (hne.1.less (by omega)) (h2.less (by omega));have h3:=ha.2 ea r2.2 (2+8*iK b+k) (hne.1.less (by omega)) (h2.less (by omega));generalize ia ea r2.2=r3 at*
 have m4:=hb.1 eb r3.2 (2+k) (hne.2.less (by omega)) (h3.1.less (by omega));have h4:=hb.2 eb r3.2 (2+k) (hne.2.less (by omega)) (h3.1.less (by omega));generalize ib eb r3.2=r4 at*
 have hj:=zHL r3.1.2 r4.1.2;generalize yh r3.1.2 r4.1.2=J at*
 have m5:=yz L r3.1.1 r3.1.2 J a r4.2 (by have:=h4.1.sites;omega);have h5:=xg (b:=1+k) (h4.1.less (by omega)) r3.1.1 r3.1.2 J a.line a.col;generalize kz r3.1.1 r3.1.2 J a.line a.col r4.2=r5 at*
 have m6:=yz L r4.1.1 r4.1.2 J b r5.2 (by have:=h5.sites;omega);generalize kz r4.1.1 r4.1.2 J b.line b.col r5.2=r6 at*
 have zA:=vG (ea.map jA) env.length;have zB:=vG (eb.map jA) env.length;unfold XB;simp[hk];refine gU [0,1,2,3,4,5] m1 ?_;simp;refine gp hb2 ?_;simp;refine gU [0,1,2,15,4,16] m2 ?_;simp;refine⟨by decide,by omega,?_⟩;by_cases c12:q.kind=12;rotate_left
 ·have e:o8 q env=(env,env):=by unfold o8;rw[aB (λz=>c12 z.1)]
  rw[e]at hea heb;simp only at hea heb;subst hea;subst heb;have zA:=zA (by simp);have zB:=zA;simp[c12];refine fe [20,21] ?_;simp[iT,hk,zA,zB, -map_set];refine gU [0,1,2,19,4,16] m3 ?_;simp[iT,hk,zA,zB, -map_set];refine gU [0,1,2,22,4,23] m4 ?_;simp[hk];refine gp hj ?_;simp[hk];refine gU [0,1,2,26,4,27] m5 ?_;simp[hk];refine⟨by decide,?_⟩;refine gU [0,1,2,31,4,27] m6 ?_;simp;refine⟨by decide,by decide,?_⟩;exact fP [0,1,2,9,4,11,32,27] [6,7,8,9,10,11]
 obtain⟨w',hw'⟩:=hqk c12;have g0:q.kids.getD 0 qh=w':=by rw[hw'];try rfl
 by_cases c4:w'.kind=4;rotate_left
 ·have e:o8 q env=(env,env):=by unfold o8;rw[g0,aB (λz=>c4 z.2.1)]
  rw[e]at hea heb;simp only at hea heb;subst hea;subst heb;have zA:=zA (by simp);have zB:=zA;simp[c12,hw',c4];refine fe [20,21] ?_;simp[iT,hk,zA,zB, -map_set];refine gU [0,1,2,19,4,16] m3 ?_;simp[iT,hk,zA,zB, -map_set];refine gU [0,1,2,22,4,23] m4 ?_;simp[hk];refine gp hj ?_;simp[hk];refine gU [0,1,2,26,4,27] m5 ?_;simp[hk];refine⟨by decide,?_⟩;refine gU [0,1,2,31,4,27] m6 ?_;simp;refine⟨by decide,by decide,?_⟩;exact fP [0,1,2,9,4,11,32,27] [6,7,8,9,10,11]
 have hfi:=find_ok env (by omega) w'.text;have hfl:=Nv env w'.text;have e:o8 q env=if 0<=rP env w'.text then(env.set (rP env w'.text).toNat ((env.getD (rP env w'.text).toNat (bs [],noT)).1,(vS (env.getD (rP env w'.text).toNat (bs [],noT)).2 q.n).1),env.set (rP env w'.text).toNat ((env.getD (rP env w'.text).toNat (bs [],noT)).1,(vS (env.getD (rP env w'.text).toNat (bs [],noT)).2 q.n).2))else(env,env):=by
  unfold o8;rw[g0];by_cases z:0<=rP env w'.text
  ·rw[aC ⟨c12,c4,z⟩,aC z]
  ·rw[aB (λp=>z p.2.2),aB z]
 generalize rP env w'.text=z at*
 by_cases z0:0<=z;rotate_left
 ·rw[aB z0]at e;rw[e]at hea heb;simp only at hea heb;subst hea;subst heb;have zA:=zA (by simp);have zB:=zA;simp[c12,hw',c4];refine gp hfi ?_;simp[z0];refine fe [20,21] ?_;simp[iT,hk,zA,zB, -map_set];refine gU [0,1,2,19,4,16] m3 ?_;simp[iT,hk,zA,zB, -map_set];refine gU [0,1,2,22,4,23] m4 ?_;simp[hk];refine gp hj ?_;simp[hk];refine gU [0,1,2,26,4,27] m5 ?_;simp[hk];refine⟨by decide,?_⟩;refine gU [0,1,2,31,4,27] m6 ?_;simp;refine⟨by decide,by decide,?_⟩;exact fP [0,1,2,9,4,11,32,27] [6,7,8,9,10,11]
 rw[aC z0]at e;obtain⟨zn,hzn⟩:∃zn:Nat,z=zn:=⟨z.toNat,by omega⟩
 have hzl:zn<env.length:=by omega
 obtain⟨v',hv⟩:∃v',env[zn]=v':=⟨_,rfl⟩
 subst hzn;have hv2:env.getD (zn:Int).toNat (bs [],noT)=v':=by simp only[az];rw[aH,aA hzl,hv];try rfl
 rw[hv2]at e;simp only[az]at e;have hnr:=zEz v'.2 q.n;generalize vS v'.2 q.n=N at*
 rw[e]at hea heb;simp only at hea heb;subst hea;subst heb;have zA:=zA (by simp);have zB:=zB (by simp);simp[c12,hw',c4];refine gp hfi ?_;simp[z0,hzl,hv];refine gp hnr ?_;simp[hzl,hv];refine⟨by decide,?_⟩;have ps:∀t1:gq,(List.map ((λx=>List.map AC.d x)∘jA) env).set zn (put (List.map AC.d (jA v')) 1 (List.map AC.d t1.enc))=List.map ((λx=>List.map AC.d x)∘jA) (env.set zn (v'.1,t1)):=λt1=>by
  rw[zIk,fA];try rfl
 simp only[ps];refine fe [20,21] ?_;simp[iT,hk,zA,zB, -map_set];refine gU [0,1,2,19,4,16] m3 ?_;simp[iT,hk,zA,zB, -map_set];refine gU [0,1,2,24,4,25] m4 ?_;simp[hk];refine gp hj ?_;simp[hk];refine gU [0,1,2,28,4,29] m5 ?_;simp[hk];refine⟨by decide,?_⟩;refine gU [0,1,2,33,4,29] m6 ?_;simp;refine⟨by decide,by decide,?_⟩;exact fP [0,1,2,9,4,11,34,29] [6,7,8,9,10,11]
end
end Go.Gr
namespace Go.Gr
open Go.Abs Go.Proofs
def ow(k:Int)(ts:List gq)(ns:List fI)(ks:List gz):Prop:=
(k=0\/k=1\/k=2\/k=3\/k=18)\/((k=4\/k=19)/\ts.length<=1000000)\/(k=8/\ns.length<=1000000)\/(k=6/\ks.length=1/\1<=ts.length)\/(k=13/\ks.length=1/\1<=ts.length)\/(k=9/\ks.length=1)\/((k=12\/k=15\/k=16\/k=17)/\ks.length=1)\/(k=5/\ks.length=2)\/(k=7/\ks.length=2)\/(k=10/\ks.length=2)\/(k=14/\ks.length=2)\/(k=11/\ks.length=3)
mutual
def oW:gz->Prop
|.mk k _ _ _ _ ts ns ks=>ni ks/\ow k ts ns ks
def ni:List gz->Prop
|[]=>True
|n::l=>oW n/\ni l
end
theorem GV:∀l:List gz,ni l↔∀x,x∈l->oW x
|[]=>by simp[ni]
|n::l=>by simp[ni,GV l]
theorem Xh(n:gz):oW n↔(∀x,x∈n.kids->oW x)/\ow n.kind n.types n.names n.kids:=by
 cases n;rw[oW,GV];try rfl
def kP(j:Inf):Inf:=λenv s=>if s.e≠0 then((noC,noT),s)else j env s
section
variable (L:iV)
theorem yI{n:gz}{j:Inf}(h:jm L n j):jm L n (kP j):=λenv s k he hs=>by
 unfold kP;split
 ·exact⟨hs.less (by omega),rQ⟩
 ·exact h env s k he hs
theorem zEi(n:gz)(K:n.kind=4\/n.kind=19)(j:Inf)(h:jR L 81 n j):jR L 58 n (kP j):=λenv s k he hs=>by
 refine vF mD λts hts ok hbk c hN hp=>?_;obtain⟨t,u,v,w,x,y,rfl⟩:=mZ hts;have hb0:=lD 0;have m:=h env s k he hs;unfold kP;by_cases q0:s.e=0;rotate_left
 ·rw[aC q0];unfold nZ;simp[q0];refine gp hb0 ?_;simp;exact fP [0,1,2,9,4,11,3,5] [6,7,8,9,10,11]
 rw[aB (λz=>z q0)];generalize j env s=r at*
 unfold nZ;rcases K with K|K
 ·simp[q0,K];refine gU [0,1,2,3,4,5] m ?_;simp;exact fP [0,1,2,9,4,11,14,15] [6,7,8,9,10,11]
 ·simp[q0,K];refine gU [0,1,2,3,4,5] m ?_;simp;exact fP [0,1,2,9,4,11,14,15] [6,7,8,9,10,11]
theorem zHB(n:gz)(K:n.kind=5)(j:Inf)(h:jR L 82 n j):jR L 58 n (kP j):=λenv s k he hs=>by
 refine vF mD λts hts ok hbk c hN hp=>?_;obtain⟨t,u,v,w,x,y,rfl⟩:=mZ hts;have hb0:=lD 0;have m:=h env s k he hs;unfold kP;by_cases q0:s.e=0;rotate_left
 ·rw[aC q0];unfold nZ;simp[q0];refine gp hb0 ?_;simp;exact fP [0,1,2,9,4,11,3,5] [6,7,8,9,10,11]
 rw[aB (λz=>z q0)];generalize j env s=r at*
 unfold nZ
 skip
 ·simp[q0,K];refine gU [0,1,2,3,4,5] m ?_;simp;exact fP [0,1,2,9,4,11,14,15] [6,7,8,9,10,11]
theorem zIx(n:gz)(K:n.kind=6)(j:Inf)(h:jR L 83 n j):jR L 58 n (kP j):=λenv s k he hs=>by
 refine vF mD λts hts ok hbk c hN hp=>?_;obtain⟨t,u,v,w,x,y,rfl⟩:=mZ hts;have hb0:=lD 0;have m:=h env s k he hs;unfold kP;by_cases q0:s.e=0;rotate_left
 ·rw[aC q0];unfold nZ;simp[q0];refine gp hb0 ?_;simp;exact fP [0,1,2,9,4,11,3,5] [6,7,8,9,10,11]
 rw[aB (λz=>z q0)];generalize j env s=r at*
 unfold nZ
 skip
 ·simp[q0,K];refine gU [0,1,2,3,4,5] m ?_;simp;exact fP [0,1,2,9,4,11,14,15] [6,7,8,9,10,11]
theorem zFU(n:gz)(K:n.kind=7)(j:Inf)(h:jR L 84 n j):jR L 58 n (kP j):=λenv s k he hs=>by
 refine vF mD λts hts ok hbk c hN hp=>?_;obtain⟨t,u,v,w,x,y,rfl⟩:=mZ hts;have hb0:=lD 0;have m:=h env s k he hs;unfold kP;by_cases q0:s.e=0;rotate_left
 ·rw[aC q0];unfold nZ;simp[q0];refine gp hb0 ?_;simp;exact fP [0,1,2,9,4,11,3,5] [6,7,8,9,10,11]
 rw[aB (λz=>z q0)];generalize j env s=r at*
 unfold nZ
 skip
 ·simp[q0,K];refine gU [0,1,2,3,4,5] m ?_;simp;exact fP [0,1,2,9,4,11,14,15] [6,7,8,9,10,11]
theorem zDh(n:gz)(K:n.kind=8)(j:Inf)(h:jR L 85 n j):jR L 58 n (kP j):=λenv s k he hs=>by
 refine vF mD λts hts ok hbk c hN hp=>?_;obtain⟨t,u,v,w,x,y,rfl⟩:=mZ hts;have hb0:=lD 0;have m:=h env s k he hs;unfold kP;by_cases q0:s.e=0;rotate_left
 ·rw[aC q0];unfold nZ;simp[q0];refine gp hb0 ?_;simp;exact fP [0,1,2,9,4,11,3,5] [6,7,8,9,10,11]
 rw[aB (λz=>z q0)];generalize j env s=r at*
 unfold nZ
 skip
 ·simp[q0,K];refine gU [0,1,2,3,4,5] m ?_;simp;exact fP [0,1,2,9,4,11,14,15] [6,7,8,9,10,11]
theorem zHC(n:gz)(K:n.kind=9)(j:Inf)(h:jR L 86 n j):jR L 58 n (kP j):=λenv s k he hs=>by
 refine vF mD λts hts ok hbk c hN hp=>?_;obtain⟨t,u,v,w,x,y,rfl⟩:=mZ hts;have hb0:=lD 0;have m:=h env s k he hs;unfold kP;by_cases q0:s.e=0;rotate_left
 ·rw[aC q0];unfold nZ;simp[q0];refine gp hb0 ?_;simp;exact fP [0,1,2,9,4,11,3,5] [6,7,8,9,10,11]
 rw[aB (λz=>z q0)];generalize j env s=r at*
 unfold nZ
 skip
 ·simp[q0,K];refine gU [0,1,2,3,4,5] m ?_;simp;exact fP [0,1,2,9,4,11,14,15] [6,7,8,9,10,11]
theorem zEj(n:gz)(K:n.kind=10)(j:Inf)(h:jR L 87 n j):jR L 58 n (kP j):=λenv s k he hs=>by
 refine vF mD λts hts ok hbk c hN hp=>?_;obtain⟨t,u,v,w,x,y,rfl⟩:=mZ hts;have hb0:=lD 0;have m:=h env s k he hs;unfold kP;by_cases q0:s.e=0;rotate_left
 ·rw[aC q0];unfold nZ;simp[q0];refine gp hb0 ?_;simp;exact fP [0,1,2,9,4,11,3,5] [6,7,8,9,10,11]
 rw[aB (λz=>z q0)];generalize j env s=r at*
 unfold nZ
 skip
 ·simp[q0,K];refine gU [0,1,2,3,4,5] m ?_;simp;exact fP [0,1,2,9,4,11,14,15] [6,7,8,9,10,11]
theorem zDi(n:gz)(K:n.kind=11)(j:Inf)(h:jR L 88 n j):jR L 58 n (kP j):=λenv s k he hs=>by
 refine vF mD λts hts ok hbk c hN hp=>?_;obtain⟨t,u,v,w,x,y,rfl⟩:=mZ hts;have hb0:=lD 0;have m:=h env s k he hs;unfold kP;by_cases q0:s.e=0;rotate_left
 ·rw[aC q0];unfold nZ;simp[q0];refine gp hb0 ?_;simp;exact fP [0,1,2,9,4,11,3,5] [6,7,8,9,10,11]
 rw[aB (λz=>z q0)];generalize j env s=r at*
 unfold nZ
 skip
 ·simp[q0,K];refine gU [0,1,2,3,4,5] m ?_;simp;exact fP [0,1,2,9,4,11,14,15] [6,7,8,9,10,11]
theorem zIy(n:gz)(K:n.kind=13)(j:Inf)(h:jR L 89 n j):jR L 58 n (kP j):=λenv s k he hs=>by
 refine vF mD λts hts ok hbk c hN hp=>?_;obtain⟨t,u,v,w,x,y,rfl⟩:=mZ hts;have hb0:=lD 0;have m:=h env s k he hs;unfold kP;by_cases q0:s.e=0;rotate_left
 ·rw[aC q0];unfold nZ;simp[q0];refine gp hb0 ?_;simp;exact fP [0,1,2,9,4,11,3,5] [6,7,8,9,10,11]
 rw[aB (λz=>z q0)];generalize j env s=r at*
 unfold nZ
 skip
 ·simp[q0,K];refine gU [0,1,2,3,4,5] m ?_;simp;exact fP [0,1,2,9,4,11,14,15] [6,7,8,9,10,11]
theorem zIz(n:gz)(K:n.kind=14)(j:Inf)(h:jR L 90 n j):jR L 58 n (kP j):=λenv s k he hs=>by
 refine vF mD λts hts ok hbk c hN hp=>?_;obtain⟨t,u,v,w,x,y,rfl⟩:=mZ hts;have hb0:=lD 0;have m:=h env s k he hs;unfold kP;by_cases q0:s.e=0;rotate_left
 ·rw[aC q0];unfold nZ;simp[q0];refine gp hb0 ?_;simp;exact fP [0,1,2,9,4,11,3,5] [6,7,8,9,10,11]
 rw[aB (λz=>z q0)];generalize j env s=r at*
 unfold nZ
 skip
 ·simp[q0,K];refine gU [0,1,2,3,4,5] m ?_;simp;exact fP [0,1,2,9,4,11,14,15] [6,7,8,9,10,11]
theorem zHD(n:gz)(K:n.kind=12\/n.kind=15\/n.kind=16\/n.kind=17)(j:Inf)(h:jR L 91 n j):jR L 58 n (kP j):=λenv s k he hs=>by
 refine vF mD λts hts ok hbk c hN hp=>?_;obtain⟨t,u,v,w,x,y,rfl⟩:=mZ hts;have hb0:=lD 0;have m:=h env s k he hs;unfold kP;by_cases q0:s.e=0;rotate_left
 ·rw[aC q0];unfold nZ;simp[q0];refine gp hb0 ?_;simp;exact fP [0,1,2,9,4,11,3,5] [6,7,8,9,10,11]
 rw[aB (λz=>z q0)];generalize j env s=r at*
 unfold nZ;rcases K with K|K|K|K
 ·simp[q0,K];refine gU [0,1,2,3,4,5] m ?_;simp;exact fP [0,1,2,9,4,11,14,15] [6,7,8,9,10,11]
 ·simp[q0,K];refine gU [0,1,2,3,4,5] m ?_;simp;exact fP [0,1,2,9,4,11,14,15] [6,7,8,9,10,11]
 ·simp[q0,K];refine gU [0,1,2,3,4,5] m ?_;simp;exact fP [0,1,2,9,4,11,14,15] [6,7,8,9,10,11]
 ·simp[q0,K];refine gU [0,1,2,3,4,5] m ?_;simp;exact fP [0,1,2,9,4,11,14,15] [6,7,8,9,10,11]
theorem zHE(n:gz)(K:n.kind=0):jR L 58 n (kP λenv s=>((cN 0 n.n,bT 3),s)):=λenv s k he hs=>by
 refine vF mD λts hts ok hbk c hN hp=>?_;obtain⟨t,u,v,w,x,y,rfl⟩:=mZ hts;have hb0:=lD 0;have hbK:=lD 3;unfold kP;by_cases q0:s.e=0;rotate_left
 ·rw[aC q0];unfold nZ;simp[q0];refine gp hb0 ?_;simp;exact fP [0,1,2,9,4,11,3,5] [6,7,8,9,10,11]
 rw[aB (λz=>z q0)];unfold nZ;simp[q0,K];refine gp hbK ?_;simp;refine⟨by decide,?_⟩;exact fP [0,1,2,9,4,11,3,5] [6,7,8,9,10,11]
theorem zHF(n:gz)(K:n.kind=1):jR L 58 n (kP λenv s=>((cT 1 n.text [],bT 4),s)):=λenv s k he hs=>by
 refine vF mD λts hts ok hbk c hN hp=>?_;obtain⟨t,u,v,w,x,y,rfl⟩:=mZ hts;have hb0:=lD 0;have hbK:=lD 4;unfold kP;by_cases q0:s.e=0;rotate_left
 ·rw[aC q0];unfold nZ;simp[q0];refine gp hb0 ?_;simp;exact fP [0,1,2,9,4,11,3,5] [6,7,8,9,10,11]
 rw[aB (λz=>z q0)];unfold nZ;simp[q0,K];refine gp hbK ?_;simp;refine⟨by decide,?_⟩;exact fP [0,1,2,9,4,11,3,5] [6,7,8,9,10,11]
theorem zFV(n:gz)(K:n.kind=2):jR L 58 n (kP λenv s=>((cN 2 n.n,bT 2),s)):=λenv s k he hs=>by
 refine vF mD λts hts ok hbk c hN hp=>?_;obtain⟨t,u,v,w,x,y,rfl⟩:=mZ hts;have hb0:=lD 0;have hbK:=lD 2;unfold kP;by_cases q0:s.e=0;rotate_left
 ·rw[aC q0];unfold nZ;simp[q0];refine gp hb0 ?_;simp;exact fP [0,1,2,9,4,11,3,5] [6,7,8,9,10,11]
 rw[aB (λz=>z q0)];unfold nZ;simp[q0,K];refine gp hbK ?_;simp;refine⟨by decide,?_⟩;exact fP [0,1,2,9,4,11,3,5] [6,7,8,9,10,11]
theorem zHG(n:gz)(K:n.kind=3):jR L 58 n (kP λenv s=>((cN 3 0,bT 1),s)):=λenv s k he hs=>by
 refine vF mD λts hts ok hbk c hN hp=>?_;obtain⟨t,u,v,w,x,y,rfl⟩:=mZ hts;have hb0:=lD 0;have hbK:=lD 1;unfold kP;by_cases q0:s.e=0;rotate_left
 ·rw[aC q0];unfold nZ;simp[q0];refine gp hb0 ?_;simp;exact fP [0,1,2,9,4,11,3,5] [6,7,8,9,10,11]
 rw[aB (λz=>z q0)];unfold nZ;simp[q0,K];refine gp hbK ?_;simp;exact fP [0,1,2,9,4,11,3,5] [6,7,8,9,10,11]
theorem zFW(n:gz)(K:n.kind=18):jR L 58 n (kP λenv s=>((cN 20 0,bT 3),s)):=λenv s k he hs=>by
 refine vF mD λts hts ok hbk c hN hp=>?_;obtain⟨t,u,v,w,x,y,rfl⟩:=mZ hts;have hb0:=lD 0;have hbK:=lD 3;unfold kP;by_cases q0:s.e=0;rotate_left
 ·rw[aC q0];unfold nZ;simp[q0];refine gp hb0 ?_;simp;exact fP [0,1,2,9,4,11,3,5] [6,7,8,9,10,11]
 rw[aB (λz=>z q0)];unfold nZ;simp[q0,K];refine gp hbK ?_;simp;exact fP [0,1,2,9,4,11,3,5] [6,7,8,9,10,11]
theorem GX{n:gz}{c:Env->CS->iB}{b:Int}(h0:0<=b)(h4:b<=4):jm L n (kP λenv s=>((c env s,bT b),s)):=yI L λenv s k he hs=>⟨hs.less (by omega),vZ b h0 h4⟩
theorem GY{l:List gz}(h:l.length=1):∃a,l=[a]:=by
 match l,h with
 |[a],_=>exact⟨a,rfl⟩
theorem JR{l:List gz}(h:l.length=2):∃a b,l=[a,b]:=by
 match l,h with
 |[a,b],_=>exact⟨a,b,rfl⟩
theorem zBW{l:List gz}(h:l.length=3):∃a b c,l=[a,b,c]:=by
 match l,h with
 |[a,b,c],_=>exact⟨a,b,c,rfl⟩
def p9(n:gz)(rest:Inf):Inf:=λenv s=>
 if n.kind=0 then((cN 0 n.n,bT 3),s)
 else if n.kind=1 then((cT 1 n.text [],bT 4),s)
 else if n.kind=2 then((cN 2 n.n,bT 2),s)
 else if n.kind=3 then((cN 3 0,bT 1),s)
 else if n.kind=18 then((cN 20 0,bT 3),s)
 else if n.kind=4\/n.kind=19 then xU L n env s
 else if n.kind=8 then qL n (oP L n.kids) env s
 else rest env s
def Br(n a:gz):Inf:=λenv s=>
 if n.kind=6 then xV n a (jC L a) env s
 else if n.kind=9 then pY n (jC L a) env s
 else if n.kind=13 then xZ n (jC L a) env s
 else p8 n a (jC L a) env s
def Bt(n a b:gz):Inf:=λenv s=>
 if n.kind=5 then pX n a (jC L a) (jC L b) env s
 else if n.kind=7 then xW n b (jC L a) (jC L b) env s
 else if n.kind=10 then xX n (jC L a) (jC L b) env s
 else opC n a b (jC L a) (jC L b) env s
theorem JS(k:Int)(tx:fI)(nn ln cl:Int)(ts:List gq)(ns:List fI):jC L (.mk k tx nn ln cl ts ns [])=kP (p9 L (.mk k tx nn ln cl ts ns []) λenv s=>((noC,noT),s)):=by with_unfolding_all rfl
theorem Bu(k:Int)(tx:fI)(nn ln cl:Int)(ts:List gq)(ns:List fI)(a:gz):jC L (.mk k tx nn ln cl ts ns [a])=kP (p9 L (.mk k tx nn ln cl ts ns [a]) (Br L (.mk k tx nn ln cl ts ns [a]) a)):=by with_unfolding_all rfl
theorem Bv(k:Int)(tx:fI)(nn ln cl:Int)(ts:List gq)(ns:List fI)(a b:gz):jC L (.mk k tx nn ln cl ts ns [a,b])=kP (p9 L (.mk k tx nn ln cl ts ns [a,b]) (Bt L (.mk k tx nn ln cl ts ns [a,b]) a b)):=by with_unfolding_all rfl
theorem GZ(k:Int)(tx:fI)(nn ln cl:Int)(ts:List gq)(ns:List fI)(a b c:gz)(l:List gz):jC L (.mk k tx nn ln cl ts ns (a::b::c::l))=kP (p9 L (.mk k tx nn ln cl ts ns (a::b::c::l)) (xY a b c (jC L a) (jC L b) (jC L c))):=by with_unfolding_all rfl
theorem DZ(n:gz)(j:Inf)(h:∀rest,p9 L n rest=j):jC L n=kP j:=by
 obtain⟨k,tx,nn,ln,cl,ts,ns,ks⟩:=n
 match ks,h with
 |[],h=>rw[JS,h]
 |[a],h=>rw[Bu,h]
 |[a,b],h=>rw[Bv,h]
 |a::b::c::l,h=>rw[GZ,h]
theorem zEk(hL:oL L)(n:gz)(hw:oW n)(ih:∀x,x∈n.kids->rR L x (jC L x)):rR L n (jC L n):=by
 obtain⟨hws,hs⟩:=(Xh n).1 hw;obtain⟨k,tx,nn,ln,cl,ts,ns,ks⟩:=n;simp only[gz.kind,gz.kids,gz.types,gz.names]at hws hs ih;have go:∀j:Inf,jC L (.mk k tx nn ln cl ts ns ks)=kP j->jR L 58 (.mk k tx nn ln cl ts ns ks) (kP j)->jm L (.mk k tx nn ln cl ts ns ks) (kP j)->rR L (.mk k tx nn ln cl ts ns ks) (jC L (.mk k tx nn ln cl ts ns ks)):=λj e m p=>by rw[e];exact⟨m,p⟩
 rcases hs with(K|K|K|K|K)|⟨K,t1⟩|⟨K,t1⟩|⟨K,l1,t1⟩|⟨K,l1,t1⟩|⟨K,l1⟩|⟨K,l1⟩|⟨K,l1⟩|⟨K,l1⟩|⟨K,l1⟩|⟨K,l1⟩|⟨K,l1⟩
 ·exact go _ (DZ L _ _ λrest=>by funext env s;simp[p9,gz.kind,gz.n,gz.text,K]) (zHE L _ (by exact K)) (GX L (by omega) (by omega))
 ·exact go _ (DZ L _ _ λrest=>by funext env s;simp[p9,gz.kind,gz.n,gz.text,K]) (zHF L _ (by exact K)) (GX L (by omega) (by omega))
 ·exact go _ (DZ L _ _ λrest=>by funext env s;simp[p9,gz.kind,gz.n,gz.text,K]) (zFV L _ (by exact K)) (GX L (by omega) (by omega))
 ·exact go _ (DZ L _ _ λrest=>by funext env s;simp[p9,gz.kind,gz.n,gz.text,K]) (zHG L _ (by exact K)) (GX L (by omega) (by omega))
 ·exact go _ (DZ L _ _ λrest=>by funext env s;simp[p9,gz.kind,gz.n,gz.text,K]) (zFW L _ (by exact K)) (GX L (by omega) (by omega))
 ·exact go (xU L (.mk k tx nn ln cl ts ns ks)) (DZ L _ _ λrest=>by funext env s;rcases K with K|K<;>simp[p9,gz.kind,K]) (zEi L _ (by exact K) _ (zE8 L hL _ (by exact t1))) (yI L (zH3 L hL _ (by exact t1)))
 ·exact go (qL (.mk k tx nn ln cl ts ns ks) (oP L ks)) (DZ L _ _ λrest=>by funext env s;simp[p9,gz.kind,gz.kids,K]) (zDh L _ (by exact K) _ (zDV L _ (by exact t1) (by exact ih))) (yI L (zJC L _ λx hx=>(ih x hx).2))
 ·obtain⟨a,rfl⟩:=GY l1;have ia:=ih a (by simp);exact go (xV (.mk k tx nn ln cl ts ns [a]) a (jC L a)) (by rw[Bu];funext env s;simp[kP,p9,Br,gz.kind,K]) (zIx L _ (by exact K) _ (zI3 L _ a rfl (by exact t1) _ ia)) (yI L (Nz L _ a rfl _ ia.2))
 ·obtain⟨a,rfl⟩:=GY l1;have ia:=ih a (by simp);exact go (xZ (.mk k tx nn ln cl ts ns [a]) (jC L a)) (by rw[Bu];funext env s;simp[kP,p9,Br,gz.kind,K]) (zIy L _ (by exact K) _ (zIN L _ a rfl (by exact t1) _ ia)) (yI L (OB L _ a rfl _ ia.2))
 ·obtain⟨a,rfl⟩:=GY l1;have ia:=ih a (by simp);exact go (pY (.mk k tx nn ln cl ts ns [a]) (jC L a)) (by rw[Bu];funext env s;simp[kP,p9,Br,gz.kind,K]) (zHC L _ (by exact K) _ (zIh L _ a rfl _ ia)) (yI L (zJJ L _ a rfl _ ia.2))
 ·obtain⟨a,rfl⟩:=GY l1;have ia:=ih a (by simp);exact go (p8 (.mk k tx nn ln cl ts ns [a]) a (jC L a)) (by rw[Bu];funext env s;rcases K with K|K|K|K<;>simp[kP,p9,Br,gz.kind,K]) (zHD L _ (by exact K) _ (zH2 L _ a rfl _ ia)) (yI L (zJw L _ a rfl _ ia.2))
 ·obtain⟨a,b,rfl⟩:=JR l1;have ia:=ih a (by simp);have ib:=ih b (by simp);exact go (pX (.mk k tx nn ln cl ts ns [a,b]) a (jC L a) (jC L b)) (by rw[Bv];funext env s;simp[kP,p9,Bt,gz.kind,K]) (zHB L _ (by exact K) _ (zId L _ a b rfl _ _ ia ib)) (yI L (zJH L _ a b rfl _ _ ia.2 ib.2))
 ·obtain⟨a,b,rfl⟩:=JR l1;have ia:=ih a (by simp);have ib:=ih b (by simp);exact go (xW (.mk k tx nn ln cl ts ns [a,b]) b (jC L a) (jC L b)) (by rw[Bv];funext env s;simp[kP,p9,Bt,gz.kind,K]) (zFU L _ (by exact K) _ (zG8 L _ a b rfl _ _ ia ib)) (yI L (zI5 L _ a b rfl _ _ ia.2 ib.2))
 ·obtain⟨a,b,rfl⟩:=JR l1;have ia:=ih a (by simp);have ib:=ih b (by simp);exact go (xX (.mk k tx nn ln cl ts ns [a,b]) (jC L a) (jC L b)) (by rw[Bv];funext env s;simp[kP,p9,Bt,gz.kind,K]) (zEj L _ (by exact K) _ (zFA L _ a b rfl _ _ ia ib)) (yI L (zI8 L _ a b rfl _ _ ia.2 ib.2))
 ·obtain⟨a,b,rfl⟩:=JR l1;have ia:=ih a (by simp);have ib:=ih b (by simp);exact go (opC (.mk k tx nn ln cl ts ns [a,b]) a b (jC L a) (jC L b)) (by rw[Bv];funext env s;simp[kP,p9,Bt,gz.kind,K]) (zIz L _ (by exact K) _ (zIB L _ a b rfl _ _ ia ib)) (yI L (OC L _ a b rfl _ _ ia.2 ib.2))
 ·obtain⟨q,a,b,rfl⟩:=zBW l1;have iq:=ih q (by simp);have ia:=ih a (by simp);have ib:=ih b (by simp);have hq:q.kind=12->∃w,q.kids=[w]:=λk12=>by
   have:=((Xh q).1 (hws q (by simp))).2;unfold ow at this;rw[k12]at this;exact GY (by omega)
  exact go (xY q a b (jC L q) (jC L a) (jC L b)) (by rw[GZ];funext env s;simp[kP,p9,gz.kind,K]) (zDi L _ (by exact K) _ (zD2 L _ q a b rfl hq _ _ _ iq ia ib)) (yI L (OL L _ q a b rfl _ _ _ iq.2 ia.2 ib.2))
mutual
theorem OM(hL:oL L):∀n:gz,oW n->rR L n (jC L n)
|.mk k tx nn ln cl ts ns ks,hw=>zEk L hL _ hw (Xi hL ks (by rw[oW]at hw;exact hw.1))
theorem Xi(hL:oL L):∀l:List gz,ni l->∀x,x∈l->rR L x (jC L x)
|[],_,x,hx=>by cases hx
|n::l,hw,x,hx=>by
 rw[ni]at hw;rcases aN.1 hx with e|hx
 ·rw[e];exact OM hL n hw.1
 ·exact Xi hL l hw.2 x hx
end
end
end Go.Gr
namespace Go.Gr
open Go.Abs Go.Proofs List
theorem OO:∀l m:List gz,iW (l++m)=iW l+iW m
|[],m=>by simp[iW]
|n::l,m=>by rw[cons_append,iW,iW,OO l m];omega
theorem zHm{l m:List gz}(h:ni l)(k:ni m):ni (l++m):=(GV _).2 λx hx=>by
 rcases aM.1 hx with hx|hx
 ·exact(GV _).1 h x hx
 ·exact(GV _).1 k x hx
section
variable {L:List Tok}
theorem ui(p:PS)(k:Int)(t:fI)(n:Int)(ts:List gq)(ns:List fI)(ks:List gz):iK (kZ L p k t n ts ns ks)=iW ks+1:=by unfold kZ;rw[iK]
theorem uj(p:PS)(k:Int)(t:fI)(n:Int)(ts:List gq)(ns:List fI)(ks:List gz)(h:ni ks)(s:ow k ts ns ks):oW (kZ L p k t n ts ns ks):=by unfold kZ;rw[oW];exact⟨h,s⟩
theorem Ar{a:gz}(h:oW a):ni [a]:=⟨h,trivial⟩
theorem G5{a b:gz}(h:oW a)(k:oW b):ni [a,b]:=⟨h,k,trivial⟩
theorem ks3{a b c:gz}(h:oW a)(k:oW b)(l:oW c):ni [a,b,c]:=⟨h,k,l,trivial⟩
theorem z1(a:gz):iW [a]=iK a:=by simp[iW]
theorem z2(a b:gz):iW [a,b]=iK a+iK b:=by simp[iW]
theorem z3(a b c:gz):iW [a,b,c]=iK a+iK b+iK c:=by simp[iW];omega
def kW(L:List Tok)(f:PS->gz × PS):Prop:=∀p,p.at'<L.length->oW (f p).1/\iK (f p).1+3*p.at'<=3*(f p).2.at'+1
theorem Xj{ki:PS->gq × PS}(p:PS):(qD L ki p).1.length<=1:=by
 unfold qD;split<;>simp
theorem Xk{ki:PS->gq × PS}(p:PS):1<=(rZ L ki p).1.2.length/\(rZ L ki p).1.2.length<=2:=by
 unfold rZ;simp only;have a:=Xj (L:=L) (ki:=ki) (jK L (jO L (bs [40]) p)).2;have b:=Xj (L:=L) (ki:=ki) (jO L (bs [41]) (qD L ki (jK L (jO L (bs [40]) p)).2).2);rw[aX];split
 ·simp only[length_cons,length_nil];omega
 ·omega
theorem OP:oW qh:=⟨trivial,.inl (.inl rfl)⟩
theorem zFP(hL:jL L){ki:PS->gq × PS}{ex rk:PS->gz × PS}(hk:iD L ki)(he:iD L ex)(ne:kW L ex)(nr:kW L rk):kW L (zQ L ki ex rk):=λp hp=>by
 unfold zQ;split
 ·rename_i c;have h1:=iw hL hp (s:=tC);have h2:=h1.trans (mE hL h1.lt);have h3:=h2.trans (zT hL hk _ h2.lt);have h4:=(mE hL h1.lt).trans ((zT hL hk _ h2.lt).trans (jH hL h3.lt (s:=bs [61])));have n5:=ne _ h4.lt;have h5:=he _ h4.lt;have h6:=jH hL h5.lt (s:=bs [59]);have n7:=ne _ h6.lt;have t:=(take_at c).1;refine⟨uj _ _ _ _ _ _ _ (G5 n5.1 n7.1) (by simp[ow]),?_⟩;rw[ui,z2];have:=h4.le;have:=h6.le;simp only at*
  omega
 split
 ·rename_i c;have h1:=iw hL hp (s:=AZ);have n2:=ne _ h1.lt;have h2:=he _ h1.lt;have h3:=jH hL h2.lt (s:=Cn);have n4:=ne _ h3.lt;have h4:=he _ h3.lt;have h5:=jH hL h4.lt (s:=Co);have n6:=ne _ h5.lt;have t:=(take_at c).1;refine⟨uj _ _ _ _ _ _ _ (ks3 n2.1 n4.1 n6.1) (by simp[ow]),?_⟩;rw[ui,z3];have:=h3.le;have:=h5.le;simp only at*
  omega
 split
 ·rename_i c;have h1:=iw hL hp (s:=uD);have h2:=Bf hL hk _ h1.lt;have h3:=h2.trans (jH hL h2.lt (s:=bs [61,62]));have n4:=ne _ h3.lt;have t:=(take_at c).1;have hh:=(Xk (L:=L) (ki:=ki) (iG L uD p).2).1;refine⟨uj _ _ _ _ _ _ _ (Ar n4.1) (by simp[ow];simpa using hh),?_⟩;rw[ui,z1];have:=h3.le;simp only at*
  omega
 ·exact nr p hp
theorem Xl(hL:jL L){rk:PS->gz × PS}(hr:iD L rk)(nr:kW L rk)(signs:List fI):∀(n:Nat) (a:gz) (p:PS),p.at'<L.length->oW a->oW (kg L rk signs n a p).1/\iK (kg L rk signs n a p).1+3*p.at'<=3*(kg L rk signs n a p).2.at'+iK a
|0,a,p,hp,ha=>by rw[kg];exact⟨ha,by show iK a+3*p.at'<=3*p.at'+iK a;omega⟩
| n+1,a,p,hp,ha=>by
 rw[kg];split
 ·exact⟨ha,by show iK a+3*p.at'<=3*p.at'+iK a;omega⟩
 ·rename_i s q h;have h1:=Cz hL _ hp h;have h2:=hr _ h1.1.lt;have n2:=nr _ h1.1.lt;have r:=Xl hL hr nr signs n (kZ L p 14 s 0 [] [] [a,(rk q).1]) (rk q).2 h2.lt (uj _ _ _ _ _ _ _ (G5 ha n2.1) (by simp[ow]));rw[ui,z2]at r;refine⟨r.1,?_⟩;have:=h1.2.1;omega
theorem zHn(hL:jL L){ki:PS->gq × PS}{rk:PS->gz × PS}(hk:iD L ki)(hr:iD L rk)(nr:kW L rk):kW L (rf L ki rk):=λp hp=>by
 have h1:=hr p hp;have n1:=nr p hp;unfold rf;simp only;split
 ·rename_i s q h;have h2:=Cz hL _ h1.lt h;have n3:=nr _ h2.1.lt;refine⟨uj _ _ _ _ _ _ _ (G5 n1.1 n3.1) (by simp[ow]),?_⟩;rw[ui,z2];have:=h2.2.1;simp only at*
  omega
 split
 ·rename_i c;have t:=(take_at c).1;have h2:=iw hL h1.lt (s:=bs [97,115]);have h3:=hk _ h2.lt;refine⟨uj _ _ _ _ _ _ _ (Ar n1.1) (by simp[ow]),?_⟩;rw[ui,z1];have:=h3.le;simp only at*
  omega
 split
 ·rename_i c;have t:=(take_at c).1;have h2:=iw hL h1.lt (s:=bs [105,115]);split
  ·rename_i i q h;have h3:=FT hL _ _ h2.lt h;refine⟨uj _ _ _ _ _ _ _ (Ar n1.1) (by simp[ow]),?_⟩;rw[ui,z1];have:=h3.2.1;simp only at*
   omega
  ·have h3:=EO (L:=L) (e:=7) h2.lt;refine⟨uj _ _ _ _ _ _ _ (Ar n1.1) (by simp[ow]),?_⟩;rw[ui,z1];have:=h3.le;simp only at*
   omega
 ·exact n1
theorem zFQ(hL:jL L){ki:PS->gq × PS}{un:PS->gz × PS}(hk:iD L ki)(hu:iD L un)(nu:kW L un):kW L (FO L ki un):=by
 obtain⟨t5,t4,t3,t2,t1,t0⟩:=FV hL hk hu;have op:∀(f:PS->gz × PS) (signs:List fI),iD L f->kW L f->kW L (λp=>kg L f signs (L.length+1) (f p).1 (f p).2):=λf signs tf nf p hp=>by
  have a:=nf p hp;have r:=Xl hL tf nf signs (L.length+1) (f p).1 (f p).2 (tf p hp).lt a.1;exact⟨r.1,by simp only;omega⟩
 have n5:kW L (Cq L un):=op un (r9 5) hu nu;have n4:kW L (Cr L un):=op _ (r9 4) t5 n5;have n3:kW L (FN L un):=op _ (r9 3) t4 n4;have n2:kW L (Cs L ki un):=zHn hL hk t3 n3;have n1:kW L (Ct L ki un):=op _ (r9 1) t2 n2;exact op _ (r9 0) t1 n1
theorem Xm{ki:PS->gq × PS}:∀(n:Nat) (l:List gq) (p:PS),(wU L ki n l p).1.length<=l.length+n
|0,l,p=>by rw[wU];exact aQ _
| n+1,l,p=>by
 rw[wU];split
 ·have:=Xm (ki:=ki) n (l++[(ki p).1]) (iG L (bs [44]) (ki p).2).2;rw[aX]at this;simp only[length_cons,length_nil]at this;omega
 ·simp only[aX,length_cons,length_nil];omega
theorem Xn(hL:jL L){ex:PS->gz × PS}(he:iD L ex)(ne:kW L ex):∀(n:Nat) (ns:List fI) (ks:List gz) (p:PS),p.at'<L.length->ni ks->ni (uT L ex n ns ks p).1.2/\iW (uT L ex n ns ks p).1.2+3*p.at'<=3*(uT L ex n ns ks p).2.at'+iW ks+1/\(uT L ex n ns ks p).1.1.length<=ns.length+n
|0,ns,ks,p,hp,hk=>by rw[uT];exact⟨hk,by simp only;omega,by simp⟩
| n+1,ns,ks,p,hp,hk=>by
 have h1:=mE hL hp;have h2:=h1.trans (jH hL h1.lt (s:=bs [58]));have h3:=he _ h2.lt;have n3:=ne _ h2.lt;have h4:=iw hL h3.lt (s:=bs [44]);have e2:=h2.le;have w:=zHm hk (Ar n3.1);rw[uT];split
 ·rename_i c;have t:=(take_at c).1;have r:=Xn hL he ne n (ns++[(jK L p).1]) (ks++[(ex (jO L (bs [58]) (jK L p).2)).1]) _ h4.lt w;rw[OO,z1,aX]at r;simp only[length_cons,length_nil]at r;refine⟨r.1,?_,by omega⟩;omega
 ·refine⟨w,?_,by simp only[aX,length_cons,length_nil];omega⟩;rw[OO,z1];have:=h4.le;have:=n3.2;try simp only at*
  omega
theorem zCs(hL:jL L)(hl:L.length<=10000){ex:PS->gz × PS}(he:iD L ex)(ne:kW L ex)(q p:PS)(hp:p.at'<L.length):oW (vQ L ex q p).1/\iK (vQ L ex q p).1+3*p.at'<=3*(vQ L ex q p).2.at'+4:=by
 unfold vQ;split
 ·have h1:=iw hL hp (s:=bs [125]);refine⟨uj _ _ _ _ _ _ _ trivial (by simp[ow]),?_⟩;rw[ui];have:=h1.le;simp only[iW];omega
 split
 ·have h1:=he p hp;have n1:=ne p hp;have h2:=jH hL h1.lt (s:=Cu);have h3:=h2.trans (mE hL h2.lt);have h4:=h3.trans (jH hL h3.lt (s:=bs [58]));have h5:=he _ h4.lt;have n5:=ne _ h4.lt;have h6:=jH hL h5.lt (s:=bs [125]);refine⟨uj _ _ _ _ _ _ _ (G5 n1.1 n5.1) (by simp[ow]),?_⟩;rw[ui,z2];have:=h4.le;have:=h6.le;simp only at*
  omega
 ·have h1:=FW hL he (L.length+1) [] [] p hp;have n1:=Xn hL he ne (L.length+1) [] [] p hp trivial;have h2:=jH hL h1.lt (s:=bs [125]);have e0:iW []=0:=rfl;rw[e0]at n1;refine⟨uj _ _ _ _ _ _ _ n1.1 (by have:=n1.2.2;simp only[length_nil]at this;simp[ow];omega),?_⟩;rw[ui];have:=h2.le;have:=n1.2.1;simp only at*
  omega
theorem Bw{p q:PS}{k:Int}{t:fI}{n:Int}{ts:List gq}{ns:List fI}(hs:ow k ts ns [])(h:p.at'<=q.at'):oW (kZ L p k t n ts ns [])/\iK (kZ L p k t n ts ns [])+3*p.at'<=3*q.at'+1:=by
 refine⟨uj _ _ _ _ _ _ _ trivial hs,?_⟩;rw[ui];simp only[iW];omega
theorem zFR(hL:jL L)(hl:L.length<=10000){ki:PS->gq × PS}{ex:PS->gz × PS}(hk:iD L ki)(he:iD L ex)(ne:kW L ex):kW L (xN L ki ex):=λp hp=>by
 unfold xN;by_cases c1:p.e=0/\(iL L p).kind=3
 ·rw[aC c1];exact Bw (by simp[ow]) (by simp only;omega)
 rw[aB c1];by_cases c2:p.e=0/\(iL L p).kind=4
 ·rw[aC c2];exact Bw (by simp[ow]) (by simp only;omega)
 rw[aB c2];by_cases c3:(iG L Cv p).1=true
 ·rw[aC c3];exact Bw (by simp[ow]) (iw hL hp).le
 rw[aB c3];by_cases c4:(iG L Cw p).1=true
 ·rw[aC c4];exact Bw (by simp[ow]) (iw hL hp).le
 rw[aB c4];by_cases c5:(iG L Cx p).1=true
 ·rw[aC c5];exact Bw (by simp[ow]) (iw hL hp).le
 rw[aB c5];by_cases c6:(iG L yZ p).1=true
 ·rw[aC c6];have h1:=iw hL hp (s:=yZ);have h2:=h1.trans (jH hL h1.lt (s:=bs [40]));exact Bw (by simp[ow]) (h2.trans (jH hL h2.lt)).le
 rw[aB c6];by_cases c7:(iG L yC p).1=true
 ·rw[aC c7];have h1:=iw hL hp (s:=yC);have h2:=jH hL h1.lt (s:=bs [40]);have h3:=he _ h2.lt;have n3:=ne _ h2.lt;have h4:=jH hL h3.lt (s:=bs [41]);have t:=(take_at c7).1;refine⟨uj _ _ _ _ _ _ _ (Ar n3.1) (by simp[ow]),?_⟩;rw[ui,z1];have:=h2.le;have:=h4.le;simp only at*
  omega
 rw[aB c7];by_cases c8:(iG L (bs [40]) p).1=true
 ·rw[aC c8];have h1:=iw hL hp (s:=bs [40]);have h2:=he _ h1.lt;have n2:=ne _ h1.lt;have h3:=jH hL h2.lt (s:=bs [41]);have t:=(take_at c8).1;refine⟨n2.1,?_⟩;have:=n2.2;have:=h3.le;show iK (ex (iG L (bs [40]) p).2).1+3*p.at'<=3*(jO L (bs [41]) (ex (iG L (bs [40]) p).2).2).at'+1;omega
 rw[aB c8];by_cases c9:(iG L (bs [123]) p).1=true
 ·rw[aC c9];have h1:=iw hL hp (s:=bs [123]);have r:=zCs hL hl he ne p _ h1.lt;have t:=(take_at c9).1;exact⟨r.1,by omega⟩
 rw[aB c9];have h1:=mE hL hp;by_cases c10:(iG L (bs [91]) (jK L p).2).1=true
 ·have h2:=h1.trans (iw hL h1.lt (s:=bs [91]));have h3:=h2.trans (MU hL hk (L.length+1) [] _ h2.lt);have tl:=Xm (L:=L) (ki:=ki) (L.length+1) [] (iG L (bs [91]) (jK L p).2).2;show oW (if(iG L (bs [91]) (jK L p).2).1=true then _ else _:gz × PS).1/\iK (if(iG L (bs [91]) (jK L p).2).1=true then _ else _:gz × PS).1+3*p.at'<=3*(if(iG L (bs [91]) (jK L p).2).1=true then _ else _:gz × PS).2.at'+1;rw[aC c10];exact Bw (by simp only[length_nil]at tl;simp[ow];omega) h3.le
 ·show oW (if(iG L (bs [91]) (jK L p).2).1=true then _ else _:gz × PS).1/\iK (if(iG L (bs [91]) (jK L p).2).1=true then _ else _:gz × PS).1+3*p.at'<=3*(if(iG L (bs [91]) (jK L p).2).1=true then _ else _:gz × PS).2.at'+1;rw[aB c10];exact Bw (by simp[ow]) h1.le
theorem OQ(hL:jL L){ex:PS->gz × PS}(he:iD L ex)(ne:kW L ex):∀(n:Nat) (a:gz) (p:PS),p.at'<L.length->oW a->oW (tF L ex n a p).1/\iK (tF L ex n a p).1+3*p.at'<=3*(tF L ex n a p).2.at'+iK a
|0,a,p,hp,ha=>by rw[tF];exact⟨ha,by show iK a+3*p.at'<=3*p.at'+iK a;omega⟩
| n+1,a,p,hp,ha=>by
 rw[tF];split
 ·rename_i c;have t:=(take_at c).1;have h1:=iw hL hp (s:=bs [40]);have h2:=he _ h1.lt;have n2:=ne _ h1.lt;have h3:=jH hL h2.lt (s:=bs [41]);have r:=OQ hL he ne n (kZ L p 7 (bs []) 0 [] [] [a,(ex (iG L (bs [40]) p).2).1]) _ h3.lt (uj _ _ _ _ _ _ _ (G5 ha n2.1) (by simp[ow]));rw[ui,z2]at r;refine⟨r.1,?_⟩;have:=h3.le;have:=n2.2;have:=r.2;simp only at*
  omega
 split
 ·rename_i c;have t:=(take_at c).1;have h1:=iw hL hp (s:=bs [46]);have h2:=mE hL h1.lt;have r:=OQ hL he ne n (kZ L p 9 (jK L (iG L (bs [46]) p).2).1 0 [] [] [a]) _ h2.lt (uj _ _ _ _ _ _ _ (Ar ha) (by simp[ow]));rw[ui,z1]at r;refine⟨r.1,?_⟩;have:=h2.le;have:=r.2;simp only at*
  omega
 ·exact⟨ha,by show iK a+3*p.at'<=3*p.at'+iK a;omega⟩
theorem zEg(hL:jL L)(hl:L.length<=10000){ki:PS->gq × PS}{ex un:PS->gz × PS}(hk:iD L ki)(he:iD L ex)(ne:kW L ex)(nu:kW L un):kW L (zR L ki ex un):=λp hp=>by
 unfold zR;split
 ·rename_i c;have t:=(take_at c).1;have h1:=iw hL hp (s:=bs [45]);have n2:=nu _ h1.lt;refine⟨uj _ _ _ _ _ _ _ (Ar n2.1) (by simp[ow]),?_⟩;rw[ui,z1];have:=n2.2;simp only at*
  omega
 split
 ·rename_i c;have t:=(take_at c).1;have h1:=iw hL hp (s:=tH);have n2:=nu _ h1.lt;refine⟨uj _ _ _ _ _ _ _ (Ar n2.1) (by simp[ow]),?_⟩;rw[ui,z1];have:=n2.2;simp only at*
  omega
 ·have a:=zFR hL hl hk he ne p hp;have ta:=Ik hL hk he p hp;have r:=OQ hL he ne (L.length+1) (xN L ki ex p).1 (xN L ki ex p).2 ta.lt a.1;unfold Cy;exact⟨r.1,by simp only;omega⟩
theorem zIt(hL:jL L)(hl:L.length<=10000){ki:PS->gq × PS}(hk:iD L ki)(d:Nat):kW L (uU L ki d).1/\kW L (uU L ki d).2:=by
 induction d with
 |zero=>exact⟨λp hp=>⟨OP,by show 1+3*p.at'<=3*p.at'+1;omega⟩,λp hp=>⟨OP,by show 1+3*p.at'<=3*p.at'+1;omega⟩⟩
 | succ d ih=>
  have tm:=FX hL hk d;have dn:∀p:PS,p.at'<L.length->¬(jT L p).1=true->oW qh/\iK qh+3*p.at'<=3*(jT L p).2.at'+1:=λp hp c=>by
   have:=(Ii (L:=L) hp).le;rw[Ij c];exact⟨OP,by show 1+3*p.at'<=3*(yY L p).at'+1;omega⟩
  have up:∀(f:PS->gz × PS),kW L f->∀p:PS,p.at'<L.length->(jT L p).1=true->oW (uS (f (jT L p).2)).1/\iK (uS (f (jT L p).2)).1+3*p.at'<=3*(uS (f (jT L p).2)).2.at'+1:=λf nf p hp c=>by
   have hp':(jT L p).2.at'<L.length:=by rw[(zS c).1];exact hp
   have r:=nf _ hp';have e:(jT L p).2.at'=p.at':=by rw[(zS c).1]
   rw[e]at r;exact r
  rw[uU];refine⟨λp hp=>?_,λp hp=>?_⟩
  ·show oW (if(jT L p).1=true then _ else _:gz × PS).1/\iK (if(jT L p).1=true then _ else _:gz × PS).1+3*p.at'<=3*(if(jT L p).1=true then _ else _:gz × PS).2.at'+1;by_cases c:(jT L p).1=true
   ·rw[aC c];exact up _ (zFP hL hk tm.1 ih.1 (zFQ hL hk tm.2 ih.2)) p hp c
   ·rw[aB c];exact dn p hp c
  ·show oW (if(jT L p).1=true then _ else _:gz × PS).1/\iK (if(jT L p).1=true then _ else _:gz × PS).1+3*p.at'<=3*(if(jT L p).1=true then _ else _:gz × PS).2.at'+1;by_cases c:(jT L p).1=true
   ·rw[aC c];exact up _ (zEg hL hl hk tm.1 ih.1 ih.2) p hp c
   ·rw[aB c];exact dn p hp c
structure tV (d:jd):Prop where
 types:d.types.length=2
 vars:d.vars.length<=10001
 body:oW d.body
 size:iK d.body<=30001
theorem Xo:∀(n:Nat) (l:List (fI × gq)) (p:PS),(y5 L n l p).1.length<=l.length+n
|0,l,p=>by rw[y5];exact aQ _
| n+1,l,p=>by
 rw[y5]
 split<;>split<;>first
  |(refine ak (Xo n _ _) ?_;simp only[aX,length_cons,length_nil];omega)
  |(simp only[aX,length_cons,length_nil];omega)
theorem zHo(hl:L.length<=10000)(p:PS):(y7 L p).1.length<=10001:=by
 unfold y7;split
 ·have:=Xo (L:=L) (L.length+1) [] (iG L (bs [91]) p).2;simp only[length_nil]at this;omega
 ·simp
theorem zHp(hL:jL L)(hl:L.length<=10000)(p:PS)(hp:p.at'<L.length):tV (rq L p).1:=by
 have h1:=iw hL hp (s:=A7);have h2:=h1.trans (jH hL h1.lt (s:=uD));have h3:=h2.trans (mE hL h2.lt);have h4:=h3.trans (Iq hL _ h3.lt);have h5:=h4.trans (Bf hL (yc hL) _ h4.lt);have h6:=h5.trans (jH hL h5.lt (s:=bs [61]));have n7:=(zIt hL hl (yc hL) 102).1 _ h6.lt;have h7:=Ip hL _ h6.lt;have hh:=Xk (L:=L) (ki:=uy L) (y7 L (jK L (jO L uD (iG L A7 p).2)).2).2;unfold rq;refine⟨?_,zHo hl _,n7.1,?_⟩
 ·simp only;split
  ·simp only[aX,length_cons,length_nil];omega
  ·omega
 ·have:=n7.2;have:=h7.lt;simp only[EN]at*
  omega
theorem Xp(hL:jL L)(hl:L.length<=10000):∀(n:Nat) (l:List jd) (p:PS),p.at'<L.length->(∀d,d∈l->tV d)->∀d,d∈(ru L n l p).1->tV d
|0,l,p,hp,h,d,hd=>by rw[ru]at hd;exact h d hd
| n+1,l,p,hp,h,d,hd=>by
 rw[ru]at hd;split at hd
 ·refine Xp hL hl n _ _ (M5 hL p hp).lt (λx hx=>?_) d hd;rcases aM.1 hx with hx|hx
  ·exact h x hx
  ·simp only[aK]at hx;subst hx;exact zHp hL hl p hp
 ·exact h d hd
end
theorem zEh(s:fI):∀d,d∈(qW s).1.decs->tV d:=λd hd=>by
 unfold qW at hd;simp only at hd;by_cases q1:(lI s).2.e=0
 ·obtain⟨hL,hl⟩:=JB q1;rw[aB (λz=>z q1)]at hd;split at hd
  ·cases hd
  ·have h0:ps0.at'<(lI s).1.length:=hL.pos;exact Xp hL hl _ _ _ (F6 hL _ _ _ h0).lt (λx hx=>by cases hx) d hd
 ·rw[aC q1]at hd;cases hd
end Go.Gr
