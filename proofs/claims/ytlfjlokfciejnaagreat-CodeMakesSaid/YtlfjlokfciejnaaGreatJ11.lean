/- Of ours. -/
import Derived.Test.YtlfjlokfciejnaaGreatJ10
set_option maxRecDepth 20000
set_option maxHeartbeats 4000000
set_option linter.unusedVariables false
set_option linter.unusedSectionVars false
set_option linter.unusedSimpArgs false
set_option linter.defProp false
set_option linter.unnecessarySimpa false
open List renaming length->lN
open Bool renaming true->tT,false->oK
open Option renaming some->sS,none->nN
namespace Go.Gr
open Go.Abs Go.Proofs List
section
variable (L:f?)
def opAt(s:fD):Nat->Int
|0=>0
|i+1=>if yP[i]?=sS s then(i:Int)else opAt s i
def zFN(s:fD):opAt s 11=Eo s:=by
 by_cases h:s∈yP
 .simp only[yP,aM,bv,df]at h;rcases h with h|h|h|h|h|h|h|h|h|h|h<;>subst h<;>decide
 .have h2:∀i,yP[i]?≠sS s:=λi z=>h (ah z);have h3:∀i,opAt s i=0:=λi=>by
   induction i with
   |zero=>rfl
   |succ i ih=>rw[opAt,aB (h2 i),ih]
  have h4:∀(l:oN) (j:Nat),s∉l->fi (λx=>decide (x=s)) j l= -1:=λl=>by
   induction l with
   |nil=>intro j _;rfl
   |cons x l ih=>
    intro j hx;have q:¬x=s:=λz=>hx (by simp[z]);rw[fi,aB (by simp[q]),ih _ (λz=>hx (by simp[z]))]
  rw[h3,Eo,h4 _ _ h];try rfl
def SG(n a b:o_)(hk:n.b_=[a,b])(ia ib:Inf)(ha:iP L a ia)(hb:iP L b ib):iP L n (opC n a b ia ib):=λenv s k he hs=>by
 have hn:P_ n=P_ a+(P_ b+1):=by rw[rf,hk];simp[e?];omega
 have w2:=λt0 t1=>G5 L b ib hb t1 env (mF a ia t0 env s).2 k (he.less oM) (G5 L a ia ha t0 env s (8*P_ b+1+k) (he.less oM) (hs.less oM));have i1:=ha env s (8*P_ b+k) (he.less oM) (hs.less oM);have i2:=hb env (ia env s).2 k (he.less oM) i1.1;unfold opC;split
 .exact⟨w2 _ _,yS 2 oM oM⟩
 split
 .exact⟨w2 _ _,yS 2 oM oM⟩
 split
 .exact⟨i2.1,yS 2 oM oM⟩
 split
 .exact⟨w2 _ _,yS 4 oM oM⟩
 .refine⟨w2 _ _,?_⟩;simp only;split
  .exact yS 2 oM oM
  .exact yS 3 oM oM
def zJO(n a b:o_)(hk:n.b_=[a,b])(ia ib:Inf)(ha:ug L a ia)(hb:ug L b ib):H? L 108 n (opC n a b ia ib):=λenv s k he hs=>by
 refine zHx kW λts _e ok hbk c hN hp=>?_;obtain⟨t,u,v,w,x,y,rfl⟩:=lM _e;have hn:P_ n=P_ a+(P_ b+1):=by rw[rf,hk];simp[e?];omega
 have d21:¬bs [97,110,100]=bs [111,114]:=by decide
 have d31:¬bs [61,61]=bs [111,114]:=by decide
 have d32:¬bs [61,61]=bs [97,110,100]:=by decide
 have d41:¬bs [43,43]=bs [111,114]:=by decide
 have d42:¬bs [43,43]=bs [97,110,100]:=by decide
 have d43:¬bs [43,43]=bs [61,61]:=by decide
 unfold opC;unfold Zz;by_cases c1:n.text=bs [111,114]
 .rw[aC c1];have m1:=Cq L a ia ha (bT 2) env s (8*P_ b+1+k) (he.less oM) (hs.less oM);have p1:=G5 L a ia ha.2 (bT 2) env s (8*P_ b+1+k) (he.less oM) (hs.less oM);simp only;generalize mF a ia (bT 2) env s=r1 at*
  have m2:=Cq L b ib hb (bT 2) env r1.2 k (he.less oM) (p1.less oM);generalize mF b ib (bT 2) env r1.2=r2 at*
  simp[c1,hk];refine gQ (jr 2) ?_;simp[c1,hk];refine gN [0,1,2,3,4,5] m1 ?_;simp[hk];refine oG ?_;refine gN [0,1,2,15,4,16] m2 ?_;simp;refine⟨oD,oD,?_⟩;exact fI qK qG
 rw[aB c1];by_cases c2:n.text=bs [97,110,100]
 .rw[aC c2];have m1:=Cq L a ia ha (bT 2) env s (8*P_ b+1+k) (he.less oM) (hs.less oM);have p1:=G5 L a ia ha.2 (bT 2) env s (8*P_ b+1+k) (he.less oM) (hs.less oM);simp only;generalize mF a ia (bT 2) env s=r1 at*
  have m2:=Cq L b ib hb (bT 2) env r1.2 k (he.less oM) (p1.less oM);generalize mF b ib (bT 2) env r1.2=r2 at*
  simp[c2,d21,hk];refine gQ (jr 2) ?_;simp[c2,d21,hk];refine gN [0,1,2,3,4,5] m1 ?_;simp[hk];refine oG ?_;refine gN [0,1,2,15,4,16] m2 ?_;simp;refine⟨oD,oD,?_⟩;exact fI qK qG
 rw[aB c2];by_cases c3:n.text=bs [61,61]
 .rw[aC c3];have m1:=ha.1 env s (8*P_ b+k) (he.less oM) (hs.less oM);have p1:=ha.2 env s (8*P_ b+k) (he.less oM) (hs.less oM);simp only;generalize ia env s=r1 at*
  have m2:=hb.1 env r1.2 k (he.less oM) (p1.1.less oM);generalize ib env r1.2=r2 at*
  simp[c3,d31,d32,hk];refine gQ (jr 2) ?_;simp[c3,d31,d32,hk];refine gN [0,1,2,3,4,5] m1 ?_;simp[hk];refine gN [0,1,2,15,4,16] m2 ?_;simp;refine oG ?_;exact fI [0,1,2,9,4,11,19,20] qG
 rw[aB c3];by_cases c4:n.text=bs [43,43]
 .rw[aC c4];have m1:=Cq L a ia ha (bT 4) env s (8*P_ b+1+k) (he.less oM) (hs.less oM);have p1:=G5 L a ia ha.2 (bT 4) env s (8*P_ b+1+k) (he.less oM) (hs.less oM);simp only;generalize mF a ia (bT 4) env s=r1 at*
  have m2:=Cq L b ib hb (bT 4) env r1.2 k (he.less oM) (p1.less oM);generalize mF b ib (bT 4) env r1.2=r2 at*
  simp[c4,d41,d42,d43,hk];refine gQ (jr 2) ?_;simp[c4,d41,d42,d43,hk];refine gQ (jr 4) ?_;simp[hk];refine gN [0,1,2,3,4,5] m1 ?_;simp[hk];refine oG ?_;refine gQ (jr 4) ?_;simp[hk];refine gN [0,1,2,15,4,16] m2 ?_;simp;refine oG ?_;refine gQ (jr 4) ?_;simp[hk];refine oG ?_;exact fI qK qG
 rw[aB c4];have m1:=Cq L a ia ha (bT 3) env s (8*P_ b+1+k) (he.less oM) (hs.less oM);have p1:=G5 L a ia ha.2 (bT 3) env s (8*P_ b+1+k) (he.less oM) (hs.less oM);simp only;generalize mF a ia (bT 3) env s=r1 at*
 have m2:=Cq L b ib hb (bT 3) env r1.2 k (he.less oM) (p1.less oM);generalize mF b ib (bT 3) env r1.2=r2 at*
 let⟨R,hR⟩:=oJ (Eo n.text);have hR2:=zFN n.text;rw[hR]at hR2⊢;simp[c1,c2,c3,c4,hk];refine gQ (jr 2) ?_;simp[c1,c2,c3,c4,hk];refine fM gm hp (λj:Nat=>j<=11) (λj=>[(21,.c (.d (.int .i64 j))),(20,.c (.d (.int .i64 (opAt n.text j)))),(19,.c (.d (.sl tT 1 (encS yP)))),(8,.c (.ptr 14 0)),(7,.c (.ptr 13 0)),(6,.c (.ptr 12 0)),(4,.c (.d (.rp n.enc 0))),(2,.c (.d (.sl oK 5 (env.map p?)))),(0,.c (.ptr 0 0))]) (λ_=>[xS L s 2 3 4,AJ 256 (lN s.n?) 5,r9 s.v_,uK s.sites,kg s.bad,nS s.n?,.G_ t 0,.G_ u 1,.G_ v 2,.G_ w 3,.G_ x 4,.G_ y 5,.box [.d (.int .i64 0),.d (.int .i64 0),.d (.str (bs [])),.d (.sl tT 1 []),.d (.sl tT 1 []),.d (.sl tT 4 []),.d (.sl tT 5 []),.d (.sl tT 8 [])],.box [.d (.int .i64 0),.d (.str (bs [])),.d (.sl tT 1 []),.d (.sl tT 4 [])],.box ((bT 2).enc.map .d)]) (λj=>11-j) 0 [0,1,2,3,4,5,6,7,8,9,10,11,12,13,14] oC (by simp[encS,yP,opAt]) λj h1=>?_;unfold Zy;simp;apply gM<;>intro h
 .have hj:j<11:=by simpa[yP]using h
  have _x:j<lN yP:=by simpa[yP]using hj
  let⟨z,hz⟩:=oJ (yP[j]);have hz2:yP[j]?=sS z:=by rw[aA _x,hz]
  have hw:=wI (n:=(j:Int)+1);simp[_x,hz];refine oG ?_;apply gM<;>intro h
  .have e:opAt n.text (j+1)=(j:Int):=by rw[opAt,hz2];simp at h;rw[aC (by rw[h])]
   try simp
   refine fE (j+1) [0,1,2,3,4,5,6,7,8,9,10,11,12,13,14] oM oM ?_;simp[hw,e]
  .have e:opAt n.text (j+1)=opAt n.text j:=by rw[opAt,hz2];simp at h;rw[aB (λq=>h (uM q))]
   try simp
   refine fE (j+1) [0,1,2,3,4,5,6,7,8,9,10,11,12,13,14] oM oM ?_;simp[hw,e]
 have hj:j=11:=by simp[yP]at h;omega
 subst hj;rw[hR2];simp[hk];refine gQ (jr 3) ?_;simp[hk];refine gN [0,1,2,3,4,5] m1 ?_;simp[hk];refine oG ?_;refine gQ (jr 3) ?_;simp[hk];refine gN [0,1,2,15,4,16] m2 ?_;simp;refine oG ?_;refine gQ (jr 3) ?_;simp;by_cases c9:9<=R
 .rw[aC c9];simp[c9];refine oG ?_;exact fI qK qG
 .rw[aB c9];simp[c9];refine oG ?_;exact fI qK qG
end
section
variable (L:f?)
def SH(x a:fD)(b:f_):∀(l:List fD) (m:List f_),lN l=lN m->vB x (l++[a]) (m++[b])=vB x l m++(if a=x then []else [(a,b)])
|[],[],_=>by simp only[nil_append,vB]
|n::l,k::m,h=>by
 simp only[cons_append,vB];rw[SH x a b l m (uM h)];split<;>simp
def SI(x:fD):∀(l:List fD) (m:List f_),(vB x l m).length<=lN l
|[],_=>by simp[vB]
|_::_,[]=>by simp[vB]
|n::l,k::m=>by
 have:=SI x l m;rw[vB];split<;>simp<;>omega
def SK:iU (bT 5):=by
 refine(rP _).2 ⟨rfl,λx h=>(by cases h),.inr (.inl ⟨rfl,rfl,oD,λx h=>(by cases h)⟩)⟩
def zKA(n a b:o_)(hk:n.b_=[a,b])(ia ib:Inf)(ha:iP L a ia)(hb:iP L b ib):iP L n (zy n ia ib):=λenv s k he hs=>by
 have hn:P_ n=P_ a+P_ b+1:=by rw[rf,hk];simp[e?]
 have h1:=ha env s (2+8*P_ b+k) (he.less oM) (hs.less oM);have h2:=SC (b:=8*P_ b+1+k) (bT 5) (SK) n.line n.t_ (ia env s) (h1.1.less oM) h1.2;unfold zy;simp only;generalize jZ (bT 5) n.line n.t_ (ia env s)=r at*
 by_cases q:r.1.2.d_≠5
 .rw[aC q];exact⟨yU (h2.1.less oM) _ _ _,uf⟩
 .rw[aB q];have h3:=hb env r.2 k (he.less oM) (h2.1.less oM);exact KU h3.1 _ _ _
def zE0{t:f_}(h:iU t)(k:t.d_=5):lN t.a_=lN t.b_:=by
 rcases((rP t).1 h).2.2 with⟨_,q,_,_⟩|⟨_,q,_⟩|⟨q,_,_⟩|⟨q,_,_⟩<;>omega
abbrev KW(n:o_)(j:Nat):oZ:=[(14,.c (.d (.int .i64 j))),(13,.c (.ptr 19 0)),(11,.c (.ptr 18 0)),(9,.c (.ptr 17 0)),(8,.c (.ptr 16 0)),(7,.c (.ptr 13 0)),(6,.c (.ptr 12 0)),(4,.c (.d (.rp n.enc 0))),(0,.c (.ptr 0 0))]
abbrev Dy(s:CS)(P:oV)(x y:n_)(xt:f_)(A:sV):oV:=[xS L s 2 14 4,AJ 256 (lN s.n?) 15,r9 s.v_,.dead,kg s.bad,.dead]++(P++[.box [.d (.int .i64 0),.d (.int .i64 0),.d (.str (bs [])),.d (.sl tT 1 []),.d (.sl tT 1 []),.d (.sl tT 4 []),.d (.sl tT 5 []),.d (.sl tT 8 [])],.box [.d (.int .i64 0),.d (.str (bs [])),.d (.sl tT 1 []),.d (.sl tT 4 [])],uK s.sites,nS s.n?,.box (x.enc.map .d),.box (xt.enc.map .d),.box (y.enc.map .d),.box [.d (.int .i64 5),.d (.str (bs [])),.x_ 1 20 0 (lN A),.x_ 4 21 0 (lN A)],vw (A.map (·.1)),nQ (A.map (·.2))])
def xz{α:Type}(l:List α)(n:Nat)(h:lN l=n):take n l=l:=aD oM
theorem zE1(n a b:o_)(hk:n.b_=[a,b])(ia ib:Inf)(ha:ug L a ia)(hb:ug L b ib):H? L 105 n (zy n ia ib):=λenv s k he hs=>by
 refine zzJ kW λts _e ok hbk c hN hp=>?_;obtain⟨t,u,v,w,x,y,rfl⟩:=lM _e;have hn:P_ n=P_ a+P_ b+1:=by rw[rf,hk];simp[e?]
 have _u:=jr 0;have hb5:=jr 5;have m1:=ha.1 env s (2+8*P_ b+k) (he.less oM) (hs.less oM);have p1:=ha.2 env s (2+8*P_ b+k) (he.less oM) (hs.less oM);unfold zy;simp only;generalize ia env s=r1 at*
 unfold Zu;by_cases t0:r1.1.2.d_=0
 .let⟨X,eX⟩:=oJ (jZ (bT 5) n.line n.t_ r1);have p2:=SC (b:=8*P_ b+1+k) (bT 5) (SK) n.line n.t_ r1 (p1.1.less oM) p1.2;rw[eX]at p2⊢;have m2:=Ia L r1.1.1 r1.1.2 (bT 5) n r1.2 (by have:=p1.1.sites;omega);unfold jZ at eX;rw[aC t0]at eX;have eX1:(lD r1.1.1 r1.1.2 (bT 5) n.line n.t_ r1.2).1=X.1.1:=by rw[<-eX]
  have eX2:(lD r1.1.1 r1.1.2 (bT 5) n.line n.t_ r1.2).2=X.2:=by rw[<-eX]
  have eX3:X.1.2=bT 5:=by rw[<-eX]
  rw[eX1,eX2]at m2;clear eX eX1 eX2;have k5:¬X.1.2.d_≠5:=by rw[eX3];decide
  rw[aB k5];have m3:=hb.1 env X.2 k (he.less oM) (p2.1.less oM);have p3:=hb.2 env X.2 k (he.less oM) (p2.1.less oM);generalize ib env X.2=r3 at*
  rw[<-eX3]at hb5;rw[<-eX3]at m2;have k5:X.1.2.d_=5:=by rw[eX3];try rfl
  have hl:=zE0 p2.2 k5;have hl2:=yT p2.2;simp[hk];refine gN [0,1,2,3,4,5] m1 ?_;simp[t0];refine gQ hb5 ?_;simp;refine gN qJ m2 ?_;simp[k5,hk];refine gN [0,1,2,19,4,15] m3 ?_;simp[hk];have e0:vB n.text (X.1.2.a_.take 0) (X.1.2.b_.take 0)=[]:=rfl;refine fM gm hp (λj:Nat=>j<=lN X.1.2.a_) (KW n) (λj=>Dy L r3.2 [.G_ t 0,.G_ u 1,.G_ v 2,.G_ w 3,.G_ x 4,.G_ y 5] X.1.1 r3.1.1 X.1.2 ((n.text,r3.1.2)::vB n.text (X.1.2.a_.take j) (X.1.2.b_.take j))) (λj=>lN X.1.2.a_-j) 0 [0,1,2,3,4,5,6,7,8,9,10,11,12,13,20,21,16,17,22,26,24,25] oC (by simp[encS,vB]) λj h1=>?_;unfold Q9;simp;apply gM<;>intro h
  .have hj:j<lN X.1.2.a_:=uM h;have _x:j<lN X.1.2.b_:=oM;let⟨z,hz⟩:=oJ (X.1.2.a_[j]);let⟨q,hq⟩:=oJ (X.1.2.b_[j]);have tk1:X.1.2.a_.take (j+1)=X.1.2.a_.take j++[z]:=by rw[aN hj,hz]
   have tk2:X.1.2.b_.take (j+1)=X.1.2.b_.take j++[q]:=by rw[aN _x,hq]
   have rs:=SH n.text z q (X.1.2.a_.take j) (X.1.2.b_.take j) (by rw[bz,bz];omega);rw[<-tk1,<-tk2]at rs;have rl:=SI n.text (X.1.2.a_.take j) (X.1.2.b_.take j);rw[bz]at rl;have hw:=wI (n:=(j:Int)+1);simp[hj,hz];refine oG ?_;by_cases e:z=n.text
   .rw[aC e,bi]at rs;simp[e];refine fE (j+1) [0,1,2,3,4,5,6,7,8,9,10,11,12,13,14,15,16,17,18,19,20,21] oM oM ?_;simp only[Dy,rs];simp[hw]
   .rw[aB e]at rs;generalize hA:vB n.text (X.1.2.a_.take j) (X.1.2.b_.take j)=A at*
    simp[e,hj,hz,_x,hq];refine⟨oM,oD,oM,oD,?_⟩;refine fE (j+1) [0,1,2,3,4,5,6,7,8,9,10,11,12,13,14,15,16,17,18,19,22,23] oM oM ?_;simp[hw,rs];refine⟨?_,?_⟩
    .rw[xz _ _ (by simp[encS])];simp[encS]
    .rw[xz _ _ oC]
  have hj:j=lN X.1.2.a_:=oI h;subst hj;rw[bJ,hl,bJ];generalize vB n.text X.1.2.a_ X.1.2.b_=B at*
  have z1:take (lN B+1) (encS (n.text::List.map (λx=>x.1) B))=encS (n.text::List.map (λx=>x.1) B):=xz _ _ (by simp[encS]);have z2:take (lN B) (List.map (f_.enc∘λx=>x.2) B)=List.map (f_.enc∘λx=>x.2) B:=xz _ _ oC;have m4:=GZ L (.mk 5 (bs []) (((n.text,r3.1.2)::B).map (·.1)) (((n.text,r3.1.2)::B).map (·.2))) n r3.2;generalize qh (.mk 5 (bs []) (((n.text,r3.1.2)::B).map (·.1)) (((n.text,r3.1.2)::B).map (·.2))) n.line n.t_ r3.2=r4 at*
  simp[hk];refine fQ [20,21] ?_;simp[iE,z1,z2];refine gP qJ m4 (by simp[vz]) ?_;simp;refine oG ?_;exact fI qI qG
 have eX:jZ (bT 5) n.line n.t_ r1=r1:=by unfold jZ;rw[aB t0]
 have p2:jy L r1.2 (8*P_ b+1+k)/\iU r1.1.2:=⟨p1.1.less oM,p1.2⟩
 rw[eX];by_cases k5:r1.1.2.d_=5;rotate_left
 .rw[aC k5];have m2:=yD L n 17 r1.2;generalize jw n.line n.t_ 17 r1.2=r2 at*
  simp[hk];refine gN [0,1,2,3,4,5] m1 ?_;simp[t0,k5];refine gN qJ m2 ?_;simp;refine gQ _u ?_;simp;exact fI qI qG
 rw[aB (λz=>z k5)];let⟨X,hX⟩:∃X,X=r1:=⟨_,rfl⟩
 subst hX;have m3:=hb.1 env X.2 k (he.less oM) (p2.1.less oM);have p3:=hb.2 env X.2 k (he.less oM) (p2.1.less oM);generalize ib env X.2=r3 at*
 have hl:=zE0 p2.2 k5;have hl2:=yT p2.2;simp[hk];refine gN [0,1,2,3,4,5] m1 ?_;simp[t0,k5,hk];refine gN qJ m3 ?_;simp[hk];have e0:vB n.text (X.1.2.a_.take 0) (X.1.2.b_.take 0)=[]:=rfl;refine fM gm hp (λj:Nat=>j<=lN X.1.2.a_) (KW n) (λj=>Dy L r3.2 [.G_ t 0,.G_ u 1,.G_ v 2,.G_ w 3,.G_ x 4,.G_ y 5] X.1.1 r3.1.1 X.1.2 ((n.text,r3.1.2)::vB n.text (X.1.2.a_.take j) (X.1.2.b_.take j))) (λj=>lN X.1.2.a_-j) 0 [0,1,2,3,4,5,6,7,8,9,10,11,12,13,18,19,16,17,20,24,22,23] oC (by simp[encS,vB]) λj h1=>?_;unfold Q9;simp;apply gM<;>intro h
 .have hj:j<lN X.1.2.a_:=uM h;have _x:j<lN X.1.2.b_:=oM;let⟨z,hz⟩:=oJ (X.1.2.a_[j]);let⟨q,hq⟩:=oJ (X.1.2.b_[j]);have tk1:X.1.2.a_.take (j+1)=X.1.2.a_.take j++[z]:=by rw[aN hj,hz]
  have tk2:X.1.2.b_.take (j+1)=X.1.2.b_.take j++[q]:=by rw[aN _x,hq]
  have rs:=SH n.text z q (X.1.2.a_.take j) (X.1.2.b_.take j) (by rw[bz,bz];omega);rw[<-tk1,<-tk2]at rs;have rl:=SI n.text (X.1.2.a_.take j) (X.1.2.b_.take j);rw[bz]at rl;have hw:=wI (n:=(j:Int)+1);simp[hj,hz];refine oG ?_;by_cases e:z=n.text
  .rw[aC e,bi]at rs;simp[e];refine fE (j+1) [0,1,2,3,4,5,6,7,8,9,10,11,12,13,14,15,16,17,18,19,20,21] oM oM ?_;simp only[Dy,rs];simp[hw]
  .rw[aB e]at rs;generalize hA:vB n.text (X.1.2.a_.take j) (X.1.2.b_.take j)=A at*
   simp[e,hj,hz,_x,hq];refine⟨oM,oD,oM,oD,?_⟩;refine fE (j+1) [0,1,2,3,4,5,6,7,8,9,10,11,12,13,14,15,16,17,18,19,22,23] oM oM ?_;simp[hw,rs];refine⟨?_,?_⟩
   .rw[xz _ _ (by simp[encS])];simp[encS]
   .rw[xz _ _ oC]
 have hj:j=lN X.1.2.a_:=oI h;subst hj;rw[bJ,hl,bJ];generalize vB n.text X.1.2.a_ X.1.2.b_=B at*
 have z1:take (lN B+1) (encS (n.text::List.map (λx=>x.1) B))=encS (n.text::List.map (λx=>x.1) B):=xz _ _ (by simp[encS]);have z2:take (lN B) (List.map (f_.enc∘λx=>x.2) B)=List.map (f_.enc∘λx=>x.2) B:=xz _ _ oC;have m4:=GZ L (.mk 5 (bs []) (((n.text,r3.1.2)::B).map (·.1)) (((n.text,r3.1.2)::B).map (·.2))) n r3.2;generalize qh (.mk 5 (bs []) (((n.text,r3.1.2)::B).map (·.1)) (((n.text,r3.1.2)::B).map (·.2))) n.line n.t_ r3.2=r4 at*
 simp[hk];refine fQ [20,21] ?_;simp[iE,z1,z2];refine gP qJ m4 (by simp[vz]) ?_;simp;refine oG ?_;exact fI qI qG
end
section
variable (L:f?)
def Dz(l:List fD):Nat->Bool
|0=>oK
|i+1=>Dz l i||(l.take i).any (λm=>decide (sS m=l[i]?))
def Cr(l:oN)(i j:Nat):Bool:=Dz l i||(l.take j).any (λm=>decide (sS m=l[i]?))
def zAM(l:List fD):∀i,i<=lN l->(Dz l i||kZ (l.take i) (l.drop i))=kZ [] l
|0,_=>by simp[Dz]
|i+1,h=>by
 have hi:i<lN l:=oM;rw[<-zAM l i oM,aF hi,kZ,Dz,aN hi];simp[Bool.or_assoc,hi]
def zEx(l:oN):Dz l (lN l)=kZ [] l:=by
 have:=zAM l (lN l) oM;rw[aS]at this;simpa[kZ]using this
def mV(n:o_)(s:CS)(q:Bool):CS:=if q=tT then jw n.line n.t_ 8 s else s
def zEy(n:o_)(s:CS)(q:Bool):jw n.line n.t_ 8 (mV n s q)=mV n s tT:=by
 unfold mV;cases q with
 |false=>simp
 |true=>
  simp only[aC];unfold jw;by_cases h:s.e=0
  .rw[aC h];try rfl
  .rw[aB h,aB h]
def zAN{L:f?}{n:o_}{s:CS}{b:Nat}(h:jy L s b)(q:Bool):jy L (mV n s q) b:=by
 unfold mV;split
 .exact yU h _ _ _
 .exact h
theorem zAO(n:o_)(ks:Env->CS->(List n_ × List f_) × CS)(env:Env)(s:CS):rW n ks env s=((.mk 8 0 (bs []) [] n.a_ [] [] (ks env (mV n s (kZ [] n.a_))).1.1,(qh (.mk 5 (bs []) n.a_ (ks env (mV n s (kZ [] n.a_))).1.2) n.line n.t_ (ks env (mV n s (kZ [] n.a_))).2).1),(qh (.mk 5 (bs []) n.a_ (ks env (mV n s (kZ [] n.a_))).1.2) n.line n.t_ (ks env (mV n s (kZ [] n.a_))).2).2):=rfl
def zxP:∀l:List o_,lN l<=e? l
|[]=>by simp
|n::l=>by
 have:=zxP l;have:=rf n;rw[e?,length_cons];omega
def zvc:∀(l:List o_) (j:Nat),e? (l.drop j)<=e? l
|[],j=>by simp
|n::l,0=>by simp
|n::l,j+1=>by
 have:=zvc l j;rw[drop_succ_cons,e?];omega
def zxQ(env:Env):∀(l:List o_),(∀x,x∈l->iP L x (iD L x))->vF env (e? l)->∀(s:CS) (b:Nat),jy L s (8*e? l+b)->jy L (nP L l env s).2 b
|[],_,_,s,b,h=>by rw[nP];exact h.less oM
|n::l,hl,he,s,b,h=>by
 rw[e?]at he h;have h1:=hl n oC env s (8*e? l+b) (he.less oM) (h.less oM);rw[nP];exact zxQ env l (λx hx=>hl x (by simp[hx])) (he.less oM) _ b h1.1
def zLn(n:o_)(hks:∀x,x∈n.b_->iP L x (iD L x)):iP L n (rW n (nP L n.b_)):=λenv s k he hs=>by
 rw[rf]at he hs;have h1:=zxQ L env n.b_ hks (he.less oM) (mV n s (kZ [] n.a_)) k (zAN (hs.less oM) _);rw[zAO];exact KU h1 _ _ _
abbrev SL(l:o8):A_:=.arr 8 ((l.map n_.enc).map (·.map .d))
abbrev KX(n:o_)(env:Env)(i:Nat):oZ:=[(8,.c (.d (.int .i64 i))),(7,.c (.ptr 13 0)),(6,.c (.ptr 12 0)),(4,.c (.d (.rp n.enc 0))),(2,.c (.d (.sl oK 5 (env.map p?)))),(0,.c (.ptr 0 0))]
abbrev KY(P:oV)(S:CS):oV:=uL L S++(P++[.box [.d (.int .i64 0),.d (.int .i64 0),.d (.str (bs [])),.d (.sl tT 1 []),.d (.sl tT 1 []),.d (.sl tT 4 []),.d (.sl tT 5 []),.d (.sl tT 8 [])],.box [.d (.int .i64 0),.d (.str (bs [])),.d (.sl tT 1 []),.d (.sl tT 4 [])]])
abbrev rcT(n:o_)(env:Env)(j:Nat):oZ:=[(12,.c (.d (.int .i64 j))),(11,.c (.ptr 11 0)),(10,.c (.ptr 10 0)),(7,.c (.ptr 9 0)),(6,.c (.ptr 8 0)),(4,.c (.d (.rp n.enc 0))),(2,.c (.d (.sl oK 5 (env.map p?)))),(0,.c (.ptr 0 0))]
abbrev rcB(n:o_)(P:oV)(S:CS)(cs:o8)(ts:oL):oV:=[xS L S 2 12 3,AJ 256 (lN S.n?) 13,r9 S.v_,kg S.bad]++(P++[.box [.d (.int .i64 0),.d (.int .i64 0),.d (.str (bs [])),.d (.sl tT 1 []),.d (.sl tT 1 []),.d (.sl tT 4 []),.d (.sl tT 5 []),.d (.sl tT 8 [])],.box [.d (.int .i64 0),.d (.str (bs [])),.d (.sl tT 1 []),.d (.sl tT 4 [])],.box [.d (.int .i64 8),.d (.int .i64 0),.d (.str (bs [])),.d (.sl tT 1 []),.d (.sl oK 1 (encS n.a_)),.d (.sl tT 4 []),.d (.sl tT 5 []),.x_ 8 14 0 (lN cs)],.box [.d (.int .i64 5),.d (.str (bs [])),.d (.sl oK 1 (encS n.a_)),.x_ 4 15 0 (lN ts)],uK S.sites,nS S.n?,SL cs,nQ ts])
theorem zCg(n:o_)(hnm:lN n.a_<=1000000)(hks:∀x,x∈n.b_->ug L x (iD L x)):H? L 103 n (rW n (nP L n.b_)):=λenv s k he hs=>by
 refine zyu kW λts _e ok hbk c hN hp=>?_;obtain⟨t,u,v,w,x,y,rfl⟩:=lM _e;have hn:=rf n;rw[zAO];unfold Zr;simp;refine fM gm hp (λi:Nat=>i<=lN n.a_) (KX n env) (λi=>KY L [.G_ t 0,.G_ u 1,.G_ v 2,.G_ w 3,.G_ x 4,.G_ y 5] (mV n s (Dz n.a_ i))) (λi=>lN n.a_-i) 0 qL oC (by simp[Dz,mV]) λi h1=>?_;unfold Zp;simp;apply gM<;>intro h
 .have hi:i<lN n.a_:=uM h;let⟨z,hz⟩:=oJ (n.a_[i]);have hz2:n.a_[i]?=sS z:=by rw[aA hi,hz]
  try simp
  refine fM gm hp (λj:Nat=>j<=i) (λj=>(9,.c (.d (.int .i64 j)))::KX n env i) (λj=>KY L [.G_ t 0,.G_ u 1,.G_ v 2,.G_ w 3,.G_ x 4,.G_ y 5] (mV n s (Cr n.a_ i j))) (λj=>i-j) 0 qL oC (by simp[Cr]) λj h2=>?_;unfold Zo;simp;apply gM<;>intro h
  .have hj:j<i:=uM h;have _x:j<lN n.a_:=oM;let⟨q,hq⟩:=oJ (n.a_[j]);have hw:=wI (n:=(j:Int)+1);have m:=yD L n 8 (mV n s (Cr n.a_ i j));rw[zEy]at m;have e:Cr n.a_ i (j+1)=(Cr n.a_ i j||decide (q=z)):=by
    unfold Cr;rw[aN _x,hz2,hq];simp[Bool.or_assoc]
   by_cases c0:q=z
   .have e2:Cr n.a_ i (j+1)=tT:=by rw[e];simp[c0]
    simp[_x,hq,hz,hi,c0];refine oG ?_;refine gN [0,1,2,3,4,5] m ?_;simp;refine fE (j+1) qL oM oM ?_;simp[hw,e2]
   .have e2:Cr n.a_ i (j+1)=Cr n.a_ i j:=by rw[e];simp[c0]
    simp[_x,hq,hz,hi,c0];refine oG ?_;refine fE (j+1) qL oM oM ?_;simp[hw,e2]
  .have hj:j=i:=oI h;subst hj;have hw:=wI (n:=(j:Int)+1);have e:Cr n.a_ j j=Dz n.a_ (j+1):=rfl;simp;refine fE (j+1) qL oM oM ?_;simp[hw,e]
 have hi:i=lN n.a_:=oI h;subst hi;rw[zEx];have s1:=zAN (n:=n) (b:=8*e? n.b_+k) (hs.less oM) (kZ [] n.a_);generalize mV n s (kZ [] n.a_)=s1' at*
 let⟨R,hR⟩:=oJ (nP L n.b_ env s1');rw[hR];have hkl:=zxP n.b_;have hel:=he.len;simp;refine fT [.c 14 7,.c 15 3] ?_;simp;refine fM gm hp (λY:Nat × CS × List n_ × List f_=>Y.1<=lN n.b_/\jy L Y.2.1 (8*e? (n.b_.drop Y.1)+k)/\lN Y.2.2.1=Y.1/\lN Y.2.2.2=Y.1/\((Y.2.2.1++(nP L (n.b_.drop Y.1) env Y.2.1).1.1,Y.2.2.2++(nP L (n.b_.drop Y.1) env Y.2.1).1.2),(nP L (n.b_.drop Y.1) env Y.2.1).2)=R) (λY=>rcT n env Y.1) (λY=>rcB L n [.G_ t 0,.G_ u 1,.G_ v 2,.G_ x 3] Y.2.1 Y.2.2.1 Y.2.2.2) (λY=>lN n.b_-Y.1) (0,s1',[],[]) [0,1,2,4,6,7,8,10,12,13,14,15,3,5,16,17] ⟨oC,uM s1,oC,oC,uM hR⟩ oC λ⟨j,S,cs,ts⟩ ⟨i1,i2,i3,i4,i5⟩=>?_;unfold Zq;simp only at i1 i2 i3 i4 i5;simp;apply gM<;>intro h
 .have hj:j<lN n.b_:=uM h;let⟨q,hq⟩:=oJ (n.b_[j]);have hqm:q∈n.b_:=by rw[<-hq];exact aO hj
  have hd:=zvc n.b_ j;rw[aF hj,hq]at i2 i5 hd;rw[nP]at i5;rw[e?]at i2 hd;have m:=(hks q hqm).1 env S (8*e? (n.b_.drop (j+1))+k) (he.less oM) (i2.less oM);have p:=(hks q hqm).2 env S (8*e? (n.b_.drop (j+1))+k) (he.less oM) (i2.less oM);simp only at i5;generalize iD L q env S=r at*
  have hw:=wI (n:=(j:Int)+1);simp[hj,hq];refine gN [0,1,2,12,3,13] m ?_;simp;refine⟨oM,oM,?_⟩;refine fE (j+1,r.2,cs++[r.1.1],ts++[r.1.2]) [0,1,2,3,4,5,6,7,8,9,10,11,16,17,20,21] ⟨qM,p.1,by simp;omega,by simp;omega,uM i5⟩ qM ?_;simp[hw];refine⟨?_,?_⟩
  .rw[xz _ _ oC]
  .rw[xz _ _ oC]
 have hj:j=lN n.b_:=oI h;subst hj;rw[aS,nP]at i5;simp only[bi]at i5;subst i5;simp only;have m4:=GZ L (.mk 5 (bs []) n.a_ ts) n S;generalize qh (.mk 5 (bs []) n.a_ ts) n.line n.t_ S=r4 at*
 simp;refine fQ [14,15] ?_;have z1:=xz (cs.map n_.enc) (lN cs) oC;have z2:=xz (ts.map f_.enc) (lN ts) oC;simp[iE,z1,z2];refine gP [0,1,2,12,3,13] m4 (by simp[vz]) ?_;simp;refine oG ?_;exact fH [0,1,2,8,3,9,12,13] [4,5,6,4,7,4] (by simp[z1,KT,Bn,vz,encI,AV.R_,AV.K_,D.W_,D.K_,D.O_,R?,Q?])
end
section
variable (L:f?)
def SN{L:f?}(ln cl:Int):∀(ts l:List f_) (s:CS) (b:Nat),jy L s b->jy L (vO ln cl ts l s).2 b
|[],_,_,_,h=>h
|t::ts,l,s,b,h=>by
 rw[vO];split
 .exact h
 .exact SN ln cl ts _ _ b (yx h t ln cl).1
def SQ(x:fD):∀l:List iO,(uF l x).2=tT->(uF l x).1∈l
|[],h=>by simp[uF]at h
|e::l,h=>by
 rw[uF]at h⊢;split at h
 next q=>rw[aC q];simp
 next q=>rw[aB q];exact eT _ (SQ x l h)
def zAF{env:Env}{b:Nat}(he:vF env b)(k:Nat):iU (env.getD k (bs [],C_)).2:=by
 rw[aH];cases h:env[k]? with
 |none=>exact uf
 |some v=>exact he.wf v (ah h)
def zu8(ln cl:Int):∀(ts l:List f_) (s:CS),(vO ln cl ts l s).1.length<=lN l+lN ts
|[],l,_=>by rw[vO];simp
| t::ts,l,s=>by
 rw[vO];split
 .simp only[length_cons];omega
 .apply aX (zu8 ln cl ts _ _);simp only[aV,length_cons,length_nil];omega
def zKe{L:f?}(hL:nI L)(i:Nat)(x:fD)(h:(uF (L.scopes.getD i []) x).2=tT):ik L ⟨bs [],(uF (L.scopes.getD i []) x).1.module,(uF (L.scopes.getD i []) x).1.decl⟩:=by
 have hm:=SQ x _ h;have:L.scopes.getD i []∈L.scopes:=by
  rw[aH]at hm⊢;cases q:L.scopes[i]? with
  |none=>rw[q]at hm;simp at hm
  |some sc=>exact ah q
 have r:=hL.ents _ this _ hm;exact⟨r.m0,r.m1,r.d0,r.d1⟩
def zI2(hL:nI L)(n:o_)(_J:lN n.types<=1000000):iP L n (zu L n):=λenv s k he hs=>by
 have hs:=hs.less (c:=k) oM;have ent:=zKe hL s.module.toNat n.text;unfold zu;simp only;split
 .exact⟨hs,zAF he _⟩
 rename_i c1;split
 .exact⟨yU hs _ _ _,uf⟩
 rename_i c2;split
 .exact⟨yU hs _ _ _,uf⟩
 rename_i c3;have ent:=ent (by
  by_cases q:(uF (L.scopes.getD s.module.toNat []) n.text).2=tT
  .exact q
  .exact absurd ⟨oM,uM q⟩ c2)
 split
 .exact⟨yU hs _ _ _,uf⟩
 split
 .exact zrV hs _ _ _ _ ent oC
 have h2:=SN n.line n.t_ n.types [] s k hs;have h3:=zu8 n.line n.t_ n.types [] s;split
 .exact⟨h2,uf⟩
 split
 .exact⟨yU h2 _ _ _,uf⟩
 .exact zrV h2 _ _ _ _ ent (by simp at h3;omega)
abbrev nmT(n:o_)(j m:Nat):oZ:=[(14,.c (.d (.int .i64 j))),(13,.c (.x_ 4 17 0 m)),(12,.c (.ptr 16 0)),(11,.c (.ptr 15 0)),(9,.c (.ptr 14 0)),(7,.c (.ptr 13 0)),(6,.c (.ptr 12 0)),(4,.c (.d (.rp n.enc 0))),(0,.c (.ptr 0 0))]
abbrev nmB(P:oV)(e:iO)(d:P?)(S:CS)(ts:oL):oV:=uL L S++(P++[.box [.d (.int .i64 0),.d (.int .i64 0),.d (.str (bs [])),.d (.sl tT 1 []),.d (.sl tT 1 []),.d (.sl tT 4 []),.d (.sl tT 5 []),.d (.sl tT 8 [])],.box [.d (.int .i64 0),.d (.str (bs [])),.d (.sl tT 1 []),.d (.sl tT 4 [])],.box (e.enc.map .d),.box [.d (.int .i64 0),.d (.int .i64 0),.d (.str (bs [])),.d (.sl tT 1 []),.d (.sl tT 1 []),.d (.sl tT 4 []),.d (.sl tT 5 []),.d (.sl tT 8 [])],.box (d.enc.map .d),nQ ts])
def zEn(hL:nI L)(n:o_)(_J:lN n.types<=1000000):H? L 99 n (zu L n):=λenv s k he hs=>by
 refine zzI kW λts _e ok hbk c hN hp=>?_;obtain⟨t,u,v,w,x,y,rfl⟩:=lM _e;have _u:=jr 0;have hel:=he.len;have hfi:=find_ok env oM n.text;have hfl:=Ry env n.text;let⟨sc,hsc⟩:=oJ (L.scopes.getD s.module.toNat []);let⟨mn,hmn⟩:∃mn:Nat,s.module=mn:=⟨s.module.toNat,by have:=hs.m0;omega⟩
 have hml:mn<lN L.scopes:=by have:=hs.m1;have:=hL.scopes;omega
 have hsc2:L.scopes[mn]?=sS sc:=by rw[hmn]at hsc;simp only[bC]at hsc;rw[<-hsc,aH,aA hml];try rfl
 have hfe:=zAX sc n.text;have hem:=SQ n.text sc;unfold zu;simp only;rw[hsc];generalize uF sc n.text=e at*
 generalize u7 env n.text=z at*
 have hse:∀q:e.2=tT,ik L e.1:=λq=>hL.ents sc (ah hsc2) _ (hem q);unfold Zk;simp[hmn,hsc2];refine gQ hfi ?_;simp[hmn,hsc2];refine gQ hfe ?_;have ge1:∀h,e.1.enc[1]'h=D.int .i64 e.1.module:=λ_=>rfl;have ge2:∀h,e.1.enc[2]'h=D.int .i64 e.1.decl:=λ_=>rfl;by_cases z0:0<=z
 .let⟨zn,hzn⟩:∃zn:Nat,z=zn:=⟨z.toNat,oM⟩
  have hzl:zn<lN env:=oM;let⟨v,hv⟩:=oJ (env[zn]);have hv2:env.getD z.toNat (bs [],C_)=v:=by rw[hzn];simp only[bC];rw[aH,aA hzl,hv];try rfl
  by_cases k4:n.d_=4
  .rw[aC ⟨z0,k4⟩,hv2];subst hzn;simp[k4,hzl,hv];refine⟨oD,oD,?_⟩;exact fI qH qG
  .rw[aB (λq=>k4 q.2),aB (λq=>by omega),aC z0];have m:=yD L n 18 s;generalize jw n.line n.t_ 18 s=s2 at*
   have z1:¬z<0:=oM;simp[k4,z0,z1];refine oG ?_;refine gN [0,1,2,3,4,5] m ?_;simp;refine gQ _u ?_;simp;refine oG ?_;exact fI qH qG
 have z1:z<0:=oM;rw[aB (λq=>z0 q.1)];by_cases e2:e.2=tT;rotate_left
 .rw[aC ⟨z1,uM e2⟩];have m:=yD L n 10 s;generalize jw n.line n.t_ 10 s=s2 at*
  simp[z0,z1,e2];refine oG ?_;refine gN [0,1,2,3,4,5] m ?_;simp;refine gQ _u ?_;simp;refine oG ?_;exact fI qH qG
 rw[aB (λq=>by simp[e2]at q),aB z0];have hen:=hse e2;have hen2:ik L ⟨bs [],e.1.module,e.1.decl⟩:=⟨hen.m0,hen.m1,hen.d0,hen.d1⟩
 let⟨mn2,kn,M,e1,e3,g1,g2,hd⟩:=Ib hL hen2;generalize hdd:xO L e.1.module e.1.decl=d at*
 by_cases c9:decide (0<lN d.vars)=decide (n.d_=19);rotate_left
 .rw[aC c9];have m:=yD L n 18 s;generalize jw n.line n.t_ 18 s=s2 at*
  simp[z0,z1,e2,ge1,ge2,e1,e3,g1,g2];refine⟨oD,oD,?_⟩;by_cases c0:0<lN d.vars
  .have c1:¬n.d_=19:=λq=>c9 (by simp[c0,q]);simp[c0,c1];refine gN [0,1,2,3,4,5] m ?_;simp;refine gQ _u ?_;simp;refine oG ?_;exact fI qH qG
  .have c1:n.d_=19:=by
    by_cases q:n.d_=19
    .exact q
    .exact absurd (by simp[c0,q]) c9
   simp[c0,c1];refine gN [0,1,2,3,4,5] m ?_;simp;refine gQ _u ?_;simp;refine oG ?_;exact fI qH qG
 rw[aB (λq=>q c9)];by_cases k4:n.d_=4
 .rw[aC k4];have c0:¬0<lN d.vars:=λq=>by simp[q,k4]at c9
  have m:=q_.K_ (args:=[.c (.ptr 0 0),.ag (n.enc.map .d),.ag (e.1.enc.map .d),.c (.d (.sl tT 4 []))]) (zrW L hL n e.1 hen2 [] oC s hs.n?) (by simp[AV.R_,AV.K_,AC.K_,D.K_,D.W_,D.O_,iO.enc]);generalize vk L n.line n.t_ e.1 [] s=r at*
  simp[z0,z1,e2,ge1,ge2,e1,e3,g1,g2];refine⟨oD,oD,?_⟩;simp[c0,k4];refine gN [0,1,2,3,4,5] m ?_;simp;exact fI [0,1,2,9,4,11,17,18] qG
 rw[aB k4];let⟨R,hR⟩:=oJ (vO n.line n.t_ n.types [] s);have pR:=SN n.line n.t_ n.types [] s k (hs.less oM);rw[hR]at pR⊢;simp[z0,z1,e2,ge1,ge2,e1,e3,g1,g2];refine⟨oD,oD,?_⟩;have c9':(decide (0<lN d.vars) !=decide (n.d_=19))=oK:=by rw[c9];simp
 apply gM<;>intro h
 .exfalso;simp_all
 simp[k4];refine fT [.t 13] ?_;simp;refine fM gm hp (λY:Nat × CS × List f_=>Y.1<=lN n.types/\jy L Y.2.1 k/\lN Y.2.2=Y.1/\vO n.line n.t_ (n.types.drop Y.1) Y.2.2 Y.2.1=R) (λY=>nmT n Y.1 (lN Y.2.2)) (λY=>nmB L [.G_ t 0,.G_ u 1,.G_ v 2,.G_ w 3,.G_ x 4,.G_ y 5] e.1 d Y.2.1 Y.2.2) (λY=>lN n.types-Y.1) (0,s,[]) [0,1,2,3,4,5,6,7,8,9,10,11,12,13,14,15,16,17] ⟨oC,hs.less oM,oC,uM hR⟩ oC λ⟨j,S,ts⟩ ⟨i1,i2,i3,i4⟩=>?_;unfold Zj;simp only at i1 i2 i3 i4;simp;by_cases hj:j<lN n.types
 .by_cases q0:S.e=0
  .let⟨q,hq⟩:=oJ (n.types[j]);rw[aF hj,hq,vO,aB (λz=>z q0)]at i4;have m:=GY L q n.line n.t_ S i2.V_;have p:=yx i2 q n.line n.t_;generalize ig q n.line n.t_ S=r at*
   have hw:=wI (n:=(j:Int)+1);simp[hj,q0,hq];refine gN [0,1,2,3,4,5] m ?_;simp;refine⟨oD,oM,?_⟩;refine fE (j+1,r.2,ts++[r.1]) [0,1,2,3,4,5,6,7,8,9,10,11,12,13,14,15,16,19] ⟨qM,p.1,by simp;omega,i4⟩ qM ?_;simp[hw];rw[xz _ _ oC]
  .have i5:(ts,S)=R:=by rw[aF hj,vO,aC q0]at i4;exact i4
   subst i5;rw[aC q0];simp[hj,q0];refine gQ _u ?_;simp;refine oG ?_;exact fI qH qG
 have _x:j=lN n.types:=oM;rw[_x,aS,vO]at i4;subst i4;by_cases q0:S.e=0;rotate_left
 .rw[aC q0];simp[hj,q0];refine gQ _u ?_;simp;refine oG ?_;exact fI qH qG
 rw[aB (λz=>z q0)];have hbi:=zI5 d.vars ts oM;simp only;generalize I4 d.vars ts=B at*
 have z3:=xz (ts.map f_.enc) (lN ts) oC;simp[hj,q0];refine fQ [17] ?_;simp[iE,z3];refine gQ hbi ?_;by_cases b0:B=0;rotate_left
 .rw[aC b0];have m:=yD L n B S;generalize jw n.line n.t_ B S=s2 at*
  simp[b0];refine gN [0,1,2,3,4,5] m ?_;simp;refine gQ _u ?_;simp;refine oG ?_;exact fI qH qG
 rw[aB (λz=>z b0)];have m:=zrW L hL n e.1 hen2 ts oM S i2.n?;generalize vk L n.line n.t_ e.1 ts S=r at*
 simp[b0,iE,z3];refine gN [0,1,2,3,4,5] m ?_;simp;exact fI qK qG
end
variable {t:f_}{env:Env}{b:Nat}
section
variable (L:f?)
def zJo(v:fD × f_)(t:f_):put ((p? v).map AC.d) 1 (t.enc.map AC.d)=(p? (v.1,t)).map AC.d:=by
 let⟨x,k⟩:=v;cases k;cases t;rfl
def zHt{a b:f_}(ha:iU a)(hb:iU b):iU (Bd a b):=by
 unfold Bd;split
 .exact hb
 split
 .exact ha
 split
 .exact uf
 split
 .exact uf
 split
 .exact KD _
 .exact uf
def zCy(ht:iU t)(tag:Int):iU (yN t tag).1/\iU (yN t tag).2:=by
 unfold yN;split
 .exact⟨ht,ht⟩
 split
 .split
  .exact⟨ht,ht⟩
  next q1 q2 q3=>
   refine⟨?_,ht⟩;by_cases h:tag=4
   .rw[h];exact SK
   .exact yS _ oM oM
 split
 .exact⟨ht,ht⟩
 split
 .exact⟨ht,ht⟩
 rename_i q1 q2 q3 q4;have p2:(jl (jk t) tag).2=tT:=uM q3;have k7:t.d_=7:=uM q4;have h1:iU (jl (jk t) tag).1.t:=(KM ht q2 (GR p2).1).1;have hm:∀x,x∈(t.b_.filter λk=>decide (iJ k≠tag))->x∈t.b_:=λx hx=>(bP.1 hx).1;have hl:(t.b_.filter λk=>decide (iJ k≠tag)).length<=lN t.b_:=dS _ _;have h7:lN t.b_<=6/\∀x,x∈t.b_->1<=x.d_/\x.d_<=6:=by
  rcases((rP t).1 ht).2.2 with⟨_,q,_,_⟩|⟨q,_⟩|⟨q,_,_⟩|⟨_,_,q,r⟩
  .omega
  .omega
  .omega
  .exact⟨q,r⟩
 generalize (t.b_.filter λk=>decide (iJ k≠tag))=F at*
 split
 next r=>
  exact⟨h1,Aq ht (hm r oC)⟩
 .exact⟨h1,(rP _).2 ⟨rfl,λx hx=>Aq ht (hm x hx),.inr (.inr (.inr ⟨rfl,rfl,by show lN F<=6;omega,λx hx=>h7.2 x (hm x hx)⟩))⟩⟩
def vF.set(h:vF env b)(k:Nat)(x:fD)(ht:iU t):vF (env.set k (x,t)) b:=⟨uM h.len,λv hv=>by
 rcases dZ hv with hv|hv
 .exact h.wf v hv
 .subst hv;exact ht⟩
def zs3(h:vF env b)(q:o_):vF (pE q env).1 b/\vF (pE q env).2 b:=by
 unfold pE;split
 .have hw:=zCy (zAF h (u7 env (q.b_.getD 0 uC).text).toNat) q.n;exact⟨h.set _ _ hw.1,h.set _ _ hw.2⟩
 .exact⟨h,h⟩
def SS(n q a b:o_)(hk:n.b_=[q,a,b])(iq ia ib:Inf)(hq:iP L q iq)(ha:iP L a ia)(hb:iP L b ib):iP L n (zz q a b iq ia ib):=λenv s k he hs=>by
 have hn:P_ n=P_ q+(P_ a+P_ b)+1:=by rw[rf,hk];simp[e?]
 have h1:=hq env s (3+8*P_ a+8*P_ b+k) (he.less oM) (hs.less oM);have _A:=zs3 he q;unfold zz;simp only;generalize iq env s=r1 at*
 have h2:=AL (b:=2+8*P_ a+8*P_ b+k) (h1.1.less oM) r1.1.1 r1.1.2 (bT 2) q.line q.t_;generalize jq r1.1.1 r1.1.2 (bT 2) q.line q.t_ r1.2=r2 at*
 have h3:=ha (pE q env).1 r2.2 (2+8*P_ b+k) (_A.1.less oM) (h2.less oM);generalize ia (pE q env).1 r2.2=r3 at*
 have h4:=hb (pE q env).2 r3.2 (2+k) (_A.2.less oM) (h3.1.less oM);generalize ib (pE q env).2 r3.2=r4 at*
 have h5:=AL (b:=1+k) (h4.1.less oM) r3.1.1 r3.1.2 (Bd r3.1.2 r4.1.2) a.line a.t_;generalize jq r3.1.1 r3.1.2 (Bd r3.1.2 r4.1.2) a.line a.t_ r4.2=r5 at*
 exact⟨AL (h5.less oM) _ _ _ _ _,zHt h3.2 h4.2⟩
def zCz(n q a b:o_)(hk:n.b_=[q,a,b])(hqk:q.d_=12->∃w,q.b_=[w])(iq ia ib:Inf)(hq:ug L q iq)(ha:ug L a ia)(hb:ug L b ib):H? L 106 n (zz q a b iq ia ib):=λenv s k he hs=>by
 refine zyv kW λts _e ok hbk c hN hp=>?_;obtain⟨t,u,v,w,x,y,rfl⟩:=lM _e;have hn:P_ n=P_ q+(P_ a+P_ b)+1:=by rw[rf,hk];simp[e?]
 have hel:=he.len;have hb2:=jr 2;have m1:=hq.1 env s (3+8*P_ a+8*P_ b+k) (he.less oM) (hs.less oM);have h1:=hq.2 env s (3+8*P_ a+8*P_ b+k) (he.less oM) (hs.less oM);have _A:=zs3 he q;unfold zz;simp only;generalize iq env s=r1 at*
 have m2:=Bo L r1.1.1 r1.1.2 (bT 2) q r1.2 (by have:=h1.1.sites;omega);have h2:=AL (b:=2+8*P_ a+8*P_ b+k) (h1.1.less oM) r1.1.1 r1.1.2 (bT 2) q.line q.t_;generalize jq r1.1.1 r1.1.2 (bT 2) q.line q.t_ r1.2=r2 at*
 let⟨ea,hea⟩:=oJ ((pE q env).1);let⟨eb,heb⟩:=oJ ((pE q env).2);rw[hea,heb]at _A⊢;have m3:=ha.1 ea r2.2 (2+8*P_ b+k) (_A.1.less oM) (h2.less oM);have h3:=ha.2 ea r2.2 (2+8*P_ b+k) (_A.1.less oM) (h2.less oM);generalize ia ea r2.2=r3 at*
 have m4:=hb.1 eb r3.2 (2+k) (_A.2.less oM) (h3.1.less oM);have h4:=hb.2 eb r3.2 (2+k) (_A.2.less oM) (h3.1.less oM);generalize ib eb r3.2=r4 at*
 have hj:=zIt r3.1.2 r4.1.2;generalize Bd r3.1.2 r4.1.2=J at*
 have m5:=Bo L r3.1.1 r3.1.2 J a r4.2 (by have:=h4.1.sites;omega);have h5:=AL (b:=1+k) (h4.1.less oM) r3.1.1 r3.1.2 J a.line a.t_;generalize jq r3.1.1 r3.1.2 J a.line a.t_ r4.2=r5 at*
 have m6:=Bo L r4.1.1 r4.1.2 J b r5.2 (by have:=h5.sites;omega);generalize jq r4.1.1 r4.1.2 J b.line b.t_ r5.2=r6 at*
 have zA:=xz (ea.map p?) (lN env);have zB:=xz (eb.map p?) (lN env);unfold Zv;simp[hk];refine gN [0,1,2,3,4,5] m1 ?_;simp;refine gQ hb2 ?_;simp;refine gN [0,1,2,15,4,16] m2 ?_;simp;refine⟨oD,oM,?_⟩;by_cases c12:q.d_=12;rotate_left
 .have e:pE q env=(env,env):=by unfold pE;rw[aB (λz=>c12 z.1)]
  rw[e]at hea heb;simp only at hea heb;subst hea;subst heb;have zA:=zA oC;have zB:=zA;simp[c12];refine fQ [20,21] ?_;simp[iE,hk,zA,zB, -map_set];refine gN [0,1,2,19,4,16] m3 ?_;simp[iE,hk,zA,zB, -map_set];refine gN [0,1,2,22,4,23] m4 ?_;simp[hk];refine gQ hj ?_;simp[hk];refine gN [0,1,2,26,4,27] m5 ?_;simp[hk];refine oG ?_;refine gN [0,1,2,31,4,27] m6 ?_;simp;refine⟨oD,oD,?_⟩;exact fI [0,1,2,9,4,11,32,27] qG
 let⟨w',hw'⟩:=hqk c12;have g0:q.b_.getD 0 uC=w':=by rw[hw'];try rfl
 by_cases c4:w'.d_=4;rotate_left
 .have e:pE q env=(env,env):=by unfold pE;rw[g0,aB (λz=>c4 z.2.1)]
  rw[e]at hea heb;simp only at hea heb;subst hea;subst heb;have zA:=zA oC;have zB:=zA;simp[c12,hw',c4];refine fQ [20,21] ?_;simp[iE,hk,zA,zB, -map_set];refine gN [0,1,2,19,4,16] m3 ?_;simp[iE,hk,zA,zB, -map_set];refine gN [0,1,2,22,4,23] m4 ?_;simp[hk];refine gQ hj ?_;simp[hk];refine gN [0,1,2,26,4,27] m5 ?_;simp[hk];refine oG ?_;refine gN [0,1,2,31,4,27] m6 ?_;simp;refine⟨oD,oD,?_⟩;exact fI [0,1,2,9,4,11,32,27] qG
 have hfi:=find_ok env oM w'.text;have hfl:=Ry env w'.text;have e:pE q env=if 0<=u7 env w'.text then(env.set (u7 env w'.text).toNat ((env.getD (u7 env w'.text).toNat (bs [],C_)).1,(yN (env.getD (u7 env w'.text).toNat (bs [],C_)).2 q.n).1),env.set (u7 env w'.text).toNat ((env.getD (u7 env w'.text).toNat (bs [],C_)).1,(yN (env.getD (u7 env w'.text).toNat (bs [],C_)).2 q.n).2))else(env,env):=by
  unfold pE;rw[g0];by_cases z:0<=u7 env w'.text
  .rw[aC ⟨c12,c4,z⟩,aC z]
  .rw[aB (λp=>z p.2.2),aB z]
 generalize u7 env w'.text=z at*
 by_cases z0:0<=z;rotate_left
 .rw[aB z0]at e;rw[e]at hea heb;simp only at hea heb;subst hea;subst heb;have zA:=zA oC;have zB:=zA;simp[c12,hw',c4];refine gQ hfi ?_;simp[z0];refine fQ [20,21] ?_;simp[iE,hk,zA,zB, -map_set];refine gN [0,1,2,19,4,16] m3 ?_;simp[iE,hk,zA,zB, -map_set];refine gN [0,1,2,22,4,23] m4 ?_;simp[hk];refine gQ hj ?_;simp[hk];refine gN [0,1,2,26,4,27] m5 ?_;simp[hk];refine oG ?_;refine gN [0,1,2,31,4,27] m6 ?_;simp;refine⟨oD,oD,?_⟩;exact fI [0,1,2,9,4,11,32,27] qG
 rw[aC z0]at e;let⟨zn,hzn⟩:∃zn:Nat,z=zn:=⟨z.toNat,oM⟩
 have hzl:zn<lN env:=oM;let⟨v',hv⟩:=oJ (env[zn]);subst hzn;have hv2:env.getD (zn:Int).toNat (bs [],C_)=v':=by simp only[bC];rw[aH,aA hzl,hv];try rfl
 rw[hv2]at e;simp only[bC]at e;have hnr:=zDx v'.2 q.n;generalize yN v'.2 q.n=N at*
 rw[e]at hea heb;simp only at hea heb;subst hea;subst heb;have zA:=zA oC;have zB:=zB oC;simp[c12,hw',c4];refine gQ hfi ?_;simp[z0,hzl,hv];refine gQ hnr ?_;simp[hzl,hv];refine oG ?_;have ps:∀t1:f_,(List.map ((λx=>List.map AC.d x)∘p?) env).set zn (put (List.map AC.d (p? v')) 1 (List.map AC.d t1.enc))=List.map ((λx=>List.map AC.d x)∘p?) (env.set zn (v'.1,t1)):=λt1=>by
  rw[zJo,map_set];try rfl
 simp only[ps];refine fQ [20,21] ?_;simp[iE,hk,zA,zB, -map_set];refine gN [0,1,2,19,4,16] m3 ?_;simp[iE,hk,zA,zB, -map_set];refine gN [0,1,2,24,4,25] m4 ?_;simp[hk];refine gQ hj ?_;simp[hk];refine gN [0,1,2,28,4,29] m5 ?_;simp[hk];refine oG ?_;refine gN [0,1,2,33,4,29] m6 ?_;simp;refine⟨oD,oD,?_⟩;exact fI [0,1,2,9,4,11,34,29] qG
end
end Go.Gr
namespace Go.Gr
open Go.Abs Go.Proofs
variable {l:List o_}{n:o_}
def pV(k:Int)(ts:oL)(ns:oN)(ks:sJ):Prop:=
(k=0\/k=1\/k=2\/k=3\/k=18)\/((k=4\/k=19)/\lN ts<=1000000)\/(k=8/\lN ns<=1000000)\/(k=6/\lN ks=1/\1<=lN ts)\/(k=13/\lN ks=1/\1<=lN ts)\/(k=9/\lN ks=1)\/((k=12\/k=15\/k=16\/k=17)/\lN ks=1)\/(k=5/\lN ks=2)\/(k=7/\lN ks=2)\/(k=10/\lN ks=2)\/(k=14/\lN ks=2)\/(k=11/\lN ks=3)
mutual
def nT:o_->Prop
|.mk k _ _ _ _ ts ns ks=>mW ks/\pV k ts ns ks
def mW:List o_->Prop
|[]=>True
|n::l=>nT n/\mW l
end
def KZ:∀l:List o_,mW l↔∀x,x∈l->nT x
|[]=>by simp[mW]
|n::l=>by simp[mW,KZ l]
def zzW(n:o_):nT n↔(∀x,x∈n.b_->nT x)/\pV n.d_ n.types n.a_ n.b_:=by
 cases n;rw[nT,KZ];try rfl
def jI(j:Inf):Inf:=λenv s=>if s.e≠0 then((noC,C_),s)else j env s
section
variable (L:f?)
def Ar{j:Inf}(h:iP L n j):iP L n (jI j):=λenv s k he hs=>by
 unfold jI;split
 .exact⟨hs.less oM,uf⟩
 .exact h env s k he hs
def zC9(n:o_)(K:n.d_=4\/n.d_=19)(j:Inf)(h:H? L 99 n j):H? L 68 n (jI j):=λenv s k he hs=>by
 refine xw kW λts _e ok hbk c hN hp=>?_;obtain⟨t,u,v,w,x,y,rfl⟩:=lM _e;have _u:=jr 0;have m:=h env s k he hs;unfold jI;by_cases q0:s.e=0;rotate_left
 .rw[aC q0];unfold mM;simp[q0];apply gQ _u;simp;exact fI qH qG
 rw[aB (λz=>z q0)];generalize j env s=r at*
 unfold mM;rcases K with K|K
 .simp[q0,K];apply gN [0,1,2,3,4,5] m;simp;exact fI qI qG
 .simp[q0,K];apply gN [0,1,2,3,4,5] m;simp;exact fI qI qG
def zIe(n:o_)(K:n.d_=5)(j:Inf)(h:H? L 100 n j):H? L 68 n (jI j):=λenv s k he hs=>by
 refine xw kW λts _e ok hbk c hN hp=>?_;obtain⟨t,u,v,w,x,y,rfl⟩:=lM _e;have _u:=jr 0;have m:=h env s k he hs;unfold jI;by_cases q0:s.e=0;rotate_left
 .rw[aC q0];unfold mM;simp[q0];apply gQ _u;simp;exact fI qH qG
 rw[aB (λz=>z q0)];generalize j env s=r at*
 unfold mM
 skip
 .simp[q0,K];apply gN [0,1,2,3,4,5] m;simp;exact fI qI qG
def zJK(n:o_)(K:n.d_=6)(j:Inf)(h:H? L 101 n j):H? L 68 n (jI j):=λenv s k he hs=>by
 refine xw kW λts _e ok hbk c hN hp=>?_;obtain⟨t,u,v,w,x,y,rfl⟩:=lM _e;have _u:=jr 0;have m:=h env s k he hs;unfold jI;by_cases q0:s.e=0;rotate_left
 .rw[aC q0];unfold mM;simp[q0];apply gQ _u;simp;exact fI qH qG
 rw[aB (λz=>z q0)];generalize j env s=r at*
 unfold mM
 skip
 .simp[q0,K];apply gN [0,1,2,3,4,5] m;simp;exact fI qI qG
def zFE(n:o_)(K:n.d_=7)(j:Inf)(h:H? L 102 n j):H? L 68 n (jI j):=λenv s k he hs=>by
 refine xw kW λts _e ok hbk c hN hp=>?_;obtain⟨t,u,v,w,x,y,rfl⟩:=lM _e;have _u:=jr 0;have m:=h env s k he hs;unfold jI;by_cases q0:s.e=0;rotate_left
 .rw[aC q0];unfold mM;simp[q0];apply gQ _u;simp;exact fI qH qG
 rw[aB (λz=>z q0)];generalize j env s=r at*
 unfold mM
 skip
 .simp[q0,K];apply gN [0,1,2,3,4,5] m;simp;exact fI qI qG
def zBc(n:o_)(K:n.d_=8)(j:Inf)(h:H? L 103 n j):H? L 68 n (jI j):=λenv s k he hs=>by
 refine xw kW λts _e ok hbk c hN hp=>?_;obtain⟨t,u,v,w,x,y,rfl⟩:=lM _e;have _u:=jr 0;have m:=h env s k he hs;unfold jI;by_cases q0:s.e=0;rotate_left
 .rw[aC q0];unfold mM;simp[q0];apply gQ _u;simp;exact fI qH qG
 rw[aB (λz=>z q0)];generalize j env s=r at*
 unfold mM
 skip
 .simp[q0,K];apply gN [0,1,2,3,4,5] m;simp;exact fI qI qG
def zIf(n:o_)(K:n.d_=9)(j:Inf)(h:H? L 104 n j):H? L 68 n (jI j):=λenv s k he hs=>by
 refine xw kW λts _e ok hbk c hN hp=>?_;obtain⟨t,u,v,w,x,y,rfl⟩:=lM _e;have _u:=jr 0;have m:=h env s k he hs;unfold jI;by_cases q0:s.e=0;rotate_left
 .rw[aC q0];unfold mM;simp[q0];apply gQ _u;simp;exact fI qH qG
 rw[aB (λz=>z q0)];generalize j env s=r at*
 unfold mM
 skip
 .simp[q0,K];apply gN [0,1,2,3,4,5] m;simp;exact fI qI qG
def zDa(n:o_)(K:n.d_=10)(j:Inf)(h:H? L 105 n j):H? L 68 n (jI j):=λenv s k he hs=>by
 refine xw kW λts _e ok hbk c hN hp=>?_;obtain⟨t,u,v,w,x,y,rfl⟩:=lM _e;have _u:=jr 0;have m:=h env s k he hs;unfold jI;by_cases q0:s.e=0;rotate_left
 .rw[aC q0];unfold mM;simp[q0];apply gQ _u;simp;exact fI qH qG
 rw[aB (λz=>z q0)];generalize j env s=r at*
 unfold mM
 skip
 .simp[q0,K];apply gN [0,1,2,3,4,5] m;simp;exact fI qI qG
def zBd(n:o_)(K:n.d_=11)(j:Inf)(h:H? L 106 n j):H? L 68 n (jI j):=λenv s k he hs=>by
 refine xw kW λts _e ok hbk c hN hp=>?_;obtain⟨t,u,v,w,x,y,rfl⟩:=lM _e;have _u:=jr 0;have m:=h env s k he hs;unfold jI;by_cases q0:s.e=0;rotate_left
 .rw[aC q0];unfold mM;simp[q0];apply gQ _u;simp;exact fI qH qG
 rw[aB (λz=>z q0)];generalize j env s=r at*
 unfold mM
 skip
 .simp[q0,K];apply gN [0,1,2,3,4,5] m;simp;exact fI qI qG
def zJL(n:o_)(K:n.d_=13)(j:Inf)(h:H? L 107 n j):H? L 68 n (jI j):=λenv s k he hs=>by
 refine xw kW λts _e ok hbk c hN hp=>?_;obtain⟨t,u,v,w,x,y,rfl⟩:=lM _e;have _u:=jr 0;have m:=h env s k he hs;unfold jI;by_cases q0:s.e=0;rotate_left
 .rw[aC q0];unfold mM;simp[q0];apply gQ _u;simp;exact fI qH qG
 rw[aB (λz=>z q0)];generalize j env s=r at*
 unfold mM
 skip
 .simp[q0,K];apply gN [0,1,2,3,4,5] m;simp;exact fI qI qG
def zJM(n:o_)(K:n.d_=14)(j:Inf)(h:H? L 108 n j):H? L 68 n (jI j):=λenv s k he hs=>by
 refine xw kW λts _e ok hbk c hN hp=>?_;obtain⟨t,u,v,w,x,y,rfl⟩:=lM _e;have _u:=jr 0;have m:=h env s k he hs;unfold jI;by_cases q0:s.e=0;rotate_left
 .rw[aC q0];unfold mM;simp[q0];apply gQ _u;simp;exact fI qH qG
 rw[aB (λz=>z q0)];generalize j env s=r at*
 unfold mM
 skip
 .simp[q0,K];apply gN [0,1,2,3,4,5] m;simp;exact fI qI qG
def zIg(n:o_)(K:n.d_=12\/n.d_=15\/n.d_=16\/n.d_=17)(j:Inf)(h:H? L 109 n j):H? L 68 n (jI j):=λenv s k he hs=>by
 refine xw kW λts _e ok hbk c hN hp=>?_;obtain⟨t,u,v,w,x,y,rfl⟩:=lM _e;have _u:=jr 0;have m:=h env s k he hs;unfold jI;by_cases q0:s.e=0;rotate_left
 .rw[aC q0];unfold mM;simp[q0];apply gQ _u;simp;exact fI qH qG
 rw[aB (λz=>z q0)];generalize j env s=r at*
 unfold mM;rcases K with K|K|K|K
 .simp[q0,K];apply gN [0,1,2,3,4,5] m;simp;exact fI qI qG
 .simp[q0,K];apply gN [0,1,2,3,4,5] m;simp;exact fI qI qG
 .simp[q0,K];apply gN [0,1,2,3,4,5] m;simp;exact fI qI qG
 .simp[q0,K];apply gN [0,1,2,3,4,5] m;simp;exact fI qI qG
def zIh(n:o_)(K:n.d_=0):H? L 68 n (jI λenv s=>((cN 0 n.n,bT 3),s)):=λenv s k he hs=>by
 refine xw kW λts _e ok hbk c hN hp=>?_;obtain⟨t,u,v,w,x,y,rfl⟩:=lM _e;have _u:=jr 0;have hbK:=jr 3;unfold jI;by_cases q0:s.e=0;rotate_left
 .rw[aC q0];unfold mM;simp[q0];refine gQ _u ?_;simp;exact fI qH qG
 rw[aB (λz=>z q0)];unfold mM;simp[q0,K];refine gQ hbK ?_;simp;refine oG ?_;exact fI qH qG
def zIi(n:o_)(K:n.d_=1):H? L 68 n (jI λenv s=>((cT 1 n.text [],bT 4),s)):=λenv s k he hs=>by
 refine xw kW λts _e ok hbk c hN hp=>?_;obtain⟨t,u,v,w,x,y,rfl⟩:=lM _e;have _u:=jr 0;have hbK:=jr 4;unfold jI;by_cases q0:s.e=0;rotate_left
 .rw[aC q0];unfold mM;simp[q0];refine gQ _u ?_;simp;exact fI qH qG
 rw[aB (λz=>z q0)];unfold mM;simp[q0,K];refine gQ hbK ?_;simp;refine oG ?_;exact fI qH qG
def zFF(n:o_)(K:n.d_=2):H? L 68 n (jI λenv s=>((cN 2 n.n,bT 2),s)):=λenv s k he hs=>by
 refine xw kW λts _e ok hbk c hN hp=>?_;obtain⟨t,u,v,w,x,y,rfl⟩:=lM _e;have _u:=jr 0;have hbK:=jr 2;unfold jI;by_cases q0:s.e=0;rotate_left
 .rw[aC q0];unfold mM;simp[q0];refine gQ _u ?_;simp;exact fI qH qG
 rw[aB (λz=>z q0)];unfold mM;simp[q0,K];refine gQ hbK ?_;simp;refine oG ?_;exact fI qH qG
def zIj(n:o_)(K:n.d_=3):H? L 68 n (jI λenv s=>((cN 3 0,bT 1),s)):=λenv s k he hs=>by
 refine xw kW λts _e ok hbk c hN hp=>?_;obtain⟨t,u,v,w,x,y,rfl⟩:=lM _e;have _u:=jr 0;have hbK:=jr 1;unfold jI;by_cases q0:s.e=0;rotate_left
 .rw[aC q0];unfold mM;simp[q0];apply gQ _u;simp;exact fI qH qG
 rw[aB (λz=>z q0)];unfold mM;simp[q0,K];apply gQ hbK;simp;exact fI qH qG
def zFG(n:o_)(K:n.d_=18):H? L 68 n (jI λenv s=>((cN 20 0,bT 3),s)):=λenv s k he hs=>by
 refine xw kW λts _e ok hbk c hN hp=>?_;obtain⟨t,u,v,w,x,y,rfl⟩:=lM _e;have _u:=jr 0;have hbK:=jr 3;unfold jI;by_cases q0:s.e=0;rotate_left
 .rw[aC q0];unfold mM;simp[q0];apply gQ _u;simp;exact fI qH qG
 rw[aB (λz=>z q0)];unfold mM;simp[q0,K];apply gQ hbK;simp;exact fI qH qG
def K3{c:Env->CS->n_}{b:Int}(h0:0<=b)(h4:b<=4):iP L n (jI λenv s=>((c env s,bT b),s)):=Ar L λenv s k he hs=>⟨hs.less oM,yS b h0 h4⟩
def K4{l:sJ}(h:lN l=1):∃a,l=[a]:=by
 match l,h with
 |[a],_=>exact⟨a,rfl⟩
def NH{l:sJ}(h:lN l=2):∃a b,l=[a,b]:=by
 match l,h with
 |[a,b],_=>exact⟨a,b,rfl⟩
def zy2{l:sJ}(h:lN l=3):∃a b c,l=[a,b,c]:=by
 match l,h with
 |[a,b,c],_=>exact⟨a,b,c,rfl⟩
def qo(n:o_)(rest:Inf):Inf:=λenv s=>
 if n.d_=0 then((cN 0 n.n,bT 3),s)
 else if n.d_=1 then((cT 1 n.text [],bT 4),s)
 else if n.d_=2 then((cN 2 n.n,bT 2),s)
 else if n.d_=3 then((cN 3 0,bT 1),s)
 else if n.d_=18 then((cN 20 0,bT 3),s)
 else if n.d_=4\/n.d_=19 then zu L n env s
 else if n.d_=8 then rW n (nP L n.b_) env s
 else rest env s
def Et(n a:o_):Inf:=λenv s=>
 if n.d_=6 then zw n a (iD L a) env s
 else if n.d_=9 then qj n (iD L a) env s
 else if n.d_=13 then AA n (iD L a) env s
 else ql n a (iD L a) env s
def Eu(n a b:o_):Inf:=λenv s=>
 if n.d_=5 then qi n a (iD L a) (iD L b) env s
 else if n.d_=7 then zx n b (iD L a) (iD L b) env s
 else if n.d_=10 then zy n (iD L a) (iD L b) env s
 else opC n a b (iD L a) (iD L b) env s
def NI(k:Int)(tx:fD)(nn ln cl:Int)(ts:oL)(ns:oN):iD L (.mk k tx nn ln cl ts ns [])=jI (qo L (.mk k tx nn ln cl ts ns []) λenv s=>((noC,C_),s)):=by with_unfolding_all rfl
def Ev(k:Int)(tx:fD)(nn ln cl:Int)(ts:oL)(ns:oN)(a:o_):iD L (.mk k tx nn ln cl ts ns [a])=jI (qo L (.mk k tx nn ln cl ts ns [a]) (Et L (.mk k tx nn ln cl ts ns [a]) a)):=by with_unfolding_all rfl
def Ew(k:Int)(tx:fD)(nn ln cl:Int)(ts:oL)(ns:oN)(a b:o_):iD L (.mk k tx nn ln cl ts ns [a,b])=jI (qo L (.mk k tx nn ln cl ts ns [a,b]) (Eu L (.mk k tx nn ln cl ts ns [a,b]) a b)):=by with_unfolding_all rfl
def K5(k:Int)(tx:fD)(nn ln cl:Int)(ts:oL)(ns:oN)(a b c:o_)(l:sJ):iD L (.mk k tx nn ln cl ts ns (a::b::c::l))=jI (qo L (.mk k tx nn ln cl ts ns (a::b::c::l)) (zz a b c (iD L a) (iD L b) (iD L c))):=by with_unfolding_all rfl
def G6(n:o_)(j:Inf)(h:∀rest,qo L n rest=j):iD L n=jI j:=by
 let⟨k,tx,nn,ln,cl,ts,ns,ks⟩:=n
 match ks,h with
 |[],h=>rw[NI,h]
 |[a],h=>rw[Ev,h]
 |[a,b],h=>rw[Ew,h]
 |a::b::c::l,h=>rw[K5,h]
def zDb(hL:nI L)(n:o_)(hw:nT n)(ih:∀x,x∈n.b_->ug L x (iD L x)):ug L n (iD L n):=by
 let⟨hws,hs⟩:=(zzW n).1 hw;let⟨k,tx,nn,ln,cl,ts,ns,ks⟩:=n;simp only[o_.d_,o_.b_,o_.types,o_.a_]at hws hs ih;have go:∀j:Inf,iD L (.mk k tx nn ln cl ts ns ks)=jI j->H? L 68 (.mk k tx nn ln cl ts ns ks) (jI j)->iP L (.mk k tx nn ln cl ts ns ks) (jI j)->ug L (.mk k tx nn ln cl ts ns ks) (iD L (.mk k tx nn ln cl ts ns ks)):=λj e m p=>by rw[e];exact⟨m,p⟩
 rcases hs with(K|K|K|K|K)|⟨K,t1⟩|⟨K,t1⟩|⟨K,l1,t1⟩|⟨K,l1,t1⟩|⟨K,l1⟩|⟨K,l1⟩|⟨K,l1⟩|⟨K,l1⟩|⟨K,l1⟩|⟨K,l1⟩|⟨K,l1⟩
 .exact go _ (G6 L _ _ λrest=>by funext env s;simp[qo,o_.d_,o_.n,o_.text,K]) (zIh L _ (by exact K)) (K3 L oM oM)
 .exact go _ (G6 L _ _ λrest=>by funext env s;simp[qo,o_.d_,o_.n,o_.text,K]) (zIi L _ (by exact K)) (K3 L oM oM)
 .exact go _ (G6 L _ _ λrest=>by funext env s;simp[qo,o_.d_,o_.n,o_.text,K]) (zFF L _ (by exact K)) (K3 L oM oM)
 .exact go _ (G6 L _ _ λrest=>by funext env s;simp[qo,o_.d_,o_.n,o_.text,K]) (zIj L _ (by exact K)) (K3 L oM oM)
 .exact go _ (G6 L _ _ λrest=>by funext env s;simp[qo,o_.d_,o_.n,o_.text,K]) (zFG L _ (by exact K)) (K3 L oM oM)
 .exact go (zu L (.mk k tx nn ln cl ts ns ks)) (G6 L _ _ λrest=>by funext env s;rcases K with K|K<;>simp[qo,o_.d_,K]) (zC9 L _ (by exact K) _ (zEn L hL _ (by exact t1))) (Ar L (zI2 L hL _ (by exact t1)))
 .exact go (rW (.mk k tx nn ln cl ts ns ks) (nP L ks)) (G6 L _ _ λrest=>by funext env s;simp[qo,o_.d_,o_.b_,K]) (zBc L _ (by exact K) _ (zCg L _ (by exact t1) (by exact ih))) (Ar L (zLn L _ λx hx=>(ih x hx).2))
 .obtain⟨a,rfl⟩:=K4 l1;have ia:=ih a oC;exact go (zw (.mk k tx nn ln cl ts ns [a]) a (iD L a)) (by rw[Ev];funext env s;simp[jI,qo,Et,o_.d_,K]) (zJK L _ (by exact K) _ (zKv L _ a rfl (by exact t1) _ ia)) (Ar L (SB L _ a rfl _ ia.2))
 .obtain⟨a,rfl⟩:=K4 l1;have ia:=ih a oC;exact go (AA (.mk k tx nn ln cl ts ns [a]) (iD L a)) (by rw[Ev];funext env s;simp[jI,qo,Et,o_.d_,K]) (zJL L _ (by exact K) _ (zKc L _ a rfl (by exact t1) _ ia)) (Ar L (SE L _ a rfl _ ia.2))
 .obtain⟨a,rfl⟩:=K4 l1;have ia:=ih a oC;exact go (qj (.mk k tx nn ln cl ts ns [a]) (iD L a)) (by rw[Ev];funext env s;simp[jI,qo,Et,o_.d_,K]) (zIf L _ (by exact K) _ (zJk L _ a rfl _ ia)) (Ar L (zLu L _ a rfl _ ia.2))
 .obtain⟨a,rfl⟩:=K4 l1;have ia:=ih a oC;exact go (ql (.mk k tx nn ln cl ts ns [a]) a (iD L a)) (by rw[Ev];funext env s;rcases K with K|K|K|K<;>simp[jI,qo,Et,o_.d_,K]) (zIg L _ (by exact K) _ (zIY L _ a rfl _ ia)) (Ar L (zLc L _ a rfl _ ia.2))
 .obtain⟨a,b,rfl⟩:=NH l1;have ia:=ih a oC;have ib:=ih b oC;exact go (qi (.mk k tx nn ln cl ts ns [a,b]) a (iD L a) (iD L b)) (by rw[Ew];funext env s;simp[jI,qo,Eu,o_.d_,K]) (zIe L _ (by exact K) _ (zJe L _ a b rfl _ _ ia ib)) (Ar L (zLr L _ a b rfl _ _ ia.2 ib.2))
 .obtain⟨a,b,rfl⟩:=NH l1;have ia:=ih a oC;have ib:=ih b oC;exact go (zx (.mk k tx nn ln cl ts ns [a,b]) b (iD L a) (iD L b)) (by rw[Ew];funext env s;simp[jI,qo,Eu,o_.d_,K]) (zFE L _ (by exact K) _ (zHm L _ a b rfl _ _ ia ib)) (Ar L (zKx L _ a b rfl _ _ ia.2 ib.2))
 .obtain⟨a,b,rfl⟩:=NH l1;have ia:=ih a oC;have ib:=ih b oC;exact go (zy (.mk k tx nn ln cl ts ns [a,b]) (iD L a) (iD L b)) (by rw[Ew];funext env s;simp[jI,qo,Eu,o_.d_,K]) (zDa L _ (by exact K) _ (zE1 L _ a b rfl _ _ ia ib)) (Ar L (zKA L _ a b rfl _ _ ia.2 ib.2))
 .obtain⟨a,b,rfl⟩:=NH l1;have ia:=ih a oC;have ib:=ih b oC;exact go (opC (.mk k tx nn ln cl ts ns [a,b]) a b (iD L a) (iD L b)) (by rw[Ew];funext env s;simp[jI,qo,Eu,o_.d_,K]) (zJM L _ (by exact K) _ (zJO L _ a b rfl _ _ ia ib)) (Ar L (SG L _ a b rfl _ _ ia.2 ib.2))
 .obtain⟨q,a,b,rfl⟩:=zy2 l1;have iq:=ih q oC;have ia:=ih a oC;have ib:=ih b oC;have hq:q.d_=12->∃w,q.b_=[w]:=λk12=>by
   have:=((zzW q).1 (hws q oC)).2;unfold pV at this;rw[k12]at this;exact K4 oM
  exact go (zz q a b (iD L q) (iD L a) (iD L b)) (by rw[K5];funext env s;simp[jI,qo,o_.d_,K]) (zBd L _ (by exact K) _ (zCz L _ q a b rfl hq _ _ _ iq ia ib)) (Ar L (SS L _ q a b rfl _ _ _ iq.2 ia.2 ib.2))
mutual
def SV(hL:nI L):∀n:o_,nT n->ug L n (iD L n)
|.mk k tx nn ln cl ts ns ks,hw=>zDb L hL _ hw (zua hL ks (by rw[nT]at hw;exact hw.1))
def zua(hL:nI L):∀l:List o_,mW l->∀x,x∈l->ug L x (iD L x)
|[],_,x,hx=>by cases hx
|n::l,hw,x,hx=>by
 rw[mW]at hw;rcases aM.1 hx with e|hx
 .rw[e];exact SV hL n hw.1
 .exact zua hL l hw.2 x hx
end
end
end Go.Gr
namespace Go.Gr
open Go.Abs Go.Proofs List
variable {ki:PS->f_ × PS}{ex rk:PS->o_ × PS}{a b:o_}
def SX:∀l m:List o_,e? (l++m)=e? l+e? m
|[],m=>by simp[e?]
|n::l,m=>by rw[cons_append,e?,e?,SX l m];omega
def zHM{l m:sJ}(h:mW l)(k:mW m):mW (l++m):=(KZ _).2 λx hx=>by
 rcases aL.1 hx with hx|hx
 .exact(KZ _).1 h x hx
 .exact(KZ _).1 k x hx
section
variable {L:List Tok}
def xU(p:PS)(k:Int)(t:fD)(n:Int)(ts:oL)(ns:oN)(ks:sJ):P_ (jX L p k t n ts ns ks)=e? ks+1:=by unfold jX;rw[P_]
def xV(p:PS)(k:Int)(t:fD)(n:Int)(ts:oL)(ns:oN)(ks:sJ)(h:mW ks)(s:pV k ts ns ks):nT (jX L p k t n ts ns ks):=by unfold jX;rw[nT];exact⟨h,s⟩
def EA(h:nT a):mW [a]:=⟨h,trivial⟩
def K6(h:nT a)(k:nT b):mW [a,b]:=⟨h,k,trivial⟩
def ks3{c:o_}(h:nT a)(k:nT b)(l:nT c):mW [a,b,c]:=⟨h,k,l,trivial⟩
def z1(a:o_):e? [a]=P_ a:=by simp[e?]
def z2(a b:o_):e? [a,b]=P_ a+P_ b:=by simp[e?]
def z3(a b c:o_):e? [a,b,c]=P_ a+P_ b+P_ c:=by simp[e?];omega
def jR(L:sF)(f:PS->o_ × PS):Prop:=∀p,p.L_<lN L->nT (f p).1/\P_ (f p).1+3*p.L_<=3*(f p).2.L_+1
def zyT(p:PS):(rM L ki p).1.length<=1:=by
 unfold rM;split<;>simp
def zyU(p:PS):1<=(uq L ki p).1.2.length/\(uq L ki p).1.2.length<=2:=by
 unfold uq;simp only;have a:=zyT (L:=L) (ki:=ki) (iG L (iH L (bs [40]) p)).2;have b:=zyT (L:=L) (ki:=ki) (iH L (bs [41]) (rM L ki (iG L (iH L (bs [40]) p)).2).2);rw[aV];split
 .simp only[length_cons,length_nil];omega
 .omega
def SY:nT uC:=⟨trivial,.inl (.inl rfl)⟩
def zFt(hL:C? L)(hk:y_ L ki)(he:y_ L ex)(ne:jR L ex)(nr:jR L rk):jR L (C8 L ki ex rk):=λp hp=>by
 unfold C8;split
 next c=>
  have h1:=iB hL hp (s:=vV);have h2:=h1.trans (kX hL h1.lt);have h3:=h2.trans (Cb hL hk _ h2.lt);have h4:=(kX hL h1.lt).trans ((Cb hL hk _ h2.lt).trans (iF hL h3.lt (s:=bs [61])));have n5:=ne _ h4.lt;have h5:=he _ h4.lt;have h6:=iF hL h5.lt (s:=bs [59]);have n7:=ne _ h6.lt;have t:=(X_ c).1;refine⟨xV _ _ _ _ _ _ _ (K6 n5.1 n7.1) (by simp[pV]),?_⟩;rw[xU,z2];have:=h4.le;have:=h6.le;simp only at*
  omega
 split
 next c=>
  have h1:=iB hL hp (s:=Df);have n2:=ne _ h1.lt;have h2:=he _ h1.lt;have h3:=iF hL h2.lt (s:=Fh);have n4:=ne _ h3.lt;have h4:=he _ h3.lt;have h5:=iF hL h4.lt (s:=Fj);have n6:=ne _ h5.lt;have t:=(X_ c).1;refine⟨xV _ _ _ _ _ _ _ (ks3 n2.1 n4.1 n6.1) (by simp[pV]),?_⟩;rw[xU,z3];have:=h3.le;have:=h5.le;simp only at*
  omega
 split
 next c=>
  have h1:=iB hL hp (s:=wU);have h2:=El hL hk _ h1.lt;have h3:=h2.trans (iF hL h2.lt (s:=bs [61,62]));have n4:=ne _ h3.lt;have t:=(X_ c).1;have hh:=(zyU (L:=L) (ki:=ki) (gU L wU p).2).1;refine⟨xV _ _ _ _ _ _ _ (EA n4.1) (by simp[pV];simpa using hh),?_⟩;rw[xU,z1];have:=h3.le;simp only at*
  omega
 .exact nr p hp
def zyW(hL:C? L)(hr:y_ L rk)(nr:jR L rk)(_t:List fD):∀(n:Nat) (a:o_) (p:PS),p.L_<lN L->nT a->nT (jY L rk _t n a p).1/\P_ (jY L rk _t n a p).1+3*p.L_<=3*(jY L rk _t n a p).2.L_+P_ a
|0,a,p,hp,ha=>by rw[jY];exact⟨ha,by show P_ a+3*p.L_<=3*p.L_+P_ a;omega⟩
| n+1,a,p,hp,ha=>by
 rw[jY];split
 .exact⟨ha,by show P_ a+3*p.L_<=3*p.L_+P_ a;omega⟩
 next s q h=>
  have h1:=GA hL _ hp h;have h2:=hr _ h1.1.lt;have n2:=nr _ h1.1.lt;have r:=zyW hL hr nr _t n (jX L p 14 s 0 [] [] [a,(rk q).1]) (rk q).2 h2.lt (xV _ _ _ _ _ _ _ (K6 ha n2.1) (by simp[pV]));rw[xU,z2]at r;refine⟨r.1,?_⟩;have:=h1.2.1;omega
def zHN(hL:C? L)(hk:y_ L ki)(hr:y_ L rk)(nr:jR L rk):jR L (uu L ki rk):=λp hp=>by
 have h1:=hr p hp;have n1:=nr p hp;unfold uu;simp only;split
 next s q h=>
  have h2:=GA hL _ h1.lt h;have n3:=nr _ h2.1.lt;refine⟨xV _ _ _ _ _ _ _ (K6 n1.1 n3.1) (by simp[pV]),?_⟩;rw[xU,z2];have:=h2.2.1;simp only at*
  omega
 split
 next c=>
  have t:=(X_ c).1;have h2:=iB hL h1.lt (s:=bs [97,115]);have h3:=hk _ h2.lt;refine⟨xV _ _ _ _ _ _ _ (EA n1.1) (by simp[pV]),?_⟩;rw[xU,z1];have:=h3.le;simp only at*
  omega
 split
 next c=>
  have t:=(X_ c).1;have h2:=iB hL h1.lt (s:=bs [105,115]);split
  next i q h=>
   have h3:=Jj hL _ _ h2.lt h;refine⟨xV _ _ _ _ _ _ _ (EA n1.1) (by simp[pV]),?_⟩;rw[xU,z1];have:=h3.2.1;simp only at*
   omega
  .have h3:=IV (L:=L) (e:=7) h2.lt;refine⟨xV _ _ _ _ _ _ _ (EA n1.1) (by simp[pV]),?_⟩;rw[xU,z1];have:=h3.le;simp only at*
   omega
 .exact n1
def zFu(hL:C? L){un:PS->o_ × PS}(hk:y_ L ki)(hu:y_ L un)(nu:jR L un):jR L (Jg L ki un):=by
 let⟨t5,t4,t3,t2,t1,t0⟩:=Jl hL hk hu;have op:∀(f:PS->o_ × PS) (_t:oN),y_ L f->jR L f->jR L (λp=>jY L f _t (lN L+1) (f p).1 (f p).2):=λf _t tf nf p hp=>by
  have a:=nf p hp;have r:=zyW hL tf nf _t (lN L+1) (f p).1 (f p).2 (tf p hp).lt a.1;exact⟨r.1,qM⟩
 have n5:jR L (Fp L un):=op un (ut 5) hu nu;have n4:jR L (Fq L un):=op _ (ut 4) t5 n5;have n3:jR L (Jf L un):=op _ (ut 3) t4 n4;have n2:jR L (Fs L ki un):=zHN hL hk t3 n3;have n1:jR L (Fu L ki un):=op _ (ut 1) t2 n2;exact op _ (ut 0) t1 n1
def zvC{ki:PS->f_ × PS}:∀(n:Nat) (l:List f_) (p:PS),(yw L ki n l p).1.length<=lN l+n
|0,l,p=>by rw[yw];exact aJ _
| n+1,l,p=>by
 rw[yw];split
 .have:=zvC (ki:=ki) n (l++[(ki p).1]) (gU L (bs [44]) (ki p).2).2;rw[aV]at this;simp only[length_cons,length_nil]at this;omega
 .simp only[aV,length_cons,length_nil];omega
def zvD(hL:C? L)(he:y_ L ex)(ne:jR L ex):∀(n:Nat) (ns:List fD) (ks:List o_) (p:PS),p.L_<lN L->mW ks->mW (xH L ex n ns ks p).1.2/\e? (xH L ex n ns ks p).1.2+3*p.L_<=3*(xH L ex n ns ks p).2.L_+e? ks+1/\(xH L ex n ns ks p).1.1.length<=lN ns+n
|0,ns,ks,p,hp,hk=>by rw[xH];exact⟨hk,qM,oC⟩
| n+1,ns,ks,p,hp,hk=>by
 have h1:=kX hL hp;have h2:=h1.trans (iF hL h1.lt (s:=bs [58]));have h3:=he _ h2.lt;have n3:=ne _ h2.lt;have h4:=iB hL h3.lt (s:=bs [44]);have e2:=h2.le;have w:=zHM hk (EA n3.1);rw[xH];split
 next c=>
  have t:=(X_ c).1;have r:=zvD hL he ne n (ns++[(iG L p).1]) (ks++[(ex (iH L (bs [58]) (iG L p).2)).1]) _ h4.lt w;rw[SX,z1,aV]at r;simp only[length_cons,length_nil]at r;refine⟨r.1,?_,oM⟩;omega
 .refine⟨w,?_,by simp only[aV,length_cons,length_nil];omega⟩;rw[SX,z1];have:=h4.le;have:=n3.2;try simp only at*
  omega
theorem zzU(hL:C? L)(hl:lN L<=10000)(he:y_ L ex)(ne:jR L ex)(q p:PS)(hp:p.L_<lN L):nT (yL L ex q p).1/\P_ (yL L ex q p).1+3*p.L_<=3*(yL L ex q p).2.L_+4:=by
 unfold yL;split
 .have h1:=iB hL hp (s:=bs [125]);refine⟨xV _ _ _ _ _ _ _ trivial (by simp[pV]),?_⟩;rw[xU];have:=h1.le;simp only[e?];omega
 split
 .have h1:=he p hp;have n1:=ne p hp;have h2:=iF hL h1.lt (s:=Fv);have h3:=h2.trans (kX hL h2.lt);have h4:=h3.trans (iF hL h3.lt (s:=bs [58]));have h5:=he _ h4.lt;have n5:=ne _ h4.lt;have h6:=iF hL h5.lt (s:=bs [125]);refine⟨xV _ _ _ _ _ _ _ (K6 n1.1 n5.1) (by simp[pV]),?_⟩;rw[xU,z2];have:=h4.le;have:=h6.le;simp only at*
  omega
 .have h1:=Jm hL he (lN L+1) [] [] p hp;have n1:=zvD hL he ne (lN L+1) [] [] p hp trivial;have h2:=iF hL h1.lt (s:=bs [125]);have e0:e? []=0:=rfl;rw[e0]at n1;refine⟨xV _ _ _ _ _ _ _ n1.1 (by have:=n1.2.2;simp only[length_nil]at this;simp[pV];omega),?_⟩;rw[xU];have:=h2.le;have:=n1.2.1;simp only at*
  omega
def Ex{p q:PS}{k:Int}{t:fD}{n:Int}{ts:oL}{ns:oN}(hs:pV k ts ns [])(h:p.L_<=q.L_):nT (jX L p k t n ts ns [])/\P_ (jX L p k t n ts ns [])+3*p.L_<=3*q.L_+1:=by
 refine⟨xV _ _ _ _ _ _ _ trivial hs,?_⟩;rw[xU];simp only[e?];omega
def zFv(hL:C? L)(hl:lN L<=10000)(hk:y_ L ki)(he:y_ L ex)(ne:jR L ex):jR L (zk L ki ex):=λp hp=>by
 unfold zk;by_cases c1:p.e=0/\(U_ L p).d_=3
 .rw[aC c1];exact Ex (by simp[pV]) qM
 rw[aB c1];by_cases c2:p.e=0/\(U_ L p).d_=4
 .rw[aC c2];exact Ex (by simp[pV]) qM
 rw[aB c2];by_cases c3:(gU L Fw p).1=tT
 .rw[aC c3];exact Ex (by simp[pV]) (iB hL hp).le
 rw[aB c3];by_cases c4:(gU L Fx p).1=tT
 .rw[aC c4];exact Ex (by simp[pV]) (iB hL hp).le
 rw[aB c4];by_cases c5:(gU L Fy p).1=tT
 .rw[aC c5];exact Ex (by simp[pV]) (iB hL hp).le
 rw[aB c5];by_cases c6:(gU L BR p).1=tT
 .rw[aC c6];have h1:=iB hL hp (s:=BR);have h2:=h1.trans (iF hL h1.lt (s:=bs [40]));exact Ex (by simp[pV]) (h2.trans (iF hL h2.lt)).le
 rw[aB c6];by_cases c7:(gU L Aj p).1=tT
 .rw[aC c7];have h1:=iB hL hp (s:=Aj);have h2:=iF hL h1.lt (s:=bs [40]);have h3:=he _ h2.lt;have n3:=ne _ h2.lt;have h4:=iF hL h3.lt (s:=bs [41]);have t:=(X_ c7).1;refine⟨xV _ _ _ _ _ _ _ (EA n3.1) (by simp[pV]),?_⟩;rw[xU,z1];have:=h2.le;have:=h4.le;simp only at*
  omega
 rw[aB c7];by_cases c8:(gU L (bs [40]) p).1=tT
 .rw[aC c8];have h1:=iB hL hp (s:=bs [40]);have h2:=he _ h1.lt;have n2:=ne _ h1.lt;have h3:=iF hL h2.lt (s:=bs [41]);have t:=(X_ c8).1;refine⟨n2.1,?_⟩;have:=n2.2;have:=h3.le;show P_ (ex (gU L (bs [40]) p).2).1+3*p.L_<=3*(iH L (bs [41]) (ex (gU L (bs [40]) p).2).2).L_+1;omega
 rw[aB c8];by_cases c9:(gU L (bs [123]) p).1=tT
 .rw[aC c9];have h1:=iB hL hp (s:=bs [123]);have r:=zzU hL hl he ne p _ h1.lt;have t:=(X_ c9).1;exact⟨r.1,oM⟩
 rw[aB c9];have h1:=kX hL hp;by_cases c10:(gU L (bs [91]) (iG L p).2).1=tT
 .have h2:=h1.trans (iB hL h1.lt (s:=bs [91]));have h3:=h2.trans (Qj hL hk (lN L+1) [] _ h2.lt);have tl:=zvC (L:=L) (ki:=ki) (lN L+1) [] (gU L (bs [91]) (iG L p).2).2;show nT (if(gU L (bs [91]) (iG L p).2).1=tT then _ else _:o_ × PS).1/\P_ (if(gU L (bs [91]) (iG L p).2).1=tT then _ else _:o_ × PS).1+3*p.L_<=3*(if(gU L (bs [91]) (iG L p).2).1=tT then _ else _:o_ × PS).2.L_+1;rw[aC c10];exact Ex (by simp only[length_nil]at tl;simp[pV];omega) h3.le
 .show nT (if(gU L (bs [91]) (iG L p).2).1=tT then _ else _:o_ × PS).1/\P_ (if(gU L (bs [91]) (iG L p).2).1=tT then _ else _:o_ × PS).1+3*p.L_<=3*(if(gU L (bs [91]) (iG L p).2).1=tT then _ else _:o_ × PS).2.L_+1;rw[aB c10];exact Ex (by simp[pV]) h1.le
def S9(hL:C? L)(he:y_ L ex)(ne:jR L ex):∀(n:Nat) (a:o_) (p:PS),p.L_<lN L->nT a->nT (vW L ex n a p).1/\P_ (vW L ex n a p).1+3*p.L_<=3*(vW L ex n a p).2.L_+P_ a
|0,a,p,hp,ha=>by rw[vW];exact⟨ha,by show P_ a+3*p.L_<=3*p.L_+P_ a;omega⟩
| n+1,a,p,hp,ha=>by
 rw[vW];split
 next c=>
  have t:=(X_ c).1;have h1:=iB hL hp (s:=bs [40]);have h2:=he _ h1.lt;have n2:=ne _ h1.lt;have h3:=iF hL h2.lt (s:=bs [41]);have r:=S9 hL he ne n (jX L p 7 (bs []) 0 [] [] [a,(ex (gU L (bs [40]) p).2).1]) _ h3.lt (xV _ _ _ _ _ _ _ (K6 ha n2.1) (by simp[pV]));rw[xU,z2]at r;refine⟨r.1,?_⟩;have:=h3.le;have:=n2.2;have:=r.2;simp only at*
  omega
 split
 next c=>
  have t:=(X_ c).1;have h1:=iB hL hp (s:=bs [46]);have h2:=kX hL h1.lt;have r:=S9 hL he ne n (jX L p 9 (iG L (gU L (bs [46]) p).2).1 0 [] [] [a]) _ h2.lt (xV _ _ _ _ _ _ _ (EA ha) (by simp[pV]));rw[xU,z1]at r;refine⟨r.1,?_⟩;have:=h2.le;have:=r.2;simp only at*
  omega
 .exact⟨ha,by show P_ a+3*p.L_<=3*p.L_+P_ a;omega⟩
def zC5(hL:C? L)(hl:lN L<=10000){un:PS->o_ × PS}(hk:y_ L ki)(he:y_ L ex)(ne:jR L ex)(nu:jR L un):jR L (C9 L ki ex un):=λp hp=>by
 unfold C9;split
 next c=>
  have t:=(X_ c).1;have h1:=iB hL hp (s:=bs [45]);have n2:=nu _ h1.lt;refine⟨xV _ _ _ _ _ _ _ (EA n2.1) (by simp[pV]),?_⟩;rw[xU,z1];have:=n2.2;simp only at*
  omega
 split
 next c=>
  have t:=(X_ c).1;have h1:=iB hL hp (s:=vX);have n2:=nu _ h1.lt;refine⟨xV _ _ _ _ _ _ _ (EA n2.1) (by simp[pV]),?_⟩;rw[xU,z1];have:=n2.2;simp only at*
  omega
 .have a:=zFv hL hl hk he ne p hp;have ta:=M6 hL hk he p hp;have r:=S9 hL he ne (lN L+1) (zk L ki ex p).1 (zk L ki ex p).2 ta.lt a.1;unfold Fz;exact⟨r.1,qM⟩
def zJH(hL:C? L)(hl:lN L<=10000)(hk:y_ L ki)(d:Nat):jR L (xI L ki d).1/\jR L (xI L ki d).2:=by
 induction d with
 |zero=>exact⟨λp hp=>⟨SY,by show 1+3*p.L_<=3*p.L_+1;omega⟩,λp hp=>⟨SY,by show 1+3*p.L_<=3*p.L_+1;omega⟩⟩
 | succ d ih=>
  have tm:=Jn hL hk d;have dn:∀p:PS,p.L_<lN L->¬(iL L p).1=tT->nT uC/\P_ uC+3*p.L_<=3*(iL L p).2.L_+1:=λp hp c=>by
   have:=(M4 (L:=L) hp).le;rw[M5 c];exact⟨SY,by show 1+3*p.L_<=3*(BQ L p).L_+1;omega⟩
  have up:∀(f:PS->o_ × PS),jR L f->∀p:PS,p.L_<lN L->(iL L p).1=tT->nT (xG (f (iL L p).2)).1/\P_ (xG (f (iL L p).2)).1+3*p.L_<=3*(xG (f (iL L p).2)).2.L_+1:=λf nf p hp c=>by
   have _C:(iL L p).2.L_<lN L:=by rw[(Ca c).1];exact hp
   have r:=nf _ _C;have e:(iL L p).2.L_=p.L_:=by rw[(Ca c).1]
   rw[e]at r;exact r
  rw[xI];refine⟨λp hp=>?_,λp hp=>?_⟩
  .show nT (if(iL L p).1=tT then _ else _:o_ × PS).1/\P_ (if(iL L p).1=tT then _ else _:o_ × PS).1+3*p.L_<=3*(if(iL L p).1=tT then _ else _:o_ × PS).2.L_+1;by_cases c:(iL L p).1=tT
   .rw[aC c];exact up _ (zFt hL hk tm.1 ih.1 (zFu hL hk tm.2 ih.2)) p hp c
   .rw[aB c];exact dn p hp c
  .show nT (if(iL L p).1=tT then _ else _:o_ × PS).1/\P_ (if(iL L p).1=tT then _ else _:o_ × PS).1+3*p.L_<=3*(if(iL L p).1=tT then _ else _:o_ × PS).2.L_+1;by_cases c:(iL L p).1=tT
   .rw[aC c];exact up _ (zC5 hL hl hk tm.1 ih.1 ih.2) p hp c
   .rw[aB c];exact dn p hp c
structure wB (d:P?):Prop where
 types:lN d.types=2
 vars:lN d.vars<=10001
 body:nT d.body
 size:P_ d.body<=30001
def zvE:∀(n:Nat) (l:List (fD × f_)) (p:PS),(BS L n l p).1.length<=lN l+n
|0,l,p=>by rw[BS];exact aJ _
| n+1,l,p=>by
 rw[BS]
 split<;>split<;>first
  |(apply aX (zvE n _ _);simp only[aV,length_cons,length_nil];omega)
  |(simp only[aV,length_cons,length_nil];omega)
def zHO(hl:lN L<=10000)(p:PS):(BU L p).1.length<=10001:=by
 unfold BU;split
 .have:=zvE (L:=L) (lN L+1) [] (gU L (bs [91]) p).2;simp only[length_nil]at this;omega
 .simp
def zHP(hL:C? L)(hl:lN L<=10000)(p:PS)(hp:p.L_<lN L):wB (uw L p).1:=by
 have h1:=iB hL hp (s:=Dg);have h2:=h1.trans (iF hL h1.lt (s:=wU));have h3:=h2.trans (kX hL h2.lt);have h4:=h3.trans (Md hL _ h3.lt);have h5:=h4.trans (El hL (Ba hL) _ h4.lt);have h6:=h5.trans (iF hL h5.lt (s:=bs [61]));have n7:=(zJH hL hl (Ba hL) 102).1 _ h6.lt;have h7:=Mc hL _ h6.lt;have hh:=zyU (L:=L) (ki:=xx L) (BU L (iG L (iH L wU (gU L Dg p).2)).2).2;unfold uw;refine⟨?_,zHO hl _,n7.1,?_⟩
 .simp only;split
  .simp only[aV,length_cons,length_nil];omega
  .omega
 .have:=n7.2;have:=h7.lt;simp only[IU]at*
  omega
def zvF(hL:C? L)(hl:lN L<=10000):∀(n:Nat) (l:List P?) (p:PS),p.L_<lN L->(∀d,d∈l->wB d)->∀d,d∈(uy L n l p).1->wB d
|0,l,p,hp,h,d,hd=>by rw[uy]at hd;exact h d hd
| n+1,l,p,hp,h,d,hd=>by
 rw[uy]at hd;split at hd
 .refine zvF hL hl n _ _ (Qp hL p hp).lt (λx hx=>?_) d hd;rcases aL.1 hx with hx|hx
  .exact h x hx
  .simp only[aK]at hx;subst hx;exact zHP hL hl p hp
 .exact h d hd
end
def zC6(s:fD):∀d,d∈(tN s).1.T_->wB d:=λd hd=>by
 unfold tN at hd;simp only at hd;by_cases q1:(kE s).2.e=0
 .let⟨hL,hl⟩:=NA q1;rw[aB (λz=>z q1)]at hd;split at hd
  .cases hd
  .have h0:ps0.L_<(kE s).1.length:=hL.pos;exact zvF hL hl _ _ _ (Jr hL _ _ _ h0).lt (λx hx=>by cases hx) d hd
 .rw[aC q1]at hd;cases hd
variable {L:List Tok}
def Sa(t:f_):(Al t).size<=20000:=by
 unfold Al;split
 next h=>
  have a:=Dq t oK (Cn h);have b:=Mr h;omega
 .simp
def yV(l:sF):Prop:=∀t,t∈l->t.d_=1->t.text.size<=32
def zFP(l:o9)(h:(x? l).e=0)(k:(x? l).d_=1):(x? l).text.length<=32:=by
 match l with
 |[]=>simp[x?,kK]at h
 | c ::r=>
  rw[x?]at h k⊢;split at h
  next c1=>
   rw[aC c1]at k⊢;split at h
   .simp[kK]at h
   next c2=>
    rw[aB c2];simp only[bz];omega
  next c1=>
   rw[aB c1]at k;split at k
   .split at k
    .simp at k
    .simp[kK]at k
   split at k
   .split at k
    .simp[kK]at k
    .split at k
     .simp[kK]at k
     .simp at k
   split at k
   .simp[kK]at k
   .simp at k
def zwm:∀(n:Nat) (l:List UInt8) (a b:Int) (ts:List Tok),yV ts->yV (pM n l a b ts).1
|0,l,a,b,ts,h=>by rw[pM];exact h
| n+1,l,a,b,ts,h=>by
 rw[pM];simp only;split
 .intro t ht k;rcases aL.1 ht with ht|ht
  .exact h t ht k
  .simp only[aK]at ht;subst ht;simp at k
 generalize l.drop (k? oK l)=l' at*
 have go:(x? l').e=0->yV (pM n (l'.drop (x? l').len) (rJ (l.take (k? oK l)) a b).1 ((rJ (l.take (k? oK l)) a b).2+(x? l').len) (ts++[⟨(x? l').d_,bA (x? l').text,(rJ (l.take (k? oK l)) a b).1,(rJ (l.take (k? oK l)) a b).2⟩])).1:=λe0=>by
  apply zwm n _ _ _ _;intro t ht k;rcases aL.1 ht with ht|ht
  .exact h t ht k
  .simp only[aK]at ht;subst ht;simp only at k⊢;have:=zFP l' e0 k;show(bA (x? l').text).size<=32;rw[zz7];exact this
 have nil:∀d:l?,yV (([]:List Tok),d).1:=λd t ht=>by cases ht
 by_cases q:(x? l').e=0/\lN ts=8192
 .rw[aC q,aC oD];exact nil _
 .rw[aB q];by_cases e0:(x? l').e=0
  .rw[aB (λz=>z e0)];exact go e0
  .rw[aC e0];exact nil _
def zFQ(s:fD):yV (kE s).1:=by
 unfold kE;split
 .intro t ht;cases ht
 .exact zwm _ _ _ _ _ (λt ht=>by cases ht)
def zFR{L:sF}(h:yV L)(p:PS):(iG L p).1.size<=32:=by
 unfold iG;split
 next c=>
  have:U_ L p∈L:=by
   unfold U_ at c⊢;rw[aH]at c⊢;cases q:L[p.L_]? with
   |none=>rw[q]at c;simp[Ai]at c
   |some t=>exact ah q
  exact h _ this c.2
 .simp
def zup(h:yV L):∀(n:Nat) (l:List P?) (p:PS),(∀d,d∈l->d.name.size<=32)->∀d,d∈(uy L n l p).1->d.name.size<=32
|0,l,p,hl,d,hd=>by rw[uy]at hd;exact hl d hd
| n+1,l,p,hl,d,hd=>by
 rw[uy]at hd;split at hd
 .refine zup h n _ _ (λx hx=>?_) d hd;rcases aL.1 hx with hx|hx
  .exact hl x hx
  .simp only[aK]at hx;subst hx;unfold uw;exact zFR h _
 .exact hl d hd
def zBf(s:fD):∀d,d∈(tN s).1.T_->d.name.size<=32:=λd hd=>by
 unfold tN at hd;simp only at hd;split at hd
 .cases hd
 split at hd
 .cases hd
 .exact zup (zFQ s) _ _ _ (λx hx=>by cases hx) d hd
def zpG:∀(l:List (fD × fD)) (i:Nat) (ns:List fD) (ms:List X?) (bad:List l?),(∀m,m∈ms->∀d,d∈m.T_->wB d/\d.name.size<=32)->
 (∀m,m∈(u6 l i ns ms bad).1.2->∀d,d∈m.T_->wB d/\d.name.size<=32)
|[],i,ns,ms,bad,h=>by rw[u6];exact h
| s::l,i,ns,ms,bad,h=>by
 rw[u6];refine zpG l _ _ _ _ λm hm=>?_;rcases aL.1 hm with hm|hm
 .exact h m hm
 .simp only[aK]at hm;subst hm;exactλd hd=>⟨zC6 s.2 d hd,zBf s.2 d hd⟩
def zrw:∀(l:List (fD × fD)) (i:Nat) (ns:List fD) (ms:List X?) (bad:List l?),lN bad<=(u6 l i ns ms bad).2.length/\((u6 l i ns ms bad).2.length=0->(∀n,n∈ns->n.size<=32)->∀n,n∈(u6 l i ns ms bad).1.1->n.size<=32)
|[],i,ns,ms,bad=>by rw[u6];exact⟨aJ _,λ_ h=>h⟩
| s::l,i,ns,ms,bad=>by
 rw[u6];have r:=zrw l (i+1) (ns++[s.1]) (ms++[(tN s.2).1]) (if mP s.1=oK then bad++[⟨i,1,1,10⟩]else if 0<=iX ns s.1 then bad++[⟨i,1,1,8⟩]else if(tN s.2).2.e≠0 then bad++[⟨i,(tN s.2).2.line,(tN s.2).2.t_,(tN s.2).2.e⟩]else bad);by_cases c:mP s.1=oK
 .rw[aC c]at r⊢;have:=r.1;rw[aV]at this;simp only[length_cons,length_nil]at this;exact⟨oM,λq=>by omega⟩
 .refine⟨aX ?_ r.1,λq h=>r.2 q λn hn=>?_⟩
  .rw[aB c];split
   .simp
   split
   .simp
   .exact aJ _
  .rcases aL.1 hn with hn|hn
   .exact h n hn
   .simp only[aK]at hn;subst hn;exact R3 (uM c)
def vG(ms:sP)(e:iO):Prop:=0<=e.module/\e.module<lN ms/\0<=e.decl/\e.decl<(ms.getD e.module.toNat pO).T_.length
def Ie{α:Type}(q:α->Bool)(l:List α):fi q 0 l= -1\/(0<=fi q 0 l/\fi q 0 l<lN l):=by
 have:=KP q 0 l;omega
def NJ(ms:List X?)(m i:Int)(h0:0<=m)(h1:m<lN ms)(x:iW):∀(l:List fD) (sc:List iO) (bad:List l?),(∀e,e∈sc->vG ms e)->∀e,e∈(pQ (ms.getD m.toNat pO) m i x l sc bad).1->vG ms e
|[],sc,bad,h=>by rw[pQ];exact h
| s::l,sc,bad,h=>by
 rw[pQ];split
 .exact NJ ms m i h0 h1 x l _ _ h
 rename_i c;split
 .exact NJ ms m i h0 h1 x l _ _ h
 refine NJ ms m i h0 h1 x l _ _ λe he=>?_;rcases aL.1 he with he|he
 .exact h e he
 .simp only[aK]at he;subst he;have a:=Ie (λd:P?=>decide (d.name=s)) (ms.getD m.toNat pO).T_;have b:¬wV (ms.getD m.toNat pO) s<0:=λz=>c (.inl z);unfold wV at b;unfold vG wV;simp only;omega
def zwn(ns:List fD)(ms:List X?)(hn:lN ns=lN ms)(i:Int):∀(l:List iW) (sc:List iO) (bad:List l?),(∀e,e∈sc->vG ms e)->∀e,e∈(Ch ns ms i l sc bad).1->vG ms e
|[],sc,bad,h=>by rw[Ch];exact h
| x::l,sc,bad,h=>by
 rw[Ch];apply zwn ns ms hn i l _ _;unfold Am;split
 .exact h
 next c=>
  have a:=Ie (λn=>decide (n=x.from_)) ns;unfold iX at c⊢;exact NJ ms _ i oM oM x _ _ _ h
def Sb(ms:List X?)(i:Nat)(hi:i<lN ms):∀(l:List P?) (k:Nat) (sc:List iO) (bad:List l?),k+lN l<=(ms.getD i pO).T_.length->(∀e,e∈sc->vG ms e)->∀e,e∈(Be i l k sc bad).1->vG ms e
|[],k,sc,bad,hk,h=>by rw[Be];exact h
| d::l,k,sc,bad,hk,h=>by
 rw[Be];simp only[length_cons]at hk;split
 .exact Sb ms i hi l (k+1) _ _ oM h
 refine Sb ms i hi l (k+1) _ _ oM λe he=>?_;rcases aL.1 he with he|he
 .exact h e he
 .simp only[aK]at he;subst he;unfold vG;simp only[bC];omega
def zrx(ns:List fD)(ms:List X?)(hn:lN ns=lN ms):∀(l:List X?) (i:Nat) (all:List (List iO)) (bad:List l?),l=ms.drop i->lN all=i->i<=lN ms->(∀sc,sc∈all->∀e,e∈sc->vG ms e)->
 (xy ns ms l i all bad).1.length=lN ms/\∀sc,sc∈(xy ns ms l i all bad).1->∀e,e∈sc->vG ms e
|[],i,all,bad,hl,ha,hi,h=>by
 rw[xy];have:(ms.drop i).length=0:=by rw[<-hl];try rfl
 rw[dN]at this;exact⟨qM,h⟩
| m::l,i,all,bad,hl,ha,hi,h=>by
 have _k:i<lN ms:=by
  by_cases q:i<lN ms
  .exact q
  .rw[eG oM]at hl;cases hl
 rw[aF _k]at hl;have h1:=(List.cons.inj hl).1;have h2:=(List.cons.inj hl).2;have hm:ms.getD i pO=m:=by rw[aH,aA _k,h1];try rfl
 rw[xy];refine zrx ns ms hn l (i+1) _ _ h2 (by simp;omega) oM λsc hsc=>?_;rcases aL.1 hsc with hsc|hsc
 .exact h sc hsc
 .simp only[aK]at hsc;subst hsc;exact Sb ms i _k m.T_ 0 _ _ (by rw[hm];omega) (zwn ns ms hn i m.z? [] bad λe he=>by cases he)
structure lF (L:f?):Prop where
 good:nI L
 T_:∀m,m∈L.u_->∀d,d∈m.T_->wB d
 decNames:∀m,m∈L.u_->∀d,d∈m.T_->d.name.size<=32
 modNames:∀n,n∈L.a_->n.size<=32
 small:∀m,m∈L.u_->kL m
 main:ik L ⟨bs [],L.main.module,L.main.decl⟩
def K7(l:ow)(h:(vN l).2.length=0):lF (vN l).1:=by
 have hs:=zpH l [];have hg:∀m,m∈(xN l).1.2->∀d,d∈m.T_->wB d/\d.name.size<=32:=by
  unfold xN;split
  .intro m hm;cases hm
  .exact zpG l 0 [] [] [] λm hm=>by cases hm
 have hb:(xN l).2.length=0->∀n,n∈(xN l).1.1->n.size<=32:=by
  unfold xN;split
  .intro q;simp at q
  .exactλq=>(zrw l 0 [] [] []).2 q λn hn=>by cases hn
 unfold vN at h⊢;simp only at h⊢;generalize xN l=f at*
 have hn:lN f.1.1=lN f.1.2:=hs.2.1;have s1:=zrx f.1.1 f.1.2 hn f.1.2 0 [] [] oC rfl oM (λsc hsc=>by cases hsc);generalize xy f.1.1 f.1.2 f.1.2 0 [] []=s at*
 generalize Ck f.1.1 f.1.2 f.1.2 0 []=t at*
 by_cases c1:0<lN f.2
 .rw[aC c1]at h;simp only at h;omega
 rw[aB c1]at h⊢;by_cases c2:0<lN s.2
 .rw[aC c2]at h;simp only at h;omega
 rw[aB c2]at h⊢;by_cases c3:0<lN t
 .rw[aC c3]at h;simp only at h;omega
 rw[aB c3]at h⊢;by_cases c4:iX f.1.1 yO<0
 .rw[aC c4]at h;simp at h
 rw[aB c4]at h⊢;by_cases c5:wV (f.1.2.getD (iX f.1.1 yO).toNat pO) yO<0
 .rw[aC c5]at h;simp at h
 rw[aB c5]at h⊢;split
 next c6=>rw[aC c6]at h;simp at h
 have a:=Ie (λn=>decide (n=yO)) f.1.1;have b:=Ie (λd:P?=>decide (d.name=yO)) (f.1.2.getD (iX f.1.1 yO).toNat pO).T_;refine⟨⟨hs.1,hn,s1.1,λm hm d hd=>⟨(hg m hm d hd).1.types,by have:=(hg m hm d hd).1.vars;omega⟩,λsc hsc e he=>?_⟩,λm hm d hd=>(hg m hm d hd).1,λm hm d hd=>(hg m hm d hd).2,hb oM,hs.2.2,?_⟩
 .have:=s1.2 sc hsc e he;exact⟨this.1,this.2.1,this.2.2.1,this.2.2.2⟩
 .unfold iX at c4 c5 b⊢;unfold wV at c5⊢;refine⟨?_,?_,?_,?_⟩<;>simp only<;>omega
end Go.Gr
namespace Go.Gr
open Go.Abs Go.Proofs
variable {ia ib:Inf}
def fb(s:CS):List jN × List l? × Int:=(s.v_,s.bad,s.main)
@[simp] theorem Sc(a b e:Int)(s:CS):fb (jw a b e s)=fb s:=by unfold jw;split<;>rfl
@[simp] theorem Ig(t:f_)(a b:Int)(s:CS):fb (ig t a b s).2=fb s:=by unfold ig;simp only;split<;>simp
@[simp] theorem NK(t:f_)(a b:Int)(s:CS):fb (qh t a b s).2=fb s:=by unfold qh;simp only;split<;>simp
@[simp] theorem zNg(x:n_)(t u:f_)(a b:Int)(s:CS):fb (lD x t u a b s).2=fb s:=by unfold lD;split<;>rfl
@[simp] theorem Sd(x:n_)(t u:f_)(a b:Int)(s:CS):fb (jq x t u a b s).2=fb s:=by
 unfold jq;split
 .rfl
 split
 .rfl
 split<;>simp
@[simp] theorem zNB(u:f_)(a b:Int)(x:(n_ × f_) × CS):fb (jZ u a b x).2=fb x.2:=by unfold jZ;split<;>simp
@[simp] theorem zJl(a b:Int):∀(ts l:oL) (s:CS),fb (vO a b ts l s).2=fb s
|[],l,s=>by rw[vO]
|t::ts,l,s=>by
 rw[vO];split
 .rfl
 .rw[zJl a b ts];simp
@[simp] theorem zNC(s:CS)(t:List jc):fb {s with n?:=t}=fb s:=rfl
section
variable (L:f?)
@[simp] theorem zLT(a b:Int)(e:iO)(l:oL)(s:CS):fb (vk L a b e l s).2=fb s:=by
 unfold vk;split
 .simp
 .simp only;split<;>simp
def N?(i:Inf):Prop:=∀env s,fb (i env s).2=fb s
def Sg(n:o_){i:Inf}(h:N? i)(t:f_)(env:Env)(s:CS):fb (mF n i t env s).2=fb s:=by unfold mF;simp[h env s]
def zJm(n:o_):N? (zu L n):=λenv s=>by
 unfold zu;simp only;repeat' split
 all_goals simp
def zLv(n a:o_)(ha:N? ia)(hb:N? ib):N? (qi n a ia ib):=λenv s=>by
 unfold qi;simp only;split<;>simp[ha _ _,hb _ _]
def Si(n a:o_)(ha:N? ia):N? (zw n a ia):=λenv s=>by
 unfold zw;simp only;repeat' split
 all_goals simp[ha _ _]
def zKy(n b:o_)(ha:N? ia)(hb:N? ib):N? (zx n b ia ib):=λenv s=>by
 unfold zx;simp only;repeat' split
 all_goals simp[ha _ _,hb _ _]
def zLw(n:o_)(ha:N? ia):N? (qj n ia):=λenv s=>by
 unfold qj;simp only;repeat' split
 all_goals simp[ha _ _]
def zKz(n:o_)(ha:N? ia)(hb:N? ib):N? (zy n ia ib):=λenv s=>by
 unfold zy;simp only;repeat' split
 all_goals simp[ha _ _,hb _ _]
def Sj(q a b:o_){iq:Inf}(hq:N? iq)(ha:N? ia)(hb:N? ib):N? (zz q a b iq ia ib):=λenv s=>by
 unfold zz;simp[hq _ _,ha _ _,hb _ _]
def Sk(n:o_)(ha:N? ia):N? (AA n ia):=λenv s=>by
 unfold AA;simp only;repeat' split
 all_goals simp[ha _ _]
def Sl(n a b:o_)(ha:N? ia)(hb:N? ib):N? (opC n a b ia ib):=λenv s=>by
 unfold opC;simp only;repeat' split
 all_goals simp[Sg _ ha,Sg _ hb,ha _ _,hb _ _]
def zLx(n a:o_)(ha:N? ia):N? (ql n a ia):=λenv s=>by
 unfold ql;repeat' split
 all_goals simp[Sg _ ha,ha _ _]
def zyk:∀(l:List o_),(∀x,x∈l->N? (iD L x))->∀env s,fb (nP L l env s).2=fb s
|[],_,env,s=>by rw[nP]
|n::l,h,env,s=>by
 rw[nP];simp only;rw[zyk l (λx hx=>h x (by simp[hx])),h n oC env s]
def zLy(n:o_)(h:∀x,x∈n.b_->N? (iD L x)):N? (rW n (nP L n.b_)):=λenv s=>by
 unfold rW;simp only;rw[NK,zyk L n.b_ h];split<;>simp
def NL{j:Inf}(h:N? j):N? (jI j):=λenv s=>by
 unfold jI;split
 .rfl
 .exact h env s
def NM(n:o_){rest:Inf}(hr:N? rest)(h:∀x,x∈n.b_->N? (iD L x)):N? (qo L n rest):=λenv s=>by
 unfold qo;split
 .rfl
 split
 .rfl
 split
 .rfl
 split
 .rfl
 split
 .rfl
 split
 .exact zJm L n env s
 split
 .exact zLy L n h env s
 .exact hr env s
def zHn(n:o_)(h:∀x,x∈n.b_->N? (iD L x)):N? (iD L n):=by
 let⟨k,tx,nn,ln,cl,ts,ns,ks⟩:=n
 match ks,h with
 |[],h=>rw[NI];exact NL (NM L _ (λenv s=>rfl) h)
 |[a],h=>
  have ha:=h a (by simp[o_.b_]);rw[Ev];refine NL (NM L _ (λenv s=>?_) h);unfold Et;split
  .exact Si _ _ ha env s
  split
  .exact zLw _ ha env s
  split
  .exact Sk _ ha env s
  .exact zLx _ _ ha env s
 |[a,b],h=>
  have ha:=h a (by simp[o_.b_]);have hb:=h b (by simp[o_.b_]);rw[Ew];refine NL (NM L _ (λenv s=>?_) h);unfold Eu;split
  .exact zLv _ _ ha hb env s
  split
  .exact zKy _ _ ha hb env s
  split
  .exact zKz _ ha hb env s
  .exact Sl _ _ _ ha hb env s
 |a::b::c::l,h=>
  rw[K5];exact NL (NM L _ (Sj a b c (h a (by simp[o_.b_])) (h b (by simp[o_.b_])) (h c (by simp[o_.b_]))) h)
mutual
def NN:∀n:o_,N? (iD L n)
|.mk k tx nn ln cl ts ns ks=>zHn L _ (zyl ks)
def zyl:∀l:List o_,∀x,x∈l->N? (iD L x)
|[],x,hx=>by cases hx
|n::l,x,hx=>by
 rcases aM.1 hx with e|hx
 .rw[e];exact NN n
 .exact zyl l x hx
end
end
def zJY(l:ow):h_ Pg 18 [.one (.sl oK 2 (l.map jg))] (.one (.bool (decide (lN l<=20)&&rY l 0))):=by
 refine zFc oC λo c hN hp=>?_;let⟨R,hR⟩:=oJ (decide (lN l<=20)&&rY l 0);rw[hR];simp[ztb];apply gM<;>intro h
 .have h:¬lN l<=20:=oI h;simp[h]at hR;simp[hR]
 have h:lN l<=20:=oI h;simp[h]at hR;refine fM gm hp (λY:Nat × Nat=>Y.1<=lN l/\Y.2<=70000/\rY (l.drop Y.1) Y.2=R) (λY=>[(4,.c (.d (.int .i64 Y.1))),(3,.c (.d (.int .i64 Y.2))),(0,.c (.d (.sl oK 2 (l.map jg))))]) (λ_=>[]) (λY=>lN l-Y.1) (0,0) [] ⟨oC,oC,uM hR⟩ oC λ⟨j,n⟩ ⟨i1,i2,i3⟩=>?_;unfold zoy;simp only at i1 i2 i3;simp;apply gM<;>intro h
 .have hj:j<lN l:=uM h;let⟨s,hs⟩:=oJ (l[j]);rw[aF hj,hs,rY]at i3;have hw:=wI (n:=(j:Int)+1);have hw2:=wI (n:=(70000:Int)-n);by_cases c1:(70000:Int)-n<s.2.size
  .rw[aC (.inl c1)]at i3;simp[hj,hs,hw2,c1,<-i3]
  by_cases c2:(1000:Int)<s.1.size
  .rw[aC (.inr oM)]at i3;simp[hj,hs,hw2,c1,c2,<-i3]
  rw[aB (λz=>z.elim c1 (λz=>c2 oM))]at i3;have hw3:=wI (n:=(n:Int)+s.2.size);simp[hj,hs,hw2,c1,c2];apply fE (j+1,n+s.2.size) [] ⟨qM,qM,uM i3⟩ qM;simp[hw,hw3]
 .have hj:j=lN l:=oI h;subst hj;rw[aS,rY]at i3;simp[<-i3]
end Go.Gr
namespace Go.Gr
open Go.Abs Go.Proofs List
variable {L:f?}{x:jc}{s:CS}{i:Nat}
def K8(hG:lF L){m k:Int}(h:ik L ⟨bs [],m,k⟩):wB (xO L m k)/\(xO L m k).name.size<=32:=by
 let⟨mn,kn,M,e1,e2,g1,g2,_⟩:=Ib hG.good h;exact⟨hG.T_ M (ah g1) _ (ah g2),hG.decNames M (ah g1) _ (ah g2)⟩
structure yz (L:f?) (s:CS) (i:Nat):Prop where
 n?:lN s.n?<=256
 ist:∀x,x∈s.n?->ik L ⟨bs [],x.module,x.decl⟩/\lN x.types<=1000000
 sites:lN s.sites+(257-i)*240009<=1000000000
 v_:lN s.v_<=i
 bad:lN s.bad<=i
def zD(L:f?)(x:jc)(s0:CS):CS:={s0 with module:=x.module,vars:=(xO L x.module x.decl).vars.map (·.1),V_:=x.types,e:=0}
theorem zyB(hx:ik L ⟨bs [],x.module,x.decl⟩)(hxt:lN x.types<=1000000)(hi:i<257)(h:yz L s i):jy L (zD L x s) (8*30001+1+(257-(i+1))*240009):=by
 have a:=h.sites;have b:=h.v_;have c:=h.bad;refine⟨hxt,?_,h.n?,hx.m0,hx.m1,⟨?_,?_⟩,h.ist⟩
 .have e:(zD L x s).sites=s.sites:=rfl;have q:lN s.sites+(8*30001+1+(257-(i+1))*240009)<=1000000000:=by
   let⟨k,hk⟩:∃k,257-i=k+1:=⟨256-i,oM⟩
   have hk2:257-(i+1)=k:=oM;rw[hk]at a;rw[hk2,show 8*30001+1=240009 from rfl];clear h hx hxt;generalize (lN s.sites)=n at*
   omega
  simp only[e];exact q
 .have e:(zD L x s).v_=s.v_:=rfl;simp only[e];omega
 .have e:(zD L x s).bad=s.bad:=rfl;simp only[e];omega
theorem NP(hG:lF L)(hx:ik L ⟨bs [],x.module,x.decl⟩)(hxt:lN x.types<=1000000)(hi:i<257)(h:yz L s i):yz L (lL L x s) (i+1):=by
 have hd:=(K8 hG hx).1;have p0:=zyB hx hxt hi h;have f0:fb (zD L x s)=fb s:=rfl;have hf:=h.v_;have hb:=h.bad;unfold lL;unfold zD at p0 f0;simp only;generalize xO L x.module x.decl=d at*
 generalize ({s with module:=x.module,vars:=d.vars.map (·.1),V_:=x.types,e:=0}:CS)=s0 at*
 have p1:=yx p0 (d.types.getD 0 C_) d.line d.t_;have f1:=Ig (d.types.getD 0 C_) d.line d.t_ s0;generalize ig (d.types.getD 0 C_) d.line d.t_ s0=r1 at*
 have p2:=yx p1.1 (d.types.getD 1 C_) d.line d.t_;have f2:=Ig (d.types.getD 1 C_) d.line d.t_ r1.2;generalize ig (d.types.getD 1 C_) d.line d.t_ r1.2=r2 at*
 let⟨T,hT⟩:=oJ (if r2.2.e=0 then qh (jO r1.1 r2.1) d.line d.t_ r2.2 else(jO r1.1 r2.1,r2.2));have p3:jy L T.2 (8*30001+1+(257-(i+1))*240009)/\fb T.2=fb r2.2:=by
  rw[<-hT];split
  .exact⟨(KU p2.1 _ _ _).1,NK _ _ _ _⟩
  .exact⟨p2.1,rfl⟩
 rw[hT];clear hT;let⟨S,hS⟩:=oJ (if x.module=L.main.module/\x.decl=L.main.decl/\Di (bT 1) r1.1=oK then jw d.line d.t_ 14 T.2 else T.2);have p4:jy L S (8*30001+1+(257-(i+1))*240009)/\fb S=fb T.2:=by
  rw[<-hS];split
  .exact⟨yU p3.1 _ _ _,Sc _ _ _ _⟩
  .exact⟨p3.1,rfl⟩
 rw[hS];clear hS;have _A:vF [(d.param,r1.1)] (P_ d.body):=⟨by have:=hd.size;simp only[length_cons,length_nil];omega,λv hv=>by simp only[aK]at hv;subst hv;exact p1.2⟩
 have p5:=(SV L hG.good d.body hd.body).2 [(d.param,r1.1)] S (1+(257-(i+1))*240009) _A (p4.1.less (by have:=hd.size;omega));have f5:=NN L d.body [(d.param,r1.1)] S;generalize iD L d.body [(d.param,r1.1)] S=y at*
 have p6:=AL (b:=(257-(i+1))*240009) (p5.1.less oM) y.1.1 y.1.2 r2.1 d.body.line d.body.t_;have f6:=Sd y.1.1 y.1.2 r2.1 d.body.line d.body.t_ y.2;generalize jq y.1.1 y.1.2 r2.1 d.body.line d.body.t_ y.2=z at*
 have f:fb z.2=fb s:=by rw[f6,f5,p4.2,p3.2,f2,f1,f0]
 have g1:z.2.v_=s.v_:=dM (·.1) f;have g2:z.2.bad=s.bad:=dM (·.2.1) f;split
 .exact⟨p6.n?,p6.ist,p6.sites,by simp[g1];omega,by simp[g2];omega⟩
 .exact⟨p6.n?,p6.ist,p6.sites,by simp[g1];omega,by show lN z.2.bad<=_;rw[g2];omega⟩
def Sm(i:Nat)(hi:i<lN L.u_):∀(l:List P?) (k:Nat) (s:CS),k+lN l<=(L.u_.getD i pO).T_.length->yz L s 0->yz L (vE L i l k s).1 0
|[],k,s,hk,h=>by rw[vE];exact h
| d::l,k,s,hk,h=>by
 simp only[length_cons]at hk;rw[vE];split
 .exact Sm i hi l (k+1) s oM h
 have hx:∀x,x∈(jf 256 s.n? ⟨i,k,[]⟩).2->ik L ⟨bs [],x.module,x.decl⟩/\lN x.types<=1000000:=λx hx=>by
  rcases SA hx with hx|hx
  .exact h.ist x hx
  .subst hx;exact⟨⟨qM,qM,qM,by simp only[bC];omega⟩,oC⟩
 simp only;split
 .exact⟨NG h.n? _,hx,h.sites,h.v_,h.bad⟩
 .exact Sm i hi l (k+1) _ oM ⟨NG h.n? _,hx,h.sites,h.v_,h.bad⟩
def NQ:∀(l:List X?) (i:Nat) (s:CS),l=L.u_.drop i->yz L s 0->yz L (nE L l i s).1 0
|[],i,s,hl,h=>by rw[nE];exact h
| m::l,i,s,hl,h=>by
 have _k:i<lN L.u_:=by
  by_cases q:i<lN L.u_
  .exact q
  .rw[eG oM]at hl;cases hl
 rw[aF _k]at hl;have h1:=(List.cons.inj hl).1;have hm:L.u_.getD i pO=m:=by rw[aH,aA _k,h1];try rfl
 have r:=Sm i _k m.T_ 0 s (by rw[hm];omega) h;rw[nE];split
 .exact r
 .exact NQ l (i+1) _ (List.cons.inj hl).2 r
end Go.Gr
