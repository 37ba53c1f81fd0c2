/- Of ours. -/
import Derived.Test.YtlfjlokfciejnaaGreatJ07
set_option maxRecDepth 20000
set_option maxHeartbeats 4000000
set_option linter.unusedVariables false
set_option linter.unusedSectionVars false
set_option linter.unusedSimpArgs false
set_option linter.defProp false
set_option linter.unnecessarySimpa false
open List renaming length->lN
open Bool renaming true->tT,false->oK
open Option renaming some->sS,none->nN
namespace Go.Gr
open Go.Abs Go.Proofs List
def p?(v:fD × f_):oQ:=.str v.1::v.2.enc
def iW.enc(i:iW):oQ:=[.str i.from_,.sl oK 1 (encS i.a_),.int .i64 i.line,.int .i64 i.t_]
def P?.enc(d:P?):oQ:=[.str d.name,.bool d.exp,.sl oK 5 (d.vars.map p?),.str d.param,.sl oK 4 (d.types.map f_.enc)]++d.body.enc++[.int .i64 d.line,.int .i64 d.t_]
def X?.enc(m:X?):oQ:=[.sl oK 4 (m.z?.map iW.enc),.sl oK 15 (m.T_.map P?.enc)]
@[simp] theorem zKK(v:fD × f_):(p? v).length=5:=by simp[p?]
@[simp] theorem iW.F_(v:iW):lN v.enc=4:=rfl
@[simp] theorem P?.F_(v:P?):lN v.enc=15:=by simp[P?.enc]
@[simp] theorem X?.F_(v:X?):lN v.enc=2:=rfl
theorem zuz(v:fD × f_):D.W_ (p? v)=p? v:=by simp[p?]
theorem zuA:∀l:sV,D.O_ (l.map p?)=l.map p?
|[]=>rfl
|v::l=>by simp only[map_cons,D.O_,zuz,zuA l]
@[simp] theorem zGa:∀a b:oQ,D.W_ (a++b)=D.W_ a++D.W_ b
|[],_=>rfl
|x::a,b=>by simp only[cons_append,D.W_,zGa a b]
@[simp] theorem zGb:∀a b:o5,D.O_ (a++b)=D.O_ a++D.O_ b
|[],_=>rfl
|x::a,b=>by simp only[cons_append,D.O_,zGb a b]
attribute [simp] zuz zuA
@[simp] theorem iW.W_(v:iW):D.W_ v.enc=v.enc:=by simp[iW.enc]
@[simp] theorem iW.O_:∀l:qE,D.O_ (l.map iW.enc)=l.map iW.enc
|[]=>rfl
|v::l=>by simp only[map_cons,D.O_,iW.W_,iW.O_ l]
@[simp] theorem zL1(a b c d e:AC)(T:f_):z_ [a,b,c,d,e] 1 (T.enc.map AC.d)=a::T.enc.map .d:=by rw[T.l_];try rfl
def Qo:∀v:List (List D),(D.O_ v).length=lN v
|[]=>rfl
|d::v=>by simp only[D.O_,length_cons,Qo v]
section
variable {L:List Tok}
def M9(hL:C? L):∀(n:Nat) (l:List fD),y_ L (xJ L n l)
|0,l,p,hp=>Tm.refl hp
|n+1,l,p,hp=>by
 have h1:=kX hL hp;have h2:=h1.trans (iB hL h1.lt (s:=bs [44]));rw[xJ];split
 .exact h2.trans (M9 hL n _ _ h2.lt)
 .exact h2
def Ba(hL:C? L):y_ L (xx L):=Qh hL 102
def Mc(hL:C? L):y_ L (IU L):=(Jn hL (Ba hL) 102).1
def zHZ(hL:C? L)(hl:lN L<=10000):rU L 0 (xx L):=λr hr hd=>Qn hL hl 102 r hr oM oM
def zKX(hL:C? L)(hl:lN L<=10000):mQ L 148 0 (IU L):=(zEW hL hl 102 0 oM oM).1
def xL(L:sF)(p:PS):f_ × PS:=if(gU L (bs [60,58]) p).1=tT then xx L (gU L (bs [60,58]) p).2 else(C_,p)
def zJX(hL:C? L):y_ L (xL L):=λp hp=>by
 unfold xL;split
 .have h1:=iB hL hp (s:=bs [60,58]);exact h1.trans (Ba hL _ h1.lt)
 .exact Tm.refl hp
def zwQ(n:Nat)(l:sV)(p:PS):BS L (n+1) l p=if(gU L (bs [44]) (xL L (iG L p).2).2).1=tT then BS L n (l++[((iG L p).1,(xL L (iG L p).2).1)]) (gU L (bs [44]) (xL L (iG L p).2).2).2 else(l++[((iG L p).1,(xL L (iG L p).2).1)],iH L (bs [93]) (gU L (bs [44]) (xL L (iG L p).2).2).2):=by
 rw[BS];try rfl
def zwR(hL:C? L):∀(n:Nat) (l:List (fD × f_)),y_ L (BS L n l)
|0,l,p,hp=>Tm.refl hp
|n+1,l,p,hp=>by
 have h1:=kX hL hp;have h2:=h1.trans (zJX hL _ h1.lt);have h3:=h2.trans (iB hL h2.lt (s:=bs [44]));rw[zwQ];split
 .exact h3.trans (zwR hL n _ _ h3.lt)
 .exact h3.trans (iF hL h3.lt)
def Md(hL:C? L):y_ L (BU L):=λp hp=>by
 unfold BU;split
 .have h1:=iB hL hp (s:=bs [91]);exact h1.trans (zwR hL _ _ _ h1.lt)
 .exact Tm.refl hp
def Jr(hL:C? L):∀(n:Nat) (l:List iW),y_ L (zm L n l)
|0,l,p,hp=>Tm.refl hp
| n+1,l,p,hp=>by
 rw[zm];split
 .have h1:=iB hL hp (s:=zl);have h2:=h1.trans (kX hL h1.lt);have h3:=h2.trans (iF hL h2.lt (s:=bs [58]));have h4:=h3.trans (M9 hL (lN L+1) [] _ h3.lt);have h5:=h4.trans (iF hL h4.lt (s:=bs [59]));exact h5.trans (Jr hL n _ _ h5.lt)
 .exact Tm.refl hp
def Qp(hL:C? L):y_ L (uw L):=λp hp=>by
 have h1:=iB hL hp (s:=Dg);have h2:=h1.trans (iF hL h1.lt (s:=wU));have h3:=h2.trans (kX hL h2.lt);have h4:=h3.trans (Md hL _ h3.lt);have h5:=h4.trans (El hL (Ba hL) _ h4.lt);have h6:=h5.trans (iF hL h5.lt (s:=bs [61]));have h7:=h6.trans (Mc hL _ h6.lt);exact h7.trans (iF hL h7.lt (s:=bs [59]))
def Me(hL:C? L):∀(n:Nat) (l:List P?),y_ L (uy L n l)
|0,l,p,hp=>Tm.refl hp
| n+1,l,p,hp=>by
 rw[uy];split
 .have h1:=Qp hL _ hp;exact h1.trans (Me hL n _ _ h1.lt)
 .exact Tm.refl hp
def zDH(hL:C? L):y_ L (Ej L):=λp hp=>by
 have h1:=Jr hL (lN L+1) [] _ hp;exact h1.trans (Me hL (lN L+1) [] _ h1.lt)
def zDI(hL:C? L)(hl:lN L<=10000)(p:PS)(h:p.L_<lN L):
  q_ Pg 145 [.c (.ptr 0 0)] [ic L p] (.c (.d (.sl oK 1 (encS (xJ L (lN L+1) [] p).1)))) [ic L (xJ L (lN L+1) [] p).2]:=by
 refine zzp mD λts _e ok hb c hN hp=>?_;obtain⟨t,rfl⟩:=lK _e;let⟨F0,_y⟩:=oJ (xJ L (lN L+1) [] p);rw[_y];unfold YW;simp;refine fT [.t 3] ?_;simp
 refine fM gm hp (λx:Nat × List fD × PS=>xJ L x.1 x.2.1 x.2.2=F0/\Tm L p x.2.2/\lN L<x.1+x.2.2.L_/\lN x.2.1<=x.2.2.L_)
  (λx=>[(0,.c (.ptr 0 0)),(3,.c (.x_ 1 2 0 (lN x.2.1)))])
  (λx=>[ic L x.2.2,.G_ t 0,.arr 1 ((encS x.2.1).map (·.map .d))])
  (λx=>x.1) (lN L+1,[],p) [0,1,2] ⟨_y,Tm.refl h,qM,oC⟩ oC λ⟨n,l,q⟩ ⟨i1,i2,i3,i4⟩=>?_
 unfold YV;simp only at i1 i2 i4;have i3:lN L<n+q.L_:=i3;have _k:=i2.lt;obtain⟨n,rfl⟩:∃m,n=m+1:=⟨n-1,oM⟩
 rw[xJ]at i1;have e1:=kX hL _k;have le1:=e1.le;have a1:=zo q _k hl;have a2:=kY (bs [44]) _ e1.lt hl;generalize (iG L q).1=s at*
 generalize (iG L q).2=q1 at*
 simp;refine gN [0] a1 ?_;simp;refine jV ?_;refine gN [0] a2 ?_;by_cases q2:(gU L (bs [44]) q1).1=tT
 .rw[aC q2]at i1;have hat:=(X_ q2).1;have e2:=e1.trans (iB hL e1.lt (s:=bs [44]));generalize (gU L (bs [44]) q1).2=q3 at*
  simp[q2];refine fE (n,l++[s],q3) [0,1,3] ⟨i1,i2.trans e2,qM,by simp;omega⟩ oC ?_;simp;exact aD oC
 .rw[aB q2,kH q2]at i1;rw[kH q2,<-i1];rw[aT]at q2;have z:take (lN l) (List.map (λx=>List.map AC.d x) (encS l))=List.map (λx=>List.map AC.d x) (encS l):=aD oC;have z2:take (lN l+1) (encS l++[[.str s]])=encS l++[[.str s]]:=aD oC;simp[q2];refine fQ [3] ?_;simp[iE,z];exact fK [0] [1] (by simp[iE,z,z2])
def zGc(hL:C? L)(hl:lN L<=10000)(p:PS)(h:p.L_<lN L)(hd:p.deep=0):
  q_ Pg 146 [.c (.ptr 0 0)] [ic L p] (.c (.d (.sl oK 5 ((BU L p).1.map p?)))) [ic L (BU L p).2]:=by
 refine zBX mD λts _e ok hb c hN hp=>?_;obtain⟨t,rfl⟩:=lK _e;have c1:=kY (bs [91]) p h hl;unfold YY BU;simp;refine gN [0] c1 ?_;by_cases q0:(gU L (bs [91]) p).1=tT
 .rw[aC q0];have t1:=iB hL h (s:=bs [91]);let⟨F0,_y⟩:=oJ (BS L (lN L+1) [] (gU L (bs [91]) p).2);rw[_y];generalize (gU L (bs [91]) p).2=p1 at*
  have hd1:p1.deep=0:=by rw[t1.deep,hd]
  simp[q0];refine fT [.t 3] ?_;simp
  refine fM gm hp (λx:Nat × List (fD × f_) × List oQ × PS=>BS L x.1 x.2.1 x.2.2.2=F0/\Tm L p1 x.2.2.2/\lN L<x.1+x.2.2.2.L_/\lN x.2.1<=x.2.2.2.L_/\D.O_ x.2.2.1=x.2.1.map p?)
   (λx=>[(0,.c (.ptr 0 0)),(3,.c (.x_ 5 2 0 (lN x.2.2.1)))])
   (λx=>[ic L x.2.2.2,.G_ t 0,.arr 5 (x.2.2.1.map (·.map .d))])
   (λx=>x.1) (lN L+1,[],[],p1) [0,1,2] ⟨_y,Tm.refl t1.lt,qM,oC,rfl⟩ oC λ⟨n,l,v,q⟩ ⟨i1,i2,i3,i4,i5⟩=>?_
  unfold YX;simp only at i1 i2 i4 i5;have i3:lN L<n+q.L_:=i3;have hvl:lN v=lN l:=by rw[<-Qo,i5,aa]
  have _k:=i2.lt;obtain⟨n,rfl⟩:∃m,n=m+1:=⟨n-1,oM⟩
  rw[zwQ]at i1;have e1:=kX hL _k;have le1:=e1.le;have a1:=zo q _k hl;have a2:=kY (bs [60,58]) _ e1.lt hl;generalize (iG L q).1=s at*
  generalize (iG L q).2=q1 at*
  simp;refine gN [0] a1 ?_;simp;refine gN [0] a2 ?_;unfold xL at i1;by_cases b1:(gU L (bs [60,58]) q1).1=tT
  .rw[aC b1]at i1;have e2:=e1.trans (iB hL e1.lt (s:=bs [60,58]));have e3:=e2.trans (Ba hL _ e2.lt);have hat:=(X_ b1).1;have le3:=(Ba hL _ e2.lt).le;have a3:=zHZ hL hl _ e2.lt (by rw[e2.deep,i2.deep,hd1]);have a4:=kY (bs [44]) _ e3.lt hl;generalize (gU L (bs [60,58]) q1).2=q2 at*
   generalize (xx L q2).1=T at*
   generalize (xx L q2).2=q3 at*
   simp[b1];refine gN [0] a3 ?_;simp;refine jV ?_;refine gN [0] a4 ?_;by_cases q2:(gU L (bs [44]) q3).1=tT
   .rw[aC q2]at i1;have hat:=(X_ q2).1;have e4:=e3.trans (iB hL e3.lt (s:=bs [44]));generalize (gU L (bs [44]) q3).2=q4 at*
    simp[q2];refine fE (n,l++[(s,T)],v++[.str s::T.enc],q4) [0,1,4] ⟨i1,i2.trans e4,qM,by simp;omega,by simp[i5,p?]⟩ oC ?_;simp;exact aD oC
   .rw[aB q2,kH q2]at i1;rw[kH q2,<-i1];rw[aT]at q2;have a3:=nM hL (bs [93]) _ e3.lt hl;have z:take (lN v) (List.map (λx=>List.map AC.d x) v)=List.map (λx=>List.map AC.d x) v:=aD oC;have z2:take (lN v+1) (v++[.str s::T.enc])=v++[.str s::T.enc]:=aD oC;simp[q2];refine fQ [4] ?_;simp[iE,z];refine gN [0] a3 ?_;simp[iE,z];exact fH [0] [1] (by simp[iE,z,z2,i5,p?])
  .rw[aB b1]at i1;rw[kH b1];rw[aT]at b1;have a4:=kY (bs [44]) _ e1.lt hl;simp[b1];refine jV ?_;refine gN [0] a4 ?_;by_cases q2:(gU L (bs [44]) q1).1=tT
   .rw[aC q2]at i1;have hat:=(X_ q2).1;have e4:=e1.trans (iB hL e1.lt (s:=bs [44]));generalize (gU L (bs [44]) q1).2=q4 at*
    simp[q2];refine fE (n,l++[(s,C_)],v++[[.str s,.int .i64 0,.str (bs []),.sl tT 1 [],.sl tT 4 []]],q4) [0,1,4] ⟨i1,i2.trans e4,qM,by simp;omega,by simp[i5,p?,C_,f_.enc,f_.j?,encS]⟩ oC ?_;simp;exact aD oC
   .rw[aB q2,kH q2]at i1;rw[kH q2,<-i1];rw[aT]at q2;have a3:=nM hL (bs [93]) _ e1.lt hl;have z:take (lN v) (List.map (λx=>List.map AC.d x) v)=List.map (λx=>List.map AC.d x) v:=aD oC;have z2:take (lN v+1) (v++[[.str s,.int .i64 0,.str (bs []),.sl tT 1 [],.sl tT 4 []]])=v++[[.str s,.int .i64 0,.str (bs []),.sl tT 1 [],.sl tT 4 []]]:=aD oC;simp[q2];refine fQ [4] ?_;simp[iE,z];refine gN [0] a3 ?_;simp[iE,z];exact fH [0] [1] (by simp[iE,z,z2,i5,p?,C_,f_.enc,f_.j?,encS])
 .rw[aB q0,kH q0];rw[aT]at q0;simp[q0];exact fH [0] [1] oC
end
end Go.Gr
namespace Go.Gr
open Go.Abs Go.Proofs
def pO:X?:=⟨[],[]⟩
def ps0:PS:=⟨0,0,0,0,0⟩
def xM(L:sF)(p:PS):PS:=if p.e=0/\(U_ L p).d_≠0 then yt L 7 p else p
def tN(s:fD):X? × l?:=
 let x:=kE s
 if x.2.e≠0 then(pO,x.2)else
  let m:=Ej x.1 ps0;let p:=xM x.1 m.2
  if p.e≠0 then(pO,⟨0,p.line,p.t_,p.e⟩)else(m.1,⟨0,p.line,p.t_,p.e⟩)
mutual
def mR:f_->Int->Int
|.mk _ _ _ l,m=>rV l m 1
def rV:List f_->Int->Int->Int
|[],_,n=>n
|t::l,m,n=>if n<m then rV l m (n+mR t (m-n))else n
end
def nC:Nat->f_->Int
|0,_=>1
|1,_=>1
|n+2,t=>(t.b_.foldl (λh k=>if h<nC (n+1) k then nC (n+1) k else h) 0)+1
def vY{α:Type}(q:α->α->Bool):List α->List α->Bool
|[],[]=>tT
|x::a,y::b=>q x y&&vY q a b
|_,_=>oK
mutual
def nD:f_->f_->Bool
|.mk k n s l,u=>decide (k=u.d_)&&(decide (n=u.name)&&(decide (s=u.a_)&&Bb l u.b_))
def Bb:List f_->List f_->Bool
|[],[]=>tT
|t::l,u::r=>nD t u&&Bb l r
|[],_::_=>oK
|_::_,[]=>oK
end
def bT(k:Int):f_:=.mk k (bs []) [] []
def iJ(t:f_):Int:=if t.d_<1\/6<t.d_ then -1 else t.d_-1
def IZ(a b:fD):Bool:=Op.bytesLess a.data.toList b.data.toList
def U?(s:fD):List fD->Nat
|[]=>0
|n::l=>if IZ n s=tT then U? s l+1 else 0
def iy:List fD->List f_->List fD->List f_->(List fD × List f_) × Bool
|s::ss,t::ts,ns,ks=>
 if mP s=oK\/ns[U? s ns]?=sS s then((ns,ks),oK)else iy ss ts (ns.take (U? s ns)++s::ns.drop (U? s ns)) (ks.take (U? s ns)++t::ks.drop (U? s ns))
|_,_,ns,ks=>((ns,ks),tT)
def Bc(ns:oN)(ts:oL):f_ × Bool:=
 if lN ns≠lN ts\/16<lN ns then(.mk 5 (bs []) [] [],oK)else(.mk 5 (bs []) (iy ns ts [] []).1.1 (iy ns ts [] []).1.2,(iy ns ts [] []).2)
def Y?(k:f_):oL:=if k.d_=7 then k.b_ else [k]
def T?(tag:Int):List f_->Bool->List f_->(Bool × List f_) × Bool
|[],_G,ks=>((_G,ks),tT)
| x::l,_G,ks=>
 if x.d_=0 then((_G,ks),oK)else if iJ x≠tag then T? tag l _G ks else
  let ks':=if _G then ks else ks++[x]
  if nD x (ks'.getLastD C_)=tT then T? tag l tT ks' else((tT,ks'),oK)
def tO(all:List f_):List Int->List f_->List f_ × Bool
|[],ks=>(ks,tT)
|tag::l,ks=>if(T? tag all oK ks).2=tT then tO all l (T? tag all oK ks).1.2 else((T? tag all oK ks).1.2,oK)
def Ce(b_:oL):f_ × Bool:=
 let r:=tO (b_.flatMap Y?) [0,1,2,3,4,5] []
 if r.2=tT then(match r.1 with
  |[t]=>(t,tT)
  |l=>(.mk 7 (bs []) [] l,decide (0<lN l)))
 else(.mk 7 (bs []) [] r.1,oK)
def nO(k:Int)(s:oN)(l:oL):f_ × Bool:=
 if k=5 then Bc s l else if k=6 then(.mk 6 (bs []) [] l,decide (lN l=2))else Ce l
mutual
def kQ:f_->f_ × Bool
|.mk k n s l=>if 5<=k/\k<=7 then(if(jP l).2=tT then nO k s (jP l).1 else(C_,oK))else if 0<=k/\k<=4 then(bT k,tT)else(C_,oK)
def jP:List f_->List f_ × Bool
|[]=>([],tT)
|t::l=>if(kQ t).2=tT then((kQ t).1::(jP l).1,(jP l).2)else([],oK)
end
def kz(t:f_):f_ × Int:=if 16<nC 17 t\/200<mR t 201 then(C_,9)else if(kQ t).2=tT then((kQ t).1,0)else(C_,9)
mutual
def vM:f_->Bool->fD
| .mk k n s l,br=>
 if k=0 then bs [97,110,121]else if k=1 then bs [110,117,108,108]else if k=2 then bs [98,111,111,108]else if k=3 then bs [105,110,116]else if k=4 then bs [115,116,114]
 else if k=5 then bs [123]++Ak s l (bs []) 0++bs [125]
 else if k=6 then(match l with
  |a::b::_=>if br=tT then bs [40]++(vM a tT++bs [32,45,62,32]++vM b oK)++bs [41]else vM a tT++bs [32,45,62,32]++vM b oK
  |_=>bs [])
 else Cf l (bs []) 0
def Ak:List fD->List f_->fD->Nat->fD
|s::ss,t::ts,out,i=>Ak ss ts ((if 0<i then out++bs [44,32]else out)++s++bs [58,32]++vM t oK) (i+1)
|_,_,out,_=>out
def Cf:List f_->fD->Nat->fD
|t::ts,out,i=>Cf ts ((if 0<i then out++bs [32,124,32]else out)++vM t tT) (i+1)
|[],out,_=>out
end
def H_(t:f_):Bool:=decide ((kz t).2=0)&&nD (kz t).1 t
def Al(t:f_):fD:=if H_ t=tT then vM t oK else bs []
structure I? where
 tag:Int
 opn:Bool
 t:f_
abbrev qB:=List I?
def I?.enc(p:I?):oQ:=.int .i64 p.tag::.bool p.opn::p.t.enc
def Qq:I?:=⟨0,oK,C_⟩
def jk(t:f_):List I?:=
 if t.d_=0 then [⟨0,oK,bT 1⟩,⟨1,oK,bT 2⟩,⟨2,oK,bT 3⟩,⟨3,oK,bT 4⟩,⟨4,tT,bT 5⟩,⟨5,oK,.mk 6 (bs []) [] [C_,C_]⟩]
 else if t.d_≠7 then [⟨iJ t,oK,t⟩]else t.b_.map λk=>⟨iJ k,oK,k⟩
def jl(l:List I?)(tag:Int):I? × Bool:=match l.find? λp=>decide (p.tag=tag)with
|some p=>(p,tT)
|none=>(Qq,oK)
def vZ:List fD->List f_->fD->f_ × Bool
|n::ns,k::ks,s=>if n=s then(k,tT)else vZ ns ks s
|_,_,_=>(C_,oK)
def jC(t:f_)(s:fD):f_ × Bool:=vZ t.a_ t.b_ s
def Dh(rc:f_->f_->Bool)(m:f_):List fD->List f_->Bool
|s::ss,k::ks=>(jC m s).2&&(rc (jC m s).1 k&&Dh rc m ss ks)
|_,_=>tT
def R?(t:f_):f_:=t.b_.getD 0 C_
def Q?(t:f_):f_:=t.b_.getD 1 C_
def yM (loose:Bool):Nat->f_->f_->Bool
|0,_,_=>oK
| n+1,a,b=>
 if a.d_=0\/b.d_=0 then loose||decide (a.d_=b.d_)else
  (jk a).all λp=>
   let q:=jl (jk b) p.tag
   q.2&&(Dh (yM loose n) p.t q.1.t.a_ q.1.t.b_&&(!decide (q.1.tag=5)||(yM loose n (R? q.1.t) (R? p.t)&&yM loose n (Q? p.t) (Q? q.1.t))))
mutual
def jU:f_->Nat
|.mk _ _ _ l=>jQ l+1
def jQ:List f_->Nat
|[]=>0
|t::l=>max (jU t) (jQ l)
end
def uE(loose:Bool)(a b:f_):Bool:=yM loose (jU a+jU b) a b
def qg(a b:f_):Bool:=H_ a&&(H_ b&&uE oK a b)
def Di(a b:f_):Bool:=H_ a&&(H_ b&&uE tT a b)
def Cg(a b:f_):List Int->List f_->Option (List f_)
|[],l=>sS l
| tag::r,l=>
 let m:=jl (jk a) tag;let n:=jl (jk b) tag
 if m.2=tT/\n.2=tT then
  (if uE oK m.1.t n.1.t=tT then Cg a b r (l++[n.1.t])else if uE oK n.1.t m.1.t=tT then Cg a b r (l++[m.1.t])else nN)
 else if m.2=tT then Cg a b r (l++[m.1.t])else if n.2=tT then Cg a b r (l++[n.1.t])else Cg a b r l
def Bd(a b:f_):f_:=
 if qg a b=tT then b else if qg b a=tT then a
 else if H_ a=oK\/H_ b=oK\/a.d_=0\/b.d_=0 then C_
 else match Cg a b [0,1,2,3,4,5] []with
  |none=>C_
  |some l=>if(kz (.mk 7 (bs []) [] l)).2=0 then(kz (.mk 7 (bs []) [] l)).1 else C_
def yN(t:f_)(tag:Int):f_ × f_:=
 if H_ t=oK\/tag<0\/6<=tag then(t,t)
 else if t.d_=0 then(if tag=5 then(t,t)else(bT (1+tag),t))
 else if(jl (jk t) tag).2=oK then(t,t)
 else if t.d_≠7 then(t,t)
 else match t.b_.filter λk=>decide (iJ k≠tag)with
  |[r]=>((jl (jk t) tag).1.t,r)
  |l=>((jl (jk t) tag).1.t,.mk 7 (bs []) [] l)
def fi{α:Type}(q:α->Bool):Nat->List α->Int
|_,[]=> -1
|j,x::l=>if q x=tT then j else fi q (j+1) l
def iX(a_:oN)(s:fD):Int:=fi (λn=>decide (n=s)) 0 a_
structure iO where
 name:fD
 module:Int
 decl:Int
abbrev sZ:=List (List iO)
abbrev sI:=List iO
def iO.enc(e:iO):oQ:=[.str e.name,.int .i64 e.module,.int .i64 e.decl]
def Dj:iO:=⟨bs [],0,0⟩
structure f? where
 a_:List fD
 u_:List X?
 scopes:List (List iO)
 main:iO
def f?.enc(l:f?):oQ:=[.sl oK 1 (encS l.a_),.sl oK 2 (l.u_.map X?.enc),.sl oK 1 (l.scopes.map λs=>[.sl oK 3 (s.map iO.enc)])]++l.main.enc
def Em:f?:=⟨[],[],[],Dj⟩
def u6:List (fD × fD)->Nat->List fD->List X?->List l?->(List fD × List X?) × List l?
|[],_,ns,ms,bad=>((ns,ms),bad)
|s::l,i,ns,ms,bad=>
 let m:=tN s.2
 u6 l (i+1) (ns++[s.1]) (ms++[m.1]) (if mP s.1=oK then bad++[⟨i,1,1,10⟩]else if 0<=iX ns s.1 then bad++[⟨i,1,1,8⟩]else if m.2.e≠0 then bad++[⟨i,m.2.line,m.2.t_,m.2.e⟩]else bad)
def xN(l:ow):(List fD × List X?) × List l?:=
 if 16<lN l then(([],[]),[⟨16,1,1,19⟩])else u6 l 0 [] [] []
def uF:List iO->fD->iO × Bool
|[],_=>(Dj,oK)
|e::l,s=>if e.name=s then(e,tT)else uF l s
def wV(m:X?)(s:fD):Int:=fi (λd:P?=>decide (d.name=s)) 0 m.T_
def En:P?:=⟨bs [],oK,[],bs [],[],uC,0,0⟩
def pQ(M:X?)(m i:Int)(x:iW):List fD->List iO->List l?->List iO × List l?
|[],sc,bad=>(sc,bad)
|s::l,sc,bad=>
 if wV M s<0\/(M.T_.getD (wV M s).toNat En).exp=oK then pQ M m i x l sc (bad++[⟨i,x.line,x.t_,12⟩])
 else if(uF sc s).2=tT then pQ M m i x l sc (bad++[⟨i,x.line,x.t_,8⟩])
 else pQ M m i x l (sc++[⟨s,m,wV M s⟩]) bad
def Am(ns:oN)(ms:sP)(i:Int)(x:iW)(sc:List iO):List iO × List l?:=
 if iX ns x.from_<0 then(sc,[⟨i,x.line,x.t_,11⟩])else pQ (ms.getD (iX ns x.from_).toNat pO) (iX ns x.from_) i x x.a_ sc []
def Ch(ns:List fD)(ms:List X?)(i:Int):List iW->List iO->List l?->List iO × List l?
|[],sc,bad=>(sc,bad)
|x::l,sc,bad=>Ch ns ms i l (Am ns ms i x sc).1 (bad++(Am ns ms i x sc).2)
def Be(i:Int):List P?->Nat->List iO->List l?->List iO × List l?
|[],_,sc,bad=>(sc,bad)
|d::l,k,sc,bad=>if(uF sc d.name).2=tT then Be i l (k+1) sc (bad++[⟨i,d.line,d.t_,8⟩])else Be i l (k+1) (sc++[⟨d.name,i,k⟩]) bad
def xy(ns:List fD)(ms:List X?):List X?->Nat->List (List iO)->List l?->List (List iO) × List l?
|[],_,all,bad=>(all,bad)
|m::l,i,all,bad=>
 let a:=Ch ns ms i m.z? [] bad;let b:=Be i m.T_ 0 a.1 a.2
 xy ns ms l (i+1) (all++[b.1]) b.2
def Ci(ns:List fD):List iW->List Bool->List Bool
|[],seen=>seen
|x::l,seen=>Ci ns l (if 0<=iX ns x.from_ then seen.set (iX ns x.from_).toNat tT else seen)
def Dk(ns:List fD):List X?->Nat->List Bool->List Bool
|[],_,seen=>seen
|m::l,i,seen=>Dk ns l (i+1) (if seen.getD i oK=tT then Ci ns m.z? seen else seen)
def Js(ns:List fD)(ms:List X?):Nat->List Bool->List Bool
|0,seen=>seen
|n+1,seen=>Js ns ms n (Dk ns ms 0 seen)
def I1(ns:oN)(ms:sP)(f t:Nat):Bool:=(Js ns ms (lN ms) ((List.replicate (lN ms) oK).set f tT)).getD t oK
def Cj(ns:List fD)(ms:List X?)(i:Nat):List iW->List l?->List l?
|[],bad=>bad
|x::l,bad=>Cj ns ms i l (if 0<=iX ns x.from_/\I1 ns ms (iX ns x.from_).toNat i=tT then bad++[⟨i,x.line,x.t_,13⟩]else bad)
def Ck(ns:List fD)(ms:List X?):List X?->Nat->List l?->List l?
|[],_,bad=>bad
|m::l,i,bad=>Ck ns ms l (i+1) (Cj ns ms i m.z? bad)
abbrev yO:=bs [109,97,105,110]
def vN(l:ow):f? × List l?:=
 let f:=xN l
 if 0<lN f.2 then(Em,f.2)else
 let s:=xy f.1.1 f.1.2 f.1.2 0 [] []
 if 0<lN s.2 then(Em,s.2)else
 let t:=Ck f.1.1 f.1.2 f.1.2 0 []
 if 0<lN t then(Em,t)else
 let i:=iX f.1.1 yO
 if i<0 then(Em,[⟨0,1,1,14⟩])else
 let k:=wV (f.1.2.getD i.toNat pO) yO
 if k<0 then(Em,[⟨i,1,1,14⟩])else
 let d:=(f.1.2.getD i.toNat pO).T_.getD k.toNat En
 if 0<lN d.vars then(Em,[⟨i,d.line,d.t_,14⟩])else
 (⟨f.1.1,f.1.2,s.1,⟨yO,i,k⟩⟩,[])
def Bf:List fD->List f_->fD->Option f_
|v::vs,t::ts,s=>if v=s then sS t else Bf vs ts s
|_,_,_=>nN
mutual
def ve(vars:List fD)(V_:List f_):f_->f_ × Bool
| .mk k n s l=>
 if k=8 then(if 0<lN s\/0<lN l then(.mk k n s l,oK)else match Bf vars V_ n with
  |some t=>(t,tT)
  |none=>(.mk k n s l,oK))
 else if(Bg vars V_ l).2=tT then(.mk k n s (Bg vars V_ l).1,tT)else(.mk k n s l,oK)
def Bg(vars:List fD)(V_:List f_):List f_->List f_ × Bool
|[]=>([],tT)
|t::l=>if(ve vars V_ t).2=tT then((ve vars V_ t).1::(Bg vars V_ l).1,(Bg vars V_ l).2)else([],oK)
end
def uG(t:f_)(vars:oN)(V_:oL):f_ × Int:=
 if lN vars≠lN V_ then(C_,1)else if 200<mR t 201\/16<nC 17 t then(C_,9)
 else if(ve vars V_ t).2=tT then kz (ve vars V_ t).1 else(C_,9)
def Jt:List (fD × f_)->List f_->List fD->List f_->Int
|v::vs,t::ts,a_,_G=>
 if H_ t=oK then 18
 else if v.2.d_≠0/\((uG v.2 a_ _G).2≠0\/qg t (uG v.2 a_ _G).1=oK)then 18
 else Jt vs ts (a_++[v.1]) (_G++[t])
|_,_,_,_=>0
def I4(vars:sV)(l:oL):Int:=if lN vars≠lN l then 18 else Jt vars l [] []
structure jc where
 module:Int
 decl:Int
 types:List f_
def jc.enc(x:jc):oQ:=[.int .i64 x.module,.int .i64 x.decl,.sl oK 4 (x.types.map f_.enc)]
def Dl(a b:jc):Bool:=decide (a.module=b.module)&&(decide (a.decl=b.decl)&&vY nD a.types b.types)
def jf(most:Int)(L:List jc)(x:jc):(Int × Int) × List jc:=
 if(x.types.all H_)=oK then((0,9),L)
 else if 0<=fi (λy=>Dl y x) 0 L then((fi (λy=>Dl y x) 0 L,0),L)
 else if most<=lN L then((0,19),L)else((lN L,0),L++[x])
inductive n_ where
 |mk (d_ n:Int) (text:fD) (ints:List Int) (a_:List fD) (types:List f_) (cos:List gT) (b_:List n_)
abbrev o8:=List n_
mutual
def n_.enc:n_->List D
 |.mk k n t is ns ts cs ks=>[.int .i64 k,.int .i64 n,.str t,.sl oK 1 (encI is),.sl oK 1 (encS ns),.sl oK 4 (ts.map f_.enc),.sl oK 5 (cs.map gT.enc),.sl oK 8 (n_.j? ks)]
def n_.j?:List n_->List (List D)
 |[]=>[]
 |c::l=>n_.enc c::n_.j? l
end
def n_.q?(l:List n_):n_.j? l=l.map n_.enc:=by
 induction l with
 |nil=>rfl
 |cons n l ih=>simp[n_.j?,ih]
def n_.d_:n_->Int|.mk k _ _ _ _ _ _ _=>k
def n_.n:n_->Int|.mk _ n _ _ _ _ _ _=>n
def n_.text:n_->fD|.mk _ _ t _ _ _ _ _=>t
def n_.ints:n_->oW|.mk _ _ _ i _ _ _ _=>i
def n_.a_:n_->oN|.mk _ _ _ _ n _ _ _=>n
def n_.types:n_->oL|.mk _ _ _ _ _ t _ _=>t
def n_.cos:n_->sN|.mk _ _ _ _ _ _ c _=>c
def n_.b_:n_->List n_|.mk _ _ _ _ _ _ _ l=>l
def n_.l_(t:n_):t.enc=[.int .i64 t.d_,.int .i64 t.n,.str t.text,.sl oK 1 (encI t.ints),.sl oK 1 (encS t.a_),.sl oK 4 (t.types.map f_.enc),.sl oK 5 (t.cos.map gT.enc),.sl oK 8 (t.b_.map n_.enc)]:=by
 cases t;simp[n_.enc,n_.q?,n_.d_,n_.text,n_.n,n_.ints,n_.cos,n_.types,n_.a_,n_.b_]
@[simp] theorem n_.F_(t:n_):lN t.enc=8:=by rw[t.l_];try rfl
structure jN where
  name:fD
  type:f_
  body:n_
def jN.enc(f:jN):oQ:=.str f.name::(f.type.enc++f.body.enc)
structure Site where
  module:Int
  line:Int
  t_:Int
def Site.enc(s:Site):oQ:=[.int .i64 s.module,.int .i64 s.line,.int .i64 s.t_]
structure lC where
  v_:List jN
  main:Int
  sites:List Site
def lC.enc(p:lC):oQ:=[.sl oK 13 (p.v_.map jN.enc),.int .i64 p.main,.sl oK 3 (p.sites.map Site.enc)]
def Ao:lC:=⟨[],0,[]⟩
structure CS where
  n?:List jc
  v_:List jN
  main:Int
  sites:List Site
  bad:List l?
  module:Int
  vars:List fD
  V_:List f_
  e:Int
  line:Int
  t_:Int
abbrev Env:=List (fD × f_)
abbrev Inf:=Env->CS->(n_ × f_) × CS
def cK(k:Int)(l:List n_):n_:=.mk k 0 (bs []) [] [] [] [] l
def cN(k n:Int):n_:=.mk k n (bs []) [] [] [] [] []
def cT(k:Int)(t:fD)(l:List n_):n_:=.mk k 0 t [] [] [] [] l
def noC:n_:=cN 0 0
def jO(a b:f_):f_:=.mk 6 (bs []) [] [a,b]
def jw(ln cl e:Int)(s:CS):CS:=if s.e=0 then {s with e:=e,line:=ln,t_:=cl}else s
def ig(t:f_)(ln cl:Int)(s:CS):f_ × CS:=
 let r:=uG t s.vars s.V_
 (r.1,if r.2≠0 then jw ln cl 9 s else s)
def qh(t:f_)(ln cl:Int)(s:CS):f_ × CS:=((kz t).1,if(kz t).2≠0 then jw ln cl 9 s else s)
def lD(x:n_)(t u:f_)(ln cl:Int)(s:CS):n_ × CS:=
 if s.e≠0 then(x,s)else(.mk 21 (lN s.sites) (bs []) [] [] [t,u] [] [x],{s with sites:=s.sites++[⟨s.module,ln,cl⟩]})
def jq(x:n_)(t u:f_)(ln cl:Int)(s:CS):n_ × CS:=
 if s.e≠0 then(x,s)else if qg t u=tT then(x,s)else if Di t u=tT then lD x t u ln cl s else(x,jw ln cl 15 s)
section
variable (L:f?)
def xO(m k:Int):P?:=(L.u_.getD m.toNat pO).T_.getD k.toNat En
def vg(e:iO)(l:oL):f_ × Bool:=
 let d:=xO L e.module e.decl;let a:=uG (d.types.getD 0 C_) (d.vars.map (·.1)) l;let b:=uG (d.types.getD 1 C_) (d.vars.map (·.1)) l;let t:=kz (jO a.1 b.1)
 (t.1,decide (a.2=0)&&(decide (b.2=0)&&decide (t.2=0)))
def vk (ln cl:Int) (e:iO) (l:oL) (s:CS):(n_ × f_) × CS:=
 if(vg L e l).2=oK then((noC,C_),jw ln cl 9 s)else
   let r:=jf 256 s.n? ⟨e.module,e.decl,l⟩
   ((cN 6 r.1.1,(vg L e l).1),if r.1.2≠0 then jw ln cl r.1.2 {s with n?:=r.2}else {s with n?:=r.2})
def u7(env:Env)(x:fD):Int:=match fi (λb:fD × f_=>decide (b.1=x)) 0 env.reverse with
 |i=>if i<0 then -1 else lN env-1-i
def vO(ln cl:Int):List f_->List f_->CS->List f_ × CS
 |[],l,s=>(l,s)
 |t::ts,l,s=>if s.e≠0 then(l,s)else vO ln cl ts (l++[(ig t ln cl s).1]) (ig t ln cl s).2
def zu (n:o_) (env:Env) (s:CS):(n_ × f_) × CS:=
 let k:=u7 env n.text;let e:=uF (L.scopes.getD s.module.toNat []) n.text
 if 0<=k/\n.d_=4 then((cN 4 k,(env.getD k.toNat (bs [],C_)).2),s)
 else if k<0/\e.2=oK then((noC,C_),jw n.line n.t_ 10 s)
 else if 0<=k then((noC,C_),jw n.line n.t_ 18 s)
 else
   let d:=xO L e.1.module e.1.decl
   if decide (0<lN d.vars)≠decide (n.d_=19)then((noC,C_),jw n.line n.t_ 18 s)
   else if n.d_=4 then vk L n.line n.t_ e.1 [] s
   else
     let r:=vO n.line n.t_ n.types [] s
     if r.2.e≠0 then((noC,C_),r.2)
     else if I4 d.vars r.1≠0 then((noC,C_),jw n.line n.t_ (I4 d.vars r.1) r.2)
     else vk L n.line n.t_ e.1 r.1 r.2
end
def qi (n a:o_) (ia ib:Inf) (env:Env) (s:CS):(n_ × f_) × CS:=
 let x:=ia env s
 let y:=if 0<lN n.types/\x.2.e=0 then
     (let u:=ig (n.types.getD 0 C_) n.line n.t_ x.2
      let z:=jq x.1.1 x.1.2 u.1 a.line a.t_ u.2
      ((z.1,u.1),z.2))
   else x
 let z:=ib (env++[(n.text,y.1.2)]) y.2
 ((cK 18 [y.1.1,z.1.1],z.1.2),z.2)
def zw(n a:o_)(ia:Inf)(env:Env)(s:CS):(n_ × f_) × CS:=
 let p:=ig (n.types.getD 0 C_) n.line n.t_ s;let q:=if 1<lN n.types/\p.2.e=0 then ig (n.types.getD 1 C_) n.line n.t_ p.2 else(C_,p.2);let x:=ia (env++[(n.text,p.1)]) q.2;let y:=if 1<lN n.types then(let z:=jq x.1.1 x.1.2 q.1 a.line a.t_ x.2;((z.1,q.1),z.2))else x;let u:=qh (jO p.1 y.1.2) n.line n.t_ y.2
 ((cK 5 [y.1.1],u.1),u.2)
def jZ(u:f_)(ln cl:Int)(x:(n_ × f_) × CS):(n_ × f_) × CS:=
 if x.1.2.d_=0 then(((lD x.1.1 x.1.2 u ln cl x.2).1,u),(lD x.1.1 x.1.2 u ln cl x.2).2)else x
def zx (n b:o_) (ia ib:Inf) (env:Env) (s:CS):(n_ × f_) × CS:=
 let x:=jZ (jO C_ C_) n.line n.t_ (ia env s)
 if x.1.2.d_≠6 then((noC,C_),jw n.line n.t_ 16 x.2)else
   let y:=ib env x.2;let z:=jq y.1.1 y.1.2 (R? x.1.2) b.line b.t_ y.2
   ((cK 7 [x.1.1,z.1],Q? x.1.2),z.2)
def kZ:List fD->List fD->Bool
 |_,[]=>oK
 |_G,n::l=>_G.any (λm=>decide (m=n))||kZ (_G++[n]) l
def rW(n:o_)(ks:Env->CS->(List n_ × List f_) × CS)(env:Env)(s:CS):(n_ × f_) × CS:=
 let s1:=if kZ [] n.a_=tT then jw n.line n.t_ 8 s else s;let r:=ks env s1;let u:=qh (.mk 5 (bs []) n.a_ r.1.2) n.line n.t_ r.2
 ((.mk 8 0 (bs []) [] n.a_ [] [] r.1.1,u.1),u.2)
def qj(n:o_)(ia:Inf)(env:Env)(s:CS):(n_ × f_) × CS:=
 let x:=ia env s;let f:=jC x.1.2 n.text;let y:=if x.1.2.d_=0 then lD x.1.1 x.1.2 (.mk 5 (bs []) [n.text] [C_]) n.line n.t_ x.2 else(x.1.1,x.2)
 ((cT 9 n.text [y.1],f.1),if f.2=tT\/x.1.2.d_=0 then y.2 else jw n.line n.t_ 17 y.2)
def vB(x:fD):List fD->List f_->List (fD × f_)
 |n::ns,k::ks=>if n=x then vB x ns ks else(n,k)::vB x ns ks
 |_,_=>[]
def zy (n:o_) (ia ib:Inf) (env:Env) (s:CS):(n_ × f_) × CS:=
 let x:=jZ (bT 5) n.line n.t_ (ia env s)
 if x.1.2.d_≠5 then((noC,C_),jw n.line n.t_ 17 x.2)else
   let y:=ib env x.2;let r:=(n.text,y.1.2)::vB n.text x.1.2.a_ x.1.2.b_;let u:=qh (.mk 5 (bs []) (r.map (·.1)) (r.map (·.2))) n.line n.t_ y.2
   ((cT 10 n.text [x.1.1,y.1.1],u.1),u.2)
def pE (q:o_) (env:Env):Env × Env:=
 if q.d_=12/\(q.b_.getD 0 uC).d_=4/\0<=u7 env (q.b_.getD 0 uC).text then
   let k:=(u7 env (q.b_.getD 0 uC).text).toNat;let b:=env.getD k (bs [],C_)
   (env.set k (b.1,(yN b.2 q.n).1),env.set k (b.1,(yN b.2 q.n).2))
 else(env,env)
def zz(q a b:o_)(iq ia ib:Inf)(env:Env)(s:CS):(n_ × f_) × CS:=
 let x:=iq env s;let x':=jq x.1.1 x.1.2 (bT 2) q.line q.t_ x.2;let y:=ia (pE q env).1 x'.2;let z:=ib (pE q env).2 y.2;let j:=Bd y.1.2 z.1.2;let y':=jq y.1.1 y.1.2 j a.line a.t_ z.2;let z':=jq z.1.1 z.1.2 j b.line b.t_ y'.2
 ((cK 11 [x'.1,y'.1,z'.1],j),z'.2)
def AA (n:o_) (ia:Inf) (env:Env) (s:CS):(n_ × f_) × CS:=
 let x:=ia env s
 if x.2.e≠0 then x else
   let u:=ig (n.types.getD 0 C_) n.line n.t_ x.2
   if u.2.e≠0\/qg x.1.2 u.1=tT then((x.1.1,u.1),u.2)else
     let y:=if x.1.2.d_≠0 then lD x.1.1 x.1.2 C_ n.line n.t_ u.2 else(x.1.1,u.2)
     if u.1.d_=0 then((y.1,u.1),y.2)
     else if x.1.2.d_=0 then(((lD y.1 x.1.2 u.1 n.line n.t_ y.2).1,u.1),(lD y.1 x.1.2 u.1 n.line n.t_ y.2).2)
     else((.mk 21 y.1.n (bs []) [] [] [C_,u.1] [] [y.1],u.1),y.2)
def mF(n:o_)(i:Inf)(t:f_)(env:Env)(s:CS):n_ × CS:=
 let x:=i env s
 jq x.1.1 x.1.2 t n.line n.t_ x.2
def yP:oN:=[bs [43],bs [45],bs [42],bs [47],bs [37],bs [60,60],bs [62,62],bs [38],bs [94],bs [60],bs [60,61]]
def Eo(s:fD):Int:=max 0 (fi (λx=>decide (x=s)) 0 yP)
def opC (n a b:o_) (ia ib:Inf) (env:Env) (s:CS):(n_ × f_) × CS:=
 if n.text=bs [111,114]then
   let x:=mF a ia (bT 2) env s;let y:=mF b ib (bT 2) env x.2
   ((cK 11 [x.1,cN 2 1,y.1],bT 2),y.2)
 else if n.text=bs [97,110,100]then
   let x:=mF a ia (bT 2) env s;let y:=mF b ib (bT 2) env x.2
   ((cK 11 [x.1,y.1,cN 2 0],bT 2),y.2)
 else if n.text=bs [61,61]then
   let x:=ia env s;let y:=ib env x.2
   ((cK 14 [x.1.1,y.1.1],bT 2),y.2)
 else if n.text=bs [43,43]then
   let x:=mF a ia (bT 4) env s;let y:=mF b ib (bT 4) env x.2
   ((cK 15 [x.1,y.1],bT 4),y.2)
 else
   let x:=mF a ia (bT 3) env s;let y:=mF b ib (bT 3) env x.2
   ((.mk 13 (Eo n.text) (bs []) [] [] [] [] [x.1,y.1],if 9<=Eo n.text then bT 2 else bT 3),y.2)
def ql(n a:o_)(ia:Inf)(env:Env)(s:CS):(n_ × f_) × CS:=
 if n.d_=15 then((cK 16 [(mF a ia (bT 2) env s).1],bT 2),(mF a ia (bT 2) env s).2)
 else if n.d_=16 then((cK 17 [(mF a ia (bT 3) env s).1],bT 3),(mF a ia (bT 3) env s).2)
 else if n.d_=12 then((.mk 12 n.n (bs []) [] [] [] [] [(ia env s).1.1],bT 2),(ia env s).2)
 else((cK 19 [(ia env s).1.1],bT 1),(ia env s).2)
mutual
def iD (L:f?):o_->Inf
 | .mk k tx nn ln cl ts ns ks=>λenv s=>
   if s.e≠0 then((noC,C_),s)
   else if k=0 then((cN 0 nn,bT 3),s)
   else if k=1 then((cT 1 tx [],bT 4),s)
   else if k=2 then((cN 2 nn,bT 2),s)
   else if k=3 then((cN 3 0,bT 1),s)
   else if k=18 then((cN 20 0,bT 3),s)
   else if k=4\/k=19 then zu L (.mk k tx nn ln cl ts ns ks) env s
   else if k=8 then rW (.mk k tx nn ln cl ts ns ks) (nP L ks) env s
   else match ks with
     |[]=>((noC,C_),s)
     | a::[]=>
       if k=6 then zw (.mk k tx nn ln cl ts ns ks) a (iD L a) env s
       else if k=9 then qj (.mk k tx nn ln cl ts ns ks) (iD L a) env s
       else if k=13 then AA (.mk k tx nn ln cl ts ns ks) (iD L a) env s
       else ql (.mk k tx nn ln cl ts ns ks) a (iD L a) env s
     | a::b::[]=>
       if k=5 then qi (.mk k tx nn ln cl ts ns ks) a (iD L a) (iD L b) env s
       else if k=7 then zx (.mk k tx nn ln cl ts ns ks) b (iD L a) (iD L b) env s
       else if k=10 then zy (.mk k tx nn ln cl ts ns ks) (iD L a) (iD L b) env s
       else opC (.mk k tx nn ln cl ts ns ks) a b (iD L a) (iD L b) env s
     |a::b::c::_=>zz a b c (iD L a) (iD L b) (iD L c) env s
def nP (L:f?):List o_->Env->CS->(List n_ × List f_) × CS
 |[]=>λenv s=>(([],[]),s)
 | n::l=>λenv s=>
   let x:=iD L n env s;let r:=nP L l env x.2
   ((x.1.1::r.1.1,x.1.2::r.1.2),r.2)
end
def xP:List f_->Nat->fD->fD
 |[],_,s=>s
 |t::l,i,s=>xP l (i+1) (s++(if i=0 then bs [91]else bs [44,32])++Al t)
def lL(L:f?)(x:jc)(s0:CS):CS:=
 let d:=xO L x.module x.decl;let s:CS:={s0 with module:=x.module,vars:=d.vars.map (·.1),V_:=x.types,e:=0}
 let a:=ig (d.types.getD 0 C_) d.line d.t_ s;let b:=ig (d.types.getD 1 C_) d.line d.t_ a.2;let t:f_ × CS:=if b.2.e=0 then qh (jO a.1 b.1) d.line d.t_ b.2 else(jO a.1 b.1,b.2);let s2:CS:=if x.module=L.main.module/\x.decl=L.main.decl/\Di (bT 1) a.1=oK then jw d.line d.t_ 14 t.2 else t.2;let y:=iD L d.body [(d.param,a.1)] s2;let z:=jq y.1.1 y.1.2 b.1 d.body.line d.body.t_ y.2;let nm:=xP x.types 0 (L.a_.getD x.module.toNat (bs [])++bs [46]++d.name);let nm:=if 0<lN x.types then nm++bs [93]else nm;let s3:CS:={z.2 with v_:=z.2.v_++[⟨nm,t.1,z.1⟩]}
 if s3.e≠0 then {s3 with bad:=s3.bad++[⟨x.module,s3.line,s3.t_,s3.e⟩]}else s3
def vE (L:f?) (i:Nat):List P?->Nat->CS->CS × List l?
 |[],_,s=>(s,[])
 | d ::l,k,s=>
   if 0<lN d.vars then vE L i l (k+1) s else
     let r:=jf 256 s.n? ⟨i,k,[]⟩
     if r.1.2≠0 then({s with n?:=r.2},[⟨i,d.line,d.t_,r.1.2⟩])
     else vE L i l (k+1) {s with n?:=r.2,main:=if(i:Int)=L.main.module/\(k:Int)=L.main.decl then r.1.1 else s.main}
def nE(L:f?):List X?->Nat->CS->CS × List l?
 |[],_,s=>(s,[])
 |m::l,i,s=>if 0<(vE L i m.T_ 0 s).2.length then vE L i m.T_ 0 s else nE L l (i+1) (vE L i m.T_ 0 s).1
def nG(L:f?):Nat->Nat->CS->CS
 |0,_,s=>s
 |n+1,i,s=>if i<lN s.n? then nG L n (i+1) (lL L (s.n?.getD i ⟨0,0,[]⟩) s)else s
def cs0:CS:=⟨[],[],0,[],[],0,[],[],0,0,0⟩
def Cm (L:f?):lC × List l?:=
 let a:=nE L L.u_ 0 cs0
 if 0<lN a.2 then(Ao,a.2)else
   let s:=nG L 257 0 a.1
   if 0<lN s.bad then(Ao,s.bad)else(⟨s.v_,s.main,s.sites⟩,[])
def rY:List (fD × fD)->Int->Bool
 |[],_=>tT
 |s::l,n=>if 70000-n<s.2.size\/1000<s.1.size then oK else rY l (n+s.2.size)
def vo:List (fD × fD)->Int
 |[]=>0
 |s::l=>s.2.size+vo l
def uH (l:ow):lC × Bool:=
 if 20<lN l\/rY l 0=oK\/5000<vo l then(Ao,oK)else
   let x:=vN l
   if 0<lN x.2 then(Ao,oK)else
     let r:=Cm x.1
     (r.1,decide (lN r.2=0))
end Go.Gr
namespace Go.Gr
open Go.Abs Go.Proofs List
def Qr(c:Int):h_ Pg 90 [.one (.int .u8 c)] (.one (.bool (xE c))):=by
 refine zxh oC λo c' hN hp=>?_;unfold Xg xE;by_cases h1:97<=c<;>by_cases h2:c<=122<;>by_cases h3:65<=c<;>by_cases h4:c<=90<;>simp[h1,h2,h3,h4]<;>(try (intros;omega))<;>(try omega)
def Mf(c:Int):h_ Pg 89 [.one (.int .u8 c)] (.one (.bool (rT c))):=by
 refine zzj oC λo c' hN hp=>?_;unfold Xh rT;by_cases h1:48<=c<;>by_cases h2:c<=57<;>simp[h1,h2]<;>(try omega)
def zHy:h_ Pg 140 [] (.one (.sl oK 1 (encS Jc))):=by
 refine zzi oC λo c' hN hp=>?_;unfold Xd;simp[Jc,encS]
theorem Qs(s:fD):h_ Pg 88 [.one (.str s)] (.one (.bool (Dc s))):=by
 refine zBI oC λo c' hN hp=>?_;unfold Xf Dc;have hl:lN Jc=25:=rfl;let⟨l,hwl⟩:=oJ Jc;rw[hwl]at hl⊢;let⟨R,hR⟩:=oJ (l.any λw=>decide (w=s));rw[hR];have hw:=zHy;rw[hwl]at hw;simp;apply gQ hw;simp;refine fM gm hp (λj:Nat=>j<=lN l/\(l.drop j).any (λw=>decide (w=s))=R) (λj=>[(4,.c (.d (.int .i64 j))),(3,.c (.d (.sl oK 1 (encS l)))),(0,.c (.d (.str s)))]) (λ_=>[]) (λj=>lN l-j) 0 [] ⟨oC,uM hR⟩ oC λj ⟨h1,h2⟩=>?_;simp[Xe];apply gM<;>intro h
 .have hj:j<lN l:=uM h;rw[aF hj,any_cons]at h2;simp[aA hj];apply gM<;>intro h
  .rw[h]at h2;simp[<-h2]
  .rw[h]at h2;apply fE (j+1) [] ⟨oM,h2⟩ oM;simp;exact wI
 .have hj:j=lN l:=oI h;subst hj;rw[aS,any_nil]at h2;simp[<-h2]
def zKC{a b:o9}(h:bA a=bA b):a=b:=by
 have:(bA a).data.toList=(bA b).data.toList:=by rw[h]
 simpa[bA]using this
def Qt(s:fD):bA s.data.toList=s:=by
 cases s;simp[bA]
def Mg(s:fD)(a b:Nat):s.extract a b=bA ((s.data.toList.drop a).take (b-a)):=by
 rw[<-Qt (s.extract a b)];congr 1;simp[ByteArray.data_extract,Array.toList_extract]
theorem zAV(s:fD):h_ Pg 55 [.one (.str s)] (.one (.bool (mP s))):=by
 refine zBJ oC λo c' hN hp=>?_;have hs:s.size<=zaf:=by have:=o.1;simpa only[DV.ok,D.ok]using this
 unfold zaf at hs;have hlen:=xK s;let⟨R,hR⟩:=oJ (mP s);rw[hR];unfold mP at hR;unfold Xj;by_cases h0:s.size=0
 .have hL:s.data.toList=[]:=aW.1 oM;rw[hL]at hR;simp only at hR;subst hR;simp;apply gQ (Qs s);simp[h0]
 have hj0:0<lN s.data.toList:=oM;have _u:=zt hj0;have hR:(decide (s.size<=32)&&(!Dc s&&(!jG s.data.toList[0]&&s.data.toList.all λb=>lY b||jG b)))=R:=by
  rw[<-hR];revert hj0;cases s.data.toList with
  |nil=>intro h;simp at h
  |cons c l=>intro h _;rfl
 simp;apply gQ (Qs s);have h0':¬(s.size:Int)=0:=oM;by_cases h32:s.size<=32;rotate_left
 .have h32':(32:Int)<s.size:=oM;simp[h32]at hR;simp[h0,h0',h32',hR]
 have h32':¬(32:Int)<s.size:=oM;simp only[h32,decide_true,Bool.true_and]at hR;generalize Dc s=wv at*
 cases wv with
 |true=>
  simp at hR;simp[h0,h0',h32',hR]
 | false=>
  simp only[Bool.not_false,Bool.true_and]at hR;generalize s.data.toList[0]=b0 at*
  have hd:jG b0=rT b0.toNat:=rfl;simp[h0,h0',h32',_u];apply gQ (Mf b0.toNat);rw[<-hd];generalize jG b0=d0 at*
  cases d0 with
  |true=>
   simp at hR;simp[hR]
  | false=>
   simp only[Bool.not_false,Bool.true_and]at hR;simp;refine fM gm hp (λj:Nat=>j<=s.size/\((s.data.toList.drop j).all λb=>lY b||jG b)=R) (λj=>[(4,.c (.d (.int .i64 j))),(0,.c (.d (.str s)))]) (λ_=>[]) (λj=>s.size-j) 0 [] ⟨oC,uM hR⟩ oC λj ⟨h1,h2⟩=>?_;simp[Xi];apply gM<;>intro h
   .have hj:j<s.size:=uM h;have _q:j<lN s.data.toList:=oM;rw[aF _q,all_cons]at h2;have hb:=zt _q;generalize s.data.toList[j]=b at h2 hb;have hd:jG b=rT b.toNat:=rfl;have hle:lY b=xE b.toNat:=rfl;simp[hb];apply gQ (Qr b.toNat);rw[<-hle];simp[hb];apply gQ (Mf b.toNat);rw[<-hd];generalize lY b=x1 at*
    generalize jG b=x2 at*
    cases x1<;>cases x2
    .simp at h2;simp[h2]
    all_goals
     simp only[Bool.or_true,Bool.true_or,Bool.true_and,Bool.or_self]at h2;simp;apply fE (j+1) [] ⟨oM,h2⟩ oM;simp;exact wI
   .have hj:j=s.size:=oI h;subst hj;rw[bR oM,all_nil]at h2;simp[<-h2]
def kS:oN:=[bs [45,62],bs [61,62],bs [60,58],bs [60,60],bs [60,61],bs [62,62],bs [61,61],bs [43,43]]
def xQ:fD:=bs [40,41,123,125,91,93,44,58,59,61,43,45,42,47,37,38,94,60,124,46]
def zJp:kS=ze.map bA:=by decide
def Qu:xQ.data.toList=mO:=by decide
def zJq(s:fD):(ze.any λt=>decide (s.data.toList.take 2=t))=(kS.any λt=>decide (s.extract 0 2=t)):=by
 rw[zJp,any_map];congr 1;funext t;simp only[Function.comp];rw[Mg];simp only[fC,dW];by_cases h:s.data.toList.take 2=t
 .simp[h]
 .have:¬bA (s.data.toList.take 2)=bA t:=λe=>h (zKC e);simp[h,this]
def zFd{s:fD}(h:s.size<2):(ze.any λt=>decide (s.data.toList.take 2=t))=oK:=by
 have hlen:=xK s;rw[eZ];intro t ht;have h2:lN t=2:=by
  revert t;decide
 simp only[aI];intro e;have:=dM length e;rw[bz]at this;omega
theorem zJr(s:fD)(hpos:0<s.size):h_ Pg 198 [.one (.str s)] (.one (.int .i64 (CZ s.data.toList))):=by
 refine zBK oC λo c' hN hp=>?_;have hs:s.size<=zaf:=by have:=o.1;simpa only[DV.ok,D.ok]using this
 unfold zaf at hs;have hlen:=xK s;let⟨R,hR⟩:=oJ (CZ s.data.toList);rw[hR];have hj0:0<lN s.data.toList:=oM;have _u:=zt hj0;have hR:(if(ze.any λt=>decide (s.data.toList.take 2=t))=tT then 2 else if s.data.toList[0]∈mO then 1 else 0)=R:=by
  rw[<-hR];revert hj0;unfold CZ;cases s.data.toList with
  |nil=>intro h;simp at h
  |cons c l=>intro h _;rfl
 generalize s.data.toList[0]=b0 at*
 have k2:∀{Q:Exit->St->Prop} {S:St} {g} {ms:oO} (h0:gy ms S [(6,.c (.d (.int .i64 0))),(5,.c (.d (.str xQ))),(0,.c (.d (.str s)))] []),
   (b0∈mO->∀T M n,Abs.look T 2=.c (.d (.int .i64 1))->Q .ret ⟨T,M,n⟩)->(b0∉mO->∀T M n,Q (.exit 2) ⟨T,M,n⟩)->mI Pg c' QH Q g S:=by
  intro Q S g ms h0 hy hn;refine fM gm hp (λj:Nat=>j<=lN mO/\(b0∈mO.drop j↔b0∈mO)) (λj=>[(6,.c (.d (.int .i64 j))),(5,.c (.d (.str xQ))),(0,.c (.d (.str s)))]) (λ_=>[]) (λj=>lN mO-j) 0 ms ⟨oC,oC⟩ h0 λj ⟨h1,h2⟩=>?_;have hsz:xQ.size=lN mO:=by rw[<-xK,Qu]
  unfold QH;simp[hsz];apply gM<;>intro h
  .have hj:j<lN mO:=uM h;have hb:xQ.data[j]?=sS mO[j]:=by
    have:=zt (s:=xQ) (j:=j) (by rw[Qu];exact hj);rw[this];simp only[Qu]
   rw[aF hj,aM]at h2;generalize mO[j]=b at*
   simp[_u,hb];refine oG ?_;by_cases e:b0=b
   .subst e;simp;exact hy (h2.1 (.inl rfl)) _ _ _ oC
   .have e':¬(b0.toNat:Int)=b.toNat:=λq=>e (dm.mp oM);have e'':¬b0.toNat=b.toNat:=λq=>e (dm.mp oM);simp[e',e'',e];refine fE (j+1) [] ⟨oM,⟨λz=>h2.1 (.inr z),λz=>(h2.2 z).resolve_left e⟩⟩ oM ?_;simp;exact wrap_i64 (by have:lN mO=20:=rfl;omega) (by have:lN mO=20:=rfl;omega)
  .have hj:j=lN mO:=oI h;subst hj;rw[aS]at h2;exact hn (λz=>uM (h2.2 z)) _ _ _
 unfold Xk;simp;by_cases h2s:s.size<2
 .have hz:=zFd h2s;rw[hz]at hR;simp only[bD,if_false]at hR;have h2':¬(2:Int)<=s.size:=oM;refine fM gm hp (λj:Nat=>j<=lN kS) (λj=>[(4,.c (.d (.int .i64 j))),(3,.c (.d (.sl tT 1 (encS kS)))),(0,.c (.d (.str s)))]) (λ_=>[]) (λj=>lN kS-j) 0 [] oC (by simp[encS,kS]) λj h1=>?_;unfold QG;simp;apply gM<;>intro h
  .have hj:j<lN kS:=uM h;simp[h2'];refine oG ?_;refine fE (j+1) [] oM oM ?_;simp;exact wrap_i64 (by have:lN kS=8:=rfl;omega) (by have:lN kS=8:=rfl;omega)
  .skip
   refine k2 (ms:=[]) (by simp[xQ]) (λhm T M n ht=>?_) (λhm T M n=>?_)
   .rw[aC hm]at hR;subst hR;simp[ht]
   .rw[aB hm]at hR;subst hR;simp
 .rw[zJq]at hR;have h2':(2:Int)<=s.size:=oM;have h2'':2<=s.size:=oM;refine fM gm hp (λj:Nat=>j<=lN kS/\(kS.drop j).any (λt=>decide (s.extract 0 2=t))=kS.any (λt=>decide (s.extract 0 2=t))) (λj=>[(4,.c (.d (.int .i64 j))),(3,.c (.d (.sl tT 1 (encS kS)))),(0,.c (.d (.str s)))]) (λ_=>[]) (λj=>lN kS-j) 0 [] ⟨oC,oC⟩ (by simp[encS,kS]) λj ⟨h1,h3⟩=>?_;unfold QG;simp;apply gM<;>intro h
  .have hj:j<lN kS:=uM h;rw[aF hj,any_cons]at h3;simp[h2',h2'',aA hj];generalize kS[j]=u at*
   by_cases e:s.extract 0 2=u
   .rw[<-h3]at hR;simp[e]at hR;subst hR;simp[e];decide
   .simp[e]at h3⊢;refine oG ?_;refine fE (j+1) [] ⟨oM,uM h3⟩ oM ?_;simp;exact wrap_i64 (by have:lN kS=8:=rfl;omega) (by have:lN kS=8:=rfl;omega)
  .have hj:j=lN kS:=oI h;subst hj;rw[aS,any_nil]at h3;rw[<-h3]at hR;simp only[bD,if_false]at hR;simp;refine k2 (ms:=[]) (by simp[xQ]) (λhm T M n ht=>?_) (λhm T M n=>?_)
   .rw[aC hm]at hR;subst hR;simp[ht]
   .rw[aB hm]at hR;subst hR;simp
def ub(b c:UInt8):b=c↔(b.toNat:Int)=c.toNat:=⟨λh=>by rw[h],λh=>dm.mp oM⟩
def Qv(b c:UInt8):b=c↔b.toNat=c.toNat:=⟨λh=>by rw[h],λh=>dm.mp h⟩
def un{b c:UInt8}(h:¬b=c):¬(b.toNat:Int)=c.toNat/\¬b.toNat=c.toNat:=⟨λe=>h ((ub b c).2 e),λe=>h ((Qv b c).2 e)⟩
def zGd(s:fD):h_ Pg 177 [.one (.str s)] (.one (.int .i64 (k? oK s.data.toList))):=by
 refine zzk oC λo c' hN hp=>?_;have hs:s.size<=zaf:=by have:=o.1;simpa only[DV.ok,D.ok]using this
 unfold zaf at hs;have hlen:=xK s;let⟨R,hR⟩:=oJ (k? oK s.data.toList);rw[hR]
 have k2:∀{Q:Exit->St->Prop} {S:St} {g} {ms:oO} (k:Nat) (hk:k<s.size) (_A:s.data[k]?≠sS 10) (hq:k+k? tT (s.data.toList.drop k)=R) (h0:gy ms S [(3,.c (.d (.int .i64 k))),(0,.c (.d (.str s)))] []),
   (∀j T M n,j<=s.size->k<j->j+k? oK (s.data.toList.drop j)=R->Abs.look T 3=.c (.d (.int .i64 j))->Abs.look T 0=.c (.d (.str s))->Q (.exit 2) ⟨T,M,n⟩)->mI Pg c' QI Q g S:=by
  intro Q S g ms k hk _A hq h0 hn;refine fM gm hp (λj:Nat=>j<=s.size/\k<=j/\j+k? tT (s.data.toList.drop j)=R) (λj=>[(3,.c (.d (.int .i64 j))),(0,.c (.d (.str s)))]) (λ_=>[]) (λj=>s.size-j) k ms ⟨oM,aJ _,hq⟩ h0 λj ⟨h1,h2,h3⟩=>?_;simp[QI];apply gM<;>intro h
  .have hj:j<s.size:=uM h;have _q:j<lN s.data.toList:=oM;rw[aF _q,k?]at h3;have hd:=aF _q;have hb:=zt _q;generalize s.data.toList[j]=b at h3 hb hd;by_cases e:b=10
   .subst e;simp[hb];refine hn j _ _ _ h1 ?_ ?_ oC oC
    .rcases aY k j with h|h
     .exact h
     .have:j=k:=oM;subst this;exact absurd hb _A
    rw[hd,k?];simpa using h3
   .have e':=un e;simp at e';simp[hb,e',e];simp[e]at h3;apply fE (j+1) [] ⟨oM,oM,oM⟩ oM;simp;exact wI
  .have hj:j=s.size:=oI h;subst hj;rw[bR oM,k?]at h3;refine hn s.size _ _ _ oM oM ?_ oC oC;rw[bR oM,k?];exact h3
 simp[Xo];refine fM gm hp (λj:Nat=>j<=s.size/\j+k? oK (s.data.toList.drop j)=R) (λj=>[(3,.c (.d (.int .i64 j))),(0,.c (.d (.str s)))]) (λ_=>[]) (λj=>s.size-j) 0 [] ⟨oC,uM hR⟩ oC λj ⟨h1,h3⟩=>?_;simp[Xn];apply gM<;>intro h
 .have hj:j<s.size:=uM h;have _q:j<lN s.data.toList:=oM;rw[aF _q,k?]at h3;have hd:=aF _q;have hb:=zt _q;generalize s.data.toList[j]=b at h3 hb hd;by_cases e:b=35
  .subst e;simp[hb];simp only[if_true]at h3;refine k2 j oM (by rw[hb];decide) ?_ (ms:=[]) oC λk T M n g1 g2 g3 t1 t2=>?_
   .rw[hd,k?];simpa using h3
   .simp;exact fE k [] ⟨g1,g3⟩ oM (by simp[t1,t2])
  .have e':=un e;simp at e';rw[aB e]at h3;by_cases w:b=32\/b=9\/b=10\/b=13
   .rw[aC w]at h3;have z:∀G:Prop,(b=32->G)->(b=9->G)->(b=10->G)->(b=13->G)->G:=λG a1 a2 a3 a4=>by
     rcases w with w|w|w|w
     .exact a1 w
     .exact a2 w
     .exact a3 w
     .exact a4 w
    refine z _ ?_ ?_ ?_ ?_
    all_goals
     intro w;subst w;simp[hb];apply fE (j+1) [] ⟨oM,oM⟩ oM;simp;exact wI
   .rw[aB w]at h3;have w1:=un (λh=>w (.inl h));have w2:=un (λh=>w (.inr (.inl h)));have w3:=un (λh=>w (.inr (.inr (.inl h))));have w4:=un (λh=>w (.inr (.inr (.inr h))));simp at w1 w2 w3 w4;simp[hb,e',e,w1,w2,w3,w4];omega
 .have hj:j=s.size:=oI h;subst hj;rw[bR oM,k?]at h3;simp[<-h3]
def Bh:o9->Option (List UInt8 × Nat)
|[]=>nN
|d::l=>if d=92\/d=34 then(kP l).map λx=>(d::x.1,x.2+2)else if d=110 then(kP l).map λx=>(10::x.1,x.2+2)else if d=116 then(kP l).map λx=>(9::x.1,x.2+2)else nN
def zuC(c:UInt8)(l:o9):kP (c::l)=if c=34 then sS ([],1)else if c<32 then nN else if c≠92 then(kP l).map (λx=>(c::x.1,x.2+1))else Bh l:=by
 cases l<;>rw[kP.eq_def]<;>rfl
def vv(out:o9)(i:Nat)(l:o9):o9 × Int:=match kP l with
|none=>([],0)
|some (t,n)=>(out++t,i+n)
def Mh(out:o9)(c:UInt8)(i n:Nat)(l:o9):(match(kP l).map (λx=>(c::x.1,x.2+n))with
  |none=>(([],0):o9 × Int)
  |some (t,m)=>(out++t,(i:Int)+m))=vv (out++[c]) (i+n) l:=by
 unfold vv;cases kP l with
 |none=>rfl
 |some x=>
  simp;omega
def Ju(a b:o9):bA (a++b)=bA a++bA b:=by
 have:(bA (a++b)).data.toList=(bA a++bA b).data.toList:=by simp[bA]
 rw[<-Qt (bA (a++b)),this,Qt]
def zAc{s:fD}{j:Nat}(h:j<lN s.data.toList):s.extract j (j+1)=bA [s.data.toList[j]]:=by
 rw[Mg];congr 1;rw[aF h,show j+1-j=1 by omega];try rfl
def zDJ(s:fD)(hpos:0<s.size):h_ Pg 197 [.one (.str s)] (.a? [.one (.str (bA (vv [] 1 (s.data.toList.drop 1)).1)),.one (.int .i64 (vv [] 1 (s.data.toList.drop 1)).2)]):=by
 refine zxi oC λo c' hN hp=>?_;have hs:s.size<=zaf:=by have:=o.1;simpa only[DV.ok,D.ok]using this
 unfold zaf at hs;have hlen:=xK s;let⟨R,hR⟩:=oJ (vv [] 1 (s.data.toList.drop 1));rw[hR];simp[Xm];refine fM gm hp (λx:Nat × List UInt8=>x.1<=s.size/\lN x.2<=x.1/\vv x.2 x.1 (s.data.toList.drop x.1)=R) (λx=>[(5,.c (.d (.int .i64 x.1))),(4,.c (.d (.str (bA x.2)))),(0,.c (.d (.str s)))]) (λ_=>[]) (λx=>s.size-x.1) (1,[]) [] ⟨qM,oC,hR⟩ (by simp[bA,bs]) λ⟨j,out⟩ ⟨h1,h2,h3⟩=>?_;unfold Xl;simp only at h1 h2 h3;simp;apply gM<;>intro h
 .have hj:j<s.size:=uM h;have _q:j<lN s.data.toList:=oM;unfold vv at h3;rw[aF _q,zuC]at h3;have hx:=zAc _q;have hb:=zt _q;generalize s.data.toList[j]=b at h3 hb hx;by_cases e1:b=34
  .subst e1;simp at h3;subst h3;simp[hb];exact wI
  rw[aB e1]at h3;have e1':=un e1;simp at e1';by_cases e2:b<32
  .rw[aC e2]at h3;simp only at h3;subst h3;have e2':(b.toNat:Int)<32:=by
    have:b.toNat<32:=e2;omega
   simp[hb,e1,e1',e2'];rfl
  rw[aB e2]at h3;have e2':¬(b.toNat:Int)<32:=by
   intro q;exact e2 (show b.toNat<32 by omega)
  by_cases e3:b=92;rotate_left
  .rw[aC e3]at h3;have e3':=un e3;simp at e3';have hw:=wI (n:=(j:Int)+1);simp[hb,e1,e1',e2',e3,e3',hw];have hsz:(bA out).size+(min (j+1) s.size-j)<=zaf:=by
    have:(bA out).size=lN out:=by rw[<-xK];simp[bA]
    unfold zaf;omega
   refine⟨oM,oM,hsz,?_⟩;rw[Mh out b j 1]at h3;refine fE (j+1,out++[b]) [] ⟨qM,by simp;omega,h3⟩ qM ?_;rw[hx];simp[Ju]
  .simp only[ne_eq,e3,not_true,if_false]at h3;subst e3;have hw:=wI (n:=(j:Int)+1);have hw2:=wI (n:=(j:Int)+1+1);simp[hb,hw];by_cases _x:j+1<s.size;rotate_left
   .have hj2':(s.size:Int)<=(j:Int)+1:=oM;rw[bR oM,Bh]at h3;simp only at h3;subst h3;simp[hj2'];rfl
   have hj2':¬(s.size:Int)<=(j:Int)+1:=oM;have hjl:j+1<lN s.data.toList:=oM;rw[aF hjl,Bh]at h3;have hx2:=zAc hjl;have hb2:=zt hjl;generalize s.data.toList[j+1]=d at h3 hb2 hx2;have hsz:(bA out).size=lN out:=by rw[<-xK];simp[bA]
   have hnat:((j:Int)+1).toNat=j+1:=oM;have hw2:IntKind.i64.wrap ((j:Int)+1+1)=((j+2:Nat):Int):=by rw[hw2];omega
   have hmin:min (j+2) s.size-(j+1)<=1:=oM;have hcat:(bA out).size+1<=zaf:=by rw[hsz];unfold zaf;omega
   by_cases d1:d=92\/d=34
   .rw[aC d1]at h3;rw[Mh out d j 2]at h3;have hnat2:((j:Int)+2).toNat=j+1+1:=oM;rcases d1 with q|q
    .have q1:=(Qv d 92).1 q;simp at q1;simp[hj2',hb2,hnat,hw2,q1];refine⟨oM,oM,oM,oM,oM,by rw[hnat2];omega,?_⟩;refine fE (j+2,out++[d]) [] ⟨qM,by simp;omega,h3⟩ qM ?_;rw[hnat2,hx2];simp[Ju]
    .have q1:=(Qv d 34).1 q;simp at q1;simp[hj2',hb2,hnat,hw2,q1];refine⟨oM,oM,oM,oM,oM,by rw[hnat2];omega,?_⟩;refine fE (j+2,out++[d]) [] ⟨qM,by simp;omega,h3⟩ qM ?_;rw[hnat2,hx2];simp[Ju]
   rw[aB d1]at h3;have d11:=un (λh=>d1 (.inl h));have d12:=un (λh=>d1 (.inr h));simp at d11 d12;by_cases d2:d=110
   .rw[aC d2]at h3;subst d2;rw[Mh out 10 j 2]at h3;simp[hj2',hb2,hnat,hw2];refine⟨oM,hcat,?_⟩;refine fE (j+2,out++[10]) [] ⟨qM,by simp;omega,h3⟩ qM ?_;simp[Ju];rfl
   rw[aB d2]at h3;have d21:=un d2;simp at d21;by_cases d3:d=116
   .rw[aC d3]at h3;subst d3;rw[Mh out 9 j 2]at h3;simp[hj2',hb2,hnat,hw2];refine⟨oM,hcat,?_⟩;refine fE (j+2,out++[9]) [] ⟨qM,by simp;omega,h3⟩ qM ?_;simp[Ju];rfl
   rw[aB d3]at h3;have d31:=un d3;simp at d31;simp only at h3;subst h3;simp[hj2',hb2,hnat,d11,d12,d21,d31];exact⟨oM,rfl⟩
 .have hj:j=s.size:=oI h;subst hj;unfold vv at h3;rw[bR oM,kP]at h3;simp only at h3;subst h3;simp;rfl
def Jv(num:Bool):∀l:List UInt8,y? num l<=lN l
|[]=>aJ _
|b::l=>by have:=Jv num l;unfold y?;split<;>simp<;>omega
def Mi:∀(r:Bool) (l:List UInt8),k? r l<=lN l
|_,[]=>by cases‹Bool›<;>simp[k?]
|true,c::l=>by have:=Mi (decide (c≠10)) l;rw[k?,length_cons];omega
|false,c::l=>by
 have h1:=Mi tT l;have h2:=Mi oK l;rw[k?];split
 .simp;omega
 .split<;>simp<;>omega
def Mj:∀(n:Nat) (l:List UInt8),lN l<=n->∀t k,kP l=sS (t,k)->0<k/\k<=lN l
|n,[],_,t,k,e=>by simp[kP]at e
|0,c::l,h,_,_,_=>by simp at h
| n +1,c::l,h,t,k,e=>by
 rw[zuC]at e;split at e
 .simp at e;obtain⟨_,rfl⟩:=e;simp
 split at e
 .cases e
 split at e
 .rw[aP]at e;let⟨⟨t',k'⟩,e1,e2⟩:=e;simp only[au]at e2;have:=Mj n l (uM h) t' k' e1;simp;omega
 .cases l with
  |nil=>simp[Bh]at e
  | cons d l=>
   have H:∀t' k',kP l=sS (t',k')->0<k'/\k'<=lN l:=λt' k' e1=>Mj n l (by simp at h;omega) t' k' e1;rw[Bh]at e;repeat' split at e
   all_goals first|(cases e;done)|skip
   all_goals
    rw[aP]at e;let⟨⟨t',k'⟩,e1,e2⟩:=e;simp only[au]at e2;have:=H t' k' e1;simp;omega
def zxZ(l:o9):CZ l<=lN l:=by
 unfold CZ;split
 next h=>
  rw[any_eq_true]at h;let⟨t,ht,h⟩:=h;have h2:lN t=2:=(by decide:∀t∈ze,lN t=2) t ht;simp only[aI]at h;have:=dM length h;rw[bz]at this;omega
 .cases l with
  |nil=>simp
  |cons c l=>simp;split<;>omega
def pK.enc(t:pK):oQ:=[.int .i64 t.d_,.str (bA t.text),.int .i64 0,.int .i64 0]
abbrev runT(s:fD)(a b:Bool)(j:Nat):oZ:=[(7,.c (.d (.int .i64 j))),(6,.c (.d (.bool b))),(5,.c (.d (.bool a))),(2,.c (.ptr 0 0)),(0,.c (.d (.str s)))]
abbrev Qw:A_:=.box [.d (.int .i64 0),.d (.str (bs [])),.d (.int .i64 0),.d (.int .i64 0)]
theorem Jw{c:Ctx}(hp:c.pure)(s:fD)(hs:s.size<=4611686018427387904)(a num:Bool)(R:Nat)(hR:y? num s.data.toList=R){Q:Exit->St->Prop}{S:St}{g}{ms:oO}
  (h0:gy ms S (runT s a num 0) [Qw])
  (hQ:∀T M n,Abs.look T 7=.c (.d (.int .i64 R))->Abs.look T 6=.c (.d (.bool num))->Abs.look T 5=.c (.d (.bool a))->Abs.look T 2=.c (.ptr 0 0)->Abs.look T 0=.c (.d (.str s))->M 0=Qw->Q (.exit 0) ⟨T,M,n⟩):mI Pg c QJ Q g S:=by
 have hlen:=xK s;refine fM gm hp (λj:Nat=>j<=s.size/\j+y? num (s.data.toList.drop j)=R) (λj=>runT s a num j) (λ_=>[Qw]) (λj=>s.size-j) 0 ms ⟨oC,uM hR⟩ h0 λj ⟨h1,h2⟩=>?_;simp[QJ];apply gM<;>intro h
 .have hj:j<s.size:=uM h;have _q:j<lN s.data.toList:=oM;rw[aF _q,y?]at h2;have hb:=zt _q;generalize s.data.toList[j]=b at h2 hb;have hd:jG b=rT b.toNat:=rfl;have hle:lY b=xE b.toNat:=rfl;simp[hb];apply gQ (Qr b.toNat);rw[<-hle];simp[hb];apply gQ (Mf b.toNat);rw[<-hd];generalize lY b=x1 at*
  generalize jG b=x2 at*
  cases x1<;>cases x2<;>cases num
  all_goals
   simp at h2;simp
  .exact hQ _ _ _ (by simp;omega) oC oC oC oC oC
  .exact hQ _ _ _ (by simp;omega) oC oC oC oC oC
  .apply fE (j+1) [0] ⟨oM,oM⟩ oM;simp;exact wI
  .apply fE (j+1) [0] ⟨oM,oM⟩ oM;simp;exact wI
  .apply fE (j+1) [0] ⟨oM,oM⟩ oM;simp;exact wI
  .exact hQ _ _ _ (by simp;omega) oC oC oC oC oC
  .apply fE (j+1) [0] ⟨oM,oM⟩ oM;simp;exact wI
  .apply fE (j+1) [0] ⟨oM,oM⟩ oM;simp;exact wI
 .have hj:j=s.size:=oI h;subst hj;rw[bR oM,y?]at h2;exact hQ _ _ _ (by simp;omega) oC oC oC oC oC
def Qx(s:fD)(i:Nat):s.extract 0 i=bA (s.data.toList.take i):=by rw[Mg];try rfl
abbrev Qy(t:pK):DV:=.a? [.agg t.enc,.one (.int .i64 t.len),.one (.int .i64 t.e)]
theorem zG9(s:fD)(hpos:0<s.size):h_ Pg 178 [.one (.str s)] (Qy (x? s.data.toList)):=by
 refine zzl oC λo c' hN hp=>?_;have hs:s.size<=zaf:=by have:=o.1;simpa only[DV.ok,D.ok]using this
 unfold zaf at hs;have hlen:=xK s;have hj0:0<lN s.data.toList:=oM;have _u:=zt hj0;have cq:=zDJ s hpos;have csg:=zJr s hpos;have hql:=Mj (s.data.toList.drop 1).length (s.data.toList.drop 1) (aJ _);let⟨R,hR⟩:=oJ (x? s.data.toList);rw[hR];have hrl:=Jv oK s.data.toList;have hrd:=Jv tT s.data.toList;have hsl:=zxZ s.data.toList;have hx:∀i,s.extract 0 i=bA (s.data.toList.take i):=Qx s;generalize hl:s.data.toList=l at*
 cases l with
 |nil=>simp at hj0
 |cons c r=>
 simp only[getElem_cons_zero]at _u;simp only[drop_one,tail_cons]at cq hql;rw[x?]at hR;have hd:jG c=rT c.toNat:=rfl;have hle:lY c=xE c.toNat:=rfl;unfold Xp;simp[_u];apply gQ (Qr c.toNat);rw[<-hle];simp[_u];apply gQ (Mf c.toNat);rw[<-hd];by_cases q1:lY c=tT
 .rw[aC q1]at hR;have q2:jG c=oK:=by
   unfold lY xE at q1;unfold jG rT;simp at q1⊢;omega
  simp[q1,q2];refine Jw hp s hs tT oK (y? oK (c::r)) (by rw[hl]) (ms:=[0]) oC λT M n t7 t6 t5 t2 t0 m0=>?_;simp[t5,t7];by_cases q3:32<y? oK (c::r)
  .have q3':(32:Int)<(y? oK (c::r):Nat):=oM;rw[aC q3]at hR;subst hR;simp[q3,q3',t2,m0];exact⟨rfl,rfl,rfl⟩
  rw[aB q3]at hR;have q3':¬(32:Int)<(y? oK (c::r):Nat):=oM;have hxi:=hx (y? oK (c::r));have hw:=Qs (bA (take (y? oK (c::r)) (c::r)));generalize y? oK (c::r)=i at*
  have hi2:i<=s.size:=by simp at hlen hrl;omega
  simp[q3,q3',t0,t7,hi2,hxi];apply gQ hw;generalize hu:bA (take i (c::r))=u at*
  by_cases q4:Dc u=tT
  .rw[aC q4]at hR;subst hR;simp[q4,t0,t7,hi2,hxi,t2,m0,pK.enc,hu]
  .rw[aB q4]at hR;subst hR;simp[q4,t0,t7,hi2,hxi,t2,m0,pK.enc,hu]
 rw[aB q1]at hR;by_cases q2:jG c=tT
 .rw[aC q2]at hR;rw[aT]at q1;simp[q1,q2];refine Jw hp s hs oK tT (y? tT (c::r)) (by rw[hl]) (ms:=[0]) oC λT M n t7 t6 t5 t2 t0 m0=>?_;have hxi:=hx (y? tT (c::r));have hpz:=zx0 (bA (take (y? tT (c::r)) (c::r)));have hpi:zf (bA (take (y? tT (c::r)) (c::r)))=Ei (take (y? tT (c::r)) (c::r)):=by unfold zf;rfl
  rw[hpi]at hpz;generalize y? tT (c::r)=i at*
  have hi2:i<=s.size:=by simp at hlen hrd;omega
  simp[t5,t6,t7,t0,hi2,hxi];apply gQ hpz;generalize hu:bA (take i (c::r))=u at*
  generalize Ei (take i (c::r))=pz at*
  by_cases q4:pz.2=tT
  .rw[aC q4]at hR;subst hR;simp[q4,t0,t7,hi2,hxi,t2,m0,pK.enc,hu]
  .rw[aB q4]at hR;subst hR;simp[q4,t0,t7,hi2,hxi,t2,m0,pK.enc,hu];exact⟨⟨rfl,rfl⟩,rfl,rfl⟩
 rw[aB q2]at hR;rw[aT]at q1 q2;simp[q1,q2];by_cases q3:c=34
 .subst q3;rw[aC rfl]at hR;simp[_u];apply gQ cq;unfold vv;cases hq:kP r with
  |none=>
   rw[hq]at hR;simp only at hR;subst hR;simp;exact⟨rfl,rfl,rfl⟩
  | some x=>
   let⟨t,k⟩:=x;rw[hq]at hR;have hk:=hql t k hq;have hsz:(bA t).size=lN t:=by rw[<-xK];simp[bA]
   have hk0:¬(1:Int)+k=0:=oM;by_cases q4:256<lN t
   .have q4':(256:Int)<lN t:=oM;simp only[q4,if_true]at hR;subst hR;simp[hsz,q4,q4',hk0];exact⟨rfl,rfl,rfl⟩
   .have q4':¬(256:Int)<lN t:=oM;simp only[q4,if_false]at hR;subst hR;simp[hsz,q4,q4',hk0,pK.enc];omega
 rw[aB q3]at hR;have q3':=un q3;simp at q3';simp[_u,q3,q3'];apply gQ csg;have hxi:=hx (CZ (c::r));generalize CZ (c::r)=i at*
 have hi2:i<=s.size:=by simp at hlen hsl;omega
 by_cases q4:i=0
 .rw[aC q4]at hR;subst hR;simp[q4];exact⟨rfl,rfl,rfl⟩
 .rw[aB q4]at hR;have q4':¬(i:Int)=0:=oM;subst hR;simp[q4,q4',hi2,hxi,pK.enc]
def zz6{l:o9}(h:(x? l).e=0):0<(x? l).len/\(x? l).len<=lN l:=by
 cases l with
 |nil=>simp[x?,kK]at h
 | cons c r=>
  have hrl:=Jv oK (c::r);have hrd:=Jv tT (c::r);have hsl:=zxZ (c::r);have hql:=Mj (lN r) r (aJ _);rw[x?]at h⊢;split
  next q=>
   rw[aC q]at h;split
   next p=>rw[aC p]at h;simp[kK]at h
   .refine⟨?_,hrl⟩;show 0<y? oK (c::r);rw[y?,aC (by simp[q])];omega
  rename_i q1;rw[aB q1]at h;split
  next q=>
   rw[aC q]at h;split
   .refine⟨?_,hrd⟩;show 0<y? tT (c::r);rw[y?,aC (by simp[q])];omega
   next p=>rw[aB p]at h;simp[kK]at h
  rename_i q2;rw[aB q2]at h;split
  next q=>
   rw[aC q]at h;cases e:kP r with
   |none=>rw[e]at h;simp[kK]at h
   |some x=>
    let⟨t,n⟩:=x;rw[e]at h;simp only at h⊢;have:=hql t n e;split
    next p=>rw[aC p]at h;simp[kK]at h
    .simp;omega
  rename_i q3;rw[aB q3]at h;split
  next p=>rw[aC p]at h;simp[kK]at h
  .simp only;omega
def Qz:∀(l:List UInt8) (a b:Int),1<=a->1<=b->1<=(rJ l a b).1/\1<=(rJ l a b).2/\(rJ l a b).1<=a+lN l/\(rJ l a b).2<=b+lN l
|[],a,b,h1,h2=>by simp[rJ];omega
| c::l,a,b,h1,h2=>by
 rw[rJ];split
 .have:=Qz l (a+1) 1 oM oM;simp only[length_cons];omega
 .have:=Qz l a (b+1) oM oM;simp only[length_cons];omega
abbrev GH(s:fD)(line t_:Int)(L_ n:Nat):oZ:=[(6,.c (.d (.int .i64 t_))),(5,.c (.d (.int .i64 line))),(7,.c (.d (.int .i64 L_))),(4,.c (.x_ 4 1 0 n)),(3,.c (.ptr 0 0)),(0,.c (.d (.str s)))]
abbrev dB:A_:=.box [.d (.int .i64 0),.d (.int .i64 0),.d (.int .i64 0),.d (.int .i64 0)]
abbrev lexB(ts:sF):oV:=[dB,.arr 4 ((ts.map Tok.enc).map (·.map .d))]
def zIv{c:Ctx}(hp:c.pure)(s:fD)(hs:s.size<=65536)(ts:sF)(a k:Nat)(hk:a+k<=s.size)(l0 c0:Int)(hl0:1<=l0)(hc0:1<=c0)(hl1:l0<=100000)(hc1:c0<=100000)(R:Int × Int)(hR:rJ ((s.data.toList.drop a).take k) l0 c0=R){Q:Exit->St->Prop}{S:St}{g}{ms:oO}
  (h0:gy ms S ((9,.c (.d (.int .i64 a)))::(8,.c (.d (.int .i64 k)))::GH s l0 c0 a (lN ts)) (lexB ts))
  (hQ:∀T,Abs.look T 6=.c (.d (.int .i64 R.2))->Abs.look T 5=.c (.d (.int .i64 R.1))->Abs.look T 7=.c (.d (.int .i64 a))->Abs.look T 8=.c (.d (.int .i64 k))->Abs.look T 4=.c (.x_ 4 1 0 (lN ts))->Abs.look T 3=.c (.ptr 0 0)->Abs.look T 0=.c (.d (.str s))->Q (.exit 2) ⟨T,r_ (lexB ts),2⟩):mI Pg c QK Q g S:=by
 have hlen:=xK s;let⟨e,he⟩:∃e,e=a+k:=⟨_,rfl⟩
 have hw2:IntKind.i64.wrap ((a:Int)+k)=(e:Int):=by rw[wI];omega
 refine fM gm hp (λx:Nat × Int × Int=>a<=x.1/\x.1<=e/\1<=x.2.1/\1<=x.2.2/\x.2.1<=100000+x.1/\x.2.2<=100000+x.1/\rJ ((s.data.toList.drop x.1).take (e-x.1)) x.2.1 x.2.2=R)
  (λx=>(9,.c (.d (.int .i64 x.1)))::(8,.c (.d (.int .i64 k)))::GH s x.2.1 x.2.2 a (lN ts)) (λ_=>lexB ts) (λx=>e-x.1) (a,l0,c0) ms ⟨aJ _,qM,hl0,hc0,qM,qM,by simp only;rw[he,cO];exact hR⟩ h0 λ⟨j,li,co⟩ ⟨h0',h1,h2,h3,h4,h5,h6⟩=>?_
 unfold QK;simp only at h0' h1 h2 h3 h4 h5 h6;have hw1:IntKind.i64.wrap ((j:Int)+1)=((j+1:Nat):Int):=by rw[wI];omega
 have hw3:IntKind.i64.wrap (co+1)=co+1:=wI;have hw4:IntKind.i64.wrap (li+1)=li+1:=wI;by_cases hj:j<e
 .have _q:j<lN s.data.toList:=oM;rw[aF _q,show e-j=(e-(j+1))+1 by omega,take_succ_cons,rJ]at h6;have hb:=zt _q;generalize s.data.toList[j]=b at h6 hb;by_cases q:b=10
  .rw[aC q]at h6;subst q;simp[hw2,hb,hj];apply fE (j+1,li+1,1) [0,1] ⟨qM,qM,qM,oC,qM,qM,h6⟩ qM;simp[hw1,hw4]
  .rw[aB q]at h6;have q':=un q;simp at q';simp[hw2,hb,hj,q,q'];apply fE (j+1,li,co+1) [0,1] ⟨qM,qM,qM,qM,qM,qM,h6⟩ qM;simp[hw1,hw3]
 .have:j=e:=oM;subst this;rw[Nat.sub_self,take_zero,rJ]at h6;subst h6;simp[hw2];exact hQ _ oC oC oC oC oC oC oC
def RA(l:o9):(bA l).data.toList=l:=by simp[bA]
def zz7(l:o9):(bA l).size=lN l:=by rw[<-xK,RA]
def zz8(s:fD)(p:Nat):s.extract p s.size=bA (s.data.toList.drop p):=by
 rw[Mg,aD (by rw[dN,xK];omega)]
@[simp] theorem l?.F_(d:l?):lN d.enc=4:=rfl
theorem zz9(n:Nat)(l:o9)(a b:Int)(ts:sF):pM (n+1) l a b ts=
 if l.drop (k? oK l)=[]then(ts++[⟨0,bs [],(rJ (l.take (k? oK l)) a b).1,(rJ (l.take (k? oK l)) a b).2⟩],Qe)
 else if(if(x? (l.drop (k? oK l))).e=0/\lN ts=8192 then 19 else(x? (l.drop (k? oK l))).e)≠0 then([],⟨0,(rJ (l.take (k? oK l)) a b).1,(rJ (l.take (k? oK l)) a b).2,if(x? (l.drop (k? oK l))).e=0/\lN ts=8192 then 19 else(x? (l.drop (k? oK l))).e⟩)
 else pM n ((l.drop (k? oK l)).drop (x? (l.drop (k? oK l))).len) (rJ (l.take (k? oK l)) a b).1 ((rJ (l.take (k? oK l)) a b).2+(x? (l.drop (k? oK l))).len) (ts++[⟨(x? (l.drop (k? oK l))).d_,bA (x? (l.drop (k? oK l))).text,(rJ (l.take (k? oK l)) a b).1,(rJ (l.take (k? oK l)) a b).2⟩]):=rfl
def zJT(s:fD):h_ Pg 141 [.one (.str s)] (.a? [.one (.sl oK 4 ((kE s).1.map Tok.enc)),.agg (kE s).2.enc]):=by
 refine zD4 oC λo c' hN hp=>?_;have hs:s.size<=zaf:=by have:=o.1;simpa only[DV.ok,D.ok]using this
 unfold zaf at hs;have hlen:=xK s;let⟨F0,_y⟩:=oJ (kE s);rw[_y];unfold kE at _y;unfold Xr;by_cases h6:65536<s.size
 .have h6':(65536:Int)<s.size:=oM;rw[aC h6]at _y;subst _y;simp[h6,h6',l?.enc]
 have h6':¬(65536:Int)<s.size:=oM;rw[aB h6]at _y;simp[h6,h6'];refine fT [.t 4] ?_;simp
 refine fM gm hp (λx:Nat × Nat × Int × Int × List Tok=>pM x.1 (s.data.toList.drop x.2.1) x.2.2.1 x.2.2.2.1 x.2.2.2.2=F0/\x.2.1<=s.size/\s.size<x.1+x.2.1/\lN x.2.2.2.2<=8192/\1<=x.2.2.1/\1<=x.2.2.2.1/\x.2.2.1<=1+x.2.1/\x.2.2.2.1<=1+x.2.1)
  (λx=>GH s x.2.2.1 x.2.2.2.1 x.2.1 (lN x.2.2.2.2)) (λx=>lexB x.2.2.2.2) (λx=>x.1) (s.size+1,0,1,1,[]) [0,1] ⟨uM _y,oC,qM,oC,oC,oC,oC,oC⟩ oC λ⟨n,p,li,co,ts⟩ ⟨i1,i2,i3,i4,i5,i6,i7,i8⟩=>?_
 unfold Xq;simp only at i1 i2 i4 i5 i6 i7 i8;have i3:s.size<n+p:=i3;obtain⟨n,rfl⟩:∃m,n=m+1:=⟨n-1,oM⟩
 rw[zz9]at i1;have hb:=zGd (bA (s.data.toList.drop p));rw[RA]at hb;have hbl:=Mi oK (s.data.toList.drop p);rw[dN,hlen]at hbl;have hx:=zz8 s p;simp[i2,hx];refine gQ hb ?_;let⟨k,hk⟩:=oJ (k? oK (s.data.toList.drop p));rw[hk]at i1 hbl;simp[hk];let⟨q,hq⟩:=oJ (rJ ((s.data.toList.drop p).take k) li co);have hqb:=Qz ((s.data.toList.drop p).take k) li co i5 i6;rw[hq]at i1 hqb;have htk:((s.data.toList.drop p).take k).length=k:=by rw[bz,dN];omega
 rw[htk]at hqb;refine zIv hp s oM ts p k oM li co i5 i6 oM oM q hq (ms:=[0,1]) oC λT t6 t5 t7 t8 t4 t3 t0=>?_;have hw:IntKind.i64.wrap ((p:Int)+k)=((p+k:Nat):Int):=by rw[wI];omega
 rw[bX]at i1;have hx2:=zz8 s (p+k);let⟨p',_C⟩:=oJ (p+k);rw[_C]at hw i1 hx2;simp[t7,t8,hw,t0];by_cases he:s.size<=p'
 .have he':p'=s.size:=oM;rw[aC (bR oM)]at i1;subst i1;have z:take (lN ts) (List.map ((λx=>List.map AC.d x)∘Tok.enc) ts)=List.map ((λx=>List.map AC.d x)∘Tok.enc) ts:=aD oC;have z2:take (lN ts+1) (List.map Tok.enc ts++[[.int .i64 0,.str (bs []),.int .i64 q.1,.int .i64 q.2]])=List.map Tok.enc ts++[[.int .i64 0,.str (bs []),.int .i64 q.1,.int .i64 q.2]]:=aD oC;simp[he,t4,t5,t6,t3,z,z2];exact⟨oM,rfl,rfl⟩
 rw[aB (λh=>by have:=dM length h;rw[dN]at this;simp at this;omega)]at i1;have ht:=zG9 (bA (s.data.toList.drop p')) (by rw[zz7,dN];omega);rw[RA]at ht;have htl:=zz6 (l:=s.data.toList.drop p');rw[dN]at htl;generalize x? (s.data.toList.drop p')=t at*
 have hp2:p'<=s.size:=oM;simp[he,hp2,hx2,t7,t0];refine gQ ht ?_;by_cases e0:t.e=0
 .have htl:=htl e0;by_cases hm:lN ts=8192
  .rw[aC (by rw[aC ⟨e0,hm⟩];decide),aC ⟨e0,hm⟩]at i1;subst i1;have hm':((lN ts:Nat):Int)=8192:=oM;simp[t4,t5,t6,t3,pK.enc,e0,hm,hm',l?.enc]
  .have hm':¬((lN ts:Nat):Int)=8192:=oM;rw[aB (by rw[aB (λh=>hm h.2)];simpa using e0),bX]at i1;have hw1:IntKind.i64.wrap ((p':Int)+t.len)=((p'+t.len:Nat):Int):=by rw[wI];omega
   have hw2:IntKind.i64.wrap (q.2+t.len)=q.2+t.len:=wI;simp[t4,t5,t6,t3,t7,pK.enc,e0,hm,hm',hw1,hw2];refine jV ?_;refine fE (n,p'+t.len,q.1,q.2+t.len,ts++[⟨t.d_,bA t.text,q.1,q.2⟩]) [0,3] ⟨i1,qM,qM,by simp;omega,qM,qM,qM,qM⟩ oC ?_;have z:take (lN ts) (List.map ((λx=>List.map AC.d x)∘Tok.enc) ts)=List.map ((λx=>List.map AC.d x)∘Tok.enc) ts:=aD oC;simp[t3,t0,t5,hw1,hw2,Tok.enc,z]
 .rw[aC (by rw[aB (λh=>e0 h.1)];exact e0),aB (λh=>e0 h.1)]at i1;subst i1;simp[t4,t5,t6,t3,pK.enc,e0,l?.enc]
variable {α:Type}
def Jy{t:f_}(o:DV.ok (.agg t.enc)):lN t.a_<=zaf/\lN t.b_<=zaf:=by
 rw[f_.l_]at o;simp only[DV.ok,D.okL,D.ok,Jb,aa]at o;exact⟨o.2.2.1.1,o.2.2.2.1.1⟩
@[simp] theorem f_.enc_g1(t:f_)(h:1<lN t.enc):t.enc[1]=.str t.name:=by have:=t.enc_1;rw[aA h]at this;exact bu this
mutual
def Mk:∀(t:f_) (m:Int),1<=mR t m/\mR t m<=max 1 m
|.mk _ _ _ l,m=>by have:=Ml l m 1 oM;rw[mR];omega
def Ml:∀(l:List f_) (m n:Int),1<=n->n<=rV l m n/\rV l m n<=max n m
|[],m,n,h=>by rw[rV];omega
| t::l,m,n,h=>by
 rw[rV];split
 .have h1:=Mk t (m-n);have h2:=Ml l m (n+mR t (m-n)) oM;omega
 .omega
end
def zzx{l:oL}{m n:Int}(h:¬n<m):rV l m n=n:=by
 cases l with
 |nil=>rw[rV]
 |cons d l=>rw[rV,aB h]
def zG5(t:f_)(ih:∀e,e∈t.b_->∀m:Int,1<=m->m<=1000->h_ Pg 185 [.agg e.enc,.one (.int .i64 m)] (.one (.int .i64 (mR e m))))(m:Int)(h1:1<=m)(h2:m<=1000):
  h_ Pg 185 [.agg t.enc,.one (.int .i64 m)] (.one (.int .i64 (mR t m))):=by
 refine zBk oC λo c hN hp=>?_;have hf:=Jy o.1;unfold zaf at hf;have e:mR t m=rV t.b_ m 1:=by cases t;rw[mR];try rfl
 rw[e];simp[Y4];refine fM gm hp (λx:Nat × Int=>x.1<=lN t.b_/\(1<=x.2/\x.2<=1000)/\rV (t.b_.drop x.1) m x.2=rV t.b_ m 1) (λx=>[(6,.c (.d (.int .i64 x.1))),(5,.c (.d (.int .i64 x.2))),(2,.c (.d (.rp t.enc 0))),(1,.c (.d (.int .i64 m)))]) (λ_=>[]) (λx=>lN t.b_-x.1) (0,1) [] ⟨oC,oC,oC⟩ oC λ⟨j,n⟩ ⟨hx1,hx3,hx2⟩=>?_;unfold Y3;simp only at hx1 hx2 hx3;simp;apply gM<;>intro h
 .have hj:j<lN t.b_:=uM h;rw[aF hj]at hx2;apply gM<;>intro h
  .simp at h;rw[rV,aC h]at hx2;have hw:IntKind.i64.wrap (m-n)=m-n:=wI;simp[aA hj,hw];apply gQ (ih _ (aO hj) (m-n) oM oM);have hle:=Mk t.b_[j] (m-n);simp;refine fE (j+1,n+mR t.b_[j] (m-n)) [] ⟨by simp;omega,qM,hx2⟩ (by simp;omega) ?_;simp;exact⟨wI,wI⟩
  .simp at h;rw[zzx oM]at hx2;simp[hx2]
 .have hj:j=lN t.b_:=oI h;subst hj;rw[aS,rV]at hx2;simp[hx2]
mutual
def zAP:∀(t:f_) (m:Int),1<=m->m<=1000->h_ Pg 185 [.agg t.enc,.one (.int .i64 m)] (.one (.int .i64 (mR t m)))
|.mk k n s l,m,h1,h2=>zG5 (.mk k n s l) (λe h=>zxS l e h) m h1 h2
def zxS:∀(l:List f_) (e:f_),e∈l->∀m:Int,1<=m->m<=1000->h_ Pg 185 [.agg e.enc,.one (.int .i64 m)] (.one (.int .i64 (mR e m)))
|[],e,h=>by cases h
|d::l,e,h=>by
 cases h with
 |head=>exact zAP d
 |tail _ h=>exact zxS l e h
end
def RB(t:f_):h_ Pg 151 [.agg t.enc] (.one (.int .i64 (mR t 201))):=by
 refine zBl oC λo c hN hp=>?_;simp[Y5];apply gQ (zAP t 201 oM oM);simp
def RD(f:f_->Int)(B:Int):∀(l:List f_) (a:Int),0<=a->a<=B->(∀x,x∈l->f x<=B)->0<=l.foldl (λh k=>if h<f k then f k else h) a/\l.foldl (λh k=>if h<f k then f k else h) a<=B
|[],a,h0,h,_=>⟨h0,h⟩
|x::l,a,h0,h,hl=>by
 have hx:=hl x oC;rw[foldl_cons];split
 .exact RD f B l _ oM hx λy hy=>hl y (by simp[hy])
 .exact RD f B l _ h0 h λy hy=>hl y (by simp[hy])
def zxU:∀(n:Nat) (t:f_),1<=nC n t/\nC n t<=max 1 n
|0,t=>by rw[nC];omega
|1,t=>by rw[nC];omega
|n+2,t=>by
 rw[nC];have:=RD (nC (n+1)) (n+1) t.b_ 0 oM oM λx _=>by have:=zxU (n+1) x;omega
 omega
def zAQ:∀(n:Nat) (t:f_),n<=100->h_ Pg 184 [.agg t.enc,.one (.int .i64 n)] (.one (.int .i64 (nC n t)))
|0,t,hn=>by
 refine QO oC λo c hN hp=>?_;unfold M3;simp[nC]
|1,t,hn=>by
 refine QO oC λo c hN hp=>?_;unfold M3;simp[nC]
| n+2,t,hn=>by
 refine QO oC λo c hN hp=>?_;have hf:=Jy o.1;unfold zaf at hf;have e:nC (n+2) t=t.b_.foldl (λh k=>if h<nC (n+1) k then nC (n+1) k else h) 0+1:=by rw[nC]
 rw[e];let⟨R,hR⟩:=oJ (t.b_.foldl (λh k=>if h<nC (n+1) k then nC (n+1) k else h) 0);rw[hR];unfold M3;have _A:¬(((n+2:Nat):Int)<=1):=oM;have hne':¬((n:Int)+2<=1):=oM;have hw:IntKind.i64.wrap ((n:Int)+2-1)=((n+1:Nat):Int):=by rw[wI];omega
 simp[_A,hne'];refine fM gm hp (λx:Nat × Int=>x.1<=lN t.b_/\(0<=x.2/\x.2<=n+1)/\(t.b_.drop x.1).foldl (λh k=>if h<nC (n+1) k then nC (n+1) k else h) x.2=R) (λx=>[(6,.c (.d (.int .i64 x.1))),(5,.c (.d (.int .i64 x.2))),(1,.c (.d (.int .i64 (n+2:Nat)))),(2,.c (.d (.rp t.enc 0)))]) (λ_=>[]) (λx=>lN t.b_-x.1) (0,0) [] ⟨oC,⟨oC,qM⟩,uM hR⟩ oC λ⟨j,r⟩ ⟨hx1,hx3,hx2⟩=>?_;unfold Y7;simp only at hx1 hx2 hx3;simp;apply gM<;>intro h
 .have hj:j<lN t.b_:=uM h;rw[aF hj,foldl_cons]at hx2;simp[aA hj,hw];apply gQ (zAQ (n+1) t.b_[j] oM);have hle:=zxU (n+1) t.b_[j];generalize nC (n+1) t.b_[j]=q at*
  by_cases hq:r<q
  .rw[aC hq]at hx2;simp[hq];refine fE (j+1,q) [] ⟨by simp;omega,qM,hx2⟩ (by simp;omega) ?_;simp;exact wI
  .rw[aB hq]at hx2;simp[hq];refine fE (j+1,r) [] ⟨by simp;omega,qM,hx2⟩ (by simp;omega) ?_;simp;exact wI
 .have hj:j=lN t.b_:=oI h;subst hj;rw[aS,foldl_nil]at hx2;subst hx2;exact wI
def RF(t:f_):h_ Pg 150 [.agg t.enc] (.one (.int .i64 (nC 17 t))):=by
 refine zwz oC λo c hN hp=>?_;simp[Y6];apply gQ (zAQ 17 t oM);simp
def Mm(t:f_):h_ Pg 163 [.agg t.enc] (.one (.int .i64 (iJ t))):=by
 refine zDE oC λo c hN hp=>?_;unfold Yg iJ;by_cases h1:t.d_=1
 .simp[h1];exact wI
 by_cases h2:t.d_=2
 .simp[h2];exact wI
 by_cases h3:t.d_=3
 .simp[h3];exact wI
 by_cases h4:t.d_=4
 .simp[h4];exact wI
 by_cases h5:t.d_=5
 .simp[h5];exact wI
 by_cases h6:t.d_=6
 .simp[h6];exact wI
 rw[aC oM];simp[h1,h2,h3,h4,h5,h6]
def zve:∀(a b:List f_),Bb a b=vY nD a b
|[],[]=>rfl
|[],_::_=>rfl
|_::_,[]=>rfl
|x::a,y::b=>by rw[Bb,vY,zve a b]
def zG6(a b:f_):nD a b=(decide (a.d_=b.d_)&&(decide (a.name=b.name)&&(decide (a.a_=b.a_)&&vY nD a.b_ b.b_))):=by
 cases a;rw[nD,zve];try rfl
def RG{q:α->α->Bool}:∀{a b:List α},vY q a b=tT->lN a=lN b
|[],[],_=>rfl
|[],_::_,h=>by cases h
|_::_,[],h=>by cases h
|x::a,y::b,h=>by
 rw[vY,aG]at h;simp[RG h.2]
def zG7{a b:List α}{j:Nat}(h1:j<lN a)(h2:j<lN b)(h:a.take j=b.take j)(e:a[j]=b[j]):a.take (j+1)=b.take (j+1):=by
 rw[aN h1,aN h2,h,e]
def zG8(a b:f_)(ih:∀x,x∈a.b_->∀y,h_ Pg 95 [.agg x.enc,.agg y.enc] (.one (.bool (nD x y)))):h_ Pg 95 [.agg a.enc,.agg b.enc] (.one (.bool (nD a b))):=by
 have e:=zG6 a b;refine zBm oC λo c hN hp=>?_;have hf:=Jy o.1;unfold zaf at hf;generalize nD a b=R at*
 have k2:∀{Q:Exit->St->Prop} {S:St} {g} {ms:oO} (hl:lN a.b_=lN b.b_) (h0:gy ms S [(6,.c (.d (.int .i64 0))),(3,.c (.d (.rp b.enc 0))),(2,.c (.d (.rp a.enc 0)))] []),
   (vY nD a.b_ b.b_=oK->∀T M n,Abs.look T 4=.c (.d (.bool oK))->Q .ret ⟨T,M,n⟩)->(vY nD a.b_ b.b_=tT->∀T M n,Q (.exit 2) ⟨T,M,n⟩)->mI Pg c QQ Q g S:=by
  intro Q S g ms hl h0 hn hy;refine fM gm hp (λj:Nat=>j<=lN a.b_/\vY nD (a.b_.drop j) (b.b_.drop j)=vY nD a.b_ b.b_) (λj=>[(6,.c (.d (.int .i64 j))),(3,.c (.d (.rp b.enc 0))),(2,.c (.d (.rp a.enc 0)))]) (λ_=>[]) (λj=>lN a.b_-j) 0 ms ⟨oC,oC⟩ h0 λj ⟨h1,h2⟩=>?_;unfold QQ;simp;apply gM<;>intro h
  .have hj:j<lN a.b_:=uM h;have _x:j<lN b.b_:=oM;rw[aF hj,aF _x,vY]at h2;simp[aA hj,aA _x];refine gQ (ih _ (aO hj) _) ?_;generalize nD a.b_[j] b.b_[j]=q at*
   cases q with
   |true=>
    simp at h2;simp;refine oG ?_;refine fE (j+1) [] ⟨oM,h2⟩ oM ?_;simp;exact wI
   |false=>
    simp at h2;simp;exact⟨oD,hn h2 _ _ _ oC⟩
  .have hj:j=lN a.b_:=oI h;subst hj;rw[aS,hl,aS]at h2;exact hy h2.symm _ _ _
 have k1:∀{Q:Exit->St->Prop} {S:St} {g} {ms:oO} (hl:lN a.a_=lN b.a_) (h0:gy ms S [(5,.c (.d (.int .i64 0))),(3,.c (.d (.rp b.enc 0))),(2,.c (.d (.rp a.enc 0)))] []),
   (a.a_≠b.a_->∀T M n,Abs.look T 4=.c (.d (.bool oK))->Q .ret ⟨T,M,n⟩)->(a.a_=b.a_->∀T M n,Abs.look T 2=.c (.d (.rp a.enc 0))->Abs.look T 3=.c (.d (.rp b.enc 0))->Q (.exit 0) ⟨T,M,n⟩)->mI Pg c QP Q g S:=by
  intro Q S g ms hl h0 hn hy;refine fM gm hp (λj:Nat=>j<=lN a.a_/\a.a_.take j=b.a_.take j) (λj=>[(5,.c (.d (.int .i64 j))),(3,.c (.d (.rp b.enc 0))),(2,.c (.d (.rp a.enc 0)))]) (λ_=>[]) (λj=>lN a.a_-j) 0 ms ⟨oC,oC⟩ h0 λj ⟨h1,h2⟩=>?_;unfold QP;simp;apply gM<;>intro h
  .have hj:j<lN a.a_:=uM h;have _x:j<lN b.a_:=oM;simp[aA hj,aA _x];by_cases q:a.a_[j]=b.a_[j]
   .simp[q];refine oG ?_;refine fE (j+1) [] ⟨oM,zG7 hj _x h2 q⟩ oM ?_;simp;exact wI
   .simp[q];exact⟨oD,hn (λz=>q (by simp[z])) _ _ _ oC⟩
  .have hj:j=lN a.a_:=oI h;subst hj;rw[bJ,hl,bJ]at h2;exact hy h2 _ _ _ oC oC
 unfold Y8;by_cases q1:a.d_=b.d_;rotate_left
 .simp[q1]at e;simp[q1,e]
 by_cases q2:a.name=b.name;rotate_left
 .simp[q2]at e;simp[q1,q2,e]
 by_cases q3:lN a.a_=lN b.a_;rotate_left
 .have:¬a.a_=b.a_:=λz=>q3 (by rw[z]);have q3':¬(lN a.a_:Int)=lN b.a_:=oM;simp[this]at e;simp[q1,q2,q3,q3',e]
 by_cases q4:lN a.b_=lN b.b_;rotate_left
 .have:vY nD a.b_ b.b_=oK:=by
   cases h:vY nD a.b_ b.b_ with
   |false=>rfl
   |true=>exact absurd (RG h) q4
  have q4':¬(lN a.b_:Int)=lN b.b_:=oM;simp[this]at e;simp[q1,q2,q3,q4,q4',e]
 simp[q1,q2,q3,q4];refine k1 q3 (ms:=[]) oC (λhn T M n t4=>?_) (λhy T M n t2 t3=>?_)
 .simp[hn]at e;simp[t4,e]
 .simp[q1,q2,hy]at e;simp;refine k2 q4 (ms:=[]) (by simp[t2,t3]) (λhn T M n t4=>?_) (λhy T M n=>?_)
  .rw[hn]at e;simp[t4,e]
  .rw[hy]at e;simp[e]
mutual
def I5:∀(a b:f_),h_ Pg 95 [.agg a.enc,.agg b.enc] (.one (.bool (nD a b)))
|.mk k n s l,b=>zG8 _ b λx hx y=>zxV l x hx y
def zxV:∀(l:List f_) (x:f_),x∈l->∀y,h_ Pg 95 [.agg x.enc,.agg y.enc] (.one (.bool (nD x y)))
|c::l,x,h,y=>by
 cases aM.1 h with
 |inl e=>rw[e];exact I5 c y
 |inr e=>exact zxV l x e y
end
def RH(s:fD):∀l,U? s l<=lN l
|[]=>aJ _
|n::l=>by have:=RH s l;unfold U?;split<;>simp<;>omega
abbrev wW:A_:=.box [.d (.int .i64 0),.d (.str (bs [])),.d (.sl tT 1 []),.d (.sl tT 4 [])]
abbrev GJ(ns:oN)(ts:oL)(i:Nat):oZ:=[(7,.c (.d (.int .i64 i))),(6,.c (.ptr 1 0)),(4,.c (.ptr 0 0)),(1,.c (.d (.sl oK 4 (ts.map f_.enc)))),(0,.c (.d (.sl oK 1 (encS ns))))]
abbrev Dm(ns:oN)(ks:oL):oV:=[wW,.box [.d (.int .i64 5),.d (.str (bs [])),.x_ 1 2 0 (lN ns),.x_ 4 3 0 (lN ks)],.arr 1 ((encS ns).map (·.map .d)),.arr 4 ((ks.map f_.enc).map (·.map .d))]
def zIW{c:Ctx}(hp:c.pure)(ns:oN)(ts:oL)(i:Nat)(hi:i<lN ns)(ok:Bool)(ms:oN)(ks:oL)(hms:lN ms<=100){Q:Exit->St->Prop}{S:St}{g}{l:oO}
  (h0:gy l S ((9,.c (.d (.int .i64 0)))::(8,.c (.d (.bool ok)))::GJ ns ts i) (Dm ms ks))
  (hQ:∀T,Abs.look T 9=.c (.d (.int .i64 (U? ns[i] ms)))->Abs.look T 8=.c (.d (.bool ok))->Abs.look T 7=.c (.d (.int .i64 i))->Abs.look T 6=.c (.ptr 1 0)->Abs.look T 4=.c (.ptr 0 0)->Abs.look T 1=.c (.d (.sl oK 4 (ts.map f_.enc)))->Abs.look T 0=.c (.d (.sl oK 1 (encS ns)))->Q (.exit 2) ⟨T,r_ (Dm ms ks),4⟩):mI Pg c QS Q g S:=by
 refine fM gm hp (λk:Nat=>k<=lN ms/\k+U? ns[i] (ms.drop k)=U? ns[i] ms) (λk=>(9,.c (.d (.int .i64 k)))::(8,.c (.d (.bool ok)))::GJ ns ts i) (λ_=>Dm ms ks) (λk=>lN ms-k) 0 l ⟨oC,oC⟩ h0 λk ⟨h1,h2⟩=>?_;simp[QS];apply gM<;>intro h
 .have hk:k<lN ms:=uM h;rw[aF hk,U?]at h2;simp[aA hk,aA hi];refine⟨hk,oD,?_⟩;apply gM<;>intro h
  .rw[aC (by unfold IZ;exact h)]at h2;apply fE (k+1) [0,1,2,3] ⟨oM,oM⟩ oM;simp;exact wI
  .rw[aB (by unfold IZ;simpa using h)]at h2;exact hQ _ (by simp;omega) oC oC oC oC oC oC
 .have hk:k=lN ms:=oI h;subst hk;rw[aS,U?]at h2;simp;exact⟨oD,hQ _ (by simp;omega) oC oC oC oC oC oC⟩
def RJ(ms:oN)(ks:oL):f_.enc (.mk 5 (bs []) ms ks)=[.int .i64 5,.str (bs []),.sl oK 1 (encS ms),.sl oK 4 (ks.map f_.enc)]:=by rw[f_.l_];try rfl
def yQ(ks:oL):take (lN ks) (List.map ((λx=>List.map AC.d x)∘f_.enc) ks)=List.map ((λx=>List.map AC.d x)∘f_.enc) ks:=aD oC
def zIX(ms:oN):take (lN ms) (List.map (λx=>List.map AC.d x) (encS ms))=List.map (λx=>List.map AC.d x) (encS ms):=aD oC
def mid{α:Type}{l:List α}{k n:Nat}(hn:n=lN l)(hk:k<=lN l)(x:α):take (k+1) (take k (take k l)++[x])++take (n-k) (drop k l)=take k l++x::drop k l:=by
 subst hn;rw[aD (l:=take k (take k l)++[x]) (by simp;omega),aD (l:=drop k l) oC,take_take,fA,dC];rfl
def Mo{ks:oL}{L:oh}(h:∀x,x∈L->x∈List.map ((λx=>List.map AC.d x)∘f_.enc) ks)(n:Nat):∀x,x∈L->AC.lts n x=tT:=λx hx=>by
 obtain⟨t,_,rfl⟩:=af.1 (h x hx);simp
theorem zEk(ns:oN)(ts:oL):h_ Pg 186 [.one (.sl oK 1 (encS ns)),.one (.sl oK 4 (ts.map f_.enc))] (.a? [.agg (Bc ns ts).1.enc,.one (.bool (Bc ns ts).2)]):=by
 refine zwA oC λo c hN hp=>?_;have hb:f_.enc (.mk 5 (bs []) [] [])=[.int .i64 5,.str (bs []),.sl oK 1 [],.sl oK 4 []]:=rfl;let⟨R,hR⟩:=oJ (Bc ns ts);rw[hR];unfold Bc at hR;unfold Yc;by_cases h1:lN ns=lN ts;rotate_left
 .have h1':¬(lN ns:Int)=lN ts:=oM;rw[aC (.inl h1)]at hR;subst hR;simp[h1,h1',hb]
 by_cases h2:16<lN ns
 .have h2':(16:Int)<lN ns:=oM;have h2'':(16:Int)<lN ts:=oM;rw[aC (.inr h2)]at hR;subst hR;simp[h1,h2',h2'',hb]
 have h2':¬(16:Int)<lN ns:=oM;have h2'':¬(16:Int)<lN ts:=oM;rw[aB oM]at hR;simp[h1,h2',h2''];refine fT [.c 1 2,.c 1 3] ?_;simp;refine fM gm hp (λx:Nat × List fD × List f_=>x.1<=lN ns/\lN x.2.1=lN x.2.2/\lN x.2.1<=x.1/\iy (ns.drop x.1) (ts.drop x.1) x.2.1 x.2.2=iy ns ts [] []) (λx=>GJ ns ts x.1) (λx=>Dm x.2.1 x.2.2) (λx=>lN ns-x.1) (0,[],[]) [0,1,2,3] ⟨oC,rfl,oC,oC⟩ (by simp[encS]) λ⟨i,ms,ks⟩ ⟨i1,i2,i3,i4⟩=>?_;unfold Yb;simp only at i1 i2 i3 i4;simp;apply gM<;>intro h
 .have hi:i<lN ns:=uM h;have ht:i<lN ts:=oM;rw[aF hi,aF ht,iy]at i4;simp[aA hi];refine gQ (zAV _) ?_;simp;refine zIW hp ns ts i hi (mP ns[i]) ms ks oM (l:=[0,1,2,3]) oC λT t9 t8 t7 t6 t4 t1 t0=>?_;have hpl:=RH ns[i] ms;generalize U? ns[i] ms=k at*
  simp (maxSteps:=400000) [t9,t8,t7,t6];by_cases hn:mP ns[i]=tT;rotate_left
  .rw[aC (.inl (uM hn))]at i4;rw[<-i4]at hR;subst hR;have z1:take (lN ms) (encS ms)=encS ms:=aD oC;have z2:take (lN ks) (List.map f_.enc ks)=List.map f_.enc ks:=aD oC;simp[hn,t4];refine oG ?_;simp[z1,z2,RJ]
  have hks:k<=lN ks:=oM;have hmin:min k (lN ms)=k:=oM;have hmin2:min k (lN ks)=k:=oM;by_cases hk:k<lN ms
  .by_cases he:ms[k]=ns[i]
   .rw[aC (.inr (by rw[aA hk,he]))]at i4;rw[<-i4]at hR;subst hR;have z1:take (lN ms) (encS ms)=encS ms:=aD oC;have z2:take (lN ks) (List.map f_.enc ks)=List.map f_.enc ks:=aD oC;simp[hn,t4,t0,hk,aA hk,aA hi,he];refine oG ?_;simp[z1,z2,RJ]
   .rw[aB (by rw[aA hk];simp[hn,he])]at i4;simp[hn,t4,t0,t1,hk,aA hk,aA hi,aA ht,he,hmin,hmin2,hpl,hks];refine⟨oD,oM,oM,oM,oM,oM,oM,?_⟩;refine fE (i+1,ms.take k++ns[i]::ms.drop k,ks.take k++ts[i]::ks.drop k) [0,1,6,9] ⟨qM,by simp;omega,by simp;omega,i4⟩ qM ?_;simp[t0,t1,t4,t6,t7];refine⟨wI,⟨oM,oM⟩,?_,mid oC (by simp;omega) _,Mo (λx hx=>dH hx) 4,Mo (λx hx=>di hx) 4⟩;rw[mid (l:=List.map (λx=>List.map AC.d x) (encS ms)) oC (by simp;omega)];simp[encS,map_take,map_drop]
  .have hk2:k=lN ms:=oM;rw[aB (by rw[aR oM];simp[hn])]at i4;simp[hn,t4,t0,t1,hk,aA hi,aA ht,hmin,hmin2,hpl,hks];refine⟨oD,oM,oM,oM,oM,oM,oM,?_⟩;refine fE (i+1,ms.take k++ns[i]::ms.drop k,ks.take k++ts[i]::ks.drop k) [0,1,6,9] ⟨qM,by simp;omega,by simp;omega,i4⟩ qM ?_;simp[t0,t1,t4,t6,t7];refine⟨wI,⟨oM,oM⟩,?_,mid oC (by simp;omega) _,Mo (λx hx=>dH hx) 4,Mo (λx hx=>di hx) 4⟩;rw[mid (l:=List.map (λx=>List.map AC.d x) (encS ms)) oC (by simp;omega)];simp[encS,map_take,map_drop]
 .have hi:i=lN ns:=oI h;subst hi;rw[aS,iy]at i4;rotate_left
  .intros;contradiction
  rw[<-i4]at hR;subst hR;have z1:take (lN ms) (List.map (λx=>List.map AC.d x) (encS ms))=List.map (λx=>List.map AC.d x) (encS ms):=zIX ms;have z3:take (lN ms) (encS ms)=encS ms:=aD oC;have z4:take (lN ks) (List.map f_.enc ks)=List.map f_.enc ks:=aD oC;simp[z1,yQ,RJ,z3,z4]
end Go.Gr
