/- Texts of ours, joined and written short by a program of ours. -/
import Derived.Test.YtnbgmeamdkggeaaGreatDoorJ07
import Derived.Test.YtnbgmeamdkggeaaGreatDoorJ06
set_option maxRecDepth 20000
set_option maxHeartbeats 4000000
set_option linter.unusedVariables false
set_option linter.unusedSectionVars false
set_option linter.unusedSimpArgs false
set_option linter.defProp false
set_option linter.unnecessarySimpa false
namespace Go.Gr
open Go.Abs Go.Proofs List
def iI(v:di × fZ):List D:=.str v.1::v.2.enc
def jO.enc(i:jO):List D:=[.str i.from_,.sl false 1 (encS i.names),.int .i64 i.line,.int .i64 i.col]
def ik.enc(d:ik):List D:=[.str d.name,.bool d.exp,.sl false 5 (d.vars.map iI),.str d.param,.sl false 4 (d.types.map fZ.enc)]++d.body.enc++[.int .i64 d.line,.int .i64 d.col]
def ig.enc(m:ig):List D:=[.sl false 4 (m.imps.map jO.enc),.sl false 15 (m.decs.map ik.enc)]
@[simp] theorem zGU(v:di × fZ):(iI v).length=5:=by simp[iI]
@[simp] theorem jO.enc_length(v:jO):v.enc.length=4:=rfl
@[simp] theorem ik.enc_length(v:ik):v.enc.length=15:=by simp[ik.enc]
@[simp] theorem ig.enc_length(v:ig):v.enc.length=2:=rfl
theorem UM(v:di × fZ):D.erdL (iI v)=iI v:=by simp[iI]
theorem UN:∀l:List (di × fZ),D.erdE (l.map iI)=l.map iI
|[]=>rfl
|v::l=>by simp only[map_cons,D.erdE,UM,UN l]
@[simp] theorem UO:∀a b:List D,D.erdL (a++b)=D.erdL a++D.erdL b
|[],_=>rfl
|x::a,b=>by simp only[cons_append,D.erdL,UO a b]
@[simp] theorem zC0:∀a b:List (List D),D.erdE (a++b)=D.erdE a++D.erdE b
|[],_=>rfl
|x::a,b=>by simp only[cons_append,D.erdE,zC0 a b]
attribute [simp] UM UN
@[simp] theorem jO.erdL(v:jO):D.erdL v.enc=v.enc:=by simp[jO.enc]
@[simp] theorem jO.erdE:∀l:List jO,D.erdE (l.map jO.enc)=l.map jO.enc
|[]=>rfl
|v::l=>by simp only[map_cons,D.erdE,jO.erdL,jO.erdE l]
@[simp] theorem zHT(a b c d e:AC)(T:fZ):splice [a,b,c,d,e] 1 (T.enc.map AC.d)=a::T.enc.map .d:=by rw[T.enc_eq];try rfl
def Lp:∀v:List (List D),(D.erdE v).length=v.length
|[]=>rfl
|d::v=>by simp only[D.erdE,length_cons,Lp v]
section
variable {L:List Tok}
def Ib(hL:iR L):∀(n:Nat) (l:List di),gF L (tO L n l)
|0,l,p,hp=>Tm.refl hp
|n+1,l,p,hp=>by
 have h1:=lS hL hp;have h2:=h1.trans (iF hL h1.lt (s:=bs [44]));rw[tO];split
 ·exact h2.trans (Ib hL n _ _ h2.lt)
 ·exact h2
def xk(hL:iR L):gF L (uP L):=Lf hL 102
def Ic(hL:iR L):gF L (Dj L):=(FE hL (xk hL) 102).1
def UQ(hL:iR L)(hl:L.length<=10000):ow L 0 (uP L):=λr hr hd=>Lm hL hl 102 r hr (by omega) (by omega)
def zG3(hL:iR L)(hl:L.length<=10000):mh L 118 0 (Dj L):=(UL hL hl 102 0 (by omega) (by omega)).1
def tT(L:List Tok)(p:PS):fZ × PS:=if(gG L (bs [60,58]) p).1=true then uP L (gG L (bs [60,58]) p).2 else(noT,p)
def zF8(hL:iR L):gF L (tT L):=λp hp=>by
 unfold tT;split
 ·have h1:=iF hL hp (s:=bs [60,58]);exact h1.trans (xk hL _ h1.lt)
 ·exact Tm.refl hp
def UR(n:Nat)(l:List (di × fZ))(p:PS):xe L (n+1) l p=if(gG L (bs [44]) (tT L (iN L p).2).2).1=true then xe L n (l++[((iN L p).1,(tT L (iN L p).2).1)]) (gG L (bs [44]) (tT L (iN L p).2).2).2 else(l++[((iN L p).1,(tT L (iN L p).2).1)],iV L (bs [93]) (gG L (bs [44]) (tT L (iN L p).2).2).2):=by
 rw[xe];try rfl
def UT(hL:iR L):∀(n:Nat) (l:List (di × fZ)),gF L (xe L n l)
|0,l,p,hp=>Tm.refl hp
|n+1,l,p,hp=>by
 have h1:=lS hL hp;have h2:=h1.trans (zF8 hL _ h1.lt);have h3:=h2.trans (iF hL h2.lt (s:=bs [44]));rw[UR];split
 ·exact h3.trans (UT hL n _ _ h3.lt)
 ·exact h3.trans (iP hL h3.lt)
def Ie(hL:iR L):gF L (xf L):=λp hp=>by
 unfold xf;split
 ·have h1:=iF hL hp (s:=bs [91]);exact h1.trans (UT hL _ _ _ h1.lt)
 ·exact Tm.refl hp
def FJ(hL:iR L):∀(n:Nat) (l:List jO),gF L (wL L n l)
|0,l,p,hp=>Tm.refl hp
| n+1,l,p,hp=>by
 rw[wL];split
 ·have h1:=iF hL hp (s:=wK);have h2:=h1.trans (lS hL h1.lt);have h3:=h2.trans (iP hL h2.lt (s:=bs [58]));have h4:=h3.trans (Ib hL (L.length+1) [] _ h3.lt);have h5:=h4.trans (iP hL h4.lt (s:=bs [59]));exact h5.trans (FJ hL n _ _ h5.lt)
 ·exact Tm.refl hp
def Lr(hL:iR L):gF L (qd L):=λp hp=>by
 have h1:=iF hL hp (s:=zZ);have h2:=h1.trans (iP hL h1.lt (s:=sP));have h3:=h2.trans (lS hL h2.lt);have h4:=h3.trans (Ie hL _ h3.lt);have h5:=h4.trans (Ai hL (xk hL) _ h4.lt);have h6:=h5.trans (iP hL h5.lt (s:=bs [61]));have h7:=h6.trans (Ic hL _ h6.lt);exact h7.trans (iP hL h7.lt (s:=bs [59]))
def Ig(hL:iR L):∀(n:Nat) (l:List ik),gF L (qf L n l)
|0,l,p,hp=>Tm.refl hp
| n+1,l,p,hp=>by
 rw[qf];split
 ·have h1:=Lr hL _ hp;exact h1.trans (Ig hL n _ _ h1.lt)
 ·exact Tm.refl hp
def zBq(hL:iR L):gF L (Ah L):=λp hp=>by
 have h1:=FJ hL (L.length+1) [] _ hp;exact h1.trans (Ig hL (L.length+1) [] _ h1.lt)
def zBr(hL:iR L)(hl:L.length<=10000)(p:PS)(h:p.at'<L.length):
  MCall Pg 115 [.c (.ptr 0 0)] [jb L p] (.c (.d (.sl false 1 (encS (tO L (L.length+1) [] p).1)))) [jb L (tO L (L.length+1) [] p).2]:=by
 refine zyP mU λts hts ok hb c hN hp=>?_;obtain⟨t,rfl⟩:=mV hts;obtain⟨F0,hF0⟩:∃F0,tO L (L.length+1) [] p=F0:=⟨_,rfl⟩
 rw[hF0];unfold Te;simp;refine eY [.t 3] ?_;simp
 refine eP gD hp (λx:Nat × List di × PS=>tO L x.1 x.2.1 x.2.2=F0/\Tm L p x.2.2/\L.length<x.1+x.2.2.at'/\x.2.1.length<=x.2.2.at')
  (λx=>[(0,.c (.ptr 0 0)),(3,.c (.msl 1 2 0 x.2.1.length))])
  (λx=>[jb L x.2.2,.pin t 0,.arr 1 ((encS x.2.1).map (·.map .d))])
  (λx=>x.1) (L.length+1,[],p) [0,1,2] ⟨hF0,Tm.refl h,by simp only;omega,by simp⟩ (by simp) λ⟨n,l,q⟩ ⟨i1,i2,i3,i4⟩=>?_
 unfold Td;simp only at i1 i2 i4;have i3:L.length<n+q.at':=i3;have hlt:=i2.lt;obtain⟨n,rfl⟩:∃m,n=m+1:=⟨n-1,by omega⟩
 rw[tO]at i1;have e1:=lS hL hlt;have le1:=e1.le;have a1:=wO q hlt hl;have a2:=lT (bs [44]) _ e1.lt hl;generalize (iN L q).1=s at*
 generalize (iN L q).2=q1 at*
 simp;refine fO [0] a1 ?_;simp;refine⟨by omega,?_⟩;refine fO [0] a2 ?_;by_cases q2:(gG L (bs [44]) q1).1=true
 ·rw[aB q2]at i1;have hat:=(take_at q2).1;have e2:=e1.trans (iF hL e1.lt (s:=bs [44]));generalize (gG L (bs [44]) q1).2=q3 at*
  simp[q2];refine dm (n,l++[s],q3) [0,1,3] ⟨i1,i2.trans e2,by simp only;omega,by simp;omega⟩ (by simp) ?_;simp;exact aH (by simp)
 ·rw[aA q2,kg q2]at i1;rw[kg q2,<-i1];rw[aN]at q2;have z:take l.length (List.map (λx=>List.map AC.d x) (encS l))=List.map (λx=>List.map AC.d x) (encS l):=aH (by simp);have z2:take (l.length+1) (encS l++[[.str s]])=encS l++[[.str s]]:=aH (by simp);simp[q2];refine eU [3] ?_;simp[jT,z];exact eO [0] [1] (by simp[jT,z,z2])
def zC1(hL:iR L)(hl:L.length<=10000)(p:PS)(h:p.at'<L.length)(hd:p.deep=0):
  MCall Pg 116 [.c (.ptr 0 0)] [jb L p] (.c (.d (.sl false 5 ((xf L p).1.map iI)))) [jb L (xf L p).2]:=by
 refine zAw mU λts hts ok hb c hN hp=>?_;obtain⟨t,rfl⟩:=mV hts;have c1:=lT (bs [91]) p h hl;unfold Tg xf;simp;refine fO [0] c1 ?_;by_cases q0:(gG L (bs [91]) p).1=true
 ·rw[aB q0];have t1:=iF hL h (s:=bs [91]);obtain⟨F0,hF0⟩:∃F0,xe L (L.length+1) [] (gG L (bs [91]) p).2=F0:=⟨_,rfl⟩
  rw[hF0];generalize (gG L (bs [91]) p).2=p1 at*
  have hd1:p1.deep=0:=by rw[t1.deep,hd]
  simp[q0];refine eY [.t 3] ?_;simp
  refine eP gD hp (λx:Nat × List (di × fZ) × List (List D) × PS=>xe L x.1 x.2.1 x.2.2.2=F0/\Tm L p1 x.2.2.2/\L.length<x.1+x.2.2.2.at'/\x.2.1.length<=x.2.2.2.at'/\D.erdE x.2.2.1=x.2.1.map iI)
   (λx=>[(0,.c (.ptr 0 0)),(3,.c (.msl 5 2 0 x.2.2.1.length))])
   (λx=>[jb L x.2.2.2,.pin t 0,.arr 5 (x.2.2.1.map (·.map .d))])
   (λx=>x.1) (L.length+1,[],[],p1) [0,1,2] ⟨hF0,Tm.refl t1.lt,by simp only;omega,by simp,rfl⟩ (by simp) λ⟨n,l,v,q⟩ ⟨i1,i2,i3,i4,i5⟩=>?_
  unfold Tf;simp only at i1 i2 i4 i5;have i3:L.length<n+q.at':=i3;have hvl:v.length=l.length:=by rw[<-Lp,i5,ah]
  have hlt:=i2.lt;obtain⟨n,rfl⟩:∃m,n=m+1:=⟨n-1,by omega⟩
  rw[UR]at i1;have e1:=lS hL hlt;have le1:=e1.le;have a1:=wO q hlt hl;have a2:=lT (bs [60,58]) _ e1.lt hl;generalize (iN L q).1=s at*
  generalize (iN L q).2=q1 at*
  simp;refine fO [0] a1 ?_;simp;refine fO [0] a2 ?_;unfold tT at i1;by_cases b1:(gG L (bs [60,58]) q1).1=true
  ·rw[aB b1]at i1;have e2:=e1.trans (iF hL e1.lt (s:=bs [60,58]));have e3:=e2.trans (xk hL _ e2.lt);have hat:=(take_at b1).1;have le3:=(xk hL _ e2.lt).le;have a3:=UQ hL hl _ e2.lt (by rw[e2.deep,i2.deep,hd1]);have a4:=lT (bs [44]) _ e3.lt hl;generalize (gG L (bs [60,58]) q1).2=q2 at*
   generalize (uP L q2).1=T at*
   generalize (uP L q2).2=q3 at*
   simp[b1];refine fO [0] a3 ?_;simp;refine⟨by omega,?_⟩;refine fO [0] a4 ?_;by_cases q2:(gG L (bs [44]) q3).1=true
   ·rw[aB q2]at i1;have hat:=(take_at q2).1;have e4:=e3.trans (iF hL e3.lt (s:=bs [44]));generalize (gG L (bs [44]) q3).2=q4 at*
    simp[q2];refine dm (n,l++[(s,T)],v++[.str s::T.enc],q4) [0,1,4] ⟨i1,i2.trans e4,by simp only;omega,by simp;omega,by simp[i5,iI]⟩ (by simp) ?_;simp;exact aH (by simp)
   ·rw[aA q2,kg q2]at i1;rw[kg q2,<-i1];rw[aN]at q2;have a3:=nQ hL (bs [93]) _ e3.lt hl;have z:take v.length (List.map (λx=>List.map AC.d x) v)=List.map (λx=>List.map AC.d x) v:=aH (by simp);have z2:take (v.length+1) (v++[.str s::T.enc])=v++[.str s::T.enc]:=aH (by simp);simp[q2];refine eU [4] ?_;simp[jT,z];refine fO [0] a3 ?_;simp[jT,z];exact eF [0] [1] (by simp[jT,z,z2,i5,iI])
  ·rw[aA b1]at i1;rw[kg b1];rw[aN]at b1;have a4:=lT (bs [44]) _ e1.lt hl;simp[b1];refine⟨by omega,?_⟩;refine fO [0] a4 ?_;by_cases q2:(gG L (bs [44]) q1).1=true
   ·rw[aB q2]at i1;have hat:=(take_at q2).1;have e4:=e1.trans (iF hL e1.lt (s:=bs [44]));generalize (gG L (bs [44]) q1).2=q4 at*
    simp[q2];refine dm (n,l++[(s,noT)],v++[[.str s,.int .i64 0,.str (bs []),.sl true 1 [],.sl true 4 []]],q4) [0,1,4] ⟨i1,i2.trans e4,by simp only;omega,by simp;omega,by simp[i5,iI,noT,fZ.enc,fZ.encs,encS]⟩ (by simp) ?_;simp;exact aH (by simp)
   ·rw[aA q2,kg q2]at i1;rw[kg q2,<-i1];rw[aN]at q2;have a3:=nQ hL (bs [93]) _ e1.lt hl;have z:take v.length (List.map (λx=>List.map AC.d x) v)=List.map (λx=>List.map AC.d x) v:=aH (by simp);have z2:take (v.length+1) (v++[[.str s,.int .i64 0,.str (bs []),.sl true 1 [],.sl true 4 []]])=v++[[.str s,.int .i64 0,.str (bs []),.sl true 1 [],.sl true 4 []]]:=aH (by simp);simp[q2];refine eU [4] ?_;simp[jT,z];refine fO [0] a3 ?_;simp[jT,z];exact eF [0] [1] (by simp[jT,z,z2,i5,iI,noT,fZ.enc,fZ.encs,encS])
 ·rw[aA q0,kg q0];rw[aN]at q0;simp[q0];exact eF [0] [1] (by simp)
end
end Go.Gr
namespace Go.Gr
open Go.Abs Go.Proofs
def oG:ig:=⟨[],[]⟩
def ps0:PS:=⟨0,0,0,0,0⟩
def tV(L:List Tok)(p:PS):PS:=if p.e=0/\(gU L p).kind≠0 then vO L 7 p else p
def pW(s:di):ig × iA:=
 let x:=kX s
 if x.2.e≠0 then(oG,x.2)else
  let m:=Ah x.1 ps0;let p:=tV x.1 m.2
  if p.e≠0 then(oG,⟨0,p.line,p.col,p.e⟩)else(m.1,⟨0,p.line,p.col,p.e⟩)
mutual
def mq:fZ->Int->Int
|.mk _ _ _ l,m=>oz l m 1
def oz:List fZ->Int->Int->Int
|[],_,n=>n
|t::l,m,n=>if n<m then oz l m (n+mq t (m-n))else n
end
def nK:Nat->fZ->Int
|0,_=>1
|1,_=>1
|n+2,t=>(t.kids.foldl (λh k=>if h<nK (n+1) k then nK (n+1) k else h) 0)+1
def qB{α:Type}(q:α->α->Bool):List α->List α->Bool
|[],[]=>true
|x::a,y::b=>q x y&&qB q a b
|_,_=>false
mutual
def nA:fZ->fZ->Bool
|.mk k n s l,u=>decide (k=u.kind)&&(decide (n=u.name)&&(decide (s=u.names)&&xm l u.kids))
def xm:List fZ->List fZ->Bool
|[],[]=>true
|t::l,u::r=>nA t u&&xm l r
|[],_::_=>false
|_::_,[]=>false
end
def bT(k:Int):fZ:=.mk k (bs []) [] []
def iD(t:fZ):Int:=if t.kind<1\/6<t.kind then -1 else t.kind-1
def Dp(a b:di):Bool:=Op.bytesLess a.data.toList b.data.toList
def jD(s:di):List di->Nat
|[]=>0
|n::l=>if Dp n s=true then jD s l+1 else 0
def jI:List di->List fZ->List di->List fZ->(List di × List fZ) × Bool
|s::ss,t::ts,ns,ks=>
 if mJ s=false\/ns[jD s ns]?=some s then((ns,ks),false)else jI ss ts (ns.take (jD s ns)++s::ns.drop (jD s ns)) (ks.take (jD s ns)++t::ks.drop (jD s ns))
|_,_,ns,ks=>((ns,ks),true)
def xB(ns:List di)(ts:List fZ):fZ × Bool:=
 if ns.length≠ts.length\/16<ns.length then(.mk 5 (bs []) [] [],false)else(.mk 5 (bs []) (jI ns ts [] []).1.1 (jI ns ts [] []).1.2,(jI ns ts [] []).2)
def jJ(k:fZ):List fZ:=if k.kind=7 then k.kids else [k]
def jE(tag:Int):List fZ->Bool->List fZ->(Bool × List fZ) × Bool
|[],had,ks=>((had,ks),true)
| x::l,had,ks=>
 if x.kind=0 then((had,ks),false)else if iD x≠tag then jE tag l had ks else
  let ks':=if had then ks else ks++[x]
  if nA x (ks'.getLastD noT)=true then jE tag l true ks' else((true,ks'),false)
def pX(all:List fZ):List Int->List fZ->List fZ × Bool
|[],ks=>(ks,true)
|tag::l,ks=>if(jE tag all false ks).2=true then pX all l (jE tag all false ks).1.2 else((jE tag all false ks).1.2,false)
def yc(kids:List fZ):fZ × Bool:=
 let r:=pX (kids.flatMap jJ) [0,1,2,3,4,5] []
 if r.2=true then(match r.1 with
  |[t]=>(t,true)
  |l=>(.mk 7 (bs []) [] l,decide (0<l.length)))
 else(.mk 7 (bs []) [] r.1,false)
def lc(k:Int)(s:List di)(l:List fZ):fZ × Bool:=
 if k=5 then xB s l else if k=6 then(.mk 6 (bs []) [] l,decide (l.length=2))else yc l
mutual
def ky:fZ->fZ × Bool
|.mk k n s l=>if 5<=k/\k<=7 then(if(kD l).2=true then lc k s (kD l).1 else(noT,false))else if 0<=k/\k<=4 then(bT k,true)else(noT,false)
def kD:List fZ->List fZ × Bool
|[]=>([],true)
|t::l=>if(ky t).2=true then((ky t).1::(kD l).1,(kD l).2)else([],false)
end
def kS(t:fZ):fZ × Int:=if 16<nK 17 t\/200<mq t 201 then(noT,9)else if(ky t).2=true then((ky t).1,0)else(noT,9)
mutual
def qx:fZ->Bool->di
| .mk k n s l,br=>
 if k=0 then bs [97,110,121]else if k=1 then bs [110,117,108,108]else if k=2 then bs [98,111,111,108]else if k=3 then bs [105,110,116]else if k=4 then bs [115,116,114]
 else if k=5 then bs [123]++xC s l (bs []) 0++bs [125]
 else if k=6 then(match l with
  |a::b::_=>if br=true then bs [40]++(qx a true++bs [32,45,62,32]++qx b false)++bs [41]else qx a true++bs [32,45,62,32]++qx b false
  |_=>bs [])
 else yf l (bs []) 0
def xC:List di->List fZ->di->Nat->di
|s::ss,t::ts,out,i=>xC ss ts ((if 0<i then out++bs [44,32]else out)++s++bs [58,32]++qx t false) (i+1)
|_,_,out,_=>out
def yf:List fZ->di->Nat->di
|t::ts,out,i=>yf ts ((if 0<i then out++bs [32,124,32]else out)++qx t true) (i+1)
|[],out,_=>out
end
def gI(t:fZ):Bool:=decide ((kS t).2=0)&&nA (kS t).1 t
def xD(t:fZ):di:=if gI t=true then qx t false else bs []
structure jk where
 tag:Int
 opn:Bool
 t:fZ
def jk.enc(p:jk):List D:=.int .i64 p.tag::.bool p.opn::p.t.enc
def noP:jk:=⟨0,false,noT⟩
def kG(t:fZ):List jk:=
 if t.kind=0 then [⟨0,false,bT 1⟩,⟨1,false,bT 2⟩,⟨2,false,bT 3⟩,⟨3,false,bT 4⟩,⟨4,true,bT 5⟩,⟨5,false,.mk 6 (bs []) [] [noT,noT]⟩]
 else if t.kind≠7 then [⟨iD t,false,t⟩]else t.kids.map λk=>⟨iD k,false,k⟩
def kT(l:List jk)(tag:Int):jk × Bool:=match l.find? λp=>decide (p.tag=tag)with
|some p=>(p,true)
|none=>(noP,false)
def qC:List di->List fZ->di->fZ × Bool
|n::ns,k::ks,s=>if n=s then(k,true)else qC ns ks s
|_,_,_=>(noT,false)
def oO(t:fZ)(s:di):fZ × Bool:=qC t.names t.kids s
def xE(rc:fZ->fZ->Bool)(m:fZ):List di->List fZ->Bool
|s::ss,k::ks=>(oO m s).2&&(rc (oO m s).1 k&&xE rc m ss ks)
|_,_=>true
def jg(t:fZ):fZ:=t.kids.getD 0 noT
def jh(t:fZ):fZ:=t.kids.getD 1 noT
def qP (loose:Bool):Nat->fZ->fZ->Bool
|0,_,_=>false
| n+1,a,b=>
 if a.kind=0\/b.kind=0 then loose||decide (a.kind=b.kind)else
  (kG a).all λp=>
   let q:=kT (kG b) p.tag
   q.2&&(xE (qP loose n) p.t q.1.t.names q.1.t.kids&&(!decide (q.1.tag=5)||(qP loose n (jg q.1.t) (jg p.t)&&qP loose n (jh p.t) (jh q.1.t))))
mutual
def ko:fZ->Nat
|.mk _ _ _ l=>kE l+1
def kE:List fZ->Nat
|[]=>0
|t::l=>max (ko t) (kE l)
end
def pE(loose:Bool)(a b:fZ):Bool:=qP loose (ko a+ko b) a b
def lU(a b:fZ):Bool:=gI a&&(gI b&&pE false a b)
def uj(a b:fZ):Bool:=gI a&&(gI b&&pE true a b)
def yg(a b:fZ):List Int->List fZ->Option (List fZ)
|[],l=>some l
| tag::r,l=>
 let m:=kT (kG a) tag;let n:=kT (kG b) tag
 if m.2=true/\n.2=true then
  (if pE false m.1.t n.1.t=true then yg a b r (l++[n.1.t])else if pE false n.1.t m.1.t=true then yg a b r (l++[m.1.t])else none)
 else if m.2=true then yg a b r (l++[m.1.t])else if n.2=true then yg a b r (l++[n.1.t])else yg a b r l
def vR(a b:fZ):fZ:=
 if lU a b=true then b else if lU b a=true then a
 else if gI a=false\/gI b=false\/a.kind=0\/b.kind=0 then noT
 else match yg a b [0,1,2,3,4,5] []with
  |none=>noT
  |some l=>if(kS (.mk 7 (bs []) [] l)).2=0 then(kS (.mk 7 (bs []) [] l)).1 else noT
def qy(t:fZ)(tag:Int):fZ × fZ:=
 if gI t=false\/tag<0\/6<=tag then(t,t)
 else if t.kind=0 then(if tag=5 then(t,t)else(bT (1+tag),t))
 else if(kT (kG t) tag).2=false then(t,t)
 else if t.kind≠7 then(t,t)
 else match t.kids.filter λk=>decide (iD k≠tag)with
  |[r]=>((kT (kG t) tag).1.t,r)
  |l=>((kT (kG t) tag).1.t,.mk 7 (bs []) [] l)
def fi{α:Type}(q:α->Bool):Nat->List α->Int
|_,[]=> -1
|j,x::l=>if q x=true then j else fi q (j+1) l
def jU(names:List di)(s:di):Int:=fi (λn=>decide (n=s)) 0 names
structure iO where
 name:di
 module:Int
 decl:Int
def iO.enc(e:iO):List D:=[.str e.name,.int .i64 e.module,.int .i64 e.decl]
def z8:iO:=⟨bs [],0,0⟩
structure gq where
 names:List di
 mods:List ig
 scopes:List (List iO)
 main:iO
def gq.enc(l:gq):List D:=[.sl false 1 (encS l.names),.sl false 2 (l.mods.map ig.enc),.sl false 1 (l.scopes.map λs=>[.sl false 3 (s.map iO.enc)])]++l.main.enc
def Aj:gq:=⟨[],[],[],z8⟩
def qQ:List (di × di)->Nat->List di->List ig->List iA->(List di × List ig) × List iA
|[],_,ns,ms,bad=>((ns,ms),bad)
|s::l,i,ns,ms,bad=>
 let m:=pW s.2
 qQ l (i+1) (ns++[s.1]) (ms++[m.1]) (if mJ s.1=false then bad++[⟨i,1,1,10⟩]else if 0<=jU ns s.1 then bad++[⟨i,1,1,8⟩]else if m.2.e≠0 then bad++[⟨i,m.2.line,m.2.col,m.2.e⟩]else bad)
def tX(l:List (di × di)):(List di × List ig) × List iA:=
 if 16<l.length then(([],[]),[⟨16,1,1,19⟩])else qQ l 0 [] [] []
def pY:List iO->di->iO × Bool
|[],_=>(z8,false)
|e::l,s=>if e.name=s then(e,true)else pY l s
def sQ(m:ig)(s:di):Int:=fi (λd:ik=>decide (d.name=s)) 0 m.decs
def Ak:ik:=⟨bs [],false,[],bs [],[],mZ,0,0⟩
def oH(M:ig)(m i:Int)(x:jO):List di->List iO->List iA->List iO × List iA
|[],sc,bad=>(sc,bad)
|s::l,sc,bad=>
 if sQ M s<0\/(M.decs.getD (sQ M s).toNat Ak).exp=false then oH M m i x l sc (bad++[⟨i,x.line,x.col,12⟩])
 else if(pY sc s).2=true then oH M m i x l sc (bad++[⟨i,x.line,x.col,8⟩])
 else oH M m i x l (sc++[⟨s,m,sQ M s⟩]) bad
def xF(ns:List di)(ms:List ig)(i:Int)(x:jO)(sc:List iO):List iO × List iA:=
 if jU ns x.from_<0 then(sc,[⟨i,x.line,x.col,11⟩])else oH (ms.getD (jU ns x.from_).toNat oG) (jU ns x.from_) i x x.names sc []
def yh(ns:List di)(ms:List ig)(i:Int):List jO->List iO->List iA->List iO × List iA
|[],sc,bad=>(sc,bad)
|x::l,sc,bad=>yh ns ms i l (xF ns ms i x sc).1 (bad++(xF ns ms i x sc).2)
def xn(i:Int):List ik->Nat->List iO->List iA->List iO × List iA
|[],_,sc,bad=>(sc,bad)
|d::l,k,sc,bad=>if(pY sc d.name).2=true then xn i l (k+1) sc (bad++[⟨i,d.line,d.col,8⟩])else xn i l (k+1) (sc++[⟨d.name,i,k⟩]) bad
def uQ(ns:List di)(ms:List ig):List ig->Nat->List (List iO)->List iA->List (List iO) × List iA
|[],_,all,bad=>(all,bad)
|m::l,i,all,bad=>
 let a:=yh ns ms i m.imps [] bad;let b:=xn i m.decs 0 a.1 a.2
 uQ ns ms l (i+1) (all++[b.1]) b.2
def yj(ns:List di):List jO->List Bool->List Bool
|[],seen=>seen
|x::l,seen=>yj ns l (if 0<=jU ns x.from_ then seen.set (jU ns x.from_).toNat true else seen)
def za(ns:List di):List ig->Nat->List Bool->List Bool
|[],_,seen=>seen
|m::l,i,seen=>za ns l (i+1) (if seen.getD i false=true then yj ns m.imps seen else seen)
def FK(ns:List di)(ms:List ig):Nat->List Bool->List Bool
|0,seen=>seen
|n+1,seen=>FK ns ms n (za ns ms 0 seen)
def Dq(ns:List di)(ms:List ig)(f t:Nat):Bool:=(FK ns ms ms.length ((List.replicate ms.length false).set f true)).getD t false
def yl(ns:List di)(ms:List ig)(i:Nat):List jO->List iA->List iA
|[],bad=>bad
|x::l,bad=>yl ns ms i l (if 0<=jU ns x.from_/\Dq ns ms (jU ns x.from_).toNat i=true then bad++[⟨i,x.line,x.col,13⟩]else bad)
def ym(ns:List di)(ms:List ig):List ig->Nat->List iA->List iA
|[],_,bad=>bad
|m::l,i,bad=>ym ns ms l (i+1) (yl ns ms i m.imps bad)
abbrev uk:=bs [109,97,105,110]
def qz(l:List (di × di)):gq × List iA:=
 let f:=tX l
 if 0<f.2.length then(Aj,f.2)else
 let s:=uQ f.1.1 f.1.2 f.1.2 0 [] []
 if 0<s.2.length then(Aj,s.2)else
 let t:=ym f.1.1 f.1.2 f.1.2 0 []
 if 0<t.length then(Aj,t)else
 let i:=jU f.1.1 uk
 if i<0 then(Aj,[⟨0,1,1,14⟩])else
 let k:=sQ (f.1.2.getD i.toNat oG) uk
 if k<0 then(Aj,[⟨i,1,1,14⟩])else
 let d:=(f.1.2.getD i.toNat oG).decs.getD k.toNat Ak
 if 0<d.vars.length then(Aj,[⟨i,d.line,d.col,14⟩])else
 (⟨f.1.1,f.1.2,s.1,⟨uk,i,k⟩⟩,[])
def xq:List di->List fZ->di->Option fZ
|v::vs,t::ts,s=>if v=s then some t else xq vs ts s
|_,_,_=>none
mutual
def rf(vars:List di)(wth:List fZ):fZ->fZ × Bool
| .mk k n s l=>
 if k=8 then(if 0<s.length\/0<l.length then(.mk k n s l,false)else match xq vars wth n with
  |some t=>(t,true)
  |none=>(.mk k n s l,false))
 else if(xu vars wth l).2=true then(.mk k n s (xu vars wth l).1,true)else(.mk k n s l,false)
def xu(vars:List di)(wth:List fZ):List fZ->List fZ × Bool
|[]=>([],true)
|t::l=>if(rf vars wth t).2=true then((rf vars wth t).1::(xu vars wth l).1,(xu vars wth l).2)else([],false)
end
def oV(t:fZ)(vars:List di)(wth:List fZ):fZ × Int:=
 if vars.length≠wth.length then(noT,1)else if 200<mq t 201\/16<nK 17 t then(noT,9)
 else if(rf vars wth t).2=true then kS (rf vars wth t).1 else(noT,9)
def FL:List (di × fZ)->List fZ->List di->List fZ->Int
|v::vs,t::ts,names,had=>
 if gI t=false then 18
 else if v.2.kind≠0/\((oV v.2 names had).2≠0\/lU t (oV v.2 names had).1=false)then 18
 else FL vs ts (names++[v.1]) (had++[t])
|_,_,_,_=>0
def Dr(vars:List (di × fZ))(l:List fZ):Int:=if vars.length≠l.length then 18 else FL vars l [] []
structure jR where
 module:Int
 decl:Int
 types:List fZ
def jR.enc(x:jR):List D:=[.int .i64 x.module,.int .i64 x.decl,.sl false 4 (x.types.map fZ.enc)]
def xw(a b:jR):Bool:=decide (a.module=b.module)&&(decide (a.decl=b.decl)&&qB nA a.types b.types)
def jq(most:Int)(L:List jR)(x:jR):(Int × Int) × List jR:=
 if(x.types.all gI)=false then((0,9),L)
 else if 0<=fi (λy=>xw y x) 0 L then((fi (λy=>xw y x) 0 L,0),L)
 else if most<=L.length then((0,19),L)else((L.length,0),L++[x])
inductive fw where
 |mk (kind n:Int) (text:di) (ints:List Int) (names:List di) (types:List fZ) (cos:List iJ) (kids:List fw)
mutual
def fw.enc:fw->List D
 |.mk k n t is ns ts cs ks=>[.int .i64 k,.int .i64 n,.str t,.sl false 1 (encI is),.sl false 1 (encS ns),.sl false 4 (ts.map fZ.enc),.sl false 5 (cs.map iJ.enc),.sl false 8 (fw.encs ks)]
def fw.encs:List fw->List (List D)
 |[]=>[]
 |c::l=>fw.enc c::fw.encs l
end
def fw.encs_map(l:List fw):fw.encs l=l.map fw.enc:=by
 induction l with
 |nil=>rfl
 |cons n l ih=>simp[fw.encs,ih]
def fw.kind:fw->Int|.mk k _ _ _ _ _ _ _=>k
def fw.n:fw->Int|.mk _ n _ _ _ _ _ _=>n
def fw.text:fw->di|.mk _ _ t _ _ _ _ _=>t
def fw.ints:fw->List Int|.mk _ _ _ i _ _ _ _=>i
def fw.names:fw->List di|.mk _ _ _ _ n _ _ _=>n
def fw.types:fw->List fZ|.mk _ _ _ _ _ t _ _=>t
def fw.cos:fw->List iJ|.mk _ _ _ _ _ _ c _=>c
def fw.kids:fw->List fw|.mk _ _ _ _ _ _ _ l=>l
def fw.enc_eq(t:fw):t.enc=[.int .i64 t.kind,.int .i64 t.n,.str t.text,.sl false 1 (encI t.ints),.sl false 1 (encS t.names),.sl false 4 (t.types.map fZ.enc),.sl false 5 (t.cos.map iJ.enc),.sl false 8 (t.kids.map fw.enc)]:=by
 cases t;simp[fw.enc,fw.encs_map,fw.kind,fw.text,fw.n,fw.ints,fw.cos,fw.types,fw.names,fw.kids]
@[simp] theorem fw.enc_length(t:fw):t.enc.length=8:=by rw[t.enc_eq];try rfl
structure kJ where
  name:di
  type:fZ
  body:fw
def kJ.enc(f:kJ):List D:=.str f.name::(f.type.enc++f.body.enc)
structure Site where
  module:Int
  line:Int
  col:Int
def Site.enc(s:Site):List D:=[.int .i64 s.module,.int .i64 s.line,.int .i64 s.col]
structure kK where
  funs:List kJ
  main:Int
  sites:List Site
def kK.enc(p:kK):List D:=[.sl false 13 (p.funs.map kJ.enc),.int .i64 p.main,.sl false 3 (p.sites.map Site.enc)]
def xG:kK:=⟨[],0,[]⟩
structure CS where
  tab:List jR
  funs:List kJ
  main:Int
  sites:List Site
  bad:List iA
  module:Int
  vars:List di
  wth:List fZ
  e:Int
  line:Int
  col:Int
abbrev Env:=List (di × fZ)
abbrev Inf:=Env->CS->(fw × fZ) × CS
def cK(k:Int)(l:List fw):fw:=.mk k 0 (bs []) [] [] [] [] l
def cN(k n:Int):fw:=.mk k n (bs []) [] [] [] [] []
def cT(k:Int)(t:di)(l:List fw):fw:=.mk k 0 t [] [] [] [] l
def noC:fw:=cN 0 0
def jG(a b:fZ):fZ:=.mk 6 (bs []) [] [a,b]
def kL(ln cl e:Int)(s:CS):CS:=if s.e=0 then {s with e:=e,line:=ln,col:=cl}else s
def iZ(t:fZ)(ln cl:Int)(s:CS):fZ × CS:=
 let r:=oV t s.vars s.wth
 (r.1,if r.2≠0 then kL ln cl 9 s else s)
def nR(t:fZ)(ln cl:Int)(s:CS):fZ × CS:=((kS t).1,if(kS t).2≠0 then kL ln cl 9 s else s)
def lH(x:fw)(t u:fZ)(ln cl:Int)(s:CS):fw × CS:=
 if s.e≠0 then(x,s)else(.mk 21 s.sites.length (bs []) [] [] [t,u] [] [x],{s with sites:=s.sites++[⟨s.module,ln,cl⟩]})
def jw(x:fw)(t u:fZ)(ln cl:Int)(s:CS):fw × CS:=
 if s.e≠0 then(x,s)else if lU t u=true then(x,s)else if uj t u=true then lH x t u ln cl s else(x,kL ln cl 15 s)
section
variable (L:gq)
def qD(m k:Int):ik:=(L.mods.getD m.toNat oG).decs.getD k.toNat Ak
def pF(e:iO)(l:List fZ):fZ × Bool:=
 let d:=qD L e.module e.decl;let a:=oV (d.types.getD 0 noT) (d.vars.map (·.1)) l;let b:=oV (d.types.getD 1 noT) (d.vars.map (·.1)) l;let t:=kS (jG a.1 b.1)
 (t.1,decide (a.2=0)&&(decide (b.2=0)&&decide (t.2=0)))
def p8 (ln cl:Int) (e:iO) (l:List fZ) (s:CS):(fw × fZ) × CS:=
 if(pF L e l).2=false then((noC,noT),kL ln cl 9 s)else
   let r:=jq 256 s.tab ⟨e.module,e.decl,l⟩
   ((cN 6 r.1.1,(pF L e l).1),if r.1.2≠0 then kL ln cl r.1.2 {s with tab:=r.2}else {s with tab:=r.2})
def nL(env:Env)(x:di):Int:=match fi (λb:di × fZ=>decide (b.1=x)) 0 env.reverse with
 |i=>if i<0 then -1 else env.length-1-i
def pG(ln cl:Int):List fZ->List fZ->CS->List fZ × CS
 |[],l,s=>(l,s)
 |t::ts,l,s=>if s.e≠0 then(l,s)else pG ln cl ts (l++[(iZ t ln cl s).1]) (iZ t ln cl s).2
def sS (n:fo) (env:Env) (s:CS):(fw × fZ) × CS:=
 let k:=nL env n.text;let e:=pY (L.scopes.getD s.module.toNat []) n.text
 if 0<=k/\n.kind=4 then((cN 4 k,(env.getD k.toNat (bs [],noT)).2),s)
 else if k<0/\e.2=false then((noC,noT),kL n.line n.col 10 s)
 else if 0<=k then((noC,noT),kL n.line n.col 18 s)
 else
   let d:=qD L e.1.module e.1.decl
   if decide (0<d.vars.length)≠decide (n.kind=19)then((noC,noT),kL n.line n.col 18 s)
   else if n.kind=4 then p8 L n.line n.col e.1 [] s
   else
     let r:=pG n.line n.col n.types [] s
     if r.2.e≠0 then((noC,noT),r.2)
     else if Dr d.vars r.1≠0 then((noC,noT),kL n.line n.col (Dr d.vars r.1) r.2)
     else p8 L n.line n.col e.1 r.1 r.2
end
def nS (n a:fo) (ia ib:Inf) (env:Env) (s:CS):(fw × fZ) × CS:=
 let x:=ia env s
 let y:=if 0<n.types.length/\x.2.e=0 then
     (let u:=iZ (n.types.getD 0 noT) n.line n.col x.2
      let z:=jw x.1.1 x.1.2 u.1 a.line a.col u.2
      ((z.1,u.1),z.2))
   else x
 let z:=ib (env++[(n.text,y.1.2)]) y.2
 ((cK 18 [y.1.1,z.1.1],z.1.2),z.2)
def ul(n a:fo)(ia:Inf)(env:Env)(s:CS):(fw × fZ) × CS:=
 let p:=iZ (n.types.getD 0 noT) n.line n.col s;let q:=if 1<n.types.length/\p.2.e=0 then iZ (n.types.getD 1 noT) n.line n.col p.2 else(noT,p.2);let x:=ia (env++[(n.text,p.1)]) q.2;let y:=if 1<n.types.length then(let z:=jw x.1.1 x.1.2 q.1 a.line a.col x.2;((z.1,q.1),z.2))else x;let u:=nR (jG p.1 y.1.2) n.line n.col y.2
 ((cK 5 [y.1.1],u.1),u.2)
def jV(u:fZ)(ln cl:Int)(x:(fw × fZ) × CS):(fw × fZ) × CS:=
 if x.1.2.kind=0 then(((lH x.1.1 x.1.2 u ln cl x.2).1,u),(lH x.1.1 x.1.2 u ln cl x.2).2)else x
def um (n b:fo) (ia ib:Inf) (env:Env) (s:CS):(fw × fZ) × CS:=
 let x:=jV (jG noT noT) n.line n.col (ia env s)
 if x.1.2.kind≠6 then((noC,noT),kL n.line n.col 16 x.2)else
   let y:=ib env x.2;let z:=jw y.1.1 y.1.2 (jg x.1.2) b.line b.col y.2
   ((cK 7 [x.1.1,z.1],jh x.1.2),z.2)
def lI:List di->List di->Bool
 |_,[]=>false
 |had,n::l=>had.any (λm=>decide (m=n))||lI (had++[n]) l
def oI(n:fo)(ks:Env->CS->(List fw × List fZ) × CS)(env:Env)(s:CS):(fw × fZ) × CS:=
 let s1:=if lI [] n.names=true then kL n.line n.col 8 s else s;let r:=ks env s1;let u:=nR (.mk 5 (bs []) n.names r.1.2) n.line n.col r.2
 ((.mk 8 0 (bs []) [] n.names [] [] r.1.1,u.1),u.2)
def nT(n:fo)(ia:Inf)(env:Env)(s:CS):(fw × fZ) × CS:=
 let x:=ia env s;let f:=oO x.1.2 n.text;let y:=if x.1.2.kind=0 then lH x.1.1 x.1.2 (.mk 5 (bs []) [n.text] [noT]) n.line n.col x.2 else(x.1.1,x.2)
 ((cT 9 n.text [y.1],f.1),if f.2=true\/x.1.2.kind=0 then y.2 else kL n.line n.col 17 y.2)
def oW(x:di):List di->List fZ->List (di × fZ)
 |n::ns,k::ks=>if n=x then oW x ns ks else(n,k)::oW x ns ks
 |_,_=>[]
def uo (n:fo) (ia ib:Inf) (env:Env) (s:CS):(fw × fZ) × CS:=
 let x:=jV (bT 5) n.line n.col (ia env s)
 if x.1.2.kind≠5 then((noC,noT),kL n.line n.col 17 x.2)else
   let y:=ib env x.2;let r:=(n.text,y.1.2)::oW n.text x.1.2.names x.1.2.kids;let u:=nR (.mk 5 (bs []) (r.map (·.1)) (r.map (·.2))) n.line n.col y.2
   ((cT 10 n.text [x.1.1,y.1.1],u.1),u.2)
def lF (q:fo) (env:Env):Env × Env:=
 if q.kind=12/\(q.kids.getD 0 mZ).kind=4/\0<=nL env (q.kids.getD 0 mZ).text then
   let k:=(nL env (q.kids.getD 0 mZ).text).toNat;let b:=env.getD k (bs [],noT)
   (env.set k (b.1,(qy b.2 q.n).1),env.set k (b.1,(qy b.2 q.n).2))
 else(env,env)
def uq(q a b:fo)(iq ia ib:Inf)(env:Env)(s:CS):(fw × fZ) × CS:=
 let x:=iq env s;let x':=jw x.1.1 x.1.2 (bT 2) q.line q.col x.2;let y:=ia (lF q env).1 x'.2;let z:=ib (lF q env).2 y.2;let j:=vR y.1.2 z.1.2;let y':=jw y.1.1 y.1.2 j a.line a.col z.2;let z':=jw z.1.1 z.1.2 j b.line b.col y'.2
 ((cK 11 [x'.1,y'.1,z'.1],j),z'.2)
def ut (n:fo) (ia:Inf) (env:Env) (s:CS):(fw × fZ) × CS:=
 let x:=ia env s
 if x.2.e≠0 then x else
   let u:=iZ (n.types.getD 0 noT) n.line n.col x.2
   if u.2.e≠0\/lU x.1.2 u.1=true then((x.1.1,u.1),u.2)else
     let y:=if x.1.2.kind≠0 then lH x.1.1 x.1.2 noT n.line n.col u.2 else(x.1.1,u.2)
     if u.1.kind=0 then((y.1,u.1),y.2)
     else if x.1.2.kind=0 then(((lH y.1 x.1.2 u.1 n.line n.col y.2).1,u.1),(lH y.1 x.1.2 u.1 n.line n.col y.2).2)
     else((.mk 21 y.1.n (bs []) [] [] [noT,u.1] [] [y.1],u.1),y.2)
def lg(n:fo)(i:Inf)(t:fZ)(env:Env)(s:CS):fw × CS:=
 let x:=i env s
 jw x.1.1 x.1.2 t n.line n.col x.2
def uu:List di:=[bs [43],bs [45],bs [42],bs [47],bs [37],bs [60,60],bs [62,62],bs [38],bs [94],bs [60],bs [60,61]]
def Al(s:di):Int:=max 0 (fi (λx=>decide (x=s)) 0 uu)
def opC (n a b:fo) (ia ib:Inf) (env:Env) (s:CS):(fw × fZ) × CS:=
 if n.text=bs [111,114]then
   let x:=lg a ia (bT 2) env s;let y:=lg b ib (bT 2) env x.2
   ((cK 11 [x.1,cN 2 1,y.1],bT 2),y.2)
 else if n.text=bs [97,110,100]then
   let x:=lg a ia (bT 2) env s;let y:=lg b ib (bT 2) env x.2
   ((cK 11 [x.1,y.1,cN 2 0],bT 2),y.2)
 else if n.text=bs [61,61]then
   let x:=ia env s;let y:=ib env x.2
   ((cK 14 [x.1.1,y.1.1],bT 2),y.2)
 else if n.text=bs [43,43]then
   let x:=lg a ia (bT 4) env s;let y:=lg b ib (bT 4) env x.2
   ((cK 15 [x.1,y.1],bT 4),y.2)
 else
   let x:=lg a ia (bT 3) env s;let y:=lg b ib (bT 3) env x.2
   ((.mk 13 (Al n.text) (bs []) [] [] [] [] [x.1,y.1],if 9<=Al n.text then bT 2 else bT 3),y.2)
def nC(n a:fo)(ia:Inf)(env:Env)(s:CS):(fw × fZ) × CS:=
 if n.kind=15 then((cK 16 [(lg a ia (bT 2) env s).1],bT 2),(lg a ia (bT 2) env s).2)
 else if n.kind=16 then((cK 17 [(lg a ia (bT 3) env s).1],bT 3),(lg a ia (bT 3) env s).2)
 else if n.kind=12 then((.mk 12 n.n (bs []) [] [] [] [] [(ia env s).1.1],bT 2),(ia env s).2)
 else((cK 19 [(ia env s).1.1],bT 1),(ia env s).2)
mutual
def iE (L:gq):fo->Inf
 | .mk k tx nn ln cl ts ns ks=>λenv s=>
   if s.e≠0 then((noC,noT),s)
   else if k=0 then((cN 0 nn,bT 3),s)
   else if k=1 then((cT 1 tx [],bT 4),s)
   else if k=2 then((cN 2 nn,bT 2),s)
   else if k=3 then((cN 3 0,bT 1),s)
   else if k=18 then((cN 20 0,bT 3),s)
   else if k=4\/k=19 then sS L (.mk k tx nn ln cl ts ns ks) env s
   else if k=8 then oI (.mk k tx nn ln cl ts ns ks) (lM L ks) env s
   else match ks with
     |[]=>((noC,noT),s)
     | a::[]=>
       if k=6 then ul (.mk k tx nn ln cl ts ns ks) a (iE L a) env s
       else if k=9 then nT (.mk k tx nn ln cl ts ns ks) (iE L a) env s
       else if k=13 then ut (.mk k tx nn ln cl ts ns ks) (iE L a) env s
       else nC (.mk k tx nn ln cl ts ns ks) a (iE L a) env s
     | a::b::[]=>
       if k=5 then nS (.mk k tx nn ln cl ts ns ks) a (iE L a) (iE L b) env s
       else if k=7 then um (.mk k tx nn ln cl ts ns ks) b (iE L a) (iE L b) env s
       else if k=10 then uo (.mk k tx nn ln cl ts ns ks) (iE L a) (iE L b) env s
       else opC (.mk k tx nn ln cl ts ns ks) a b (iE L a) (iE L b) env s
     |a::b::c::_=>uq a b c (iE L a) (iE L b) (iE L c) env s
def lM (L:gq):List fo->Env->CS->(List fw × List fZ) × CS
 |[]=>λenv s=>(([],[]),s)
 | n::l=>λenv s=>
   let x:=iE L n env s;let r:=lM L l env x.2
   ((x.1.1::r.1.1,x.1.2::r.1.2),r.2)
end
def ry:List fZ->Nat->di->di
 |[],_,s=>s
 |t::l,i,s=>ry l (i+1) (s++(if i=0 then bs [91]else bs [44,32])++xD t)
def kP(L:gq)(x:jR)(s0:CS):CS:=
 let d:=qD L x.module x.decl;let s:CS:={s0 with module:=x.module,vars:=d.vars.map (·.1),wth:=x.types,e:=0}
 let a:=iZ (d.types.getD 0 noT) d.line d.col s;let b:=iZ (d.types.getD 1 noT) d.line d.col a.2;let t:fZ × CS:=if b.2.e=0 then nR (jG a.1 b.1) d.line d.col b.2 else(jG a.1 b.1,b.2);let s2:CS:=if x.module=L.main.module/\x.decl=L.main.decl/\uj (bT 1) a.1=false then kL d.line d.col 14 t.2 else t.2;let y:=iE L d.body [(d.param,a.1)] s2;let z:=jw y.1.1 y.1.2 b.1 d.body.line d.body.col y.2;let nm:=ry x.types 0 (L.names.getD x.module.toNat (bs [])++bs [46]++d.name);let nm:=if 0<x.types.length then nm++bs [93]else nm;let s3:CS:={z.2 with funs:=z.2.funs++[⟨nm,t.1,z.1⟩]}
 if s3.e≠0 then {s3 with bad:=s3.bad++[⟨x.module,s3.line,s3.col,s3.e⟩]}else s3
def qh (L:gq) (i:Nat):List ik->Nat->CS->CS × List iA
 |[],_,s=>(s,[])
 | d ::l,k,s=>
   if 0<d.vars.length then qh L i l (k+1) s else
     let r:=jq 256 s.tab ⟨i,k,[]⟩
     if r.1.2≠0 then({s with tab:=r.2},[⟨i,d.line,d.col,r.1.2⟩])
     else qh L i l (k+1) {s with tab:=r.2,main:=if(i:Int)=L.main.module/\(k:Int)=L.main.decl then r.1.1 else s.main}
def lh(L:gq):List ig->Nat->CS->CS × List iA
 |[],_,s=>(s,[])
 |m::l,i,s=>if 0<(qh L i m.decs 0 s).2.length then qh L i m.decs 0 s else lh L l (i+1) (qh L i m.decs 0 s).1
def kY(L:gq):Nat->Nat->CS->CS
 |0,_,s=>s
 |n+1,i,s=>if i<s.tab.length then kY L n (i+1) (kP L (s.tab.getD i ⟨0,0,[]⟩) s)else s
def cs0:CS:=⟨[],[],0,[],[],0,[],[],0,0,0⟩
def yn (L:gq):kK × List iA:=
 let a:=lh L L.mods 0 cs0
 if 0<a.2.length then(xG,a.2)else
   let s:=kY L 257 0 a.1
   if 0<s.bad.length then(xG,s.bad)else(⟨s.funs,s.main,s.sites⟩,[])
def pI:List (di × di)->Int->Bool
 |[],_=>true
 |s::l,n=>if 70000-n<s.2.size\/1000<s.1.size then false else pI l (n+s.2.size)
def rz:List (di × di)->Int
 |[]=>0
 |s::l=>s.2.size+rz l
def ll (l:List (di × di)):kK × Bool:=
 if 20<l.length\/pI l 0=false\/5000<rz l then(xG,false)else
   let x:=qz l
   if 0<x.2.length then(xG,false)else
     let r:=yn x.1
     (r.1,decide (r.2.length=0))
def UU:MC:=(λx(_:x=gC tt [] [] [] (iL 0 (gB Tryz.f167)))=>x) _ (by dsimp[Tryz.f167])
def UV:MC:=(λx(_:x=gC tt [] [] [(0,UU)] (gB Tryz.f167))=>x) _ (by dsimp[Tryz.f167])
def zz1:WT Pg 167 31 UV [.tmp 4]:=wT gD Tryz.func167 (by kernel_rfl)
def UW:MC:=(λx(_:x=gC tt [] [] [] (gB Tryz.f121))=>x) _ (by dsimp[Tryz.f121])
def zz2:WT Pg 121 5 UW [.tmp 2]:=wT gD Tryz.func121 (by kernel_rfl)
def UX:MC:=(λx(_:x=gC tt [] [] [] (gB Tryz.f120))=>x) _ (by dsimp[Tryz.f120])
def zwJ:WT Pg 120 5 UX [.tmp 2]:=wT gD Tryz.func120 (by kernel_rfl)
def UY:MC:=(λx(_:x=gC tt [] [] [] (iL 0 (gB Tryz.f166)))=>x) _ (by dsimp[Tryz.f166])
def Ih:MC:=(λx(_:x=gC tt [] [] [(0,UY)] (gB Tryz.f166))=>x) _ (by dsimp[Tryz.f166])
def Ls:WT Pg 166 31 Ih [.tmp 4]:=wT gD Tryz.func166 (by kernel_rfl)
def Lt:MC:=(λx(_:x=gC tt [] [(6,[0,1,0,7,15,0,32,0,224,480,1023])] [] (iL 0 (gB Tryz.f77)))=>x) _ (by dsimp[Tryz.f77])
def Lu:MC:=(λx(_:x=gC tt [] [(11,[0,1,0,7,15,0,32,0,224,480,1023,2047])] [] (iL 2 (gB Tryz.f77)))=>x) _ (by dsimp[Tryz.f77])
def UZ:MC:=(λx(_:x=gC tt [] [] [(0,Lt),(2,Lu)] (gB Tryz.f77))=>x) _ (by dsimp[Tryz.f77])
def zz3:WT Pg 77 76 UZ [.tmp 4]:=wT gD Tryz.func77 (by kernel_rfl)
def U0:MC:=(λx(_:x=gC tt [] [] [] (gB Tryz.f76))=>x) _ (by dsimp[Tryz.f76])
def zz4:WT Pg 76 24 U0 [.cell 2 true 4,.tmp 3]:=wT gD Tryz.func76 (by kernel_rfl)
def Lv:MC:=(λx(_:x=gC tt [] [] [] (iL 1 (gB Tryz.f122)))=>x) _ (by dsimp[Tryz.f122])
def U1:MC:=(λx(_:x=gC tt [(4,50),(4,64),(6,1)] [] [(1,Lv)] (gB Tryz.f122))=>x) _ (by dsimp[Tryz.f122])
def zz5:WT Pg 122 68 U1 [.cell 2 true 4,.tmp 3]:=wT gD Tryz.func122 (by kernel_rfl)
def Lx:MC:=(λx(_:x=gC tt [] [(9,[0,0,2,6,15,31,63,127,63,511,1023,63,63,6207,14399,32767,65535])] [] (iL 2 (gB Tryz.f168)))=>x) _ (by dsimp[Tryz.f168])
def U2:MC:=(λx(_:x=gC tt [] [(11,[0,1,3,7,7,23,55,127,255,511,1023,511,4095,8191,511,511,49663,115199,262143,524287,1048575])] [(2,Lx)] (iL 0 (gB Tryz.f168)))=>x) _ (by dsimp[Tryz.f168])
def U3:MC:=(λx(_:x=gC tt [(6,0)] [] [(0,U2)] (gB Tryz.f168))=>x) _ (by dsimp[Tryz.f168])
def zwK:WT Pg 168 117 U3 [.cell 4 true 4,.tmp 5]:=wT gD Tryz.func168 (by kernel_rfl)
def U4:MC:=(λx(_:x=gC tt [] [] [] (iL 0 (gB Tryz.f169)))=>x) _ (by dsimp[Tryz.f169])
def MB:MC:=(λx(_:x=gC tt [] [(20,[0,1,0,0,12,28,60,127,255,511]),(22,[0,0,3,7,0,16,0,64,192,448,1008,2032,4095,8191])] [] (iL 4 (gB Tryz.f169)))=>x) _ (by dsimp[Tryz.f169])
def U5:MC:=(λx(_:x=gC tt [] [] [(4,MB)] (iL 2 (gB Tryz.f169)))=>x) _ (by dsimp[Tryz.f169])
def U6:MC:=(λx(_:x=gC tt [(6,0),(6,2)] [(27,[0,0,2,6,14,1,63])] [(0,U4),(2,U5)] (gB Tryz.f169))=>x) _ (by dsimp[Tryz.f169])
def zyz:WT Pg 169 102 U6 [.cell 2 true 4,.tmp 3]:=wT gD Tryz.func169 (by kernel_rfl)
def U7:MC:=(λx(_:x=gC tt [] [] [] (gB Tryz.f170))=>x) _ (by dsimp[Tryz.f170])
def zBm:WT Pg 170 15 U7 [.tmp 2]:=wT gD Tryz.func170 (by kernel_rfl)
def U8:MC:=(λx(_:x=gC tt [] [] [] (gB Tryz.f47))=>x) _ (by dsimp[Tryz.f47])
def zz6:WT Pg 47 22 U8 [.tmp 2]:=wT gD Tryz.func47 (by kernel_rfl)
def ME:MC:=(λx(_:x=gC tt [] [(19,[0,0,2,0,14,30,63,127,0,256,0,1792,3840,7936,16383,32767])] [] (iL 1 (gB Tryz.f94)))=>x) _ (by dsimp[Tryz.f94])
def MF:MC:=(λx(_:x=gC tt [] [] [] (iL 3 (gB Tryz.f94)))=>x) _ (by dsimp[Tryz.f94])
def U9:MC:=(λx(_:x=gC tt [] [(22,[0,1,3,7,15,31,0,64,192,448,991,2047,4095])] [(1,ME),(3,MF)] (gB Tryz.f94))=>x) _ (by dsimp[Tryz.f94])
def zz7:WT Pg 94 90 U9 [.tmp 4]:=wT gD Tryz.func94 (by kernel_rfl)
def Ua:MC:=(λx(_:x=gC tt [] [] [] (gB Tryz.f37))=>x) _ (by dsimp[Tryz.f37])
def zwL:WT Pg 37 19 Ua [.tmp 2]:=wT gD Tryz.func37 (by kernel_rfl)
def Ub:MC:=(λx(_:x=gC tt [] [] [] (iL 0 (gB Tryz.f124)))=>x) _ (by dsimp[Tryz.f124])
def Uc:MC:=(λx(_:x=gC tt [] [(17,[0,0,2,0,14,30,62,0,128,0,896,1920,4094,8190,16383,32767])] [] (iL 2 (gB Tryz.f124)))=>x) _ (by dsimp[Tryz.f124])
def MG:MC:=(λx(_:x=gC tt [(6,0),(6,2)] [(13,[0,1,0,7,15,31])] [(0,Ub),(2,Uc)] (gB Tryz.f124))=>x) _ (by dsimp[Tryz.f124])
def Ud:WT Pg 124 65 MG [.tmp 2]:=wT gD Tryz.func124 (by kernel_rfl)
def Ue:MC:=(λx(_:x=gC tt [] [] [] (iL 0 (gB Tryz.f125)))=>x) _ (by dsimp[Tryz.f125])
def Uf:MC:=(λx(_:x=gC tt [] [] [(0,Ue)] (gB Tryz.f125))=>x) _ (by dsimp[Tryz.f125])
def zz8:WT Pg 125 25 Uf [.cell 4 true 6,.tmp 5]:=wT gD Tryz.func125 (by kernel_rfl)
def Ug:MC:=(λx(_:x=gC tt [] [] [] (iL 0 (gB Tryz.f126)))=>x) _ (by dsimp[Tryz.f126])
def Uh:MC:=(λx(_:x=gC tt [] [] [(0,Ug)] (gB Tryz.f126))=>x) _ (by dsimp[Tryz.f126])
def zyA:WT Pg 126 27 Uh [.cell 4 true 4,.tmp 5]:=wT gD Tryz.func126 (by kernel_rfl)
def MH:MC:=(λx(_:x=gC tt [] [(15,[0,0,2,6,0,30,62,127,255,511,511,0,3071,8191]),(16,[0,1,3,7,7,23,55,7,247,503,7,2047,4095,8191])] [] (iL 2 (gB Tryz.f80)))=>x) _ (by dsimp[Tryz.f80])
def Ui:MC:=(λx(_:x=gC tt [] [(18,[0,1,3,7,15,31,63,127,255,15,527,1551,3599,15,16383,32767,65535,131071,262143,524287,1048575,131071,2228223,6422527,14811135,31588351,131071,134217727,268435455,536870911,1073741823])] [(2,MH)] (iL 0 (gB Tryz.f80)))=>x) _ (by dsimp[Tryz.f80])
def Uj:MC:=(λx(_:x=gC tt [] [] [(0,Ui)] (gB Tryz.f80))=>x) _ (by dsimp[Tryz.f80])
def zyB:WT Pg 80 123 Uj [.tmp 6]:=wT gD Tryz.func80 (by kernel_rfl)
def Uk:MC:=(λx(_:x=gC tt [] [] [] (gB Tryz.f92))=>x) _ (by dsimp[Tryz.f92])
def zBn:WT Pg 92 20 Uk [.tmp 4]:=wT gD Tryz.func92 (by kernel_rfl)
def Ul:MC:=(λx(_:x=gC tt [] [] [] (gB Tryz.f42))=>x) _ (by dsimp[Tryz.f42])
def zz9:WT Pg 42 20 Ul [.tmp 4]:=wT gD Tryz.func42 (by kernel_rfl)
def Um:MC:=(λx(_:x=gC tt [] [] [] (iL 0 (gB Tryz.f132)))=>x) _ (by dsimp[Tryz.f132])
def Un:MC:=(λx(_:x=gC tt [(4,128),(6,0)] [] [(0,Um)] (gB Tryz.f132))=>x) _ (by dsimp[Tryz.f132])
def zAa:WT Pg 132 136 Un [.cell 4 true 4]:=wT gD Tryz.func132 (by kernel_rfl)
def Uo:MC:=(λx(_:x=gC tt [] [(18,[0,1,0,4,0,28,60,124,255,511,1023])] [] (iL 0 (gB Tryz.f131)))=>x) _ (by dsimp[Tryz.f131])
def Uq:MC:=(λx(_:x=gC tt [(6,0)] [(3,[0,0,1,7]),(6,[0,0,1,7]),(7,[0,1,3,0,7,31]),(10,[0,0,1,7]),(12,[0,0,1,7]),(20,[0,1,0,4,12,28,3,127]),(21,[0,1,0,3,15])] [(0,Uo)] (gB Tryz.f131))=>x) _ (by dsimp[Tryz.f131])
def zwM:WT Pg 131 91 Uq [.cell 4 true 4,.cell 5 true 4]:=wT gD Tryz.func131 (by kernel_rfl)
def Ur:MC:=(λx(_:x=gC tt [] [] [] (iL 0 (gB Tryz.f17)))=>x) _ (by dsimp[Tryz.f17])
def Us:MC:=(λx(_:x=gC tt [] [] [(0,Ur)] (gB Tryz.f17))=>x) _ (by dsimp[Tryz.f17])
def zwN:WT Pg 17 19 Us [.tmp 4]:=wT gD Tryz.func17 (by kernel_rfl)
def Ut:MC:=(λx(_:x=gC tt [(3,46)] [(10,[0,1,0,0,12,28,60,127,255]),(11,[0,1,0,0,12,28,60,124,255,511,1023])] [] (iL 0 (gB Tryz.f14)))=>x) _ (by dsimp[Tryz.f14])
def Uu:MC:=(λx(_:x=gC tt [(6,0)] [] [(0,Ut)] (gB Tryz.f14))=>x) _ (by dsimp[Tryz.f14])
def zyC:WT Pg 14 91 Uu [.cell 2 true 6,.tmp 3]:=wT gD Tryz.func14 (by kernel_rfl)
def Uv:MC:=(λx(_:x=gC tt [] [] [] (iL 0 (gB Tryz.f35)))=>x) _ (by dsimp[Tryz.f35])
def Uw:MC:=(λx(_:x=gC tt [] [] [(0,Uv)] (gB Tryz.f35))=>x) _ (by dsimp[Tryz.f35])
def zAb:WT Pg 35 25 Uw [.cell 4 true 3,.tmp 5]:=wT gD Tryz.func35 (by kernel_rfl)
def Ux:MC:=(λx(_:x=gC tt [] [] [] (iL 0 (gB Tryz.f18)))=>x) _ (by dsimp[Tryz.f18])
def Uy:MC:=(λx(_:x=gC tt [] [] [(0,Ux)] (gB Tryz.f18))=>x) _ (by dsimp[Tryz.f18])
def zAc:WT Pg 18 22 Uy [.tmp 4]:=wT gD Tryz.func18 (by kernel_rfl)
def Uz:MC:=(λx(_:x=gC tt [(3,58)] [(9,[0,1,0,7,15,0,32,0,224,480,1023,2047])] [] (iL 0 (gB Tryz.f34)))=>x) _ (by dsimp[Tryz.f34])
def VA:MC:=(λx(_:x=gC tt [(6,0),(7,1)] [(5,[0,0,2,1,15])] [(0,Uz)] (gB Tryz.f34))=>x) _ (by dsimp[Tryz.f34])
def ztS:WM Pg 34 100 VA [.tmp 8,.tmp 9]:=wM gD Tryz.func34 (by kernel_rfl)
def MJ:MC:=(λx(_:x=gC tt [(9,34)] [(11,[0,0,0,4,0,28,60,0,255,511,1023,1023,2047,8191])] [] (iL 2 (gB Tryz.f15)))=>x) _ (by dsimp[Tryz.f15])
def MK:MC:=(λx(_:x=gC tt [(3,65)] [(19,[0,0,0,4,0,28,60,124,0,256,0,1792,3840,7936,16382,32766,65535,131071])] [] (iL 4 (gB Tryz.f15)))=>x) _ (by dsimp[Tryz.f15])
def VB:MC:=(λx(_:x=gC tt [(4,98),(6,2)] [] [(2,MJ),(4,MK)] (iL 0 (gB Tryz.f15)))=>x) _ (by dsimp[Tryz.f15])
def VC:MC:=(λx(_:x=gC tt [(6,0)] [] [(0,VB)] (gB Tryz.f15))=>x) _ (by dsimp[Tryz.f15])
def zwO:WT Pg 15 104 VC [.tmp 2,.tmp 3]:=wT gD Tryz.func15 (by kernel_rfl)
def ML:MC:=(λx(_:x=gC tt [] [(13,[0,1,0,0,12,28,60,127,255])] [] (iL 4 (gB Tryz.f36)))=>x) _ (by dsimp[Tryz.f36])
def MM:MC:=(λx(_:x=gC tt [] [] [(4,ML)] (iL 2 (gB Tryz.f36)))=>x) _ (by dsimp[Tryz.f36])
def VD:MC:=(λx(_:x=gC tt [] [] [(2,MM)] (iL 0 (gB Tryz.f36)))=>x) _ (by dsimp[Tryz.f36])
def VE:MC:=(λx(_:x=gC tt [(1,16)] [] [(0,VD)] (gB Tryz.f36))=>x) _ (by dsimp[Tryz.f36])
def zwk:WT Pg 36 69 VE [.tmp 6]:=wT gD Tryz.func36 (by kernel_rfl)
def MN:MC:=(λx(_:x=gC tt [] [(9,[0,1,0,0,12,28,60,127,255]),(12,[0,0,0,0,12,28,60,0,0,384,896,1920,4094,8190,16383,32767])] [] (iL 2 (gB Tryz.f16)))=>x) _ (by dsimp[Tryz.f16])
def VF:MC:=(λx(_:x=gC tt [] [] [(2,MN)] (iL 0 (gB Tryz.f16)))=>x) _ (by dsimp[Tryz.f16])
def VG:MC:=(λx(_:x=gC tt [(6,0)] [] [(0,VF)] (gB Tryz.f16))=>x) _ (by dsimp[Tryz.f16])
def zyD:WT Pg 16 61 VG [.tmp 2]:=wT gD Tryz.func16 (by kernel_rfl)
def VH:MC:=(λx(_:x=gC tt [] [(20,[0,0,0,4,0,16,62,126,1,511])] [] (gB Tryz.f9))=>x) _ (by dsimp[Tryz.f9])
def zAd:WT Pg 9 88 VH [.cell 2 true 6,.tmp 3]:=wT gD Tryz.func9 (by kernel_rfl)
end Go.Gr
namespace Go.Gr
open Go.Abs Go.Proofs List
def MP(c:Int):fu Pg 72 [.one (.int .u8 c)] (.one (.bool (tJ c))):=by
 refine zxi (by simp) λo c' hN hp=>?_;unfold Sc tJ;by_cases h1:97<=c<;>by_cases h2:c<=122<;>by_cases h3:65<=c<;>by_cases h4:c<=90<;>simp[h1,h2,h3,h4]<;>(try (intros;omega))<;>(try omega)
def Ii(c:Int):fu Pg 71 [.one (.int .u8 c)] (.one (.bool (ou c))):=by
 refine zyJ (by simp) λo c' hN hp=>?_;unfold Sd ou;by_cases h1:48<=c<;>by_cases h2:c<=57<;>simp[h1,h2]<;>(try omega)
def zDZ:fu Pg 110 [] (.one (.sl false 1 (encS Es))):=by
 refine zyI (by simp) λo c' hN hp=>?_;unfold S9;simp[Es,encS]
theorem MQ(s:di):fu Pg 70 [.one (.str s)] (.one (.bool (zW s))):=by
 refine zAh (by simp) λo c' hN hp=>?_;unfold Sb zW;have hl:Es.length=25:=rfl;obtain⟨l,hwl⟩:∃l,Es=l:=⟨_,rfl⟩
 rw[hwl]at hl⊢;obtain⟨R,hR⟩:∃R,(l.any λw=>decide (w=s))=R:=⟨_,rfl⟩
 rw[hR];have hw:=zDZ;rw[hwl]at hw;simp;refine fU hw ?_;simp;refine eP gD hp (λj:Nat=>j<=l.length/\(l.drop j).any (λw=>decide (w=s))=R) (λj=>[(4,.c (.d (.int .i64 j))),(3,.c (.d (.sl false 1 (encS l)))),(0,.c (.d (.str s)))]) (λ_=>[]) (λj=>l.length-j) 0 [] ⟨by simp,by simpa using hR⟩ (by simp) λj ⟨h1,h2⟩=>?_;unfold Sa;simp;apply fM<;>intro h
 ·have hj:j<l.length:=by simpa using h
  rw[aG hj,any_cons]at h2;simp[aD hj];apply fM<;>intro h
  ·rw[h]at h2;simp[<-h2]
  ·rw[h]at h2;refine dm (j+1) [] ⟨by omega,h2⟩ (by omega) ?_;simp;exact wI
 ·have hj:j=l.length:=by simp at h;omega
  subst hj;rw[aQ,any_nil]at h2;simp[<-h2]
def zGO{a b:List UInt8}(h:bA a=bA b):a=b:=by
 have:(bA a).data.toList=(bA b).data.toList:=by rw[h]
 simpa[bA]using this
def MS(s:di):bA s.data.toList=s:=by
 cases s;simp[bA]
def Ij(s:di)(a b:Nat):s.extract a b=bA ((s.data.toList.drop a).take (b-a)):=by
 rw[<-MS (s.extract a b)];congr 1;simp[ByteArray.data_extract,Array.toList_extract]
theorem VI(s:di):fu Pg 32 [.one (.str s)] (.one (.bool (mJ s))):=by
 refine zAi (by simp) λo c' hN hp=>?_;have hs:s.size<=zao:=by have:=o.1;simpa only[DV.ok,D.ok]using this
 unfold zao at hs;have hlen:=tQ s;obtain⟨R,hR⟩:∃R,mJ s=R:=⟨_,rfl⟩
 rw[hR];unfold mJ at hR;unfold Si;by_cases h0:s.size=0
 ·have hL:s.data.toList=[]:=aa.1 (by omega);rw[hL]at hR;simp only at hR;subst hR;simp;refine fU (MQ s) ?_;simp[h0]
 have hj0:0<s.data.toList.length:=by omega
 have hb0:=wQ hj0;have hR:(decide (s.size<=32)&&(!zW s&&(!jo s.data.toList[0]&&s.data.toList.all λb=>lZ b||jo b)))=R:=by
  rw[<-hR];revert hj0;cases s.data.toList with
  |nil=>intro h;simp at h
  |cons c l=>intro h _;rfl
 simp;refine fU (MQ s) ?_;have h0':¬(s.size:Int)=0:=by omega
 by_cases h32:s.size<=32;rotate_left
 ·have h32':(32:Int)<s.size:=by omega
  simp[h32]at hR;simp[h0,h0',h32',hR]
 have h32':¬(32:Int)<s.size:=by omega
 simp only[h32,decide_true,Bool.true_and]at hR;generalize zW s=wv at*
 cases wv with
 |true=>
  simp at hR;simp[h0,h0',h32',hR]
 | false=>
  simp only[Bool.not_false,Bool.true_and]at hR;generalize s.data.toList[0]=b0 at*
  have hd:jo b0=ou b0.toNat:=rfl;simp[h0,h0',h32',hb0];refine fU (Ii b0.toNat) ?_;rw[<-hd];generalize jo b0=d0 at*
  cases d0 with
  |true=>
   simp at hR;simp[hR]
  | false=>
   simp only[Bool.not_false,Bool.true_and]at hR;simp;refine eP gD hp (λj:Nat=>j<=s.size/\((s.data.toList.drop j).all λb=>lZ b||jo b)=R) (λj=>[(4,.c (.d (.int .i64 j))),(0,.c (.d (.str s)))]) (λ_=>[]) (λj=>s.size-j) 0 [] ⟨by simp,by simpa using hR⟩ (by simp) λj ⟨h1,h2⟩=>?_;unfold Sg;simp;apply fM<;>intro h
   ·have hj:j<s.size:=by simpa using h
    have hj':j<s.data.toList.length:=by omega
    rw[aG hj',all_cons]at h2;have hb:=wQ hj';generalize s.data.toList[j]=b at h2 hb;have hd:jo b=ou b.toNat:=rfl;have hle:lZ b=tJ b.toNat:=rfl;simp[hb];refine fU (MP b.toNat) ?_;rw[<-hle];simp[hb];refine fU (Ii b.toNat) ?_;rw[<-hd];generalize lZ b=x1 at*
    generalize jo b=x2 at*
    cases x1<;>cases x2
    ·simp at h2;simp[h2]
    all_goals
     simp only[Bool.or_true,Bool.true_or,Bool.true_and,Bool.or_self]at h2;simp;refine dm (j+1) [] ⟨by omega,h2⟩ (by omega) ?_;simp;exact wI
   ·have hj:j=s.size:=by simp at h;omega
    subst hj;rw[bN (by omega),all_nil]at h2;simp[<-h2]
def lJ:List di:=[bs [45,62],bs [61,62],bs [60,58],bs [60,60],bs [60,61],bs [62,62],bs [61,61],bs [43,43]]
def tY:di:=bs [40,41,123,125,91,93,44,58,59,61,43,45,42,47,37,38,94,60,124,46]
def zFA:lJ=wE.map bA:=by decide
def MU:tY.data.toList=mg:=by decide
def zFB(s:di):(wE.any λt=>decide (s.data.toList.take 2=t))=(lJ.any λt=>decide (s.extract 0 2=t)):=by
 rw[zFA,any_map];congr 1;funext t;simp only[Function.comp];rw[Ij];simp only[drop_zero,dP];by_cases h:s.data.toList.take 2=t
 ·simp[h]
 ·have:¬bA (s.data.toList.take 2)=bA t:=λe=>h (zGO e);simp[h,this]
def zCv{s:di}(h:s.size<2):(wE.any λt=>decide (s.data.toList.take 2=t))=false:=by
 have hlen:=tQ s;rw[any_eq_false];intro t ht;have h2:t.length=2:=by
  revert t;decide
 simp only[aI];intro e;have:=bu length e;rw[bU]at this;omega
theorem zFC(s:di)(hpos:0<s.size):fu Pg 195 [.one (.str s)] (.one (.int .i64 (yY s.data.toList))):=by
 refine zAj (by simp) λo c' hN hp=>?_;have hs:s.size<=zao:=by have:=o.1;simpa only[DV.ok,D.ok]using this
 unfold zao at hs;have hlen:=tQ s;obtain⟨R,hR⟩:∃R,yY s.data.toList=R:=⟨_,rfl⟩
 rw[hR];have hj0:0<s.data.toList.length:=by omega
 have hb0:=wQ hj0;have hR:(if(wE.any λt=>decide (s.data.toList.take 2=t))=true then 2 else if s.data.toList[0]∈mg then 1 else 0)=R:=by
  rw[<-hR];revert hj0;unfold yY;cases s.data.toList with
  |nil=>intro h;simp at h
  |cons c l=>intro h _;rfl
 generalize s.data.toList[0]=b0 at*
 have k2:∀{Q:Exit->St->Prop} {S:St} {g} {ms:List Nat} (h0:iU ms S [(6,.c (.d (.int .i64 0))),(5,.c (.d (.str tY))),(0,.c (.d (.str s)))] []),
   (b0∈mg->∀T M n,Abs.look T 2=.c (.d (.int .i64 1))->Q .ret ⟨T,M,n⟩)->(b0∉mg->∀T M n,Q (.exit 2) ⟨T,M,n⟩)->qO Pg c' LY Q g S:=by
  intro Q S g ms h0 hy hn;refine eP gD hp (λj:Nat=>j<=mg.length/\(b0∈mg.drop j↔b0∈mg)) (λj=>[(6,.c (.d (.int .i64 j))),(5,.c (.d (.str tY))),(0,.c (.d (.str s)))]) (λ_=>[]) (λj=>mg.length-j) 0 ms ⟨by simp,by simp⟩ h0 λj ⟨h1,h2⟩=>?_;have hsz:tY.size=mg.length:=by rw[<-tQ,MU]
  unfold LY;simp[hsz];apply fM<;>intro h
  ·have hj:j<mg.length:=by simpa using h
   have hb:tY.data[j]?=some mg[j]:=by
    have:=wQ (s:=tY) (j:=j) (by rw[MU];exact hj);rw[this];simp only[MU]
   rw[aG hj,aS]at h2;generalize mg[j]=b at*
   simp[hb0,hb];refine⟨by decide,?_⟩;by_cases e:b0=b
   ·subst e;simp;exact hy (h2.1 (.inl rfl)) _ _ _ (by simp)
   ·have e':¬(b0.toNat:Int)=b.toNat:=λq=>e (dS.mp (by omega));have e'':¬b0.toNat=b.toNat:=λq=>e (dS.mp (by omega));simp[e',e'',e];refine dm (j+1) [] ⟨by omega,⟨λz=>h2.1 (.inr z),λz=>(h2.2 z).resolve_left e⟩⟩ (by omega) ?_;simp;exact wrap_i64 (by have:mg.length=20:=rfl;omega) (by have:mg.length=20:=rfl;omega)
  ·have hj:j=mg.length:=by simp at h;omega
   subst hj;rw[aQ]at h2;exact hn (λz=>by simpa using h2.2 z) _ _ _
 unfold Sj;simp;by_cases h2s:s.size<2
 ·have hz:=zCv h2s;rw[hz]at hR;simp only[au,if_false]at hR;have h2':¬(2:Int)<=s.size:=by omega
  refine eP gD hp (λj:Nat=>j<=lJ.length) (λj=>[(4,.c (.d (.int .i64 j))),(3,.c (.d (.sl true 1 (encS lJ)))),(0,.c (.d (.str s)))]) (λ_=>[]) (λj=>lJ.length-j) 0 [] (by simp) (by simp[encS,lJ]) λj h1=>?_;unfold LX;simp;apply fM<;>intro h
  ·have hj:j<lJ.length:=by simpa using h
   simp[h2'];refine⟨by decide,?_⟩;refine dm (j+1) [] (by omega) (by omega) ?_;simp;exact wrap_i64 (by have:lJ.length=8:=rfl;omega) (by have:lJ.length=8:=rfl;omega)
  ·skip
   refine k2 (ms:=[]) (by simp[tY]) (λhm T M n ht=>?_) (λhm T M n=>?_)
   ·rw[aB hm]at hR;subst hR;simp[ht]
   ·rw[aA hm]at hR;subst hR;simp
 ·rw[zFB]at hR;have h2':(2:Int)<=s.size:=by omega
  have h2'':2<=s.size:=by omega
  refine eP gD hp (λj:Nat=>j<=lJ.length/\(lJ.drop j).any (λt=>decide (s.extract 0 2=t))=lJ.any (λt=>decide (s.extract 0 2=t))) (λj=>[(4,.c (.d (.int .i64 j))),(3,.c (.d (.sl true 1 (encS lJ)))),(0,.c (.d (.str s)))]) (λ_=>[]) (λj=>lJ.length-j) 0 [] ⟨by simp,by simp⟩ (by simp[encS,lJ]) λj ⟨h1,h3⟩=>?_;unfold LX;simp;apply fM<;>intro h
  ·have hj:j<lJ.length:=by simpa using h
   rw[aG hj,any_cons]at h3;simp[h2',h2'',aD hj];generalize lJ[j]=u at*
   by_cases e:s.extract 0 2=u
   ·rw[<-h3]at hR;simp[e]at hR;subst hR;simp[e];decide
   ·simp[e]at h3⊢;refine⟨by decide,?_⟩;refine dm (j+1) [] ⟨by omega,by simpa using h3⟩ (by omega) ?_;simp;exact wrap_i64 (by have:lJ.length=8:=rfl;omega) (by have:lJ.length=8:=rfl;omega)
  ·have hj:j=lJ.length:=by simp at h;omega
   subst hj;rw[aQ,any_nil]at h3;rw[<-h3]at hR;simp only[au,if_false]at hR;simp;refine k2 (ms:=[]) (by simp[tY]) (λhm T M n ht=>?_) (λhm T M n=>?_)
   ·rw[aB hm]at hR;subst hR;simp[ht]
   ·rw[aA hm]at hR;subst hR;simp
def ub(b c:UInt8):b=c↔(b.toNat:Int)=c.toNat:=⟨λh=>by rw[h],λh=>dS.mp (by omega)⟩
def MV(b c:UInt8):b=c↔b.toNat=c.toNat:=⟨λh=>by rw[h],λh=>dS.mp h⟩
def un{b c:UInt8}(h:¬b=c):¬(b.toNat:Int)=c.toNat/\¬b.toNat=c.toNat:=⟨λe=>h ((ub b c).2 e),λe=>h ((MV b c).2 e)⟩
def zC4(s:di):fu Pg 159 [.one (.str s)] (.one (.int .i64 (iB false s.data.toList))):=by
 refine zyK (by simp) λo c' hN hp=>?_;have hs:s.size<=zao:=by have:=o.1;simpa only[DV.ok,D.ok]using this
 unfold zao at hs;have hlen:=tQ s;obtain⟨R,hR⟩:∃R,iB false s.data.toList=R:=⟨_,rfl⟩
 rw[hR]
 have k2:∀{Q:Exit->St->Prop} {S:St} {g} {ms:List Nat} (k:Nat) (hk:k<s.size) (hne:s.data[k]?≠some 10) (hq:k+iB true (s.data.toList.drop k)=R) (h0:iU ms S [(3,.c (.d (.int .i64 k))),(0,.c (.d (.str s)))] []),
   (∀j T M n,j<=s.size->k<j->j+iB false (s.data.toList.drop j)=R->Abs.look T 3=.c (.d (.int .i64 j))->Abs.look T 0=.c (.d (.str s))->Q (.exit 2) ⟨T,M,n⟩)->qO Pg c' LZ Q g S:=by
  intro Q S g ms k hk hne hq h0 hn;refine eP gD hp (λj:Nat=>j<=s.size/\k<=j/\j+iB true (s.data.toList.drop j)=R) (λj=>[(3,.c (.d (.int .i64 j))),(0,.c (.d (.str s)))]) (λ_=>[]) (λj=>s.size-j) k ms ⟨by omega,aK _,hq⟩ h0 λj ⟨h1,h2,h3⟩=>?_;unfold LZ;simp;apply fM<;>intro h
  ·have hj:j<s.size:=by simpa using h
   have hj':j<s.data.toList.length:=by omega
   rw[aG hj',iB]at h3;have hd:=aG hj';have hb:=wQ hj';generalize s.data.toList[j]=b at h3 hb hd;by_cases e:b=10
   ·subst e;simp[hb];refine hn j _ _ _ h1 ?_ ?_ (by simp) (by simp)
    ·rcases aX k j with h|h
     ·exact h
     ·have:j=k:=by omega
      subst this;exact absurd hb hne
    rw[hd,iB];simpa using h3
   ·have e':=un e;simp at e';simp[hb,e',e];simp[e]at h3;refine dm (j+1) [] ⟨by omega,by omega,by omega⟩ (by omega) ?_;simp;exact wI
  ·have hj:j=s.size:=by simp at h;omega
   subst hj;rw[bN (by omega),iB]at h3;refine hn s.size _ _ _ (by omega) (by omega) ?_ (by simp) (by simp);rw[bN (by omega),iB];exact h3
 unfold Sn;simp;refine eP gD hp (λj:Nat=>j<=s.size/\j+iB false (s.data.toList.drop j)=R) (λj=>[(3,.c (.d (.int .i64 j))),(0,.c (.d (.str s)))]) (λ_=>[]) (λj=>s.size-j) 0 [] ⟨by simp,by simpa using hR⟩ (by simp) λj ⟨h1,h3⟩=>?_;unfold Sm;simp;apply fM<;>intro h
 ·have hj:j<s.size:=by simpa using h
  have hj':j<s.data.toList.length:=by omega
  rw[aG hj',iB]at h3;have hd:=aG hj';have hb:=wQ hj';generalize s.data.toList[j]=b at h3 hb hd;by_cases e:b=35
  ·subst e;simp[hb];simp only[if_true]at h3;refine k2 j (by omega) (by rw[hb];decide) ?_ (ms:=[]) (by simp) λk T M n g1 g2 g3 t1 t2=>?_
   ·rw[hd,iB];simpa using h3
   ·simp;exact dm k [] ⟨g1,g3⟩ (by omega) (by simp[t1,t2])
  ·have e':=un e;simp at e';rw[aA e]at h3;by_cases w:b=32\/b=9\/b=10\/b=13
   ·rw[aB w]at h3;have z:∀G:Prop,(b=32->G)->(b=9->G)->(b=10->G)->(b=13->G)->G:=λG a1 a2 a3 a4=>by
     rcases w with w|w|w|w
     ·exact a1 w
     ·exact a2 w
     ·exact a3 w
     ·exact a4 w
    refine z _ ?_ ?_ ?_ ?_
    all_goals
     intro w;subst w;simp[hb];refine dm (j+1) [] ⟨by omega,by omega⟩ (by omega) ?_;simp;exact wI
   ·rw[aA w]at h3;have w1:=un (λh=>w (.inl h));have w2:=un (λh=>w (.inr (.inl h)));have w3:=un (λh=>w (.inr (.inr (.inl h))));have w4:=un (λh=>w (.inr (.inr (.inr h))));simp at w1 w2 w3 w4;simp[hb,e',e,w1,w2,w3,w4];omega
 ·have hj:j=s.size:=by simp at h;omega
  subst hj;rw[bN (by omega),iB]at h3;simp[<-h3]
def xx:List UInt8->Option (List UInt8 × Nat)
|[]=>none
|d::l=>if d=92\/d=34 then(lG l).map λx=>(d::x.1,x.2+2)else if d=110 then(lG l).map λx=>(10::x.1,x.2+2)else if d=116 then(lG l).map λx=>(9::x.1,x.2+2)else none
def VJ(c:UInt8)(l:List UInt8):lG (c::l)=if c=34 then some ([],1)else if c<32 then none else if c≠92 then(lG l).map (λx=>(c::x.1,x.2+1))else xx l:=by
 cases l<;>rw[lG.eq_def]<;>rfl
def sD(out:List UInt8)(i:Nat)(l:List UInt8):List UInt8 × Int:=match lG l with
|none=>([],0)
|some (t,n)=>(out++t,i+n)
def Ik(out:List UInt8)(c:UInt8)(i n:Nat)(l:List UInt8):(match(lG l).map (λx=>(c::x.1,x.2+n))with
  |none=>(([],0):List UInt8 × Int)
  |some (t,m)=>(out++t,(i:Int)+m))=sD (out++[c]) (i+n) l:=by
 unfold sD;cases lG l with
 |none=>rfl
 |some x=>
  simp;omega
def FM(a b:List UInt8):bA (a++b)=bA a++bA b:=by
 have:(bA (a++b)).data.toList=(bA a++bA b).data.toList:=by simp[bA]
 rw[<-MS (bA (a++b)),this,MS]
def VK{s:di}{j:Nat}(h:j<s.data.toList.length):s.extract j (j+1)=bA [s.data.toList[j]]:=by
 rw[Ij];congr 1;rw[aG h,show j+1-j=1 by omega];try rfl
def zBt(s:di)(hpos:0<s.size):fu Pg 194 [.one (.str s)] (.tup [.one (.str (bA (sD [] 1 (s.data.toList.drop 1)).1)),.one (.int .i64 (sD [] 1 (s.data.toList.drop 1)).2)]):=by
 refine zxj (by simp) λo c' hN hp=>?_;have hs:s.size<=zao:=by have:=o.1;simpa only[DV.ok,D.ok]using this
 unfold zao at hs;have hlen:=tQ s;obtain⟨R,hR⟩:∃R,sD [] 1 (s.data.toList.drop 1)=R:=⟨_,rfl⟩
 rw[hR];unfold Sl;simp;refine eP gD hp (λx:Nat × List UInt8=>x.1<=s.size/\x.2.length<=x.1/\sD x.2 x.1 (s.data.toList.drop x.1)=R) (λx=>[(5,.c (.d (.int .i64 x.1))),(4,.c (.d (.str (bA x.2)))),(0,.c (.d (.str s)))]) (λ_=>[]) (λx=>s.size-x.1) (1,[]) [] ⟨by simp only;omega,by simp,hR⟩ (by simp[bA,bs]) λ⟨j,out⟩ ⟨h1,h2,h3⟩=>?_;unfold Sk;simp only at h1 h2 h3;simp;apply fM<;>intro h
 ·have hj:j<s.size:=by simpa using h
  have hj':j<s.data.toList.length:=by omega
  unfold sD at h3;rw[aG hj',VJ]at h3;have hx:=VK hj';have hb:=wQ hj';generalize s.data.toList[j]=b at h3 hb hx;by_cases e1:b=34
  ·subst e1;simp at h3;subst h3;simp[hb];exact wI
  rw[aA e1]at h3;have e1':=un e1;simp at e1';by_cases e2:b<32
  ·rw[aB e2]at h3;simp only at h3;subst h3;have e2':(b.toNat:Int)<32:=by
    have:b.toNat<32:=e2;omega
   simp[hb,e1,e1',e2'];rfl
  rw[aA e2]at h3;have e2':¬(b.toNat:Int)<32:=by
   intro q;exact e2 (show b.toNat<32 by omega)
  by_cases e3:b=92;rotate_left
  ·rw[aB e3]at h3;have e3':=un e3;simp at e3';have hw:=wI (n:=(j:Int)+1);simp[hb,e1,e1',e2',e3,e3',hw];have hsz:(bA out).size+(min (j+1) s.size-j)<=zao:=by
    have:(bA out).size=out.length:=by rw[<-tQ];simp[bA]
    unfold zao;omega
   refine⟨by omega,by omega,hsz,?_⟩;rw[Ik out b j 1]at h3;refine dm (j+1,out++[b]) [] ⟨by simp only;omega,by simp;omega,h3⟩ (by simp only;omega) ?_;rw[hx];simp[FM]
  ·simp only[ne_eq,e3,not_true,if_false]at h3;subst e3;have hw:=wI (n:=(j:Int)+1);have hw2:=wI (n:=(j:Int)+1+1);simp[hb,hw];by_cases hj2:j+1<s.size;rotate_left
   ·have hj2':(s.size:Int)<=(j:Int)+1:=by omega
    rw[bN (by omega),xx]at h3;simp only at h3;subst h3;simp[hj2'];rfl
   have hj2':¬(s.size:Int)<=(j:Int)+1:=by omega
   have hjl:j+1<s.data.toList.length:=by omega
   rw[aG hjl,xx]at h3;have hx2:=VK hjl;have hb2:=wQ hjl;generalize s.data.toList[j+1]=d at h3 hb2 hx2;have hsz:(bA out).size=out.length:=by rw[<-tQ];simp[bA]
   have hnat:((j:Int)+1).toNat=j+1:=by omega
   have hw2:IntKind.i64.wrap ((j:Int)+1+1)=((j+2:Nat):Int):=by rw[hw2];omega
   have hmin:min (j+2) s.size-(j+1)<=1:=by omega
   have hcat:(bA out).size+1<=zao:=by rw[hsz];unfold zao;omega
   by_cases d1:d=92\/d=34
   ·rw[aB d1]at h3;rw[Ik out d j 2]at h3;have hnat2:((j:Int)+2).toNat=j+1+1:=by omega
    rcases d1 with q|q
    ·have q1:=(MV d 92).1 q;simp at q1;simp[hj2',hb2,hnat,hw2,q1];refine⟨by omega,by omega,by omega,by omega,by omega,by rw[hnat2];omega,?_⟩;refine dm (j+2,out++[d]) [] ⟨by simp only;omega,by simp;omega,h3⟩ (by simp only;omega) ?_;rw[hnat2,hx2];simp[FM]
    ·have q1:=(MV d 34).1 q;simp at q1;simp[hj2',hb2,hnat,hw2,q1];refine⟨by omega,by omega,by omega,by omega,by omega,by rw[hnat2];omega,?_⟩;refine dm (j+2,out++[d]) [] ⟨by simp only;omega,by simp;omega,h3⟩ (by simp only;omega) ?_;rw[hnat2,hx2];simp[FM]
   rw[aA d1]at h3;have d11:=un (λh=>d1 (.inl h));have d12:=un (λh=>d1 (.inr h));simp at d11 d12;by_cases d2:d=110
   ·rw[aB d2]at h3;subst d2;rw[Ik out 10 j 2]at h3;simp[hj2',hb2,hnat,hw2];refine⟨by omega,hcat,?_⟩;refine dm (j+2,out++[10]) [] ⟨by simp only;omega,by simp;omega,h3⟩ (by simp only;omega) ?_;simp[FM];rfl
   rw[aA d2]at h3;have d21:=un d2;simp at d21;by_cases d3:d=116
   ·rw[aB d3]at h3;subst d3;rw[Ik out 9 j 2]at h3;simp[hj2',hb2,hnat,hw2];refine⟨by omega,hcat,?_⟩;refine dm (j+2,out++[9]) [] ⟨by simp only;omega,by simp;omega,h3⟩ (by simp only;omega) ?_;simp[FM];rfl
   rw[aA d3]at h3;have d31:=un d3;simp at d31;simp only at h3;subst h3;simp[hj2',hb2,hnat,d11,d12,d21,d31];exact⟨by omega,rfl⟩
 ·have hj:j=s.size:=by simp at h;omega
  subst hj;unfold sD at h3;rw[bN (by omega),lG]at h3;simp only at h3;subst h3;simp;rfl
def FO(num:Bool):∀l:List UInt8,iM num l<=l.length
|[]=>aK _
|b::l=>by have:=FO num l;unfold iM;split<;>simp<;>omega
def Il:∀(r:Bool) (l:List UInt8),iB r l<=l.length
|_,[]=>by cases‹Bool›<;>simp[iB]
|true,c::l=>by have:=Il (decide (c≠10)) l;rw[iB,length_cons];omega
|false,c::l=>by
 have h1:=Il true l;have h2:=Il false l;rw[iB];split
 ·simp;omega
 ·split<;>simp<;>omega
def Im:∀(n:Nat) (l:List UInt8),l.length<=n->∀t k,lG l=some (t,k)->0<k/\k<=l.length
|n,[],_,t,k,e=>by simp[lG]at e
|0,c::l,h,_,_,_=>by simp at h
| n +1,c::l,h,t,k,e=>by
 rw[VJ]at e;split at e
 ·simp at e;obtain⟨_,rfl⟩:=e;simp
 split at e
 ·cases e
 split at e
 ·rw[aJ]at e;obtain⟨⟨t',k'⟩,e1,e2⟩:=e;simp only[ax]at e2;have:=Im n l (by simpa using h) t' k' e1;simp;omega
 ·cases l with
  |nil=>simp[xx]at e
  | cons d l=>
   have H:∀t' k',lG l=some (t',k')->0<k'/\k'<=l.length:=λt' k' e1=>Im n l (by simp at h;omega) t' k' e1;rw[xx]at e;repeat' split at e
   all_goals first|(cases e;done)|skip
   all_goals
    rw[aJ]at e;obtain⟨⟨t',k'⟩,e1,e2⟩:=e;simp only[ax]at e2;have:=H t' k' e1;simp;omega
def VL(l:List UInt8):yY l<=l.length:=by
 unfold yY;split
 ·rename_i h;rw[any_eq_true]at h;obtain⟨t,ht,h⟩:=h;have h2:t.length=2:=(by decide:∀t∈wE,t.length=2) t ht;simp only[aI]at h;have:=bu length h;rw[bU]at this;omega
 ·cases l with
  |nil=>simp
  |cons c l=>simp;split<;>omega
def oD.enc(t:oD):List D:=[.int .i64 t.kind,.str (bA t.text),.int .i64 0,.int .i64 0]
abbrev runT(s:di)(a b:Bool)(j:Nat):List (Nat × AV):=[(7,.c (.d (.int .i64 j))),(6,.c (.d (.bool b))),(5,.c (.d (.bool a))),(2,.c (.ptr 0 0)),(0,.c (.d (.str s)))]
abbrev MW:Blk:=.box [.d (.int .i64 0),.d (.str (bs [])),.d (.int .i64 0),.d (.int .i64 0)]
theorem FQ{c:Ctx}(hp:c.pure)(s:di)(hs:s.size<=4611686018427387904)(a num:Bool)(R:Nat)(hR:iM num s.data.toList=R){Q:Exit->St->Prop}{S:St}{g}{ms:List Nat}
  (h0:iU ms S (runT s a num 0) [MW])
  (hQ:∀T M n,Abs.look T 7=.c (.d (.int .i64 R))->Abs.look T 6=.c (.d (.bool num))->Abs.look T 5=.c (.d (.bool a))->Abs.look T 2=.c (.ptr 0 0)->Abs.look T 0=.c (.d (.str s))->M 0=MW->Q (.exit 0) ⟨T,M,n⟩):qO Pg c L6 Q g S:=by
 have hlen:=tQ s;refine eP gD hp (λj:Nat=>j<=s.size/\j+iM num (s.data.toList.drop j)=R) (λj=>runT s a num j) (λ_=>[MW]) (λj=>s.size-j) 0 ms ⟨by simp,by simpa using hR⟩ h0 λj ⟨h1,h2⟩=>?_;unfold L6;simp;apply fM<;>intro h
 ·have hj:j<s.size:=by simpa using h
  have hj':j<s.data.toList.length:=by omega
  rw[aG hj',iM]at h2;have hb:=wQ hj';generalize s.data.toList[j]=b at h2 hb;have hd:jo b=ou b.toNat:=rfl;have hle:lZ b=tJ b.toNat:=rfl;simp[hb];refine fU (MP b.toNat) ?_;rw[<-hle];simp[hb];refine fU (Ii b.toNat) ?_;rw[<-hd];generalize lZ b=x1 at*
  generalize jo b=x2 at*
  cases x1<;>cases x2<;>cases num
  all_goals
   simp at h2;simp
  ·exact hQ _ _ _ (by simp;omega) (by simp) (by simp) (by simp) (by simp) (by simp)
  ·exact hQ _ _ _ (by simp;omega) (by simp) (by simp) (by simp) (by simp) (by simp)
  ·refine dm (j+1) [0] ⟨by omega,by omega⟩ (by omega) ?_;simp;exact wI
  ·refine dm (j+1) [0] ⟨by omega,by omega⟩ (by omega) ?_;simp;exact wI
  ·refine dm (j+1) [0] ⟨by omega,by omega⟩ (by omega) ?_;simp;exact wI
  ·exact hQ _ _ _ (by simp;omega) (by simp) (by simp) (by simp) (by simp) (by simp)
  ·refine dm (j+1) [0] ⟨by omega,by omega⟩ (by omega) ?_;simp;exact wI
  ·refine dm (j+1) [0] ⟨by omega,by omega⟩ (by omega) ?_;simp;exact wI
 ·have hj:j=s.size:=by simp at h;omega
  subst hj;rw[bN (by omega),iM]at h2;exact hQ _ _ _ (by simp;omega) (by simp) (by simp) (by simp) (by simp) (by simp)
def MZ(s:di)(i:Nat):s.extract 0 i=bA (s.data.toList.take i):=by rw[Ij];try rfl
abbrev M0(t:oD):DV:=.tup [.agg t.enc,.one (.int .i64 t.len),.one (.int .i64 t.e)]
theorem zDK(s:di)(hpos:0<s.size):fu Pg 160 [.one (.str s)] (M0 (iK s.data.toList)):=by
 refine zyL (by simp) λo c' hN hp=>?_;have hs:s.size<=zao:=by have:=o.1;simpa only[DV.ok,D.ok]using this
 unfold zao at hs;have hlen:=tQ s;have hj0:0<s.data.toList.length:=by omega
 have hb0:=wQ hj0;have cq:=zBt s hpos;have csg:=zFC s hpos;have hql:=Im (s.data.toList.drop 1).length (s.data.toList.drop 1) (aK _);obtain⟨R,hR⟩:∃R,iK s.data.toList=R:=⟨_,rfl⟩
 rw[hR];have hrl:=FO false s.data.toList;have hrd:=FO true s.data.toList;have hsl:=VL s.data.toList;have hx:∀i,s.extract 0 i=bA (s.data.toList.take i):=MZ s;generalize hl:s.data.toList=l at*
 cases l with
 |nil=>simp at hj0
 |cons c r=>
 simp only[getElem_cons_zero]at hb0;simp only[drop_one,tail_cons]at cq hql;rw[iK]at hR;have hd:jo c=ou c.toNat:=rfl;have hle:lZ c=tJ c.toNat:=rfl;unfold Sq;simp[hb0];refine fU (MP c.toNat) ?_;rw[<-hle];simp[hb0];refine fU (Ii c.toNat) ?_;rw[<-hd];by_cases q1:lZ c=true
 ·rw[aB q1]at hR;have q2:jo c=false:=by
   unfold lZ tJ at q1;unfold jo ou;simp at q1⊢;omega
  simp[q1,q2];refine FQ hp s hs true false (iM false (c::r)) (by rw[hl]) (ms:=[0]) (by simp) λT M n t7 t6 t5 t2 t0 m0=>?_;simp[t5,t7];by_cases q3:32<iM false (c::r)
  ·have q3':(32:Int)<(iM false (c::r):Nat):=by omega
   rw[aB q3]at hR;subst hR;simp[q3,q3',t2,m0];exact⟨rfl,rfl,rfl⟩
  rw[aA q3]at hR;have q3':¬(32:Int)<(iM false (c::r):Nat):=by omega
  have hxi:=hx (iM false (c::r));have hw:=MQ (bA (take (iM false (c::r)) (c::r)));generalize iM false (c::r)=i at*
  have hi2:i<=s.size:=by simp at hlen hrl;omega
  simp[q3,q3',t0,t7,hi2,hxi];refine fU hw ?_;generalize hu:bA (take i (c::r))=u at*
  by_cases q4:zW u=true
  ·rw[aB q4]at hR;subst hR;simp[q4,t0,t7,hi2,hxi,t2,m0,oD.enc,hu]
  ·rw[aA q4]at hR;subst hR;simp[q4,t0,t7,hi2,hxi,t2,m0,oD.enc,hu]
 rw[aA q1]at hR;by_cases q2:jo c=true
 ·rw[aB q2]at hR;rw[aN]at q1;simp[q1,q2];refine FQ hp s hs false true (iM true (c::r)) (by rw[hl]) (ms:=[0]) (by simp) λT M n t7 t6 t5 t2 t0 m0=>?_;have hxi:=hx (iM true (c::r));have hpz:=UK (bA (take (iM true (c::r)) (c::r)));have hpi:wF (bA (take (iM true (c::r)) (c::r)))=Ag (take (iM true (c::r)) (c::r)):=by unfold wF;rfl
  rw[hpi]at hpz;generalize iM true (c::r)=i at*
  have hi2:i<=s.size:=by simp at hlen hrd;omega
  simp[t5,t6,t7,t0,hi2,hxi];refine fU hpz ?_;generalize hu:bA (take i (c::r))=u at*
  generalize Ag (take i (c::r))=pz at*
  by_cases q4:pz.2=true
  ·rw[aB q4]at hR;subst hR;simp[q4,t0,t7,hi2,hxi,t2,m0,oD.enc,hu]
  ·rw[aA q4]at hR;subst hR;simp[q4,t0,t7,hi2,hxi,t2,m0,oD.enc,hu];exact⟨⟨rfl,rfl⟩,rfl,rfl⟩
 rw[aA q2]at hR;rw[aN]at q1 q2;simp[q1,q2];by_cases q3:c=34
 ·subst q3;rw[aB rfl]at hR;simp[hb0];refine fU cq ?_;unfold sD;cases hq:lG r with
  |none=>
   rw[hq]at hR;simp only at hR;subst hR;simp;exact⟨rfl,rfl,rfl⟩
  | some x=>
   obtain⟨t,k⟩:=x;rw[hq]at hR;have hk:=hql t k hq;have hsz:(bA t).size=t.length:=by rw[<-tQ];simp[bA]
   have hk0:¬(1:Int)+k=0:=by omega
   by_cases q4:256<t.length
   ·have q4':(256:Int)<t.length:=by omega
    simp only[q4,if_true]at hR;subst hR;simp[hsz,q4,q4',hk0];exact⟨rfl,rfl,rfl⟩
   ·have q4':¬(256:Int)<t.length:=by omega
    simp only[q4,if_false]at hR;subst hR;simp[hsz,q4,q4',hk0,oD.enc];omega
 rw[aA q3]at hR;have q3':=un q3;simp at q3';simp[hb0,q3,q3'];refine fU csg ?_;have hxi:=hx (yY (c::r));generalize yY (c::r)=i at*
 have hi2:i<=s.size:=by simp at hlen hsl;omega
 by_cases q4:i=0
 ·rw[aB q4]at hR;subst hR;simp[q4];exact⟨rfl,rfl,rfl⟩
 ·rw[aA q4]at hR;have q4':¬(i:Int)=0:=by omega
  subst hR;simp[q4,q4',hi2,hxi,oD.enc]
def VM{l:List UInt8}(h:(iK l).e=0):0<(iK l).len/\(iK l).len<=l.length:=by
 cases l with
 |nil=>simp[iK,kF]at h
 | cons c r=>
  have hrl:=FO false (c::r);have hrd:=FO true (c::r);have hsl:=VL (c::r);have hql:=Im r.length r (aK _);rw[iK]at h⊢;split
  ·rename_i q;rw[aB q]at h;split
   ·rename_i p;rw[aB p]at h;simp[kF]at h
   ·refine⟨?_,hrl⟩;show 0<iM false (c::r);rw[iM,aB (by simp[q])];omega
  rename_i q1;rw[aA q1]at h;split
  ·rename_i q;rw[aB q]at h;split
   ·refine⟨?_,hrd⟩;show 0<iM true (c::r);rw[iM,aB (by simp[q])];omega
   ·rename_i p;rw[aA p]at h;simp[kF]at h
  rename_i q2;rw[aA q2]at h;split
  ·rename_i q;rw[aB q]at h;cases e:lG r with
   |none=>rw[e]at h;simp[kF]at h
   |some x=>
    obtain⟨t,n⟩:=x;rw[e]at h;simp only at h⊢;have:=hql t n e;split
    ·rename_i p;rw[aB p]at h;simp[kF]at h
    ·simp;omega
  rename_i q3;rw[aA q3]at h;split
  ·rename_i p;rw[aB p]at h;simp[kF]at h
  ·simp only;omega
def M3:∀(l:List UInt8) (a b:Int),1<=a->1<=b->1<=(o8 l a b).1/\1<=(o8 l a b).2/\(o8 l a b).1<=a+l.length/\(o8 l a b).2<=b+l.length
|[],a,b,h1,h2=>by simp[o8];omega
| c::l,a,b,h1,h2=>by
 rw[o8];split
 ·have:=M3 l (a+1) 1 (by omega) (by omega);simp only[length_cons];omega
 ·have:=M3 l a (b+1) (by omega) (by omega);simp only[length_cons];omega
abbrev Bz(s:di)(line col:Int)(at' n:Nat):List (Nat × AV):=[(6,.c (.d (.int .i64 col))),(5,.c (.d (.int .i64 line))),(7,.c (.d (.int .i64 at'))),(4,.c (.msl 4 1 0 n)),(3,.c (.ptr 0 0)),(0,.c (.d (.str s)))]
abbrev dB:Blk:=.box [.d (.int .i64 0),.d (.int .i64 0),.d (.int .i64 0),.d (.int .i64 0)]
abbrev lexB(ts:List Tok):List Blk:=[dB,.arr 4 ((ts.map Tok.enc).map (·.map .d))]
def zEG{c:Ctx}(hp:c.pure)(s:di)(hs:s.size<=65536)(ts:List Tok)(a k:Nat)(hk:a+k<=s.size)(l0 c0:Int)(hl0:1<=l0)(hc0:1<=c0)(hl1:l0<=100000)(hc1:c0<=100000)(R:Int × Int)(hR:o8 ((s.data.toList.drop a).take k) l0 c0=R){Q:Exit->St->Prop}{S:St}{g}{ms:List Nat}
  (h0:iU ms S ((9,.c (.d (.int .i64 a)))::(8,.c (.d (.int .i64 k)))::Bz s l0 c0 a ts.length) (lexB ts))
  (hQ:∀T,Abs.look T 6=.c (.d (.int .i64 R.2))->Abs.look T 5=.c (.d (.int .i64 R.1))->Abs.look T 7=.c (.d (.int .i64 a))->Abs.look T 8=.c (.d (.int .i64 k))->Abs.look T 4=.c (.msl 4 1 0 ts.length)->Abs.look T 3=.c (.ptr 0 0)->Abs.look T 0=.c (.d (.str s))->Q (.exit 2) ⟨T,hpOf (lexB ts),2⟩):qO Pg c L8 Q g S:=by
 have hlen:=tQ s;obtain⟨e,he⟩:∃e,e=a+k:=⟨_,rfl⟩
 have hw2:IntKind.i64.wrap ((a:Int)+k)=(e:Int):=by rw[wI];omega
 refine eP gD hp (λx:Nat × Int × Int=>a<=x.1/\x.1<=e/\1<=x.2.1/\1<=x.2.2/\x.2.1<=100000+x.1/\x.2.2<=100000+x.1/\o8 ((s.data.toList.drop x.1).take (e-x.1)) x.2.1 x.2.2=R)
  (λx=>(9,.c (.d (.int .i64 x.1)))::(8,.c (.d (.int .i64 k)))::Bz s x.2.1 x.2.2 a ts.length) (λ_=>lexB ts) (λx=>e-x.1) (a,l0,c0) ms ⟨aK _,by simp only;omega,hl0,hc0,by simp only;omega,by simp only;omega,by simp only;rw[he,bX];exact hR⟩ h0 λ⟨j,li,co⟩ ⟨h0',h1,h2,h3,h4,h5,h6⟩=>?_
 unfold L8;simp only at h0' h1 h2 h3 h4 h5 h6;have hw1:IntKind.i64.wrap ((j:Int)+1)=((j+1:Nat):Int):=by rw[wI];omega
 have hw3:IntKind.i64.wrap (co+1)=co+1:=wI;have hw4:IntKind.i64.wrap (li+1)=li+1:=wI;by_cases hj:j<e
 ·have hj':j<s.data.toList.length:=by omega
  rw[aG hj',show e-j=(e-(j+1))+1 by omega,take_succ_cons,o8]at h6;have hb:=wQ hj';generalize s.data.toList[j]=b at h6 hb;by_cases q:b=10
  ·rw[aB q]at h6;subst q;simp[hw2,hb,hj];refine dm (j+1,li+1,1) [0,1] ⟨by simp only;omega,by simp only;omega,by simp only;omega,by simp,by simp only;omega,by simp only;omega,h6⟩ (by simp only;omega) ?_;simp[hw1,hw4]
  ·rw[aA q]at h6;have q':=un q;simp at q';simp[hw2,hb,hj,q,q'];refine dm (j+1,li,co+1) [0,1] ⟨by simp only;omega,by simp only;omega,by simp only;omega,by simp only;omega,by simp only;omega,by simp only;omega,h6⟩ (by simp only;omega) ?_;simp[hw1,hw3]
 ·have:j=e:=by omega
  subst this;rw[Nat.sub_self,take_zero,o8]at h6;subst h6;simp[hw2];exact hQ _ (by simp) (by simp) (by simp) (by simp) (by simp) (by simp) (by simp)
def M4(l:List UInt8):(bA l).data.toList=l:=by simp[bA]
def VN(l:List UInt8):(bA l).size=l.length:=by rw[<-tQ,M4]
def VO(s:di)(p:Nat):s.extract p s.size=bA (s.data.toList.drop p):=by
 rw[Ij,aH (by rw[dD,tQ];omega)]
@[simp] theorem iA.enc_length(d:iA):d.enc.length=4:=rfl
theorem VP(n:Nat)(l:List UInt8)(a b:Int)(ts:List Tok):oF (n+1) l a b ts=
 if l.drop (iB false l)=[]then(ts++[⟨0,bs [],(o8 (l.take (iB false l)) a b).1,(o8 (l.take (iB false l)) a b).2⟩],Lc)
 else if(if(iK (l.drop (iB false l))).e=0/\ts.length=8192 then 19 else(iK (l.drop (iB false l))).e)≠0 then([],⟨0,(o8 (l.take (iB false l)) a b).1,(o8 (l.take (iB false l)) a b).2,if(iK (l.drop (iB false l))).e=0/\ts.length=8192 then 19 else(iK (l.drop (iB false l))).e⟩)
 else oF n ((l.drop (iB false l)).drop (iK (l.drop (iB false l))).len) (o8 (l.take (iB false l)) a b).1 ((o8 (l.take (iB false l)) a b).2+(iK (l.drop (iB false l))).len) (ts++[⟨(iK (l.drop (iB false l))).kind,bA (iK (l.drop (iB false l))).text,(o8 (l.take (iB false l)) a b).1,(o8 (l.take (iB false l)) a b).2⟩]):=rfl
def zF0(s:di):fu Pg 111 [.one (.str s)] (.tup [.one (.sl false 4 ((kX s).1.map Tok.enc)),.agg (kX s).2.enc]):=by
 refine zBJ (by simp) λo c' hN hp=>?_;have hs:s.size<=zao:=by have:=o.1;simpa only[DV.ok,D.ok]using this
 unfold zao at hs;have hlen:=tQ s;obtain⟨F0,hF0⟩:∃F0,kX s=F0:=⟨_,rfl⟩
 rw[hF0];unfold kX at hF0;unfold Su;by_cases h6:65536<s.size
 ·have h6':(65536:Int)<s.size:=by omega
  rw[aB h6]at hF0;subst hF0;simp[h6,h6',iA.enc]
 have h6':¬(65536:Int)<s.size:=by omega
 rw[aA h6]at hF0;simp[h6,h6'];refine eY [.t 4] ?_;simp
 refine eP gD hp (λx:Nat × Nat × Int × Int × List Tok=>oF x.1 (s.data.toList.drop x.2.1) x.2.2.1 x.2.2.2.1 x.2.2.2.2=F0/\x.2.1<=s.size/\s.size<x.1+x.2.1/\x.2.2.2.2.length<=8192/\1<=x.2.2.1/\1<=x.2.2.2.1/\x.2.2.1<=1+x.2.1/\x.2.2.2.1<=1+x.2.1)
  (λx=>Bz s x.2.2.1 x.2.2.2.1 x.2.1 x.2.2.2.2.length) (λx=>lexB x.2.2.2.2) (λx=>x.1) (s.size+1,0,1,1,[]) [0,1] ⟨by simpa using hF0,by simp,by simp only;omega,by simp,by simp,by simp,by simp,by simp⟩ (by simp) λ⟨n,p,li,co,ts⟩ ⟨i1,i2,i3,i4,i5,i6,i7,i8⟩=>?_
 unfold Sr;simp only at i1 i2 i4 i5 i6 i7 i8;have i3:s.size<n+p:=i3;obtain⟨n,rfl⟩:∃m,n=m+1:=⟨n-1,by omega⟩
 rw[VP]at i1;have hb:=zC4 (bA (s.data.toList.drop p));rw[M4]at hb;have hbl:=Il false (s.data.toList.drop p);rw[dD,hlen]at hbl;have hx:=VO s p;simp[i2,hx];refine fU hb ?_;obtain⟨k,hk⟩:∃k,iB false (s.data.toList.drop p)=k:=⟨_,rfl⟩
 rw[hk]at i1 hbl;simp[hk];obtain⟨q,hq⟩:∃q,o8 ((s.data.toList.drop p).take k) li co=q:=⟨_,rfl⟩
 have hqb:=M3 ((s.data.toList.drop p).take k) li co i5 i6;rw[hq]at i1 hqb;have htk:((s.data.toList.drop p).take k).length=k:=by rw[bU,dD];omega
 rw[htk]at hqb;refine zEG hp s (by omega) ts p k (by omega) li co i5 i6 (by omega) (by omega) q hq (ms:=[0,1]) (by simp) λT t6 t5 t7 t8 t4 t3 t0=>?_;have hw:IntKind.i64.wrap ((p:Int)+k)=((p+k:Nat):Int):=by rw[wI];omega
 rw[bO]at i1;have hx2:=VO s (p+k);obtain⟨p',hp'⟩:∃p',p+k=p':=⟨_,rfl⟩
 rw[hp']at hw i1 hx2;simp[t7,t8,hw,t0];by_cases he:s.size<=p'
 ·have he':p'=s.size:=by omega
  rw[aB (bN (by omega))]at i1;subst i1;have z:take ts.length (List.map ((λx=>List.map AC.d x)∘Tok.enc) ts)=List.map ((λx=>List.map AC.d x)∘Tok.enc) ts:=aH (by simp);have z2:take (ts.length+1) (List.map Tok.enc ts++[[.int .i64 0,.str (bs []),.int .i64 q.1,.int .i64 q.2]])=List.map Tok.enc ts++[[.int .i64 0,.str (bs []),.int .i64 q.1,.int .i64 q.2]]:=aH (by simp);simp[he,t4,t5,t6,t3,z,z2];exact⟨by omega,rfl,rfl⟩
 rw[aA (λh=>by have:=bu length h;rw[dD]at this;simp at this;omega)]at i1;have ht:=zDK (bA (s.data.toList.drop p')) (by rw[VN,dD];omega);rw[M4]at ht;have htl:=VM (l:=s.data.toList.drop p');rw[dD]at htl;generalize iK (s.data.toList.drop p')=t at*
 have hp2:p'<=s.size:=by omega
 simp[he,hp2,hx2,t7,t0];refine fU ht ?_;by_cases e0:t.e=0
 ·have htl:=htl e0;by_cases hm:ts.length=8192
  ·rw[aB (by rw[aB ⟨e0,hm⟩];decide),aB ⟨e0,hm⟩]at i1;subst i1;have hm':((ts.length:Nat):Int)=8192:=by omega
   simp[t4,t5,t6,t3,oD.enc,e0,hm,hm',iA.enc]
  ·have hm':¬((ts.length:Nat):Int)=8192:=by omega
   rw[aA (by rw[aA (λh=>hm h.2)];simpa using e0),bO]at i1;have hw1:IntKind.i64.wrap ((p':Int)+t.len)=((p'+t.len:Nat):Int):=by rw[wI];omega
   have hw2:IntKind.i64.wrap (q.2+t.len)=q.2+t.len:=wI;simp[t4,t5,t6,t3,t7,oD.enc,e0,hm,hm',hw1,hw2];refine⟨by omega,?_⟩;refine dm (n,p'+t.len,q.1,q.2+t.len,ts++[⟨t.kind,bA t.text,q.1,q.2⟩]) [0,3] ⟨i1,by simp only;omega,by simp only;omega,by simp;omega,by simp only;omega,by simp only;omega,by simp only;omega,by simp only;omega⟩ (by simp) ?_;have z:take ts.length (List.map ((λx=>List.map AC.d x)∘Tok.enc) ts)=List.map ((λx=>List.map AC.d x)∘Tok.enc) ts:=aH (by simp);simp[t3,t0,t5,hw1,hw2,Tok.enc,z]
 ·rw[aB (by rw[aA (λh=>e0 h.1)];exact e0),aA (λh=>e0 h.1)]at i1;subst i1;simp[t4,t5,t6,t3,oD.enc,e0,iA.enc]
def FR{t:fZ}(o:DV.ok (.agg t.enc)):t.names.length<=zao/\t.kids.length<=zao:=by
 rw[fZ.enc_eq]at o;simp only[DV.ok,D.okL,D.ok,Tp,ah]at o;exact⟨o.2.2.1.1,o.2.2.2.1.1⟩
@[simp] theorem fZ.enc_g1(t:fZ)(h:1<t.enc.length):t.enc[1]=.str t.name:=by have:=t.enc_1;rw[aD h]at this;exact bV this
mutual
def Io:∀(t:fZ) (m:Int),1<=mq t m/\mq t m<=max 1 m
|.mk _ _ _ l,m=>by have:=Ip l m 1 (by omega);rw[mq];omega
def Ip:∀(l:List fZ) (m n:Int),1<=n->n<=oz l m n/\oz l m n<=max n m
|[],m,n,h=>by rw[oz];omega
| t::l,m,n,h=>by
 rw[oz];split
 ·have h1:=Io t (m-n);have h2:=Ip l m (n+mq t (m-n)) (by omega);omega
 ·omega
end
def zyT{l:List fZ}{m n:Int}(h:¬n<m):oz l m n=n:=by
 cases l with
 |nil=>rw[oz]
 |cons d l=>rw[oz,aA h]
def zDG(t:fZ)(ih:∀e,e∈t.kids->∀m:Int,1<=m->m<=1000->fu Pg 167 [.agg e.enc,.one (.int .i64 m)] (.one (.int .i64 (mq e m))))(m:Int)(h1:1<=m)(h2:m<=1000):
  fu Pg 167 [.agg t.enc,.one (.int .i64 m)] (.one (.int .i64 (mq t m))):=by
 refine zz1 (by simp) λo c hN hp=>?_;have hf:=FR o.1;unfold zao at hf;have e:mq t m=oz t.kids m 1:=by cases t;rw[mq];try rfl
 rw[e];unfold UV;simp;refine eP gD hp (λx:Nat × Int=>x.1<=t.kids.length/\(1<=x.2/\x.2<=1000)/\oz (t.kids.drop x.1) m x.2=oz t.kids m 1) (λx=>[(6,.c (.d (.int .i64 x.1))),(5,.c (.d (.int .i64 x.2))),(2,.c (.d (.rp t.enc 0))),(1,.c (.d (.int .i64 m)))]) (λ_=>[]) (λx=>t.kids.length-x.1) (0,1) [] ⟨by simp,by simp,by simp⟩ (by simp) λ⟨j,n⟩ ⟨hx1,hx3,hx2⟩=>?_;unfold UU;simp only at hx1 hx2 hx3;simp;apply fM<;>intro h
 ·have hj:j<t.kids.length:=by simpa using h
  rw[aG hj]at hx2;apply fM<;>intro h
  ·simp at h;rw[oz,aB h]at hx2;have hw:IntKind.i64.wrap (m-n)=m-n:=wI;simp[aD hj,hw];refine fU (ih _ (ai hj) (m-n) (by omega) (by omega)) ?_;have hle:=Io t.kids[j] (m-n);simp;refine dm (j+1,n+mq t.kids[j] (m-n)) [] ⟨by simp;omega,by simp only;omega,hx2⟩ (by simp;omega) ?_;simp;exact⟨wI,wI⟩
  ·simp at h;rw[zyT (by omega)]at hx2;simp[hx2]
 ·have hj:j=t.kids.length:=by simp at h;omega
  subst hj;rw[aQ,oz]at hx2;simp[hx2]
mutual
def VQ:∀(t:fZ) (m:Int),1<=m->m<=1000->fu Pg 167 [.agg t.enc,.one (.int .i64 m)] (.one (.int .i64 (mq t m)))
|.mk k n s l,m,h1,h2=>zDG (.mk k n s l) (λe h=>VR l e h) m h1 h2
def VR:∀(l:List fZ) (e:fZ),e∈l->∀m:Int,1<=m->m<=1000->fu Pg 167 [.agg e.enc,.one (.int .i64 m)] (.one (.int .i64 (mq e m)))
|[],e,h=>by cases h
|d::l,e,h=>by
 cases h with
 |head=>exact VQ d
 |tail _ h=>exact VR l e h
end
def M5(t:fZ):fu Pg 121 [.agg t.enc] (.one (.int .i64 (mq t 201))):=by
 refine zz2 (by simp) λo c hN hp=>?_;unfold UW;simp;refine fU (VQ t 201 (by omega) (by omega)) ?_;simp
def M6(f:fZ->Int)(B:Int):∀(l:List fZ) (a:Int),0<=a->a<=B->(∀x,x∈l->f x<=B)->0<=l.foldl (λh k=>if h<f k then f k else h) a/\l.foldl (λh k=>if h<f k then f k else h) a<=B
|[],a,h0,h,_=>⟨h0,h⟩
|x::l,a,h0,h,hl=>by
 have hx:=hl x (by simp);rw[foldl_cons];split
 ·exact M6 f B l _ (by omega) hx λy hy=>hl y (by simp[hy])
 ·exact M6 f B l _ h0 h λy hy=>hl y (by simp[hy])
def VS:∀(n:Nat) (t:fZ),1<=nK n t/\nK n t<=max 1 n
|0,t=>by rw[nK];omega
|1,t=>by rw[nK];omega
|n+2,t=>by
 rw[nK];have:=M6 (nK (n+1)) (n+1) t.kids 0 (by omega) (by omega) λx _=>by have:=VS (n+1) x;omega
 omega
def VU:∀(n:Nat) (t:fZ),n<=100->fu Pg 166 [.agg t.enc,.one (.int .i64 n)] (.one (.int .i64 (nK n t)))
|0,t,hn=>by
 refine Ls (by simp) λo c hN hp=>?_;unfold Ih;simp[nK]
|1,t,hn=>by
 refine Ls (by simp) λo c hN hp=>?_;unfold Ih;simp[nK]
| n+2,t,hn=>by
 refine Ls (by simp) λo c hN hp=>?_;have hf:=FR o.1;unfold zao at hf;have e:nK (n+2) t=t.kids.foldl (λh k=>if h<nK (n+1) k then nK (n+1) k else h) 0+1:=by rw[nK]
 rw[e];obtain⟨R,hR⟩:∃R,t.kids.foldl (λh k=>if h<nK (n+1) k then nK (n+1) k else h) 0=R:=⟨_,rfl⟩
 rw[hR];unfold Ih;have hne:¬(((n+2:Nat):Int)<=1):=by omega
 have hne':¬((n:Int)+2<=1):=by omega
 have hw:IntKind.i64.wrap ((n:Int)+2-1)=((n+1:Nat):Int):=by rw[wI];omega
 simp[hne,hne'];refine eP gD hp (λx:Nat × Int=>x.1<=t.kids.length/\(0<=x.2/\x.2<=n+1)/\(t.kids.drop x.1).foldl (λh k=>if h<nK (n+1) k then nK (n+1) k else h) x.2=R) (λx=>[(6,.c (.d (.int .i64 x.1))),(5,.c (.d (.int .i64 x.2))),(1,.c (.d (.int .i64 (n+2:Nat)))),(2,.c (.d (.rp t.enc 0)))]) (λ_=>[]) (λx=>t.kids.length-x.1) (0,0) [] ⟨by simp,⟨by simp,by simp only;omega⟩,by simpa using hR⟩ (by simp) λ⟨j,r⟩ ⟨hx1,hx3,hx2⟩=>?_;unfold UY;simp only at hx1 hx2 hx3;simp;apply fM<;>intro h
 ·have hj:j<t.kids.length:=by simpa using h
  rw[aG hj,foldl_cons]at hx2;simp[aD hj,hw];refine fU (VU (n+1) t.kids[j] (by omega)) ?_;have hle:=VS (n+1) t.kids[j];generalize nK (n+1) t.kids[j]=q at*
  by_cases hq:r<q
  ·rw[aB hq]at hx2;simp[hq];refine dm (j+1,q) [] ⟨by simp;omega,by simp only;omega,hx2⟩ (by simp;omega) ?_;simp;exact wI
  ·rw[aA hq]at hx2;simp[hq];refine dm (j+1,r) [] ⟨by simp;omega,by simp only;omega,hx2⟩ (by simp;omega) ?_;simp;exact wI
 ·have hj:j=t.kids.length:=by simp at h;omega
  subst hj;rw[aQ,foldl_nil]at hx2;subst hx2;exact wI
def M7(t:fZ):fu Pg 120 [.agg t.enc] (.one (.int .i64 (nK 17 t))):=by
 refine zwJ (by simp) λo c hN hp=>?_;unfold UX;simp;refine fU (VU 17 t (by omega)) ?_;simp
def Iq(t:fZ):fu Pg 170 [.agg t.enc] (.one (.int .i64 (iD t))):=by
 refine zBm (by simp) λo c hN hp=>?_;unfold U7 iD;by_cases h1:t.kind=1
 ·simp[h1];exact wI
 by_cases h2:t.kind=2
 ·simp[h2];exact wI
 by_cases h3:t.kind=3
 ·simp[h3];exact wI
 by_cases h4:t.kind=4
 ·simp[h4];exact wI
 by_cases h5:t.kind=5
 ·simp[h5];exact wI
 by_cases h6:t.kind=6
 ·simp[h6];exact wI
 rw[aB (by omega)];simp[h1,h2,h3,h4,h5,h6]
def VV:∀(a b:List fZ),xm a b=qB nA a b
|[],[]=>rfl
|[],_::_=>rfl
|_::_,[]=>rfl
|x::a,y::b=>by rw[xm,qB,VV a b]
def zDH(a b:fZ):nA a b=(decide (a.kind=b.kind)&&(decide (a.name=b.name)&&(decide (a.names=b.names)&&qB nA a.kids b.kids))):=by
 cases a;rw[nA,VV];try rfl
def M8{α:Type}{q:α->α->Bool}:∀{a b:List α},qB q a b=true->a.length=b.length
|[],[],_=>rfl
|[],_::_,h=>by cases h
|_::_,[],h=>by cases h
|x::a,y::b,h=>by
 rw[qB,aC]at h;simp[M8 h.2]
def zDI{α:Type}{a b:List α}{j:Nat}(h1:j<a.length)(h2:j<b.length)(h:a.take j=b.take j)(e:a[j]=b[j]):a.take (j+1)=b.take (j+1):=by
 rw[ak h1,ak h2,h,e]
def zDJ(a b:fZ)(ih:∀x,x∈a.kids->∀y,fu Pg 77 [.agg x.enc,.agg y.enc] (.one (.bool (nA x y)))):fu Pg 77 [.agg a.enc,.agg b.enc] (.one (.bool (nA a b))):=by
 have e:=zDH a b;refine zz3 (by simp) λo c hN hp=>?_;have hf:=FR o.1;unfold zao at hf;generalize nA a b=R at*
 have k2:∀{Q:Exit->St->Prop} {S:St} {g} {ms:List Nat} (hl:a.kids.length=b.kids.length) (h0:iU ms S [(6,.c (.d (.int .i64 0))),(3,.c (.d (.rp b.enc 0))),(2,.c (.d (.rp a.enc 0)))] []),
   (qB nA a.kids b.kids=false->∀T M n,Abs.look T 4=.c (.d (.bool false))->Q .ret ⟨T,M,n⟩)->(qB nA a.kids b.kids=true->∀T M n,Q (.exit 2) ⟨T,M,n⟩)->qO Pg c Lu Q g S:=by
  intro Q S g ms hl h0 hn hy;refine eP gD hp (λj:Nat=>j<=a.kids.length/\qB nA (a.kids.drop j) (b.kids.drop j)=qB nA a.kids b.kids) (λj=>[(6,.c (.d (.int .i64 j))),(3,.c (.d (.rp b.enc 0))),(2,.c (.d (.rp a.enc 0)))]) (λ_=>[]) (λj=>a.kids.length-j) 0 ms ⟨by simp,by simp⟩ h0 λj ⟨h1,h2⟩=>?_;unfold Lu;simp;apply fM<;>intro h
  ·have hj:j<a.kids.length:=by simpa using h
   have hj2:j<b.kids.length:=by omega
   rw[aG hj,aG hj2,qB]at h2;simp[aD hj,aD hj2];refine fU (ih _ (ai hj) _) ?_;generalize nA a.kids[j] b.kids[j]=q at*
   cases q with
   |true=>
    simp at h2;simp;refine⟨by decide,?_⟩;refine dm (j+1) [] ⟨by omega,h2⟩ (by omega) ?_;simp;exact wI
   |false=>
    simp at h2;simp;exact⟨by decide,hn h2 _ _ _ (by simp)⟩
  ·have hj:j=a.kids.length:=by simp at h;omega
   subst hj;rw[aQ,hl,aQ]at h2;exact hy h2.symm _ _ _
 have k1:∀{Q:Exit->St->Prop} {S:St} {g} {ms:List Nat} (hl:a.names.length=b.names.length) (h0:iU ms S [(5,.c (.d (.int .i64 0))),(3,.c (.d (.rp b.enc 0))),(2,.c (.d (.rp a.enc 0)))] []),
   (a.names≠b.names->∀T M n,Abs.look T 4=.c (.d (.bool false))->Q .ret ⟨T,M,n⟩)->(a.names=b.names->∀T M n,Abs.look T 2=.c (.d (.rp a.enc 0))->Abs.look T 3=.c (.d (.rp b.enc 0))->Q (.exit 0) ⟨T,M,n⟩)->qO Pg c Lt Q g S:=by
  intro Q S g ms hl h0 hn hy;refine eP gD hp (λj:Nat=>j<=a.names.length/\a.names.take j=b.names.take j) (λj=>[(5,.c (.d (.int .i64 j))),(3,.c (.d (.rp b.enc 0))),(2,.c (.d (.rp a.enc 0)))]) (λ_=>[]) (λj=>a.names.length-j) 0 ms ⟨by simp,by simp⟩ h0 λj ⟨h1,h2⟩=>?_;unfold Lt;simp;apply fM<;>intro h
  ·have hj:j<a.names.length:=by simpa using h
   have hj2:j<b.names.length:=by omega
   simp[aD hj,aD hj2];by_cases q:a.names[j]=b.names[j]
   ·simp[q];refine⟨by decide,?_⟩;refine dm (j+1) [] ⟨by omega,zDI hj hj2 h2 q⟩ (by omega) ?_;simp;exact wI
   ·simp[q];exact⟨by decide,hn (λz=>q (by simp[z])) _ _ _ (by simp)⟩
  ·have hj:j=a.names.length:=by simp at h;omega
   subst hj;rw[dC,hl,dC]at h2;exact hy h2 _ _ _ (by simp) (by simp)
 unfold UZ;by_cases q1:a.kind=b.kind;rotate_left
 ·simp[q1]at e;simp[q1,e]
 by_cases q2:a.name=b.name;rotate_left
 ·simp[q2]at e;simp[q1,q2,e]
 by_cases q3:a.names.length=b.names.length;rotate_left
 ·have:¬a.names=b.names:=λz=>q3 (by rw[z]);have q3':¬(a.names.length:Int)=b.names.length:=by omega
  simp[this]at e;simp[q1,q2,q3,q3',e]
 by_cases q4:a.kids.length=b.kids.length;rotate_left
 ·have:qB nA a.kids b.kids=false:=by
   cases h:qB nA a.kids b.kids with
   |false=>rfl
   |true=>exact absurd (M8 h) q4
  have q4':¬(a.kids.length:Int)=b.kids.length:=by omega
  simp[this]at e;simp[q1,q2,q3,q4,q4',e]
 simp[q1,q2,q3,q4];refine k1 q3 (ms:=[]) (by simp) (λhn T M n t4=>?_) (λhy T M n t2 t3=>?_)
 ·simp[hn]at e;simp[t4,e]
 ·simp[q1,q2,hy]at e;simp;refine k2 q4 (ms:=[]) (by simp[t2,t3]) (λhn T M n t4=>?_) (λhy T M n=>?_)
  ·rw[hn]at e;simp[t4,e]
  ·rw[hy]at e;simp[e]
mutual
def Dt:∀(a b:fZ),fu Pg 77 [.agg a.enc,.agg b.enc] (.one (.bool (nA a b)))
|.mk k n s l,b=>zDJ _ b λx hx y=>VW l x hx y
def VW:∀(l:List fZ) (x:fZ),x∈l->∀y,fu Pg 77 [.agg x.enc,.agg y.enc] (.one (.bool (nA x y)))
|c::l,x,h,y=>by
 cases aS.1 h with
 |inl e=>rw[e];exact Dt c y
 |inr e=>exact VW l x e y
end
end Go.Gr
