/- Texts of ours, joined and written short by a program of ours. -/
import Derived.Test.YtnbgmeamdkggeaaGreatDoorJ11
import Derived.Test.YtnbgmeamdkggeaaGreatDoorJ07
import Derived.Test.YtnbgmeamdkggeaaGreatDoorJ09
import Derived.Test.YtnbgmeamdkggeaaGreatDoorJ08
set_option maxRecDepth 20000
set_option maxHeartbeats 4000000
set_option linter.unusedVariables false
set_option linter.unusedSectionVars false
set_option linter.unusedSimpArgs false
set_option linter.defProp false
set_option linter.unnecessarySimpa false
namespace Go.Gr
open Go.Abs Go.Proofs List
def Nh:∀l m:List fo,gy (l++m)=gy l+gy m
|[],m=>by simp[gy]
|n::l,m=>by rw[cons_append,gy,gy,Nh l m];omega
def zD8{l m:List fo}(h:lu l)(k:lu m):lu (l++m):=(Fq _).2 λx hx=>by
 rcases aU.1 hx with hx|hx
 ·exact(Fq _).1 h x hx
 ·exact(Fq _).1 k x hx
section
variable {L:List Tok}
def tu(p:PS)(k:Int)(t:di)(n:Int)(ts:List fZ)(ns:List di)(ks:List fo):gQ (kM L p k t n ts ns ks)=gy ks+1:=by unfold kM;rw[gQ]
def uA(p:PS)(k:Int)(t:di)(n:Int)(ts:List fZ)(ns:List di)(ks:List fo)(h:lu ks)(s:ny k ts ns ks):nH (kM L p k t n ts ns ks):=by unfold kM;rw[nH];exact⟨h,s⟩
def zy{a:fo}(h:nH a):lu [a]:=⟨h,trivial⟩
def Fw{a b:fo}(h:nH a)(k:nH b):lu [a,b]:=⟨h,k,trivial⟩
def ks3{a b c:fo}(h:nH a)(k:nH b)(l:nH c):lu [a,b,c]:=⟨h,k,l,trivial⟩
def z1(a:fo):gy [a]=gQ a:=by simp[gy]
def z2(a b:fo):gy [a,b]=gQ a+gQ b:=by simp[gy]
def z3(a b c:fo):gy [a,b,c]=gQ a+gQ b+gQ c:=by simp[gy];omega
def kH(L:List Tok)(f:PS->fo × PS):Prop:=∀p,p.at'<L.length->nH (f p).1/\gQ (f p).1+3*p.at'<=3*(f p).2.at'+1
def X8{ki:PS->fZ × PS}(p:PS):(o9 L ki p).1.length<=1:=by
 unfold o9;split<;>simp
def X9{ki:PS->fZ × PS}(p:PS):1<=(qZ L ki p).1.2.length/\(qZ L ki p).1.2.length<=2:=by
 unfold qZ;simp only;have a:=X8 (L:=L) (ki:=ki) (iN L (iV L (bs [40]) p)).2;have b:=X8 (L:=L) (ki:=ki) (iV L (bs [41]) (o9 L ki (iN L (iV L (bs [40]) p)).2).2);rw[aR];split
 ·simp only[length_cons,length_nil];omega
 ·omega
def Ni:nH mZ:=⟨trivial,.inl (.inl rfl)⟩
def zCC(hL:iR L){ki:PS->fZ × PS}{ex rk:PS->fo × PS}(hk:gF L ki)(he:gF L ex)(ne:kH L ex)(nr:kH L rk):kH L (yZ L ki ex rk):=λp hp=>by
 unfold yZ;split
 ·rename_i c;have h1:=iF hL hp (s:=rW);have h2:=h1.trans (lS hL h1.lt);have h3:=h2.trans (y8 hL hk _ h2.lt);have h4:=(lS hL h1.lt).trans ((y8 hL hk _ h2.lt).trans (iP hL h3.lt (s:=bs [61])));have n5:=ne _ h4.lt;have h5:=he _ h4.lt;have h6:=iP hL h5.lt (s:=bs [59]);have n7:=ne _ h6.lt;have t:=(take_at c).1;refine⟨uA _ _ _ _ _ _ _ (Fw n5.1 n7.1) (by simp[ny]),?_⟩;rw[tu,z2];have:=h4.le;have:=h6.le;simp only at*
  omega
 split
 ·rename_i c;have h1:=iF hL hp (s:=zY);have n2:=ne _ h1.lt;have h2:=he _ h1.lt;have h3:=iP hL h2.lt (s:=Bh);have n4:=ne _ h3.lt;have h4:=he _ h3.lt;have h5:=iP hL h4.lt (s:=Bi);have n6:=ne _ h5.lt;have t:=(take_at c).1;refine⟨uA _ _ _ _ _ _ _ (ks3 n2.1 n4.1 n6.1) (by simp[ny]),?_⟩;rw[tu,z3];have:=h3.le;have:=h5.le;simp only at*
  omega
 split
 ·rename_i c;have h1:=iF hL hp (s:=sP);have h2:=Ai hL hk _ h1.lt;have h3:=h2.trans (iP hL h2.lt (s:=bs [61,62]));have n4:=ne _ h3.lt;have t:=(take_at c).1;have hh:=(X9 (L:=L) (ki:=ki) (gG L sP p).2).1;refine⟨uA _ _ _ _ _ _ _ (zy n4.1) (by simp[ny];simpa using hh),?_⟩;rw[tu,z1];have:=h3.le;simp only at*
  omega
 ·exact nr p hp
def Xa(hL:iR L){rk:PS->fo × PS}(hr:gF L rk)(nr:kH L rk)(signs:List di):∀(n:Nat) (a:fo) (p:PS),p.at'<L.length->nH a->nH (kN L rk signs n a p).1/\gQ (kN L rk signs n a p).1+3*p.at'<=3*(kN L rk signs n a p).2.at'+gQ a
|0,a,p,hp,ha=>by rw[kN];exact⟨ha,by show gQ a+3*p.at'<=3*p.at'+gQ a;omega⟩
| n+1,a,p,hp,ha=>by
 rw[kN];split
 ·exact⟨ha,by show gQ a+3*p.at'<=3*p.at'+gQ a;omega⟩
 ·rename_i s q h;have h1:=Bv hL _ hp h;have h2:=hr _ h1.1.lt;have n2:=nr _ h1.1.lt;have r:=Xa hL hr nr signs n (kM L p 14 s 0 [] [] [a,(rk q).1]) (rk q).2 h2.lt (uA _ _ _ _ _ _ _ (Fw ha n2.1) (by simp[ny]));rw[tu,z2]at r;refine⟨r.1,?_⟩;have:=h1.2.1;omega
def zD9(hL:iR L){ki:PS->fZ × PS}{rk:PS->fo × PS}(hk:gF L ki)(hr:gF L rk)(nr:kH L rk):kH L (qc L ki rk):=λp hp=>by
 have h1:=hr p hp;have n1:=nr p hp;unfold qc;simp only;split
 ·rename_i s q h;have h2:=Bv hL _ h1.lt h;have n3:=nr _ h2.1.lt;refine⟨uA _ _ _ _ _ _ _ (Fw n1.1 n3.1) (by simp[ny]),?_⟩;rw[tu,z2];have:=h2.2.1;simp only at*
  omega
 split
 ·rename_i c;have t:=(take_at c).1;have h2:=iF hL h1.lt (s:=bs [97,115]);have h3:=hk _ h2.lt;refine⟨uA _ _ _ _ _ _ _ (zy n1.1) (by simp[ny]),?_⟩;rw[tu,z1];have:=h3.le;simp only at*
  omega
 split
 ·rename_i c;have t:=(take_at c).1;have h2:=iF hL h1.lt (s:=bs [105,115]);split
  ·rename_i i q h;have h3:=Ez hL _ _ h2.lt h;refine⟨uA _ _ _ _ _ _ _ (zy n1.1) (by simp[ny]),?_⟩;rw[tu,z1];have:=h3.2.1;simp only at*
   omega
  ·have h3:=Dk (L:=L) (e:=7) h2.lt;refine⟨uA _ _ _ _ _ _ _ (zy n1.1) (by simp[ny]),?_⟩;rw[tu,z1];have:=h3.le;simp only at*
   omega
 ·exact n1
def zCD(hL:iR L){ki:PS->fZ × PS}{un:PS->fo × PS}(hk:gF L ki)(hu:gF L un)(nu:kH L un):kH L (Ew L ki un):=by
 obtain⟨t5,t4,t3,t2,t1,t0⟩:=FC hL hk hu;have op:∀(f:PS->fo × PS) (signs:List di),gF L f->kH L f->kH L (λp=>kN L f signs (L.length+1) (f p).1 (f p).2):=λf signs tf nf p hp=>by
  have a:=nf p hp;have r:=Xa hL tf nf signs (L.length+1) (f p).1 (f p).2 (tf p hp).lt a.1;exact⟨r.1,by simp only;omega⟩
 have n5:kH L (Bj L un):=op un (qb 5) hu nu;have n4:kH L (Bl L un):=op _ (qb 4) t5 n5;have n3:kH L (Ev L un):=op _ (qb 3) t4 n4;have n2:kH L (Bn L ki un):=zD9 hL hk t3 n3;have n1:kH L (Bo L ki un):=op _ (qb 1) t2 n2;exact op _ (qb 0) t1 n1
def Xb{ki:PS->fZ × PS}:∀(n:Nat) (l:List fZ) (p:PS),(vQ L ki n l p).1.length<=l.length+n
|0,l,p=>by rw[vQ];exact aK _
| n+1,l,p=>by
 rw[vQ];split
 ·have:=Xb (ki:=ki) n (l++[(ki p).1]) (gG L (bs [44]) (ki p).2).2;rw[aR]at this;simp only[length_cons,length_nil]at this;omega
 ·simp only[aR,length_cons,length_nil];omega
def Xc(hL:iR L){ex:PS->fo × PS}(he:gF L ex)(ne:kH L ex):∀(n:Nat) (ns:List di) (ks:List fo) (p:PS),p.at'<L.length->lu ks->lu (qw L ex n ns ks p).1.2/\gy (qw L ex n ns ks p).1.2+3*p.at'<=3*(qw L ex n ns ks p).2.at'+gy ks+1/\(qw L ex n ns ks p).1.1.length<=ns.length+n
|0,ns,ks,p,hp,hk=>by rw[qw];exact⟨hk,by simp only;omega,by simp⟩
| n+1,ns,ks,p,hp,hk=>by
 have h1:=lS hL hp;have h2:=h1.trans (iP hL h1.lt (s:=bs [58]));have h3:=he _ h2.lt;have n3:=ne _ h2.lt;have h4:=iF hL h3.lt (s:=bs [44]);have e2:=h2.le;have w:=zD8 hk (zy n3.1);rw[qw];split
 ·rename_i c;have t:=(take_at c).1;have r:=Xc hL he ne n (ns++[(iN L p).1]) (ks++[(ex (iV L (bs [58]) (iN L p).2)).1]) _ h4.lt w;rw[Nh,z1,aR]at r;simp only[length_cons,length_nil]at r;refine⟨r.1,?_,by omega⟩;omega
 ·refine⟨w,?_,by simp only[aR,length_cons,length_nil];omega⟩;rw[Nh,z1];have:=h4.le;have:=n3.2;try simp only at*
  omega
theorem zy0(hL:iR L)(hl:L.length<=10000){ex:PS->fo × PS}(he:gF L ex)(ne:kH L ex)(q p:PS)(hp:p.at'<L.length):nH (ui L ex q p).1/\gQ (ui L ex q p).1+3*p.at'<=3*(ui L ex q p).2.at'+4:=by
 unfold ui;split
 ·have h1:=iF hL hp (s:=bs [125]);refine⟨uA _ _ _ _ _ _ _ trivial (by simp[ny]),?_⟩;rw[tu];have:=h1.le;simp only[gy];omega
 split
 ·have h1:=he p hp;have n1:=ne p hp;have h2:=iP hL h1.lt (s:=Bp);have h3:=h2.trans (lS hL h2.lt);have h4:=h3.trans (iP hL h3.lt (s:=bs [58]));have h5:=he _ h4.lt;have n5:=ne _ h4.lt;have h6:=iP hL h5.lt (s:=bs [125]);refine⟨uA _ _ _ _ _ _ _ (Fw n1.1 n5.1) (by simp[ny]),?_⟩;rw[tu,z2];have:=h4.le;have:=h6.le;simp only at*
  omega
 ·have h1:=FD hL he (L.length+1) [] [] p hp;have n1:=Xc hL he ne (L.length+1) [] [] p hp trivial;have h2:=iP hL h1.lt (s:=bs [125]);have e0:gy []=0:=rfl;rw[e0]at n1;refine⟨uA _ _ _ _ _ _ _ n1.1 (by have:=n1.2.2;simp only[length_nil]at this;simp[ny];omega),?_⟩;rw[tu];have:=h2.le;have:=n1.2.1;simp only at*
  omega
def Ar{p q:PS}{k:Int}{t:di}{n:Int}{ts:List fZ}{ns:List di}(hs:ny k ts ns [])(h:p.at'<=q.at'):nH (kM L p k t n ts ns [])/\gQ (kM L p k t n ts ns [])+3*p.at'<=3*q.at'+1:=by
 refine⟨uA _ _ _ _ _ _ _ trivial hs,?_⟩;rw[tu];simp only[gy];omega
def zCE(hL:iR L)(hl:L.length<=10000){ki:PS->fZ × PS}{ex:PS->fo × PS}(hk:gF L ki)(he:gF L ex)(ne:kH L ex):kH L (wJ L ki ex):=λp hp=>by
 unfold wJ;by_cases c1:p.e=0/\(gU L p).kind=3
 ·rw[aB c1];exact Ar (by simp[ny]) (by simp only;omega)
 rw[aA c1];by_cases c2:p.e=0/\(gU L p).kind=4
 ·rw[aB c2];exact Ar (by simp[ny]) (by simp only;omega)
 rw[aA c2];by_cases c3:(gG L Bq p).1=true
 ·rw[aB c3];exact Ar (by simp[ny]) (iF hL hp).le
 rw[aA c3];by_cases c4:(gG L Br p).1=true
 ·rw[aB c4];exact Ar (by simp[ny]) (iF hL hp).le
 rw[aA c4];by_cases c5:(gG L Bt p).1=true
 ·rw[aB c5];exact Ar (by simp[ny]) (iF hL hp).le
 rw[aA c5];by_cases c6:(gG L xc p).1=true
 ·rw[aB c6];have h1:=iF hL hp (s:=xc);have h2:=h1.trans (iP hL h1.lt (s:=bs [40]));exact Ar (by simp[ny]) (h2.trans (iP hL h2.lt)).le
 rw[aA c6];by_cases c7:(gG L xA p).1=true
 ·rw[aB c7];have h1:=iF hL hp (s:=xA);have h2:=iP hL h1.lt (s:=bs [40]);have h3:=he _ h2.lt;have n3:=ne _ h2.lt;have h4:=iP hL h3.lt (s:=bs [41]);have t:=(take_at c7).1;refine⟨uA _ _ _ _ _ _ _ (zy n3.1) (by simp[ny]),?_⟩;rw[tu,z1];have:=h2.le;have:=h4.le;simp only at*
  omega
 rw[aA c7];by_cases c8:(gG L (bs [40]) p).1=true
 ·rw[aB c8];have h1:=iF hL hp (s:=bs [40]);have h2:=he _ h1.lt;have n2:=ne _ h1.lt;have h3:=iP hL h2.lt (s:=bs [41]);have t:=(take_at c8).1;refine⟨n2.1,?_⟩;have:=n2.2;have:=h3.le;show gQ (ex (gG L (bs [40]) p).2).1+3*p.at'<=3*(iV L (bs [41]) (ex (gG L (bs [40]) p).2).2).at'+1;omega
 rw[aA c8];by_cases c9:(gG L (bs [123]) p).1=true
 ·rw[aB c9];have h1:=iF hL hp (s:=bs [123]);have r:=zy0 hL hl he ne p _ h1.lt;have t:=(take_at c9).1;exact⟨r.1,by omega⟩
 rw[aA c9];have h1:=lS hL hp;by_cases c10:(gG L (bs [91]) (iN L p).2).1=true
 ·have h2:=h1.trans (iF hL h1.lt (s:=bs [91]));have h3:=h2.trans (Lh hL hk (L.length+1) [] _ h2.lt);have tl:=Xb (L:=L) (ki:=ki) (L.length+1) [] (gG L (bs [91]) (iN L p).2).2;show nH (if(gG L (bs [91]) (iN L p).2).1=true then _ else _:fo × PS).1/\gQ (if(gG L (bs [91]) (iN L p).2).1=true then _ else _:fo × PS).1+3*p.at'<=3*(if(gG L (bs [91]) (iN L p).2).1=true then _ else _:fo × PS).2.at'+1;rw[aB c10];exact Ar (by simp only[length_nil]at tl;simp[ny];omega) h3.le
 ·show nH (if(gG L (bs [91]) (iN L p).2).1=true then _ else _:fo × PS).1/\gQ (if(gG L (bs [91]) (iN L p).2).1=true then _ else _:fo × PS).1+3*p.at'<=3*(if(gG L (bs [91]) (iN L p).2).1=true then _ else _:fo × PS).2.at'+1;rw[aA c10];exact Ar (by simp[ny]) h1.le
def Nj(hL:iR L){ex:PS->fo × PS}(he:gF L ex)(ne:kH L ex):∀(n:Nat) (a:fo) (p:PS),p.at'<L.length->nH a->nH (rY L ex n a p).1/\gQ (rY L ex n a p).1+3*p.at'<=3*(rY L ex n a p).2.at'+gQ a
|0,a,p,hp,ha=>by rw[rY];exact⟨ha,by show gQ a+3*p.at'<=3*p.at'+gQ a;omega⟩
| n+1,a,p,hp,ha=>by
 rw[rY];split
 ·rename_i c;have t:=(take_at c).1;have h1:=iF hL hp (s:=bs [40]);have h2:=he _ h1.lt;have n2:=ne _ h1.lt;have h3:=iP hL h2.lt (s:=bs [41]);have r:=Nj hL he ne n (kM L p 7 (bs []) 0 [] [] [a,(ex (gG L (bs [40]) p).2).1]) _ h3.lt (uA _ _ _ _ _ _ _ (Fw ha n2.1) (by simp[ny]));rw[tu,z2]at r;refine⟨r.1,?_⟩;have:=h3.le;have:=n2.2;have:=r.2;simp only at*
  omega
 split
 ·rename_i c;have t:=(take_at c).1;have h1:=iF hL hp (s:=bs [46]);have h2:=lS hL h1.lt;have r:=Nj hL he ne n (kM L p 9 (iN L (gG L (bs [46]) p).2).1 0 [] [] [a]) _ h2.lt (uA _ _ _ _ _ _ _ (zy ha) (by simp[ny]));rw[tu,z1]at r;refine⟨r.1,?_⟩;have:=h2.le;have:=r.2;simp only at*
  omega
 ·exact⟨ha,by show gQ a+3*p.at'<=3*p.at'+gQ a;omega⟩
def zA6(hL:iR L)(hl:L.length<=10000){ki:PS->fZ × PS}{ex un:PS->fo × PS}(hk:gF L ki)(he:gF L ex)(ne:kH L ex)(nu:kH L un):kH L (y5 L ki ex un):=λp hp=>by
 unfold y5;split
 ·rename_i c;have t:=(take_at c).1;have h1:=iF hL hp (s:=bs [45]);have n2:=nu _ h1.lt;refine⟨uA _ _ _ _ _ _ _ (zy n2.1) (by simp[ny]),?_⟩;rw[tu,z1];have:=n2.2;simp only at*
  omega
 split
 ·rename_i c;have t:=(take_at c).1;have h1:=iF hL hp (s:=r9);have n2:=nu _ h1.lt;refine⟨uA _ _ _ _ _ _ _ (zy n2.1) (by simp[ny]),?_⟩;rw[tu,z1];have:=n2.2;simp only at*
  omega
 ·have a:=zCE hL hl hk he ne p hp;have ta:=I8 hL hk he p hp;have r:=Nj hL he ne (L.length+1) (wJ L ki ex p).1 (wJ L ki ex p).2 ta.lt a.1;unfold Bu;exact⟨r.1,by simp only;omega⟩
def zFQ(hL:iR L)(hl:L.length<=10000){ki:PS->fZ × PS}(hk:gF L ki)(d:Nat):kH L (tN L ki d).1/\kH L (tN L ki d).2:=by
 induction d with
 |zero=>exact⟨λp hp=>⟨Ni,by show 1+3*p.at'<=3*p.at'+1;omega⟩,λp hp=>⟨Ni,by show 1+3*p.at'<=3*p.at'+1;omega⟩⟩
 | succ d ih=>
  have tm:=FE hL hk d;have dn:∀p:PS,p.at'<L.length->¬(ic L p).1=true->nH mZ/\gQ mZ+3*p.at'<=3*(ic L p).2.at'+1:=λp hp c=>by
   have:=(I6 (L:=L) hp).le;rw[I7 c];exact⟨Ni,by show 1+3*p.at'<=3*(x9 L p).at'+1;omega⟩
  have up:∀(f:PS->fo × PS),kH L f->∀p:PS,p.at'<L.length->(ic L p).1=true->nH (tL (f (ic L p).2)).1/\gQ (tL (f (ic L p).2)).1+3*p.at'<=3*(tL (f (ic L p).2)).2.at'+1:=λf nf p hp c=>by
   have hp':(ic L p).2.at'<L.length:=by rw[(y7 c).1];exact hp
   have r:=nf _ hp';have e:(ic L p).2.at'=p.at':=by rw[(y7 c).1]
   rw[e]at r;exact r
  rw[tN];refine⟨λp hp=>?_,λp hp=>?_⟩
  ·show nH (if(ic L p).1=true then _ else _:fo × PS).1/\gQ (if(ic L p).1=true then _ else _:fo × PS).1+3*p.at'<=3*(if(ic L p).1=true then _ else _:fo × PS).2.at'+1;by_cases c:(ic L p).1=true
   ·rw[aB c];exact up _ (zCC hL hk tm.1 ih.1 (zCD hL hk tm.2 ih.2)) p hp c
   ·rw[aA c];exact dn p hp c
  ·show nH (if(ic L p).1=true then _ else _:fo × PS).1/\gQ (if(ic L p).1=true then _ else _:fo × PS).1+3*p.at'<=3*(if(ic L p).1=true then _ else _:fo × PS).2.at'+1;by_cases c:(ic L p).1=true
   ·rw[aB c];exact up _ (zA6 hL hl hk tm.1 ih.1 ih.2) p hp c
   ·rw[aA c];exact dn p hp c
structure sH (d:ik):Prop where
 types:d.types.length=2
 vars:d.vars.length<=10001
 body:nH d.body
 size:gQ d.body<=30001
def Xd:∀(n:Nat) (l:List (di × fZ)) (p:PS),(xe L n l p).1.length<=l.length+n
|0,l,p=>by rw[xe];exact aK _
| n+1,l,p=>by
 rw[xe]
 split<;>split<;>first
  |(refine aj (Xd n _ _) ?_;simp only[aR,length_cons,length_nil];omega)
  |(simp only[aR,length_cons,length_nil];omega)
def zEa(hl:L.length<=10000)(p:PS):(xf L p).1.length<=10001:=by
 unfold xf;split
 ·have:=Xd (L:=L) (L.length+1) [] (gG L (bs [91]) p).2;simp only[length_nil]at this;omega
 ·simp
def zEb(hL:iR L)(hl:L.length<=10000)(p:PS)(hp:p.at'<L.length):sH (qd L p).1:=by
 have h1:=iF hL hp (s:=zZ);have h2:=h1.trans (iP hL h1.lt (s:=sP));have h3:=h2.trans (lS hL h2.lt);have h4:=h3.trans (Ie hL _ h3.lt);have h5:=h4.trans (Ai hL (xk hL) _ h4.lt);have h6:=h5.trans (iP hL h5.lt (s:=bs [61]));have n7:=(zFQ hL hl (xk hL) 102).1 _ h6.lt;have h7:=Ic hL _ h6.lt;have hh:=X9 (L:=L) (ki:=uP L) (xf L (iN L (iV L sP (gG L zZ p).2)).2).2;unfold qd;refine⟨?_,zEa hl _,n7.1,?_⟩
 ·simp only;split
  ·simp only[aR,length_cons,length_nil];omega
  ·omega
 ·have:=n7.2;have:=h7.lt;simp only[Dj]at*
  omega
def Xe(hL:iR L)(hl:L.length<=10000):∀(n:Nat) (l:List ik) (p:PS),p.at'<L.length->(∀d,d∈l->sH d)->∀d,d∈(qf L n l p).1->sH d
|0,l,p,hp,h,d,hd=>by rw[qf]at hd;exact h d hd
| n+1,l,p,hp,h,d,hd=>by
 rw[qf]at hd;split at hd
 ·refine Xe hL hl n _ _ (Lr hL p hp).lt (λx hx=>?_) d hd;rcases aU.1 hx with hx|hx
  ·exact h x hx
  ·simp only[aP]at hx;subst hx;exact zEb hL hl p hp
 ·exact h d hd
end
def zA7(s:di):∀d,d∈(pW s).1.decs->sH d:=λd hd=>by
 unfold pW at hd;simp only at hd;by_cases q1:(kX s).2.e=0
 ·obtain⟨hL,hl⟩:=JE q1;rw[aA (λz=>z q1)]at hd;split at hd
  ·cases hd
  ·have h0:ps0.at'<(kX s).1.length:=hL.pos;exact Xe hL hl _ _ _ (FJ hL _ _ _ h0).lt (λx hx=>by cases hx) d hd
 ·rw[aB q1]at hd;cases hd
def Nk(t:fZ):(xD t).size<=20000:=by
 unfold xD;split
 ·rename_i h;have a:=zh t false (xy h);have b:=Iw h;omega
 ·simp
def vE(l:List Tok):Prop:=∀t,t∈l->t.kind=1->t.text.size<=32
def zCK(l:List UInt8)(h:(iK l).e=0)(k:(iK l).kind=1):(iK l).text.length<=32:=by
 match l with
 |[]=>simp[iK,kF]at h
 | c ::r=>
  rw[iK]at h k⊢;split at h
  ·rename_i c1;rw[aB c1]at k⊢;split at h
   ·simp[kF]at h
   ·rename_i c2;rw[aA c2];simp only[bU];omega
  ·rename_i c1;rw[aA c1]at k;split at k
   ·split at k
    ·simp at k
    ·simp[kF]at k
   split at k
   ·split at k
    ·simp[kF]at k
    ·split at k
     ·simp[kF]at k
     ·simp at k
   split at k
   ·simp[kF]at k
   ·simp at k
def Xf:∀(n:Nat) (l:List UInt8) (a b:Int) (ts:List Tok),vE ts->vE (oF n l a b ts).1
|0,l,a,b,ts,h=>by rw[oF];exact h
| n+1,l,a,b,ts,h=>by
 rw[oF];simp only;split
 ·intro t ht k;rcases aU.1 ht with ht|ht
  ·exact h t ht k
  ·simp only[aP]at ht;subst ht;simp at k
 generalize l.drop (iB false l)=l' at*
 have go:(iK l').e=0->vE (oF n (l'.drop (iK l').len) (o8 (l.take (iB false l)) a b).1 ((o8 (l.take (iB false l)) a b).2+(iK l').len) (ts++[⟨(iK l').kind,bA (iK l').text,(o8 (l.take (iB false l)) a b).1,(o8 (l.take (iB false l)) a b).2⟩])).1:=λe0=>by
  refine Xf n _ _ _ _ ?_;intro t ht k;rcases aU.1 ht with ht|ht
  ·exact h t ht k
  ·simp only[aP]at ht;subst ht;simp only at k⊢;have:=zCK l' e0 k;show(bA (iK l').text).size<=32;rw[VN];exact this
 have nil:∀d:iA,vE (([]:List Tok),d).1:=λd t ht=>by cases ht
 by_cases q:(iK l').e=0/\ts.length=8192
 ·rw[aB q,aB (by decide)];exact nil _
 ·rw[aA q];by_cases e0:(iK l').e=0
  ·rw[aA (λz=>z e0)];exact go e0
  ·rw[aB e0];exact nil _
def zCL(s:di):vE (kX s).1:=by
 unfold kX;split
 ·intro t ht;cases ht
 ·exact Xf _ _ _ _ _ (λt ht=>by cases ht)
def zCM{L:List Tok}(h:vE L)(p:PS):(iN L p).1.size<=32:=by
 unfold iN;split
 ·rename_i c;have:gU L p∈L:=by
   unfold gU at c⊢;rw[aF]at c⊢;cases q:L[p.at']? with
   |none=>rw[q]at c;simp[wC]at c
   |some t=>exact aW q
  exact h _ this c.2
 ·simp
def Xg{L:List Tok}(h:vE L):∀(n:Nat) (l:List ik) (p:PS),(∀d,d∈l->d.name.size<=32)->∀d,d∈(qf L n l p).1->d.name.size<=32
|0,l,p,hl,d,hd=>by rw[qf]at hd;exact hl d hd
| n+1,l,p,hl,d,hd=>by
 rw[qf]at hd;split at hd
 ·refine Xg h n _ _ (λx hx=>?_) d hd;rcases aU.1 hx with hx|hx
  ·exact hl x hx
  ·simp only[aP]at hx;subst hx;unfold qd;exact zCM h _
 ·exact hl d hd
def zzX(s:di):∀d,d∈(pW s).1.decs->d.name.size<=32:=λd hd=>by
 unfold pW at hd;simp only at hd;split at hd
 ·cases hd
 split at hd
 ·cases hd
 ·exact Xg (zCL s) _ _ _ (λx hx=>by cases hx) d hd
def Xh:∀(l:List (di × di)) (i:Nat) (ns:List di) (ms:List ig) (bad:List iA),(∀m,m∈ms->∀d,d∈m.decs->sH d/\d.name.size<=32)->
 (∀m,m∈(qQ l i ns ms bad).1.2->∀d,d∈m.decs->sH d/\d.name.size<=32)
|[],i,ns,ms,bad,h=>by rw[qQ];exact h
| s::l,i,ns,ms,bad,h=>by
 rw[qQ];refine Xh l _ _ _ _ λm hm=>?_;rcases aU.1 hm with hm|hm
 ·exact h m hm
 ·simp only[aP]at hm;subst hm;exactλd hd=>⟨zA7 s.2 d hd,zzX s.2 d hd⟩
def Xi:∀(l:List (di × di)) (i:Nat) (ns:List di) (ms:List ig) (bad:List iA),bad.length<=(qQ l i ns ms bad).2.length/\((qQ l i ns ms bad).2.length=0->(∀n,n∈ns->n.size<=32)->∀n,n∈(qQ l i ns ms bad).1.1->n.size<=32)
|[],i,ns,ms,bad=>by rw[qQ];exact⟨aK _,λ_ h=>h⟩
| s::l,i,ns,ms,bad=>by
 rw[qQ];have r:=Xi l (i+1) (ns++[s.1]) (ms++[(pW s.2).1]) (if mJ s.1=false then bad++[⟨i,1,1,10⟩]else if 0<=jU ns s.1 then bad++[⟨i,1,1,8⟩]else if(pW s.2).2.e≠0 then bad++[⟨i,(pW s.2).2.line,(pW s.2).2.col,(pW s.2).2.e⟩]else bad);by_cases c:mJ s.1=false
 ·rw[aB c]at r⊢;have:=r.1;rw[aR]at this;simp only[length_cons,length_nil]at this;exact⟨by omega,λq=>by omega⟩
 ·refine⟨aj ?_ r.1,λq h=>r.2 q λn hn=>?_⟩
  ·rw[aA c];split
   ·simp
   split
   ·simp
   ·exact aK _
  ·rcases aU.1 hn with hn|hn
   ·exact h n hn
   ·simp only[aP]at hn;subst hn;exact Mo (by simpa using c)
def qj(ms:List ig)(e:iO):Prop:=0<=e.module/\e.module<ms.length/\0<=e.decl/\e.decl<(ms.getD e.module.toNat oG).decs.length
def EB{α:Type}(q:α->Bool)(l:List α):fi q 0 l= -1\/(0<=fi q 0 l/\fi q 0 l<l.length):=by
 have:=F8 q 0 l;omega
def JK(ms:List ig)(m i:Int)(h0:0<=m)(h1:m<ms.length)(x:jO):∀(l:List di) (sc:List iO) (bad:List iA),(∀e,e∈sc->qj ms e)->∀e,e∈(oH (ms.getD m.toNat oG) m i x l sc bad).1->qj ms e
|[],sc,bad,h=>by rw[oH];exact h
| s::l,sc,bad,h=>by
 rw[oH];split
 ·exact JK ms m i h0 h1 x l _ _ h
 rename_i c;split
 ·exact JK ms m i h0 h1 x l _ _ h
 refine JK ms m i h0 h1 x l _ _ λe he=>?_;rcases aU.1 he with he|he
 ·exact h e he
 ·simp only[aP]at he;subst he;have a:=EB (λd:ik=>decide (d.name=s)) (ms.getD m.toNat oG).decs;have b:¬sQ (ms.getD m.toNat oG) s<0:=λz=>c (.inl z);unfold sQ at b;unfold qj sQ;simp only;omega
def Xj(ns:List di)(ms:List ig)(hn:ns.length=ms.length)(i:Int):∀(l:List jO) (sc:List iO) (bad:List iA),(∀e,e∈sc->qj ms e)->∀e,e∈(yh ns ms i l sc bad).1->qj ms e
|[],sc,bad,h=>by rw[yh];exact h
| x::l,sc,bad,h=>by
 rw[yh];refine Xj ns ms hn i l _ _ ?_;unfold xF;split
 ·exact h
 ·rename_i c;have a:=EB (λn=>decide (n=x.from_)) ns;unfold jU at c⊢;exact JK ms _ i (by omega) (by omega) x _ _ _ h
def Nl(ms:List ig)(i:Nat)(hi:i<ms.length):∀(l:List ik) (k:Nat) (sc:List iO) (bad:List iA),k+l.length<=(ms.getD i oG).decs.length->(∀e,e∈sc->qj ms e)->∀e,e∈(xn i l k sc bad).1->qj ms e
|[],k,sc,bad,hk,h=>by rw[xn];exact h
| d::l,k,sc,bad,hk,h=>by
 rw[xn];simp only[length_cons]at hk;split
 ·exact Nl ms i hi l (k+1) _ _ (by omega) h
 refine Nl ms i hi l (k+1) _ _ (by omega) λe he=>?_;rcases aU.1 he with he|he
 ·exact h e he
 ·simp only[aP]at he;subst he;unfold qj;simp only[bJ];omega
def Xk(ns:List di)(ms:List ig)(hn:ns.length=ms.length):∀(l:List ig) (i:Nat) (all:List (List iO)) (bad:List iA),l=ms.drop i->all.length=i->i<=ms.length->(∀sc,sc∈all->∀e,e∈sc->qj ms e)->
 (uQ ns ms l i all bad).1.length=ms.length/\∀sc,sc∈(uQ ns ms l i all bad).1->∀e,e∈sc->qj ms e
|[],i,all,bad,hl,ha,hi,h=>by
 rw[uQ];have:(ms.drop i).length=0:=by rw[<-hl];try rfl
 rw[dD]at this;exact⟨by simp only;omega,h⟩
| m::l,i,all,bad,hl,ha,hi,h=>by
 have hlt:i<ms.length:=by
  by_cases q:i<ms.length
  ·exact q
  ·rw[drop_eq_nil_of_le (by omega)]at hl;cases hl
 rw[aG hlt]at hl;have h1:=(List.cons.inj hl).1;have h2:=(List.cons.inj hl).2;have hm:ms.getD i oG=m:=by rw[aF,aD hlt,h1];try rfl
 rw[uQ];refine Xk ns ms hn l (i+1) _ _ h2 (by simp;omega) (by omega) λsc hsc=>?_;rcases aU.1 hsc with hsc|hsc
 ·exact h sc hsc
 ·simp only[aP]at hsc;subst hsc;exact Nl ms i hlt m.decs 0 _ _ (by rw[hm];omega) (Xj ns ms hn i m.imps [] bad λe he=>by cases he)
structure kr (L:gq):Prop where
 good:nN L
 decs:∀m,m∈L.mods->∀d,d∈m.decs->sH d
 decNames:∀m,m∈L.mods->∀d,d∈m.decs->d.name.size<=32
 modNames:∀n,n∈L.names->n.size<=32
 small:∀m,m∈L.mods->kz m
 main:jX L ⟨bs [],L.main.module,L.main.decl⟩
def Fx(l:List (di × di))(h:(qz l).2.length=0):kr (qz l).1:=by
 have hs:=Vv l [];have hg:∀m,m∈(tX l).1.2->∀d,d∈m.decs->sH d/\d.name.size<=32:=by
  unfold tX;split
  ·intro m hm;cases hm
  ·exact Xh l 0 [] [] [] λm hm=>by cases hm
 have hb:(tX l).2.length=0->∀n,n∈(tX l).1.1->n.size<=32:=by
  unfold tX;split
  ·intro q;simp at q
  ·exactλq=>(Xi l 0 [] [] []).2 q λn hn=>by cases hn
 unfold qz at h⊢;simp only at h⊢;generalize tX l=f at*
 have hn:f.1.1.length=f.1.2.length:=hs.2.1;have s1:=Xk f.1.1 f.1.2 hn f.1.2 0 [] [] (by simp) rfl (by omega) (λsc hsc=>by cases hsc);generalize uQ f.1.1 f.1.2 f.1.2 0 [] []=s at*
 generalize ym f.1.1 f.1.2 f.1.2 0 []=t at*
 by_cases c1:0<f.2.length
 ·rw[aB c1]at h;simp only at h;omega
 rw[aA c1]at h⊢;by_cases c2:0<s.2.length
 ·rw[aB c2]at h;simp only at h;omega
 rw[aA c2]at h⊢;by_cases c3:0<t.length
 ·rw[aB c3]at h;simp only at h;omega
 rw[aA c3]at h⊢;by_cases c4:jU f.1.1 uk<0
 ·rw[aB c4]at h;simp at h
 rw[aA c4]at h⊢;by_cases c5:sQ (f.1.2.getD (jU f.1.1 uk).toNat oG) uk<0
 ·rw[aB c5]at h;simp at h
 rw[aA c5]at h⊢;split
 ·rename_i c6;rw[aB c6]at h;simp at h
 have a:=EB (λn=>decide (n=uk)) f.1.1;have b:=EB (λd:ik=>decide (d.name=uk)) (f.1.2.getD (jU f.1.1 uk).toNat oG).decs;refine⟨⟨hs.1,hn,s1.1,λm hm d hd=>⟨(hg m hm d hd).1.types,by have:=(hg m hm d hd).1.vars;omega⟩,λsc hsc e he=>?_⟩,λm hm d hd=>(hg m hm d hd).1,λm hm d hd=>(hg m hm d hd).2,hb (by omega),hs.2.2,?_⟩
 ·have:=s1.2 sc hsc e he;exact⟨this.1,this.2.1,this.2.2.1,this.2.2.2⟩
 ·unfold jU at c4 c5 b⊢;unfold sQ at c5⊢;refine⟨?_,?_,?_,?_⟩<;>simp only<;>omega
end Go.Gr
namespace Go.Gr
open Go.Abs Go.Proofs
def fb(s:CS):List kJ × List iA × Int:=(s.funs,s.bad,s.main)
@[simp] theorem JL(a b e:Int)(s:CS):fb (kL a b e s)=fb s:=by unfold kL;split<;>rfl
@[simp] theorem Au(t:fZ)(a b:Int)(s:CS):fb (iZ t a b s).2=fb s:=by unfold iZ;simp only;split<;>simp
@[simp] theorem Fy(t:fZ)(a b:Int)(s:CS):fb (nR t a b s).2=fb s:=by unfold nR;simp only;split<;>simp
@[simp] theorem zIc(x:fw)(t u:fZ)(a b:Int)(s:CS):fb (lH x t u a b s).2=fb s:=by unfold lH;split<;>rfl
@[simp] theorem JM(x:fw)(t u:fZ)(a b:Int)(s:CS):fb (jw x t u a b s).2=fb s:=by
 unfold jw;split
 ·rfl
 split
 ·rfl
 split<;>simp
@[simp] theorem zIj(u:fZ)(a b:Int)(x:(fw × fZ) × CS):fb (jV u a b x).2=fb x.2:=by unfold jV;split<;>simp
@[simp] theorem zFs(a b:Int):∀(ts l:List fZ) (s:CS),fb (pG a b ts l s).2=fb s
|[],l,s=>by rw[pG]
|t::ts,l,s=>by
 rw[pG];split
 ·rfl
 ·rw[zFs a b ts];simp
@[simp] theorem zIk(s:CS)(t:List jR):fb {s with tab:=t}=fb s:=rfl
section
variable (L:gq)
@[simp] theorem zHQ(a b:Int)(e:iO)(l:List fZ)(s:CS):fb (p8 L a b e l s).2=fb s:=by
 unfold p8;split
 ·simp
 ·simp only;split<;>simp
def iy(i:Inf):Prop:=∀env s,fb (i env s).2=fb s
def Nn(n:fo){i:Inf}(h:iy i)(t:fZ)(env:Env)(s:CS):fb (lg n i t env s).2=fb s:=by unfold lg;simp[h env s]
def zFt(n:fo):iy (sS L n):=λenv s=>by
 unfold sS;simp only;repeat' split
 all_goals simp
def zHE(n a:fo){ia ib:Inf}(ha:iy ia)(hb:iy ib):iy (nS n a ia ib):=λenv s=>by
 unfold nS;simp only;split<;>simp[ha _ _,hb _ _]
def Np(n a:fo){ia:Inf}(ha:iy ia):iy (ul n a ia):=λenv s=>by
 unfold ul;simp only;repeat' split
 all_goals simp[ha _ _]
def zGI(n b:fo){ia ib:Inf}(ha:iy ia)(hb:iy ib):iy (um n b ia ib):=λenv s=>by
 unfold um;simp only;repeat' split
 all_goals simp[ha _ _,hb _ _]
def zHF(n:fo){ia:Inf}(ha:iy ia):iy (nT n ia):=λenv s=>by
 unfold nT;simp only;repeat' split
 all_goals simp[ha _ _]
def zGJ(n:fo){ia ib:Inf}(ha:iy ia)(hb:iy ib):iy (uo n ia ib):=λenv s=>by
 unfold uo;simp only;repeat' split
 all_goals simp[ha _ _,hb _ _]
def Nq(q a b:fo){iq ia ib:Inf}(hq:iy iq)(ha:iy ia)(hb:iy ib):iy (uq q a b iq ia ib):=λenv s=>by
 unfold uq;simp[hq _ _,ha _ _,hb _ _]
def Nr(n:fo){ia:Inf}(ha:iy ia):iy (ut n ia):=λenv s=>by
 unfold ut;simp only;repeat' split
 all_goals simp[ha _ _]
def Ns(n a b:fo){ia ib:Inf}(ha:iy ia)(hb:iy ib):iy (opC n a b ia ib):=λenv s=>by
 unfold opC;simp only;repeat' split
 all_goals simp[Nn _ ha,Nn _ hb,ha _ _,hb _ _]
def zHG(n a:fo){ia:Inf}(ha:iy ia):iy (nC n a ia):=λenv s=>by
 unfold nC;repeat' split
 all_goals simp[Nn _ ha,ha _ _]
def Xl:∀(l:List fo),(∀x,x∈l->iy (iE L x))->∀env s,fb (lM L l env s).2=fb s
|[],_,env,s=>by rw[lM]
|n::l,h,env,s=>by
 rw[lM];simp only;rw[Xl l (λx hx=>h x (by simp[hx])),h n (by simp) env s]
def zHH(n:fo)(h:∀x,x∈n.kids->iy (iE L x)):iy (oI n (lM L n.kids)):=λenv s=>by
 unfold oI;simp only;rw[Fy,Xl L n.kids h];split<;>simp
def JN{j:Inf}(h:iy j):iy (jl j):=λenv s=>by
 unfold jl;split
 ·rfl
 ·exact h env s
def JO(n:fo){rest:Inf}(hr:iy rest)(h:∀x,x∈n.kids->iy (iE L x)):iy (nX L n rest):=λenv s=>by
 unfold nX;split
 ·rfl
 split
 ·rfl
 split
 ·rfl
 split
 ·rfl
 split
 ·rfl
 split
 ·exact zFt L n env s
 split
 ·exact zHH L n h env s
 ·exact hr env s
def zDR(n:fo)(h:∀x,x∈n.kids->iy (iE L x)):iy (iE L n):=by
 obtain⟨k,tx,nn,ln,cl,ts,ns,ks⟩:=n
 match ks,h with
 |[],h=>rw[Fv];exact JN (JO L _ (λenv s=>rfl) h)
 |[a],h=>
  have ha:=h a (by simp[fo.kids]);rw[yw];refine JN (JO L _ (λenv s=>?_) h);unfold yu;split
  ·exact Np _ _ ha env s
  split
  ·exact zHF _ ha env s
  split
  ·exact Nr _ ha env s
  ·exact zHG _ _ ha env s
 |[a,b],h=>
  have ha:=h a (by simp[fo.kids]);have hb:=h b (by simp[fo.kids]);rw[zx];refine JN (JO L _ (λenv s=>?_) h);unfold zw;split
  ·exact zHE _ _ ha hb env s
  split
  ·exact zGI _ _ ha hb env s
  split
  ·exact zGJ _ ha hb env s
  ·exact Ns _ _ _ ha hb env s
 |a::b::c::l,h=>
  rw[EA];exact JN (JO L _ (Nq a b c (h a (by simp[fo.kids])) (h b (by simp[fo.kids])) (h c (by simp[fo.kids]))) h)
mutual
def Fz:∀n:fo,iy (iE L n)
|.mk k tx nn ln cl ts ns ks=>zDR L _ (Xm ks)
def Xm:∀l:List fo,∀x,x∈l->iy (iE L x)
|[],x,hx=>by cases hx
|n::l,x,hx=>by
 rcases aS.1 hx with e|hx
 ·rw[e];exact Fz n
 ·exact Xm l x hx
end
end
def zGb(l:List (di × di)):fu Pg 8 [.one (.sl false 2 (l.map kZ))] (.one (.bool (decide (l.length<=20)&&pI l 0))):=by
 refine zCu (by simp) λo c hN hp=>?_;obtain⟨R,hR⟩:∃R,(decide (l.length<=20)&&pI l 0)=R:=⟨_,rfl⟩
 rw[hR];unfold XB;simp;apply fM<;>intro h
 ·have h:¬l.length<=20:=by simp at h;omega
  simp[h]at hR;simp[hR]
 have h:l.length<=20:=by simp at h;omega
 simp[h]at hR;refine eP gD hp (λY:Nat × Nat=>Y.1<=l.length/\Y.2<=70000/\pI (l.drop Y.1) Y.2=R) (λY=>[(4,.c (.d (.int .i64 Y.1))),(3,.c (.d (.int .i64 Y.2))),(0,.c (.d (.sl false 2 (l.map kZ))))]) (λ_=>[]) (λY=>l.length-Y.1) (0,0) [] ⟨by simp,by simp,by simpa using hR⟩ (by simp) λ⟨j,n⟩ ⟨i1,i2,i3⟩=>?_;unfold XA;simp only at i1 i2 i3;simp;apply fM<;>intro h
 ·have hj:j<l.length:=by simpa using h
  obtain⟨s,hs⟩:∃s,l[j]=s:=⟨_,rfl⟩
  rw[aG hj,hs,pI]at i3;have hw:=wI (n:=(j:Int)+1);have hw2:=wI (n:=(70000:Int)-n);by_cases c1:(70000:Int)-n<s.2.size
  ·rw[aB (.inl c1)]at i3;simp[hj,hs,hw2,c1,<-i3]
  by_cases c2:(1000:Int)<s.1.size
  ·rw[aB (.inr (by omega))]at i3;simp[hj,hs,hw2,c1,c2,<-i3]
  rw[aA (λz=>z.elim c1 (λz=>c2 (by omega)))]at i3;have hw3:=wI (n:=(n:Int)+s.2.size);simp[hj,hs,hw2,c1,c2];refine dm (j+1,n+s.2.size) [] ⟨by simp only;omega,by simp only;omega,by simpa using i3⟩ (by simp only;omega) ?_;simp[hw,hw3]
 ·have hj:j=l.length:=by simp at h;omega
  subst hj;rw[aQ,pI]at i3;simp[<-i3]
end Go.Gr
namespace Go.Gr
open Go.Abs Go.Proofs List
def EC{L:gq}(hG:kr L){m k:Int}(h:jX L ⟨bs [],m,k⟩):sH (qD L m k)/\(qD L m k).name.size<=32:=by
 obtain⟨mn,kn,M,e1,e2,g1,g2,_⟩:=Dy hG.good h;exact⟨hG.decs M (aW g1) _ (aW g2),hG.decNames M (aW g1) _ (aW g2)⟩
structure vF (L:gq) (s:CS) (i:Nat):Prop where
 tab:s.tab.length<=256
 ist:∀x,x∈s.tab->jX L ⟨bs [],x.module,x.decl⟩/\x.types.length<=1000000
 sites:s.sites.length+(257-i)*240009<=1000000000
 funs:s.funs.length<=i
 bad:s.bad.length<=i
def rH(L:gq)(x:jR)(s0:CS):CS:={s0 with module:=x.module,vars:=(qD L x.module x.decl).vars.map (·.1),wth:=x.types,e:=0}
theorem Xn{L:gq}{x:jR}(hx:jX L ⟨bs [],x.module,x.decl⟩)(hxt:x.types.length<=1000000){s:CS}{i:Nat}(hi:i<257)(h:vF L s i):kV L (rH L x s) (8*30001+1+(257-(i+1))*240009):=by
 have a:=h.sites;have b:=h.funs;have c:=h.bad;refine⟨hxt,?_,h.tab,hx.m0,hx.m1,⟨?_,?_⟩,h.ist⟩
 ·have e:(rH L x s).sites=s.sites:=rfl;have q:s.sites.length+(8*30001+1+(257-(i+1))*240009)<=1000000000:=by
   obtain⟨k,hk⟩:∃k,257-i=k+1:=⟨256-i,by omega⟩
   have hk2:257-(i+1)=k:=by omega
   rw[hk]at a;rw[hk2,show 8*30001+1=240009 from rfl];clear h hx hxt;generalize s.sites.length=n at*
   omega
  simp only[e];exact q
 ·have e:(rH L x s).funs=s.funs:=rfl;simp only[e];omega
 ·have e:(rH L x s).bad=s.bad:=rfl;simp only[e];omega
theorem GA{L:gq}(hG:kr L){x:jR}(hx:jX L ⟨bs [],x.module,x.decl⟩)(hxt:x.types.length<=1000000){s:CS}{i:Nat}(hi:i<257)(h:vF L s i):vF L (kP L x s) (i+1):=by
 have hd:=(EC hG hx).1;have p0:=Xn hx hxt hi h;have f0:fb (rH L x s)=fb s:=rfl;have hf:=h.funs;have hb:=h.bad;unfold kP;unfold rH at p0 f0;simp only;generalize qD L x.module x.decl=d at*
 generalize ({s with module:=x.module,vars:=d.vars.map (·.1),wth:=x.types,e:=0}:CS)=s0 at*
 have p1:=vS p0 (d.types.getD 0 noT) d.line d.col;have f1:=Au (d.types.getD 0 noT) d.line d.col s0;generalize iZ (d.types.getD 0 noT) d.line d.col s0=r1 at*
 have p2:=vS p1.1 (d.types.getD 1 noT) d.line d.col;have f2:=Au (d.types.getD 1 noT) d.line d.col r1.2;generalize iZ (d.types.getD 1 noT) d.line d.col r1.2=r2 at*
 obtain⟨T,hT⟩:∃T,(if r2.2.e=0 then nR (jG r1.1 r2.1) d.line d.col r2.2 else(jG r1.1 r2.1,r2.2))=T:=⟨_,rfl⟩
 have p3:kV L T.2 (8*30001+1+(257-(i+1))*240009)/\fb T.2=fb r2.2:=by
  rw[<-hT];split
  ·exact⟨(Ff p2.1 _ _ _).1,Fy _ _ _ _⟩
  ·exact⟨p2.1,rfl⟩
 rw[hT];clear hT;obtain⟨S,hS⟩:∃S,(if x.module=L.main.module/\x.decl=L.main.decl/\uj (bT 1) r1.1=false then kL d.line d.col 14 T.2 else T.2)=S:=⟨_,rfl⟩
 have p4:kV L S (8*30001+1+(257-(i+1))*240009)/\fb S=fb T.2:=by
  rw[<-hS];split
  ·exact⟨vB p3.1 _ _ _,JL _ _ _ _⟩
  ·exact⟨p3.1,rfl⟩
 rw[hS];clear hS;have hne:qi [(d.param,r1.1)] (gQ d.body):=⟨by have:=hd.size;simp only[length_cons,length_nil];omega,λv hv=>by simp only[aP]at hv;subst hv;exact p1.2⟩
 have p5:=(Ng L hG.good d.body hd.body).2 [(d.param,r1.1)] S (1+(257-(i+1))*240009) hne (p4.1.less (by have:=hd.size;omega));have f5:=Fz L d.body [(d.param,r1.1)] S;generalize iE L d.body [(d.param,r1.1)] S=y at*
 have p6:=wW (b:=(257-(i+1))*240009) (p5.1.less (by omega)) y.1.1 y.1.2 r2.1 d.body.line d.body.col;have f6:=JM y.1.1 y.1.2 r2.1 d.body.line d.body.col y.2;generalize jw y.1.1 y.1.2 r2.1 d.body.line d.body.col y.2=z at*
 have f:fb z.2=fb s:=by rw[f6,f5,p4.2,p3.2,f2,f1,f0]
 have g1:z.2.funs=s.funs:=bu (·.1) f;have g2:z.2.bad=s.bad:=bu (·.2.1) f;split
 ·exact⟨p6.tab,p6.ist,p6.sites,by simp[g1];omega,by simp[g2];omega⟩
 ·exact⟨p6.tab,p6.ist,p6.sites,by simp[g1];omega,by show z.2.bad.length<=_;rw[g2];omega⟩
def Nt{L:gq}(i:Nat)(hi:i<L.mods.length):∀(l:List ik) (k:Nat) (s:CS),k+l.length<=(L.mods.getD i oG).decs.length->vF L s 0->vF L (qh L i l k s).1 0
|[],k,s,hk,h=>by rw[qh];exact h
| d::l,k,s,hk,h=>by
 simp only[length_cons]at hk;rw[qh];split
 ·exact Nt i hi l (k+1) s (by omega) h
 have hx:∀x,x∈(jq 256 s.tab ⟨i,k,[]⟩).2->jX L ⟨bs [],x.module,x.decl⟩/\x.types.length<=1000000:=λx hx=>by
  rcases NU hx with hx|hx
  ·exact h.ist x hx
  ·subst hx;exact⟨⟨by simp only;omega,by simp only;omega,by simp only;omega,by simp only[bJ];omega⟩,by simp⟩
 simp only;split
 ·exact⟨JI h.tab _,hx,h.sites,h.funs,h.bad⟩
 ·exact Nt i hi l (k+1) _ (by omega) ⟨JI h.tab _,hx,h.sites,h.funs,h.bad⟩
def JP{L:gq}:∀(l:List ig) (i:Nat) (s:CS),l=L.mods.drop i->vF L s 0->vF L (lh L l i s).1 0
|[],i,s,hl,h=>by rw[lh];exact h
| m::l,i,s,hl,h=>by
 have hlt:i<L.mods.length:=by
  by_cases q:i<L.mods.length
  ·exact q
  ·rw[drop_eq_nil_of_le (by omega)]at hl;cases hl
 rw[aG hlt]at hl;have h1:=(List.cons.inj hl).1;have hm:L.mods.getD i oG=m:=by rw[aF,aD hlt,h1];try rfl
 have r:=Nt i hlt m.decs 0 s (by rw[hm];omega) h;rw[lh];split
 ·exact r
 ·exact JP l (i+1) _ (List.cons.inj hl).2 r
section
variable (L:gq)
abbrev ck9(s:CS):List Blk:=[tq L s 6 7 8,wU 256 s.tab.length 9,.dead,.dead,.dead,.dead,qG s.funs,qH s.sites,lV s.bad,nW s.tab]
def Xo(l:List fZ)(i:Nat)(s:di)(h:i<l.length):ry (l.drop i) i s=ry (l.drop (i+1)) (i+1) (s++(if i=0 then bs [91]else bs [44,32])++xD l[i]):=by
 rw[aG h,ry]
abbrev Nu(L:gq)(s:CS)(vD wD:D)(tb a b d:Nat):Blk:=.box [.d (.sl false 1 (encS L.names)),.d (.sl false 2 (L.mods.map ig.enc)),.d (.sl false 1 (L.scopes.map qF)),.d (.str L.main.name),.d (.int .i64 L.main.module),.d (.int .i64 L.main.decl),.ptr tb 0,.msl 13 a 0 s.funs.length,.d (.int .i64 s.main),.msl 3 b 0 s.sites.length,.msl 4 d 0 s.bad.length,.d (.int .i64 s.module),.d vD,.d wD,.d (.int .i64 s.e),.d (.int .i64 s.line),.d (.int .i64 s.col)]
abbrev ck5(L:gq)(s:CS)(vD wD:D):List Blk:=[Nu L s vD wD 1 2 3 4,wU 256 s.tab.length 5,qG s.funs,qH s.sites,lV s.bad,nW s.tab]
theorem Xp(a b:Int):(fo.mk 0 (bs []) 0 a b [] [] []).enc=[.int .i64 0,.str (bs []),.int .i64 0,.int .i64 a,.int .i64 b,.sl false 4 [],.sl false 1 [],.sl false 8 []]:=rfl
@[simp] theorem cut_body(d:ik):cut (d.enc.map AC.d) 5 8=d.body.enc.map AC.d:=by
 obtain⟨a,b,c,e,f,g,h,i⟩:=d;cases g;rfl
abbrev Xq(z:di):List AC:=[.d (.str z),.d (.int .i64 0),.d (.str (bs [])),.d (.sl true 1 []),.d (.sl true 4 []),.d (.int .i64 0),.d (.int .i64 0),.d (.str (bs [])),.d (.sl true 1 []),.d (.sl true 1 []),.d (.sl true 4 []),.d (.sl true 5 []),.d (.sl true 8 [])]
def JQ(z:di)(T:fZ):13<=(splice (Xq z) 1 (T.enc.map AC.d)).length:=by
 rw[zG];exact aK _
def JR(z:di)(T:fZ)(b:fw):put (splice (Xq z) 1 (T.enc.map AC.d)) 5 (b.enc.map AC.d)=(kJ.enc ⟨z,T,b⟩).map AC.d:=by
 unfold kJ.enc;rw[T.enc_eq,b.enc_eq];try rfl
abbrev GD(L:gq)(s:CS)(P:List Blk)(d:ik)(a b T:fZ)(E:List Blk):List Blk:=qI L s++(P++[.box (d.enc.map .d),.box [.d (.int .i64 0),.d (.str (bs [])),.d (.int .i64 0),.d (.int .i64 d.line),.d (.int .i64 d.col),.d (.sl true 4 []),.d (.sl true 1 []),.d (.sl true 8 [])],.box (a.enc.map .d),.box (b.enc.map .d),.dead,.box (T.enc.map .d)]++E)
def St.cut{F:St->Prop}{t:List (Nat × AV)}{m:Hp}{n:Nat}(ts:List (Nat × AV))(bs:List Blk)(ht:∀p,p∈ts->Abs.look t p.1=p.2)(hm:∀i,m i=hpOf bs i)(h:∀T,(∀p,p∈ts->Abs.look T p.1=p.2)->F ⟨T,hpOf bs,n⟩):F ⟨t,m,n⟩:=by
 have e:m=hpOf bs:=funext hm;subst e;exact h t ht
abbrev GG(X:jR)(j:Nat)(z:di):List (Nat × AV):=[(13,.c (.d (.int .i64 j))),(12,.c (.d (.str z))),(10,.c (.ptr 7 0)),(8,.c (.ptr 6 0)),(3,.c (.d (.rp X.enc 0))),(0,.c (.ptr 0 0))]
abbrev GH(L:gq)(s:CS)(P:List Blk)(T:fZ)(z:fw):List Blk:=[tq L s 2 8 3,wU 256 s.tab.length 9,qG s.funs,lV s.bad]++(P++[.box (T.enc.map .d),.box (z.enc.map .d),qH s.sites,nW s.tab])
def zxQ(hF:kr L)(X:jR)(hX:jX L ⟨bs [],X.module,X.decl⟩)(hXt:X.types.length<=1000000)(s0:CS)(vD wD:D)(k:Nat)(hs:kV L (rH L X s0) (8*30001+1+k)):
  MCall Pg 20 [.c (.ptr 0 0),.ag (X.enc.map .d)] (ck5 L s0 vD wD) (.tup []) (ck9 L (kP L X s0)):=by
 refine zvo lY λts hts ok hbk c hN hp=>?_;obtain⟨t,u,v,w,x,y,rfl⟩:=lq hts;have hdG:=(EC hF hX).1;have hdn:=(EC hF hX).2;obtain⟨mn,kn,M,e1,e2,g1,g2,hd⟩:=Dy hF.good hX;have hb1:=kU 1;unfold kP;unfold rH at hs;simp only;generalize hdd:qD L X.module X.decl=d at*
 have hv:=XP d hd.vars;obtain⟨ta,tb,hty⟩:=NT hd.types;have e3:d.types.getD 0 noT=ta:=by rw[hty];try rfl
 have e4:d.types.getD 1 noT=tb:=by rw[hty];try rfl
 rw[e3,e4];obtain⟨s,hss⟩:∃s:CS,{s0 with module:=X.module,vars:=d.vars.map (·.1),wth:=X.types,e:=0}=s:=⟨_,rfl⟩
 have m1:=CQ L ta d.line d.col s (by rw[<-hss]at*;exact hs.wth);rw[hss]at hs⊢;have p1:=vS hs ta d.line d.col;generalize iZ ta d.line d.col s=r1 at*
 have m2:=CQ L tb d.line d.col r1.2 p1.1.wth;have p2:=vS p1.1 tb d.line d.col;generalize iZ tb d.line d.col r1.2=r2 at*
 unfold Wu;have b0:qI L s=qI L {s0 with module:=X.module,vars:=d.vars.map (·.1),wth:=X.types,e:=0}:=by rw[hss]
 rw[b0]at m1;simp[e1,e2,g1,g2];refine⟨by decide,?_⟩;refine fU hv ?_;simp[hty];refine fP [0,1,2,3,4,5] m1 (by simp[e1]) ?_;simp[hty];refine⟨by decide,?_⟩;refine fO [0,1,2,3,4,5] m2 ?_;simp;refine⟨by decide,?_⟩;have hfits:=Vi (bT 1) r1.1;generalize uj (bT 1) r1.1=ft at*
 have mm:=MCall.erd (args:=[.c (.ptr 0 0),.ag [.d (.int .i64 6),.d (.str (bs [])),.d (.sl true 1 []),.d (.sl false 4 [r1.1.enc,r2.1.enc])],.ag [.d (.int .i64 0),.d (.str (bs [])),.d (.int .i64 0),.d (.int .i64 d.line),.d (.int .i64 d.col),.d (.sl true 4 []),.d (.sl true 1 []),.d (.sl true 8 [])]]) (CR L (jG r1.1 r2.1) (.mk 0 (bs []) 0 d.line d.col [] [] []) r2.2) (by simp[AV.erds,AV.erd,AC.erd,D.erd,D.erdL,D.erdE,jG,sG,mW,uy,encS,fo.enc,fo.encs,Xp]);simp only[fo.line,fo.col]at mm;have pm:=Ff p2.1 (jG r1.1 r2.1) d.line d.col;have fin:∀q:CS,kV L q (8*30001+1+k)->MCall Pg 44 [.c (.ptr 0 0),.ag [.d (.int .i64 0),.d (.str (bs [])),.d (.int .i64 0),.d (.int .i64 d.line),.d (.int .i64 d.col),.d (.sl true 4 []),.d (.sl true 1 []),.d (.sl true 8 [])],.c (.d (.int .i64 14))] (qI L q) (.tup []) (qI L (kL d.line d.col 14 q))/\kV L (kL d.line d.col 14 q) (8*30001+1+k):=λq hq=>⟨MCall.erd (uX L (.mk 0 (bs []) 0 d.line d.col [] [] []) 14 q) (by simp[AV.erds,AV.erd,AC.erd,D.erd,D.erdL,D.erdE,encS,Xp]),vB hq _ _ _⟩
 have hne:qi [(d.param,r1.1)] (gQ d.body):=⟨by have:=hdG.size;simp;omega,λv hv=>by simp at hv;subst hv;exact p1.2⟩
 have hi:=Ng L hF.good d.body hdG.body;have minf:∀q:CS,kV L q (8*30001+1+k)->MCall Pg 45 [.c (.ptr 0 0),.ag (d.body.enc.map .d),.c (.d (.sl true 5 [.str d.param::r1.1.enc]))] (qI L q) (Fg (iE L d.body [(d.param,r1.1)] q).1.1 (iE L d.body [(d.param,r1.1)] q).1.2) (JH L (iE L d.body [(d.param,r1.1)] q).2)/\kV L (iE L d.body [(d.param,r1.1)] q).2 (1+k):=λq hq=>⟨MCall.erd (hi.1 [(d.param,r1.1)] q (1+k) hne (hq.less (by have:=hdG.size;omega))) (by simp[AV.erds,AV.erd,AC.erd,D.erd,D.erdL,D.erdE,iI]),(hi.2 [(d.param,r1.1)] q (1+k) hne (hq.less (by have:=hdG.size;omega))).1⟩
 have hnm:∃nm,L.names.getD X.module.toNat (bs [])=nm/\L.names[mn]?=some nm:=by
  rw[e1];simp only[bJ];have:mn<L.names.length:=by have:=hF.good.names;have:=hX.m1;simp only at this;omega
  exact⟨L.names[mn],by rw[aF,aD this];rfl,aD this⟩
 obtain⟨nm,hnm1,hnm2⟩:=hnm;have hnz:=hF.modNames nm (aW hnm2);rw[hnm1];obtain⟨R,hR⟩:∃R,ry X.types 0 (nm++bs [46]++d.name)=R:=⟨_,rfl⟩
 rw[hR];by_cases q0:r2.2.e=0
 ·rw [aB q0];generalize nR (jG r1.1 r2.1) d.line d.col r2.2=T at*
  simp[q0];refine eU [16] ?_;simp[jT];refine fP [0,1,2,3,4,5] mm (by simp[q0]) ?_;simp;refine eY [] ?_;simp;refine fU hb1 ?_;simp;refine fU hfits ?_;simp;refine⟨by decide,?_⟩;refine eU [] ?_;simp only[R7,R8,aB,aA,reduceIte,Nat.reduceEqDiff,Kn,Ku,Blk.fz_arr,R4,R6];refine St.cut (F:=w_ Pg c _ _ _) [(0,.c (.ptr 0 0)),(3,.c (.d (.rp X.enc 0))),(4,.c (.ptr 12 0)),(5,.c (.ptr 13 0)),(6,.c (.ptr 14 0)),(7,.c (.ptr 15 0)),(8,.c (.ptr 17 0)),(9,.c (.d (.bool ft)))] (GD L T.2 [.pin t 0,.pin u 1,.pin v 2,.pin w 3,.pin x 4,.pin y 5] d r1.1 r2.1 (T.1) []) ?_ ?_ λT' hT=>?_
  ·simp[jT]
  ·intro i;by_cases q:i<18
   ·rcases(show i=0\/i=1\/i=2\/i=3\/i=4\/i=5\/i=6\/i=7\/i=8\/i=9\/i=10\/i=11\/i=12\/i=13\/i=14\/i=15\/i=16\/i=17 from by omega)with rfl|rfl|rfl|rfl|rfl|rfl|rfl|rfl|rfl|rfl|rfl|rfl|rfl|rfl|rfl|rfl|rfl|rfl<;>simp[jT]
   ·refine Eq.trans (b:=Blk.non) ?_ (zQ (by simp;omega)).symm;try simp[show i≠0 from by omega,show i≠1 from by omega,show i≠2 from by omega,show i≠3 from by omega,show i≠4 from by omega,show i≠5 from by omega,show i≠6 from by omega,show i≠7 from by omega,show i≠8 from by omega,show i≠9 from by omega,show i≠10 from by omega,show i≠11 from by omega,show i≠12 from by omega,show i≠13 from by omega,show i≠14 from by omega,show i≠15 from by omega,show i≠16 from by omega,show i≠17 from by omega]
    rw[zQ (show 12<=i from by omega)];try rfl
  simp only[forall_mem_cons,dV,false_implies,implies_true,and_true]at hT;obtain⟨l0,l3,l4,l5,l6,l7,l8,l9⟩:=hT;simp[l0,l3,l4,l5,l6,l7,l8,l9];have P5:=pm.1;generalize T.1=Ty at*
  generalize T.2=S2 at*
  obtain⟨S5,pa,hS5⟩:∃S5,kV L S5 (8*30001+1+k)/\(if X.module=L.main.module/\X.decl=L.main.decl/\ft=false then kL d.line d.col 14 S2 else S2)=S5:=by
   split
   ·exact⟨_,(fin S2 P5).2,rfl⟩
   ·exact⟨_,P5,rfl⟩
  rw[hS5];by_cases cm:X.module=L.main.module;rotate_left;rw[aA (λz=>cm z.1)]at hS5;subst hS5;simp[cm,l0,l3,l4,l5,l6,l7,l8,l9];refine⟨by decide,?_⟩;generalize S2=S5 at*
  rotate_left;by_cases cd:X.decl=L.main.decl;rotate_left;rw[aA (λz=>cd z.2.1)]at hS5;subst hS5;simp[cm,cd,l0,l3,l4,l5,l6,l7,l8,l9];refine⟨by decide,?_⟩;generalize S2=S5 at*
  rotate_left;rotate_left;by_cases cf:ft=true;rw[aA (λz=>by rw[cf]at z;simp at z)]at hS5;subst hS5;simp[cm,cd,cf,l0,l3,l4,l5,l6,l7,l8,l9];refine⟨by decide,?_⟩;generalize S2=S5 at*
  rotate_left;rw[aB ⟨cm,cd,by simpa using cf⟩]at hS5;have ma:=(fin S2 P5).1;rw[hS5]at ma;simp[cm,cd,cf,l0,l3,l4,l5,l6,l7,l8,l9];refine⟨by decide,?_⟩;refine fP [0,1,2,3,4,5] ma (by simp[l0,l3,l4,l5,l6,l7,l8,l9]) ?_;simp[l0,l3,l4,l5,l6,l7,l8,l9]
  all_goals
   have mi:=(minf S5 pa).1;have pi:=(minf S5 pa).2;generalize iE L d.body [(d.param,r1.1)] (S5)=r3 at*
   have mc:=yC L r3.1.1 r3.1.2 r2.1 d.body r3.2 (by have:=pi.sites;omega);have pc:=wW (b:=k) (pi.less (by omega)) r3.1.1 r3.1.2 r2.1 d.body.line d.body.col;generalize jw r3.1.1 r3.1.2 r2.1 d.body.line d.body.col r3.2=r4 at*
   refine fP [0,1,2,3,4,5] mi (by simp[l0,l3,l4,l5,l6,l7,l8,l9]) ?_;simp[l0,l3,l4,l5,l6,l7,l8,l9];refine fP [0,1,2,18,4,19] mc (by simp[l0,l3,l4,l5,l6,l7,l8,l9]) ?_;simp[e1,hnm2,l0,l3,l4,l5,l6,l7,l8,l9];refine⟨by unfold zao;omega,by unfold zao;omega,by decide,?_⟩;refine eP gD hp (λY:Nat × di=>Y.1<=X.types.length/\Y.2.size<=100+Y.1*20010/\ry (X.types.drop Y.1) Y.1 Y.2=R) (λY=>GG X Y.1 Y.2) (λ_=>GH L r4.2 [.pin t 0,.pin u 1] Ty r4.1) (λY=>X.types.length-Y.1) (0,nm++bs [46]++d.name) [0,1,2,4,6,7,17,20,22,19] ⟨by simp,by simp only[aY,zg,length_cons,length_nil];omega,by simpa using hR⟩ (by simp[l0,l3,l4,l5,l6,l7,l8,l9]) λ⟨j,z⟩ ⟨i1,i3,i2⟩=>?_;unfold NM;simp only at i1 i3 i2;simp;apply fM<;>intro h
   ·have hj:j<X.types.length:=by simpa using h
    rw[Xo _ _ _ hj]at i2;obtain⟨q,hq⟩:∃q,X.types[j]=q:=⟨_,rfl⟩
    rw[hq]at i2;have hw:=wrap_i64 (n:=(j:Int)+1) (by have:=hXt;omega) (by have:=hXt;omega);have hsq:=Nk q;by_cases j0:j=0
    ·subst j0;simp[hj,hq];refine⟨by unfold zao;omega,?_⟩;refine fU (Iy q) ?_;simp;refine⟨by unfold zao;omega,?_⟩;refine dm (0+1,z++bs [91]++xD q) [0,1,2,3,4,5,6,7,8,9] ⟨by simp only;omega,by simp only[aY,zg,length_cons,length_nil];omega,by simpa using i2⟩ (by simp only;omega) ?_;simp[show IntKind.i64.wrap 1=1 from by decide]
    ·rw[aA j0]at i2;simp[hj,hq,j0];refine⟨by unfold zao;omega,?_⟩;refine fU (Iy q) ?_;simp;refine⟨by unfold zao;omega,?_⟩;refine dm (j+1,z++bs [44,32]++xD q) [0,1,2,3,4,5,6,7,8,9] ⟨by simp only;omega,by simp only[aY,zg,length_cons,length_nil];omega,i2⟩ (by simp only;omega) ?_;simp[hw]
   have hj:j=X.types.length:=by simp at h;omega
   subst hj;rw[aQ,ry]at i2;subst i2;have hfew:=pc.few;have tf:(r4.2.funs.map ((λx=>List.map AC.d x)∘kJ.enc)).take r4.2.funs.length=r4.2.funs.map ((λx=>List.map AC.d x)∘kJ.enc):=aH (by simp);have td:(r4.2.bad.map ((λx=>List.map AC.d x)∘iA.enc)).take r4.2.bad.length=r4.2.bad.map ((λx=>List.map AC.d x)∘iA.enc):=aH (by simp);by_cases l0:0<X.types.length
   ·rw[aB l0];simp[l0,JQ,JR,kJ.enc_length];refine⟨by unfold zao;omega,by omega,by decide,?_⟩;by_cases qe:r4.2.e=0
    ·simp[qe];exact eF [0,1,4,5,6,7,10,8,3,9] [4,5,4,4,4,4] (by simp[AV.erds,AV.erd,iA.enc,tf,td])
    ·simp[qe];refine⟨by omega,by decide,?_⟩;exact eF [0,1,4,5,6,7,10,8,11,9] [4,5,4,4,4,4] (by simp[AV.erds,AV.erd,iA.enc,tf,td])
   ·rw[aA l0];simp[l0,JQ,JR,kJ.enc_length];refine⟨by omega,by decide,?_⟩;by_cases qe:r4.2.e=0
    ·simp[qe];exact eF [0,1,4,5,6,7,10,8,3,9] [4,5,4,4,4,4] (by simp[AV.erds,AV.erd,iA.enc,tf,td])
    ·simp[qe];refine⟨by omega,by decide,?_⟩;exact eF [0,1,4,5,6,7,10,8,11,9] [4,5,4,4,4,4] (by simp[AV.erds,AV.erd,iA.enc,tf,td])
 ·rw [aA q0];simp[q0];refine eY [.c 17 2] ?_;simp;refine fU hb1 ?_;simp;refine fU hfits ?_;simp;refine⟨by decide,?_⟩;refine eU [16,18] ?_;simp only[R7,R8,aB,aA,reduceIte,Nat.reduceEqDiff,Kn,Ku,Blk.fz_arr,R4,R6,oo,QU];refine St.cut (F:=w_ Pg c _ _ _) [(0,.c (.ptr 0 0)),(3,.c (.d (.rp X.enc 0))),(4,.c (.ptr 12 0)),(5,.c (.ptr 13 0)),(6,.c (.ptr 14 0)),(7,.c (.ptr 15 0)),(8,.c (.ptr 17 0)),(9,.c (.d (.bool ft)))] (GD L r2.2 [.pin t 0,.pin u 1,.pin v 2,.pin w 3,.pin x 4,.pin y 5] d r1.1 r2.1 (jG r1.1 r2.1) [.dead]) ?_ ?_ λT' hT=>?_
  ·simp[jT]
  ·intro i;by_cases q:i<19
   ·rcases(show i=0\/i=1\/i=2\/i=3\/i=4\/i=5\/i=6\/i=7\/i=8\/i=9\/i=10\/i=11\/i=12\/i=13\/i=14\/i=15\/i=16\/i=17\/i=18 from by omega)with rfl|rfl|rfl|rfl|rfl|rfl|rfl|rfl|rfl|rfl|rfl|rfl|rfl|rfl|rfl|rfl|rfl|rfl|rfl<;>simp[jT,jG,sG]
   ·refine Eq.trans (b:=Blk.non) ?_ (zQ (by simp;omega)).symm;try simp[show i≠0 from by omega,show i≠1 from by omega,show i≠2 from by omega,show i≠3 from by omega,show i≠4 from by omega,show i≠5 from by omega,show i≠6 from by omega,show i≠7 from by omega,show i≠8 from by omega,show i≠9 from by omega,show i≠10 from by omega,show i≠11 from by omega,show i≠12 from by omega,show i≠13 from by omega,show i≠14 from by omega,show i≠15 from by omega,show i≠16 from by omega,show i≠17 from by omega,show i≠18 from by omega]
    rw[zQ (show 12<=i from by omega)];try rfl
  simp only[forall_mem_cons,dV,false_implies,implies_true,and_true]at hT;obtain⟨l0,l3,l4,l5,l6,l7,l8,l9⟩:=hT;simp[l0,l3,l4,l5,l6,l7,l8,l9];have P5:=p2.1;generalize jG r1.1 r2.1=Ty at*
  generalize r2.2=S2 at*
  obtain⟨S5,pa,hS5⟩:∃S5,kV L S5 (8*30001+1+k)/\(if X.module=L.main.module/\X.decl=L.main.decl/\ft=false then kL d.line d.col 14 S2 else S2)=S5:=by
   split
   ·exact⟨_,(fin S2 P5).2,rfl⟩
   ·exact⟨_,P5,rfl⟩
  rw[hS5];by_cases cm:X.module=L.main.module;rotate_left;rw[aA (λz=>cm z.1)]at hS5;subst hS5;simp[cm,l0,l3,l4,l5,l6,l7,l8,l9];refine⟨by decide,?_⟩;generalize S2=S5 at*
  rotate_left;by_cases cd:X.decl=L.main.decl;rotate_left;rw[aA (λz=>cd z.2.1)]at hS5;subst hS5;simp[cm,cd,l0,l3,l4,l5,l6,l7,l8,l9];refine⟨by decide,?_⟩;generalize S2=S5 at*
  rotate_left;rotate_left;by_cases cf:ft=true;rw[aA (λz=>by rw[cf]at z;simp at z)]at hS5;subst hS5;simp[cm,cd,cf,l0,l3,l4,l5,l6,l7,l8,l9];refine⟨by decide,?_⟩;generalize S2=S5 at*
  rotate_left;rw[aB ⟨cm,cd,by simpa using cf⟩]at hS5;have ma:=(fin S2 P5).1;rw[hS5]at ma;simp[cm,cd,cf,l0,l3,l4,l5,l6,l7,l8,l9];refine⟨by decide,?_⟩;refine fP [0,1,2,3,4,5] ma (by simp[l0,l3,l4,l5,l6,l7,l8,l9]) ?_;simp[l0,l3,l4,l5,l6,l7,l8,l9]
  all_goals
   have mi:=(minf S5 pa).1;have pi:=(minf S5 pa).2;generalize iE L d.body [(d.param,r1.1)] (S5)=r3 at*
   have mc:=yC L r3.1.1 r3.1.2 r2.1 d.body r3.2 (by have:=pi.sites;omega);have pc:=wW (b:=k) (pi.less (by omega)) r3.1.1 r3.1.2 r2.1 d.body.line d.body.col;generalize jw r3.1.1 r3.1.2 r2.1 d.body.line d.body.col r3.2=r4 at*
   refine fP [0,1,2,3,4,5] mi (by simp[l0,l3,l4,l5,l6,l7,l8,l9]) ?_;simp[l0,l3,l4,l5,l6,l7,l8,l9];refine fP [0,1,2,19,4,20] mc (by simp[l0,l3,l4,l5,l6,l7,l8,l9]) ?_;simp[e1,hnm2,l0,l3,l4,l5,l6,l7,l8,l9];refine⟨by unfold zao;omega,by unfold zao;omega,by decide,?_⟩;refine eP gD hp (λY:Nat × di=>Y.1<=X.types.length/\Y.2.size<=100+Y.1*20010/\ry (X.types.drop Y.1) Y.1 Y.2=R) (λY=>GG X Y.1 Y.2) (λ_=>GH L r4.2 [.pin t 0,.pin u 1] Ty r4.1) (λY=>X.types.length-Y.1) (0,nm++bs [46]++d.name) [0,1,2,4,6,7,17,21,23,20] ⟨by simp,by simp only[aY,zg,length_cons,length_nil];omega,by simpa using hR⟩ (by simp[l0,l3,l4,l5,l6,l7,l8,l9]) λ⟨j,z⟩ ⟨i1,i3,i2⟩=>?_;unfold NM;simp only at i1 i3 i2;simp;apply fM<;>intro h
   ·have hj:j<X.types.length:=by simpa using h
    rw[Xo _ _ _ hj]at i2;obtain⟨q,hq⟩:∃q,X.types[j]=q:=⟨_,rfl⟩
    rw[hq]at i2;have hw:=wrap_i64 (n:=(j:Int)+1) (by have:=hXt;omega) (by have:=hXt;omega);have hsq:=Nk q;by_cases j0:j=0
    ·subst j0;simp[hj,hq];refine⟨by unfold zao;omega,?_⟩;refine fU (Iy q) ?_;simp;refine⟨by unfold zao;omega,?_⟩;refine dm (0+1,z++bs [91]++xD q) [0,1,2,3,4,5,6,7,8,9] ⟨by simp only;omega,by simp only[aY,zg,length_cons,length_nil];omega,by simpa using i2⟩ (by simp only;omega) ?_;simp[show IntKind.i64.wrap 1=1 from by decide]
    ·rw[aA j0]at i2;simp[hj,hq,j0];refine⟨by unfold zao;omega,?_⟩;refine fU (Iy q) ?_;simp;refine⟨by unfold zao;omega,?_⟩;refine dm (j+1,z++bs [44,32]++xD q) [0,1,2,3,4,5,6,7,8,9] ⟨by simp only;omega,by simp only[aY,zg,length_cons,length_nil];omega,i2⟩ (by simp only;omega) ?_;simp[hw]
   have hj:j=X.types.length:=by simp at h;omega
   subst hj;rw[aQ,ry]at i2;subst i2;have hfew:=pc.few;have tf:(r4.2.funs.map ((λx=>List.map AC.d x)∘kJ.enc)).take r4.2.funs.length=r4.2.funs.map ((λx=>List.map AC.d x)∘kJ.enc):=aH (by simp);have td:(r4.2.bad.map ((λx=>List.map AC.d x)∘iA.enc)).take r4.2.bad.length=r4.2.bad.map ((λx=>List.map AC.d x)∘iA.enc):=aH (by simp);by_cases l0:0<X.types.length
   ·rw[aB l0];simp[l0,JQ,JR,kJ.enc_length];refine⟨by unfold zao;omega,by omega,by decide,?_⟩;by_cases qe:r4.2.e=0
    ·simp[qe];exact eF [0,1,4,5,6,7,10,8,3,9] [4,5,4,4,4,4] (by simp[AV.erds,AV.erd,iA.enc,tf,td])
    ·simp[qe];refine⟨by omega,by decide,?_⟩;exact eF [0,1,4,5,6,7,10,8,11,9] [4,5,4,4,4,4] (by simp[AV.erds,AV.erd,iA.enc,tf,td])
   ·rw[aA l0];simp[l0,JQ,JR,kJ.enc_length];refine⟨by omega,by decide,?_⟩;by_cases qe:r4.2.e=0
    ·simp[qe];exact eF [0,1,4,5,6,7,10,8,3,9] [4,5,4,4,4,4] (by simp[AV.erds,AV.erd,iA.enc,tf,td])
    ·simp[qe];refine⟨by omega,by decide,?_⟩;exact eF [0,1,4,5,6,7,10,8,11,9] [4,5,4,4,4,4] (by simp[AV.erds,AV.erd,iA.enc,tf,td])
end
abbrev Xr(L:gq)(i:Nat):List (Nat × AV):=[(5,.c (.d (.int .i64 i))),(4,.c (.ptr 2 0)),(2,.c (.ptr 0 0)),(1,.c (.d (.rp L.enc 0)))]
abbrev Xt(L:gq)(s:CS):List Blk:=[.box [.d (.sl true 13 []),.d (.int .i64 0),.d (.sl true 3 [])],.box [.d (.int .i64 256),.msl 3 6 0 s.tab.length],Nu L s (.sl true 1 []) (.sl true 4 []) 1 3 4 5,qG s.funs,qH s.sites,lV s.bad,nW s.tab]
abbrev Nv(i:Nat):List (Nat × AV):=[(10,.c (.d (.int .i64 i))),(4,.c (.ptr 2 0)),(2,.c (.ptr 0 0))]
abbrev Nw(L:gq)(s:CS)(vD wD:D):List Blk:=[.box [.d (.sl true 13 []),.d (.int .i64 0),.d (.sl true 3 [])],.box [.d (.int .i64 256),.msl 3 6 0 s.tab.length],Nu L s vD wD 1 3 4 5,qG s.funs,qH s.sites,lV s.bad,nW s.tab]
theorem zGh(a0 a1 a2 a3 a4 a5 a6 a7 a8 a9 a10 a11 a12 a13 a14 a15 a16:AC):cut [a0,a1,a2,a3,a4,a5,a6,a7,a8,a9,a10,a11,a12,a13,a14,a15,a16] 7 3=[a7,a8,a9]:=rfl
theorem zGi(L:gq):put (splice [.d (.sl true 1 []),.d (.sl true 2 []),.d (.sl true 1 []),.d (.str (bs [])),.d (.int .i64 0),.d (.int .i64 0),.d (.sc (.pointer none)),.d (.sl true 13 []),.d (.int .i64 0),.d (.sl true 3 []),.d (.sl true 4 []),.d (.int .i64 0),.d (.sl true 1 []),.d (.sl true 4 []),.d (.int .i64 0),.d (.int .i64 0),.d (.int .i64 0)] 0 (L.enc.map AC.d)) 6 [AC.ptr 1 0]=[.d (.sl false 1 (encS L.names)),.d (.sl false 2 (L.mods.map ig.enc)),.d (.sl false 1 (L.scopes.map qF)),.d (.str L.main.name),.d (.int .i64 L.main.module),.d (.int .i64 L.main.decl),.ptr 1 0,.d (.sl true 13 []),.d (.int .i64 0),.d (.sl true 3 []),.d (.sl true 4 []),.d (.int .i64 0),.d (.sl true 1 []),.d (.sl true 4 []),.d (.int .i64 0),.d (.int .i64 0),.d (.int .i64 0)]:=rfl
theorem zDg(L:gq)(hG:kr L):fu Pg 10 [.agg L.enc] (.tup [.agg (yn L).1.enc,.one (.sl false 4 ((yn L).2.map iA.enc))]):=by
 refine zyY (by simp) λo c hN hp=>?_;obtain⟨R,hR⟩:∃R,yn L=R:=⟨_,rfl⟩
 rw[hR];unfold yn at hR;unfold Wy;simp;refine eY [.c 2 7,.c 2 9,.c 2 10,.c 1 1] ?_;simp[zGi];refine eP gD hp (λY:Nat × CS=>Y.1<=L.mods.length/\vF L Y.2 0/\Y.2.funs=[]/\Y.2.sites=[]/\Y.2.bad=[]/\Y.2.module=0/\Y.2.e=0/\Y.2.line=0/\Y.2.col=0/\lh L (L.mods.drop Y.1) Y.1 Y.2=lh L L.mods 0 cs0) (λY=>Xr L Y.1) (λY=>Xt L Y.2) (λY=>L.mods.length-Y.1) (0,cs0) [0,1,2,3,4,5,6] ⟨by simp,⟨by simp[cs0],by simp[cs0],by simp[cs0],by simp[cs0],by simp[cs0]⟩,rfl,rfl,rfl,rfl,rfl,rfl,rfl,by simp⟩ (by simp[cs0]) λ⟨i,S⟩ ⟨i1,i2,i3,i4,i5,i6,i7,i8,i9,i10⟩=>?_;unfold Ww;simp only at i1 i2 i3 i4 i5 i6 i7 i8 i9 i10;simp;apply fM<;>intro h
 ·have hi:i<L.mods.length:=by simpa using h
  obtain⟨m,hm⟩:∃m,L.mods[i]=m:=⟨_,rfl⟩
  rw[aG hi,hm,lh]at i10;simp[hi,hm];refine eP gD hp (λY:Nat × CS=>Y.1<=m.decs.length/\vF L Y.2 0/\Y.2.funs=[]/\Y.2.sites=[]/\Y.2.bad=[]/\Y.2.module=0/\Y.2.e=0/\Y.2.line=0/\Y.2.col=0/\(if 0<(qh L i (m.decs.drop Y.1) Y.1 Y.2).2.length then qh L i (m.decs.drop Y.1) Y.1 Y.2 else lh L (L.mods.drop (i+1)) (i+1) (qh L i (m.decs.drop Y.1) Y.1 Y.2).1)=lh L L.mods 0 cs0) (λY=>(6,.c (.d (.int .i64 Y.1)))::Xr L i) (λY=>Xt L Y.2) (λY=>m.decs.length-Y.1) (0,S) [0,1,2,3,4,5,6] ⟨by simp,i2,i3,i4,i5,i6,i7,i8,i9,by simpa using i10⟩ (by simp) λ⟨k,S2⟩ ⟨j1,j2,j3,j4,j5,j6,j7,j8,j9,j10⟩=>?_;unfold Wv;simp only at j1 j2 j3 j4 j5 j6 j7 j8 j9 j10;have hmi:L.mods[i]?=some m:=by rw[aD hi,hm]
  simp[hi,hm];apply fM<;>intro h
  ·have hk:k<m.decs.length:=by simpa using h
   obtain⟨d,hd⟩:∃d,m.decs[k]=d:=⟨_,rfl⟩
   rw[aG hk,hd,qh]at j10;have hdl:=(hG.small m (aW hmi)).decs;have hw:=wI (n:=(k:Int)+1);by_cases c0:0<d.vars.length
   ·rw[aB c0]at j10;simp[hi,hm,hk,hd,c0];refine dm (k+1,S2) [0,1,2,3,4,5,6] ⟨by simp only;omega,j2,j3,j4,j5,j6,j7,j8,j9,j10⟩ (by simp only;omega) ?_;simp[hw]
   rw[aA c0]at j10;have hx:∀x,x∈(jq 256 S2.tab ⟨i,k,[]⟩).2->jX L ⟨bs [],x.module,x.decl⟩/\x.types.length<=1000000:=λx hx=>by
    have hm2:L.mods.getD i oG=m:=by rw[aF,hmi];try rfl
    rcases NU hx with hx|hx
    ·exact j2.ist x hx
    ·subst hx;exact⟨⟨by simp only;omega,by simp only;omega,by simp only;omega,by simp only[bJ];rw[hm2];omega⟩,by simp⟩
   have hx2:=JI j2.tab ⟨i,k,[]⟩;have le4:L.enc[4]?=some (D.int .i64 L.main.module):=rfl;have le5:L.enc[5]?=some (D.int .i64 L.main.decl):=rfl;have ma:=MCall.erd (args:=[.c (.ptr 0 0),.ag [.d (.int .i64 i),.d (.int .i64 k),.d (.sl true 4 [])]]) (XK 256 S2.tab (by have:=j2.tab;omega) ⟨i,k,[]⟩ (by simp)) (by simp[AV.erds,AV.erd,AC.erd,D.erd,D.erdL,D.erdE,jR.enc]);generalize jq 256 S2.tab ⟨i,k,[]⟩=r at*
   simp only at j10;by_cases r0:r.1.2=0;rotate_left
   ·simp only[aB (show r.1.2≠0 from r0)]at j10;simp at j10;rw[<-j10]at hR;simp at hR;subst hR;simp[hi,hm,hk,hd,c0];refine fP [1,6] ma (by simp[jR.enc]) ?_;simp[r0];refine⟨by decide,?_⟩;refine eU [] ?_;simp[xG,kK.enc,iA.enc];try decide
   ·simp only[aA (show¬r.1.2≠0 fromλz=>z r0)]at j10;by_cases cm:(i:Int)=L.main.module
    ·by_cases cd:(k:Int)=L.main.decl
     ·simp only[aB (show(i:Int)=L.main.module/\(k:Int)=L.main.decl from⟨cm,cd⟩)]at j10;simp[hi,hm,hk,hd,c0];refine fP [1,6] ma (by simp[jR.enc]) ?_;simp[r0,cm,cd,le4,le5];refine dm (k+1,{S2 with tab:=r.2,main:=r.1.1}) [0,1,2,3,4,5,8] ⟨by simp only;omega,⟨hx2,hx,j2.sites,j2.funs,j2.bad⟩,j3,j4,j5,j6,j7,j8,j9,j10⟩ (by simp only;omega) ?_;simp;rw[<-cd];exact hw
     ·simp only[aA (show¬((i:Int)=L.main.module/\(k:Int)=L.main.decl)fromλz=>cd z.2)]at j10;simp[hi,hm,hk,hd,c0];refine fP [1,6] ma (by simp[jR.enc]) ?_;simp[r0,cm,cd,le4,le5];refine dm (k+1,{S2 with tab:=r.2}) [0,1,2,3,4,5,8] ⟨by simp only;omega,⟨hx2,hx,j2.sites,j2.funs,j2.bad⟩,j3,j4,j5,j6,j7,j8,j9,j10⟩ (by simp only;omega) ?_;simp[hw]
    ·simp only[aA (show¬((i:Int)=L.main.module/\(k:Int)=L.main.decl)fromλz=>cm z.1)]at j10;simp[hi,hm,hk,hd,c0];refine fP [1,6] ma (by simp[jR.enc]) ?_;simp[r0,cm,le4,le5];refine dm (k+1,{S2 with tab:=r.2}) [0,1,2,3,4,5,8] ⟨by simp only;omega,⟨hx2,hx,j2.sites,j2.funs,j2.bad⟩,j3,j4,j5,j6,j7,j8,j9,j10⟩ (by simp only;omega) ?_;simp[hw]
  ·have hk:k=m.decs.length:=by simp at h;omega
   subst hk;rw[aQ,qh]at j10;simp at j10;have hw:=wrap_i64 (n:=(i:Int)+1) (by have:=hG.good.few;omega) (by have:=hG.good.few;omega);refine dm (i+1,S2) [0,1,2,3,4,5,6] ⟨by simp only;omega,j2,j3,j4,j5,j6,j7,j8,j9,j10⟩ (by simp only;omega) ?_;simp[hw]
 ·have hi:i=L.mods.length:=by simp at h;omega
  subst hi;rw[aQ,lh]at i10;rw[<-i10]at hR;simp only[length_nil,Nat.lt_irrefl,if_false]at hR;obtain⟨F,hF⟩:∃F,kY L 257 0 S=F:=⟨_,rfl⟩
  rw[hF]at hR;refine eP gD hp (λY:Nat × CS × D × D=>Y.1<=256/\vF L Y.2.1 Y.1/\kY L (257-Y.1) Y.1 Y.2.1=F) (λY=>Nv Y.1) (λY=>Nw L Y.2.1 Y.2.2.1 Y.2.2.2) (λY=>257-Y.1) (0,S,.sl true 1 [],.sl true 4 []) [0,1,2,3,4,5,6] ⟨by simp,i2,by simpa using hF⟩ (by simp) λ⟨j,S2,vD,wD⟩ ⟨j1,j2,j3⟩=>?_;unfold Wx;simp only at j1 j2 j3;simp;apply fM<;>intro h
  ·have hj:j<S2.tab.length:=by simpa using h
   have hjt:=j2.tab;obtain⟨X,hX⟩:∃X,S2.tab[j]=X:=⟨_,rfl⟩
   have hXm:X∈S2.tab:=hX▸ai hj;have hXi:=j2.ist X hXm;have hw:=wI (n:=(j:Int)+1);have mf:=zxQ L hG X hXi.1 hXi.2 S2 vD wD ((257-(j+1))*240009) (Xn hXi.1 hXi.2 (by omega) j2);have mk:=GA hG hXi.1 hXi.2 (by omega) j2;have e3:kY L (257-(j+1)) (j+1) (kP L X S2)=F:=by
    have e:257-j=(257-(j+1))+1:=by omega
    rw[e,kY,aB hj]at j3;rw[aF,aD hj,hX]at j3;exact j3
   generalize kP L X S2=S3 at*
   simp[hj,hX];refine fO [2,1,3,4,5,6] mf ?_;simp;refine dm (j+1,S3,.sl false 1 (encS S3.vars),.sl false 4 (S3.wth.map fZ.enc)) [0,1,2,7,8,9,10] ⟨by simp only;omega,mk,e3⟩ (by simp only;omega) ?_;simp[hw]
  ·have hj:¬j<S2.tab.length:=by simpa using h
   have e3:S2=F:=by
    have e:257-j=(257-(j+1))+1:=by omega
    rw[e,kY,aA hj]at j3;exact j3
   subst e3;by_cases hb:0<S2.bad.length
   ·rw[aB hb]at hR;subst hR;simp[hb];refine⟨by decide,?_⟩;refine eU [5] ?_;simp[xG,kK.enc];exact aH (by simp)
   ·rw[aA hb]at hR;subst hR;simp[hb,zGh];refine eU [3,4] ?_;simp[kK.enc];exact⟨aH (by simp),aH (by simp)⟩
@[simp] theorem kK.enc_length(p:kK):p.enc.length=3:=rfl
@[simp] theorem kK.cut_map(p:kK):cut (p.enc.map AC.d) 0 3=p.enc.map .d:=rfl
@[simp] theorem kK.cut_enc(p:kK):cut p.enc 0 3=p.enc:=rfl
@[simp] theorem kK.er_map(p:kK):p.enc.map D.er=p.enc:=rfl
abbrev prV(r:kK × Bool):DV:=.tup [.agg r.1.enc,.one (.bool r.2)]
def Xu(l:List (di × di)):fu Pg 5 [.one (.sl false 2 (l.map kZ))] (prV (ll l)):=by
 refine zwo (by simp) λo c hN hp=>?_;obtain⟨R,hR⟩:∃R,ll l=R:=⟨_,rfl⟩
 rw[hR];unfold ll at hR;have hfew:=zGb l;obtain⟨f,hf⟩:∃f,(decide (l.length<=20)&&pI l 0)=f:=⟨_,rfl⟩
 rw[hf]at hfew;unfold Wz;simp;refine fU hfew ?_;simp;cases f with
 | false=>
  have hc:20<l.length\/pI l 0=false\/5000<rz l:=by
   simp at hf;by_cases q:l.length<=20
   ·exact .inr (.inl (hf q))
   ·exact .inl (by omega)
  rw[aB hc]at hR;refine eP gD hp (λ_:Nat=>True) (λ_=>[(6,.c (.d (.int .i64 0))),(5,.c (.d (.int .i64 0))),(4,.c (.d (.bool false))),(2,.c (.ptr 0 0)),(0,.c (.d (.sl false 2 (l.map kZ))))]) (λ_=>[.box [.d (.sl true 13 []),.d (.int .i64 0),.d (.sl true 3 [])]]) (λ_=>0) 0 [0] (by simp) (by simp) λj h1=>?_;unfold NN;simp;apply fM<;>intro h
  ·subst hR;simp[xG,kK.enc]
  ·subst hR;simp[xG,kK.enc]
 | true=>
  simp at hf;have hl:=hf.1;refine eP gD hp (λY:Nat × Nat=>Y.1<=l.length/\Y.2<=70000/\pI (l.drop Y.1) Y.2=true/\(Y.2:Int)+rz (l.drop Y.1)=rz l) (λY=>[(6,.c (.d (.int .i64 Y.1))),(5,.c (.d (.int .i64 Y.2))),(4,.c (.d (.bool true))),(2,.c (.ptr 0 0)),(0,.c (.d (.sl false 2 (l.map kZ))))]) (λ_=>[.box [.d (.sl true 13 []),.d (.int .i64 0),.d (.sl true 3 [])]]) (λY=>l.length-Y.1) (0,0) [0] ⟨by simp,by simp,by simpa using hf.2,by simp⟩ (by simp) λ⟨j,n⟩ ⟨i1,i2,i3,i4⟩=>?_;unfold NN;simp only at i1 i2 i3 i4;simp;apply fM<;>intro h
  ·have hj:j<l.length:=by simpa using h
   obtain⟨s,hs⟩:∃s,l[j]=s:=⟨_,rfl⟩
   rw[aG hj,hs,pI]at i3;rw[aG hj,hs,rz]at i4;have hw:=wI (n:=(j:Int)+1);by_cases c1:(70000:Int)-n<s.2.size\/1000<s.1.size
   ·rw[aB c1]at i3;cases i3
   rw[aA c1]at i3;have hw3:=wI (n:=(n:Int)+s.2.size);simp[hj,hs];refine dm (j+1,n+s.2.size) [0] ⟨by simp only;omega,by simp only;omega,by simpa using i3,by simp only;omega⟩ (by simp only;omega) ?_;simp[hw,hw3]
  ·have hj:j=l.length:=by simp at h;omega
   subst hj;rw[aQ,rz]at i4;have i5:rz l=n:=by omega
   by_cases c5:(5000:Int)<n
   ·rw[aB (.inr (.inr (by omega)))]at hR;subst hR;simp[c5,xG,kK.enc]
   ·have hc:¬(20<l.length\/pI l 0=false\/5000<rz l):=by
     rw[hf.2];simp;omega
    rw[aA hc]at hR;have hlk:=zED l;have hlg:=Fx l;generalize qz l=x at*
    simp only at hR;simp[c5];refine fU hlk ?_;simp;by_cases c6:0<x.2.length
    ·rw[aB c6]at hR;subst hR;simp[c6,xG,kK.enc]
    ·rw[aA c6]at hR;have hck:=zDg x.1 (hlg (by omega));generalize yn x.1=y at*
     simp[c6];refine fU hck ?_;subst hR;simp
def CV(tx:di)(ns:List di):Prop:=tx.size<=256/\∀x,x∈ns->x.size<=256
def uB{tx:di}(h:tx.size<=256):CV tx []:=⟨h,λ_ hx=>by cases hx⟩
def Av:(bs []).size<=256:=by decide
@[simp] theorem uT:CV (bs []) []=True:=eq_true (uB Av)
def zDm{s:di}(h:mJ s=true):s.size<=256:=by
 unfold mJ at h;split at h
 ·cases h
 ·simp only[aC,aI]at h;omega
mutual
def jr:fo->Prop
|.mk k tx n _ _ _ ns ks=>(k=9->mJ tx=true)/\(k=2->n=0\/n=1)/\(k=12->0<=n/\n<6)/\CV tx ns/\vT ks
def vT:List fo->Prop
|[]=>True
|n::l=>jr n/\vT l
end
def Ny:∀l:List fo,vT l↔∀x,x∈l->jr x
|[]=>by simp[vT]
|n::l=>by simp[vT,Ny l]
def Xv:∀l:List UInt8,(l.take (iM false l)).all (λb=>lZ b||jo b)=true
|[]=>by simp[iM]
| b::l=>by
 rw[iM];split
 ·rename_i h;rw[take_succ_cons,all_cons,Xv l];simpa[Bool.or_comm]using h
 ·simp
def zDn{c:UInt8}(h:lZ c=true):jo c=false:=by
 unfold lZ tJ at h;unfold jo ou;simp only[aI,decide_eq_false_iff_not]at*
 omega
def zDo:∀{l:List UInt8},(iK l).e=0->(iK l).kind=1->mJ (bA (iK l).text)=true
|[],h,_=>absurd h (by decide)
| c::r,h,k=>by
 unfold iK at h k⊢;simp only at h k⊢;by_cases c1:lZ c=true
 ·rw[aB c1]at h k⊢;by_cases c2:32<iM false (c::r)
  ·rw[aB c2]at h;exact absurd h (by decide)
  rw[aA c2]at h k⊢;simp only at h k⊢;have hw:¬zW (bA ((c::r).take (iM false (c::r))))=true:=λz=>by rw[aB z]at k;exact absurd k (by decide)
  have ha:=Xv (c::r);have e:iM false (c::r)=iM false r+1:=by rw[iM,aB (by simp[c1])]
  rw[e,take_succ_cons]at hw ha⊢;rw[aN]at hw;have hs:(bA (c::r.take (iM false r))).size<=32:=by
   show(c::r.take (iM false r)).toArray.size<=32;simp only[size_toArray,length_cons,bU];omega
  unfold mJ;show(decide ((bA (c::r.take (iM false r))).size<=32)&&(!zW (bA (c::r.take (iM false r)))&&(!jo c&&(c::r.take (iM false r)).all λb=>lZ b||jo b)))=true;rw[hw,zDn c1,ha];simpa using hs
 rw[aA c1]at h k⊢;exfalso;revert h k;repeat' split
 all_goals (intro h k;first|exact absurd k (by simp)|exact absurd h (by simp[kF]))
def zE6:∀{l:List UInt8},(iK l).kind=4->(bA (iK l).text).size<=256
|[],k=>absurd k (by decide)
| c ::r,k=>by
 unfold iK at k⊢;simp only at k⊢;by_cases c1:lZ c=true
 ·rw[aB c1]at k⊢;exfalso;revert k;repeat' split
  all_goals (intro k;first|exact absurd k (by simp[kF])|(simp only at k;split at k<;>exact absurd k (by decide)))
 rw[aA c1]at k⊢;by_cases c2:jo c=true
 ·rw[aB c2]at k⊢;exfalso;revert k;repeat' split
  all_goals (intro k;exact absurd k (by simp[kF]))
 rw[aA c2]at k⊢;by_cases c3:c=34
 ·rw[aB c3]at k⊢;split at k
  ·exact absurd k (by simp[kF])
  ·split at k
   ·exact absurd k (by simp[kF])
   ·rename_i t n e q;simp only[e,aA q];show(bA t).data.size<=256;simp only[bA,size_toArray];omega
 rw[aA c3]at k⊢;exfalso;revert k;repeat' split
 all_goals (intro k;exact absurd k (by simp[kF]))
def uU(L:List Tok):Prop:=∀i,((L.getD i wC).kind=1->mJ (L.getD i wC).text=true)/\((L.getD i wC).kind=4->(L.getD i wC).text.size<=256)
def Nz:uU []:=λi=>⟨λk=>absurd k (by simp[wC]),λk=>absurd k (by simp[wC])⟩
def Xw{L:List Tok}{t:Tok}(h:uU L)(ht:(t.kind=1->mJ t.text=true)/\(t.kind=4->t.text.size<=256)):uU (L++[t]):=λi=>by
 rw[aF,getElem?_append];split
 ·rw[<-aF];exact h i
 ·by_cases z:i-L.length=0
  ·rw[z];exact ht
  ·rw[aM (by simp;omega)];exact⟨λk=>absurd k (by decide),λk=>absurd k (by decide)⟩
def Xx:∀(n:Nat) (l:List UInt8) (a b:Int) (ts:List Tok),uU ts->uU (oF n l a b ts).1
|0,l,a,b,ts,h=>by rw[oF];exact h
| n+1,l,a,b,ts,h=>by
 rw[oF];simp only;split
 ·exact Xw h ⟨λk=>absurd (show(0:Int)=1 from k) (by decide),λk=>absurd (show(0:Int)=4 from k) (by decide)⟩
 have ht:=zDo (l:=l.drop (iB false l));have hs:=zE6 (l:=l.drop (iB false l));generalize iK (l.drop (iB false l))=t at*
 obtain⟨e,he⟩:∃e,(if t.e=0/\ts.length=8192 then 19 else t.e)=e:=⟨_,rfl⟩
 rw[he];split
 ·exact Nz
 ·rename_i q;have e0:t.e=0:=by
   apply ae;intro z;rw[aA (λy=>z y.1)]at he;omega
  exact Xx n _ _ _ _ (Xw h ⟨λk=>ht e0 k,hs⟩)
def zE7(s:di):uU (kX s).1:=by
 unfold kX;split
 ·exact Nz
 ·exact Xx _ _ _ _ _ Nz
section
variable {L:List Tok}
def Tm.z{p q:PS}(h:Tm L p q)(e:q.e=0):p.e=0:=ae λz=>h.bad z e
def zDp(hN:uU L){p:PS}(h:(iN L p).2.e=0):mJ (iN L p).1=true:=by
 unfold iN at h⊢;split
 ·rename_i q;exact(hN _).1 q.2
 ·rename_i q;rw[aA q]at h;exact absurd h (Ey (by decide))
def CX(hN:uU L)(p:PS):(iN L p).1.size<=256:=by
 unfold iN;split
 ·rename_i q;exact zDm ((hN _).1 q.2)
 ·exact Av
def OA:∀{l:List di} {p:PS} {s:di} {q:PS},(∀x,x∈l->x.size<=256)->uO L l p=some (s,q)->s.size<=256
|[],_,_,_,_,h=>by rw[uO]at h;cases h
|x::l,p,s,q,hl,h=>by
 rw[uO]at h;split at h
 ·cases h;exact hl x (by simp)
 ·exact OA (λy hy=>hl y (by simp[hy])) h
def sI{p:PS}{k:Int}{t:di}{n:Int}{ts:List fZ}{ns:List di}{ks:List fo}(h:vT ks)(s:k≠9/\k≠2/\k≠12)(z:CV t ns:=by exact uB Av):jr (kM L p k t n ts ns ks):=by
 unfold kM;rw[jr];exact⟨λz=>absurd z s.1,λz=>absurd z s.2.1,λz=>absurd z s.2.2,z,h⟩
def s1{a:fo}(h:jr a):vT [a]:=⟨h,trivial⟩
def s2{a b:fo}(h:jr a)(k:jr b):vT [a,b]:=⟨h,k,trivial⟩
def oZ(L:List Tok)(f:PS->fo × PS):Prop:=∀p,p.at'<L.length->(f p).2.e=0->jr (f p).1
def zDq(hL:iR L)(hN:uU L){ki:PS->fZ × PS}{ex rk:PS->fo × PS}(hk:gF L ki)(he:gF L ex)(ne:oZ L ex)(nr:oZ L rk):oZ L (yZ L ki ex rk):=λp hp=>by
 unfold yZ;split
 ·have h1:=iF hL hp (s:=rW);have h2:=h1.trans (lS hL h1.lt);have h3:=h2.trans (y8 hL hk _ h2.lt);have h4:=(lS hL h1.lt).trans ((y8 hL hk _ h2.lt).trans (iP hL h3.lt (s:=bs [61])));have h5:=he _ h4.lt;have h6:=iP hL h5.lt (s:=bs [59]);have h7:=he _ h6.lt;intro e;exact sI (s2 (ne _ h4.lt (h6.z (h7.z e))) (ne _ h6.lt e)) (by decide) (uB (CX hN _))
 split
 ·have h1:=iF hL hp (s:=zY);have h2:=he _ h1.lt;have h3:=iP hL h2.lt (s:=Bh);have h4:=he _ h3.lt;have h5:=iP hL h4.lt (s:=Bi);have h6:=he _ h5.lt;intro e;have e4:=h5.z (h6.z e);exact sI ⟨ne _ h1.lt (h3.z (h4.z e4)),ne _ h3.lt e4,ne _ h5.lt e,trivial⟩ (by decide)
 split
 ·have h1:=iF hL hp (s:=sP);have h2:=Ai hL hk _ h1.lt;have h3:=h2.trans (iP hL h2.lt (s:=bs [61,62]));intro e;exact sI (s1 (ne _ h3.lt e)) (by decide) (uB (CX hN _))
 ·exact nr p hp
def Xy(hL:iR L){rk:PS->fo × PS}(hr:gF L rk)(nr:oZ L rk)(signs:List di)(hs:∀x,x∈signs->x.size<=256):∀(n:Nat) (a:fo) (p:PS),p.at'<L.length->Tm L p (kN L rk signs n a p).2/\(jr a->(kN L rk signs n a p).2.e=0->jr (kN L rk signs n a p).1)
|0,a,p,hp=>by rw[kN];exact⟨Tm.refl hp,λha _=>ha⟩
| n+1,a,p,hp=>by
 rw[kN];split
 ·exact⟨Tm.refl hp,λha _=>ha⟩
 ·rename_i s q h;have h1:=Bv hL _ hp h;have h2:=hr _ h1.1.lt;have r:=Xy hL hr nr signs hs n (kM L p 14 s 0 [] [] [a,(rk q).1]) (rk q).2 h2.lt;exact⟨(h1.1.trans h2).trans r.1,λha e=>r.2 (sI (s2 ha (nr _ h1.1.lt (r.1.z e))) (by decide) (uB (OA hs h))) e⟩
theorem zE8(hL:iR L){ki:PS->fZ × PS}{rk:PS->fo × PS}(hk:gF L ki)(hr:gF L rk)(nr:oZ L rk):oZ L (qc L ki rk):=λp hp=>by
 have h1:=hr p hp;have n1:=nr p hp;unfold qc;simp only;split
 ·rename_i s q h;have h2:=Bv hL _ h1.lt h;have h3:=hr _ h2.1.lt;intro e;exact sI (s2 (n1 (h2.1.z (h3.z e))) (nr _ h2.1.lt e)) (by decide) (uB (OA (by decide) h))
 split
 ·have h2:=iF hL h1.lt (s:=bs [97,115]);have h3:=hk _ h2.lt;intro e;exact sI (s1 (n1 (h2.z (h3.z e)))) (by decide)
 split
 ·have h2:=iF hL h1.lt (s:=bs [105,115]);split
  ·rename_i i q h;have h3:=Ez hL _ _ h2.lt h;intro e;have:wH.length=6:=rfl;unfold kM;rw[jr];exact⟨λz=>absurd z (by decide),λz=>absurd z (by decide),λ_=>by omega,uB Av,s1 (n1 (h2.z h3.2.2.1))⟩
  ·intro e;exact absurd e (Ey (by decide))
 ·exact n1
def zDr(hL:iR L){ki:PS->fZ × PS}{un:PS->fo × PS}(hk:gF L ki)(hu:gF L un)(nu:oZ L un):oZ L (Ew L ki un):=by
 obtain⟨t5,t4,t3,t2,t1,t0⟩:=FC hL hk hu;have op:∀(f:PS->fo × PS) (signs:List di),(∀x,x∈signs->x.size<=256)->gF L f->oZ L f->oZ L (λp=>kN L f signs (L.length+1) (f p).1 (f p).2):=λf signs hs tf nf p hp e=>by
  have r:=Xy hL tf nf signs hs (L.length+1) (f p).1 (f p).2 (tf p hp).lt;exact r.2 (nf p hp (r.1.z e)) e
 have n5:oZ L (Bj L un):=op un (qb 5) (by decide) hu nu;have n4:oZ L (Bl L un):=op _ (qb 4) (by decide) t5 n5;have n3:oZ L (Ev L un):=op _ (qb 3) (by decide) t4 n4;have n2:oZ L (Bn L ki un):=zE8 hL hk t3 n3;have n1:oZ L (Bo L ki un):=op _ (qb 1) (by decide) t2 n2;exact op _ (qb 0) (by decide) t1 n1
def Xz(hL:iR L){ex:PS->fo × PS}(he:gF L ex)(ne:oZ L ex):∀(n:Nat) (ns:List di) (ks:List fo) (p:PS),p.at'<L.length->vT ks->(qw L ex n ns ks p).2.e=0->vT (qw L ex n ns ks p).1.2
|0,ns,ks,p,hp,hk,e=>by rw[qw];exact hk
| n+1,ns,ks,p,hp,hk,e=>by
 have h1:=lS hL hp;have h2:=h1.trans (iP hL h1.lt (s:=bs [58]));have h3:=he _ h2.lt;have h4:=iF hL h3.lt (s:=bs [44]);have w:(ex (iV L (bs [58]) (iN L p).2)).2.e=0->vT (ks++[(ex (iV L (bs [58]) (iN L p).2)).1]):=λe=>(Ny _).2 λx hx=>by
  rcases aU.1 hx with hx|hx
  ·exact(Ny _).1 hk x hx
  ·rw[aP.1 hx];exact ne _ h2.lt e
 rw[qw]at e⊢;split
 ·rename_i c;rw[aB c]at e;exact Xz hL he ne n _ _ _ h4.lt (w (h4.z ((FD hL he n _ _ _ h4.lt).z e))) e
 ·rename_i c;rw[aA c]at e;exact w (h4.z e)
def YA(hN:uU L)(ex:PS->fo × PS):∀(n:Nat) (ns:List di) (ks:List fo) (p:PS),(∀x,x∈ns->x.size<=256)->∀x,x∈(qw L ex n ns ks p).1.1->x.size<=256
|0,ns,ks,p,h=>by rw[qw];exact h
| n+1,ns,ks,p,h=>by
 have w:∀x,x∈ns++[(iN L p).1]->x.size<=256:=λx hx=>by
  rcases aU.1 hx with hx|hx
  ·exact h x hx
  ·rw[aP.1 hx];exact CX hN p
 rw[qw];split
 ·exact YA hN ex n _ _ _ w
 ·exact w
def zAx(hL:iR L)(hN:uU L){ex:PS->fo × PS}(he:gF L ex)(ne:oZ L ex)(q p:PS)(hp:p.at'<L.length):(ui L ex q p).2.e=0->jr (ui L ex q p).1:=by
 unfold ui;split
 ·exactλ_=>sI trivial (by decide)
 split
 ·have h1:=he p hp;have h2:=iP hL h1.lt (s:=Bp);have h3:=h2.trans (lS hL h2.lt);have h4:=h3.trans (iP hL h3.lt (s:=bs [58]));have h5:=he _ h4.lt;have h6:=iP hL h5.lt (s:=bs [125]);intro e;have e5:=h6.z e;exact sI (s2 (ne _ hp (h4.z (h5.z e5))) (ne _ h4.lt e5)) (by decide) (uB (CX hN _))
 ·have h1:=FD hL he (L.length+1) [] [] p hp;have h2:=iP hL h1.lt (s:=bs [125]);intro e;exact sI (Xz hL he ne (L.length+1) [] [] p hp trivial (h2.z e)) (by decide) ⟨Av,YA hN ex _ _ _ _ λx hx=>by cases hx⟩
def zDs(hL:iR L)(hN:uU L){ki:PS->fZ × PS}{ex:PS->fo × PS}(hk:gF L ki)(he:gF L ex)(ne:oZ L ex):oZ L (wJ L ki ex):=λp hp=>by
 unfold wJ;by_cases c0:p.e=0/\(gU L p).kind=3
 ·rw[aB c0];exactλ_=>sI trivial (by decide)
 rw[aA c0];by_cases c1:p.e=0/\(gU L p).kind=4
 ·rw[aB c1];exactλ_=>sI trivial (by decide) (uB ((hN _).2 c1.2))
 rw[aA c1];by_cases c2:(gG L Bq p).1=true
 ·rw[aB c2];exactλ_=>by unfold kM;rw[jr];exact⟨λz=>absurd z (by decide),λ_=>by omega,λz=>absurd z (by decide),uB Av,trivial⟩
 rw[aA c2];by_cases c3:(gG L Br p).1=true
 ·rw[aB c3];exactλ_=>by unfold kM;rw[jr];exact⟨λz=>absurd z (by decide),λ_=>by omega,λz=>absurd z (by decide),uB Av,trivial⟩
 rw[aA c3];by_cases c4:(gG L Bt p).1=true
 ·rw[aB c4];exactλ_=>sI trivial (by decide)
 rw[aA c4];by_cases c5:(gG L xc p).1=true
 ·rw[aB c5];exactλ_=>sI trivial (by decide)
 rw[aA c5];by_cases c6:(gG L xA p).1=true
 ·rw[aB c6];have h1:=iF hL hp (s:=xA);have h2:=iP hL h1.lt (s:=bs [40]);have h3:=he _ h2.lt;exactλe=>sI (s1 (ne _ h2.lt ((iP hL h3.lt (s:=bs [41])).z e))) (by decide)
 rw[aA c6];by_cases c7:(gG L (bs [40]) p).1=true
 ·rw[aB c7];have h1:=iF hL hp (s:=bs [40]);exactλe=>ne _ h1.lt ((iP hL (he _ h1.lt).lt (s:=bs [41])).z e)
 rw[aA c7];by_cases c8:(gG L (bs [123]) p).1=true
 ·rw[aB c8];exact zAx hL hN he ne p _ (iF hL hp (s:=bs [123])).lt
 rw[aA c8];intro _;show jr (if(gG L (bs [91]) (iN L p).2).1=true then _ else _:fo × PS).1;split
 ·exact sI trivial (by decide) (uB (CX hN _))
 ·exact sI trivial (by decide) (uB (CX hN _))
def OB(hL:iR L)(hN:uU L){ex:PS->fo × PS}(he:gF L ex)(ne:oZ L ex):∀(n:Nat) (a:fo) (p:PS),p.at'<L.length->Tm L p (rY L ex n a p).2/\(jr a->(rY L ex n a p).2.e=0->jr (rY L ex n a p).1)
|0,a,p,hp=>by rw[rY];exact⟨Tm.refl hp,λha _=>ha⟩
| n+1,a,p,hp=>by
 rw[rY];split
 ·have h1:=iF hL hp (s:=bs [40]);have h2:=he _ h1.lt;have h3:=iP hL h2.lt (s:=bs [41]);have r:=OB hL hN he ne n (kM L p 7 (bs []) 0 [] [] [a,(ex (gG L (bs [40]) p).2).1]) _ h3.lt;exact⟨((h1.trans h2).trans h3).trans r.1,λha e=>r.2 (sI (s2 ha (ne _ h1.lt (h3.z (r.1.z e)))) (by decide)) e⟩
 split
 ·have h1:=iF hL hp (s:=bs [46]);have h2:=lS hL h1.lt;have r:=OB hL hN he ne n (kM L p 9 (iN L (gG L (bs [46]) p).2).1 0 [] [] [a]) _ h2.lt;exact⟨(h1.trans h2).trans r.1,λha e=>r.2 (by unfold kM;rw[jr];exact⟨λ_=>zDp hN (r.1.z e),λz=>absurd z (by decide),λz=>absurd z (by decide),uB (CX hN _),s1 ha⟩) e⟩
 ·exact⟨Tm.refl hp,λha _=>ha⟩
def zBO(hL:iR L)(hN:uU L){ki:PS->fZ × PS}{ex un:PS->fo × PS}(hk:gF L ki)(he:gF L ex)(ne:oZ L ex)(nu:oZ L un):oZ L (y5 L ki ex un):=λp hp=>by
 unfold y5;split
 ·exactλe=>sI (s1 (nu _ (iF hL hp (s:=bs [45])).lt e)) (by decide)
 split
 ·exactλe=>sI (s1 (nu _ (iF hL hp (s:=r9)).lt e)) (by decide)
 ·have ta:=I8 hL hk he p hp;have r:=OB hL hN he ne (L.length+1) (wJ L ki ex p).1 (wJ L ki ex p).2 ta.lt;exactλe=>r.2 (zDs hL hN hk he ne p hp (r.1.z e)) e
def zGk(hL:iR L)(hN:uU L){ki:PS->fZ × PS}(hk:gF L ki)(d:Nat):oZ L (tN L ki d).1/\oZ L (tN L ki d).2:=by
 have n0:jr mZ:=by simp[jr,mZ,vT]
 induction d with
 |zero=>exact⟨λp hp _=>n0,λp hp _=>n0⟩
 | succ d ih=>
  have tm:=FE hL hk d;have up:∀(f:PS->fo × PS),oZ L f->oZ L (λp=>if(ic L p).1=true then tL (f (ic L p).2)else(mZ,(ic L p).2)):=λf nf p hp=>by
   show(if(ic L p).1=true then _ else _:fo × PS).2.e=0->jr (if(ic L p).1=true then _ else _:fo × PS).1;by_cases c:(ic L p).1=true
   ·have hp':(ic L p).2.at'<L.length:=by rw[(y7 c).1];exact hp
    rw[aB c];exactλe=>nf _ hp' e
   ·rw[aA c];exactλ_=>n0
  rw[tN];exact⟨up _ (zDq hL hN hk tm.1 ih.1 (zDr hL hk tm.2 ih.2)),up _ (zBO hL hN hk tm.1 ih.1 ih.2)⟩
def YB(hL:iR L)(hN:uU L):∀(n:Nat) (l:List ik) (p:PS),p.at'<L.length->(qf L n l p).2.e=0->(∀d,d∈l->jr d.body)->∀d,d∈(qf L n l p).1->jr d.body
|0,l,p,hp,e,h,d,hd=>by rw[qf]at hd;exact h d hd
| n+1,l,p,hp,e,h,d,hd=>by
 rw[qf]at hd e;split at hd
 ·rename_i c;rw[aB c]at e;have h1:=Lr hL p hp;have e1:=(Ig hL n (l++[(qd L p).1]) _ h1.lt).z e;refine YB hL hN n _ _ h1.lt e (λx hx=>?_) d hd;rcases aU.1 hx with hx|hx
  ·exact h x hx
  ·rw[aP.1 hx];have h1:=iF hL hp (s:=zZ);have h2:=h1.trans (iP hL h1.lt (s:=sP));have h3:=h2.trans (lS hL h2.lt);have h4:=h3.trans (Ie hL _ h3.lt);have h5:=h4.trans (Ai hL (xk hL) _ h4.lt);have h6:=h5.trans (iP hL h5.lt (s:=bs [61]));have h7:=Ic hL _ h6.lt;exact(zGk hL hN (xk hL) 102).1 _ h6.lt ((iP hL h7.lt (s:=bs [59])).z e1)
 ·exact h d hd
end
def zBP(s:di):∀d,d∈(pW s).1.decs->jr d.body:=λd hd=>by
 unfold pW at hd;simp only at hd;by_cases q1:(kX s).2.e=0
 ·obtain⟨hL,hl⟩:=JE q1;rw[aA (λz=>z q1)]at hd;split at hd
  ·cases hd
  ·rename_i q2;have h0:ps0.at'<(kX s).1.length:=hL.pos;refine YB hL (zE7 s) _ _ _ (FJ hL _ _ _ h0).lt ?_ (λx hx=>by cases hx) d hd;apply ae;intro z;refine q2 ?_;unfold tV;rw[aA (λy=>z y.1)];exact z
 ·rw[aB q1]at hd;cases hd
end Go.Gr
namespace Go.Gr
open Go.Abs Go.Proofs
def OC(l:List Int)(x:Int):List Int:=if x∈l then l else l++[x]
def OD(l r:List Int):List Int:=r.foldl OC l
def GI(x:Int):List Int->List Int
|[]=>[x]
|y::l=>if x<=y then x::y::l else y::GI x l
def GJ:List Int->List Int
|[]=>[]
|x::l=>GI x (GJ l)
structure vG where
 name:di
 body:fw
 caps:List Int
 deep:Int
 none:Bool
structure Flt where
 name:di
 caps:Int
 body:fw
def GK(x:Int):List Int->Nat->Int
|[],_=> -1
|y::l,i=>if x=y then i else GK x l (i+1)
def GL(t:vG)(n:Int):Int:=if t.deep<=n then n-t.deep+t.caps.length else GK n t.caps 0
mutual
def GM:fw->Int->List Int
|.mk k n _ _ _ _ _ ks,b=>(if k=4/\n<b then [n]else [])++YC ks b
def YC:List fw->Int->List Int
|[],_=>[]
|c::l,b=>GM c b++YC l b
end
def YD(c:fw)(b:Int):List Int:=GJ (OD [] (GM c b))
mutual
def zHs(t:vG):fw->Int->List vG->fw × List vG
| .mk k n tx is ns ts cs ks=>λdeep l=>
 if k=4 then(.mk k (GL t n) tx is ns ts cs ks,l)
 else if k=5 then
  (.mk 23 l.length (bs []) ((YD (ks.getD 0 noC) deep).map (GL t)) [] [] [] [],l++[⟨t.name++bs [39],ks.getD 0 noC,YD (ks.getD 0 noC) deep,deep,false⟩])
 else(.mk k n tx is ns ts cs (OE t k ks 0 deep l).1,(OE t k ks 0 deep l).2)
def OE(t:vG)(k:Int):List fw->Nat->Int->List vG->List fw × List vG
|[]=>λ_ _ l=>([],l)
|c::r=>λi deep l=>
 let x:=zHs t c (if k=18 then deep+i else deep) l;let y:=OE t k r (i+1) deep x.2
 (x.1::y.1,y.2)
end
mutual
def iQ:fw->Nat
|.mk _ _ _ _ _ _ _ ks=>1+gu ks
def gu:List fw->Nat
|[]=>0
|c::l=>iQ c+gu l
end
mutual
def vU:Nat->fw->Prop
|m,.mk k n _ _ _ ts _ ks=>k≠23/\(k=18->ks.length<=2)/\(k=21->ks.length=1/\ts.length=2)/\(k=4->0<=n/\n<m/\ks=[])/\(k=5->ks.length=1)/\oK m k ks 0
def oK:Nat->Int->List fw->Nat->Prop
|_,_,[],_=>True
|m,k,c::l,i=>vU (if k=5 then m+1 else if k=18 then m+i else m) c/\oK m k l (i+1)
end
def CW(m b:Nat)(c:fw):Prop:=vU m c/\iQ c<=b
def CW.less{m b b':Nat}{c:fw}(h:CW m b c)(hb:b<=b'):CW m b' c:=⟨h.1,aj h.2 hb⟩
def CW.n0(m:Nat)(k n:Int)(t:di)(h4:k≠4)(h5:k≠5)(h23:k≠23)(h21:k≠21):CW m 1 (.mk k n t [] [] [] [] []):=by
 simp[CW,vU,oK,iQ,gu,h4,h5,h23,h21]
def CW.n1{m b:Nat}{k n:Int}{t:di}{ns:List di}{ts:List fZ}{c:fw}(h:CW m b c)(h4:k≠4)(h5:k≠5)(h23:k≠23)(h21:k=21->ts.length=2):CW m (b+1) (.mk k n t [] ns ts [] [c]):=by
 have:=h.2;refine⟨by simpa[vU,oK,h4,h5,h23]using ⟨h21,h.1⟩,by simp only[iQ,gu];omega⟩
def CW.n2{m b b':Nat}{k n:Int}{t:di}{ns:List di}{ts:List fZ}{c d:fw}(h:CW m b c)(h':CW m b' d)(h4:k≠4)(h5:k≠5)(h18:k≠18)(h23:k≠23)(h21:k≠21):CW m (b+b'+1) (.mk k n t [] ns ts [] [c,d]):=by
 have:=h.2;have:=h'.2;refine⟨by simpa[vU,oK,h4,h5,h18,h23,h21]using ⟨h.1,h'.1⟩,by simp only[iQ,gu];omega⟩
def CW.n3{m b b' b'':Nat}{k n:Int}{t:di}{ns:List di}{ts:List fZ}{c d e:fw}(h:CW m b c)(h':CW m b' d)(h'':CW m b'' e)(h4:k≠4)(h5:k≠5)(h18:k≠18)(h23:k≠23)(h21:k≠21):CW m (b+b'+b''+1) (.mk k n t [] ns ts [] [c,d,e]):=by
 have:=h.2;have:=h'.2;have:=h''.2;refine⟨by simpa[vU,oK,h4,h5,h18,h23,h21]using ⟨h.1,h'.1,h''.1⟩,by simp only[iQ,gu];omega⟩
def CW.noC(m:Nat):CW m 1 noC:=CW.n0 m 0 0 _ (by decide) (by decide) (by decide) (by decide)
def CW.cast{m b:Nat}{x:fw}(h:CW m b x)(t u:fZ)(ln cl:Int)(s:CS):CW m (b+1) (lH x t u ln cl s).1:=by
 unfold lH;split
 ·exact h.less (by omega)
 ·exact h.n1 (by decide) (by decide) (by decide) (λ_=>rfl)
def CW.coerce{m b:Nat}{x:fw}(h:CW m b x)(t u:fZ)(ln cl:Int)(s:CS):CW m (b+1) (jw x t u ln cl s).1:=by
 unfold jw;split
 ·exact h.less (by omega)
 split
 ·exact h.less (by omega)
 split
 ·exact h.cast _ _ _ _ _
 ·exact h.less (by omega)
def CW.any{m b:Nat}{x:(fw × fZ) × CS}(h:CW m b x.1.1)(u:fZ)(ln cl:Int):CW m (b+1) (jV u ln cl x).1.1:=by
 unfold jV;split
 ·exact h.cast _ _ _ _ _
 ·exact h.less (by omega)
def CW.global(L:gq)(m:Nat)(ln cl:Int)(e:iO)(l:List fZ)(s:CS):CW m 1 (p8 L ln cl e l s).1.1:=by
 unfold p8;split
 ·exact CW.noC m
 ·exact CW.n0 m 6 _ _ (by decide) (by decide) (by decide) (by decide)
def YE{m:Nat}{k:Int}(h5:k≠5)(h18:k≠18):∀{l:List fw} {i:Nat},(∀c,c∈l->vU m c)->oK m k l i
|[],_,_=>by simp[oK]
|c::l,i,h=>by
 rw[oK,aA h5,aA h18];exact⟨h c (by simp),YE h5 h18 λx hx=>h x (by simp[hx])⟩
end Go.Gr
