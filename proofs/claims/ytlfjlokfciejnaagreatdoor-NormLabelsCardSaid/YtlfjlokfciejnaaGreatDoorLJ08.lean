/- Texts of ours, joined and written short by a program of ours. -/
import Derived.Test.YtlfjlokfciejnaaGreatDoorLJ07
import Derived.Test.YtlfjlokfciejnaaGreatDoorLJ06
set_option maxRecDepth 20000
set_option maxHeartbeats 4000000
set_option linter.unusedVariables false
set_option linter.unusedSimpArgs false
namespace Go.Gr
open Go.Abs Go.Proofs List
def il(v:fF × gU):List D:=.str v.1::v.2.enc
def jl.enc(i:jl):List D:=[.str i.from_,.sl false 1 (encS i.names),.int .i64 i.line,.int .i64 i.col]
def jZ.enc(d:jZ):List D:=[.str d.name,.bool d.exp,.sl false 5 (d.vars.map il),.str d.param,.sl false 4 (d.types.map gU.enc)]++d.body.enc++[.int .i64 d.line,.int .i64 d.col]
def jW.enc(m:jW):List D:=[.sl false 4 (m.imps.map jl.enc),.sl false 15 (m.decs.map jZ.enc)]
@[simp] theorem zJd(v:fF × gU):(il v).length=5:=by simp[il]
@[simp] theorem jl.enc_length(v:jl):v.enc.length=4:=rfl
@[simp] theorem jZ.enc_length(v:jZ):v.enc.length=15:=by simp[jZ.enc]
@[simp] theorem jW.enc_length(v:jW):v.enc.length=2:=rfl
theorem TV(v:fF × gU):D.erdL (il v)=il v:=by simp[il]
theorem TW:∀l:List (fF × gU),D.erdE (l.map il)=l.map il
|[]=>rfl
|v::l=>by simp only[map_cons,D.erdE,TV,TW l]
@[simp] theorem zGc:∀a b:List D,D.erdL (a++b)=D.erdL a++D.erdL b
|[],_=>rfl
|x::a,b=>by simp only[cons_append,D.erdL,zGc a b]
@[simp] theorem zw8:∀a b:List (List D),D.erdE (a++b)=D.erdE a++D.erdE b
|[],_=>rfl
|x::a,b=>by simp only[cons_append,D.erdE,zw8 a b]
attribute [simp] TV TW
@[simp] theorem jl.erdL(v:jl):D.erdL v.enc=v.enc:=by simp[jl.enc]
@[simp] theorem jl.erdE:∀l:List jl,D.erdE (l.map jl.enc)=l.map jl.enc
|[]=>rfl
|v::l=>by simp only[map_cons,D.erdE,jl.erdL,jl.erdE l]
@[simp] theorem zJ4(a b c d e:AC)(T:gU):splice [a,b,c,d,e] 1 (T.enc.map AC.d)=a::T.enc.map .d:=by rw[T.enc_eq];try rfl
theorem Ls:∀v:List (List D),(D.erdE v).length=v.length
|[]=>rfl
|d::v=>by simp only[D.erdE,length_cons,Ls v]
section
variable {L:List Tok}
theorem I7(hL:jJ L):∀(n:Nat) (l:List fF),iA L (uW L n l)
|0,l,p,hp=>Tm.refl hp
|n+1,l,p,hp=>by
 have h1:=mE hL hp;have h2:=h1.trans (ig hL h1.lt (s:=bs [44]));rw[uW];split
 ·exact h2.trans (I7 hL n _ _ h2.lt)
 ·exact h2
theorem y5(hL:jJ L):iA L (uy L):=Lh hL 102
theorem I8(hL:jJ L):iA L (Dy L):=(FK hL (y5 hL) 102).1
theorem TZ(hL:jJ L)(hl:L.length<=10000):qL L 0 (uy L):=λr hr hd=>Lr hL hl 102 r hr (by omega) (by omega)
theorem zJl(hL:jJ L)(hl:L.length<=10000):nU L 126 0 (Dy L):=(TU hL hl 102 0 (by omega) (by omega)).1
def uY(L:List Tok)(p:PS):gU × PS:=if(iC L (bs [60,58]) p).1=true then uy L (iC L (bs [60,58]) p).2 else(noT,p)
theorem zIG(hL:jJ L):iA L (uY L):=λp hp=>by
 unfold uY;split
 ·have h1:=ig hL hp (s:=bs [60,58]);exact h1.trans (y5 hL _ h1.lt)
 ·exact Tm.refl hp
theorem T9(n:Nat)(l:List (fF × gU))(p:PS):yV L (n+1) l p=if(iC L (bs [44]) (uY L (jI L p).2).2).1=true then yV L n (l++[((jI L p).1,(uY L (jI L p).2).1)]) (iC L (bs [44]) (uY L (jI L p).2).2).2 else(l++[((jI L p).1,(uY L (jI L p).2).1)],jQ L (bs [93]) (iC L (bs [44]) (uY L (jI L p).2).2).2):=by
 rw[yV];try rfl
theorem Ta(hL:jJ L):∀(n:Nat) (l:List (fF × gU)),iA L (yV L n l)
|0,l,p,hp=>Tm.refl hp
|n+1,l,p,hp=>by
 have h1:=mE hL hp;have h2:=h1.trans (zIG hL _ h1.lt);have h3:=h2.trans (ig hL h2.lt (s:=bs [44]));rw[T9];split
 ·exact h3.trans (Ta hL n _ _ h3.lt)
 ·exact h3.trans (jE hL h3.lt)
theorem I9(hL:jJ L):iA L (yX L):=λp hp=>by
 unfold yX;split
 ·have h1:=ig hL hp (s:=bs [91]);exact h1.trans (Ta hL _ _ _ h1.lt)
 ·exact Tm.refl hp
theorem FO(hL:jJ L):∀(n:Nat) (l:List jl),iA L (xQ L n l)
|0,l,p,hp=>Tm.refl hp
| n+1,l,p,hp=>by
 rw[xQ];split
 ·have h1:=ig hL hp (s:=xP);have h2:=h1.trans (mE hL h1.lt);have h3:=h2.trans (jE hL h2.lt (s:=bs [58]));have h4:=h3.trans (I7 hL (L.length+1) [] _ h3.lt);have h5:=h4.trans (jE hL h4.lt (s:=bs [59]));exact h5.trans (FO hL n _ _ h5.lt)
 ·exact Tm.refl hp
theorem Lt(hL:jJ L):iA L (ry L):=λp hp=>by
 have h1:=ig hL hp (s:=AY);have h2:=h1.trans (jE hL h1.lt (s:=uF));have h3:=h2.trans (mE hL h2.lt);have h4:=h3.trans (I9 hL _ h3.lt);have h5:=h4.trans (BZ hL (y5 hL) _ h4.lt);have h6:=h5.trans (jE hL h5.lt (s:=bs [61]));have h7:=h6.trans (I8 hL _ h6.lt);exact h7.trans (jE hL h7.lt (s:=bs [59]))
theorem Ia(hL:jJ L):∀(n:Nat) (l:List jZ),iA L (rz L n l)
|0,l,p,hp=>Tm.refl hp
| n+1,l,p,hp=>by
 rw[rz];split
 ·have h1:=Lt hL _ hp;exact h1.trans (Ia hL n _ _ h1.lt)
 ·exact Tm.refl hp
theorem zEH(hL:jJ L):iA L (BX L):=λp hp=>by
 have h1:=FO hL (L.length+1) [] _ hp;exact h1.trans (Ia hL (L.length+1) [] _ h1.lt)
theorem zEI(hL:jJ L)(hl:L.length<=10000)(p:PS)(h:p.at'<L.length):
  MCall Pg 123 [.c (.ptr 0 0)] [jv L p] (.c (.d (.sl false 1 (encS (uW L (L.length+1) [] p).1)))) [jv L (uW L (L.length+1) [] p).2]:=by
 refine zB9 nD λts hts ok hb c hN hp=>?_;obtain⟨t,rfl⟩:=lw hts;obtain⟨F0,hF0⟩:∃F0,uW L (L.length+1) [] p=F0:=⟨_,rfl⟩
 rw[hF0];unfold Sm;simp;refine fV [.t 3] ?_;simp
 refine fP gz hp (λx:Nat × List fF × PS=>uW L x.1 x.2.1 x.2.2=F0/\Tm L p x.2.2/\L.length<x.1+x.2.2.at'/\x.2.1.length<=x.2.2.at')
  (λx=>[(0,.c (.ptr 0 0)),(3,.c (.msl 1 2 0 x.2.1.length))])
  (λx=>[jv L x.2.2,.pin t 0,.arr 1 ((encS x.2.1).map (·.map .d))])
  (λx=>x.1) (L.length+1,[],p) [0,1,2] ⟨hF0,Tm.refl h,by simp only;omega,by simp⟩ (by simp) λ⟨n,l,q⟩ ⟨i1,i2,i3,i4⟩=>?_
 unfold Sl;simp only at i1 i2 i4;have i3:L.length<n+q.at':=i3;have hlt:=i2.lt;obtain⟨n,rfl⟩:∃m,n=m+1:=⟨n-1,by omega⟩
 rw[uW]at i1;have e1:=mE hL hlt;have le1:=e1.le;have a1:=xR q hlt hl;have a2:=mF (bs [44]) _ e1.lt hl;generalize (jI L q).1=s at*
 generalize (jI L q).2=q1 at*
 simp;refine gP [0] a1 ?_;simp;refine⟨by omega,?_⟩;refine gP [0] a2 ?_;by_cases q2:(iC L (bs [44]) q1).1=true
 ·rw[aC q2]at i1;have hat:=(take_at q2).1;have e2:=e1.trans (ig hL e1.lt (s:=bs [44]));generalize (iC L (bs [44]) q1).2=q3 at*
  simp[q2];refine fG (n,l++[s],q3) [0,1,3] ⟨i1,i2.trans e2,by simp only;omega,by simp;omega⟩ (by simp) ?_;simp;exact aD (by simp)
 ·rw[aB q2,lN q2]at i1;rw[lN q2,<-i1];rw[aM]at q2;have z:take l.length (List.map (λx=>List.map AC.d x) (encS l))=List.map (λx=>List.map AC.d x) (encS l):=aD (by simp);have z2:take (l.length+1) (encS l++[[.str s]])=encS l++[[.str s]]:=aD (by simp);simp[q2];refine fU [3] ?_;simp[iZ,z];exact fO [0] [1] (by simp[iZ,z,z2])
theorem zGd(hL:jJ L)(hl:L.length<=10000)(p:PS)(h:p.at'<L.length)(hd:p.deep=0):
  MCall Pg 124 [.c (.ptr 0 0)] [jv L p] (.c (.d (.sl false 5 ((yX L p).1.map il)))) [jv L (yX L p).2]:=by
 refine zDM nD λts hts ok hb c hN hp=>?_;obtain⟨t,rfl⟩:=lw hts;have c1:=mF (bs [91]) p h hl;unfold Sq yX;simp;refine gP [0] c1 ?_;by_cases q0:(iC L (bs [91]) p).1=true
 ·rw[aC q0];have t1:=ig hL h (s:=bs [91]);obtain⟨F0,hF0⟩:∃F0,yV L (L.length+1) [] (iC L (bs [91]) p).2=F0:=⟨_,rfl⟩
  rw[hF0];generalize (iC L (bs [91]) p).2=p1 at*
  have hd1:p1.deep=0:=by rw[t1.deep,hd]
  simp[q0];refine fV [.t 3] ?_;simp
  refine fP gz hp (λx:Nat × List (fF × gU) × List (List D) × PS=>yV L x.1 x.2.1 x.2.2.2=F0/\Tm L p1 x.2.2.2/\L.length<x.1+x.2.2.2.at'/\x.2.1.length<=x.2.2.2.at'/\D.erdE x.2.2.1=x.2.1.map il)
   (λx=>[(0,.c (.ptr 0 0)),(3,.c (.msl 5 2 0 x.2.2.1.length))])
   (λx=>[jv L x.2.2.2,.pin t 0,.arr 5 (x.2.2.1.map (·.map .d))])
   (λx=>x.1) (L.length+1,[],[],p1) [0,1,2] ⟨hF0,Tm.refl t1.lt,by simp only;omega,by simp,rfl⟩ (by simp) λ⟨n,l,v,q⟩ ⟨i1,i2,i3,i4,i5⟩=>?_
  unfold Sn;simp only at i1 i2 i4 i5;have i3:L.length<n+q.at':=i3;have hvl:v.length=l.length:=by rw[<-Ls,i5,aV]
  have hlt:=i2.lt;obtain⟨n,rfl⟩:∃m,n=m+1:=⟨n-1,by omega⟩
  rw[T9]at i1;have e1:=mE hL hlt;have le1:=e1.le;have a1:=xR q hlt hl;have a2:=mF (bs [60,58]) _ e1.lt hl;generalize (jI L q).1=s at*
  generalize (jI L q).2=q1 at*
  simp;refine gP [0] a1 ?_;simp;refine gP [0] a2 ?_;unfold uY at i1;by_cases b1:(iC L (bs [60,58]) q1).1=true
  ·rw[aC b1]at i1;have e2:=e1.trans (ig hL e1.lt (s:=bs [60,58]));have e3:=e2.trans (y5 hL _ e2.lt);have hat:=(take_at b1).1;have le3:=(y5 hL _ e2.lt).le;have a3:=TZ hL hl _ e2.lt (by rw[e2.deep,i2.deep,hd1]);have a4:=mF (bs [44]) _ e3.lt hl;generalize (iC L (bs [60,58]) q1).2=q2 at*
   generalize (uy L q2).1=T at*
   generalize (uy L q2).2=q3 at*
   simp[b1];refine gP [0] a3 ?_;simp;refine⟨by omega,?_⟩;refine gP [0] a4 ?_;by_cases q2:(iC L (bs [44]) q3).1=true
   ·rw[aC q2]at i1;have hat:=(take_at q2).1;have e4:=e3.trans (ig hL e3.lt (s:=bs [44]));generalize (iC L (bs [44]) q3).2=q4 at*
    simp[q2];refine fG (n,l++[(s,T)],v++[.str s::T.enc],q4) [0,1,4] ⟨i1,i2.trans e4,by simp only;omega,by simp;omega,by simp[i5,il]⟩ (by simp) ?_;simp;exact aD (by simp)
   ·rw[aB q2,lN q2]at i1;rw[lN q2,<-i1];rw[aM]at q2;have a3:=oJ hL (bs [93]) _ e3.lt hl;have z:take v.length (List.map (λx=>List.map AC.d x) v)=List.map (λx=>List.map AC.d x) v:=aD (by simp);have z2:take (v.length+1) (v++[.str s::T.enc])=v++[.str s::T.enc]:=aD (by simp);simp[q2];refine fU [4] ?_;simp[iZ,z];refine gP [0] a3 ?_;simp[iZ,z];exact fJ [0] [1] (by simp[iZ,z,z2,i5,il])
  ·rw[aB b1]at i1;rw[lN b1];rw[aM]at b1;have a4:=mF (bs [44]) _ e1.lt hl;simp[b1];refine⟨by omega,?_⟩;refine gP [0] a4 ?_;by_cases q2:(iC L (bs [44]) q1).1=true
   ·rw[aC q2]at i1;have hat:=(take_at q2).1;have e4:=e1.trans (ig hL e1.lt (s:=bs [44]));generalize (iC L (bs [44]) q1).2=q4 at*
    simp[q2];refine fG (n,l++[(s,noT)],v++[[.str s,.int .i64 0,.str (bs []),.sl true 1 [],.sl true 4 []]],q4) [0,1,4] ⟨i1,i2.trans e4,by simp only;omega,by simp;omega,by simp[i5,il,noT,gU.enc,gU.encs,encS]⟩ (by simp) ?_;simp;exact aD (by simp)
   ·rw[aB q2,lN q2]at i1;rw[lN q2,<-i1];rw[aM]at q2;have a3:=oJ hL (bs [93]) _ e1.lt hl;have z:take v.length (List.map (λx=>List.map AC.d x) v)=List.map (λx=>List.map AC.d x) v:=aD (by simp);have z2:take (v.length+1) (v++[[.str s,.int .i64 0,.str (bs []),.sl true 1 [],.sl true 4 []]])=v++[[.str s,.int .i64 0,.str (bs []),.sl true 1 [],.sl true 4 []]]:=aD (by simp);simp[q2];refine fU [4] ?_;simp[iZ,z];refine gP [0] a3 ?_;simp[iZ,z];exact fJ [0] [1] (by simp[iZ,z,z2,i5,il,noT,gU.enc,gU.encs,encS])
 ·rw[aB q0,lN q0];rw[aM]at q0;simp[q0];exact fJ [0] [1] (by simp)
end
theorem EC(c:Int):gY Pg 72 [.one (.int .u8 c)] (.one (.bool (tF c))):=by
 refine zje (by simp) λo c' hN hp=>?_;unfold Rk tF;by_cases h1:97<=c<;>by_cases h2:c<=122<;>by_cases h3:65<=c<;>by_cases h4:c<=90<;>simp[h1,h2,h3,h4]<;>(try (intros;omega))<;>(try omega)
theorem ED(c:Int):gY Pg 71 [.one (.int .u8 c)] (.one (.bool (pU c))):=by
 refine zj3 (by simp) λo c' hN hp=>?_;unfold Rl pU;by_cases h1:48<=c<;>by_cases h2:c<=57<;>simp[h1,h2]<;>(try omega)
theorem Lu:gY Pg 118 [] (.one (.sl false 1 (encS Ce))):=by
 refine zj2 (by simp) λo c' hN hp=>?_;unfold Rh;simp[Ce,encS]
theorem Lv(s:fF):gY Pg 70 [.one (.str s)] (.one (.bool (zM s))):=by
 refine zkU (by simp) λo c' hN hp=>?_;unfold Rj zM;have hl:Ce.length=25:=rfl;obtain⟨l,hwl⟩:∃l,Ce=l:=⟨_,rfl⟩
 rw[hwl]at hl⊢;obtain⟨R,hR⟩:∃R,(l.any λw=>decide (w=s))=R:=⟨_,rfl⟩
 rw[hR];have hw:=Lu;rw[hwl]at hw;simp;refine gT hw ?_;simp;refine fP gz hp (λj:Nat=>j<=l.length/\(l.drop j).any (λw=>decide (w=s))=R) (λj=>[(4,.c (.d (.int .i64 j))),(3,.c (.d (.sl false 1 (encS l)))),(0,.c (.d (.str s)))]) (λ_=>[]) (λj=>l.length-j) 0 [] ⟨by simp,by simpa using hR⟩ (by simp) λj ⟨h1,h2⟩=>?_;unfold Ri;simp;apply gN<;>intro h
 ·have hj:j<l.length:=by simpa using h
  rw[aG hj,any_cons]at h2;simp[aA hj];apply gN<;>intro h
  ·rw[h]at h2;simp[<-h2]
  ·rw[h]at h2;refine fG (j+1) [] ⟨by omega,h2⟩ (by omega) ?_;simp;exact wI
 ·have hj:j=l.length:=by simp at h;omega
  subst hj;rw[aQ,any_nil]at h2;simp[<-h2]
theorem zJa{a b:List UInt8}(h:bA a=bA b):a=b:=by
 have:(bA a).data.toList=(bA b).data.toList:=by rw[h]
 simpa[bA]using this
theorem Lx(s:fF):bA s.data.toList=s:=by
 cases s;simp[bA]
theorem Ib(s:fF)(a b:Nat):s.extract a b=bA ((s.data.toList.drop a).take (b-a)):=by
 rw[<-Lx (s.extract a b)];congr 1;simp[ByteArray.data_extract,Array.toList_extract]
theorem Ic(s:fF):gY Pg 45 [.one (.str s)] (.one (.bool (nE s))):=by
 refine zkV (by simp) λo c' hN hp=>?_;have hs:s.size<=zah:=by have:=o.1;simpa only[DV.ok,D.ok]using this
 unfold zah at hs;have hlen:=uX s;obtain⟨R,hR⟩:∃R,nE s=R:=⟨_,rfl⟩
 rw[hR];unfold nE at hR;unfold Rn;by_cases h0:s.size=0
 ·have hL:s.data.toList=[]:=aU.1 (by omega);rw[hL]at hR;simp only at hR;subst hR;simp;refine gT (Lv s) ?_;simp[h0]
 have hj0:0<s.data.toList.length:=by omega
 have hb0:=xU hj0;have hR:(decide (s.size<=32)&&(!zM s&&(!kF s.data.toList[0]&&s.data.toList.all λb=>mX b||kF b)))=R:=by
  rw[<-hR];revert hj0;cases s.data.toList with
  |nil=>intro h;simp at h
  |cons c l=>intro h _;rfl
 simp;refine gT (Lv s) ?_;have h0':¬(s.size:Int)=0:=by omega
 by_cases h32:s.size<=32;rotate_left
 ·have h32':(32:Int)<s.size:=by omega
  simp[h32]at hR;simp[h0,h0',h32',hR]
 have h32':¬(32:Int)<s.size:=by omega
 simp only[h32,decide_true,Bool.true_and]at hR;generalize zM s=wv at*
 cases wv with
 |true=>
  simp at hR;simp[h0,h0',h32',hR]
 | false=>
  simp only[Bool.not_false,Bool.true_and]at hR;generalize s.data.toList[0]=b0 at*
  have hd:kF b0=pU b0.toNat:=rfl;simp[h0,h0',h32',hb0];refine gT (ED b0.toNat) ?_;rw[<-hd];generalize kF b0=d0 at*
  cases d0 with
  |true=>
   simp at hR;simp[hR]
  | false=>
   simp only[Bool.not_false,Bool.true_and]at hR;simp;refine fP gz hp (λj:Nat=>j<=s.size/\((s.data.toList.drop j).all λb=>mX b||kF b)=R) (λj=>[(4,.c (.d (.int .i64 j))),(0,.c (.d (.str s)))]) (λ_=>[]) (λj=>s.size-j) 0 [] ⟨by simp,by simpa using hR⟩ (by simp) λj ⟨h1,h2⟩=>?_;unfold Rm;simp;apply gN<;>intro h
   ·have hj:j<s.size:=by simpa using h
    have hj':j<s.data.toList.length:=by omega
    rw[aG hj',all_cons]at h2;have hb:=xU hj';generalize s.data.toList[j]=b at h2 hb;have hd:kF b=pU b.toNat:=rfl;have hle:mX b=tF b.toNat:=rfl;simp[hb];refine gT (EC b.toNat) ?_;rw[<-hle];simp[hb];refine gT (ED b.toNat) ?_;rw[<-hd];generalize mX b=x1 at*
    generalize kF b=x2 at*
    cases x1<;>cases x2
    ·simp at h2;simp[h2]
    all_goals
     simp only[Bool.or_true,fB,Bool.true_and,Bool.or_self]at h2;simp;refine fG (j+1) [] ⟨by omega,h2⟩ (by omega) ?_;simp;exact wI
   ·have hj:j=s.size:=by simp at h;omega
    subst hj;rw[bH (by omega),all_nil]at h2;simp[<-h2]
def lh:List fF:=[bs [45,62],bs [61,62],bs [60,58],bs [60,60],bs [60,61],bs [62,62],bs [61,61],bs [43,43]]
def uZ:fF:=bs [40,41,123,125,91,93,44,58,59,61,43,45,42,47,37,38,94,60,124,46]
theorem zIm:lh=xJ.map bA:=by decide
theorem MB:uZ.data.toList=nT:=by decide
theorem zIn(s:fF):(xJ.any λt=>decide (s.data.toList.take 2=t))=(lh.any λt=>decide (s.extract 0 2=t)):=by
 rw[zIm,any_map];congr 1;funext t;simp only[Function.comp];rw[Ib];simp only[drop_zero,dh];by_cases h:s.data.toList.take 2=t
 ·simp[h]
 ·have:¬bA (s.data.toList.take 2)=bA t:=λe=>h (zJa e);simp[h,this]
theorem zFF{s:fF}(h:s.size<2):(xJ.any λt=>decide (s.data.toList.take 2=t))=false:=by
 have hlen:=uX s;rw[dV];intro t ht;have h2:t.length=2:=by
  revert t;decide
 simp only[aI];intro e;have:=dL length e;rw[bN]at this;omega
theorem zIo(s:fF)(hpos:0<s.size):gY Pg 178 [.one (.str s)] (.one (.int .i64 (zL s.data.toList))):=by
 refine zDz (by simp) λo c' hN hp=>?_;have hs:s.size<=zah:=by have:=o.1;simpa only[DV.ok,D.ok]using this
 unfold zah at hs;have hlen:=uX s;obtain⟨R,hR⟩:∃R,zL s.data.toList=R:=⟨_,rfl⟩
 rw[hR];have hj0:0<s.data.toList.length:=by omega
 have hb0:=xU hj0;have hR:(if(xJ.any λt=>decide (s.data.toList.take 2=t))=true then 2 else if s.data.toList[0]∈nT then 1 else 0)=R:=by
  rw[<-hR];revert hj0;unfold zL;cases s.data.toList with
  |nil=>intro h;simp at h
  |cons c l=>intro h _;rfl
 generalize s.data.toList[0]=b0 at*
 have k2:∀{Q:Exit->St->Prop} {S:St} {g} {ms:List Nat} (h0:iM ms S [(6,.c (.d (.int .i64 0))),(5,.c (.d (.str uZ))),(0,.c (.d (.str s)))] []),
   (b0∈nT->∀T M n,Abs.look T 2=.c (.d (.int .i64 1))->Q .ret ⟨T,M,n⟩)->(b0∉nT->∀T M n,Q (.exit 2) ⟨T,M,n⟩)->mV Pg c' LZ Q g S:=by
  intro Q S g ms h0 hy hn;refine fP gz hp (λj:Nat=>j<=nT.length/\(b0∈nT.drop j↔b0∈nT)) (λj=>[(6,.c (.d (.int .i64 j))),(5,.c (.d (.str uZ))),(0,.c (.d (.str s)))]) (λ_=>[]) (λj=>nT.length-j) 0 ms ⟨by simp,by simp⟩ h0 λj ⟨h1,h2⟩=>?_;have hsz:uZ.size=nT.length:=by rw[<-uX,MB]
  unfold LZ;simp[hsz];apply gN<;>intro h
  ·have hj:j<nT.length:=by simpa using h
   have hb:uZ.data[j]?=some nT[j]:=by
    have:=xU (s:=uZ) (j:=j) (by rw[MB];exact hj);rw[this];simp only[MB]
   rw[aG hj,aN]at h2;generalize nT[j]=b at*
   simp[hb0,hb];refine⟨by decide,?_⟩;by_cases e:b0=b
   ·subst e;simp;exact hy (h2.1 (.inl rfl)) _ _ _ (by simp)
   ·have e':¬(b0.toNat:Int)=b.toNat:=λq=>e (dY.mp (by omega));have e'':¬b0.toNat=b.toNat:=λq=>e (dY.mp (by omega));simp[e',e'',e];refine fG (j+1) [] ⟨by omega,⟨λz=>h2.1 (.inr z),λz=>(h2.2 z).resolve_left e⟩⟩ (by omega) ?_;simp;exact wrap_i64 (by have:nT.length=20:=rfl;omega) (by have:nT.length=20:=rfl;omega)
  ·have hj:j=nT.length:=by simp at h;omega
   subst hj;rw[aQ]at h2;exact hn (λz=>by simpa using h2.2 z) _ _ _
 unfold Ro;simp;by_cases h2s:s.size<2
 ·have hz:=zFF h2s;rw[hz]at hR;simp only[af,if_false]at hR;have h2':¬(2:Int)<=s.size:=by omega
  refine fP gz hp (λj:Nat=>j<=lh.length) (λj=>[(4,.c (.d (.int .i64 j))),(3,.c (.d (.sl true 1 (encS lh)))),(0,.c (.d (.str s)))]) (λ_=>[]) (λj=>lh.length-j) 0 [] (by simp) (by simp[encS,lh]) λj h1=>?_;unfold LY;simp;apply gN<;>intro h
  ·have hj:j<lh.length:=by simpa using h
   simp[h2'];refine⟨by decide,?_⟩;refine fG (j+1) [] (by omega) (by omega) ?_;simp;exact wrap_i64 (by have:lh.length=8:=rfl;omega) (by have:lh.length=8:=rfl;omega)
  ·skip
   refine k2 (ms:=[]) (by simp[uZ]) (λhm T M n ht=>?_) (λhm T M n=>?_)
   ·rw[aC hm]at hR;subst hR;simp[ht]
   ·rw[aB hm]at hR;subst hR;simp
 ·rw[zIn]at hR;have h2':(2:Int)<=s.size:=by omega
  have h2'':2<=s.size:=by omega
  refine fP gz hp (λj:Nat=>j<=lh.length/\(lh.drop j).any (λt=>decide (s.extract 0 2=t))=lh.any (λt=>decide (s.extract 0 2=t))) (λj=>[(4,.c (.d (.int .i64 j))),(3,.c (.d (.sl true 1 (encS lh)))),(0,.c (.d (.str s)))]) (λ_=>[]) (λj=>lh.length-j) 0 [] ⟨by simp,by simp⟩ (by simp[encS,lh]) λj ⟨h1,h3⟩=>?_;unfold LY;simp;apply gN<;>intro h
  ·have hj:j<lh.length:=by simpa using h
   rw[aG hj,any_cons]at h3;simp[h2',h2'',aA hj];generalize lh[j]=u at*
   by_cases e:s.extract 0 2=u
   ·rw[<-h3]at hR;simp[e]at hR;subst hR;simp[e];decide
   ·simp[e]at h3⊢;refine⟨by decide,?_⟩;refine fG (j+1) [] ⟨by omega,by simpa using h3⟩ (by omega) ?_;simp;exact wrap_i64 (by have:lh.length=8:=rfl;omega) (by have:lh.length=8:=rfl;omega)
  ·have hj:j=lh.length:=by simp at h;omega
   subst hj;rw[aQ,any_nil]at h3;rw[<-h3]at hR;simp only[af,if_false]at hR;simp;refine k2 (ms:=[]) (by simp[uZ]) (λhm T M n ht=>?_) (λhm T M n=>?_)
   ·rw[aC hm]at hR;subst hR;simp[ht]
   ·rw[aB hm]at hR;subst hR;simp
theorem ub(b c:UInt8):b=c↔(b.toNat:Int)=c.toNat:=⟨λh=>by rw[h],λh=>dY.mp (by omega)⟩
theorem ME(b c:UInt8):b=c↔b.toNat=c.toNat:=⟨λh=>by rw[h],λh=>dY.mp h⟩
theorem un{b c:UInt8}(h:¬b=c):¬(b.toNat:Int)=c.toNat/\¬b.toNat=c.toNat:=⟨λe=>h ((ub b c).2 e),λe=>h ((ME b c).2 e)⟩
theorem zGe(s:fF):gY Pg 153 [.one (.str s)] (.one (.int .i64 (iX false s.data.toList))):=by
 refine zB4 (by simp) λo c' hN hp=>?_;have hs:s.size<=zah:=by have:=o.1;simpa only[DV.ok,D.ok]using this
 unfold zah at hs;have hlen:=uX s;obtain⟨R,hR⟩:∃R,iX false s.data.toList=R:=⟨_,rfl⟩
 rw[hR]
 have k2:∀{Q:Exit->St->Prop} {S:St} {g} {ms:List Nat} (k:Nat) (hk:k<s.size) (hne:s.data[k]?≠some 10) (hq:k+iX true (s.data.toList.drop k)=R) (h0:iM ms S [(3,.c (.d (.int .i64 k))),(0,.c (.d (.str s)))] []),
   (∀j T M n,j<=s.size->k<j->j+iX false (s.data.toList.drop j)=R->Abs.look T 3=.c (.d (.int .i64 j))->Abs.look T 0=.c (.d (.str s))->Q (.exit 2) ⟨T,M,n⟩)->mV Pg c' L6 Q g S:=by
  intro Q S g ms k hk hne hq h0 hn;refine fP gz hp (λj:Nat=>j<=s.size/\k<=j/\j+iX true (s.data.toList.drop j)=R) (λj=>[(3,.c (.d (.int .i64 j))),(0,.c (.d (.str s)))]) (λ_=>[]) (λj=>s.size-j) k ms ⟨by omega,aP _,hq⟩ h0 λj ⟨h1,h2,h3⟩=>?_;unfold L6;simp;apply gN<;>intro h
  ·have hj:j<s.size:=by simpa using h
   have hj':j<s.data.toList.length:=by omega
   rw[aG hj',iX]at h3;have hd:=aG hj';have hb:=xU hj';generalize s.data.toList[j]=b at h3 hb hd;by_cases e:b=10
   ·subst e;simp[hb];refine hn j _ _ _ h1 ?_ ?_ (by simp) (by simp)
    ·rcases aW k j with h|h
     ·exact h
     ·have:j=k:=by omega
      subst this;exact absurd hb hne
    rw[hd,iX];simpa using h3
   ·have e':=un e;simp at e';simp[hb,e',e];simp[e]at h3;refine fG (j+1) [] ⟨by omega,by omega,by omega⟩ (by omega) ?_;simp;exact wI
  ·have hj:j=s.size:=by simp at h;omega
   subst hj;rw[bH (by omega),iX]at h3;refine hn s.size _ _ _ (by omega) (by omega) ?_ (by simp) (by simp);rw[bH (by omega),iX];exact h3
 unfold Rt;simp;refine fP gz hp (λj:Nat=>j<=s.size/\j+iX false (s.data.toList.drop j)=R) (λj=>[(3,.c (.d (.int .i64 j))),(0,.c (.d (.str s)))]) (λ_=>[]) (λj=>s.size-j) 0 [] ⟨by simp,by simpa using hR⟩ (by simp) λj ⟨h1,h3⟩=>?_;unfold Rs;simp;apply gN<;>intro h
 ·have hj:j<s.size:=by simpa using h
  have hj':j<s.data.toList.length:=by omega
  rw[aG hj',iX]at h3;have hd:=aG hj';have hb:=xU hj';generalize s.data.toList[j]=b at h3 hb hd;by_cases e:b=35
  ·subst e;simp[hb];simp only[if_true]at h3;refine k2 j (by omega) (by rw[hb];decide) ?_ (ms:=[]) (by simp) λk T M n g1 g2 g3 t1 t2=>?_
   ·rw[hd,iX];simpa using h3
   ·simp;exact fG k [] ⟨g1,g3⟩ (by omega) (by simp[t1,t2])
  ·have e':=un e;simp at e';rw[aB e]at h3;by_cases w:b=32\/b=9\/b=10\/b=13
   ·rw[aC w]at h3;have z:∀G:Prop,(b=32->G)->(b=9->G)->(b=10->G)->(b=13->G)->G:=λG a1 a2 a3 a4=>by
     rcases w with w|w|w|w
     ·exact a1 w
     ·exact a2 w
     ·exact a3 w
     ·exact a4 w
    refine z _ ?_ ?_ ?_ ?_
    all_goals
     intro w;subst w;simp[hb];refine fG (j+1) [] ⟨by omega,by omega⟩ (by omega) ?_;simp;exact wI
   ·rw[aB w]at h3;have w1:=un (λh=>w (.inl h));have w2:=un (λh=>w (.inr (.inl h)));have w3:=un (λh=>w (.inr (.inr (.inl h))));have w4:=un (λh=>w (.inr (.inr (.inr h))));simp at w1 w2 w3 w4;simp[hb,e',e,w1,w2,w3,w4];omega
 ·have hj:j=s.size:=by simp at h;omega
  subst hj;rw[bH (by omega),iX]at h3;simp[<-h3]
def y7:List UInt8->Option (List UInt8 × Nat)
|[]=>none
|d::l=>if d=92\/d=34 then(lg l).map λx=>(d::x.1,x.2+2)else if d=110 then(lg l).map λx=>(10::x.1,x.2+2)else if d=116 then(lg l).map λx=>(9::x.1,x.2+2)else none
theorem Tc(c:UInt8)(l:List UInt8):lg (c::l)=if c=34 then some ([],1)else if c<32 then none else if c≠92 then(lg l).map (λx=>(c::x.1,x.2+1))else y7 l:=by
 cases l<;>rw[lg.eq_def]<;>rfl
def tL(out:List UInt8)(i:Nat)(l:List UInt8):List UInt8 × Int:=match lg l with
|none=>([],0)
|some (t,n)=>(out++t,i+n)
theorem Ie(out:List UInt8)(c:UInt8)(i n:Nat)(l:List UInt8):(match(lg l).map (λx=>(c::x.1,x.2+n))with
  |none=>(([],0):List UInt8 × Int)
  |some (t,m)=>(out++t,(i:Int)+m))=tL (out++[c]) (i+n) l:=by
 unfold tL;cases lg l with
 |none=>rfl
 |some x=>
  simp;omega
theorem FQ(a b:List UInt8):bA (a++b)=bA a++bA b:=by
 have:(bA (a++b)).data.toList=(bA a++bA b).data.toList:=by simp[bA]
 rw[<-Lx (bA (a++b)),this,Lx]
theorem Td{s:fF}{j:Nat}(h:j<s.data.toList.length):s.extract j (j+1)=bA [s.data.toList[j]]:=by
 rw[Ib];congr 1;rw[aG h,show j+1-j=1 by omega];try rfl
theorem zEK(s:fF)(hpos:0<s.size):gY Pg 177 [.one (.str s)] (.tup [.one (.str (bA (tL [] 1 (s.data.toList.drop 1)).1)),.one (.int .i64 (tL [] 1 (s.data.toList.drop 1)).2)]):=by
 refine zAO (by simp) λo c' hN hp=>?_;have hs:s.size<=zah:=by have:=o.1;simpa only[DV.ok,D.ok]using this
 unfold zah at hs;have hlen:=uX s;obtain⟨R,hR⟩:∃R,tL [] 1 (s.data.toList.drop 1)=R:=⟨_,rfl⟩
 rw[hR];unfold Rq;simp;refine fP gz hp (λx:Nat × List UInt8=>x.1<=s.size/\x.2.length<=x.1/\tL x.2 x.1 (s.data.toList.drop x.1)=R) (λx=>[(5,.c (.d (.int .i64 x.1))),(4,.c (.d (.str (bA x.2)))),(0,.c (.d (.str s)))]) (λ_=>[]) (λx=>s.size-x.1) (1,[]) [] ⟨by simp only;omega,by simp,hR⟩ (by simp[bA,bs]) λ⟨j,out⟩ ⟨h1,h2,h3⟩=>?_;unfold Rp;simp only at h1 h2 h3;simp;apply gN<;>intro h
 ·have hj:j<s.size:=by simpa using h
  have hj':j<s.data.toList.length:=by omega
  unfold tL at h3;rw[aG hj',Tc]at h3;have hx:=Td hj';have hb:=xU hj';generalize s.data.toList[j]=b at h3 hb hx;by_cases e1:b=34
  ·subst e1;simp at h3;subst h3;simp[hb];exact wI
  rw[aB e1]at h3;have e1':=un e1;simp at e1';by_cases e2:b<32
  ·rw[aC e2]at h3;simp only at h3;subst h3;have e2':(b.toNat:Int)<32:=by
    have:b.toNat<32:=e2;omega
   simp[hb,e1,e1',e2'];rfl
  rw[aB e2]at h3;have e2':¬(b.toNat:Int)<32:=by
   intro q;exact e2 (show b.toNat<32 by omega)
  by_cases e3:b=92;rotate_left
  ·rw[aC e3]at h3;have e3':=un e3;simp at e3';have hw:=wI (n:=(j:Int)+1);simp[hb,e1,e1',e2',e3,e3',hw];have hsz:(bA out).size+(min (j+1) s.size-j)<=zah:=by
    have:(bA out).size=out.length:=by rw[<-uX];simp[bA]
    unfold zah;omega
   refine⟨by omega,by omega,hsz,?_⟩;rw[Ie out b j 1]at h3;refine fG (j+1,out++[b]) [] ⟨by simp only;omega,by simp;omega,h3⟩ (by simp only;omega) ?_;rw[hx];simp[FQ]
  ·simp only[ne_eq,e3,not_true,if_false]at h3;subst e3;have hw:=wI (n:=(j:Int)+1);have hw2:=wI (n:=(j:Int)+1+1);simp[hb,hw];by_cases hj2:j+1<s.size;rotate_left
   ·have hj2':(s.size:Int)<=(j:Int)+1:=by omega
    rw[bH (by omega),y7]at h3;simp only at h3;subst h3;simp[hj2'];rfl
   have hj2':¬(s.size:Int)<=(j:Int)+1:=by omega
   have hjl:j+1<s.data.toList.length:=by omega
   rw[aG hjl,y7]at h3;have hx2:=Td hjl;have hb2:=xU hjl;generalize s.data.toList[j+1]=d at h3 hb2 hx2;have hsz:(bA out).size=out.length:=by rw[<-uX];simp[bA]
   have hnat:((j:Int)+1).toNat=j+1:=by omega
   have hw2:IntKind.i64.wrap ((j:Int)+1+1)=((j+2:Nat):Int):=by rw[hw2];omega
   have hmin:min (j+2) s.size-(j+1)<=1:=by omega
   have hcat:(bA out).size+1<=zah:=by rw[hsz];unfold zah;omega
   by_cases d1:d=92\/d=34
   ·rw[aC d1]at h3;rw[Ie out d j 2]at h3;have hnat2:((j:Int)+2).toNat=j+1+1:=by omega
    rcases d1 with q|q
    ·have q1:=(ME d 92).1 q;simp at q1;simp[hj2',hb2,hnat,hw2,q1];refine⟨by omega,by omega,by omega,by omega,by omega,by rw[hnat2];omega,?_⟩;refine fG (j+2,out++[d]) [] ⟨by simp only;omega,by simp;omega,h3⟩ (by simp only;omega) ?_;rw[hnat2,hx2];simp[FQ]
    ·have q1:=(ME d 34).1 q;simp at q1;simp[hj2',hb2,hnat,hw2,q1];refine⟨by omega,by omega,by omega,by omega,by omega,by rw[hnat2];omega,?_⟩;refine fG (j+2,out++[d]) [] ⟨by simp only;omega,by simp;omega,h3⟩ (by simp only;omega) ?_;rw[hnat2,hx2];simp[FQ]
   rw[aB d1]at h3;have d11:=un (λh=>d1 (.inl h));have d12:=un (λh=>d1 (.inr h));simp at d11 d12;by_cases d2:d=110
   ·rw[aC d2]at h3;subst d2;rw[Ie out 10 j 2]at h3;simp[hj2',hb2,hnat,hw2];refine⟨by omega,hcat,?_⟩;refine fG (j+2,out++[10]) [] ⟨by simp only;omega,by simp;omega,h3⟩ (by simp only;omega) ?_;simp[FQ];rfl
   rw[aB d2]at h3;have d21:=un d2;simp at d21;by_cases d3:d=116
   ·rw[aC d3]at h3;subst d3;rw[Ie out 9 j 2]at h3;simp[hj2',hb2,hnat,hw2];refine⟨by omega,hcat,?_⟩;refine fG (j+2,out++[9]) [] ⟨by simp only;omega,by simp;omega,h3⟩ (by simp only;omega) ?_;simp[FQ];rfl
   rw[aB d3]at h3;have d31:=un d3;simp at d31;simp only at h3;subst h3;simp[hj2',hb2,hnat,d11,d12,d21,d31];exact⟨by omega,rfl⟩
 ·have hj:j=s.size:=by simp at h;omega
  subst hj;unfold tL at h3;rw[bH (by omega),lg]at h3;simp only at h3;subst h3;simp;rfl
theorem FR(num:Bool):∀l:List UInt8,jA num l<=l.length
|[]=>aP _
|b::l=>by have:=FR num l;unfold jA;split<;>simp<;>omega
theorem Ig:∀(r:Bool) (l:List UInt8),iX r l<=l.length
|_,[]=>by cases‹Bool›<;>simp[iX]
|true,c::l=>by have:=Ig (decide (c≠10)) l;rw[iX,length_cons];omega
|false,c::l=>by
 have h1:=Ig true l;have h2:=Ig false l;rw[iX];split
 ·simp;omega
 ·split<;>simp<;>omega
theorem Ih:∀(n:Nat) (l:List UInt8),l.length<=n->∀t k,lg l=some (t,k)->0<k/\k<=l.length
|n,[],_,t,k,e=>by simp[lg]at e
|0,c::l,h,_,_,_=>by simp at h
| n +1,c::l,h,t,k,e=>by
 rw[Tc]at e;split at e
 ·simp at e;obtain⟨_,rfl⟩:=e;simp
 split at e
 ·cases e
 split at e
 ·rw[aX]at e;obtain⟨⟨t',k'⟩,e1,e2⟩:=e;simp only[bX]at e2;have:=Ih n l (by simpa using h) t' k' e1;simp;omega
 ·cases l with
  |nil=>simp[y7]at e
  | cons d l=>
   have H:∀t' k',lg l=some (t',k')->0<k'/\k'<=l.length:=λt' k' e1=>Ih n l (by simp at h;omega) t' k' e1;rw[y7]at e;repeat' split at e
   all_goals first|(cases e;done)|skip
   all_goals
    rw[aX]at e;obtain⟨⟨t',k'⟩,e1,e2⟩:=e;simp only[bX]at e2;have:=H t' k' e1;simp;omega
theorem Te(l:List UInt8):zL l<=l.length:=by
 unfold zL;split
 ·rename_i h;rw[any_eq_true]at h;obtain⟨t,ht,h⟩:=h;have h2:t.length=2:=(by decide:∀t∈xJ,t.length=2) t ht;simp only[aI]at h;have:=dL length h;rw[bN]at this;omega
 ·cases l with
  |nil=>simp
  |cons c l=>simp;split<;>omega
def o7.enc(t:o7):List D:=[.int .i64 t.kind,.str (bA t.text),.int .i64 0,.int .i64 0]
abbrev runT(s:fF)(a b:Bool)(j:Nat):List (Nat × AV):=[(7,.c (.d (.int .i64 j))),(6,.c (.d (.bool b))),(5,.c (.d (.bool a))),(2,.c (.ptr 0 0)),(0,.c (.d (.str s)))]
abbrev MF:Blk:=.box [.d (.int .i64 0),.d (.str (bs [])),.d (.int .i64 0),.d (.int .i64 0)]
theorem rnWd{c:Ctx}(hp:c.pure)(s:fF)(hs:s.size<=4611686018427387904)(a num:Bool)(R:Nat)(hR:jA num s.data.toList=R){Q:Exit->St->Prop}{S:St}{g}{ms:List Nat}
  (h0:iM ms S (runT s a num 0) [MF])
  (hQ:∀T M n,Abs.look T 7=.c (.d (.int .i64 R))->Abs.look T 6=.c (.d (.bool num))->Abs.look T 5=.c (.d (.bool a))->Abs.look T 2=.c (.ptr 0 0)->Abs.look T 0=.c (.d (.str s))->M 0=MF->Q (.exit 0) ⟨T,M,n⟩):mV Pg c L8 Q g S:=by
 have hlen:=uX s;refine fP gz hp (λj:Nat=>j<=s.size/\j+jA num (s.data.toList.drop j)=R) (λj=>runT s a num j) (λ_=>[MF]) (λj=>s.size-j) 0 ms ⟨by simp,by simpa using hR⟩ h0 λj ⟨h1,h2⟩=>?_;unfold L8;simp;apply gN<;>intro h
 ·have hj:j<s.size:=by simpa using h
  have hj':j<s.data.toList.length:=by omega
  rw[aG hj',jA]at h2;have hb:=xU hj';generalize s.data.toList[j]=b at h2 hb;have hd:kF b=pU b.toNat:=rfl;have hle:mX b=tF b.toNat:=rfl;simp[hb];refine gT (EC b.toNat) ?_;rw[<-hle];simp[hb];refine gT (ED b.toNat) ?_;rw[<-hd];generalize mX b=x1 at*
  generalize kF b=x2 at*
  cases x1<;>cases x2<;>cases num
  all_goals
   simp at h2;simp
  ·exact hQ _ _ _ (by simp;omega) (by simp) (by simp) (by simp) (by simp) (by simp)
  ·exact hQ _ _ _ (by simp;omega) (by simp) (by simp) (by simp) (by simp) (by simp)
  ·refine fG (j+1) [0] ⟨by omega,by omega⟩ (by omega) ?_;simp;exact wI
  ·refine fG (j+1) [0] ⟨by omega,by omega⟩ (by omega) ?_;simp;exact wI
  ·refine fG (j+1) [0] ⟨by omega,by omega⟩ (by omega) ?_;simp;exact wI
  ·exact hQ _ _ _ (by simp;omega) (by simp) (by simp) (by simp) (by simp) (by simp)
  ·refine fG (j+1) [0] ⟨by omega,by omega⟩ (by omega) ?_;simp;exact wI
  ·refine fG (j+1) [0] ⟨by omega,by omega⟩ (by omega) ?_;simp;exact wI
 ·have hj:j=s.size:=by simp at h;omega
  subst hj;rw[bH (by omega),jA]at h2;exact hQ _ _ _ (by simp;omega) (by simp) (by simp) (by simp) (by simp) (by simp)
theorem MG(s:fF)(i:Nat):s.extract 0 i=bA (s.data.toList.take i):=by rw[Ib];try rfl
abbrev MH(t:o7):DV:=.tup [.agg t.enc,.one (.int .i64 t.len),.one (.int .i64 t.e)]
theorem zGV(s:fF)(hpos:0<s.size):gY Pg 154 [.one (.str s)] (MH (jB s.data.toList)):=by
 refine zB5 (by simp) λo c' hN hp=>?_;have hs:s.size<=zah:=by have:=o.1;simpa only[DV.ok,D.ok]using this
 unfold zah at hs;have hlen:=uX s;have hj0:0<s.data.toList.length:=by omega
 have hb0:=xU hj0;have cq:=zEK s hpos;have csg:=zIo s hpos;have hql:=Ih (s.data.toList.drop 1).length (s.data.toList.drop 1) (aP _);obtain⟨R,hR⟩:∃R,jB s.data.toList=R:=⟨_,rfl⟩
 rw[hR];have hrl:=FR false s.data.toList;have hrd:=FR true s.data.toList;have hsl:=Te s.data.toList;have hx:∀i,s.extract 0 i=bA (s.data.toList.take i):=MG s;generalize hl:s.data.toList=l at*
 cases l with
 |nil=>simp at hj0
 |cons c r=>
 simp only[getElem_cons_zero]at hb0;simp only[drop_one,tail_cons]at cq hql;rw[jB]at hR;have hd:kF c=pU c.toNat:=rfl;have hle:mX c=tF c.toNat:=rfl;unfold Ru;simp[hb0];refine gT (EC c.toNat) ?_;rw[<-hle];simp[hb0];refine gT (ED c.toNat) ?_;rw[<-hd];by_cases q1:mX c=true
 ·rw[aC q1]at hR;have q2:kF c=false:=by
   unfold mX tF at q1;unfold kF pU;simp at q1⊢;omega
  simp[q1,q2];refine rnWd hp s hs true false (jA false (c::r)) (by rw[hl]) (ms:=[0]) (by simp) λT M n t7 t6 t5 t2 t0 m0=>?_;simp[t5,t7];by_cases q3:32<jA false (c::r)
  ·have q3':(32:Int)<(jA false (c::r):Nat):=by omega
   rw[aC q3]at hR;subst hR;simp[q3,q3',t2,m0];exact⟨rfl,rfl,rfl⟩
  rw[aB q3]at hR;have q3':¬(32:Int)<(jA false (c::r):Nat):=by omega
  have hxi:=hx (jA false (c::r));have hw:=Lv (bA (take (jA false (c::r)) (c::r)));generalize jA false (c::r)=i at*
  have hi2:i<=s.size:=by simp at hlen hrl;omega
  simp[q3,q3',t0,t7,hi2,hxi];refine gT hw ?_;generalize hu:bA (take i (c::r))=u at*
  by_cases q4:zM u=true
  ·rw[aC q4]at hR;subst hR;simp[q4,t0,t7,hi2,hxi,t2,m0,o7.enc,hu]
  ·rw[aB q4]at hR;subst hR;simp[q4,t0,t7,hi2,hxi,t2,m0,o7.enc,hu]
 rw[aB q1]at hR;by_cases q2:kF c=true
 ·rw[aC q2]at hR;rw[aM]at q1;simp[q1,q2];refine rnWd hp s hs false true (jA true (c::r)) (by rw[hl]) (ms:=[0]) (by simp) λT M n t7 t6 t5 t2 t0 m0=>?_;have hxi:=hx (jA true (c::r));have hpz:=TS (bA (take (jA true (c::r)) (c::r)));have hpi:xK (bA (take (jA true (c::r)) (c::r)))=BV (take (jA true (c::r)) (c::r)):=by unfold xK;rfl
  rw[hpi]at hpz;generalize jA true (c::r)=i at*
  have hi2:i<=s.size:=by simp at hlen hrd;omega
  simp[t5,t6,t7,t0,hi2,hxi];refine gT hpz ?_;generalize hu:bA (take i (c::r))=u at*
  generalize BV (take i (c::r))=pz at*
  by_cases q4:pz.2=true
  ·rw[aC q4]at hR;subst hR;simp[q4,t0,t7,hi2,hxi,t2,m0,o7.enc,hu]
  ·rw[aB q4]at hR;subst hR;simp[q4,t0,t7,hi2,hxi,t2,m0,o7.enc,hu];exact⟨⟨rfl,rfl⟩,rfl,rfl⟩
 rw[aB q2]at hR;rw[aM]at q1 q2;simp[q1,q2];by_cases q3:c=34
 ·subst q3;rw[aC rfl]at hR;simp[hb0];refine gT cq ?_;unfold tL;cases hq:lg r with
  |none=>
   rw[hq]at hR;simp only at hR;subst hR;simp;exact⟨rfl,rfl,rfl⟩
  | some x=>
   obtain⟨t,k⟩:=x;rw[hq]at hR;have hk:=hql t k hq;have hsz:(bA t).size=t.length:=by rw[<-uX];simp[bA]
   have hk0:¬(1:Int)+k=0:=by omega
   by_cases q4:256<t.length
   ·have q4':(256:Int)<t.length:=by omega
    simp only[q4,if_true]at hR;subst hR;simp[hsz,q4,q4',hk0];exact⟨rfl,rfl,rfl⟩
   ·have q4':¬(256:Int)<t.length:=by omega
    simp only[q4,if_false]at hR;subst hR;simp[hsz,q4,q4',hk0,o7.enc];omega
 rw[aB q3]at hR;have q3':=un q3;simp at q3';simp[hb0,q3,q3'];refine gT csg ?_;have hxi:=hx (zL (c::r));generalize zL (c::r)=i at*
 have hi2:i<=s.size:=by simp at hlen hsl;omega
 by_cases q4:i=0
 ·rw[aC q4]at hR;subst hR;simp[q4];exact⟨rfl,rfl,rfl⟩
 ·rw[aB q4]at hR;have q4':¬(i:Int)=0:=by omega
  subst hR;simp[q4,q4',hi2,hxi,o7.enc]
theorem Tf{l:List UInt8}(h:(jB l).e=0):0<(jB l).len/\(jB l).len<=l.length:=by
 cases l with
 |nil=>simp[jB,lT]at h
 | cons c r=>
  have hrl:=FR false (c::r);have hrd:=FR true (c::r);have hsl:=Te (c::r);have hql:=Ih r.length r (aP _);rw[jB]at h⊢;split
  ·rename_i q;rw[aC q]at h;split
   ·rename_i p;rw[aC p]at h;simp[lT]at h
   ·refine⟨?_,hrl⟩;show 0<jA false (c::r);rw[jA,aC (by simp[q])];omega
  rename_i q1;rw[aB q1]at h;split
  ·rename_i q;rw[aC q]at h;split
   ·refine⟨?_,hrd⟩;show 0<jA true (c::r);rw[jA,aC (by simp[q])];omega
   ·rename_i p;rw[aB p]at h;simp[lT]at h
  rename_i q2;rw[aB q2]at h;split
  ·rename_i q;rw[aC q]at h;cases e:lg r with
   |none=>rw[e]at h;simp[lT]at h
   |some x=>
    obtain⟨t,n⟩:=x;rw[e]at h;simp only at h⊢;have:=hql t n e;split
    ·rename_i p;rw[aC p]at h;simp[lT]at h
    ·simp;omega
  rename_i q3;rw[aB q3]at h;split
  ·rename_i p;rw[aC p]at h;simp[lT]at h
  ·simp only;omega
theorem MJ:∀(l:List UInt8) (a b:Int),1<=a->1<=b->1<=(qE l a b).1/\1<=(qE l a b).2/\(qE l a b).1<=a+l.length/\(qE l a b).2<=b+l.length
|[],a,b,h1,h2=>by simp[qE];omega
| c::l,a,b,h1,h2=>by
 rw[qE];split
 ·have:=MJ l (a+1) 1 (by omega) (by omega);simp only[length_cons];omega
 ·have:=MJ l a (b+1) (by omega) (by omega);simp only[length_cons];omega
abbrev Ct(s:fF)(line col:Int)(at' n:Nat):List (Nat × AV):=[(6,.c (.d (.int .i64 col))),(5,.c (.d (.int .i64 line))),(7,.c (.d (.int .i64 at'))),(4,.c (.msl 4 1 0 n)),(3,.c (.ptr 0 0)),(0,.c (.d (.str s)))]
abbrev dB:Blk:=.box [.d (.int .i64 0),.d (.int .i64 0),.d (.int .i64 0),.d (.int .i64 0)]
abbrev lexB(ts:List Tok):List Blk:=[dB,.arr 4 ((ts.map Tok.enc).map (·.map .d))]
theorem zHM{c:Ctx}(hp:c.pure)(s:fF)(hs:s.size<=65536)(ts:List Tok)(a k:Nat)(hk:a+k<=s.size)(l0 c0:Int)(hl0:1<=l0)(hc0:1<=c0)(hl1:l0<=100000)(hc1:c0<=100000)(R:Int × Int)(hR:qE ((s.data.toList.drop a).take k) l0 c0=R){Q:Exit->St->Prop}{S:St}{g}{ms:List Nat}
  (h0:iM ms S ((9,.c (.d (.int .i64 a)))::(8,.c (.d (.int .i64 k)))::Ct s l0 c0 a ts.length) (lexB ts))
  (hQ:∀T,Abs.look T 6=.c (.d (.int .i64 R.2))->Abs.look T 5=.c (.d (.int .i64 R.1))->Abs.look T 7=.c (.d (.int .i64 a))->Abs.look T 8=.c (.d (.int .i64 k))->Abs.look T 4=.c (.msl 4 1 0 ts.length)->Abs.look T 3=.c (.ptr 0 0)->Abs.look T 0=.c (.d (.str s))->Q (.exit 2) ⟨T,hpOf (lexB ts),2⟩):mV Pg c L9 Q g S:=by
 have hlen:=uX s;obtain⟨e,he⟩:∃e,e=a+k:=⟨_,rfl⟩
 have hw2:IntKind.i64.wrap ((a:Int)+k)=(e:Int):=by rw[wI];omega
 refine fP gz hp (λx:Nat × Int × Int=>a<=x.1/\x.1<=e/\1<=x.2.1/\1<=x.2.2/\x.2.1<=100000+x.1/\x.2.2<=100000+x.1/\qE ((s.data.toList.drop x.1).take (e-x.1)) x.2.1 x.2.2=R)
  (λx=>(9,.c (.d (.int .i64 x.1)))::(8,.c (.d (.int .i64 k)))::Ct s x.2.1 x.2.2 a ts.length) (λ_=>lexB ts) (λx=>e-x.1) (a,l0,c0) ms ⟨aP _,by simp only;omega,hl0,hc0,by simp only;omega,by simp only;omega,by simp only;rw[he,cu];exact hR⟩ h0 λ⟨j,li,co⟩ ⟨h0',h1,h2,h3,h4,h5,h6⟩=>?_
 unfold L9;simp only at h0' h1 h2 h3 h4 h5 h6;have hw1:IntKind.i64.wrap ((j:Int)+1)=((j+1:Nat):Int):=by rw[wI];omega
 have hw3:IntKind.i64.wrap (co+1)=co+1:=wI;have hw4:IntKind.i64.wrap (li+1)=li+1:=wI;by_cases hj:j<e
 ·have hj':j<s.data.toList.length:=by omega
  rw[aG hj',show e-j=(e-(j+1))+1 by omega,take_succ_cons,qE]at h6;have hb:=xU hj';generalize s.data.toList[j]=b at h6 hb;by_cases q:b=10
  ·rw[aC q]at h6;subst q;simp[hw2,hb,hj];refine fG (j+1,li+1,1) [0,1] ⟨by simp only;omega,by simp only;omega,by simp only;omega,by simp,by simp only;omega,by simp only;omega,h6⟩ (by simp only;omega) ?_;simp[hw1,hw4]
  ·rw[aB q]at h6;have q':=un q;simp at q';simp[hw2,hb,hj,q,q'];refine fG (j+1,li,co+1) [0,1] ⟨by simp only;omega,by simp only;omega,by simp only;omega,by simp only;omega,by simp only;omega,by simp only;omega,h6⟩ (by simp only;omega) ?_;simp[hw1,hw3]
 ·have:j=e:=by omega
  subst this;rw[Nat.sub_self,take_zero,qE]at h6;subst h6;simp[hw2];exact hQ _ (by simp) (by simp) (by simp) (by simp) (by simp) (by simp) (by simp)
theorem MK(l:List UInt8):(bA l).data.toList=l:=by simp[bA]
theorem Ti(l:List UInt8):(bA l).size=l.length:=by rw[<-uX,MK]
theorem Tj(s:fF)(p:Nat):s.extract p s.size=bA (s.data.toList.drop p):=by
 rw[Ib,aD (by rw[dM,uX];omega)]
@[simp] theorem iV.enc_length(d:iV):d.enc.length=4:=rfl
theorem Tk(n:Nat)(l:List UInt8)(a b:Int)(ts:List Tok):o8 (n+1) l a b ts=
 if l.drop (iX false l)=[]then(ts++[⟨0,bs [],(qE (l.take (iX false l)) a b).1,(qE (l.take (iX false l)) a b).2⟩],Le)
 else if(if(jB (l.drop (iX false l))).e=0/\ts.length=8192 then 19 else(jB (l.drop (iX false l))).e)≠0 then([],⟨0,(qE (l.take (iX false l)) a b).1,(qE (l.take (iX false l)) a b).2,if(jB (l.drop (iX false l))).e=0/\ts.length=8192 then 19 else(jB (l.drop (iX false l))).e⟩)
 else o8 n ((l.drop (iX false l)).drop (jB (l.drop (iX false l))).len) (qE (l.take (iX false l)) a b).1 ((qE (l.take (iX false l)) a b).2+(jB (l.drop (iX false l))).len) (ts++[⟨(jB (l.drop (iX false l))).kind,bA (jB (l.drop (iX false l))).text,(qE (l.take (iX false l)) a b).1,(qE (l.take (iX false l)) a b).2⟩]):=rfl
theorem zIE(s:fF):gY Pg 119 [.one (.str s)] (.tup [.one (.sl false 4 ((lK s).1.map Tok.enc)),.agg (lK s).2.enc]):=by
 refine zEZ (by simp) λo c' hN hp=>?_;have hs:s.size<=zah:=by have:=o.1;simpa only[DV.ok,D.ok]using this
 unfold zah at hs;have hlen:=uX s;obtain⟨F0,hF0⟩:∃F0,lK s=F0:=⟨_,rfl⟩
 rw[hF0];unfold lK at hF0;unfold Rw;by_cases h6:65536<s.size
 ·have h6':(65536:Int)<s.size:=by omega
  rw[aC h6]at hF0;subst hF0;simp[h6,h6',iV.enc]
 have h6':¬(65536:Int)<s.size:=by omega
 rw[aB h6]at hF0;simp[h6,h6'];refine fV [.t 4] ?_;simp
 refine fP gz hp (λx:Nat × Nat × Int × Int × List Tok=>o8 x.1 (s.data.toList.drop x.2.1) x.2.2.1 x.2.2.2.1 x.2.2.2.2=F0/\x.2.1<=s.size/\s.size<x.1+x.2.1/\x.2.2.2.2.length<=8192/\1<=x.2.2.1/\1<=x.2.2.2.1/\x.2.2.1<=1+x.2.1/\x.2.2.2.1<=1+x.2.1)
  (λx=>Ct s x.2.2.1 x.2.2.2.1 x.2.1 x.2.2.2.2.length) (λx=>lexB x.2.2.2.2) (λx=>x.1) (s.size+1,0,1,1,[]) [0,1] ⟨by simpa using hF0,by simp,by simp only;omega,by simp,by simp,by simp,by simp,by simp⟩ (by simp) λ⟨n,p,li,co,ts⟩ ⟨i1,i2,i3,i4,i5,i6,i7,i8⟩=>?_
 unfold Rv;simp only at i1 i2 i4 i5 i6 i7 i8;have i3:s.size<n+p:=i3;obtain⟨n,rfl⟩:∃m,n=m+1:=⟨n-1,by omega⟩
 rw[Tk]at i1;have hb:=zGe (bA (s.data.toList.drop p));rw[MK]at hb;have hbl:=Ig false (s.data.toList.drop p);rw[dM,hlen]at hbl;have hx:=Tj s p;simp[i2,hx];refine gT hb ?_;obtain⟨k,hk⟩:∃k,iX false (s.data.toList.drop p)=k:=⟨_,rfl⟩
 rw[hk]at i1 hbl;simp[hk];obtain⟨q,hq⟩:∃q,qE ((s.data.toList.drop p).take k) li co=q:=⟨_,rfl⟩
 have hqb:=MJ ((s.data.toList.drop p).take k) li co i5 i6;rw[hq]at i1 hqb;have htk:((s.data.toList.drop p).take k).length=k:=by rw[bN,dM];omega
 rw[htk]at hqb;refine zHM hp s (by omega) ts p k (by omega) li co i5 i6 (by omega) (by omega) q hq (ms:=[0,1]) (by simp) λT t6 t5 t7 t8 t4 t3 t0=>?_;have hw:IntKind.i64.wrap ((p:Int)+k)=((p+k:Nat):Int):=by rw[wI];omega
 rw[bQ]at i1;have hx2:=Tj s (p+k);obtain⟨p',hp'⟩:∃p',p+k=p':=⟨_,rfl⟩
 rw[hp']at hw i1 hx2;simp[t7,t8,hw,t0];by_cases he:s.size<=p'
 ·have he':p'=s.size:=by omega
  rw[aC (bH (by omega))]at i1;subst i1;have z:take ts.length (List.map ((λx=>List.map AC.d x)∘Tok.enc) ts)=List.map ((λx=>List.map AC.d x)∘Tok.enc) ts:=aD (by simp);have z2:take (ts.length+1) (List.map Tok.enc ts++[[.int .i64 0,.str (bs []),.int .i64 q.1,.int .i64 q.2]])=List.map Tok.enc ts++[[.int .i64 0,.str (bs []),.int .i64 q.1,.int .i64 q.2]]:=aD (by simp);simp[he,t4,t5,t6,t3,z,z2];exact⟨by omega,rfl,rfl⟩
 rw[aB (λh=>by have:=dL length h;rw[dM]at this;simp at this;omega)]at i1;have ht:=zGV (bA (s.data.toList.drop p')) (by rw[Ti,dM];omega);rw[MK]at ht;have htl:=Tf (l:=s.data.toList.drop p');rw[dM]at htl;generalize jB (s.data.toList.drop p')=t at*
 have hp2:p'<=s.size:=by omega
 simp[he,hp2,hx2,t7,t0];refine gT ht ?_;by_cases e0:t.e=0
 ·have htl:=htl e0;by_cases hm:ts.length=8192
  ·rw[aC (by rw[aC ⟨e0,hm⟩];decide),aC ⟨e0,hm⟩]at i1;subst i1;have hm':((ts.length:Nat):Int)=8192:=by omega
   simp[t4,t5,t6,t3,o7.enc,e0,hm,hm',iV.enc]
  ·have hm':¬((ts.length:Nat):Int)=8192:=by omega
   rw[aB (by rw[aB (λh=>hm h.2)];simpa using e0),bQ]at i1;have hw1:IntKind.i64.wrap ((p':Int)+t.len)=((p'+t.len:Nat):Int):=by rw[wI];omega
   have hw2:IntKind.i64.wrap (q.2+t.len)=q.2+t.len:=wI;simp[t4,t5,t6,t3,t7,o7.enc,e0,hm,hm',hw1,hw2];refine⟨by omega,?_⟩;refine fG (n,p'+t.len,q.1,q.2+t.len,ts++[⟨t.kind,bA t.text,q.1,q.2⟩]) [0,3] ⟨i1,by simp only;omega,by simp only;omega,by simp;omega,by simp only;omega,by simp only;omega,by simp only;omega,by simp only;omega⟩ (by simp) ?_;have z:take ts.length (List.map ((λx=>List.map AC.d x)∘Tok.enc) ts)=List.map ((λx=>List.map AC.d x)∘Tok.enc) ts:=aD (by simp);simp[t3,t0,t5,hw1,hw2,Tok.enc,z]
 ·rw[aC (by rw[aB (λh=>e0 h.1)];exact e0),aB (λh=>e0 h.1)]at i1;subst i1;simp[t4,t5,t6,t3,o7.enc,e0,iV.enc]
end Go.Gr
namespace Go.Gr
open Go.Abs Go.Proofs
def o9:jW:=⟨[],[]⟩
def ps0:PS:=⟨0,0,0,0,0⟩
def u6(L:List Tok)(p:PS):PS:=if p.e=0/\(iI L p).kind≠0 then wV L 7 p else p
def qc(s:fF):jW × iV:=
 let x:=lK s
 if x.2.e≠0 then(o9,x.2)else
  let m:=BX x.1 ps0;let p:=u6 x.1 m.2
  if p.e≠0 then(o9,⟨0,p.line,p.col,p.e⟩)else(m.1,⟨0,p.line,p.col,p.e⟩)
end Go.Gr
namespace Go.Gr
open Go.Abs Go.Proofs List
def zJE(x:D)(l:List gU):Prop:=(x=.sl false 4 (l.map gU.enc)/\l.length=2)\/∃row t,x=.sl true 4 [row]/\D.erdL row=t.enc/\row.length=4/\l=[t]
theorem zG1(a b c d e f g h i j k l m n o:AC)(N:gq):splice [a,b,c,d,e,f,g,h,i,j,k,l,m,n,o] 5 (N.enc.map AC.d)=a::b::c::d::e::(N.enc.map .d++[n,o]):=by rw[N.enc_eq];try rfl
theorem zJF(a b c d e n o:AC)(N:gq):cut (a::b::c::d::e::(N.enc.map .d++[n,o])) 0 15=a::b::c::d::e::(N.enc.map .d++[n,o]):=by rw[N.enc_eq];try rfl
theorem zIZ(a b c d e n o:D)(N:gq):cut (a::b::c::d::e::(N.enc++[n,o])) 0 15=a::b::c::d::e::(N.enc++[n,o]):=by rw[N.enc_eq];try rfl
theorem zI0(N:gq)(a b:D):kE (N.enc.map AC.d++[.d a,.d b])=some (N.enc++[a,b]):=by
 have e:N.enc.map AC.d++[.d a,.d b]=(N.enc++[a,b]).map .d:=by simp
 rw[e];exact QU _
theorem zI1(f:Nat->Nat)(N:gq)(a b:D):AC.rens f (N.enc.map AC.d++[.d a,.d b])=N.enc.map AC.d++[.d a,.d b]:=by
 have e:N.enc.map AC.d++[.d a,.d b]=(N.enc++[a,b]).map .d:=by simp
 rw[e];exact AC.rens_D _ _
theorem zJG(n:Nat)(N:gq)(a b:D):AC.lts n (N.enc.map AC.d++[.d a,.d b])=true:=by
 have e:N.enc.map AC.d++[.d a,.d b]=(N.enc++[a,b]).map .d:=by simp
 rw[e];exact AC.lts_D _ _
theorem ML{α β:Type}(f:α->β)(v:List α):take v.length (v.map f)=v.map f:=aD (by rw[aV];exact aP _)
attribute [simp] zG1 zJF zIZ zI0 zI1 zJG
section
variable {L:List Tok}
theorem zFm(hL:jJ L)(hl:L.length<=10000){d:Nat}{ki:PS->gU × PS}(hk:iA L ki)(Hk:qL L d ki)(p:PS)(h:p.at'<L.length)(hd:p.deep=d):
  ∃x,zJE x (rf L ki p).1.2/\MCall Pg 125 [.c (.ptr 0 0)] [jv L p] (.tup [.c (.d (.str (rf L ki p).1.1)),.c (.d x)]) [jv L (rf L ki p).2]:=by
 have t1:=jE hL h (s:=bs [40]);have t2:=t1.trans (mE hL t1.lt);have t3:=t2.trans (zQ hL hk _ t2.lt);have t4:=t3.trans (jE hL t3.lt (s:=bs [41]));have c1:=oJ hL (bs [40]) p h hl;have c2:=xR _ t1.lt hl;have c3:=FM hL hl Hk _ t2.lt (by rw[t2.deep,hd]);have c4:=oJ hL (bs [41]) _ t3.lt hl;have c5:=FM hL hl Hk _ t4.lt (by rw[t4.deep,hd]);have n1:=I5 (L:=L) ki (jI L (jQ L (bs [40]) p)).2;have n2:=I5 (L:=L) ki (jQ L (bs [41]) (qF L ki (jI L (jQ L (bs [40]) p)).2).2);unfold rf;simp only;generalize jQ L (bs [40]) p=p1 at*
 generalize (jI L p1).1=s1 at*
 generalize (jI L p1).2=p2 at*
 generalize (qF L ki p2).1=A at*
 generalize (qF L ki p2).2=p3 at*
 generalize jQ L (bs [41]) p3=p4 at*
 generalize (qF L ki p4).1=B at*
 generalize (qF L ki p4).2=p5 at*
 have hn:noT.enc=[.int .i64 0,.str (bs []),.sl false 1 [],.sl false 4 []]:=rfl;rcases n1 with rfl|⟨T,rfl⟩<;>rcases n2 with rfl|⟨U,rfl⟩
 ·refine⟨.sl true 4 [[.int .i64 0,.str (bs []),.sl true 1 [],.sl true 4 []]],.inr ⟨_,noT,rfl,rfl,rfl,rfl⟩,?_⟩;refine Ex nD λts hts ok hb c hN hp=>?_;obtain⟨t,rfl⟩:=lw hts;unfold Dw;simp;refine gP [0] c1 ?_;simp;refine gP [0] c2 ?_;simp;refine gP [0] c3 ?_;simp;refine gP [0] c4 ?_;simp;refine gP [0] c5 ?_;simp;refine fU [] ?_;simp;exact fM [0] [1]
 ·refine⟨.sl false 4 [noT.enc,U.enc],.inl ⟨rfl,rfl⟩,?_⟩;refine Ex nD λts hts ok hb c hN hp=>?_;obtain⟨t,rfl⟩:=lw hts;unfold Dw;simp;refine gP [0] c1 ?_;simp;refine gP [0] c2 ?_;simp;refine gP [0] c3 ?_;simp;refine gP [0] c4 ?_;simp;refine gP [0] c5 ?_;simp;refine fU [2] ?_;simp[iZ];exact fJ [0] [1] (by simp[hn,AV.erds])
 ·refine⟨.sl true 4 [T.enc],.inr ⟨_,T,rfl,by simp,by simp,rfl⟩,?_⟩;refine Ex nD λts hts ok hb c hN hp=>?_;obtain⟨t,rfl⟩:=lw hts;unfold Dw;simp;refine gP [0] c1 ?_;simp;refine gP [0] c2 ?_;simp;refine gP [0] c3 ?_;simp;refine gP [0] c4 ?_;simp;refine gP [0] c5 ?_;simp;refine fU [] ?_;simp;exact fM [0] [1]
 ·refine⟨.sl false 4 [T.enc,U.enc],.inl ⟨rfl,rfl⟩,?_⟩;refine Ex nD λts hts ok hb c hN hp=>?_;obtain⟨t,rfl⟩:=lw hts;unfold Dw;simp;refine gP [0] c1 ?_;simp;refine gP [0] c2 ?_;simp;refine gP [0] c3 ?_;simp;refine gP [0] c4 ?_;simp;refine gP [0] c5 ?_;simp;refine fU [2] ?_;simp[iZ];exact fJ [0] [1] (by simp[hn,AV.erds])
abbrev mB(p:PS)(t:Nat × Nat)(b2:Blk)(is:List jl)(v:List (List D)):List Blk:=[jv L p,.pin t 0,b2,.box [.msl 4 4 0 is.length,.msl 15 5 0 v.length],.arr 4 ((is.map jl.enc).map (·.map .d)),.arr 15 (v.map (·.map .d))]
abbrev mT:List (Nat × AV):=[(0,.c (.ptr 0 0)),(2,.c (.ptr 2 0)),(3,.c (.ptr 3 0))]
theorem zIb(hL:jJ L)(hl:L.length<=10000){c:Ctx}(hp:c.pure)(t:Nat × Nat)(b2:Blk)(hb2:b2=.box [.d (.sl true 4 []),.d (.sl true 15 [])])(is:List jl)(p0:PS)(hd0:p0.deep=0)(h:p0.at'<L.length)(F0:List jZ × PS)(hF:rz L (L.length+1) [] p0=F0){Q:Exit->St->Prop}{S:St}{g}{ms:List Nat}
  (h0:iM ms S mT (mB (L:=L) p0 t b2 is []))
  (hQ:∀T v,Abs.look T 0=.c (.ptr 0 0)->Abs.look T 2=.c (.ptr 2 0)->Abs.look T 3=.c (.ptr 3 0)->D.erdE v=F0.1.map jZ.enc->Q (.exit 2) ⟨T,hpOf (mB (L:=L) F0.2 t b2 is v),6⟩):mV Pg c Lc Q g S:=by
 refine fP gz hp (λx:Nat × List jZ × List (List D) × PS=>rz L x.1 x.2.1 x.2.2.2=F0/\Tm L p0 x.2.2.2/\(0<x.1/\(x.2.2.2.e≠0\/L.length<x.1+x.2.2.2.at'))/\x.2.1.length+x.1<=L.length+1/\D.erdE x.2.2.1=x.2.1.map jZ.enc)
  (λx=>mT) (λx=>mB (L:=L) x.2.2.2 t b2 is x.2.2.1) (λx=>x.1) (L.length+1,[],[],p0) ms ⟨hF,Tm.refl h,⟨by simp,.inr (by simp only;omega)⟩,by simp,rfl⟩ h0 λ⟨n,l,v,q⟩ ⟨i1,i2,i3,i4,i5⟩=>?_
 subst hb2;unfold Lc;simp only at i1 i2 i4 i5;have i3:0<n/\(q.e≠0\/L.length<n+q.at'):=i3;have hvl:v.length=l.length:=by rw[<-Ls,i5,aV]
 have hlt:=i2.lt;obtain⟨n,rfl⟩:∃m,n=m+1:=⟨n-1,by omega⟩
 have hg:=zR hlt;rw[rz]at i1;by_cases x:q.e=0
 ·by_cases k:(iI L q).kind=0
  ·rw[aB (by simp[k])]at i1;subst i1;simp[hg,x,k];refine⟨by decide,?_⟩;exact hQ _ v (by simp) (by simp) (by simp) i5
  ·rw[aC ⟨x,k⟩]at i1;have e1:=ig hL hlt (s:=AY);have e2:=e1.trans (jE hL e1.lt (s:=uF));have e3:=e2.trans (mE hL e2.lt);have e4:=e3.trans (I9 hL _ e3.lt);have e5:=e4.trans (BZ hL (y5 hL) _ e4.lt);have e6:=e5.trans (jE hL e5.lt (s:=bs [61]));have e7:=e6.trans (I8 hL _ e6.lt);have e8:=e7.trans (jE hL e7.lt (s:=bs [59]));have c1:=mF AY q hlt hl;have c2:=oJ hL uF _ e1.lt hl;have c3:=xR _ e2.lt hl;have c4:=zGd hL hl _ e3.lt (by rw[e3.deep,i2.deep,hd0]);obtain⟨hx,hxd,c5⟩:=zFm hL hl (y5 hL) (TZ hL hl) _ e4.lt (by rw[e4.deep,i2.deep,hd0]);have c6:=oJ hL (bs [61]) _ e5.lt hl;have c7:=zJl hL hl _ e6.lt (by rw[e6.deep,i2.deep,hd0]);have c8:=oJ hL (bs [59]) _ e7.lt hl;have hg1:=zR e1.lt;unfold ry at i1;simp only at i1;generalize (iC L AY q).1=ex at*
   generalize (iC L AY q).2=q1 at*
   generalize jQ L uF q1=q2 at*
   generalize (jI L q2).1=nm at*
   generalize (jI L q2).2=q3 at*
   generalize (yX L q3).1=vs at*
   generalize (yX L q3).2=q4 at*
   generalize (rf L (uy L) q4).1.1=pm at*
   generalize (rf L (uy L) q4).1.2=ty at*
   generalize (rf L (uy L) q4).2=q5 at*
   generalize jQ L (bs [61]) q5=q6 at*
   generalize (Dy L q6).1=bd at*
   generalize (Dy L q6).2=q7 at*
   have hlt8:=e8.lt;have hon:(jQ L (bs [59]) q7).e≠0\/(jQ L (bs [59]) q7).at'=q7.at'+1:=zIq;have hle7:=e7.le;have hle8:=e8.le;have hlen:L.length<n+1+q.at':=i3.2.resolve_left (by simp[x]);have hn0:0<n:=by omega
   generalize jQ L (bs [59]) q7=q8 at*
   have hon':q8.e≠0\/L.length<n+q8.at':=by
    rcases hon with r|r
    ·exact .inl r
    ·exact .inr (by omega)
   simp[hg,x,k];refine⟨by decide,?_⟩;refine gQ [0] c1 (by simp[x]) ?_;simp[hg1];refine⟨by decide,?_⟩;refine gP [0] c2 ?_;simp;refine gP [0] c3 ?_;simp;refine gP [0] c4 ?_;simp;refine gP [0] c5 ?_;rcases hxd with⟨rfl,hty⟩|⟨row,T,rfl,hrow,hrl,rfl⟩
   ·simp[hty];refine fU [] ?_;simp;refine gP [0] c6 ?_;simp;refine gP [0] c7 ?_;simp;refine gP [0] c8 ?_;simp;refine⟨by omega,?_⟩;rw[aB (by omega)]at i1;refine fG (n,l++[⟨nm,ex,vs,pm,ty,bd,(iI L q1).line,(iI L q1).col⟩],v++[[.str nm,.bool ex,.sl false 5 (vs.map il),.str pm,.sl false 4 (ty.map gU.enc)]++bd.enc++[.int .i64 (iI L q1).line,.int .i64 (iI L q1).col]],q8) [0,1,2,3,4,7] ⟨i1,i2.trans e8,⟨hn0,hon'⟩,by simp;omega,by simp[i5,jZ.enc]⟩ (by simp) ?_;simp;exact ML _ _
   ·simp;refine fU [7] ?_;simp[iZ];refine gP [0] c6 ?_;simp[iZ];refine gP [0] c7 ?_;simp[iZ];refine gP [0] c8 ?_;simp[iZ];refine⟨by omega,?_⟩;rw[aC (by simp)]at i1;have hn:noT.enc=[.int .i64 0,.str (bs []),.sl false 1 [],.sl false 4 []]:=rfl;refine fG (n,l++[⟨nm,ex,vs,pm,[T]++[noT],bd,(iI L q1).line,(iI L q1).col⟩],v++[[.str nm,.bool ex,.sl false 5 (vs.map il),.str pm,.sl false 4 [row,[.int .i64 0,.str (bs []),.sl true 1 [],.sl true 4 []]]]++bd.enc++[.int .i64 (iI L q1).line,.int .i64 (iI L q1).col]],q8) [0,1,2,3,4,8] ⟨i1,i2.trans e8,⟨hn0,hon'⟩,by simp;omega,by simp[i5,jZ.enc,hrow,hn]⟩ (by simp) ?_;simp[iZ];exact ML _ _
 ·rw[aB (by simp[x])]at i1;subst i1;simp[hg,x];refine⟨by decide,?_⟩;exact hQ _ v (by simp) (by simp) (by simp) i5
theorem zIc(hL:jJ L)(hl:L.length<=10000){c:Ctx}(hp:c.pure)(t:Nat × Nat)(b2:Blk)(hb2:b2=.box [.d (.sl true 4 []),.d (.sl true 15 [])])(p0:PS)(h:p0.at'<L.length)(F0:List jl × PS)(hF:xQ L (L.length+1) [] p0=F0){Q:Exit->St->Prop}{S:St}{g}{ms:List Nat}
  (h0:iM ms S mT (mB (L:=L) p0 t b2 [] []))
  (hQ:∀T M n,Abs.look T 0=.c (.ptr 0 0)->Abs.look T 2=.c (.ptr 2 0)->Abs.look T 3=.c (.ptr 3 0)->M 0=jv L F0.2->M 1=.pin t 0->M 2=b2->M 3=.box [.msl 4 4 0 F0.1.length,.msl 15 5 0 0]->M 4=.arr 4 ((F0.1.map jl.enc).map (·.map .d))->M 5=.arr 15 []->Q (.exit 0) ⟨T,M,n⟩):mV Pg c Lb Q g S:=by
 refine fP gz hp (λx:Nat × List jl × PS=>xQ L x.1 x.2.1 x.2.2=F0/\Tm L p0 x.2.2/\L.length<x.1+x.2.2.at'/\x.2.1.length<=x.2.2.at')
  (λx=>mT) (λx=>mB (L:=L) x.2.2 t b2 x.2.1 []) (λx=>x.1) (L.length+1,[],p0) ms ⟨hF,Tm.refl h,by simp only;omega,by simp⟩ h0 λ⟨n,l,q⟩ ⟨i1,i2,i3,i4⟩=>?_
 subst hb2;unfold Lb;simp only at i1 i2 i4;have i3:L.length<n+q.at':=i3;have hlt:=i2.lt;obtain⟨n,rfl⟩:∃m,n=m+1:=⟨n-1,by omega⟩
 have hg:=zR hlt;rw[xQ]at i1;have c1:=mF xP q hlt hl;by_cases x:q.e=0
 ·by_cases k:(iC L xP q).1=true
  ·rw[aC ⟨x,k⟩]at i1;simp only at i1;have e1:=ig hL hlt (s:=xP);have e2:=e1.trans (mE hL e1.lt);have e3:=e2.trans (jE hL e2.lt (s:=bs [58]));have e4:=e3.trans (I7 hL (L.length+1) [] _ e3.lt);have e5:=e4.trans (jE hL e4.lt (s:=bs [59]));have c2:=xR _ e1.lt hl;have c3:=oJ hL (bs [58]) _ e2.lt hl;have c4:=zEI hL hl _ e3.lt;have c5:=oJ hL (bs [59]) _ e4.lt hl;have ha:=(take_at k).1;have hle:(iC L xP q).2.at'<=(jQ L (bs [59]) (uW L (L.length+1) [] (jQ L (bs [58]) (jI L (iC L xP q).2).2)).2).at':=by
    have h1:=(mE hL e1.lt).le;have h2:=(jE hL e2.lt (s:=bs [58])).le;have h3:=(I7 hL (L.length+1) [] _ e3.lt).le;have h4:=(jE hL e4.lt (s:=bs [59])).le;omega
   generalize (iC L xP q).2=q1 at*
   generalize (jI L q1).1=nm at*
   generalize (jI L q1).2=q2 at*
   generalize jQ L (bs [58]) q2=q3 at*
   generalize (uW L (L.length+1) [] q3).1=ns at*
   generalize (uW L (L.length+1) [] q3).2=q4 at*
   generalize jQ L (bs [59]) q4=q5 at*
   simp[hg,x];refine⟨by decide,?_⟩;refine gQ [0] c1 (by simp[x]) ?_;simp[k];refine gP [0] c2 ?_;simp;refine gP [0] c3 ?_;simp;refine gP [0] c4 ?_;simp;refine gP [0] c5 ?_;simp;refine⟨by omega,?_⟩;refine fG (n,l++[⟨nm,ns,(iI L q).line,(iI L q).col⟩],q5) [0,1,2,3,7,5] ⟨i1,i2.trans e5,by simp only;omega,by simp;omega⟩ (by simp) ?_;simp[jl.enc];exact ML _ _
  ·rw[aB (λz=>k z.2)]at i1;subst i1;rw[lN k]at c1;rw[aM]at k;simp[hg,x];refine⟨by decide,?_⟩;refine gQ [0] c1 (by simp[x]) ?_;simp[k];refine hQ _ _ _ (by simp) (by simp) (by simp) (by simp) (by simp) (by simp) (by simp) (by simp) (by simp)
 ·rw[aB (by simp[x])]at i1;subst i1;simp[hg,x];refine hQ _ _ _ (by simp) (by simp) (by simp) (by simp) (by simp) (by simp) (by simp) (by simp) (by simp)
theorem zDX(hL:jJ L)(hl:L.length<=10000)(p:PS)(h:p.at'<L.length)(hd:p.deep=0):
  MCall Pg 74 [.c (.ptr 0 0)] [jv L p] (.ag ((BX L p).1.enc.map .d)) [jv L (BX L p).2]:=by
 refine zAR nD λts hts ok hb c hN hp=>?_;obtain⟨t,rfl⟩:=lw hts;have k1:=FO hL (L.length+1) [] _ h;have k2:=Ia hL (L.length+1) [] _ k1.lt;obtain⟨I0,hI0⟩:∃F0,xQ L (L.length+1) [] p=F0:=⟨_,rfl⟩
 unfold Sr BX;simp only;rw[hI0]at k1 k2⊢;obtain⟨D0,hD0⟩:∃F0,rz L (L.length+1) [] I0.2=F0:=⟨_,rfl⟩
 rw[hD0];simp;refine fV [.c 3 0,.c 3 1] ?_;simp;refine zIc hL hl hp t _ rfl p h I0 hI0 (ms:=[0,1,2,3,4,5]) (by simp) λT M n t0 t2 t3 m0 m1 m2 m3 m4 m5=>?_;simp;refine zIb hL hl hp t _ rfl I0.1 I0.2 (by rw[k1.deep,hd]) k1.lt D0 hD0 (ms:=[0,1,2,3,4,5]) (by simp[t0,t2,t3,m0,m1,m2,m3,m4,m5]) λT v t0 t2 t3 hv=>?_;simp[t0,t2,t3];refine fU [4,5] ?_;have z:take I0.1.length (List.map jl.enc I0.1)=List.map jl.enc I0.1:=aD (by simp);simp[iZ,t2,z, -map_map];exact fJ [0] [1] (by simp[iZ,jW.enc,hv, -map_map])
end
theorem zGk{l:List UInt8}(h:(jB l).e=0):(jB l).kind≠0:=by
 cases l with
 |nil=>simp[jB,lT]at h
 |cons c r=>
  rw[jB]at h⊢;repeat' split
  all_goals simp_all[lT]
  all_goals (split<;>simp)
theorem Tn:∀(n:Nat) (l:List UInt8) (a b:Int) (ts:List Tok),l.length<n->ts.length<=8192->(∀t,t∈ts->t.kind≠0)->(o8 n l a b ts).2.e=0->
 ∃us x,(o8 n l a b ts).1=us++[x]/\x.kind=0/\(∀t,t∈us->t.kind≠0)/\us.length<=8192
|0,l,_,_,_,h,_,_,_=>by omega
| n+1,l,a,b,ts,h,hl,hk,he=>by
 rw[Tk]at he⊢;by_cases q:l.drop (iX false l)=[]
 ·rw[aC q];exact⟨ts,_,rfl,rfl,hk,hl⟩
 rw[aB q]at he⊢;by_cases q2:(if(jB (l.drop (iX false l))).e=0/\ts.length=8192 then(19:Int)else(jB (l.drop (iX false l))).e)≠0
 ·rw[aC q2]at he;exact absurd he q2
 rw[aB q2]at he⊢;have q3:¬((jB (l.drop (iX false l))).e=0/\ts.length=8192):=λz=>by rw[aC z]at q2;exact q2 (by decide)
 rw[aB q3]at q2;have e0:(jB (l.drop (iX false l))).e=0:=bD λz=>q2 z;have htl:=Tf e0;refine Tn n _ _ _ _ ?_ ?_ ?_ he
 ·rw[dM,dM]at*;omega
 ·have:ts.length≠8192:=λz=>q3 ⟨e0,z⟩;simp;omega
 ·intro t ht;rcases aK.1 ht with ht|ht
  ·exact hk t ht
  ·simp at ht;subst ht;exact zGk e0
theorem Ii{s:fF}(h:(lK s).2.e=0):jJ (lK s).1/\(lK s).1.length<=10000:=by
 unfold lK at h⊢;split
 ·rename_i q;rw[aC q]at h;simp at h
 rename_i q;rw[aB q]at h;obtain⟨us,x,e,hx,hu,hl⟩:=Tn (s.size+1) s.data.toList 1 1 [] (by rw[uX];omega) (by simp) (by simp) h;rw[e];refine⟨⟨by simp,λi hi hk=>?_⟩,by simp;omega⟩;simp only[aT,length_singleton]at hi⊢;rcases aW i us.length with h|h
 ·omega
 ·have:i=us.length:=by omega
  subst this;exfalso;apply hk;rw[aH,bY (aP _)];simpa using hx
theorem zGl(s:fF):MCall Pg 73 [.c (.d (.str s))] [] (.tup [.c (.ptr 0 0),.ag ((lK s).2.enc.map .d)]) [jv (lK s).1 ps0]:=by
 refine zAS ⟨by simp,by simp,by simp,by simp,by simp,by simp[iV.enc];rfl,by simp⟩ λts hts ok hb c hN hp=>?_;have hts:ts=[]:=aU.1 hts;subst hts;unfold Sv;simp;refine gT (zIE s) ?_;simp;exact⟨by decide,fO [2] [] (by simp[ps0])⟩
theorem zHQ{L:List Tok}(hL:jJ L)(hl:L.length<=10000)(p:PS)(h:p.at'<L.length):MCall Pg 75 [.c (.ptr 0 0)] [jv L p] (.ag ((⟨0,(u6 L p).line,(u6 L p).col,(u6 L p).e⟩:iV).enc.map .d)) [jv L (u6 L p)]:=by
 refine zE2 ⟨by simp,by simp,by simp,by simp,by simp,by simp[iV.enc],by simp⟩ λts hts ok hb c hN hp=>?_;obtain⟨t,rfl⟩:=lw hts;have hg:=zR h;have hf:=FL (L:=L) 7 p h;unfold Su u6;generalize iI L p=T at*
 by_cases h0:p.e=0<;>by_cases h1:T.kind=0
 ·simp[hg,h0,h1];exact⟨by decide,by decide,fO [0] [1] (by simp[iV.enc,h0,h1])⟩
 ·simp[hg,h0,h1];refine⟨by decide,?_⟩;refine gQ [0] hf (by simp[h0]) ?_;simp;exact⟨by decide,fO [0] [1] (by simp[iV.enc,h0,h1])⟩
 all_goals
  simp[hg,h0,h1];exact⟨by decide,by decide,fO [0] [1] (by simp[iV.enc,h0,h1])⟩
@[simp] theorem zK2(d:iV):cut d.enc 0 4=d.enc:=rfl
@[simp] theorem zKs(d:iV):cut (d.enc.map AC.d) 0 4=d.enc.map .d:=rfl
@[simp] theorem iV.enc_3(d:iV):d.enc[3]?=some (.int .i64 d.e):=rfl
@[simp] theorem iV.enc_g3(d:iV)(h:3<d.enc.length):d.enc[3]=.int .i64 d.e:=rfl
@[simp] theorem iV.er_map(d:iV):d.enc.map D.er=d.enc:=rfl
@[simp] theorem jW.er_map(d:jW):d.enc.map D.er=d.enc:=rfl
@[simp] theorem zK3(d:jW):cut d.enc 0 2=d.enc:=rfl
@[simp] theorem zKt(d:jW):cut (d.enc.map AC.d) 0 2=d.enc.map .d:=rfl
theorem zGm(s:fF):gY Pg 46 [.one (.str s)] (.tup [.agg (qc s).1.enc,.agg (qc s).2.enc]):=by
 refine zCa (by simp) λo c' hN hp=>?_;have hb:=zGl s;have hk:=Ii (s:=s);obtain⟨F0,hF0⟩:∃F0,qc s=F0:=⟨_,rfl⟩
 rw[hF0];unfold qc at hF0;simp only at hF0;generalize (lK s).1=L at*
 generalize (lK s).2=d at*
 unfold Sw;simp;refine gP [] hb ?_;simp;by_cases h0:d.e=0;rotate_left
 ·rw[aC h0]at hF0;subst hF0;simp[h0];exact⟨by decide,rfl⟩
 rw[aB (by simp[h0])]at hF0;obtain⟨hL,hl⟩:=hk h0;have c1:=zDX hL hl ps0 hL.pos rfl;have t1:=zEH hL ps0 hL.pos;generalize (BX L ps0).1=M at*
 generalize (BX L ps0).2=p at*
 have c2:=zHQ hL hl p t1.lt;generalize u6 L p=q at*
 simp[h0];refine gQ [2] c1 (by simp[ps0]) ?_;simp;refine gP [2] c2 ?_;simp;by_cases h1:q.e=0
 ·rw[aB (by simp[h1])]at hF0;subst hF0;simp[h1];decide
 ·rw[aC h1]at hF0;subst hF0;simp[h1];exact⟨by decide,rfl⟩
end Go.Gr
namespace Go.Gr
open Go.Abs Go.Proofs
mutual
def nV:gU->Int->Int
|.mk _ _ _ l,m=>qM l m 1
def qM:List gU->Int->Int->Int
|[],_,n=>n
|t::l,m,n=>if n<m then qM l m (n+nV t (m-n))else n
end
def oD:Nat->gU->Int
|0,_=>1
|1,_=>1
|n+2,t=>(t.kids.foldl (λh k=>if h<oD (n+1) k then oD (n+1) k else h) 0)+1
def lL{α:Type}(q:α->α->Bool):List α->List α->Bool
|[],[]=>true
|x::a,y::b=>q x y&&lL q a b
|_,_=>false
mutual
def lC:gU->gU->Bool
|.mk k n s l,u=>decide (k=u.kind)&&(decide (n=u.name)&&(decide (s=u.names)&&qd l u.kids))
def qd:List gU->List gU->Bool
|[],[]=>true
|t::l,u::r=>lC t u&&qd l r
|[],_::_=>false
|_::_,[]=>false
end
def bT(k:Int):gU:=.mk k (bs []) [] []
def iJ(t:gU):Int:=if t.kind<1\/6<t.kind then -1 else t.kind-1
def EE(a b:fF):Bool:=Op.bytesLess a.data.toList b.data.toList
def jb(s:fF):List fF->Nat
|[]=>0
|n::l=>if EE n s=true then jb s l+1 else 0
def kG:List fF->List gU->List fF->List gU->(List fF × List gU) × Bool
|s::ss,t::ts,ns,ks=>
 if nE s=false\/ns[jb s ns]?=some s then((ns,ks),false)else kG ss ts (ns.take (jb s ns)++s::ns.drop (jb s ns)) (ks.take (jb s ns)++t::ks.drop (jb s ns))
|_,_,ns,ks=>((ns,ks),true)
def y8(ns:List fF)(ts:List gU):gU × Bool:=
 if ns.length≠ts.length\/16<ns.length then(.mk 5 (bs []) [] [],false)else(.mk 5 (bs []) (kG ns ts [] []).1.1 (kG ns ts [] []).1.2,(kG ns ts [] []).2)
def ik(k:gU):List gU:=if k.kind=7 then k.kids else [k]
def jc(tag:Int):List gU->Bool->List gU->(Bool × List gU) × Bool
|[],had,ks=>((had,ks),true)
| x::l,had,ks=>
 if x.kind=0 then((had,ks),false)else if iJ x≠tag then jc tag l had ks else
  let ks':=if had then ks else ks++[x]
  if lC x (ks'.getLastD noT)=true then jc tag l true ks' else((true,ks'),false)
def qf(all:List gU):List Int->List gU->List gU × Bool
|[],ks=>(ks,true)
|tag::l,ks=>if(jc tag all false ks).2=true then qf all l (jc tag all false ks).1.2 else((jc tag all false ks).1.2,false)
def zS(kids:List gU):gU × Bool:=
 let r:=qf (kids.flatMap ik) [0,1,2,3,4,5] []
 if r.2=true then(match r.1 with
  |[t]=>(t,true)
  |l=>(.mk 7 (bs []) [] l,decide (0<l.length)))
 else(.mk 7 (bs []) [] r.1,false)
def oK(k:Int)(s:List fF)(l:List gU):gU × Bool:=
 if k=5 then y8 s l else if k=6 then(.mk 6 (bs []) [] l,decide (l.length=2))else zS l
mutual
def ll:gU->gU × Bool
|.mk k n s l=>if 5<=k/\k<=7 then(if(kV l).2=true then oK k s (kV l).1 else(noT,false))else if 0<=k/\k<=4 then(bT k,true)else(noT,false)
def kV:List gU->List gU × Bool
|[]=>([],true)
|t::l=>if(ll t).2=true then((ll t).1::(kV l).1,(kV l).2)else([],false)
end
def mO(t:gU):gU × Int:=if 16<oD 17 t\/200<nV t 201 then(noT,9)else if(ll t).2=true then((ll t).1,0)else(noT,9)
mutual
def sU:gU->Bool->fF
| .mk k n s l,br=>
 if k=0 then bs [97,110,121]else if k=1 then bs [110,117,108,108]else if k=2 then bs [98,111,111,108]else if k=3 then bs [105,110,116]else if k=4 then bs [115,116,114]
 else if k=5 then bs [123]++yC s l (bs []) 0++bs [125]
 else if k=6 then(match l with
  |a::b::_=>if br=true then bs [40]++(sU a true++bs [32,45,62,32]++sU b false)++bs [41]else sU a true++bs [32,45,62,32]++sU b false
  |_=>bs [])
 else zT l (bs []) 0
def yC:List fF->List gU->fF->Nat->fF
|s::ss,t::ts,out,i=>yC ss ts ((if 0<i then out++bs [44,32]else out)++s++bs [58,32]++sU t false) (i+1)
|_,_,out,_=>out
def zT:List gU->fF->Nat->fF
|t::ts,out,i=>zT ts ((if 0<i then out++bs [32,124,32]else out)++sU t true) (i+1)
|[],out,_=>out
end
def iE(t:gU):Bool:=decide ((mO t).2=0)&&lC (mO t).1 t
def yD(t:gU):fF:=if iE t=true then sU t false else bs []
structure iw where
 tag:Int
 opn:Bool
 t:gU
def iw.enc(p:iw):List D:=.int .i64 p.tag::.bool p.opn::p.t.enc
def Tp:iw:=⟨0,false,noT⟩
def ko(t:gU):List iw:=
 if t.kind=0 then [⟨0,false,bT 1⟩,⟨1,false,bT 2⟩,⟨2,false,bT 3⟩,⟨3,false,bT 4⟩,⟨4,true,bT 5⟩,⟨5,false,.mk 6 (bs []) [] [noT,noT]⟩]
 else if t.kind≠7 then [⟨iJ t,false,t⟩]else t.kids.map λk=>⟨iJ k,false,k⟩
def kH(l:List iw)(tag:Int):iw × Bool:=match l.find? λp=>decide (p.tag=tag)with
|some p=>(p,true)
|none=>(Tp,false)
def oF:List fF->List gU->fF->gU × Bool
|n::ns,k::ks,s=>if n=s then(k,true)else oF ns ks s
|_,_,_=>(noT,false)
def kM(t:gU)(s:fF):gU × Bool:=oF t.names t.kids s
def A7(rc:gU->gU->Bool)(m:gU):List fF->List gU->Bool
|s::ss,k::ks=>(kM m s).2&&(rc (kM m s).1 k&&A7 rc m ss ks)
|_,_=>true
def je(t:gU):gU:=t.kids.getD 0 noT
def jf(t:gU):gU:=t.kids.getD 1 noT
def vU (loose:Bool):Nat->gU->gU->Bool
|0,_,_=>false
| n+1,a,b=>
 if a.kind=0\/b.kind=0 then loose||decide (a.kind=b.kind)else
  (ko a).all λp=>
   let q:=kH (ko b) p.tag
   q.2&&(A7 (vU loose n) p.t q.1.t.names q.1.t.kids&&(!decide (q.1.tag=5)||(vU loose n (je q.1.t) (je p.t)&&vU loose n (jf p.t) (jf q.1.t))))
mutual
def jL:gU->Nat
|.mk _ _ _ l=>jg l+1
def jg:List gU->Nat
|[]=>0
|t::l=>max (jL t) (jg l)
end
def qw(loose:Bool)(a b:gU):Bool:=vU loose (jL a+jL b) a b
def pW(a b:gU):Bool:=iE a&&(iE b&&qw false a b)
def A8(a b:gU):Bool:=iE a&&(iE b&&qw true a b)
def zU(a b:gU):List Int->List gU->Option (List gU)
|[],l=>some l
| tag::r,l=>
 let m:=kH (ko a) tag;let n:=kH (ko b) tag
 if m.2=true/\n.2=true then
  (if qw false m.1.t n.1.t=true then zU a b r (l++[n.1.t])else if qw false n.1.t m.1.t=true then zU a b r (l++[m.1.t])else none)
 else if m.2=true then zU a b r (l++[m.1.t])else if n.2=true then zU a b r (l++[n.1.t])else zU a b r l
def y9(a b:gU):gU:=
 if pW a b=true then b else if pW b a=true then a
 else if iE a=false\/iE b=false\/a.kind=0\/b.kind=0 then noT
 else match zU a b [0,1,2,3,4,5] []with
  |none=>noT
  |some l=>if(mO (.mk 7 (bs []) [] l)).2=0 then(mO (.mk 7 (bs []) [] l)).1 else noT
def vV(t:gU)(tag:Int):gU × gU:=
 if iE t=false\/tag<0\/6<=tag then(t,t)
 else if t.kind=0 then(if tag=5 then(t,t)else(bT (1+tag),t))
 else if(kH (ko t) tag).2=false then(t,t)
 else if t.kind≠7 then(t,t)
 else match t.kids.filter λk=>decide (iJ k≠tag)with
  |[r]=>((kH (ko t) tag).1.t,r)
  |l=>((kH (ko t) tag).1.t,.mk 7 (bs []) [] l)
def fi{α:Type}(q:α->Bool):Nat->List α->Int
|_,[]=> -1
|j,x::l=>if q x=true then j else fi q (j+1) l
def jq(names:List fF)(s:fF):Int:=fi (λn=>decide (n=s)) 0 names
structure jF where
 name:fF
 module:Int
 decl:Int
def jF.enc(e:jF):List D:=[.str e.name,.int .i64 e.module,.int .i64 e.decl]
def A9:jF:=⟨bs [],0,0⟩
structure iQ where
 names:List fF
 mods:List jW
 scopes:List (List jF)
 main:jF
def iQ.enc(l:iQ):List D:=[.sl false 1 (encS l.names),.sl false 2 (l.mods.map jW.enc),.sl false 1 (l.scopes.map λs=>[.sl false 3 (s.map jF.enc)])]++l.main.enc
def Ba:iQ:=⟨[],[],[],A9⟩
def rR:List (fF × fF)->Nat->List fF->List jW->List iV->(List fF × List jW) × List iV
|[],_,ns,ms,bad=>((ns,ms),bad)
|s::l,i,ns,ms,bad=>
 let m:=qc s.2
 rR l (i+1) (ns++[s.1]) (ms++[m.1]) (if nE s.1=false then bad++[⟨i,1,1,10⟩]else if 0<=jq ns s.1 then bad++[⟨i,1,1,8⟩]else if m.2.e≠0 then bad++[⟨i,m.2.line,m.2.col,m.2.e⟩]else bad)
def u7(l:List (fF × fF)):(List fF × List jW) × List iV:=
 if 16<l.length then(([],[]),[⟨16,1,1,19⟩])else rR l 0 [] [] []
def qx:List jF->fF->jF × Bool
|[],_=>(A9,false)
|e::l,s=>if e.name=s then(e,true)else qx l s
def uG(m:jW)(s:fF):Int:=fi (λd:jZ=>decide (d.name=s)) 0 m.decs
def Bb:jZ:=⟨bs [],false,[],bs [],[],qo,0,0⟩
def og(M:jW)(m i:Int)(x:jl):List fF->List jF->List iV->List jF × List iV
|[],sc,bad=>(sc,bad)
|s::l,sc,bad=>
 if uG M s<0\/(M.decs.getD (uG M s).toNat Bb).exp=false then og M m i x l sc (bad++[⟨i,x.line,x.col,12⟩])
 else if(qx sc s).2=true then og M m i x l sc (bad++[⟨i,x.line,x.col,8⟩])
 else og M m i x l (sc++[⟨s,m,uG M s⟩]) bad
def yE(ns:List fF)(ms:List jW)(i:Int)(x:jl)(sc:List jF):List jF × List iV:=
 if jq ns x.from_<0 then(sc,[⟨i,x.line,x.col,11⟩])else og (ms.getD (jq ns x.from_).toNat o9) (jq ns x.from_) i x x.names sc []
def zV(ns:List fF)(ms:List jW)(i:Int):List jl->List jF->List iV->List jF × List iV
|[],sc,bad=>(sc,bad)
|x::l,sc,bad=>zV ns ms i l (yE ns ms i x sc).1 (bad++(yE ns ms i x sc).2)
def yc(i:Int):List jZ->Nat->List jF->List iV->List jF × List iV
|[],_,sc,bad=>(sc,bad)
|d::l,k,sc,bad=>if(qx sc d.name).2=true then yc i l (k+1) sc (bad++[⟨i,d.line,d.col,8⟩])else yc i l (k+1) (sc++[⟨d.name,i,k⟩]) bad
def uz(ns:List fF)(ms:List jW):List jW->Nat->List (List jF)->List iV->List (List jF) × List iV
|[],_,all,bad=>(all,bad)
|m::l,i,all,bad=>
 let a:=zV ns ms i m.imps [] bad;let b:=yc i m.decs 0 a.1 a.2
 uz ns ms l (i+1) (all++[b.1]) b.2
def zW(ns:List fF):List jl->List Bool->List Bool
|[],seen=>seen
|x::l,seen=>zW ns l (if 0<=jq ns x.from_ then seen.set (jq ns x.from_).toNat true else seen)
def Aa(ns:List fF):List jW->Nat->List Bool->List Bool
|[],_,seen=>seen
|m::l,i,seen=>Aa ns l (i+1) (if seen.getD i false=true then zW ns m.imps seen else seen)
def FT(ns:List fF)(ms:List jW):Nat->List Bool->List Bool
|0,seen=>seen
|n+1,seen=>FT ns ms n (Aa ns ms 0 seen)
def EF(ns:List fF)(ms:List jW)(f t:Nat):Bool:=(FT ns ms ms.length ((List.replicate ms.length false).set f true)).getD t false
def zX(ns:List fF)(ms:List jW)(i:Nat):List jl->List iV->List iV
|[],bad=>bad
|x::l,bad=>zX ns ms i l (if 0<=jq ns x.from_/\EF ns ms (jq ns x.from_).toNat i=true then bad++[⟨i,x.line,x.col,13⟩]else bad)
def zY(ns:List fF)(ms:List jW):List jW->Nat->List iV->List iV
|[],_,bad=>bad
|m::l,i,bad=>zY ns ms l (i+1) (zX ns ms i m.imps bad)
abbrev vW:=bs [109,97,105,110]
def yf(l:List (fF × fF)):iQ × List iV:=
 let f:=u7 l
 if 0<f.2.length then(Ba,f.2)else
 let s:=uz f.1.1 f.1.2 f.1.2 0 [] []
 if 0<s.2.length then(Ba,s.2)else
 let t:=zY f.1.1 f.1.2 f.1.2 0 []
 if 0<t.length then(Ba,t)else
 let i:=jq f.1.1 vW
 if i<0 then(Ba,[⟨0,1,1,14⟩])else
 let k:=uG (f.1.2.getD i.toNat o9) vW
 if k<0 then(Ba,[⟨i,1,1,14⟩])else
 let d:=(f.1.2.getD i.toNat o9).decs.getD k.toNat Bb
 if 0<d.vars.length then(Ba,[⟨i,d.line,d.col,14⟩])else
 (⟨f.1.1,f.1.2,s.1,⟨vW,i,k⟩⟩,[])
def yg:List fF->List gU->fF->Option gU
|v::vs,t::ts,s=>if v=s then some t else yg vs ts s
|_,_,_=>none
mutual
def tN(vars:List fF)(wth:List gU):gU->gU × Bool
| .mk k n s l=>
 if k=8 then(if 0<s.length\/0<l.length then(.mk k n s l,false)else match yg vars wth n with
  |some t=>(t,true)
  |none=>(.mk k n s l,false))
 else if(yh vars wth l).2=true then(.mk k n s (yh vars wth l).1,true)else(.mk k n s l,false)
def yh(vars:List fF)(wth:List gU):List gU->List gU × Bool
|[]=>([],true)
|t::l=>if(tN vars wth t).2=true then((tN vars wth t).1::(yh vars wth l).1,(yh vars wth l).2)else([],false)
end
def qy(t:gU)(vars:List fF)(wth:List gU):gU × Int:=
 if vars.length≠wth.length then(noT,1)else if 200<nV t 201\/16<oD 17 t then(noT,9)
 else if(tN vars wth t).2=true then mO (tN vars wth t).1 else(noT,9)
def FU:List (fF × gU)->List gU->List fF->List gU->Int
|v::vs,t::ts,names,had=>
 if iE t=false then 18
 else if v.2.kind≠0/\((qy v.2 names had).2≠0\/pW t (qy v.2 names had).1=false)then 18
 else FU vs ts (names++[v.1]) (had++[t])
|_,_,_,_=>0
def EG(vars:List (fF × gU))(l:List gU):Int:=if vars.length≠l.length then 18 else FU vars l [] []
structure kX where
 module:Int
 decl:Int
 types:List gU
def kX.enc(x:kX):List D:=[.int .i64 x.module,.int .i64 x.decl,.sl false 4 (x.types.map gU.enc)]
def Ab(a b:kX):Bool:=decide (a.module=b.module)&&(decide (a.decl=b.decl)&&lL lC a.types b.types)
def ku(most:Int)(L:List kX)(x:kX):(Int × Int) × List kX:=
 if(x.types.all iE)=false then((0,9),L)
 else if 0<=fi (λy=>Ab y x) 0 L then((fi (λy=>Ab y x) 0 L,0),L)
 else if most<=L.length then((0,19),L)else((L.length,0),L++[x])
end Go.Gr
