/- Texts of ours, joined and written short by a program of ours. -/
import Derived.Test.YtlfjlokfciejnaaGreatDoorFJ07
import Derived.Test.YtlfjlokfciejnaaGreatDoorFJ06
set_option maxRecDepth 20000
set_option maxHeartbeats 4000000
set_option linter.unusedVariables false
set_option linter.unusedSimpArgs false
namespace Go.Gr
open Go.Abs Go.Proofs List
def iZ(v:fE × gT):List D:=.str v.1::v.2.enc
def je.enc(i:je):List D:=[.str i.from_,.sl false 1 (encS i.names),.int .i64 i.line,.int .i64 i.col]
def jS.enc(d:jS):List D:=[.str d.name,.bool d.exp,.sl false 5 (d.vars.map iZ),.str d.param,.sl false 4 (d.types.map gT.enc)]++d.body.enc++[.int .i64 d.line,.int .i64 d.col]
def jP.enc(m:jP):List D:=[.sl false 4 (m.imps.map je.enc),.sl false 15 (m.decs.map jS.enc)]
@[simp] theorem zJd(v:fE × gT):(iZ v).length=5:=by simp[iZ]
@[simp] theorem je.enc_length(v:je):v.enc.length=4:=rfl
@[simp] theorem jS.enc_length(v:jS):v.enc.length=15:=by simp[jS.enc]
@[simp] theorem jP.enc_length(v:jP):v.enc.length=2:=rfl
theorem TB(v:fE × gT):D.erdL (iZ v)=iZ v:=by simp[iZ]
theorem TC:∀l:List (fE × gT),D.erdE (l.map iZ)=l.map iZ
|[]=>rfl
|v::l=>by simp only[map_cons,D.erdE,TB,TC l]
@[simp] theorem zGc:∀a b:List D,D.erdL (a++b)=D.erdL a++D.erdL b
|[],_=>rfl
|x::a,b=>by simp only[cons_append,D.erdL,zGc a b]
@[simp] theorem zw8:∀a b:List (List D),D.erdE (a++b)=D.erdE a++D.erdE b
|[],_=>rfl
|x::a,b=>by simp only[cons_append,D.erdE,zw8 a b]
attribute [simp] TB TC
@[simp] theorem je.erdL(v:je):D.erdL v.enc=v.enc:=by simp[je.enc]
@[simp] theorem je.erdE:∀l:List je,D.erdE (l.map je.enc)=l.map je.enc
|[]=>rfl
|v::l=>by simp only[map_cons,D.erdE,je.erdL,je.erdE l]
@[simp] theorem zJ4(a b c d e:AC)(T:gT):splice [a,b,c,d,e] 1 (T.enc.map AC.d)=a::T.enc.map .d:=by rw[T.enc_eq];try rfl
theorem LV:∀v:List (List D),(D.erdE v).length=v.length
|[]=>rfl
|d::v=>by simp only[D.erdE,length_cons,LV v]
section
variable {L:List Tok}
theorem IK(hL:jC L):∀(n:Nat) (l:List fE),gz L (uK L n l)
|0,l,p,hp=>Tm.refl hp
|n+1,l,p,hp=>by
 have h1:=lc hL hp;have h2:=h1.trans (iW hL h1.lt (s:=bs [44]));rw[uK];split
 ·exact h2.trans (IK hL n _ _ h2.lt)
 ·exact h2
theorem yT(hL:jC L):gz L (ui L):=LH hL 102
theorem IL(hL:jC L):gz L (Dk L):=(Et hL (yT hL) 102).1
theorem TD(hL:jC L)(hl:L.length<=10000):pu L 0 (ui L):=λr hr hd=>LU hL hl 102 r hr (by omega) (by omega)
theorem zJl(hL:jC L)(hl:L.length<=10000):nM L 126 0 (Dk L):=(TA hL hl 102 0 (by omega) (by omega)).1
def uM(L:List Tok)(p:PS):gT × PS:=if(iA L (bs [60,58]) p).1=true then ui L (iA L (bs [60,58]) p).2 else(noT,p)
theorem zIG(hL:jC L):gz L (uM L):=λp hp=>by
 unfold uM;split
 ·have h1:=iW hL hp (s:=bs [60,58]);exact h1.trans (yT hL _ h1.lt)
 ·exact Tm.refl hp
theorem TE(n:Nat)(l:List (fE × gT))(p:PS):yP L (n+1) l p=if(iA L (bs [44]) (uM L (jB L p).2).2).1=true then yP L n (l++[((jB L p).1,(uM L (jB L p).2).1)]) (iA L (bs [44]) (uM L (jB L p).2).2).2 else(l++[((jB L p).1,(uM L (jB L p).2).1)],jI L (bs [93]) (iA L (bs [44]) (uM L (jB L p).2).2).2):=by
 rw[yP];try rfl
theorem TF(hL:jC L):∀(n:Nat) (l:List (fE × gT)),gz L (yP L n l)
|0,l,p,hp=>Tm.refl hp
|n+1,l,p,hp=>by
 have h1:=lc hL hp;have h2:=h1.trans (zIG hL _ h1.lt);have h3:=h2.trans (iW hL h2.lt (s:=bs [44]));rw[TE];split
 ·exact h3.trans (TF hL n _ _ h3.lt)
 ·exact h3.trans (iw hL h3.lt)
theorem IM(hL:jC L):gz L (yQ L):=λp hp=>by
 unfold yQ;split
 ·have h1:=iW hL hp (s:=bs [91]);exact h1.trans (TF hL _ _ _ h1.lt)
 ·exact Tm.refl hp
theorem Ex(hL:jC L):∀(n:Nat) (l:List je),gz L (xI L n l)
|0,l,p,hp=>Tm.refl hp
| n+1,l,p,hp=>by
 rw[xI];split
 ·have h1:=iW hL hp (s:=xH);have h2:=h1.trans (lc hL h1.lt);have h3:=h2.trans (iw hL h2.lt (s:=bs [58]));have h4:=h3.trans (IK hL (L.length+1) [] _ h3.lt);have h5:=h4.trans (iw hL h4.lt (s:=bs [59]));exact h5.trans (Ex hL n _ _ h5.lt)
 ·exact Tm.refl hp
theorem LW(hL:jC L):gz L (rT L):=λp hp=>by
 have h1:=iW hL hp (s:=AA);have h2:=h1.trans (iw hL h1.lt (s:=tT));have h3:=h2.trans (lc hL h2.lt);have h4:=h3.trans (IM hL _ h3.lt);have h5:=h4.trans (BK hL (yT hL) _ h4.lt);have h6:=h5.trans (iw hL h5.lt (s:=bs [61]));have h7:=h6.trans (IL hL _ h6.lt);exact h7.trans (iw hL h7.lt (s:=bs [59]))
theorem IP(hL:jC L):∀(n:Nat) (l:List jS),gz L (rU L n l)
|0,l,p,hp=>Tm.refl hp
| n+1,l,p,hp=>by
 rw[rU];split
 ·have h1:=LW hL _ hp;exact h1.trans (IP hL n _ _ h1.lt)
 ·exact Tm.refl hp
theorem zEH(hL:jC L):gz L (BJ L):=λp hp=>by
 have h1:=Ex hL (L.length+1) [] _ hp;exact h1.trans (IP hL (L.length+1) [] _ h1.lt)
theorem zEI(hL:jC L)(hl:L.length<=10000)(p:PS)(h:p.at'<L.length):
  MCall Pg 123 [.c (.ptr 0 0)] [jk L p] (.c (.d (.sl false 1 (encS (uK L (L.length+1) [] p).1)))) [jk L (uK L (L.length+1) [] p).2]:=by
 refine zB9 mX λts hts ok hb c hN hp=>?_;obtain⟨t,rfl⟩:=mD hts;obtain⟨F0,hF0⟩:∃F0,uK L (L.length+1) [] p=F0:=⟨_,rfl⟩
 rw[hF0];unfold SK;simp;refine fU [.t 3] ?_;simp
 refine fO gy hp (λx:Nat × List fE × PS=>uK L x.1 x.2.1 x.2.2=F0/\Tm L p x.2.2/\L.length<x.1+x.2.2.at'/\x.2.1.length<=x.2.2.at')
  (λx=>[(0,.c (.ptr 0 0)),(3,.c (.msl 1 2 0 x.2.1.length))])
  (λx=>[jk L x.2.2,.pin t 0,.arr 1 ((encS x.2.1).map (·.map .d))])
  (λx=>x.1) (L.length+1,[],p) [0,1,2] ⟨hF0,Tm.refl h,by simp only;omega,by simp⟩ (by simp) λ⟨n,l,q⟩ ⟨i1,i2,i3,i4⟩=>?_
 unfold SI;simp only at i1 i2 i4;have i3:L.length<n+q.at':=i3;have hlt:=i2.lt;obtain⟨n,rfl⟩:∃m,n=m+1:=⟨n-1,by omega⟩
 rw[uK]at i1;have e1:=lc hL hlt;have le1:=e1.le;have a1:=xJ q hlt hl;have a2:=lg (bs [44]) _ e1.lt hl;generalize (jB L q).1=s at*
 generalize (jB L q).2=q1 at*
 simp;refine gN [0] a1 ?_;simp;refine⟨by omega,?_⟩;refine gN [0] a2 ?_;by_cases q2:(iA L (bs [44]) q1).1=true
 ·rw[aC q2]at i1;have hat:=(take_at q2).1;have e2:=e1.trans (iW hL e1.lt (s:=bs [44]));generalize (iA L (bs [44]) q1).2=q3 at*
  simp[q2];refine fF (n,l++[s],q3) [0,1,3] ⟨i1,i2.trans e2,by simp only;omega,by simp;omega⟩ (by simp) ?_;simp;exact aG (by simp)
 ·rw[aB q2,lH q2]at i1;rw[lH q2,<-i1];rw[aK]at q2;have z:take l.length (List.map (λx=>List.map AC.d x) (encS l))=List.map (λx=>List.map AC.d x) (encS l):=aG (by simp);have z2:take (l.length+1) (encS l++[[.str s]])=encS l++[[.str s]]:=aG (by simp);simp[q2];refine fT [3] ?_;simp[iV,z];exact fM [0] [1] (by simp[iV,z,z2])
theorem zGd(hL:jC L)(hl:L.length<=10000)(p:PS)(h:p.at'<L.length)(hd:p.deep=0):
  MCall Pg 124 [.c (.ptr 0 0)] [jk L p] (.c (.d (.sl false 5 ((yQ L p).1.map iZ)))) [jk L (yQ L p).2]:=by
 refine zDM mX λts hts ok hb c hN hp=>?_;obtain⟨t,rfl⟩:=mD hts;have c1:=lg (bs [91]) p h hl;unfold SN yQ;simp;refine gN [0] c1 ?_;by_cases q0:(iA L (bs [91]) p).1=true
 ·rw[aC q0];have t1:=iW hL h (s:=bs [91]);obtain⟨F0,hF0⟩:∃F0,yP L (L.length+1) [] (iA L (bs [91]) p).2=F0:=⟨_,rfl⟩
  rw[hF0];generalize (iA L (bs [91]) p).2=p1 at*
  have hd1:p1.deep=0:=by rw[t1.deep,hd]
  simp[q0];refine fU [.t 3] ?_;simp
  refine fO gy hp (λx:Nat × List (fE × gT) × List (List D) × PS=>yP L x.1 x.2.1 x.2.2.2=F0/\Tm L p1 x.2.2.2/\L.length<x.1+x.2.2.2.at'/\x.2.1.length<=x.2.2.2.at'/\D.erdE x.2.2.1=x.2.1.map iZ)
   (λx=>[(0,.c (.ptr 0 0)),(3,.c (.msl 5 2 0 x.2.2.1.length))])
   (λx=>[jk L x.2.2.2,.pin t 0,.arr 5 (x.2.2.1.map (·.map .d))])
   (λx=>x.1) (L.length+1,[],[],p1) [0,1,2] ⟨hF0,Tm.refl t1.lt,by simp only;omega,by simp,rfl⟩ (by simp) λ⟨n,l,v,q⟩ ⟨i1,i2,i3,i4,i5⟩=>?_
  unfold SL;simp only at i1 i2 i4 i5;have i3:L.length<n+q.at':=i3;have hvl:v.length=l.length:=by rw[<-LV,i5,aU]
  have hlt:=i2.lt;obtain⟨n,rfl⟩:∃m,n=m+1:=⟨n-1,by omega⟩
  rw[TE]at i1;have e1:=lc hL hlt;have le1:=e1.le;have a1:=xJ q hlt hl;have a2:=lg (bs [60,58]) _ e1.lt hl;generalize (jB L q).1=s at*
  generalize (jB L q).2=q1 at*
  simp;refine gN [0] a1 ?_;simp;refine gN [0] a2 ?_;unfold uM at i1;by_cases b1:(iA L (bs [60,58]) q1).1=true
  ·rw[aC b1]at i1;have e2:=e1.trans (iW hL e1.lt (s:=bs [60,58]));have e3:=e2.trans (yT hL _ e2.lt);have hat:=(take_at b1).1;have le3:=(yT hL _ e2.lt).le;have a3:=TD hL hl _ e2.lt (by rw[e2.deep,i2.deep,hd1]);have a4:=lg (bs [44]) _ e3.lt hl;generalize (iA L (bs [60,58]) q1).2=q2 at*
   generalize (ui L q2).1=T at*
   generalize (ui L q2).2=q3 at*
   simp[b1];refine gN [0] a3 ?_;simp;refine⟨by omega,?_⟩;refine gN [0] a4 ?_;by_cases q2:(iA L (bs [44]) q3).1=true
   ·rw[aC q2]at i1;have hat:=(take_at q2).1;have e4:=e3.trans (iW hL e3.lt (s:=bs [44]));generalize (iA L (bs [44]) q3).2=q4 at*
    simp[q2];refine fF (n,l++[(s,T)],v++[.str s::T.enc],q4) [0,1,4] ⟨i1,i2.trans e4,by simp only;omega,by simp;omega,by simp[i5,iZ]⟩ (by simp) ?_;simp;exact aG (by simp)
   ·rw[aB q2,lH q2]at i1;rw[lH q2,<-i1];rw[aK]at q2;have a3:=ng hL (bs [93]) _ e3.lt hl;have z:take v.length (List.map (λx=>List.map AC.d x) v)=List.map (λx=>List.map AC.d x) v:=aG (by simp);have z2:take (v.length+1) (v++[.str s::T.enc])=v++[.str s::T.enc]:=aG (by simp);simp[q2];refine fT [4] ?_;simp[iV,z];refine gN [0] a3 ?_;simp[iV,z];exact fI [0] [1] (by simp[iV,z,z2,i5,iZ])
  ·rw[aB b1]at i1;rw[lH b1];rw[aK]at b1;have a4:=lg (bs [44]) _ e1.lt hl;simp[b1];refine⟨by omega,?_⟩;refine gN [0] a4 ?_;by_cases q2:(iA L (bs [44]) q1).1=true
   ·rw[aC q2]at i1;have hat:=(take_at q2).1;have e4:=e1.trans (iW hL e1.lt (s:=bs [44]));generalize (iA L (bs [44]) q1).2=q4 at*
    simp[q2];refine fF (n,l++[(s,noT)],v++[[.str s,.int .i64 0,.str (bs []),.sl true 1 [],.sl true 4 []]],q4) [0,1,4] ⟨i1,i2.trans e4,by simp only;omega,by simp;omega,by simp[i5,iZ,noT,gT.enc,gT.encs,encS]⟩ (by simp) ?_;simp;exact aG (by simp)
   ·rw[aB q2,lH q2]at i1;rw[lH q2,<-i1];rw[aK]at q2;have a3:=ng hL (bs [93]) _ e1.lt hl;have z:take v.length (List.map (λx=>List.map AC.d x) v)=List.map (λx=>List.map AC.d x) v:=aG (by simp);have z2:take (v.length+1) (v++[[.str s,.int .i64 0,.str (bs []),.sl true 1 [],.sl true 4 []]])=v++[[.str s,.int .i64 0,.str (bs []),.sl true 1 [],.sl true 4 []]]:=aG (by simp);simp[q2];refine fT [4] ?_;simp[iV,z];refine gN [0] a3 ?_;simp[iV,z];exact fI [0] [1] (by simp[iV,z,z2,i5,iZ,noT,gT.enc,gT.encs,encS])
 ·rw[aB q0,lH q0];rw[aK]at q0;simp[q0];exact fI [0] [1] (by simp)
end
theorem Dp(c:Int):gU Pg 72 [.one (.int .u8 c)] (.one (.bool (sO c))):=by
 refine zje (by simp) λo c' hN hp=>?_;unfold RX sO;by_cases h1:97<=c<;>by_cases h2:c<=122<;>by_cases h3:65<=c<;>by_cases h4:c<=90<;>simp[h1,h2,h3,h4]<;>(try (intros;omega))<;>(try omega)
theorem Dq(c:Int):gU Pg 71 [.one (.int .u8 c)] (.one (.bool (ow c))):=by
 refine zj3 (by simp) λo c' hN hp=>?_;unfold RY ow;by_cases h1:48<=c<;>by_cases h2:c<=57<;>simp[h1,h2]<;>(try omega)
theorem LX:gU Pg 118 [] (.one (.sl false 1 (encS CO))):=by
 refine zj2 (by simp) λo c' hN hp=>?_;unfold RS;simp[CO,encS]
theorem LY(s:fE):gU Pg 70 [.one (.str s)] (.one (.bool (zC s))):=by
 refine zkU (by simp) λo c' hN hp=>?_;unfold RV zC;have hl:CO.length=25:=rfl;obtain⟨l,hwl⟩:∃l,CO=l:=⟨_,rfl⟩
 rw[hwl]at hl⊢;obtain⟨R,hR⟩:∃R,(l.any λw=>decide (w=s))=R:=⟨_,rfl⟩
 rw[hR];have hw:=LX;rw[hwl]at hw;simp;refine gQ hw ?_;simp;refine fO gy hp (λj:Nat=>j<=l.length/\(l.drop j).any (λw=>decide (w=s))=R) (λj=>[(4,.c (.d (.int .i64 j))),(3,.c (.d (.sl false 1 (encS l)))),(0,.c (.d (.str s)))]) (λ_=>[]) (λj=>l.length-j) 0 [] ⟨by simp,by simpa using hR⟩ (by simp) λj ⟨h1,h2⟩=>?_;unfold RU;simp;apply gM<;>intro h
 ·have hj:j<l.length:=by simpa using h
  rw[aD hj,any_cons]at h2;simp[aA hj];apply gM<;>intro h
  ·rw[h]at h2;simp[<-h2]
  ·rw[h]at h2;refine fF (j+1) [] ⟨by omega,h2⟩ (by omega) ?_;simp;exact wI
 ·have hj:j=l.length:=by simp at h;omega
  subst hj;rw[aO,any_nil]at h2;simp[<-h2]
theorem zJa{a b:List UInt8}(h:bA a=bA b):a=b:=by
 have:(bA a).data.toList=(bA b).data.toList:=by rw[h]
 simpa[bA]using this
theorem LZ(s:fE):bA s.data.toList=s:=by
 cases s;simp[bA]
theorem IQ(s:fE)(a b:Nat):s.extract a b=bA ((s.data.toList.drop a).take (b-a)):=by
 rw[<-LZ (s.extract a b)];congr 1;simp[ByteArray.data_extract,Array.toList_extract]
theorem IR(s:fE):gU Pg 45 [.one (.str s)] (.one (.bool (mY s))):=by
 refine zkV (by simp) λo c' hN hp=>?_;have hs:s.size<=zah:=by have:=o.1;simpa only[DV.ok,D.ok]using this
 unfold zah at hs;have hlen:=uL s;obtain⟨R,hR⟩:∃R,mY s=R:=⟨_,rfl⟩
 rw[hR];unfold mY at hR;unfold R3;by_cases h0:s.size=0
 ·have hL:s.data.toList=[]:=aT.1 (by omega);rw[hL]at hR;simp only at hR;subst hR;simp;refine gQ (LY s) ?_;simp[h0]
 have hj0:0<s.data.toList.length:=by omega
 have hb0:=xL hj0;have hR:(decide (s.size<=32)&&(!zC s&&(!jv s.data.toList[0]&&s.data.toList.all λb=>mI b||jv b)))=R:=by
  rw[<-hR];revert hj0;cases s.data.toList with
  |nil=>intro h;simp at h
  |cons c l=>intro h _;rfl
 simp;refine gQ (LY s) ?_;have h0':¬(s.size:Int)=0:=by omega
 by_cases h32:s.size<=32;rotate_left
 ·have h32':(32:Int)<s.size:=by omega
  simp[h32]at hR;simp[h0,h0',h32',hR]
 have h32':¬(32:Int)<s.size:=by omega
 simp only[h32,decide_true,Bool.true_and]at hR;generalize zC s=wv at*
 cases wv with
 |true=>
  simp at hR;simp[h0,h0',h32',hR]
 | false=>
  simp only[Bool.not_false,Bool.true_and]at hR;generalize s.data.toList[0]=b0 at*
  have hd:jv b0=ow b0.toNat:=rfl;simp[h0,h0',h32',hb0];refine gQ (Dq b0.toNat) ?_;rw[<-hd];generalize jv b0=d0 at*
  cases d0 with
  |true=>
   simp at hR;simp[hR]
  | false=>
   simp only[Bool.not_false,Bool.true_and]at hR;simp;refine fO gy hp (λj:Nat=>j<=s.size/\((s.data.toList.drop j).all λb=>mI b||jv b)=R) (λj=>[(4,.c (.d (.int .i64 j))),(0,.c (.d (.str s)))]) (λ_=>[]) (λj=>s.size-j) 0 [] ⟨by simp,by simpa using hR⟩ (by simp) λj ⟨h1,h2⟩=>?_;unfold RZ;simp;apply gM<;>intro h
   ·have hj:j<s.size:=by simpa using h
    have hj':j<s.data.toList.length:=by omega
    rw[aD hj',all_cons]at h2;have hb:=xL hj';generalize s.data.toList[j]=b at h2 hb;have hd:jv b=ow b.toNat:=rfl;have hle:mI b=sO b.toNat:=rfl;simp[hb];refine gQ (Dp b.toNat) ?_;rw[<-hle];simp[hb];refine gQ (Dq b.toNat) ?_;rw[<-hd];generalize mI b=x1 at*
    generalize jv b=x2 at*
    cases x1<;>cases x2
    ·simp at h2;simp[h2]
    all_goals
     simp only[Bool.or_true,fC,Bool.true_and,Bool.or_self]at h2;simp;refine fF (j+1) [] ⟨by omega,h2⟩ (by omega) ?_;simp;exact wI
   ·have hj:j=s.size:=by simp at h;omega
    subst hj;rw[bE (by omega),all_nil]at h2;simp[<-h2]
def lV:List fE:=[bs [45,62],bs [61,62],bs [60,58],bs [60,60],bs [60,61],bs [62,62],bs [61,61],bs [43,43]]
def uN:fE:=bs [40,41,123,125,91,93,44,58,59,61,43,45,42,47,37,38,94,60,124,46]
theorem zIm:lV=xB.map bA:=by decide
theorem L6:uN.data.toList=nL:=by decide
theorem zIn(s:fE):(xB.any λt=>decide (s.data.toList.take 2=t))=(lV.any λt=>decide (s.extract 0 2=t)):=by
 rw[zIm,any_map];congr 1;funext t;simp only[Function.comp];rw[IQ];simp only[drop_zero,dz];by_cases h:s.data.toList.take 2=t
 ·simp[h]
 ·have:¬bA (s.data.toList.take 2)=bA t:=λe=>h (zJa e);simp[h,this]
theorem zFF{s:fE}(h:s.size<2):(xB.any λt=>decide (s.data.toList.take 2=t))=false:=by
 have hlen:=uL s;rw[dW];intro t ht;have h2:t.length=2:=by
  revert t;decide
 simp only[aI];intro e;have:=dO length e;rw[bI]at this;omega
theorem zIo(s:fE)(hpos:0<s.size):gU Pg 178 [.one (.str s)] (.one (.int .i64 (yz s.data.toList))):=by
 refine zDz (by simp) λo c' hN hp=>?_;have hs:s.size<=zah:=by have:=o.1;simpa only[DV.ok,D.ok]using this
 unfold zah at hs;have hlen:=uL s;obtain⟨R,hR⟩:∃R,yz s.data.toList=R:=⟨_,rfl⟩
 rw[hR];have hj0:0<s.data.toList.length:=by omega
 have hb0:=xL hj0;have hR:(if(xB.any λt=>decide (s.data.toList.take 2=t))=true then 2 else if s.data.toList[0]∈nL then 1 else 0)=R:=by
  rw[<-hR];revert hj0;unfold yz;cases s.data.toList with
  |nil=>intro h;simp at h
  |cons c l=>intro h _;rfl
 generalize s.data.toList[0]=b0 at*
 have k2:∀{Q:Exit->St->Prop} {S:St} {g} {ms:List Nat} (h0:iM ms S [(6,.c (.d (.int .i64 0))),(5,.c (.d (.str uN))),(0,.c (.d (.str s)))] []),
   (b0∈nL->∀T M n,Abs.look T 2=.c (.d (.int .i64 1))->Q .ret ⟨T,M,n⟩)->(b0∉nL->∀T M n,Q (.exit 2) ⟨T,M,n⟩)->mW Pg c' Kv Q g S:=by
  intro Q S g ms h0 hy hn;refine fO gy hp (λj:Nat=>j<=nL.length/\(b0∈nL.drop j↔b0∈nL)) (λj=>[(6,.c (.d (.int .i64 j))),(5,.c (.d (.str uN))),(0,.c (.d (.str s)))]) (λ_=>[]) (λj=>nL.length-j) 0 ms ⟨by simp,by simp⟩ h0 λj ⟨h1,h2⟩=>?_;have hsz:uN.size=nL.length:=by rw[<-uL,L6]
  unfold Kv;simp[hsz];apply gM<;>intro h
  ·have hj:j<nL.length:=by simpa using h
   have hb:uN.data[j]?=some nL[j]:=by
    have:=xL (s:=uN) (j:=j) (by rw[L6];exact hj);rw[this];simp only[L6]
   rw[aD hj,aN]at h2;generalize nL[j]=b at*
   simp[hb0,hb];refine⟨by decide,?_⟩;by_cases e:b0=b
   ·subst e;simp;exact hy (h2.1 (.inl rfl)) _ _ _ (by simp)
   ·have e':¬(b0.toNat:Int)=b.toNat:=λq=>e (dY.mp (by omega));have e'':¬b0.toNat=b.toNat:=λq=>e (dY.mp (by omega));simp[e',e'',e];refine fF (j+1) [] ⟨by omega,⟨λz=>h2.1 (.inr z),λz=>(h2.2 z).resolve_left e⟩⟩ (by omega) ?_;simp;exact wrap_i64 (by have:nL.length=20:=rfl;omega) (by have:nL.length=20:=rfl;omega)
  ·have hj:j=nL.length:=by simp at h;omega
   subst hj;rw[aO]at h2;exact hn (λz=>by simpa using h2.2 z) _ _ _
 unfold R4;simp;by_cases h2s:s.size<2
 ·have hz:=zFF h2s;rw[hz]at hR;simp only[aa,if_false]at hR;have h2':¬(2:Int)<=s.size:=by omega
  refine fO gy hp (λj:Nat=>j<=lV.length) (λj=>[(4,.c (.d (.int .i64 j))),(3,.c (.d (.sl true 1 (encS lV)))),(0,.c (.d (.str s)))]) (λ_=>[]) (λj=>lV.length-j) 0 [] (by simp) (by simp[encS,lV]) λj h1=>?_;unfold Ku;simp;apply gM<;>intro h
  ·have hj:j<lV.length:=by simpa using h
   simp[h2'];refine⟨by decide,?_⟩;refine fF (j+1) [] (by omega) (by omega) ?_;simp;exact wrap_i64 (by have:lV.length=8:=rfl;omega) (by have:lV.length=8:=rfl;omega)
  ·skip
   refine k2 (ms:=[]) (by simp[uN]) (λhm T M n ht=>?_) (λhm T M n=>?_)
   ·rw[aC hm]at hR;subst hR;simp[ht]
   ·rw[aB hm]at hR;subst hR;simp
 ·rw[zIn]at hR;have h2':(2:Int)<=s.size:=by omega
  have h2'':2<=s.size:=by omega
  refine fO gy hp (λj:Nat=>j<=lV.length/\(lV.drop j).any (λt=>decide (s.extract 0 2=t))=lV.any (λt=>decide (s.extract 0 2=t))) (λj=>[(4,.c (.d (.int .i64 j))),(3,.c (.d (.sl true 1 (encS lV)))),(0,.c (.d (.str s)))]) (λ_=>[]) (λj=>lV.length-j) 0 [] ⟨by simp,by simp⟩ (by simp[encS,lV]) λj ⟨h1,h3⟩=>?_;unfold Ku;simp;apply gM<;>intro h
  ·have hj:j<lV.length:=by simpa using h
   rw[aD hj,any_cons]at h3;simp[h2',h2'',aA hj];generalize lV[j]=u at*
   by_cases e:s.extract 0 2=u
   ·rw[<-h3]at hR;simp[e]at hR;subst hR;simp[e];decide
   ·simp[e]at h3⊢;refine⟨by decide,?_⟩;refine fF (j+1) [] ⟨by omega,by simpa using h3⟩ (by omega) ?_;simp;exact wrap_i64 (by have:lV.length=8:=rfl;omega) (by have:lV.length=8:=rfl;omega)
  ·have hj:j=lV.length:=by simp at h;omega
   subst hj;rw[aO,any_nil]at h3;rw[<-h3]at hR;simp only[aa,if_false]at hR;simp;refine k2 (ms:=[]) (by simp[uN]) (λhm T M n ht=>?_) (λhm T M n=>?_)
   ·rw[aC hm]at hR;subst hR;simp[ht]
   ·rw[aB hm]at hR;subst hR;simp
theorem ub(b c:UInt8):b=c↔(b.toNat:Int)=c.toNat:=⟨λh=>by rw[h],λh=>dY.mp (by omega)⟩
theorem L8(b c:UInt8):b=c↔b.toNat=c.toNat:=⟨λh=>by rw[h],λh=>dY.mp h⟩
theorem un{b c:UInt8}(h:¬b=c):¬(b.toNat:Int)=c.toNat/\¬b.toNat=c.toNat:=⟨λe=>h ((ub b c).2 e),λe=>h ((L8 b c).2 e)⟩
theorem zGe(s:fE):gU Pg 153 [.one (.str s)] (.one (.int .i64 (iU false s.data.toList))):=by
 refine zB4 (by simp) λo c' hN hp=>?_;have hs:s.size<=zah:=by have:=o.1;simpa only[DV.ok,D.ok]using this
 unfold zah at hs;have hlen:=uL s;obtain⟨R,hR⟩:∃R,iU false s.data.toList=R:=⟨_,rfl⟩
 rw[hR]
 have k2:∀{Q:Exit->St->Prop} {S:St} {g} {ms:List Nat} (k:Nat) (hk:k<s.size) (hne:s.data[k]?≠some 10) (hq:k+iU true (s.data.toList.drop k)=R) (h0:iM ms S [(3,.c (.d (.int .i64 k))),(0,.c (.d (.str s)))] []),
   (∀j T M n,j<=s.size->k<j->j+iU false (s.data.toList.drop j)=R->Abs.look T 3=.c (.d (.int .i64 j))->Abs.look T 0=.c (.d (.str s))->Q (.exit 2) ⟨T,M,n⟩)->mW Pg c' Kw Q g S:=by
  intro Q S g ms k hk hne hq h0 hn;refine fO gy hp (λj:Nat=>j<=s.size/\k<=j/\j+iU true (s.data.toList.drop j)=R) (λj=>[(3,.c (.d (.int .i64 j))),(0,.c (.d (.str s)))]) (λ_=>[]) (λj=>s.size-j) k ms ⟨by omega,aM _,hq⟩ h0 λj ⟨h1,h2,h3⟩=>?_;unfold Kw;simp;apply gM<;>intro h
  ·have hj:j<s.size:=by simpa using h
   have hj':j<s.data.toList.length:=by omega
   rw[aD hj',iU]at h3;have hd:=aD hj';have hb:=xL hj';generalize s.data.toList[j]=b at h3 hb hd;by_cases e:b=10
   ·subst e;simp[hb];refine hn j _ _ _ h1 ?_ ?_ (by simp) (by simp)
    ·rcases aW k j with h|h
     ·exact h
     ·have:j=k:=by omega
      subst this;exact absurd hb hne
    rw[hd,iU];simpa using h3
   ·have e':=un e;simp at e';simp[hb,e',e];simp[e]at h3;refine fF (j+1) [] ⟨by omega,by omega,by omega⟩ (by omega) ?_;simp;exact wI
  ·have hj:j=s.size:=by simp at h;omega
   subst hj;rw[bE (by omega),iU]at h3;refine hn s.size _ _ _ (by omega) (by omega) ?_ (by simp) (by simp);rw[bE (by omega),iU];exact h3
 unfold R8;simp;refine fO gy hp (λj:Nat=>j<=s.size/\j+iU false (s.data.toList.drop j)=R) (λj=>[(3,.c (.d (.int .i64 j))),(0,.c (.d (.str s)))]) (λ_=>[]) (λj=>s.size-j) 0 [] ⟨by simp,by simpa using hR⟩ (by simp) λj ⟨h1,h3⟩=>?_;unfold R7;simp;apply gM<;>intro h
 ·have hj:j<s.size:=by simpa using h
  have hj':j<s.data.toList.length:=by omega
  rw[aD hj',iU]at h3;have hd:=aD hj';have hb:=xL hj';generalize s.data.toList[j]=b at h3 hb hd;by_cases e:b=35
  ·subst e;simp[hb];simp only[if_true]at h3;refine k2 j (by omega) (by rw[hb];decide) ?_ (ms:=[]) (by simp) λk T M n g1 g2 g3 t1 t2=>?_
   ·rw[hd,iU];simpa using h3
   ·simp;exact fF k [] ⟨g1,g3⟩ (by omega) (by simp[t1,t2])
  ·have e':=un e;simp at e';rw[aB e]at h3;by_cases w:b=32\/b=9\/b=10\/b=13
   ·rw[aC w]at h3;have z:∀G:Prop,(b=32->G)->(b=9->G)->(b=10->G)->(b=13->G)->G:=λG a1 a2 a3 a4=>by
     rcases w with w|w|w|w
     ·exact a1 w
     ·exact a2 w
     ·exact a3 w
     ·exact a4 w
    refine z _ ?_ ?_ ?_ ?_
    all_goals
     intro w;subst w;simp[hb];refine fF (j+1) [] ⟨by omega,by omega⟩ (by omega) ?_;simp;exact wI
   ·rw[aB w]at h3;have w1:=un (λh=>w (.inl h));have w2:=un (λh=>w (.inr (.inl h)));have w3:=un (λh=>w (.inr (.inr (.inl h))));have w4:=un (λh=>w (.inr (.inr (.inr h))));simp at w1 w2 w3 w4;simp[hb,e',e,w1,w2,w3,w4];omega
 ·have hj:j=s.size:=by simp at h;omega
  subst hj;rw[bE (by omega),iU]at h3;simp[<-h3]
def yU:List UInt8->Option (List UInt8 × Nat)
|[]=>none
|d::l=>if d=92\/d=34 then(lU l).map λx=>(d::x.1,x.2+2)else if d=110 then(lU l).map λx=>(10::x.1,x.2+2)else if d=116 then(lU l).map λx=>(9::x.1,x.2+2)else none
theorem TG(c:UInt8)(l:List UInt8):lU (c::l)=if c=34 then some ([],1)else if c<32 then none else if c≠92 then(lU l).map (λx=>(c::x.1,x.2+1))else yU l:=by
 cases l<;>rw[lU.eq_def]<;>rfl
def sU(out:List UInt8)(i:Nat)(l:List UInt8):List UInt8 × Int:=match lU l with
|none=>([],0)
|some (t,n)=>(out++t,i+n)
theorem IU(out:List UInt8)(c:UInt8)(i n:Nat)(l:List UInt8):(match(lU l).map (λx=>(c::x.1,x.2+n))with
  |none=>(([],0):List UInt8 × Int)
  |some (t,m)=>(out++t,(i:Int)+m))=sU (out++[c]) (i+n) l:=by
 unfold sU;cases lU l with
 |none=>rfl
 |some x=>
  simp;omega
theorem Ey(a b:List UInt8):bA (a++b)=bA a++bA b:=by
 have:(bA (a++b)).data.toList=(bA a++bA b).data.toList:=by simp[bA]
 rw[<-LZ (bA (a++b)),this,LZ]
theorem TH{s:fE}{j:Nat}(h:j<s.data.toList.length):s.extract j (j+1)=bA [s.data.toList[j]]:=by
 rw[IQ];congr 1;rw[aD h,show j+1-j=1 by omega];try rfl
theorem zEK(s:fE)(hpos:0<s.size):gU Pg 177 [.one (.str s)] (.tup [.one (.str (bA (sU [] 1 (s.data.toList.drop 1)).1)),.one (.int .i64 (sU [] 1 (s.data.toList.drop 1)).2)]):=by
 refine zAO (by simp) λo c' hN hp=>?_;have hs:s.size<=zah:=by have:=o.1;simpa only[DV.ok,D.ok]using this
 unfold zah at hs;have hlen:=uL s;obtain⟨R,hR⟩:∃R,sU [] 1 (s.data.toList.drop 1)=R:=⟨_,rfl⟩
 rw[hR];unfold R6;simp;refine fO gy hp (λx:Nat × List UInt8=>x.1<=s.size/\x.2.length<=x.1/\sU x.2 x.1 (s.data.toList.drop x.1)=R) (λx=>[(5,.c (.d (.int .i64 x.1))),(4,.c (.d (.str (bA x.2)))),(0,.c (.d (.str s)))]) (λ_=>[]) (λx=>s.size-x.1) (1,[]) [] ⟨by simp only;omega,by simp,hR⟩ (by simp[bA,bs]) λ⟨j,out⟩ ⟨h1,h2,h3⟩=>?_;unfold R5;simp only at h1 h2 h3;simp;apply gM<;>intro h
 ·have hj:j<s.size:=by simpa using h
  have hj':j<s.data.toList.length:=by omega
  unfold sU at h3;rw[aD hj',TG]at h3;have hx:=TH hj';have hb:=xL hj';generalize s.data.toList[j]=b at h3 hb hx;by_cases e1:b=34
  ·subst e1;simp at h3;subst h3;simp[hb];exact wI
  rw[aB e1]at h3;have e1':=un e1;simp at e1';by_cases e2:b<32
  ·rw[aC e2]at h3;simp only at h3;subst h3;have e2':(b.toNat:Int)<32:=by
    have:b.toNat<32:=e2;omega
   simp[hb,e1,e1',e2'];rfl
  rw[aB e2]at h3;have e2':¬(b.toNat:Int)<32:=by
   intro q;exact e2 (show b.toNat<32 by omega)
  by_cases e3:b=92;rotate_left
  ·rw[aC e3]at h3;have e3':=un e3;simp at e3';have hw:=wI (n:=(j:Int)+1);simp[hb,e1,e1',e2',e3,e3',hw];have hsz:(bA out).size+(min (j+1) s.size-j)<=zah:=by
    have:(bA out).size=out.length:=by rw[<-uL];simp[bA]
    unfold zah;omega
   refine⟨by omega,by omega,hsz,?_⟩;rw[IU out b j 1]at h3;refine fF (j+1,out++[b]) [] ⟨by simp only;omega,by simp;omega,h3⟩ (by simp only;omega) ?_;rw[hx];simp[Ey]
  ·simp only[ne_eq,e3,not_true,if_false]at h3;subst e3;have hw:=wI (n:=(j:Int)+1);have hw2:=wI (n:=(j:Int)+1+1);simp[hb,hw];by_cases hj2:j+1<s.size;rotate_left
   ·have hj2':(s.size:Int)<=(j:Int)+1:=by omega
    rw[bE (by omega),yU]at h3;simp only at h3;subst h3;simp[hj2'];rfl
   have hj2':¬(s.size:Int)<=(j:Int)+1:=by omega
   have hjl:j+1<s.data.toList.length:=by omega
   rw[aD hjl,yU]at h3;have hx2:=TH hjl;have hb2:=xL hjl;generalize s.data.toList[j+1]=d at h3 hb2 hx2;have hsz:(bA out).size=out.length:=by rw[<-uL];simp[bA]
   have hnat:((j:Int)+1).toNat=j+1:=by omega
   have hw2:IntKind.i64.wrap ((j:Int)+1+1)=((j+2:Nat):Int):=by rw[hw2];omega
   have hmin:min (j+2) s.size-(j+1)<=1:=by omega
   have hcat:(bA out).size+1<=zah:=by rw[hsz];unfold zah;omega
   by_cases d1:d=92\/d=34
   ·rw[aC d1]at h3;rw[IU out d j 2]at h3;have hnat2:((j:Int)+2).toNat=j+1+1:=by omega
    rcases d1 with q|q
    ·have q1:=(L8 d 92).1 q;simp at q1;simp[hj2',hb2,hnat,hw2,q1];refine⟨by omega,by omega,by omega,by omega,by omega,by rw[hnat2];omega,?_⟩;refine fF (j+2,out++[d]) [] ⟨by simp only;omega,by simp;omega,h3⟩ (by simp only;omega) ?_;rw[hnat2,hx2];simp[Ey]
    ·have q1:=(L8 d 34).1 q;simp at q1;simp[hj2',hb2,hnat,hw2,q1];refine⟨by omega,by omega,by omega,by omega,by omega,by rw[hnat2];omega,?_⟩;refine fF (j+2,out++[d]) [] ⟨by simp only;omega,by simp;omega,h3⟩ (by simp only;omega) ?_;rw[hnat2,hx2];simp[Ey]
   rw[aB d1]at h3;have d11:=un (λh=>d1 (.inl h));have d12:=un (λh=>d1 (.inr h));simp at d11 d12;by_cases d2:d=110
   ·rw[aC d2]at h3;subst d2;rw[IU out 10 j 2]at h3;simp[hj2',hb2,hnat,hw2];refine⟨by omega,hcat,?_⟩;refine fF (j+2,out++[10]) [] ⟨by simp only;omega,by simp;omega,h3⟩ (by simp only;omega) ?_;simp[Ey];rfl
   rw[aB d2]at h3;have d21:=un d2;simp at d21;by_cases d3:d=116
   ·rw[aC d3]at h3;subst d3;rw[IU out 9 j 2]at h3;simp[hj2',hb2,hnat,hw2];refine⟨by omega,hcat,?_⟩;refine fF (j+2,out++[9]) [] ⟨by simp only;omega,by simp;omega,h3⟩ (by simp only;omega) ?_;simp[Ey];rfl
   rw[aB d3]at h3;have d31:=un d3;simp at d31;simp only at h3;subst h3;simp[hj2',hb2,hnat,d11,d12,d21,d31];exact⟨by omega,rfl⟩
 ·have hj:j=s.size:=by simp at h;omega
  subst hj;unfold sU at h3;rw[bE (by omega),lU]at h3;simp only at h3;subst h3;simp;rfl
theorem Ez(num:Bool):∀l:List UInt8,ik num l<=l.length
|[]=>aM _
|b::l=>by have:=Ez num l;unfold ik;split<;>simp<;>omega
theorem IV:∀(r:Bool) (l:List UInt8),iU r l<=l.length
|_,[]=>by cases‹Bool›<;>simp[iU]
|true,c::l=>by have:=IV (decide (c≠10)) l;rw[iU,length_cons];omega
|false,c::l=>by
 have h1:=IV true l;have h2:=IV false l;rw[iU];split
 ·simp;omega
 ·split<;>simp<;>omega
theorem IW:∀(n:Nat) (l:List UInt8),l.length<=n->∀t k,lU l=some (t,k)->0<k/\k<=l.length
|n,[],_,t,k,e=>by simp[lU]at e
|0,c::l,h,_,_,_=>by simp at h
| n +1,c::l,h,t,k,e=>by
 rw[TG]at e;split at e
 ·simp at e;obtain⟨_,rfl⟩:=e;simp
 split at e
 ·cases e
 split at e
 ·rw[aV]at e;obtain⟨⟨t',k'⟩,e1,e2⟩:=e;simp only[bR]at e2;have:=IW n l (by simpa using h) t' k' e1;simp;omega
 ·cases l with
  |nil=>simp[yU]at e
  | cons d l=>
   have H:∀t' k',lU l=some (t',k')->0<k'/\k'<=l.length:=λt' k' e1=>IW n l (by simp at h;omega) t' k' e1;rw[yU]at e;repeat' split at e
   all_goals first|(cases e;done)|skip
   all_goals
    rw[aV]at e;obtain⟨⟨t',k'⟩,e1,e2⟩:=e;simp only[bR]at e2;have:=H t' k' e1;simp;omega
theorem TI(l:List UInt8):yz l<=l.length:=by
 unfold yz;split
 ·rename_i h;rw[any_eq_true]at h;obtain⟨t,ht,h⟩:=h;have h2:t.length=2:=(by decide:∀t∈xB,t.length=2) t ht;simp only[aI]at h;have:=dO length h;rw[bI]at this;omega
 ·cases l with
  |nil=>simp
  |cons c l=>simp;split<;>omega
def oN.enc(t:oN):List D:=[.int .i64 t.kind,.str (bA t.text),.int .i64 0,.int .i64 0]
abbrev runT(s:fE)(a b:Bool)(j:Nat):List (Nat × AV):=[(7,.c (.d (.int .i64 j))),(6,.c (.d (.bool b))),(5,.c (.d (.bool a))),(2,.c (.ptr 0 0)),(0,.c (.d (.str s)))]
abbrev L9:Blk:=.box [.d (.int .i64 0),.d (.str (bs [])),.d (.int .i64 0),.d (.int .i64 0)]
theorem rnWd{c:Ctx}(hp:c.pure)(s:fE)(hs:s.size<=4611686018427387904)(a num:Bool)(R:Nat)(hR:ik num s.data.toList=R){Q:Exit->St->Prop}{S:St}{g}{ms:List Nat}
  (h0:iM ms S (runT s a num 0) [L9])
  (hQ:∀T M n,Abs.look T 7=.c (.d (.int .i64 R))->Abs.look T 6=.c (.d (.bool num))->Abs.look T 5=.c (.d (.bool a))->Abs.look T 2=.c (.ptr 0 0)->Abs.look T 0=.c (.d (.str s))->M 0=L9->Q (.exit 0) ⟨T,M,n⟩):mW Pg c Ky Q g S:=by
 have hlen:=uL s;refine fO gy hp (λj:Nat=>j<=s.size/\j+ik num (s.data.toList.drop j)=R) (λj=>runT s a num j) (λ_=>[L9]) (λj=>s.size-j) 0 ms ⟨by simp,by simpa using hR⟩ h0 λj ⟨h1,h2⟩=>?_;unfold Ky;simp;apply gM<;>intro h
 ·have hj:j<s.size:=by simpa using h
  have hj':j<s.data.toList.length:=by omega
  rw[aD hj',ik]at h2;have hb:=xL hj';generalize s.data.toList[j]=b at h2 hb;have hd:jv b=ow b.toNat:=rfl;have hle:mI b=sO b.toNat:=rfl;simp[hb];refine gQ (Dp b.toNat) ?_;rw[<-hle];simp[hb];refine gQ (Dq b.toNat) ?_;rw[<-hd];generalize mI b=x1 at*
  generalize jv b=x2 at*
  cases x1<;>cases x2<;>cases num
  all_goals
   simp at h2;simp
  ·exact hQ _ _ _ (by simp;omega) (by simp) (by simp) (by simp) (by simp) (by simp)
  ·exact hQ _ _ _ (by simp;omega) (by simp) (by simp) (by simp) (by simp) (by simp)
  ·refine fF (j+1) [0] ⟨by omega,by omega⟩ (by omega) ?_;simp;exact wI
  ·refine fF (j+1) [0] ⟨by omega,by omega⟩ (by omega) ?_;simp;exact wI
  ·refine fF (j+1) [0] ⟨by omega,by omega⟩ (by omega) ?_;simp;exact wI
  ·exact hQ _ _ _ (by simp;omega) (by simp) (by simp) (by simp) (by simp) (by simp)
  ·refine fF (j+1) [0] ⟨by omega,by omega⟩ (by omega) ?_;simp;exact wI
  ·refine fF (j+1) [0] ⟨by omega,by omega⟩ (by omega) ?_;simp;exact wI
 ·have hj:j=s.size:=by simp at h;omega
  subst hj;rw[bE (by omega),ik]at h2;exact hQ _ _ _ (by simp;omega) (by simp) (by simp) (by simp) (by simp) (by simp)
theorem La(s:fE)(i:Nat):s.extract 0 i=bA (s.data.toList.take i):=by rw[IQ];try rfl
abbrev Lb(t:oN):DV:=.tup [.agg t.enc,.one (.int .i64 t.len),.one (.int .i64 t.e)]
theorem zGV(s:fE)(hpos:0<s.size):gU Pg 154 [.one (.str s)] (Lb (il s.data.toList)):=by
 refine zB5 (by simp) λo c' hN hp=>?_;have hs:s.size<=zah:=by have:=o.1;simpa only[DV.ok,D.ok]using this
 unfold zah at hs;have hlen:=uL s;have hj0:0<s.data.toList.length:=by omega
 have hb0:=xL hj0;have cq:=zEK s hpos;have csg:=zIo s hpos;have hql:=IW (s.data.toList.drop 1).length (s.data.toList.drop 1) (aM _);obtain⟨R,hR⟩:∃R,il s.data.toList=R:=⟨_,rfl⟩
 rw[hR];have hrl:=Ez false s.data.toList;have hrd:=Ez true s.data.toList;have hsl:=TI s.data.toList;have hx:∀i,s.extract 0 i=bA (s.data.toList.take i):=La s;generalize hl:s.data.toList=l at*
 cases l with
 |nil=>simp at hj0
 |cons c r=>
 simp only[getElem_cons_zero]at hb0;simp only[drop_one,tail_cons]at cq hql;rw[il]at hR;have hd:jv c=ow c.toNat:=rfl;have hle:mI c=sO c.toNat:=rfl;unfold R9;simp[hb0];refine gQ (Dp c.toNat) ?_;rw[<-hle];simp[hb0];refine gQ (Dq c.toNat) ?_;rw[<-hd];by_cases q1:mI c=true
 ·rw[aC q1]at hR;have q2:jv c=false:=by
   unfold mI sO at q1;unfold jv ow;simp at q1⊢;omega
  simp[q1,q2];refine rnWd hp s hs true false (ik false (c::r)) (by rw[hl]) (ms:=[0]) (by simp) λT M n t7 t6 t5 t2 t0 m0=>?_;simp[t5,t7];by_cases q3:32<ik false (c::r)
  ·have q3':(32:Int)<(ik false (c::r):Nat):=by omega
   rw[aC q3]at hR;subst hR;simp[q3,q3',t2,m0];exact⟨rfl,rfl,rfl⟩
  rw[aB q3]at hR;have q3':¬(32:Int)<(ik false (c::r):Nat):=by omega
  have hxi:=hx (ik false (c::r));have hw:=LY (bA (take (ik false (c::r)) (c::r)));generalize ik false (c::r)=i at*
  have hi2:i<=s.size:=by simp at hlen hrl;omega
  simp[q3,q3',t0,t7,hi2,hxi];refine gQ hw ?_;generalize hu:bA (take i (c::r))=u at*
  by_cases q4:zC u=true
  ·rw[aC q4]at hR;subst hR;simp[q4,t0,t7,hi2,hxi,t2,m0,oN.enc,hu]
  ·rw[aB q4]at hR;subst hR;simp[q4,t0,t7,hi2,hxi,t2,m0,oN.enc,hu]
 rw[aB q1]at hR;by_cases q2:jv c=true
 ·rw[aC q2]at hR;rw[aK]at q1;simp[q1,q2];refine rnWd hp s hs false true (ik true (c::r)) (by rw[hl]) (ms:=[0]) (by simp) λT M n t7 t6 t5 t2 t0 m0=>?_;have hxi:=hx (ik true (c::r));have hpz:=Sz (bA (take (ik true (c::r)) (c::r)));have hpi:xC (bA (take (ik true (c::r)) (c::r)))=BI (take (ik true (c::r)) (c::r)):=by unfold xC;rfl
  rw[hpi]at hpz;generalize ik true (c::r)=i at*
  have hi2:i<=s.size:=by simp at hlen hrd;omega
  simp[t5,t6,t7,t0,hi2,hxi];refine gQ hpz ?_;generalize hu:bA (take i (c::r))=u at*
  generalize BI (take i (c::r))=pz at*
  by_cases q4:pz.2=true
  ·rw[aC q4]at hR;subst hR;simp[q4,t0,t7,hi2,hxi,t2,m0,oN.enc,hu]
  ·rw[aB q4]at hR;subst hR;simp[q4,t0,t7,hi2,hxi,t2,m0,oN.enc,hu];exact⟨⟨rfl,rfl⟩,rfl,rfl⟩
 rw[aB q2]at hR;rw[aK]at q1 q2;simp[q1,q2];by_cases q3:c=34
 ·subst q3;rw[aC rfl]at hR;simp[hb0];refine gQ cq ?_;unfold sU;cases hq:lU r with
  |none=>
   rw[hq]at hR;simp only at hR;subst hR;simp;exact⟨rfl,rfl,rfl⟩
  | some x=>
   obtain⟨t,k⟩:=x;rw[hq]at hR;have hk:=hql t k hq;have hsz:(bA t).size=t.length:=by rw[<-uL];simp[bA]
   have hk0:¬(1:Int)+k=0:=by omega
   by_cases q4:256<t.length
   ·have q4':(256:Int)<t.length:=by omega
    simp only[q4,if_true]at hR;subst hR;simp[hsz,q4,q4',hk0];exact⟨rfl,rfl,rfl⟩
   ·have q4':¬(256:Int)<t.length:=by omega
    simp only[q4,if_false]at hR;subst hR;simp[hsz,q4,q4',hk0,oN.enc];omega
 rw[aB q3]at hR;have q3':=un q3;simp at q3';simp[hb0,q3,q3'];refine gQ csg ?_;have hxi:=hx (yz (c::r));generalize yz (c::r)=i at*
 have hi2:i<=s.size:=by simp at hlen hsl;omega
 by_cases q4:i=0
 ·rw[aC q4]at hR;subst hR;simp[q4];exact⟨rfl,rfl,rfl⟩
 ·rw[aB q4]at hR;have q4':¬(i:Int)=0:=by omega
  subst hR;simp[q4,q4',hi2,hxi,oN.enc]
theorem TJ{l:List UInt8}(h:(il l).e=0):0<(il l).len/\(il l).len<=l.length:=by
 cases l with
 |nil=>simp[il,lK]at h
 | cons c r=>
  have hrl:=Ez false (c::r);have hrd:=Ez true (c::r);have hsl:=TI (c::r);have hql:=IW r.length r (aM _);rw[il]at h⊢;split
  ·rename_i q;rw[aC q]at h;split
   ·rename_i p;rw[aC p]at h;simp[lK]at h
   ·refine⟨?_,hrl⟩;show 0<ik false (c::r);rw[ik,aC (by simp[q])];omega
  rename_i q1;rw[aB q1]at h;split
  ·rename_i q;rw[aC q]at h;split
   ·refine⟨?_,hrd⟩;show 0<ik true (c::r);rw[ik,aC (by simp[q])];omega
   ·rename_i p;rw[aB p]at h;simp[lK]at h
  rename_i q2;rw[aB q2]at h;split
  ·rename_i q;rw[aC q]at h;cases e:lU r with
   |none=>rw[e]at h;simp[lK]at h
   |some x=>
    obtain⟨t,n⟩:=x;rw[e]at h;simp only at h⊢;have:=hql t n e;split
    ·rename_i p;rw[aC p]at h;simp[lK]at h
    ·simp;omega
  rename_i q3;rw[aB q3]at h;split
  ·rename_i p;rw[aC p]at h;simp[lK]at h
  ·simp only;omega
theorem Lc:∀(l:List UInt8) (a b:Int),1<=a->1<=b->1<=(pX l a b).1/\1<=(pX l a b).2/\(pX l a b).1<=a+l.length/\(pX l a b).2<=b+l.length
|[],a,b,h1,h2=>by simp[pX];omega
| c::l,a,b,h1,h2=>by
 rw[pX];split
 ·have:=Lc l (a+1) 1 (by omega) (by omega);simp only[length_cons];omega
 ·have:=Lc l a (b+1) (by omega) (by omega);simp only[length_cons];omega
abbrev Cc(s:fE)(line col:Int)(at' n:Nat):List (Nat × AV):=[(6,.c (.d (.int .i64 col))),(5,.c (.d (.int .i64 line))),(7,.c (.d (.int .i64 at'))),(4,.c (.msl 4 1 0 n)),(3,.c (.ptr 0 0)),(0,.c (.d (.str s)))]
abbrev dB:Blk:=.box [.d (.int .i64 0),.d (.int .i64 0),.d (.int .i64 0),.d (.int .i64 0)]
abbrev lexB(ts:List Tok):List Blk:=[dB,.arr 4 ((ts.map Tok.enc).map (·.map .d))]
theorem zHM{c:Ctx}(hp:c.pure)(s:fE)(hs:s.size<=65536)(ts:List Tok)(a k:Nat)(hk:a+k<=s.size)(l0 c0:Int)(hl0:1<=l0)(hc0:1<=c0)(hl1:l0<=100000)(hc1:c0<=100000)(R:Int × Int)(hR:pX ((s.data.toList.drop a).take k) l0 c0=R){Q:Exit->St->Prop}{S:St}{g}{ms:List Nat}
  (h0:iM ms S ((9,.c (.d (.int .i64 a)))::(8,.c (.d (.int .i64 k)))::Cc s l0 c0 a ts.length) (lexB ts))
  (hQ:∀T,Abs.look T 6=.c (.d (.int .i64 R.2))->Abs.look T 5=.c (.d (.int .i64 R.1))->Abs.look T 7=.c (.d (.int .i64 a))->Abs.look T 8=.c (.d (.int .i64 k))->Abs.look T 4=.c (.msl 4 1 0 ts.length)->Abs.look T 3=.c (.ptr 0 0)->Abs.look T 0=.c (.d (.str s))->Q (.exit 2) ⟨T,hpOf (lexB ts),2⟩):mW Pg c Kz Q g S:=by
 have hlen:=uL s;obtain⟨e,he⟩:∃e,e=a+k:=⟨_,rfl⟩
 have hw2:IntKind.i64.wrap ((a:Int)+k)=(e:Int):=by rw[wI];omega
 refine fO gy hp (λx:Nat × Int × Int=>a<=x.1/\x.1<=e/\1<=x.2.1/\1<=x.2.2/\x.2.1<=100000+x.1/\x.2.2<=100000+x.1/\pX ((s.data.toList.drop x.1).take (e-x.1)) x.2.1 x.2.2=R)
  (λx=>(9,.c (.d (.int .i64 x.1)))::(8,.c (.d (.int .i64 k)))::Cc s x.2.1 x.2.2 a ts.length) (λ_=>lexB ts) (λx=>e-x.1) (a,l0,c0) ms ⟨aM _,by simp only;omega,hl0,hc0,by simp only;omega,by simp only;omega,by simp only;rw[he,bz];exact hR⟩ h0 λ⟨j,li,co⟩ ⟨h0',h1,h2,h3,h4,h5,h6⟩=>?_
 unfold Kz;simp only at h0' h1 h2 h3 h4 h5 h6;have hw1:IntKind.i64.wrap ((j:Int)+1)=((j+1:Nat):Int):=by rw[wI];omega
 have hw3:IntKind.i64.wrap (co+1)=co+1:=wI;have hw4:IntKind.i64.wrap (li+1)=li+1:=wI;by_cases hj:j<e
 ·have hj':j<s.data.toList.length:=by omega
  rw[aD hj',show e-j=(e-(j+1))+1 by omega,take_succ_cons,pX]at h6;have hb:=xL hj';generalize s.data.toList[j]=b at h6 hb;by_cases q:b=10
  ·rw[aC q]at h6;subst q;simp[hw2,hb,hj];refine fF (j+1,li+1,1) [0,1] ⟨by simp only;omega,by simp only;omega,by simp only;omega,by simp,by simp only;omega,by simp only;omega,h6⟩ (by simp only;omega) ?_;simp[hw1,hw4]
  ·rw[aB q]at h6;have q':=un q;simp at q';simp[hw2,hb,hj,q,q'];refine fF (j+1,li,co+1) [0,1] ⟨by simp only;omega,by simp only;omega,by simp only;omega,by simp only;omega,by simp only;omega,by simp only;omega,h6⟩ (by simp only;omega) ?_;simp[hw1,hw3]
 ·have:j=e:=by omega
  subst this;rw[Nat.sub_self,take_zero,pX]at h6;subst h6;simp[hw2];exact hQ _ (by simp) (by simp) (by simp) (by simp) (by simp) (by simp) (by simp)
theorem Ld(l:List UInt8):(bA l).data.toList=l:=by simp[bA]
theorem TL(l:List UInt8):(bA l).size=l.length:=by rw[<-uL,Ld]
theorem TM(s:fE)(p:Nat):s.extract p s.size=bA (s.data.toList.drop p):=by
 rw[IQ,aG (by rw[dN,uL];omega)]
@[simp] theorem iR.enc_length(d:iR):d.enc.length=4:=rfl
theorem TN(n:Nat)(l:List UInt8)(a b:Int)(ts:List Tok):oO (n+1) l a b ts=
 if l.drop (iU false l)=[]then(ts++[⟨0,bs [],(pX (l.take (iU false l)) a b).1,(pX (l.take (iU false l)) a b).2⟩],LD)
 else if(if(il (l.drop (iU false l))).e=0/\ts.length=8192 then 19 else(il (l.drop (iU false l))).e)≠0 then([],⟨0,(pX (l.take (iU false l)) a b).1,(pX (l.take (iU false l)) a b).2,if(il (l.drop (iU false l))).e=0/\ts.length=8192 then 19 else(il (l.drop (iU false l))).e⟩)
 else oO n ((l.drop (iU false l)).drop (il (l.drop (iU false l))).len) (pX (l.take (iU false l)) a b).1 ((pX (l.take (iU false l)) a b).2+(il (l.drop (iU false l))).len) (ts++[⟨(il (l.drop (iU false l))).kind,bA (il (l.drop (iU false l))).text,(pX (l.take (iU false l)) a b).1,(pX (l.take (iU false l)) a b).2⟩]):=rfl
theorem zIE(s:fE):gU Pg 119 [.one (.str s)] (.tup [.one (.sl false 4 ((lC s).1.map Tok.enc)),.agg (lC s).2.enc]):=by
 refine zEZ (by simp) λo c' hN hp=>?_;have hs:s.size<=zah:=by have:=o.1;simpa only[DV.ok,D.ok]using this
 unfold zah at hs;have hlen:=uL s;obtain⟨F0,hF0⟩:∃F0,lC s=F0:=⟨_,rfl⟩
 rw[hF0];unfold lC at hF0;unfold Rb;by_cases h6:65536<s.size
 ·have h6':(65536:Int)<s.size:=by omega
  rw[aC h6]at hF0;subst hF0;simp[h6,h6',iR.enc]
 have h6':¬(65536:Int)<s.size:=by omega
 rw[aB h6]at hF0;simp[h6,h6'];refine fU [.t 4] ?_;simp
 refine fO gy hp (λx:Nat × Nat × Int × Int × List Tok=>oO x.1 (s.data.toList.drop x.2.1) x.2.2.1 x.2.2.2.1 x.2.2.2.2=F0/\x.2.1<=s.size/\s.size<x.1+x.2.1/\x.2.2.2.2.length<=8192/\1<=x.2.2.1/\1<=x.2.2.2.1/\x.2.2.1<=1+x.2.1/\x.2.2.2.1<=1+x.2.1)
  (λx=>Cc s x.2.2.1 x.2.2.2.1 x.2.1 x.2.2.2.2.length) (λx=>lexB x.2.2.2.2) (λx=>x.1) (s.size+1,0,1,1,[]) [0,1] ⟨by simpa using hF0,by simp,by simp only;omega,by simp,by simp,by simp,by simp,by simp⟩ (by simp) λ⟨n,p,li,co,ts⟩ ⟨i1,i2,i3,i4,i5,i6,i7,i8⟩=>?_
 unfold Ra;simp only at i1 i2 i4 i5 i6 i7 i8;have i3:s.size<n+p:=i3;obtain⟨n,rfl⟩:∃m,n=m+1:=⟨n-1,by omega⟩
 rw[TN]at i1;have hb:=zGe (bA (s.data.toList.drop p));rw[Ld]at hb;have hbl:=IV false (s.data.toList.drop p);rw[dN,hlen]at hbl;have hx:=TM s p;simp[i2,hx];refine gQ hb ?_;obtain⟨k,hk⟩:∃k,iU false (s.data.toList.drop p)=k:=⟨_,rfl⟩
 rw[hk]at i1 hbl;simp[hk];obtain⟨q,hq⟩:∃q,pX ((s.data.toList.drop p).take k) li co=q:=⟨_,rfl⟩
 have hqb:=Lc ((s.data.toList.drop p).take k) li co i5 i6;rw[hq]at i1 hqb;have htk:((s.data.toList.drop p).take k).length=k:=by rw[bI,dN];omega
 rw[htk]at hqb;refine zHM hp s (by omega) ts p k (by omega) li co i5 i6 (by omega) (by omega) q hq (ms:=[0,1]) (by simp) λT t6 t5 t7 t8 t4 t3 t0=>?_;have hw:IntKind.i64.wrap ((p:Int)+k)=((p+k:Nat):Int):=by rw[wI];omega
 rw[bM]at i1;have hx2:=TM s (p+k);obtain⟨p',hp'⟩:∃p',p+k=p':=⟨_,rfl⟩
 rw[hp']at hw i1 hx2;simp[t7,t8,hw,t0];by_cases he:s.size<=p'
 ·have he':p'=s.size:=by omega
  rw[aC (bE (by omega))]at i1;subst i1;have z:take ts.length (List.map ((λx=>List.map AC.d x)∘Tok.enc) ts)=List.map ((λx=>List.map AC.d x)∘Tok.enc) ts:=aG (by simp);have z2:take (ts.length+1) (List.map Tok.enc ts++[[.int .i64 0,.str (bs []),.int .i64 q.1,.int .i64 q.2]])=List.map Tok.enc ts++[[.int .i64 0,.str (bs []),.int .i64 q.1,.int .i64 q.2]]:=aG (by simp);simp[he,t4,t5,t6,t3,z,z2];exact⟨by omega,rfl,rfl⟩
 rw[aB (λh=>by have:=dO length h;rw[dN]at this;simp at this;omega)]at i1;have ht:=zGV (bA (s.data.toList.drop p')) (by rw[TL,dN];omega);rw[Ld]at ht;have htl:=TJ (l:=s.data.toList.drop p');rw[dN]at htl;generalize il (s.data.toList.drop p')=t at*
 have hp2:p'<=s.size:=by omega
 simp[he,hp2,hx2,t7,t0];refine gQ ht ?_;by_cases e0:t.e=0
 ·have htl:=htl e0;by_cases hm:ts.length=8192
  ·rw[aC (by rw[aC ⟨e0,hm⟩];decide),aC ⟨e0,hm⟩]at i1;subst i1;have hm':((ts.length:Nat):Int)=8192:=by omega
   simp[t4,t5,t6,t3,oN.enc,e0,hm,hm',iR.enc]
  ·have hm':¬((ts.length:Nat):Int)=8192:=by omega
   rw[aB (by rw[aB (λh=>hm h.2)];simpa using e0),bM]at i1;have hw1:IntKind.i64.wrap ((p':Int)+t.len)=((p'+t.len:Nat):Int):=by rw[wI];omega
   have hw2:IntKind.i64.wrap (q.2+t.len)=q.2+t.len:=wI;simp[t4,t5,t6,t3,t7,oN.enc,e0,hm,hm',hw1,hw2];refine⟨by omega,?_⟩;refine fF (n,p'+t.len,q.1,q.2+t.len,ts++[⟨t.kind,bA t.text,q.1,q.2⟩]) [0,3] ⟨i1,by simp only;omega,by simp only;omega,by simp;omega,by simp only;omega,by simp only;omega,by simp only;omega,by simp only;omega⟩ (by simp) ?_;have z:take ts.length (List.map ((λx=>List.map AC.d x)∘Tok.enc) ts)=List.map ((λx=>List.map AC.d x)∘Tok.enc) ts:=aG (by simp);simp[t3,t0,t5,hw1,hw2,Tok.enc,z]
 ·rw[aC (by rw[aB (λh=>e0 h.1)];exact e0),aB (λh=>e0 h.1)]at i1;subst i1;simp[t4,t5,t6,t3,oN.enc,e0,iR.enc]
end Go.Gr
namespace Go.Gr
open Go.Abs Go.Proofs
def oP:jP:=⟨[],[]⟩
def ps0:PS:=⟨0,0,0,0,0⟩
def uO(L:List Tok)(p:PS):PS:=if p.e=0/\(iG L p).kind≠0 then wL L 7 p else p
def qL(s:fE):jP × iR:=
 let x:=lC s
 if x.2.e≠0 then(oP,x.2)else
  let m:=BJ x.1 ps0;let p:=uO x.1 m.2
  if p.e≠0 then(oP,⟨0,p.line,p.col,p.e⟩)else(m.1,⟨0,p.line,p.col,p.e⟩)
end Go.Gr
namespace Go.Gr
open Go.Abs Go.Proofs List
def zJE(x:D)(l:List gT):Prop:=(x=.sl false 4 (l.map gT.enc)/\l.length=2)\/∃row t,x=.sl true 4 [row]/\D.erdL row=t.enc/\row.length=4/\l=[t]
theorem zG1(a b c d e f g h i j k l m n o:AC)(N:gp):splice [a,b,c,d,e,f,g,h,i,j,k,l,m,n,o] 5 (N.enc.map AC.d)=a::b::c::d::e::(N.enc.map .d++[n,o]):=by rw[N.enc_eq];try rfl
theorem zJF(a b c d e n o:AC)(N:gp):cut (a::b::c::d::e::(N.enc.map .d++[n,o])) 0 15=a::b::c::d::e::(N.enc.map .d++[n,o]):=by rw[N.enc_eq];try rfl
theorem zIZ(a b c d e n o:D)(N:gp):cut (a::b::c::d::e::(N.enc++[n,o])) 0 15=a::b::c::d::e::(N.enc++[n,o]):=by rw[N.enc_eq];try rfl
theorem zI0(N:gp)(a b:D):jr (N.enc.map AC.d++[.d a,.d b])=some (N.enc++[a,b]):=by
 have e:N.enc.map AC.d++[.d a,.d b]=(N.enc++[a,b]).map .d:=by simp
 rw[e];exact QE _
theorem zI1(f:Nat->Nat)(N:gp)(a b:D):AC.rens f (N.enc.map AC.d++[.d a,.d b])=N.enc.map AC.d++[.d a,.d b]:=by
 have e:N.enc.map AC.d++[.d a,.d b]=(N.enc++[a,b]).map .d:=by simp
 rw[e];exact AC.rens_D _ _
theorem zJG(n:Nat)(N:gp)(a b:D):AC.lts n (N.enc.map AC.d++[.d a,.d b])=true:=by
 have e:N.enc.map AC.d++[.d a,.d b]=(N.enc++[a,b]).map .d:=by simp
 rw[e];exact AC.lts_D _ _
theorem Le{α β:Type}(f:α->β)(v:List α):take v.length (v.map f)=v.map f:=aG (by rw[aU];exact aM _)
attribute [simp] zG1 zJF zIZ zI0 zI1 zJG
section
variable {L:List Tok}
theorem zFm(hL:jC L)(hl:L.length<=10000){d:Nat}{ki:PS->gT × PS}(hk:gz L ki)(Hk:pu L d ki)(p:PS)(h:p.at'<L.length)(hd:p.deep=d):
  ∃x,zJE x (rP L ki p).1.2/\MCall Pg 125 [.c (.ptr 0 0)] [jk L p] (.tup [.c (.d (.str (rP L ki p).1.1)),.c (.d x)]) [jk L (rP L ki p).2]:=by
 have t1:=iw hL h (s:=bs [40]);have t2:=t1.trans (lc hL t1.lt);have t3:=t2.trans (zH hL hk _ t2.lt);have t4:=t3.trans (iw hL t3.lt (s:=bs [41]));have c1:=ng hL (bs [40]) p h hl;have c2:=xJ _ t1.lt hl;have c3:=Ev hL hl Hk _ t2.lt (by rw[t2.deep,hd]);have c4:=ng hL (bs [41]) _ t3.lt hl;have c5:=Ev hL hl Hk _ t4.lt (by rw[t4.deep,hd]);have n1:=II (L:=L) ki (jB L (jI L (bs [40]) p)).2;have n2:=II (L:=L) ki (jI L (bs [41]) (pY L ki (jB L (jI L (bs [40]) p)).2).2);unfold rP;simp only;generalize jI L (bs [40]) p=p1 at*
 generalize (jB L p1).1=s1 at*
 generalize (jB L p1).2=p2 at*
 generalize (pY L ki p2).1=A at*
 generalize (pY L ki p2).2=p3 at*
 generalize jI L (bs [41]) p3=p4 at*
 generalize (pY L ki p4).1=B at*
 generalize (pY L ki p4).2=p5 at*
 have hn:noT.enc=[.int .i64 0,.str (bs []),.sl false 1 [],.sl false 4 []]:=rfl;rcases n1 with rfl|⟨T,rfl⟩<;>rcases n2 with rfl|⟨U,rfl⟩
 ·refine⟨.sl true 4 [[.int .i64 0,.str (bs []),.sl true 1 [],.sl true 4 []]],.inr ⟨_,noT,rfl,rfl,rfl,rfl⟩,?_⟩;refine Eg mX λts hts ok hb c hN hp=>?_;obtain⟨t,rfl⟩:=mD hts;unfold Dh;simp;refine gN [0] c1 ?_;simp;refine gN [0] c2 ?_;simp;refine gN [0] c3 ?_;simp;refine gN [0] c4 ?_;simp;refine gN [0] c5 ?_;simp;refine fT [] ?_;simp;exact fK [0] [1]
 ·refine⟨.sl false 4 [noT.enc,U.enc],.inl ⟨rfl,rfl⟩,?_⟩;refine Eg mX λts hts ok hb c hN hp=>?_;obtain⟨t,rfl⟩:=mD hts;unfold Dh;simp;refine gN [0] c1 ?_;simp;refine gN [0] c2 ?_;simp;refine gN [0] c3 ?_;simp;refine gN [0] c4 ?_;simp;refine gN [0] c5 ?_;simp;refine fT [2] ?_;simp[iV];exact fI [0] [1] (by simp[hn,AV.erds])
 ·refine⟨.sl true 4 [T.enc],.inr ⟨_,T,rfl,by simp,by simp,rfl⟩,?_⟩;refine Eg mX λts hts ok hb c hN hp=>?_;obtain⟨t,rfl⟩:=mD hts;unfold Dh;simp;refine gN [0] c1 ?_;simp;refine gN [0] c2 ?_;simp;refine gN [0] c3 ?_;simp;refine gN [0] c4 ?_;simp;refine gN [0] c5 ?_;simp;refine fT [] ?_;simp;exact fK [0] [1]
 ·refine⟨.sl false 4 [T.enc,U.enc],.inl ⟨rfl,rfl⟩,?_⟩;refine Eg mX λts hts ok hb c hN hp=>?_;obtain⟨t,rfl⟩:=mD hts;unfold Dh;simp;refine gN [0] c1 ?_;simp;refine gN [0] c2 ?_;simp;refine gN [0] c3 ?_;simp;refine gN [0] c4 ?_;simp;refine gN [0] c5 ?_;simp;refine fT [2] ?_;simp[iV];exact fI [0] [1] (by simp[hn,AV.erds])
abbrev mB(p:PS)(t:Nat × Nat)(b2:Blk)(is:List je)(v:List (List D)):List Blk:=[jk L p,.pin t 0,b2,.box [.msl 4 4 0 is.length,.msl 15 5 0 v.length],.arr 4 ((is.map je.enc).map (·.map .d)),.arr 15 (v.map (·.map .d))]
abbrev mT:List (Nat × AV):=[(0,.c (.ptr 0 0)),(2,.c (.ptr 2 0)),(3,.c (.ptr 3 0))]
theorem zIb(hL:jC L)(hl:L.length<=10000){c:Ctx}(hp:c.pure)(t:Nat × Nat)(b2:Blk)(hb2:b2=.box [.d (.sl true 4 []),.d (.sl true 15 [])])(is:List je)(p0:PS)(hd0:p0.deep=0)(h:p0.at'<L.length)(F0:List jS × PS)(hF:rU L (L.length+1) [] p0=F0){Q:Exit->St->Prop}{S:St}{g}{ms:List Nat}
  (h0:iM ms S mT (mB (L:=L) p0 t b2 is []))
  (hQ:∀T v,Abs.look T 0=.c (.ptr 0 0)->Abs.look T 2=.c (.ptr 2 0)->Abs.look T 3=.c (.ptr 3 0)->D.erdE v=F0.1.map jS.enc->Q (.exit 2) ⟨T,hpOf (mB (L:=L) F0.2 t b2 is v),6⟩):mW Pg c LC Q g S:=by
 refine fO gy hp (λx:Nat × List jS × List (List D) × PS=>rU L x.1 x.2.1 x.2.2.2=F0/\Tm L p0 x.2.2.2/\(0<x.1/\(x.2.2.2.e≠0\/L.length<x.1+x.2.2.2.at'))/\x.2.1.length+x.1<=L.length+1/\D.erdE x.2.2.1=x.2.1.map jS.enc)
  (λx=>mT) (λx=>mB (L:=L) x.2.2.2 t b2 is x.2.2.1) (λx=>x.1) (L.length+1,[],[],p0) ms ⟨hF,Tm.refl h,⟨by simp,.inr (by simp only;omega)⟩,by simp,rfl⟩ h0 λ⟨n,l,v,q⟩ ⟨i1,i2,i3,i4,i5⟩=>?_
 subst hb2;unfold LC;simp only at i1 i2 i4 i5;have i3:0<n/\(q.e≠0\/L.length<n+q.at'):=i3;have hvl:v.length=l.length:=by rw[<-LV,i5,aU]
 have hlt:=i2.lt;obtain⟨n,rfl⟩:∃m,n=m+1:=⟨n-1,by omega⟩
 have hg:=zI hlt;rw[rU]at i1;by_cases x:q.e=0
 ·by_cases k:(iG L q).kind=0
  ·rw[aB (by simp[k])]at i1;subst i1;simp[hg,x,k];refine⟨by decide,?_⟩;exact hQ _ v (by simp) (by simp) (by simp) i5
  ·rw[aC ⟨x,k⟩]at i1;have e1:=iW hL hlt (s:=AA);have e2:=e1.trans (iw hL e1.lt (s:=tT));have e3:=e2.trans (lc hL e2.lt);have e4:=e3.trans (IM hL _ e3.lt);have e5:=e4.trans (BK hL (yT hL) _ e4.lt);have e6:=e5.trans (iw hL e5.lt (s:=bs [61]));have e7:=e6.trans (IL hL _ e6.lt);have e8:=e7.trans (iw hL e7.lt (s:=bs [59]));have c1:=lg AA q hlt hl;have c2:=ng hL tT _ e1.lt hl;have c3:=xJ _ e2.lt hl;have c4:=zGd hL hl _ e3.lt (by rw[e3.deep,i2.deep,hd0]);obtain⟨hx,hxd,c5⟩:=zFm hL hl (yT hL) (TD hL hl) _ e4.lt (by rw[e4.deep,i2.deep,hd0]);have c6:=ng hL (bs [61]) _ e5.lt hl;have c7:=zJl hL hl _ e6.lt (by rw[e6.deep,i2.deep,hd0]);have c8:=ng hL (bs [59]) _ e7.lt hl;have hg1:=zI e1.lt;unfold rT at i1;simp only at i1;generalize (iA L AA q).1=ex at*
   generalize (iA L AA q).2=q1 at*
   generalize jI L tT q1=q2 at*
   generalize (jB L q2).1=nm at*
   generalize (jB L q2).2=q3 at*
   generalize (yQ L q3).1=vs at*
   generalize (yQ L q3).2=q4 at*
   generalize (rP L (ui L) q4).1.1=pm at*
   generalize (rP L (ui L) q4).1.2=ty at*
   generalize (rP L (ui L) q4).2=q5 at*
   generalize jI L (bs [61]) q5=q6 at*
   generalize (Dk L q6).1=bd at*
   generalize (Dk L q6).2=q7 at*
   have hlt8:=e8.lt;have hon:(jI L (bs [59]) q7).e≠0\/(jI L (bs [59]) q7).at'=q7.at'+1:=zIq;have hle7:=e7.le;have hle8:=e8.le;have hlen:L.length<n+1+q.at':=i3.2.resolve_left (by simp[x]);have hn0:0<n:=by omega
   generalize jI L (bs [59]) q7=q8 at*
   have hon':q8.e≠0\/L.length<n+q8.at':=by
    rcases hon with r|r
    ·exact .inl r
    ·exact .inr (by omega)
   simp[hg,x,k];refine⟨by decide,?_⟩;refine gP [0] c1 (by simp[x]) ?_;simp[hg1];refine⟨by decide,?_⟩;refine gN [0] c2 ?_;simp;refine gN [0] c3 ?_;simp;refine gN [0] c4 ?_;simp;refine gN [0] c5 ?_;rcases hxd with⟨rfl,hty⟩|⟨row,T,rfl,hrow,hrl,rfl⟩
   ·simp[hty];refine fT [] ?_;simp;refine gN [0] c6 ?_;simp;refine gN [0] c7 ?_;simp;refine gN [0] c8 ?_;simp;refine⟨by omega,?_⟩;rw[aB (by omega)]at i1;refine fF (n,l++[⟨nm,ex,vs,pm,ty,bd,(iG L q1).line,(iG L q1).col⟩],v++[[.str nm,.bool ex,.sl false 5 (vs.map iZ),.str pm,.sl false 4 (ty.map gT.enc)]++bd.enc++[.int .i64 (iG L q1).line,.int .i64 (iG L q1).col]],q8) [0,1,2,3,4,7] ⟨i1,i2.trans e8,⟨hn0,hon'⟩,by simp;omega,by simp[i5,jS.enc]⟩ (by simp) ?_;simp;exact Le _ _
   ·simp;refine fT [7] ?_;simp[iV];refine gN [0] c6 ?_;simp[iV];refine gN [0] c7 ?_;simp[iV];refine gN [0] c8 ?_;simp[iV];refine⟨by omega,?_⟩;rw[aC (by simp)]at i1;have hn:noT.enc=[.int .i64 0,.str (bs []),.sl false 1 [],.sl false 4 []]:=rfl;refine fF (n,l++[⟨nm,ex,vs,pm,[T]++[noT],bd,(iG L q1).line,(iG L q1).col⟩],v++[[.str nm,.bool ex,.sl false 5 (vs.map iZ),.str pm,.sl false 4 [row,[.int .i64 0,.str (bs []),.sl true 1 [],.sl true 4 []]]]++bd.enc++[.int .i64 (iG L q1).line,.int .i64 (iG L q1).col]],q8) [0,1,2,3,4,8] ⟨i1,i2.trans e8,⟨hn0,hon'⟩,by simp;omega,by simp[i5,jS.enc,hrow,hn]⟩ (by simp) ?_;simp[iV];exact Le _ _
 ·rw[aB (by simp[x])]at i1;subst i1;simp[hg,x];refine⟨by decide,?_⟩;exact hQ _ v (by simp) (by simp) (by simp) i5
theorem zIc(hL:jC L)(hl:L.length<=10000){c:Ctx}(hp:c.pure)(t:Nat × Nat)(b2:Blk)(hb2:b2=.box [.d (.sl true 4 []),.d (.sl true 15 [])])(p0:PS)(h:p0.at'<L.length)(F0:List je × PS)(hF:xI L (L.length+1) [] p0=F0){Q:Exit->St->Prop}{S:St}{g}{ms:List Nat}
  (h0:iM ms S mT (mB (L:=L) p0 t b2 [] []))
  (hQ:∀T M n,Abs.look T 0=.c (.ptr 0 0)->Abs.look T 2=.c (.ptr 2 0)->Abs.look T 3=.c (.ptr 3 0)->M 0=jk L F0.2->M 1=.pin t 0->M 2=b2->M 3=.box [.msl 4 4 0 F0.1.length,.msl 15 5 0 0]->M 4=.arr 4 ((F0.1.map je.enc).map (·.map .d))->M 5=.arr 15 []->Q (.exit 0) ⟨T,M,n⟩):mW Pg c LB Q g S:=by
 refine fO gy hp (λx:Nat × List je × PS=>xI L x.1 x.2.1 x.2.2=F0/\Tm L p0 x.2.2/\L.length<x.1+x.2.2.at'/\x.2.1.length<=x.2.2.at')
  (λx=>mT) (λx=>mB (L:=L) x.2.2 t b2 x.2.1 []) (λx=>x.1) (L.length+1,[],p0) ms ⟨hF,Tm.refl h,by simp only;omega,by simp⟩ h0 λ⟨n,l,q⟩ ⟨i1,i2,i3,i4⟩=>?_
 subst hb2;unfold LB;simp only at i1 i2 i4;have i3:L.length<n+q.at':=i3;have hlt:=i2.lt;obtain⟨n,rfl⟩:∃m,n=m+1:=⟨n-1,by omega⟩
 have hg:=zI hlt;rw[xI]at i1;have c1:=lg xH q hlt hl;by_cases x:q.e=0
 ·by_cases k:(iA L xH q).1=true
  ·rw[aC ⟨x,k⟩]at i1;simp only at i1;have e1:=iW hL hlt (s:=xH);have e2:=e1.trans (lc hL e1.lt);have e3:=e2.trans (iw hL e2.lt (s:=bs [58]));have e4:=e3.trans (IK hL (L.length+1) [] _ e3.lt);have e5:=e4.trans (iw hL e4.lt (s:=bs [59]));have c2:=xJ _ e1.lt hl;have c3:=ng hL (bs [58]) _ e2.lt hl;have c4:=zEI hL hl _ e3.lt;have c5:=ng hL (bs [59]) _ e4.lt hl;have ha:=(take_at k).1;have hle:(iA L xH q).2.at'<=(jI L (bs [59]) (uK L (L.length+1) [] (jI L (bs [58]) (jB L (iA L xH q).2).2)).2).at':=by
    have h1:=(lc hL e1.lt).le;have h2:=(iw hL e2.lt (s:=bs [58])).le;have h3:=(IK hL (L.length+1) [] _ e3.lt).le;have h4:=(iw hL e4.lt (s:=bs [59])).le;omega
   generalize (iA L xH q).2=q1 at*
   generalize (jB L q1).1=nm at*
   generalize (jB L q1).2=q2 at*
   generalize jI L (bs [58]) q2=q3 at*
   generalize (uK L (L.length+1) [] q3).1=ns at*
   generalize (uK L (L.length+1) [] q3).2=q4 at*
   generalize jI L (bs [59]) q4=q5 at*
   simp[hg,x];refine⟨by decide,?_⟩;refine gP [0] c1 (by simp[x]) ?_;simp[k];refine gN [0] c2 ?_;simp;refine gN [0] c3 ?_;simp;refine gN [0] c4 ?_;simp;refine gN [0] c5 ?_;simp;refine⟨by omega,?_⟩;refine fF (n,l++[⟨nm,ns,(iG L q).line,(iG L q).col⟩],q5) [0,1,2,3,7,5] ⟨i1,i2.trans e5,by simp only;omega,by simp;omega⟩ (by simp) ?_;simp[je.enc];exact Le _ _
  ·rw[aB (λz=>k z.2)]at i1;subst i1;rw[lH k]at c1;rw[aK]at k;simp[hg,x];refine⟨by decide,?_⟩;refine gP [0] c1 (by simp[x]) ?_;simp[k];refine hQ _ _ _ (by simp) (by simp) (by simp) (by simp) (by simp) (by simp) (by simp) (by simp) (by simp)
 ·rw[aB (by simp[x])]at i1;subst i1;simp[hg,x];refine hQ _ _ _ (by simp) (by simp) (by simp) (by simp) (by simp) (by simp) (by simp) (by simp) (by simp)
theorem zDX(hL:jC L)(hl:L.length<=10000)(p:PS)(h:p.at'<L.length)(hd:p.deep=0):
  MCall Pg 74 [.c (.ptr 0 0)] [jk L p] (.ag ((BJ L p).1.enc.map .d)) [jk L (BJ L p).2]:=by
 refine zAR mX λts hts ok hb c hN hp=>?_;obtain⟨t,rfl⟩:=mD hts;have k1:=Ex hL (L.length+1) [] _ h;have k2:=IP hL (L.length+1) [] _ k1.lt;obtain⟨I0,hI0⟩:∃F0,xI L (L.length+1) [] p=F0:=⟨_,rfl⟩
 unfold SQ BJ;simp only;rw[hI0]at k1 k2⊢;obtain⟨D0,hD0⟩:∃F0,rU L (L.length+1) [] I0.2=F0:=⟨_,rfl⟩
 rw[hD0];simp;refine fU [.c 3 0,.c 3 1] ?_;simp;refine zIc hL hl hp t _ rfl p h I0 hI0 (ms:=[0,1,2,3,4,5]) (by simp) λT M n t0 t2 t3 m0 m1 m2 m3 m4 m5=>?_;simp;refine zIb hL hl hp t _ rfl I0.1 I0.2 (by rw[k1.deep,hd]) k1.lt D0 hD0 (ms:=[0,1,2,3,4,5]) (by simp[t0,t2,t3,m0,m1,m2,m3,m4,m5]) λT v t0 t2 t3 hv=>?_;simp[t0,t2,t3];refine fT [4,5] ?_;have z:take I0.1.length (List.map je.enc I0.1)=List.map je.enc I0.1:=aG (by simp);simp[iV,t2,z, -map_map];exact fI [0] [1] (by simp[iV,jP.enc,hv, -map_map])
end
theorem zGk{l:List UInt8}(h:(il l).e=0):(il l).kind≠0:=by
 cases l with
 |nil=>simp[il,lK]at h
 |cons c r=>
  rw[il]at h⊢;repeat' split
  all_goals simp_all[lK]
  all_goals (split<;>simp)
theorem TP:∀(n:Nat) (l:List UInt8) (a b:Int) (ts:List Tok),l.length<n->ts.length<=8192->(∀t,t∈ts->t.kind≠0)->(oO n l a b ts).2.e=0->
 ∃us x,(oO n l a b ts).1=us++[x]/\x.kind=0/\(∀t,t∈us->t.kind≠0)/\us.length<=8192
|0,l,_,_,_,h,_,_,_=>by omega
| n+1,l,a,b,ts,h,hl,hk,he=>by
 rw[TN]at he⊢;by_cases q:l.drop (iU false l)=[]
 ·rw[aC q];exact⟨ts,_,rfl,rfl,hk,hl⟩
 rw[aB q]at he⊢;by_cases q2:(if(il (l.drop (iU false l))).e=0/\ts.length=8192 then(19:Int)else(il (l.drop (iU false l))).e)≠0
 ·rw[aC q2]at he;exact absurd he q2
 rw[aB q2]at he⊢;have q3:¬((il (l.drop (iU false l))).e=0/\ts.length=8192):=λz=>by rw[aC z]at q2;exact q2 (by decide)
 rw[aB q3]at q2;have e0:(il (l.drop (iU false l))).e=0:=bC λz=>q2 z;have htl:=TJ e0;refine TP n _ _ _ _ ?_ ?_ ?_ he
 ·rw[dN,dN]at*;omega
 ·have:ts.length≠8192:=λz=>q3 ⟨e0,z⟩;simp;omega
 ·intro t ht;rcases aQ.1 ht with ht|ht
  ·exact hk t ht
  ·simp at ht;subst ht;exact zGk e0
theorem IX{s:fE}(h:(lC s).2.e=0):jC (lC s).1/\(lC s).1.length<=10000:=by
 unfold lC at h⊢;split
 ·rename_i q;rw[aC q]at h;simp at h
 rename_i q;rw[aB q]at h;obtain⟨us,x,e,hx,hu,hl⟩:=TP (s.size+1) s.data.toList 1 1 [] (by rw[uL];omega) (by simp) (by simp) h;rw[e];refine⟨⟨by simp,λi hi hk=>?_⟩,by simp;omega⟩;simp only[aX,length_singleton]at hi⊢;rcases aW i us.length with h|h
 ·omega
 ·have:i=us.length:=by omega
  subst this;exfalso;apply hk;rw[aH,bU (aM _)];simpa using hx
theorem zGl(s:fE):MCall Pg 73 [.c (.d (.str s))] [] (.tup [.c (.ptr 0 0),.ag ((lC s).2.enc.map .d)]) [jk (lC s).1 ps0]:=by
 refine zAS ⟨by simp,by simp,by simp,by simp,by simp,by simp[iR.enc];rfl,by simp⟩ λts hts ok hb c hN hp=>?_;have hts:ts=[]:=aT.1 hts;subst hts;unfold SV;simp;refine gQ (zIE s) ?_;simp;exact⟨by decide,fM [2] [] (by simp[ps0])⟩
theorem zHQ{L:List Tok}(hL:jC L)(hl:L.length<=10000)(p:PS)(h:p.at'<L.length):MCall Pg 75 [.c (.ptr 0 0)] [jk L p] (.ag ((⟨0,(uO L p).line,(uO L p).col,(uO L p).e⟩:iR).enc.map .d)) [jk L (uO L p)]:=by
 refine zE2 ⟨by simp,by simp,by simp,by simp,by simp,by simp[iR.enc],by simp⟩ λts hts ok hb c hN hp=>?_;obtain⟨t,rfl⟩:=mD hts;have hg:=zI h;have hf:=Eu (L:=L) 7 p h;unfold SS uO;generalize iG L p=T at*
 by_cases h0:p.e=0<;>by_cases h1:T.kind=0
 ·simp[hg,h0,h1];exact⟨by decide,by decide,fM [0] [1] (by simp[iR.enc,h0,h1])⟩
 ·simp[hg,h0,h1];refine⟨by decide,?_⟩;refine gP [0] hf (by simp[h0]) ?_;simp;exact⟨by decide,fM [0] [1] (by simp[iR.enc,h0,h1])⟩
 all_goals
  simp[hg,h0,h1];exact⟨by decide,by decide,fM [0] [1] (by simp[iR.enc,h0,h1])⟩
@[simp] theorem zK2(d:iR):cut d.enc 0 4=d.enc:=rfl
@[simp] theorem zKs(d:iR):cut (d.enc.map AC.d) 0 4=d.enc.map .d:=rfl
@[simp] theorem iR.enc_3(d:iR):d.enc[3]?=some (.int .i64 d.e):=rfl
@[simp] theorem iR.enc_g3(d:iR)(h:3<d.enc.length):d.enc[3]=.int .i64 d.e:=rfl
@[simp] theorem iR.er_map(d:iR):d.enc.map D.er=d.enc:=rfl
@[simp] theorem jP.er_map(d:jP):d.enc.map D.er=d.enc:=rfl
@[simp] theorem zK3(d:jP):cut d.enc 0 2=d.enc:=rfl
@[simp] theorem zKt(d:jP):cut (d.enc.map AC.d) 0 2=d.enc.map .d:=rfl
theorem zGm(s:fE):gU Pg 46 [.one (.str s)] (.tup [.agg (qL s).1.enc,.agg (qL s).2.enc]):=by
 refine zCa (by simp) λo c' hN hp=>?_;have hb:=zGl s;have hk:=IX (s:=s);obtain⟨F0,hF0⟩:∃F0,qL s=F0:=⟨_,rfl⟩
 rw[hF0];unfold qL at hF0;simp only at hF0;generalize (lC s).1=L at*
 generalize (lC s).2=d at*
 unfold SX;simp;refine gN [] hb ?_;simp;by_cases h0:d.e=0;rotate_left
 ·rw[aC h0]at hF0;subst hF0;simp[h0];exact⟨by decide,rfl⟩
 rw[aB (by simp[h0])]at hF0;obtain⟨hL,hl⟩:=hk h0;have c1:=zDX hL hl ps0 hL.pos rfl;have t1:=zEH hL ps0 hL.pos;generalize (BJ L ps0).1=M at*
 generalize (BJ L ps0).2=p at*
 have c2:=zHQ hL hl p t1.lt;generalize uO L p=q at*
 simp[h0];refine gP [2] c1 (by simp[ps0]) ?_;simp;refine gN [2] c2 ?_;simp;by_cases h1:q.e=0
 ·rw[aB (by simp[h1])]at hF0;subst hF0;simp[h1];decide
 ·rw[aC h1]at hF0;subst hF0;simp[h1];exact⟨by decide,rfl⟩
end Go.Gr
namespace Go.Gr
open Go.Abs Go.Proofs
mutual
def nN:gT->Int->Int
|.mk _ _ _ l,m=>qA l m 1
def qA:List gT->Int->Int->Int
|[],_,n=>n
|t::l,m,n=>if n<m then qA l m (n+nN t (m-n))else n
end
def nW:Nat->gT->Int
|0,_=>1
|1,_=>1
|n+2,t=>(t.kids.foldl (λh k=>if h<nW (n+1) k then nW (n+1) k else h) 0)+1
def lD{α:Type}(q:α->α->Bool):List α->List α->Bool
|[],[]=>true
|x::a,y::b=>q x y&&lD q a b
|_,_=>false
mutual
def kg:gT->gT->Bool
|.mk k n s l,u=>decide (k=u.kind)&&(decide (n=u.name)&&(decide (s=u.names)&&qM l u.kids))
def qM:List gT->List gT->Bool
|[],[]=>true
|t::l,u::r=>kg t u&&qM l r
|[],_::_=>false
|_::_,[]=>false
end
def bT(k:Int):gT:=.mk k (bs []) [] []
def iH(t:gT):Int:=if t.kind<1\/6<t.kind then -1 else t.kind-1
def Dr(a b:fE):Bool:=Op.bytesLess a.data.toList b.data.toList
def jU(s:fE):List fE->Nat
|[]=>0
|n::l=>if Dr n s=true then jU s l+1 else 0
def jw:List fE->List gT->List fE->List gT->(List fE × List gT) × Bool
|s::ss,t::ts,ns,ks=>
 if mY s=false\/ns[jU s ns]?=some s then((ns,ks),false)else jw ss ts (ns.take (jU s ns)++s::ns.drop (jU s ns)) (ks.take (jU s ns)++t::ks.drop (jU s ns))
|_,_,ns,ks=>((ns,ks),true)
def yV(ns:List fE)(ts:List gT):gT × Bool:=
 if ns.length≠ts.length\/16<ns.length then(.mk 5 (bs []) [] [],false)else(.mk 5 (bs []) (jw ns ts [] []).1.1 (jw ns ts [] []).1.2,(jw ns ts [] []).2)
def iX(k:gT):List gT:=if k.kind=7 then k.kids else [k]
def jV(tag:Int):List gT->Bool->List gT->(Bool × List gT) × Bool
|[],had,ks=>((had,ks),true)
| x::l,had,ks=>
 if x.kind=0 then((had,ks),false)else if iH x≠tag then jV tag l had ks else
  let ks':=if had then ks else ks++[x]
  if kg x (ks'.getLastD noT)=true then jV tag l true ks' else((true,ks'),false)
def qO(all:List gT):List Int->List gT->List gT × Bool
|[],ks=>(ks,true)
|tag::l,ks=>if(jV tag all false ks).2=true then qO all l (jV tag all false ks).1.2 else((jV tag all false ks).1.2,false)
def zJ(kids:List gT):gT × Bool:=
 let r:=qO (kids.flatMap iX) [0,1,2,3,4,5] []
 if r.2=true then(match r.1 with
  |[t]=>(t,true)
  |l=>(.mk 7 (bs []) [] l,decide (0<l.length)))
 else(.mk 7 (bs []) [] r.1,false)
def nz(k:Int)(s:List fE)(l:List gT):gT × Bool:=
 if k=5 then yV s l else if k=6 then(.mk 6 (bs []) [] l,decide (l.length=2))else zJ l
mutual
def lW:gT->gT × Bool
|.mk k n s l=>if 5<=k/\k<=7 then(if(kQ l).2=true then nz k s (kQ l).1 else(noT,false))else if 0<=k/\k<=4 then(bT k,true)else(noT,false)
def kQ:List gT->List gT × Bool
|[]=>([],true)
|t::l=>if(lW t).2=true then((lW t).1::(kQ l).1,(kQ l).2)else([],false)
end
def mE(t:gT):gT × Int:=if 16<nW 17 t\/200<nN t 201 then(noT,9)else if(lW t).2=true then((lW t).1,0)else(noT,9)
mutual
def sD:gT->Bool->fE
| .mk k n s l,br=>
 if k=0 then bs [97,110,121]else if k=1 then bs [110,117,108,108]else if k=2 then bs [98,111,111,108]else if k=3 then bs [105,110,116]else if k=4 then bs [115,116,114]
 else if k=5 then bs [123]++xq s l (bs []) 0++bs [125]
 else if k=6 then(match l with
  |a::b::_=>if br=true then bs [40]++(sD a true++bs [32,45,62,32]++sD b false)++bs [41]else sD a true++bs [32,45,62,32]++sD b false
  |_=>bs [])
 else zK l (bs []) 0
def xq:List fE->List gT->fE->Nat->fE
|s::ss,t::ts,out,i=>xq ss ts ((if 0<i then out++bs [44,32]else out)++s++bs [58,32]++sD t false) (i+1)
|_,_,out,_=>out
def zK:List gT->fE->Nat->fE
|t::ts,out,i=>zK ts ((if 0<i then out++bs [32,124,32]else out)++sD t true) (i+1)
|[],out,_=>out
end
def iC(t:gT):Bool:=decide ((mE t).2=0)&&kg (mE t).1 t
def xu(t:gT):fE:=if iC t=true then sD t false else bs []
structure ic where
 tag:Int
 opn:Bool
 t:gT
def ic.enc(p:ic):List D:=.int .i64 p.tag::.bool p.opn::p.t.enc
def TQ:ic:=⟨0,false,noT⟩
def kW(t:gT):List ic:=
 if t.kind=0 then [⟨0,false,bT 1⟩,⟨1,false,bT 2⟩,⟨2,false,bT 3⟩,⟨3,false,bT 4⟩,⟨4,true,bT 5⟩,⟨5,false,.mk 6 (bs []) [] [noT,noT]⟩]
 else if t.kind≠7 then [⟨iH t,false,t⟩]else t.kids.map λk=>⟨iH k,false,k⟩
def jy(l:List ic)(tag:Int):ic × Bool:=match l.find? λp=>decide (p.tag=tag)with
|some p=>(p,true)
|none=>(TQ,false)
def nX:List fE->List gT->fE->gT × Bool
|n::ns,k::ks,s=>if n=s then(k,true)else nX ns ks s
|_,_,_=>(noT,false)
def kH(t:gT)(s:fE):gT × Bool:=nX t.names t.kids s
def AF(rc:gT->gT->Bool)(m:gT):List fE->List gT->Bool
|s::ss,k::ks=>(kH m s).2&&(rc (kH m s).1 k&&AF rc m ss ks)
|_,_=>true
def jY(t:gT):gT:=t.kids.getD 0 noT
def jZ(t:gT):gT:=t.kids.getD 1 noT
def vM (loose:Bool):Nat->gT->gT->Bool
|0,_,_=>false
| n+1,a,b=>
 if a.kind=0\/b.kind=0 then loose||decide (a.kind=b.kind)else
  (kW a).all λp=>
   let q:=jy (kW b) p.tag
   q.2&&(AF (vM loose n) p.t q.1.t.names q.1.t.kids&&(!decide (q.1.tag=5)||(vM loose n (jY q.1.t) (jY p.t)&&vM loose n (jZ p.t) (jZ q.1.t))))
mutual
def jE:gT->Nat
|.mk _ _ _ l=>ja l+1
def ja:List gT->Nat
|[]=>0
|t::l=>max (jE t) (ja l)
end
def qV(loose:Bool)(a b:gT):Bool:=vM loose (jE a+jE b) a b
def pE(a b:gT):Bool:=iC a&&(iC b&&qV false a b)
def AJ(a b:gT):Bool:=iC a&&(iC b&&qV true a b)
def zL(a b:gT):List Int->List gT->Option (List gT)
|[],l=>some l
| tag::r,l=>
 let m:=jy (kW a) tag;let n:=jy (kW b) tag
 if m.2=true/\n.2=true then
  (if qV false m.1.t n.1.t=true then zL a b r (l++[n.1.t])else if qV false n.1.t m.1.t=true then zL a b r (l++[m.1.t])else none)
 else if m.2=true then zL a b r (l++[m.1.t])else if n.2=true then zL a b r (l++[n.1.t])else zL a b r l
def yX(a b:gT):gT:=
 if pE a b=true then b else if pE b a=true then a
 else if iC a=false\/iC b=false\/a.kind=0\/b.kind=0 then noT
 else match zL a b [0,1,2,3,4,5] []with
  |none=>noT
  |some l=>if(mE (.mk 7 (bs []) [] l)).2=0 then(mE (.mk 7 (bs []) [] l)).1 else noT
def vN(t:gT)(tag:Int):gT × gT:=
 if iC t=false\/tag<0\/6<=tag then(t,t)
 else if t.kind=0 then(if tag=5 then(t,t)else(bT (1+tag),t))
 else if(jy (kW t) tag).2=false then(t,t)
 else if t.kind≠7 then(t,t)
 else match t.kids.filter λk=>decide (iH k≠tag)with
  |[r]=>((jy (kW t) tag).1.t,r)
  |l=>((jy (kW t) tag).1.t,.mk 7 (bs []) [] l)
def fi{α:Type}(q:α->Bool):Nat->List α->Int
|_,[]=> -1
|j,x::l=>if q x=true then j else fi q (j+1) l
def ji(names:List fE)(s:fE):Int:=fi (λn=>decide (n=s)) 0 names
structure iy where
 name:fE
 module:Int
 decl:Int
def iy.enc(e:iy):List D:=[.str e.name,.int .i64 e.module,.int .i64 e.decl]
def AL:iy:=⟨bs [],0,0⟩
structure iN where
 names:List fE
 mods:List jP
 scopes:List (List iy)
 main:iy
def iN.enc(l:iN):List D:=[.sl false 1 (encS l.names),.sl false 2 (l.mods.map jP.enc),.sl false 1 (l.scopes.map λs=>[.sl false 3 (s.map iy.enc)])]++l.main.enc
def BL:iN:=⟨[],[],[],AL⟩
def qy:List (fE × fE)->Nat->List fE->List jP->List iR->(List fE × List jP) × List iR
|[],_,ns,ms,bad=>((ns,ms),bad)
|s::l,i,ns,ms,bad=>
 let m:=qL s.2
 qy l (i+1) (ns++[s.1]) (ms++[m.1]) (if mY s.1=false then bad++[⟨i,1,1,10⟩]else if 0<=ji ns s.1 then bad++[⟨i,1,1,8⟩]else if m.2.e≠0 then bad++[⟨i,m.2.line,m.2.col,m.2.e⟩]else bad)
def uP(l:List (fE × fE)):(List fE × List jP) × List iR:=
 if 16<l.length then(([],[]),[⟨16,1,1,19⟩])else qy l 0 [] [] []
def qW:List iy->fE->iy × Bool
|[],_=>(AL,false)
|e::l,s=>if e.name=s then(e,true)else qW l s
def tV(m:jP)(s:fE):Int:=fi (λd:jS=>decide (d.name=s)) 0 m.decs
def BM:jS:=⟨bs [],false,[],bs [],[],qR,0,0⟩
def oQ(M:jP)(m i:Int)(x:je):List fE->List iy->List iR->List iy × List iR
|[],sc,bad=>(sc,bad)
|s::l,sc,bad=>
 if tV M s<0\/(M.decs.getD (tV M s).toNat BM).exp=false then oQ M m i x l sc (bad++[⟨i,x.line,x.col,12⟩])
 else if(qW sc s).2=true then oQ M m i x l sc (bad++[⟨i,x.line,x.col,8⟩])
 else oQ M m i x l (sc++[⟨s,m,tV M s⟩]) bad
def xw(ns:List fE)(ms:List jP)(i:Int)(x:je)(sc:List iy):List iy × List iR:=
 if ji ns x.from_<0 then(sc,[⟨i,x.line,x.col,11⟩])else oQ (ms.getD (ji ns x.from_).toNat oP) (ji ns x.from_) i x x.names sc []
def zM(ns:List fE)(ms:List jP)(i:Int):List je->List iy->List iR->List iy × List iR
|[],sc,bad=>(sc,bad)
|x::l,sc,bad=>zM ns ms i l (xw ns ms i x sc).1 (bad++(xw ns ms i x sc).2)
def yY(i:Int):List jS->Nat->List iy->List iR->List iy × List iR
|[],_,sc,bad=>(sc,bad)
|d::l,k,sc,bad=>if(qW sc d.name).2=true then yY i l (k+1) sc (bad++[⟨i,d.line,d.col,8⟩])else yY i l (k+1) (sc++[⟨d.name,i,k⟩]) bad
def uj(ns:List fE)(ms:List jP):List jP->Nat->List (List iy)->List iR->List (List iy) × List iR
|[],_,all,bad=>(all,bad)
|m::l,i,all,bad=>
 let a:=zM ns ms i m.imps [] bad;let b:=yY i m.decs 0 a.1 a.2
 uj ns ms l (i+1) (all++[b.1]) b.2
def zN(ns:List fE):List je->List Bool->List Bool
|[],seen=>seen
|x::l,seen=>zN ns l (if 0<=ji ns x.from_ then seen.set (ji ns x.from_).toNat true else seen)
def AO(ns:List fE):List jP->Nat->List Bool->List Bool
|[],_,seen=>seen
|m::l,i,seen=>AO ns l (i+1) (if seen.getD i false=true then zN ns m.imps seen else seen)
def FB(ns:List fE)(ms:List jP):Nat->List Bool->List Bool
|0,seen=>seen
|n+1,seen=>FB ns ms n (AO ns ms 0 seen)
def Dt(ns:List fE)(ms:List jP)(f t:Nat):Bool:=(FB ns ms ms.length ((List.replicate ms.length false).set f true)).getD t false
def zO(ns:List fE)(ms:List jP)(i:Nat):List je->List iR->List iR
|[],bad=>bad
|x::l,bad=>zO ns ms i l (if 0<=ji ns x.from_/\Dt ns ms (ji ns x.from_).toNat i=true then bad++[⟨i,x.line,x.col,13⟩]else bad)
def zP(ns:List fE)(ms:List jP):List jP->Nat->List iR->List iR
|[],_,bad=>bad
|m::l,i,bad=>zP ns ms l (i+1) (zO ns ms i m.imps bad)
abbrev vO:=bs [109,97,105,110]
def yZ(l:List (fE × fE)):iN × List iR:=
 let f:=uP l
 if 0<f.2.length then(BL,f.2)else
 let s:=uj f.1.1 f.1.2 f.1.2 0 [] []
 if 0<s.2.length then(BL,s.2)else
 let t:=zP f.1.1 f.1.2 f.1.2 0 []
 if 0<t.length then(BL,t)else
 let i:=ji f.1.1 vO
 if i<0 then(BL,[⟨0,1,1,14⟩])else
 let k:=tV (f.1.2.getD i.toNat oP) vO
 if k<0 then(BL,[⟨i,1,1,14⟩])else
 let d:=(f.1.2.getD i.toNat oP).decs.getD k.toNat BM
 if 0<d.vars.length then(BL,[⟨i,d.line,d.col,14⟩])else
 (⟨f.1.1,f.1.2,s.1,⟨vO,i,k⟩⟩,[])
def y5:List fE->List gT->fE->Option gT
|v::vs,t::ts,s=>if v=s then some t else y5 vs ts s
|_,_,_=>none
mutual
def sV(vars:List fE)(wth:List gT):gT->gT × Bool
| .mk k n s l=>
 if k=8 then(if 0<s.length\/0<l.length then(.mk k n s l,false)else match y5 vars wth n with
  |some t=>(t,true)
  |none=>(.mk k n s l,false))
 else if(y7 vars wth l).2=true then(.mk k n s (y7 vars wth l).1,true)else(.mk k n s l,false)
def y7(vars:List fE)(wth:List gT):List gT->List gT × Bool
|[]=>([],true)
|t::l=>if(sV vars wth t).2=true then((sV vars wth t).1::(y7 vars wth l).1,(y7 vars wth l).2)else([],false)
end
def qX(t:gT)(vars:List fE)(wth:List gT):gT × Int:=
 if vars.length≠wth.length then(noT,1)else if 200<nN t 201\/16<nW 17 t then(noT,9)
 else if(sV vars wth t).2=true then mE (sV vars wth t).1 else(noT,9)
def FC:List (fE × gT)->List gT->List fE->List gT->Int
|v::vs,t::ts,names,had=>
 if iC t=false then 18
 else if v.2.kind≠0/\((qX v.2 names had).2≠0\/pE t (qX v.2 names had).1=false)then 18
 else FC vs ts (names++[v.1]) (had++[t])
|_,_,_,_=>0
def Du(vars:List (fE × gT))(l:List gT):Int:=if vars.length≠l.length then 18 else FC vars l [] []
structure kS where
 module:Int
 decl:Int
 types:List gT
def kS.enc(x:kS):List D:=[.int .i64 x.module,.int .i64 x.decl,.sl false 4 (x.types.map gT.enc)]
def AP(a b:kS):Bool:=decide (a.module=b.module)&&(decide (a.decl=b.decl)&&lD kg a.types b.types)
def kX(most:Int)(L:List kS)(x:kS):(Int × Int) × List kS:=
 if(x.types.all iC)=false then((0,9),L)
 else if 0<=fi (λy=>AP y x) 0 L then((fi (λy=>AP y x) 0 L,0),L)
 else if most<=L.length then((0,19),L)else((L.length,0),L++[x])
end Go.Gr
