/- Texts of ours, joined and written short by a program of ours. -/
import Derived.Test.YtlfjlokfciejnaaGreatDoorCJ07
import Derived.Test.YtlfjlokfciejnaaGreatDoorCJ06
set_option maxRecDepth 20000
set_option maxHeartbeats 4000000
set_option linter.unusedVariables false
set_option linter.unusedSimpArgs false
namespace Go.Gr
open Go.Abs Go.Proofs List
def jA(v:fI × gq):List D:=.str v.1::v.2.enc
def jr.enc(i:jr):List D:=[.str i.from_,.sl false 1 (encS i.names),.int .i64 i.line,.int .i64 i.col]
def jd.enc(d:jd):List D:=[.str d.name,.bool d.exp,.sl false 5 (d.vars.map jA),.str d.param,.sl false 4 (d.types.map gq.enc)]++d.body.enc++[.int .i64 d.line,.int .i64 d.col]
def jZ.enc(m:jZ):List D:=[.sl false 4 (m.imps.map jr.enc),.sl false 15 (m.decs.map jd.enc)]
@[simp] theorem zJd(v:fI × gq):(jA v).length=5:=by simp[jA]
@[simp] theorem jr.enc_length(v:jr):v.enc.length=4:=rfl
@[simp] theorem jd.enc_length(v:jd):v.enc.length=15:=by simp[jd.enc]
@[simp] theorem jZ.enc_length(v:jZ):v.enc.length=2:=rfl
theorem Uc(v:fI × gq):D.erdL (jA v)=jA v:=by simp[jA]
theorem Ud:∀l:List (fI × gq),D.erdE (l.map jA)=l.map jA
|[]=>rfl
|v::l=>by simp only[map_cons,D.erdE,Uc,Ud l]
@[simp] theorem zGc:∀a b:List D,D.erdL (a++b)=D.erdL a++D.erdL b
|[],_=>rfl
|x::a,b=>by simp only[cons_append,D.erdL,zGc a b]
@[simp] theorem zw8:∀a b:List (List D),D.erdE (a++b)=D.erdE a++D.erdE b
|[],_=>rfl
|x::a,b=>by simp only[cons_append,D.erdE,zw8 a b]
attribute [simp] Uc Ud
@[simp] theorem jr.erdL(v:jr):D.erdL v.enc=v.enc:=by simp[jr.enc]
@[simp] theorem jr.erdE:∀l:List jr,D.erdE (l.map jr.enc)=l.map jr.enc
|[]=>rfl
|v::l=>by simp only[map_cons,D.erdE,jr.erdL,jr.erdE l]
@[simp] theorem zJ4(a b c d e:AC)(T:gq):splice [a,b,c,d,e] 1 (T.enc.map AC.d)=a::T.enc.map .d:=by rw[T.enc_eq];try rfl
theorem M4:∀v:List (List D),(D.erdE v).length=v.length
|[]=>rfl
|d::v=>by simp only[D.erdE,length_cons,M4 v]
section
variable {L:List Tok}
theorem Io(hL:jL L):∀(n:Nat) (l:List fI),iD L (uV L n l)
|0,l,p,hp=>Tm.refl hp
|n+1,l,p,hp=>by
 have h1:=mE hL hp;have h2:=h1.trans (iw hL h1.lt (s:=bs [44]));rw[uV];split
 ·exact h2.trans (Io hL n _ _ h2.lt)
 ·exact h2
theorem yc(hL:jL L):iD L (uy L):=MQ hL 102
theorem Ip(hL:jL L):iD L (EN L):=(FX hL (yc hL) 102).1
theorem Ue(hL:jL L)(hl:L.length<=10000):qJ L 0 (uy L):=λr hr hd=>M3 hL hl 102 r hr (by omega) (by omega)
theorem zJl(hL:jL L)(hl:L.length<=10000):nW L 126 0 (EN L):=(Ub hL hl 102 0 (by omega) (by omega)).1
def uX(L:List Tok)(p:PS):gq × PS:=if(iG L (bs [60,58]) p).1=true then uy L (iG L (bs [60,58]) p).2 else(noT,p)
theorem zIG(hL:jL L):iD L (uX L):=λp hp=>by
 unfold uX;split
 ·have h1:=iw hL hp (s:=bs [60,58]);exact h1.trans (yc hL _ h1.lt)
 ·exact Tm.refl hp
theorem Uf(n:Nat)(l:List (fI × gq))(p:PS):y5 L (n+1) l p=if(iG L (bs [44]) (uX L (jK L p).2).2).1=true then y5 L n (l++[((jK L p).1,(uX L (jK L p).2).1)]) (iG L (bs [44]) (uX L (jK L p).2).2).2 else(l++[((jK L p).1,(uX L (jK L p).2).1)],jO L (bs [93]) (iG L (bs [44]) (uX L (jK L p).2).2).2):=by
 rw[y5];try rfl
theorem Ug(hL:jL L):∀(n:Nat) (l:List (fI × gq)),iD L (y5 L n l)
|0,l,p,hp=>Tm.refl hp
|n+1,l,p,hp=>by
 have h1:=mE hL hp;have h2:=h1.trans (zIG hL _ h1.lt);have h3:=h2.trans (iw hL h2.lt (s:=bs [44]));rw[Uf];split
 ·exact h3.trans (Ug hL n _ _ h3.lt)
 ·exact h3.trans (jH hL h3.lt)
theorem Iq(hL:jL L):iD L (y7 L):=λp hp=>by
 unfold y7;split
 ·have h1:=iw hL hp (s:=bs [91]);exact h1.trans (Ug hL _ _ _ h1.lt)
 ·exact Tm.refl hp
theorem F6(hL:jL L):∀(n:Nat) (l:List jr),iD L (xP L n l)
|0,l,p,hp=>Tm.refl hp
| n+1,l,p,hp=>by
 rw[xP];split
 ·have h1:=iw hL hp (s:=xO);have h2:=h1.trans (mE hL h1.lt);have h3:=h2.trans (jH hL h2.lt (s:=bs [58]));have h4:=h3.trans (Io hL (L.length+1) [] _ h3.lt);have h5:=h4.trans (jH hL h4.lt (s:=bs [59]));exact h5.trans (F6 hL n _ _ h5.lt)
 ·exact Tm.refl hp
theorem M5(hL:jL L):iD L (rq L):=λp hp=>by
 have h1:=iw hL hp (s:=A7);have h2:=h1.trans (jH hL h1.lt (s:=uD));have h3:=h2.trans (mE hL h2.lt);have h4:=h3.trans (Iq hL _ h3.lt);have h5:=h4.trans (Bf hL (yc hL) _ h4.lt);have h6:=h5.trans (jH hL h5.lt (s:=bs [61]));have h7:=h6.trans (Ip hL _ h6.lt);exact h7.trans (jH hL h7.lt (s:=bs [59]))
theorem Ir(hL:jL L):∀(n:Nat) (l:List jd),iD L (ru L n l)
|0,l,p,hp=>Tm.refl hp
| n+1,l,p,hp=>by
 rw[ru];split
 ·have h1:=M5 hL _ hp;exact h1.trans (Ir hL n _ _ h1.lt)
 ·exact Tm.refl hp
theorem zEH(hL:jL L):iD L (Be L):=λp hp=>by
 have h1:=F6 hL (L.length+1) [] _ hp;exact h1.trans (Ir hL (L.length+1) [] _ h1.lt)
theorem zEI(hL:jL L)(hl:L.length<=10000)(p:PS)(h:p.at'<L.length):
  MCall Pg 123 [.c (.ptr 0 0)] [kE L p] (.c (.d (.sl false 1 (encS (uV L (L.length+1) [] p).1)))) [kE L (uV L (L.length+1) [] p).2]:=by
 refine zB9 nE λts hts ok hb c hN hp=>?_;obtain⟨t,rfl⟩:=mF hts;obtain⟨F0,hF0⟩:∃F0,uV L (L.length+1) [] p=F0:=⟨_,rfl⟩
 rw[hF0];unfold UK;simp;refine fo [.t 3] ?_;simp
 refine fU iC hp (λx:Nat × List fI × PS=>uV L x.1 x.2.1 x.2.2=F0/\Tm L p x.2.2/\L.length<x.1+x.2.2.at'/\x.2.1.length<=x.2.2.at')
  (λx=>[(0,.c (.ptr 0 0)),(3,.c (.msl 1 2 0 x.2.1.length))])
  (λx=>[kE L x.2.2,.pin t 0,.arr 1 ((encS x.2.1).map (·.map .d))])
  (λx=>x.1) (L.length+1,[],p) [0,1,2] ⟨hF0,Tm.refl h,by simp only;omega,by simp⟩ (by simp) λ⟨n,l,q⟩ ⟨i1,i2,i3,i4⟩=>?_
 unfold UJ;simp only at i1 i2 i4;have i3:L.length<n+q.at':=i3;have hlt:=i2.lt;obtain⟨n,rfl⟩:∃m,n=m+1:=⟨n-1,by omega⟩
 rw[uV]at i1;have e1:=mE hL hlt;have le1:=e1.le;have a1:=xQ q hlt hl;have a2:=mG (bs [44]) _ e1.lt hl;generalize (jK L q).1=s at*
 generalize (jK L q).2=q1 at*
 simp;refine gU [0] a1 ?_;simp;refine⟨by omega,?_⟩;refine gU [0] a2 ?_;by_cases q2:(iG L (bs [44]) q1).1=true
 ·rw[aC q2]at i1;have hat:=(take_at q2).1;have e2:=e1.trans (iw hL e1.lt (s:=bs [44]));generalize (iG L (bs [44]) q1).2=q3 at*
  simp[q2];refine fJ (n,l++[s],q3) [0,1,3] ⟨i1,i2.trans e2,by simp only;omega,by simp;omega⟩ (by simp) ?_;simp;exact aD (by simp)
 ·rw[aB q2,lN q2]at i1;rw[lN q2,<-i1];rw[aL]at q2;have z:take l.length (List.map (λx=>List.map AC.d x) (encS l))=List.map (λx=>List.map AC.d x) (encS l):=aD (by simp);have z2:take (l.length+1) (encS l++[[.str s]])=encS l++[[.str s]]:=aD (by simp);simp[q2];refine fe [3] ?_;simp[iT,z];exact fT [0] [1] (by simp[iT,z,z2])
theorem zGd(hL:jL L)(hl:L.length<=10000)(p:PS)(h:p.at'<L.length)(hd:p.deep=0):
  MCall Pg 124 [.c (.ptr 0 0)] [kE L p] (.c (.d (.sl false 5 ((y7 L p).1.map jA)))) [kE L (y7 L p).2]:=by
 refine zDM nE λts hts ok hb c hN hp=>?_;obtain⟨t,rfl⟩:=mF hts;have c1:=mG (bs [91]) p h hl;unfold UM y7;simp;refine gU [0] c1 ?_;by_cases q0:(iG L (bs [91]) p).1=true
 ·rw[aC q0];have t1:=iw hL h (s:=bs [91]);obtain⟨F0,hF0⟩:∃F0,y5 L (L.length+1) [] (iG L (bs [91]) p).2=F0:=⟨_,rfl⟩
  rw[hF0];generalize (iG L (bs [91]) p).2=p1 at*
  have hd1:p1.deep=0:=by rw[t1.deep,hd]
  simp[q0];refine fo [.t 3] ?_;simp
  refine fU iC hp (λx:Nat × List (fI × gq) × List (List D) × PS=>y5 L x.1 x.2.1 x.2.2.2=F0/\Tm L p1 x.2.2.2/\L.length<x.1+x.2.2.2.at'/\x.2.1.length<=x.2.2.2.at'/\D.erdE x.2.2.1=x.2.1.map jA)
   (λx=>[(0,.c (.ptr 0 0)),(3,.c (.msl 5 2 0 x.2.2.1.length))])
   (λx=>[kE L x.2.2.2,.pin t 0,.arr 5 (x.2.2.1.map (·.map .d))])
   (λx=>x.1) (L.length+1,[],[],p1) [0,1,2] ⟨hF0,Tm.refl t1.lt,by simp only;omega,by simp,rfl⟩ (by simp) λ⟨n,l,v,q⟩ ⟨i1,i2,i3,i4,i5⟩=>?_
  unfold UL;simp only at i1 i2 i4 i5;have i3:L.length<n+q.at':=i3;have hvl:v.length=l.length:=by rw[<-M4,i5,aU]
  have hlt:=i2.lt;obtain⟨n,rfl⟩:∃m,n=m+1:=⟨n-1,by omega⟩
  rw[Uf]at i1;have e1:=mE hL hlt;have le1:=e1.le;have a1:=xQ q hlt hl;have a2:=mG (bs [60,58]) _ e1.lt hl;generalize (jK L q).1=s at*
  generalize (jK L q).2=q1 at*
  simp;refine gU [0] a1 ?_;simp;refine gU [0] a2 ?_;unfold uX at i1;by_cases b1:(iG L (bs [60,58]) q1).1=true
  ·rw[aC b1]at i1;have e2:=e1.trans (iw hL e1.lt (s:=bs [60,58]));have e3:=e2.trans (yc hL _ e2.lt);have hat:=(take_at b1).1;have le3:=(yc hL _ e2.lt).le;have a3:=Ue hL hl _ e2.lt (by rw[e2.deep,i2.deep,hd1]);have a4:=mG (bs [44]) _ e3.lt hl;generalize (iG L (bs [60,58]) q1).2=q2 at*
   generalize (uy L q2).1=T at*
   generalize (uy L q2).2=q3 at*
   simp[b1];refine gU [0] a3 ?_;simp;refine⟨by omega,?_⟩;refine gU [0] a4 ?_;by_cases q2:(iG L (bs [44]) q3).1=true
   ·rw[aC q2]at i1;have hat:=(take_at q2).1;have e4:=e3.trans (iw hL e3.lt (s:=bs [44]));generalize (iG L (bs [44]) q3).2=q4 at*
    simp[q2];refine fJ (n,l++[(s,T)],v++[.str s::T.enc],q4) [0,1,4] ⟨i1,i2.trans e4,by simp only;omega,by simp;omega,by simp[i5,jA]⟩ (by simp) ?_;simp;exact aD (by simp)
   ·rw[aB q2,lN q2]at i1;rw[lN q2,<-i1];rw[aL]at q2;have a3:=oN hL (bs [93]) _ e3.lt hl;have z:take v.length (List.map (λx=>List.map AC.d x) v)=List.map (λx=>List.map AC.d x) v:=aD (by simp);have z2:take (v.length+1) (v++[.str s::T.enc])=v++[.str s::T.enc]:=aD (by simp);simp[q2];refine fe [4] ?_;simp[iT,z];refine gU [0] a3 ?_;simp[iT,z];exact fO [0] [1] (by simp[iT,z,z2,i5,jA])
  ·rw[aB b1]at i1;rw[lN b1];rw[aL]at b1;have a4:=mG (bs [44]) _ e1.lt hl;simp[b1];refine⟨by omega,?_⟩;refine gU [0] a4 ?_;by_cases q2:(iG L (bs [44]) q1).1=true
   ·rw[aC q2]at i1;have hat:=(take_at q2).1;have e4:=e1.trans (iw hL e1.lt (s:=bs [44]));generalize (iG L (bs [44]) q1).2=q4 at*
    simp[q2];refine fJ (n,l++[(s,noT)],v++[[.str s,.int .i64 0,.str (bs []),.sl true 1 [],.sl true 4 []]],q4) [0,1,4] ⟨i1,i2.trans e4,by simp only;omega,by simp;omega,by simp[i5,jA,noT,gq.enc,gq.encs,encS]⟩ (by simp) ?_;simp;exact aD (by simp)
   ·rw[aB q2,lN q2]at i1;rw[lN q2,<-i1];rw[aL]at q2;have a3:=oN hL (bs [93]) _ e1.lt hl;have z:take v.length (List.map (λx=>List.map AC.d x) v)=List.map (λx=>List.map AC.d x) v:=aD (by simp);have z2:take (v.length+1) (v++[[.str s,.int .i64 0,.str (bs []),.sl true 1 [],.sl true 4 []]])=v++[[.str s,.int .i64 0,.str (bs []),.sl true 1 [],.sl true 4 []]]:=aD (by simp);simp[q2];refine fe [4] ?_;simp[iT,z];refine gU [0] a3 ?_;simp[iT,z];exact fO [0] [1] (by simp[iT,z,z2,i5,jA,noT,gq.enc,gq.encs,encS])
 ·rw[aB q0,lN q0];rw[aL]at q0;simp[q0];exact fO [0] [1] (by simp)
end
theorem ER(c:Int):gu Pg 72 [.one (.int .u8 c)] (.one (.bool (sw c))):=by
 refine zje (by simp) λo c' hN hp=>?_;unfold TI sw;by_cases h1:97<=c<;>by_cases h2:c<=122<;>by_cases h3:65<=c<;>by_cases h4:c<=90<;>simp[h1,h2,h3,h4]<;>(try (intros;omega))<;>(try omega)
theorem ES(c:Int):gu Pg 71 [.one (.int .u8 c)] (.one (.bool (pQ c))):=by
 refine zj3 (by simp) λo c' hN hp=>?_;unfold TJ pQ;by_cases h1:48<=c<;>by_cases h2:c<=57<;>simp[h1,h2]<;>(try omega)
theorem M6:gu Pg 118 [] (.one (.sl false 1 (encS Cm))):=by
 refine zj2 (by simp) λo c' hN hp=>?_;unfold TF;simp[Cm,encS]
theorem M7(s:fI):gu Pg 70 [.one (.str s)] (.one (.bool (zO s))):=by
 refine zkU (by simp) λo c' hN hp=>?_;unfold TH zO;have hl:Cm.length=25:=rfl;obtain⟨l,hwl⟩:∃l,Cm=l:=⟨_,rfl⟩
 rw[hwl]at hl⊢;obtain⟨R,hR⟩:∃R,(l.any λw=>decide (w=s))=R:=⟨_,rfl⟩
 rw[hR];have hw:=M6;rw[hwl]at hw;simp;refine gp hw ?_;simp;refine fU iC hp (λj:Nat=>j<=l.length/\(l.drop j).any (λw=>decide (w=s))=R) (λj=>[(4,.c (.d (.int .i64 j))),(3,.c (.d (.sl false 1 (encS l)))),(0,.c (.d (.str s)))]) (λ_=>[]) (λj=>l.length-j) 0 [] ⟨by simp,by simpa using hR⟩ (by simp) λj ⟨h1,h2⟩=>?_;unfold TG;simp;apply gT<;>intro h
 ·have hj:j<l.length:=by simpa using h
  rw[aF hj,any_cons]at h2;simp[aA hj];apply gT<;>intro h
  ·rw[h]at h2;simp[<-h2]
  ·rw[h]at h2;refine fJ (j+1) [] ⟨by omega,h2⟩ (by omega) ?_;simp;exact wI
 ·have hj:j=l.length:=by simp at h;omega
  subst hj;rw[aO,any_nil]at h2;simp[<-h2]
theorem zJa{a b:List UInt8}(h:bA a=bA b):a=b:=by
 have:(bA a).data.toList=(bA b).data.toList:=by rw[h]
 simpa[bA]using this
theorem M8(s:fI):bA s.data.toList=s:=by
 cases s;simp[bA]
theorem Iu(s:fI)(a b:Nat):s.extract a b=bA ((s.data.toList.drop a).take (b-a)):=by
 rw[<-M8 (s.extract a b)];congr 1;simp[ByteArray.data_extract,Array.toList_extract]
theorem Iw(s:fI):gu Pg 45 [.one (.str s)] (.one (.bool (nG s))):=by
 refine zkV (by simp) λo c' hN hp=>?_;have hs:s.size<=zah:=by have:=o.1;simpa only[DV.ok,D.ok]using this
 unfold zah at hs;have hlen:=uW s;obtain⟨R,hR⟩:∃R,nG s=R:=⟨_,rfl⟩
 rw[hR];unfold nG at hR;unfold TM;by_cases h0:s.size=0
 ·have hL:s.data.toList=[]:=aT.1 (by omega);rw[hL]at hR;simp only at hR;subst hR;simp;refine gp (M7 s) ?_;simp[h0]
 have hj0:0<s.data.toList.length:=by omega
 have hb0:=xS hj0;have hR:(decide (s.size<=32)&&(!zO s&&(!kJ s.data.toList[0]&&s.data.toList.all λb=>mX b||kJ b)))=R:=by
  rw[<-hR];revert hj0;cases s.data.toList with
  |nil=>intro h;simp at h
  |cons c l=>intro h _;rfl
 simp;refine gp (M7 s) ?_;have h0':¬(s.size:Int)=0:=by omega
 by_cases h32:s.size<=32;rotate_left
 ·have h32':(32:Int)<s.size:=by omega
  simp[h32]at hR;simp[h0,h0',h32',hR]
 have h32':¬(32:Int)<s.size:=by omega
 simp only[h32,decide_true,Bool.true_and]at hR;generalize zO s=wv at*
 cases wv with
 |true=>
  simp at hR;simp[h0,h0',h32',hR]
 | false=>
  simp only[Bool.not_false,Bool.true_and]at hR;generalize s.data.toList[0]=b0 at*
  have hd:kJ b0=pQ b0.toNat:=rfl;simp[h0,h0',h32',hb0];refine gp (ES b0.toNat) ?_;rw[<-hd];generalize kJ b0=d0 at*
  cases d0 with
  |true=>
   simp at hR;simp[hR]
  | false=>
   simp only[Bool.not_false,Bool.true_and]at hR;simp;refine fU iC hp (λj:Nat=>j<=s.size/\((s.data.toList.drop j).all λb=>mX b||kJ b)=R) (λj=>[(4,.c (.d (.int .i64 j))),(0,.c (.d (.str s)))]) (λ_=>[]) (λj=>s.size-j) 0 [] ⟨by simp,by simpa using hR⟩ (by simp) λj ⟨h1,h2⟩=>?_;unfold TL;simp;apply gT<;>intro h
   ·have hj:j<s.size:=by simpa using h
    have hj':j<s.data.toList.length:=by omega
    rw[aF hj',all_cons]at h2;have hb:=xS hj';generalize s.data.toList[j]=b at h2 hb;have hd:kJ b=pQ b.toNat:=rfl;have hle:mX b=sw b.toNat:=rfl;simp[hb];refine gp (ER b.toNat) ?_;rw[<-hle];simp[hb];refine gp (ES b.toNat) ?_;rw[<-hd];generalize mX b=x1 at*
    generalize kJ b=x2 at*
    cases x1<;>cases x2
    ·simp at h2;simp[h2]
    all_goals
     simp only[Bool.or_true,eF,Bool.true_and,Bool.or_self]at h2;simp;refine fJ (j+1) [] ⟨by omega,h2⟩ (by omega) ?_;simp;exact wI
   ·have hj:j=s.size:=by simp at h;omega
    subst hj;rw[bF (by omega),all_nil]at h2;simp[<-h2]
def lg:List fI:=[bs [45,62],bs [61,62],bs [60,58],bs [60,60],bs [60,61],bs [62,62],bs [61,61],bs [43,43]]
def uY:fI:=bs [40,41,123,125,91,93,44,58,59,61,43,45,42,47,37,38,94,60,124,46]
theorem zIm:lg=xI.map bA:=by decide
theorem M9:uY.data.toList=nV:=by decide
theorem zIn(s:fI):(xI.any λt=>decide (s.data.toList.take 2=t))=(lg.any λt=>decide (s.extract 0 2=t)):=by
 rw[zIm,any_map];congr 1;funext t;simp only[Function.comp];rw[Iu];simp only[drop_zero,eP];by_cases h:s.data.toList.take 2=t
 ·simp[h]
 ·have:¬bA (s.data.toList.take 2)=bA t:=λe=>h (zJa e);simp[h,this]
theorem zFF{s:fI}(h:s.size<2):(xI.any λt=>decide (s.data.toList.take 2=t))=false:=by
 have hlen:=uW s;rw[dX];intro t ht;have h2:t.length=2:=by
  revert t;decide
 simp only[aI];intro e;have:=dP length e;rw[bH]at this;omega
theorem zIo(s:fI)(hpos:0<s.size):gu Pg 178 [.one (.str s)] (.one (.int .i64 (zN s.data.toList))):=by
 refine zDz (by simp) λo c' hN hp=>?_;have hs:s.size<=zah:=by have:=o.1;simpa only[DV.ok,D.ok]using this
 unfold zah at hs;have hlen:=uW s;obtain⟨R,hR⟩:∃R,zN s.data.toList=R:=⟨_,rfl⟩
 rw[hR];have hj0:0<s.data.toList.length:=by omega
 have hb0:=xS hj0;have hR:(if(xI.any λt=>decide (s.data.toList.take 2=t))=true then 2 else if s.data.toList[0]∈nV then 1 else 0)=R:=by
  rw[<-hR];revert hj0;unfold zN;cases s.data.toList with
  |nil=>intro h;simp at h
  |cons c l=>intro h _;rfl
 generalize s.data.toList[0]=b0 at*
 have k2:∀{Q:Exit->St->Prop} {S:St} {g} {ms:List Nat} (h0:iM ms S [(6,.c (.d (.int .i64 0))),(5,.c (.d (.str uY))),(0,.c (.d (.str s)))] []),
   (b0∈nV->∀T M n,Abs.look T 2=.c (.d (.int .i64 1))->Q .ret ⟨T,M,n⟩)->(b0∉nV->∀T M n,Q (.exit 2) ⟨T,M,n⟩)->lU Pg c' ME Q g S:=by
  intro Q S g ms h0 hy hn;refine fU iC hp (λj:Nat=>j<=nV.length/\(b0∈nV.drop j↔b0∈nV)) (λj=>[(6,.c (.d (.int .i64 j))),(5,.c (.d (.str uY))),(0,.c (.d (.str s)))]) (λ_=>[]) (λj=>nV.length-j) 0 ms ⟨by simp,by simp⟩ h0 λj ⟨h1,h2⟩=>?_;have hsz:uY.size=nV.length:=by rw[<-uW,M9]
  unfold ME;simp[hsz];apply gT<;>intro h
  ·have hj:j<nV.length:=by simpa using h
   have hb:uY.data[j]?=some nV[j]:=by
    have:=xS (s:=uY) (j:=j) (by rw[M9];exact hj);rw[this];simp only[M9]
   rw[aF hj,aN]at h2;generalize nV[j]=b at*
   simp[hb0,hb];refine⟨by decide,?_⟩;by_cases e:b0=b
   ·subst e;simp;exact hy (h2.1 (.inl rfl)) _ _ _ (by simp)
   ·have e':¬(b0.toNat:Int)=b.toNat:=λq=>e (df.mp (by omega));have e'':¬b0.toNat=b.toNat:=λq=>e (df.mp (by omega));simp[e',e'',e];refine fJ (j+1) [] ⟨by omega,⟨λz=>h2.1 (.inr z),λz=>(h2.2 z).resolve_left e⟩⟩ (by omega) ?_;simp;exact wrap_i64 (by have:nV.length=20:=rfl;omega) (by have:nV.length=20:=rfl;omega)
  ·have hj:j=nV.length:=by simp at h;omega
   subst hj;rw[aO]at h2;exact hn (λz=>by simpa using h2.2 z) _ _ _
 unfold TN;simp;by_cases h2s:s.size<2
 ·have hz:=zFF h2s;rw[hz]at hR;simp only[ai,if_false]at hR;have h2':¬(2:Int)<=s.size:=by omega
  refine fU iC hp (λj:Nat=>j<=lg.length) (λj=>[(4,.c (.d (.int .i64 j))),(3,.c (.d (.sl true 1 (encS lg)))),(0,.c (.d (.str s)))]) (λ_=>[]) (λj=>lg.length-j) 0 [] (by simp) (by simp[encS,lg]) λj h1=>?_;unfold MB;simp;apply gT<;>intro h
  ·have hj:j<lg.length:=by simpa using h
   simp[h2'];refine⟨by decide,?_⟩;refine fJ (j+1) [] (by omega) (by omega) ?_;simp;exact wrap_i64 (by have:lg.length=8:=rfl;omega) (by have:lg.length=8:=rfl;omega)
  ·skip
   refine k2 (ms:=[]) (by simp[uY]) (λhm T M n ht=>?_) (λhm T M n=>?_)
   ·rw[aC hm]at hR;subst hR;simp[ht]
   ·rw[aB hm]at hR;subst hR;simp
 ·rw[zIn]at hR;have h2':(2:Int)<=s.size:=by omega
  have h2'':2<=s.size:=by omega
  refine fU iC hp (λj:Nat=>j<=lg.length/\(lg.drop j).any (λt=>decide (s.extract 0 2=t))=lg.any (λt=>decide (s.extract 0 2=t))) (λj=>[(4,.c (.d (.int .i64 j))),(3,.c (.d (.sl true 1 (encS lg)))),(0,.c (.d (.str s)))]) (λ_=>[]) (λj=>lg.length-j) 0 [] ⟨by simp,by simp⟩ (by simp[encS,lg]) λj ⟨h1,h3⟩=>?_;unfold MB;simp;apply gT<;>intro h
  ·have hj:j<lg.length:=by simpa using h
   rw[aF hj,any_cons]at h3;simp[h2',h2'',aA hj];generalize lg[j]=u at*
   by_cases e:s.extract 0 2=u
   ·rw[<-h3]at hR;simp[e]at hR;subst hR;simp[e];decide
   ·simp[e]at h3⊢;refine⟨by decide,?_⟩;refine fJ (j+1) [] ⟨by omega,by simpa using h3⟩ (by omega) ?_;simp;exact wrap_i64 (by have:lg.length=8:=rfl;omega) (by have:lg.length=8:=rfl;omega)
  ·have hj:j=lg.length:=by simp at h;omega
   subst hj;rw[aO,any_nil]at h3;rw[<-h3]at hR;simp only[ai,if_false]at hR;simp;refine k2 (ms:=[]) (by simp[uY]) (λhm T M n ht=>?_) (λhm T M n=>?_)
   ·rw[aC hm]at hR;subst hR;simp[ht]
   ·rw[aB hm]at hR;subst hR;simp
theorem ub(b c:UInt8):b=c↔(b.toNat:Int)=c.toNat:=⟨λh=>by rw[h],λh=>df.mp (by omega)⟩
theorem Mc(b c:UInt8):b=c↔b.toNat=c.toNat:=⟨λh=>by rw[h],λh=>df.mp h⟩
theorem un{b c:UInt8}(h:¬b=c):¬(b.toNat:Int)=c.toNat/\¬b.toNat=c.toNat:=⟨λe=>h ((ub b c).2 e),λe=>h ((Mc b c).2 e)⟩
theorem zGe(s:fI):gu Pg 153 [.one (.str s)] (.one (.int .i64 (ig false s.data.toList))):=by
 refine zB4 (by simp) λo c' hN hp=>?_;have hs:s.size<=zah:=by have:=o.1;simpa only[DV.ok,D.ok]using this
 unfold zah at hs;have hlen:=uW s;obtain⟨R,hR⟩:∃R,ig false s.data.toList=R:=⟨_,rfl⟩
 rw[hR]
 have k2:∀{Q:Exit->St->Prop} {S:St} {g} {ms:List Nat} (k:Nat) (hk:k<s.size) (hne:s.data[k]?≠some 10) (hq:k+ig true (s.data.toList.drop k)=R) (h0:iM ms S [(3,.c (.d (.int .i64 k))),(0,.c (.d (.str s)))] []),
   (∀j T M n,j<=s.size->k<j->j+ig false (s.data.toList.drop j)=R->Abs.look T 3=.c (.d (.int .i64 j))->Abs.look T 0=.c (.d (.str s))->Q (.exit 2) ⟨T,M,n⟩)->lU Pg c' MF Q g S:=by
  intro Q S g ms k hk hne hq h0 hn;refine fU iC hp (λj:Nat=>j<=s.size/\k<=j/\j+ig true (s.data.toList.drop j)=R) (λj=>[(3,.c (.d (.int .i64 j))),(0,.c (.d (.str s)))]) (λ_=>[]) (λj=>s.size-j) k ms ⟨by omega,aQ _,hq⟩ h0 λj ⟨h1,h2,h3⟩=>?_;unfold MF;simp;apply gT<;>intro h
  ·have hj:j<s.size:=by simpa using h
   have hj':j<s.data.toList.length:=by omega
   rw[aF hj',ig]at h3;have hd:=aF hj';have hb:=xS hj';generalize s.data.toList[j]=b at h3 hb hd;by_cases e:b=10
   ·subst e;simp[hb];refine hn j _ _ _ h1 ?_ ?_ (by simp) (by simp)
    ·rcases aW k j with h|h
     ·exact h
     ·have:j=k:=by omega
      subst this;exact absurd hb hne
    rw[hd,ig];simpa using h3
   ·have e':=un e;simp at e';simp[hb,e',e];simp[e]at h3;refine fJ (j+1) [] ⟨by omega,by omega,by omega⟩ (by omega) ?_;simp;exact wI
  ·have hj:j=s.size:=by simp at h;omega
   subst hj;rw[bF (by omega),ig]at h3;refine hn s.size _ _ _ (by omega) (by omega) ?_ (by simp) (by simp);rw[bF (by omega),ig];exact h3
 unfold TS;simp;refine fU iC hp (λj:Nat=>j<=s.size/\j+ig false (s.data.toList.drop j)=R) (λj=>[(3,.c (.d (.int .i64 j))),(0,.c (.d (.str s)))]) (λ_=>[]) (λj=>s.size-j) 0 [] ⟨by simp,by simpa using hR⟩ (by simp) λj ⟨h1,h3⟩=>?_;unfold TR;simp;apply gT<;>intro h
 ·have hj:j<s.size:=by simpa using h
  have hj':j<s.data.toList.length:=by omega
  rw[aF hj',ig]at h3;have hd:=aF hj';have hb:=xS hj';generalize s.data.toList[j]=b at h3 hb hd;by_cases e:b=35
  ·subst e;simp[hb];simp only[if_true]at h3;refine k2 j (by omega) (by rw[hb];decide) ?_ (ms:=[]) (by simp) λk T M n g1 g2 g3 t1 t2=>?_
   ·rw[hd,ig];simpa using h3
   ·simp;exact fJ k [] ⟨g1,g3⟩ (by omega) (by simp[t1,t2])
  ·have e':=un e;simp at e';rw[aB e]at h3;by_cases w:b=32\/b=9\/b=10\/b=13
   ·rw[aC w]at h3;have z:∀G:Prop,(b=32->G)->(b=9->G)->(b=10->G)->(b=13->G)->G:=λG a1 a2 a3 a4=>by
     rcases w with w|w|w|w
     ·exact a1 w
     ·exact a2 w
     ·exact a3 w
     ·exact a4 w
    refine z _ ?_ ?_ ?_ ?_
    all_goals
     intro w;subst w;simp[hb];refine fJ (j+1) [] ⟨by omega,by omega⟩ (by omega) ?_;simp;exact wI
   ·rw[aB w]at h3;have w1:=un (λh=>w (.inl h));have w2:=un (λh=>w (.inr (.inl h)));have w3:=un (λh=>w (.inr (.inr (.inl h))));have w4:=un (λh=>w (.inr (.inr (.inr h))));simp at w1 w2 w3 w4;simp[hb,e',e,w1,w2,w3,w4];omega
 ·have hj:j=s.size:=by simp at h;omega
  subst hj;rw[bF (by omega),ig]at h3;simp[<-h3]
def yf:List UInt8->Option (List UInt8 × Nat)
|[]=>none
|d::l=>if d=92\/d=34 then(lc l).map λx=>(d::x.1,x.2+2)else if d=110 then(lc l).map λx=>(10::x.1,x.2+2)else if d=116 then(lc l).map λx=>(9::x.1,x.2+2)else none
theorem Uh(c:UInt8)(l:List UInt8):lc (c::l)=if c=34 then some ([],1)else if c<32 then none else if c≠92 then(lc l).map (λx=>(c::x.1,x.2+1))else yf l:=by
 cases l<;>rw[lc.eq_def]<;>rfl
def tJ(out:List UInt8)(i:Nat)(l:List UInt8):List UInt8 × Int:=match lc l with
|none=>([],0)
|some (t,n)=>(out++t,i+n)
theorem Iy(out:List UInt8)(c:UInt8)(i n:Nat)(l:List UInt8):(match(lc l).map (λx=>(c::x.1,x.2+n))with
  |none=>(([],0):List UInt8 × Int)
  |some (t,m)=>(out++t,(i:Int)+m))=tJ (out++[c]) (i+n) l:=by
 unfold tJ;cases lc l with
 |none=>rfl
 |some x=>
  simp;omega
theorem F7(a b:List UInt8):bA (a++b)=bA a++bA b:=by
 have:(bA (a++b)).data.toList=(bA a++bA b).data.toList:=by simp[bA]
 rw[<-M8 (bA (a++b)),this,M8]
theorem Ui{s:fI}{j:Nat}(h:j<s.data.toList.length):s.extract j (j+1)=bA [s.data.toList[j]]:=by
 rw[Iu];congr 1;rw[aF h,show j+1-j=1 by omega];try rfl
theorem zEK(s:fI)(hpos:0<s.size):gu Pg 177 [.one (.str s)] (.tup [.one (.str (bA (tJ [] 1 (s.data.toList.drop 1)).1)),.one (.int .i64 (tJ [] 1 (s.data.toList.drop 1)).2)]):=by
 refine zAO (by simp) λo c' hN hp=>?_;have hs:s.size<=zah:=by have:=o.1;simpa only[DV.ok,D.ok]using this
 unfold zah at hs;have hlen:=uW s;obtain⟨R,hR⟩:∃R,tJ [] 1 (s.data.toList.drop 1)=R:=⟨_,rfl⟩
 rw[hR];unfold TQ;simp;refine fU iC hp (λx:Nat × List UInt8=>x.1<=s.size/\x.2.length<=x.1/\tJ x.2 x.1 (s.data.toList.drop x.1)=R) (λx=>[(5,.c (.d (.int .i64 x.1))),(4,.c (.d (.str (bA x.2)))),(0,.c (.d (.str s)))]) (λ_=>[]) (λx=>s.size-x.1) (1,[]) [] ⟨by simp only;omega,by simp,hR⟩ (by simp[bA,bs]) λ⟨j,out⟩ ⟨h1,h2,h3⟩=>?_;unfold TP;simp only at h1 h2 h3;simp;apply gT<;>intro h
 ·have hj:j<s.size:=by simpa using h
  have hj':j<s.data.toList.length:=by omega
  unfold tJ at h3;rw[aF hj',Uh]at h3;have hx:=Ui hj';have hb:=xS hj';generalize s.data.toList[j]=b at h3 hb hx;by_cases e1:b=34
  ·subst e1;simp at h3;subst h3;simp[hb];exact wI
  rw[aB e1]at h3;have e1':=un e1;simp at e1';by_cases e2:b<32
  ·rw[aC e2]at h3;simp only at h3;subst h3;have e2':(b.toNat:Int)<32:=by
    have:b.toNat<32:=e2;omega
   simp[hb,e1,e1',e2'];rfl
  rw[aB e2]at h3;have e2':¬(b.toNat:Int)<32:=by
   intro q;exact e2 (show b.toNat<32 by omega)
  by_cases e3:b=92;rotate_left
  ·rw[aC e3]at h3;have e3':=un e3;simp at e3';have hw:=wI (n:=(j:Int)+1);simp[hb,e1,e1',e2',e3,e3',hw];have hsz:(bA out).size+(min (j+1) s.size-j)<=zah:=by
    have:(bA out).size=out.length:=by rw[<-uW];simp[bA]
    unfold zah;omega
   refine⟨by omega,by omega,hsz,?_⟩;rw[Iy out b j 1]at h3;refine fJ (j+1,out++[b]) [] ⟨by simp only;omega,by simp;omega,h3⟩ (by simp only;omega) ?_;rw[hx];simp[F7]
  ·simp only[ne_eq,e3,not_true,if_false]at h3;subst e3;have hw:=wI (n:=(j:Int)+1);have hw2:=wI (n:=(j:Int)+1+1);simp[hb,hw];by_cases hj2:j+1<s.size;rotate_left
   ·have hj2':(s.size:Int)<=(j:Int)+1:=by omega
    rw[bF (by omega),yf]at h3;simp only at h3;subst h3;simp[hj2'];rfl
   have hj2':¬(s.size:Int)<=(j:Int)+1:=by omega
   have hjl:j+1<s.data.toList.length:=by omega
   rw[aF hjl,yf]at h3;have hx2:=Ui hjl;have hb2:=xS hjl;generalize s.data.toList[j+1]=d at h3 hb2 hx2;have hsz:(bA out).size=out.length:=by rw[<-uW];simp[bA]
   have hnat:((j:Int)+1).toNat=j+1:=by omega
   have hw2:IntKind.i64.wrap ((j:Int)+1+1)=((j+2:Nat):Int):=by rw[hw2];omega
   have hmin:min (j+2) s.size-(j+1)<=1:=by omega
   have hcat:(bA out).size+1<=zah:=by rw[hsz];unfold zah;omega
   by_cases d1:d=92\/d=34
   ·rw[aC d1]at h3;rw[Iy out d j 2]at h3;have hnat2:((j:Int)+2).toNat=j+1+1:=by omega
    rcases d1 with q|q
    ·have q1:=(Mc d 92).1 q;simp at q1;simp[hj2',hb2,hnat,hw2,q1];refine⟨by omega,by omega,by omega,by omega,by omega,by rw[hnat2];omega,?_⟩;refine fJ (j+2,out++[d]) [] ⟨by simp only;omega,by simp;omega,h3⟩ (by simp only;omega) ?_;rw[hnat2,hx2];simp[F7]
    ·have q1:=(Mc d 34).1 q;simp at q1;simp[hj2',hb2,hnat,hw2,q1];refine⟨by omega,by omega,by omega,by omega,by omega,by rw[hnat2];omega,?_⟩;refine fJ (j+2,out++[d]) [] ⟨by simp only;omega,by simp;omega,h3⟩ (by simp only;omega) ?_;rw[hnat2,hx2];simp[F7]
   rw[aB d1]at h3;have d11:=un (λh=>d1 (.inl h));have d12:=un (λh=>d1 (.inr h));simp at d11 d12;by_cases d2:d=110
   ·rw[aC d2]at h3;subst d2;rw[Iy out 10 j 2]at h3;simp[hj2',hb2,hnat,hw2];refine⟨by omega,hcat,?_⟩;refine fJ (j+2,out++[10]) [] ⟨by simp only;omega,by simp;omega,h3⟩ (by simp only;omega) ?_;simp[F7];rfl
   rw[aB d2]at h3;have d21:=un d2;simp at d21;by_cases d3:d=116
   ·rw[aC d3]at h3;subst d3;rw[Iy out 9 j 2]at h3;simp[hj2',hb2,hnat,hw2];refine⟨by omega,hcat,?_⟩;refine fJ (j+2,out++[9]) [] ⟨by simp only;omega,by simp;omega,h3⟩ (by simp only;omega) ?_;simp[F7];rfl
   rw[aB d3]at h3;have d31:=un d3;simp at d31;simp only at h3;subst h3;simp[hj2',hb2,hnat,d11,d12,d21,d31];exact⟨by omega,rfl⟩
 ·have hj:j=s.size:=by simp at h;omega
  subst hj;unfold tJ at h3;rw[bF (by omega),lc]at h3;simp only at h3;subst h3;simp;rfl
theorem F8(num:Bool):∀l:List UInt8,jE num l<=l.length
|[]=>aQ _
|b::l=>by have:=F8 num l;unfold jE;split<;>simp<;>omega
theorem Iz:∀(r:Bool) (l:List UInt8),ig r l<=l.length
|_,[]=>by cases‹Bool›<;>simp[ig]
|true,c::l=>by have:=Iz (decide (c≠10)) l;rw[ig,length_cons];omega
|false,c::l=>by
 have h1:=Iz true l;have h2:=Iz false l;rw[ig];split
 ·simp;omega
 ·split<;>simp<;>omega
theorem JA:∀(n:Nat) (l:List UInt8),l.length<=n->∀t k,lc l=some (t,k)->0<k/\k<=l.length
|n,[],_,t,k,e=>by simp[lc]at e
|0,c::l,h,_,_,_=>by simp at h
| n +1,c::l,h,t,k,e=>by
 rw[Uh]at e;split at e
 ·simp at e;obtain⟨_,rfl⟩:=e;simp
 split at e
 ·cases e
 split at e
 ·rw[aV]at e;obtain⟨⟨t',k'⟩,e1,e2⟩:=e;simp only[bV]at e2;have:=JA n l (by simpa using h) t' k' e1;simp;omega
 ·cases l with
  |nil=>simp[yf]at e
  | cons d l=>
   have H:∀t' k',lc l=some (t',k')->0<k'/\k'<=l.length:=λt' k' e1=>JA n l (by simp at h;omega) t' k' e1;rw[yf]at e;repeat' split at e
   all_goals first|(cases e;done)|skip
   all_goals
    rw[aV]at e;obtain⟨⟨t',k'⟩,e1,e2⟩:=e;simp only[bV]at e2;have:=H t' k' e1;simp;omega
theorem Uj(l:List UInt8):zN l<=l.length:=by
 unfold zN;split
 ·rename_i h;rw[any_eq_true]at h;obtain⟨t,ht,h⟩:=h;have h2:t.length=2:=(by decide:∀t∈xI,t.length=2) t ht;simp only[aI]at h;have:=dP length h;rw[bH]at this;omega
 ·cases l with
  |nil=>simp
  |cons c l=>simp;split<;>omega
def og.enc(t:og):List D:=[.int .i64 t.kind,.str (bA t.text),.int .i64 0,.int .i64 0]
abbrev runT(s:fI)(a b:Bool)(j:Nat):List (Nat × AV):=[(7,.c (.d (.int .i64 j))),(6,.c (.d (.bool b))),(5,.c (.d (.bool a))),(2,.c (.ptr 0 0)),(0,.c (.d (.str s)))]
abbrev Md:Blk:=.box [.d (.int .i64 0),.d (.str (bs [])),.d (.int .i64 0),.d (.int .i64 0)]
theorem rnWd{c:Ctx}(hp:c.pure)(s:fI)(hs:s.size<=4611686018427387904)(a num:Bool)(R:Nat)(hR:jE num s.data.toList=R){Q:Exit->St->Prop}{S:St}{g}{ms:List Nat}
  (h0:iM ms S (runT s a num 0) [Md])
  (hQ:∀T M n,Abs.look T 7=.c (.d (.int .i64 R))->Abs.look T 6=.c (.d (.bool num))->Abs.look T 5=.c (.d (.bool a))->Abs.look T 2=.c (.ptr 0 0)->Abs.look T 0=.c (.d (.str s))->M 0=Md->Q (.exit 0) ⟨T,M,n⟩):lU Pg c MG Q g S:=by
 have hlen:=uW s;refine fU iC hp (λj:Nat=>j<=s.size/\j+jE num (s.data.toList.drop j)=R) (λj=>runT s a num j) (λ_=>[Md]) (λj=>s.size-j) 0 ms ⟨by simp,by simpa using hR⟩ h0 λj ⟨h1,h2⟩=>?_;unfold MG;simp;apply gT<;>intro h
 ·have hj:j<s.size:=by simpa using h
  have hj':j<s.data.toList.length:=by omega
  rw[aF hj',jE]at h2;have hb:=xS hj';generalize s.data.toList[j]=b at h2 hb;have hd:kJ b=pQ b.toNat:=rfl;have hle:mX b=sw b.toNat:=rfl;simp[hb];refine gp (ER b.toNat) ?_;rw[<-hle];simp[hb];refine gp (ES b.toNat) ?_;rw[<-hd];generalize mX b=x1 at*
  generalize kJ b=x2 at*
  cases x1<;>cases x2<;>cases num
  all_goals
   simp at h2;simp
  ·exact hQ _ _ _ (by simp;omega) (by simp) (by simp) (by simp) (by simp) (by simp)
  ·exact hQ _ _ _ (by simp;omega) (by simp) (by simp) (by simp) (by simp) (by simp)
  ·refine fJ (j+1) [0] ⟨by omega,by omega⟩ (by omega) ?_;simp;exact wI
  ·refine fJ (j+1) [0] ⟨by omega,by omega⟩ (by omega) ?_;simp;exact wI
  ·refine fJ (j+1) [0] ⟨by omega,by omega⟩ (by omega) ?_;simp;exact wI
  ·exact hQ _ _ _ (by simp;omega) (by simp) (by simp) (by simp) (by simp) (by simp)
  ·refine fJ (j+1) [0] ⟨by omega,by omega⟩ (by omega) ?_;simp;exact wI
  ·refine fJ (j+1) [0] ⟨by omega,by omega⟩ (by omega) ?_;simp;exact wI
 ·have hj:j=s.size:=by simp at h;omega
  subst hj;rw[bF (by omega),jE]at h2;exact hQ _ _ _ (by simp;omega) (by simp) (by simp) (by simp) (by simp) (by simp)
theorem Me(s:fI)(i:Nat):s.extract 0 i=bA (s.data.toList.take i):=by rw[Iu];try rfl
abbrev Mf(t:og):DV:=.tup [.agg t.enc,.one (.int .i64 t.len),.one (.int .i64 t.e)]
theorem zGV(s:fI)(hpos:0<s.size):gu Pg 154 [.one (.str s)] (Mf (jF s.data.toList)):=by
 refine zB5 (by simp) λo c' hN hp=>?_;have hs:s.size<=zah:=by have:=o.1;simpa only[DV.ok,D.ok]using this
 unfold zah at hs;have hlen:=uW s;have hj0:0<s.data.toList.length:=by omega
 have hb0:=xS hj0;have cq:=zEK s hpos;have csg:=zIo s hpos;have hql:=JA (s.data.toList.drop 1).length (s.data.toList.drop 1) (aQ _);obtain⟨R,hR⟩:∃R,jF s.data.toList=R:=⟨_,rfl⟩
 rw[hR];have hrl:=F8 false s.data.toList;have hrd:=F8 true s.data.toList;have hsl:=Uj s.data.toList;have hx:∀i,s.extract 0 i=bA (s.data.toList.take i):=Me s;generalize hl:s.data.toList=l at*
 cases l with
 |nil=>simp at hj0
 |cons c r=>
 simp only[getElem_cons_zero]at hb0;simp only[drop_one,tail_cons]at cq hql;rw[jF]at hR;have hd:kJ c=pQ c.toNat:=rfl;have hle:mX c=sw c.toNat:=rfl;unfold TU;simp[hb0];refine gp (ER c.toNat) ?_;rw[<-hle];simp[hb0];refine gp (ES c.toNat) ?_;rw[<-hd];by_cases q1:mX c=true
 ·rw[aC q1]at hR;have q2:kJ c=false:=by
   unfold mX sw at q1;unfold kJ pQ;simp at q1⊢;omega
  simp[q1,q2];refine rnWd hp s hs true false (jE false (c::r)) (by rw[hl]) (ms:=[0]) (by simp) λT M n t7 t6 t5 t2 t0 m0=>?_;simp[t5,t7];by_cases q3:32<jE false (c::r)
  ·have q3':(32:Int)<(jE false (c::r):Nat):=by omega
   rw[aC q3]at hR;subst hR;simp[q3,q3',t2,m0];exact⟨rfl,rfl,rfl⟩
  rw[aB q3]at hR;have q3':¬(32:Int)<(jE false (c::r):Nat):=by omega
  have hxi:=hx (jE false (c::r));have hw:=M7 (bA (take (jE false (c::r)) (c::r)));generalize jE false (c::r)=i at*
  have hi2:i<=s.size:=by simp at hlen hrl;omega
  simp[q3,q3',t0,t7,hi2,hxi];refine gp hw ?_;generalize hu:bA (take i (c::r))=u at*
  by_cases q4:zO u=true
  ·rw[aC q4]at hR;subst hR;simp[q4,t0,t7,hi2,hxi,t2,m0,og.enc,hu]
  ·rw[aB q4]at hR;subst hR;simp[q4,t0,t7,hi2,hxi,t2,m0,og.enc,hu]
 rw[aB q1]at hR;by_cases q2:kJ c=true
 ·rw[aC q2]at hR;rw[aL]at q1;simp[q1,q2];refine rnWd hp s hs false true (jE true (c::r)) (by rw[hl]) (ms:=[0]) (by simp) λT M n t7 t6 t5 t2 t0 m0=>?_;have hxi:=hx (jE true (c::r));have hpz:=Ua (bA (take (jE true (c::r)) (c::r)));have hpi:xJ (bA (take (jE true (c::r)) (c::r)))=Bd (take (jE true (c::r)) (c::r)):=by unfold xJ;rfl
  rw[hpi]at hpz;generalize jE true (c::r)=i at*
  have hi2:i<=s.size:=by simp at hlen hrd;omega
  simp[t5,t6,t7,t0,hi2,hxi];refine gp hpz ?_;generalize hu:bA (take i (c::r))=u at*
  generalize Bd (take i (c::r))=pz at*
  by_cases q4:pz.2=true
  ·rw[aC q4]at hR;subst hR;simp[q4,t0,t7,hi2,hxi,t2,m0,og.enc,hu]
  ·rw[aB q4]at hR;subst hR;simp[q4,t0,t7,hi2,hxi,t2,m0,og.enc,hu];exact⟨⟨rfl,rfl⟩,rfl,rfl⟩
 rw[aB q2]at hR;rw[aL]at q1 q2;simp[q1,q2];by_cases q3:c=34
 ·subst q3;rw[aC rfl]at hR;simp[hb0];refine gp cq ?_;unfold tJ;cases hq:lc r with
  |none=>
   rw[hq]at hR;simp only at hR;subst hR;simp;exact⟨rfl,rfl,rfl⟩
  | some x=>
   obtain⟨t,k⟩:=x;rw[hq]at hR;have hk:=hql t k hq;have hsz:(bA t).size=t.length:=by rw[<-uW];simp[bA]
   have hk0:¬(1:Int)+k=0:=by omega
   by_cases q4:256<t.length
   ·have q4':(256:Int)<t.length:=by omega
    simp only[q4,if_true]at hR;subst hR;simp[hsz,q4,q4',hk0];exact⟨rfl,rfl,rfl⟩
   ·have q4':¬(256:Int)<t.length:=by omega
    simp only[q4,if_false]at hR;subst hR;simp[hsz,q4,q4',hk0,og.enc];omega
 rw[aB q3]at hR;have q3':=un q3;simp at q3';simp[hb0,q3,q3'];refine gp csg ?_;have hxi:=hx (zN (c::r));generalize zN (c::r)=i at*
 have hi2:i<=s.size:=by simp at hlen hsl;omega
 by_cases q4:i=0
 ·rw[aC q4]at hR;subst hR;simp[q4];exact⟨rfl,rfl,rfl⟩
 ·rw[aB q4]at hR;have q4':¬(i:Int)=0:=by omega
  subst hR;simp[q4,q4',hi2,hxi,og.enc]
theorem Uk{l:List UInt8}(h:(jF l).e=0):0<(jF l).len/\(jF l).len<=l.length:=by
 cases l with
 |nil=>simp[jF,lV]at h
 | cons c r=>
  have hrl:=F8 false (c::r);have hrd:=F8 true (c::r);have hsl:=Uj (c::r);have hql:=JA r.length r (aQ _);rw[jF]at h⊢;split
  ·rename_i q;rw[aC q]at h;split
   ·rename_i p;rw[aC p]at h;simp[lV]at h
   ·refine⟨?_,hrl⟩;show 0<jE false (c::r);rw[jE,aC (by simp[q])];omega
  rename_i q1;rw[aB q1]at h;split
  ·rename_i q;rw[aC q]at h;split
   ·refine⟨?_,hrd⟩;show 0<jE true (c::r);rw[jE,aC (by simp[q])];omega
   ·rename_i p;rw[aB p]at h;simp[lV]at h
  rename_i q2;rw[aB q2]at h;split
  ·rename_i q;rw[aC q]at h;cases e:lc r with
   |none=>rw[e]at h;simp[lV]at h
   |some x=>
    obtain⟨t,n⟩:=x;rw[e]at h;simp only at h⊢;have:=hql t n e;split
    ·rename_i p;rw[aC p]at h;simp[lV]at h
    ·simp;omega
  rename_i q3;rw[aB q3]at h;split
  ·rename_i p;rw[aC p]at h;simp[lV]at h
  ·simp only;omega
theorem Mg:∀(l:List UInt8) (a b:Int),1<=a->1<=b->1<=(qC l a b).1/\1<=(qC l a b).2/\(qC l a b).1<=a+l.length/\(qC l a b).2<=b+l.length
|[],a,b,h1,h2=>by simp[qC];omega
| c::l,a,b,h1,h2=>by
 rw[qC];split
 ·have:=Mg l (a+1) 1 (by omega) (by omega);simp only[length_cons];omega
 ·have:=Mg l a (b+1) (by omega) (by omega);simp only[length_cons];omega
abbrev DC(s:fI)(line col:Int)(at' n:Nat):List (Nat × AV):=[(6,.c (.d (.int .i64 col))),(5,.c (.d (.int .i64 line))),(7,.c (.d (.int .i64 at'))),(4,.c (.msl 4 1 0 n)),(3,.c (.ptr 0 0)),(0,.c (.d (.str s)))]
abbrev dB:Blk:=.box [.d (.int .i64 0),.d (.int .i64 0),.d (.int .i64 0),.d (.int .i64 0)]
abbrev lexB(ts:List Tok):List Blk:=[dB,.arr 4 ((ts.map Tok.enc).map (·.map .d))]
theorem zHM{c:Ctx}(hp:c.pure)(s:fI)(hs:s.size<=65536)(ts:List Tok)(a k:Nat)(hk:a+k<=s.size)(l0 c0:Int)(hl0:1<=l0)(hc0:1<=c0)(hl1:l0<=100000)(hc1:c0<=100000)(R:Int × Int)(hR:qC ((s.data.toList.drop a).take k) l0 c0=R){Q:Exit->St->Prop}{S:St}{g}{ms:List Nat}
  (h0:iM ms S ((9,.c (.d (.int .i64 a)))::(8,.c (.d (.int .i64 k)))::DC s l0 c0 a ts.length) (lexB ts))
  (hQ:∀T,Abs.look T 6=.c (.d (.int .i64 R.2))->Abs.look T 5=.c (.d (.int .i64 R.1))->Abs.look T 7=.c (.d (.int .i64 a))->Abs.look T 8=.c (.d (.int .i64 k))->Abs.look T 4=.c (.msl 4 1 0 ts.length)->Abs.look T 3=.c (.ptr 0 0)->Abs.look T 0=.c (.d (.str s))->Q (.exit 2) ⟨T,hpOf (lexB ts),2⟩):lU Pg c MH Q g S:=by
 have hlen:=uW s;obtain⟨e,he⟩:∃e,e=a+k:=⟨_,rfl⟩
 have hw2:IntKind.i64.wrap ((a:Int)+k)=(e:Int):=by rw[wI];omega
 refine fU iC hp (λx:Nat × Int × Int=>a<=x.1/\x.1<=e/\1<=x.2.1/\1<=x.2.2/\x.2.1<=100000+x.1/\x.2.2<=100000+x.1/\qC ((s.data.toList.drop x.1).take (e-x.1)) x.2.1 x.2.2=R)
  (λx=>(9,.c (.d (.int .i64 x.1)))::(8,.c (.d (.int .i64 k)))::DC s x.2.1 x.2.2 a ts.length) (λ_=>lexB ts) (λx=>e-x.1) (a,l0,c0) ms ⟨aQ _,by simp only;omega,hl0,hc0,by simp only;omega,by simp only;omega,by simp only;rw[he,cZ];exact hR⟩ h0 λ⟨j,li,co⟩ ⟨h0',h1,h2,h3,h4,h5,h6⟩=>?_
 unfold MH;simp only at h0' h1 h2 h3 h4 h5 h6;have hw1:IntKind.i64.wrap ((j:Int)+1)=((j+1:Nat):Int):=by rw[wI];omega
 have hw3:IntKind.i64.wrap (co+1)=co+1:=wI;have hw4:IntKind.i64.wrap (li+1)=li+1:=wI;by_cases hj:j<e
 ·have hj':j<s.data.toList.length:=by omega
  rw[aF hj',show e-j=(e-(j+1))+1 by omega,take_succ_cons,qC]at h6;have hb:=xS hj';generalize s.data.toList[j]=b at h6 hb;by_cases q:b=10
  ·rw[aC q]at h6;subst q;simp[hw2,hb,hj];refine fJ (j+1,li+1,1) [0,1] ⟨by simp only;omega,by simp only;omega,by simp only;omega,by simp,by simp only;omega,by simp only;omega,h6⟩ (by simp only;omega) ?_;simp[hw1,hw4]
  ·rw[aB q]at h6;have q':=un q;simp at q';simp[hw2,hb,hj,q,q'];refine fJ (j+1,li,co+1) [0,1] ⟨by simp only;omega,by simp only;omega,by simp only;omega,by simp only;omega,by simp only;omega,by simp only;omega,h6⟩ (by simp only;omega) ?_;simp[hw1,hw3]
 ·have:j=e:=by omega
  subst this;rw[Nat.sub_self,take_zero,qC]at h6;subst h6;simp[hw2];exact hQ _ (by simp) (by simp) (by simp) (by simp) (by simp) (by simp) (by simp)
theorem Mh(l:List UInt8):(bA l).data.toList=l:=by simp[bA]
theorem Ul(l:List UInt8):(bA l).size=l.length:=by rw[<-uW,Mh]
theorem Um(s:fI)(p:Nat):s.extract p s.size=bA (s.data.toList.drop p):=by
 rw[Iu,aD (by rw[dM,uW];omega)]
@[simp] theorem iY.enc_length(d:iY):d.enc.length=4:=rfl
theorem Un(n:Nat)(l:List UInt8)(a b:Int)(ts:List Tok):oh (n+1) l a b ts=
 if l.drop (ig false l)=[]then(ts++[⟨0,bs [],(qC (l.take (ig false l)) a b).1,(qC (l.take (ig false l)) a b).2⟩],MM)
 else if(if(jF (l.drop (ig false l))).e=0/\ts.length=8192 then 19 else(jF (l.drop (ig false l))).e)≠0 then([],⟨0,(qC (l.take (ig false l)) a b).1,(qC (l.take (ig false l)) a b).2,if(jF (l.drop (ig false l))).e=0/\ts.length=8192 then 19 else(jF (l.drop (ig false l))).e⟩)
 else oh n ((l.drop (ig false l)).drop (jF (l.drop (ig false l))).len) (qC (l.take (ig false l)) a b).1 ((qC (l.take (ig false l)) a b).2+(jF (l.drop (ig false l))).len) (ts++[⟨(jF (l.drop (ig false l))).kind,bA (jF (l.drop (ig false l))).text,(qC (l.take (ig false l)) a b).1,(qC (l.take (ig false l)) a b).2⟩]):=rfl
theorem zIE(s:fI):gu Pg 119 [.one (.str s)] (.tup [.one (.sl false 4 ((lI s).1.map Tok.enc)),.agg (lI s).2.enc]):=by
 refine zEZ (by simp) λo c' hN hp=>?_;have hs:s.size<=zah:=by have:=o.1;simpa only[DV.ok,D.ok]using this
 unfold zah at hs;have hlen:=uW s;obtain⟨F0,hF0⟩:∃F0,lI s=F0:=⟨_,rfl⟩
 rw[hF0];unfold lI at hF0;unfold TW;by_cases h6:65536<s.size
 ·have h6':(65536:Int)<s.size:=by omega
  rw[aC h6]at hF0;subst hF0;simp[h6,h6',iY.enc]
 have h6':¬(65536:Int)<s.size:=by omega
 rw[aB h6]at hF0;simp[h6,h6'];refine fo [.t 4] ?_;simp
 refine fU iC hp (λx:Nat × Nat × Int × Int × List Tok=>oh x.1 (s.data.toList.drop x.2.1) x.2.2.1 x.2.2.2.1 x.2.2.2.2=F0/\x.2.1<=s.size/\s.size<x.1+x.2.1/\x.2.2.2.2.length<=8192/\1<=x.2.2.1/\1<=x.2.2.2.1/\x.2.2.1<=1+x.2.1/\x.2.2.2.1<=1+x.2.1)
  (λx=>DC s x.2.2.1 x.2.2.2.1 x.2.1 x.2.2.2.2.length) (λx=>lexB x.2.2.2.2) (λx=>x.1) (s.size+1,0,1,1,[]) [0,1] ⟨by simpa using hF0,by simp,by simp only;omega,by simp,by simp,by simp,by simp,by simp⟩ (by simp) λ⟨n,p,li,co,ts⟩ ⟨i1,i2,i3,i4,i5,i6,i7,i8⟩=>?_
 unfold TV;simp only at i1 i2 i4 i5 i6 i7 i8;have i3:s.size<n+p:=i3;obtain⟨n,rfl⟩:∃m,n=m+1:=⟨n-1,by omega⟩
 rw[Un]at i1;have hb:=zGe (bA (s.data.toList.drop p));rw[Mh]at hb;have hbl:=Iz false (s.data.toList.drop p);rw[dM,hlen]at hbl;have hx:=Um s p;simp[i2,hx];refine gp hb ?_;obtain⟨k,hk⟩:∃k,ig false (s.data.toList.drop p)=k:=⟨_,rfl⟩
 rw[hk]at i1 hbl;simp[hk];obtain⟨q,hq⟩:∃q,qC ((s.data.toList.drop p).take k) li co=q:=⟨_,rfl⟩
 have hqb:=Mg ((s.data.toList.drop p).take k) li co i5 i6;rw[hq]at i1 hqb;have htk:((s.data.toList.drop p).take k).length=k:=by rw[bH,dM];omega
 rw[htk]at hqb;refine zHM hp s (by omega) ts p k (by omega) li co i5 i6 (by omega) (by omega) q hq (ms:=[0,1]) (by simp) λT t6 t5 t7 t8 t4 t3 t0=>?_;have hw:IntKind.i64.wrap ((p:Int)+k)=((p+k:Nat):Int):=by rw[wI];omega
 rw[bO]at i1;have hx2:=Um s (p+k);obtain⟨p',hp'⟩:∃p',p+k=p':=⟨_,rfl⟩
 rw[hp']at hw i1 hx2;simp[t7,t8,hw,t0];by_cases he:s.size<=p'
 ·have he':p'=s.size:=by omega
  rw[aC (bF (by omega))]at i1;subst i1;have z:take ts.length (List.map ((λx=>List.map AC.d x)∘Tok.enc) ts)=List.map ((λx=>List.map AC.d x)∘Tok.enc) ts:=aD (by simp);have z2:take (ts.length+1) (List.map Tok.enc ts++[[.int .i64 0,.str (bs []),.int .i64 q.1,.int .i64 q.2]])=List.map Tok.enc ts++[[.int .i64 0,.str (bs []),.int .i64 q.1,.int .i64 q.2]]:=aD (by simp);simp[he,t4,t5,t6,t3,z,z2];exact⟨by omega,rfl,rfl⟩
 rw[aB (λh=>by have:=dP length h;rw[dM]at this;simp at this;omega)]at i1;have ht:=zGV (bA (s.data.toList.drop p')) (by rw[Ul,dM];omega);rw[Mh]at ht;have htl:=Uk (l:=s.data.toList.drop p');rw[dM]at htl;generalize jF (s.data.toList.drop p')=t at*
 have hp2:p'<=s.size:=by omega
 simp[he,hp2,hx2,t7,t0];refine gp ht ?_;by_cases e0:t.e=0
 ·have htl:=htl e0;by_cases hm:ts.length=8192
  ·rw[aC (by rw[aC ⟨e0,hm⟩];decide),aC ⟨e0,hm⟩]at i1;subst i1;have hm':((ts.length:Nat):Int)=8192:=by omega
   simp[t4,t5,t6,t3,og.enc,e0,hm,hm',iY.enc]
  ·have hm':¬((ts.length:Nat):Int)=8192:=by omega
   rw[aB (by rw[aB (λh=>hm h.2)];simpa using e0),bO]at i1;have hw1:IntKind.i64.wrap ((p':Int)+t.len)=((p'+t.len:Nat):Int):=by rw[wI];omega
   have hw2:IntKind.i64.wrap (q.2+t.len)=q.2+t.len:=wI;simp[t4,t5,t6,t3,t7,og.enc,e0,hm,hm',hw1,hw2];refine⟨by omega,?_⟩;refine fJ (n,p'+t.len,q.1,q.2+t.len,ts++[⟨t.kind,bA t.text,q.1,q.2⟩]) [0,3] ⟨i1,by simp only;omega,by simp only;omega,by simp;omega,by simp only;omega,by simp only;omega,by simp only;omega,by simp only;omega⟩ (by simp) ?_;have z:take ts.length (List.map ((λx=>List.map AC.d x)∘Tok.enc) ts)=List.map ((λx=>List.map AC.d x)∘Tok.enc) ts:=aD (by simp);simp[t3,t0,t5,hw1,hw2,Tok.enc,z]
 ·rw[aC (by rw[aB (λh=>e0 h.1)];exact e0),aB (λh=>e0 h.1)]at i1;subst i1;simp[t4,t5,t6,t3,og.enc,e0,iY.enc]
end Go.Gr
namespace Go.Gr
open Go.Abs Go.Proofs
def om:jZ:=⟨[],[]⟩
def ps0:PS:=⟨0,0,0,0,0⟩
def uZ(L:List Tok)(p:PS):PS:=if p.e=0/\(iL L p).kind≠0 then wR L 7 p else p
def qW(s:fI):jZ × iY:=
 let x:=lI s
 if x.2.e≠0 then(om,x.2)else
  let m:=Be x.1 ps0;let p:=uZ x.1 m.2
  if p.e≠0 then(om,⟨0,p.line,p.col,p.e⟩)else(m.1,⟨0,p.line,p.col,p.e⟩)
end Go.Gr
namespace Go.Gr
open Go.Abs Go.Proofs List
def zJE(x:D)(l:List gq):Prop:=(x=.sl false 4 (l.map gq.enc)/\l.length=2)\/∃row t,x=.sl true 4 [row]/\D.erdL row=t.enc/\row.length=4/\l=[t]
theorem zG1(a b c d e f g h i j k l m n o:AC)(N:gz):splice [a,b,c,d,e,f,g,h,i,j,k,l,m,n,o] 5 (N.enc.map AC.d)=a::b::c::d::e::(N.enc.map .d++[n,o]):=by rw[N.enc_eq];try rfl
theorem zJF(a b c d e n o:AC)(N:gz):cut (a::b::c::d::e::(N.enc.map .d++[n,o])) 0 15=a::b::c::d::e::(N.enc.map .d++[n,o]):=by rw[N.enc_eq];try rfl
theorem zIZ(a b c d e n o:D)(N:gz):cut (a::b::c::d::e::(N.enc++[n,o])) 0 15=a::b::c::d::e::(N.enc++[n,o]):=by rw[N.enc_eq];try rfl
theorem zI0(N:gz)(a b:D):jc (N.enc.map AC.d++[.d a,.d b])=some (N.enc++[a,b]):=by
 have e:N.enc.map AC.d++[.d a,.d b]=(N.enc++[a,b]).map .d:=by simp
 rw[e];exact R5 _
theorem zI1(f:Nat->Nat)(N:gz)(a b:D):AC.rens f (N.enc.map AC.d++[.d a,.d b])=N.enc.map AC.d++[.d a,.d b]:=by
 have e:N.enc.map AC.d++[.d a,.d b]=(N.enc++[a,b]).map .d:=by simp
 rw[e];exact AC.rens_D _ _
theorem zJG(n:Nat)(N:gz)(a b:D):AC.lts n (N.enc.map AC.d++[.d a,.d b])=true:=by
 have e:N.enc.map AC.d++[.d a,.d b]=(N.enc++[a,b]).map .d:=by simp
 rw[e];exact AC.lts_D _ _
theorem Mi{α β:Type}(f:α->β)(v:List α):take v.length (v.map f)=v.map f:=aD (by rw[aU];exact aQ _)
attribute [simp] zG1 zJF zIZ zI0 zI1 zJG
section
variable {L:List Tok}
theorem zFm(hL:jL L)(hl:L.length<=10000){d:Nat}{ki:PS->gq × PS}(hk:iD L ki)(Hk:qJ L d ki)(p:PS)(h:p.at'<L.length)(hd:p.deep=d):
  ∃x,zJE x (rZ L ki p).1.2/\MCall Pg 125 [.c (.ptr 0 0)] [kE L p] (.tup [.c (.d (.str (rZ L ki p).1.1)),.c (.d x)]) [kE L (rZ L ki p).2]:=by
 have t1:=jH hL h (s:=bs [40]);have t2:=t1.trans (mE hL t1.lt);have t3:=t2.trans (zT hL hk _ t2.lt);have t4:=t3.trans (jH hL t3.lt (s:=bs [41]));have c1:=oN hL (bs [40]) p h hl;have c2:=xQ _ t1.lt hl;have c3:=FZ hL hl Hk _ t2.lt (by rw[t2.deep,hd]);have c4:=oN hL (bs [41]) _ t3.lt hl;have c5:=FZ hL hl Hk _ t4.lt (by rw[t4.deep,hd]);have n1:=Il (L:=L) ki (jK L (jO L (bs [40]) p)).2;have n2:=Il (L:=L) ki (jO L (bs [41]) (qD L ki (jK L (jO L (bs [40]) p)).2).2);unfold rZ;simp only;generalize jO L (bs [40]) p=p1 at*
 generalize (jK L p1).1=s1 at*
 generalize (jK L p1).2=p2 at*
 generalize (qD L ki p2).1=A at*
 generalize (qD L ki p2).2=p3 at*
 generalize jO L (bs [41]) p3=p4 at*
 generalize (qD L ki p4).1=B at*
 generalize (qD L ki p4).2=p5 at*
 have hn:noT.enc=[.int .i64 0,.str (bs []),.sl false 1 [],.sl false 4 []]:=rfl;rcases n1 with rfl|⟨T,rfl⟩<;>rcases n2 with rfl|⟨U,rfl⟩
 ·refine⟨.sl true 4 [[.int .i64 0,.str (bs []),.sl true 1 [],.sl true 4 []]],.inr ⟨_,noT,rfl,rfl,rfl,rfl⟩,?_⟩;refine FK nE λts hts ok hb c hN hp=>?_;obtain⟨t,rfl⟩:=mF hts;unfold EL;simp;refine gU [0] c1 ?_;simp;refine gU [0] c2 ?_;simp;refine gU [0] c3 ?_;simp;refine gU [0] c4 ?_;simp;refine gU [0] c5 ?_;simp;refine fe [] ?_;simp;exact fQ [0] [1]
 ·refine⟨.sl false 4 [noT.enc,U.enc],.inl ⟨rfl,rfl⟩,?_⟩;refine FK nE λts hts ok hb c hN hp=>?_;obtain⟨t,rfl⟩:=mF hts;unfold EL;simp;refine gU [0] c1 ?_;simp;refine gU [0] c2 ?_;simp;refine gU [0] c3 ?_;simp;refine gU [0] c4 ?_;simp;refine gU [0] c5 ?_;simp;refine fe [2] ?_;simp[iT];exact fO [0] [1] (by simp[hn,AV.erds])
 ·refine⟨.sl true 4 [T.enc],.inr ⟨_,T,rfl,by simp,by simp,rfl⟩,?_⟩;refine FK nE λts hts ok hb c hN hp=>?_;obtain⟨t,rfl⟩:=mF hts;unfold EL;simp;refine gU [0] c1 ?_;simp;refine gU [0] c2 ?_;simp;refine gU [0] c3 ?_;simp;refine gU [0] c4 ?_;simp;refine gU [0] c5 ?_;simp;refine fe [] ?_;simp;exact fQ [0] [1]
 ·refine⟨.sl false 4 [T.enc,U.enc],.inl ⟨rfl,rfl⟩,?_⟩;refine FK nE λts hts ok hb c hN hp=>?_;obtain⟨t,rfl⟩:=mF hts;unfold EL;simp;refine gU [0] c1 ?_;simp;refine gU [0] c2 ?_;simp;refine gU [0] c3 ?_;simp;refine gU [0] c4 ?_;simp;refine gU [0] c5 ?_;simp;refine fe [2] ?_;simp[iT];exact fO [0] [1] (by simp[hn,AV.erds])
abbrev mB(p:PS)(t:Nat × Nat)(b2:Blk)(is:List jr)(v:List (List D)):List Blk:=[kE L p,.pin t 0,b2,.box [.msl 4 4 0 is.length,.msl 15 5 0 v.length],.arr 4 ((is.map jr.enc).map (·.map .d)),.arr 15 (v.map (·.map .d))]
abbrev mT:List (Nat × AV):=[(0,.c (.ptr 0 0)),(2,.c (.ptr 2 0)),(3,.c (.ptr 3 0))]
theorem zIb(hL:jL L)(hl:L.length<=10000){c:Ctx}(hp:c.pure)(t:Nat × Nat)(b2:Blk)(hb2:b2=.box [.d (.sl true 4 []),.d (.sl true 15 [])])(is:List jr)(p0:PS)(hd0:p0.deep=0)(h:p0.at'<L.length)(F0:List jd × PS)(hF:ru L (L.length+1) [] p0=F0){Q:Exit->St->Prop}{S:St}{g}{ms:List Nat}
  (h0:iM ms S mT (mB (L:=L) p0 t b2 is []))
  (hQ:∀T v,Abs.look T 0=.c (.ptr 0 0)->Abs.look T 2=.c (.ptr 2 0)->Abs.look T 3=.c (.ptr 3 0)->D.erdE v=F0.1.map jd.enc->Q (.exit 2) ⟨T,hpOf (mB (L:=L) F0.2 t b2 is v),6⟩):lU Pg c ML Q g S:=by
 refine fU iC hp (λx:Nat × List jd × List (List D) × PS=>ru L x.1 x.2.1 x.2.2.2=F0/\Tm L p0 x.2.2.2/\(0<x.1/\(x.2.2.2.e≠0\/L.length<x.1+x.2.2.2.at'))/\x.2.1.length+x.1<=L.length+1/\D.erdE x.2.2.1=x.2.1.map jd.enc)
  (λx=>mT) (λx=>mB (L:=L) x.2.2.2 t b2 is x.2.2.1) (λx=>x.1) (L.length+1,[],[],p0) ms ⟨hF,Tm.refl h,⟨by simp,.inr (by simp only;omega)⟩,by simp,rfl⟩ h0 λ⟨n,l,v,q⟩ ⟨i1,i2,i3,i4,i5⟩=>?_
 subst hb2;unfold ML;simp only at i1 i2 i4 i5;have i3:0<n/\(q.e≠0\/L.length<n+q.at'):=i3;have hvl:v.length=l.length:=by rw[<-M4,i5,aU]
 have hlt:=i2.lt;obtain⟨n,rfl⟩:∃m,n=m+1:=⟨n-1,by omega⟩
 have hg:=zU hlt;rw[ru]at i1;by_cases x:q.e=0
 ·by_cases k:(iL L q).kind=0
  ·rw[aB (by simp[k])]at i1;subst i1;simp[hg,x,k];refine⟨by decide,?_⟩;exact hQ _ v (by simp) (by simp) (by simp) i5
  ·rw[aC ⟨x,k⟩]at i1;have e1:=iw hL hlt (s:=A7);have e2:=e1.trans (jH hL e1.lt (s:=uD));have e3:=e2.trans (mE hL e2.lt);have e4:=e3.trans (Iq hL _ e3.lt);have e5:=e4.trans (Bf hL (yc hL) _ e4.lt);have e6:=e5.trans (jH hL e5.lt (s:=bs [61]));have e7:=e6.trans (Ip hL _ e6.lt);have e8:=e7.trans (jH hL e7.lt (s:=bs [59]));have c1:=mG A7 q hlt hl;have c2:=oN hL uD _ e1.lt hl;have c3:=xQ _ e2.lt hl;have c4:=zGd hL hl _ e3.lt (by rw[e3.deep,i2.deep,hd0]);obtain⟨hx,hxd,c5⟩:=zFm hL hl (yc hL) (Ue hL hl) _ e4.lt (by rw[e4.deep,i2.deep,hd0]);have c6:=oN hL (bs [61]) _ e5.lt hl;have c7:=zJl hL hl _ e6.lt (by rw[e6.deep,i2.deep,hd0]);have c8:=oN hL (bs [59]) _ e7.lt hl;have hg1:=zU e1.lt;unfold rq at i1;simp only at i1;generalize (iG L A7 q).1=ex at*
   generalize (iG L A7 q).2=q1 at*
   generalize jO L uD q1=q2 at*
   generalize (jK L q2).1=nm at*
   generalize (jK L q2).2=q3 at*
   generalize (y7 L q3).1=vs at*
   generalize (y7 L q3).2=q4 at*
   generalize (rZ L (uy L) q4).1.1=pm at*
   generalize (rZ L (uy L) q4).1.2=ty at*
   generalize (rZ L (uy L) q4).2=q5 at*
   generalize jO L (bs [61]) q5=q6 at*
   generalize (EN L q6).1=bd at*
   generalize (EN L q6).2=q7 at*
   have hlt8:=e8.lt;have hon:(jO L (bs [59]) q7).e≠0\/(jO L (bs [59]) q7).at'=q7.at'+1:=zIq;have hle7:=e7.le;have hle8:=e8.le;have hlen:L.length<n+1+q.at':=i3.2.resolve_left (by simp[x]);have hn0:0<n:=by omega
   generalize jO L (bs [59]) q7=q8 at*
   have hon':q8.e≠0\/L.length<n+q8.at':=by
    rcases hon with r|r
    ·exact .inl r
    ·exact .inr (by omega)
   simp[hg,x,k];refine⟨by decide,?_⟩;refine gY [0] c1 (by simp[x]) ?_;simp[hg1];refine⟨by decide,?_⟩;refine gU [0] c2 ?_;simp;refine gU [0] c3 ?_;simp;refine gU [0] c4 ?_;simp;refine gU [0] c5 ?_;rcases hxd with⟨rfl,hty⟩|⟨row,T,rfl,hrow,hrl,rfl⟩
   ·simp[hty];refine fe [] ?_;simp;refine gU [0] c6 ?_;simp;refine gU [0] c7 ?_;simp;refine gU [0] c8 ?_;simp;refine⟨by omega,?_⟩;rw[aB (by omega)]at i1;refine fJ (n,l++[⟨nm,ex,vs,pm,ty,bd,(iL L q1).line,(iL L q1).col⟩],v++[[.str nm,.bool ex,.sl false 5 (vs.map jA),.str pm,.sl false 4 (ty.map gq.enc)]++bd.enc++[.int .i64 (iL L q1).line,.int .i64 (iL L q1).col]],q8) [0,1,2,3,4,7] ⟨i1,i2.trans e8,⟨hn0,hon'⟩,by simp;omega,by simp[i5,jd.enc]⟩ (by simp) ?_;simp;exact Mi _ _
   ·simp;refine fe [7] ?_;simp[iT];refine gU [0] c6 ?_;simp[iT];refine gU [0] c7 ?_;simp[iT];refine gU [0] c8 ?_;simp[iT];refine⟨by omega,?_⟩;rw[aC (by simp)]at i1;have hn:noT.enc=[.int .i64 0,.str (bs []),.sl false 1 [],.sl false 4 []]:=rfl;refine fJ (n,l++[⟨nm,ex,vs,pm,[T]++[noT],bd,(iL L q1).line,(iL L q1).col⟩],v++[[.str nm,.bool ex,.sl false 5 (vs.map jA),.str pm,.sl false 4 [row,[.int .i64 0,.str (bs []),.sl true 1 [],.sl true 4 []]]]++bd.enc++[.int .i64 (iL L q1).line,.int .i64 (iL L q1).col]],q8) [0,1,2,3,4,8] ⟨i1,i2.trans e8,⟨hn0,hon'⟩,by simp;omega,by simp[i5,jd.enc,hrow,hn]⟩ (by simp) ?_;simp[iT];exact Mi _ _
 ·rw[aB (by simp[x])]at i1;subst i1;simp[hg,x];refine⟨by decide,?_⟩;exact hQ _ v (by simp) (by simp) (by simp) i5
theorem zIc(hL:jL L)(hl:L.length<=10000){c:Ctx}(hp:c.pure)(t:Nat × Nat)(b2:Blk)(hb2:b2=.box [.d (.sl true 4 []),.d (.sl true 15 [])])(p0:PS)(h:p0.at'<L.length)(F0:List jr × PS)(hF:xP L (L.length+1) [] p0=F0){Q:Exit->St->Prop}{S:St}{g}{ms:List Nat}
  (h0:iM ms S mT (mB (L:=L) p0 t b2 [] []))
  (hQ:∀T M n,Abs.look T 0=.c (.ptr 0 0)->Abs.look T 2=.c (.ptr 2 0)->Abs.look T 3=.c (.ptr 3 0)->M 0=kE L F0.2->M 1=.pin t 0->M 2=b2->M 3=.box [.msl 4 4 0 F0.1.length,.msl 15 5 0 0]->M 4=.arr 4 ((F0.1.map jr.enc).map (·.map .d))->M 5=.arr 15 []->Q (.exit 0) ⟨T,M,n⟩):lU Pg c MK Q g S:=by
 refine fU iC hp (λx:Nat × List jr × PS=>xP L x.1 x.2.1 x.2.2=F0/\Tm L p0 x.2.2/\L.length<x.1+x.2.2.at'/\x.2.1.length<=x.2.2.at')
  (λx=>mT) (λx=>mB (L:=L) x.2.2 t b2 x.2.1 []) (λx=>x.1) (L.length+1,[],p0) ms ⟨hF,Tm.refl h,by simp only;omega,by simp⟩ h0 λ⟨n,l,q⟩ ⟨i1,i2,i3,i4⟩=>?_
 subst hb2;unfold MK;simp only at i1 i2 i4;have i3:L.length<n+q.at':=i3;have hlt:=i2.lt;obtain⟨n,rfl⟩:∃m,n=m+1:=⟨n-1,by omega⟩
 have hg:=zU hlt;rw[xP]at i1;have c1:=mG xO q hlt hl;by_cases x:q.e=0
 ·by_cases k:(iG L xO q).1=true
  ·rw[aC ⟨x,k⟩]at i1;simp only at i1;have e1:=iw hL hlt (s:=xO);have e2:=e1.trans (mE hL e1.lt);have e3:=e2.trans (jH hL e2.lt (s:=bs [58]));have e4:=e3.trans (Io hL (L.length+1) [] _ e3.lt);have e5:=e4.trans (jH hL e4.lt (s:=bs [59]));have c2:=xQ _ e1.lt hl;have c3:=oN hL (bs [58]) _ e2.lt hl;have c4:=zEI hL hl _ e3.lt;have c5:=oN hL (bs [59]) _ e4.lt hl;have ha:=(take_at k).1;have hle:(iG L xO q).2.at'<=(jO L (bs [59]) (uV L (L.length+1) [] (jO L (bs [58]) (jK L (iG L xO q).2).2)).2).at':=by
    have h1:=(mE hL e1.lt).le;have h2:=(jH hL e2.lt (s:=bs [58])).le;have h3:=(Io hL (L.length+1) [] _ e3.lt).le;have h4:=(jH hL e4.lt (s:=bs [59])).le;omega
   generalize (iG L xO q).2=q1 at*
   generalize (jK L q1).1=nm at*
   generalize (jK L q1).2=q2 at*
   generalize jO L (bs [58]) q2=q3 at*
   generalize (uV L (L.length+1) [] q3).1=ns at*
   generalize (uV L (L.length+1) [] q3).2=q4 at*
   generalize jO L (bs [59]) q4=q5 at*
   simp[hg,x];refine⟨by decide,?_⟩;refine gY [0] c1 (by simp[x]) ?_;simp[k];refine gU [0] c2 ?_;simp;refine gU [0] c3 ?_;simp;refine gU [0] c4 ?_;simp;refine gU [0] c5 ?_;simp;refine⟨by omega,?_⟩;refine fJ (n,l++[⟨nm,ns,(iL L q).line,(iL L q).col⟩],q5) [0,1,2,3,7,5] ⟨i1,i2.trans e5,by simp only;omega,by simp;omega⟩ (by simp) ?_;simp[jr.enc];exact Mi _ _
  ·rw[aB (λz=>k z.2)]at i1;subst i1;rw[lN k]at c1;rw[aL]at k;simp[hg,x];refine⟨by decide,?_⟩;refine gY [0] c1 (by simp[x]) ?_;simp[k];refine hQ _ _ _ (by simp) (by simp) (by simp) (by simp) (by simp) (by simp) (by simp) (by simp) (by simp)
 ·rw[aB (by simp[x])]at i1;subst i1;simp[hg,x];refine hQ _ _ _ (by simp) (by simp) (by simp) (by simp) (by simp) (by simp) (by simp) (by simp) (by simp)
theorem zDX(hL:jL L)(hl:L.length<=10000)(p:PS)(h:p.at'<L.length)(hd:p.deep=0):
  MCall Pg 74 [.c (.ptr 0 0)] [kE L p] (.ag ((Be L p).1.enc.map .d)) [kE L (Be L p).2]:=by
 refine zAR nE λts hts ok hb c hN hp=>?_;obtain⟨t,rfl⟩:=mF hts;have k1:=F6 hL (L.length+1) [] _ h;have k2:=Ir hL (L.length+1) [] _ k1.lt;obtain⟨I0,hI0⟩:∃F0,xP L (L.length+1) [] p=F0:=⟨_,rfl⟩
 unfold UN Be;simp only;rw[hI0]at k1 k2⊢;obtain⟨D0,hD0⟩:∃F0,ru L (L.length+1) [] I0.2=F0:=⟨_,rfl⟩
 rw[hD0];simp;refine fo [.c 3 0,.c 3 1] ?_;simp;refine zIc hL hl hp t _ rfl p h I0 hI0 (ms:=[0,1,2,3,4,5]) (by simp) λT M n t0 t2 t3 m0 m1 m2 m3 m4 m5=>?_;simp;refine zIb hL hl hp t _ rfl I0.1 I0.2 (by rw[k1.deep,hd]) k1.lt D0 hD0 (ms:=[0,1,2,3,4,5]) (by simp[t0,t2,t3,m0,m1,m2,m3,m4,m5]) λT v t0 t2 t3 hv=>?_;simp[t0,t2,t3];refine fe [4,5] ?_;have z:take I0.1.length (List.map jr.enc I0.1)=List.map jr.enc I0.1:=aD (by simp);simp[iT,t2,z, -map_map];exact fO [0] [1] (by simp[iT,jZ.enc,hv, -map_map])
end
theorem zGk{l:List UInt8}(h:(jF l).e=0):(jF l).kind≠0:=by
 cases l with
 |nil=>simp[jF,lV]at h
 |cons c r=>
  rw[jF]at h⊢;repeat' split
  all_goals simp_all[lV]
  all_goals (split<;>simp)
theorem Uo:∀(n:Nat) (l:List UInt8) (a b:Int) (ts:List Tok),l.length<n->ts.length<=8192->(∀t,t∈ts->t.kind≠0)->(oh n l a b ts).2.e=0->
 ∃us x,(oh n l a b ts).1=us++[x]/\x.kind=0/\(∀t,t∈us->t.kind≠0)/\us.length<=8192
|0,l,_,_,_,h,_,_,_=>by omega
| n+1,l,a,b,ts,h,hl,hk,he=>by
 rw[Un]at he⊢;by_cases q:l.drop (ig false l)=[]
 ·rw[aC q];exact⟨ts,_,rfl,rfl,hk,hl⟩
 rw[aB q]at he⊢;by_cases q2:(if(jF (l.drop (ig false l))).e=0/\ts.length=8192 then(19:Int)else(jF (l.drop (ig false l))).e)≠0
 ·rw[aC q2]at he;exact absurd he q2
 rw[aB q2]at he⊢;have q3:¬((jF (l.drop (ig false l))).e=0/\ts.length=8192):=λz=>by rw[aC z]at q2;exact q2 (by decide)
 rw[aB q3]at q2;have e0:(jF (l.drop (ig false l))).e=0:=bE λz=>q2 z;have htl:=Uk e0;refine Uo n _ _ _ _ ?_ ?_ ?_ he
 ·rw[dM,dM]at*;omega
 ·have:ts.length≠8192:=λz=>q3 ⟨e0,z⟩;simp;omega
 ·intro t ht;rcases aM.1 ht with ht|ht
  ·exact hk t ht
  ·simp at ht;subst ht;exact zGk e0
theorem JB{s:fI}(h:(lI s).2.e=0):jL (lI s).1/\(lI s).1.length<=10000:=by
 unfold lI at h⊢;split
 ·rename_i q;rw[aC q]at h;simp at h
 rename_i q;rw[aB q]at h;obtain⟨us,x,e,hx,hu,hl⟩:=Uo (s.size+1) s.data.toList 1 1 [] (by rw[uW];omega) (by simp) (by simp) h;rw[e];refine⟨⟨by simp,λi hi hk=>?_⟩,by simp;omega⟩;simp only[aX,length_singleton]at hi⊢;rcases aW i us.length with h|h
 ·omega
 ·have:i=us.length:=by omega
  subst this;exfalso;apply hk;rw[aH,bY (aQ _)];simpa using hx
theorem zGl(s:fI):MCall Pg 73 [.c (.d (.str s))] [] (.tup [.c (.ptr 0 0),.ag ((lI s).2.enc.map .d)]) [kE (lI s).1 ps0]:=by
 refine zAS ⟨by simp,by simp,by simp,by simp,by simp,by simp[iY.enc];rfl,by simp⟩ λts hts ok hb c hN hp=>?_;have hts:ts=[]:=aT.1 hts;subst hts;unfold UQ;simp;refine gp (zIE s) ?_;simp;exact⟨by decide,fT [2] [] (by simp[ps0])⟩
theorem zHQ{L:List Tok}(hL:jL L)(hl:L.length<=10000)(p:PS)(h:p.at'<L.length):MCall Pg 75 [.c (.ptr 0 0)] [kE L p] (.ag ((⟨0,(uZ L p).line,(uZ L p).col,(uZ L p).e⟩:iY).enc.map .d)) [kE L (uZ L p)]:=by
 refine zE2 ⟨by simp,by simp,by simp,by simp,by simp,by simp[iY.enc],by simp⟩ λts hts ok hb c hN hp=>?_;obtain⟨t,rfl⟩:=mF hts;have hg:=zU h;have hf:=FY (L:=L) 7 p h;unfold UO uZ;generalize iL L p=T at*
 by_cases h0:p.e=0<;>by_cases h1:T.kind=0
 ·simp[hg,h0,h1];exact⟨by decide,by decide,fT [0] [1] (by simp[iY.enc,h0,h1])⟩
 ·simp[hg,h0,h1];refine⟨by decide,?_⟩;refine gY [0] hf (by simp[h0]) ?_;simp;exact⟨by decide,fT [0] [1] (by simp[iY.enc,h0,h1])⟩
 all_goals
  simp[hg,h0,h1];exact⟨by decide,by decide,fT [0] [1] (by simp[iY.enc,h0,h1])⟩
@[simp] theorem zK2(d:iY):cut d.enc 0 4=d.enc:=rfl
@[simp] theorem zKs(d:iY):cut (d.enc.map AC.d) 0 4=d.enc.map .d:=rfl
@[simp] theorem iY.enc_3(d:iY):d.enc[3]?=some (.int .i64 d.e):=rfl
@[simp] theorem iY.enc_g3(d:iY)(h:3<d.enc.length):d.enc[3]=.int .i64 d.e:=rfl
@[simp] theorem iY.er_map(d:iY):d.enc.map D.er=d.enc:=rfl
@[simp] theorem jZ.er_map(d:jZ):d.enc.map D.er=d.enc:=rfl
@[simp] theorem zK3(d:jZ):cut d.enc 0 2=d.enc:=rfl
@[simp] theorem zKt(d:jZ):cut (d.enc.map AC.d) 0 2=d.enc.map .d:=rfl
theorem zGm(s:fI):gu Pg 46 [.one (.str s)] (.tup [.agg (qW s).1.enc,.agg (qW s).2.enc]):=by
 refine zCa (by simp) λo c' hN hp=>?_;have hb:=zGl s;have hk:=JB (s:=s);obtain⟨F0,hF0⟩:∃F0,qW s=F0:=⟨_,rfl⟩
 rw[hF0];unfold qW at hF0;simp only at hF0;generalize (lI s).1=L at*
 generalize (lI s).2=d at*
 unfold UR;simp;refine gU [] hb ?_;simp;by_cases h0:d.e=0;rotate_left
 ·rw[aC h0]at hF0;subst hF0;simp[h0];exact⟨by decide,rfl⟩
 rw[aB (by simp[h0])]at hF0;obtain⟨hL,hl⟩:=hk h0;have c1:=zDX hL hl ps0 hL.pos rfl;have t1:=zEH hL ps0 hL.pos;generalize (Be L ps0).1=M at*
 generalize (Be L ps0).2=p at*
 have c2:=zHQ hL hl p t1.lt;generalize uZ L p=q at*
 simp[h0];refine gY [2] c1 (by simp[ps0]) ?_;simp;refine gU [2] c2 ?_;simp;by_cases h1:q.e=0
 ·rw[aB (by simp[h1])]at hF0;subst hF0;simp[h1];decide
 ·rw[aC h1]at hF0;subst hF0;simp[h1];exact⟨by decide,rfl⟩
end Go.Gr
namespace Go.Gr
open Go.Abs Go.Proofs
mutual
def nX:gq->Int->Int
|.mk _ _ _ l,m=>qK l m 1
def qK:List gq->Int->Int->Int
|[],_,n=>n
|t::l,m,n=>if n<m then qK l m (n+nX t (m-n))else n
end
def oI:Nat->gq->Int
|0,_=>1
|1,_=>1
|n+2,t=>(t.kids.foldl (λh k=>if h<oI (n+1) k then oI (n+1) k else h) 0)+1
def lJ{α:Type}(q:α->α->Bool):List α->List α->Bool
|[],[]=>true
|x::a,y::b=>q x y&&lJ q a b
|_,_=>false
mutual
def ky:gq->gq->Bool
|.mk k n s l,u=>decide (k=u.kind)&&(decide (n=u.name)&&(decide (s=u.names)&&qX l u.kids))
def qX:List gq->List gq->Bool
|[],[]=>true
|t::l,u::r=>ky t u&&qX l r
|[],_::_=>false
|_::_,[]=>false
end
def bT(k:Int):gq:=.mk k (bs []) [] []
def iN(t:gq):Int:=if t.kind<1\/6<t.kind then -1 else t.kind-1
def ET(a b:fI):Bool:=Op.bytesLess a.data.toList b.data.toList
def jg(s:fI):List fI->Nat
|[]=>0
|n::l=>if ET n s=true then jg s l+1 else 0
def kK:List fI->List gq->List fI->List gq->(List fI × List gq) × Bool
|s::ss,t::ts,ns,ks=>
 if nG s=false\/ns[jg s ns]?=some s then((ns,ks),false)else kK ss ts (ns.take (jg s ns)++s::ns.drop (jg s ns)) (ks.take (jg s ns)++t::ks.drop (jg s ns))
|_,_,ns,ks=>((ns,ks),true)
def yg(ns:List fI)(ts:List gq):gq × Bool:=
 if ns.length≠ts.length\/16<ns.length then(.mk 5 (bs []) [] [],false)else(.mk 5 (bs []) (kK ns ts [] []).1.1 (kK ns ts [] []).1.2,(kK ns ts [] []).2)
def iy(k:gq):List gq:=if k.kind=7 then k.kids else [k]
def jh(tag:Int):List gq->Bool->List gq->(Bool × List gq) × Bool
|[],had,ks=>((had,ks),true)
| x::l,had,ks=>
 if x.kind=0 then((had,ks),false)else if iN x≠tag then jh tag l had ks else
  let ks':=if had then ks else ks++[x]
  if ky x (ks'.getLastD noT)=true then jh tag l true ks' else((true,ks'),false)
def qY(all:List gq):List Int->List gq->List gq × Bool
|[],ks=>(ks,true)
|tag::l,ks=>if(jh tag all false ks).2=true then qY all l (jh tag all false ks).1.2 else((jh tag all false ks).1.2,false)
def zV(kids:List gq):gq × Bool:=
 let r:=qY (kids.flatMap iy) [0,1,2,3,4,5] []
 if r.2=true then(match r.1 with
  |[t]=>(t,true)
  |l=>(.mk 7 (bs []) [] l,decide (0<l.length)))
 else(.mk 7 (bs []) [] r.1,false)
def oO(k:Int)(s:List fI)(l:List gq):gq × Bool:=
 if k=5 then yg s l else if k=6 then(.mk 6 (bs []) [] l,decide (l.length=2))else zV l
mutual
def lh:gq->gq × Bool
|.mk k n s l=>if 5<=k/\k<=7 then(if(kV l).2=true then oO k s (kV l).1 else(noT,false))else if 0<=k/\k<=4 then(bT k,true)else(noT,false)
def kV:List gq->List gq × Bool
|[]=>([],true)
|t::l=>if(lh t).2=true then((lh t).1::(kV l).1,(kV l).2)else([],false)
end
def mQ(t:gq):gq × Int:=if 16<oI 17 t\/200<nX t 201 then(noT,9)else if(lh t).2=true then((lh t).1,0)else(noT,9)
mutual
def sP:gq->Bool->fI
| .mk k n s l,br=>
 if k=0 then bs [97,110,121]else if k=1 then bs [110,117,108,108]else if k=2 then bs [98,111,111,108]else if k=3 then bs [105,110,116]else if k=4 then bs [115,116,114]
 else if k=5 then bs [123]++yD s l (bs []) 0++bs [125]
 else if k=6 then(match l with
  |a::b::_=>if br=true then bs [40]++(sP a true++bs [32,45,62,32]++sP b false)++bs [41]else sP a true++bs [32,45,62,32]++sP b false
  |_=>bs [])
 else zW l (bs []) 0
def yD:List fI->List gq->fI->Nat->fI
|s::ss,t::ts,out,i=>yD ss ts ((if 0<i then out++bs [44,32]else out)++s++bs [58,32]++sP t false) (i+1)
|_,_,out,_=>out
def zW:List gq->fI->Nat->fI
|t::ts,out,i=>zW ts ((if 0<i then out++bs [32,124,32]else out)++sP t true) (i+1)
|[],out,_=>out
end
def iH(t:gq):Bool:=decide ((mQ t).2=0)&&ky (mQ t).1 t
def yE(t:gq):fI:=if iH t=true then sP t false else bs []
structure ik where
 tag:Int
 opn:Bool
 t:gq
def ik.enc(p:ik):List D:=.int .i64 p.tag::.bool p.opn::p.t.enc
def JC:ik:=⟨0,false,noT⟩
def kF(t:gq):List ik:=
 if t.kind=0 then [⟨0,false,bT 1⟩,⟨1,false,bT 2⟩,⟨2,false,bT 3⟩,⟨3,false,bT 4⟩,⟨4,true,bT 5⟩,⟨5,false,.mk 6 (bs []) [] [noT,noT]⟩]
 else if t.kind≠7 then [⟨iN t,false,t⟩]else t.kids.map λk=>⟨iN k,false,k⟩
def jv(l:List ik)(tag:Int):ik × Bool:=match l.find? λp=>decide (p.tag=tag)with
|some p=>(p,true)
|none=>(JC,false)
def oJ:List fI->List gq->fI->gq × Bool
|n::ns,k::ks,s=>if n=s then(k,true)else oJ ns ks s
|_,_,_=>(noT,false)
def je(t:gq)(s:fI):gq × Bool:=oJ t.names t.kids s
def A9(rc:gq->gq->Bool)(m:gq):List fI->List gq->Bool
|s::ss,k::ks=>(je m s).2&&(rc (je m s).1 k&&A9 rc m ss ks)
|_,_=>true
def jU(t:gq):gq:=t.kids.getD 0 noT
def jV(t:gq):gq:=t.kids.getD 1 noT
def vR (loose:Bool):Nat->gq->gq->Bool
|0,_,_=>false
| n+1,a,b=>
 if a.kind=0\/b.kind=0 then loose||decide (a.kind=b.kind)else
  (kF a).all λp=>
   let q:=jv (kF b) p.tag
   q.2&&(A9 (vR loose n) p.t q.1.t.names q.1.t.kids&&(!decide (q.1.tag=5)||(vR loose n (jU q.1.t) (jU p.t)&&vR loose n (jV p.t) (jV q.1.t))))
mutual
def jD:gq->Nat
|.mk _ _ _ l=>jk l+1
def jk:List gq->Nat
|[]=>0
|t::l=>max (jD t) (jk l)
end
def qj(loose:Bool)(a b:gq):Bool:=vR loose (jD a+jD b) a b
def pV(a b:gq):Bool:=iH a&&(iH b&&qj false a b)
def Aa(a b:gq):Bool:=iH a&&(iH b&&qj true a b)
def zX(a b:gq):List Int->List gq->Option (List gq)
|[],l=>some l
| tag::r,l=>
 let m:=jv (kF a) tag;let n:=jv (kF b) tag
 if m.2=true/\n.2=true then
  (if qj false m.1.t n.1.t=true then zX a b r (l++[n.1.t])else if qj false n.1.t m.1.t=true then zX a b r (l++[m.1.t])else none)
 else if m.2=true then zX a b r (l++[m.1.t])else if n.2=true then zX a b r (l++[n.1.t])else zX a b r l
def yh(a b:gq):gq:=
 if pV a b=true then b else if pV b a=true then a
 else if iH a=false\/iH b=false\/a.kind=0\/b.kind=0 then noT
 else match zX a b [0,1,2,3,4,5] []with
  |none=>noT
  |some l=>if(mQ (.mk 7 (bs []) [] l)).2=0 then(mQ (.mk 7 (bs []) [] l)).1 else noT
def vS(t:gq)(tag:Int):gq × gq:=
 if iH t=false\/tag<0\/6<=tag then(t,t)
 else if t.kind=0 then(if tag=5 then(t,t)else(bT (1+tag),t))
 else if(jv (kF t) tag).2=false then(t,t)
 else if t.kind≠7 then(t,t)
 else match t.kids.filter λk=>decide (iN k≠tag)with
  |[r]=>((jv (kF t) tag).1.t,r)
  |l=>((jv (kF t) tag).1.t,.mk 7 (bs []) [] l)
def fi{α:Type}(q:α->Bool):Nat->List α->Int
|_,[]=> -1
|j,x::l=>if q x=true then j else fi q (j+1) l
def kD(names:List fI)(s:fI):Int:=fi (λn=>decide (n=s)) 0 names
structure jI where
 name:fI
 module:Int
 decl:Int
def jI.enc(e:jI):List D:=[.str e.name,.int .i64 e.module,.int .i64 e.decl]
def Ab:jI:=⟨bs [],0,0⟩
structure iV where
 names:List fI
 mods:List jZ
 scopes:List (List jI)
 main:jI
def iV.enc(l:iV):List D:=[.sl false 1 (encS l.names),.sl false 2 (l.mods.map jZ.enc),.sl false 1 (l.scopes.map λs=>[.sl false 3 (s.map jI.enc)])]++l.main.enc
def Bg:iV:=⟨[],[],[],Ab⟩
def rM:List (fI × fI)->Nat->List fI->List jZ->List iY->(List fI × List jZ) × List iY
|[],_,ns,ms,bad=>((ns,ms),bad)
|s::l,i,ns,ms,bad=>
 let m:=qW s.2
 rM l (i+1) (ns++[s.1]) (ms++[m.1]) (if nG s.1=false then bad++[⟨i,1,1,10⟩]else if 0<=kD ns s.1 then bad++[⟨i,1,1,8⟩]else if m.2.e≠0 then bad++[⟨i,m.2.line,m.2.col,m.2.e⟩]else bad)
def u6(l:List (fI × fI)):(List fI × List jZ) × List iY:=
 if 16<l.length then(([],[]),[⟨16,1,1,19⟩])else rM l 0 [] [] []
def ql:List jI->fI->jI × Bool
|[],_=>(Ab,false)
|e::l,s=>if e.name=s then(e,true)else ql l s
def uE(m:jZ)(s:fI):Int:=fi (λd:jd=>decide (d.name=s)) 0 m.decs
def Bh:jd:=⟨bs [],false,[],bs [],[],qh,0,0⟩
def oo(M:jZ)(m i:Int)(x:jr):List fI->List jI->List iY->List jI × List iY
|[],sc,bad=>(sc,bad)
|s::l,sc,bad=>
 if uE M s<0\/(M.decs.getD (uE M s).toNat Bh).exp=false then oo M m i x l sc (bad++[⟨i,x.line,x.col,12⟩])
 else if(ql sc s).2=true then oo M m i x l sc (bad++[⟨i,x.line,x.col,8⟩])
 else oo M m i x l (sc++[⟨s,m,uE M s⟩]) bad
def yF(ns:List fI)(ms:List jZ)(i:Int)(x:jr)(sc:List jI):List jI × List iY:=
 if kD ns x.from_<0 then(sc,[⟨i,x.line,x.col,11⟩])else oo (ms.getD (kD ns x.from_).toNat om) (kD ns x.from_) i x x.names sc []
def zY(ns:List fI)(ms:List jZ)(i:Int):List jr->List jI->List iY->List jI × List iY
|[],sc,bad=>(sc,bad)
|x::l,sc,bad=>zY ns ms i l (yF ns ms i x sc).1 (bad++(yF ns ms i x sc).2)
def yj(i:Int):List jd->Nat->List jI->List iY->List jI × List iY
|[],_,sc,bad=>(sc,bad)
|d::l,k,sc,bad=>if(ql sc d.name).2=true then yj i l (k+1) sc (bad++[⟨i,d.line,d.col,8⟩])else yj i l (k+1) (sc++[⟨d.name,i,k⟩]) bad
def uz(ns:List fI)(ms:List jZ):List jZ->Nat->List (List jI)->List iY->List (List jI) × List iY
|[],_,all,bad=>(all,bad)
|m::l,i,all,bad=>
 let a:=zY ns ms i m.imps [] bad;let b:=yj i m.decs 0 a.1 a.2
 uz ns ms l (i+1) (all++[b.1]) b.2
def zZ(ns:List fI):List jr->List Bool->List Bool
|[],seen=>seen
|x::l,seen=>zZ ns l (if 0<=kD ns x.from_ then seen.set (kD ns x.from_).toNat true else seen)
def Ac(ns:List fI):List jZ->Nat->List Bool->List Bool
|[],_,seen=>seen
|m::l,i,seen=>Ac ns l (i+1) (if seen.getD i false=true then zZ ns m.imps seen else seen)
def F9(ns:List fI)(ms:List jZ):Nat->List Bool->List Bool
|0,seen=>seen
|n+1,seen=>F9 ns ms n (Ac ns ms 0 seen)
def EU(ns:List fI)(ms:List jZ)(f t:Nat):Bool:=(F9 ns ms ms.length ((List.replicate ms.length false).set f true)).getD t false
def z8(ns:List fI)(ms:List jZ)(i:Nat):List jr->List iY->List iY
|[],bad=>bad
|x::l,bad=>z8 ns ms i l (if 0<=kD ns x.from_/\EU ns ms (kD ns x.from_).toNat i=true then bad++[⟨i,x.line,x.col,13⟩]else bad)
def za(ns:List fI)(ms:List jZ):List jZ->Nat->List iY->List iY
|[],_,bad=>bad
|m::l,i,bad=>za ns ms l (i+1) (z8 ns ms i m.imps bad)
abbrev vT:=bs [109,97,105,110]
def yl(l:List (fI × fI)):iV × List iY:=
 let f:=u6 l
 if 0<f.2.length then(Bg,f.2)else
 let s:=uz f.1.1 f.1.2 f.1.2 0 [] []
 if 0<s.2.length then(Bg,s.2)else
 let t:=za f.1.1 f.1.2 f.1.2 0 []
 if 0<t.length then(Bg,t)else
 let i:=kD f.1.1 vT
 if i<0 then(Bg,[⟨0,1,1,14⟩])else
 let k:=uE (f.1.2.getD i.toNat om) vT
 if k<0 then(Bg,[⟨i,1,1,14⟩])else
 let d:=(f.1.2.getD i.toNat om).decs.getD k.toNat Bh
 if 0<d.vars.length then(Bg,[⟨i,d.line,d.col,14⟩])else
 (⟨f.1.1,f.1.2,s.1,⟨vT,i,k⟩⟩,[])
def ym:List fI->List gq->fI->Option gq
|v::vs,t::ts,s=>if v=s then some t else ym vs ts s
|_,_,_=>none
mutual
def tK(vars:List fI)(wth:List gq):gq->gq × Bool
| .mk k n s l=>
 if k=8 then(if 0<s.length\/0<l.length then(.mk k n s l,false)else match ym vars wth n with
  |some t=>(t,true)
  |none=>(.mk k n s l,false))
 else if(yn vars wth l).2=true then(.mk k n s (yn vars wth l).1,true)else(.mk k n s l,false)
def yn(vars:List fI)(wth:List gq):List gq->List gq × Bool
|[]=>([],true)
|t::l=>if(tK vars wth t).2=true then((tK vars wth t).1::(yn vars wth l).1,(yn vars wth l).2)else([],false)
end
def qo(t:gq)(vars:List fI)(wth:List gq):gq × Int:=
 if vars.length≠wth.length then(noT,1)else if 200<nX t 201\/16<oI 17 t then(noT,9)
 else if(tK vars wth t).2=true then mQ (tK vars wth t).1 else(noT,9)
def Fa:List (fI × gq)->List gq->List fI->List gq->Int
|v::vs,t::ts,names,had=>
 if iH t=false then 18
 else if v.2.kind≠0/\((qo v.2 names had).2≠0\/pV t (qo v.2 names had).1=false)then 18
 else Fa vs ts (names++[v.1]) (had++[t])
|_,_,_,_=>0
def EW(vars:List (fI × gq))(l:List gq):Int:=if vars.length≠l.length then 18 else Fa vars l [] []
structure kY where
 module:Int
 decl:Int
 types:List gq
def kY.enc(x:kY):List D:=[.int .i64 x.module,.int .i64 x.decl,.sl false 4 (x.types.map gq.enc)]
def Ad(a b:kY):Bool:=decide (a.module=b.module)&&(decide (a.decl=b.decl)&&lJ ky a.types b.types)
def kr(most:Int)(L:List kY)(x:kY):(Int × Int) × List kY:=
 if(x.types.all iH)=false then((0,9),L)
 else if 0<=fi (λy=>Ad y x) 0 L then((fi (λy=>Ad y x) 0 L,0),L)
 else if most<=L.length then((0,19),L)else((L.length,0),L++[x])
end Go.Gr
