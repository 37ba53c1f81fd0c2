/- Texts of ours, joined and written short by a program of ours. -/
import Derived.Test.YtlfjlokfciejnaaGreatDoorJ07
import Derived.Test.YtlfjlokfciejnaaGreatDoorJ06
set_option maxRecDepth 20000
set_option maxHeartbeats 4000000
set_option linter.all false
namespace Go.Gr
open Go.Abs Go.Proofs List
def encV(v:fC × Typ):List D:=.str v.1::v.2.enc
def Imp.enc(i:Imp):List D:=[.str i.from_,.sl false 1 (encS i.names),.int .i64 i.line,.int .i64 i.col]
def Dec.enc(d:Dec):List D:=[.str d.name,.bool d.exp,.sl false 5 (d.vars.map encV),.str d.param,.sl false 4 (d.types.map Typ.enc)]++d.body.enc++[.int .i64 d.line,.int .i64 d.col]
def Mdl.enc(m:Mdl):List D:=[.sl false 4 (m.imps.map Imp.enc),.sl false 15 (m.decs.map Dec.enc)]
@[simp] theorem zGi(v:fC × Typ):(encV v).length=5:=by simp[encV]
@[simp] theorem Imp.enc_length(v:Imp):v.enc.length=4:=rfl
@[simp] theorem Dec.enc_length(v:Dec):v.enc.length=15:=by simp[Dec.enc]
@[simp] theorem Mdl.enc_length(v:Mdl):v.enc.length=2:=rfl
theorem zrS(v:fC × Typ):D.erdL (encV v)=encV v:=by simp[encV]
theorem zrT:∀l:List (fC × Typ),D.erdE (l.map encV)=l.map encV
 |[]=>rfl
 |v::l=>by simp only[map_cons,D.erdE,zrS,zrT l]
@[simp] theorem zCe:∀a b:List D,D.erdL (a++b)=D.erdL a++D.erdL b
 |[],_=>rfl
 |x::a,b=>by simp only[cons_append,D.erdL,zCe a b]
@[simp] theorem zoJ:∀a b:List (List D),D.erdE (a++b)=D.erdE a++D.erdE b
 |[],_=>rfl
 |x::a,b=>by simp only[cons_append,D.erdE,zoJ a b]
attribute [simp] zrS zrT
@[simp] theorem Imp.erdL(v:Imp):D.erdL v.enc=v.enc:=by simp[Imp.enc]
@[simp] theorem Imp.erdE:∀l:List Imp,D.erdE (l.map Imp.enc)=l.map Imp.enc
 |[]=>rfl
 |v::l=>by simp only[map_cons,D.erdE,Imp.erdL,Imp.erdE l]
@[simp] theorem zG9(a b c d e:AC)(T:Typ):splice [a,b,c,d,e] 1 (T.enc.map AC.d)=a::T.enc.map .d:=by rw[T.enc_eq];try rfl
def zoK:∀v:List (List D),(D.erdE v).length=v.length
 |[]=>rfl
 |d::v=>by simp only[D.erdE,length_cons,zoK v]
section
variable {L:List Tok}
def zkD(hL:OkL L):∀(n:Nat) (l:List fC),Tame L (zcF L n l)
 |0,l,p,hp=>Tm.refl hp
 |n+1,l,p,hp=>by
  have h1:=zaR hL hp
  have h2:=h1.trans (zai hL h1.lt (s:=bs [44]))
  rw[zcF]
  split
  ·exact h2.trans (zkD hL n _ _ h2.lt)
  ·exact h2
def zdH(hL:OkL L):Tame L (kiP L):=zrr hL 102
def znk(hL:OkL L):Tame L (exP L):=(zqw hL (zdH hL) 102).1
def zDT(hL:OkL L)(hl:L.length<=10000):KiOk L 0 (kiP L):=fun r hr hd=>zoI hL hl 102 r hr (by omega) (by omega)
def zGq(hL:OkL L)(hl:L.length<=10000):NoOk L 126 0 (exP L):=(zBk hL hl 102 0 (by omega) (by omega)).1
def bndP(L:List Tok)(p:PS):Typ × PS:=if(zad L (bs [60,58]) p).1=true then kiP L (zad L (bs [60,58]) p).2 else(noT,p)
def zFw(hL:OkL L):Tame L (bndP L):=fun p hp=>by
 unfold bndP
 split
 ·have h1:=zai hL hp (s:=bs [60,58])
  exact h1.trans (zdH hL _ h1.lt)
 ·exact Tm.refl hp
def ztQ(n:Nat)(l:List (fC × Typ))(p:PS):zgo L (n+1) l p=if(zad L (bs [44]) (bndP L (zaw L p).2).2).1=true then zgo L n (l++[((zaw L p).1,(bndP L (zaw L p).2).1)]) (zad L (bs [44]) (bndP L (zaw L p).2).2).2 else(l++[((zaw L p).1,(bndP L (zaw L p).2).1)],zaA L (bs [93]) (zad L (bs [44]) (bndP L (zaw L p).2).2).2):=by
 rw[zgo];try rfl
def ztR(hL:OkL L):∀(n:Nat) (l:List (fC × Typ)),Tame L (zgo L n l)
 |0,l,p,hp=>Tm.refl hp
 |n+1,l,p,hp=>by
  have h1:=zaR hL hp
  have h2:=h1.trans (zFw hL _ h1.lt)
  have h3:=h2.trans (zai hL h2.lt (s:=bs [44]))
  rw[ztQ]
  split
  ·exact h3.trans (ztR hL n _ _ h3.lt)
  ·exact h3.trans (zam hL h3.lt)
def znl(hL:OkL L):Tame L (zgp L):=fun p hp=>by
 unfold zgp
 split
 ·have h1:=zai hL hp (s:=bs [91])
  exact h1.trans (ztR hL _ _ _ h1.lt)
 ·exact Tm.refl hp
def zjM(hL:OkL L):∀(n:Nat) (l:List Imp),Tame L (ze0 L n l)
 |0,l,p,hp=>Tm.refl hp
 | n+1,l,p,hp=>by
  rw[ze0]
  split
  ·have h1:=zai hL hp (s:=zcZ)
   have h2:=h1.trans (zaR hL h1.lt)
   have h3:=h2.trans (zam hL h2.lt (s:=bs [58]))
   have h4:=h3.trans (zkD hL (L.length+1) [] _ h3.lt)
   have h5:=h4.trans (zam hL h4.lt (s:=bs [59]))
   exact h5.trans (zjM hL n _ _ h5.lt)
  ·exact Tm.refl hp
def ztS(hL:OkL L):Tame L (decP L):=fun p hp=>by
 have h1:=zai hL hp (s:=zeZ)
 have h2:=h1.trans (zam hL h1.lt (s:=wFn))
 have h3:=h2.trans (zaR hL h2.lt)
 have h4:=h3.trans (znl hL _ h3.lt)
 have h5:=h4.trans (zfJ hL (zdH hL) _ h4.lt)
 have h6:=h5.trans (zam hL h5.lt (s:=bs [61]))
 have h7:=h6.trans (znk hL _ h6.lt)
 exact h7.trans (zam hL h7.lt (s:=bs [59]))
def znm(hL:OkL L):∀(n:Nat) (l:List Dec),Tame L (zcC L n l)
 |0,l,p,hp=>Tm.refl hp
 | n+1,l,p,hp=>by
  rw[zcC]
  split
  ·have h1:=ztS hL _ hp
   exact h1.trans (znm hL n _ _ h1.lt)
  ·exact Tm.refl hp
def zz7(hL:OkL L):Tame L (zfL L):=fun p hp=>by
 have h1:=zjM hL (L.length+1) [] _ hp
 exact h1.trans (znm hL (L.length+1) [] _ h1.lt)
def zz8(hL:OkL L)(hl:L.length<=10000)(p:PS)(h:p.at'<L.length):
  MCall Pg 123 [.c (.ptr 0 0)] [psB L p] (.c (.d (.sl false 1 (encS (zcF L (L.length+1) [] p).1)))) [psB L (zcF L (L.length+1) [] p).2]:=by
 refine zww MS0 fun ts hts ok hb c hN hp=>?_
 obtain⟨t,rfl⟩:=za6 hts
 obtain⟨F0,hF0⟩:∃F0,zcF L (L.length+1) [] p=F0:=⟨_,rfl⟩
 rw[hF0]
 unfold zok
 simp
 refine fQ [.t 3] ?_
 simp
 refine fK zaa hp (fun x:Nat × List fC × PS=>zcF L x.1 x.2.1 x.2.2=F0/\Tm L p x.2.2/\L.length<x.1+x.2.2.at'/\x.2.1.length<=x.2.2.at')
  (fun x=>[(0,.c (.ptr 0 0)),(3,.c (.msl 1 2 0 x.2.1.length))])
  (fun x=>[psB L x.2.2,.pin t 0,.arr 1 ((encS x.2.1).map (·.map .d))])
  (fun x=>x.1) (L.length+1,[],p) [0,1,2] ⟨hF0,Tm.refl h,by simp only;omega,by simp⟩ (by simp) fun⟨n,l,q⟩ ⟨i1,i2,i3,i4⟩=>?_
 unfold zlG
 simp only at i1 i2 i4
 have i3:L.length<n+q.at':=i3
 have hlt:=i2.lt
 obtain⟨n,rfl⟩:∃m,n=m+1:=⟨n-1,by omega⟩
 rw[zcF]at i1
 have e1:=zaR hL hlt
 have le1:=e1.le
 have a1:=zcq q hlt hl
 have a2:=zaJ (bs [44]) _ e1.lt hl
 generalize (zaw L q).1=s at*
 generalize (zaw L q).2=q1 at*
 simp
 refine gK [0] a1 ?_
 simp
 refine⟨by omega,?_⟩
 refine gK [0] a2 ?_
 by_cases q2:(zad L (bs [44]) q1).1=true
 ·rw[aC q2]at i1
  have hat:=(take_at q2).1
  have e2:=e1.trans (zai hL e1.lt (s:=bs [44]))
  generalize (zad L (bs [44]) q1).2=q3 at*
  simp[q2]
  refine fD (n,l++[s],q3) [0,1,3] ⟨i1,i2.trans e2,by simp only;omega,by simp;omega⟩ (by simp) ?_
  simp
  exact aF (by simp)
 ·rw[aB q2,zaK q2]at i1
  rw[zaK q2,<-i1]
  rw[aK]at q2
  have z:take l.length (List.map (fun x=>List.map AC.d x) (encS l))=List.map (fun x=>List.map AC.d x) (encS l):=aF (by simp)
  have z2:take (l.length+1) (encS l++[[.str s]])=encS l++[[.str s]]:=aF (by simp)
  simp[q2]
  refine fP [3] ?_
  simp[zah,z]
  exact fJ [0] [1] (by simp[zah,z,z2])
def zCf(hL:OkL L)(hl:L.length<=10000)(p:PS)(h:p.at'<L.length)(hd:p.deep=0):
  MCall Pg 124 [.c (.ptr 0 0)] [psB L p] (.c (.d (.sl false 5 ((zgp L p).1.map encV)))) [psB L (zgp L p).2]:=by
 refine zyP MS0 fun ts hts ok hb c hN hp=>?_
 obtain⟨t,rfl⟩:=za6 hts
 have c1:=zaJ (bs [91]) p h hl
 unfold zqd zgp
 simp
 refine gK [0] c1 ?_
 by_cases q0:(zad L (bs [91]) p).1=true
 ·rw[aC q0]
  have t1:=zai hL h (s:=bs [91])
  obtain⟨F0,hF0⟩:∃F0,zgo L (L.length+1) [] (zad L (bs [91]) p).2=F0:=⟨_,rfl⟩
  rw[hF0]
  generalize (zad L (bs [91]) p).2=p1 at*
  have hd1:p1.deep=0:=by rw[t1.deep,hd]
  simp[q0]
  refine fQ [.t 3] ?_
  simp
  refine fK zaa hp (fun x:Nat × List (fC × Typ) × List (List D) × PS=>zgo L x.1 x.2.1 x.2.2.2=F0/\Tm L p1 x.2.2.2/\L.length<x.1+x.2.2.2.at'/\x.2.1.length<=x.2.2.2.at'/\D.erdE x.2.2.1=x.2.1.map encV)
   (fun x=>[(0,.c (.ptr 0 0)),(3,.c (.msl 5 2 0 x.2.2.1.length))])
   (fun x=>[psB L x.2.2.2,.pin t 0,.arr 5 (x.2.2.1.map (·.map .d))])
   (fun x=>x.1) (L.length+1,[],[],p1) [0,1,2] ⟨hF0,Tm.refl t1.lt,by simp only;omega,by simp,rfl⟩ (by simp) fun⟨n,l,v,q⟩ ⟨i1,i2,i3,i4,i5⟩=>?_
  unfold zmA
  simp only at i1 i2 i4 i5
  have i3:L.length<n+q.at':=i3
  have hvl:v.length=l.length:=by rw[<-zoK,i5,aU]
  have hlt:=i2.lt
  obtain⟨n,rfl⟩:∃m,n=m+1:=⟨n-1,by omega⟩
  rw[ztQ]at i1
  have e1:=zaR hL hlt
  have le1:=e1.le
  have a1:=zcq q hlt hl
  have a2:=zaJ (bs [60,58]) _ e1.lt hl
  generalize (zaw L q).1=s at*
  generalize (zaw L q).2=q1 at*
  simp
  refine gK [0] a1 ?_
  simp
  refine gK [0] a2 ?_
  unfold bndP at i1
  by_cases b1:(zad L (bs [60,58]) q1).1=true
  ·rw[aC b1]at i1
   have e2:=e1.trans (zai hL e1.lt (s:=bs [60,58]))
   have e3:=e2.trans (zdH hL _ e2.lt)
   have hat:=(take_at b1).1
   have le3:=(zdH hL _ e2.lt).le
   have a3:=zDT hL hl _ e2.lt (by rw[e2.deep,i2.deep,hd1])
   have a4:=zaJ (bs [44]) _ e3.lt hl
   generalize (zad L (bs [60,58]) q1).2=q2 at*
   generalize (kiP L q2).1=T at*
   generalize (kiP L q2).2=q3 at*
   simp[b1]
   refine gK [0] a3 ?_
   simp
   refine⟨by omega,?_⟩
   refine gK [0] a4 ?_
   by_cases q2:(zad L (bs [44]) q3).1=true
   ·rw[aC q2]at i1
    have hat:=(take_at q2).1
    have e4:=e3.trans (zai hL e3.lt (s:=bs [44]))
    generalize (zad L (bs [44]) q3).2=q4 at*
    simp[q2]
    refine fD (n,l++[(s,T)],v++[.str s::T.enc],q4) [0,1,4] ⟨i1,i2.trans e4,by simp only;omega,by simp;omega,by simp[i5,encV]⟩ (by simp) ?_
    simp
    exact aF (by simp)
   ·rw[aB q2,zaK q2]at i1
    rw[zaK q2,<-i1]
    rw[aK]at q2
    have a3:=zaT hL (bs [93]) _ e3.lt hl
    have z:take v.length (List.map (fun x=>List.map AC.d x) v)=List.map (fun x=>List.map AC.d x) v:=aF (by simp)
    have z2:take (v.length+1) (v++[.str s::T.enc])=v++[.str s::T.enc]:=aF (by simp)
    simp[q2]
    refine fP [4] ?_
    simp[zah,z]
    refine gK [0] a3 ?_
    simp[zah,z]
    exact fG [0] [1] (by simp[zah,z,z2,i5,encV])
  ·rw[aB b1]at i1
   rw[zaK b1]
   rw[aK]at b1
   have a4:=zaJ (bs [44]) _ e1.lt hl
   simp[b1]
   refine⟨by omega,?_⟩
   refine gK [0] a4 ?_
   by_cases q2:(zad L (bs [44]) q1).1=true
   ·rw[aC q2]at i1
    have hat:=(take_at q2).1
    have e4:=e1.trans (zai hL e1.lt (s:=bs [44]))
    generalize (zad L (bs [44]) q1).2=q4 at*
    simp[q2]
    refine fD (n,l++[(s,noT)],v++[[.str s,.int .i64 0,.str (bs []),.sl true 1 [],.sl true 4 []]],q4) [0,1,4] ⟨i1,i2.trans e4,by simp only;omega,by simp;omega,by simp[i5,encV,noT,Typ.enc,Typ.encs,encS]⟩ (by simp) ?_
    simp
    exact aF (by simp)
   ·rw[aB q2,zaK q2]at i1
    rw[zaK q2,<-i1]
    rw[aK]at q2
    have a3:=zaT hL (bs [93]) _ e1.lt hl
    have z:take v.length (List.map (fun x=>List.map AC.d x) v)=List.map (fun x=>List.map AC.d x) v:=aF (by simp)
    have z2:take (v.length+1) (v++[[.str s,.int .i64 0,.str (bs []),.sl true 1 [],.sl true 4 []]])=v++[[.str s,.int .i64 0,.str (bs []),.sl true 1 [],.sl true 4 []]]:=aF (by simp)
    simp[q2]
    refine fP [4] ?_
    simp[zah,z]
    refine gK [0] a3 ?_
    simp[zah,z]
    exact fG [0] [1] (by simp[zah,z,z2,i5,encV,noT,Typ.enc,Typ.encs,encS])
 ·rw[aB q0,zaK q0]
  rw[aK]at q0
  simp[q0]
  exact fG [0] [1] (by simp)
end
end Go.Gr
namespace Go.Gr
open Go.Abs Go.Proofs List
def zfI(c:Int):PCall Pg 72 [.one (.int .u8 c)] (.one (.bool (letV c))):=by
 refine zuo (by simp) fun o c' hN hp=>?_
 unfold zlC letV
 by_cases h1:97<=c<;>by_cases h2:c<=122<;>by_cases h3:65<=c<;>by_cases h4:c<=90<;>simp[h1,h2,h3,h4]<;>(try (intros;omega))<;>(try omega)
def zgC(c:Int):PCall Pg 71 [.one (.int .u8 c)] (.one (.bool (digV c))):=by
 refine zwq (by simp) fun o c' hN hp=>?_
 unfold zmr digV
 by_cases h1:48<=c<;>by_cases h2:c<=57<;>simp[h1,h2]<;>(try omega)
def zo0:PCall Pg 118 [] (.one (.sl false 1 (encS ziT))):=by
 refine zwp (by simp) fun o c' hN hp=>?_
 unfold zmq
 simp[ziT,encS]
theorem zrB(s:fC):PCall Pg 70 [.one (.str s)] (.one (.bool (zk4 s))):=by
 refine zyA (by simp) fun o c' hN hp=>?_
 unfold zob zk4
 have hl:ziT.length=25:=rfl
 obtain⟨l,hwl⟩:∃l,ziT=l:=⟨_,rfl⟩
 rw[hwl]at hl⊢
 obtain⟨R,hR⟩:∃R,(l.any fun w=>decide (w=s))=R:=⟨_,rfl⟩
 rw[hR]
 have hw:=zo0
 rw[hwl]at hw
 simp
 refine gN hw ?_
 simp
 refine fK zaa hp (fun j:Nat=>j<=l.length/\(l.drop j).any (fun w=>decide (w=s))=R) (fun j=>[(4,.c (.d (.int .i64 j))),(3,.c (.d (.sl false 1 (encS l)))),(0,.c (.d (.str s)))]) (fun _=>[]) (fun j=>l.length-j) 0 [] ⟨by simp,by simpa using hR⟩ (by simp) fun j ⟨h1,h2⟩=>?_
 unfold zlB
 simp
 apply gI<;>intro h
 ·have hj:j<l.length:=by simpa using h
  rw[aG hj,any_cons]at h2
  simp[aA hj]
  apply gI<;>intro h
  ·rw[h]at h2
   simp[<-h2]
  ·rw[h]at h2
   refine fD (j+1) [] ⟨by omega,h2⟩ (by omega) ?_
   simp
   exact wI
 ·have hj:j=l.length:=by simp at h;omega
  subst hj
  rw[aO,any_nil]at h2
  simp[<-h2]
def zGe{a b:List UInt8}(h:bA a=bA b):a=b:=by
 have:(bA a).data.toList=(bA b).data.toList:=by rw[h]
 simpa[bA]using this
def zrC(s:fC):bA s.data.toList=s:=by
 cases s;simp[bA]
def zqT(s:fC)(a b:Nat):s.extract a b=bA ((s.data.toList.drop a).take (b-a)):=by
 rw[<-zrC (s.extract a b)]
 congr 1
 simp[ByteArray.data_extract,Array.toList_extract]
theorem zns(s:fC):PCall Pg 45 [.one (.str s)] (.one (.bool (zbg s))):=by
 refine zyB (by simp) fun o c' hN hp=>?_
 have hs:s.size<=zaf:=by have:=o.1;simpa only[DV.ok,D.ok]using this
 unfold zaf at hs
 have hlen:=zb3 s
 obtain⟨R,hR⟩:∃R,zbg s=R:=⟨_,rfl⟩
 rw[hR]
 unfold zbg at hR
 unfold zoc
 by_cases h0:s.size=0
 ·have hL:s.data.toList=[]:=aT.1 (by omega)
  rw[hL]at hR
  simp only at hR
  subst hR
  simp
  refine gN (zrB s) ?_
  simp[h0]
 have hj0:0<s.data.toList.length:=by omega
 have hb0:=zdK hj0
 have hR:(decide (s.size<=32)&&(!zk4 s&&(!digU s.data.toList[0]&&s.data.toList.all fun b=>letU b||digU b)))=R:=by
  rw[<-hR]
  revert hj0
  cases s.data.toList with
  |nil=>intro h;simp at h
  |cons c l=>intro h _;rfl
 simp
 refine gN (zrB s) ?_
 have h0':¬(s.size:Int)=0:=by omega
 by_cases h32:s.size<=32
 rotate_left
 ·have h32':(32:Int)<s.size:=by omega
  simp[h32]at hR
  simp[h0,h0',h32',hR]
 have h32':¬(32:Int)<s.size:=by omega
 simp only[h32,decide_true,Bool.true_and]at hR
 generalize zk4 s=wv at*
 cases wv with
 |true=>
  simp at hR
  simp[h0,h0',h32',hR]
 | false=>
  simp only[Bool.not_false,Bool.true_and]at hR
  generalize s.data.toList[0]=b0 at*
  have hd:digU b0=digV b0.toNat:=rfl
  simp[h0,h0',h32',hb0]
  refine gN (zgC b0.toNat) ?_
  rw[<-hd]
  generalize digU b0=d0 at*
  cases d0 with
  |true=>
   simp at hR
   simp[hR]
  | false=>
   simp only[Bool.not_false,Bool.true_and]at hR
   simp
   refine fK zaa hp (fun j:Nat=>j<=s.size/\((s.data.toList.drop j).all fun b=>letU b||digU b)=R) (fun j=>[(4,.c (.d (.int .i64 j))),(0,.c (.d (.str s)))]) (fun _=>[]) (fun j=>s.size-j) 0 [] ⟨by simp,by simpa using hR⟩ (by simp) fun j ⟨h1,h2⟩=>?_
   unfold zlD
   simp
   apply gI<;>intro h
   ·have hj:j<s.size:=by simpa using h
    have hj':j<s.data.toList.length:=by omega
    rw[aG hj',all_cons]at h2
    have hb:=zdK hj'
    generalize s.data.toList[j]=b at h2 hb
    have hd:digU b=digV b.toNat:=rfl
    have hle:letU b=letV b.toNat:=rfl
    simp[hb]
    refine gN (zfI b.toNat) ?_
    rw[<-hle]
    simp[hb]
    refine gN (zgC b.toNat) ?_
    rw[<-hd]
    generalize letU b=x1 at*
    generalize digU b=x2 at*
    cases x1<;>cases x2
    ·simp at h2
     simp[h2]
    all_goals
     simp only[Bool.or_true,eZ,Bool.true_and,Bool.or_self]at h2
     simp
     refine fD (j+1) [] ⟨by omega,h2⟩ (by omega) ?_
     simp
     exact wI
   ·have hj:j=s.size:=by simp at h;omega
    subst hj
    rw[bG (by omega),all_nil]at h2
    simp[<-h2]
def twoB:List fC:=[bs [45,62],bs [61,62],bs [60,58],bs [60,60],bs [60,61],bs [62,62],bs [61,61],bs [43,43]]
def oneB:fC:=bs [40,41,123,125,91,93,44,58,59,61,43,45,42,47,37,38,94,60,124,46]
def zE7:twoB=twoL.map bA:=by decide
def zrD:oneB.data.toList=oneL:=by decide
def zE8(s:fC):(twoL.any fun t=>decide (s.data.toList.take 2=t))=(twoB.any fun t=>decide (s.extract 0 2=t)):=by
 rw[zE7,List.any_map]
 congr 1
 funext t
 simp only[Function.comp]
 rw[zqT]
 simp only[drop_zero,di]
 by_cases h:s.data.toList.take 2=t
 ·simp[h]
 ·have:¬bA (s.data.toList.take 2)=bA t:=fun e=>h (zGe e)
  simp[h,this]
def zBx{s:fC}(h:s.size<2):(twoL.any fun t=>decide (s.data.toList.take 2=t))=false:=by
 have hlen:=zb3 s
 rw[dE]
 intro t ht
 have h2:t.length=2:=by
  revert t;decide
 simp only[aI]
 intro e
 have:=dL length e
 rw[bI]at this
 omega
theorem zE9(s:fC)(hpos:0<s.size):PCall Pg 178 [.one (.str s)] (.one (.int .i64 (zgP s.data.toList))):=by
 refine zyC (by simp) fun o c' hN hp=>?_
 have hs:s.size<=zaf:=by have:=o.1;simpa only[DV.ok,D.ok]using this
 unfold zaf at hs
 have hlen:=zb3 s
 obtain⟨R,hR⟩:∃R,zgP s.data.toList=R:=⟨_,rfl⟩
 rw[hR]
 have hj0:0<s.data.toList.length:=by omega
 have hb0:=zdK hj0
 have hR:(if(twoL.any fun t=>decide (s.data.toList.take 2=t))=true then 2 else if s.data.toList[0]∈oneL then 1 else 0)=R:=by
  rw[<-hR]
  revert hj0
  unfold zgP
  cases s.data.toList with
  |nil=>intro h;simp at h
  |cons c l=>intro h _;rfl
 generalize s.data.toList[0]=b0 at*
 have k2:∀{Q:Exit->St->Prop} {S:St} {g} {ms:List Nat} (h0:Match ms S [(6,.c (.d (.int .i64 0))),(5,.c (.d (.str oneB))),(0,.c (.d (.str s)))] []),
   (b0∈oneL->∀T M n,Abs.look T 2=.c (.d (.int .i64 1))->Q .ret ⟨T,M,n⟩)->(b0∉oneL->∀T M n,Q (.exit 2) ⟨T,M,n⟩)->lw_ Pg c' zht Q g S:=by
  intro Q S g ms h0 hy hn
  refine fK zaa hp (fun j:Nat=>j<=oneL.length/\(b0∈oneL.drop j↔b0∈oneL)) (fun j=>[(6,.c (.d (.int .i64 j))),(5,.c (.d (.str oneB))),(0,.c (.d (.str s)))]) (fun _=>[]) (fun j=>oneL.length-j) 0 ms ⟨by simp,by simp⟩ h0 fun j ⟨h1,h2⟩=>?_
  have hsz:oneB.size=oneL.length:=by rw[<-zb3,zrD]
  unfold zht
  simp[hsz]
  apply gI<;>intro h
  ·have hj:j<oneL.length:=by simpa using h
   have hb:oneB.data[j]?=some oneL[j]:=by
    have:=zdK (s:=oneB) (j:=j) (by rw[zrD];exact hj)
    rw[this];simp only[zrD]
   rw[aG hj,aM]at h2
   generalize oneL[j]=b at*
   simp[hb0,hb]
   refine⟨by decide,?_⟩
   by_cases e:b0=b
   ·subst e
    simp
    exact hy (h2.1 (.inl rfl)) _ _ _ (by simp)
   ·have e':¬(b0.toNat:Int)=b.toNat:=fun q=>e (dW.mp (by omega))
    have e'':¬b0.toNat=b.toNat:=fun q=>e (dW.mp (by omega))
    simp[e',e'',e]
    refine fD (j+1) [] ⟨by omega,⟨fun z=>h2.1 (.inr z),fun z=>(h2.2 z).resolve_left e⟩⟩ (by omega) ?_
    simp
    exact wrap_i64 (by have:oneL.length=20:=rfl;omega) (by have:oneL.length=20:=rfl;omega)
  ·have hj:j=oneL.length:=by simp at h;omega
   subst hj
   rw[aO]at h2
   exact hn (fun z=>by simpa using h2.2 z) _ _ _
 unfold zod
 simp
 by_cases h2s:s.size<2
 ·have hz:=zBx h2s
  rw[hz]at hR
  simp only[ae,if_false]at hR
  have h2':¬(2:Int)<=s.size:=by omega
  refine fK zaa hp (fun j:Nat=>j<=twoB.length) (fun j=>[(4,.c (.d (.int .i64 j))),(3,.c (.d (.sl true 1 (encS twoB)))),(0,.c (.d (.str s)))]) (fun _=>[]) (fun j=>twoB.length-j) 0 [] (by simp) (by simp[encS,twoB]) fun j h1=>?_
  unfold zhs
  simp
  apply gI<;>intro h
  ·have hj:j<twoB.length:=by simpa using h
   simp[h2']
   refine⟨by decide,?_⟩
   refine fD (j+1) [] (by omega) (by omega) ?_
   simp
   exact wrap_i64 (by have:twoB.length=8:=rfl;omega) (by have:twoB.length=8:=rfl;omega)
  ·skip
   refine k2 (ms:=[]) (by simp[oneB]) (fun hm T M n ht=>?_) (fun hm T M n=>?_)
   ·rw[aC hm]at hR
    subst hR
    simp[ht]
   ·rw[aB hm]at hR
    subst hR
    simp
 ·rw[zE8]at hR
  have h2':(2:Int)<=s.size:=by omega
  have h2'':2<=s.size:=by omega
  refine fK zaa hp (fun j:Nat=>j<=twoB.length/\(twoB.drop j).any (fun t=>decide (s.extract 0 2=t))=twoB.any (fun t=>decide (s.extract 0 2=t))) (fun j=>[(4,.c (.d (.int .i64 j))),(3,.c (.d (.sl true 1 (encS twoB)))),(0,.c (.d (.str s)))]) (fun _=>[]) (fun j=>twoB.length-j) 0 [] ⟨by simp,by simp⟩ (by simp[encS,twoB]) fun j ⟨h1,h3⟩=>?_
  unfold zhs
  simp
  apply gI<;>intro h
  ·have hj:j<twoB.length:=by simpa using h
   rw[aG hj,any_cons]at h3
   simp[h2',h2'',aA hj]
   generalize twoB[j]=u at*
   by_cases e:s.extract 0 2=u
   ·rw[<-h3]at hR
    simp[e]at hR
    subst hR
    simp[e]
    decide
   ·simp[e]at h3⊢
    refine⟨by decide,?_⟩
    refine fD (j+1) [] ⟨by omega,by simpa using h3⟩ (by omega) ?_
    simp
    exact wrap_i64 (by have:twoB.length=8:=rfl;omega) (by have:twoB.length=8:=rfl;omega)
  ·have hj:j=twoB.length:=by simp at h;omega
   subst hj
   rw[aO,any_nil]at h3
   rw[<-h3]at hR
   simp only[ae,if_false]at hR
   simp
   refine k2 (ms:=[]) (by simp[oneB]) (fun hm T M n ht=>?_) (fun hm T M n=>?_)
   ·rw[aC hm]at hR
    subst hR
    simp[ht]
   ·rw[aB hm]at hR
    subst hR
    simp
def ub(b c:UInt8):b=c↔(b.toNat:Int)=c.toNat:=⟨fun h=>by rw[h],fun h=>dW.mp (by omega)⟩
def ubn(b c:UInt8):b=c↔b.toNat=c.toNat:=⟨fun h=>by rw[h],fun h=>dW.mp h⟩
def un{b c:UInt8}(h:¬b=c):¬(b.toNat:Int)=c.toNat/\¬b.toNat=c.toNat:=⟨fun e=>h ((ub b c).2 e),fun e=>h ((ubn b c).2 e)⟩
def zCg(s:fC):PCall Pg 153 [.one (.str s)] (.one (.int .i64 (blkL false s.data.toList))):=by
 refine zwr (by simp) fun o c' hN hp=>?_
 have hs:s.size<=zaf:=by have:=o.1;simpa only[DV.ok,D.ok]using this
 unfold zaf at hs
 have hlen:=zb3 s
 obtain⟨R,hR⟩:∃R,blkL false s.data.toList=R:=⟨_,rfl⟩
 rw[hR]
 have k2:∀{Q:Exit->St->Prop} {S:St} {g} {ms:List Nat} (k:Nat) (hk:k<s.size) (hne:s.data[k]?≠some 10) (hq:k+blkL true (s.data.toList.drop k)=R) (h0:Match ms S [(3,.c (.d (.int .i64 k))),(0,.c (.d (.str s)))] []),
   (∀j T M n,j<=s.size->k<j->j+blkL false (s.data.toList.drop j)=R->Abs.look T 3=.c (.d (.int .i64 j))->Abs.look T 0=.c (.d (.str s))->Q (.exit 2) ⟨T,M,n⟩)->lw_ Pg c' zgy Q g S:=by
  intro Q S g ms k hk hne hq h0 hn
  refine fK zaa hp (fun j:Nat=>j<=s.size/\k<=j/\j+blkL true (s.data.toList.drop j)=R) (fun j=>[(3,.c (.d (.int .i64 j))),(0,.c (.d (.str s)))]) (fun _=>[]) (fun j=>s.size-j) k ms ⟨by omega,aN _,hq⟩ h0 fun j ⟨h1,h2,h3⟩=>?_
  unfold zgy
  simp
  apply gI<;>intro h
  ·have hj:j<s.size:=by simpa using h
   have hj':j<s.data.toList.length:=by omega
   rw[aG hj',blkL]at h3
   have hd:=aG hj'
   have hb:=zdK hj'
   generalize s.data.toList[j]=b at h3 hb hd
   by_cases e:b=10
   ·subst e
    simp[hb]
    refine hn j _ _ _ h1 ?_ ?_ (by simp) (by simp)
    ·rcases aW k j with h|h
     ·exact h
     ·have:j=k:=by omega
      subst this
      exact absurd hb hne
    rw[hd,blkL]
    simpa using h3
   ·have e':=un e
    simp at e'
    simp[hb,e',e]
    simp[e]at h3
    refine fD (j+1) [] ⟨by omega,by omega,by omega⟩ (by omega) ?_
    simp
    exact wI
  ·have hj:j=s.size:=by simp at h;omega
   subst hj
   rw[bG (by omega),blkL]at h3
   refine hn s.size _ _ _ (by omega) (by omega) ?_ (by simp) (by simp)
   rw[bG (by omega),blkL];exact h3
 unfold zms
 simp
 refine fK zaa hp (fun j:Nat=>j<=s.size/\j+blkL false (s.data.toList.drop j)=R) (fun j=>[(3,.c (.d (.int .i64 j))),(0,.c (.d (.str s)))]) (fun _=>[]) (fun j=>s.size-j) 0 [] ⟨by simp,by simpa using hR⟩ (by simp) fun j ⟨h1,h3⟩=>?_
 unfold zjW
 simp
 apply gI<;>intro h
 ·have hj:j<s.size:=by simpa using h
  have hj':j<s.data.toList.length:=by omega
  rw[aG hj',blkL]at h3
  have hd:=aG hj'
  have hb:=zdK hj'
  generalize s.data.toList[j]=b at h3 hb hd
  by_cases e:b=35
  ·subst e
   simp[hb]
   simp only[if_true]at h3
   refine k2 j (by omega) (by rw[hb];decide) ?_ (ms:=[]) (by simp) fun k T M n g1 g2 g3 t1 t2=>?_
   ·rw[hd,blkL];simpa using h3
   ·simp
    exact fD k [] ⟨g1,g3⟩ (by omega) (by simp[t1,t2])
  ·have e':=un e
   simp at e'
   rw[aB e]at h3
   by_cases w:b=32\/b=9\/b=10\/b=13
   ·rw[aC w]at h3
    have z:∀G:Prop,(b=32->G)->(b=9->G)->(b=10->G)->(b=13->G)->G:=fun G a1 a2 a3 a4=>by
     rcases w with w|w|w|w
     ·exact a1 w
     ·exact a2 w
     ·exact a3 w
     ·exact a4 w
    refine z _ ?_ ?_ ?_ ?_
    all_goals
     intro w
     subst w
     simp[hb]
     refine fD (j+1) [] ⟨by omega,by omega⟩ (by omega) ?_
     simp
     exact wI
   ·rw[aB w]at h3
    have w1:=un (fun h=>w (.inl h))
    have w2:=un (fun h=>w (.inr (.inl h)))
    have w3:=un (fun h=>w (.inr (.inr (.inl h))))
    have w4:=un (fun h=>w (.inr (.inr (.inr h))))
    simp at w1 w2 w3 w4
    simp[hb,e',e,w1,w2,w3,w4]
    omega
 ·have hj:j=s.size:=by simp at h;omega
  subst hj
  rw[bG (by omega),blkL]at h3
  simp[<-h3]
def quoE:List UInt8->Option (List UInt8 × Nat)
 |[]=>none
 |d::l=>if d=92\/d=34 then(quoL l).map fun x=>(d::x.1,x.2+2)else if d=110 then(quoL l).map fun x=>(10::x.1,x.2+2)else if d=116 then(quoL l).map fun x=>(9::x.1,x.2+2)else none
def zrU(c:UInt8)(l:List UInt8):quoL (c::l)=if c=34 then some ([],1)else if c<32 then none else if c≠92 then(quoL l).map (fun x=>(c::x.1,x.2+1))else quoE l:=by
 cases l<;>rw[quoL.eq_def]<;>rfl
def quoR(out:List UInt8)(i:Nat)(l:List UInt8):List UInt8 × Int:=match quoL l with
 |none=>([],0)
 |some (t,n)=>(out++t,i+n)
def zi8(out:List UInt8)(c:UInt8)(i n:Nat)(l:List UInt8):(match(quoL l).map (fun x=>(c::x.1,x.2+n))with
  |none=>(([],0):List UInt8 × Int)
  |some (t,m)=>(out++t,(i:Int)+m))=quoR (out++[c]) (i+n) l:=by
 unfold quoR
 cases quoL l with
 |none=>rfl
 |some x=>
  simp
  omega
def zmd(a b:List UInt8):bA (a++b)=bA a++bA b:=by
 have:(bA (a++b)).data.toList=(bA a++bA b).data.toList:=by simp[bA]
 rw[<-zrC (bA (a++b)),this,zrC]
def zxc{s:fC}{j:Nat}(h:j<s.data.toList.length):s.extract j (j+1)=bA [s.data.toList[j]]:=by
 rw[zqT]
 congr 1
 rw[aG h,show j+1-j=1 by omega];try rfl
def zAa(s:fC)(hpos:0<s.size):PCall Pg 177 [.one (.str s)] (.tup [.one (.str (bA (quoR [] 1 (s.data.toList.drop 1)).1)),.one (.int .i64 (quoR [] 1 (s.data.toList.drop 1)).2)]):=by
 refine zup (by simp) fun o c' hN hp=>?_
 have hs:s.size<=zaf:=by have:=o.1;simpa only[DV.ok,D.ok]using this
 unfold zaf at hs
 have hlen:=zb3 s
 obtain⟨R,hR⟩:∃R,quoR [] 1 (s.data.toList.drop 1)=R:=⟨_,rfl⟩
 rw[hR]
 unfold zlE
 simp
 refine fK zaa hp (fun x:Nat × List UInt8=>x.1<=s.size/\x.2.length<=x.1/\quoR x.2 x.1 (s.data.toList.drop x.1)=R) (fun x=>[(5,.c (.d (.int .i64 x.1))),(4,.c (.d (.str (bA x.2)))),(0,.c (.d (.str s)))]) (fun _=>[]) (fun x=>s.size-x.1) (1,[]) [] ⟨by simp only;omega,by simp,hR⟩ (by simp[bA,bs]) fun⟨j,out⟩ ⟨h1,h2,h3⟩=>?_
 unfold zje
 simp only at h1 h2 h3
 simp
 apply gI<;>intro h
 ·have hj:j<s.size:=by simpa using h
  have hj':j<s.data.toList.length:=by omega
  unfold quoR at h3
  rw[aG hj',zrU]at h3
  have hx:=zxc hj'
  have hb:=zdK hj'
  generalize s.data.toList[j]=b at h3 hb hx
  by_cases e1:b=34
  ·subst e1
   simp at h3
   subst h3
   simp[hb]
   exact wI
  rw[aB e1]at h3
  have e1':=un e1
  simp at e1'
  by_cases e2:b<32
  ·rw[aC e2]at h3
   simp only at h3
   subst h3
   have e2':(b.toNat:Int)<32:=by
    have:b.toNat<32:=e2
    omega
   simp[hb,e1,e1',e2']
   rfl
  rw[aB e2]at h3
  have e2':¬(b.toNat:Int)<32:=by
   intro q
   exact e2 (show b.toNat<32 by omega)
  by_cases e3:b=92
  rotate_left
  ·rw[aC e3]at h3
   have e3':=un e3
   simp at e3'
   have hw:=wI (n:=(j:Int)+1)
   simp[hb,e1,e1',e2',e3,e3',hw]
   have hsz:(bA out).size+(min (j+1) s.size-j)<=zaf:=by
    have:(bA out).size=out.length:=by rw[<-zb3];simp[bA]
    unfold zaf;omega
   refine⟨by omega,by omega,hsz,?_⟩
   rw[zi8 out b j 1]at h3
   refine fD (j+1,out++[b]) [] ⟨by simp only;omega,by simp;omega,h3⟩ (by simp only;omega) ?_
   rw[hx]
   simp[zmd]
  ·simp only[ne_eq,e3,not_true,if_false]at h3
   subst e3
   have hw:=wI (n:=(j:Int)+1)
   have hw2:=wI (n:=(j:Int)+1+1)
   simp[hb,hw]
   by_cases hj2:j+1<s.size
   rotate_left
   ·have hj2':(s.size:Int)<=(j:Int)+1:=by omega
    rw[bG (by omega),quoE]at h3
    simp only at h3
    subst h3
    simp[hj2']
    rfl
   have hj2':¬(s.size:Int)<=(j:Int)+1:=by omega
   have hjl:j+1<s.data.toList.length:=by omega
   rw[aG hjl,quoE]at h3
   have hx2:=zxc hjl
   have hb2:=zdK hjl
   generalize s.data.toList[j+1]=d at h3 hb2 hx2
   have hsz:(bA out).size=out.length:=by rw[<-zb3];simp[bA]
   have hnat:((j:Int)+1).toNat=j+1:=by omega
   have hw2:IntKind.i64.wrap ((j:Int)+1+1)=((j+2:Nat):Int):=by rw[hw2];omega
   have hmin:min (j+2) s.size-(j+1)<=1:=by omega
   have hcat:(bA out).size+1<=zaf:=by rw[hsz];unfold zaf;omega
   by_cases d1:d=92\/d=34
   ·rw[aC d1]at h3
    rw[zi8 out d j 2]at h3
    have hnat2:((j:Int)+2).toNat=j+1+1:=by omega
    rcases d1 with q|q
    ·have q1:=(ubn d 92).1 q
     simp at q1
     simp[hj2',hb2,hnat,hw2,q1]
     refine⟨by omega,by omega,by omega,by omega,by omega,by rw[hnat2];omega,?_⟩
     refine fD (j+2,out++[d]) [] ⟨by simp only;omega,by simp;omega,h3⟩ (by simp only;omega) ?_
     rw[hnat2,hx2]
     simp[zmd]
    ·have q1:=(ubn d 34).1 q
     simp at q1
     simp[hj2',hb2,hnat,hw2,q1]
     refine⟨by omega,by omega,by omega,by omega,by omega,by rw[hnat2];omega,?_⟩
     refine fD (j+2,out++[d]) [] ⟨by simp only;omega,by simp;omega,h3⟩ (by simp only;omega) ?_
     rw[hnat2,hx2]
     simp[zmd]
   rw[aB d1]at h3
   have d11:=un (fun h=>d1 (.inl h))
   have d12:=un (fun h=>d1 (.inr h))
   simp at d11 d12
   by_cases d2:d=110
   ·rw[aC d2]at h3
    subst d2
    rw[zi8 out 10 j 2]at h3
    simp[hj2',hb2,hnat,hw2]
    refine⟨by omega,hcat,?_⟩
    refine fD (j+2,out++[10]) [] ⟨by simp only;omega,by simp;omega,h3⟩ (by simp only;omega) ?_
    simp[zmd]
    rfl
   rw[aB d2]at h3
   have d21:=un d2
   simp at d21
   by_cases d3:d=116
   ·rw[aC d3]at h3
    subst d3
    rw[zi8 out 9 j 2]at h3
    simp[hj2',hb2,hnat,hw2]
    refine⟨by omega,hcat,?_⟩
    refine fD (j+2,out++[9]) [] ⟨by simp only;omega,by simp;omega,h3⟩ (by simp only;omega) ?_
    simp[zmd]
    rfl
   rw[aB d3]at h3
   have d31:=un d3
   simp at d31
   simp only at h3
   subst h3
   simp[hj2',hb2,hnat,d11,d12,d21,d31]
   exact⟨by omega,rfl⟩
 ·have hj:j=s.size:=by simp at h;omega
  subst hj
  unfold quoR at h3
  rw[bG (by omega),quoL]at h3
  simp only at h3
  subst h3
  simp
  rfl
def zkc(num:Bool):∀l:List UInt8,runL num l<=l.length
 |[]=>aN _
 |b::l=>by have:=zkc num l;unfold runL;split<;>simp<;>omega
def zny:∀(r:Bool) (l:List UInt8),blkL r l<=l.length
 |_,[]=>by cases‹Bool›<;>simp[blkL]
 |true,c::l=>by have:=zny (decide (c≠10)) l;rw[blkL,length_cons];omega
 |false,c::l=>by
  have h1:=zny true l
  have h2:=zny false l
  rw[blkL];split
  ·simp;omega
  ·split<;>simp<;>omega
def znz:∀(n:Nat) (l:List UInt8),l.length<=n->∀t k,quoL l=some (t,k)->0<k/\k<=l.length
 |n,[],_,t,k,e=>by simp[quoL]at e
 |0,c::l,h,_,_,_=>by simp at h
 | n +1,c::l,h,t,k,e=>by
  rw[zrU]at e
  split at e
  ·simp at e;obtain⟨_,rfl⟩:=e;simp
  split at e
  ·cases e
  split at e
  ·rw[aV]at e
   obtain⟨⟨t',k'⟩,e1,e2⟩:=e
   simp only[bU]at e2
   have:=znz n l (by simpa using h) t' k' e1
   simp;omega
  ·cases l with
   |nil=>simp[quoE]at e
   | cons d l=>
    have H:∀t' k',quoL l=some (t',k')->0<k'/\k'<=l.length:=fun t' k' e1=>znz n l (by simp at h;omega) t' k' e1
    rw[quoE]at e
    repeat' split at e
    all_goals first|(cases e;done)|skip
    all_goals
     rw[aV]at e
     obtain⟨⟨t',k'⟩,e1,e2⟩:=e
     simp only[bU]at e2
     have:=H t' k' e1
     simp;omega
def zvd(l:List UInt8):zgP l<=l.length:=by
 unfold zgP
 split
 ·rename_i h
  rw[List.any_eq_true]at h
  obtain⟨t,ht,h⟩:=h
  have h2:t.length=2:=(by decide:∀t∈twoL,t.length=2) t ht
  simp only[aI]at h
  have:=dL length h
  rw[bI]at this
  omega
 ·cases l with
  |nil=>simp
  |cons c l=>simp;split<;>omega
def TokR.enc(t:TokR):List D:=[.int .i64 t.kind,.str (bA t.text),.int .i64 0,.int .i64 0]
abbrev runT(s:fC)(a b:Bool)(j:Nat):List (Nat × AV):=[(7,.c (.d (.int .i64 j))),(6,.c (.d (.bool b))),(5,.c (.d (.bool a))),(2,.c (.ptr 0 0)),(0,.c (.d (.str s)))]
abbrev tkB:Blk:=.box [.d (.int .i64 0),.d (.str (bs [])),.d (.int .i64 0),.d (.int .i64 0)]
theorem rnWd{c:Ctx}(hp:c.pure)(s:fC)(hs:s.size<=4611686018427387904)(a num:Bool)(R:Nat)(hR:runL num s.data.toList=R){Q:Exit->St->Prop}{S:St}{g}{ms:List Nat}
  (h0:Match ms S (runT s a num 0) [tkB])
  (hQ:∀T M n,Abs.look T 7=.c (.d (.int .i64 R))->Abs.look T 6=.c (.d (.bool num))->Abs.look T 5=.c (.d (.bool a))->Abs.look T 2=.c (.ptr 0 0)->Abs.look T 0=.c (.d (.str s))->M 0=tkB->Q (.exit 0) ⟨T,M,n⟩):lw_ Pg c zgz Q g S:=by
 have hlen:=zb3 s
 refine fK zaa hp (fun j:Nat=>j<=s.size/\j+runL num (s.data.toList.drop j)=R) (fun j=>runT s a num j) (fun _=>[tkB]) (fun j=>s.size-j) 0 ms ⟨by simp,by simpa using hR⟩ h0 fun j ⟨h1,h2⟩=>?_
 unfold zgz
 simp
 apply gI<;>intro h
 ·have hj:j<s.size:=by simpa using h
  have hj':j<s.data.toList.length:=by omega
  rw[aG hj',runL]at h2
  have hb:=zdK hj'
  generalize s.data.toList[j]=b at h2 hb
  have hd:digU b=digV b.toNat:=rfl
  have hle:letU b=letV b.toNat:=rfl
  simp[hb]
  refine gN (zfI b.toNat) ?_
  rw[<-hle]
  simp[hb]
  refine gN (zgC b.toNat) ?_
  rw[<-hd]
  generalize letU b=x1 at*
  generalize digU b=x2 at*
  cases x1<;>cases x2<;>cases num
  all_goals
   simp at h2
   simp
  ·exact hQ _ _ _ (by simp;omega) (by simp) (by simp) (by simp) (by simp) (by simp)
  ·exact hQ _ _ _ (by simp;omega) (by simp) (by simp) (by simp) (by simp) (by simp)
  ·refine fD (j+1) [0] ⟨by omega,by omega⟩ (by omega) ?_
   simp
   exact wI
  ·refine fD (j+1) [0] ⟨by omega,by omega⟩ (by omega) ?_
   simp
   exact wI
  ·refine fD (j+1) [0] ⟨by omega,by omega⟩ (by omega) ?_
   simp
   exact wI
  ·exact hQ _ _ _ (by simp;omega) (by simp) (by simp) (by simp) (by simp) (by simp)
  ·refine fD (j+1) [0] ⟨by omega,by omega⟩ (by omega) ?_
   simp
   exact wI
  ·refine fD (j+1) [0] ⟨by omega,by omega⟩ (by omega) ?_
   simp
   exact wI
 ·have hj:j=s.size:=by simp at h;omega
  subst hj
  rw[bG (by omega),runL]at h2
  exact hQ _ _ _ (by simp;omega) (by simp) (by simp) (by simp) (by simp) (by simp)
def ext0(s:fC)(i:Nat):s.extract 0 i=bA (s.data.toList.take i):=by rw[zqT];try rfl
abbrev tokV(t:TokR):DV:=.tup [.agg t.enc,.one (.int .i64 t.len),.one (.int .i64 t.e)]
theorem zC7(s:fC)(hpos:0<s.size):PCall Pg 154 [.one (.str s)] (tokV (tokL s.data.toList)):=by
 refine zws (by simp) fun o c' hN hp=>?_
 have hs:s.size<=zaf:=by have:=o.1;simpa only[DV.ok,D.ok]using this
 unfold zaf at hs
 have hlen:=zb3 s
 have hj0:0<s.data.toList.length:=by omega
 have hb0:=zdK hj0
 have cq:=zAa s hpos
 have csg:=zE9 s hpos
 have hql:=znz (s.data.toList.drop 1).length (s.data.toList.drop 1) (aN _)
 obtain⟨R,hR⟩:∃R,tokL s.data.toList=R:=⟨_,rfl⟩
 rw[hR]
 have hrl:=zkc false s.data.toList
 have hrd:=zkc true s.data.toList
 have hsl:=zvd s.data.toList
 have hx:∀i,s.extract 0 i=bA (s.data.toList.take i):=ext0 s
 generalize hl:s.data.toList=l at*
 cases l with
 |nil=>simp at hj0
 |cons c r=>
 simp only[getElem_cons_zero]at hb0
 simp only[drop_one,tail_cons]at cq hql
 rw[tokL]at hR
 have hd:digU c=digV c.toNat:=rfl
 have hle:letU c=letV c.toNat:=rfl
 unfold zmt
 simp[hb0]
 refine gN (zfI c.toNat) ?_
 rw[<-hle]
 simp[hb0]
 refine gN (zgC c.toNat) ?_
 rw[<-hd]
 by_cases q1:letU c=true
 ·rw[aC q1]at hR
  have q2:digU c=false:=by
   unfold letU letV at q1;unfold digU digV
   simp at q1⊢;omega
  simp[q1,q2]
  refine rnWd hp s hs true false (runL false (c::r)) (by rw[hl]) (ms:=[0]) (by simp) fun T M n t7 t6 t5 t2 t0 m0=>?_
  simp[t5,t7]
  by_cases q3:32<runL false (c::r)
  ·have q3':(32:Int)<(runL false (c::r):Nat):=by omega
   rw[aC q3]at hR
   subst hR
   simp[q3,q3',t2,m0]
   exact⟨rfl,rfl,rfl⟩
  rw[aB q3]at hR
  have q3':¬(32:Int)<(runL false (c::r):Nat):=by omega
  have hxi:=hx (runL false (c::r))
  have hw:=zrB (bA (take (runL false (c::r)) (c::r)))
  generalize runL false (c::r)=i at*
  have hi2:i<=s.size:=by simp at hlen hrl;omega
  simp[q3,q3',t0,t7,hi2,hxi]
  refine gN hw ?_
  generalize hu:bA (take i (c::r))=u at*
  by_cases q4:zk4 u=true
  ·rw[aC q4]at hR
   subst hR
   simp[q4,t0,t7,hi2,hxi,t2,m0,TokR.enc,hu]
  ·rw[aB q4]at hR
   subst hR
   simp[q4,t0,t7,hi2,hxi,t2,m0,TokR.enc,hu]
 rw[aB q1]at hR
 by_cases q2:digU c=true
 ·rw[aC q2]at hR
  rw[aK]at q1
  simp[q1,q2]
  refine rnWd hp s hs false true (runL true (c::r)) (by rw[hl]) (ms:=[0]) (by simp) fun T M n t7 t6 t5 t2 t0 m0=>?_
  have hxi:=hx (runL true (c::r))
  have hpz:=zve (bA (take (runL true (c::r)) (c::r)))
  have hpi:zdG (bA (take (runL true (c::r)) (c::r)))=zg1 (take (runL true (c::r)) (c::r)):=by unfold zdG;rfl
  rw[hpi]at hpz
  generalize runL true (c::r)=i at*
  have hi2:i<=s.size:=by simp at hlen hrd;omega
  simp[t5,t6,t7,t0,hi2,hxi]
  refine gN hpz ?_
  generalize hu:bA (take i (c::r))=u at*
  generalize zg1 (take i (c::r))=pz at*
  by_cases q4:pz.2=true
  ·rw[aC q4]at hR
   subst hR
   simp[q4,t0,t7,hi2,hxi,t2,m0,TokR.enc,hu]
  ·rw[aB q4]at hR
   subst hR
   simp[q4,t0,t7,hi2,hxi,t2,m0,TokR.enc,hu]
   exact⟨⟨rfl,rfl⟩,rfl,rfl⟩
 rw[aB q2]at hR
 rw[aK]at q1 q2
 simp[q1,q2]
 by_cases q3:c=34
 ·subst q3
  rw[aC rfl]at hR
  simp[hb0]
  refine gN cq ?_
  unfold quoR
  cases hq:quoL r with
  |none=>
   rw[hq]at hR
   simp only at hR
   subst hR
   simp
   exact⟨rfl,rfl,rfl⟩
  | some x=>
   obtain⟨t,k⟩:=x
   rw[hq]at hR
   have hk:=hql t k hq
   have hsz:(bA t).size=t.length:=by rw[<-zb3];simp[bA]
   have hk0:¬(1:Int)+k=0:=by omega
   by_cases q4:256<t.length
   ·have q4':(256:Int)<t.length:=by omega
    simp only[q4,if_true]at hR
    subst hR
    simp[hsz,q4,q4',hk0]
    exact⟨rfl,rfl,rfl⟩
   ·have q4':¬(256:Int)<t.length:=by omega
    simp only[q4,if_false]at hR
    subst hR
    simp[hsz,q4,q4',hk0,TokR.enc]
    omega
 rw[aB q3]at hR
 have q3':=un q3
 simp at q3'
 simp[hb0,q3,q3']
 refine gN csg ?_
 have hxi:=hx (zgP (c::r))
 generalize zgP (c::r)=i at*
 have hi2:i<=s.size:=by simp at hlen hsl;omega
 by_cases q4:i=0
 ·rw[aC q4]at hR
  subst hR
  simp[q4]
  exact⟨rfl,rfl,rfl⟩
 ·rw[aB q4]at hR
  have q4':¬(i:Int)=0:=by omega
  subst hR
  simp[q4,q4',hi2,hxi,TokR.enc]
def zw8{l:List UInt8}(h:(tokL l).e=0):0<(tokL l).len/\(tokL l).len<=l.length:=by
 cases l with
 |nil=>simp[tokL,badR]at h
 | cons c r=>
  have hrl:=zkc false (c::r)
  have hrd:=zkc true (c::r)
  have hsl:=zvd (c::r)
  have hql:=znz r.length r (aN _)
  rw[tokL]at h⊢
  split
  ·rename_i q
   rw[aC q]at h
   split
   ·rename_i p;rw[aC p]at h;simp[badR]at h
   ·refine⟨?_,hrl⟩
    show 0<runL false (c::r)
    rw[runL,aC (by simp[q])];omega
  rename_i q1
  rw[aB q1]at h
  split
  ·rename_i q
   rw[aC q]at h
   split
   ·refine⟨?_,hrd⟩
    show 0<runL true (c::r)
    rw[runL,aC (by simp[q])];omega
   ·rename_i p;rw[aB p]at h;simp[badR]at h
  rename_i q2
  rw[aB q2]at h
  split
  ·rename_i q
   rw[aC q]at h
   cases e:quoL r with
   |none=>rw[e]at h;simp[badR]at h
   |some x=>
    obtain⟨t,n⟩:=x
    rw[e]at h
    simp only at h⊢
    have:=hql t n e
    split
    ·rename_i p;rw[aC p]at h;simp[badR]at h
    ·simp;omega
  rename_i q3
  rw[aB q3]at h
  split
  ·rename_i p;rw[aC p]at h;simp[badR]at h
  ·simp only;omega
def zoF:∀(l:List UInt8) (a b:Int),1<=a->1<=b->1<=(zbV l a b).1/\1<=(zbV l a b).2/\(zbV l a b).1<=a+l.length/\(zbV l a b).2<=b+l.length
 |[],a,b,h1,h2=>by simp[zbV];omega
 | c::l,a,b,h1,h2=>by
  rw[zbV]
  split
  ·have:=zoF l (a+1) 1 (by omega) (by omega)
   simp only[length_cons];omega
  ·have:=zoF l a (b+1) (by omega) (by omega)
   simp only[length_cons];omega
abbrev lexT(s:fC)(line col:Int)(at' n:Nat):List (Nat × AV):=[(6,.c (.d (.int .i64 col))),(5,.c (.d (.int .i64 line))),(7,.c (.d (.int .i64 at'))),(4,.c (.msl 4 1 0 n)),(3,.c (.ptr 0 0)),(0,.c (.d (.str s)))]
abbrev dB:Blk:=.box [.d (.int .i64 0),.d (.int .i64 0),.d (.int .i64 0),.d (.int .i64 0)]
abbrev lexB(ts:List Tok):List Blk:=[dB,.arr 4 ((ts.map Tok.enc).map (·.map .d))]
def zEm{c:Ctx}(hp:c.pure)(s:fC)(hs:s.size<=65536)(ts:List Tok)(a k:Nat)(hk:a+k<=s.size)(l0 c0:Int)(hl0:1<=l0)(hc0:1<=c0)(hl1:l0<=100000)(hc1:c0<=100000)(R:Int × Int)(hR:zbV ((s.data.toList.drop a).take k) l0 c0=R){Q:Exit->St->Prop}{S:St}{g}{ms:List Nat}
  (h0:Match ms S ((9,.c (.d (.int .i64 a)))::(8,.c (.d (.int .i64 k)))::lexT s l0 c0 a ts.length) (lexB ts))
  (hQ:∀T,Abs.look T 6=.c (.d (.int .i64 R.2))->Abs.look T 5=.c (.d (.int .i64 R.1))->Abs.look T 7=.c (.d (.int .i64 a))->Abs.look T 8=.c (.d (.int .i64 k))->Abs.look T 4=.c (.msl 4 1 0 ts.length)->Abs.look T 3=.c (.ptr 0 0)->Abs.look T 0=.c (.d (.str s))->Q (.exit 2) ⟨T,hpOf (lexB ts),2⟩):lw_ Pg c zix Q g S:=by
 have hlen:=zb3 s
 obtain⟨e,he⟩:∃e,e=a+k:=⟨_,rfl⟩
 have hw2:IntKind.i64.wrap ((a:Int)+k)=(e:Int):=by rw[wI];omega
 refine fK zaa hp (fun x:Nat × Int × Int=>a<=x.1/\x.1<=e/\1<=x.2.1/\1<=x.2.2/\x.2.1<=100000+x.1/\x.2.2<=100000+x.1/\zbV ((s.data.toList.drop x.1).take (e-x.1)) x.2.1 x.2.2=R)
  (fun x=>(9,.c (.d (.int .i64 x.1)))::(8,.c (.d (.int .i64 k)))::lexT s x.2.1 x.2.2 a ts.length) (fun _=>lexB ts) (fun x=>e-x.1) (a,l0,c0) ms ⟨aN _,by simp only;omega,hl0,hc0,by simp only;omega,by simp only;omega,by simp only;rw[he,bi];exact hR⟩ h0 fun⟨j,li,co⟩ ⟨h0',h1,h2,h3,h4,h5,h6⟩=>?_
 unfold zix
 simp only at h0' h1 h2 h3 h4 h5 h6
 have hw1:IntKind.i64.wrap ((j:Int)+1)=((j+1:Nat):Int):=by rw[wI];omega
 have hw3:IntKind.i64.wrap (co+1)=co+1:=wI
 have hw4:IntKind.i64.wrap (li+1)=li+1:=wI
 by_cases hj:j<e
 ·have hj':j<s.data.toList.length:=by omega
  rw[aG hj',show e-j=(e-(j+1))+1 by omega,take_succ_cons,zbV]at h6
  have hb:=zdK hj'
  generalize s.data.toList[j]=b at h6 hb
  by_cases q:b=10
  ·rw[aC q]at h6
   subst q
   simp[hw2,hb,hj]
   refine fD (j+1,li+1,1) [0,1] ⟨by simp only;omega,by simp only;omega,by simp only;omega,by simp,by simp only;omega,by simp only;omega,h6⟩ (by simp only;omega) ?_
   simp[hw1,hw4]
  ·rw[aB q]at h6
   have q':=un q
   simp at q'
   simp[hw2,hb,hj,q,q']
   refine fD (j+1,li,co+1) [0,1] ⟨by simp only;omega,by simp only;omega,by simp only;omega,by simp only;omega,by simp only;omega,by simp only;omega,h6⟩ (by simp only;omega) ?_
   simp[hw1,hw3]
 ·have:j=e:=by omega
  subst this
  rw[Nat.sub_self,take_zero,zbV]at h6
  subst h6
  simp[hw2]
  exact hQ _ (by simp) (by simp) (by simp) (by simp) (by simp) (by simp) (by simp)
def zq9(l:List UInt8):(bA l).data.toList=l:=by simp[bA]
def zw9(l:List UInt8):(bA l).size=l.length:=by rw[<-zb3,zq9]
def zxa(s:fC)(p:Nat):s.extract p s.size=bA (s.data.toList.drop p):=by
 rw[zqT,aF (by rw[dJ,zb3];omega)]
@[simp] theorem Dia.enc_length(d:Dia):d.enc.length=4:=rfl
theorem zxb(n:Nat)(l:List UInt8)(a b:Int)(ts:List Tok):lexL (n+1) l a b ts=
  if l.drop (blkL false l)=[]then(ts++[⟨0,bs [],(zbV (l.take (blkL false l)) a b).1,(zbV (l.take (blkL false l)) a b).2⟩],noD)
  else if(if(tokL (l.drop (blkL false l))).e=0/\ts.length=8192 then 19 else(tokL (l.drop (blkL false l))).e)≠0 then([],⟨0,(zbV (l.take (blkL false l)) a b).1,(zbV (l.take (blkL false l)) a b).2,if(tokL (l.drop (blkL false l))).e=0/\ts.length=8192 then 19 else(tokL (l.drop (blkL false l))).e⟩)
  else lexL n ((l.drop (blkL false l)).drop (tokL (l.drop (blkL false l))).len) (zbV (l.take (blkL false l)) a b).1 ((zbV (l.take (blkL false l)) a b).2+(tokL (l.drop (blkL false l))).len) (ts++[⟨(tokL (l.drop (blkL false l))).kind,bA (tokL (l.drop (blkL false l))).text,(zbV (l.take (blkL false l)) a b).1,(zbV (l.take (blkL false l)) a b).2⟩]):=rfl
def zFt(s:fC):PCall Pg 119 [.one (.str s)] (.tup [.one (.sl false 4 ((lexP s).1.map Tok.enc)),.agg (lexP s).2.enc]):=by
 refine zAy (by simp) fun o c' hN hp=>?_
 have hs:s.size<=zaf:=by have:=o.1;simpa only[DV.ok,D.ok]using this
 unfold zaf at hs
 have hlen:=zb3 s
 obtain⟨F0,hF0⟩:∃F0,lexP s=F0:=⟨_,rfl⟩
 rw[hF0]
 unfold lexP at hF0
 unfold zp0
 by_cases h6:65536<s.size
 ·have h6':(65536:Int)<s.size:=by omega
  rw[aC h6]at hF0
  subst hF0
  simp[h6,h6',Dia.enc]
 have h6':¬(65536:Int)<s.size:=by omega
 rw[aB h6]at hF0
 simp[h6,h6']
 refine fQ [.t 4] ?_
 simp
 refine fK zaa hp (fun x:Nat × Nat × Int × Int × List Tok=>lexL x.1 (s.data.toList.drop x.2.1) x.2.2.1 x.2.2.2.1 x.2.2.2.2=F0/\x.2.1<=s.size/\s.size<x.1+x.2.1/\x.2.2.2.2.length<=8192/\1<=x.2.2.1/\1<=x.2.2.2.1/\x.2.2.1<=1+x.2.1/\x.2.2.2.1<=1+x.2.1)
  (fun x=>lexT s x.2.2.1 x.2.2.2.1 x.2.1 x.2.2.2.2.length) (fun x=>lexB x.2.2.2.2) (fun x=>x.1) (s.size+1,0,1,1,[]) [0,1] ⟨by simpa using hF0,by simp,by simp only;omega,by simp,by simp,by simp,by simp,by simp⟩ (by simp) fun⟨n,p,li,co,ts⟩ ⟨i1,i2,i3,i4,i5,i6,i7,i8⟩=>?_
 unfold zmu
 simp only at i1 i2 i4 i5 i6 i7 i8
 have i3:s.size<n+p:=i3
 obtain⟨n,rfl⟩:∃m,n=m+1:=⟨n-1,by omega⟩
 rw[zxb]at i1
 have hb:=zCg (bA (s.data.toList.drop p))
 rw[zq9]at hb
 have hbl:=zny false (s.data.toList.drop p)
 rw[dJ,hlen]at hbl
 have hx:=zxa s p
 simp[i2,hx]
 refine gN hb ?_
 obtain⟨k,hk⟩:∃k,blkL false (s.data.toList.drop p)=k:=⟨_,rfl⟩
 rw[hk]at i1 hbl
 simp[hk]
 obtain⟨q,hq⟩:∃q,zbV ((s.data.toList.drop p).take k) li co=q:=⟨_,rfl⟩
 have hqb:=zoF ((s.data.toList.drop p).take k) li co i5 i6
 rw[hq]at i1 hqb
 have htk:((s.data.toList.drop p).take k).length=k:=by rw[bI,dJ];omega
 rw[htk]at hqb
 refine zEm hp s (by omega) ts p k (by omega) li co i5 i6 (by omega) (by omega) q hq (ms:=[0,1]) (by simp) fun T t6 t5 t7 t8 t4 t3 t0=>?_
 have hw:IntKind.i64.wrap ((p:Int)+k)=((p+k:Nat):Int):=by rw[wI];omega
 rw[drop_drop]at i1
 have hx2:=zxa s (p+k)
 obtain⟨p',hp'⟩:∃p',p+k=p':=⟨_,rfl⟩
 rw[hp']at hw i1 hx2
 simp[t7,t8,hw,t0]
 by_cases he:s.size<=p'
 ·have he':p'=s.size:=by omega
  rw[aC (bG (by omega))]at i1
  subst i1
  have z:take ts.length (List.map ((fun x=>List.map AC.d x)∘Tok.enc) ts)=List.map ((fun x=>List.map AC.d x)∘Tok.enc) ts:=aF (by simp)
  have z2:take (ts.length+1) (List.map Tok.enc ts++[[.int .i64 0,.str (bs []),.int .i64 q.1,.int .i64 q.2]])=List.map Tok.enc ts++[[.int .i64 0,.str (bs []),.int .i64 q.1,.int .i64 q.2]]:=aF (by simp)
  simp[he,t4,t5,t6,t3,z,z2]
  exact⟨by omega,rfl,rfl⟩
 rw[aB (fun h=>by have:=dL length h;rw[dJ]at this;simp at this;omega)]at i1
 have ht:=zC7 (bA (s.data.toList.drop p')) (by rw[zw9,dJ];omega)
 rw[zq9]at ht
 have htl:=zw8 (l:=s.data.toList.drop p')
 rw[dJ]at htl
 generalize tokL (s.data.toList.drop p')=t at*
 have hp2:p'<=s.size:=by omega
 simp[he,hp2,hx2,t7,t0]
 refine gN ht ?_
 by_cases e0:t.e=0
 ·have htl:=htl e0
  by_cases hm:ts.length=8192
  ·rw[aC (by rw[aC ⟨e0,hm⟩];decide),aC ⟨e0,hm⟩]at i1
   subst i1
   have hm':((ts.length:Nat):Int)=8192:=by omega
   simp[t4,t5,t6,t3,TokR.enc,e0,hm,hm',Dia.enc]
  ·have hm':¬((ts.length:Nat):Int)=8192:=by omega
   rw[aB (by rw[aB (fun h=>hm h.2)];simpa using e0),drop_drop]at i1
   have hw1:IntKind.i64.wrap ((p':Int)+t.len)=((p'+t.len:Nat):Int):=by rw[wI];omega
   have hw2:IntKind.i64.wrap (q.2+t.len)=q.2+t.len:=wI
   simp[t4,t5,t6,t3,t7,TokR.enc,e0,hm,hm',hw1,hw2]
   refine⟨by omega,?_⟩
   refine fD (n,p'+t.len,q.1,q.2+t.len,ts++[⟨t.kind,bA t.text,q.1,q.2⟩]) [0,3] ⟨i1,by simp only;omega,by simp only;omega,by simp;omega,by simp only;omega,by simp only;omega,by simp only;omega,by simp only;omega⟩ (by simp) ?_
   have z:take ts.length (List.map ((fun x=>List.map AC.d x)∘Tok.enc) ts)=List.map ((fun x=>List.map AC.d x)∘Tok.enc) ts:=aF (by simp)
   simp[t3,t0,t5,hw1,hw2,Tok.enc,z]
 ·rw[aC (by rw[aB (fun h=>e0 h.1)];exact e0),aB (fun h=>e0 h.1)]at i1
  subst i1
  simp[t4,t5,t6,t3,TokR.enc,e0,Dia.enc]
end Go.Gr
namespace Go.Gr
open Go.Abs Go.Proofs
def noM:Mdl:=⟨[],[]⟩
def ps0:PS:=⟨0,0,0,0,0⟩
def endP(L:List Tok)(p:PS):PS:=if p.e=0/\(curT L p).kind≠0 then zen L 7 p else p
def zbE(s:fC):Mdl × Dia:=
 let x:=lexP s
 if x.2.e≠0 then(noM,x.2)else
  let m:=zfL x.1 ps0
  let p:=endP x.1 m.2
  if p.e≠0 then(noM,⟨0,p.line,p.col,p.e⟩)else(m.1,⟨0,p.line,p.col,p.e⟩)
end Go.Gr
namespace Go.Gr
open Go.Abs Go.Proofs List
def zGJ(x:D)(l:List Typ):Prop:=(x=.sl false 4 (l.map Typ.enc)/\l.length=2)\/∃row t,x=.sl true 4 [row]/\D.erdL row=t.enc/\row.length=4/\l=[t]
theorem zDc(a b c d e f g h i j k l m n o:AC)(N:Nod):splice [a,b,c,d,e,f,g,h,i,j,k,l,m,n,o] 5 (N.enc.map AC.d)=a::b::c::d::e::(N.enc.map .d++[n,o]):=by rw[N.enc_eq];try rfl
theorem zGK(a b c d e n o:AC)(N:Nod):cut (a::b::c::d::e::(N.enc.map .d++[n,o])) 0 15=a::b::c::d::e::(N.enc.map .d++[n,o]):=by rw[N.enc_eq];try rfl
theorem zFZ(a b c d e n o:D)(N:Nod):cut (a::b::c::d::e::(N.enc++[n,o])) 0 15=a::b::c::d::e::(N.enc++[n,o]):=by rw[N.enc_eq];try rfl
theorem zF0(N:Nod)(a b:D):allD (N.enc.map AC.d++[.d a,.d b])=some (N.enc++[a,b]):=by
 have e:N.enc.map AC.d++[.d a,.d b]=(N.enc++[a,b]).map .d:=by simp
 rw[e];exact zuu _
theorem zF1(f:Nat->Nat)(N:Nod)(a b:D):AC.rens f (N.enc.map AC.d++[.d a,.d b])=N.enc.map AC.d++[.d a,.d b]:=by
 have e:N.enc.map AC.d++[.d a,.d b]=(N.enc++[a,b]).map .d:=by simp
 rw[e];exact AC.rens_D _ _
theorem zGL(n:Nat)(N:Nod)(a b:D):AC.lts n (N.enc.map AC.d++[.d a,.d b])=true:=by
 have e:N.enc.map AC.d++[.d a,.d b]=(N.enc++[a,b]).map .d:=by simp
 rw[e];exact AC.lts_D _ _
def zpi{α β:Type}(f:α->β)(v:List α):take v.length (v.map f)=v.map f:=aF (by rw[aU];exact aN _)
attribute [simp] zDc zGK zFZ zF0 zF1 zGL
section
variable {L:List Tok}
theorem zA3(hL:OkL L)(hl:L.length<=10000){d:Nat}{ki:PS->Typ × PS}(hk:Tame L ki)(Hk:KiOk L d ki)(p:PS)(h:p.at'<L.length)(hd:p.deep=d):
  ∃x,zGJ x (zcB L ki p).1.2/\MCall Pg 125 [.c (.ptr 0 0)] [psB L p] (.tup [.c (.d (.str (zcB L ki p).1.1)),.c (.d x)]) [psB L (zcB L ki p).2]:=by
 have t1:=zam hL h (s:=bs [40])
 have t2:=t1.trans (zaR hL t1.lt)
 have t3:=t2.trans (zeb hL hk _ t2.lt)
 have t4:=t3.trans (zam hL t3.lt (s:=bs [41]))
 have c1:=zaT hL (bs [40]) p h hl
 have c2:=zcq _ t1.lt hl
 have c3:=zh7 hL hl Hk _ t2.lt (by rw[t2.deep,hd])
 have c4:=zaT hL (bs [41]) _ t3.lt hl
 have c5:=zh7 hL hl Hk _ t4.lt (by rw[t4.deep,hd])
 have n1:=zhG (L:=L) ki (zaw L (zaA L (bs [40]) p)).2
 have n2:=zhG (L:=L) ki (zaA L (bs [41]) (zbW L ki (zaw L (zaA L (bs [40]) p)).2).2)
 unfold zcB
 simp only
 generalize zaA L (bs [40]) p=p1 at*
 generalize (zaw L p1).1=s1 at*
 generalize (zaw L p1).2=p2 at*
 generalize (zbW L ki p2).1=A at*
 generalize (zbW L ki p2).2=p3 at*
 generalize zaA L (bs [41]) p3=p4 at*
 generalize (zbW L ki p4).1=B at*
 generalize (zbW L ki p4).2=p5 at*
 have hn:noT.enc=[.int .i64 0,.str (bs []),.sl false 1 [],.sl false 4 []]:=rfl
 rcases n1 with rfl|⟨T,rfl⟩<;>rcases n2 with rfl|⟨U,rfl⟩
 ·refine⟨.sl true 4 [[.int .i64 0,.str (bs []),.sl true 1 [],.sl true 4 []]],.inr ⟨_,noT,rfl,rfl,rfl,rfl⟩,?_⟩
  refine zf1 MS0 fun ts hts ok hb c hN hp=>?_
  obtain⟨t,rfl⟩:=za6 hts
  unfold zeK
  simp
  refine gK [0] c1 ?_
  simp
  refine gK [0] c2 ?_
  simp
  refine gK [0] c3 ?_
  simp
  refine gK [0] c4 ?_
  simp
  refine gK [0] c5 ?_
  simp
  refine fP [] ?_
  simp
  exact fI [0] [1]
 ·refine⟨.sl false 4 [noT.enc,U.enc],.inl ⟨rfl,rfl⟩,?_⟩
  refine zf1 MS0 fun ts hts ok hb c hN hp=>?_
  obtain⟨t,rfl⟩:=za6 hts
  unfold zeK
  simp
  refine gK [0] c1 ?_
  simp
  refine gK [0] c2 ?_
  simp
  refine gK [0] c3 ?_
  simp
  refine gK [0] c4 ?_
  simp
  refine gK [0] c5 ?_
  simp
  refine fP [2] ?_
  simp[zah]
  exact fG [0] [1] (by simp[hn,AV.erds])
 ·refine⟨.sl true 4 [T.enc],.inr ⟨_,T,rfl,by simp,by simp,rfl⟩,?_⟩
  refine zf1 MS0 fun ts hts ok hb c hN hp=>?_
  obtain⟨t,rfl⟩:=za6 hts
  unfold zeK
  simp
  refine gK [0] c1 ?_
  simp
  refine gK [0] c2 ?_
  simp
  refine gK [0] c3 ?_
  simp
  refine gK [0] c4 ?_
  simp
  refine gK [0] c5 ?_
  simp
  refine fP [] ?_
  simp
  exact fI [0] [1]
 ·refine⟨.sl false 4 [T.enc,U.enc],.inl ⟨rfl,rfl⟩,?_⟩
  refine zf1 MS0 fun ts hts ok hb c hN hp=>?_
  obtain⟨t,rfl⟩:=za6 hts
  unfold zeK
  simp
  refine gK [0] c1 ?_
  simp
  refine gK [0] c2 ?_
  simp
  refine gK [0] c3 ?_
  simp
  refine gK [0] c4 ?_
  simp
  refine gK [0] c5 ?_
  simp
  refine fP [2] ?_
  simp[zah]
  exact fG [0] [1] (by simp[hn,AV.erds])
abbrev mB(p:PS)(t:Nat × Nat)(b2:Blk)(is:List Imp)(v:List (List D)):List Blk:=[psB L p,.pin t 0,b2,.box [.msl 4 4 0 is.length,.msl 15 5 0 v.length],.arr 4 ((is.map Imp.enc).map (·.map .d)),.arr 15 (v.map (·.map .d))]
abbrev mT:List (Nat × AV):=[(0,.c (.ptr 0 0)),(2,.c (.ptr 2 0)),(3,.c (.ptr 3 0))]
theorem zEU(hL:OkL L)(hl:L.length<=10000){c:Ctx}(hp:c.pure)(t:Nat × Nat)(b2:Blk)(hb2:b2=.box [.d (.sl true 4 []),.d (.sl true 15 [])])(is:List Imp)(p0:PS)(hd0:p0.deep=0)(h:p0.at'<L.length)(F0:List Dec × PS)(hF:zcC L (L.length+1) [] p0=F0){Q:Exit->St->Prop}{S:St}{g}{ms:List Nat}
  (h0:Match ms S mT (mB (L:=L) p0 t b2 is []))
  (hQ:∀T v,Abs.look T 0=.c (.ptr 0 0)->Abs.look T 2=.c (.ptr 2 0)->Abs.look T 3=.c (.ptr 3 0)->D.erdE v=F0.1.map Dec.enc->Q (.exit 2) ⟨T,hpOf (mB (L:=L) F0.2 t b2 is v),6⟩):lw_ Pg c zgB Q g S:=by
 refine fK zaa hp (fun x:Nat × List Dec × List (List D) × PS=>zcC L x.1 x.2.1 x.2.2.2=F0/\Tm L p0 x.2.2.2/\(0<x.1/\(x.2.2.2.e≠0\/L.length<x.1+x.2.2.2.at'))/\x.2.1.length+x.1<=L.length+1/\D.erdE x.2.2.1=x.2.1.map Dec.enc)
  (fun x=>mT) (fun x=>mB (L:=L) x.2.2.2 t b2 is x.2.2.1) (fun x=>x.1) (L.length+1,[],[],p0) ms ⟨hF,Tm.refl h,⟨by simp,.inr (by simp only;omega)⟩,by simp,rfl⟩ h0 fun⟨n,l,v,q⟩ ⟨i1,i2,i3,i4,i5⟩=>?_
 subst hb2
 unfold zgB
 simp only at i1 i2 i4 i5
 have i3:0<n/\(q.e≠0\/L.length<n+q.at'):=i3
 have hvl:v.length=l.length:=by rw[<-zoK,i5,aU]
 have hlt:=i2.lt
 obtain⟨n,rfl⟩:∃m,n=m+1:=⟨n-1,by omega⟩
 have hg:=zd9 hlt
 rw[zcC]at i1
 by_cases x:q.e=0
 ·by_cases k:(curT L q).kind=0
  ·rw[aB (by simp[k])]at i1
   subst i1
   simp[hg,x,k]
   refine⟨by decide,?_⟩
   exact hQ _ v (by simp) (by simp) (by simp) i5
  ·rw[aC ⟨x,k⟩]at i1
   have e1:=zai hL hlt (s:=zeZ)
   have e2:=e1.trans (zam hL e1.lt (s:=wFn))
   have e3:=e2.trans (zaR hL e2.lt)
   have e4:=e3.trans (znl hL _ e3.lt)
   have e5:=e4.trans (zfJ hL (zdH hL) _ e4.lt)
   have e6:=e5.trans (zam hL e5.lt (s:=bs [61]))
   have e7:=e6.trans (znk hL _ e6.lt)
   have e8:=e7.trans (zam hL e7.lt (s:=bs [59]))
   have c1:=zaJ zeZ q hlt hl
   have c2:=zaT hL wFn _ e1.lt hl
   have c3:=zcq _ e2.lt hl
   have c4:=zCf hL hl _ e3.lt (by rw[e3.deep,i2.deep,hd0])
   obtain⟨hx,hxd,c5⟩:=zA3 hL hl (zdH hL) (zDT hL hl) _ e4.lt (by rw[e4.deep,i2.deep,hd0])
   have c6:=zaT hL (bs [61]) _ e5.lt hl
   have c7:=zGq hL hl _ e6.lt (by rw[e6.deep,i2.deep,hd0])
   have c8:=zaT hL (bs [59]) _ e7.lt hl
   have hg1:=zd9 e1.lt
   unfold decP at i1
   simp only at i1
   generalize (zad L zeZ q).1=ex at*
   generalize (zad L zeZ q).2=q1 at*
   generalize zaA L wFn q1=q2 at*
   generalize (zaw L q2).1=nm at*
   generalize (zaw L q2).2=q3 at*
   generalize (zgp L q3).1=vs at*
   generalize (zgp L q3).2=q4 at*
   generalize (zcB L (kiP L) q4).1.1=pm at*
   generalize (zcB L (kiP L) q4).1.2=ty at*
   generalize (zcB L (kiP L) q4).2=q5 at*
   generalize zaA L (bs [61]) q5=q6 at*
   generalize (exP L q6).1=bd at*
   generalize (exP L q6).2=q7 at*
   have hlt8:=e8.lt
   have hon:(zaA L (bs [59]) q7).e≠0\/(zaA L (bs [59]) q7).at'=q7.at'+1:=zFf
   have hle7:=e7.le
   have hle8:=e8.le
   have hlen:L.length<n+1+q.at':=i3.2.resolve_left (by simp[x])
   have hn0:0<n:=by omega
   generalize zaA L (bs [59]) q7=q8 at*
   have hon':q8.e≠0\/L.length<n+q8.at':=by
    rcases hon with r|r
    ·exact .inl r
    ·exact .inr (by omega)
   simp[hg,x,k]
   refine⟨by decide,?_⟩
   refine gM [0] c1 (by simp[x]) ?_
   simp[hg1]
   refine⟨by decide,?_⟩
   refine gK [0] c2 ?_
   simp
   refine gK [0] c3 ?_
   simp
   refine gK [0] c4 ?_
   simp
   refine gK [0] c5 ?_
   rcases hxd with⟨rfl,hty⟩|⟨row,T,rfl,hrow,hrl,rfl⟩
   ·simp[hty]
    refine fP [] ?_
    simp
    refine gK [0] c6 ?_
    simp
    refine gK [0] c7 ?_
    simp
    refine gK [0] c8 ?_
    simp
    refine⟨by omega,?_⟩
    rw[aB (by omega)]at i1
    refine fD (n,l++[⟨nm,ex,vs,pm,ty,bd,(curT L q1).line,(curT L q1).col⟩],v++[[.str nm,.bool ex,.sl false 5 (vs.map encV),.str pm,.sl false 4 (ty.map Typ.enc)]++bd.enc++[.int .i64 (curT L q1).line,.int .i64 (curT L q1).col]],q8) [0,1,2,3,4,7] ⟨i1,i2.trans e8,⟨hn0,hon'⟩,by simp;omega,by simp[i5,Dec.enc]⟩ (by simp) ?_
    simp
    exact zpi _ _
   ·simp
    refine fP [7] ?_
    simp[zah]
    refine gK [0] c6 ?_
    simp[zah]
    refine gK [0] c7 ?_
    simp[zah]
    refine gK [0] c8 ?_
    simp[zah]
    refine⟨by omega,?_⟩
    rw[aC (by simp)]at i1
    have hn:noT.enc=[.int .i64 0,.str (bs []),.sl false 1 [],.sl false 4 []]:=rfl
    refine fD (n,l++[⟨nm,ex,vs,pm,[T]++[noT],bd,(curT L q1).line,(curT L q1).col⟩],v++[[.str nm,.bool ex,.sl false 5 (vs.map encV),.str pm,.sl false 4 [row,[.int .i64 0,.str (bs []),.sl true 1 [],.sl true 4 []]]]++bd.enc++[.int .i64 (curT L q1).line,.int .i64 (curT L q1).col]],q8) [0,1,2,3,4,8] ⟨i1,i2.trans e8,⟨hn0,hon'⟩,by simp;omega,by simp[i5,Dec.enc,hrow,hn]⟩ (by simp) ?_
    simp[zah]
    exact zpi _ _
 ·rw[aB (by simp[x])]at i1
  subst i1
  simp[hg,x]
  refine⟨by decide,?_⟩
  exact hQ _ v (by simp) (by simp) (by simp) i5
def zEV(hL:OkL L)(hl:L.length<=10000){c:Ctx}(hp:c.pure)(t:Nat × Nat)(b2:Blk)(hb2:b2=.box [.d (.sl true 4 []),.d (.sl true 15 [])])(p0:PS)(h:p0.at'<L.length)(F0:List Imp × PS)(hF:ze0 L (L.length+1) [] p0=F0){Q:Exit->St->Prop}{S:St}{g}{ms:List Nat}
  (h0:Match ms S mT (mB (L:=L) p0 t b2 [] []))
  (hQ:∀T M n,Abs.look T 0=.c (.ptr 0 0)->Abs.look T 2=.c (.ptr 2 0)->Abs.look T 3=.c (.ptr 3 0)->M 0=psB L F0.2->M 1=.pin t 0->M 2=b2->M 3=.box [.msl 4 4 0 F0.1.length,.msl 15 5 0 0]->M 4=.arr 4 ((F0.1.map Imp.enc).map (·.map .d))->M 5=.arr 15 []->Q (.exit 0) ⟨T,M,n⟩):lw_ Pg c zgA Q g S:=by
 refine fK zaa hp (fun x:Nat × List Imp × PS=>ze0 L x.1 x.2.1 x.2.2=F0/\Tm L p0 x.2.2/\L.length<x.1+x.2.2.at'/\x.2.1.length<=x.2.2.at')
  (fun x=>mT) (fun x=>mB (L:=L) x.2.2 t b2 x.2.1 []) (fun x=>x.1) (L.length+1,[],p0) ms ⟨hF,Tm.refl h,by simp only;omega,by simp⟩ h0 fun⟨n,l,q⟩ ⟨i1,i2,i3,i4⟩=>?_
 subst hb2
 unfold zgA
 simp only at i1 i2 i4
 have i3:L.length<n+q.at':=i3
 have hlt:=i2.lt
 obtain⟨n,rfl⟩:∃m,n=m+1:=⟨n-1,by omega⟩
 have hg:=zd9 hlt
 rw[ze0]at i1
 have c1:=zaJ zcZ q hlt hl
 by_cases x:q.e=0
 ·by_cases k:(zad L zcZ q).1=true
  ·rw[aC ⟨x,k⟩]at i1
   simp only at i1
   have e1:=zai hL hlt (s:=zcZ)
   have e2:=e1.trans (zaR hL e1.lt)
   have e3:=e2.trans (zam hL e2.lt (s:=bs [58]))
   have e4:=e3.trans (zkD hL (L.length+1) [] _ e3.lt)
   have e5:=e4.trans (zam hL e4.lt (s:=bs [59]))
   have c2:=zcq _ e1.lt hl
   have c3:=zaT hL (bs [58]) _ e2.lt hl
   have c4:=zz8 hL hl _ e3.lt
   have c5:=zaT hL (bs [59]) _ e4.lt hl
   have ha:=(take_at k).1
   have hle:(zad L zcZ q).2.at'<=(zaA L (bs [59]) (zcF L (L.length+1) [] (zaA L (bs [58]) (zaw L (zad L zcZ q).2).2)).2).at':=by
    have h1:=(zaR hL e1.lt).le
    have h2:=(zam hL e2.lt (s:=bs [58])).le
    have h3:=(zkD hL (L.length+1) [] _ e3.lt).le
    have h4:=(zam hL e4.lt (s:=bs [59])).le
    omega
   generalize (zad L zcZ q).2=q1 at*
   generalize (zaw L q1).1=nm at*
   generalize (zaw L q1).2=q2 at*
   generalize zaA L (bs [58]) q2=q3 at*
   generalize (zcF L (L.length+1) [] q3).1=ns at*
   generalize (zcF L (L.length+1) [] q3).2=q4 at*
   generalize zaA L (bs [59]) q4=q5 at*
   simp[hg,x]
   refine⟨by decide,?_⟩
   refine gM [0] c1 (by simp[x]) ?_
   simp[k]
   refine gK [0] c2 ?_
   simp
   refine gK [0] c3 ?_
   simp
   refine gK [0] c4 ?_
   simp
   refine gK [0] c5 ?_
   simp
   refine⟨by omega,?_⟩
   refine fD (n,l++[⟨nm,ns,(curT L q).line,(curT L q).col⟩],q5) [0,1,2,3,7,5] ⟨i1,i2.trans e5,by simp only;omega,by simp;omega⟩ (by simp) ?_
   simp[Imp.enc]
   exact zpi _ _
  ·rw[aB (fun z=>k z.2)]at i1
   subst i1
   rw[zaK k]at c1
   rw[aK]at k
   simp[hg,x]
   refine⟨by decide,?_⟩
   refine gM [0] c1 (by simp[x]) ?_
   simp[k]
   refine hQ _ _ _ (by simp) (by simp) (by simp) (by simp) (by simp) (by simp) (by simp) (by simp) (by simp)
 ·rw[aB (by simp[x])]at i1
  subst i1
  simp[hg,x]
  refine hQ _ _ _ (by simp) (by simp) (by simp) (by simp) (by simp) (by simp) (by simp) (by simp) (by simp)
def zy3(hL:OkL L)(hl:L.length<=10000)(p:PS)(h:p.at'<L.length)(hd:p.deep=0):
  MCall Pg 74 [.c (.ptr 0 0)] [psB L p] (.ag ((zfL L p).1.enc.map .d)) [psB L (zfL L p).2]:=by
 refine zus MS0 fun ts hts ok hb c hN hp=>?_
 obtain⟨t,rfl⟩:=za6 hts
 have k1:=zjM hL (L.length+1) [] _ h
 have k2:=znm hL (L.length+1) [] _ k1.lt
 obtain⟨I0,hI0⟩:∃F0,ze0 L (L.length+1) [] p=F0:=⟨_,rfl⟩
 unfold zmB zfL
 simp only
 rw[hI0]at k1 k2⊢
 obtain⟨D0,hD0⟩:∃F0,zcC L (L.length+1) [] I0.2=F0:=⟨_,rfl⟩
 rw[hD0]
 simp
 refine fQ [.c 3 0,.c 3 1] ?_
 simp
 refine zEV hL hl hp t _ rfl p h I0 hI0 (ms:=[0,1,2,3,4,5]) (by simp) fun T M n t0 t2 t3 m0 m1 m2 m3 m4 m5=>?_
 simp
 refine zEU hL hl hp t _ rfl I0.1 I0.2 (by rw[k1.deep,hd]) k1.lt D0 hD0 (ms:=[0,1,2,3,4,5]) (by simp[t0,t2,t3,m0,m1,m2,m3,m4,m5]) fun T v t0 t2 t3 hv=>?_
 simp[t0,t2,t3]
 refine fP [4,5] ?_
 have z:take I0.1.length (List.map Imp.enc I0.1)=List.map Imp.enc I0.1:=aF (by simp)
 simp[zah,t2,z, -List.map_map]
 exact fG [0] [1] (by simp[zah,Mdl.enc,hv, -List.map_map])
end
end Go.Gr
namespace Go.Gr
open Go.Abs Go.Proofs List
def zCo{l:List UInt8}(h:(tokL l).e=0):(tokL l).kind≠0:=by
 cases l with
 |nil=>simp[tokL,badR]at h
 |cons c r=>
  rw[tokL]at h⊢
  repeat' split
  all_goals simp_all[badR]
  all_goals (split<;>simp)
def zxj:∀(n:Nat) (l:List UInt8) (a b:Int) (ts:List Tok),l.length<n->ts.length<=8192->(∀t,t∈ts->t.kind≠0)->(lexL n l a b ts).2.e=0->
  ∃us x,(lexL n l a b ts).1=us++[x]/\x.kind=0/\(∀t,t∈us->t.kind≠0)/\us.length<=8192
 |0,l,_,_,_,h,_,_,_=>by omega
 | n+1,l,a,b,ts,h,hl,hk,he=>by
  rw[zxb]at he⊢
  by_cases q:l.drop (blkL false l)=[]
  ·rw[aC q]
   exact⟨ts,_,rfl,rfl,hk,hl⟩
  rw[aB q]at he⊢
  by_cases q2:(if(tokL (l.drop (blkL false l))).e=0/\ts.length=8192 then(19:Int)else(tokL (l.drop (blkL false l))).e)≠0
  ·rw[aC q2]at he
   exact absurd he q2
  rw[aB q2]at he⊢
  have q3:¬((tokL (l.drop (blkL false l))).e=0/\ts.length=8192):=fun z=>by rw[aC z]at q2;exact q2 (by decide)
  rw[aB q3]at q2
  have e0:(tokL (l.drop (blkL false l))).e=0:=bB fun z=>q2 z
  have htl:=zw8 e0
  refine zxj n _ _ _ _ ?_ ?_ ?_ he
  ·rw[dJ,dJ]at*;omega
  ·have:ts.length≠8192:=fun z=>q3 ⟨e0,z⟩
   simp;omega
  ·intro t ht
   rcases aQ.1 ht with ht|ht
   ·exact hk t ht
   ·simp at ht
    subst ht
    exact zCo e0
def znp{s:fC}(h:(lexP s).2.e=0):OkL (lexP s).1/\(lexP s).1.length<=10000:=by
 unfold lexP at h⊢
 split
 ·rename_i q;rw[aC q]at h;simp at h
 rename_i q
 rw[aB q]at h
 obtain⟨us,x,e,hx,hu,hl⟩:=zxj (s.size+1) s.data.toList 1 1 [] (by rw[zb3];omega) (by simp) (by simp) h
 rw[e]
 refine⟨⟨by simp,fun i hi hk=>?_⟩,by simp;omega⟩
 simp only[aX,length_singleton]at hi⊢
 rcases aW i us.length with h|h
 ·omega
 ·have:i=us.length:=by omega
  subst this
  exfalso;apply hk
  rw[aH,getElem?_append_right (aN _)]
  simpa using hx
def zCp(s:fC):MCall Pg 73 [.c (.d (.str s))] [] (.tup [.c (.ptr 0 0),.ag ((lexP s).2.enc.map .d)]) [psB (lexP s).1 ps0]:=by
 refine zut ⟨by simp,by simp,by simp,by simp,by simp,by simp[Dia.enc];rfl,by simp⟩ fun ts hts ok hb c hN hp=>?_
 have hts:ts=[]:=aT.1 hts
 subst hts
 unfold zmC
 simp
 refine gN (zFt s) ?_
 simp
 exact⟨by decide,fJ [2] [] (by simp[ps0])⟩
def zEt{L:List Tok}(hL:OkL L)(hl:L.length<=10000)(p:PS)(h:p.at'<L.length):MCall Pg 75 [.c (.ptr 0 0)] [psB L p] (.ag ((⟨0,(endP L p).line,(endP L p).col,(endP L p).e⟩:Dia).enc.map .d)) [psB L (endP L p)]:=by
 refine zAB ⟨by simp,by simp,by simp,by simp,by simp,by simp[Dia.enc],by simp⟩ fun ts hts ok hb c hN hp=>?_
 obtain⟨t,rfl⟩:=za6 hts
 have hg:=zd9 h
 have hf:=ziI (L:=L) 7 p h
 unfold zsb endP
 generalize curT L p=T at*
 by_cases h0:p.e=0<;>by_cases h1:T.kind=0
 ·simp[hg,h0,h1]
  exact⟨by decide,by decide,fJ [0] [1] (by simp[Dia.enc,h0,h1])⟩
 ·simp[hg,h0,h1]
  refine⟨by decide,?_⟩
  refine gM [0] hf (by simp[h0]) ?_
  simp
  exact⟨by decide,fJ [0] [1] (by simp[Dia.enc,h0,h1])⟩
 all_goals
  simp[hg,h0,h1]
  exact⟨by decide,by decide,fJ [0] [1] (by simp[Dia.enc,h0,h1])⟩
@[simp] theorem zH8(d:Dia):cut d.enc 0 4=d.enc:=rfl
@[simp] theorem zHy(d:Dia):cut (d.enc.map AC.d) 0 4=d.enc.map .d:=rfl
@[simp] theorem Dia.enc_3(d:Dia):d.enc[3]?=some (.int .i64 d.e):=rfl
@[simp] theorem Dia.enc_g3(d:Dia)(h:3<d.enc.length):d.enc[3]=.int .i64 d.e:=rfl
@[simp] theorem Dia.er_map(d:Dia):d.enc.map D.er=d.enc:=rfl
@[simp] theorem Mdl.er_map(d:Mdl):d.enc.map D.er=d.enc:=rfl
@[simp] theorem zH9(d:Mdl):cut d.enc 0 2=d.enc:=rfl
@[simp] theorem zHz(d:Mdl):cut (d.enc.map AC.d) 0 2=d.enc.map .d:=rfl
def zCq(s:fC):PCall Pg 46 [.one (.str s)] (.tup [.agg (zbE s).1.enc,.agg (zbE s).2.enc]):=by
 refine zwx (by simp) fun o c' hN hp=>?_
 have hb:=zCp s
 have hk:=znp (s:=s)
 obtain⟨F0,hF0⟩:∃F0,zbE s=F0:=⟨_,rfl⟩
 rw[hF0]
 unfold zbE at hF0
 simp only at hF0
 generalize (lexP s).1=L at*
 generalize (lexP s).2=d at*
 unfold zmD
 simp
 refine gK [] hb ?_
 simp
 by_cases h0:d.e=0
 rotate_left
 ·rw[aC h0]at hF0
  subst hF0
  simp[h0]
  exact⟨by decide,rfl⟩
 rw[aB (by simp[h0])]at hF0
 obtain⟨hL,hl⟩:=hk h0
 have c1:=zy3 hL hl ps0 hL.pos rfl
 have t1:=zz7 hL ps0 hL.pos
 generalize (zfL L ps0).1=M at*
 generalize (zfL L ps0).2=p at*
 have c2:=zEt hL hl p t1.lt
 generalize endP L p=q at*
 simp[h0]
 refine gM [2] c1 (by simp[ps0]) ?_
 simp
 refine gK [2] c2 ?_
 simp
 by_cases h1:q.e=0
 ·rw[aB (by simp[h1])]at hF0
  subst hF0
  simp[h1]
  decide
 ·rw[aC h1]at hF0
  subst hF0
  simp[h1]
  exact⟨by decide,rfl⟩
end Go.Gr
namespace Go.Gr
open Go.Abs Go.Proofs
mutual
def zbo:Typ->Int->Int
 |.mk _ _ _ l,m=>zbD l m 1
def zbD:List Typ->Int->Int->Int
 |[],_,n=>n
 |t::l,m,n=>if n<m then zbD l m (n+zbo t (m-n))else n
end
def zby:Nat->Typ->Int
 |0,_=>1
 |1,_=>1
 |n+2,t=>(t.kids.foldl (fun h k=>if h<zby (n+1) k then zby (n+1) k else h) 0)+1
def eqF{α:Type}(q:α->α->Bool):List α->List α->Bool
 |[],[]=>true
 |x::a,y::b=>q x y&&eqF q a b
 |_,_=>false
mutual
def zaV:Typ->Typ->Bool
 |.mk k n s l,u=>decide (k=u.kind)&&(decide (n=u.name)&&(decide (s=u.names)&&zbF l u.kids))
def zbF:List Typ->List Typ->Bool
 |[],[]=>true
 |t::l,u::r=>zaV t u&&zbF l r
 |[],_::_=>false
 |_::_,[]=>false
end
def bT(k:Int):Typ:=.mk k (bs []) [] []
def zaj(t:Typ):Int:=if t.kind<1\/6<t.kind then -1 else t.kind-1
def ltS(a b:fC):Bool:=Op.bytesLess a.data.toList b.data.toList
def posR(s:fC):List fC->Nat
 |[]=>0
 |n::l=>if ltS n s=true then posR s l+1 else 0
def recR:List fC->List Typ->List fC->List Typ->(List fC × List Typ) × Bool
 |s::ss,t::ts,ns,ks=>
  if zbg s=false\/ns[posR s ns]?=some s then((ns,ks),false)else recR ss ts (ns.take (posR s ns)++s::ns.drop (posR s ns)) (ks.take (posR s ns)++t::ks.drop (posR s ns))
 |_,_,ns,ks=>((ns,ks),true)
def zdM(ns:List fC)(ts:List Typ):Typ × Bool:=
 if ns.length≠ts.length\/16<ns.length then(.mk 5 (bs []) [] [],false)else(.mk 5 (bs []) (recR ns ts [] []).1.1 (recR ns ts [] []).1.2,(recR ns ts [] []).2)
def mems(k:Typ):List Typ:=if k.kind=7 then k.kids else [k]
def tagR(tag:Int):List Typ->Bool->List Typ->(Bool × List Typ) × Bool
 |[],had,ks=>((had,ks),true)
 | x::l,had,ks=>
  if x.kind=0 then((had,ks),false)else if zaj x≠tag then tagR tag l had ks else
   let ks':=if had then ks else ks++[x]
   if zaV x (ks'.getLastD noT)=true then tagR tag l true ks' else((true,ks'),false)
def zb4(all:List Typ):List Int->List Typ->List Typ × Bool
 |[],ks=>(ks,true)
 |tag::l,ks=>if(tagR tag all false ks).2=true then zb4 all l (tagR tag all false ks).1.2 else((tagR tag all false ks).1.2,false)
def zfc(kids:List Typ):Typ × Bool:=
 let r:=zb4 (kids.flatMap mems) [0,1,2,3,4,5] []
 if r.2=true then(match r.1 with
  |[t]=>(t,true)
  |l=>(.mk 7 (bs []) [] l,decide (0<l.length)))
 else(.mk 7 (bs []) [] r.1,false)
def finR(k:Int)(s:List fC)(l:List Typ):Typ × Bool:=
 if k=5 then zdM s l else if k=6 then(.mk 6 (bs []) [] l,decide (l.length=2))else zfc l
mutual
def za2:Typ->Typ × Bool
 |.mk k n s l=>if 5<=k/\k<=7 then(if(zaI l).2=true then finR k s (zaI l).1 else(noT,false))else if 0<=k/\k<=4 then(bT k,true)else(noT,false)
def zaI:List Typ->List Typ × Bool
 |[]=>([],true)
 |t::l=>if(za2 t).2=true then((za2 t).1::(zaI l).1,(zaI l).2)else([],false)
end
def za7(t:Typ):Typ × Int:=if 16<zby 17 t\/200<zbo t 201 then(noT,9)else if(za2 t).2=true then((za2 t).1,0)else(noT,9)
mutual
def zcL:Typ->Bool->fC
 | .mk k n s l,br=>
  if k=0 then bs [97,110,121]else if k=1 then bs [110,117,108,108]else if k=2 then bs [98,111,111,108]else if k=3 then bs [105,110,116]else if k=4 then bs [115,116,114]
  else if k=5 then bs [123]++zdf s l (bs []) 0++bs [125]
  else if k=6 then(match l with
   |a::b::_=>if br=true then bs [40]++(zcL a true++bs [32,45,62,32]++zcL b false)++bs [41]else zcL a true++bs [32,45,62,32]++zcL b false
   |_=>bs [])
  else zgW l (bs []) 0
def zdf:List fC->List Typ->fC->Nat->fC
 |s::ss,t::ts,out,i=>zdf ss ts ((if 0<i then out++bs [44,32]else out)++s++bs [58,32]++zcL t false) (i+1)
 |_,_,out,_=>out
def zgW:List Typ->fC->Nat->fC
 |t::ts,out,i=>zgW ts ((if 0<i then out++bs [32,124,32]else out)++zcL t true) (i+1)
 |[],out,_=>out
end
def isNR(t:Typ):Bool:=decide ((za7 t).2=0)&&zaV (za7 t).1 t
def zfj(t:Typ):fC:=if isNR t=true then zcL t false else bs []
structure Prt where
 tag:Int
 opn:Bool
 t:Typ
def Prt.enc(p:Prt):List D:=.int .i64 p.tag::.bool p.opn::p.t.enc
def noP:Prt:=⟨0,false,noT⟩
def zaL(t:Typ):List Prt:=
 if t.kind=0 then [⟨0,false,bT 1⟩,⟨1,false,bT 2⟩,⟨2,false,bT 3⟩,⟨3,false,bT 4⟩,⟨4,true,bT 5⟩,⟨5,false,.mk 6 (bs []) [] [noT,noT]⟩]
 else if t.kind≠7 then [⟨zaj t,false,t⟩]else t.kids.map fun k=>⟨zaj k,false,k⟩
def zaM(l:List Prt)(tag:Int):Prt × Bool:=match l.find? fun p=>decide (p.tag=tag)with
 |some p=>(p,true)
 |none=>(noP,false)
def za3:List fC->List Typ->fC->Typ × Bool
 |n::ns,k::ks,s=>if n=s then(k,true)else za3 ns ks s
 |_,_,_=>(noT,false)
def zaD(t:Typ)(s:fC):Typ × Bool:=za3 t.names t.kids s
def zeM(rc:Typ->Typ->Bool)(m:Typ):List fC->List Typ->Bool
 |s::ss,k::ks=>(zaD m s).2&&(rc (zaD m s).1 k&&zeM rc m ss ks)
 |_,_=>true
def kid0(t:Typ):Typ:=t.kids.getD 0 noT
def kid1(t:Typ):Typ:=t.kids.getD 1 noT
def zc3 (loose:Bool):Nat->Typ->Typ->Bool
 |0,_,_=>false
 | n+1,a,b=>
  if a.kind=0\/b.kind=0 then loose||decide (a.kind=b.kind)else
   (zaL a).all fun p=>
    let q:=zaM (zaL b) p.tag
    q.2&&(zeM (zc3 loose n) p.t q.1.t.names q.1.t.kids&&(!decide (q.1.tag=5)||(zc3 loose n (kid0 q.1.t) (kid0 p.t)&&zc3 loose n (kid1 p.t) (kid1 q.1.t))))
mutual
def dpt:Typ->Nat
 |.mk _ _ _ l=>dpts l+1
def dpts:List Typ->Nat
 |[]=>0
 |t::l=>max (dpt t) (dpts l)
end
def belR(loose:Bool)(a b:Typ):Bool:=zc3 loose (dpt a+dpt b) a b
def SubR(a b:Typ):Bool:=isNR a&&(isNR b&&belR false a b)
def zhR(a b:Typ):Bool:=isNR a&&(isNR b&&belR true a b)
def zgX(a b:Typ):List Int->List Typ->Option (List Typ)
 |[],l=>some l
 | tag::r,l=>
  let m:=zaM (zaL a) tag
  let n:=zaM (zaL b) tag
  if m.2=true/\n.2=true then
   (if belR false m.1.t n.1.t=true then zgX a b r (l++[n.1.t])else if belR false n.1.t m.1.t=true then zgX a b r (l++[m.1.t])else none)
  else if m.2=true then zgX a b r (l++[m.1.t])else if n.2=true then zgX a b r (l++[n.1.t])else zgX a b r l
def zgc(a b:Typ):Typ:=
 if SubR a b=true then b else if SubR b a=true then a
 else if isNR a=false\/isNR b=false\/a.kind=0\/b.kind=0 then noT
 else match zgX a b [0,1,2,3,4,5] []with
  |none=>noT
  |some l=>if(za7 (.mk 7 (bs []) [] l)).2=0 then(za7 (.mk 7 (bs []) [] l)).1 else noT
def zcs(t:Typ)(tag:Int):Typ × Typ:=
 if isNR t=false\/tag<0\/6<=tag then(t,t)
 else if t.kind=0 then(if tag=5 then(t,t)else(bT (1+tag),t))
 else if(zaM (zaL t) tag).2=false then(t,t)
 else if t.kind≠7 then(t,t)
 else match t.kids.filter fun k=>decide (zaj k≠tag)with
  |[r]=>((zaM (zaL t) tag).1.t,r)
  |l=>((zaM (zaL t) tag).1.t,.mk 7 (bs []) [] l)
def fi{α:Type}(q:α->Bool):Nat->List α->Int
 |_,[]=> -1
 |j,x::l=>if q x=true then j else fi q (j+1) l
def modZ(names:List fC)(s:fC):Int:=fi (fun n=>decide (n=s)) 0 names
structure Ent where
 name:fC
 module:Int
 decl:Int
def Ent.enc(e:Ent):List D:=[.str e.name,.int .i64 e.module,.int .i64 e.decl]
def noE:Ent:=⟨bs [],0,0⟩
structure Lnk where
 names:List fC
 mods:List Mdl
 scopes:List (List Ent)
 main:Ent
def Lnk.enc(l:Lnk):List D:=[.sl false 1 (encS l.names),.sl false 2 (l.mods.map Mdl.enc),.sl false 1 (l.scopes.map fun s=>[.sl false 3 (s.map Ent.enc)])]++l.main.enc
def noL:Lnk:=⟨[],[],[],noE⟩
def zbQ:List (fC × fC)->Nat->List fC->List Mdl->List Dia->(List fC × List Mdl) × List Dia
 |[],_,ns,ms,bad=>((ns,ms),bad)
 |s::l,i,ns,ms,bad=>
  let m:=zbE s.2
  zbQ l (i+1) (ns++[s.1]) (ms++[m.1]) (if zbg s.1=false then bad++[⟨i,1,1,10⟩]else if 0<=modZ ns s.1 then bad++[⟨i,1,1,8⟩]else if m.2.e≠0 then bad++[⟨i,m.2.line,m.2.col,m.2.e⟩]else bad)
def zcE(l:List (fC × fC)):(List fC × List Mdl) × List Dia:=
 if 16<l.length then(([],[]),[⟨16,1,1,19⟩])else zbQ l 0 [] [] []
def zcf:List Ent->fC->Ent × Bool
 |[],_=>(noE,false)
 |e::l,s=>if e.name=s then(e,true)else zcf l s
def zc7(m:Mdl)(s:fC):Int:=fi (fun d:Dec=>decide (d.name=s)) 0 m.decs
def zjs:Dec:=⟨bs [],false,[],bs [],[],noN,0,0⟩
def impN(M:Mdl)(m i:Int)(x:Imp):List fC->List Ent->List Dia->List Ent × List Dia
 |[],sc,bad=>(sc,bad)
 |s::l,sc,bad=>
  if zc7 M s<0\/(M.decs.getD (zc7 M s).toNat zjs).exp=false then impN M m i x l sc (bad++[⟨i,x.line,x.col,12⟩])
  else if(zcf sc s).2=true then impN M m i x l sc (bad++[⟨i,x.line,x.col,8⟩])
  else impN M m i x l (sc++[⟨s,m,zc7 M s⟩]) bad
def zcl(ns:List fC)(ms:List Mdl)(i:Int)(x:Imp)(sc:List Ent):List Ent × List Dia:=
 if modZ ns x.from_<0 then(sc,[⟨i,x.line,x.col,11⟩])else impN (ms.getD (modZ ns x.from_).toNat noM) (modZ ns x.from_) i x x.names sc []
def zgY(ns:List fC)(ms:List Mdl)(i:Int):List Imp->List Ent->List Dia->List Ent × List Dia
 |[],sc,bad=>(sc,bad)
 |x::l,sc,bad=>zgY ns ms i l (zcl ns ms i x sc).1 (bad++(zcl ns ms i x sc).2)
def zgj(i:Int):List Dec->Nat->List Ent->List Dia->List Ent × List Dia
 |[],_,sc,bad=>(sc,bad)
 |d::l,k,sc,bad=>if(zcf sc d.name).2=true then zgj i l (k+1) sc (bad++[⟨i,d.line,d.col,8⟩])else zgj i l (k+1) (sc++[⟨d.name,i,k⟩]) bad
def zcg(ns:List fC)(ms:List Mdl):List Mdl->Nat->List (List Ent)->List Dia->List (List Ent) × List Dia
 |[],_,all,bad=>(all,bad)
 |m::l,i,all,bad=>
  let a:=zgY ns ms i m.imps [] bad
  let b:=zgj i m.decs 0 a.1 a.2
  zcg ns ms l (i+1) (all++[b.1]) b.2
def zgZ(ns:List fC):List Imp->List Bool->List Bool
 |[],seen=>seen
 |x::l,seen=>zgZ ns l (if 0<=modZ ns x.from_ then seen.set (modZ ns x.from_).toNat true else seen)
def zhT(ns:List fC):List Mdl->Nat->List Bool->List Bool
 |[],_,seen=>seen
 |m::l,i,seen=>zhT ns l (i+1) (if seen.getD i false=true then zgZ ns m.imps seen else seen)
def zqV(ns:List fC)(ms:List Mdl):Nat->List Bool->List Bool
 |0,seen=>seen
 |n+1,seen=>zqV ns ms n (zhT ns ms 0 seen)
def zgN(ns:List fC)(ms:List Mdl)(f t:Nat):Bool:=(zqV ns ms ms.length ((List.replicate ms.length false).set f true)).getD t false
def zfd(ns:List fC)(ms:List Mdl)(i:Nat):List Imp->List Dia->List Dia
 |[],bad=>bad
 |x::l,bad=>zfd ns ms i l (if 0<=modZ ns x.from_/\zgN ns ms (modZ ns x.from_).toNat i=true then bad++[⟨i,x.line,x.col,13⟩]else bad)
def zfe(ns:List fC)(ms:List Mdl):List Mdl->Nat->List Dia->List Dia
 |[],_,bad=>bad
 |m::l,i,bad=>zfe ns ms l (i+1) (zfd ns ms i m.imps bad)
abbrev zdW:=bs [109,97,105,110]
def zgk(l:List (fC × fC)):Lnk × List Dia:=
 let f:=zcE l
 if 0<f.2.length then(noL,f.2)else
 let s:=zcg f.1.1 f.1.2 f.1.2 0 [] []
 if 0<s.2.length then(noL,s.2)else
 let t:=zfe f.1.1 f.1.2 f.1.2 0 []
 if 0<t.length then(noL,t)else
 let i:=modZ f.1.1 zdW
 if i<0 then(noL,[⟨0,1,1,14⟩])else
 let k:=zc7 (f.1.2.getD i.toNat noM) zdW
 if k<0 then(noL,[⟨i,1,1,14⟩])else
 let d:=(f.1.2.getD i.toNat noM).decs.getD k.toNat zjs
 if 0<d.vars.length then(noL,[⟨i,d.line,d.col,14⟩])else
 (⟨f.1.1,f.1.2,s.1,⟨zdW,i,k⟩⟩,[])
def zgl:List fC->List Typ->fC->Option Typ
 |v::vs,t::ts,s=>if v=s then some t else zgl vs ts s
 |_,_,_=>none
mutual
def zcS(vars:List fC)(wth:List Typ):Typ->Typ × Bool
 | .mk k n s l=>
  if k=8 then(if 0<s.length\/0<l.length then(.mk k n s l,false)else match zgl vars wth n with
   |some t=>(t,true)
   |none=>(.mk k n s l,false))
  else if(zeD vars wth l).2=true then(.mk k n s (zeD vars wth l).1,true)else(.mk k n s l,false)
def zeD(vars:List fC)(wth:List Typ):List Typ->List Typ × Bool
 |[]=>([],true)
 |t::l=>if(zcS vars wth t).2=true then((zcS vars wth t).1::(zeD vars wth l).1,(zeD vars wth l).2)else([],false)
end
def zba(t:Typ)(vars:List fC)(wth:List Typ):Typ × Int:=
 if vars.length≠wth.length then(noT,1)else if 200<zbo t 201\/16<zby 17 t then(noT,9)
 else if(zcS vars wth t).2=true then za7 (zcS vars wth t).1 else(noT,9)
def zqW:List (fC × Typ)->List Typ->List fC->List Typ->Int
 |v::vs,t::ts,names,had=>
  if isNR t=false then 18
  else if v.2.kind≠0/\((zba v.2 names had).2≠0\/SubR t (zba v.2 names had).1=false)then 18
  else zqW vs ts (names++[v.1]) (had++[t])
 |_,_,_,_=>0
def znL(vars:List (fC × Typ))(l:List Typ):Int:=if vars.length≠l.length then 18 else zqW vars l [] []
structure Ist where
 module:Int
 decl:Int
 types:List Typ
def Ist.enc(x:Ist):List D:=[.int .i64 x.module,.int .i64 x.decl,.sl false 4 (x.types.map Typ.enc)]
def zhU(a b:Ist):Bool:=decide (a.module=b.module)&&(decide (a.decl=b.decl)&&eqF zaV a.types b.types)
def addR(most:Int)(L:List Ist)(x:Ist):(Int × Int) × List Ist:=
 if(x.types.all isNR)=false then((0,9),L)
 else if 0<=fi (fun y=>zhU y x) 0 L then((fi (fun y=>zhU y x) 0 L,0),L)
 else if most<=L.length then((0,19),L)else((L.length,0),L++[x])
end Go.Gr
