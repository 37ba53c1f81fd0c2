/- Texts of ours, joined and written short by a program of ours. -/
import Derived.Test.YtlfjlokfciejnaaGreatDoorJ06
set_option maxRecDepth 20000
set_option maxHeartbeats 4000000
set_option linter.all false
namespace Go.Gr
open Go.Abs Go.Proofs
section
variable {L:List Tok}
def Tame{α:Type}(L:List Tok)(f:PS->α × PS):Prop:=∀p,p.at'<L.length->Tm L p (f p).2
def zj6(hL:OkL L):∀(l:List fC) (i:Nat) {p q:PS} {k:Nat},p.at'<L.length->zdX L i l p=some (k,q)->Tm L p q/\p.at'<q.at'/\p.e=0/\k<i+l.length
 |[],_,_,_,_,_,h=>by rw[zdX]at h;cases h
 | s::l,i,p,q,k,hp,h=>by
  rw[zdX]at h
  split at h
  ·rename_i c
   simp only[ah,bU]at h
   obtain⟨rfl,rfl⟩:=h
   have:=take_at c
   exact⟨zai hL hp,by omega,this.2,by simp⟩
  ·have:=zj6 hL l (i+1) hp h
   simp only[List.length_cons]
   exact⟨this.1,this.2.1,this.2.2.1,by omega⟩
def zgI(hL:OkL L):∀(l:List fC) {p q:PS} {k:fC},p.at'<L.length->zeW L l p=some (k,q)->Tm L p q/\p.at'<q.at'/\p.e=0
 |[],_,_,_,_,h=>by rw[zeW]at h;cases h
 | s::l,p,q,k,hp,h=>by
  rw[zeW]at h
  split at h
  ·rename_i c
   simp only[ah,bU]at h
   obtain⟨rfl,rfl⟩:=h
   have:=take_at c
   exact⟨zai hL hp,by omega,this.2⟩
  ·exact zgI hL l hp h
def zsq(hL:OkL L){ki:PS->Typ × PS}(hk:Tame L ki):∀(n:Nat) (ns:List fC) (ks:List Typ),Tame L (zeV L ki n ns ks)
 |0,ns,ks,p,hp=>Tm.refl hp
 |n+1,ns,ks,p,hp=>by
  have h1:=zaR hL hp
  have h2:=h1.trans (zam hL h1.lt (s:=bs [58]))
  have h3:=h2.trans (hk _ h2.lt)
  have h4:=h3.trans (zai hL h3.lt (s:=bs [44]))
  rw[zeV]
  split
  ·exact h4.trans (zsq hL hk n _ _ _ h4.lt)
  ·exact h4
def zCX(hL:OkL L){ki:PS->Typ × PS}(hk:Tame L ki):Tame L (zqX L ki):=fun p hp=>by
 unfold zqX
 by_cases c1:(zad L (bs [40]) p).1=true
 ·rw[aC c1]
  have h1:=zai hL hp (s:=bs [40])
  have h2:=h1.trans (hk _ h1.lt)
  exact h2.trans (zam hL h2.lt)
 rw[aB c1]
 by_cases c2:(zad L (bs [123]) p).1=true
 ·rw[aC c2]
  have h1:=zai hL hp (s:=bs [123])
  by_cases c3:(zad L (bs [125]) (zad L (bs [123]) p).2).1=true
  ·rw[aC c3]
   exact h1.trans (zai hL h1.lt)
  ·rw[aB c3]
   have h2:=h1.trans (zsq hL hk (L.length+1) [] [] _ h1.lt)
   exact h2.trans (zam hL h2.lt)
 rw[aB c2]
 exact zaR hL hp
def zj7(hL:OkL L){ki:PS->Typ × PS}(hk:Tame L ki):Tame L (zcA L ki):=fun p hp=>by
 unfold zcA
 cases e:zdX L 0 zeU p with
 |some x=>exact(zj6 hL _ _ hp e).1
 |none=>exact zCX hL hk p hp
def zxB(hL:OkL L){ki:PS->Typ × PS}(hk:Tame L ki):∀(n:Nat) (l:List Typ),Tame L (altN L ki n l)
 |0,l,p,hp=>Tm.refl hp
 | n+1,l,p,hp=>by
  rw[altN]
  split
  ·have h1:=zai hL hp (s:=bs [124])
   have h2:=h1.trans (zj7 hL hk _ h1.lt)
   exact h2.trans (zxB hL hk n _ _ h2.lt)
  ·exact Tm.refl hp
def zAQ(hL:OkL L){ki:PS->Typ × PS}(hk:Tame L ki):Tame L (altP L ki):=fun p hp=>by
 have h1:=zj7 hL hk p hp
 unfold altP
 exact h1.trans (zxB hL hk (L.length+1) _ _ h1.lt)
def zkQ{p:PS}(h:¬(zau L p).1=true):(zau L p).2=zgm L p:=by
 unfold zau at h⊢
 split
 ·rfl
 ·rename_i q;rw[aB q]at h;exact absurd rfl h
def zcX{p:PS}(h:(zau L p).1=true):(zau L p).2={p with deep:=p.deep+1}/\p.deep<100/\p.e=0:=by
 unfold zau at h⊢
 split
 ·rename_i q;rw[aC q]at h;cases h
 ·rename_i q
  have hd:p.deep<100:=by
   rcases aW p.deep 100 with r|r
   ·exact r
   ·exfalso
    apply q
    unfold zgm
    rw[aC r]
    exact znc (by decide)
  have e:zgm L p=p:=by unfold zgm;rw[aB (by omega)]
  rw[e]at q⊢
  exact⟨rfl,hd,by simpa using q⟩
def zo8{α:Type}{p:PS}{x:α × PS}(h:(zau L p).1=true)(hp:p.at'<L.length)(k:Tm L (zau L p).2 x.2):Tm L p (zds x).2:=by
 obtain⟨e,_,h0⟩:=zcX h
 rw[e]at k
 have hd:=k.deep
 simp only at hd
 exact⟨by simp only[zds];omega,k.le,k.lt,fun x=>absurd h0 x⟩
def zCY(hL:OkL L){ki:PS->Typ × PS}(hk:Tame L ki):Tame L (zqY L ki):=fun p hp=>by
 have h1:=zAQ hL hk p hp
 have h2:=h1.trans (zai hL h1.lt (s:=bs [45,62]))
 unfold zqY
 by_cases c2:(zad L (bs [45,62]) (altP L ki p).2).1=true
 ·show Tm L p (if(zad L (bs [45,62]) (altP L ki p).2).1=true then _ else _:Typ × PS).2
  rw[aC c2]
  exact h2.trans (hk _ h2.lt)
 ·show Tm L p (if(zad L (bs [45,62]) (altP L ki p).2).1=true then _ else _:Typ × PS).2
  rw[aB c2]
  exact h2
def zrr(hL:OkL L)(d:Nat):Tame L (zeo L d):=by
 induction d with
 |zero=>exact fun p hp=>Tm.refl hp
 | succ d ih=>
  intro p hp
  rw[zeo]
  show Tm L p (if(zau L p).1=true then _ else _:Typ × PS).2
  by_cases c:(zau L p).1=true
  ·rw[aC c]
   have hp':(zau L p).2.at'<L.length:=by rw[(zcX c).1];exact hp
   exact zo8 c hp (zCY hL ih _ hp')
  ·rw[aB c,zkQ c];exact znN hp
def zeb(hL:OkL L){ki:PS->Typ × PS}(hk:Tame L ki):Tame L (zbW L ki):=fun p hp=>by
 unfold zbW
 split
 ·have h1:=zai hL hp (s:=bs [58])
  exact h1.trans (hk _ h1.lt)
 ·exact Tm.refl hp
def zfJ(hL:OkL L){ki:PS->Typ × PS}(hk:Tame L ki):Tame L (zcB L ki):=fun p hp=>by
 unfold zcB
 have h1:=zam hL hp (s:=bs [40])
 have h2:=h1.trans (zaR hL h1.lt)
 have h3:=h2.trans (zeb hL hk _ h2.lt)
 have h4:=h3.trans (zam hL h3.lt (s:=bs [41]))
 exact h4.trans (zeb hL hk _ h4.lt)
def zrs(hL:OkL L){ki:PS->Typ × PS}{ex rk:PS->Nod × PS}(hk:Tame L ki)(he:Tame L ex)(hr:Tame L rk):Tame L (zg0 L ki ex rk):=fun p hp=>by
 unfold zg0
 split
 ·have h1:=zai hL hp (s:=wLet)
  have h2:=h1.trans (zaR hL h1.lt)
  have h3:=h2.trans (zeb hL hk _ h2.lt)
  have h4:=h3.trans (zam hL h3.lt (s:=bs [61]))
  have h5:=h4.trans (he _ h4.lt)
  have h6:=h5.trans (zam hL h5.lt (s:=bs [59]))
  exact h6.trans (he _ h6.lt)
 ·split
  ·have h1:=zai hL hp (s:=wIf)
   have h2:=h1.trans (he _ h1.lt)
   have h3:=h2.trans (zam hL h2.lt (s:=zk9))
   have h4:=h3.trans (he _ h3.lt)
   have h5:=h4.trans (zam hL h4.lt (s:=zla))
   exact h5.trans (he _ h5.lt)
  ·split
   ·have h1:=zai hL hp (s:=wFn)
    have h2:=h1.trans (zfJ hL hk _ h1.lt)
    have h3:=h2.trans (zam hL h2.lt (s:=bs [61,62]))
    exact h3.trans (he _ h3.lt)
   ·exact hr p hp
def zj8(hL:OkL L){rk:PS->Nod × PS}(hr:Tame L rk)(signs:List fC):∀(n:Nat) (a:Nod),Tame L (opsP L rk signs n a)
 |0,a,p,hp=>Tm.refl hp
 | n+1,a,p,hp=>by
  rw[opsP]
  split
  ·exact Tm.refl hp
  ·rename_i s q h
   have h1:=(zgI hL _ hp h).1
   have h2:=h1.trans (hr _ h1.lt)
   exact h2.trans (zj8 hL hr signs n _ _ h2.lt)
def zFQ(hL:OkL L){ki:PS->Typ × PS}{rk:PS->Nod × PS}(hk:Tame L ki)(hr:Tame L rk):Tame L (cmpP L ki rk):=fun p hp=>by
 have h0:=hr p hp
 unfold cmpP
 simp only
 split
 ·rename_i s q h
  have h1:=h0.trans (zgI hL _ h0.lt h).1
  exact h1.trans (hr _ h1.lt)
 ·split
  ·have h1:=h0.trans (zai hL h0.lt (s:=bs [97,115]))
   exact h1.trans (hk _ h1.lt)
  ·split
   ·have h1:=h0.trans (zai hL h0.lt (s:=bs [105,115]))
    split
    ·rename_i i q h
     exact h1.trans (zj6 hL _ _ h1.lt h).1
    ·exact h1.trans (zh2 h1.lt)
   ·exact h0
def zj9(hL:OkL L){ki:PS->Typ × PS}{un:PS->Nod × PS}(hk:Tame L ki)(hu:Tame L un):Tame L (zlb L un)/\Tame L (zlc L un)/\Tame L (zqZ L un)/\Tame L (zld L ki un)/\Tame L (zle L ki un)/\Tame L (zq0 L ki un):=by
 have h5:Tame L (zlb L un):=fun p hp=>(hu p hp).trans (zj8 hL hu _ _ _ _ (hu p hp).lt)
 have h4:Tame L (zlc L un):=fun p hp=>(h5 p hp).trans (zj8 hL h5 _ _ _ _ (h5 p hp).lt)
 have h3:Tame L (zqZ L un):=fun p hp=>(h4 p hp).trans (zj8 hL h4 _ _ _ _ (h4 p hp).lt)
 have h2:Tame L (zld L ki un):=zFQ hL hk h3
 have h1:Tame L (zle L ki un):=fun p hp=>(h2 p hp).trans (zj8 hL h2 _ _ _ _ (h2 p hp).lt)
 have h0:Tame L (zq0 L ki un):=fun p hp=>(h1 p hp).trans (zj8 hL h1 _ _ _ _ (h1 p hp).lt)
 exact⟨h5,h4,h3,h2,h1,h0⟩
def zo9(hL:OkL L){ki:PS->Typ × PS}(hk:Tame L ki):∀(n:Nat) (l:List Typ),Tame L (zdt L ki n l)
 |0,l,p,hp=>Tm.refl hp
 |n+1,l,p,hp=>by
  have h1:=hk p hp
  have h2:=h1.trans (zai hL h1.lt (s:=bs [44]))
  rw[zdt]
  split
  ·exact h2.trans (zo9 hL hk n _ _ h2.lt)
  ·exact h2.trans (zam hL h2.lt)
def zka(hL:OkL L){ex:PS->Nod × PS}(he:Tame L ex):∀(n:Nat) (ns:List fC) (ks:List Nod),Tame L (zdu L ex n ns ks)
 |0,ns,ks,p,hp=>Tm.refl hp
 |n+1,ns,ks,p,hp=>by
  have h1:=zaR hL hp
  have h2:=h1.trans (zam hL h1.lt (s:=bs [58]))
  have h3:=h2.trans (he _ h2.lt)
  have h4:=h3.trans (zai hL h3.lt (s:=bs [44]))
  rw[zdu]
  split
  ·exact h4.trans (zka hL he n _ _ _ h4.lt)
  ·exact h4
def zAR(hL:OkL L){ex:PS->Nod × PS}(he:Tame L ex)(q:PS):Tame L (zct L ex q):=fun p hp=>by
 unfold zct
 split
 ·exact zai hL hp
 ·split
  ·have h1:=he p hp
   have h2:=h1.trans (zam hL h1.lt (s:=zlf))
   have h3:=h2.trans (zaR hL h2.lt)
   have h4:=h3.trans (zam hL h3.lt (s:=bs [58]))
   have h5:=h4.trans (he _ h4.lt)
   exact h5.trans (zam hL h5.lt)
  ·have h1:=zka hL he (L.length+1) [] [] p hp
   exact h1.trans (zam hL h1.lt)
def zAS(hL:OkL L){p:PS}(hp:p.at'<L.length)(h:p.e=0/\(curT L p).kind≠0):Tm L p {p with at':=p.at'+1}:=
 ⟨rfl,by simp,hL.mid _ hp h.2,fun x=>absurd h.1 x⟩
def znv(hL:OkL L){ki:PS->Typ × PS}{ex:PS->Nod × PS}(hk:Tame L ki)(he:Tame L ex):Tame L (zeY L ki ex):=fun p hp=>by
 unfold zeY
 by_cases c1:p.e=0/\(curT L p).kind=3
 ·rw[aC c1];exact zAS hL hp ⟨c1.1,by omega⟩
 rw[aB c1]
 by_cases c2:p.e=0/\(curT L p).kind=4
 ·rw[aC c2];exact zAS hL hp ⟨c2.1,by omega⟩
 rw[aB c2]
 by_cases c3:(zad L zlg p).1=true
 ·rw[aC c3];exact zai hL hp
 rw[aB c3]
 by_cases c4:(zad L ziV p).1=true
 ·rw[aC c4];exact zai hL hp
 rw[aB c4]
 by_cases c5:(zad L zlh p).1=true
 ·rw[aC c5];exact zai hL hp
 rw[aB c5]
 by_cases c6:(zad L zgn p).1=true
 ·rw[aC c6]
  have h1:=zai hL hp (s:=zgn)
  have h2:=h1.trans (zam hL h1.lt (s:=bs [40]))
  exact h2.trans (zam hL h2.lt)
 rw[aB c6]
 by_cases c7:(zad L zd3 p).1=true
 ·rw[aC c7]
  have h1:=zai hL hp (s:=zd3)
  have h2:=h1.trans (zam hL h1.lt (s:=bs [40]))
  have h3:=h2.trans (he _ h2.lt)
  exact h3.trans (zam hL h3.lt)
 rw[aB c7]
 by_cases c8:(zad L (bs [40]) p).1=true
 ·rw[aC c8]
  have h1:=zai hL hp (s:=bs [40])
  have h2:=h1.trans (he _ h1.lt)
  exact h2.trans (zam hL h2.lt)
 rw[aB c8]
 by_cases c9:(zad L (bs [123]) p).1=true
 ·rw[aC c9]
  have h1:=zai hL hp (s:=bs [123])
  exact h1.trans (zAR hL he p _ h1.lt)
 rw[aB c9]
 have h1:=zaR hL hp
 by_cases c10:(zad L (bs [91]) (zaw L p).2).1=true
 ·have h2:=h1.trans (zai hL h1.lt (s:=bs [91]))
  have h3:=h2.trans (zo9 hL hk (L.length+1) [] _ h2.lt)
  show Tm L p (if(zad L (bs [91]) (zaw L p).2).1=true then _ else _:Nod × PS).2
  rw[aC c10]
  exact h3
 ·show Tm L p (if(zad L (bs [91]) (zaw L p).2).1=true then _ else _:Nod × PS).2
  rw[aB c10]
  exact h1
def zpa(hL:OkL L){ex:PS->Nod × PS}(he:Tame L ex):∀(n:Nat) (a:Nod),Tame L (zcT L ex n a)
 |0,a,p,hp=>Tm.refl hp
 | n+1,a,p,hp=>by
  rw[zcT]
  split
  ·have h1:=zai hL hp (s:=bs [40])
   have h2:=h1.trans (he _ h1.lt)
   have h3:=h2.trans (zam hL h2.lt (s:=bs [41]))
   exact h3.trans (zpa hL he n _ _ h3.lt)
  ·split
   ·have h1:=zai hL hp (s:=bs [46])
    have h2:=h1.trans (zaR hL h1.lt)
    exact h2.trans (zpa hL he n _ _ h2.lt)
   ·exact Tm.refl hp
def zxC(hL:OkL L){ki:PS->Typ × PS}{ex:PS->Nod × PS}(hk:Tame L ki)(he:Tame L ex):Tame L (zli L ki ex):=fun p hp=>by
 have h1:=znv hL hk he p hp
 unfold zli
 exact h1.trans (zpa hL he _ _ _ h1.lt)
def zCZ(hL:OkL L){ki:PS->Typ × PS}{ex un:PS->Nod × PS}(hk:Tame L ki)(he:Tame L ex)(hu:Tame L un):Tame L (zff L ki ex un):=fun p hp=>by
 unfold zff
 split
 ·have h1:=zai hL hp (s:=bs [45])
  exact h1.trans (hu _ h1.lt)
 ·split
  ·have h1:=zai hL hp (s:=wNot)
   exact h1.trans (hu _ h1.lt)
  ·exact zxC hL hk he p hp
def zqw(hL:OkL L){ki:PS->Typ × PS}(hk:Tame L ki)(d:Nat):Tame L (euP L ki d).1/\Tame L (euP L ki d).2:=by
 induction d with
 |zero=>exact⟨fun p hp=>Tm.refl hp,fun p hp=>Tm.refl hp⟩
 | succ d ih=>
  rw[euP]
  refine⟨fun p hp=>?_,fun p hp=>?_⟩
  ·show Tm L p (if(zau L p).1=true then _ else _:Nod × PS).2
   by_cases c:(zau L p).1=true
   ·rw[aC c]
    have hp':(zau L p).2.at'<L.length:=by rw[(zcX c).1];exact hp
    exact zo8 c hp (zrs hL hk ih.1 (zj9 hL hk ih.2).2.2.2.2.2 _ hp')
   ·rw[aB c,zkQ c];exact znN hp
  ·show Tm L p (if(zau L p).1=true then _ else _:Nod × PS).2
   by_cases c:(zau L p).1=true
   ·rw[aC c]
    have hp':(zau L p).2.at'<L.length:=by rw[(zcX c).1];exact hp
    exact zo8 c hp (zCZ hL hk ih.1 ih.2 _ hp')
   ·rw[aB c,zkQ c];exact znN hp
end
end Go.Gr
namespace Go.Gr
open Go.Abs Go.Proofs
def za6{ts:List (Nat × Nat)}{b:Blk}(h:ts.length=[b].length):∃t,ts=[t]:=by
 match ts,h with
 |[t],_=>exact⟨t,rfl⟩
abbrev psB(L:List Tok)(p:PS):Blk:=.box [.d (.sl false 4 (L.map Tok.enc)),.d (.int .i64 p.at'),.d (.int .i64 p.deep),.d (.int .i64 p.e),.d (.int .i64 p.line),.d (.int .i64 p.col)]
section
variable {L:List Tok}
def zd9{p:PS}(h:p.at'<L.length):L[p.at']?=some (curT L p):=by
 unfold curT
 rw[aH,aA h];try rfl
def ziI(e:Int)(p:PS)(h:p.at'<L.length):MCall Pg 127 [.c (.ptr 0 0),.c (.d (.int .i64 e))] [psB L p] (.tup []) [psB L (zen L e p)]:=by
 refine zyD MS0 fun ts hts ok hb c hN hp=>?_
 obtain⟨t,rfl⟩:=za6 hts
 have hg:=zd9 h
 unfold zp1 zen
 simp
 apply gI<;>intro h0
 ·have h0:p.e=0:=by simpa using h0
  rw[aC h0]
  simp[hg]
  refine⟨by decide,?_⟩
  exact fI [0] [1]
 ·have h0:¬p.e=0:=by simpa using h0
  rw[aB h0]
  exact fI [0] [1]
def zCO(s:fC)(p:PS)(h:p.at'<L.length):MCall Pg 155 [.c (.ptr 0 0),.c (.d (.str s))] [psB L p] (.c (.d (.bool (znM L s p)))) [psB L p]:=by
 refine zyE MS0 fun ts hts ok hb c hN hp=>?_
 obtain⟨t,rfl⟩:=za6 hts
 have hg:=zd9 h
 unfold zp2 znM
 generalize curT L p=T at*
 by_cases h0:p.e=0<;>by_cases h2:T.kind=2<;>by_cases h5:T.kind=5<;>simp[hg,h0,h2,h5]
 all_goals (refine⟨by decide,?_⟩)
 all_goals exact fJ [0] [1] (by simp[h0,h2,h5])
def zaJ(s:fC)(p:PS)(h:p.at'<L.length)(hl:L.length<=10000):MCall Pg 120 [.c (.ptr 0 0),.c (.d (.str s))] [psB L p] (.c (.d (.bool (zad L s p).1))) [psB L (zad L s p).2]:=by
 refine zyF MS0 fun ts hts ok hb c hN hp=>?_
 obtain⟨t,rfl⟩:=za6 hts
 have hs:=zCO s p h
 unfold zp3 zad
 generalize znM L s p=b at*
 simp
 refine gK [0] hs ?_
 cases b with
 |true=>
  simp
  exact fJ [0] [1] (by simp;exact wI)
 |false=>
  simp
  exact fI [0] [1]
def zaT(hL:OkL L)(s:fC)(p:PS)(h:p.at'<L.length)(hl:L.length<=10000):MCall Pg 122 [.c (.ptr 0 0),.c (.d (.str s))] [psB L p] (.tup []) [psB L (zaA L s p)]:=by
 refine zyG MS0 fun ts hts ok hb c hN hp=>?_
 obtain⟨t,rfl⟩:=za6 hts
 have hs:=zaJ s p h hl
 unfold zp4 zaA
 by_cases q:(zad L s p).1=true
 ·rw[aC q]
  rw[q]at hs
  simp
  refine gK [0] hs ?_
  simp
  exact fI [0] [1]
 ·rw[aB q]
  rw[zaK q]at hs
  rw[aK]at q
  rw[q]at hs
  have hf:=ziI (L:=L) 7 p h
  simp
  refine gK [0] hs ?_
  simp
  refine gK [0] hf ?_
  simp
  exact fI [0] [1]
def zcq(p:PS)(h:p.at'<L.length)(hl:L.length<=10000):MCall Pg 121 [.c (.ptr 0 0)] [psB L p] (.c (.d (.str (zaw L p).1))) [psB L (zaw L p).2]:=by
 refine zyH MS0 fun ts hts ok hb c hN hp=>?_
 obtain⟨t,rfl⟩:=za6 hts
 have hg:=zd9 h
 have hf:=ziI (L:=L) 7 p h
 unfold zp5 zaw
 generalize curT L p=T at*
 by_cases h0:p.e=0<;>by_cases h1:T.kind=1<;>simp[hg,h0,h1]
 ·refine⟨by decide,?_⟩
  exact fJ [0] [1] (by simp;exact wI)
 all_goals
  refine⟨by decide,?_⟩
  refine gK [0] hf ?_
  simp
  exact fJ [0] [1] (by simp[h0,h1])
def zmS(p:PS)(h:p.at'<L.length)(hd:p.deep<=1000):MCall Pg 158 [.c (.ptr 0 0)] [psB L p] (.c (.d (.bool (zau L p).1))) [psB L (zau L p).2]:=by
 refine zwt MS0 fun ts hts ok hb c hN hp=>?_
 obtain⟨t,rfl⟩:=za6 hts
 have hf:=ziI (L:=L) 6 p h
 have hfd:(zen L 6 p).deep=p.deep:=(zh2 h).deep
 have hff:(zen L 6 p).e≠0:=znc (by decide)
 unfold zoe zau zgm
 by_cases h1:100<=p.deep
 ·have h1':(100:Int)<=p.deep:=by omega
  rw[aC h1,aC hff]
  simp[h1']
  refine gK [0] hf ?_
  simp[hff]
  exact fI [0] [1]
 ·have h1':¬(100:Int)<=p.deep:=by omega
  rw[aB h1]
  by_cases h0:p.e=0
  ·rw[aB (by simp[h0])]
   simp[h1',h0]
   exact fJ [0] [1] (by simp;exact wI)
  ·rw[aC h0]
   simp[h1',h0]
   exact fI [0] [1]
end
end Go.Gr
namespace Go.Gr
open Go.Abs Go.Proofs List
@[simp] theorem zyq{α:Type}(f:Nat->Nat)(g:α->List D):AC.rens f∘((fun x=>List.map AC.d x)∘g)=(fun x=>List.map AC.d x)∘g:=by funext x;simp
@[simp] theorem ztK(a b:List fC):encS (a++b)=encS a++encS b:=by simp[encS]
@[simp] theorem ztL(s:fC):encS [s]=[[.str s]]:=rfl
@[simp] theorem zCc:encS []=[]:=rfl
theorem zfS:∀l:List fC,D.erdE (encS l)=encS l
 |[]=>rfl
 |s::l=>by
  have ih:=zfS l
  simp only[encS,map_cons,D.erdE,D.erdL,D.erd]at ih⊢
  rw[ih]
mutual
theorem Typ.erdL:∀t:Typ,D.erdL t.enc=t.enc
 |.mk k n s l=>by
  simp only[Typ.enc,D.erdL,D.erd,zfS,Typ.erdE l]
theorem Typ.erdE:∀l:List Typ,D.erdE (Typ.encs l)=Typ.encs l
 |[]=>rfl
 |t::l=>by simp only[Typ.encs,D.erdE,Typ.erdL t,Typ.erdE l]
end
@[simp] theorem ztM(l:List Typ):D.erdE (l.map Typ.enc)=l.map Typ.enc:=by rw[<-Typ.encs_map];exact Typ.erdE l
def ztN:∀l:List D,(l.map AC.d).map AC.erd=(D.erdL l).map .d
 |[]=>rfl
 |d::l=>by simp only[map_cons,ztN l,D.erdL];rfl
attribute [simp] AV.erd AC.erd D.erd D.erdE D.erdL Typ.erdL zfS Typ.erdE
abbrev box4:Blk:=.box [.d (.int .i64 0),.d (.str (bs [])),.d (.sl true 1 []),.d (.sl true 4 [])]
def KiOk(L:List Tok)(d:Nat)(ki:PS->Typ × PS):Prop:=∀p:PS,p.at'<L.length->p.deep=d->MCall Pg 156 [.c (.ptr 0 0)] [psB L p] (.ag ((ki p).1.enc.map .d)) [psB L (ki p).2]
section
variable {L:List Tok}
theorem ztO(hL:OkL L)(hl:L.length<=10000){d:Nat}{ki:PS->Typ × PS}(hk:Tame L ki)(Hk:KiOk L d ki)(p:PS)(h:p.at'<L.length)(hd:p.deep=d):
  MCall Pg 190 [.c (.ptr 0 0)] [psB L p] (.ag ((zcA L ki p).1.enc.map .d)) [psB L (zcA L ki p).2]:=by
 refine zyJ MS0 fun ts hts ok hb c hN hp=>?_
 obtain⟨t,rfl⟩:=za6 hts
 have hR:zcA L ki p=zcA L ki p:=rfl
 generalize hR':zcA L ki p=R at*
 unfold zp7
 simp
 refine fK zaa hp (fun j:Nat=>j<=5/\zdX L j (zeU.drop j) p=zdX L 0 zeU p) (fun j=>[(4,.c (.d (.int .i64 j))),(3,.c (.d (.sl true 1 (encS zeU)))),(0,.c (.ptr 0 0)),(2,.c (.ptr 2 0))]) (fun j=>[psB L p,.pin t 0,box4]) (fun j=>5-j) 0 [0,1,2] ⟨by simp,rfl⟩ (by simp[encS,zeU]) fun j ⟨h1,h2⟩=>?_
 unfold zmv
 have hbl:zeU.length=5:=rfl
 simp[hbl]
 apply gI<;>intro h5
 ·have hj:j<zeU.length:=by simp at h5;omega
  have hj':j<5:=by omega
  rw[aG hj,zdX]at h2
  have hg:zeU[j]?=some zeU[j]:=aA hj
  have ht:=zaJ zeU[j] p h hl
  generalize zeU[j]=s at*
  simp[hg]
  refine gK [0] ht ?_
  by_cases q:(zad L s p).1=true
  ·rw[aC q]at h2
   have hr:R=(.mk j (bs []) [] [],(zad L s p).2):=by rw[<-hR'];unfold zcA;rw[<-h2]
   rw[hr]
   simp[q]
   exact fG [0] [1] (by simp[Typ.enc,Typ.encs,encS])
  ·rw[aB q]at h2
   rw[zaK q]
   rw[aK]at q
   simp[q]
   refine fD (j+1) [0,1,2] ⟨by omega,h2⟩ (by omega) ?_
   simp
   exact wI
 ·have hj:j=5:=by simp at h5;omega
  subst hj
  have h2:zdX L 0 zeU p=none:=by rw[<-h2];try rfl
  have ht:=zaJ (bs [40]) p h hl
  have hr:R=zqX L ki p:=by rw[<-hR'];unfold zcA;rw[h2]
  rw[hr]
  unfold zqX
  simp
  refine gK [0] ht ?_
  by_cases q1:(zad L (bs [40]) p).1=true
  ·have t1:=zai hL h (s:=bs [40])
   have t2:=t1.trans (hk _ t1.lt)
   have h3:=Hk _ t1.lt (by rw[t1.deep,hd])
   have h4:=zaT hL (bs [41]) _ t2.lt hl
   rw[aC q1]
   simp[q1]
   refine gK [0] h3 ?_
   simp
   refine gK [0] h4 ?_
   simp
   exact fI [0] [1]
  ·rw [aB q1,zaK q1]
   rw[aK]at q1
   have h3:=zaJ (bs [123]) p h hl
   simp[q1]
   refine gK [0] h3 ?_
   by_cases q2:(zad L (bs [123]) p).1=true
   ·rw [aC q2]
    have t1:=zai hL h (s:=bs [123])
    have h4:=zaJ (bs [125]) _ t1.lt hl
    generalize (zad L (bs [123]) p).2=p1 at*
    simp[q2]
    refine fQ [.c 3 2,.c 3 3] ?_
    simp
    refine gK [0] h4 ?_
    by_cases q3:(zad L (bs [125]) p1).1=true
    ·rw[aC q3]
     simp[q3]
     refine fP [4,5] ?_
     simp[zah]
     exact fG [0] [1] (by simp[Typ.enc,Typ.encs,encS])
    ·rw[aB q3,zaK q3]
     rw[aK]at q3
     simp[q3]
     obtain⟨F0,hF0⟩:∃F0,zeV L ki (L.length+1) [] [] p1=F0:=⟨_,rfl⟩
     rw[hF0]
     have hd1:p1.deep=d:=by rw[t1.deep,hd]
     refine fK zaa hp (fun x:Nat × List fC × List Typ × PS=>zeV L ki x.1 x.2.1 x.2.2.1 x.2.2.2=F0/\Tm L p1 x.2.2.2/\L.length<x.1+x.2.2.2.at'/\x.2.1.length=x.2.2.1.length/\x.2.1.length<=x.2.2.2.at')
      (fun x=>[(0,.c (.ptr 0 0)),(2,.c (.ptr 2 0)),(8,.c (.ptr 3 0))])
      (fun x=>[psB L x.2.2.2,.pin t 0,box4,.box [.d (.int .i64 5),.d (.str (bs [])),.msl 1 4 0 x.2.1.length,.msl 4 5 0 x.2.2.1.length],.arr 1 ((encS x.2.1).map (·.map .d)),.arr 4 ((x.2.2.1.map Typ.enc).map (·.map .d))])
      (fun x=>x.1) (L.length+1,[],[],p1) [0,1,2,3,4,5] ⟨hF0,Tm.refl t1.lt,by simp only;omega,rfl,by simp⟩ (by simp[encS]) fun⟨n,ns,ks,q⟩ ⟨i1,i2,i3,i4,i5⟩=>?_
     unfold zmw
     simp only at i1 i2 i4 i5
     have i3:L.length<n+q.at':=i3
     have hlt:=i2.lt
     obtain⟨n,rfl⟩:∃m,n=m+1:=⟨n-1,by omega⟩
     rw[zeV]at i1
     have e1:=zaR hL hlt
     have e2:=e1.trans (zam hL e1.lt (s:=bs [58]))
     have e3:=e2.trans (hk _ e2.lt)
     have e4:=e3.trans (zai hL e3.lt (s:=bs [44]))
     have c1:=zcq q hlt hl
     have c2:=zaT hL (bs [58]) _ e1.lt hl
     have c3:=Hk _ e2.lt (by rw[e2.deep,i2.deep,hd1])
     have c4:=zaJ (bs [44]) _ e3.lt hl
     generalize (zaw L q).1=s1 at*
     generalize (zaw L q).2=q1' at*
     generalize zaA L (bs [58]) q1'=q2' at*
     generalize (ki q2').1=k1 at*
     generalize (ki q2').2=q3' at*
     simp
     refine gK [0] c1 ?_
     simp
     refine gK [0] c2 ?_
     simp
     refine gK [0] c3 ?_
     simp
     refine⟨by omega,by omega,?_⟩
     refine gK [0] c4 ?_
     by_cases q5:(zad L (bs [44]) q3').1=true
     ·rw[aC q5]at i1
      have ha:=(take_at q5).1
      have hb':=e3.le
      simp[q5]
      refine fD (n,ns++[s1],ks++[k1],(zad L (bs [44]) q3').2) [0,1,2,3,7,8] ⟨i1,i2.trans e4,by simp only;omega,by simp[i4],by simp;omega⟩ (by simp) ?_
      simp
      exact⟨aF (by simp),aF (by simp)⟩
     ·rw[aB q5,zaK q5]at i1
      rw[<-i1]
      have c5:=zaT hL (bs [125]) _ e3.lt hl
      rw[zaK q5]
      rw[aK]at q5
      simp[q5]
      refine fP [7,8] ?_
      have k1':take ns.length (List.map (fun x=>List.map AC.d x) (encS ns))=List.map (fun x=>List.map AC.d x) (encS ns):=aF (by simp)
      have k2':take ks.length (List.map ((fun x=>List.map AC.d x)∘Typ.enc) ks)=List.map ((fun x=>List.map AC.d x)∘Typ.enc) ks:=aF (by simp)
      simp[zah,k1',k2']
      refine gK [0] c5 ?_
      simp[zah,k1',k2']
      have z1:D.erdE (take (ns.length+1) (encS ns++[[D.str s1]]))=encS ns++[[D.str s1]]:=by
       rw[aF (by simp)]
       simpa only[ztK,ztL]using zfS (ns++[s1])
      have z2:D.erdE (take (ks.length+1) (ks.map Typ.enc++[k1.enc]))=ks.map Typ.enc++[k1.enc]:=by
       rw[aF (by simp)]
       simpa using ztM (ks++[k1])
      exact fG [0] [1] (by simp[Typ.enc,Typ.encs_map,zah,k1',k2',z1,z2])
   ·rw[aB q2,zaK q2]
    rw[aK]at q2
    have h4:=zcq p h hl
    simp[q2]
    refine gK [0] h4 ?_
    simp
    exact fG [0] [1] (by simp[Typ.enc,Typ.encs,encS])
def ztP{ki:PS->Typ × PS}:∀(n:Nat) (l:List Typ) (p:PS),1<=l.length->1<=(altN L ki n l p).1.length
 |0,l,p,h=>h
 |n+1,l,p,h=>by
  rw[altN]
  split
  ·exact ztP n _ _ (by simp)
  ·exact h
theorem zEo(hL:OkL L)(hl:L.length<=10000){d:Nat}{ki:PS->Typ × PS}(hk:Tame L ki)(Hk:KiOk L d ki)(p:PS)(h:p.at'<L.length)(hd:p.deep=d):
  MCall Pg 179 [.c (.ptr 0 0)] [psB L p] (.ag ((altP L ki p).1.enc.map .d)) [psB L (altP L ki p).2]:=by
 refine zAz MS0 fun ts hts ok hb c hN hp=>?_
 obtain⟨t,rfl⟩:=za6 hts
 have c1:=ztO hL hl hk Hk p h hd
 have t1:=zj7 hL hk p h
 have hpos:=ztP (L:=L) (ki:=ki) (L.length+1) [(zcA L ki p).1] (zcA L ki p).2 (by simp)
 unfold zr9 altP
 simp only
 obtain⟨F0,hF0⟩:∃F0,altN L ki (L.length+1) [(zcA L ki p).1] (zcA L ki p).2=F0:=⟨_,rfl⟩
 rw[hF0]at hpos⊢
 generalize (zcA L ki p).1=T1 at*
 generalize (zcA L ki p).2=p1 at*
 simp
 refine gK [0] c1 ?_
 simp
 refine fK zaa hp (fun x:Nat × List Typ × PS=>altN L ki x.1 x.2.1 x.2.2=F0/\Tm L p1 x.2.2/\L.length<x.1+x.2.2.at'/\x.2.1.length<=x.2.2.at'+1)
  (fun x=>[(0,.c (.ptr 0 0)),(2,.c (.ptr 2 0)),(3,.c (.msl 4 3 0 x.2.1.length))])
  (fun x=>[psB L x.2.2,.pin t 0,box4,.arr 4 ((x.2.1.map Typ.enc).map (·.map .d))])
  (fun x=>x.1) (L.length+1,[T1],p1) [0,1,2,3] ⟨hF0,Tm.refl t1.lt,by simp only;omega,by simp⟩ (by simp) fun⟨n,l,q⟩ ⟨i1,i2,i3,i4⟩=>?_
 unfold zof
 simp only at i1 i2 i4
 have i3:L.length<n+q.at':=i3
 have hlt:=i2.lt
 obtain⟨n,rfl⟩:∃m,n=m+1:=⟨n-1,by omega⟩
 rw[altN]at i1
 have e1:=zai hL hlt (s:=bs [124])
 have a1:=zaJ (bs [124]) q hlt hl
 simp
 refine gK [0] a1 ?_
 by_cases q1:(zad L (bs [124]) q).1=true
 ·rw[aC q1]at i1
  have i1:altN L ki n (l++[(zcA L ki (zad L (bs [124]) q).2).1]) (zcA L ki (zad L (bs [124]) q).2).2=F0:=i1
  have ha:=(take_at q1).1
  have e2:=e1.trans (zj7 hL hk _ e1.lt)
  have hle:=(zj7 hL hk _ e1.lt).le
  have a2:=ztO hL hl hk Hk _ e1.lt (by rw[e1.deep,i2.deep,t1.deep,hd])
  generalize (zad L (bs [124]) q).2=q2 at*
  generalize (zcA L ki q2).1=T2 at*
  generalize (zcA L ki q2).2=q3 at*
  simp[q1]
  refine gK [0] a2 ?_
  simp
  refine⟨by omega,?_⟩
  refine fD (n,l++[T2],q3) [0,1,2,5] ⟨i1,i2.trans e2,by simp only;omega,by simp;omega⟩ (by simp) ?_
  simp
  exact aF (by simp)
 ·rw[aB q1]at i1
  rw[zaK q1]
  rw[aK]at q1
  rw[<-i1]at hpos⊢
  simp only at hpos⊢
  by_cases hl1:l.length=1
  ·obtain⟨T,rfl⟩:∃T,l=[T]:=by
    match l,hl1 with
    |[T],_=>exact⟨T,rfl⟩
   have ho:zzu [T]=T:=rfl
   rw[ho]
   simp[q1]
   refine fP [3] ?_
   simp[zah]
   exact fI [0] [1]
  ·have htk:take l.length (List.map ((fun x=>List.map AC.d x)∘Typ.enc) l)=List.map ((fun x=>List.map AC.d x)∘Typ.enc) l:=aF (by simp)
   have hne:¬((l.length:Int)=1):=by omega
   rw[zDA hl1]
   simp[q1]
   refine fP [3] ?_
   simp[zah,htk,hne,hl1]
   have z:D.erdE (take l.length (l.map Typ.enc))=l.map Typ.enc:=by
    rw[aF (by simp)]
    exact ztM l
   exact fG [0] [1] (by simp[Typ.enc,Typ.encs_map,encS,z])
def zoI(hL:OkL L)(hl:L.length<=10000):∀(n:Nat) (p:PS),p.at'<L.length->p.deep<=100->101<=p.deep+n->MCall Pg 156 [.c (.ptr 0 0)] [psB L p] (.ag ((zeo L n p).1.enc.map .d)) [psB L (zeo L n p).2]
 |0,p,h,h1,h2=>by omega
 | n+1,p,h,h1,h2=>by
  have ce:=zmS p h (by omega)
  refine zyI MS0 fun ts hts ok hb c hN hp=>?_
  obtain⟨t,rfl⟩:=za6 hts
  have hR:zeo L (n+1) p=if(zau L p).1=true then zds (zqY L (zeo L n) (zau L p).2)else(noT,(zau L p).2):=by rw[zeo]
  rw[hR]
  unfold zp6
  simp
  refine gK [0] ce ?_
  by_cases q:(zau L p).1=true
  ·rw[aC q]
   obtain⟨e1,e2,e3⟩:=zcX q
   have hk:=zrr hL n
   have Hk:KiOk L (p.deep+1) (zeo L n):=fun r hr hd=>zoI hL hl n r hr (by omega) (by omega)
   have hp1:(zau L p).2.at'<L.length:=by rw[e1];exact h
   have hd1:(zau L p).2.deep=p.deep+1:=by rw[e1]
   have a1:=zEo hL hl hk Hk _ hp1 hd1
   have t1:=zAQ hL hk _ hp1
   have a2:=zaJ (bs [45,62]) _ t1.lt hl
   have t2:=t1.trans (zai hL t1.lt (s:=bs [45,62]))
   unfold zds zqY
   simp only
   generalize (zau L p).2=p1 at*
   generalize (altP L (zeo L n) p1).1=T1 at*
   generalize (altP L (zeo L n) p1).2=p2 at*
   simp[q]
   refine gK [0] a1 ?_
   simp
   refine gK [0] a2 ?_
   by_cases q2:(zad L (bs [45,62]) p2).1=true
   ·rw[aC q2]
    have a3:=Hk _ t2.lt (by rw[t2.deep,hd1])
    have hd3:=(t2.trans (hk _ t2.lt)).deep
    simp only
    simp only[hd1]at hd3
    generalize (zad L (bs [45,62]) p2).2=p3 at*
    generalize (zeo L n p3).1=T3 at*
    generalize (zeo L n p3).2=p4 at*
    simp[q2]
    refine gK [0] a3 ?_
    simp
    have hw:IntKind.i64.wrap ((p4.deep:Int)-1)=((p4.deep-1:Nat):Int):=by rw[wI];omega
    exact fG [0] [1] (by simp[Typ.enc,Typ.encs,encS,hw])
   ·rw[aB q2,zaK q2]
    have hd3:=t1.deep
    rw[hd1]at hd3
    rw[aK]at q2
    simp[q2]
    have hw:IntKind.i64.wrap ((p2.deep:Int)-1)=((p2.deep-1:Nat):Int):=by rw[wI];omega
    exact fJ [0] [1] (by simp[hw])
  ·rw[aB q]
   rw[aK]at q
   simp[q]
   exact fG [0] [1] (by simp[noT,Typ.enc,Typ.encs,encS])
end
end Go.Gr
namespace Go.Gr
open Go.Abs Go.Proofs
mutual
theorem Nod.erdL:∀t:Nod,D.erdL t.enc=t.enc
 |.mk k t n a b ts ns ks=>by
  simp only[Nod.enc,D.erdL,D.erd,zfS,ztM,Nod.erdE ks]
theorem Nod.erdE:∀l:List Nod,D.erdE (Nod.encs l)=Nod.encs l
 |[]=>rfl
 |t::l=>by simp only[Nod.encs,D.erdE,Nod.erdL t,Nod.erdE l]
end
attribute [simp] Nod.erdL Nod.erdE
@[simp] theorem zFs(l:List Nod):D.erdE (l.map Nod.enc)=l.map Nod.enc:=by rw[<-Nod.encs_map];exact Nod.erdE l
def NoOk(L:List Tok)(f:FuncId)(d:Nat)(ex:PS->Nod × PS):Prop:=∀p:PS,p.at'<L.length->p.deep=d->MCall Pg f [.c (.ptr 0 0)] [psB L p] (.ag ((ex p).1.enc.map .d)) [psB L (ex p).2]
section
variable {L:List Tok}
def zjA(k:Int)(p:PS)(h:p.at'<L.length):MCall Pg 180 [.c (.ptr 0 0),.c (.d (.int .i64 k))] [psB L p] (.ag [.d (.int .i64 k),.d (.str (bs [])),.d (.int .i64 0),.d (.int .i64 (curT L p).line),.d (.int .i64 (curT L p).col),.d (.sl true 4 []),.d (.sl true 1 []),.d (.sl true 8 [])]) [psB L p]:=by
 refine zCE MS0 fun ts hts ok hb c hN hp=>?_
 obtain⟨t,rfl⟩:=za6 hts
 have hg:=zd9 h
 unfold zuq
 simp[hg]
 refine⟨by decide,?_⟩
 exact fI [0] [1]
def zh7(hL:OkL L)(hl:L.length<=10000){d:Nat}{ki:PS->Typ × PS}(Hk:KiOk L d ki)(p:PS)(h:p.at'<L.length)(hd:p.deep=d):
  MCall Pg 157 [.c (.ptr 0 0)] [psB L p] (.c (.d (.sl true 4 ((zbW L ki p).1.map Typ.enc)))) [psB L (zbW L ki p).2]:=by
 refine zyK MS0 fun ts hts ok hb c hN hp=>?_
 obtain⟨t,rfl⟩:=za6 hts
 have c1:=zaJ (bs [58]) p h hl
 unfold zp8 zbW
 simp
 refine gK [0] c1 ?_
 by_cases q:(zad L (bs [58]) p).1=true
 ·have t1:=zai hL h (s:=bs [58])
  have c2:=Hk _ t1.lt (by rw[t1.deep,hd])
  rw[aC q]
  simp[q]
  refine gK [0] c2 ?_
  simp
  exact fI [0] [1]
 ·rw[aB q,zaK q]
  rw[aK]at q
  simp[q]
  exact fI [0] [1]
def zhG(ki:PS->Typ × PS)(q:PS):(zbW L ki q).1=[]\/∃T,(zbW L ki q).1=[T]:=by
 unfold zbW;split
 ·exact .inr ⟨_,rfl⟩
 ·exact .inl rfl
theorem zCa(hL:OkL L)(hl:L.length<=10000){d:Nat}{ki:PS->Typ × PS}(hk:Tame L ki)(Hk:KiOk L d ki)(p:PS)(h:p.at'<L.length)(hd:p.deep=d):
  MCall Pg 125 [.c (.ptr 0 0)] [psB L p] (.tup [.c (.d (.str (zcB L ki p).1.1)),.c (.d (.sl false 4 ((zcB L ki p).1.2.map Typ.enc)))]) [psB L (zcB L ki p).2]:=by
 refine zf1 MS0 fun ts hts ok hb c hN hp=>?_
 obtain⟨t,rfl⟩:=za6 hts
 have t1:=zam hL h (s:=bs [40])
 have t2:=t1.trans (zaR hL t1.lt)
 have t3:=t2.trans (zeb hL hk _ t2.lt)
 have t4:=t3.trans (zam hL t3.lt (s:=bs [41]))
 have c1:=zaT hL (bs [40]) p h hl
 have c2:=zcq _ t1.lt hl
 have c3:=zh7 hL hl Hk _ t2.lt (by rw[t2.deep,hd])
 have c4:=zaT hL (bs [41]) _ t3.lt hl
 have c5:=zh7 hL hl Hk _ t4.lt (by rw[t4.deep,hd])
 have n1:=zhG (L:=L) ki (zaw L (zaA L (bs [40]) p)).2
 have n2:=zhG (L:=L) ki (zaA L (bs [41]) (zbW L ki (zaw L (zaA L (bs [40]) p)).2).2)
 unfold zeK zcB
 simp only
 generalize zaA L (bs [40]) p=p1 at*
 generalize (zaw L p1).1=s1 at*
 generalize (zaw L p1).2=p2 at*
 generalize (zbW L ki p2).1=A at*
 generalize (zbW L ki p2).2=p3 at*
 generalize zaA L (bs [41]) p3=p4 at*
 generalize (zbW L ki p4).1=B at*
 generalize (zbW L ki p4).2=p5 at*
 simp
 refine gK [0] c1 ?_
 simp
 refine gK [0] c2 ?_
 simp
 refine gK [0] c3 ?_
 simp
 refine gK [0] c4 ?_
 simp
 refine gK [0] c5 ?_
 have hn:noT.enc=[.int .i64 0,.str (bs []),.sl false 1 [],.sl false 4 []]:=rfl
 rcases n1 with rfl|⟨T,rfl⟩<;>rcases n2 with rfl|⟨U,rfl⟩<;>simp
 ·refine fP [] ?_
  simp
  exact fG [0] [1] (by simp[hn,AV.erds])
 ·refine fP [2] ?_
  simp[zah]
  exact fG [0] [1] (by simp[hn,AV.erds])
 ·refine fP [] ?_
  simp
  exact fG [0] [1] (by simp[hn,AV.erds])
 ·refine fP [2] ?_
  simp[zah]
  exact fG [0] [1] (by simp[hn,AV.erds])
def RkOk(L:List Tok)(d:Nat)(k:Int)(rk:PS->Nod × PS):Prop:=∀p:PS,p.at'<L.length->p.deep=d->MCall Pg 181 [.c (.ptr 0 0),.c (.d (.int .i64 k))] [psB L p] (.ag ((rk p).1.enc.map .d)) [psB L (rk p).2]
def za4(p:PS)(k:Int)(t:fC)(n:Int)(ts:List Typ)(ns:List fC)(ks:List Nod):(mkN L p k t n ts ns ks).enc=[.int .i64 k,.str t,.int .i64 n,.int .i64 (curT L p).line,.int .i64 (curT L p).col,.sl false 4 (ts.map Typ.enc),.sl false 1 (encS ns),.sl false 8 (ks.map Nod.enc)]:=by
 unfold mkN;rw[Nod.enc_eq];try rfl
def zCb(hL:OkL L)(hl:L.length<=10000){d:Nat}{ki:PS->Typ × PS}{ex rk:PS->Nod × PS}(hk:Tame L ki)(Hk:KiOk L d ki)(he:Tame L ex)(He:NoOk L 126 d ex)(Hr:RkOk L d 0 rk)(p:PS)(h:p.at'<L.length)(hd:p.deep=d):
  MCall Pg 159 [.c (.ptr 0 0)] [psB L p] (.ag ((zg0 L ki ex rk p).1.enc.map .d)) [psB L (zg0 L ki ex rk p).2]:=by
 refine zyM MS0 fun ts hts ok hb c hN hp=>?_
 obtain⟨t,rfl⟩:=za6 hts
 have c0:=zjA (L:=L) 5 p h
 have c1:=zaJ wLet p h hl
 unfold zqa zg0
 simp
 refine gK [0] c0 ?_
 simp
 refine gK [0] c1 ?_
 by_cases q1:(zad L wLet p).1=true
 ·rw[aC q1]
  have t1:=zai hL h (s:=wLet)
  have t2:=t1.trans (zaR hL t1.lt)
  have t3:=t2.trans (zeb hL hk _ t2.lt)
  have t4:=t3.trans (zam hL t3.lt (s:=bs [61]))
  have t5:=t4.trans (he _ t4.lt)
  have t6:=t5.trans (zam hL t5.lt (s:=bs [59]))
  have a1:=zcq _ t1.lt hl
  have a2:=zh7 hL hl Hk _ t2.lt (by rw[t2.deep,hd])
  have a3:=zaT hL (bs [61]) _ t3.lt hl
  have a4:=He _ t4.lt (by rw[t4.deep,hd])
  have a5:=zaT hL (bs [59]) _ t5.lt hl
  have a6:=He _ t6.lt (by rw[t6.deep,hd])
  generalize (zad L wLet p).2=p1 at*
  generalize (zaw L p1).1=s1 at*
  generalize (zaw L p1).2=p2 at*
  generalize (zbW L ki p2).1=A at*
  generalize (zbW L ki p2).2=p3 at*
  generalize zaA L (bs [61]) p3=p4 at*
  generalize (ex p4).1=V at*
  generalize (ex p4).2=p5 at*
  generalize zaA L (bs [59]) p5=p6 at*
  generalize (ex p6).1=B at*
  generalize (ex p6).2=p7 at*
  simp[q1]
  refine gK [0] a1 ?_
  simp
  refine gK [0] a2 ?_
  simp
  refine gK [0] a3 ?_
  simp
  refine gK [0] a4 ?_
  simp
  refine gK [0] a5 ?_
  simp
  refine gK [0] a6 ?_
  simp
  exact fG [0] [1] (by simp[za4,encS])
 ·rw[aB q1,zaK q1]
  rw[aK]at q1
  have c2:=zaJ wIf p h hl
  simp[q1]
  refine gK [0] c2 ?_
  by_cases q2:(zad L wIf p).1=true
  ·rw[aC q2]
   have t1:=zai hL h (s:=wIf)
   have t2:=t1.trans (he _ t1.lt)
   have t3:=t2.trans (zam hL t2.lt (s:=zk9))
   have t4:=t3.trans (he _ t3.lt)
   have t5:=t4.trans (zam hL t4.lt (s:=zla))
   have a1:=He _ t1.lt (by rw[t1.deep,hd])
   have a2:=zaT hL zk9 _ t2.lt hl
   have a3:=He _ t3.lt (by rw[t3.deep,hd])
   have a4:=zaT hL zla _ t4.lt hl
   have a5:=He _ t5.lt (by rw[t5.deep,hd])
   generalize (zad L wIf p).2=p1 at*
   generalize (ex p1).1=C at*
   generalize (ex p1).2=p2 at*
   generalize zaA L zk9 p2=p3 at*
   generalize (ex p3).1=A at*
   generalize (ex p3).2=p4 at*
   generalize zaA L zla p4=p5 at*
   generalize (ex p5).1=B at*
   generalize (ex p5).2=p6 at*
   simp[q2]
   refine gK [0] a1 ?_
   simp
   refine gK [0] a2 ?_
   simp
   refine gK [0] a3 ?_
   simp
   refine gK [0] a4 ?_
   simp
   refine gK [0] a5 ?_
   simp
   exact fG [0] [1] (by simp[za4,encS])
  ·rw[aB q2,zaK q2]
   rw[aK]at q2
   have c3:=zaJ wFn p h hl
   simp[q2]
   refine gK [0] c3 ?_
   by_cases q3:(zad L wFn p).1=true
   ·rw[aC q3]
    have t1:=zai hL h (s:=wFn)
    have t2:=t1.trans (zfJ hL hk _ t1.lt)
    have t3:=t2.trans (zam hL t2.lt (s:=bs [61,62]))
    have a1:=zCa hL hl hk Hk _ t1.lt (by rw[t1.deep,hd])
    have a2:=zaT hL (bs [61,62]) _ t2.lt hl
    have a3:=He _ t3.lt (by rw[t3.deep,hd])
    generalize (zad L wFn p).2=p1 at*
    generalize (zcB L ki p1).1.1=s1 at*
    generalize (zcB L ki p1).1.2=A at*
    generalize (zcB L ki p1).2=p2 at*
    generalize zaA L (bs [61,62]) p2=p3 at*
    generalize (ex p3).1=B at*
    generalize (ex p3).2=p4 at*
    simp[q3]
    refine gK [0] a1 ?_
    simp
    refine gK [0] a2 ?_
    simp
    refine gK [0] a3 ?_
    simp
    exact fG [0] [1] (by simp[za4,encS])
   ·rw[aB q3,zaK q3]
    rw[aK]at q3
    have a1:=Hr p h hd
    simp[q3]
    refine gK [0] a1 ?_
    simp
    exact fI [0] [1]
end
end Go.Gr
namespace Go.Gr
open Go.Abs Go.Proofs List
def zt3:∀v:List D,(D.erdL v).length=v.length
 |[]=>rfl
 |d::v=>by simp only[D.erdL,length_cons,zt3 v]
@[simp] theorem zHA(v:List D):List.map (AC.erd∘AC.d) v=(D.erdL v).map .d:=by rw[<-bJ,ztN]
def zpQ{v:List D}{a:Nod}(h:D.erdL v=a.enc):v.length=8:=by rw[<-zt3,h];simp
def zAg{v:List D}{a:Nod}(h:D.erdL v=a.enc):cut (v.map AC.d) 0 8=v.map .d:=by
 have:=zpQ h
 unfold cut
 simp[this]
def zxk{v:List D}{a:Nod}(h:D.erdL v=a.enc):cut v 0 8=v:=by
 have:=zpQ h
 unfold cut
 simp[this]
abbrev rkT:List (List D):=[[.sl true 1 [[.str (bs [111,114])]]],[.sl true 1 [[.str (bs [97,110,100])]]],[.sl true 1 []],[.sl true 1 [[.str (bs [43,43])]]],[.sl true 1 [[.str (bs [43])],[.str (bs [45])],[.str (bs [94])]]],[.sl true 1 [[.str (bs [42])],[.str (bs [47])],[.str (bs [37])],[.str (bs [38])],[.str (bs [60,60])],[.str (bs [62,62])]]]]
def zEu{k:Nat}(h:k<6):rkT[k]?=some [.sl true 1 (encS (zbY k))]:=by
 match k,h with
 |0,_=>rfl
 |1,_=>rfl
 |2,_=>rfl
 |3,_=>rfl
 |4,_=>rfl
 |5,_=>rfl
def zAh{k:Nat}:(zbY k).length<=6:=by
 unfold zbY
 split<;>simp
section
variable {L:List Tok}
def opsI(L:List Tok)(rk:PS->Nod × PS)(signs:List fC)(n i:Nat)(a:Nod)(p:PS):Nod × PS:=match zeW L (signs.drop i) p with
 |none=>(a,p)
 |some (s,q)=>opsP L rk signs n (mkN L p 14 s 0 [] [] [a,(rk q).1]) (rk q).2
def zDV(rk:PS->Nod × PS)(signs:List fC)(n:Nat)(a:Nod)(p:PS):opsP L rk signs (n+1) a p=opsI L rk signs n 0 a p:=by
 rw[opsP];unfold opsI;rw[drop_zero];try rfl
abbrev box8:Blk:=.box [.d (.int .i64 0),.d (.str (bs [])),.d (.int .i64 0),.d (.int .i64 0),.d (.int .i64 0),.d (.sl true 4 []),.d (.sl true 1 []),.d (.sl true 8 [])]
def zik(hL:OkL L)(hl:L.length<=10000){d k:Nat}(hk:k<6)(hk2:k≠2){rk:PS->Nod × PS}(hr:Tame L rk)(Hr:RkOk L d (k+1:Nat) rk):
  RkOk L d k (fun p=>opsP L rk (zbY k) (L.length+1) (rk p).1 (rk p).2):=by
 intro p h hd
 refine zkL MS0 fun ts hts ok hb c hN hp=>?_
 obtain⟨t,rfl⟩:=za6 hts
 have c1:=Hr p h hd
 have t1:=hr p h
 have h6:¬((k:Int)=6):=by omega
 have h2:¬((k:Int)=2):=by omega
 have hw:IntKind.i64.wrap ((k:Int)+1)=((k+1:Nat):Int):=by rw[wI];omega
 have hT:=zEu hk
 have hs6:=zAh (k:=k)
 simp only
 obtain⟨F0,hF0⟩:∃F0,opsP L rk (zbY k) (L.length+1) (rk p).1 (rk p).2=F0:=⟨_,rfl⟩
 rw[hF0]
 rw[zDV]at hF0
 generalize (rk p).1=A at*
 generalize (rk p).2=p1 at*
 unfold zhL
 simp[h6,h2,hw]
 refine gK [0] c1 ?_
 generalize zbY k=sg at*
 have hd1:p1.deep=d:=by rw[t1.deep,hd]
 simp
 generalize hTT:rkT=TT at*
 refine fK zaa hp (fun x:Nat × Nat × Nod × List D × PS=>opsI L rk sg x.1 x.2.1 x.2.2.1 x.2.2.2.2=F0/\Tm L p1 x.2.2.2.2/\L.length<x.1+1+x.2.2.2.2.at'/\x.2.1<=sg.length/\D.erdL x.2.2.2.1=x.2.2.1.enc)
  (fun x=>[(0,.c (.ptr 0 0)),(1,.c (.d (.int .i64 k))),(4,.c (.ptr 2 0)),(5,.c (.d (.sl true 1 TT))),(6,.c (.ptr 3 0)),(7,.c (.d (.int .i64 x.2.1)))])
  (fun x=>[psB L x.2.2.2.2,.pin t 0,box8,.box (x.2.2.2.1.map .d)])
  (fun x=>x.1*7+(sg.length-x.2.1)) (L.length,0,A,A.enc,p1) [0,1,2,3] ⟨hF0,Tm.refl t1.lt,by simp only;omega,by simp,by simp⟩ (by simp[<-hTT]) fun⟨n,i,a,v,q⟩ ⟨i1,i2,i3,i4,i5⟩=>?_
 unfold zmx
 simp only at i1 i2 i4 i5
 have i3:L.length<n+1+q.at':=i3
 have hlt:=i2.lt
 have hcut:=zAg i5
 have hcut':=zxk i5
 have hvl:=zpQ i5
 simp[hT]
 apply gI<;>intro hj
 ·have hj:i<sg.length:=by simpa using hj
  have hg:sg[i]?=some sg[i]:=aA hj
  have a0:=zjA (L:=L) 14 q hlt
  have a1:=zaJ sg[i] q hlt hl
  unfold opsI at i1
  rw[aG hj,zeW]at i1
  generalize sg[i]=s at*
  refine gK [0] a0 ?_
  simp[hT,hg]
  refine gK [0] a1 ?_
  by_cases q1:(zad L s q).1=true
  ·rw[aC q1]at i1
   simp only at i1
   have ha:=(take_at q1).1
   have e1:=zai hL hlt (s:=s)
   have a2:=Hr _ e1.lt (by rw[e1.deep,i2.deep,hd1])
   have e2:=e1.trans (hr _ e1.lt)
   have hle:=(hr _ e1.lt).le
   obtain⟨n,rfl⟩:∃m,n=m+1:=⟨n-1,by have:=e1.lt;omega⟩
   rw[zDV]at i1
   generalize (zad L s q).2=q2 at*
   generalize (rk q2).1=B at*
   generalize (rk q2).2=q3 at*
   simp[q1,hw]
   refine gK [0] a2 ?_
   simp[hT,hg,hvl,hcut,hcut']
   refine fD (n,0,mkN L q 14 s 0 [] [] [a,B],([.int .i64 14,.str s,.int .i64 0,.int .i64 (curT L q).line,.int .i64 (curT L q).col,.sl true 4 [],.sl true 1 [],.sl true 8 [v,B.enc]]:List D),q3) [0,1,2,3] ⟨i1,i2.trans e2,by simp only;omega,by simp,?_⟩ (by simp;omega) ?_
   ·simp[za4,i5,encS]
   ·simp
  ·rw[aB q1]at i1
   rw[zaK q1]
   rw[aK]at q1
   simp[q1]
   refine fD (n,i+1,a,v,q) [0,1,2,3] ⟨i1,i2,by simp only;omega,by simp only;omega,i5⟩ (by simp only;omega) ?_
   simp
   exact wI
 ·have hj:i=sg.length:=by simp at hj;omega
  subst hj
  unfold opsI at i1
  rw[aO,zeW]at i1
  have i1:(a,q)=F0:=i1
  rw[<-i1]
  simp[hvl,hcut]
  exact fG [0] [1] (by simp[hcut,i5])
def zAi{d:Nat}{un:PS->Nod × PS}(Hu:NoOk L 191 d un):RkOk L d 6 un:=by
 intro p h hd
 refine zkL MS0 fun ts hts ok hb c hN hp=>?_
 obtain⟨t,rfl⟩:=za6 hts
 have c1:=Hu p h hd
 unfold zhL
 simp
 refine gK [0] c1 ?_
 simp
 exact fI [0] [1]
def zAj{d:Nat}{un:PS->Nod × PS}(Hu:NoOk L 192 d un):RkOk L d 2 un:=by
 intro p h hd
 refine zkL MS0 fun ts hts ok hb c hN hp=>?_
 obtain⟨t,rfl⟩:=za6 hts
 have c1:=Hu p h hd
 unfold zhL
 simp
 refine gK [0] c1 ?_
 simp
 exact fI [0] [1]
end
end Go.Gr
namespace Go.Gr
open Go.Abs Go.Proofs
section
variable {L:List Tok}
abbrev cmpS:List fC:=[bs [60],bs [60,61],bs [61,61]]
theorem zEe(hL:OkL L)(hl:L.length<=10000){d:Nat}{ki:PS->Typ × PS}{rk:PS->Nod × PS}(hk:Tame L ki)(Hk:KiOk L d ki)(hr:Tame L rk)(Hr:RkOk L d 3 rk):
  NoOk L 192 d (cmpP L ki rk):=by
 intro p h hd
 refine zAA MS0 fun ts hts ok hb c hN hp=>?_
 obtain⟨t,rfl⟩:=za6 hts
 have c1:=Hr p h hd
 have t1:=hr p h
 have a0:=zjA (L:=L) 14 _ t1.lt
 obtain⟨F0,hF0⟩:∃F0,cmpP L ki rk p=F0:=⟨_,rfl⟩
 rw[hF0]
 unfold cmpP at hF0
 simp only at hF0
 rw[show rk p=((rk p).1,(rk p).2)from rfl]at hF0
 simp only at hF0
 generalize (rk p).1=A at*
 generalize (rk p).2=p1 at*
 have hd1:p1.deep=d:=by rw[t1.deep,hd]
 unfold zsa
 simp
 refine gK [0] c1 ?_
 simp
 refine gK [0] a0 ?_
 simp
 refine fK zaa hp (fun j:Nat=>j<=3/\zeW L (cmpS.drop j) p1=zeW L cmpS p1)
  (fun j=>[(0,.c (.ptr 0 0)),(2,.c (.ptr 2 0)),(3,.c (.ptr 3 0)),(4,.c (.ptr 4 0)),(5,.c (.d (.sl true 1 (encS cmpS)))),(6,.c (.d (.int .i64 j)))])
  (fun j=>[psB L p1,.pin t 0,box8,.box (A.enc.map .d),.box [.d (.int .i64 14),.d (.str (bs [])),.d (.int .i64 0),.d (.int .i64 (curT L p1).line),.d (.int .i64 (curT L p1).col),.d (.sl true 4 []),.d (.sl true 1 []),.d (.sl true 8 [])]])
  (fun j=>3-j) 0 [0,1,2,3,4] ⟨by simp,rfl⟩ (by simp[encS]) fun j ⟨i1,i2⟩=>?_
 unfold zog
 have hsl:cmpS.length=3:=rfl
 simp[hsl]
 apply gI<;>intro h3
 ·have hj:j<cmpS.length:=by simp at h3;omega
  have hj':j<3:=by omega
  rw[aG hj,zeW]at i2
  have hg:cmpS[j]?=some cmpS[j]:=aA hj
  have ht:=zaJ cmpS[j] p1 t1.lt hl
  generalize cmpS[j]=s at*
  simp[hg]
  refine gK [0] ht ?_
  by_cases q:(zad L s p1).1=true
  ·rw[aC q]at i2
   rw[<-i2]at hF0
   have hF0:(mkN L p1 14 s 0 [] [] [A,(rk (zad L s p1).2).1],(rk (zad L s p1).2).2)=F0:=hF0
   rw[<-hF0]
   have e1:=zai hL t1.lt (s:=s)
   have a2:=Hr _ e1.lt (by rw[e1.deep,hd1])
   simp only
   generalize (zad L s p1).2=p2 at*
   generalize (rk p2).1=B at*
   generalize (rk p2).2=p3 at*
   simp[q]
   refine gK [0] a2 ?_
   simp[hg]
   exact fG [0] [1] (by simp[za4,encS])
  ·rw[aB q]at i2
   rw[zaK q]
   rw[aK]at q
   simp[q]
   refine fD (j+1) [0,1,2,3,4] ⟨by omega,i2⟩ (by omega) ?_
   simp
   exact wI
 ·have hj:j=3:=by simp at h3;omega
  subst hj
  have i2:zeW L cmpS p1=none:=by rw[<-i2];try rfl
  rw[i2]at hF0
  simp only at hF0
  have b1:=zaJ (bs [97,115]) p1 t1.lt hl
  simp
  refine gK [0] b1 ?_
  by_cases q1:(zad L (bs [97,115]) p1).1=true
  ·rw[aC q1]at hF0
   have e1:=zai hL t1.lt (s:=bs [97,115])
   have a2:=Hk _ e1.lt (by rw[e1.deep,hd1])
   rw[<-hF0]
   simp only
   generalize (zad L (bs [97,115]) p1).2=p2 at*
   generalize (ki p2).1=T at*
   generalize (ki p2).2=p3 at*
   simp[q1]
   refine gK [0] a2 ?_
   simp
   exact fG [0] [1] (by simp[za4,encS])
  ·rw [aB q1]at hF0
   rw[zaK q1]
   rw[aK]at q1
   have b2:=zaJ (bs [105,115]) p1 t1.lt hl
   simp[q1]
   refine gK [0] b2 ?_
   by_cases q2:(zad L (bs [105,115]) p1).1=true
   ·rw[aC q2]at hF0
    have e1:=zai hL t1.lt (s:=bs [105,115])
    generalize (zad L (bs [105,115]) p1).2=p2 at*
    simp[q2]
    refine fK zaa hp (fun j:Nat=>j<=6/\zdX L j (zeX.drop j) p2=zdX L 0 zeX p2)
     (fun j=>[(0,.c (.ptr 0 0)),(2,.c (.ptr 2 0)),(4,.c (.ptr 4 0)),(9,.c (.d (.sl true 1 (encS zeX)))),(10,.c (.d (.int .i64 j)))])
     (fun j=>[psB L p2,.pin t 0,box8,.box (A.enc.map .d),.box [.d (.int .i64 12),.d (.str (bs [])),.d (.int .i64 0),.d (.int .i64 (curT L p1).line),.d (.int .i64 (curT L p1).col),.d (.sl true 4 []),.d (.sl true 1 []),.d (.sl true 8 [A.enc])]])
     (fun j=>6-j) 0 [0,1,2,3,4] ⟨by simp,rfl⟩ (by simp[encS,zeX]) fun j ⟨j1,j2⟩=>?_
    unfold zoh
    have htl:zeX.length=6:=rfl
    simp[htl]
    apply gI<;>intro h6
    ·have hj:j<zeX.length:=by simp at h6;omega
     have hj':j<6:=by omega
     rw[aG hj,zdX]at j2
     have hg:zeX[j]?=some zeX[j]:=aA hj
     have ht:=zaJ zeX[j] p2 e1.lt hl
     generalize zeX[j]=s at*
     simp[hg]
     refine gK [0] ht ?_
     by_cases q:(zad L s p2).1=true
     ·rw[aC q]at j2
      rw[<-j2]at hF0
      have hF0:(mkN L p1 12 (bs []) j [] [] [A],(zad L s p2).2)=F0:=hF0
      rw[<-hF0]
      simp[q]
      exact fG [0] [1] (by simp[za4,encS])
     ·rw[aB q]at j2
      rw[zaK q]
      rw[aK]at q
      simp[q]
      refine fD (j+1) [0,1,2,3,4] ⟨by omega,j2⟩ (by omega) ?_
      simp
      exact wI
    ·have hj:j=6:=by simp at h6;omega
     subst hj
     have j2:zdX L 0 zeX p2=none:=by rw[<-j2];try rfl
     rw[j2]at hF0
     have hF0:(mkN L p1 12 (bs []) 0 [] [] [A],zen L 7 p2)=F0:=hF0
     rw[<-hF0]
     have b3:=ziI (L:=L) 7 p2 e1.lt
     simp
     refine gK [0] b3 ?_
     simp
     exact fG [0] [1] (by simp[za4,encS])
   ·rw[aB q2]at hF0
    rw[zaK q2,<-hF0]
    rw[aK]at q2
    simp[q2]
    exact fI [0] [1]
end
end Go.Gr
namespace Go.Gr
open Go.Abs Go.Proofs
section
variable {L:List Tok}
def zCT(hL:OkL L)(hl:L.length<=10000){d:Nat}{at_ ex:PS->Nod × PS}(ha:Tame L at_)(Ha:NoOk L 227 d at_)(he:Tame L ex)(He:NoOk L 126 d ex):
  NoOk L 211 d (fun p=>zcT L ex (L.length+1) (at_ p).1 (at_ p).2):=by
 intro p h hd
 refine zyN MS0 fun ts hts ok hb c hN hp=>?_
 obtain⟨t,rfl⟩:=za6 hts
 have c1:=Ha p h hd
 have t1:=ha p h
 simp only
 obtain⟨F0,hF0⟩:∃F0,zcT L ex (L.length+1) (at_ p).1 (at_ p).2=F0:=⟨_,rfl⟩
 rw[hF0]
 generalize (at_ p).1=A at*
 generalize (at_ p).2=p1 at*
 have hd1:p1.deep=d:=by rw[t1.deep,hd]
 unfold zqb
 simp
 refine gK [0] c1 ?_
 simp
 refine fK zaa hp (fun x:Nat × Nod × List D × PS=>zcT L ex x.1 x.2.1 x.2.2.2=F0/\Tm L p1 x.2.2.2/\L.length<x.1+x.2.2.2.at'/\D.erdL x.2.2.1=x.2.1.enc)
  (fun x=>[(0,.c (.ptr 0 0)),(2,.c (.ptr 2 0)),(3,.c (.ptr 3 0))])
  (fun x=>[psB L x.2.2.2,.pin t 0,box8,.box (x.2.2.1.map .d)])
  (fun x=>x.1) (L.length+1,A,A.enc,p1) [0,1,2,3] ⟨hF0,Tm.refl t1.lt,by simp only;omega,by simp⟩ (by simp) fun⟨n,a,v,q⟩ ⟨i1,i2,i3,i5⟩=>?_
 unfold zmy
 simp only at i1 i2 i5
 have i3:L.length<n+q.at':=i3
 have hlt:=i2.lt
 have hcut:=zAg i5
 have hcut':=zxk i5
 have hvl:=zpQ i5
 obtain⟨n,rfl⟩:∃m,n=m+1:=⟨n-1,by omega⟩
 rw[zcT]at i1
 have a0:=zjA (L:=L) 7 q hlt
 have a1:=zaJ (bs [40]) q hlt hl
 simp
 refine gK [0] a0 ?_
 simp
 refine gK [0] a1 ?_
 by_cases q1:(zad L (bs [40]) q).1=true
 ·rw[aC q1]at i1
  simp only at i1
  have hat:=(take_at q1).1
  have e1:=zai hL hlt (s:=bs [40])
  have e2:=e1.trans (he _ e1.lt)
  have e3:=e2.trans (zam hL e2.lt (s:=bs [41]))
  have le1:=(he _ e1.lt).le
  have le2:=(zam hL e2.lt (s:=bs [41])).le
  have a2:=He _ e1.lt (by rw[e1.deep,i2.deep,hd1])
  have a3:=zaT hL (bs [41]) _ e2.lt hl
  generalize (zad L (bs [40]) q).2=q2 at*
  generalize (ex q2).1=B at*
  generalize (ex q2).2=q3 at*
  generalize zaA L (bs [41]) q3=q4 at*
  simp[q1]
  refine gK [0] a2 ?_
  simp
  refine gK [0] a3 ?_
  simp[hvl,hcut,hcut']
  refine fD (n,mkN L q 7 (bs []) 0 [] [] [a,B],([.int .i64 7,.str (bs []),.int .i64 0,.int .i64 (curT L q).line,.int .i64 (curT L q).col,.sl true 4 [],.sl true 1 [],.sl true 8 [v,B.enc]]:List D),q4) [0,1,2,3] ⟨i1,i2.trans e3,by simp only;omega,?_⟩ (by simp) ?_
  ·simp[za4,i5,encS]
  ·simp
 ·rw[aB q1]at i1
  rw[zaK q1]
  rw[aK]at q1
  have a2:=zaJ (bs [46]) q hlt hl
  simp[q1]
  refine gK [0] a2 ?_
  by_cases q2:(zad L (bs [46]) q).1=true
  ·rw[aC q2]at i1
   simp only at i1
   have hat:=(take_at q2).1
   have e1:=zai hL hlt (s:=bs [46])
   have e2:=e1.trans (zaR hL e1.lt)
   have le1:=(zaR hL e1.lt).le
   have a3:=zcq _ e1.lt hl
   generalize (zad L (bs [46]) q).2=q2' at*
   generalize (zaw L q2').1=s at*
   generalize (zaw L q2').2=q3 at*
   simp[q2]
   refine gK [0] a3 ?_
   simp[hvl,hcut,hcut']
   refine fD (n,mkN L q 9 s 0 [] [] [a],([.int .i64 9,.str s,.int .i64 0,.int .i64 (curT L q).line,.int .i64 (curT L q).col,.sl true 4 [],.sl true 1 [],.sl true 8 [v]]:List D),q3) [0,1,2,3] ⟨i1,i2.trans e2,by simp only;omega,?_⟩ (by simp) ?_
   ·simp[za4,i5,encS]
   ·simp
  ·rw[aB q2]at i1
   rw[zaK q2,<-i1]
   rw[aK]at q2
   simp[q2,hvl,hcut,hcut']
   exact fG [0] [1] (by simp[hcut,i5])
def zso(hL:OkL L)(hl:L.length<=10000){ki:PS->Typ × PS}{ex un:PS->Nod × PS}(hk:Tame L ki)(he:Tame L ex)(hu:Tame L un)(p:PS)(h:p.at'<L.length)(hd:p.deep<=100)
  (Hu:p.deep<100->NoOk L 191 (p.deep+1) un) (Hp:p.deep<100->NoOk L 211 (p.deep+1) (zli L ki ex)):
  MCall Pg 191 [.c (.ptr 0 0)] [psB L p] (.ag ((if(zau L p).1=true then zds (zff L ki ex un (zau L p).2)else(noN,(zau L p).2)).1.enc.map .d)) [psB L (if(zau L p).1=true then zds (zff L ki ex un (zau L p).2)else(noN,(zau L p).2)).2]:=by
 have ce:=zmS p h (by omega)
 refine zwu MS0 fun ts hts ok hb c hN hp=>?_
 obtain⟨t,rfl⟩:=za6 hts
 unfold zoi
 simp
 refine gK [0] ce ?_
 by_cases q:(zau L p).1=true
 ·rw[aC q]
  obtain⟨e1,e2,e3⟩:=zcX q
  have hp1:(zau L p).2.at'<L.length:=by rw[e1];exact h
  have hd1:(zau L p).2.deep=p.deep+1:=by rw[e1]
  have Hu:=Hu e2
  have Hp:=Hp e2
  have a0:=zjA (L:=L) 16 _ hp1
  have a1:=zaJ (bs [45]) _ hp1 hl
  unfold zds zff
  simp only
  generalize (zau L p).2=p1 at*
  simp[q]
  refine gK [0] a0 ?_
  simp
  refine gK [0] a1 ?_
  by_cases q1:(zad L (bs [45]) p1).1=true
  ·rw[aC q1]
   have t1:=zai hL hp1 (s:=bs [45])
   have t2:=t1.trans (hu _ t1.lt)
   have a2:=Hu _ t1.lt (by rw[t1.deep,hd1])
   have hd3:=t2.deep
   rw[hd1]at hd3
   simp only
   generalize (zad L (bs [45]) p1).2=p2 at*
   generalize (un p2).1=A at*
   generalize (un p2).2=p3 at*
   have hw:IntKind.i64.wrap ((p3.deep:Int)-1)=((p3.deep-1:Nat):Int):=by rw[wI];omega
   simp[q1]
   refine gK [0] a2 ?_
   simp
   exact fG [0] [1] (by simp[za4,encS,hw])
  ·rw[aB q1,zaK q1]
   rw[aK]at q1
   have a2:=zaJ wNot _ hp1 hl
   simp[q1]
   refine gK [0] a2 ?_
   by_cases q2:(zad L wNot p1).1=true
   ·rw[aC q2]
    have t1:=zai hL hp1 (s:=wNot)
    have t2:=t1.trans (hu _ t1.lt)
    have a2:=Hu _ t1.lt (by rw[t1.deep,hd1])
    have hd3:=t2.deep
    rw[hd1]at hd3
    simp only
    generalize (zad L wNot p1).2=p2 at*
    generalize (un p2).1=A at*
    generalize (un p2).2=p3 at*
    have hw:IntKind.i64.wrap ((p3.deep:Int)-1)=((p3.deep-1:Nat):Int):=by rw[wI];omega
    simp[q2]
    refine gK [0] a2 ?_
    simp
    exact fG [0] [1] (by simp[za4,encS,hw])
   ·rw[aB q2,zaK q2]
    rw[aK]at q2
    have t2:=zxC hL hk he p1 hp1
    have a3:=Hp p1 hp1 hd1
    have hd3:=t2.deep
    rw[hd1]at hd3
    generalize (zli L ki ex p1).1=A at*
    generalize (zli L ki ex p1).2=p3 at*
    have hw:IntKind.i64.wrap ((p3.deep:Int)-1)=((p3.deep-1:Nat):Int):=by rw[wI];omega
    simp[q2]
    refine gK [0] a3 ?_
    simp
    exact fJ [0] [1] (by simp[hw])
 ·rw[aB q]
  rw[aK]at q
  simp[q]
  exact fG [0] [1] (by simp[noN,Nod.enc,Nod.encs,encS])
def zuQ(hL:OkL L)(hl:L.length<=10000){B:PS->Nod × PS}(hB:Tame L B)(p:PS)(h:p.at'<L.length)(hd:p.deep<=100)(HB:p.deep<100->NoOk L 159 (p.deep+1) B):
  MCall Pg 126 [.c (.ptr 0 0)] [psB L p] (.ag ((if(zau L p).1=true then zds (B (zau L p).2)else(noN,(zau L p).2)).1.enc.map .d)) [psB L (if(zau L p).1=true then zds (B (zau L p).2)else(noN,(zau L p).2)).2]:=by
 have ce:=zmS p h (by omega)
 refine zyL MS0 fun ts hts ok hb c hN hp=>?_
 obtain⟨t,rfl⟩:=za6 hts
 unfold zp9
 simp
 refine gK [0] ce ?_
 by_cases q:(zau L p).1=true
 ·rw[aC q]
  obtain⟨e1,e2,e3⟩:=zcX q
  have hp1:(zau L p).2.at'<L.length:=by rw[e1];exact h
  have hd1:(zau L p).2.deep=p.deep+1:=by rw[e1]
  have HB:=HB e2
  have a0:=HB _ hp1 hd1
  have t1:=hB _ hp1
  have hd3:=t1.deep
  rw[hd1]at hd3
  unfold zds
  simp only
  generalize (zau L p).2=p1 at*
  generalize (B p1).1=A at*
  generalize (B p1).2=p2 at*
  have hw:IntKind.i64.wrap ((p2.deep:Int)-1)=((p2.deep-1:Nat):Int):=by rw[wI];omega
  simp[q]
  refine gK [0] a0 ?_
  simp
  exact fJ [0] [1] (by simp[hw])
 ·rw[aB q]
  rw[aK]at q
  simp[q]
  exact fG [0] [1] (by simp[noN,Nod.enc,Nod.encs,encS])
end
end Go.Gr
namespace Go.Gr
open Go.Abs Go.Proofs List
section
variable {L:List Tok}
def zAL(hL:OkL L)(hl:L.length<=10000){d:Nat}{ki:PS->Typ × PS}(hk:Tame L ki)(Hk:KiOk L d ki)(p:PS)(h:p.at'<L.length)(hd:p.deep=d):
  MCall Pg 235 [.c (.ptr 0 0)] [psB L p] (.c (.d (.sl false 4 ((zdt L ki (L.length+1) [] p).1.map Typ.enc)))) [psB L (zdt L ki (L.length+1) [] p).2]:=by
 refine zwv MS0 fun ts hts ok hb c hN hp=>?_
 obtain⟨t,rfl⟩:=za6 hts
 obtain⟨F0,hF0⟩:∃F0,zdt L ki (L.length+1) [] p=F0:=⟨_,rfl⟩
 rw[hF0]
 unfold zoj
 simp
 refine fQ [.t 3] ?_
 simp
 refine fK zaa hp (fun x:Nat × List Typ × PS=>zdt L ki x.1 x.2.1 x.2.2=F0/\Tm L p x.2.2/\L.length<x.1+x.2.2.at'/\x.2.1.length<=x.2.2.at')
  (fun x=>[(0,.c (.ptr 0 0)),(3,.c (.msl 4 2 0 x.2.1.length))])
  (fun x=>[psB L x.2.2,.pin t 0,.arr 4 ((x.2.1.map Typ.enc).map (·.map .d))])
  (fun x=>x.1) (L.length+1,[],p) [0,1,2] ⟨hF0,Tm.refl h,by simp only;omega,by simp⟩ (by simp) fun⟨n,l,q⟩ ⟨i1,i2,i3,i4⟩=>?_
 unfold zlF
 simp only at i1 i2 i4
 have i3:L.length<n+q.at':=i3
 have hlt:=i2.lt
 obtain⟨n,rfl⟩:∃m,n=m+1:=⟨n-1,by omega⟩
 rw[zdt]at i1
 have e1:=hk q hlt
 have le1:=e1.le
 have a1:=Hk q hlt (by rw[i2.deep,hd])
 have a2:=zaJ (bs [44]) _ e1.lt hl
 generalize (ki q).1=T at*
 generalize (ki q).2=q1 at*
 simp
 refine gK [0] a1 ?_
 simp
 refine⟨by omega,?_⟩
 refine gK [0] a2 ?_
 by_cases q2:(zad L (bs [44]) q1).1=true
 ·rw[aC q2]at i1
  have hat:=(take_at q2).1
  have e2:=e1.trans (zai hL e1.lt (s:=bs [44]))
  generalize (zad L (bs [44]) q1).2=q3 at*
  simp[q2]
  refine fD (n,l++[T],q3) [0,1,4] ⟨i1,i2.trans e2,by simp only;omega,by simp;omega⟩ (by simp) ?_
  simp
  exact aF (by simp)
 ·rw[aB q2,zaK q2]at i1
  rw[zaK q2,<-i1]
  rw[aK]at q2
  have a3:=zaT hL (bs [93]) _ e1.lt hl
  have z:take l.length (List.map ((fun x=>List.map AC.d x)∘Typ.enc) l)=List.map ((fun x=>List.map AC.d x)∘Typ.enc) l:=aF (by simp)
  simp[q2]
  refine fP [4] ?_
  simp[zah,z]
  refine gK [0] a3 ?_
  have z2:take (l.length+1) (l.map Typ.enc++[T.enc])=l.map Typ.enc++[T.enc]:=aF (by simp)
  simp[zah,z]
  exact fJ [0] [1] (by simp[zah,z,z2])
def zyU(hL:OkL L)(hl:L.length<=10000){d:Nat}{ex:PS->Nod × PS}(he:Tame L ex)(He:NoOk L 126 d ex)(k:Int)(q0 p:PS)(h:p.at'<L.length)(hd:p.deep=d):
  MCall Pg 234 [.c (.ptr 0 0),.ag [.d (.int .i64 k),.d (.str (bs [])),.d (.int .i64 0),.d (.int .i64 (curT L q0).line),.d (.int .i64 (curT L q0).col),.d (.sl true 4 []),.d (.sl true 1 []),.d (.sl true 8 [])]] [psB L p] (.ag ((zct L ex q0 p).1.enc.map .d)) [psB L (zct L ex q0 p).2]:=by
 refine zur MS0 fun ts hts ok hb c hN hp=>?_
 obtain⟨t,rfl⟩:=za6 hts
 have a1:=zaJ (bs [125]) p h hl
 unfold zmz zct
 simp
 refine gK [0] a1 ?_
 by_cases q1:(zad L (bs [125]) p).1=true
 ·rw[aC q1]
  simp[q1]
  exact fG [0] [1] (by simp[za4,encS])
 ·rw [aB q1,zaK q1]
  rw[aK]at q1
  have hg:=zd9 h
  have hnx:p.e=0->(curT L p).kind=1->L[p.at'+1]?=some (L.getD (p.at'+1) zfi):=fun _ k1=>by
   have hlt:p.at'+1<L.length:=hL.mid _ h (by unfold curT at k1;omega)
   rw[aH,aA hlt];try rfl
  have hnn:(0:Int)<=(p.at':Int)+1:=by omega
  have hw:IntKind.i64.wrap ((p.at':Int)+1)=((p.at'+1:Nat):Int):=by rw[wI];omega
  generalize hN1:L.getD (p.at'+1) zfi=N at*
  by_cases q2:p.e≠0\/(curT L p).kind≠1\/N.kind≠5\/N.text≠bs [58]
  ·rw [aC q2]
   have t1:=he p h
   have t2:=t1.trans (zam hL t1.lt (s:=zlf))
   have t3:=t2.trans (zaR hL t2.lt)
   have t4:=t3.trans (zam hL t3.lt (s:=bs [58]))
   have t5:=t4.trans (he _ t4.lt)
   have b1:=He p h hd
   have b2:=zaT hL zlf _ t1.lt hl
   have b3:=zcq _ t2.lt hl
   have b4:=zaT hL (bs [58]) _ t3.lt hl
   have b5:=He _ t4.lt (by rw[t4.deep,hd])
   have b6:=zaT hL (bs [125]) _ t5.lt hl
   simp only
   generalize (ex p).1=A at*
   generalize (ex p).2=p1 at*
   generalize zaA L zlf p1=p2 at*
   generalize (zaw L p2).1=s at*
   generalize (zaw L p2).2=p3 at*
   generalize zaA L (bs [58]) p3=p4 at*
   generalize (ex p4).1=B at*
   generalize (ex p4).2=p5 at*
   generalize zaA L (bs [125]) p5=p6 at*
   generalize curT L p=T at*
   have hcs:p.e≠0\/(p.e=0/\T.kind≠1)\/(p.e=0/\T.kind=1/\N.kind≠5)\/(p.e=0/\T.kind=1/\N.kind=5/\N.text≠bs [58]):=by
    by_cases x1:p.e=0
    ·by_cases x2:T.kind=1
     ·by_cases x3:N.kind=5
      ·rcases q2 with q2|q2|q2|q2
       ·exact absurd x1 q2
       ·exact absurd x2 q2
       ·exact absurd x3 q2
       ·exact .inr (.inr (.inr ⟨x1,x2,x3,q2⟩))
      ·exact .inr (.inr (.inl ⟨x1,x2,x3⟩))
     ·exact .inr (.inl ⟨x1,x2⟩)
    ·exact .inl x1
   have hw:IntKind.i64.wrap ((p.at':Int)+1)=((p.at'+1:Nat):Int):=hw
   rcases hcs with x1|⟨x1,x2⟩|⟨x1,x2,x3⟩|⟨x1,x2,x3,x4⟩
   ·simp[q1,hg,x1]
    refine⟨by decide,?_⟩
    refine⟨by decide,?_⟩
    refine gM [0] b1 (by simp[x1]) ?_
    simp
    refine gK [0] b2 ?_
    simp
    refine gK [0] b3 ?_
    simp
    refine gK [0] b4 ?_
    simp
    refine gK [0] b5 ?_
    simp
    refine gK [0] b6 ?_
    simp
    exact fG [0] [1] (by simp[za4,encS])
   ·simp[q1,hg,x1,x2]
    refine⟨by decide,?_⟩
    refine⟨by decide,?_⟩
    refine gM [0] b1 (by simp[x1]) ?_
    simp
    refine gK [0] b2 ?_
    simp
    refine gK [0] b3 ?_
    simp
    refine gK [0] b4 ?_
    simp
    refine gK [0] b5 ?_
    simp
    refine gK [0] b6 ?_
    simp
    exact fG [0] [1] (by simp[za4,encS])
   ·have hn:=hnx x1 x2
    simp[q1,hg,x1,x2,x3,hn,hw,hnn]
    refine⟨by decide,?_⟩
    refine⟨by decide,?_⟩
    refine gM [0] b1 (by simp[x1]) ?_
    simp
    refine gK [0] b2 ?_
    simp
    refine gK [0] b3 ?_
    simp
    refine gK [0] b4 ?_
    simp
    refine gK [0] b5 ?_
    simp
    refine gK [0] b6 ?_
    simp
    exact fG [0] [1] (by simp[za4,encS])
   ·have hn:=hnx x1 x2
    simp[q1,hg,x1,x2,x3,x4,hn,hw,hnn]
    refine⟨by decide,?_⟩
    refine⟨by decide,?_⟩
    refine gM [0] b1 (by simp[x1]) ?_
    simp
    refine gK [0] b2 ?_
    simp
    refine gK [0] b3 ?_
    simp
    refine gK [0] b4 ?_
    simp
    refine gK [0] b5 ?_
    simp
    refine gK [0] b6 ?_
    simp
    exact fG [0] [1] (by simp[za4,encS])
  ·rw[aB q2]
   have x1:p.e=0:=by
    apply bB;intro x;exact q2 (.inl x)
   have x2:(curT L p).kind=1:=by
    apply bB;intro x;exact q2 (.inr (.inl x))
   have x3:N.kind=5:=by
    apply bB;intro x;exact q2 (.inr (.inr (.inl x)))
   have x4:N.text=bs [58]:=by
    apply bB;intro x;exact q2 (.inr (.inr (.inr x)))
   have hn:=hnx x1 x2
   obtain⟨F0,hF0⟩:∃F0,zdu L ex (L.length+1) [] [] p=F0:=⟨_,rfl⟩
   simp only
   rw[hF0]
   simp[q1,hg,x1,x2,x3,x4,hn,hw,hnn]
   refine⟨by decide,?_⟩
   refine⟨by decide,?_⟩
   refine fQ [.c 2 6,.c 2 7] ?_
   simp
   refine fK zaa hp (fun x:Nat × List fC × List Nod × PS=>zdu L ex x.1 x.2.1 x.2.2.1 x.2.2.2=F0/\Tm L p x.2.2.2/\L.length<x.1+x.2.2.2.at'/\x.2.1.length=x.2.2.1.length/\x.2.1.length<=x.2.2.2.at')
    (fun x=>[(0,.c (.ptr 0 0)),(3,.c (.ptr 2 0)),(4,.c (.ptr 3 0))])
    (fun x=>[psB L x.2.2.2,.pin t 0,.box [.d (.int .i64 8),.d (.str (bs [])),.d (.int .i64 0),.d (.int .i64 (curT L q0).line),.d (.int .i64 (curT L q0).col),.d (.sl true 4 []),.msl 1 4 0 x.2.1.length,.msl 8 5 0 x.2.2.1.length],box8,.arr 1 ((encS x.2.1).map (·.map .d)),.arr 8 ((x.2.2.1.map Nod.enc).map (·.map .d))])
    (fun x=>x.1) (L.length+1,[],[],p) [0,1,2,3,5,6] ⟨hF0,Tm.refl h,by simp only;omega,rfl,by simp⟩ (by simp[encS,x1]) fun⟨n,ns,ks,q⟩ ⟨i1,i2,i3,i4,i5⟩=>?_
   unfold zjX
   simp only at i1 i2 i4 i5
   have i3:L.length<n+q.at':=i3
   have hlt:=i2.lt
   obtain⟨n,rfl⟩:∃m,n=m+1:=⟨n-1,by omega⟩
   rw[zdu]at i1
   have e1:=zaR hL hlt
   have e2:=e1.trans (zam hL e1.lt (s:=bs [58]))
   have e3:=e2.trans (he _ e2.lt)
   have e4:=e3.trans (zai hL e3.lt (s:=bs [44]))
   have c1:=zcq q hlt hl
   have c2:=zaT hL (bs [58]) _ e1.lt hl
   have c3:=He _ e2.lt (by rw[e2.deep,i2.deep,hd])
   have c4:=zaJ (bs [44]) _ e3.lt hl
   generalize (zaw L q).1=s1 at*
   generalize (zaw L q).2=q1' at*
   generalize zaA L (bs [58]) q1'=q2' at*
   generalize (ex q2').1=k1 at*
   generalize (ex q2').2=q3' at*
   simp
   refine gK [0] c1 ?_
   simp
   refine gK [0] c2 ?_
   simp
   refine gK [0] c3 ?_
   simp
   refine⟨by omega,by omega,?_⟩
   refine gK [0] c4 ?_
   by_cases q5:(zad L (bs [44]) q3').1=true
   ·rw[aC q5]at i1
    have ha:=(take_at q5).1
    have hb':=e3.le
    simp[q5]
    refine fD (n,ns++[s1],ks++[k1],(zad L (bs [44]) q3').2) [0,1,2,3,7,8] ⟨i1,i2.trans e4,by simp only;omega,by simp[i4],by simp;omega⟩ (by simp) ?_
    simp
    exact⟨aF (by simp),aF (by simp)⟩
   ·rw[aB q5,zaK q5]at i1
    rw[<-i1]
    have c5:=zaT hL (bs [125]) _ e3.lt hl
    rw[zaK q5]
    rw[aK]at q5
    simp[q5]
    refine fP [7,8] ?_
    have k1':take ns.length (List.map (fun x=>List.map AC.d x) (encS ns))=List.map (fun x=>List.map AC.d x) (encS ns):=aF (by simp)
    have k2':take ks.length (List.map ((fun x=>List.map AC.d x)∘Nod.enc) ks)=List.map ((fun x=>List.map AC.d x)∘Nod.enc) ks:=aF (by simp)
    simp[zah,k1',k2']
    refine gK [0] c5 ?_
    simp[zah,k1',k2']
    have z1:D.erdE (take (ns.length+1) (encS ns++[[D.str s1]]))=encS ns++[[D.str s1]]:=by
     rw[aF (by simp)]
     simpa only[ztK,ztL]using zfS (ns++[s1])
    have z2:D.erdE (take (ks.length+1) (ks.map Nod.enc++[k1.enc]))=ks.map Nod.enc++[k1.enc]:=by
     rw[aF (by simp)]
     simpa using zFs (ks++[k1])
    exact fG [0] [1] (by simp[za4,zah,k1',k2',z1,z2])
end
end Go.Gr
namespace Go.Gr
open Go.Abs Go.Proofs List
def zb3(s:fC):s.data.toList.length=s.size:=by rw[bu];try rfl
def zdK{s:fC}{j:Nat}(h:j<s.data.toList.length):s.data[j]?=some s.data.toList[j]:=by
 simp at h⊢
def wrap_u64{n:Int}(h1:0<=n)(h2:n<=18446744073709551615):IntKind.u64.wrap n=n:=zre (by simpa[IntKind.min,IntKind.bits,IntKind.signed]using h1) (by simpa[IntKind.max,IntKind.bits,IntKind.signed]using h2)
def wrap_u8{n:Int}(h1:0<=n)(h2:n<=255):IntKind.u8.wrap n=n:=zre (by simpa[IntKind.min,IntKind.bits,IntKind.signed]using h1) (by simpa[IntKind.max,IntKind.bits,IntKind.signed]using h2)
def zC8(j:Nat):10^(j+1)=10*10^j:=by rw[Nat.pow_succ];omega
def zve(s:fC):PCall Pg 176 [.one (.str s)] (.tup [.one (.int .i64 (zdG s).1),.one (.bool (zdG s).2)]):=by
 refine zwo (by simp) fun o c hN hp=>?_
 have hs:s.size<=zaf:=by have:=o.1;simpa only[DV.ok,D.ok]using this
 unfold zaf at hs
 have hlen:=zb3 s
 unfold zmp
 by_cases h0:s.size=0
 ·have e:zdG s=(0,false):=by unfold zdG zg1;rw[aC (by left;omega)]
  have h0':(s.size:Int)=0:=by omega
  rw[e]
  simp[h0,h0']
 by_cases h19:19<s.size
 ·have e:zdG s=(0,false):=by unfold zdG zg1;rw[aC (by right;left;omega)]
  have h0':¬(s.size:Int)=0:=by omega
  have h19':(19:Int)<s.size:=by omega
  rw[e]
  simp[h0,h0',h19']
 have h0':¬(s.size:Int)=0:=by omega
 have h19':¬(19:Int)<s.size:=by omega
 have hj0:0<s.data.toList.length:=by omega
 have hb0:=zdK hj0
 have hd0:s.data.toList.head?=some s.data.toList[0]:=by
  rw[head?_eq_getElem?,aA hj0]
 generalize hB:s.data.toList[0]=b0 at hb0 hd0
 by_cases hz:b0=48/\1<s.size
 ·have e:zdG s=(0,false):=by unfold zdG zg1;rw[aC (by right;right;rw[hd0,hz.1];exact⟨rfl,by omega⟩)]
  have h1:(1:Int)<s.size:=by omega
  rw[e]
  simp[h0,h0',h19',hb0,hz.1,h1]
 have hz':¬((b0.toNat:Int)=48/\(1:Int)<s.size):=by
  rintro⟨x,y⟩
  exact hz ⟨by apply dW.mp;simpa using (by omega:b0.toNat=48),by omega⟩
 have e:zdG s=match numL s.data.toList 0 with
  |none=>(0,false)
  |some n=>if 9223372036854775807<n then(0,false)else((n:Int),true):=by
  unfold zdG zg1
  have hn:¬(s.data.toList.length=0\/19<s.data.toList.length\/(s.data.toList.head?=some 48/\1<s.data.toList.length)):=by
   rintro(x|x|⟨x,y⟩)
   ·omega
   ·omega
   ·rw[hd0]at x
    exact hz ⟨by simpa using x,by omega⟩
  rw[aB hn]
  cases numL s.data.toList 0<;>rfl
 rw[e]
 have hgo:∀K:Prop,K=K:=fun _=>rfl
 by_cases q1:(b0.toNat:Int)=48<;>by_cases q2:(1:Int)<s.size
 ·exact absurd ⟨q1,q2⟩ hz'
 all_goals
  simp[h0,h0',h19',hb0,q1,q2]
  refine fK zaa hp (fun x:Nat × Nat=>x.1<=s.size/\x.2<10^x.1/\numL (s.data.toList.drop x.1) x.2=numL s.data.toList 0) (fun x=>[(0,.c (.d (.str s))),(4,.c (.d (.int .u64 x.2))),(5,.c (.d (.int .i64 x.1)))]) (fun _=>[]) (fun x=>s.size-x.1) (0,0) [] ⟨by simp,by simp,by simp⟩ (by simp) fun⟨j,n⟩ ⟨i1,i2,i3⟩=>?_
  unfold zjV
  simp only at i1 i2 i3
  simp
  apply gI<;>intro h
  ·have hj:j<s.size:=by simpa using h
   have hj':j<s.data.toList.length:=by omega
   rw[aG hj',numL]at i3
   have hb:=zdK hj'
   generalize s.data.toList[j]=b at i3 hb
   by_cases d1:(b.toNat:Int)<48
   ·have hd:¬digU b=true:=by unfold digU digV;simp;omega
    rw[aB hd]at i3
    rw[<-i3]
    simp[hb,d1]
   ·by_cases d2:(57:Int)<b.toNat
    ·have hd:¬digU b=true:=by unfold digU digV;simp;omega
     rw[aB hd]at i3
     rw[<-i3]
     simp[hb,d1,d2]
    ·have hd:digU b=true:=by unfold digU digV;simp;omega
     rw[aC hd]at i3
     have hpw:10^(j+1)<=10^19:=Nat.pow_le_pow_right (by omega) (by omega)
     have hps:=zC8 j
     have w1:IntKind.u64.wrap (10*(n:Int))=((10*n:Nat):Int):=by rw[wrap_u64 (by omega) (by omega)];omega
     have w2:IntKind.u8.wrap ((b.toNat:Int)-48)=((b.toNat-48:Nat):Int):=by rw[wrap_u8 (by omega) (by omega)];omega
     have w3:IntKind.u64.wrap (((b.toNat-48:Nat):Int))=((b.toNat-48:Nat):Int):=by rw[wrap_u64 (by omega) (by omega)]
     have w4:IntKind.u64.wrap (((10*n:Nat):Int)+((b.toNat-48:Nat):Int))=((10*n+(b.toNat-48):Nat):Int):=by rw[wrap_u64 (by omega) (by omega)];omega
     simp[hb,d1,d2]
     refine fD (j+1,10*n+(b.toNat-48)) [] ⟨by simp only;omega,by simp only;omega,i3⟩ (by simp only;omega) ?_
     simp only[w1,w2,w3,w4]
     simp
     exact wI
  ·have hj:j=s.size:=by simp at h;omega
   subst hj
   rw[bG (by omega),numL]at i3
   rw[<-i3]
   simp only
   have hpw:10^s.size<=10^19:=Nat.pow_le_pow_right (by omega) (by omega)
   by_cases hm:9223372036854775807<n
   ·have hm':(9223372036854775807:Int)<n:=by omega
    rw[aC hm]
    simp[hm,hm']
   ·have hm':¬(9223372036854775807:Int)<n:=by omega
    rw[aB hm]
    simp[hm,hm']
    exact wI
end Go.Gr
namespace Go.Gr
open Go.Abs Go.Proofs
section
variable {L:List Tok}
def zDk(hL:OkL L)(hl:L.length<=10000){d:Nat}{ki:PS->Typ × PS}{ex:PS->Nod × PS}(hk:Tame L ki)(Hk:KiOk L d ki)(he:Tame L ex)(He:NoOk L 126 d ex):
  NoOk L 227 d (zeY L ki ex):=by
 intro p h hd
 refine zyO MS0 fun ts hts ok hb c hN hp=>?_
 obtain⟨t,rfl⟩:=za6 hts
 have a0:=zjA (L:=L) 2 p h
 have hg:=zd9 h
 have hw:IntKind.i64.wrap ((p.at':Int)+1)=((p.at'+1:Nat):Int):=by rw[wI];omega
 have hpz:=zve (curT L p).text
 unfold zqc zeY numV
 simp only
 by_cases c1:p.e=0/\(curT L p).kind=3
 ·rw[aC c1]
  obtain⟨x1,x2⟩:=c1
  simp
  refine gK [0] a0 ?_
  simp[hg,x1,x2,hw]
  refine⟨by decide,?_⟩
  refine gN hpz ?_
  simp
  exact fG [0] [1] (by simp[za4,encS,x1])
 rw[aB c1]
 by_cases c2:p.e=0/\(curT L p).kind=4
 ·rw[aC c2]
  obtain⟨x1,x2⟩:=c2
  simp
  refine gK [0] a0 ?_
  simp[hg,x1,x2,hw]
  refine⟨by decide,?_⟩
  exact fG [0] [1] (by simp[za4,encS,x1])
 rw[aB c2]
 have d1:=zaJ zlg p h hl
 have d2:=zaJ ziV p h hl
 have d3:=zaJ zlh p h hl
 have d4:=zaJ zgn p h hl
 have d5:=zaJ zd3 p h hl
 have d6:=zaJ (bs [40]) p h hl
 have d7:=zaJ (bs [123]) p h hl
 have d8:=zcq p h hl
 have n1:p.e=0->¬(curT L p).kind=3:=fun x y=>c1 ⟨x,y⟩
 have n2:p.e=0->¬(curT L p).kind=4:=fun x y=>c2 ⟨x,y⟩
 simp
 refine gK [0] a0 ?_
 by_cases x:p.e=0
 simp[hg,x,n1 x,n2 x]
 rotate_left
 simp[hg,x]
 all_goals
  refine⟨by decide,?_⟩
  refine gM [0] d1 (by simp[x]) ?_
  by_cases q1:(zad L zlg p).1=true
  ·rw[aC q1]
   simp[q1]
   exact fG [0] [1] (by simp[za4,encS])
  rw[aB q1,zaK q1]
  rw[aK]at q1
  simp[q1]
  refine gK [0] d2 ?_
  by_cases q2:(zad L ziV p).1=true
  ·rw[aC q2]
   simp[q2]
   exact fG [0] [1] (by simp[za4,encS])
  rw[aB q2,zaK q2]
  rw[aK]at q2
  simp[q2]
  refine gK [0] d3 ?_
  by_cases q3:(zad L zlh p).1=true
  ·rw[aC q3]
   simp[q3]
   exact fG [0] [1] (by simp[za4,encS])
  rw[aB q3,zaK q3]
  rw[aK]at q3
  simp[q3]
  refine gK [0] d4 ?_
  by_cases q4:(zad L zgn p).1=true
  ·rw[aC q4]
   have t1:=zai hL h (s:=zgn)
   have t2:=t1.trans (zam hL t1.lt (s:=bs [40]))
   have b1:=zaT hL (bs [40]) _ t1.lt hl
   have b2:=zaT hL (bs [41]) _ t2.lt hl
   generalize (zad L zgn p).2=p1 at*
   generalize zaA L (bs [40]) p1=p2 at*
   generalize zaA L (bs [41]) p2=p3 at*
   simp[q4]
   refine gK [0] b1 ?_
   simp
   refine gK [0] b2 ?_
   simp
   exact fG [0] [1] (by simp[za4,encS])
  rw[aB q4,zaK q4]
  rw[aK]at q4
  simp[q4]
  refine gK [0] d5 ?_
  by_cases q5:(zad L zd3 p).1=true
  ·rw[aC q5]
   have t1:=zai hL h (s:=zd3)
   have t2:=t1.trans (zam hL t1.lt (s:=bs [40]))
   have t3:=t2.trans (he _ t2.lt)
   have b1:=zaT hL (bs [40]) _ t1.lt hl
   have b2:=He _ t2.lt (by rw[t2.deep,hd])
   have b3:=zaT hL (bs [41]) _ t3.lt hl
   generalize (zad L zd3 p).2=p1 at*
   generalize zaA L (bs [40]) p1=p2 at*
   generalize (ex p2).1=A at*
   generalize (ex p2).2=p3 at*
   generalize zaA L (bs [41]) p3=p4 at*
   simp[q5]
   refine gK [0] b1 ?_
   simp
   refine gK [0] b2 ?_
   simp
   refine gK [0] b3 ?_
   simp
   exact fG [0] [1] (by simp[za4,encS])
  rw[aB q5,zaK q5]
  rw[aK]at q5
  simp[q5]
  refine gK [0] d6 ?_
  by_cases q6:(zad L (bs [40]) p).1=true
  ·rw[aC q6]
   have t1:=zai hL h (s:=bs [40])
   have t2:=t1.trans (he _ t1.lt)
   have b1:=He _ t1.lt (by rw[t1.deep,hd])
   have b2:=zaT hL (bs [41]) _ t2.lt hl
   generalize (zad L (bs [40]) p).2=p1 at*
   generalize (ex p1).1=A at*
   generalize (ex p1).2=p2 at*
   generalize zaA L (bs [41]) p2=p3 at*
   simp[q6]
   refine gK [0] b1 ?_
   simp
   refine gK [0] b2 ?_
   simp
   exact fI [0] [1]
  rw[aB q6,zaK q6]
  rw[aK]at q6
  simp[q6]
  refine gK [0] d7 ?_
  by_cases q7:(zad L (bs [123]) p).1=true
  ·rw[aC q7]
   have t1:=zai hL h (s:=bs [123])
   have b1:=zyU hL hl he He 2 p _ t1.lt (by rw[t1.deep,hd])
   generalize (zad L (bs [123]) p).2=p1 at*
   generalize (zct L ex p p1).1=A at*
   generalize (zct L ex p p1).2=p2 at*
   simp[q7]
   refine gK [0] b1 ?_
   simp
   exact fI [0] [1]
  rw[aB q7,zaK q7]
  rw[aK]at q7
  have t1:=zaR hL h
  have b1:=zaJ (bs [91]) _ t1.lt hl
  generalize (zaw L p).1=s1 at*
  generalize (zaw L p).2=p1 at*
  simp[q7]
  refine gK [0] d8 ?_
  simp
  refine gK [0] b1 ?_
  by_cases q8:(zad L (bs [91]) p1).1=true
  ·rw[aC q8]
   have t2:=t1.trans (zai hL t1.lt (s:=bs [91]))
   have b2:=zAL hL hl hk Hk _ t2.lt (by rw[t2.deep,hd])
   generalize (zad L (bs [91]) p1).2=p2 at*
   generalize (zdt L ki (L.length+1) [] p2).1=T at*
   generalize (zdt L ki (L.length+1) [] p2).2=p3 at*
   simp[q8]
   refine gK [0] b2 ?_
   simp
   exact fG [0] [1] (by simp[za4,encS])
  rw[aB q8,zaK q8]
  rw[aK]at q8
  simp[q8]
  exact fG [0] [1] (by simp[za4,encS])
def zBk(hL:OkL L)(hl:L.length<=10000):∀(n:Nat) (d:Nat),d<=100->101<=d+n->NoOk L 126 d (euP L (kiP L) n).1/\NoOk L 191 d (euP L (kiP L) n).2
 |0,d,h1,h2=>by omega
 | n+1,d,h1,h2=>by
  have hk:Tame L (kiP L):=zrr hL 102
  have ht:=zqw hL hk n
  have htn:=zqw hL hk (n+1)
  rw[euP]at htn⊢
  by_cases hd:d=100
  ·subst hd
   have hr:=zj9 hL hk ht.2
   refine⟨fun p h hdp=>?_,fun p h hdp=>?_⟩
   ·exact zuQ hL hl (zrs hL hk ht.1 hr.2.2.2.2.2) p h (by omega) (fun q=>absurd q (by omega))
   ·exact zso hL hl hk ht.1 ht.2 p h (by omega) (fun q=>absurd q (by omega)) (fun q=>absurd q (by omega))
  ·have ih:=zBk hL hl n (d+1) (by omega) (by omega)
   have Hk:KiOk L (d+1) (kiP L):=fun r hr hd=>zoI hL hl 102 r hr (by omega) (by omega)
   have Ha:=zDk hL hl hk Hk ht.1 ih.1
   have Hp:=zCT hL hl (znv hL hk ht.1) Ha ht.1 ih.1
   have H6:=zAi ih.2
   have hr:=zj9 hL hk ht.2
   have H5:=zik hL hl (k:=5) (by decide) (by decide) ht.2 H6
   have H4:=zik hL hl (k:=4) (by decide) (by decide) hr.1 H5
   have H3:=zik hL hl (k:=3) (by decide) (by decide) hr.2.1 H4
   have H2:=zAj (zEe hL hl hk Hk hr.2.2.1 H3)
   have H1:=zik hL hl (k:=1) (by decide) (by decide) hr.2.2.2.1 H2
   have H0:=zik hL hl (k:=0) (by decide) (by decide) hr.2.2.2.2.1 H1
   refine⟨fun p h hdp=>?_,fun p h hdp=>?_⟩
   ·subst hdp
    exact zuQ hL hl (zrs hL hk ht.1 hr.2.2.2.2.2) p h (by omega) (fun _ q hq hdq=>zCb hL hl hk Hk ht.1 ih.1 H0 q hq hdq)
   ·subst hdp
    exact zso hL hl hk ht.1 ht.2 p h (by omega) (fun _=>ih.2) (fun _=>Hp)
end
end Go.Gr
