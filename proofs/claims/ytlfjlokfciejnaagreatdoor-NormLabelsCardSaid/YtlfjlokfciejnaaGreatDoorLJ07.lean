/- Texts of ours, joined and written short by a program of ours. -/
import Derived.Test.YtlfjlokfciejnaaGreatDoorLJ06
set_option maxRecDepth 20000
set_option maxHeartbeats 4000000
set_option linter.unusedVariables false
set_option linter.unusedSimpArgs false
namespace Go.Gr
open Go.Abs Go.Proofs
section
variable {L:List Tok}
def iA{α:Type}(L:List Tok)(f:PS->α × PS):Prop:=∀p,p.at'<L.length->Tm L p (f p).2
theorem FF(hL:jJ L):∀(l:List fF) (i:Nat) {p q:PS} {k:Nat},p.at'<L.length->vS L i l p=some (k,q)->Tm L p q/\p.at'<q.at'/\p.e=0/\k<i+l.length
|[],_,_,_,_,_,h=>by rw[vS]at h;cases h
| s::l,i,p,q,k,hp,h=>by
 rw[vS]at h;split at h
 ·rename_i c;simp only[ai,bX]at h;obtain⟨rfl,rfl⟩:=h;have:=take_at c;exact⟨ig hL hp,by omega,this.2,by simp⟩
 ·have:=FF hL l (i+1) hp h;simp only[List.length_cons];exact⟨this.1,this.2.1,this.2.2.1,by omega⟩
theorem Cs(hL:jJ L):∀(l:List fF) {p q:PS} {k:fF},p.at'<L.length->xM L l p=some (k,q)->Tm L p q/\p.at'<q.at'/\p.e=0
|[],_,_,_,_,h=>by rw[xM]at h;cases h
| s::l,p,q,k,hp,h=>by
 rw[xM]at h;split at h
 ·rename_i c;simp only[ai,bX]at h;obtain⟨rfl,rfl⟩:=h;have:=take_at c;exact⟨ig hL hp,by omega,this.2⟩
 ·exact Cs hL l hp h
theorem Sz(hL:jJ L){ki:PS->gU × PS}(hk:iA L ki):∀(n:Nat) (ns:List fF) (ks:List gU),iA L (AU L ki n ns ks)
|0,ns,ks,p,hp=>Tm.refl hp
|n+1,ns,ks,p,hp=>by
 have h1:=mE hL hp;have h2:=h1.trans (jE hL h1.lt (s:=bs [58]));have h3:=h2.trans (hk _ h2.lt);have h4:=h3.trans (ig hL h3.lt (s:=bs [44]));rw[AU];split
 ·exact h4.trans (Sz hL hk n _ _ _ h4.lt)
 ·exact h4
theorem zGO(hL:jJ L){ki:PS->gU × PS}(hk:iA L ki):iA L (Ey L ki):=λp hp=>by
 unfold Ey;by_cases c1:(iC L (bs [40]) p).1=true
 ·rw[aC c1];have h1:=ig hL hp (s:=bs [40]);have h2:=h1.trans (hk _ h1.lt);exact h2.trans (jE hL h2.lt)
 rw[aB c1];by_cases c2:(iC L (bs [123]) p).1=true
 ·rw[aC c2];have h1:=ig hL hp (s:=bs [123]);by_cases c3:(iC L (bs [125]) (iC L (bs [123]) p).2).1=true
  ·rw[aC c3];exact h1.trans (ig hL h1.lt)
  ·rw[aB c3];have h2:=h1.trans (Sz hL hk (L.length+1) [] [] _ h1.lt);exact h2.trans (jE hL h2.lt)
 rw[aB c2];exact mE hL hp
theorem FH(hL:jJ L){ki:PS->gU × PS}(hk:iA L ki):iA L (rZ L ki):=λp hp=>by
 unfold rZ;cases e:vS L 0 xL p with
 |some x=>exact(FF hL _ _ hp e).1
 |none=>exact zGO hL hk p hp
theorem TA(hL:jJ L){ki:PS->gU × PS}(hk:iA L ki):∀(n:Nat) (l:List gU),iA L (r9 L ki n l)
|0,l,p,hp=>Tm.refl hp
| n+1,l,p,hp=>by
 rw[r9];split
 ·have h1:=ig hL hp (s:=bs [124]);have h2:=h1.trans (FH hL hk _ h1.lt);exact h2.trans (TA hL hk n _ _ h2.lt)
 ·exact Tm.refl hp
theorem TB(hL:jJ L){ki:PS->gU × PS}(hk:iA L ki):iA L (qp L ki):=λp hp=>by
 have h1:=FH hL hk p hp;unfold qp;exact h1.trans (TA hL hk (L.length+1) _ _ h1.lt)
theorem I1{p:PS}(h:¬(jV L p).1=true):(jV L p).2=yT L p:=by
 unfold jV at h⊢;split
 ·rfl
 ·rename_i q;rw[aB q]at h;exact absurd rfl h
theorem zP{p:PS}(h:(jV L p).1=true):(jV L p).2={p with deep:=p.deep+1}/\p.deep<100/\p.e=0:=by
 unfold jV at h⊢;split
 ·rename_i q;rw[aC q]at h;cases h
 ·rename_i q;have hd:p.deep<100:=by
   rcases aW p.deep 100 with r|r
   ·exact r
   ·exfalso;apply q;unfold yT;rw[aC r];exact FE (by decide)
  have e:yT L p=p:=by unfold yT;rw[aB (by omega)]
  rw[e]at q⊢;exact⟨rfl,hd,by simpa using q⟩
theorem Lg{α:Type}{p:PS}{x:α × PS}(h:(jV L p).1=true)(hp:p.at'<L.length)(k:Tm L (jV L p).2 x.2):Tm L p (uT x).2:=by
 obtain⟨e,_,h0⟩:=zP h;rw[e]at k;have hd:=k.deep;simp only at hd;exact⟨by simp only[uT];omega,k.le,k.lt,λx=>absurd h0 x⟩
theorem zGP(hL:jJ L){ki:PS->gU × PS}(hk:iA L ki):iA L (Ez L ki):=λp hp=>by
 have h1:=TB hL hk p hp;have h2:=h1.trans (ig hL h1.lt (s:=bs [45,62]));unfold Ez;by_cases c2:(iC L (bs [45,62]) (qp L ki p).2).1=true
 ·show Tm L p (if(iC L (bs [45,62]) (qp L ki p).2).1=true then _ else _:gU × PS).2;rw[aC c2];exact h2.trans (hk _ h2.lt)
 ·show Tm L p (if(iC L (bs [45,62]) (qp L ki p).2).1=true then _ else _:gU × PS).2;rw[aB c2];exact h2
theorem Lh(hL:jJ L)(d:Nat):iA L (wW L d):=by
 induction d with
 |zero=>exactλp hp=>Tm.refl hp
 | succ d ih=>
  intro p hp;rw[wW];show Tm L p (if(jV L p).1=true then _ else _:gU × PS).2;by_cases c:(jV L p).1=true
  ·rw[aC c];have hp':(jV L p).2.at'<L.length:=by rw[(zP c).1];exact hp
   exact Lg c hp (zGP hL ih _ hp')
  ·rw[aB c,I1 c];exact IZ hp
theorem zQ(hL:jJ L){ki:PS->gU × PS}(hk:iA L ki):iA L (qF L ki):=λp hp=>by
 unfold qF;split
 ·have h1:=ig hL hp (s:=bs [58]);exact h1.trans (hk _ h1.lt)
 ·exact Tm.refl hp
theorem BZ(hL:jJ L){ki:PS->gU × PS}(hk:iA L ki):iA L (rf L ki):=λp hp=>by
 unfold rf;have h1:=jE hL hp (s:=bs [40]);have h2:=h1.trans (mE hL h1.lt);have h3:=h2.trans (zQ hL hk _ h2.lt);have h4:=h3.trans (jE hL h3.lt (s:=bs [41]));exact h4.trans (zQ hL hk _ h4.lt)
theorem Li(hL:jJ L){ki:PS->gU × PS}{ex rk:PS->gq × PS}(hk:iA L ki)(he:iA L ex)(hr:iA L rk):iA L (zN L ki ex rk):=λp hp=>by
 unfold zN;split
 ·have h1:=ig hL hp (s:=tH);have h2:=h1.trans (mE hL h1.lt);have h3:=h2.trans (zQ hL hk _ h2.lt);have h4:=h3.trans (jE hL h3.lt (s:=bs [61]));have h5:=h4.trans (he _ h4.lt);have h6:=h5.trans (jE hL h5.lt (s:=bs [59]));exact h6.trans (he _ h6.lt)
 ·split
  ·have h1:=ig hL hp (s:=AX);have h2:=h1.trans (he _ h1.lt);have h3:=h2.trans (jE hL h2.lt (s:=Cf));have h4:=h3.trans (he _ h3.lt);have h5:=h4.trans (jE hL h4.lt (s:=Cg));exact h5.trans (he _ h5.lt)
  ·split
   ·have h1:=ig hL hp (s:=uF);have h2:=h1.trans (BZ hL hk _ h1.lt);have h3:=h2.trans (jE hL h2.lt (s:=bs [61,62]));exact h3.trans (he _ h3.lt)
   ·exact hr p hp
theorem EA(hL:jJ L){rk:PS->gq × PS}(hr:iA L rk)(signs:List fF):∀(n:Nat) (a:gq),iA L (kZ L rk signs n a)
|0,a,p,hp=>Tm.refl hp
| n+1,a,p,hp=>by
 rw[kZ];split
 ·exact Tm.refl hp
 ·rename_i s q h;have h1:=(Cs hL _ hp h).1;have h2:=h1.trans (hr _ h1.lt);exact h2.trans (EA hL hr signs n _ _ h2.lt)
theorem zIQ(hL:jJ L){ki:PS->gU × PS}{rk:PS->gq × PS}(hk:iA L ki)(hr:iA L rk):iA L (ru L ki rk):=λp hp=>by
 have h0:=hr p hp;unfold ru;simp only;split
 ·rename_i s q h;have h1:=h0.trans (Cs hL _ h0.lt h).1;exact h1.trans (hr _ h1.lt)
 ·split
  ·have h1:=h0.trans (ig hL h0.lt (s:=bs [97,115]));exact h1.trans (hk _ h1.lt)
  ·split
   ·have h1:=h0.trans (ig hL h0.lt (s:=bs [105,115]));split
    ·rename_i i q h;exact h1.trans (FF hL _ _ h1.lt h).1
    ·exact h1.trans (Dz h1.lt)
   ·exact h0
theorem FI(hL:jJ L){ki:PS->gU × PS}{un:PS->gq × PS}(hk:iA L ki)(hu:iA L un):iA L (Ch L un)/\iA L (Ci L un)/\iA L (FB L un)/\iA L (Cj L ki un)/\iA L (Ck L ki un)/\iA L (FC L ki un):=by
 have h5:iA L (Ch L un):=λp hp=>(hu p hp).trans (EA hL hu _ _ _ _ (hu p hp).lt);have h4:iA L (Ci L un):=λp hp=>(h5 p hp).trans (EA hL h5 _ _ _ _ (h5 p hp).lt);have h3:iA L (FB L un):=λp hp=>(h4 p hp).trans (EA hL h4 _ _ _ _ (h4 p hp).lt);have h2:iA L (Cj L ki un):=zIQ hL hk h3;have h1:iA L (Ck L ki un):=λp hp=>(h2 p hp).trans (EA hL h2 _ _ _ _ (h2 p hp).lt);have h0:iA L (FC L ki un):=λp hp=>(h1 p hp).trans (EA hL h1 _ _ _ _ (h1 p hp).lt);exact⟨h5,h4,h3,h2,h1,h0⟩
theorem Lj(hL:jJ L){ki:PS->gU × PS}(hk:iA L ki):∀(n:Nat) (l:List gU),iA L (wX L ki n l)
|0,l,p,hp=>Tm.refl hp
|n+1,l,p,hp=>by
 have h1:=hk p hp;have h2:=h1.trans (ig hL h1.lt (s:=bs [44]));rw[wX];split
 ·exact h2.trans (Lj hL hk n _ _ h2.lt)
 ·exact h2.trans (jE hL h2.lt)
theorem FJ(hL:jJ L){ex:PS->gq × PS}(he:iA L ex):∀(n:Nat) (ns:List fF) (ks:List gq),iA L (uU L ex n ns ks)
|0,ns,ks,p,hp=>Tm.refl hp
|n+1,ns,ks,p,hp=>by
 have h1:=mE hL hp;have h2:=h1.trans (jE hL h1.lt (s:=bs [58]));have h3:=h2.trans (he _ h2.lt);have h4:=h3.trans (ig hL h3.lt (s:=bs [44]));rw[uU];split
 ·exact h4.trans (FJ hL he n _ _ _ h4.lt)
 ·exact h4
theorem zFb(hL:jJ L){ex:PS->gq × PS}(he:iA L ex)(q:PS):iA L (vT L ex q):=λp hp=>by
 unfold vT;split
 ·exact ig hL hp
 ·split
  ·have h1:=he p hp;have h2:=h1.trans (jE hL h1.lt (s:=Cm));have h3:=h2.trans (mE hL h2.lt);have h4:=h3.trans (jE hL h3.lt (s:=bs [58]));have h5:=h4.trans (he _ h4.lt);exact h5.trans (jE hL h5.lt)
  ·have h1:=FJ hL he (L.length+1) [] [] p hp;exact h1.trans (jE hL h1.lt)
theorem TC(hL:jJ L){p:PS}(hp:p.at'<L.length)(h:p.e=0/\(iI L p).kind≠0):Tm L p {p with at':=p.at'+1}:=
⟨rfl,by simp,hL.mid _ hp h.2,λx=>absurd h.1 x⟩
theorem I4(hL:jJ L){ki:PS->gU × PS}{ex:PS->gq × PS}(hk:iA L ki)(he:iA L ex):iA L (xO L ki ex):=λp hp=>by
 unfold xO;by_cases c1:p.e=0/\(iI L p).kind=3
 ·rw[aC c1];exact TC hL hp ⟨c1.1,by omega⟩
 rw[aB c1];by_cases c2:p.e=0/\(iI L p).kind=4
 ·rw[aC c2];exact TC hL hp ⟨c2.1,by omega⟩
 rw[aB c2];by_cases c3:(iC L Cn p).1=true
 ·rw[aC c3];exact ig hL hp
 rw[aB c3];by_cases c4:(iC L Co p).1=true
 ·rw[aC c4];exact ig hL hp
 rw[aB c4];by_cases c5:(iC L Cq p).1=true
 ·rw[aC c5];exact ig hL hp
 rw[aB c5];by_cases c6:(iC L yU p).1=true
 ·rw[aC c6];have h1:=ig hL hp (s:=yU);have h2:=h1.trans (jE hL h1.lt (s:=bs [40]));exact h2.trans (jE hL h2.lt)
 rw[aB c6];by_cases c7:(iC L yB p).1=true
 ·rw[aC c7];have h1:=ig hL hp (s:=yB);have h2:=h1.trans (jE hL h1.lt (s:=bs [40]));have h3:=h2.trans (he _ h2.lt);exact h3.trans (jE hL h3.lt)
 rw[aB c7];by_cases c8:(iC L (bs [40]) p).1=true
 ·rw[aC c8];have h1:=ig hL hp (s:=bs [40]);have h2:=h1.trans (he _ h1.lt);exact h2.trans (jE hL h2.lt)
 rw[aB c8];by_cases c9:(iC L (bs [123]) p).1=true
 ·rw[aC c9];have h1:=ig hL hp (s:=bs [123]);exact h1.trans (zFb hL he p _ h1.lt)
 rw[aB c9];have h1:=mE hL hp;by_cases c10:(iC L (bs [91]) (jI L p).2).1=true
 ·have h2:=h1.trans (ig hL h1.lt (s:=bs [91]));have h3:=h2.trans (Lj hL hk (L.length+1) [] _ h2.lt);show Tm L p (if(iC L (bs [91]) (jI L p).2).1=true then _ else _:gq × PS).2;rw[aC c10];exact h3
 ·show Tm L p (if(iC L (bs [91]) (jI L p).2).1=true then _ else _:gq × PS).2;rw[aB c10];exact h1
theorem Ll(hL:jJ L){ex:PS->gq × PS}(he:iA L ex):∀(n:Nat) (a:gq),iA L (tJ L ex n a)
|0,a,p,hp=>Tm.refl hp
| n+1,a,p,hp=>by
 rw[tJ];split
 ·have h1:=ig hL hp (s:=bs [40]);have h2:=h1.trans (he _ h1.lt);have h3:=h2.trans (jE hL h2.lt (s:=bs [41]));exact h3.trans (Ll hL he n _ _ h3.lt)
 ·split
  ·have h1:=ig hL hp (s:=bs [46]);have h2:=h1.trans (mE hL h1.lt);exact h2.trans (Ll hL he n _ _ h2.lt)
  ·exact Tm.refl hp
theorem TD(hL:jJ L){ki:PS->gU × PS}{ex:PS->gq × PS}(hk:iA L ki)(he:iA L ex):iA L (Cr L ki ex):=λp hp=>by
 have h1:=I4 hL hk he p hp;unfold Cr;exact h1.trans (Ll hL he _ _ _ h1.lt)
theorem zGQ(hL:jJ L){ki:PS->gU × PS}{ex un:PS->gq × PS}(hk:iA L ki)(he:iA L ex)(hu:iA L un):iA L (zO L ki ex un):=λp hp=>by
 unfold zO;split
 ·have h1:=ig hL hp (s:=bs [45]);exact h1.trans (hu _ h1.lt)
 ·split
  ·have h1:=ig hL hp (s:=tK);exact h1.trans (hu _ h1.lt)
  ·exact TD hL hk he p hp
theorem FK(hL:jJ L){ki:PS->gU × PS}(hk:iA L ki)(d:Nat):iA L (uV L ki d).1/\iA L (uV L ki d).2:=by
 induction d with
 |zero=>exact⟨λp hp=>Tm.refl hp,λp hp=>Tm.refl hp⟩
 | succ d ih=>
  rw[uV];refine⟨λp hp=>?_,λp hp=>?_⟩
  ·show Tm L p (if(jV L p).1=true then _ else _:gq × PS).2;by_cases c:(jV L p).1=true
   ·rw[aC c];have hp':(jV L p).2.at'<L.length:=by rw[(zP c).1];exact hp
    exact Lg c hp (Li hL hk ih.1 (FI hL hk ih.2).2.2.2.2.2 _ hp')
   ·rw[aB c,I1 c];exact IZ hp
  ·show Tm L p (if(jV L p).1=true then _ else _:gq × PS).2;by_cases c:(jV L p).1=true
   ·rw[aC c];have hp':(jV L p).2.at'<L.length:=by rw[(zP c).1];exact hp
    exact Lg c hp (zGQ hL hk ih.1 ih.2 _ hp')
   ·rw[aB c,I1 c];exact IZ hp
end
theorem lw{ts:List (Nat × Nat)}{b:Blk}(h:ts.length=[b].length):∃t,ts=[t]:=by
 match ts,h with
 |[t],_=>exact⟨t,rfl⟩
abbrev jv(L:List Tok)(p:PS):Blk:=.box [.d (.sl false 4 (L.map Tok.enc)),.d (.int .i64 p.at'),.d (.int .i64 p.deep),.d (.int .i64 p.e),.d (.int .i64 p.line),.d (.int .i64 p.col)]
section
variable {L:List Tok}
theorem zR{p:PS}(h:p.at'<L.length):L[p.at']?=some (iI L p):=by
 unfold iI;rw[aH,aA h];try rfl
theorem FL(e:Int)(p:PS)(h:p.at'<L.length):MCall Pg 127 [.c (.ptr 0 0),.c (.d (.int .i64 e))] [jv L p] (.tup []) [jv L (wV L e p)]:=by
 refine zDA nD λts hts ok hb c hN hp=>?_;obtain⟨t,rfl⟩:=lw hts;have hg:=zR h;unfold Rx wV;simp;apply gN<;>intro h0
 ·have h0:p.e=0:=by simpa using h0
  rw[aC h0];simp[hg];refine⟨by decide,?_⟩;exact fM [0] [1]
 ·have h0:¬p.e=0:=by simpa using h0
  rw[aB h0];exact fM [0] [1]
theorem zGG(s:fF)(p:PS)(h:p.at'<L.length):MCall Pg 155 [.c (.ptr 0 0),.c (.d (.str s))] [jv L p] (.c (.d (.bool (Dx L s p)))) [jv L p]:=by
 refine zDB nD λts hts ok hb c hN hp=>?_;obtain⟨t,rfl⟩:=lw hts;have hg:=zR h;unfold Ry Dx;generalize iI L p=T at*
 by_cases h0:p.e=0<;>by_cases h2:T.kind=2<;>by_cases h5:T.kind=5<;>simp[hg,h0,h2,h5];all_goals (refine⟨by decide,?_⟩)
 all_goals exact fO [0] [1] (by simp[h0,h2,h5])
theorem mF(s:fF)(p:PS)(h:p.at'<L.length)(hl:L.length<=10000):MCall Pg 120 [.c (.ptr 0 0),.c (.d (.str s))] [jv L p] (.c (.d (.bool (iC L s p).1))) [jv L (iC L s p).2]:=by
 refine zDC nD λts hts ok hb c hN hp=>?_;obtain⟨t,rfl⟩:=lw hts;have hs:=zGG s p h;unfold Rz iC;generalize Dx L s p=b at*
 simp;refine gP [0] hs ?_;cases b with
 |true=>
  simp;exact fO [0] [1] (by simp;exact wI)
 |false=>
  simp;exact fM [0] [1]
theorem oJ(hL:jJ L)(s:fF)(p:PS)(h:p.at'<L.length)(hl:L.length<=10000):MCall Pg 122 [.c (.ptr 0 0),.c (.d (.str s))] [jv L p] (.tup []) [jv L (jQ L s p)]:=by
 refine zDD nD λts hts ok hb c hN hp=>?_;obtain⟨t,rfl⟩:=lw hts;have hs:=mF s p h hl;unfold SA jQ;by_cases q:(iC L s p).1=true
 ·rw[aC q];rw[q]at hs;simp;refine gP [0] hs ?_;simp;exact fM [0] [1]
 ·rw[aB q];rw[lN q]at hs;rw[aM]at q;rw[q]at hs;have hf:=FL (L:=L) 7 p h;simp;refine gP [0] hs ?_;simp;refine gP [0] hf ?_;simp;exact fM [0] [1]
theorem xR(p:PS)(h:p.at'<L.length)(hl:L.length<=10000):MCall Pg 121 [.c (.ptr 0 0)] [jv L p] (.c (.d (.str (jI L p).1))) [jv L (jI L p).2]:=by
 refine zDE nD λts hts ok hb c hN hp=>?_;obtain⟨t,rfl⟩:=lw hts;have hg:=zR h;have hf:=FL (L:=L) 7 p h;unfold SB jI;generalize iI L p=T at*
 by_cases h0:p.e=0<;>by_cases h1:T.kind=1<;>simp[hg,h0,h1]
 ·refine⟨by decide,?_⟩;exact fO [0] [1] (by simp;exact wI)
 all_goals
  refine⟨by decide,?_⟩;refine gP [0] hf ?_;simp;exact fO [0] [1] (by simp[h0,h1])
theorem Lm(p:PS)(h:p.at'<L.length)(hd:p.deep<=1000):MCall Pg 158 [.c (.ptr 0 0)] [jv L p] (.c (.d (.bool (jV L p).1))) [jv L (jV L p).2]:=by
 refine zB6 nD λts hts ok hb c hN hp=>?_;obtain⟨t,rfl⟩:=lw hts;have hf:=FL (L:=L) 6 p h;have hfd:(wV L 6 p).deep=p.deep:=(Dz h).deep;have hff:(wV L 6 p).e≠0:=FE (by decide);unfold SC jV yT;by_cases h1:100<=p.deep
 ·have h1':(100:Int)<=p.deep:=by omega
  rw[aC h1,aC hff];simp[h1'];refine gP [0] hf ?_;simp[hff];exact fM [0] [1]
 ·have h1':¬(100:Int)<=p.deep:=by omega
  rw[aB h1];by_cases h0:p.e=0
  ·rw[aB (by simp[h0])];simp[h1',h0];exact fO [0] [1] (by simp;exact wI)
  ·rw[aC h0];simp[h1',h0];exact fM [0] [1]
end
end Go.Gr
namespace Go.Gr
open Go.Abs Go.Proofs List
@[simp] theorem zDs{α:Type}(f:Nat->Nat)(g:α->List D):AC.rens f∘((λx=>List.map AC.d x)∘g)=(λx=>List.map AC.d x)∘g:=by funext x;simp
@[simp] theorem TE(a b:List fF):encS (a++b)=encS a++encS b:=by simp[encS]
@[simp] theorem TF(s:fF):encS [s]=[[.str s]]:=rfl
@[simp] theorem zGa:encS []=[]:=rfl
theorem AZ:∀l:List fF,D.erdE (encS l)=encS l
|[]=>rfl
|s::l=>by
 have ih:=AZ l;simp only[encS,map_cons,D.erdE,D.erdL,D.erd]at ih⊢;rw[ih]
mutual
theorem gU.erdL:∀t:gU,D.erdL t.enc=t.enc
|.mk k n s l=>by
 simp only[gU.enc,D.erdL,D.erd,AZ,gU.erdE l]
theorem gU.erdE:∀l:List gU,D.erdE (gU.encs l)=gU.encs l
|[]=>rfl
|t::l=>by simp only[gU.encs,D.erdE,gU.erdL t,gU.erdE l]
end
@[simp] theorem Lp(l:List gU):D.erdE (l.map gU.enc)=l.map gU.enc:=by rw[<-gU.encs_map];exact gU.erdE l
theorem TG:∀l:List D,(l.map AC.d).map AC.erd=(D.erdL l).map .d
|[]=>rfl
|d::l=>by simp only[map_cons,TG l,D.erdL];rfl
attribute [simp] AV.erd AC.erd D.erd D.erdE D.erdL gU.erdL AZ gU.erdE
abbrev mY:Blk:=.box [.d (.int .i64 0),.d (.str (bs [])),.d (.sl true 1 []),.d (.sl true 4 [])]
def qL(L:List Tok)(d:Nat)(ki:PS->gU × PS):Prop:=∀p:PS,p.at'<L.length->p.deep=d->MCall Pg 156 [.c (.ptr 0 0)] [jv L p] (.ag ((ki p).1.enc.map .d)) [jv L (ki p).2]
section
variable {L:List Tok}
theorem TH(hL:jJ L)(hl:L.length<=10000){d:Nat}{ki:PS->gU × PS}(hk:iA L ki)(Hk:qL L d ki)(p:PS)(h:p.at'<L.length)(hd:p.deep=d):
  MCall Pg 190 [.c (.ptr 0 0)] [jv L p] (.ag ((rZ L ki p).1.enc.map .d)) [jv L (rZ L ki p).2]:=by
 refine zDG nD λts hts ok hb c hN hp=>?_;obtain⟨t,rfl⟩:=lw hts;have hR:rZ L ki p=rZ L ki p:=rfl;generalize hR':rZ L ki p=R at*
 unfold SK;simp;refine fP gz hp (λj:Nat=>j<=5/\vS L j (xL.drop j) p=vS L 0 xL p) (λj=>[(4,.c (.d (.int .i64 j))),(3,.c (.d (.sl true 1 (encS xL)))),(0,.c (.ptr 0 0)),(2,.c (.ptr 2 0))]) (λj=>[jv L p,.pin t 0,mY]) (λj=>5-j) 0 [0,1,2] ⟨by simp,rfl⟩ (by simp[encS,xL]) λj ⟨h1,h2⟩=>?_;unfold SH;have hbl:xL.length=5:=rfl;simp[hbl];apply gN<;>intro h5
 ·have hj:j<xL.length:=by simp at h5;omega
  have hj':j<5:=by omega
  rw[aG hj,vS]at h2;have hg:xL[j]?=some xL[j]:=aA hj;have ht:=mF xL[j] p h hl;generalize xL[j]=s at*
  simp[hg];refine gP [0] ht ?_;by_cases q:(iC L s p).1=true
  ·rw[aC q]at h2;have hr:R=(.mk j (bs []) [] [],(iC L s p).2):=by rw[<-hR'];unfold rZ;rw[<-h2]
   rw[hr];simp[q];exact fJ [0] [1] (by simp[gU.enc,gU.encs,encS])
  ·rw[aB q]at h2;rw[lN q];rw[aM]at q;simp[q];refine fG (j+1) [0,1,2] ⟨by omega,h2⟩ (by omega) ?_;simp;exact wI
 ·have hj:j=5:=by simp at h5;omega
  subst hj;have h2:vS L 0 xL p=none:=by rw[<-h2];try rfl
  have ht:=mF (bs [40]) p h hl;have hr:R=Ey L ki p:=by rw[<-hR'];unfold rZ;rw[h2]
  rw[hr];unfold Ey;simp;refine gP [0] ht ?_;by_cases q1:(iC L (bs [40]) p).1=true
  ·have t1:=ig hL h (s:=bs [40]);have t2:=t1.trans (hk _ t1.lt);have h3:=Hk _ t1.lt (by rw[t1.deep,hd]);have h4:=oJ hL (bs [41]) _ t2.lt hl;rw[aC q1];simp[q1];refine gP [0] h3 ?_;simp;refine gP [0] h4 ?_;simp;exact fM [0] [1]
  ·rw [aB q1,lN q1];rw[aM]at q1;have h3:=mF (bs [123]) p h hl;simp[q1];refine gP [0] h3 ?_;by_cases q2:(iC L (bs [123]) p).1=true
   ·rw [aC q2];have t1:=ig hL h (s:=bs [123]);have h4:=mF (bs [125]) _ t1.lt hl;generalize (iC L (bs [123]) p).2=p1 at*
    simp[q2];refine fV [.c 3 2,.c 3 3] ?_;simp;refine gP [0] h4 ?_;by_cases q3:(iC L (bs [125]) p1).1=true
    ·rw[aC q3];simp[q3];refine fU [4,5] ?_;simp[iZ];exact fJ [0] [1] (by simp[gU.enc,gU.encs,encS])
    ·rw[aB q3,lN q3];rw[aM]at q3;simp[q3];obtain⟨F0,hF0⟩:∃F0,AU L ki (L.length+1) [] [] p1=F0:=⟨_,rfl⟩
     rw[hF0];have hd1:p1.deep=d:=by rw[t1.deep,hd]
     refine fP gz hp (λx:Nat × List fF × List gU × PS=>AU L ki x.1 x.2.1 x.2.2.1 x.2.2.2=F0/\Tm L p1 x.2.2.2/\L.length<x.1+x.2.2.2.at'/\x.2.1.length=x.2.2.1.length/\x.2.1.length<=x.2.2.2.at')
      (λx=>[(0,.c (.ptr 0 0)),(2,.c (.ptr 2 0)),(8,.c (.ptr 3 0))])
      (λx=>[jv L x.2.2.2,.pin t 0,mY,.box [.d (.int .i64 5),.d (.str (bs [])),.msl 1 4 0 x.2.1.length,.msl 4 5 0 x.2.2.1.length],.arr 1 ((encS x.2.1).map (·.map .d)),.arr 4 ((x.2.2.1.map gU.enc).map (·.map .d))])
      (λx=>x.1) (L.length+1,[],[],p1) [0,1,2,3,4,5] ⟨hF0,Tm.refl t1.lt,by simp only;omega,rfl,by simp⟩ (by simp[encS]) λ⟨n,ns,ks,q⟩ ⟨i1,i2,i3,i4,i5⟩=>?_
     unfold SI;simp only at i1 i2 i4 i5;have i3:L.length<n+q.at':=i3;have hlt:=i2.lt;obtain⟨n,rfl⟩:∃m,n=m+1:=⟨n-1,by omega⟩
     rw[AU]at i1;have e1:=mE hL hlt;have e2:=e1.trans (jE hL e1.lt (s:=bs [58]));have e3:=e2.trans (hk _ e2.lt);have e4:=e3.trans (ig hL e3.lt (s:=bs [44]));have c1:=xR q hlt hl;have c2:=oJ hL (bs [58]) _ e1.lt hl;have c3:=Hk _ e2.lt (by rw[e2.deep,i2.deep,hd1]);have c4:=mF (bs [44]) _ e3.lt hl;generalize (jI L q).1=s1 at*
     generalize (jI L q).2=q1' at*
     generalize jQ L (bs [58]) q1'=q2' at*
     generalize (ki q2').1=k1 at*
     generalize (ki q2').2=q3' at*
     simp;refine gP [0] c1 ?_;simp;refine gP [0] c2 ?_;simp;refine gP [0] c3 ?_;simp;refine⟨by omega,by omega,?_⟩;refine gP [0] c4 ?_;by_cases q5:(iC L (bs [44]) q3').1=true
     ·rw[aC q5]at i1;have ha:=(take_at q5).1;have hb':=e3.le;simp[q5];refine fG (n,ns++[s1],ks++[k1],(iC L (bs [44]) q3').2) [0,1,2,3,7,8] ⟨i1,i2.trans e4,by simp only;omega,by simp[i4],by simp;omega⟩ (by simp) ?_;simp;exact⟨aD (by simp),aD (by simp)⟩
     ·rw[aB q5,lN q5]at i1;rw[<-i1];have c5:=oJ hL (bs [125]) _ e3.lt hl;rw[lN q5];rw[aM]at q5;simp[q5];refine fU [7,8] ?_;have k1':take ns.length (List.map (λx=>List.map AC.d x) (encS ns))=List.map (λx=>List.map AC.d x) (encS ns):=aD (by simp);have k2':take ks.length (List.map ((λx=>List.map AC.d x)∘gU.enc) ks)=List.map ((λx=>List.map AC.d x)∘gU.enc) ks:=aD (by simp);simp[iZ,k1',k2'];refine gP [0] c5 ?_;simp[iZ,k1',k2'];have z1:D.erdE (take (ns.length+1) (encS ns++[[D.str s1]]))=encS ns++[[D.str s1]]:=by
       rw[aD (by simp)];simpa only[TE,TF]using AZ (ns++[s1])
      have z2:D.erdE (take (ks.length+1) (ks.map gU.enc++[k1.enc]))=ks.map gU.enc++[k1.enc]:=by
       rw[aD (by simp)];simpa using Lp (ks++[k1])
      exact fJ [0] [1] (by simp[gU.enc,gU.encs_map,iZ,k1',k2',z1,z2])
   ·rw[aB q2,lN q2];rw[aM]at q2;have h4:=xR p h hl;simp[q2];refine gP [0] h4 ?_;simp;exact fJ [0] [1] (by simp[gU.enc,gU.encs,encS])
theorem TI{ki:PS->gU × PS}:∀(n:Nat) (l:List gU) (p:PS),1<=l.length->1<=(r9 L ki n l p).1.length
|0,l,p,h=>h
|n+1,l,p,h=>by
 rw[r9];split
 ·exact TI n _ _ (by simp)
 ·exact h
theorem zHN(hL:jJ L)(hl:L.length<=10000){d:Nat}{ki:PS->gU × PS}(hk:iA L ki)(Hk:qL L d ki)(p:PS)(h:p.at'<L.length)(hd:p.deep=d):
  MCall Pg 179 [.c (.ptr 0 0)] [jv L p] (.ag ((qp L ki p).1.enc.map .d)) [jv L (qp L ki p).2]:=by
 refine zE0 nD λts hts ok hb c hN hp=>?_;obtain⟨t,rfl⟩:=lw hts;have c1:=TH hL hl hk Hk p h hd;have t1:=FH hL hk p h;have hpos:=TI (L:=L) (ki:=ki) (L.length+1) [(rZ L ki p).1] (rZ L ki p).2 (by simp);unfold SG qp;simp only;obtain⟨F0,hF0⟩:∃F0,r9 L ki (L.length+1) [(rZ L ki p).1] (rZ L ki p).2=F0:=⟨_,rfl⟩
 rw[hF0]at hpos⊢;generalize (rZ L ki p).1=T1 at*
 generalize (rZ L ki p).2=p1 at*
 simp;refine gP [0] c1 ?_;simp
 refine fP gz hp (λx:Nat × List gU × PS=>r9 L ki x.1 x.2.1 x.2.2=F0/\Tm L p1 x.2.2/\L.length<x.1+x.2.2.at'/\x.2.1.length<=x.2.2.at'+1)
  (λx=>[(0,.c (.ptr 0 0)),(2,.c (.ptr 2 0)),(3,.c (.msl 4 3 0 x.2.1.length))])
  (λx=>[jv L x.2.2,.pin t 0,mY,.arr 4 ((x.2.1.map gU.enc).map (·.map .d))])
  (λx=>x.1) (L.length+1,[T1],p1) [0,1,2,3] ⟨hF0,Tm.refl t1.lt,by simp only;omega,by simp⟩ (by simp) λ⟨n,l,q⟩ ⟨i1,i2,i3,i4⟩=>?_
 unfold SF;simp only at i1 i2 i4;have i3:L.length<n+q.at':=i3;have hlt:=i2.lt;obtain⟨n,rfl⟩:∃m,n=m+1:=⟨n-1,by omega⟩
 rw[r9]at i1;have e1:=ig hL hlt (s:=bs [124]);have a1:=mF (bs [124]) q hlt hl;simp;refine gP [0] a1 ?_;by_cases q1:(iC L (bs [124]) q).1=true
 ·rw[aC q1]at i1;have i1:r9 L ki n (l++[(rZ L ki (iC L (bs [124]) q).2).1]) (rZ L ki (iC L (bs [124]) q).2).2=F0:=i1;have ha:=(take_at q1).1;have e2:=e1.trans (FH hL hk _ e1.lt);have hle:=(FH hL hk _ e1.lt).le;have a2:=TH hL hl hk Hk _ e1.lt (by rw[e1.deep,i2.deep,t1.deep,hd]);generalize (iC L (bs [124]) q).2=q2 at*
  generalize (rZ L ki q2).1=T2 at*
  generalize (rZ L ki q2).2=q3 at*
  simp[q1];refine gP [0] a2 ?_;simp;refine⟨by omega,?_⟩;refine fG (n,l++[T2],q3) [0,1,2,5] ⟨i1,i2.trans e2,by simp only;omega,by simp;omega⟩ (by simp) ?_;simp;exact aD (by simp)
 ·rw[aB q1]at i1;rw[lN q1];rw[aM]at q1;rw[<-i1]at hpos⊢;simp only at hpos⊢;by_cases hl1:l.length=1
  ·obtain⟨T,rfl⟩:∃T,l=[T]:=by
    match l,hl1 with
    |[T],_=>exact⟨T,rfl⟩
   have ho:Lf [T]=T:=rfl;rw[ho];simp[q1];refine fU [3] ?_;simp[iZ];exact fM [0] [1]
  ·have htk:take l.length (List.map ((λx=>List.map AC.d x)∘gU.enc) l)=List.map ((λx=>List.map AC.d x)∘gU.enc) l:=aD (by simp);have hne:¬((l.length:Int)=1):=by omega
   rw[zHj hl1];simp[q1];refine fU [3] ?_;simp[iZ,htk,hne,hl1];have z:D.erdE (take l.length (l.map gU.enc))=l.map gU.enc:=by
    rw[aD (by simp)];exact Lp l
   exact fJ [0] [1] (by simp[gU.enc,gU.encs_map,encS,z])
theorem Lr(hL:jJ L)(hl:L.length<=10000):∀(n:Nat) (p:PS),p.at'<L.length->p.deep<=100->101<=p.deep+n->MCall Pg 156 [.c (.ptr 0 0)] [jv L p] (.ag ((wW L n p).1.enc.map .d)) [jv L (wW L n p).2]
|0,p,h,h1,h2=>by omega
| n+1,p,h,h1,h2=>by
 have ce:=Lm p h (by omega);refine zDF nD λts hts ok hb c hN hp=>?_;obtain⟨t,rfl⟩:=lw hts;have hR:wW L (n+1) p=if(jV L p).1=true then uT (Ez L (wW L n) (jV L p).2)else(noT,(jV L p).2):=by rw[wW]
 rw[hR];unfold SE;simp;refine gP [0] ce ?_;by_cases q:(jV L p).1=true
 ·rw[aC q];obtain⟨e1,e2,e3⟩:=zP q;have hk:=Lh hL n;have Hk:qL L (p.deep+1) (wW L n):=λr hr hd=>Lr hL hl n r hr (by omega) (by omega);have hp1:(jV L p).2.at'<L.length:=by rw[e1];exact h
  have hd1:(jV L p).2.deep=p.deep+1:=by rw[e1]
  have a1:=zHN hL hl hk Hk _ hp1 hd1;have t1:=TB hL hk _ hp1;have a2:=mF (bs [45,62]) _ t1.lt hl;have t2:=t1.trans (ig hL t1.lt (s:=bs [45,62]));unfold uT Ez;simp only;generalize (jV L p).2=p1 at*
  generalize (qp L (wW L n) p1).1=T1 at*
  generalize (qp L (wW L n) p1).2=p2 at*
  simp[q];refine gP [0] a1 ?_;simp;refine gP [0] a2 ?_;by_cases q2:(iC L (bs [45,62]) p2).1=true
  ·rw[aC q2];have a3:=Hk _ t2.lt (by rw[t2.deep,hd1]);have hd3:=(t2.trans (hk _ t2.lt)).deep;simp only;simp only[hd1]at hd3;generalize (iC L (bs [45,62]) p2).2=p3 at*
   generalize (wW L n p3).1=T3 at*
   generalize (wW L n p3).2=p4 at*
   simp[q2];refine gP [0] a3 ?_;simp;have hw:IntKind.i64.wrap ((p4.deep:Int)-1)=((p4.deep-1:Nat):Int):=by rw[wI];omega
   exact fJ [0] [1] (by simp[gU.enc,gU.encs,encS,hw])
  ·rw[aB q2,lN q2];have hd3:=t1.deep;rw[hd1]at hd3;rw[aM]at q2;simp[q2];have hw:IntKind.i64.wrap ((p2.deep:Int)-1)=((p2.deep-1:Nat):Int):=by rw[wI];omega
   exact fO [0] [1] (by simp[hw])
 ·rw[aB q];rw[aM]at q;simp[q];exact fJ [0] [1] (by simp[noT,gU.enc,gU.encs,encS])
end
end Go.Gr
namespace Go.Gr
open Go.Abs Go.Proofs
mutual
theorem gq.erdL:∀t:gq,D.erdL t.enc=t.enc
|.mk k t n a b ts ns ks=>by
 simp only[gq.enc,D.erdL,D.erd,AZ,Lp,gq.erdE ks]
theorem gq.erdE:∀l:List gq,D.erdE (gq.encs l)=gq.encs l
|[]=>rfl
|t::l=>by simp only[gq.encs,D.erdE,gq.erdL t,gq.erdE l]
end
attribute [simp] gq.erdL gq.erdE
@[simp] theorem zID(l:List gq):D.erdE (l.map gq.enc)=l.map gq.enc:=by rw[<-gq.encs_map];exact gq.erdE l
def nU(L:List Tok)(f:FuncId)(d:Nat)(ex:PS->gq × PS):Prop:=∀p:PS,p.at'<L.length->p.deep=d->MCall Pg f [.c (.ptr 0 0)] [jv L p] (.ag ((ex p).1.enc.map .d)) [jv L (ex p).2]
section
variable {L:List Tok}
theorem EB(k:Int)(p:PS)(h:p.at'<L.length):MCall Pg 180 [.c (.ptr 0 0),.c (.d (.int .i64 k))] [jv L p] (.ag [.d (.int .i64 k),.d (.str (bs [])),.d (.int .i64 0),.d (.int .i64 (iI L p).line),.d (.int .i64 (iI L p).col),.d (.sl true 4 []),.d (.sl true 1 []),.d (.sl true 8 [])]) [jv L p]:=by
 refine zGz nD λts hts ok hb c hN hp=>?_;obtain⟨t,rfl⟩:=lw hts;have hg:=zR h;unfold SN;simp[hg];refine⟨by decide,?_⟩;exact fM [0] [1]
theorem FM(hL:jJ L)(hl:L.length<=10000){d:Nat}{ki:PS->gU × PS}(Hk:qL L d ki)(p:PS)(h:p.at'<L.length)(hd:p.deep=d):
  MCall Pg 157 [.c (.ptr 0 0)] [jv L p] (.c (.d (.sl true 4 ((qF L ki p).1.map gU.enc)))) [jv L (qF L ki p).2]:=by
 refine zDH nD λts hts ok hb c hN hp=>?_;obtain⟨t,rfl⟩:=lw hts;have c1:=mF (bs [58]) p h hl;unfold SL qF;simp;refine gP [0] c1 ?_;by_cases q:(iC L (bs [58]) p).1=true
 ·have t1:=ig hL h (s:=bs [58]);have c2:=Hk _ t1.lt (by rw[t1.deep,hd]);rw[aC q];simp[q];refine gP [0] c2 ?_;simp;exact fM [0] [1]
 ·rw[aB q,lN q];rw[aM]at q;simp[q];exact fM [0] [1]
theorem I5(ki:PS->gU × PS)(q:PS):(qF L ki q).1=[]\/∃T,(qF L ki q).1=[T]:=by
 unfold qF;split
 ·exact .inr ⟨_,rfl⟩
 ·exact .inl rfl
theorem zF8(hL:jJ L)(hl:L.length<=10000){d:Nat}{ki:PS->gU × PS}(hk:iA L ki)(Hk:qL L d ki)(p:PS)(h:p.at'<L.length)(hd:p.deep=d):
  MCall Pg 125 [.c (.ptr 0 0)] [jv L p] (.tup [.c (.d (.str (rf L ki p).1.1)),.c (.d (.sl false 4 ((rf L ki p).1.2.map gU.enc)))]) [jv L (rf L ki p).2]:=by
 refine Ex nD λts hts ok hb c hN hp=>?_;obtain⟨t,rfl⟩:=lw hts;have t1:=jE hL h (s:=bs [40]);have t2:=t1.trans (mE hL t1.lt);have t3:=t2.trans (zQ hL hk _ t2.lt);have t4:=t3.trans (jE hL t3.lt (s:=bs [41]));have c1:=oJ hL (bs [40]) p h hl;have c2:=xR _ t1.lt hl;have c3:=FM hL hl Hk _ t2.lt (by rw[t2.deep,hd]);have c4:=oJ hL (bs [41]) _ t3.lt hl;have c5:=FM hL hl Hk _ t4.lt (by rw[t4.deep,hd]);have n1:=I5 (L:=L) ki (jI L (jQ L (bs [40]) p)).2;have n2:=I5 (L:=L) ki (jQ L (bs [41]) (qF L ki (jI L (jQ L (bs [40]) p)).2).2);unfold Dw rf;simp only;generalize jQ L (bs [40]) p=p1 at*
 generalize (jI L p1).1=s1 at*
 generalize (jI L p1).2=p2 at*
 generalize (qF L ki p2).1=A at*
 generalize (qF L ki p2).2=p3 at*
 generalize jQ L (bs [41]) p3=p4 at*
 generalize (qF L ki p4).1=B at*
 generalize (qF L ki p4).2=p5 at*
 simp;refine gP [0] c1 ?_;simp;refine gP [0] c2 ?_;simp;refine gP [0] c3 ?_;simp;refine gP [0] c4 ?_;simp;refine gP [0] c5 ?_;have hn:noT.enc=[.int .i64 0,.str (bs []),.sl false 1 [],.sl false 4 []]:=rfl;rcases n1 with rfl|⟨T,rfl⟩<;>rcases n2 with rfl|⟨U,rfl⟩<;>simp
 ·refine fU [] ?_;simp;exact fJ [0] [1] (by simp[hn,AV.erds])
 ·refine fU [2] ?_;simp[iZ];exact fJ [0] [1] (by simp[hn,AV.erds])
 ·refine fU [] ?_;simp;exact fJ [0] [1] (by simp[hn,AV.erds])
 ·refine fU [2] ?_;simp[iZ];exact fJ [0] [1] (by simp[hn,AV.erds])
def xS(L:List Tok)(d:Nat)(k:Int)(rk:PS->gq × PS):Prop:=∀p:PS,p.at'<L.length->p.deep=d->MCall Pg 181 [.c (.ptr 0 0),.c (.d (.int .i64 k))] [jv L p] (.ag ((rk p).1.enc.map .d)) [jv L (rk p).2]
theorem pV(p:PS)(k:Int)(t:fF)(n:Int)(ts:List gU)(ns:List fF)(ks:List gq):(kY L p k t n ts ns ks).enc=[.int .i64 k,.str t,.int .i64 n,.int .i64 (iI L p).line,.int .i64 (iI L p).col,.sl false 4 (ts.map gU.enc),.sl false 1 (encS ns),.sl false 8 (ks.map gq.enc)]:=by
 unfold kY;rw[gq.enc_eq];try rfl
theorem zF9(hL:jJ L)(hl:L.length<=10000){d:Nat}{ki:PS->gU × PS}{ex rk:PS->gq × PS}(hk:iA L ki)(Hk:qL L d ki)(he:iA L ex)(He:nU L 126 d ex)(Hr:xS L d 0 rk)(p:PS)(h:p.at'<L.length)(hd:p.deep=d):
  MCall Pg 159 [.c (.ptr 0 0)] [jv L p] (.ag ((zN L ki ex rk p).1.enc.map .d)) [jv L (zN L ki ex rk p).2]:=by
 refine zDJ nD λts hts ok hb c hN hp=>?_;obtain⟨t,rfl⟩:=lw hts;have c0:=EB (L:=L) 5 p h;have c1:=mF tH p h hl;unfold SS zN;simp;refine gP [0] c0 ?_;simp;refine gP [0] c1 ?_;by_cases q1:(iC L tH p).1=true
 ·rw[aC q1];have t1:=ig hL h (s:=tH);have t2:=t1.trans (mE hL t1.lt);have t3:=t2.trans (zQ hL hk _ t2.lt);have t4:=t3.trans (jE hL t3.lt (s:=bs [61]));have t5:=t4.trans (he _ t4.lt);have t6:=t5.trans (jE hL t5.lt (s:=bs [59]));have a1:=xR _ t1.lt hl;have a2:=FM hL hl Hk _ t2.lt (by rw[t2.deep,hd]);have a3:=oJ hL (bs [61]) _ t3.lt hl;have a4:=He _ t4.lt (by rw[t4.deep,hd]);have a5:=oJ hL (bs [59]) _ t5.lt hl;have a6:=He _ t6.lt (by rw[t6.deep,hd]);generalize (iC L tH p).2=p1 at*
  generalize (jI L p1).1=s1 at*
  generalize (jI L p1).2=p2 at*
  generalize (qF L ki p2).1=A at*
  generalize (qF L ki p2).2=p3 at*
  generalize jQ L (bs [61]) p3=p4 at*
  generalize (ex p4).1=V at*
  generalize (ex p4).2=p5 at*
  generalize jQ L (bs [59]) p5=p6 at*
  generalize (ex p6).1=B at*
  generalize (ex p6).2=p7 at*
  simp[q1];refine gP [0] a1 ?_;simp;refine gP [0] a2 ?_;simp;refine gP [0] a3 ?_;simp;refine gP [0] a4 ?_;simp;refine gP [0] a5 ?_;simp;refine gP [0] a6 ?_;simp;exact fJ [0] [1] (by simp[pV,encS])
 ·rw[aB q1,lN q1];rw[aM]at q1;have c2:=mF AX p h hl;simp[q1];refine gP [0] c2 ?_;by_cases q2:(iC L AX p).1=true
  ·rw[aC q2];have t1:=ig hL h (s:=AX);have t2:=t1.trans (he _ t1.lt);have t3:=t2.trans (jE hL t2.lt (s:=Cf));have t4:=t3.trans (he _ t3.lt);have t5:=t4.trans (jE hL t4.lt (s:=Cg));have a1:=He _ t1.lt (by rw[t1.deep,hd]);have a2:=oJ hL Cf _ t2.lt hl;have a3:=He _ t3.lt (by rw[t3.deep,hd]);have a4:=oJ hL Cg _ t4.lt hl;have a5:=He _ t5.lt (by rw[t5.deep,hd]);generalize (iC L AX p).2=p1 at*
   generalize (ex p1).1=C at*
   generalize (ex p1).2=p2 at*
   generalize jQ L Cf p2=p3 at*
   generalize (ex p3).1=A at*
   generalize (ex p3).2=p4 at*
   generalize jQ L Cg p4=p5 at*
   generalize (ex p5).1=B at*
   generalize (ex p5).2=p6 at*
   simp[q2];refine gP [0] a1 ?_;simp;refine gP [0] a2 ?_;simp;refine gP [0] a3 ?_;simp;refine gP [0] a4 ?_;simp;refine gP [0] a5 ?_;simp;exact fJ [0] [1] (by simp[pV,encS])
  ·rw[aB q2,lN q2];rw[aM]at q2;have c3:=mF uF p h hl;simp[q2];refine gP [0] c3 ?_;by_cases q3:(iC L uF p).1=true
   ·rw[aC q3];have t1:=ig hL h (s:=uF);have t2:=t1.trans (BZ hL hk _ t1.lt);have t3:=t2.trans (jE hL t2.lt (s:=bs [61,62]));have a1:=zF8 hL hl hk Hk _ t1.lt (by rw[t1.deep,hd]);have a2:=oJ hL (bs [61,62]) _ t2.lt hl;have a3:=He _ t3.lt (by rw[t3.deep,hd]);generalize (iC L uF p).2=p1 at*
    generalize (rf L ki p1).1.1=s1 at*
    generalize (rf L ki p1).1.2=A at*
    generalize (rf L ki p1).2=p2 at*
    generalize jQ L (bs [61,62]) p2=p3 at*
    generalize (ex p3).1=B at*
    generalize (ex p3).2=p4 at*
    simp[q3];refine gP [0] a1 ?_;simp;refine gP [0] a2 ?_;simp;refine gP [0] a3 ?_;simp;exact fJ [0] [1] (by simp[pV,encS])
   ·rw[aB q3,lN q3];rw[aM]at q3;have a1:=Hr p h hd;simp[q3];refine gP [0] a1 ?_;simp;exact fM [0] [1]
end
end Go.Gr
namespace Go.Gr
open Go.Abs Go.Proofs List
theorem TJ:∀v:List D,(D.erdL v).length=v.length
|[]=>rfl
|d::v=>by simp only[D.erdL,length_cons,TJ v]
@[simp] theorem zKu(v:List D):List.map (AC.erd∘AC.d) v=(D.erdL v).map .d:=by rw[<-bn,TG]
theorem I6{v:List D}{a:gq}(h:D.erdL v=a.enc):v.length=8:=by rw[<-TJ,h];simp
theorem TL{v:List D}{a:gq}(h:D.erdL v=a.enc):cut (v.map AC.d) 0 8=v.map .d:=by
 have:=I6 h;unfold cut;simp[this]
theorem TM{v:List D}{a:gq}(h:D.erdL v=a.enc):cut v 0 8=v:=by
 have:=I6 h;unfold cut;simp[this]
abbrev TN:List (List D):=[[.sl true 1 [[.str (bs [111,114])]]],[.sl true 1 [[.str (bs [97,110,100])]]],[.sl true 1 []],[.sl true 1 [[.str (bs [43,43])]]],[.sl true 1 [[.str (bs [43])],[.str (bs [45])],[.str (bs [94])]]],[.sl true 1 [[.str (bs [42])],[.str (bs [47])],[.str (bs [37])],[.str (bs [38])],[.str (bs [60,60])],[.str (bs [62,62])]]]]
theorem zHR{k:Nat}(h:k<6):TN[k]?=some [.sl true 1 (encS (rq k))]:=by
 match k,h with
 |0,_=>rfl
 |1,_=>rfl
 |2,_=>rfl
 |3,_=>rfl
 |4,_=>rfl
 |5,_=>rfl
theorem zEN{k:Nat}:(rq k).length<=6:=by
 unfold rq;split<;>simp
section
variable {L:List Tok}
def yY(L:List Tok)(rk:PS->gq × PS)(signs:List fF)(n i:Nat)(a:gq)(p:PS):gq × PS:=match xM L (signs.drop i) p with
|none=>(a,p)
|some (s,q)=>kZ L rk signs n (kY L p 14 s 0 [] [] [a,(rk q).1]) (rk q).2
theorem TP(rk:PS->gq × PS)(signs:List fF)(n:Nat)(a:gq)(p:PS):kZ L rk signs (n+1) a p=yY L rk signs n 0 a p:=by
 rw[kZ];unfold yY;rw[drop_zero];try rfl
abbrev yZ:Blk:=.box [.d (.int .i64 0),.d (.str (bs [])),.d (.int .i64 0),.d (.int .i64 0),.d (.int .i64 0),.d (.sl true 4 []),.d (.sl true 1 []),.d (.sl true 8 [])]
theorem FN(hL:jJ L)(hl:L.length<=10000){d k:Nat}(hk:k<6)(hk2:k≠2){rk:PS->gq × PS}(hr:iA L rk)(Hr:xS L d (k+1:Nat) rk):
  xS L d k (λp=>kZ L rk (rq k) (L.length+1) (rk p).1 (rk p).2):=by
 intro p h hd;refine La nD λts hts ok hb c hN hp=>?_;obtain⟨t,rfl⟩:=lw hts;have c1:=Hr p h hd;have t1:=hr p h;have h6:¬((k:Int)=6):=by omega
 have h2:¬((k:Int)=2):=by omega
 have hw:IntKind.i64.wrap ((k:Int)+1)=((k+1:Nat):Int):=by rw[wI];omega
 have hT:=zHR hk;have hs6:=zEN (k:=k);simp only;obtain⟨F0,hF0⟩:∃F0,kZ L rk (rq k) (L.length+1) (rk p).1 (rk p).2=F0:=⟨_,rfl⟩
 rw[hF0];rw[TP]at hF0;generalize (rk p).1=A at*
 generalize (rk p).2=p1 at*
 unfold IY;simp[h6,h2,hw];refine gP [0] c1 ?_;generalize rq k=sg at*
 have hd1:p1.deep=d:=by rw[t1.deep,hd]
 simp;generalize hTT:TN=TT at*
 refine fP gz hp (λx:Nat × Nat × gq × List D × PS=>yY L rk sg x.1 x.2.1 x.2.2.1 x.2.2.2.2=F0/\Tm L p1 x.2.2.2.2/\L.length<x.1+1+x.2.2.2.2.at'/\x.2.1<=sg.length/\D.erdL x.2.2.2.1=x.2.2.1.enc)
  (λx=>[(0,.c (.ptr 0 0)),(1,.c (.d (.int .i64 k))),(4,.c (.ptr 2 0)),(5,.c (.d (.sl true 1 TT))),(6,.c (.ptr 3 0)),(7,.c (.d (.int .i64 x.2.1)))])
  (λx=>[jv L x.2.2.2.2,.pin t 0,yZ,.box (x.2.2.2.1.map .d)])
  (λx=>x.1*7+(sg.length-x.2.1)) (L.length,0,A,A.enc,p1) [0,1,2,3] ⟨hF0,Tm.refl t1.lt,by simp only;omega,by simp,by simp⟩ (by simp[<-hTT]) λ⟨n,i,a,v,q⟩ ⟨i1,i2,i3,i4,i5⟩=>?_
 unfold SV;simp only at i1 i2 i4 i5;have i3:L.length<n+1+q.at':=i3;have hlt:=i2.lt;have hcut:=TL i5;have hcut':=TM i5;have hvl:=I6 i5;simp[hT];apply gN<;>intro hj
 ·have hj:i<sg.length:=by simpa using hj
  have hg:sg[i]?=some sg[i]:=aA hj;have a0:=EB (L:=L) 14 q hlt;have a1:=mF sg[i] q hlt hl;unfold yY at i1;rw[aG hj,xM]at i1;generalize sg[i]=s at*
  refine gP [0] a0 ?_;simp[hT,hg];refine gP [0] a1 ?_;by_cases q1:(iC L s q).1=true
  ·rw[aC q1]at i1;simp only at i1;have ha:=(take_at q1).1;have e1:=ig hL hlt (s:=s);have a2:=Hr _ e1.lt (by rw[e1.deep,i2.deep,hd1]);have e2:=e1.trans (hr _ e1.lt);have hle:=(hr _ e1.lt).le;obtain⟨n,rfl⟩:∃m,n=m+1:=⟨n-1,by have:=e1.lt;omega⟩
   rw[TP]at i1;generalize (iC L s q).2=q2 at*
   generalize (rk q2).1=B at*
   generalize (rk q2).2=q3 at*
   simp[q1,hw];refine gP [0] a2 ?_;simp[hT,hg,hvl,hcut,hcut'];refine fG (n,0,kY L q 14 s 0 [] [] [a,B],([.int .i64 14,.str s,.int .i64 0,.int .i64 (iI L q).line,.int .i64 (iI L q).col,.sl true 4 [],.sl true 1 [],.sl true 8 [v,B.enc]]:List D),q3) [0,1,2,3] ⟨i1,i2.trans e2,by simp only;omega,by simp,?_⟩ (by simp;omega) ?_
   ·simp[pV,i5,encS]
   ·simp
  ·rw[aB q1]at i1;rw[lN q1];rw[aM]at q1;simp[q1];refine fG (n,i+1,a,v,q) [0,1,2,3] ⟨i1,i2,by simp only;omega,by simp only;omega,i5⟩ (by simp only;omega) ?_;simp;exact wI
 ·have hj:i=sg.length:=by simp at hj;omega
  subst hj;unfold yY at i1;rw[aQ,xM]at i1;have i1:(a,q)=F0:=i1;rw[<-i1];simp[hvl,hcut];exact fJ [0] [1] (by simp[hcut,i5])
theorem zEO{d:Nat}{un:PS->gq × PS}(Hu:nU L 191 d un):xS L d 6 un:=by
 intro p h hd;refine La nD λts hts ok hb c hN hp=>?_;obtain⟨t,rfl⟩:=lw hts;have c1:=Hu p h hd;unfold IY;simp;refine gP [0] c1 ?_;simp;exact fM [0] [1]
theorem zEP{d:Nat}{un:PS->gq × PS}(Hu:nU L 192 d un):xS L d 2 un:=by
 intro p h hd;refine La nD λts hts ok hb c hN hp=>?_;obtain⟨t,rfl⟩:=lw hts;have c1:=Hu p h hd;unfold IY;simp;refine gP [0] c1 ?_;simp;exact fM [0] [1]
end
section
variable {L:List Tok}
abbrev cmpS:List fF:=[bs [60],bs [60,61],bs [61,61]]
theorem zHI(hL:jJ L)(hl:L.length<=10000){d:Nat}{ki:PS->gU × PS}{rk:PS->gq × PS}(hk:iA L ki)(Hk:qL L d ki)(hr:iA L rk)(Hr:xS L d 3 rk):
  nU L 192 d (ru L ki rk):=by
 intro p h hd;refine zE1 nD λts hts ok hb c hN hp=>?_;obtain⟨t,rfl⟩:=lw hts;have c1:=Hr p h hd;have t1:=hr p h;have a0:=EB (L:=L) 14 _ t1.lt;obtain⟨F0,hF0⟩:∃F0,ru L ki rk p=F0:=⟨_,rfl⟩
 rw[hF0];unfold ru at hF0;simp only at hF0;rw[show rk p=((rk p).1,(rk p).2)from rfl]at hF0;simp only at hF0;generalize (rk p).1=A at*
 generalize (rk p).2=p1 at*
 have hd1:p1.deep=d:=by rw[t1.deep,hd]
 unfold S9;simp;refine gP [0] c1 ?_;simp;refine gP [0] a0 ?_;simp
 refine fP gz hp (λj:Nat=>j<=3/\xM L (cmpS.drop j) p1=xM L cmpS p1)
  (λj=>[(0,.c (.ptr 0 0)),(2,.c (.ptr 2 0)),(3,.c (.ptr 3 0)),(4,.c (.ptr 4 0)),(5,.c (.d (.sl true 1 (encS cmpS)))),(6,.c (.d (.int .i64 j)))])
  (λj=>[jv L p1,.pin t 0,yZ,.box (A.enc.map .d),.box [.d (.int .i64 14),.d (.str (bs [])),.d (.int .i64 0),.d (.int .i64 (iI L p1).line),.d (.int .i64 (iI L p1).col),.d (.sl true 4 []),.d (.sl true 1 []),.d (.sl true 8 [])]])
  (λj=>3-j) 0 [0,1,2,3,4] ⟨by simp,rfl⟩ (by simp[encS]) λj ⟨i1,i2⟩=>?_
 unfold SX;have hsl:cmpS.length=3:=rfl;simp[hsl];apply gN<;>intro h3
 ·have hj:j<cmpS.length:=by simp at h3;omega
  have hj':j<3:=by omega
  rw[aG hj,xM]at i2;have hg:cmpS[j]?=some cmpS[j]:=aA hj;have ht:=mF cmpS[j] p1 t1.lt hl;generalize cmpS[j]=s at*
  simp[hg];refine gP [0] ht ?_;by_cases q:(iC L s p1).1=true
  ·rw[aC q]at i2;rw[<-i2]at hF0;have hF0:(kY L p1 14 s 0 [] [] [A,(rk (iC L s p1).2).1],(rk (iC L s p1).2).2)=F0:=hF0;rw[<-hF0];have e1:=ig hL t1.lt (s:=s);have a2:=Hr _ e1.lt (by rw[e1.deep,hd1]);simp only;generalize (iC L s p1).2=p2 at*
   generalize (rk p2).1=B at*
   generalize (rk p2).2=p3 at*
   simp[q];refine gP [0] a2 ?_;simp[hg];exact fJ [0] [1] (by simp[pV,encS])
  ·rw[aB q]at i2;rw[lN q];rw[aM]at q;simp[q];refine fG (j+1) [0,1,2,3,4] ⟨by omega,i2⟩ (by omega) ?_;simp;exact wI
 ·have hj:j=3:=by simp at h3;omega
  subst hj;have i2:xM L cmpS p1=none:=by rw[<-i2];try rfl
  rw[i2]at hF0;simp only at hF0;have b1:=mF (bs [97,115]) p1 t1.lt hl;simp;refine gP [0] b1 ?_;by_cases q1:(iC L (bs [97,115]) p1).1=true
  ·rw[aC q1]at hF0;have e1:=ig hL t1.lt (s:=bs [97,115]);have a2:=Hk _ e1.lt (by rw[e1.deep,hd1]);rw[<-hF0];simp only;generalize (iC L (bs [97,115]) p1).2=p2 at*
   generalize (ki p2).1=T at*
   generalize (ki p2).2=p3 at*
   simp[q1];refine gP [0] a2 ?_;simp;exact fJ [0] [1] (by simp[pV,encS])
  ·rw [aB q1]at hF0;rw[lN q1];rw[aM]at q1;have b2:=mF (bs [105,115]) p1 t1.lt hl;simp[q1];refine gP [0] b2 ?_;by_cases q2:(iC L (bs [105,115]) p1).1=true
   ·rw[aC q2]at hF0;have e1:=ig hL t1.lt (s:=bs [105,115]);generalize (iC L (bs [105,115]) p1).2=p2 at*
    simp[q2]
    refine fP gz hp (λj:Nat=>j<=6/\vS L j (xN.drop j) p2=vS L 0 xN p2)
     (λj=>[(0,.c (.ptr 0 0)),(2,.c (.ptr 2 0)),(4,.c (.ptr 4 0)),(9,.c (.d (.sl true 1 (encS xN)))),(10,.c (.d (.int .i64 j)))])
     (λj=>[jv L p2,.pin t 0,yZ,.box (A.enc.map .d),.box [.d (.int .i64 12),.d (.str (bs [])),.d (.int .i64 0),.d (.int .i64 (iI L p1).line),.d (.int .i64 (iI L p1).col),.d (.sl true 4 []),.d (.sl true 1 []),.d (.sl true 8 [A.enc])]])
     (λj=>6-j) 0 [0,1,2,3,4] ⟨by simp,rfl⟩ (by simp[encS,xN]) λj ⟨j1,j2⟩=>?_
    unfold SY;have htl:xN.length=6:=rfl;simp[htl];apply gN<;>intro h6
    ·have hj:j<xN.length:=by simp at h6;omega
     have hj':j<6:=by omega
     rw[aG hj,vS]at j2;have hg:xN[j]?=some xN[j]:=aA hj;have ht:=mF xN[j] p2 e1.lt hl;generalize xN[j]=s at*
     simp[hg];refine gP [0] ht ?_;by_cases q:(iC L s p2).1=true
     ·rw[aC q]at j2;rw[<-j2]at hF0;have hF0:(kY L p1 12 (bs []) j [] [] [A],(iC L s p2).2)=F0:=hF0;rw[<-hF0];simp[q];exact fJ [0] [1] (by simp[pV,encS])
     ·rw[aB q]at j2;rw[lN q];rw[aM]at q;simp[q];refine fG (j+1) [0,1,2,3,4] ⟨by omega,j2⟩ (by omega) ?_;simp;exact wI
    ·have hj:j=6:=by simp at h6;omega
     subst hj;have j2:vS L 0 xN p2=none:=by rw[<-j2];try rfl
     rw[j2]at hF0;have hF0:(kY L p1 12 (bs []) 0 [] [] [A],wV L 7 p2)=F0:=hF0;rw[<-hF0];have b3:=FL (L:=L) 7 p2 e1.lt;simp;refine gP [0] b3 ?_;simp;exact fJ [0] [1] (by simp[pV,encS])
   ·rw[aB q2]at hF0;rw[lN q2,<-hF0];rw[aM]at q2;simp[q2];exact fM [0] [1]
end
end Go.Gr
namespace Go.Gr
open Go.Abs Go.Proofs
section
variable {L:List Tok}
theorem zGL(hL:jJ L)(hl:L.length<=10000){d:Nat}{at_ ex:PS->gq × PS}(ha:iA L at_)(Ha:nU L 227 d at_)(he:iA L ex)(He:nU L 126 d ex):
  nU L 211 d (λp=>tJ L ex (L.length+1) (at_ p).1 (at_ p).2):=by
 intro p h hd;refine zDK nD λts hts ok hb c hN hp=>?_;obtain⟨t,rfl⟩:=lw hts;have c1:=Ha p h hd;have t1:=ha p h;simp only;obtain⟨F0,hF0⟩:∃F0,tJ L ex (L.length+1) (at_ p).1 (at_ p).2=F0:=⟨_,rfl⟩
 rw[hF0];generalize (at_ p).1=A at*
 generalize (at_ p).2=p1 at*
 have hd1:p1.deep=d:=by rw[t1.deep,hd]
 unfold Sc;simp;refine gP [0] c1 ?_;simp
 refine fP gz hp (λx:Nat × gq × List D × PS=>tJ L ex x.1 x.2.1 x.2.2.2=F0/\Tm L p1 x.2.2.2/\L.length<x.1+x.2.2.2.at'/\D.erdL x.2.2.1=x.2.1.enc)
  (λx=>[(0,.c (.ptr 0 0)),(2,.c (.ptr 2 0)),(3,.c (.ptr 3 0))])
  (λx=>[jv L x.2.2.2,.pin t 0,yZ,.box (x.2.2.1.map .d)])
  (λx=>x.1) (L.length+1,A,A.enc,p1) [0,1,2,3] ⟨hF0,Tm.refl t1.lt,by simp only;omega,by simp⟩ (by simp) λ⟨n,a,v,q⟩ ⟨i1,i2,i3,i5⟩=>?_
 unfold Sb;simp only at i1 i2 i5;have i3:L.length<n+q.at':=i3;have hlt:=i2.lt;have hcut:=TL i5;have hcut':=TM i5;have hvl:=I6 i5;obtain⟨n,rfl⟩:∃m,n=m+1:=⟨n-1,by omega⟩
 rw[tJ]at i1;have a0:=EB (L:=L) 7 q hlt;have a1:=mF (bs [40]) q hlt hl;simp;refine gP [0] a0 ?_;simp;refine gP [0] a1 ?_;by_cases q1:(iC L (bs [40]) q).1=true
 ·rw[aC q1]at i1;simp only at i1;have hat:=(take_at q1).1;have e1:=ig hL hlt (s:=bs [40]);have e2:=e1.trans (he _ e1.lt);have e3:=e2.trans (jE hL e2.lt (s:=bs [41]));have le1:=(he _ e1.lt).le;have le2:=(jE hL e2.lt (s:=bs [41])).le;have a2:=He _ e1.lt (by rw[e1.deep,i2.deep,hd1]);have a3:=oJ hL (bs [41]) _ e2.lt hl;generalize (iC L (bs [40]) q).2=q2 at*
  generalize (ex q2).1=B at*
  generalize (ex q2).2=q3 at*
  generalize jQ L (bs [41]) q3=q4 at*
  simp[q1];refine gP [0] a2 ?_;simp;refine gP [0] a3 ?_;simp[hvl,hcut,hcut'];refine fG (n,kY L q 7 (bs []) 0 [] [] [a,B],([.int .i64 7,.str (bs []),.int .i64 0,.int .i64 (iI L q).line,.int .i64 (iI L q).col,.sl true 4 [],.sl true 1 [],.sl true 8 [v,B.enc]]:List D),q4) [0,1,2,3] ⟨i1,i2.trans e3,by simp only;omega,?_⟩ (by simp) ?_
  ·simp[pV,i5,encS]
  ·simp
 ·rw[aB q1]at i1;rw[lN q1];rw[aM]at q1;have a2:=mF (bs [46]) q hlt hl;simp[q1];refine gP [0] a2 ?_;by_cases q2:(iC L (bs [46]) q).1=true
  ·rw[aC q2]at i1;simp only at i1;have hat:=(take_at q2).1;have e1:=ig hL hlt (s:=bs [46]);have e2:=e1.trans (mE hL e1.lt);have le1:=(mE hL e1.lt).le;have a3:=xR _ e1.lt hl;generalize (iC L (bs [46]) q).2=q2' at*
   generalize (jI L q2').1=s at*
   generalize (jI L q2').2=q3 at*
   simp[q2];refine gP [0] a3 ?_;simp[hvl,hcut,hcut'];refine fG (n,kY L q 9 s 0 [] [] [a],([.int .i64 9,.str s,.int .i64 0,.int .i64 (iI L q).line,.int .i64 (iI L q).col,.sl true 4 [],.sl true 1 [],.sl true 8 [v]]:List D),q3) [0,1,2,3] ⟨i1,i2.trans e2,by simp only;omega,?_⟩ (by simp) ?_
   ·simp[pV,i5,encS]
   ·simp
  ·rw[aB q2]at i1;rw[lN q2,<-i1];rw[aM]at q2;simp[q2,hvl,hcut,hcut'];exact fJ [0] [1] (by simp[hcut,i5])
theorem TQ(hL:jJ L)(hl:L.length<=10000){ki:PS->gU × PS}{ex un:PS->gq × PS}(hk:iA L ki)(he:iA L ex)(hu:iA L un)(p:PS)(h:p.at'<L.length)(hd:p.deep<=100)
  (Hu:p.deep<100->nU L 191 (p.deep+1) un) (Hp:p.deep<100->nU L 211 (p.deep+1) (Cr L ki ex)):
  MCall Pg 191 [.c (.ptr 0 0)] [jv L p] (.ag ((if(jV L p).1=true then uT (zO L ki ex un (jV L p).2)else(qo,(jV L p).2)).1.enc.map .d)) [jv L (if(jV L p).1=true then uT (zO L ki ex un (jV L p).2)else(qo,(jV L p).2)).2]:=by
 have ce:=Lm p h (by omega);refine zB7 nD λts hts ok hb c hN hp=>?_;obtain⟨t,rfl⟩:=lw hts;unfold Sa;simp;refine gP [0] ce ?_;by_cases q:(jV L p).1=true
 ·rw[aC q];obtain⟨e1,e2,e3⟩:=zP q;have hp1:(jV L p).2.at'<L.length:=by rw[e1];exact h
  have hd1:(jV L p).2.deep=p.deep+1:=by rw[e1]
  have Hu:=Hu e2;have Hp:=Hp e2;have a0:=EB (L:=L) 16 _ hp1;have a1:=mF (bs [45]) _ hp1 hl;unfold uT zO;simp only;generalize (jV L p).2=p1 at*
  simp[q];refine gP [0] a0 ?_;simp;refine gP [0] a1 ?_;by_cases q1:(iC L (bs [45]) p1).1=true
  ·rw[aC q1];have t1:=ig hL hp1 (s:=bs [45]);have t2:=t1.trans (hu _ t1.lt);have a2:=Hu _ t1.lt (by rw[t1.deep,hd1]);have hd3:=t2.deep;rw[hd1]at hd3;simp only;generalize (iC L (bs [45]) p1).2=p2 at*
   generalize (un p2).1=A at*
   generalize (un p2).2=p3 at*
   have hw:IntKind.i64.wrap ((p3.deep:Int)-1)=((p3.deep-1:Nat):Int):=by rw[wI];omega
   simp[q1];refine gP [0] a2 ?_;simp;exact fJ [0] [1] (by simp[pV,encS,hw])
  ·rw[aB q1,lN q1];rw[aM]at q1;have a2:=mF tK _ hp1 hl;simp[q1];refine gP [0] a2 ?_;by_cases q2:(iC L tK p1).1=true
   ·rw[aC q2];have t1:=ig hL hp1 (s:=tK);have t2:=t1.trans (hu _ t1.lt);have a2:=Hu _ t1.lt (by rw[t1.deep,hd1]);have hd3:=t2.deep;rw[hd1]at hd3;simp only;generalize (iC L tK p1).2=p2 at*
    generalize (un p2).1=A at*
    generalize (un p2).2=p3 at*
    have hw:IntKind.i64.wrap ((p3.deep:Int)-1)=((p3.deep-1:Nat):Int):=by rw[wI];omega
    simp[q2];refine gP [0] a2 ?_;simp;exact fJ [0] [1] (by simp[pV,encS,hw])
   ·rw[aB q2,lN q2];rw[aM]at q2;have t2:=TD hL hk he p1 hp1;have a3:=Hp p1 hp1 hd1;have hd3:=t2.deep;rw[hd1]at hd3;generalize (Cr L ki ex p1).1=A at*
    generalize (Cr L ki ex p1).2=p3 at*
    have hw:IntKind.i64.wrap ((p3.deep:Int)-1)=((p3.deep-1:Nat):Int):=by rw[wI];omega
    simp[q2];refine gP [0] a3 ?_;simp;exact fO [0] [1] (by simp[hw])
 ·rw[aB q];rw[aM]at q;simp[q];exact fJ [0] [1] (by simp[qo,gq.enc,gq.encs,encS])
theorem TR(hL:jJ L)(hl:L.length<=10000){B:PS->gq × PS}(hB:iA L B)(p:PS)(h:p.at'<L.length)(hd:p.deep<=100)(HB:p.deep<100->nU L 159 (p.deep+1) B):
  MCall Pg 126 [.c (.ptr 0 0)] [jv L p] (.ag ((if(jV L p).1=true then uT (B (jV L p).2)else(qo,(jV L p).2)).1.enc.map .d)) [jv L (if(jV L p).1=true then uT (B (jV L p).2)else(qo,(jV L p).2)).2]:=by
 have ce:=Lm p h (by omega);refine zDI nD λts hts ok hb c hN hp=>?_;obtain⟨t,rfl⟩:=lw hts;unfold SQ;simp;refine gP [0] ce ?_;by_cases q:(jV L p).1=true
 ·rw[aC q];obtain⟨e1,e2,e3⟩:=zP q;have hp1:(jV L p).2.at'<L.length:=by rw[e1];exact h
  have hd1:(jV L p).2.deep=p.deep+1:=by rw[e1]
  have HB:=HB e2;have a0:=HB _ hp1 hd1;have t1:=hB _ hp1;have hd3:=t1.deep;rw[hd1]at hd3;unfold uT;simp only;generalize (jV L p).2=p1 at*
  generalize (B p1).1=A at*
  generalize (B p1).2=p2 at*
  have hw:IntKind.i64.wrap ((p2.deep:Int)-1)=((p2.deep-1:Nat):Int):=by rw[wI];omega
  simp[q];refine gP [0] a0 ?_;simp;exact fO [0] [1] (by simp[hw])
 ·rw[aB q];rw[aM]at q;simp[q];exact fJ [0] [1] (by simp[qo,gq.enc,gq.encs,encS])
end
end Go.Gr
namespace Go.Gr
open Go.Abs Go.Proofs List
section
variable {L:List Tok}
theorem zE6(hL:jJ L)(hl:L.length<=10000){d:Nat}{ki:PS->gU × PS}(hk:iA L ki)(Hk:qL L d ki)(p:PS)(h:p.at'<L.length)(hd:p.deep=d):
  MCall Pg 235 [.c (.ptr 0 0)] [jv L p] (.c (.d (.sl false 4 ((wX L ki (L.length+1) [] p).1.map gU.enc)))) [jv L (wX L ki (L.length+1) [] p).2]:=by
 refine zB8 nD λts hts ok hb c hN hp=>?_;obtain⟨t,rfl⟩:=lw hts;obtain⟨F0,hF0⟩:∃F0,wX L ki (L.length+1) [] p=F0:=⟨_,rfl⟩
 rw[hF0];unfold Si;simp;refine fV [.t 3] ?_;simp
 refine fP gz hp (λx:Nat × List gU × PS=>wX L ki x.1 x.2.1 x.2.2=F0/\Tm L p x.2.2/\L.length<x.1+x.2.2.at'/\x.2.1.length<=x.2.2.at')
  (λx=>[(0,.c (.ptr 0 0)),(3,.c (.msl 4 2 0 x.2.1.length))])
  (λx=>[jv L x.2.2,.pin t 0,.arr 4 ((x.2.1.map gU.enc).map (·.map .d))])
  (λx=>x.1) (L.length+1,[],p) [0,1,2] ⟨hF0,Tm.refl h,by simp only;omega,by simp⟩ (by simp) λ⟨n,l,q⟩ ⟨i1,i2,i3,i4⟩=>?_
 unfold Sg;simp only at i1 i2 i4;have i3:L.length<n+q.at':=i3;have hlt:=i2.lt;obtain⟨n,rfl⟩:∃m,n=m+1:=⟨n-1,by omega⟩
 rw[wX]at i1;have e1:=hk q hlt;have le1:=e1.le;have a1:=Hk q hlt (by rw[i2.deep,hd]);have a2:=mF (bs [44]) _ e1.lt hl;generalize (ki q).1=T at*
 generalize (ki q).2=q1 at*
 simp;refine gP [0] a1 ?_;simp;refine⟨by omega,?_⟩;refine gP [0] a2 ?_;by_cases q2:(iC L (bs [44]) q1).1=true
 ·rw[aC q2]at i1;have hat:=(take_at q2).1;have e2:=e1.trans (ig hL e1.lt (s:=bs [44]));generalize (iC L (bs [44]) q1).2=q3 at*
  simp[q2];refine fG (n,l++[T],q3) [0,1,4] ⟨i1,i2.trans e2,by simp only;omega,by simp;omega⟩ (by simp) ?_;simp;exact aD (by simp)
 ·rw[aB q2,lN q2]at i1;rw[lN q2,<-i1];rw[aM]at q2;have a3:=oJ hL (bs [93]) _ e1.lt hl;have z:take l.length (List.map ((λx=>List.map AC.d x)∘gU.enc) l)=List.map ((λx=>List.map AC.d x)∘gU.enc) l:=aD (by simp);simp[q2];refine fU [4] ?_;simp[iZ,z];refine gP [0] a3 ?_;have z2:take (l.length+1) (l.map gU.enc++[T.enc])=l.map gU.enc++[T.enc]:=aD (by simp);simp[iZ,z];exact fO [0] [1] (by simp[iZ,z,z2])
theorem zDO(hL:jJ L)(hl:L.length<=10000){d:Nat}{ex:PS->gq × PS}(he:iA L ex)(He:nU L 126 d ex)(k:Int)(q0 p:PS)(h:p.at'<L.length)(hd:p.deep=d):
  MCall Pg 234 [.c (.ptr 0 0),.ag [.d (.int .i64 k),.d (.str (bs [])),.d (.int .i64 0),.d (.int .i64 (iI L q0).line),.d (.int .i64 (iI L q0).col),.d (.sl true 4 []),.d (.sl true 1 []),.d (.sl true 8 [])]] [jv L p] (.ag ((vT L ex q0 p).1.enc.map .d)) [jv L (vT L ex q0 p).2]:=by
 refine zAQ nD λts hts ok hb c hN hp=>?_;obtain⟨t,rfl⟩:=lw hts;have a1:=mF (bs [125]) p h hl;unfold Sk vT;simp;refine gP [0] a1 ?_;by_cases q1:(iC L (bs [125]) p).1=true
 ·rw[aC q1];simp[q1];exact fJ [0] [1] (by simp[pV,encS])
 ·rw [aB q1,lN q1];rw[aM]at q1;have hg:=zR h;have hnx:p.e=0->(iI L p).kind=1->L[p.at'+1]?=some (L.getD (p.at'+1) yA):=λ_ k1=>by
   have hlt:p.at'+1<L.length:=hL.mid _ h (by unfold iI at k1;omega);rw[aH,aA hlt];try rfl
  have hnn:(0:Int)<=(p.at':Int)+1:=by omega
  have hw:IntKind.i64.wrap ((p.at':Int)+1)=((p.at'+1:Nat):Int):=by rw[wI];omega
  generalize hN1:L.getD (p.at'+1) yA=N at*
  by_cases q2:p.e≠0\/(iI L p).kind≠1\/N.kind≠5\/N.text≠bs [58]
  ·rw [aC q2];have t1:=he p h;have t2:=t1.trans (jE hL t1.lt (s:=Cm));have t3:=t2.trans (mE hL t2.lt);have t4:=t3.trans (jE hL t3.lt (s:=bs [58]));have t5:=t4.trans (he _ t4.lt);have b1:=He p h hd;have b2:=oJ hL Cm _ t1.lt hl;have b3:=xR _ t2.lt hl;have b4:=oJ hL (bs [58]) _ t3.lt hl;have b5:=He _ t4.lt (by rw[t4.deep,hd]);have b6:=oJ hL (bs [125]) _ t5.lt hl;simp only;generalize (ex p).1=A at*
   generalize (ex p).2=p1 at*
   generalize jQ L Cm p1=p2 at*
   generalize (jI L p2).1=s at*
   generalize (jI L p2).2=p3 at*
   generalize jQ L (bs [58]) p3=p4 at*
   generalize (ex p4).1=B at*
   generalize (ex p4).2=p5 at*
   generalize jQ L (bs [125]) p5=p6 at*
   generalize iI L p=T at*
   have hcs:p.e≠0\/(p.e=0/\T.kind≠1)\/(p.e=0/\T.kind=1/\N.kind≠5)\/(p.e=0/\T.kind=1/\N.kind=5/\N.text≠bs [58]):=by
    by_cases x1:p.e=0
    ·by_cases x2:T.kind=1
     ·by_cases x3:N.kind=5
      ·rcases q2 with q2|q2|q2|q2
       ·exact absurd x1 q2
       ·exact absurd x2 q2
       ·exact absurd x3 q2
       ·exact .inr (.inr (.inr ⟨x1,x2,x3,q2⟩))
      ·exact .inr (.inr (.inl ⟨x1,x2,x3⟩))
     ·exact .inr (.inl ⟨x1,x2⟩)
    ·exact .inl x1
   have hw:IntKind.i64.wrap ((p.at':Int)+1)=((p.at'+1:Nat):Int):=hw;rcases hcs with x1|⟨x1,x2⟩|⟨x1,x2,x3⟩|⟨x1,x2,x3,x4⟩
   ·simp[q1,hg,x1];refine⟨by decide,?_⟩;refine⟨by decide,?_⟩;refine gQ [0] b1 (by simp[x1]) ?_;simp;refine gP [0] b2 ?_;simp;refine gP [0] b3 ?_;simp;refine gP [0] b4 ?_;simp;refine gP [0] b5 ?_;simp;refine gP [0] b6 ?_;simp;exact fJ [0] [1] (by simp[pV,encS])
   ·simp[q1,hg,x1,x2];refine⟨by decide,?_⟩;refine⟨by decide,?_⟩;refine gQ [0] b1 (by simp[x1]) ?_;simp;refine gP [0] b2 ?_;simp;refine gP [0] b3 ?_;simp;refine gP [0] b4 ?_;simp;refine gP [0] b5 ?_;simp;refine gP [0] b6 ?_;simp;exact fJ [0] [1] (by simp[pV,encS])
   ·have hn:=hnx x1 x2;simp[q1,hg,x1,x2,x3,hn,hw,hnn];refine⟨by decide,?_⟩;refine⟨by decide,?_⟩;refine gQ [0] b1 (by simp[x1]) ?_;simp;refine gP [0] b2 ?_;simp;refine gP [0] b3 ?_;simp;refine gP [0] b4 ?_;simp;refine gP [0] b5 ?_;simp;refine gP [0] b6 ?_;simp;exact fJ [0] [1] (by simp[pV,encS])
   ·have hn:=hnx x1 x2;simp[q1,hg,x1,x2,x3,x4,hn,hw,hnn];refine⟨by decide,?_⟩;refine⟨by decide,?_⟩;refine gQ [0] b1 (by simp[x1]) ?_;simp;refine gP [0] b2 ?_;simp;refine gP [0] b3 ?_;simp;refine gP [0] b4 ?_;simp;refine gP [0] b5 ?_;simp;refine gP [0] b6 ?_;simp;exact fJ [0] [1] (by simp[pV,encS])
  ·rw[aB q2];have x1:p.e=0:=by
    apply bD;intro x;exact q2 (.inl x)
   have x2:(iI L p).kind=1:=by
    apply bD;intro x;exact q2 (.inr (.inl x))
   have x3:N.kind=5:=by
    apply bD;intro x;exact q2 (.inr (.inr (.inl x)))
   have x4:N.text=bs [58]:=by
    apply bD;intro x;exact q2 (.inr (.inr (.inr x)))
   have hn:=hnx x1 x2;obtain⟨F0,hF0⟩:∃F0,uU L ex (L.length+1) [] [] p=F0:=⟨_,rfl⟩
   simp only;rw[hF0];simp[q1,hg,x1,x2,x3,x4,hn,hw,hnn];refine⟨by decide,?_⟩;refine⟨by decide,?_⟩;refine fV [.c 2 6,.c 2 7] ?_;simp
   refine fP gz hp (λx:Nat × List fF × List gq × PS=>uU L ex x.1 x.2.1 x.2.2.1 x.2.2.2=F0/\Tm L p x.2.2.2/\L.length<x.1+x.2.2.2.at'/\x.2.1.length=x.2.2.1.length/\x.2.1.length<=x.2.2.2.at')
    (λx=>[(0,.c (.ptr 0 0)),(3,.c (.ptr 2 0)),(4,.c (.ptr 3 0))])
    (λx=>[jv L x.2.2.2,.pin t 0,.box [.d (.int .i64 8),.d (.str (bs [])),.d (.int .i64 0),.d (.int .i64 (iI L q0).line),.d (.int .i64 (iI L q0).col),.d (.sl true 4 []),.msl 1 4 0 x.2.1.length,.msl 8 5 0 x.2.2.1.length],yZ,.arr 1 ((encS x.2.1).map (·.map .d)),.arr 8 ((x.2.2.1.map gq.enc).map (·.map .d))])
    (λx=>x.1) (L.length+1,[],[],p) [0,1,2,3,5,6] ⟨hF0,Tm.refl h,by simp only;omega,rfl,by simp⟩ (by simp[encS,x1]) λ⟨n,ns,ks,q⟩ ⟨i1,i2,i3,i4,i5⟩=>?_
   unfold Sj;simp only at i1 i2 i4 i5;have i3:L.length<n+q.at':=i3;have hlt:=i2.lt;obtain⟨n,rfl⟩:∃m,n=m+1:=⟨n-1,by omega⟩
   rw[uU]at i1;have e1:=mE hL hlt;have e2:=e1.trans (jE hL e1.lt (s:=bs [58]));have e3:=e2.trans (he _ e2.lt);have e4:=e3.trans (ig hL e3.lt (s:=bs [44]));have c1:=xR q hlt hl;have c2:=oJ hL (bs [58]) _ e1.lt hl;have c3:=He _ e2.lt (by rw[e2.deep,i2.deep,hd]);have c4:=mF (bs [44]) _ e3.lt hl;generalize (jI L q).1=s1 at*
   generalize (jI L q).2=q1' at*
   generalize jQ L (bs [58]) q1'=q2' at*
   generalize (ex q2').1=k1 at*
   generalize (ex q2').2=q3' at*
   simp;refine gP [0] c1 ?_;simp;refine gP [0] c2 ?_;simp;refine gP [0] c3 ?_;simp;refine⟨by omega,by omega,?_⟩;refine gP [0] c4 ?_;by_cases q5:(iC L (bs [44]) q3').1=true
   ·rw[aC q5]at i1;have ha:=(take_at q5).1;have hb':=e3.le;simp[q5];refine fG (n,ns++[s1],ks++[k1],(iC L (bs [44]) q3').2) [0,1,2,3,7,8] ⟨i1,i2.trans e4,by simp only;omega,by simp[i4],by simp;omega⟩ (by simp) ?_;simp;exact⟨aD (by simp),aD (by simp)⟩
   ·rw[aB q5,lN q5]at i1;rw[<-i1];have c5:=oJ hL (bs [125]) _ e3.lt hl;rw[lN q5];rw[aM]at q5;simp[q5];refine fU [7,8] ?_;have k1':take ns.length (List.map (λx=>List.map AC.d x) (encS ns))=List.map (λx=>List.map AC.d x) (encS ns):=aD (by simp);have k2':take ks.length (List.map ((λx=>List.map AC.d x)∘gq.enc) ks)=List.map ((λx=>List.map AC.d x)∘gq.enc) ks:=aD (by simp);simp[iZ,k1',k2'];refine gP [0] c5 ?_;simp[iZ,k1',k2'];have z1:D.erdE (take (ns.length+1) (encS ns++[[D.str s1]]))=encS ns++[[D.str s1]]:=by
     rw[aD (by simp)];simpa only[TE,TF]using AZ (ns++[s1])
    have z2:D.erdE (take (ks.length+1) (ks.map gq.enc++[k1.enc]))=ks.map gq.enc++[k1.enc]:=by
     rw[aD (by simp)];simpa using zID (ks++[k1])
    exact fJ [0] [1] (by simp[pV,iZ,k1',k2',z1,z2])
end
theorem uX(s:fF):s.data.toList.length=s.size:=by rw[cz];try rfl
theorem xU{s:fF}{j:Nat}(h:j<s.data.toList.length):s.data[j]?=some s.data.toList[j]:=by
 simp at h⊢
theorem wrap_u64{n:Int}(h1:0<=n)(h2:n<=18446744073709551615):IntKind.u64.wrap n=n:=KY (by simpa[IntKind.min,IntKind.bits,IntKind.signed]using h1) (by simpa[IntKind.max,IntKind.bits,IntKind.signed]using h2)
theorem wrap_u8{n:Int}(h1:0<=n)(h2:n<=255):IntKind.u8.wrap n=n:=KY (by simpa[IntKind.min,IntKind.bits,IntKind.signed]using h1) (by simpa[IntKind.max,IntKind.bits,IntKind.signed]using h2)
theorem zGW(j:Nat):10^(j+1)=10*10^j:=by rw[Nat.pow_succ];omega
theorem TS(s:fF):gY Pg 176 [.one (.str s)] (.tup [.one (.int .i64 (xK s).1),.one (.bool (xK s).2)]):=by
 refine zB3 (by simp) λo c hN hp=>?_;have hs:s.size<=zah:=by have:=o.1;simpa only[DV.ok,D.ok]using this
 unfold zah at hs;have hlen:=uX s;unfold Rf;by_cases h0:s.size=0
 ·have e:xK s=(0,false):=by unfold xK BV;rw[aC (by left;omega)]
  have h0':(s.size:Int)=0:=by omega
  rw[e];simp[h0,h0']
 by_cases h19:19<s.size
 ·have e:xK s=(0,false):=by unfold xK BV;rw[aC (by right;left;omega)]
  have h0':¬(s.size:Int)=0:=by omega
  have h19':(19:Int)<s.size:=by omega
  rw[e];simp[h0,h0',h19']
 have h0':¬(s.size:Int)=0:=by omega
 have h19':¬(19:Int)<s.size:=by omega
 have hj0:0<s.data.toList.length:=by omega
 have hb0:=xU hj0;have hd0:s.data.toList.head?=some s.data.toList[0]:=by
  rw[head?_eq_getElem?,aA hj0]
 generalize hB:s.data.toList[0]=b0 at hb0 hd0;by_cases hz:b0=48/\1<s.size
 ·have e:xK s=(0,false):=by unfold xK BV;rw[aC (by right;right;rw[hd0,hz.1];exact⟨rfl,by omega⟩)]
  have h1:(1:Int)<s.size:=by omega
  rw[e];simp[h0,h0',h19',hb0,hz.1,h1]
 have hz':¬((b0.toNat:Int)=48/\(1:Int)<s.size):=by
  rintro⟨x,y⟩
  exact hz ⟨by apply dY.mp;simpa using (by omega:b0.toNat=48),by omega⟩
 have e:xK s=match uS s.data.toList 0 with
  |none=>(0,false)
  |some n=>if 9223372036854775807<n then(0,false)else((n:Int),true):=by
  unfold xK BV;have hn:¬(s.data.toList.length=0\/19<s.data.toList.length\/(s.data.toList.head?=some 48/\1<s.data.toList.length)):=by
   rintro(x|x|⟨x,y⟩)
   ·omega
   ·omega
   ·rw[hd0]at x;exact hz ⟨by simpa using x,by omega⟩
  rw[aB hn];cases uS s.data.toList 0<;>rfl
 rw[e];have hgo:∀K:Prop,K=K:=λ_=>rfl;by_cases q1:(b0.toNat:Int)=48<;>by_cases q2:(1:Int)<s.size
 ·exact absurd ⟨q1,q2⟩ hz'
 all_goals
  simp[h0,h0',h19',hb0,q1,q2];refine fP gz hp (λx:Nat × Nat=>x.1<=s.size/\x.2<10^x.1/\uS (s.data.toList.drop x.1) x.2=uS s.data.toList 0) (λx=>[(0,.c (.d (.str s))),(4,.c (.d (.int .u64 x.2))),(5,.c (.d (.int .i64 x.1)))]) (λ_=>[]) (λx=>s.size-x.1) (0,0) [] ⟨by simp,by simp,by simp⟩ (by simp) λ⟨j,n⟩ ⟨i1,i2,i3⟩=>?_;unfold Re;simp only at i1 i2 i3;simp;apply gN<;>intro h
  ·have hj:j<s.size:=by simpa using h
   have hj':j<s.data.toList.length:=by omega
   rw[aG hj',uS]at i3;have hb:=xU hj';generalize s.data.toList[j]=b at i3 hb;by_cases d1:(b.toNat:Int)<48
   ·have hd:¬kF b=true:=by unfold kF pU;simp;omega
    rw[aB hd]at i3;rw[<-i3];simp[hb,d1]
   ·by_cases d2:(57:Int)<b.toNat
    ·have hd:¬kF b=true:=by unfold kF pU;simp;omega
     rw[aB hd]at i3;rw[<-i3];simp[hb,d1,d2]
    ·have hd:kF b=true:=by unfold kF pU;simp;omega
     rw[aC hd]at i3;have hpw:10^(j+1)<=10^19:=Nat.pow_le_pow_right (by omega) (by omega);have hps:=zGW j;have w1:IntKind.u64.wrap (10*(n:Int))=((10*n:Nat):Int):=by rw[wrap_u64 (by omega) (by omega)];omega
     have w2:IntKind.u8.wrap ((b.toNat:Int)-48)=((b.toNat-48:Nat):Int):=by rw[wrap_u8 (by omega) (by omega)];omega
     have w3:IntKind.u64.wrap (((b.toNat-48:Nat):Int))=((b.toNat-48:Nat):Int):=by rw[wrap_u64 (by omega) (by omega)]
     have w4:IntKind.u64.wrap (((10*n:Nat):Int)+((b.toNat-48:Nat):Int))=((10*n+(b.toNat-48):Nat):Int):=by rw[wrap_u64 (by omega) (by omega)];omega
     simp[hb,d1,d2];refine fG (j+1,10*n+(b.toNat-48)) [] ⟨by simp only;omega,by simp only;omega,i3⟩ (by simp only;omega) ?_;simp only[w1,w2,w3,w4];simp;exact wI
  ·have hj:j=s.size:=by simp at h;omega
   subst hj;rw[bH (by omega),uS]at i3;rw[<-i3];simp only;have hpw:10^s.size<=10^19:=Nat.pow_le_pow_right (by omega) (by omega);by_cases hm:9223372036854775807<n
   ·have hm':(9223372036854775807:Int)<n:=by omega
    rw[aC hm];simp[hm,hm']
   ·have hm':¬(9223372036854775807:Int)<n:=by omega
    rw[aB hm];simp[hm,hm'];exact wI
end Go.Gr
namespace Go.Gr
open Go.Abs Go.Proofs
section
variable {L:List Tok}
theorem zG5(hL:jJ L)(hl:L.length<=10000){d:Nat}{ki:PS->gU × PS}{ex:PS->gq × PS}(hk:iA L ki)(Hk:qL L d ki)(he:iA L ex)(He:nU L 126 d ex):
  nU L 227 d (xO L ki ex):=by
 intro p h hd;refine zDL nD λts hts ok hb c hN hp=>?_;obtain⟨t,rfl⟩:=lw hts;have a0:=EB (L:=L) 2 p h;have hg:=zR h;have hw:IntKind.i64.wrap ((p.at':Int)+1)=((p.at'+1:Nat):Int):=by rw[wI];omega
 have hpz:=TS (iI L p).text;unfold Sd xO FD;simp only;by_cases c1:p.e=0/\(iI L p).kind=3
 ·rw[aC c1];obtain⟨x1,x2⟩:=c1;simp;refine gP [0] a0 ?_;simp[hg,x1,x2,hw];refine⟨by decide,?_⟩;refine gT hpz ?_;simp;exact fJ [0] [1] (by simp[pV,encS,x1])
 rw[aB c1];by_cases c2:p.e=0/\(iI L p).kind=4
 ·rw[aC c2];obtain⟨x1,x2⟩:=c2;simp;refine gP [0] a0 ?_;simp[hg,x1,x2,hw];refine⟨by decide,?_⟩;exact fJ [0] [1] (by simp[pV,encS,x1])
 rw[aB c2];have d1:=mF Cn p h hl;have d2:=mF Co p h hl;have d3:=mF Cq p h hl;have d4:=mF yU p h hl;have d5:=mF yB p h hl;have d6:=mF (bs [40]) p h hl;have d7:=mF (bs [123]) p h hl;have d8:=xR p h hl;have n1:p.e=0->¬(iI L p).kind=3:=λx y=>c1 ⟨x,y⟩;have n2:p.e=0->¬(iI L p).kind=4:=λx y=>c2 ⟨x,y⟩;simp;refine gP [0] a0 ?_;by_cases x:p.e=0;simp[hg,x,n1 x,n2 x];rotate_left;simp[hg,x]
 all_goals
  refine⟨by decide,?_⟩;refine gQ [0] d1 (by simp[x]) ?_;by_cases q1:(iC L Cn p).1=true
  ·rw[aC q1];simp[q1];exact fJ [0] [1] (by simp[pV,encS])
  rw[aB q1,lN q1];rw[aM]at q1;simp[q1];refine gP [0] d2 ?_;by_cases q2:(iC L Co p).1=true
  ·rw[aC q2];simp[q2];exact fJ [0] [1] (by simp[pV,encS])
  rw[aB q2,lN q2];rw[aM]at q2;simp[q2];refine gP [0] d3 ?_;by_cases q3:(iC L Cq p).1=true
  ·rw[aC q3];simp[q3];exact fJ [0] [1] (by simp[pV,encS])
  rw[aB q3,lN q3];rw[aM]at q3;simp[q3];refine gP [0] d4 ?_;by_cases q4:(iC L yU p).1=true
  ·rw[aC q4];have t1:=ig hL h (s:=yU);have t2:=t1.trans (jE hL t1.lt (s:=bs [40]));have b1:=oJ hL (bs [40]) _ t1.lt hl;have b2:=oJ hL (bs [41]) _ t2.lt hl;generalize (iC L yU p).2=p1 at*
   generalize jQ L (bs [40]) p1=p2 at*
   generalize jQ L (bs [41]) p2=p3 at*
   simp[q4];refine gP [0] b1 ?_;simp;refine gP [0] b2 ?_;simp;exact fJ [0] [1] (by simp[pV,encS])
  rw[aB q4,lN q4];rw[aM]at q4;simp[q4];refine gP [0] d5 ?_;by_cases q5:(iC L yB p).1=true
  ·rw[aC q5];have t1:=ig hL h (s:=yB);have t2:=t1.trans (jE hL t1.lt (s:=bs [40]));have t3:=t2.trans (he _ t2.lt);have b1:=oJ hL (bs [40]) _ t1.lt hl;have b2:=He _ t2.lt (by rw[t2.deep,hd]);have b3:=oJ hL (bs [41]) _ t3.lt hl;generalize (iC L yB p).2=p1 at*
   generalize jQ L (bs [40]) p1=p2 at*
   generalize (ex p2).1=A at*
   generalize (ex p2).2=p3 at*
   generalize jQ L (bs [41]) p3=p4 at*
   simp[q5];refine gP [0] b1 ?_;simp;refine gP [0] b2 ?_;simp;refine gP [0] b3 ?_;simp;exact fJ [0] [1] (by simp[pV,encS])
  rw[aB q5,lN q5];rw[aM]at q5;simp[q5];refine gP [0] d6 ?_;by_cases q6:(iC L (bs [40]) p).1=true
  ·rw[aC q6];have t1:=ig hL h (s:=bs [40]);have t2:=t1.trans (he _ t1.lt);have b1:=He _ t1.lt (by rw[t1.deep,hd]);have b2:=oJ hL (bs [41]) _ t2.lt hl;generalize (iC L (bs [40]) p).2=p1 at*
   generalize (ex p1).1=A at*
   generalize (ex p1).2=p2 at*
   generalize jQ L (bs [41]) p2=p3 at*
   simp[q6];refine gP [0] b1 ?_;simp;refine gP [0] b2 ?_;simp;exact fM [0] [1]
  rw[aB q6,lN q6];rw[aM]at q6;simp[q6];refine gP [0] d7 ?_;by_cases q7:(iC L (bs [123]) p).1=true
  ·rw[aC q7];have t1:=ig hL h (s:=bs [123]);have b1:=zDO hL hl he He 2 p _ t1.lt (by rw[t1.deep,hd]);generalize (iC L (bs [123]) p).2=p1 at*
   generalize (vT L ex p p1).1=A at*
   generalize (vT L ex p p1).2=p2 at*
   simp[q7];refine gP [0] b1 ?_;simp;exact fM [0] [1]
  rw[aB q7,lN q7];rw[aM]at q7;have t1:=mE hL h;have b1:=mF (bs [91]) _ t1.lt hl;generalize (jI L p).1=s1 at*
  generalize (jI L p).2=p1 at*
  simp[q7];refine gP [0] d8 ?_;simp;refine gP [0] b1 ?_;by_cases q8:(iC L (bs [91]) p1).1=true
  ·rw[aC q8];have t2:=t1.trans (ig hL t1.lt (s:=bs [91]));have b2:=zE6 hL hl hk Hk _ t2.lt (by rw[t2.deep,hd]);generalize (iC L (bs [91]) p1).2=p2 at*
   generalize (wX L ki (L.length+1) [] p2).1=T at*
   generalize (wX L ki (L.length+1) [] p2).2=p3 at*
   simp[q8];refine gP [0] b2 ?_;simp;exact fJ [0] [1] (by simp[pV,encS])
  rw[aB q8,lN q8];rw[aM]at q8;simp[q8];exact fJ [0] [1] (by simp[pV,encS])
theorem TU(hL:jJ L)(hl:L.length<=10000):∀(n:Nat) (d:Nat),d<=100->101<=d+n->nU L 126 d (uV L (uy L) n).1/\nU L 191 d (uV L (uy L) n).2
|0,d,h1,h2=>by omega
| n+1,d,h1,h2=>by
 have hk:iA L (uy L):=Lh hL 102;have ht:=FK hL hk n;have htn:=FK hL hk (n+1);rw[uV]at htn⊢;by_cases hd:d=100
 ·subst hd;have hr:=FI hL hk ht.2;refine⟨λp h hdp=>?_,λp h hdp=>?_⟩
  ·exact TR hL hl (Li hL hk ht.1 hr.2.2.2.2.2) p h (by omega) (λq=>absurd q (by omega))
  ·exact TQ hL hl hk ht.1 ht.2 p h (by omega) (λq=>absurd q (by omega)) (λq=>absurd q (by omega))
 ·have ih:=TU hL hl n (d+1) (by omega) (by omega);have Hk:qL L (d+1) (uy L):=λr hr hd=>Lr hL hl 102 r hr (by omega) (by omega);have Ha:=zG5 hL hl hk Hk ht.1 ih.1;have Hp:=zGL hL hl (I4 hL hk ht.1) Ha ht.1 ih.1;have H6:=zEO ih.2;have hr:=FI hL hk ht.2;have H5:=FN hL hl (k:=5) (by decide) (by decide) ht.2 H6;have H4:=FN hL hl (k:=4) (by decide) (by decide) hr.1 H5;have H3:=FN hL hl (k:=3) (by decide) (by decide) hr.2.1 H4;have H2:=zEP (zHI hL hl hk Hk hr.2.2.1 H3);have H1:=FN hL hl (k:=1) (by decide) (by decide) hr.2.2.2.1 H2;have H0:=FN hL hl (k:=0) (by decide) (by decide) hr.2.2.2.2.1 H1;refine⟨λp h hdp=>?_,λp h hdp=>?_⟩
  ·subst hdp;exact TR hL hl (Li hL hk ht.1 hr.2.2.2.2.2) p h (by omega) (λ_ q hq hdq=>zF9 hL hl hk Hk ht.1 ih.1 H0 q hq hdq)
  ·subst hdp;exact TQ hL hl hk ht.1 ht.2 p h (by omega) (λ_=>ih.2) (λ_=>Hp)
end
end Go.Gr
