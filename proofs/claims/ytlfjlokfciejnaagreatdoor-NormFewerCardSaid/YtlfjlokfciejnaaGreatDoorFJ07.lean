/- Texts of ours, joined and written short by a program of ours. -/
import Derived.Test.YtlfjlokfciejnaaGreatDoorFJ06
set_option maxRecDepth 20000
set_option maxHeartbeats 4000000
set_option linter.unusedVariables false
set_option linter.unusedSimpArgs false
namespace Go.Gr
open Go.Abs Go.Proofs
section
variable {L:List Tok}
def gz{α:Type}(L:List Tok)(f:PS->α × PS):Prop:=∀p,p.at'<L.length->Tm L p (f p).2
theorem Eo(hL:jC L):∀(l:List fE) (i:Nat) {p q:PS} {k:Nat},p.at'<L.length->vK L i l p=some (k,q)->Tm L p q/\p.at'<q.at'/\p.e=0/\k<i+l.length
|[],_,_,_,_,_,h=>by rw[vK]at h;cases h
| s::l,i,p,q,k,hp,h=>by
 rw[vK]at h;split at h
 ·rename_i c;simp only[ah,bR]at h;obtain⟨rfl,rfl⟩:=h;have:=take_at c;exact⟨iW hL hp,by omega,this.2,by simp⟩
 ·have:=Eo hL l (i+1) hp h;simp only[List.length_cons];exact⟨this.1,this.2.1,this.2.2.1,by omega⟩
theorem Cb(hL:jC L):∀(l:List fE) {p q:PS} {k:fE},p.at'<L.length->xE L l p=some (k,q)->Tm L p q/\p.at'<q.at'/\p.e=0
|[],_,_,_,_,h=>by rw[xE]at h;cases h
| s::l,p,q,k,hp,h=>by
 rw[xE]at h;split at h
 ·rename_i c;simp only[ah,bR]at h;obtain⟨rfl,rfl⟩:=h;have:=take_at c;exact⟨iW hL hp,by omega,this.2⟩
 ·exact Cb hL l hp h
theorem Sa(hL:jC L){ki:PS->gT × PS}(hk:gz L ki):∀(n:Nat) (ns:List fE) (ks:List gT),gz L (zy L ki n ns ks)
|0,ns,ks,p,hp=>Tm.refl hp
|n+1,ns,ks,p,hp=>by
 have h1:=lc hL hp;have h2:=h1.trans (iw hL h1.lt (s:=bs [58]));have h3:=h2.trans (hk _ h2.lt);have h4:=h3.trans (iW hL h3.lt (s:=bs [44]));rw[zy];split
 ·exact h4.trans (Sa hL hk n _ _ _ h4.lt)
 ·exact h4
theorem zGO(hL:jC L){ki:PS->gT × PS}(hk:gz L ki):gz L (Eh L ki):=λp hp=>by
 unfold Eh;by_cases c1:(iA L (bs [40]) p).1=true
 ·rw[aC c1];have h1:=iW hL hp (s:=bs [40]);have h2:=h1.trans (hk _ h1.lt);exact h2.trans (iw hL h2.lt)
 rw[aB c1];by_cases c2:(iA L (bs [123]) p).1=true
 ·rw[aC c2];have h1:=iW hL hp (s:=bs [123]);by_cases c3:(iA L (bs [125]) (iA L (bs [123]) p).2).1=true
  ·rw[aC c3];exact h1.trans (iW hL h1.lt)
  ·rw[aB c3];have h2:=h1.trans (Sa hL hk (L.length+1) [] [] _ h1.lt);exact h2.trans (iw hL h2.lt)
 rw[aB c2];exact lc hL hp
theorem Ep(hL:jC L){ki:PS->gT × PS}(hk:gz L ki):gz L (rJ L ki):=λp hp=>by
 unfold rJ;cases e:vK L 0 xD p with
 |some x=>exact(Eo hL _ _ hp e).1
 |none=>exact zGO hL hk p hp
theorem Sb(hL:jC L){ki:PS->gT × PS}(hk:gz L ki):∀(n:Nat) (l:List gT),gz L (rM L ki n l)
|0,l,p,hp=>Tm.refl hp
| n+1,l,p,hp=>by
 rw[rM];split
 ·have h1:=iW hL hp (s:=bs [124]);have h2:=h1.trans (Ep hL hk _ h1.lt);exact h2.trans (Sb hL hk n _ _ h2.lt)
 ·exact Tm.refl hp
theorem Sc(hL:jC L){ki:PS->gT × PS}(hk:gz L ki):gz L (qU L ki):=λp hp=>by
 have h1:=Ep hL hk p hp;unfold qU;exact h1.trans (Sb hL hk (L.length+1) _ _ h1.lt)
theorem IE{p:PS}(h:¬(jN L p).1=true):(jN L p).2=yN L p:=by
 unfold jN at h⊢;split
 ·rfl
 ·rename_i q;rw[aB q]at h;exact absurd rfl h
theorem zG{p:PS}(h:(jN L p).1=true):(jN L p).2={p with deep:=p.deep+1}/\p.deep<100/\p.e=0:=by
 unfold jN at h⊢;split
 ·rename_i q;rw[aC q]at h;cases h
 ·rename_i q;have hd:p.deep<100:=by
   rcases aW p.deep 100 with r|r
   ·exact r
   ·exfalso;apply q;unfold yN;rw[aC r];exact En (by decide)
  have e:yN L p=p:=by unfold yN;rw[aB (by omega)]
  rw[e]at q⊢;exact⟨rfl,hd,by simpa using q⟩
theorem LG{α:Type}{p:PS}{x:α × PS}(h:(jN L p).1=true)(hp:p.at'<L.length)(k:Tm L (jN L p).2 x.2):Tm L p (uH x).2:=by
 obtain⟨e,_,h0⟩:=zG h;rw[e]at k;have hd:=k.deep;simp only at hd;exact⟨by simp only[uH];omega,k.le,k.lt,λx=>absurd h0 x⟩
theorem zGP(hL:jC L){ki:PS->gT × PS}(hk:gz L ki):gz L (Ei L ki):=λp hp=>by
 have h1:=Sc hL hk p hp;have h2:=h1.trans (iW hL h1.lt (s:=bs [45,62]));unfold Ei;by_cases c2:(iA L (bs [45,62]) (qU L ki p).2).1=true
 ·show Tm L p (if(iA L (bs [45,62]) (qU L ki p).2).1=true then _ else _:gT × PS).2;rw[aC c2];exact h2.trans (hk _ h2.lt)
 ·show Tm L p (if(iA L (bs [45,62]) (qU L ki p).2).1=true then _ else _:gT × PS).2;rw[aB c2];exact h2
theorem LH(hL:jC L)(d:Nat):gz L (wN L d):=by
 induction d with
 |zero=>exactλp hp=>Tm.refl hp
 | succ d ih=>
  intro p hp;rw[wN];show Tm L p (if(jN L p).1=true then _ else _:gT × PS).2;by_cases c:(jN L p).1=true
  ·rw[aC c];have hp':(jN L p).2.at'<L.length:=by rw[(zG c).1];exact hp
   exact LG c hp (zGP hL ih _ hp')
  ·rw[aB c,IE c];exact IC hp
theorem zH(hL:jC L){ki:PS->gT × PS}(hk:gz L ki):gz L (pY L ki):=λp hp=>by
 unfold pY;split
 ·have h1:=iW hL hp (s:=bs [58]);exact h1.trans (hk _ h1.lt)
 ·exact Tm.refl hp
theorem BK(hL:jC L){ki:PS->gT × PS}(hk:gz L ki):gz L (rP L ki):=λp hp=>by
 unfold rP;have h1:=iw hL hp (s:=bs [40]);have h2:=h1.trans (lc hL h1.lt);have h3:=h2.trans (zH hL hk _ h2.lt);have h4:=h3.trans (iw hL h3.lt (s:=bs [41]));exact h4.trans (zH hL hk _ h4.lt)
theorem LJ(hL:jC L){ki:PS->gT × PS}{ex rk:PS->gp × PS}(hk:gz L ki)(he:gz L ex)(hr:gz L rk):gz L (zD L ki ex rk):=λp hp=>by
 unfold zD;split
 ·have h1:=iW hL hp (s:=sP);have h2:=h1.trans (lc hL h1.lt);have h3:=h2.trans (zH hL hk _ h2.lt);have h4:=h3.trans (iw hL h3.lt (s:=bs [61]));have h5:=h4.trans (he _ h4.lt);have h6:=h5.trans (iw hL h5.lt (s:=bs [59]));exact h6.trans (he _ h6.lt)
 ·split
  ·have h1:=iW hL hp (s:=zz);have h2:=h1.trans (he _ h1.lt);have h3:=h2.trans (iw hL h2.lt (s:=CP));have h4:=h3.trans (he _ h3.lt);have h5:=h4.trans (iw hL h4.lt (s:=CQ));exact h5.trans (he _ h5.lt)
  ·split
   ·have h1:=iW hL hp (s:=tT);have h2:=h1.trans (BK hL hk _ h1.lt);have h3:=h2.trans (iw hL h2.lt (s:=bs [61,62]));exact h3.trans (he _ h3.lt)
   ·exact hr p hp
theorem Dm(hL:jC L){rk:PS->gp × PS}(hr:gz L rk)(signs:List fE):∀(n:Nat) (a:gp),gz L (kU L rk signs n a)
|0,a,p,hp=>Tm.refl hp
| n+1,a,p,hp=>by
 rw[kU];split
 ·exact Tm.refl hp
 ·rename_i s q h;have h1:=(Cb hL _ hp h).1;have h2:=h1.trans (hr _ h1.lt);exact h2.trans (Dm hL hr signs n _ _ h2.lt)
theorem zIQ(hL:jC L){ki:PS->gT × PS}{rk:PS->gp × PS}(hk:gz L ki)(hr:gz L rk):gz L (rR L ki rk):=λp hp=>by
 have h0:=hr p hp;unfold rR;simp only;split
 ·rename_i s q h;have h1:=h0.trans (Cb hL _ h0.lt h).1;exact h1.trans (hr _ h1.lt)
 ·split
  ·have h1:=h0.trans (iW hL h0.lt (s:=bs [97,115]));exact h1.trans (hk _ h1.lt)
  ·split
   ·have h1:=h0.trans (iW hL h0.lt (s:=bs [105,115]));split
    ·rename_i i q h;exact h1.trans (Eo hL _ _ h1.lt h).1
    ·exact h1.trans (Dl h1.lt)
   ·exact h0
theorem Er(hL:jC L){ki:PS->gT × PS}{un:PS->gp × PS}(hk:gz L ki)(hu:gz L un):gz L (CR L un)/\gz L (CU L un)/\gz L (Ej L un)/\gz L (CV L ki un)/\gz L (CX L ki un)/\gz L (El L ki un):=by
 have h5:gz L (CR L un):=λp hp=>(hu p hp).trans (Dm hL hu _ _ _ _ (hu p hp).lt);have h4:gz L (CU L un):=λp hp=>(h5 p hp).trans (Dm hL h5 _ _ _ _ (h5 p hp).lt);have h3:gz L (Ej L un):=λp hp=>(h4 p hp).trans (Dm hL h4 _ _ _ _ (h4 p hp).lt);have h2:gz L (CV L ki un):=zIQ hL hk h3;have h1:gz L (CX L ki un):=λp hp=>(h2 p hp).trans (Dm hL h2 _ _ _ _ (h2 p hp).lt);have h0:gz L (El L ki un):=λp hp=>(h1 p hp).trans (Dm hL h1 _ _ _ _ (h1 p hp).lt);exact⟨h5,h4,h3,h2,h1,h0⟩
theorem LK(hL:jC L){ki:PS->gT × PS}(hk:gz L ki):∀(n:Nat) (l:List gT),gz L (wO L ki n l)
|0,l,p,hp=>Tm.refl hp
|n+1,l,p,hp=>by
 have h1:=hk p hp;have h2:=h1.trans (iW hL h1.lt (s:=bs [44]));rw[wO];split
 ·exact h2.trans (LK hL hk n _ _ h2.lt)
 ·exact h2.trans (iw hL h2.lt)
theorem Es(hL:jC L){ex:PS->gp × PS}(he:gz L ex):∀(n:Nat) (ns:List fE) (ks:List gp),gz L (uI L ex n ns ks)
|0,ns,ks,p,hp=>Tm.refl hp
|n+1,ns,ks,p,hp=>by
 have h1:=lc hL hp;have h2:=h1.trans (iw hL h1.lt (s:=bs [58]));have h3:=h2.trans (he _ h2.lt);have h4:=h3.trans (iW hL h3.lt (s:=bs [44]));rw[uI];split
 ·exact h4.trans (Es hL he n _ _ _ h4.lt)
 ·exact h4
theorem zFb(hL:jC L){ex:PS->gp × PS}(he:gz L ex)(q:PS):gz L (vL L ex q):=λp hp=>by
 unfold vL;split
 ·exact iW hL hp
 ·split
  ·have h1:=he p hp;have h2:=h1.trans (iw hL h1.lt (s:=CY));have h3:=h2.trans (lc hL h2.lt);have h4:=h3.trans (iw hL h3.lt (s:=bs [58]));have h5:=h4.trans (he _ h4.lt);exact h5.trans (iw hL h5.lt)
  ·have h1:=Es hL he (L.length+1) [] [] p hp;exact h1.trans (iw hL h1.lt)
theorem Sd(hL:jC L){p:PS}(hp:p.at'<L.length)(h:p.e=0/\(iG L p).kind≠0):Tm L p {p with at':=p.at'+1}:=
⟨rfl,by simp,hL.mid _ hp h.2,λx=>absurd h.1 x⟩
theorem IG(hL:jC L){ki:PS->gT × PS}{ex:PS->gp × PS}(hk:gz L ki)(he:gz L ex):gz L (xG L ki ex):=λp hp=>by
 unfold xG;by_cases c1:p.e=0/\(iG L p).kind=3
 ·rw[aC c1];exact Sd hL hp ⟨c1.1,by omega⟩
 rw[aB c1];by_cases c2:p.e=0/\(iG L p).kind=4
 ·rw[aC c2];exact Sd hL hp ⟨c2.1,by omega⟩
 rw[aB c2];by_cases c3:(iA L CZ p).1=true
 ·rw[aC c3];exact iW hL hp
 rw[aB c3];by_cases c4:(iA L C8 p).1=true
 ·rw[aC c4];exact iW hL hp
 rw[aB c4];by_cases c5:(iA L C9 p).1=true
 ·rw[aC c5];exact iW hL hp
 rw[aB c5];by_cases c6:(iA L yO p).1=true
 ·rw[aC c6];have h1:=iW hL hp (s:=yO);have h2:=h1.trans (iw hL h1.lt (s:=bs [40]));exact h2.trans (iw hL h2.lt)
 rw[aB c6];by_cases c7:(iA L xn p).1=true
 ·rw[aC c7];have h1:=iW hL hp (s:=xn);have h2:=h1.trans (iw hL h1.lt (s:=bs [40]));have h3:=h2.trans (he _ h2.lt);exact h3.trans (iw hL h3.lt)
 rw[aB c7];by_cases c8:(iA L (bs [40]) p).1=true
 ·rw[aC c8];have h1:=iW hL hp (s:=bs [40]);have h2:=h1.trans (he _ h1.lt);exact h2.trans (iw hL h2.lt)
 rw[aB c8];by_cases c9:(iA L (bs [123]) p).1=true
 ·rw[aC c9];have h1:=iW hL hp (s:=bs [123]);exact h1.trans (zFb hL he p _ h1.lt)
 rw[aB c9];have h1:=lc hL hp;by_cases c10:(iA L (bs [91]) (jB L p).2).1=true
 ·have h2:=h1.trans (iW hL h1.lt (s:=bs [91]));have h3:=h2.trans (LK hL hk (L.length+1) [] _ h2.lt);show Tm L p (if(iA L (bs [91]) (jB L p).2).1=true then _ else _:gp × PS).2;rw[aC c10];exact h3
 ·show Tm L p (if(iA L (bs [91]) (jB L p).2).1=true then _ else _:gp × PS).2;rw[aB c10];exact h1
theorem LM(hL:jC L){ex:PS->gp × PS}(he:gz L ex):∀(n:Nat) (a:gp),gz L (sQ L ex n a)
|0,a,p,hp=>Tm.refl hp
| n+1,a,p,hp=>by
 rw[sQ];split
 ·have h1:=iW hL hp (s:=bs [40]);have h2:=h1.trans (he _ h1.lt);have h3:=h2.trans (iw hL h2.lt (s:=bs [41]));exact h3.trans (LM hL he n _ _ h3.lt)
 ·split
  ·have h1:=iW hL hp (s:=bs [46]);have h2:=h1.trans (lc hL h1.lt);exact h2.trans (LM hL he n _ _ h2.lt)
  ·exact Tm.refl hp
theorem Sg(hL:jC L){ki:PS->gT × PS}{ex:PS->gp × PS}(hk:gz L ki)(he:gz L ex):gz L (Ca L ki ex):=λp hp=>by
 have h1:=IG hL hk he p hp;unfold Ca;exact h1.trans (LM hL he _ _ _ h1.lt)
theorem zGQ(hL:jC L){ki:PS->gT × PS}{ex un:PS->gp × PS}(hk:gz L ki)(he:gz L ex)(hu:gz L un):gz L (zF L ki ex un):=λp hp=>by
 unfold zF;split
 ·have h1:=iW hL hp (s:=bs [45]);exact h1.trans (hu _ h1.lt)
 ·split
  ·have h1:=iW hL hp (s:=sS);exact h1.trans (hu _ h1.lt)
  ·exact Sg hL hk he p hp
theorem Et(hL:jC L){ki:PS->gT × PS}(hk:gz L ki)(d:Nat):gz L (uJ L ki d).1/\gz L (uJ L ki d).2:=by
 induction d with
 |zero=>exact⟨λp hp=>Tm.refl hp,λp hp=>Tm.refl hp⟩
 | succ d ih=>
  rw[uJ];refine⟨λp hp=>?_,λp hp=>?_⟩
  ·show Tm L p (if(jN L p).1=true then _ else _:gp × PS).2;by_cases c:(jN L p).1=true
   ·rw[aC c];have hp':(jN L p).2.at'<L.length:=by rw[(zG c).1];exact hp
    exact LG c hp (LJ hL hk ih.1 (Er hL hk ih.2).2.2.2.2.2 _ hp')
   ·rw[aB c,IE c];exact IC hp
  ·show Tm L p (if(jN L p).1=true then _ else _:gp × PS).2;by_cases c:(jN L p).1=true
   ·rw[aC c];have hp':(jN L p).2.at'<L.length:=by rw[(zG c).1];exact hp
    exact LG c hp (zGQ hL hk ih.1 ih.2 _ hp')
   ·rw[aB c,IE c];exact IC hp
end
theorem mD{ts:List (Nat × Nat)}{b:Blk}(h:ts.length=[b].length):∃t,ts=[t]:=by
 match ts,h with
 |[t],_=>exact⟨t,rfl⟩
abbrev jk(L:List Tok)(p:PS):Blk:=.box [.d (.sl false 4 (L.map Tok.enc)),.d (.int .i64 p.at'),.d (.int .i64 p.deep),.d (.int .i64 p.e),.d (.int .i64 p.line),.d (.int .i64 p.col)]
section
variable {L:List Tok}
theorem zI{p:PS}(h:p.at'<L.length):L[p.at']?=some (iG L p):=by
 unfold iG;rw[aH,aA h];try rfl
theorem Eu(e:Int)(p:PS)(h:p.at'<L.length):MCall Pg 127 [.c (.ptr 0 0),.c (.d (.int .i64 e))] [jk L p] (.tup []) [jk L (wL L e p)]:=by
 refine zDA mX λts hts ok hb c hN hp=>?_;obtain⟨t,rfl⟩:=mD hts;have hg:=zI h;unfold Rc wL;simp;apply gM<;>intro h0
 ·have h0:p.e=0:=by simpa using h0
  rw[aC h0];simp[hg];refine⟨by decide,?_⟩;exact fK [0] [1]
 ·have h0:¬p.e=0:=by simpa using h0
  rw[aB h0];exact fK [0] [1]
theorem zGG(s:fE)(p:PS)(h:p.at'<L.length):MCall Pg 155 [.c (.ptr 0 0),.c (.d (.str s))] [jk L p] (.c (.d (.bool (Dj L s p)))) [jk L p]:=by
 refine zDB mX λts hts ok hb c hN hp=>?_;obtain⟨t,rfl⟩:=mD hts;have hg:=zI h;unfold Re Dj;generalize iG L p=T at*
 by_cases h0:p.e=0<;>by_cases h2:T.kind=2<;>by_cases h5:T.kind=5<;>simp[hg,h0,h2,h5];all_goals (refine⟨by decide,?_⟩)
 all_goals exact fM [0] [1] (by simp[h0,h2,h5])
theorem lg(s:fE)(p:PS)(h:p.at'<L.length)(hl:L.length<=10000):MCall Pg 120 [.c (.ptr 0 0),.c (.d (.str s))] [jk L p] (.c (.d (.bool (iA L s p).1))) [jk L (iA L s p).2]:=by
 refine zDC mX λts hts ok hb c hN hp=>?_;obtain⟨t,rfl⟩:=mD hts;have hs:=zGG s p h;unfold Rf iA;generalize Dj L s p=b at*
 simp;refine gN [0] hs ?_;cases b with
 |true=>
  simp;exact fM [0] [1] (by simp;exact wI)
 |false=>
  simp;exact fK [0] [1]
theorem ng(hL:jC L)(s:fE)(p:PS)(h:p.at'<L.length)(hl:L.length<=10000):MCall Pg 122 [.c (.ptr 0 0),.c (.d (.str s))] [jk L p] (.tup []) [jk L (jI L s p)]:=by
 refine zDD mX λts hts ok hb c hN hp=>?_;obtain⟨t,rfl⟩:=mD hts;have hs:=lg s p h hl;unfold Rh jI;by_cases q:(iA L s p).1=true
 ·rw[aC q];rw[q]at hs;simp;refine gN [0] hs ?_;simp;exact fK [0] [1]
 ·rw[aB q];rw[lH q]at hs;rw[aK]at q;rw[q]at hs;have hf:=Eu (L:=L) 7 p h;simp;refine gN [0] hs ?_;simp;refine gN [0] hf ?_;simp;exact fK [0] [1]
theorem xJ(p:PS)(h:p.at'<L.length)(hl:L.length<=10000):MCall Pg 121 [.c (.ptr 0 0)] [jk L p] (.c (.d (.str (jB L p).1))) [jk L (jB L p).2]:=by
 refine zDE mX λts hts ok hb c hN hp=>?_;obtain⟨t,rfl⟩:=mD hts;have hg:=zI h;have hf:=Eu (L:=L) 7 p h;unfold Ri jB;generalize iG L p=T at*
 by_cases h0:p.e=0<;>by_cases h1:T.kind=1<;>simp[hg,h0,h1]
 ·refine⟨by decide,?_⟩;exact fM [0] [1] (by simp;exact wI)
 all_goals
  refine⟨by decide,?_⟩;refine gN [0] hf ?_;simp;exact fM [0] [1] (by simp[h0,h1])
theorem LP(p:PS)(h:p.at'<L.length)(hd:p.deep<=1000):MCall Pg 158 [.c (.ptr 0 0)] [jk L p] (.c (.d (.bool (jN L p).1))) [jk L (jN L p).2]:=by
 refine zB6 mX λts hts ok hb c hN hp=>?_;obtain⟨t,rfl⟩:=mD hts;have hf:=Eu (L:=L) 6 p h;have hfd:(wL L 6 p).deep=p.deep:=(Dl h).deep;have hff:(wL L 6 p).e≠0:=En (by decide);unfold Rj jN yN;by_cases h1:100<=p.deep
 ·have h1':(100:Int)<=p.deep:=by omega
  rw[aC h1,aC hff];simp[h1'];refine gN [0] hf ?_;simp[hff];exact fK [0] [1]
 ·have h1':¬(100:Int)<=p.deep:=by omega
  rw[aB h1];by_cases h0:p.e=0
  ·rw[aB (by simp[h0])];simp[h1',h0];exact fM [0] [1] (by simp;exact wI)
  ·rw[aC h0];simp[h1',h0];exact fK [0] [1]
end
end Go.Gr
namespace Go.Gr
open Go.Abs Go.Proofs List
@[simp] theorem zDs{α:Type}(f:Nat->Nat)(g:α->List D):AC.rens f∘((λx=>List.map AC.d x)∘g)=(λx=>List.map AC.d x)∘g:=by funext x;simp
@[simp] theorem Si(a b:List fE):encS (a++b)=encS a++encS b:=by simp[encS]
@[simp] theorem Sj(s:fE):encS [s]=[[.str s]]:=rfl
@[simp] theorem zGa:encS []=[]:=rfl
theorem AB:∀l:List fE,D.erdE (encS l)=encS l
|[]=>rfl
|s::l=>by
 have ih:=AB l;simp only[encS,map_cons,D.erdE,D.erdL,D.erd]at ih⊢;rw[ih]
mutual
theorem gT.erdL:∀t:gT,D.erdL t.enc=t.enc
|.mk k n s l=>by
 simp only[gT.enc,D.erdL,D.erd,AB,gT.erdE l]
theorem gT.erdE:∀l:List gT,D.erdE (gT.encs l)=gT.encs l
|[]=>rfl
|t::l=>by simp only[gT.encs,D.erdE,gT.erdL t,gT.erdE l]
end
@[simp] theorem LQ(l:List gT):D.erdE (l.map gT.enc)=l.map gT.enc:=by rw[<-gT.encs_map];exact gT.erdE l
theorem Sk:∀l:List D,(l.map AC.d).map AC.erd=(D.erdL l).map .d
|[]=>rfl
|d::l=>by simp only[map_cons,Sk l,D.erdL];rfl
attribute [simp] AV.erd AC.erd D.erd D.erdE D.erdL gT.erdL AB gT.erdE
abbrev mJ:Blk:=.box [.d (.int .i64 0),.d (.str (bs [])),.d (.sl true 1 []),.d (.sl true 4 [])]
def pu(L:List Tok)(d:Nat)(ki:PS->gT × PS):Prop:=∀p:PS,p.at'<L.length->p.deep=d->MCall Pg 156 [.c (.ptr 0 0)] [jk L p] (.ag ((ki p).1.enc.map .d)) [jk L (ki p).2]
section
variable {L:List Tok}
theorem Sl(hL:jC L)(hl:L.length<=10000){d:Nat}{ki:PS->gT × PS}(hk:gz L ki)(Hk:pu L d ki)(p:PS)(h:p.at'<L.length)(hd:p.deep=d):
  MCall Pg 190 [.c (.ptr 0 0)] [jk L p] (.ag ((rJ L ki p).1.enc.map .d)) [jk L (rJ L ki p).2]:=by
 refine zDG mX λts hts ok hb c hN hp=>?_;obtain⟨t,rfl⟩:=mD hts;have hR:rJ L ki p=rJ L ki p:=rfl;generalize hR':rJ L ki p=R at*
 unfold Rp;simp;refine fO gy hp (λj:Nat=>j<=5/\vK L j (xD.drop j) p=vK L 0 xD p) (λj=>[(4,.c (.d (.int .i64 j))),(3,.c (.d (.sl true 1 (encS xD)))),(0,.c (.ptr 0 0)),(2,.c (.ptr 2 0))]) (λj=>[jk L p,.pin t 0,mJ]) (λj=>5-j) 0 [0,1,2] ⟨by simp,rfl⟩ (by simp[encS,xD]) λj ⟨h1,h2⟩=>?_;unfold Rn;have hbl:xD.length=5:=rfl;simp[hbl];apply gM<;>intro h5
 ·have hj:j<xD.length:=by simp at h5;omega
  have hj':j<5:=by omega
  rw[aD hj,vK]at h2;have hg:xD[j]?=some xD[j]:=aA hj;have ht:=lg xD[j] p h hl;generalize xD[j]=s at*
  simp[hg];refine gN [0] ht ?_;by_cases q:(iA L s p).1=true
  ·rw[aC q]at h2;have hr:R=(.mk j (bs []) [] [],(iA L s p).2):=by rw[<-hR'];unfold rJ;rw[<-h2]
   rw[hr];simp[q];exact fI [0] [1] (by simp[gT.enc,gT.encs,encS])
  ·rw[aB q]at h2;rw[lH q];rw[aK]at q;simp[q];refine fF (j+1) [0,1,2] ⟨by omega,h2⟩ (by omega) ?_;simp;exact wI
 ·have hj:j=5:=by simp at h5;omega
  subst hj;have h2:vK L 0 xD p=none:=by rw[<-h2];try rfl
  have ht:=lg (bs [40]) p h hl;have hr:R=Eh L ki p:=by rw[<-hR'];unfold rJ;rw[h2]
  rw[hr];unfold Eh;simp;refine gN [0] ht ?_;by_cases q1:(iA L (bs [40]) p).1=true
  ·have t1:=iW hL h (s:=bs [40]);have t2:=t1.trans (hk _ t1.lt);have h3:=Hk _ t1.lt (by rw[t1.deep,hd]);have h4:=ng hL (bs [41]) _ t2.lt hl;rw[aC q1];simp[q1];refine gN [0] h3 ?_;simp;refine gN [0] h4 ?_;simp;exact fK [0] [1]
  ·rw [aB q1,lH q1];rw[aK]at q1;have h3:=lg (bs [123]) p h hl;simp[q1];refine gN [0] h3 ?_;by_cases q2:(iA L (bs [123]) p).1=true
   ·rw [aC q2];have t1:=iW hL h (s:=bs [123]);have h4:=lg (bs [125]) _ t1.lt hl;generalize (iA L (bs [123]) p).2=p1 at*
    simp[q2];refine fU [.c 3 2,.c 3 3] ?_;simp;refine gN [0] h4 ?_;by_cases q3:(iA L (bs [125]) p1).1=true
    ·rw[aC q3];simp[q3];refine fT [4,5] ?_;simp[iV];exact fI [0] [1] (by simp[gT.enc,gT.encs,encS])
    ·rw[aB q3,lH q3];rw[aK]at q3;simp[q3];obtain⟨F0,hF0⟩:∃F0,zy L ki (L.length+1) [] [] p1=F0:=⟨_,rfl⟩
     rw[hF0];have hd1:p1.deep=d:=by rw[t1.deep,hd]
     refine fO gy hp (λx:Nat × List fE × List gT × PS=>zy L ki x.1 x.2.1 x.2.2.1 x.2.2.2=F0/\Tm L p1 x.2.2.2/\L.length<x.1+x.2.2.2.at'/\x.2.1.length=x.2.2.1.length/\x.2.1.length<=x.2.2.2.at')
      (λx=>[(0,.c (.ptr 0 0)),(2,.c (.ptr 2 0)),(8,.c (.ptr 3 0))])
      (λx=>[jk L x.2.2.2,.pin t 0,mJ,.box [.d (.int .i64 5),.d (.str (bs [])),.msl 1 4 0 x.2.1.length,.msl 4 5 0 x.2.2.1.length],.arr 1 ((encS x.2.1).map (·.map .d)),.arr 4 ((x.2.2.1.map gT.enc).map (·.map .d))])
      (λx=>x.1) (L.length+1,[],[],p1) [0,1,2,3,4,5] ⟨hF0,Tm.refl t1.lt,by simp only;omega,rfl,by simp⟩ (by simp[encS]) λ⟨n,ns,ks,q⟩ ⟨i1,i2,i3,i4,i5⟩=>?_
     unfold Ro;simp only at i1 i2 i4 i5;have i3:L.length<n+q.at':=i3;have hlt:=i2.lt;obtain⟨n,rfl⟩:∃m,n=m+1:=⟨n-1,by omega⟩
     rw[zy]at i1;have e1:=lc hL hlt;have e2:=e1.trans (iw hL e1.lt (s:=bs [58]));have e3:=e2.trans (hk _ e2.lt);have e4:=e3.trans (iW hL e3.lt (s:=bs [44]));have c1:=xJ q hlt hl;have c2:=ng hL (bs [58]) _ e1.lt hl;have c3:=Hk _ e2.lt (by rw[e2.deep,i2.deep,hd1]);have c4:=lg (bs [44]) _ e3.lt hl;generalize (jB L q).1=s1 at*
     generalize (jB L q).2=q1' at*
     generalize jI L (bs [58]) q1'=q2' at*
     generalize (ki q2').1=k1 at*
     generalize (ki q2').2=q3' at*
     simp;refine gN [0] c1 ?_;simp;refine gN [0] c2 ?_;simp;refine gN [0] c3 ?_;simp;refine⟨by omega,by omega,?_⟩;refine gN [0] c4 ?_;by_cases q5:(iA L (bs [44]) q3').1=true
     ·rw[aC q5]at i1;have ha:=(take_at q5).1;have hb':=e3.le;simp[q5];refine fF (n,ns++[s1],ks++[k1],(iA L (bs [44]) q3').2) [0,1,2,3,7,8] ⟨i1,i2.trans e4,by simp only;omega,by simp[i4],by simp;omega⟩ (by simp) ?_;simp;exact⟨aG (by simp),aG (by simp)⟩
     ·rw[aB q5,lH q5]at i1;rw[<-i1];have c5:=ng hL (bs [125]) _ e3.lt hl;rw[lH q5];rw[aK]at q5;simp[q5];refine fT [7,8] ?_;have k1':take ns.length (List.map (λx=>List.map AC.d x) (encS ns))=List.map (λx=>List.map AC.d x) (encS ns):=aG (by simp);have k2':take ks.length (List.map ((λx=>List.map AC.d x)∘gT.enc) ks)=List.map ((λx=>List.map AC.d x)∘gT.enc) ks:=aG (by simp);simp[iV,k1',k2'];refine gN [0] c5 ?_;simp[iV,k1',k2'];have z1:D.erdE (take (ns.length+1) (encS ns++[[D.str s1]]))=encS ns++[[D.str s1]]:=by
       rw[aG (by simp)];simpa only[Si,Sj]using AB (ns++[s1])
      have z2:D.erdE (take (ks.length+1) (ks.map gT.enc++[k1.enc]))=ks.map gT.enc++[k1.enc]:=by
       rw[aG (by simp)];simpa using LQ (ks++[k1])
      exact fI [0] [1] (by simp[gT.enc,gT.encs_map,iV,k1',k2',z1,z2])
   ·rw[aB q2,lH q2];rw[aK]at q2;have h4:=xJ p h hl;simp[q2];refine gN [0] h4 ?_;simp;exact fI [0] [1] (by simp[gT.enc,gT.encs,encS])
theorem Sm{ki:PS->gT × PS}:∀(n:Nat) (l:List gT) (p:PS),1<=l.length->1<=(rM L ki n l p).1.length
|0,l,p,h=>h
|n+1,l,p,h=>by
 rw[rM];split
 ·exact Sm n _ _ (by simp)
 ·exact h
theorem zHN(hL:jC L)(hl:L.length<=10000){d:Nat}{ki:PS->gT × PS}(hk:gz L ki)(Hk:pu L d ki)(p:PS)(h:p.at'<L.length)(hd:p.deep=d):
  MCall Pg 179 [.c (.ptr 0 0)] [jk L p] (.ag ((qU L ki p).1.enc.map .d)) [jk L (qU L ki p).2]:=by
 refine zE0 mX λts hts ok hb c hN hp=>?_;obtain⟨t,rfl⟩:=mD hts;have c1:=Sl hL hl hk Hk p h hd;have t1:=Ep hL hk p h;have hpos:=Sm (L:=L) (ki:=ki) (L.length+1) [(rJ L ki p).1] (rJ L ki p).2 (by simp);unfold Rm qU;simp only;obtain⟨F0,hF0⟩:∃F0,rM L ki (L.length+1) [(rJ L ki p).1] (rJ L ki p).2=F0:=⟨_,rfl⟩
 rw[hF0]at hpos⊢;generalize (rJ L ki p).1=T1 at*
 generalize (rJ L ki p).2=p1 at*
 simp;refine gN [0] c1 ?_;simp
 refine fO gy hp (λx:Nat × List gT × PS=>rM L ki x.1 x.2.1 x.2.2=F0/\Tm L p1 x.2.2/\L.length<x.1+x.2.2.at'/\x.2.1.length<=x.2.2.at'+1)
  (λx=>[(0,.c (.ptr 0 0)),(2,.c (.ptr 2 0)),(3,.c (.msl 4 3 0 x.2.1.length))])
  (λx=>[jk L x.2.2,.pin t 0,mJ,.arr 4 ((x.2.1.map gT.enc).map (·.map .d))])
  (λx=>x.1) (L.length+1,[T1],p1) [0,1,2,3] ⟨hF0,Tm.refl t1.lt,by simp only;omega,by simp⟩ (by simp) λ⟨n,l,q⟩ ⟨i1,i2,i3,i4⟩=>?_
 unfold Rl;simp only at i1 i2 i4;have i3:L.length<n+q.at':=i3;have hlt:=i2.lt;obtain⟨n,rfl⟩:∃m,n=m+1:=⟨n-1,by omega⟩
 rw[rM]at i1;have e1:=iW hL hlt (s:=bs [124]);have a1:=lg (bs [124]) q hlt hl;simp;refine gN [0] a1 ?_;by_cases q1:(iA L (bs [124]) q).1=true
 ·rw[aC q1]at i1;have i1:rM L ki n (l++[(rJ L ki (iA L (bs [124]) q).2).1]) (rJ L ki (iA L (bs [124]) q).2).2=F0:=i1;have ha:=(take_at q1).1;have e2:=e1.trans (Ep hL hk _ e1.lt);have hle:=(Ep hL hk _ e1.lt).le;have a2:=Sl hL hl hk Hk _ e1.lt (by rw[e1.deep,i2.deep,t1.deep,hd]);generalize (iA L (bs [124]) q).2=q2 at*
  generalize (rJ L ki q2).1=T2 at*
  generalize (rJ L ki q2).2=q3 at*
  simp[q1];refine gN [0] a2 ?_;simp;refine⟨by omega,?_⟩;refine fF (n,l++[T2],q3) [0,1,2,5] ⟨i1,i2.trans e2,by simp only;omega,by simp;omega⟩ (by simp) ?_;simp;exact aG (by simp)
 ·rw[aB q1]at i1;rw[lH q1];rw[aK]at q1;rw[<-i1]at hpos⊢;simp only at hpos⊢;by_cases hl1:l.length=1
  ·obtain⟨T,rfl⟩:∃T,l=[T]:=by
    match l,hl1 with
    |[T],_=>exact⟨T,rfl⟩
   have ho:LF [T]=T:=rfl;rw[ho];simp[q1];refine fT [3] ?_;simp[iV];exact fK [0] [1]
  ·have htk:take l.length (List.map ((λx=>List.map AC.d x)∘gT.enc) l)=List.map ((λx=>List.map AC.d x)∘gT.enc) l:=aG (by simp);have hne:¬((l.length:Int)=1):=by omega
   rw[zHj hl1];simp[q1];refine fT [3] ?_;simp[iV,htk,hne,hl1];have z:D.erdE (take l.length (l.map gT.enc))=l.map gT.enc:=by
    rw[aG (by simp)];exact LQ l
   exact fI [0] [1] (by simp[gT.enc,gT.encs_map,encS,z])
theorem LU(hL:jC L)(hl:L.length<=10000):∀(n:Nat) (p:PS),p.at'<L.length->p.deep<=100->101<=p.deep+n->MCall Pg 156 [.c (.ptr 0 0)] [jk L p] (.ag ((wN L n p).1.enc.map .d)) [jk L (wN L n p).2]
|0,p,h,h1,h2=>by omega
| n+1,p,h,h1,h2=>by
 have ce:=LP p h (by omega);refine zDF mX λts hts ok hb c hN hp=>?_;obtain⟨t,rfl⟩:=mD hts;have hR:wN L (n+1) p=if(jN L p).1=true then uH (Ei L (wN L n) (jN L p).2)else(noT,(jN L p).2):=by rw[wN]
 rw[hR];unfold Rk;simp;refine gN [0] ce ?_;by_cases q:(jN L p).1=true
 ·rw[aC q];obtain⟨e1,e2,e3⟩:=zG q;have hk:=LH hL n;have Hk:pu L (p.deep+1) (wN L n):=λr hr hd=>LU hL hl n r hr (by omega) (by omega);have hp1:(jN L p).2.at'<L.length:=by rw[e1];exact h
  have hd1:(jN L p).2.deep=p.deep+1:=by rw[e1]
  have a1:=zHN hL hl hk Hk _ hp1 hd1;have t1:=Sc hL hk _ hp1;have a2:=lg (bs [45,62]) _ t1.lt hl;have t2:=t1.trans (iW hL t1.lt (s:=bs [45,62]));unfold uH Ei;simp only;generalize (jN L p).2=p1 at*
  generalize (qU L (wN L n) p1).1=T1 at*
  generalize (qU L (wN L n) p1).2=p2 at*
  simp[q];refine gN [0] a1 ?_;simp;refine gN [0] a2 ?_;by_cases q2:(iA L (bs [45,62]) p2).1=true
  ·rw[aC q2];have a3:=Hk _ t2.lt (by rw[t2.deep,hd1]);have hd3:=(t2.trans (hk _ t2.lt)).deep;simp only;simp only[hd1]at hd3;generalize (iA L (bs [45,62]) p2).2=p3 at*
   generalize (wN L n p3).1=T3 at*
   generalize (wN L n p3).2=p4 at*
   simp[q2];refine gN [0] a3 ?_;simp;have hw:IntKind.i64.wrap ((p4.deep:Int)-1)=((p4.deep-1:Nat):Int):=by rw[wI];omega
   exact fI [0] [1] (by simp[gT.enc,gT.encs,encS,hw])
  ·rw[aB q2,lH q2];have hd3:=t1.deep;rw[hd1]at hd3;rw[aK]at q2;simp[q2];have hw:IntKind.i64.wrap ((p2.deep:Int)-1)=((p2.deep-1:Nat):Int):=by rw[wI];omega
   exact fM [0] [1] (by simp[hw])
 ·rw[aB q];rw[aK]at q;simp[q];exact fI [0] [1] (by simp[noT,gT.enc,gT.encs,encS])
end
end Go.Gr
namespace Go.Gr
open Go.Abs Go.Proofs
mutual
theorem gp.erdL:∀t:gp,D.erdL t.enc=t.enc
|.mk k t n a b ts ns ks=>by
 simp only[gp.enc,D.erdL,D.erd,AB,LQ,gp.erdE ks]
theorem gp.erdE:∀l:List gp,D.erdE (gp.encs l)=gp.encs l
|[]=>rfl
|t::l=>by simp only[gp.encs,D.erdE,gp.erdL t,gp.erdE l]
end
attribute [simp] gp.erdL gp.erdE
@[simp] theorem zID(l:List gp):D.erdE (l.map gp.enc)=l.map gp.enc:=by rw[<-gp.encs_map];exact gp.erdE l
def nM(L:List Tok)(f:FuncId)(d:Nat)(ex:PS->gp × PS):Prop:=∀p:PS,p.at'<L.length->p.deep=d->MCall Pg f [.c (.ptr 0 0)] [jk L p] (.ag ((ex p).1.enc.map .d)) [jk L (ex p).2]
section
variable {L:List Tok}
theorem Dn(k:Int)(p:PS)(h:p.at'<L.length):MCall Pg 180 [.c (.ptr 0 0),.c (.d (.int .i64 k))] [jk L p] (.ag [.d (.int .i64 k),.d (.str (bs [])),.d (.int .i64 0),.d (.int .i64 (iG L p).line),.d (.int .i64 (iG L p).col),.d (.sl true 4 []),.d (.sl true 1 []),.d (.sl true 8 [])]) [jk L p]:=by
 refine zGz mX λts hts ok hb c hN hp=>?_;obtain⟨t,rfl⟩:=mD hts;have hg:=zI h;unfold Rs;simp[hg];refine⟨by decide,?_⟩;exact fK [0] [1]
theorem Ev(hL:jC L)(hl:L.length<=10000){d:Nat}{ki:PS->gT × PS}(Hk:pu L d ki)(p:PS)(h:p.at'<L.length)(hd:p.deep=d):
  MCall Pg 157 [.c (.ptr 0 0)] [jk L p] (.c (.d (.sl true 4 ((pY L ki p).1.map gT.enc)))) [jk L (pY L ki p).2]:=by
 refine zDH mX λts hts ok hb c hN hp=>?_;obtain⟨t,rfl⟩:=mD hts;have c1:=lg (bs [58]) p h hl;unfold Rq pY;simp;refine gN [0] c1 ?_;by_cases q:(iA L (bs [58]) p).1=true
 ·have t1:=iW hL h (s:=bs [58]);have c2:=Hk _ t1.lt (by rw[t1.deep,hd]);rw[aC q];simp[q];refine gN [0] c2 ?_;simp;exact fK [0] [1]
 ·rw[aB q,lH q];rw[aK]at q;simp[q];exact fK [0] [1]
theorem II(ki:PS->gT × PS)(q:PS):(pY L ki q).1=[]\/∃T,(pY L ki q).1=[T]:=by
 unfold pY;split
 ·exact .inr ⟨_,rfl⟩
 ·exact .inl rfl
theorem zF8(hL:jC L)(hl:L.length<=10000){d:Nat}{ki:PS->gT × PS}(hk:gz L ki)(Hk:pu L d ki)(p:PS)(h:p.at'<L.length)(hd:p.deep=d):
  MCall Pg 125 [.c (.ptr 0 0)] [jk L p] (.tup [.c (.d (.str (rP L ki p).1.1)),.c (.d (.sl false 4 ((rP L ki p).1.2.map gT.enc)))]) [jk L (rP L ki p).2]:=by
 refine Eg mX λts hts ok hb c hN hp=>?_;obtain⟨t,rfl⟩:=mD hts;have t1:=iw hL h (s:=bs [40]);have t2:=t1.trans (lc hL t1.lt);have t3:=t2.trans (zH hL hk _ t2.lt);have t4:=t3.trans (iw hL t3.lt (s:=bs [41]));have c1:=ng hL (bs [40]) p h hl;have c2:=xJ _ t1.lt hl;have c3:=Ev hL hl Hk _ t2.lt (by rw[t2.deep,hd]);have c4:=ng hL (bs [41]) _ t3.lt hl;have c5:=Ev hL hl Hk _ t4.lt (by rw[t4.deep,hd]);have n1:=II (L:=L) ki (jB L (jI L (bs [40]) p)).2;have n2:=II (L:=L) ki (jI L (bs [41]) (pY L ki (jB L (jI L (bs [40]) p)).2).2);unfold Dh rP;simp only;generalize jI L (bs [40]) p=p1 at*
 generalize (jB L p1).1=s1 at*
 generalize (jB L p1).2=p2 at*
 generalize (pY L ki p2).1=A at*
 generalize (pY L ki p2).2=p3 at*
 generalize jI L (bs [41]) p3=p4 at*
 generalize (pY L ki p4).1=B at*
 generalize (pY L ki p4).2=p5 at*
 simp;refine gN [0] c1 ?_;simp;refine gN [0] c2 ?_;simp;refine gN [0] c3 ?_;simp;refine gN [0] c4 ?_;simp;refine gN [0] c5 ?_;have hn:noT.enc=[.int .i64 0,.str (bs []),.sl false 1 [],.sl false 4 []]:=rfl;rcases n1 with rfl|⟨T,rfl⟩<;>rcases n2 with rfl|⟨U,rfl⟩<;>simp
 ·refine fT [] ?_;simp;exact fI [0] [1] (by simp[hn,AV.erds])
 ·refine fT [2] ?_;simp[iV];exact fI [0] [1] (by simp[hn,AV.erds])
 ·refine fT [] ?_;simp;exact fI [0] [1] (by simp[hn,AV.erds])
 ·refine fT [2] ?_;simp[iV];exact fI [0] [1] (by simp[hn,AV.erds])
def xK(L:List Tok)(d:Nat)(k:Int)(rk:PS->gp × PS):Prop:=∀p:PS,p.at'<L.length->p.deep=d->MCall Pg 181 [.c (.ptr 0 0),.c (.d (.int .i64 k))] [jk L p] (.ag ((rk p).1.enc.map .d)) [jk L (rk p).2]
theorem oz(p:PS)(k:Int)(t:fE)(n:Int)(ts:List gT)(ns:List fE)(ks:List gp):(kT L p k t n ts ns ks).enc=[.int .i64 k,.str t,.int .i64 n,.int .i64 (iG L p).line,.int .i64 (iG L p).col,.sl false 4 (ts.map gT.enc),.sl false 1 (encS ns),.sl false 8 (ks.map gp.enc)]:=by
 unfold kT;rw[gp.enc_eq];try rfl
theorem zF9(hL:jC L)(hl:L.length<=10000){d:Nat}{ki:PS->gT × PS}{ex rk:PS->gp × PS}(hk:gz L ki)(Hk:pu L d ki)(he:gz L ex)(He:nM L 126 d ex)(Hr:xK L d 0 rk)(p:PS)(h:p.at'<L.length)(hd:p.deep=d):
  MCall Pg 159 [.c (.ptr 0 0)] [jk L p] (.ag ((zD L ki ex rk p).1.enc.map .d)) [jk L (zD L ki ex rk p).2]:=by
 refine zDJ mX λts hts ok hb c hN hp=>?_;obtain⟨t,rfl⟩:=mD hts;have c0:=Dn (L:=L) 5 p h;have c1:=lg sP p h hl;unfold Ru zD;simp;refine gN [0] c0 ?_;simp;refine gN [0] c1 ?_;by_cases q1:(iA L sP p).1=true
 ·rw[aC q1];have t1:=iW hL h (s:=sP);have t2:=t1.trans (lc hL t1.lt);have t3:=t2.trans (zH hL hk _ t2.lt);have t4:=t3.trans (iw hL t3.lt (s:=bs [61]));have t5:=t4.trans (he _ t4.lt);have t6:=t5.trans (iw hL t5.lt (s:=bs [59]));have a1:=xJ _ t1.lt hl;have a2:=Ev hL hl Hk _ t2.lt (by rw[t2.deep,hd]);have a3:=ng hL (bs [61]) _ t3.lt hl;have a4:=He _ t4.lt (by rw[t4.deep,hd]);have a5:=ng hL (bs [59]) _ t5.lt hl;have a6:=He _ t6.lt (by rw[t6.deep,hd]);generalize (iA L sP p).2=p1 at*
  generalize (jB L p1).1=s1 at*
  generalize (jB L p1).2=p2 at*
  generalize (pY L ki p2).1=A at*
  generalize (pY L ki p2).2=p3 at*
  generalize jI L (bs [61]) p3=p4 at*
  generalize (ex p4).1=V at*
  generalize (ex p4).2=p5 at*
  generalize jI L (bs [59]) p5=p6 at*
  generalize (ex p6).1=B at*
  generalize (ex p6).2=p7 at*
  simp[q1];refine gN [0] a1 ?_;simp;refine gN [0] a2 ?_;simp;refine gN [0] a3 ?_;simp;refine gN [0] a4 ?_;simp;refine gN [0] a5 ?_;simp;refine gN [0] a6 ?_;simp;exact fI [0] [1] (by simp[oz,encS])
 ·rw[aB q1,lH q1];rw[aK]at q1;have c2:=lg zz p h hl;simp[q1];refine gN [0] c2 ?_;by_cases q2:(iA L zz p).1=true
  ·rw[aC q2];have t1:=iW hL h (s:=zz);have t2:=t1.trans (he _ t1.lt);have t3:=t2.trans (iw hL t2.lt (s:=CP));have t4:=t3.trans (he _ t3.lt);have t5:=t4.trans (iw hL t4.lt (s:=CQ));have a1:=He _ t1.lt (by rw[t1.deep,hd]);have a2:=ng hL CP _ t2.lt hl;have a3:=He _ t3.lt (by rw[t3.deep,hd]);have a4:=ng hL CQ _ t4.lt hl;have a5:=He _ t5.lt (by rw[t5.deep,hd]);generalize (iA L zz p).2=p1 at*
   generalize (ex p1).1=C at*
   generalize (ex p1).2=p2 at*
   generalize jI L CP p2=p3 at*
   generalize (ex p3).1=A at*
   generalize (ex p3).2=p4 at*
   generalize jI L CQ p4=p5 at*
   generalize (ex p5).1=B at*
   generalize (ex p5).2=p6 at*
   simp[q2];refine gN [0] a1 ?_;simp;refine gN [0] a2 ?_;simp;refine gN [0] a3 ?_;simp;refine gN [0] a4 ?_;simp;refine gN [0] a5 ?_;simp;exact fI [0] [1] (by simp[oz,encS])
  ·rw[aB q2,lH q2];rw[aK]at q2;have c3:=lg tT p h hl;simp[q2];refine gN [0] c3 ?_;by_cases q3:(iA L tT p).1=true
   ·rw[aC q3];have t1:=iW hL h (s:=tT);have t2:=t1.trans (BK hL hk _ t1.lt);have t3:=t2.trans (iw hL t2.lt (s:=bs [61,62]));have a1:=zF8 hL hl hk Hk _ t1.lt (by rw[t1.deep,hd]);have a2:=ng hL (bs [61,62]) _ t2.lt hl;have a3:=He _ t3.lt (by rw[t3.deep,hd]);generalize (iA L tT p).2=p1 at*
    generalize (rP L ki p1).1.1=s1 at*
    generalize (rP L ki p1).1.2=A at*
    generalize (rP L ki p1).2=p2 at*
    generalize jI L (bs [61,62]) p2=p3 at*
    generalize (ex p3).1=B at*
    generalize (ex p3).2=p4 at*
    simp[q3];refine gN [0] a1 ?_;simp;refine gN [0] a2 ?_;simp;refine gN [0] a3 ?_;simp;exact fI [0] [1] (by simp[oz,encS])
   ·rw[aB q3,lH q3];rw[aK]at q3;have a1:=Hr p h hd;simp[q3];refine gN [0] a1 ?_;simp;exact fK [0] [1]
end
end Go.Gr
namespace Go.Gr
open Go.Abs Go.Proofs List
theorem Sn:∀v:List D,(D.erdL v).length=v.length
|[]=>rfl
|d::v=>by simp only[D.erdL,length_cons,Sn v]
@[simp] theorem zKu(v:List D):List.map (AC.erd∘AC.d) v=(D.erdL v).map .d:=by rw[<-bi,Sk]
theorem IJ{v:List D}{a:gp}(h:D.erdL v=a.enc):v.length=8:=by rw[<-Sn,h];simp
theorem Sq{v:List D}{a:gp}(h:D.erdL v=a.enc):cut (v.map AC.d) 0 8=v.map .d:=by
 have:=IJ h;unfold cut;simp[this]
theorem Sr{v:List D}{a:gp}(h:D.erdL v=a.enc):cut v 0 8=v:=by
 have:=IJ h;unfold cut;simp[this]
abbrev Su:List (List D):=[[.sl true 1 [[.str (bs [111,114])]]],[.sl true 1 [[.str (bs [97,110,100])]]],[.sl true 1 []],[.sl true 1 [[.str (bs [43,43])]]],[.sl true 1 [[.str (bs [43])],[.str (bs [45])],[.str (bs [94])]]],[.sl true 1 [[.str (bs [42])],[.str (bs [47])],[.str (bs [37])],[.str (bs [38])],[.str (bs [60,60])],[.str (bs [62,62])]]]]
theorem zHR{k:Nat}(h:k<6):Su[k]?=some [.sl true 1 (encS (rQ k))]:=by
 match k,h with
 |0,_=>rfl
 |1,_=>rfl
 |2,_=>rfl
 |3,_=>rfl
 |4,_=>rfl
 |5,_=>rfl
theorem zEN{k:Nat}:(rQ k).length<=6:=by
 unfold rQ;split<;>simp
section
variable {L:List Tok}
def yR(L:List Tok)(rk:PS->gp × PS)(signs:List fE)(n i:Nat)(a:gp)(p:PS):gp × PS:=match xE L (signs.drop i) p with
|none=>(a,p)
|some (s,q)=>kU L rk signs n (kT L p 14 s 0 [] [] [a,(rk q).1]) (rk q).2
theorem Sv(rk:PS->gp × PS)(signs:List fE)(n:Nat)(a:gp)(p:PS):kU L rk signs (n+1) a p=yR L rk signs n 0 a p:=by
 rw[kU];unfold yR;rw[drop_zero];try rfl
abbrev yS:Blk:=.box [.d (.int .i64 0),.d (.str (bs [])),.d (.int .i64 0),.d (.int .i64 0),.d (.int .i64 0),.d (.sl true 4 []),.d (.sl true 1 []),.d (.sl true 8 [])]
theorem Ew(hL:jC L)(hl:L.length<=10000){d k:Nat}(hk:k<6)(hk2:k≠2){rk:PS->gp × PS}(hr:gz L rk)(Hr:xK L d (k+1:Nat) rk):
  xK L d k (λp=>kU L rk (rQ k) (L.length+1) (rk p).1 (rk p).2):=by
 intro p h hd;refine LA mX λts hts ok hb c hN hp=>?_;obtain⟨t,rfl⟩:=mD hts;have c1:=Hr p h hd;have t1:=hr p h;have h6:¬((k:Int)=6):=by omega
 have h2:¬((k:Int)=2):=by omega
 have hw:IntKind.i64.wrap ((k:Int)+1)=((k+1:Nat):Int):=by rw[wI];omega
 have hT:=zHR hk;have hs6:=zEN (k:=k);simp only;obtain⟨F0,hF0⟩:∃F0,kU L rk (rQ k) (L.length+1) (rk p).1 (rk p).2=F0:=⟨_,rfl⟩
 rw[hF0];rw[Sv]at hF0;generalize (rk p).1=A at*
 generalize (rk p).2=p1 at*
 unfold IB;simp[h6,h2,hw];refine gN [0] c1 ?_;generalize rQ k=sg at*
 have hd1:p1.deep=d:=by rw[t1.deep,hd]
 simp;generalize hTT:Su=TT at*
 refine fO gy hp (λx:Nat × Nat × gp × List D × PS=>yR L rk sg x.1 x.2.1 x.2.2.1 x.2.2.2.2=F0/\Tm L p1 x.2.2.2.2/\L.length<x.1+1+x.2.2.2.2.at'/\x.2.1<=sg.length/\D.erdL x.2.2.2.1=x.2.2.1.enc)
  (λx=>[(0,.c (.ptr 0 0)),(1,.c (.d (.int .i64 k))),(4,.c (.ptr 2 0)),(5,.c (.d (.sl true 1 TT))),(6,.c (.ptr 3 0)),(7,.c (.d (.int .i64 x.2.1)))])
  (λx=>[jk L x.2.2.2.2,.pin t 0,yS,.box (x.2.2.2.1.map .d)])
  (λx=>x.1*7+(sg.length-x.2.1)) (L.length,0,A,A.enc,p1) [0,1,2,3] ⟨hF0,Tm.refl t1.lt,by simp only;omega,by simp,by simp⟩ (by simp[<-hTT]) λ⟨n,i,a,v,q⟩ ⟨i1,i2,i3,i4,i5⟩=>?_
 unfold Rv;simp only at i1 i2 i4 i5;have i3:L.length<n+1+q.at':=i3;have hlt:=i2.lt;have hcut:=Sq i5;have hcut':=Sr i5;have hvl:=IJ i5;simp[hT];apply gM<;>intro hj
 ·have hj:i<sg.length:=by simpa using hj
  have hg:sg[i]?=some sg[i]:=aA hj;have a0:=Dn (L:=L) 14 q hlt;have a1:=lg sg[i] q hlt hl;unfold yR at i1;rw[aD hj,xE]at i1;generalize sg[i]=s at*
  refine gN [0] a0 ?_;simp[hT,hg];refine gN [0] a1 ?_;by_cases q1:(iA L s q).1=true
  ·rw[aC q1]at i1;simp only at i1;have ha:=(take_at q1).1;have e1:=iW hL hlt (s:=s);have a2:=Hr _ e1.lt (by rw[e1.deep,i2.deep,hd1]);have e2:=e1.trans (hr _ e1.lt);have hle:=(hr _ e1.lt).le;obtain⟨n,rfl⟩:∃m,n=m+1:=⟨n-1,by have:=e1.lt;omega⟩
   rw[Sv]at i1;generalize (iA L s q).2=q2 at*
   generalize (rk q2).1=B at*
   generalize (rk q2).2=q3 at*
   simp[q1,hw];refine gN [0] a2 ?_;simp[hT,hg,hvl,hcut,hcut'];refine fF (n,0,kT L q 14 s 0 [] [] [a,B],([.int .i64 14,.str s,.int .i64 0,.int .i64 (iG L q).line,.int .i64 (iG L q).col,.sl true 4 [],.sl true 1 [],.sl true 8 [v,B.enc]]:List D),q3) [0,1,2,3] ⟨i1,i2.trans e2,by simp only;omega,by simp,?_⟩ (by simp;omega) ?_
   ·simp[oz,i5,encS]
   ·simp
  ·rw[aB q1]at i1;rw[lH q1];rw[aK]at q1;simp[q1];refine fF (n,i+1,a,v,q) [0,1,2,3] ⟨i1,i2,by simp only;omega,by simp only;omega,i5⟩ (by simp only;omega) ?_;simp;exact wI
 ·have hj:i=sg.length:=by simp at hj;omega
  subst hj;unfold yR at i1;rw[aO,xE]at i1;have i1:(a,q)=F0:=i1;rw[<-i1];simp[hvl,hcut];exact fI [0] [1] (by simp[hcut,i5])
theorem zEO{d:Nat}{un:PS->gp × PS}(Hu:nM L 191 d un):xK L d 6 un:=by
 intro p h hd;refine LA mX λts hts ok hb c hN hp=>?_;obtain⟨t,rfl⟩:=mD hts;have c1:=Hu p h hd;unfold IB;simp;refine gN [0] c1 ?_;simp;exact fK [0] [1]
theorem zEP{d:Nat}{un:PS->gp × PS}(Hu:nM L 192 d un):xK L d 2 un:=by
 intro p h hd;refine LA mX λts hts ok hb c hN hp=>?_;obtain⟨t,rfl⟩:=mD hts;have c1:=Hu p h hd;unfold IB;simp;refine gN [0] c1 ?_;simp;exact fK [0] [1]
end
section
variable {L:List Tok}
abbrev cmpS:List fE:=[bs [60],bs [60,61],bs [61,61]]
theorem zHI(hL:jC L)(hl:L.length<=10000){d:Nat}{ki:PS->gT × PS}{rk:PS->gp × PS}(hk:gz L ki)(Hk:pu L d ki)(hr:gz L rk)(Hr:xK L d 3 rk):
  nM L 192 d (rR L ki rk):=by
 intro p h hd;refine zE1 mX λts hts ok hb c hN hp=>?_;obtain⟨t,rfl⟩:=mD hts;have c1:=Hr p h hd;have t1:=hr p h;have a0:=Dn (L:=L) 14 _ t1.lt;obtain⟨F0,hF0⟩:∃F0,rR L ki rk p=F0:=⟨_,rfl⟩
 rw[hF0];unfold rR at hF0;simp only at hF0;rw[show rk p=((rk p).1,(rk p).2)from rfl]at hF0;simp only at hF0;generalize (rk p).1=A at*
 generalize (rk p).2=p1 at*
 have hd1:p1.deep=d:=by rw[t1.deep,hd]
 unfold Ry;simp;refine gN [0] c1 ?_;simp;refine gN [0] a0 ?_;simp
 refine fO gy hp (λj:Nat=>j<=3/\xE L (cmpS.drop j) p1=xE L cmpS p1)
  (λj=>[(0,.c (.ptr 0 0)),(2,.c (.ptr 2 0)),(3,.c (.ptr 3 0)),(4,.c (.ptr 4 0)),(5,.c (.d (.sl true 1 (encS cmpS)))),(6,.c (.d (.int .i64 j)))])
  (λj=>[jk L p1,.pin t 0,yS,.box (A.enc.map .d),.box [.d (.int .i64 14),.d (.str (bs [])),.d (.int .i64 0),.d (.int .i64 (iG L p1).line),.d (.int .i64 (iG L p1).col),.d (.sl true 4 []),.d (.sl true 1 []),.d (.sl true 8 [])]])
  (λj=>3-j) 0 [0,1,2,3,4] ⟨by simp,rfl⟩ (by simp[encS]) λj ⟨i1,i2⟩=>?_
 unfold Rw;have hsl:cmpS.length=3:=rfl;simp[hsl];apply gM<;>intro h3
 ·have hj:j<cmpS.length:=by simp at h3;omega
  have hj':j<3:=by omega
  rw[aD hj,xE]at i2;have hg:cmpS[j]?=some cmpS[j]:=aA hj;have ht:=lg cmpS[j] p1 t1.lt hl;generalize cmpS[j]=s at*
  simp[hg];refine gN [0] ht ?_;by_cases q:(iA L s p1).1=true
  ·rw[aC q]at i2;rw[<-i2]at hF0;have hF0:(kT L p1 14 s 0 [] [] [A,(rk (iA L s p1).2).1],(rk (iA L s p1).2).2)=F0:=hF0;rw[<-hF0];have e1:=iW hL t1.lt (s:=s);have a2:=Hr _ e1.lt (by rw[e1.deep,hd1]);simp only;generalize (iA L s p1).2=p2 at*
   generalize (rk p2).1=B at*
   generalize (rk p2).2=p3 at*
   simp[q];refine gN [0] a2 ?_;simp[hg];exact fI [0] [1] (by simp[oz,encS])
  ·rw[aB q]at i2;rw[lH q];rw[aK]at q;simp[q];refine fF (j+1) [0,1,2,3,4] ⟨by omega,i2⟩ (by omega) ?_;simp;exact wI
 ·have hj:j=3:=by simp at h3;omega
  subst hj;have i2:xE L cmpS p1=none:=by rw[<-i2];try rfl
  rw[i2]at hF0;simp only at hF0;have b1:=lg (bs [97,115]) p1 t1.lt hl;simp;refine gN [0] b1 ?_;by_cases q1:(iA L (bs [97,115]) p1).1=true
  ·rw[aC q1]at hF0;have e1:=iW hL t1.lt (s:=bs [97,115]);have a2:=Hk _ e1.lt (by rw[e1.deep,hd1]);rw[<-hF0];simp only;generalize (iA L (bs [97,115]) p1).2=p2 at*
   generalize (ki p2).1=T at*
   generalize (ki p2).2=p3 at*
   simp[q1];refine gN [0] a2 ?_;simp;exact fI [0] [1] (by simp[oz,encS])
  ·rw [aB q1]at hF0;rw[lH q1];rw[aK]at q1;have b2:=lg (bs [105,115]) p1 t1.lt hl;simp[q1];refine gN [0] b2 ?_;by_cases q2:(iA L (bs [105,115]) p1).1=true
   ·rw[aC q2]at hF0;have e1:=iW hL t1.lt (s:=bs [105,115]);generalize (iA L (bs [105,115]) p1).2=p2 at*
    simp[q2]
    refine fO gy hp (λj:Nat=>j<=6/\vK L j (xF.drop j) p2=vK L 0 xF p2)
     (λj=>[(0,.c (.ptr 0 0)),(2,.c (.ptr 2 0)),(4,.c (.ptr 4 0)),(9,.c (.d (.sl true 1 (encS xF)))),(10,.c (.d (.int .i64 j)))])
     (λj=>[jk L p2,.pin t 0,yS,.box (A.enc.map .d),.box [.d (.int .i64 12),.d (.str (bs [])),.d (.int .i64 0),.d (.int .i64 (iG L p1).line),.d (.int .i64 (iG L p1).col),.d (.sl true 4 []),.d (.sl true 1 []),.d (.sl true 8 [A.enc])]])
     (λj=>6-j) 0 [0,1,2,3,4] ⟨by simp,rfl⟩ (by simp[encS,xF]) λj ⟨j1,j2⟩=>?_
    unfold Rx;have htl:xF.length=6:=rfl;simp[htl];apply gM<;>intro h6
    ·have hj:j<xF.length:=by simp at h6;omega
     have hj':j<6:=by omega
     rw[aD hj,vK]at j2;have hg:xF[j]?=some xF[j]:=aA hj;have ht:=lg xF[j] p2 e1.lt hl;generalize xF[j]=s at*
     simp[hg];refine gN [0] ht ?_;by_cases q:(iA L s p2).1=true
     ·rw[aC q]at j2;rw[<-j2]at hF0;have hF0:(kT L p1 12 (bs []) j [] [] [A],(iA L s p2).2)=F0:=hF0;rw[<-hF0];simp[q];exact fI [0] [1] (by simp[oz,encS])
     ·rw[aB q]at j2;rw[lH q];rw[aK]at q;simp[q];refine fF (j+1) [0,1,2,3,4] ⟨by omega,j2⟩ (by omega) ?_;simp;exact wI
    ·have hj:j=6:=by simp at h6;omega
     subst hj;have j2:vK L 0 xF p2=none:=by rw[<-j2];try rfl
     rw[j2]at hF0;have hF0:(kT L p1 12 (bs []) 0 [] [] [A],wL L 7 p2)=F0:=hF0;rw[<-hF0];have b3:=Eu (L:=L) 7 p2 e1.lt;simp;refine gN [0] b3 ?_;simp;exact fI [0] [1] (by simp[oz,encS])
   ·rw[aB q2]at hF0;rw[lH q2,<-hF0];rw[aK]at q2;simp[q2];exact fK [0] [1]
end
end Go.Gr
namespace Go.Gr
open Go.Abs Go.Proofs
section
variable {L:List Tok}
theorem zGL(hL:jC L)(hl:L.length<=10000){d:Nat}{at_ ex:PS->gp × PS}(ha:gz L at_)(Ha:nM L 227 d at_)(he:gz L ex)(He:nM L 126 d ex):
  nM L 211 d (λp=>sQ L ex (L.length+1) (at_ p).1 (at_ p).2):=by
 intro p h hd;refine zDK mX λts hts ok hb c hN hp=>?_;obtain⟨t,rfl⟩:=mD hts;have c1:=Ha p h hd;have t1:=ha p h;simp only;obtain⟨F0,hF0⟩:∃F0,sQ L ex (L.length+1) (at_ p).1 (at_ p).2=F0:=⟨_,rfl⟩
 rw[hF0];generalize (at_ p).1=A at*
 generalize (at_ p).2=p1 at*
 have hd1:p1.deep=d:=by rw[t1.deep,hd]
 unfold SB;simp;refine gN [0] c1 ?_;simp
 refine fO gy hp (λx:Nat × gp × List D × PS=>sQ L ex x.1 x.2.1 x.2.2.2=F0/\Tm L p1 x.2.2.2/\L.length<x.1+x.2.2.2.at'/\D.erdL x.2.2.1=x.2.1.enc)
  (λx=>[(0,.c (.ptr 0 0)),(2,.c (.ptr 2 0)),(3,.c (.ptr 3 0))])
  (λx=>[jk L x.2.2.2,.pin t 0,yS,.box (x.2.2.1.map .d)])
  (λx=>x.1) (L.length+1,A,A.enc,p1) [0,1,2,3] ⟨hF0,Tm.refl t1.lt,by simp only;omega,by simp⟩ (by simp) λ⟨n,a,v,q⟩ ⟨i1,i2,i3,i5⟩=>?_
 unfold SA;simp only at i1 i2 i5;have i3:L.length<n+q.at':=i3;have hlt:=i2.lt;have hcut:=Sq i5;have hcut':=Sr i5;have hvl:=IJ i5;obtain⟨n,rfl⟩:∃m,n=m+1:=⟨n-1,by omega⟩
 rw[sQ]at i1;have a0:=Dn (L:=L) 7 q hlt;have a1:=lg (bs [40]) q hlt hl;simp;refine gN [0] a0 ?_;simp;refine gN [0] a1 ?_;by_cases q1:(iA L (bs [40]) q).1=true
 ·rw[aC q1]at i1;simp only at i1;have hat:=(take_at q1).1;have e1:=iW hL hlt (s:=bs [40]);have e2:=e1.trans (he _ e1.lt);have e3:=e2.trans (iw hL e2.lt (s:=bs [41]));have le1:=(he _ e1.lt).le;have le2:=(iw hL e2.lt (s:=bs [41])).le;have a2:=He _ e1.lt (by rw[e1.deep,i2.deep,hd1]);have a3:=ng hL (bs [41]) _ e2.lt hl;generalize (iA L (bs [40]) q).2=q2 at*
  generalize (ex q2).1=B at*
  generalize (ex q2).2=q3 at*
  generalize jI L (bs [41]) q3=q4 at*
  simp[q1];refine gN [0] a2 ?_;simp;refine gN [0] a3 ?_;simp[hvl,hcut,hcut'];refine fF (n,kT L q 7 (bs []) 0 [] [] [a,B],([.int .i64 7,.str (bs []),.int .i64 0,.int .i64 (iG L q).line,.int .i64 (iG L q).col,.sl true 4 [],.sl true 1 [],.sl true 8 [v,B.enc]]:List D),q4) [0,1,2,3] ⟨i1,i2.trans e3,by simp only;omega,?_⟩ (by simp) ?_
  ·simp[oz,i5,encS]
  ·simp
 ·rw[aB q1]at i1;rw[lH q1];rw[aK]at q1;have a2:=lg (bs [46]) q hlt hl;simp[q1];refine gN [0] a2 ?_;by_cases q2:(iA L (bs [46]) q).1=true
  ·rw[aC q2]at i1;simp only at i1;have hat:=(take_at q2).1;have e1:=iW hL hlt (s:=bs [46]);have e2:=e1.trans (lc hL e1.lt);have le1:=(lc hL e1.lt).le;have a3:=xJ _ e1.lt hl;generalize (iA L (bs [46]) q).2=q2' at*
   generalize (jB L q2').1=s at*
   generalize (jB L q2').2=q3 at*
   simp[q2];refine gN [0] a3 ?_;simp[hvl,hcut,hcut'];refine fF (n,kT L q 9 s 0 [] [] [a],([.int .i64 9,.str s,.int .i64 0,.int .i64 (iG L q).line,.int .i64 (iG L q).col,.sl true 4 [],.sl true 1 [],.sl true 8 [v]]:List D),q3) [0,1,2,3] ⟨i1,i2.trans e2,by simp only;omega,?_⟩ (by simp) ?_
   ·simp[oz,i5,encS]
   ·simp
  ·rw[aB q2]at i1;rw[lH q2,<-i1];rw[aK]at q2;simp[q2,hvl,hcut,hcut'];exact fI [0] [1] (by simp[hcut,i5])
theorem Sw(hL:jC L)(hl:L.length<=10000){ki:PS->gT × PS}{ex un:PS->gp × PS}(hk:gz L ki)(he:gz L ex)(hu:gz L un)(p:PS)(h:p.at'<L.length)(hd:p.deep<=100)
  (Hu:p.deep<100->nM L 191 (p.deep+1) un) (Hp:p.deep<100->nM L 211 (p.deep+1) (Ca L ki ex)):
  MCall Pg 191 [.c (.ptr 0 0)] [jk L p] (.ag ((if(jN L p).1=true then uH (zF L ki ex un (jN L p).2)else(qR,(jN L p).2)).1.enc.map .d)) [jk L (if(jN L p).1=true then uH (zF L ki ex un (jN L p).2)else(qR,(jN L p).2)).2]:=by
 have ce:=LP p h (by omega);refine zB7 mX λts hts ok hb c hN hp=>?_;obtain⟨t,rfl⟩:=mD hts;unfold Rz;simp;refine gN [0] ce ?_;by_cases q:(jN L p).1=true
 ·rw[aC q];obtain⟨e1,e2,e3⟩:=zG q;have hp1:(jN L p).2.at'<L.length:=by rw[e1];exact h
  have hd1:(jN L p).2.deep=p.deep+1:=by rw[e1]
  have Hu:=Hu e2;have Hp:=Hp e2;have a0:=Dn (L:=L) 16 _ hp1;have a1:=lg (bs [45]) _ hp1 hl;unfold uH zF;simp only;generalize (jN L p).2=p1 at*
  simp[q];refine gN [0] a0 ?_;simp;refine gN [0] a1 ?_;by_cases q1:(iA L (bs [45]) p1).1=true
  ·rw[aC q1];have t1:=iW hL hp1 (s:=bs [45]);have t2:=t1.trans (hu _ t1.lt);have a2:=Hu _ t1.lt (by rw[t1.deep,hd1]);have hd3:=t2.deep;rw[hd1]at hd3;simp only;generalize (iA L (bs [45]) p1).2=p2 at*
   generalize (un p2).1=A at*
   generalize (un p2).2=p3 at*
   have hw:IntKind.i64.wrap ((p3.deep:Int)-1)=((p3.deep-1:Nat):Int):=by rw[wI];omega
   simp[q1];refine gN [0] a2 ?_;simp;exact fI [0] [1] (by simp[oz,encS,hw])
  ·rw[aB q1,lH q1];rw[aK]at q1;have a2:=lg sS _ hp1 hl;simp[q1];refine gN [0] a2 ?_;by_cases q2:(iA L sS p1).1=true
   ·rw[aC q2];have t1:=iW hL hp1 (s:=sS);have t2:=t1.trans (hu _ t1.lt);have a2:=Hu _ t1.lt (by rw[t1.deep,hd1]);have hd3:=t2.deep;rw[hd1]at hd3;simp only;generalize (iA L sS p1).2=p2 at*
    generalize (un p2).1=A at*
    generalize (un p2).2=p3 at*
    have hw:IntKind.i64.wrap ((p3.deep:Int)-1)=((p3.deep-1:Nat):Int):=by rw[wI];omega
    simp[q2];refine gN [0] a2 ?_;simp;exact fI [0] [1] (by simp[oz,encS,hw])
   ·rw[aB q2,lH q2];rw[aK]at q2;have t2:=Sg hL hk he p1 hp1;have a3:=Hp p1 hp1 hd1;have hd3:=t2.deep;rw[hd1]at hd3;generalize (Ca L ki ex p1).1=A at*
    generalize (Ca L ki ex p1).2=p3 at*
    have hw:IntKind.i64.wrap ((p3.deep:Int)-1)=((p3.deep-1:Nat):Int):=by rw[wI];omega
    simp[q2];refine gN [0] a3 ?_;simp;exact fM [0] [1] (by simp[hw])
 ·rw[aB q];rw[aK]at q;simp[q];exact fI [0] [1] (by simp[qR,gp.enc,gp.encs,encS])
theorem Sy(hL:jC L)(hl:L.length<=10000){B:PS->gp × PS}(hB:gz L B)(p:PS)(h:p.at'<L.length)(hd:p.deep<=100)(HB:p.deep<100->nM L 159 (p.deep+1) B):
  MCall Pg 126 [.c (.ptr 0 0)] [jk L p] (.ag ((if(jN L p).1=true then uH (B (jN L p).2)else(qR,(jN L p).2)).1.enc.map .d)) [jk L (if(jN L p).1=true then uH (B (jN L p).2)else(qR,(jN L p).2)).2]:=by
 have ce:=LP p h (by omega);refine zDI mX λts hts ok hb c hN hp=>?_;obtain⟨t,rfl⟩:=mD hts;unfold Rt;simp;refine gN [0] ce ?_;by_cases q:(jN L p).1=true
 ·rw[aC q];obtain⟨e1,e2,e3⟩:=zG q;have hp1:(jN L p).2.at'<L.length:=by rw[e1];exact h
  have hd1:(jN L p).2.deep=p.deep+1:=by rw[e1]
  have HB:=HB e2;have a0:=HB _ hp1 hd1;have t1:=hB _ hp1;have hd3:=t1.deep;rw[hd1]at hd3;unfold uH;simp only;generalize (jN L p).2=p1 at*
  generalize (B p1).1=A at*
  generalize (B p1).2=p2 at*
  have hw:IntKind.i64.wrap ((p2.deep:Int)-1)=((p2.deep-1:Nat):Int):=by rw[wI];omega
  simp[q];refine gN [0] a0 ?_;simp;exact fM [0] [1] (by simp[hw])
 ·rw[aB q];rw[aK]at q;simp[q];exact fI [0] [1] (by simp[qR,gp.enc,gp.encs,encS])
end
end Go.Gr
namespace Go.Gr
open Go.Abs Go.Proofs List
section
variable {L:List Tok}
theorem zE6(hL:jC L)(hl:L.length<=10000){d:Nat}{ki:PS->gT × PS}(hk:gz L ki)(Hk:pu L d ki)(p:PS)(h:p.at'<L.length)(hd:p.deep=d):
  MCall Pg 235 [.c (.ptr 0 0)] [jk L p] (.c (.d (.sl false 4 ((wO L ki (L.length+1) [] p).1.map gT.enc)))) [jk L (wO L ki (L.length+1) [] p).2]:=by
 refine zB8 mX λts hts ok hb c hN hp=>?_;obtain⟨t,rfl⟩:=mD hts;obtain⟨F0,hF0⟩:∃F0,wO L ki (L.length+1) [] p=F0:=⟨_,rfl⟩
 rw[hF0];unfold SF;simp;refine fU [.t 3] ?_;simp
 refine fO gy hp (λx:Nat × List gT × PS=>wO L ki x.1 x.2.1 x.2.2=F0/\Tm L p x.2.2/\L.length<x.1+x.2.2.at'/\x.2.1.length<=x.2.2.at')
  (λx=>[(0,.c (.ptr 0 0)),(3,.c (.msl 4 2 0 x.2.1.length))])
  (λx=>[jk L x.2.2,.pin t 0,.arr 4 ((x.2.1.map gT.enc).map (·.map .d))])
  (λx=>x.1) (L.length+1,[],p) [0,1,2] ⟨hF0,Tm.refl h,by simp only;omega,by simp⟩ (by simp) λ⟨n,l,q⟩ ⟨i1,i2,i3,i4⟩=>?_
 unfold SE;simp only at i1 i2 i4;have i3:L.length<n+q.at':=i3;have hlt:=i2.lt;obtain⟨n,rfl⟩:∃m,n=m+1:=⟨n-1,by omega⟩
 rw[wO]at i1;have e1:=hk q hlt;have le1:=e1.le;have a1:=Hk q hlt (by rw[i2.deep,hd]);have a2:=lg (bs [44]) _ e1.lt hl;generalize (ki q).1=T at*
 generalize (ki q).2=q1 at*
 simp;refine gN [0] a1 ?_;simp;refine⟨by omega,?_⟩;refine gN [0] a2 ?_;by_cases q2:(iA L (bs [44]) q1).1=true
 ·rw[aC q2]at i1;have hat:=(take_at q2).1;have e2:=e1.trans (iW hL e1.lt (s:=bs [44]));generalize (iA L (bs [44]) q1).2=q3 at*
  simp[q2];refine fF (n,l++[T],q3) [0,1,4] ⟨i1,i2.trans e2,by simp only;omega,by simp;omega⟩ (by simp) ?_;simp;exact aG (by simp)
 ·rw[aB q2,lH q2]at i1;rw[lH q2,<-i1];rw[aK]at q2;have a3:=ng hL (bs [93]) _ e1.lt hl;have z:take l.length (List.map ((λx=>List.map AC.d x)∘gT.enc) l)=List.map ((λx=>List.map AC.d x)∘gT.enc) l:=aG (by simp);simp[q2];refine fT [4] ?_;simp[iV,z];refine gN [0] a3 ?_;have z2:take (l.length+1) (l.map gT.enc++[T.enc])=l.map gT.enc++[T.enc]:=aG (by simp);simp[iV,z];exact fM [0] [1] (by simp[iV,z,z2])
theorem zDO(hL:jC L)(hl:L.length<=10000){d:Nat}{ex:PS->gp × PS}(he:gz L ex)(He:nM L 126 d ex)(k:Int)(q0 p:PS)(h:p.at'<L.length)(hd:p.deep=d):
  MCall Pg 234 [.c (.ptr 0 0),.ag [.d (.int .i64 k),.d (.str (bs [])),.d (.int .i64 0),.d (.int .i64 (iG L q0).line),.d (.int .i64 (iG L q0).col),.d (.sl true 4 []),.d (.sl true 1 []),.d (.sl true 8 [])]] [jk L p] (.ag ((vL L ex q0 p).1.enc.map .d)) [jk L (vL L ex q0 p).2]:=by
 refine zAQ mX λts hts ok hb c hN hp=>?_;obtain⟨t,rfl⟩:=mD hts;have a1:=lg (bs [125]) p h hl;unfold SH vL;simp;refine gN [0] a1 ?_;by_cases q1:(iA L (bs [125]) p).1=true
 ·rw[aC q1];simp[q1];exact fI [0] [1] (by simp[oz,encS])
 ·rw [aB q1,lH q1];rw[aK]at q1;have hg:=zI h;have hnx:p.e=0->(iG L p).kind=1->L[p.at'+1]?=some (L.getD (p.at'+1) xm):=λ_ k1=>by
   have hlt:p.at'+1<L.length:=hL.mid _ h (by unfold iG at k1;omega);rw[aH,aA hlt];try rfl
  have hnn:(0:Int)<=(p.at':Int)+1:=by omega
  have hw:IntKind.i64.wrap ((p.at':Int)+1)=((p.at'+1:Nat):Int):=by rw[wI];omega
  generalize hN1:L.getD (p.at'+1) xm=N at*
  by_cases q2:p.e≠0\/(iG L p).kind≠1\/N.kind≠5\/N.text≠bs [58]
  ·rw [aC q2];have t1:=he p h;have t2:=t1.trans (iw hL t1.lt (s:=CY));have t3:=t2.trans (lc hL t2.lt);have t4:=t3.trans (iw hL t3.lt (s:=bs [58]));have t5:=t4.trans (he _ t4.lt);have b1:=He p h hd;have b2:=ng hL CY _ t1.lt hl;have b3:=xJ _ t2.lt hl;have b4:=ng hL (bs [58]) _ t3.lt hl;have b5:=He _ t4.lt (by rw[t4.deep,hd]);have b6:=ng hL (bs [125]) _ t5.lt hl;simp only;generalize (ex p).1=A at*
   generalize (ex p).2=p1 at*
   generalize jI L CY p1=p2 at*
   generalize (jB L p2).1=s at*
   generalize (jB L p2).2=p3 at*
   generalize jI L (bs [58]) p3=p4 at*
   generalize (ex p4).1=B at*
   generalize (ex p4).2=p5 at*
   generalize jI L (bs [125]) p5=p6 at*
   generalize iG L p=T at*
   have hcs:p.e≠0\/(p.e=0/\T.kind≠1)\/(p.e=0/\T.kind=1/\N.kind≠5)\/(p.e=0/\T.kind=1/\N.kind=5/\N.text≠bs [58]):=by
    by_cases x1:p.e=0
    ·by_cases x2:T.kind=1
     ·by_cases x3:N.kind=5
      ·rcases q2 with q2|q2|q2|q2
       ·exact absurd x1 q2
       ·exact absurd x2 q2
       ·exact absurd x3 q2
       ·exact .inr (.inr (.inr ⟨x1,x2,x3,q2⟩))
      ·exact .inr (.inr (.inl ⟨x1,x2,x3⟩))
     ·exact .inr (.inl ⟨x1,x2⟩)
    ·exact .inl x1
   have hw:IntKind.i64.wrap ((p.at':Int)+1)=((p.at'+1:Nat):Int):=hw;rcases hcs with x1|⟨x1,x2⟩|⟨x1,x2,x3⟩|⟨x1,x2,x3,x4⟩
   ·simp[q1,hg,x1];refine⟨by decide,?_⟩;refine⟨by decide,?_⟩;refine gP [0] b1 (by simp[x1]) ?_;simp;refine gN [0] b2 ?_;simp;refine gN [0] b3 ?_;simp;refine gN [0] b4 ?_;simp;refine gN [0] b5 ?_;simp;refine gN [0] b6 ?_;simp;exact fI [0] [1] (by simp[oz,encS])
   ·simp[q1,hg,x1,x2];refine⟨by decide,?_⟩;refine⟨by decide,?_⟩;refine gP [0] b1 (by simp[x1]) ?_;simp;refine gN [0] b2 ?_;simp;refine gN [0] b3 ?_;simp;refine gN [0] b4 ?_;simp;refine gN [0] b5 ?_;simp;refine gN [0] b6 ?_;simp;exact fI [0] [1] (by simp[oz,encS])
   ·have hn:=hnx x1 x2;simp[q1,hg,x1,x2,x3,hn,hw,hnn];refine⟨by decide,?_⟩;refine⟨by decide,?_⟩;refine gP [0] b1 (by simp[x1]) ?_;simp;refine gN [0] b2 ?_;simp;refine gN [0] b3 ?_;simp;refine gN [0] b4 ?_;simp;refine gN [0] b5 ?_;simp;refine gN [0] b6 ?_;simp;exact fI [0] [1] (by simp[oz,encS])
   ·have hn:=hnx x1 x2;simp[q1,hg,x1,x2,x3,x4,hn,hw,hnn];refine⟨by decide,?_⟩;refine⟨by decide,?_⟩;refine gP [0] b1 (by simp[x1]) ?_;simp;refine gN [0] b2 ?_;simp;refine gN [0] b3 ?_;simp;refine gN [0] b4 ?_;simp;refine gN [0] b5 ?_;simp;refine gN [0] b6 ?_;simp;exact fI [0] [1] (by simp[oz,encS])
  ·rw[aB q2];have x1:p.e=0:=by
    apply bC;intro x;exact q2 (.inl x)
   have x2:(iG L p).kind=1:=by
    apply bC;intro x;exact q2 (.inr (.inl x))
   have x3:N.kind=5:=by
    apply bC;intro x;exact q2 (.inr (.inr (.inl x)))
   have x4:N.text=bs [58]:=by
    apply bC;intro x;exact q2 (.inr (.inr (.inr x)))
   have hn:=hnx x1 x2;obtain⟨F0,hF0⟩:∃F0,uI L ex (L.length+1) [] [] p=F0:=⟨_,rfl⟩
   simp only;rw[hF0];simp[q1,hg,x1,x2,x3,x4,hn,hw,hnn];refine⟨by decide,?_⟩;refine⟨by decide,?_⟩;refine fU [.c 2 6,.c 2 7] ?_;simp
   refine fO gy hp (λx:Nat × List fE × List gp × PS=>uI L ex x.1 x.2.1 x.2.2.1 x.2.2.2=F0/\Tm L p x.2.2.2/\L.length<x.1+x.2.2.2.at'/\x.2.1.length=x.2.2.1.length/\x.2.1.length<=x.2.2.2.at')
    (λx=>[(0,.c (.ptr 0 0)),(3,.c (.ptr 2 0)),(4,.c (.ptr 3 0))])
    (λx=>[jk L x.2.2.2,.pin t 0,.box [.d (.int .i64 8),.d (.str (bs [])),.d (.int .i64 0),.d (.int .i64 (iG L q0).line),.d (.int .i64 (iG L q0).col),.d (.sl true 4 []),.msl 1 4 0 x.2.1.length,.msl 8 5 0 x.2.2.1.length],yS,.arr 1 ((encS x.2.1).map (·.map .d)),.arr 8 ((x.2.2.1.map gp.enc).map (·.map .d))])
    (λx=>x.1) (L.length+1,[],[],p) [0,1,2,3,5,6] ⟨hF0,Tm.refl h,by simp only;omega,rfl,by simp⟩ (by simp[encS,x1]) λ⟨n,ns,ks,q⟩ ⟨i1,i2,i3,i4,i5⟩=>?_
   unfold SG;simp only at i1 i2 i4 i5;have i3:L.length<n+q.at':=i3;have hlt:=i2.lt;obtain⟨n,rfl⟩:∃m,n=m+1:=⟨n-1,by omega⟩
   rw[uI]at i1;have e1:=lc hL hlt;have e2:=e1.trans (iw hL e1.lt (s:=bs [58]));have e3:=e2.trans (he _ e2.lt);have e4:=e3.trans (iW hL e3.lt (s:=bs [44]));have c1:=xJ q hlt hl;have c2:=ng hL (bs [58]) _ e1.lt hl;have c3:=He _ e2.lt (by rw[e2.deep,i2.deep,hd]);have c4:=lg (bs [44]) _ e3.lt hl;generalize (jB L q).1=s1 at*
   generalize (jB L q).2=q1' at*
   generalize jI L (bs [58]) q1'=q2' at*
   generalize (ex q2').1=k1 at*
   generalize (ex q2').2=q3' at*
   simp;refine gN [0] c1 ?_;simp;refine gN [0] c2 ?_;simp;refine gN [0] c3 ?_;simp;refine⟨by omega,by omega,?_⟩;refine gN [0] c4 ?_;by_cases q5:(iA L (bs [44]) q3').1=true
   ·rw[aC q5]at i1;have ha:=(take_at q5).1;have hb':=e3.le;simp[q5];refine fF (n,ns++[s1],ks++[k1],(iA L (bs [44]) q3').2) [0,1,2,3,7,8] ⟨i1,i2.trans e4,by simp only;omega,by simp[i4],by simp;omega⟩ (by simp) ?_;simp;exact⟨aG (by simp),aG (by simp)⟩
   ·rw[aB q5,lH q5]at i1;rw[<-i1];have c5:=ng hL (bs [125]) _ e3.lt hl;rw[lH q5];rw[aK]at q5;simp[q5];refine fT [7,8] ?_;have k1':take ns.length (List.map (λx=>List.map AC.d x) (encS ns))=List.map (λx=>List.map AC.d x) (encS ns):=aG (by simp);have k2':take ks.length (List.map ((λx=>List.map AC.d x)∘gp.enc) ks)=List.map ((λx=>List.map AC.d x)∘gp.enc) ks:=aG (by simp);simp[iV,k1',k2'];refine gN [0] c5 ?_;simp[iV,k1',k2'];have z1:D.erdE (take (ns.length+1) (encS ns++[[D.str s1]]))=encS ns++[[D.str s1]]:=by
     rw[aG (by simp)];simpa only[Si,Sj]using AB (ns++[s1])
    have z2:D.erdE (take (ks.length+1) (ks.map gp.enc++[k1.enc]))=ks.map gp.enc++[k1.enc]:=by
     rw[aG (by simp)];simpa using zID (ks++[k1])
    exact fI [0] [1] (by simp[oz,iV,k1',k2',z1,z2])
end
theorem uL(s:fE):s.data.toList.length=s.size:=by rw[cB];try rfl
theorem xL{s:fE}{j:Nat}(h:j<s.data.toList.length):s.data[j]?=some s.data.toList[j]:=by
 simp at h⊢
theorem wrap_u64{n:Int}(h1:0<=n)(h2:n<=18446744073709551615):IntKind.u64.wrap n=n:=KC (by simpa[IntKind.min,IntKind.bits,IntKind.signed]using h1) (by simpa[IntKind.max,IntKind.bits,IntKind.signed]using h2)
theorem wrap_u8{n:Int}(h1:0<=n)(h2:n<=255):IntKind.u8.wrap n=n:=KC (by simpa[IntKind.min,IntKind.bits,IntKind.signed]using h1) (by simpa[IntKind.max,IntKind.bits,IntKind.signed]using h2)
theorem zGW(j:Nat):10^(j+1)=10*10^j:=by rw[Nat.pow_succ];omega
theorem Sz(s:fE):gU Pg 176 [.one (.str s)] (.tup [.one (.int .i64 (xC s).1),.one (.bool (xC s).2)]):=by
 refine zB3 (by simp) λo c hN hp=>?_;have hs:s.size<=zah:=by have:=o.1;simpa only[DV.ok,D.ok]using this
 unfold zah at hs;have hlen:=uL s;unfold RQ;by_cases h0:s.size=0
 ·have e:xC s=(0,false):=by unfold xC BI;rw[aC (by left;omega)]
  have h0':(s.size:Int)=0:=by omega
  rw[e];simp[h0,h0']
 by_cases h19:19<s.size
 ·have e:xC s=(0,false):=by unfold xC BI;rw[aC (by right;left;omega)]
  have h0':¬(s.size:Int)=0:=by omega
  have h19':(19:Int)<s.size:=by omega
  rw[e];simp[h0,h0',h19']
 have h0':¬(s.size:Int)=0:=by omega
 have h19':¬(19:Int)<s.size:=by omega
 have hj0:0<s.data.toList.length:=by omega
 have hb0:=xL hj0;have hd0:s.data.toList.head?=some s.data.toList[0]:=by
  rw[head?_eq_getElem?,aA hj0]
 generalize hB:s.data.toList[0]=b0 at hb0 hd0;by_cases hz:b0=48/\1<s.size
 ·have e:xC s=(0,false):=by unfold xC BI;rw[aC (by right;right;rw[hd0,hz.1];exact⟨rfl,by omega⟩)]
  have h1:(1:Int)<s.size:=by omega
  rw[e];simp[h0,h0',h19',hb0,hz.1,h1]
 have hz':¬((b0.toNat:Int)=48/\(1:Int)<s.size):=by
  rintro⟨x,y⟩
  exact hz ⟨by apply dY.mp;simpa using (by omega:b0.toNat=48),by omega⟩
 have e:xC s=match uG s.data.toList 0 with
  |none=>(0,false)
  |some n=>if 9223372036854775807<n then(0,false)else((n:Int),true):=by
  unfold xC BI;have hn:¬(s.data.toList.length=0\/19<s.data.toList.length\/(s.data.toList.head?=some 48/\1<s.data.toList.length)):=by
   rintro(x|x|⟨x,y⟩)
   ·omega
   ·omega
   ·rw[hd0]at x;exact hz ⟨by simpa using x,by omega⟩
  rw[aB hn];cases uG s.data.toList 0<;>rfl
 rw[e];have hgo:∀K:Prop,K=K:=λ_=>rfl;by_cases q1:(b0.toNat:Int)=48<;>by_cases q2:(1:Int)<s.size
 ·exact absurd ⟨q1,q2⟩ hz'
 all_goals
  simp[h0,h0',h19',hb0,q1,q2];refine fO gy hp (λx:Nat × Nat=>x.1<=s.size/\x.2<10^x.1/\uG (s.data.toList.drop x.1) x.2=uG s.data.toList 0) (λx=>[(0,.c (.d (.str s))),(4,.c (.d (.int .u64 x.2))),(5,.c (.d (.int .i64 x.1)))]) (λ_=>[]) (λx=>s.size-x.1) (0,0) [] ⟨by simp,by simp,by simp⟩ (by simp) λ⟨j,n⟩ ⟨i1,i2,i3⟩=>?_;unfold RP;simp only at i1 i2 i3;simp;apply gM<;>intro h
  ·have hj:j<s.size:=by simpa using h
   have hj':j<s.data.toList.length:=by omega
   rw[aD hj',uG]at i3;have hb:=xL hj';generalize s.data.toList[j]=b at i3 hb;by_cases d1:(b.toNat:Int)<48
   ·have hd:¬jv b=true:=by unfold jv ow;simp;omega
    rw[aB hd]at i3;rw[<-i3];simp[hb,d1]
   ·by_cases d2:(57:Int)<b.toNat
    ·have hd:¬jv b=true:=by unfold jv ow;simp;omega
     rw[aB hd]at i3;rw[<-i3];simp[hb,d1,d2]
    ·have hd:jv b=true:=by unfold jv ow;simp;omega
     rw[aC hd]at i3;have hpw:10^(j+1)<=10^19:=Nat.pow_le_pow_right (by omega) (by omega);have hps:=zGW j;have w1:IntKind.u64.wrap (10*(n:Int))=((10*n:Nat):Int):=by rw[wrap_u64 (by omega) (by omega)];omega
     have w2:IntKind.u8.wrap ((b.toNat:Int)-48)=((b.toNat-48:Nat):Int):=by rw[wrap_u8 (by omega) (by omega)];omega
     have w3:IntKind.u64.wrap (((b.toNat-48:Nat):Int))=((b.toNat-48:Nat):Int):=by rw[wrap_u64 (by omega) (by omega)]
     have w4:IntKind.u64.wrap (((10*n:Nat):Int)+((b.toNat-48:Nat):Int))=((10*n+(b.toNat-48):Nat):Int):=by rw[wrap_u64 (by omega) (by omega)];omega
     simp[hb,d1,d2];refine fF (j+1,10*n+(b.toNat-48)) [] ⟨by simp only;omega,by simp only;omega,i3⟩ (by simp only;omega) ?_;simp only[w1,w2,w3,w4];simp;exact wI
  ·have hj:j=s.size:=by simp at h;omega
   subst hj;rw[bE (by omega),uG]at i3;rw[<-i3];simp only;have hpw:10^s.size<=10^19:=Nat.pow_le_pow_right (by omega) (by omega);by_cases hm:9223372036854775807<n
   ·have hm':(9223372036854775807:Int)<n:=by omega
    rw[aC hm];simp[hm,hm']
   ·have hm':¬(9223372036854775807:Int)<n:=by omega
    rw[aB hm];simp[hm,hm'];exact wI
end Go.Gr
namespace Go.Gr
open Go.Abs Go.Proofs
section
variable {L:List Tok}
theorem zG5(hL:jC L)(hl:L.length<=10000){d:Nat}{ki:PS->gT × PS}{ex:PS->gp × PS}(hk:gz L ki)(Hk:pu L d ki)(he:gz L ex)(He:nM L 126 d ex):
  nM L 227 d (xG L ki ex):=by
 intro p h hd;refine zDL mX λts hts ok hb c hN hp=>?_;obtain⟨t,rfl⟩:=mD hts;have a0:=Dn (L:=L) 2 p h;have hg:=zI h;have hw:IntKind.i64.wrap ((p.at':Int)+1)=((p.at'+1:Nat):Int):=by rw[wI];omega
 have hpz:=Sz (iG L p).text;unfold SC xG Em;simp only;by_cases c1:p.e=0/\(iG L p).kind=3
 ·rw[aC c1];obtain⟨x1,x2⟩:=c1;simp;refine gN [0] a0 ?_;simp[hg,x1,x2,hw];refine⟨by decide,?_⟩;refine gQ hpz ?_;simp;exact fI [0] [1] (by simp[oz,encS,x1])
 rw[aB c1];by_cases c2:p.e=0/\(iG L p).kind=4
 ·rw[aC c2];obtain⟨x1,x2⟩:=c2;simp;refine gN [0] a0 ?_;simp[hg,x1,x2,hw];refine⟨by decide,?_⟩;exact fI [0] [1] (by simp[oz,encS,x1])
 rw[aB c2];have d1:=lg CZ p h hl;have d2:=lg C8 p h hl;have d3:=lg C9 p h hl;have d4:=lg yO p h hl;have d5:=lg xn p h hl;have d6:=lg (bs [40]) p h hl;have d7:=lg (bs [123]) p h hl;have d8:=xJ p h hl;have n1:p.e=0->¬(iG L p).kind=3:=λx y=>c1 ⟨x,y⟩;have n2:p.e=0->¬(iG L p).kind=4:=λx y=>c2 ⟨x,y⟩;simp;refine gN [0] a0 ?_;by_cases x:p.e=0;simp[hg,x,n1 x,n2 x];rotate_left;simp[hg,x]
 all_goals
  refine⟨by decide,?_⟩;refine gP [0] d1 (by simp[x]) ?_;by_cases q1:(iA L CZ p).1=true
  ·rw[aC q1];simp[q1];exact fI [0] [1] (by simp[oz,encS])
  rw[aB q1,lH q1];rw[aK]at q1;simp[q1];refine gN [0] d2 ?_;by_cases q2:(iA L C8 p).1=true
  ·rw[aC q2];simp[q2];exact fI [0] [1] (by simp[oz,encS])
  rw[aB q2,lH q2];rw[aK]at q2;simp[q2];refine gN [0] d3 ?_;by_cases q3:(iA L C9 p).1=true
  ·rw[aC q3];simp[q3];exact fI [0] [1] (by simp[oz,encS])
  rw[aB q3,lH q3];rw[aK]at q3;simp[q3];refine gN [0] d4 ?_;by_cases q4:(iA L yO p).1=true
  ·rw[aC q4];have t1:=iW hL h (s:=yO);have t2:=t1.trans (iw hL t1.lt (s:=bs [40]));have b1:=ng hL (bs [40]) _ t1.lt hl;have b2:=ng hL (bs [41]) _ t2.lt hl;generalize (iA L yO p).2=p1 at*
   generalize jI L (bs [40]) p1=p2 at*
   generalize jI L (bs [41]) p2=p3 at*
   simp[q4];refine gN [0] b1 ?_;simp;refine gN [0] b2 ?_;simp;exact fI [0] [1] (by simp[oz,encS])
  rw[aB q4,lH q4];rw[aK]at q4;simp[q4];refine gN [0] d5 ?_;by_cases q5:(iA L xn p).1=true
  ·rw[aC q5];have t1:=iW hL h (s:=xn);have t2:=t1.trans (iw hL t1.lt (s:=bs [40]));have t3:=t2.trans (he _ t2.lt);have b1:=ng hL (bs [40]) _ t1.lt hl;have b2:=He _ t2.lt (by rw[t2.deep,hd]);have b3:=ng hL (bs [41]) _ t3.lt hl;generalize (iA L xn p).2=p1 at*
   generalize jI L (bs [40]) p1=p2 at*
   generalize (ex p2).1=A at*
   generalize (ex p2).2=p3 at*
   generalize jI L (bs [41]) p3=p4 at*
   simp[q5];refine gN [0] b1 ?_;simp;refine gN [0] b2 ?_;simp;refine gN [0] b3 ?_;simp;exact fI [0] [1] (by simp[oz,encS])
  rw[aB q5,lH q5];rw[aK]at q5;simp[q5];refine gN [0] d6 ?_;by_cases q6:(iA L (bs [40]) p).1=true
  ·rw[aC q6];have t1:=iW hL h (s:=bs [40]);have t2:=t1.trans (he _ t1.lt);have b1:=He _ t1.lt (by rw[t1.deep,hd]);have b2:=ng hL (bs [41]) _ t2.lt hl;generalize (iA L (bs [40]) p).2=p1 at*
   generalize (ex p1).1=A at*
   generalize (ex p1).2=p2 at*
   generalize jI L (bs [41]) p2=p3 at*
   simp[q6];refine gN [0] b1 ?_;simp;refine gN [0] b2 ?_;simp;exact fK [0] [1]
  rw[aB q6,lH q6];rw[aK]at q6;simp[q6];refine gN [0] d7 ?_;by_cases q7:(iA L (bs [123]) p).1=true
  ·rw[aC q7];have t1:=iW hL h (s:=bs [123]);have b1:=zDO hL hl he He 2 p _ t1.lt (by rw[t1.deep,hd]);generalize (iA L (bs [123]) p).2=p1 at*
   generalize (vL L ex p p1).1=A at*
   generalize (vL L ex p p1).2=p2 at*
   simp[q7];refine gN [0] b1 ?_;simp;exact fK [0] [1]
  rw[aB q7,lH q7];rw[aK]at q7;have t1:=lc hL h;have b1:=lg (bs [91]) _ t1.lt hl;generalize (jB L p).1=s1 at*
  generalize (jB L p).2=p1 at*
  simp[q7];refine gN [0] d8 ?_;simp;refine gN [0] b1 ?_;by_cases q8:(iA L (bs [91]) p1).1=true
  ·rw[aC q8];have t2:=t1.trans (iW hL t1.lt (s:=bs [91]));have b2:=zE6 hL hl hk Hk _ t2.lt (by rw[t2.deep,hd]);generalize (iA L (bs [91]) p1).2=p2 at*
   generalize (wO L ki (L.length+1) [] p2).1=T at*
   generalize (wO L ki (L.length+1) [] p2).2=p3 at*
   simp[q8];refine gN [0] b2 ?_;simp;exact fI [0] [1] (by simp[oz,encS])
  rw[aB q8,lH q8];rw[aK]at q8;simp[q8];exact fI [0] [1] (by simp[oz,encS])
theorem TA(hL:jC L)(hl:L.length<=10000):∀(n:Nat) (d:Nat),d<=100->101<=d+n->nM L 126 d (uJ L (ui L) n).1/\nM L 191 d (uJ L (ui L) n).2
|0,d,h1,h2=>by omega
| n+1,d,h1,h2=>by
 have hk:gz L (ui L):=LH hL 102;have ht:=Et hL hk n;have htn:=Et hL hk (n+1);rw[uJ]at htn⊢;by_cases hd:d=100
 ·subst hd;have hr:=Er hL hk ht.2;refine⟨λp h hdp=>?_,λp h hdp=>?_⟩
  ·exact Sy hL hl (LJ hL hk ht.1 hr.2.2.2.2.2) p h (by omega) (λq=>absurd q (by omega))
  ·exact Sw hL hl hk ht.1 ht.2 p h (by omega) (λq=>absurd q (by omega)) (λq=>absurd q (by omega))
 ·have ih:=TA hL hl n (d+1) (by omega) (by omega);have Hk:pu L (d+1) (ui L):=λr hr hd=>LU hL hl 102 r hr (by omega) (by omega);have Ha:=zG5 hL hl hk Hk ht.1 ih.1;have Hp:=zGL hL hl (IG hL hk ht.1) Ha ht.1 ih.1;have H6:=zEO ih.2;have hr:=Er hL hk ht.2;have H5:=Ew hL hl (k:=5) (by decide) (by decide) ht.2 H6;have H4:=Ew hL hl (k:=4) (by decide) (by decide) hr.1 H5;have H3:=Ew hL hl (k:=3) (by decide) (by decide) hr.2.1 H4;have H2:=zEP (zHI hL hl hk Hk hr.2.2.1 H3);have H1:=Ew hL hl (k:=1) (by decide) (by decide) hr.2.2.2.1 H2;have H0:=Ew hL hl (k:=0) (by decide) (by decide) hr.2.2.2.2.1 H1;refine⟨λp h hdp=>?_,λp h hdp=>?_⟩
  ·subst hdp;exact Sy hL hl (LJ hL hk ht.1 hr.2.2.2.2.2) p h (by omega) (λ_ q hq hdq=>zF9 hL hl hk Hk ht.1 ih.1 H0 q hq hdq)
  ·subst hdp;exact Sw hL hl hk ht.1 ht.2 p h (by omega) (λ_=>ih.2) (λ_=>Hp)
end
end Go.Gr
