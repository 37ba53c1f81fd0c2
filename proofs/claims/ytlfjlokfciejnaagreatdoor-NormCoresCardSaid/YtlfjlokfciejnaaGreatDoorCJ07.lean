/- Texts of ours, joined and written short by a program of ours. -/
import Derived.Test.YtlfjlokfciejnaaGreatDoorCJ06
set_option maxRecDepth 20000
set_option maxHeartbeats 4000000
set_option linter.unusedVariables false
set_option linter.unusedSimpArgs false
namespace Go.Gr
open Go.Abs Go.Proofs
section
variable {L:List Tok}
def iD{α:Type}(L:List Tok)(f:PS->α × PS):Prop:=∀p,p.at'<L.length->Tm L p (f p).2
theorem FT(hL:jL L):∀(l:List fI) (i:Nat) {p q:PS} {k:Nat},p.at'<L.length->vP L i l p=some (k,q)->Tm L p q/\p.at'<q.at'/\p.e=0/\k<i+l.length
|[],_,_,_,_,_,h=>by rw[vP]at h;cases h
| s::l,i,p,q,k,hp,h=>by
 rw[vP]at h;split at h
 ·rename_i c;simp only[af,bV]at h;obtain⟨rfl,rfl⟩:=h;have:=take_at c;exact⟨iw hL hp,by omega,this.2,by simp⟩
 ·have:=FT hL l (i+1) hp h;simp only[List.length_cons];exact⟨this.1,this.2.1,this.2.2.1,by omega⟩
theorem Cz(hL:jL L):∀(l:List fI) {p q:PS} {k:fI},p.at'<L.length->xL L l p=some (k,q)->Tm L p q/\p.at'<q.at'/\p.e=0
|[],_,_,_,_,h=>by rw[xL]at h;cases h
| s::l,p,q,k,hp,h=>by
 rw[xL]at h;split at h
 ·rename_i c;simp only[af,bV]at h;obtain⟨rfl,rfl⟩:=h;have:=take_at c;exact⟨iw hL hp,by omega,this.2⟩
 ·exact Cz hL l hp h
theorem UT(hL:jL L){ki:PS->gq × PS}(hk:iD L ki):∀(n:Nat) (ns:List fI) (ks:List gq),iD L (AY L ki n ns ks)
|0,ns,ks,p,hp=>Tm.refl hp
|n+1,ns,ks,p,hp=>by
 have h1:=mE hL hp;have h2:=h1.trans (jH hL h1.lt (s:=bs [58]));have h3:=h2.trans (hk _ h2.lt);have h4:=h3.trans (iw hL h3.lt (s:=bs [44]));rw[AY];split
 ·exact h4.trans (UT hL hk n _ _ _ h4.lt)
 ·exact h4
theorem zGO(hL:jL L){ki:PS->gq × PS}(hk:iD L ki):iD L (FL L ki):=λp hp=>by
 unfold FL;by_cases c1:(iG L (bs [40]) p).1=true
 ·rw[aC c1];have h1:=iw hL hp (s:=bs [40]);have h2:=h1.trans (hk _ h1.lt);exact h2.trans (jH hL h2.lt)
 rw[aB c1];by_cases c2:(iG L (bs [123]) p).1=true
 ·rw[aC c2];have h1:=iw hL hp (s:=bs [123]);by_cases c3:(iG L (bs [125]) (iG L (bs [123]) p).2).1=true
  ·rw[aC c3];exact h1.trans (iw hL h1.lt)
  ·rw[aB c3];have h2:=h1.trans (UT hL hk (L.length+1) [] [] _ h1.lt);exact h2.trans (jH hL h2.lt)
 rw[aB c2];exact mE hL hp
theorem FU(hL:jL L){ki:PS->gq × PS}(hk:iD L ki):iD L (rX L ki):=λp hp=>by
 unfold rX;cases e:vP L 0 xK p with
 |some x=>exact(FT hL _ _ hp e).1
 |none=>exact zGO hL hk p hp
theorem UU(hL:jL L){ki:PS->gq × PS}(hk:iD L ki):∀(n:Nat) (l:List gq),iD L (rY L ki n l)
|0,l,p,hp=>Tm.refl hp
| n+1,l,p,hp=>by
 rw[rY];split
 ·have h1:=iw hL hp (s:=bs [124]);have h2:=h1.trans (FU hL hk _ h1.lt);exact h2.trans (UU hL hk n _ _ h2.lt)
 ·exact Tm.refl hp
theorem UV(hL:jL L){ki:PS->gq × PS}(hk:iD L ki):iD L (qi L ki):=λp hp=>by
 have h1:=FU hL hk p hp;unfold qi;exact h1.trans (UU hL hk (L.length+1) _ _ h1.lt)
theorem Ij{p:PS}(h:¬(jT L p).1=true):(jT L p).2=yY L p:=by
 unfold jT at h⊢;split
 ·rfl
 ·rename_i q;rw[aB q]at h;exact absurd rfl h
theorem zS{p:PS}(h:(jT L p).1=true):(jT L p).2={p with deep:=p.deep+1}/\p.deep<100/\p.e=0:=by
 unfold jT at h⊢;split
 ·rename_i q;rw[aC q]at h;cases h
 ·rename_i q;have hd:p.deep<100:=by
   rcases aW p.deep 100 with r|r
   ·exact r
   ·exfalso;apply q;unfold yY;rw[aC r];exact FR (by decide)
  have e:yY L p=p:=by unfold yY;rw[aB (by omega)]
  rw[e]at q⊢;exact⟨rfl,hd,by simpa using q⟩
theorem MP{α:Type}{p:PS}{x:α × PS}(h:(jT L p).1=true)(hp:p.at'<L.length)(k:Tm L (jT L p).2 x.2):Tm L p (uS x).2:=by
 obtain⟨e,_,h0⟩:=zS h;rw[e]at k;have hd:=k.deep;simp only at hd;exact⟨by simp only[uS];omega,k.le,k.lt,λx=>absurd h0 x⟩
theorem zGP(hL:jL L){ki:PS->gq × PS}(hk:iD L ki):iD L (FM L ki):=λp hp=>by
 have h1:=UV hL hk p hp;have h2:=h1.trans (iw hL h1.lt (s:=bs [45,62]));unfold FM;by_cases c2:(iG L (bs [45,62]) (qi L ki p).2).1=true
 ·show Tm L p (if(iG L (bs [45,62]) (qi L ki p).2).1=true then _ else _:gq × PS).2;rw[aC c2];exact h2.trans (hk _ h2.lt)
 ·show Tm L p (if(iG L (bs [45,62]) (qi L ki p).2).1=true then _ else _:gq × PS).2;rw[aB c2];exact h2
theorem MQ(hL:jL L)(d:Nat):iD L (wS L d):=by
 induction d with
 |zero=>exactλp hp=>Tm.refl hp
 | succ d ih=>
  intro p hp;rw[wS];show Tm L p (if(jT L p).1=true then _ else _:gq × PS).2;by_cases c:(jT L p).1=true
  ·rw[aC c];have hp':(jT L p).2.at'<L.length:=by rw[(zS c).1];exact hp
   exact MP c hp (zGP hL ih _ hp')
  ·rw[aB c,Ij c];exact Ii hp
theorem zT(hL:jL L){ki:PS->gq × PS}(hk:iD L ki):iD L (qD L ki):=λp hp=>by
 unfold qD;split
 ·have h1:=iw hL hp (s:=bs [58]);exact h1.trans (hk _ h1.lt)
 ·exact Tm.refl hp
theorem Bf(hL:jL L){ki:PS->gq × PS}(hk:iD L ki):iD L (rZ L ki):=λp hp=>by
 unfold rZ;have h1:=jH hL hp (s:=bs [40]);have h2:=h1.trans (mE hL h1.lt);have h3:=h2.trans (zT hL hk _ h2.lt);have h4:=h3.trans (jH hL h3.lt (s:=bs [41]));exact h4.trans (zT hL hk _ h4.lt)
theorem MS(hL:jL L){ki:PS->gq × PS}{ex rk:PS->gz × PS}(hk:iD L ki)(he:iD L ex)(hr:iD L rk):iD L (zQ L ki ex rk):=λp hp=>by
 unfold zQ;split
 ·have h1:=iw hL hp (s:=tC);have h2:=h1.trans (mE hL h1.lt);have h3:=h2.trans (zT hL hk _ h2.lt);have h4:=h3.trans (jH hL h3.lt (s:=bs [61]));have h5:=h4.trans (he _ h4.lt);have h6:=h5.trans (jH hL h5.lt (s:=bs [59]));exact h6.trans (he _ h6.lt)
 ·split
  ·have h1:=iw hL hp (s:=AZ);have h2:=h1.trans (he _ h1.lt);have h3:=h2.trans (jH hL h2.lt (s:=Cn));have h4:=h3.trans (he _ h3.lt);have h5:=h4.trans (jH hL h4.lt (s:=Co));exact h5.trans (he _ h5.lt)
  ·split
   ·have h1:=iw hL hp (s:=uD);have h2:=h1.trans (Bf hL hk _ h1.lt);have h3:=h2.trans (jH hL h2.lt (s:=bs [61,62]));exact h3.trans (he _ h3.lt)
   ·exact hr p hp
theorem EP(hL:jL L){rk:PS->gz × PS}(hr:iD L rk)(signs:List fI):∀(n:Nat) (a:gz),iD L (kg L rk signs n a)
|0,a,p,hp=>Tm.refl hp
| n+1,a,p,hp=>by
 rw[kg];split
 ·exact Tm.refl hp
 ·rename_i s q h;have h1:=(Cz hL _ hp h).1;have h2:=h1.trans (hr _ h1.lt);exact h2.trans (EP hL hr signs n _ _ h2.lt)
theorem zIQ(hL:jL L){ki:PS->gq × PS}{rk:PS->gz × PS}(hk:iD L ki)(hr:iD L rk):iD L (rf L ki rk):=λp hp=>by
 have h0:=hr p hp;unfold rf;simp only;split
 ·rename_i s q h;have h1:=h0.trans (Cz hL _ h0.lt h).1;exact h1.trans (hr _ h1.lt)
 ·split
  ·have h1:=h0.trans (iw hL h0.lt (s:=bs [97,115]));exact h1.trans (hk _ h1.lt)
  ·split
   ·have h1:=h0.trans (iw hL h0.lt (s:=bs [105,115]));split
    ·rename_i i q h;exact h1.trans (FT hL _ _ h1.lt h).1
    ·exact h1.trans (EO h1.lt)
   ·exact h0
theorem FV(hL:jL L){ki:PS->gq × PS}{un:PS->gz × PS}(hk:iD L ki)(hu:iD L un):iD L (Cq L un)/\iD L (Cr L un)/\iD L (FN L un)/\iD L (Cs L ki un)/\iD L (Ct L ki un)/\iD L (FO L ki un):=by
 have h5:iD L (Cq L un):=λp hp=>(hu p hp).trans (EP hL hu _ _ _ _ (hu p hp).lt);have h4:iD L (Cr L un):=λp hp=>(h5 p hp).trans (EP hL h5 _ _ _ _ (h5 p hp).lt);have h3:iD L (FN L un):=λp hp=>(h4 p hp).trans (EP hL h4 _ _ _ _ (h4 p hp).lt);have h2:iD L (Cs L ki un):=zIQ hL hk h3;have h1:iD L (Ct L ki un):=λp hp=>(h2 p hp).trans (EP hL h2 _ _ _ _ (h2 p hp).lt);have h0:iD L (FO L ki un):=λp hp=>(h1 p hp).trans (EP hL h1 _ _ _ _ (h1 p hp).lt);exact⟨h5,h4,h3,h2,h1,h0⟩
theorem MU(hL:jL L){ki:PS->gq × PS}(hk:iD L ki):∀(n:Nat) (l:List gq),iD L (wU L ki n l)
|0,l,p,hp=>Tm.refl hp
|n+1,l,p,hp=>by
 have h1:=hk p hp;have h2:=h1.trans (iw hL h1.lt (s:=bs [44]));rw[wU];split
 ·exact h2.trans (MU hL hk n _ _ h2.lt)
 ·exact h2.trans (jH hL h2.lt)
theorem FW(hL:jL L){ex:PS->gz × PS}(he:iD L ex):∀(n:Nat) (ns:List fI) (ks:List gz),iD L (uT L ex n ns ks)
|0,ns,ks,p,hp=>Tm.refl hp
|n+1,ns,ks,p,hp=>by
 have h1:=mE hL hp;have h2:=h1.trans (jH hL h1.lt (s:=bs [58]));have h3:=h2.trans (he _ h2.lt);have h4:=h3.trans (iw hL h3.lt (s:=bs [44]));rw[uT];split
 ·exact h4.trans (FW hL he n _ _ _ h4.lt)
 ·exact h4
theorem zFb(hL:jL L){ex:PS->gz × PS}(he:iD L ex)(q:PS):iD L (vQ L ex q):=λp hp=>by
 unfold vQ;split
 ·exact iw hL hp
 ·split
  ·have h1:=he p hp;have h2:=h1.trans (jH hL h1.lt (s:=Cu));have h3:=h2.trans (mE hL h2.lt);have h4:=h3.trans (jH hL h3.lt (s:=bs [58]));have h5:=h4.trans (he _ h4.lt);exact h5.trans (jH hL h5.lt)
  ·have h1:=FW hL he (L.length+1) [] [] p hp;exact h1.trans (jH hL h1.lt)
theorem UW(hL:jL L){p:PS}(hp:p.at'<L.length)(h:p.e=0/\(iL L p).kind≠0):Tm L p {p with at':=p.at'+1}:=
⟨rfl,by simp,hL.mid _ hp h.2,λx=>absurd h.1 x⟩
theorem Ik(hL:jL L){ki:PS->gq × PS}{ex:PS->gz × PS}(hk:iD L ki)(he:iD L ex):iD L (xN L ki ex):=λp hp=>by
 unfold xN;by_cases c1:p.e=0/\(iL L p).kind=3
 ·rw[aC c1];exact UW hL hp ⟨c1.1,by omega⟩
 rw[aB c1];by_cases c2:p.e=0/\(iL L p).kind=4
 ·rw[aC c2];exact UW hL hp ⟨c2.1,by omega⟩
 rw[aB c2];by_cases c3:(iG L Cv p).1=true
 ·rw[aC c3];exact iw hL hp
 rw[aB c3];by_cases c4:(iG L Cw p).1=true
 ·rw[aC c4];exact iw hL hp
 rw[aB c4];by_cases c5:(iG L Cx p).1=true
 ·rw[aC c5];exact iw hL hp
 rw[aB c5];by_cases c6:(iG L yZ p).1=true
 ·rw[aC c6];have h1:=iw hL hp (s:=yZ);have h2:=h1.trans (jH hL h1.lt (s:=bs [40]));exact h2.trans (jH hL h2.lt)
 rw[aB c6];by_cases c7:(iG L yC p).1=true
 ·rw[aC c7];have h1:=iw hL hp (s:=yC);have h2:=h1.trans (jH hL h1.lt (s:=bs [40]));have h3:=h2.trans (he _ h2.lt);exact h3.trans (jH hL h3.lt)
 rw[aB c7];by_cases c8:(iG L (bs [40]) p).1=true
 ·rw[aC c8];have h1:=iw hL hp (s:=bs [40]);have h2:=h1.trans (he _ h1.lt);exact h2.trans (jH hL h2.lt)
 rw[aB c8];by_cases c9:(iG L (bs [123]) p).1=true
 ·rw[aC c9];have h1:=iw hL hp (s:=bs [123]);exact h1.trans (zFb hL he p _ h1.lt)
 rw[aB c9];have h1:=mE hL hp;by_cases c10:(iG L (bs [91]) (jK L p).2).1=true
 ·have h2:=h1.trans (iw hL h1.lt (s:=bs [91]));have h3:=h2.trans (MU hL hk (L.length+1) [] _ h2.lt);show Tm L p (if(iG L (bs [91]) (jK L p).2).1=true then _ else _:gz × PS).2;rw[aC c10];exact h3
 ·show Tm L p (if(iG L (bs [91]) (jK L p).2).1=true then _ else _:gz × PS).2;rw[aB c10];exact h1
theorem MV(hL:jL L){ex:PS->gz × PS}(he:iD L ex):∀(n:Nat) (a:gz),iD L (tF L ex n a)
|0,a,p,hp=>Tm.refl hp
| n+1,a,p,hp=>by
 rw[tF];split
 ·have h1:=iw hL hp (s:=bs [40]);have h2:=h1.trans (he _ h1.lt);have h3:=h2.trans (jH hL h2.lt (s:=bs [41]));exact h3.trans (MV hL he n _ _ h3.lt)
 ·split
  ·have h1:=iw hL hp (s:=bs [46]);have h2:=h1.trans (mE hL h1.lt);exact h2.trans (MV hL he n _ _ h2.lt)
  ·exact Tm.refl hp
theorem UX(hL:jL L){ki:PS->gq × PS}{ex:PS->gz × PS}(hk:iD L ki)(he:iD L ex):iD L (Cy L ki ex):=λp hp=>by
 have h1:=Ik hL hk he p hp;unfold Cy;exact h1.trans (MV hL he _ _ _ h1.lt)
theorem zGQ(hL:jL L){ki:PS->gq × PS}{ex un:PS->gz × PS}(hk:iD L ki)(he:iD L ex)(hu:iD L un):iD L (zR L ki ex un):=λp hp=>by
 unfold zR;split
 ·have h1:=iw hL hp (s:=bs [45]);exact h1.trans (hu _ h1.lt)
 ·split
  ·have h1:=iw hL hp (s:=tH);exact h1.trans (hu _ h1.lt)
  ·exact UX hL hk he p hp
theorem FX(hL:jL L){ki:PS->gq × PS}(hk:iD L ki)(d:Nat):iD L (uU L ki d).1/\iD L (uU L ki d).2:=by
 induction d with
 |zero=>exact⟨λp hp=>Tm.refl hp,λp hp=>Tm.refl hp⟩
 | succ d ih=>
  rw[uU];refine⟨λp hp=>?_,λp hp=>?_⟩
  ·show Tm L p (if(jT L p).1=true then _ else _:gz × PS).2;by_cases c:(jT L p).1=true
   ·rw[aC c];have hp':(jT L p).2.at'<L.length:=by rw[(zS c).1];exact hp
    exact MP c hp (MS hL hk ih.1 (FV hL hk ih.2).2.2.2.2.2 _ hp')
   ·rw[aB c,Ij c];exact Ii hp
  ·show Tm L p (if(jT L p).1=true then _ else _:gz × PS).2;by_cases c:(jT L p).1=true
   ·rw[aC c];have hp':(jT L p).2.at'<L.length:=by rw[(zS c).1];exact hp
    exact MP c hp (zGQ hL hk ih.1 ih.2 _ hp')
   ·rw[aB c,Ij c];exact Ii hp
end
theorem mF{ts:List (Nat × Nat)}{b:Blk}(h:ts.length=[b].length):∃t,ts=[t]:=by
 match ts,h with
 |[t],_=>exact⟨t,rfl⟩
abbrev kE(L:List Tok)(p:PS):Blk:=.box [.d (.sl false 4 (L.map Tok.enc)),.d (.int .i64 p.at'),.d (.int .i64 p.deep),.d (.int .i64 p.e),.d (.int .i64 p.line),.d (.int .i64 p.col)]
section
variable {L:List Tok}
theorem zU{p:PS}(h:p.at'<L.length):L[p.at']?=some (iL L p):=by
 unfold iL;rw[aH,aA h];try rfl
theorem FY(e:Int)(p:PS)(h:p.at'<L.length):MCall Pg 127 [.c (.ptr 0 0),.c (.d (.int .i64 e))] [kE L p] (.tup []) [kE L (wR L e p)]:=by
 refine zDA nE λts hts ok hb c hN hp=>?_;obtain⟨t,rfl⟩:=mF hts;have hg:=zU h;unfold TZ wR;simp;apply gT<;>intro h0
 ·have h0:p.e=0:=by simpa using h0
  rw[aC h0];simp[hg];refine⟨by decide,?_⟩;exact fQ [0] [1]
 ·have h0:¬p.e=0:=by simpa using h0
  rw[aB h0];exact fQ [0] [1]
theorem zGG(s:fI)(p:PS)(h:p.at'<L.length):MCall Pg 155 [.c (.ptr 0 0),.c (.d (.str s))] [kE L p] (.c (.d (.bool (EM L s p)))) [kE L p]:=by
 refine zDB nE λts hts ok hb c hN hp=>?_;obtain⟨t,rfl⟩:=mF hts;have hg:=zU h;unfold T9 EM;generalize iL L p=T at*
 by_cases h0:p.e=0<;>by_cases h2:T.kind=2<;>by_cases h5:T.kind=5<;>simp[hg,h0,h2,h5];all_goals (refine⟨by decide,?_⟩)
 all_goals exact fT [0] [1] (by simp[h0,h2,h5])
theorem mG(s:fI)(p:PS)(h:p.at'<L.length)(hl:L.length<=10000):MCall Pg 120 [.c (.ptr 0 0),.c (.d (.str s))] [kE L p] (.c (.d (.bool (iG L s p).1))) [kE L (iG L s p).2]:=by
 refine zDC nE λts hts ok hb c hN hp=>?_;obtain⟨t,rfl⟩:=mF hts;have hs:=zGG s p h;unfold Ta iG;generalize EM L s p=b at*
 simp;refine gU [0] hs ?_;cases b with
 |true=>
  simp;exact fT [0] [1] (by simp;exact wI)
 |false=>
  simp;exact fQ [0] [1]
theorem oN(hL:jL L)(s:fI)(p:PS)(h:p.at'<L.length)(hl:L.length<=10000):MCall Pg 122 [.c (.ptr 0 0),.c (.d (.str s))] [kE L p] (.tup []) [kE L (jO L s p)]:=by
 refine zDD nE λts hts ok hb c hN hp=>?_;obtain⟨t,rfl⟩:=mF hts;have hs:=mG s p h hl;unfold Tc jO;by_cases q:(iG L s p).1=true
 ·rw[aC q];rw[q]at hs;simp;refine gU [0] hs ?_;simp;exact fQ [0] [1]
 ·rw[aB q];rw[lN q]at hs;rw[aL]at q;rw[q]at hs;have hf:=FY (L:=L) 7 p h;simp;refine gU [0] hs ?_;simp;refine gU [0] hf ?_;simp;exact fQ [0] [1]
theorem xQ(p:PS)(h:p.at'<L.length)(hl:L.length<=10000):MCall Pg 121 [.c (.ptr 0 0)] [kE L p] (.c (.d (.str (jK L p).1))) [kE L (jK L p).2]:=by
 refine zDE nE λts hts ok hb c hN hp=>?_;obtain⟨t,rfl⟩:=mF hts;have hg:=zU h;have hf:=FY (L:=L) 7 p h;unfold Td jK;generalize iL L p=T at*
 by_cases h0:p.e=0<;>by_cases h1:T.kind=1<;>simp[hg,h0,h1]
 ·refine⟨by decide,?_⟩;exact fT [0] [1] (by simp;exact wI)
 all_goals
  refine⟨by decide,?_⟩;refine gU [0] hf ?_;simp;exact fT [0] [1] (by simp[h0,h1])
theorem MW(p:PS)(h:p.at'<L.length)(hd:p.deep<=1000):MCall Pg 158 [.c (.ptr 0 0)] [kE L p] (.c (.d (.bool (jT L p).1))) [kE L (jT L p).2]:=by
 refine zB6 nE λts hts ok hb c hN hp=>?_;obtain⟨t,rfl⟩:=mF hts;have hf:=FY (L:=L) 6 p h;have hfd:(wR L 6 p).deep=p.deep:=(EO h).deep;have hff:(wR L 6 p).e≠0:=FR (by decide);unfold Te jT yY;by_cases h1:100<=p.deep
 ·have h1':(100:Int)<=p.deep:=by omega
  rw[aC h1,aC hff];simp[h1'];refine gU [0] hf ?_;simp[hff];exact fQ [0] [1]
 ·have h1':¬(100:Int)<=p.deep:=by omega
  rw[aB h1];by_cases h0:p.e=0
  ·rw[aB (by simp[h0])];simp[h1',h0];exact fT [0] [1] (by simp;exact wI)
  ·rw[aC h0];simp[h1',h0];exact fQ [0] [1]
end
end Go.Gr
namespace Go.Gr
open Go.Abs Go.Proofs List
@[simp] theorem zDs{α:Type}(f:Nat->Nat)(g:α->List D):AC.rens f∘((λx=>List.map AC.d x)∘g)=(λx=>List.map AC.d x)∘g:=by funext x;simp
@[simp] theorem UY(a b:List fI):encS (a++b)=encS a++encS b:=by simp[encS]
@[simp] theorem UZ(s:fI):encS [s]=[[.str s]]:=rfl
@[simp] theorem zGa:encS []=[]:=rfl
theorem A8:∀l:List fI,D.erdE (encS l)=encS l
|[]=>rfl
|s::l=>by
 have ih:=A8 l;simp only[encS,map_cons,D.erdE,D.erdL,D.erd]at ih⊢;rw[ih]
mutual
theorem gq.erdL:∀t:gq,D.erdL t.enc=t.enc
|.mk k n s l=>by
 simp only[gq.enc,D.erdL,D.erd,A8,gq.erdE l]
theorem gq.erdE:∀l:List gq,D.erdE (gq.encs l)=gq.encs l
|[]=>rfl
|t::l=>by simp only[gq.encs,D.erdE,gq.erdL t,gq.erdE l]
end
@[simp] theorem MZ(l:List gq):D.erdE (l.map gq.enc)=l.map gq.enc:=by rw[<-gq.encs_map];exact gq.erdE l
theorem U0:∀l:List D,(l.map AC.d).map AC.erd=(D.erdL l).map .d
|[]=>rfl
|d::l=>by simp only[map_cons,U0 l,D.erdL];rfl
attribute [simp] AV.erd AC.erd D.erd D.erdE D.erdL gq.erdL A8 gq.erdE
abbrev mY:Blk:=.box [.d (.int .i64 0),.d (.str (bs [])),.d (.sl true 1 []),.d (.sl true 4 [])]
def qJ(L:List Tok)(d:Nat)(ki:PS->gq × PS):Prop:=∀p:PS,p.at'<L.length->p.deep=d->MCall Pg 156 [.c (.ptr 0 0)] [kE L p] (.ag ((ki p).1.enc.map .d)) [kE L (ki p).2]
section
variable {L:List Tok}
theorem U1(hL:jL L)(hl:L.length<=10000){d:Nat}{ki:PS->gq × PS}(hk:iD L ki)(Hk:qJ L d ki)(p:PS)(h:p.at'<L.length)(hd:p.deep=d):
  MCall Pg 190 [.c (.ptr 0 0)] [kE L p] (.ag ((rX L ki p).1.enc.map .d)) [kE L (rX L ki p).2]:=by
 refine zDG nE λts hts ok hb c hN hp=>?_;obtain⟨t,rfl⟩:=mF hts;have hR:rX L ki p=rX L ki p:=rfl;generalize hR':rX L ki p=R at*
 unfold Tp;simp;refine fU iC hp (λj:Nat=>j<=5/\vP L j (xK.drop j) p=vP L 0 xK p) (λj=>[(4,.c (.d (.int .i64 j))),(3,.c (.d (.sl true 1 (encS xK)))),(0,.c (.ptr 0 0)),(2,.c (.ptr 2 0))]) (λj=>[kE L p,.pin t 0,mY]) (λj=>5-j) 0 [0,1,2] ⟨by simp,rfl⟩ (by simp[encS,xK]) λj ⟨h1,h2⟩=>?_;unfold Tk;have hbl:xK.length=5:=rfl;simp[hbl];apply gT<;>intro h5
 ·have hj:j<xK.length:=by simp at h5;omega
  have hj':j<5:=by omega
  rw[aF hj,vP]at h2;have hg:xK[j]?=some xK[j]:=aA hj;have ht:=mG xK[j] p h hl;generalize xK[j]=s at*
  simp[hg];refine gU [0] ht ?_;by_cases q:(iG L s p).1=true
  ·rw[aC q]at h2;have hr:R=(.mk j (bs []) [] [],(iG L s p).2):=by rw[<-hR'];unfold rX;rw[<-h2]
   rw[hr];simp[q];exact fO [0] [1] (by simp[gq.enc,gq.encs,encS])
  ·rw[aB q]at h2;rw[lN q];rw[aL]at q;simp[q];refine fJ (j+1) [0,1,2] ⟨by omega,h2⟩ (by omega) ?_;simp;exact wI
 ·have hj:j=5:=by simp at h5;omega
  subst hj;have h2:vP L 0 xK p=none:=by rw[<-h2];try rfl
  have ht:=mG (bs [40]) p h hl;have hr:R=FL L ki p:=by rw[<-hR'];unfold rX;rw[h2]
  rw[hr];unfold FL;simp;refine gU [0] ht ?_;by_cases q1:(iG L (bs [40]) p).1=true
  ·have t1:=iw hL h (s:=bs [40]);have t2:=t1.trans (hk _ t1.lt);have h3:=Hk _ t1.lt (by rw[t1.deep,hd]);have h4:=oN hL (bs [41]) _ t2.lt hl;rw[aC q1];simp[q1];refine gU [0] h3 ?_;simp;refine gU [0] h4 ?_;simp;exact fQ [0] [1]
  ·rw [aB q1,lN q1];rw[aL]at q1;have h3:=mG (bs [123]) p h hl;simp[q1];refine gU [0] h3 ?_;by_cases q2:(iG L (bs [123]) p).1=true
   ·rw [aC q2];have t1:=iw hL h (s:=bs [123]);have h4:=mG (bs [125]) _ t1.lt hl;generalize (iG L (bs [123]) p).2=p1 at*
    simp[q2];refine fo [.c 3 2,.c 3 3] ?_;simp;refine gU [0] h4 ?_;by_cases q3:(iG L (bs [125]) p1).1=true
    ·rw[aC q3];simp[q3];refine fe [4,5] ?_;simp[iT];exact fO [0] [1] (by simp[gq.enc,gq.encs,encS])
    ·rw[aB q3,lN q3];rw[aL]at q3;simp[q3];obtain⟨F0,hF0⟩:∃F0,AY L ki (L.length+1) [] [] p1=F0:=⟨_,rfl⟩
     rw[hF0];have hd1:p1.deep=d:=by rw[t1.deep,hd]
     refine fU iC hp (λx:Nat × List fI × List gq × PS=>AY L ki x.1 x.2.1 x.2.2.1 x.2.2.2=F0/\Tm L p1 x.2.2.2/\L.length<x.1+x.2.2.2.at'/\x.2.1.length=x.2.2.1.length/\x.2.1.length<=x.2.2.2.at')
      (λx=>[(0,.c (.ptr 0 0)),(2,.c (.ptr 2 0)),(8,.c (.ptr 3 0))])
      (λx=>[kE L x.2.2.2,.pin t 0,mY,.box [.d (.int .i64 5),.d (.str (bs [])),.msl 1 4 0 x.2.1.length,.msl 4 5 0 x.2.2.1.length],.arr 1 ((encS x.2.1).map (·.map .d)),.arr 4 ((x.2.2.1.map gq.enc).map (·.map .d))])
      (λx=>x.1) (L.length+1,[],[],p1) [0,1,2,3,4,5] ⟨hF0,Tm.refl t1.lt,by simp only;omega,rfl,by simp⟩ (by simp[encS]) λ⟨n,ns,ks,q⟩ ⟨i1,i2,i3,i4,i5⟩=>?_
     unfold Tn;simp only at i1 i2 i4 i5;have i3:L.length<n+q.at':=i3;have hlt:=i2.lt;obtain⟨n,rfl⟩:∃m,n=m+1:=⟨n-1,by omega⟩
     rw[AY]at i1;have e1:=mE hL hlt;have e2:=e1.trans (jH hL e1.lt (s:=bs [58]));have e3:=e2.trans (hk _ e2.lt);have e4:=e3.trans (iw hL e3.lt (s:=bs [44]));have c1:=xQ q hlt hl;have c2:=oN hL (bs [58]) _ e1.lt hl;have c3:=Hk _ e2.lt (by rw[e2.deep,i2.deep,hd1]);have c4:=mG (bs [44]) _ e3.lt hl;generalize (jK L q).1=s1 at*
     generalize (jK L q).2=q1' at*
     generalize jO L (bs [58]) q1'=q2' at*
     generalize (ki q2').1=k1 at*
     generalize (ki q2').2=q3' at*
     simp;refine gU [0] c1 ?_;simp;refine gU [0] c2 ?_;simp;refine gU [0] c3 ?_;simp;refine⟨by omega,by omega,?_⟩;refine gU [0] c4 ?_;by_cases q5:(iG L (bs [44]) q3').1=true
     ·rw[aC q5]at i1;have ha:=(take_at q5).1;have hb':=e3.le;simp[q5];refine fJ (n,ns++[s1],ks++[k1],(iG L (bs [44]) q3').2) [0,1,2,3,7,8] ⟨i1,i2.trans e4,by simp only;omega,by simp[i4],by simp;omega⟩ (by simp) ?_;simp;exact⟨aD (by simp),aD (by simp)⟩
     ·rw[aB q5,lN q5]at i1;rw[<-i1];have c5:=oN hL (bs [125]) _ e3.lt hl;rw[lN q5];rw[aL]at q5;simp[q5];refine fe [7,8] ?_;have k1':take ns.length (List.map (λx=>List.map AC.d x) (encS ns))=List.map (λx=>List.map AC.d x) (encS ns):=aD (by simp);have k2':take ks.length (List.map ((λx=>List.map AC.d x)∘gq.enc) ks)=List.map ((λx=>List.map AC.d x)∘gq.enc) ks:=aD (by simp);simp[iT,k1',k2'];refine gU [0] c5 ?_;simp[iT,k1',k2'];have z1:D.erdE (take (ns.length+1) (encS ns++[[D.str s1]]))=encS ns++[[D.str s1]]:=by
       rw[aD (by simp)];simpa only[UY,UZ]using A8 (ns++[s1])
      have z2:D.erdE (take (ks.length+1) (ks.map gq.enc++[k1.enc]))=ks.map gq.enc++[k1.enc]:=by
       rw[aD (by simp)];simpa using MZ (ks++[k1])
      exact fO [0] [1] (by simp[gq.enc,gq.encs_map,iT,k1',k2',z1,z2])
   ·rw[aB q2,lN q2];rw[aL]at q2;have h4:=xQ p h hl;simp[q2];refine gU [0] h4 ?_;simp;exact fO [0] [1] (by simp[gq.enc,gq.encs,encS])
theorem U2{ki:PS->gq × PS}:∀(n:Nat) (l:List gq) (p:PS),1<=l.length->1<=(rY L ki n l p).1.length
|0,l,p,h=>h
|n+1,l,p,h=>by
 rw[rY];split
 ·exact U2 n _ _ (by simp)
 ·exact h
theorem zHN(hL:jL L)(hl:L.length<=10000){d:Nat}{ki:PS->gq × PS}(hk:iD L ki)(Hk:qJ L d ki)(p:PS)(h:p.at'<L.length)(hd:p.deep=d):
  MCall Pg 179 [.c (.ptr 0 0)] [kE L p] (.ag ((qi L ki p).1.enc.map .d)) [kE L (qi L ki p).2]:=by
 refine zE0 nE λts hts ok hb c hN hp=>?_;obtain⟨t,rfl⟩:=mF hts;have c1:=U1 hL hl hk Hk p h hd;have t1:=FU hL hk p h;have hpos:=U2 (L:=L) (ki:=ki) (L.length+1) [(rX L ki p).1] (rX L ki p).2 (by simp);unfold Tj qi;simp only;obtain⟨F0,hF0⟩:∃F0,rY L ki (L.length+1) [(rX L ki p).1] (rX L ki p).2=F0:=⟨_,rfl⟩
 rw[hF0]at hpos⊢;generalize (rX L ki p).1=T1 at*
 generalize (rX L ki p).2=p1 at*
 simp;refine gU [0] c1 ?_;simp
 refine fU iC hp (λx:Nat × List gq × PS=>rY L ki x.1 x.2.1 x.2.2=F0/\Tm L p1 x.2.2/\L.length<x.1+x.2.2.at'/\x.2.1.length<=x.2.2.at'+1)
  (λx=>[(0,.c (.ptr 0 0)),(2,.c (.ptr 2 0)),(3,.c (.msl 4 3 0 x.2.1.length))])
  (λx=>[kE L x.2.2,.pin t 0,mY,.arr 4 ((x.2.1.map gq.enc).map (·.map .d))])
  (λx=>x.1) (L.length+1,[T1],p1) [0,1,2,3] ⟨hF0,Tm.refl t1.lt,by simp only;omega,by simp⟩ (by simp) λ⟨n,l,q⟩ ⟨i1,i2,i3,i4⟩=>?_
 unfold Ti;simp only at i1 i2 i4;have i3:L.length<n+q.at':=i3;have hlt:=i2.lt;obtain⟨n,rfl⟩:∃m,n=m+1:=⟨n-1,by omega⟩
 rw[rY]at i1;have e1:=iw hL hlt (s:=bs [124]);have a1:=mG (bs [124]) q hlt hl;simp;refine gU [0] a1 ?_;by_cases q1:(iG L (bs [124]) q).1=true
 ·rw[aC q1]at i1;have i1:rY L ki n (l++[(rX L ki (iG L (bs [124]) q).2).1]) (rX L ki (iG L (bs [124]) q).2).2=F0:=i1;have ha:=(take_at q1).1;have e2:=e1.trans (FU hL hk _ e1.lt);have hle:=(FU hL hk _ e1.lt).le;have a2:=U1 hL hl hk Hk _ e1.lt (by rw[e1.deep,i2.deep,t1.deep,hd]);generalize (iG L (bs [124]) q).2=q2 at*
  generalize (rX L ki q2).1=T2 at*
  generalize (rX L ki q2).2=q3 at*
  simp[q1];refine gU [0] a2 ?_;simp;refine⟨by omega,?_⟩;refine fJ (n,l++[T2],q3) [0,1,2,5] ⟨i1,i2.trans e2,by simp only;omega,by simp;omega⟩ (by simp) ?_;simp;exact aD (by simp)
 ·rw[aB q1]at i1;rw[lN q1];rw[aL]at q1;rw[<-i1]at hpos⊢;simp only at hpos⊢;by_cases hl1:l.length=1
  ·obtain⟨T,rfl⟩:∃T,l=[T]:=by
    match l,hl1 with
    |[T],_=>exact⟨T,rfl⟩
   have ho:MN [T]=T:=rfl;rw[ho];simp[q1];refine fe [3] ?_;simp[iT];exact fQ [0] [1]
  ·have htk:take l.length (List.map ((λx=>List.map AC.d x)∘gq.enc) l)=List.map ((λx=>List.map AC.d x)∘gq.enc) l:=aD (by simp);have hne:¬((l.length:Int)=1):=by omega
   rw[zHj hl1];simp[q1];refine fe [3] ?_;simp[iT,htk,hne,hl1];have z:D.erdE (take l.length (l.map gq.enc))=l.map gq.enc:=by
    rw[aD (by simp)];exact MZ l
   exact fO [0] [1] (by simp[gq.enc,gq.encs_map,encS,z])
theorem M3(hL:jL L)(hl:L.length<=10000):∀(n:Nat) (p:PS),p.at'<L.length->p.deep<=100->101<=p.deep+n->MCall Pg 156 [.c (.ptr 0 0)] [kE L p] (.ag ((wS L n p).1.enc.map .d)) [kE L (wS L n p).2]
|0,p,h,h1,h2=>by omega
| n+1,p,h,h1,h2=>by
 have ce:=MW p h (by omega);refine zDF nE λts hts ok hb c hN hp=>?_;obtain⟨t,rfl⟩:=mF hts;have hR:wS L (n+1) p=if(jT L p).1=true then uS (FM L (wS L n) (jT L p).2)else(noT,(jT L p).2):=by rw[wS]
 rw[hR];unfold Tf;simp;refine gU [0] ce ?_;by_cases q:(jT L p).1=true
 ·rw[aC q];obtain⟨e1,e2,e3⟩:=zS q;have hk:=MQ hL n;have Hk:qJ L (p.deep+1) (wS L n):=λr hr hd=>M3 hL hl n r hr (by omega) (by omega);have hp1:(jT L p).2.at'<L.length:=by rw[e1];exact h
  have hd1:(jT L p).2.deep=p.deep+1:=by rw[e1]
  have a1:=zHN hL hl hk Hk _ hp1 hd1;have t1:=UV hL hk _ hp1;have a2:=mG (bs [45,62]) _ t1.lt hl;have t2:=t1.trans (iw hL t1.lt (s:=bs [45,62]));unfold uS FM;simp only;generalize (jT L p).2=p1 at*
  generalize (qi L (wS L n) p1).1=T1 at*
  generalize (qi L (wS L n) p1).2=p2 at*
  simp[q];refine gU [0] a1 ?_;simp;refine gU [0] a2 ?_;by_cases q2:(iG L (bs [45,62]) p2).1=true
  ·rw[aC q2];have a3:=Hk _ t2.lt (by rw[t2.deep,hd1]);have hd3:=(t2.trans (hk _ t2.lt)).deep;simp only;simp only[hd1]at hd3;generalize (iG L (bs [45,62]) p2).2=p3 at*
   generalize (wS L n p3).1=T3 at*
   generalize (wS L n p3).2=p4 at*
   simp[q2];refine gU [0] a3 ?_;simp;have hw:IntKind.i64.wrap ((p4.deep:Int)-1)=((p4.deep-1:Nat):Int):=by rw[wI];omega
   exact fO [0] [1] (by simp[gq.enc,gq.encs,encS,hw])
  ·rw[aB q2,lN q2];have hd3:=t1.deep;rw[hd1]at hd3;rw[aL]at q2;simp[q2];have hw:IntKind.i64.wrap ((p2.deep:Int)-1)=((p2.deep-1:Nat):Int):=by rw[wI];omega
   exact fT [0] [1] (by simp[hw])
 ·rw[aB q];rw[aL]at q;simp[q];exact fO [0] [1] (by simp[noT,gq.enc,gq.encs,encS])
end
end Go.Gr
namespace Go.Gr
open Go.Abs Go.Proofs
mutual
theorem gz.erdL:∀t:gz,D.erdL t.enc=t.enc
|.mk k t n a b ts ns ks=>by
 simp only[gz.enc,D.erdL,D.erd,A8,MZ,gz.erdE ks]
theorem gz.erdE:∀l:List gz,D.erdE (gz.encs l)=gz.encs l
|[]=>rfl
|t::l=>by simp only[gz.encs,D.erdE,gz.erdL t,gz.erdE l]
end
attribute [simp] gz.erdL gz.erdE
@[simp] theorem zID(l:List gz):D.erdE (l.map gz.enc)=l.map gz.enc:=by rw[<-gz.encs_map];exact gz.erdE l
def nW(L:List Tok)(f:FuncId)(d:Nat)(ex:PS->gz × PS):Prop:=∀p:PS,p.at'<L.length->p.deep=d->MCall Pg f [.c (.ptr 0 0)] [kE L p] (.ag ((ex p).1.enc.map .d)) [kE L (ex p).2]
section
variable {L:List Tok}
theorem EQ(k:Int)(p:PS)(h:p.at'<L.length):MCall Pg 180 [.c (.ptr 0 0),.c (.d (.int .i64 k))] [kE L p] (.ag [.d (.int .i64 k),.d (.str (bs [])),.d (.int .i64 0),.d (.int .i64 (iL L p).line),.d (.int .i64 (iL L p).col),.d (.sl true 4 []),.d (.sl true 1 []),.d (.sl true 8 [])]) [kE L p]:=by
 refine zGz nE λts hts ok hb c hN hp=>?_;obtain⟨t,rfl⟩:=mF hts;have hg:=zU h;unfold Tt;simp[hg];refine⟨by decide,?_⟩;exact fQ [0] [1]
theorem FZ(hL:jL L)(hl:L.length<=10000){d:Nat}{ki:PS->gq × PS}(Hk:qJ L d ki)(p:PS)(h:p.at'<L.length)(hd:p.deep=d):
  MCall Pg 157 [.c (.ptr 0 0)] [kE L p] (.c (.d (.sl true 4 ((qD L ki p).1.map gq.enc)))) [kE L (qD L ki p).2]:=by
 refine zDH nE λts hts ok hb c hN hp=>?_;obtain⟨t,rfl⟩:=mF hts;have c1:=mG (bs [58]) p h hl;unfold Tq qD;simp;refine gU [0] c1 ?_;by_cases q:(iG L (bs [58]) p).1=true
 ·have t1:=iw hL h (s:=bs [58]);have c2:=Hk _ t1.lt (by rw[t1.deep,hd]);rw[aC q];simp[q];refine gU [0] c2 ?_;simp;exact fQ [0] [1]
 ·rw[aB q,lN q];rw[aL]at q;simp[q];exact fQ [0] [1]
theorem Il(ki:PS->gq × PS)(q:PS):(qD L ki q).1=[]\/∃T,(qD L ki q).1=[T]:=by
 unfold qD;split
 ·exact .inr ⟨_,rfl⟩
 ·exact .inl rfl
theorem zF8(hL:jL L)(hl:L.length<=10000){d:Nat}{ki:PS->gq × PS}(hk:iD L ki)(Hk:qJ L d ki)(p:PS)(h:p.at'<L.length)(hd:p.deep=d):
  MCall Pg 125 [.c (.ptr 0 0)] [kE L p] (.tup [.c (.d (.str (rZ L ki p).1.1)),.c (.d (.sl false 4 ((rZ L ki p).1.2.map gq.enc)))]) [kE L (rZ L ki p).2]:=by
 refine FK nE λts hts ok hb c hN hp=>?_;obtain⟨t,rfl⟩:=mF hts;have t1:=jH hL h (s:=bs [40]);have t2:=t1.trans (mE hL t1.lt);have t3:=t2.trans (zT hL hk _ t2.lt);have t4:=t3.trans (jH hL t3.lt (s:=bs [41]));have c1:=oN hL (bs [40]) p h hl;have c2:=xQ _ t1.lt hl;have c3:=FZ hL hl Hk _ t2.lt (by rw[t2.deep,hd]);have c4:=oN hL (bs [41]) _ t3.lt hl;have c5:=FZ hL hl Hk _ t4.lt (by rw[t4.deep,hd]);have n1:=Il (L:=L) ki (jK L (jO L (bs [40]) p)).2;have n2:=Il (L:=L) ki (jO L (bs [41]) (qD L ki (jK L (jO L (bs [40]) p)).2).2);unfold EL rZ;simp only;generalize jO L (bs [40]) p=p1 at*
 generalize (jK L p1).1=s1 at*
 generalize (jK L p1).2=p2 at*
 generalize (qD L ki p2).1=A at*
 generalize (qD L ki p2).2=p3 at*
 generalize jO L (bs [41]) p3=p4 at*
 generalize (qD L ki p4).1=B at*
 generalize (qD L ki p4).2=p5 at*
 simp;refine gU [0] c1 ?_;simp;refine gU [0] c2 ?_;simp;refine gU [0] c3 ?_;simp;refine gU [0] c4 ?_;simp;refine gU [0] c5 ?_;have hn:noT.enc=[.int .i64 0,.str (bs []),.sl false 1 [],.sl false 4 []]:=rfl;rcases n1 with rfl|⟨T,rfl⟩<;>rcases n2 with rfl|⟨U,rfl⟩<;>simp
 ·refine fe [] ?_;simp;exact fO [0] [1] (by simp[hn,AV.erds])
 ·refine fe [2] ?_;simp[iT];exact fO [0] [1] (by simp[hn,AV.erds])
 ·refine fe [] ?_;simp;exact fO [0] [1] (by simp[hn,AV.erds])
 ·refine fe [2] ?_;simp[iT];exact fO [0] [1] (by simp[hn,AV.erds])
def xR(L:List Tok)(d:Nat)(k:Int)(rk:PS->gz × PS):Prop:=∀p:PS,p.at'<L.length->p.deep=d->MCall Pg 181 [.c (.ptr 0 0),.c (.d (.int .i64 k))] [kE L p] (.ag ((rk p).1.enc.map .d)) [kE L (rk p).2]
theorem pU(p:PS)(k:Int)(t:fI)(n:Int)(ts:List gq)(ns:List fI)(ks:List gz):(kZ L p k t n ts ns ks).enc=[.int .i64 k,.str t,.int .i64 n,.int .i64 (iL L p).line,.int .i64 (iL L p).col,.sl false 4 (ts.map gq.enc),.sl false 1 (encS ns),.sl false 8 (ks.map gz.enc)]:=by
 unfold kZ;rw[gz.enc_eq];try rfl
theorem zF9(hL:jL L)(hl:L.length<=10000){d:Nat}{ki:PS->gq × PS}{ex rk:PS->gz × PS}(hk:iD L ki)(Hk:qJ L d ki)(he:iD L ex)(He:nW L 126 d ex)(Hr:xR L d 0 rk)(p:PS)(h:p.at'<L.length)(hd:p.deep=d):
  MCall Pg 159 [.c (.ptr 0 0)] [kE L p] (.ag ((zQ L ki ex rk p).1.enc.map .d)) [kE L (zQ L ki ex rk p).2]:=by
 refine zDJ nE λts hts ok hb c hN hp=>?_;obtain⟨t,rfl⟩:=mF hts;have c0:=EQ (L:=L) 5 p h;have c1:=mG tC p h hl;unfold Tv zQ;simp;refine gU [0] c0 ?_;simp;refine gU [0] c1 ?_;by_cases q1:(iG L tC p).1=true
 ·rw[aC q1];have t1:=iw hL h (s:=tC);have t2:=t1.trans (mE hL t1.lt);have t3:=t2.trans (zT hL hk _ t2.lt);have t4:=t3.trans (jH hL t3.lt (s:=bs [61]));have t5:=t4.trans (he _ t4.lt);have t6:=t5.trans (jH hL t5.lt (s:=bs [59]));have a1:=xQ _ t1.lt hl;have a2:=FZ hL hl Hk _ t2.lt (by rw[t2.deep,hd]);have a3:=oN hL (bs [61]) _ t3.lt hl;have a4:=He _ t4.lt (by rw[t4.deep,hd]);have a5:=oN hL (bs [59]) _ t5.lt hl;have a6:=He _ t6.lt (by rw[t6.deep,hd]);generalize (iG L tC p).2=p1 at*
  generalize (jK L p1).1=s1 at*
  generalize (jK L p1).2=p2 at*
  generalize (qD L ki p2).1=A at*
  generalize (qD L ki p2).2=p3 at*
  generalize jO L (bs [61]) p3=p4 at*
  generalize (ex p4).1=V at*
  generalize (ex p4).2=p5 at*
  generalize jO L (bs [59]) p5=p6 at*
  generalize (ex p6).1=B at*
  generalize (ex p6).2=p7 at*
  simp[q1];refine gU [0] a1 ?_;simp;refine gU [0] a2 ?_;simp;refine gU [0] a3 ?_;simp;refine gU [0] a4 ?_;simp;refine gU [0] a5 ?_;simp;refine gU [0] a6 ?_;simp;exact fO [0] [1] (by simp[pU,encS])
 ·rw[aB q1,lN q1];rw[aL]at q1;have c2:=mG AZ p h hl;simp[q1];refine gU [0] c2 ?_;by_cases q2:(iG L AZ p).1=true
  ·rw[aC q2];have t1:=iw hL h (s:=AZ);have t2:=t1.trans (he _ t1.lt);have t3:=t2.trans (jH hL t2.lt (s:=Cn));have t4:=t3.trans (he _ t3.lt);have t5:=t4.trans (jH hL t4.lt (s:=Co));have a1:=He _ t1.lt (by rw[t1.deep,hd]);have a2:=oN hL Cn _ t2.lt hl;have a3:=He _ t3.lt (by rw[t3.deep,hd]);have a4:=oN hL Co _ t4.lt hl;have a5:=He _ t5.lt (by rw[t5.deep,hd]);generalize (iG L AZ p).2=p1 at*
   generalize (ex p1).1=C at*
   generalize (ex p1).2=p2 at*
   generalize jO L Cn p2=p3 at*
   generalize (ex p3).1=A at*
   generalize (ex p3).2=p4 at*
   generalize jO L Co p4=p5 at*
   generalize (ex p5).1=B at*
   generalize (ex p5).2=p6 at*
   simp[q2];refine gU [0] a1 ?_;simp;refine gU [0] a2 ?_;simp;refine gU [0] a3 ?_;simp;refine gU [0] a4 ?_;simp;refine gU [0] a5 ?_;simp;exact fO [0] [1] (by simp[pU,encS])
  ·rw[aB q2,lN q2];rw[aL]at q2;have c3:=mG uD p h hl;simp[q2];refine gU [0] c3 ?_;by_cases q3:(iG L uD p).1=true
   ·rw[aC q3];have t1:=iw hL h (s:=uD);have t2:=t1.trans (Bf hL hk _ t1.lt);have t3:=t2.trans (jH hL t2.lt (s:=bs [61,62]));have a1:=zF8 hL hl hk Hk _ t1.lt (by rw[t1.deep,hd]);have a2:=oN hL (bs [61,62]) _ t2.lt hl;have a3:=He _ t3.lt (by rw[t3.deep,hd]);generalize (iG L uD p).2=p1 at*
    generalize (rZ L ki p1).1.1=s1 at*
    generalize (rZ L ki p1).1.2=A at*
    generalize (rZ L ki p1).2=p2 at*
    generalize jO L (bs [61,62]) p2=p3 at*
    generalize (ex p3).1=B at*
    generalize (ex p3).2=p4 at*
    simp[q3];refine gU [0] a1 ?_;simp;refine gU [0] a2 ?_;simp;refine gU [0] a3 ?_;simp;exact fO [0] [1] (by simp[pU,encS])
   ·rw[aB q3,lN q3];rw[aL]at q3;have a1:=Hr p h hd;simp[q3];refine gU [0] a1 ?_;simp;exact fQ [0] [1]
end
end Go.Gr
namespace Go.Gr
open Go.Abs Go.Proofs List
theorem U3:∀v:List D,(D.erdL v).length=v.length
|[]=>rfl
|d::v=>by simp only[D.erdL,length_cons,U3 v]
@[simp] theorem zKu(v:List D):List.map (AC.erd∘AC.d) v=(D.erdL v).map .d:=by rw[<-bv,U0]
theorem Im{v:List D}{a:gz}(h:D.erdL v=a.enc):v.length=8:=by rw[<-U3,h];simp
theorem U4{v:List D}{a:gz}(h:D.erdL v=a.enc):cut (v.map AC.d) 0 8=v.map .d:=by
 have:=Im h;unfold cut;simp[this]
theorem U5{v:List D}{a:gz}(h:D.erdL v=a.enc):cut v 0 8=v:=by
 have:=Im h;unfold cut;simp[this]
abbrev U6:List (List D):=[[.sl true 1 [[.str (bs [111,114])]]],[.sl true 1 [[.str (bs [97,110,100])]]],[.sl true 1 []],[.sl true 1 [[.str (bs [43,43])]]],[.sl true 1 [[.str (bs [43])],[.str (bs [45])],[.str (bs [94])]]],[.sl true 1 [[.str (bs [42])],[.str (bs [47])],[.str (bs [37])],[.str (bs [38])],[.str (bs [60,60])],[.str (bs [62,62])]]]]
theorem zHR{k:Nat}(h:k<6):U6[k]?=some [.sl true 1 (encS (r9 k))]:=by
 match k,h with
 |0,_=>rfl
 |1,_=>rfl
 |2,_=>rfl
 |3,_=>rfl
 |4,_=>rfl
 |5,_=>rfl
theorem zEN{k:Nat}:(r9 k).length<=6:=by
 unfold r9;split<;>simp
section
variable {L:List Tok}
def y8(L:List Tok)(rk:PS->gz × PS)(signs:List fI)(n i:Nat)(a:gz)(p:PS):gz × PS:=match xL L (signs.drop i) p with
|none=>(a,p)
|some (s,q)=>kg L rk signs n (kZ L p 14 s 0 [] [] [a,(rk q).1]) (rk q).2
theorem U7(rk:PS->gz × PS)(signs:List fI)(n:Nat)(a:gz)(p:PS):kg L rk signs (n+1) a p=y8 L rk signs n 0 a p:=by
 rw[kg];unfold y8;rw[drop_zero];try rfl
abbrev y9:Blk:=.box [.d (.int .i64 0),.d (.str (bs [])),.d (.int .i64 0),.d (.int .i64 0),.d (.int .i64 0),.d (.sl true 4 []),.d (.sl true 1 []),.d (.sl true 8 [])]
theorem F3(hL:jL L)(hl:L.length<=10000){d k:Nat}(hk:k<6)(hk2:k≠2){rk:PS->gz × PS}(hr:iD L rk)(Hr:xR L d (k+1:Nat) rk):
  xR L d k (λp=>kg L rk (r9 k) (L.length+1) (rk p).1 (rk p).2):=by
 intro p h hd;refine MJ nE λts hts ok hb c hN hp=>?_;obtain⟨t,rfl⟩:=mF hts;have c1:=Hr p h hd;have t1:=hr p h;have h6:¬((k:Int)=6):=by omega
 have h2:¬((k:Int)=2):=by omega
 have hw:IntKind.i64.wrap ((k:Int)+1)=((k+1:Nat):Int):=by rw[wI];omega
 have hT:=zHR hk;have hs6:=zEN (k:=k);simp only;obtain⟨F0,hF0⟩:∃F0,kg L rk (r9 k) (L.length+1) (rk p).1 (rk p).2=F0:=⟨_,rfl⟩
 rw[hF0];rw[U7]at hF0;generalize (rk p).1=A at*
 generalize (rk p).2=p1 at*
 unfold Ie;simp[h6,h2,hw];refine gU [0] c1 ?_;generalize r9 k=sg at*
 have hd1:p1.deep=d:=by rw[t1.deep,hd]
 simp;generalize hTT:U6=TT at*
 refine fU iC hp (λx:Nat × Nat × gz × List D × PS=>y8 L rk sg x.1 x.2.1 x.2.2.1 x.2.2.2.2=F0/\Tm L p1 x.2.2.2.2/\L.length<x.1+1+x.2.2.2.2.at'/\x.2.1<=sg.length/\D.erdL x.2.2.2.1=x.2.2.1.enc)
  (λx=>[(0,.c (.ptr 0 0)),(1,.c (.d (.int .i64 k))),(4,.c (.ptr 2 0)),(5,.c (.d (.sl true 1 TT))),(6,.c (.ptr 3 0)),(7,.c (.d (.int .i64 x.2.1)))])
  (λx=>[kE L x.2.2.2.2,.pin t 0,y9,.box (x.2.2.2.1.map .d)])
  (λx=>x.1*7+(sg.length-x.2.1)) (L.length,0,A,A.enc,p1) [0,1,2,3] ⟨hF0,Tm.refl t1.lt,by simp only;omega,by simp,by simp⟩ (by simp[<-hTT]) λ⟨n,i,a,v,q⟩ ⟨i1,i2,i3,i4,i5⟩=>?_
 unfold Tw;simp only at i1 i2 i4 i5;have i3:L.length<n+1+q.at':=i3;have hlt:=i2.lt;have hcut:=U4 i5;have hcut':=U5 i5;have hvl:=Im i5;simp[hT];apply gT<;>intro hj
 ·have hj:i<sg.length:=by simpa using hj
  have hg:sg[i]?=some sg[i]:=aA hj;have a0:=EQ (L:=L) 14 q hlt;have a1:=mG sg[i] q hlt hl;unfold y8 at i1;rw[aF hj,xL]at i1;generalize sg[i]=s at*
  refine gU [0] a0 ?_;simp[hT,hg];refine gU [0] a1 ?_;by_cases q1:(iG L s q).1=true
  ·rw[aC q1]at i1;simp only at i1;have ha:=(take_at q1).1;have e1:=iw hL hlt (s:=s);have a2:=Hr _ e1.lt (by rw[e1.deep,i2.deep,hd1]);have e2:=e1.trans (hr _ e1.lt);have hle:=(hr _ e1.lt).le;obtain⟨n,rfl⟩:∃m,n=m+1:=⟨n-1,by have:=e1.lt;omega⟩
   rw[U7]at i1;generalize (iG L s q).2=q2 at*
   generalize (rk q2).1=B at*
   generalize (rk q2).2=q3 at*
   simp[q1,hw];refine gU [0] a2 ?_;simp[hT,hg,hvl,hcut,hcut'];refine fJ (n,0,kZ L q 14 s 0 [] [] [a,B],([.int .i64 14,.str s,.int .i64 0,.int .i64 (iL L q).line,.int .i64 (iL L q).col,.sl true 4 [],.sl true 1 [],.sl true 8 [v,B.enc]]:List D),q3) [0,1,2,3] ⟨i1,i2.trans e2,by simp only;omega,by simp,?_⟩ (by simp;omega) ?_
   ·simp[pU,i5,encS]
   ·simp
  ·rw[aB q1]at i1;rw[lN q1];rw[aL]at q1;simp[q1];refine fJ (n,i+1,a,v,q) [0,1,2,3] ⟨i1,i2,by simp only;omega,by simp only;omega,i5⟩ (by simp only;omega) ?_;simp;exact wI
 ·have hj:i=sg.length:=by simp at hj;omega
  subst hj;unfold y8 at i1;rw[aO,xL]at i1;have i1:(a,q)=F0:=i1;rw[<-i1];simp[hvl,hcut];exact fO [0] [1] (by simp[hcut,i5])
theorem zEO{d:Nat}{un:PS->gz × PS}(Hu:nW L 191 d un):xR L d 6 un:=by
 intro p h hd;refine MJ nE λts hts ok hb c hN hp=>?_;obtain⟨t,rfl⟩:=mF hts;have c1:=Hu p h hd;unfold Ie;simp;refine gU [0] c1 ?_;simp;exact fQ [0] [1]
theorem zEP{d:Nat}{un:PS->gz × PS}(Hu:nW L 192 d un):xR L d 2 un:=by
 intro p h hd;refine MJ nE λts hts ok hb c hN hp=>?_;obtain⟨t,rfl⟩:=mF hts;have c1:=Hu p h hd;unfold Ie;simp;refine gU [0] c1 ?_;simp;exact fQ [0] [1]
end
section
variable {L:List Tok}
abbrev cmpS:List fI:=[bs [60],bs [60,61],bs [61,61]]
theorem zHI(hL:jL L)(hl:L.length<=10000){d:Nat}{ki:PS->gq × PS}{rk:PS->gz × PS}(hk:iD L ki)(Hk:qJ L d ki)(hr:iD L rk)(Hr:xR L d 3 rk):
  nW L 192 d (rf L ki rk):=by
 intro p h hd;refine zE1 nE λts hts ok hb c hN hp=>?_;obtain⟨t,rfl⟩:=mF hts;have c1:=Hr p h hd;have t1:=hr p h;have a0:=EQ (L:=L) 14 _ t1.lt;obtain⟨F0,hF0⟩:∃F0,rf L ki rk p=F0:=⟨_,rfl⟩
 rw[hF0];unfold rf at hF0;simp only at hF0;rw[show rk p=((rk p).1,(rk p).2)from rfl]at hF0;simp only at hF0;generalize (rk p).1=A at*
 generalize (rk p).2=p1 at*
 have hd1:p1.deep=d:=by rw[t1.deep,hd]
 unfold UA;simp;refine gU [0] c1 ?_;simp;refine gU [0] a0 ?_;simp
 refine fU iC hp (λj:Nat=>j<=3/\xL L (cmpS.drop j) p1=xL L cmpS p1)
  (λj=>[(0,.c (.ptr 0 0)),(2,.c (.ptr 2 0)),(3,.c (.ptr 3 0)),(4,.c (.ptr 4 0)),(5,.c (.d (.sl true 1 (encS cmpS)))),(6,.c (.d (.int .i64 j)))])
  (λj=>[kE L p1,.pin t 0,y9,.box (A.enc.map .d),.box [.d (.int .i64 14),.d (.str (bs [])),.d (.int .i64 0),.d (.int .i64 (iL L p1).line),.d (.int .i64 (iL L p1).col),.d (.sl true 4 []),.d (.sl true 1 []),.d (.sl true 8 [])]])
  (λj=>3-j) 0 [0,1,2,3,4] ⟨by simp,rfl⟩ (by simp[encS]) λj ⟨i1,i2⟩=>?_
 unfold Tx;have hsl:cmpS.length=3:=rfl;simp[hsl];apply gT<;>intro h3
 ·have hj:j<cmpS.length:=by simp at h3;omega
  have hj':j<3:=by omega
  rw[aF hj,xL]at i2;have hg:cmpS[j]?=some cmpS[j]:=aA hj;have ht:=mG cmpS[j] p1 t1.lt hl;generalize cmpS[j]=s at*
  simp[hg];refine gU [0] ht ?_;by_cases q:(iG L s p1).1=true
  ·rw[aC q]at i2;rw[<-i2]at hF0;have hF0:(kZ L p1 14 s 0 [] [] [A,(rk (iG L s p1).2).1],(rk (iG L s p1).2).2)=F0:=hF0;rw[<-hF0];have e1:=iw hL t1.lt (s:=s);have a2:=Hr _ e1.lt (by rw[e1.deep,hd1]);simp only;generalize (iG L s p1).2=p2 at*
   generalize (rk p2).1=B at*
   generalize (rk p2).2=p3 at*
   simp[q];refine gU [0] a2 ?_;simp[hg];exact fO [0] [1] (by simp[pU,encS])
  ·rw[aB q]at i2;rw[lN q];rw[aL]at q;simp[q];refine fJ (j+1) [0,1,2,3,4] ⟨by omega,i2⟩ (by omega) ?_;simp;exact wI
 ·have hj:j=3:=by simp at h3;omega
  subst hj;have i2:xL L cmpS p1=none:=by rw[<-i2];try rfl
  rw[i2]at hF0;simp only at hF0;have b1:=mG (bs [97,115]) p1 t1.lt hl;simp;refine gU [0] b1 ?_;by_cases q1:(iG L (bs [97,115]) p1).1=true
  ·rw[aC q1]at hF0;have e1:=iw hL t1.lt (s:=bs [97,115]);have a2:=Hk _ e1.lt (by rw[e1.deep,hd1]);rw[<-hF0];simp only;generalize (iG L (bs [97,115]) p1).2=p2 at*
   generalize (ki p2).1=T at*
   generalize (ki p2).2=p3 at*
   simp[q1];refine gU [0] a2 ?_;simp;exact fO [0] [1] (by simp[pU,encS])
  ·rw [aB q1]at hF0;rw[lN q1];rw[aL]at q1;have b2:=mG (bs [105,115]) p1 t1.lt hl;simp[q1];refine gU [0] b2 ?_;by_cases q2:(iG L (bs [105,115]) p1).1=true
   ·rw[aC q2]at hF0;have e1:=iw hL t1.lt (s:=bs [105,115]);generalize (iG L (bs [105,115]) p1).2=p2 at*
    simp[q2]
    refine fU iC hp (λj:Nat=>j<=6/\vP L j (xM.drop j) p2=vP L 0 xM p2)
     (λj=>[(0,.c (.ptr 0 0)),(2,.c (.ptr 2 0)),(4,.c (.ptr 4 0)),(9,.c (.d (.sl true 1 (encS xM)))),(10,.c (.d (.int .i64 j)))])
     (λj=>[kE L p2,.pin t 0,y9,.box (A.enc.map .d),.box [.d (.int .i64 12),.d (.str (bs [])),.d (.int .i64 0),.d (.int .i64 (iL L p1).line),.d (.int .i64 (iL L p1).col),.d (.sl true 4 []),.d (.sl true 1 []),.d (.sl true 8 [A.enc])]])
     (λj=>6-j) 0 [0,1,2,3,4] ⟨by simp,rfl⟩ (by simp[encS,xM]) λj ⟨j1,j2⟩=>?_
    unfold Tz;have htl:xM.length=6:=rfl;simp[htl];apply gT<;>intro h6
    ·have hj:j<xM.length:=by simp at h6;omega
     have hj':j<6:=by omega
     rw[aF hj,vP]at j2;have hg:xM[j]?=some xM[j]:=aA hj;have ht:=mG xM[j] p2 e1.lt hl;generalize xM[j]=s at*
     simp[hg];refine gU [0] ht ?_;by_cases q:(iG L s p2).1=true
     ·rw[aC q]at j2;rw[<-j2]at hF0;have hF0:(kZ L p1 12 (bs []) j [] [] [A],(iG L s p2).2)=F0:=hF0;rw[<-hF0];simp[q];exact fO [0] [1] (by simp[pU,encS])
     ·rw[aB q]at j2;rw[lN q];rw[aL]at q;simp[q];refine fJ (j+1) [0,1,2,3,4] ⟨by omega,j2⟩ (by omega) ?_;simp;exact wI
    ·have hj:j=6:=by simp at h6;omega
     subst hj;have j2:vP L 0 xM p2=none:=by rw[<-j2];try rfl
     rw[j2]at hF0;have hF0:(kZ L p1 12 (bs []) 0 [] [] [A],wR L 7 p2)=F0:=hF0;rw[<-hF0];have b3:=FY (L:=L) 7 p2 e1.lt;simp;refine gU [0] b3 ?_;simp;exact fO [0] [1] (by simp[pU,encS])
   ·rw[aB q2]at hF0;rw[lN q2,<-hF0];rw[aL]at q2;simp[q2];exact fQ [0] [1]
end
end Go.Gr
namespace Go.Gr
open Go.Abs Go.Proofs
section
variable {L:List Tok}
theorem zGL(hL:jL L)(hl:L.length<=10000){d:Nat}{at_ ex:PS->gz × PS}(ha:iD L at_)(Ha:nW L 227 d at_)(he:iD L ex)(He:nW L 126 d ex):
  nW L 211 d (λp=>tF L ex (L.length+1) (at_ p).1 (at_ p).2):=by
 intro p h hd;refine zDK nE λts hts ok hb c hN hp=>?_;obtain⟨t,rfl⟩:=mF hts;have c1:=Ha p h hd;have t1:=ha p h;simp only;obtain⟨F0,hF0⟩:∃F0,tF L ex (L.length+1) (at_ p).1 (at_ p).2=F0:=⟨_,rfl⟩
 rw[hF0];generalize (at_ p).1=A at*
 generalize (at_ p).2=p1 at*
 have hd1:p1.deep=d:=by rw[t1.deep,hd]
 unfold UD;simp;refine gU [0] c1 ?_;simp
 refine fU iC hp (λx:Nat × gz × List D × PS=>tF L ex x.1 x.2.1 x.2.2.2=F0/\Tm L p1 x.2.2.2/\L.length<x.1+x.2.2.2.at'/\D.erdL x.2.2.1=x.2.1.enc)
  (λx=>[(0,.c (.ptr 0 0)),(2,.c (.ptr 2 0)),(3,.c (.ptr 3 0))])
  (λx=>[kE L x.2.2.2,.pin t 0,y9,.box (x.2.2.1.map .d)])
  (λx=>x.1) (L.length+1,A,A.enc,p1) [0,1,2,3] ⟨hF0,Tm.refl t1.lt,by simp only;omega,by simp⟩ (by simp) λ⟨n,a,v,q⟩ ⟨i1,i2,i3,i5⟩=>?_
 unfold UC;simp only at i1 i2 i5;have i3:L.length<n+q.at':=i3;have hlt:=i2.lt;have hcut:=U4 i5;have hcut':=U5 i5;have hvl:=Im i5;obtain⟨n,rfl⟩:∃m,n=m+1:=⟨n-1,by omega⟩
 rw[tF]at i1;have a0:=EQ (L:=L) 7 q hlt;have a1:=mG (bs [40]) q hlt hl;simp;refine gU [0] a0 ?_;simp;refine gU [0] a1 ?_;by_cases q1:(iG L (bs [40]) q).1=true
 ·rw[aC q1]at i1;simp only at i1;have hat:=(take_at q1).1;have e1:=iw hL hlt (s:=bs [40]);have e2:=e1.trans (he _ e1.lt);have e3:=e2.trans (jH hL e2.lt (s:=bs [41]));have le1:=(he _ e1.lt).le;have le2:=(jH hL e2.lt (s:=bs [41])).le;have a2:=He _ e1.lt (by rw[e1.deep,i2.deep,hd1]);have a3:=oN hL (bs [41]) _ e2.lt hl;generalize (iG L (bs [40]) q).2=q2 at*
  generalize (ex q2).1=B at*
  generalize (ex q2).2=q3 at*
  generalize jO L (bs [41]) q3=q4 at*
  simp[q1];refine gU [0] a2 ?_;simp;refine gU [0] a3 ?_;simp[hvl,hcut,hcut'];refine fJ (n,kZ L q 7 (bs []) 0 [] [] [a,B],([.int .i64 7,.str (bs []),.int .i64 0,.int .i64 (iL L q).line,.int .i64 (iL L q).col,.sl true 4 [],.sl true 1 [],.sl true 8 [v,B.enc]]:List D),q4) [0,1,2,3] ⟨i1,i2.trans e3,by simp only;omega,?_⟩ (by simp) ?_
  ·simp[pU,i5,encS]
  ·simp
 ·rw[aB q1]at i1;rw[lN q1];rw[aL]at q1;have a2:=mG (bs [46]) q hlt hl;simp[q1];refine gU [0] a2 ?_;by_cases q2:(iG L (bs [46]) q).1=true
  ·rw[aC q2]at i1;simp only at i1;have hat:=(take_at q2).1;have e1:=iw hL hlt (s:=bs [46]);have e2:=e1.trans (mE hL e1.lt);have le1:=(mE hL e1.lt).le;have a3:=xQ _ e1.lt hl;generalize (iG L (bs [46]) q).2=q2' at*
   generalize (jK L q2').1=s at*
   generalize (jK L q2').2=q3 at*
   simp[q2];refine gU [0] a3 ?_;simp[hvl,hcut,hcut'];refine fJ (n,kZ L q 9 s 0 [] [] [a],([.int .i64 9,.str s,.int .i64 0,.int .i64 (iL L q).line,.int .i64 (iL L q).col,.sl true 4 [],.sl true 1 [],.sl true 8 [v]]:List D),q3) [0,1,2,3] ⟨i1,i2.trans e2,by simp only;omega,?_⟩ (by simp) ?_
   ·simp[pU,i5,encS]
   ·simp
  ·rw[aB q2]at i1;rw[lN q2,<-i1];rw[aL]at q2;simp[q2,hvl,hcut,hcut'];exact fO [0] [1] (by simp[hcut,i5])
theorem U8(hL:jL L)(hl:L.length<=10000){ki:PS->gq × PS}{ex un:PS->gz × PS}(hk:iD L ki)(he:iD L ex)(hu:iD L un)(p:PS)(h:p.at'<L.length)(hd:p.deep<=100)
  (Hu:p.deep<100->nW L 191 (p.deep+1) un) (Hp:p.deep<100->nW L 211 (p.deep+1) (Cy L ki ex)):
  MCall Pg 191 [.c (.ptr 0 0)] [kE L p] (.ag ((if(jT L p).1=true then uS (zR L ki ex un (jT L p).2)else(qh,(jT L p).2)).1.enc.map .d)) [kE L (if(jT L p).1=true then uS (zR L ki ex un (jT L p).2)else(qh,(jT L p).2)).2]:=by
 have ce:=MW p h (by omega);refine zB7 nE λts hts ok hb c hN hp=>?_;obtain⟨t,rfl⟩:=mF hts;unfold UB;simp;refine gU [0] ce ?_;by_cases q:(jT L p).1=true
 ·rw[aC q];obtain⟨e1,e2,e3⟩:=zS q;have hp1:(jT L p).2.at'<L.length:=by rw[e1];exact h
  have hd1:(jT L p).2.deep=p.deep+1:=by rw[e1]
  have Hu:=Hu e2;have Hp:=Hp e2;have a0:=EQ (L:=L) 16 _ hp1;have a1:=mG (bs [45]) _ hp1 hl;unfold uS zR;simp only;generalize (jT L p).2=p1 at*
  simp[q];refine gU [0] a0 ?_;simp;refine gU [0] a1 ?_;by_cases q1:(iG L (bs [45]) p1).1=true
  ·rw[aC q1];have t1:=iw hL hp1 (s:=bs [45]);have t2:=t1.trans (hu _ t1.lt);have a2:=Hu _ t1.lt (by rw[t1.deep,hd1]);have hd3:=t2.deep;rw[hd1]at hd3;simp only;generalize (iG L (bs [45]) p1).2=p2 at*
   generalize (un p2).1=A at*
   generalize (un p2).2=p3 at*
   have hw:IntKind.i64.wrap ((p3.deep:Int)-1)=((p3.deep-1:Nat):Int):=by rw[wI];omega
   simp[q1];refine gU [0] a2 ?_;simp;exact fO [0] [1] (by simp[pU,encS,hw])
  ·rw[aB q1,lN q1];rw[aL]at q1;have a2:=mG tH _ hp1 hl;simp[q1];refine gU [0] a2 ?_;by_cases q2:(iG L tH p1).1=true
   ·rw[aC q2];have t1:=iw hL hp1 (s:=tH);have t2:=t1.trans (hu _ t1.lt);have a2:=Hu _ t1.lt (by rw[t1.deep,hd1]);have hd3:=t2.deep;rw[hd1]at hd3;simp only;generalize (iG L tH p1).2=p2 at*
    generalize (un p2).1=A at*
    generalize (un p2).2=p3 at*
    have hw:IntKind.i64.wrap ((p3.deep:Int)-1)=((p3.deep-1:Nat):Int):=by rw[wI];omega
    simp[q2];refine gU [0] a2 ?_;simp;exact fO [0] [1] (by simp[pU,encS,hw])
   ·rw[aB q2,lN q2];rw[aL]at q2;have t2:=UX hL hk he p1 hp1;have a3:=Hp p1 hp1 hd1;have hd3:=t2.deep;rw[hd1]at hd3;generalize (Cy L ki ex p1).1=A at*
    generalize (Cy L ki ex p1).2=p3 at*
    have hw:IntKind.i64.wrap ((p3.deep:Int)-1)=((p3.deep-1:Nat):Int):=by rw[wI];omega
    simp[q2];refine gU [0] a3 ?_;simp;exact fT [0] [1] (by simp[hw])
 ·rw[aB q];rw[aL]at q;simp[q];exact fO [0] [1] (by simp[qh,gz.enc,gz.encs,encS])
theorem U9(hL:jL L)(hl:L.length<=10000){B:PS->gz × PS}(hB:iD L B)(p:PS)(h:p.at'<L.length)(hd:p.deep<=100)(HB:p.deep<100->nW L 159 (p.deep+1) B):
  MCall Pg 126 [.c (.ptr 0 0)] [kE L p] (.ag ((if(jT L p).1=true then uS (B (jT L p).2)else(qh,(jT L p).2)).1.enc.map .d)) [kE L (if(jT L p).1=true then uS (B (jT L p).2)else(qh,(jT L p).2)).2]:=by
 have ce:=MW p h (by omega);refine zDI nE λts hts ok hb c hN hp=>?_;obtain⟨t,rfl⟩:=mF hts;unfold Tu;simp;refine gU [0] ce ?_;by_cases q:(jT L p).1=true
 ·rw[aC q];obtain⟨e1,e2,e3⟩:=zS q;have hp1:(jT L p).2.at'<L.length:=by rw[e1];exact h
  have hd1:(jT L p).2.deep=p.deep+1:=by rw[e1]
  have HB:=HB e2;have a0:=HB _ hp1 hd1;have t1:=hB _ hp1;have hd3:=t1.deep;rw[hd1]at hd3;unfold uS;simp only;generalize (jT L p).2=p1 at*
  generalize (B p1).1=A at*
  generalize (B p1).2=p2 at*
  have hw:IntKind.i64.wrap ((p2.deep:Int)-1)=((p2.deep-1:Nat):Int):=by rw[wI];omega
  simp[q];refine gU [0] a0 ?_;simp;exact fT [0] [1] (by simp[hw])
 ·rw[aB q];rw[aL]at q;simp[q];exact fO [0] [1] (by simp[qh,gz.enc,gz.encs,encS])
end
end Go.Gr
namespace Go.Gr
open Go.Abs Go.Proofs List
section
variable {L:List Tok}
theorem zE6(hL:jL L)(hl:L.length<=10000){d:Nat}{ki:PS->gq × PS}(hk:iD L ki)(Hk:qJ L d ki)(p:PS)(h:p.at'<L.length)(hd:p.deep=d):
  MCall Pg 235 [.c (.ptr 0 0)] [kE L p] (.c (.d (.sl false 4 ((wU L ki (L.length+1) [] p).1.map gq.enc)))) [kE L (wU L ki (L.length+1) [] p).2]:=by
 refine zB8 nE λts hts ok hb c hN hp=>?_;obtain⟨t,rfl⟩:=mF hts;obtain⟨F0,hF0⟩:∃F0,wU L ki (L.length+1) [] p=F0:=⟨_,rfl⟩
 rw[hF0];unfold UG;simp;refine fo [.t 3] ?_;simp
 refine fU iC hp (λx:Nat × List gq × PS=>wU L ki x.1 x.2.1 x.2.2=F0/\Tm L p x.2.2/\L.length<x.1+x.2.2.at'/\x.2.1.length<=x.2.2.at')
  (λx=>[(0,.c (.ptr 0 0)),(3,.c (.msl 4 2 0 x.2.1.length))])
  (λx=>[kE L x.2.2,.pin t 0,.arr 4 ((x.2.1.map gq.enc).map (·.map .d))])
  (λx=>x.1) (L.length+1,[],p) [0,1,2] ⟨hF0,Tm.refl h,by simp only;omega,by simp⟩ (by simp) λ⟨n,l,q⟩ ⟨i1,i2,i3,i4⟩=>?_
 unfold UF;simp only at i1 i2 i4;have i3:L.length<n+q.at':=i3;have hlt:=i2.lt;obtain⟨n,rfl⟩:∃m,n=m+1:=⟨n-1,by omega⟩
 rw[wU]at i1;have e1:=hk q hlt;have le1:=e1.le;have a1:=Hk q hlt (by rw[i2.deep,hd]);have a2:=mG (bs [44]) _ e1.lt hl;generalize (ki q).1=T at*
 generalize (ki q).2=q1 at*
 simp;refine gU [0] a1 ?_;simp;refine⟨by omega,?_⟩;refine gU [0] a2 ?_;by_cases q2:(iG L (bs [44]) q1).1=true
 ·rw[aC q2]at i1;have hat:=(take_at q2).1;have e2:=e1.trans (iw hL e1.lt (s:=bs [44]));generalize (iG L (bs [44]) q1).2=q3 at*
  simp[q2];refine fJ (n,l++[T],q3) [0,1,4] ⟨i1,i2.trans e2,by simp only;omega,by simp;omega⟩ (by simp) ?_;simp;exact aD (by simp)
 ·rw[aB q2,lN q2]at i1;rw[lN q2,<-i1];rw[aL]at q2;have a3:=oN hL (bs [93]) _ e1.lt hl;have z:take l.length (List.map ((λx=>List.map AC.d x)∘gq.enc) l)=List.map ((λx=>List.map AC.d x)∘gq.enc) l:=aD (by simp);simp[q2];refine fe [4] ?_;simp[iT,z];refine gU [0] a3 ?_;have z2:take (l.length+1) (l.map gq.enc++[T.enc])=l.map gq.enc++[T.enc]:=aD (by simp);simp[iT,z];exact fT [0] [1] (by simp[iT,z,z2])
theorem zDO(hL:jL L)(hl:L.length<=10000){d:Nat}{ex:PS->gz × PS}(he:iD L ex)(He:nW L 126 d ex)(k:Int)(q0 p:PS)(h:p.at'<L.length)(hd:p.deep=d):
  MCall Pg 234 [.c (.ptr 0 0),.ag [.d (.int .i64 k),.d (.str (bs [])),.d (.int .i64 0),.d (.int .i64 (iL L q0).line),.d (.int .i64 (iL L q0).col),.d (.sl true 4 []),.d (.sl true 1 []),.d (.sl true 8 [])]] [kE L p] (.ag ((vQ L ex q0 p).1.enc.map .d)) [kE L (vQ L ex q0 p).2]:=by
 refine zAQ nE λts hts ok hb c hN hp=>?_;obtain⟨t,rfl⟩:=mF hts;have a1:=mG (bs [125]) p h hl;unfold UI vQ;simp;refine gU [0] a1 ?_;by_cases q1:(iG L (bs [125]) p).1=true
 ·rw[aC q1];simp[q1];exact fO [0] [1] (by simp[pU,encS])
 ·rw [aB q1,lN q1];rw[aL]at q1;have hg:=zU h;have hnx:p.e=0->(iL L p).kind=1->L[p.at'+1]?=some (L.getD (p.at'+1) yB):=λ_ k1=>by
   have hlt:p.at'+1<L.length:=hL.mid _ h (by unfold iL at k1;omega);rw[aH,aA hlt];try rfl
  have hnn:(0:Int)<=(p.at':Int)+1:=by omega
  have hw:IntKind.i64.wrap ((p.at':Int)+1)=((p.at'+1:Nat):Int):=by rw[wI];omega
  generalize hN1:L.getD (p.at'+1) yB=N at*
  by_cases q2:p.e≠0\/(iL L p).kind≠1\/N.kind≠5\/N.text≠bs [58]
  ·rw [aC q2];have t1:=he p h;have t2:=t1.trans (jH hL t1.lt (s:=Cu));have t3:=t2.trans (mE hL t2.lt);have t4:=t3.trans (jH hL t3.lt (s:=bs [58]));have t5:=t4.trans (he _ t4.lt);have b1:=He p h hd;have b2:=oN hL Cu _ t1.lt hl;have b3:=xQ _ t2.lt hl;have b4:=oN hL (bs [58]) _ t3.lt hl;have b5:=He _ t4.lt (by rw[t4.deep,hd]);have b6:=oN hL (bs [125]) _ t5.lt hl;simp only;generalize (ex p).1=A at*
   generalize (ex p).2=p1 at*
   generalize jO L Cu p1=p2 at*
   generalize (jK L p2).1=s at*
   generalize (jK L p2).2=p3 at*
   generalize jO L (bs [58]) p3=p4 at*
   generalize (ex p4).1=B at*
   generalize (ex p4).2=p5 at*
   generalize jO L (bs [125]) p5=p6 at*
   generalize iL L p=T at*
   have hcs:p.e≠0\/(p.e=0/\T.kind≠1)\/(p.e=0/\T.kind=1/\N.kind≠5)\/(p.e=0/\T.kind=1/\N.kind=5/\N.text≠bs [58]):=by
    by_cases x1:p.e=0
    ·by_cases x2:T.kind=1
     ·by_cases x3:N.kind=5
      ·rcases q2 with q2|q2|q2|q2
       ·exact absurd x1 q2
       ·exact absurd x2 q2
       ·exact absurd x3 q2
       ·exact .inr (.inr (.inr ⟨x1,x2,x3,q2⟩))
      ·exact .inr (.inr (.inl ⟨x1,x2,x3⟩))
     ·exact .inr (.inl ⟨x1,x2⟩)
    ·exact .inl x1
   have hw:IntKind.i64.wrap ((p.at':Int)+1)=((p.at'+1:Nat):Int):=hw;rcases hcs with x1|⟨x1,x2⟩|⟨x1,x2,x3⟩|⟨x1,x2,x3,x4⟩
   ·simp[q1,hg,x1];refine⟨by decide,?_⟩;refine⟨by decide,?_⟩;refine gY [0] b1 (by simp[x1]) ?_;simp;refine gU [0] b2 ?_;simp;refine gU [0] b3 ?_;simp;refine gU [0] b4 ?_;simp;refine gU [0] b5 ?_;simp;refine gU [0] b6 ?_;simp;exact fO [0] [1] (by simp[pU,encS])
   ·simp[q1,hg,x1,x2];refine⟨by decide,?_⟩;refine⟨by decide,?_⟩;refine gY [0] b1 (by simp[x1]) ?_;simp;refine gU [0] b2 ?_;simp;refine gU [0] b3 ?_;simp;refine gU [0] b4 ?_;simp;refine gU [0] b5 ?_;simp;refine gU [0] b6 ?_;simp;exact fO [0] [1] (by simp[pU,encS])
   ·have hn:=hnx x1 x2;simp[q1,hg,x1,x2,x3,hn,hw,hnn];refine⟨by decide,?_⟩;refine⟨by decide,?_⟩;refine gY [0] b1 (by simp[x1]) ?_;simp;refine gU [0] b2 ?_;simp;refine gU [0] b3 ?_;simp;refine gU [0] b4 ?_;simp;refine gU [0] b5 ?_;simp;refine gU [0] b6 ?_;simp;exact fO [0] [1] (by simp[pU,encS])
   ·have hn:=hnx x1 x2;simp[q1,hg,x1,x2,x3,x4,hn,hw,hnn];refine⟨by decide,?_⟩;refine⟨by decide,?_⟩;refine gY [0] b1 (by simp[x1]) ?_;simp;refine gU [0] b2 ?_;simp;refine gU [0] b3 ?_;simp;refine gU [0] b4 ?_;simp;refine gU [0] b5 ?_;simp;refine gU [0] b6 ?_;simp;exact fO [0] [1] (by simp[pU,encS])
  ·rw[aB q2];have x1:p.e=0:=by
    apply bE;intro x;exact q2 (.inl x)
   have x2:(iL L p).kind=1:=by
    apply bE;intro x;exact q2 (.inr (.inl x))
   have x3:N.kind=5:=by
    apply bE;intro x;exact q2 (.inr (.inr (.inl x)))
   have x4:N.text=bs [58]:=by
    apply bE;intro x;exact q2 (.inr (.inr (.inr x)))
   have hn:=hnx x1 x2;obtain⟨F0,hF0⟩:∃F0,uT L ex (L.length+1) [] [] p=F0:=⟨_,rfl⟩
   simp only;rw[hF0];simp[q1,hg,x1,x2,x3,x4,hn,hw,hnn];refine⟨by decide,?_⟩;refine⟨by decide,?_⟩;refine fo [.c 2 6,.c 2 7] ?_;simp
   refine fU iC hp (λx:Nat × List fI × List gz × PS=>uT L ex x.1 x.2.1 x.2.2.1 x.2.2.2=F0/\Tm L p x.2.2.2/\L.length<x.1+x.2.2.2.at'/\x.2.1.length=x.2.2.1.length/\x.2.1.length<=x.2.2.2.at')
    (λx=>[(0,.c (.ptr 0 0)),(3,.c (.ptr 2 0)),(4,.c (.ptr 3 0))])
    (λx=>[kE L x.2.2.2,.pin t 0,.box [.d (.int .i64 8),.d (.str (bs [])),.d (.int .i64 0),.d (.int .i64 (iL L q0).line),.d (.int .i64 (iL L q0).col),.d (.sl true 4 []),.msl 1 4 0 x.2.1.length,.msl 8 5 0 x.2.2.1.length],y9,.arr 1 ((encS x.2.1).map (·.map .d)),.arr 8 ((x.2.2.1.map gz.enc).map (·.map .d))])
    (λx=>x.1) (L.length+1,[],[],p) [0,1,2,3,5,6] ⟨hF0,Tm.refl h,by simp only;omega,rfl,by simp⟩ (by simp[encS,x1]) λ⟨n,ns,ks,q⟩ ⟨i1,i2,i3,i4,i5⟩=>?_
   unfold UH;simp only at i1 i2 i4 i5;have i3:L.length<n+q.at':=i3;have hlt:=i2.lt;obtain⟨n,rfl⟩:∃m,n=m+1:=⟨n-1,by omega⟩
   rw[uT]at i1;have e1:=mE hL hlt;have e2:=e1.trans (jH hL e1.lt (s:=bs [58]));have e3:=e2.trans (he _ e2.lt);have e4:=e3.trans (iw hL e3.lt (s:=bs [44]));have c1:=xQ q hlt hl;have c2:=oN hL (bs [58]) _ e1.lt hl;have c3:=He _ e2.lt (by rw[e2.deep,i2.deep,hd]);have c4:=mG (bs [44]) _ e3.lt hl;generalize (jK L q).1=s1 at*
   generalize (jK L q).2=q1' at*
   generalize jO L (bs [58]) q1'=q2' at*
   generalize (ex q2').1=k1 at*
   generalize (ex q2').2=q3' at*
   simp;refine gU [0] c1 ?_;simp;refine gU [0] c2 ?_;simp;refine gU [0] c3 ?_;simp;refine⟨by omega,by omega,?_⟩;refine gU [0] c4 ?_;by_cases q5:(iG L (bs [44]) q3').1=true
   ·rw[aC q5]at i1;have ha:=(take_at q5).1;have hb':=e3.le;simp[q5];refine fJ (n,ns++[s1],ks++[k1],(iG L (bs [44]) q3').2) [0,1,2,3,7,8] ⟨i1,i2.trans e4,by simp only;omega,by simp[i4],by simp;omega⟩ (by simp) ?_;simp;exact⟨aD (by simp),aD (by simp)⟩
   ·rw[aB q5,lN q5]at i1;rw[<-i1];have c5:=oN hL (bs [125]) _ e3.lt hl;rw[lN q5];rw[aL]at q5;simp[q5];refine fe [7,8] ?_;have k1':take ns.length (List.map (λx=>List.map AC.d x) (encS ns))=List.map (λx=>List.map AC.d x) (encS ns):=aD (by simp);have k2':take ks.length (List.map ((λx=>List.map AC.d x)∘gz.enc) ks)=List.map ((λx=>List.map AC.d x)∘gz.enc) ks:=aD (by simp);simp[iT,k1',k2'];refine gU [0] c5 ?_;simp[iT,k1',k2'];have z1:D.erdE (take (ns.length+1) (encS ns++[[D.str s1]]))=encS ns++[[D.str s1]]:=by
     rw[aD (by simp)];simpa only[UY,UZ]using A8 (ns++[s1])
    have z2:D.erdE (take (ks.length+1) (ks.map gz.enc++[k1.enc]))=ks.map gz.enc++[k1.enc]:=by
     rw[aD (by simp)];simpa using zID (ks++[k1])
    exact fO [0] [1] (by simp[pU,iT,k1',k2',z1,z2])
end
theorem uW(s:fI):s.data.toList.length=s.size:=by rw[cz];try rfl
theorem xS{s:fI}{j:Nat}(h:j<s.data.toList.length):s.data[j]?=some s.data.toList[j]:=by
 simp at h⊢
theorem wrap_u64{n:Int}(h1:0<=n)(h2:n<=18446744073709551615):IntKind.u64.wrap n=n:=Kt (by simpa[IntKind.min,IntKind.bits,IntKind.signed]using h1) (by simpa[IntKind.max,IntKind.bits,IntKind.signed]using h2)
theorem wrap_u8{n:Int}(h1:0<=n)(h2:n<=255):IntKind.u8.wrap n=n:=Kt (by simpa[IntKind.min,IntKind.bits,IntKind.signed]using h1) (by simpa[IntKind.max,IntKind.bits,IntKind.signed]using h2)
theorem zGW(j:Nat):10^(j+1)=10*10^j:=by rw[Nat.pow_succ];omega
theorem Ua(s:fI):gu Pg 176 [.one (.str s)] (.tup [.one (.int .i64 (xJ s).1),.one (.bool (xJ s).2)]):=by
 refine zB3 (by simp) λo c hN hp=>?_;have hs:s.size<=zah:=by have:=o.1;simpa only[DV.ok,D.ok]using this
 unfold zah at hs;have hlen:=uW s;unfold TE;by_cases h0:s.size=0
 ·have e:xJ s=(0,false):=by unfold xJ Bd;rw[aC (by left;omega)]
  have h0':(s.size:Int)=0:=by omega
  rw[e];simp[h0,h0']
 by_cases h19:19<s.size
 ·have e:xJ s=(0,false):=by unfold xJ Bd;rw[aC (by right;left;omega)]
  have h0':¬(s.size:Int)=0:=by omega
  have h19':(19:Int)<s.size:=by omega
  rw[e];simp[h0,h0',h19']
 have h0':¬(s.size:Int)=0:=by omega
 have h19':¬(19:Int)<s.size:=by omega
 have hj0:0<s.data.toList.length:=by omega
 have hb0:=xS hj0;have hd0:s.data.toList.head?=some s.data.toList[0]:=by
  rw[head?_eq_getElem?,aA hj0]
 generalize hB:s.data.toList[0]=b0 at hb0 hd0;by_cases hz:b0=48/\1<s.size
 ·have e:xJ s=(0,false):=by unfold xJ Bd;rw[aC (by right;right;rw[hd0,hz.1];exact⟨rfl,by omega⟩)]
  have h1:(1:Int)<s.size:=by omega
  rw[e];simp[h0,h0',h19',hb0,hz.1,h1]
 have hz':¬((b0.toNat:Int)=48/\(1:Int)<s.size):=by
  rintro⟨x,y⟩
  exact hz ⟨by apply df.mp;simpa using (by omega:b0.toNat=48),by omega⟩
 have e:xJ s=match uR s.data.toList 0 with
  |none=>(0,false)
  |some n=>if 9223372036854775807<n then(0,false)else((n:Int),true):=by
  unfold xJ Bd;have hn:¬(s.data.toList.length=0\/19<s.data.toList.length\/(s.data.toList.head?=some 48/\1<s.data.toList.length)):=by
   rintro(x|x|⟨x,y⟩)
   ·omega
   ·omega
   ·rw[hd0]at x;exact hz ⟨by simpa using x,by omega⟩
  rw[aB hn];cases uR s.data.toList 0<;>rfl
 rw[e];have hgo:∀K:Prop,K=K:=λ_=>rfl;by_cases q1:(b0.toNat:Int)=48<;>by_cases q2:(1:Int)<s.size
 ·exact absurd ⟨q1,q2⟩ hz'
 all_goals
  simp[h0,h0',h19',hb0,q1,q2];refine fU iC hp (λx:Nat × Nat=>x.1<=s.size/\x.2<10^x.1/\uR (s.data.toList.drop x.1) x.2=uR s.data.toList 0) (λx=>[(0,.c (.d (.str s))),(4,.c (.d (.int .u64 x.2))),(5,.c (.d (.int .i64 x.1)))]) (λ_=>[]) (λx=>s.size-x.1) (0,0) [] ⟨by simp,by simp,by simp⟩ (by simp) λ⟨j,n⟩ ⟨i1,i2,i3⟩=>?_;unfold TD;simp only at i1 i2 i3;simp;apply gT<;>intro h
  ·have hj:j<s.size:=by simpa using h
   have hj':j<s.data.toList.length:=by omega
   rw[aF hj',uR]at i3;have hb:=xS hj';generalize s.data.toList[j]=b at i3 hb;by_cases d1:(b.toNat:Int)<48
   ·have hd:¬kJ b=true:=by unfold kJ pQ;simp;omega
    rw[aB hd]at i3;rw[<-i3];simp[hb,d1]
   ·by_cases d2:(57:Int)<b.toNat
    ·have hd:¬kJ b=true:=by unfold kJ pQ;simp;omega
     rw[aB hd]at i3;rw[<-i3];simp[hb,d1,d2]
    ·have hd:kJ b=true:=by unfold kJ pQ;simp;omega
     rw[aC hd]at i3;have hpw:10^(j+1)<=10^19:=Nat.pow_le_pow_right (by omega) (by omega);have hps:=zGW j;have w1:IntKind.u64.wrap (10*(n:Int))=((10*n:Nat):Int):=by rw[wrap_u64 (by omega) (by omega)];omega
     have w2:IntKind.u8.wrap ((b.toNat:Int)-48)=((b.toNat-48:Nat):Int):=by rw[wrap_u8 (by omega) (by omega)];omega
     have w3:IntKind.u64.wrap (((b.toNat-48:Nat):Int))=((b.toNat-48:Nat):Int):=by rw[wrap_u64 (by omega) (by omega)]
     have w4:IntKind.u64.wrap (((10*n:Nat):Int)+((b.toNat-48:Nat):Int))=((10*n+(b.toNat-48):Nat):Int):=by rw[wrap_u64 (by omega) (by omega)];omega
     simp[hb,d1,d2];refine fJ (j+1,10*n+(b.toNat-48)) [] ⟨by simp only;omega,by simp only;omega,i3⟩ (by simp only;omega) ?_;simp only[w1,w2,w3,w4];simp;exact wI
  ·have hj:j=s.size:=by simp at h;omega
   subst hj;rw[bF (by omega),uR]at i3;rw[<-i3];simp only;have hpw:10^s.size<=10^19:=Nat.pow_le_pow_right (by omega) (by omega);by_cases hm:9223372036854775807<n
   ·have hm':(9223372036854775807:Int)<n:=by omega
    rw[aC hm];simp[hm,hm']
   ·have hm':¬(9223372036854775807:Int)<n:=by omega
    rw[aB hm];simp[hm,hm'];exact wI
end Go.Gr
namespace Go.Gr
open Go.Abs Go.Proofs
section
variable {L:List Tok}
theorem zG5(hL:jL L)(hl:L.length<=10000){d:Nat}{ki:PS->gq × PS}{ex:PS->gz × PS}(hk:iD L ki)(Hk:qJ L d ki)(he:iD L ex)(He:nW L 126 d ex):
  nW L 227 d (xN L ki ex):=by
 intro p h hd;refine zDL nE λts hts ok hb c hN hp=>?_;obtain⟨t,rfl⟩:=mF hts;have a0:=EQ (L:=L) 2 p h;have hg:=zU h;have hw:IntKind.i64.wrap ((p.at':Int)+1)=((p.at'+1:Nat):Int):=by rw[wI];omega
 have hpz:=Ua (iL L p).text;unfold UE xN FQ;simp only;by_cases c1:p.e=0/\(iL L p).kind=3
 ·rw[aC c1];obtain⟨x1,x2⟩:=c1;simp;refine gU [0] a0 ?_;simp[hg,x1,x2,hw];refine⟨by decide,?_⟩;refine gp hpz ?_;simp;exact fO [0] [1] (by simp[pU,encS,x1])
 rw[aB c1];by_cases c2:p.e=0/\(iL L p).kind=4
 ·rw[aC c2];obtain⟨x1,x2⟩:=c2;simp;refine gU [0] a0 ?_;simp[hg,x1,x2,hw];refine⟨by decide,?_⟩;exact fO [0] [1] (by simp[pU,encS,x1])
 rw[aB c2];have d1:=mG Cv p h hl;have d2:=mG Cw p h hl;have d3:=mG Cx p h hl;have d4:=mG yZ p h hl;have d5:=mG yC p h hl;have d6:=mG (bs [40]) p h hl;have d7:=mG (bs [123]) p h hl;have d8:=xQ p h hl;have n1:p.e=0->¬(iL L p).kind=3:=λx y=>c1 ⟨x,y⟩;have n2:p.e=0->¬(iL L p).kind=4:=λx y=>c2 ⟨x,y⟩;simp;refine gU [0] a0 ?_;by_cases x:p.e=0;simp[hg,x,n1 x,n2 x];rotate_left;simp[hg,x]
 all_goals
  refine⟨by decide,?_⟩;refine gY [0] d1 (by simp[x]) ?_;by_cases q1:(iG L Cv p).1=true
  ·rw[aC q1];simp[q1];exact fO [0] [1] (by simp[pU,encS])
  rw[aB q1,lN q1];rw[aL]at q1;simp[q1];refine gU [0] d2 ?_;by_cases q2:(iG L Cw p).1=true
  ·rw[aC q2];simp[q2];exact fO [0] [1] (by simp[pU,encS])
  rw[aB q2,lN q2];rw[aL]at q2;simp[q2];refine gU [0] d3 ?_;by_cases q3:(iG L Cx p).1=true
  ·rw[aC q3];simp[q3];exact fO [0] [1] (by simp[pU,encS])
  rw[aB q3,lN q3];rw[aL]at q3;simp[q3];refine gU [0] d4 ?_;by_cases q4:(iG L yZ p).1=true
  ·rw[aC q4];have t1:=iw hL h (s:=yZ);have t2:=t1.trans (jH hL t1.lt (s:=bs [40]));have b1:=oN hL (bs [40]) _ t1.lt hl;have b2:=oN hL (bs [41]) _ t2.lt hl;generalize (iG L yZ p).2=p1 at*
   generalize jO L (bs [40]) p1=p2 at*
   generalize jO L (bs [41]) p2=p3 at*
   simp[q4];refine gU [0] b1 ?_;simp;refine gU [0] b2 ?_;simp;exact fO [0] [1] (by simp[pU,encS])
  rw[aB q4,lN q4];rw[aL]at q4;simp[q4];refine gU [0] d5 ?_;by_cases q5:(iG L yC p).1=true
  ·rw[aC q5];have t1:=iw hL h (s:=yC);have t2:=t1.trans (jH hL t1.lt (s:=bs [40]));have t3:=t2.trans (he _ t2.lt);have b1:=oN hL (bs [40]) _ t1.lt hl;have b2:=He _ t2.lt (by rw[t2.deep,hd]);have b3:=oN hL (bs [41]) _ t3.lt hl;generalize (iG L yC p).2=p1 at*
   generalize jO L (bs [40]) p1=p2 at*
   generalize (ex p2).1=A at*
   generalize (ex p2).2=p3 at*
   generalize jO L (bs [41]) p3=p4 at*
   simp[q5];refine gU [0] b1 ?_;simp;refine gU [0] b2 ?_;simp;refine gU [0] b3 ?_;simp;exact fO [0] [1] (by simp[pU,encS])
  rw[aB q5,lN q5];rw[aL]at q5;simp[q5];refine gU [0] d6 ?_;by_cases q6:(iG L (bs [40]) p).1=true
  ·rw[aC q6];have t1:=iw hL h (s:=bs [40]);have t2:=t1.trans (he _ t1.lt);have b1:=He _ t1.lt (by rw[t1.deep,hd]);have b2:=oN hL (bs [41]) _ t2.lt hl;generalize (iG L (bs [40]) p).2=p1 at*
   generalize (ex p1).1=A at*
   generalize (ex p1).2=p2 at*
   generalize jO L (bs [41]) p2=p3 at*
   simp[q6];refine gU [0] b1 ?_;simp;refine gU [0] b2 ?_;simp;exact fQ [0] [1]
  rw[aB q6,lN q6];rw[aL]at q6;simp[q6];refine gU [0] d7 ?_;by_cases q7:(iG L (bs [123]) p).1=true
  ·rw[aC q7];have t1:=iw hL h (s:=bs [123]);have b1:=zDO hL hl he He 2 p _ t1.lt (by rw[t1.deep,hd]);generalize (iG L (bs [123]) p).2=p1 at*
   generalize (vQ L ex p p1).1=A at*
   generalize (vQ L ex p p1).2=p2 at*
   simp[q7];refine gU [0] b1 ?_;simp;exact fQ [0] [1]
  rw[aB q7,lN q7];rw[aL]at q7;have t1:=mE hL h;have b1:=mG (bs [91]) _ t1.lt hl;generalize (jK L p).1=s1 at*
  generalize (jK L p).2=p1 at*
  simp[q7];refine gU [0] d8 ?_;simp;refine gU [0] b1 ?_;by_cases q8:(iG L (bs [91]) p1).1=true
  ·rw[aC q8];have t2:=t1.trans (iw hL t1.lt (s:=bs [91]));have b2:=zE6 hL hl hk Hk _ t2.lt (by rw[t2.deep,hd]);generalize (iG L (bs [91]) p1).2=p2 at*
   generalize (wU L ki (L.length+1) [] p2).1=T at*
   generalize (wU L ki (L.length+1) [] p2).2=p3 at*
   simp[q8];refine gU [0] b2 ?_;simp;exact fO [0] [1] (by simp[pU,encS])
  rw[aB q8,lN q8];rw[aL]at q8;simp[q8];exact fO [0] [1] (by simp[pU,encS])
theorem Ub(hL:jL L)(hl:L.length<=10000):∀(n:Nat) (d:Nat),d<=100->101<=d+n->nW L 126 d (uU L (uy L) n).1/\nW L 191 d (uU L (uy L) n).2
|0,d,h1,h2=>by omega
| n+1,d,h1,h2=>by
 have hk:iD L (uy L):=MQ hL 102;have ht:=FX hL hk n;have htn:=FX hL hk (n+1);rw[uU]at htn⊢;by_cases hd:d=100
 ·subst hd;have hr:=FV hL hk ht.2;refine⟨λp h hdp=>?_,λp h hdp=>?_⟩
  ·exact U9 hL hl (MS hL hk ht.1 hr.2.2.2.2.2) p h (by omega) (λq=>absurd q (by omega))
  ·exact U8 hL hl hk ht.1 ht.2 p h (by omega) (λq=>absurd q (by omega)) (λq=>absurd q (by omega))
 ·have ih:=Ub hL hl n (d+1) (by omega) (by omega);have Hk:qJ L (d+1) (uy L):=λr hr hd=>M3 hL hl 102 r hr (by omega) (by omega);have Ha:=zG5 hL hl hk Hk ht.1 ih.1;have Hp:=zGL hL hl (Ik hL hk ht.1) Ha ht.1 ih.1;have H6:=zEO ih.2;have hr:=FV hL hk ht.2;have H5:=F3 hL hl (k:=5) (by decide) (by decide) ht.2 H6;have H4:=F3 hL hl (k:=4) (by decide) (by decide) hr.1 H5;have H3:=F3 hL hl (k:=3) (by decide) (by decide) hr.2.1 H4;have H2:=zEP (zHI hL hl hk Hk hr.2.2.1 H3);have H1:=F3 hL hl (k:=1) (by decide) (by decide) hr.2.2.2.1 H2;have H0:=F3 hL hl (k:=0) (by decide) (by decide) hr.2.2.2.2.1 H1;refine⟨λp h hdp=>?_,λp h hdp=>?_⟩
  ·subst hdp;exact U9 hL hl (MS hL hk ht.1 hr.2.2.2.2.2) p h (by omega) (λ_ q hq hdq=>zF9 hL hl hk Hk ht.1 ih.1 H0 q hq hdq)
  ·subst hdp;exact U8 hL hl hk ht.1 ht.2 p h (by omega) (λ_=>ih.2) (λ_=>Hp)
end
end Go.Gr
