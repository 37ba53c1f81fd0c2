/- Texts of ours, joined and written short by a program of ours. -/
import Derived.Test.YtnefbdgcccgodaaGreatJ09
set_option linter.unusedVariables false
set_option linter.unusedSimpArgs false
namespace Go.Gr
open Go.Abs Go.Proofs
section
variable {L : List Tok}
abbrev cmpS : List ByteArray := [bs [60], bs [60, 61], bs [61, 61]]
set_option maxRecDepth 20000 in
set_option maxHeartbeats 2000000 in
theorem zut (hL : OkL L) (hl : L.length <= 10000) {d : Nat} {ki : PS -> Typ × PS} {rk : PS -> Nod × PS} (hk : Tame L ki) (Hk : KiOk L d ki) (hr : Tame L rk) (Hr : RkOk L d 3 rk) :
  NoOk L F.gp_cmp d (cmpP L ki rk) := by
 intro p h hd
 refine zrV ⟨by simp, by simp, by simp, by simp, by simp, by simp, by simp⟩ fun ts hts ok hb c hN hp => ?_
 obtain ⟨t, rfl⟩ := zaR hts
 have c1 := Hr p h hd
 have t1 := hr p h
 have a0 := zfP (L := L) 14 _ t1.lt
 obtain ⟨F0, hF0⟩ : ∃ F0, cmpP L ki rk p = F0 := ⟨_, rfl⟩
 rw [hF0]
 unfold cmpP at hF0
 simp only at hF0
 rw [show rk p = ((rk p).1, (rk p).2) from rfl] at hF0
 simp only at hF0
 generalize (rk p).1 = A at *
 generalize (rk p).2 = p1 at *
 have hd1 : p1.deep = d := by rw [t1.deep, hd]
 unfold zmf
 simp
 refine zaa.mk [0] c1 (by simp) ?_
 simp
 refine zaa.mk [0] a0 (by simp) ?_
 simp
 refine W.loop Pg_mixed hp (fun j : Nat => j <= 3 /\ zcW L (cmpS.drop j) p1 = zcW L cmpS p1)
  (fun j => [(0, .c (.ptr 0 0)), (2, .c (.ptr 2 0)), (3, .c (.ptr 3 0)), (4, .c (.ptr 4 0)), (5, .c (.d (.sl true 1 (encS cmpS)))), (6, .c (.d (.int .i64 j)))])
  (fun j => [psB L p1, .pin t 0, box8, .box (A.enc.map .d), .box [.d (.int .i64 14), .d (.str (bs [])), .d (.int .i64 0), .d (.int .i64 (curT L p1).line), .d (.int .i64 (curT L p1).col), .d (.sl true 4 []), .d (.sl true 1 []), .d (.sl true 8 [])]])
  (fun j => 3 - j) 0 [0, 1, 2, 3, 4] ⟨by simp, rfl⟩ (by simp [encS]) fun j ⟨i1, i2⟩ => ?_
 unfold lp_gp_cmp_0
 have hsl : cmpS.length = 3 := rfl
 simp [hsl]
 refine gd.mk (fun h3 => ?_) (fun h3 => ?_)
 ·have hj : j < cmpS.length := by simp at h3; omega
  have hj' : j < 3 := by omega
  rw [List.drop_eq_getElem_cons hj, zcW] at i2
  have hg : cmpS[j]? = some cmpS[j] := List.getElem?_eq_getElem hj
  have ht := zaD cmpS[j] p1 t1.lt hl
  generalize cmpS[j] = s at *
  simp [hg]
  refine zaa.mk [0] ht (by simp) ?_
  by_cases q : (zab L s p1).1 = true
  ·rw [if_pos q] at i2
   rw [<- i2] at hF0
   have hF0 : (mkN L p1 14 s 0 [] [] [A, (rk (zab L s p1).2).1], (rk (zab L s p1).2).2) = F0 := hF0
   rw [<- hF0]
   have e1 := zah hL t1.lt (s := s)
   have a2 := Hr _ e1.lt (by rw [e1.deep, hd1])
   simp only
   generalize (zab L s p1).2 = p2 at *
   generalize (rk p2).1 = B at *
   generalize (rk p2).2 = p3 at *
   simp [q]
   refine zaa.mk [0] a2 (by simp) ?_
   simp [hg]
   exact EndM.mkE [0] [1] (by simp [zaN, encS])
  ·rw [if_neg q] at i2
   rw [zaE q]
   rw [Bool.not_eq_true] at q
   simp [q]
   refine Abs.Next.mk (j + 1) [0, 1, 2, 3, 4] ⟨by omega, i2⟩ (by omega) ?_
   simp
   exact wrap_i64 (by omega) (by omega)
 ·have hj : j = 3 := by simp at h3; omega
  subst hj
  have i2 : zcW L cmpS p1 = none := by rw [<- i2]; try rfl
  rw [i2] at hF0
  simp only at hF0
  have b1 := zaD (bs [97, 115]) p1 t1.lt hl
  simp
  refine zaa.mk [0] b1 (by simp) ?_
  by_cases q1 : (zab L (bs [97, 115]) p1).1 = true
  ·rw [if_pos q1] at hF0
   have e1 := zah hL t1.lt (s := bs [97, 115])
   have a2 := Hk _ e1.lt (by rw [e1.deep, hd1])
   rw [<- hF0]
   simp only
   generalize (zab L (bs [97, 115]) p1).2 = p2 at *
   generalize (ki p2).1 = T at *
   generalize (ki p2).2 = p3 at *
   simp [q1]
   refine zaa.mk [0] a2 (by simp) ?_
   simp
   exact EndM.mkE [0] [1] (by simp [zaN, encS])
  ·rw [if_neg q1] at hF0
   rw [zaE q1]
   rw [Bool.not_eq_true] at q1
   have b2 := zaD (bs [105, 115]) p1 t1.lt hl
   simp [q1]
   refine zaa.mk [0] b2 (by simp) ?_
   by_cases q2 : (zab L (bs [105, 115]) p1).1 = true
   ·rw [if_pos q2] at hF0
    have e1 := zah hL t1.lt (s := bs [105, 115])
    generalize (zab L (bs [105, 115]) p1).2 = p2 at *
    simp [q2]
    refine W.loop Pg_mixed hp (fun j : Nat => j <= 6 /\ zco L j (zdd.drop j) p2 = zco L 0 zdd p2)
     (fun j => [(0, .c (.ptr 0 0)), (2, .c (.ptr 2 0)), (4, .c (.ptr 4 0)), (9, .c (.d (.sl true 1 (encS zdd)))), (10, .c (.d (.int .i64 j)))])
     (fun j => [psB L p2, .pin t 0, box8, .box (A.enc.map .d), .box [.d (.int .i64 12), .d (.str (bs [])), .d (.int .i64 0), .d (.int .i64 (curT L p1).line), .d (.int .i64 (curT L p1).col), .d (.sl true 4 []), .d (.sl true 1 []), .d (.sl true 8 [A.enc])]])
     (fun j => 6 - j) 0 [0, 1, 2, 3, 4] ⟨by simp, rfl⟩ (by simp [encS, zdd]) fun j ⟨j1, j2⟩ => ?_
    unfold zjd
    have htl : zdd.length = 6 := rfl
    simp [htl]
    refine gd.mk (fun h6 => ?_) (fun h6 => ?_)
    ·have hj : j < zdd.length := by simp at h6; omega
     have hj' : j < 6 := by omega
     rw [List.drop_eq_getElem_cons hj, zco] at j2
     have hg : zdd[j]? = some zdd[j] := List.getElem?_eq_getElem hj
     have ht := zaD zdd[j] p2 e1.lt hl
     generalize zdd[j] = s at *
     simp [hg]
     refine zaa.mk [0] ht (by simp) ?_
     by_cases q : (zab L s p2).1 = true
     ·rw [if_pos q] at j2
      rw [<- j2] at hF0
      have hF0 : (mkN L p1 12 (bs []) j [] [] [A], (zab L s p2).2) = F0 := hF0
      rw [<- hF0]
      simp [q]
      exact EndM.mkE [0] [1] (by simp [zaN, encS])
     ·rw [if_neg q] at j2
      rw [zaE q]
      rw [Bool.not_eq_true] at q
      simp [q]
      refine Abs.Next.mk (j + 1) [0, 1, 2, 3, 4] ⟨by omega, j2⟩ (by omega) ?_
      simp
      exact wrap_i64 (by omega) (by omega)
    ·have hj : j = 6 := by simp at h6; omega
     subst hj
     have j2 : zco L 0 zdd p2 = none := by rw [<- j2]; try rfl
     rw [j2] at hF0
     have hF0 : (mkN L p1 12 (bs []) 0 [] [] [A], zcx L 7 p2) = F0 := hF0
     rw [<- hF0]
     have b3 := ze8 (L := L) 7 p2 e1.lt
     simp
     refine zaa.mk [0] b3 (by simp) ?_
     simp
     exact EndM.mkE [0] [1] (by simp [zaN, encS])
   ·rw [if_neg q2] at hF0
    rw [zaE q2, <- hF0]
    rw [Bool.not_eq_true] at q2
    simp [q2]
    exact EndM.mk [0] [1] (by simp)
end
end Go.Gr
namespace Go.Gr
open Go.Abs Go.Proofs
section
variable {L : List Tok}
set_option maxRecDepth 20000 in
set_option maxHeartbeats 2000000 in
theorem ztu (hL : OkL L) (hl : L.length <= 10000) {d : Nat} {at_ ex : PS -> Nod × PS} (ha : Tame L at_) (Ha : NoOk L F.gp_atom d at_) (he : Tame L ex) (He : NoOk L F.gp_Expr d ex) :
  NoOk L F.gp_post d (fun p => zcz L ex (L.length + 1) (at_ p).1 (at_ p).2) := by
 intro p h hd
 refine zqA ⟨by simp, by simp, by simp, by simp, by simp, by simp, by simp⟩ fun ts hts ok hb c hN hp => ?_
 obtain ⟨t, rfl⟩ := zaR hts
 have c1 := Ha p h hd
 have t1 := ha p h
 simp only
 obtain ⟨F0, hF0⟩ : ∃ F0, zcz L ex (L.length + 1) (at_ p).1 (at_ p).2 = F0 := ⟨_, rfl⟩
 rw [hF0]
 generalize (at_ p).1 = A at *
 generalize (at_ p).2 = p1 at *
 have hd1 : p1.deep = d := by rw [t1.deep, hd]
 unfold zkA
 simp
 refine zaa.mk [0] c1 (by simp) ?_
 simp
 refine W.loop Pg_mixed hp (fun x : Nat × Nod × List D × PS => zcz L ex x.1 x.2.1 x.2.2.2 = F0 /\ Tm L p1 x.2.2.2 /\ L.length < x.1 + x.2.2.2.at' /\ D.erdL x.2.2.1 = x.2.1.enc)
  (fun x => [(0, .c (.ptr 0 0)), (2, .c (.ptr 2 0)), (3, .c (.ptr 3 0))])
  (fun x => [psB L x.2.2.2, .pin t 0, box8, .box (x.2.2.1.map .d)])
  (fun x => x.1) (L.length + 1, A, A.enc, p1) [0, 1, 2, 3] ⟨hF0, Tm.refl t1.lt, by simp only; omega, by simp⟩ (by simp) fun ⟨n, a, v, q⟩ ⟨i1, i2, i3, i5⟩ => ?_
 unfold lp_gp_post_0
 simp only at i1 i2 i5
 have i3 : L.length < n + q.at' := i3
 have hlt := i2.lt
 have hcut := zrG i5
 have hcut' := zpv i5
 have hvl := zkd i5
 obtain ⟨n, rfl⟩ : ∃ m, n = m + 1 := ⟨n - 1, by omega⟩
 rw [zcz] at i1
 have a0 := zfP (L := L) 7 q hlt
 have a1 := zaD (bs [40]) q hlt hl
 simp
 refine zaa.mk [0] a0 (by simp) ?_
 simp
 refine zaa.mk [0] a1 (by simp) ?_
 by_cases q1 : (zab L (bs [40]) q).1 = true
 ·rw [if_pos q1] at i1
  simp only at i1
  have hat := (zaL q1).1
  have e1 := zah hL hlt (s := bs [40])
  have e2 := e1.trans (he _ e1.lt)
  have e3 := e2.trans (zap hL e2.lt (s := bs [41]))
  have le1 := (he _ e1.lt).le
  have le2 := (zap hL e2.lt (s := bs [41])).le
  have a2 := He _ e1.lt (by rw [e1.deep, i2.deep, hd1])
  have a3 := zaI hL (bs [41]) _ e2.lt hl
  generalize (zab L (bs [40]) q).2 = q2 at *
  generalize (ex q2).1 = B at *
  generalize (ex q2).2 = q3 at *
  generalize zax L (bs [41]) q3 = q4 at *
  simp [q1]
  refine zaa.mk [0] a2 (by simp) ?_
  simp
  refine zaa.mk [0] a3 (by simp) ?_
  simp [hvl, hcut, hcut']
  refine Abs.Next.mk (n, mkN L q 7 (bs []) 0 [] [] [a, B], ([.int .i64 7, .str (bs []), .int .i64 0, .int .i64 (curT L q).line, .int .i64 (curT L q).col, .sl true 4 [], .sl true 1 [], .sl true 8 [v, B.enc]] : List D), q4) [0, 1, 2, 3] ⟨i1, i2.trans e3, by simp only; omega, ?_⟩ (by simp) ?_
  ·simp [zaN, i5, encS]
  ·simp
 ·rw [if_neg q1] at i1
  rw [zaE q1]
  rw [Bool.not_eq_true] at q1
  have a2 := zaD (bs [46]) q hlt hl
  simp [q1]
  refine zaa.mk [0] a2 (by simp) ?_
  by_cases q2 : (zab L (bs [46]) q).1 = true
  ·rw [if_pos q2] at i1
   simp only at i1
   have hat := (zaL q2).1
   have e1 := zah hL hlt (s := bs [46])
   have e2 := e1.trans (zaK hL e1.lt)
   have le1 := (zaK hL e1.lt).le
   have a3 := zbw _ e1.lt hl
   generalize (zab L (bs [46]) q).2 = q2' at *
   generalize (zaz L q2').1 = s at *
   generalize (zaz L q2').2 = q3 at *
   simp [q2]
   refine zaa.mk [0] a3 (by simp) ?_
   simp [hvl, hcut, hcut']
   refine Abs.Next.mk (n, mkN L q 9 s 0 [] [] [a], ([.int .i64 9, .str s, .int .i64 0, .int .i64 (curT L q).line, .int .i64 (curT L q).col, .sl true 4 [], .sl true 1 [], .sl true 8 [v]] : List D), q3) [0, 1, 2, 3] ⟨i1, i2.trans e2, by simp only; omega, ?_⟩ (by simp) ?_
   ·simp [zaN, i5, encS]
   ·simp
  ·rw [if_neg q2] at i1
   rw [zaE q2, <- i1]
   rw [Bool.not_eq_true] at q2
   simp [q2, hvl, hcut, hcut']
   exact EndM.mkE [0] [1] (by simp [hcut, i5])
set_option maxRecDepth 20000 in
set_option maxHeartbeats 2000000 in
theorem zmk (hL : OkL L) (hl : L.length <= 10000) {ki : PS -> Typ × PS} {ex un : PS -> Nod × PS} (hk : Tame L ki) (he : Tame L ex) (hu : Tame L un) (p : PS) (h : p.at' < L.length) (hd : p.deep <= 100)
  (Hu : p.deep < 100 -> NoOk L F.gp_unary (p.deep + 1) un) (Hp : p.deep < 100 -> NoOk L F.gp_post (p.deep + 1) (zgZ L ki ex)) :
  MCall Pg F.gp_unary [.c (.ptr 0 0)] [psB L p] (.ag ((if (zau L p).1 = true then zcd (zel L ki ex un (zau L p).2) else (noN, (zau L p).2)).1.enc.map .d)) [psB L (if (zau L p).1 = true then zcd (zel L ki ex un (zau L p).2) else (noN, (zau L p).2)).2] := by
 have ce := zhV p h (by omega)
 refine zoZ ⟨by simp, by simp, by simp, by simp, by simp, by simp, by simp⟩ fun ts hts ok hb c hN hp => ?_
 obtain ⟨t, rfl⟩ := zaR hts
 unfold zje
 simp
 refine zaa.mk [0] ce (by simp) ?_
 by_cases q : (zau L p).1 = true
 ·rw [if_pos q]
  obtain ⟨e1, e2, e3⟩ := zb3 q
  have hp1 : (zau L p).2.at' < L.length := by rw [e1]; exact h
  have hd1 : (zau L p).2.deep = p.deep + 1 := by rw [e1]
  have Hu := Hu e2
  have Hp := Hp e2
  have a0 := zfP (L := L) 16 _ hp1
  have a1 := zaD (bs [45]) _ hp1 hl
  unfold zcd zel
  simp only
  generalize (zau L p).2 = p1 at *
  simp [q]
  refine zaa.mk [0] a0 (by simp) ?_
  simp
  refine zaa.mk [0] a1 (by simp) ?_
  by_cases q1 : (zab L (bs [45]) p1).1 = true
  ·rw [if_pos q1]
   have t1 := zah hL hp1 (s := bs [45])
   have t2 := t1.trans (hu _ t1.lt)
   have a2 := Hu _ t1.lt (by rw [t1.deep, hd1])
   have hd3 := t2.deep
   rw [hd1] at hd3
   simp only
   generalize (zab L (bs [45]) p1).2 = p2 at *
   generalize (un p2).1 = A at *
   generalize (un p2).2 = p3 at *
   have hw : IntKind.i64.wrap ((p3.deep : Int) - 1) = ((p3.deep - 1 : Nat) : Int) := by rw [wrap_i64 (by omega) (by omega)]; omega
   simp [q1]
   refine zaa.mk [0] a2 (by simp) ?_
   simp
   exact EndM.mkE [0] [1] (by simp [zaN, encS, hw])
  ·rw [if_neg q1, zaE q1]
   rw [Bool.not_eq_true] at q1
   have a2 := zaD wNot _ hp1 hl
   simp [q1]
   refine zaa.mk [0] a2 (by simp) ?_
   by_cases q2 : (zab L wNot p1).1 = true
   ·rw [if_pos q2]
    have t1 := zah hL hp1 (s := wNot)
    have t2 := t1.trans (hu _ t1.lt)
    have a2 := Hu _ t1.lt (by rw [t1.deep, hd1])
    have hd3 := t2.deep
    rw [hd1] at hd3
    simp only
    generalize (zab L wNot p1).2 = p2 at *
    generalize (un p2).1 = A at *
    generalize (un p2).2 = p3 at *
    have hw : IntKind.i64.wrap ((p3.deep : Int) - 1) = ((p3.deep - 1 : Nat) : Int) := by rw [wrap_i64 (by omega) (by omega)]; omega
    simp [q2]
    refine zaa.mk [0] a2 (by simp) ?_
    simp
    exact EndM.mkE [0] [1] (by simp [zaN, encS, hw])
   ·rw [if_neg q2, zaE q2]
    rw [Bool.not_eq_true] at q2
    have t2 := zpG hL hk he p1 hp1
    have a3 := Hp p1 hp1 hd1
    have hd3 := t2.deep
    rw [hd1] at hd3
    generalize (zgZ L ki ex p1).1 = A at *
    generalize (zgZ L ki ex p1).2 = p3 at *
    have hw : IntKind.i64.wrap ((p3.deep : Int) - 1) = ((p3.deep - 1 : Nat) : Int) := by rw [wrap_i64 (by omega) (by omega)]; omega
    simp [q2]
    refine zaa.mk [0] a3 (by simp) ?_
    simp
    exact EndM.mk [0] [1] (by simp [hw])
 ·rw [if_neg q]
  rw [Bool.not_eq_true] at q
  simp [q]
  exact EndM.mkE [0] [1] (by simp [noN, Nod.enc, Nod.encs, encS])
set_option maxRecDepth 20000 in
set_option maxHeartbeats 2000000 in
theorem znQ (hL : OkL L) (hl : L.length <= 10000) {B : PS -> Nod × PS} (hB : Tame L B) (p : PS) (h : p.at' < L.length) (hd : p.deep <= 100) (HB : p.deep < 100 -> NoOk L F.gp_expr (p.deep + 1) B) :
  MCall Pg F.gp_Expr [.c (.ptr 0 0)] [psB L p] (.ag ((if (zau L p).1 = true then zcd (B (zau L p).2) else (noN, (zau L p).2)).1.enc.map .d)) [psB L (if (zau L p).1 = true then zcd (B (zau L p).2) else (noN, (zau L p).2)).2] := by
 have ce := zhV p h (by omega)
 refine zqy ⟨by simp, by simp, by simp, by simp, by simp, by simp, by simp⟩ fun ts hts ok hb c hN hp => ?_
 obtain ⟨t, rfl⟩ := zaR hts
 unfold zky
 simp
 refine zaa.mk [0] ce (by simp) ?_
 by_cases q : (zau L p).1 = true
 ·rw [if_pos q]
  obtain ⟨e1, e2, e3⟩ := zb3 q
  have hp1 : (zau L p).2.at' < L.length := by rw [e1]; exact h
  have hd1 : (zau L p).2.deep = p.deep + 1 := by rw [e1]
  have HB := HB e2
  have a0 := HB _ hp1 hd1
  have t1 := hB _ hp1
  have hd3 := t1.deep
  rw [hd1] at hd3
  unfold zcd
  simp only
  generalize (zau L p).2 = p1 at *
  generalize (B p1).1 = A at *
  generalize (B p1).2 = p2 at *
  have hw : IntKind.i64.wrap ((p2.deep : Int) - 1) = ((p2.deep - 1 : Nat) : Int) := by rw [wrap_i64 (by omega) (by omega)]; omega
  simp [q]
  refine zaa.mk [0] a0 (by simp) ?_
  simp
  exact EndM.mk [0] [1] (by simp [hw])
 ·rw [if_neg q]
  rw [Bool.not_eq_true] at q
  simp [q]
  exact EndM.mkE [0] [1] (by simp [noN, Nod.enc, Nod.encs, encS])
end
end Go.Gr
namespace Go.Gr
open Go.Abs Go.Proofs
section
variable {L : List Tok}
set_option maxRecDepth 20000 in
set_option maxHeartbeats 2000000 in
theorem zrY (hL : OkL L) (hl : L.length <= 10000) {d : Nat} {ki : PS -> Typ × PS} (hk : Tame L ki) (Hk : KiOk L d ki) (p : PS) (h : p.at' < L.length) (hd : p.deep = d) :
  MCall Pg F.gp_types [.c (.ptr 0 0)] [psB L p] (.c (.d (.sl false 4 ((zb7 L ki (L.length + 1) [] p).1.map Typ.enc)))) [psB L (zb7 L ki (L.length + 1) [] p).2] := by
 refine zo0 ⟨by simp, by simp, by simp, by simp, by simp, by simp, by simp⟩ fun ts hts ok hb c hN hp => ?_
 obtain ⟨t, rfl⟩ := zaR hts
 obtain ⟨F0, hF0⟩ : ∃ F0, zb7 L ki (L.length + 1) [] p = F0 := ⟨_, rfl⟩
 rw [hF0]
 unfold zjf
 simp
 refine owK.mk [.t 3] ?_
 simp
 refine W.loop Pg_mixed hp (fun x : Nat × List Typ × PS => zb7 L ki x.1 x.2.1 x.2.2 = F0 /\ Tm L p x.2.2 /\ L.length < x.1 + x.2.2.at' /\ x.2.1.length <= x.2.2.at')
  (fun x => [(0, .c (.ptr 0 0)), (3, .c (.msl 4 2 0 x.2.1.length))])
  (fun x => [psB L x.2.2, .pin t 0, .arr 4 ((x.2.1.map Typ.enc).map (·.map .d))])
  (fun x => x.1) (L.length + 1, [], p) [0, 1, 2] ⟨hF0, Tm.refl h, by simp only; omega, by simp⟩ (by simp) fun ⟨n, l, q⟩ ⟨i1, i2, i3, i4⟩ => ?_
 unfold lp_gp_types_0
 simp only at i1 i2 i4
 have i3 : L.length < n + q.at' := i3
 have hlt := i2.lt
 obtain ⟨n, rfl⟩ : ∃ m, n = m + 1 := ⟨n - 1, by omega⟩
 rw [zb7] at i1
 have e1 := hk q hlt
 have le1 := e1.le
 have a1 := Hk q hlt (by rw [i2.deep, hd])
 have a2 := zaD (bs [44]) _ e1.lt hl
 generalize (ki q).1 = T at *
 generalize (ki q).2 = q1 at *
 simp
 refine zaa.mk [0] a1 (by simp) ?_
 simp
 refine ⟨by omega, ?_⟩
 refine zaa.mk [0] a2 (by simp) ?_
 by_cases q2 : (zab L (bs [44]) q1).1 = true
 ·rw [if_pos q2] at i1
  have hat := (zaL q2).1
  have e2 := e1.trans (zah hL e1.lt (s := bs [44]))
  generalize (zab L (bs [44]) q1).2 = q3 at *
  simp [q2]
  refine Abs.Next.mk (n, l ++ [T], q3) [0, 1, 4] ⟨i1, i2.trans e2, by simp only; omega, by simp; omega⟩ (by simp) ?_
  simp
  exact List.take_of_length_le (by simp)
 ·rw [if_neg q2, zaE q2] at i1
  rw [zaE q2, <- i1]
  rw [Bool.not_eq_true] at q2
  have a3 := zaI hL (bs [93]) _ e1.lt hl
  have z : List.take l.length (List.map ((fun x => List.map AC.d x) ∘ Typ.enc) l) = List.map ((fun x => List.map AC.d x) ∘ Typ.enc) l := List.take_of_length_le (by simp)
  simp [q2]
  refine fzK.mk [4] ?_
  simp [zas, z]
  refine zaa.mk [0] a3 (by simp) ?_
  have z2 : List.take (l.length + 1) (l.map Typ.enc ++ [T.enc]) = l.map Typ.enc ++ [T.enc] := List.take_of_length_le (by simp)
  simp [zas, z]
  exact EndM.mk [0] [1] (by simp [zas, z, z2])
set_option maxRecDepth 20000 in
set_option maxHeartbeats 2000000 in
theorem zqE (hL : OkL L) (hl : L.length <= 10000) {d : Nat} {ex : PS -> Nod × PS} (he : Tame L ex) (He : NoOk L F.gp_Expr d ex) (k : Int) (q0 p : PS) (h : p.at' < L.length) (hd : p.deep = d) :
  MCall Pg F.gp_record [.c (.ptr 0 0), .ag [.d (.int .i64 k), .d (.str (bs [])), .d (.int .i64 0), .d (.int .i64 (curT L q0).line), .d (.int .i64 (curT L q0).col), .d (.sl true 4 []), .d (.sl true 1 []), .d (.sl true 8 [])]] [psB L p] (.ag ((zbZ L ex q0 p).1.enc.map .d)) [psB L (zbZ L ex q0 p).2] := by
 refine znM ⟨by simp, by simp, by simp, by simp, by simp, by simp, by simp⟩ fun ts hts ok hb c hN hp => ?_
 obtain ⟨t, rfl⟩ := zaR hts
 have a1 := zaD (bs [125]) p h hl
 unfold zhQ zbZ
 simp
 refine zaa.mk [0] a1 (by simp) ?_
 by_cases q1 : (zab L (bs [125]) p).1 = true
 ·rw [if_pos q1]
  simp [q1]
  exact EndM.mkE [0] [1] (by simp [zaN, encS])
 ·rw [if_neg q1, zaE q1]
  rw [Bool.not_eq_true] at q1
  have hg := zcr h
  have hnx : p.e = 0 -> (curT L p).kind = 1 -> L[p.at' + 1]? = some (L.getD (p.at' + 1) zgL) := fun _ k1 => by
   have hlt : p.at' + 1 < L.length := hL.mid _ h (by unfold curT at k1; omega)
   rw [List.getD_eq_getElem?_getD, List.getElem?_eq_getElem hlt]; try rfl
  have hnn : (0 : Int) <= (p.at' : Int) + 1 := by omega
  have hw : IntKind.i64.wrap ((p.at' : Int) + 1) = ((p.at' + 1 : Nat) : Int) := by rw [wrap_i64 (by omega) (by omega)]; omega
  generalize hN1 : L.getD (p.at' + 1) zgL = N at *
  by_cases q2 : p.e ≠ 0 \/ (curT L p).kind ≠ 1 \/ N.kind ≠ 5 \/ N.text ≠ bs [58]
  ·rw [if_pos q2]
   have t1 := he p h
   have t2 := t1.trans (zap hL t1.lt (s := ziI))
   have t3 := t2.trans (zaK hL t2.lt)
   have t4 := t3.trans (zap hL t3.lt (s := bs [58]))
   have t5 := t4.trans (he _ t4.lt)
   have b1 := He p h hd
   have b2 := zaI hL ziI _ t1.lt hl
   have b3 := zbw _ t2.lt hl
   have b4 := zaI hL (bs [58]) _ t3.lt hl
   have b5 := He _ t4.lt (by rw [t4.deep, hd])
   have b6 := zaI hL (bs [125]) _ t5.lt hl
   simp only
   generalize (ex p).1 = A at *
   generalize (ex p).2 = p1 at *
   generalize zax L ziI p1 = p2 at *
   generalize (zaz L p2).1 = s at *
   generalize (zaz L p2).2 = p3 at *
   generalize zax L (bs [58]) p3 = p4 at *
   generalize (ex p4).1 = B at *
   generalize (ex p4).2 = p5 at *
   generalize zax L (bs [125]) p5 = p6 at *
   generalize curT L p = T at *
   have hcs : p.e ≠ 0 \/ (p.e = 0 /\ T.kind ≠ 1) \/ (p.e = 0 /\ T.kind = 1 /\ N.kind ≠ 5) \/ (p.e = 0 /\ T.kind = 1 /\ N.kind = 5 /\ N.text ≠ bs [58]) := by
    by_cases x1 : p.e = 0
    ·by_cases x2 : T.kind = 1
     ·by_cases x3 : N.kind = 5
      ·rcases q2 with q2 | q2 | q2 | q2
       ·exact absurd x1 q2
       ·exact absurd x2 q2
       ·exact absurd x3 q2
       ·exact .inr (.inr (.inr ⟨x1, x2, x3, q2⟩))
      ·exact .inr (.inr (.inl ⟨x1, x2, x3⟩))
     ·exact .inr (.inl ⟨x1, x2⟩)
    ·exact .inl x1
   have hw : IntKind.i64.wrap ((p.at' : Int) + 1) = ((p.at' + 1 : Nat) : Int) := hw
   rcases hcs with x1 | ⟨x1, x2⟩ | ⟨x1, x2, x3⟩ | ⟨x1, x2, x3, x4⟩
   ·simp [q1, hg, x1]
    refine ⟨by decide, ?_⟩
    refine ⟨by decide, ?_⟩
    refine zaa.mk [0] b1 (by simp [x1]) ?_
    simp
    refine zaa.mk [0] b2 (by simp) ?_
    simp
    refine zaa.mk [0] b3 (by simp) ?_
    simp
    refine zaa.mk [0] b4 (by simp) ?_
    simp
    refine zaa.mk [0] b5 (by simp) ?_
    simp
    refine zaa.mk [0] b6 (by simp) ?_
    simp
    exact EndM.mkE [0] [1] (by simp [zaN, encS])
   ·simp [q1, hg, x1, x2]
    refine ⟨by decide, ?_⟩
    refine ⟨by decide, ?_⟩
    refine zaa.mk [0] b1 (by simp [x1]) ?_
    simp
    refine zaa.mk [0] b2 (by simp) ?_
    simp
    refine zaa.mk [0] b3 (by simp) ?_
    simp
    refine zaa.mk [0] b4 (by simp) ?_
    simp
    refine zaa.mk [0] b5 (by simp) ?_
    simp
    refine zaa.mk [0] b6 (by simp) ?_
    simp
    exact EndM.mkE [0] [1] (by simp [zaN, encS])
   ·have hn := hnx x1 x2
    simp [q1, hg, x1, x2, x3, hn, hw, hnn]
    refine ⟨by decide, ?_⟩
    refine ⟨by decide, ?_⟩
    refine zaa.mk [0] b1 (by simp [x1]) ?_
    simp
    refine zaa.mk [0] b2 (by simp) ?_
    simp
    refine zaa.mk [0] b3 (by simp) ?_
    simp
    refine zaa.mk [0] b4 (by simp) ?_
    simp
    refine zaa.mk [0] b5 (by simp) ?_
    simp
    refine zaa.mk [0] b6 (by simp) ?_
    simp
    exact EndM.mkE [0] [1] (by simp [zaN, encS])
   ·have hn := hnx x1 x2
    simp [q1, hg, x1, x2, x3, x4, hn, hw, hnn]
    refine ⟨by decide, ?_⟩
    refine ⟨by decide, ?_⟩
    refine zaa.mk [0] b1 (by simp [x1]) ?_
    simp
    refine zaa.mk [0] b2 (by simp) ?_
    simp
    refine zaa.mk [0] b3 (by simp) ?_
    simp
    refine zaa.mk [0] b4 (by simp) ?_
    simp
    refine zaa.mk [0] b5 (by simp) ?_
    simp
    refine zaa.mk [0] b6 (by simp) ?_
    simp
    exact EndM.mkE [0] [1] (by simp [zaN, encS])
  ·rw [if_neg q2]
   have x1 : p.e = 0 := by
    apply Classical.byContradiction; intro x; exact q2 (.inl x)
   have x2 : (curT L p).kind = 1 := by
    apply Classical.byContradiction; intro x; exact q2 (.inr (.inl x))
   have x3 : N.kind = 5 := by
    apply Classical.byContradiction; intro x; exact q2 (.inr (.inr (.inl x)))
   have x4 : N.text = bs [58] := by
    apply Classical.byContradiction; intro x; exact q2 (.inr (.inr (.inr x)))
   have hn := hnx x1 x2
   obtain ⟨F0, hF0⟩ : ∃ F0, zcX L ex (L.length + 1) [] [] p = F0 := ⟨_, rfl⟩
   simp only
   rw [hF0]
   simp [q1, hg, x1, x2, x3, x4, hn, hw, hnn]
   refine ⟨by decide, ?_⟩
   refine ⟨by decide, ?_⟩
   refine owK.mk [.c 2 6, .c 2 7] ?_
   simp
   refine W.loop Pg_mixed hp (fun x : Nat × List ByteArray × List Nod × PS => zcX L ex x.1 x.2.1 x.2.2.1 x.2.2.2 = F0 /\ Tm L p x.2.2.2 /\ L.length < x.1 + x.2.2.2.at' /\ x.2.1.length = x.2.2.1.length /\ x.2.1.length <= x.2.2.2.at')
    (fun x => [(0, .c (.ptr 0 0)), (3, .c (.ptr 2 0)), (4, .c (.ptr 3 0))])
    (fun x => [psB L x.2.2.2, .pin t 0, .box [.d (.int .i64 8), .d (.str (bs [])), .d (.int .i64 0), .d (.int .i64 (curT L q0).line), .d (.int .i64 (curT L q0).col), .d (.sl true 4 []), .msl 1 4 0 x.2.1.length, .msl 8 5 0 x.2.2.1.length], box8, .arr 1 ((encS x.2.1).map (·.map .d)), .arr 8 ((x.2.2.1.map Nod.enc).map (·.map .d))])
    (fun x => x.1) (L.length + 1, [], [], p) [0, 1, 2, 3, 5, 6] ⟨hF0, Tm.refl h, by simp only; omega, rfl, by simp⟩ (by simp [encS, x1]) fun ⟨n, ns, ks, q⟩ ⟨i1, i2, i3, i4, i5⟩ => ?_
   unfold lp_gp_record_0
   simp only at i1 i2 i4 i5
   have i3 : L.length < n + q.at' := i3
   have hlt := i2.lt
   obtain ⟨n, rfl⟩ : ∃ m, n = m + 1 := ⟨n - 1, by omega⟩
   rw [zcX] at i1
   have e1 := zaK hL hlt
   have e2 := e1.trans (zap hL e1.lt (s := bs [58]))
   have e3 := e2.trans (he _ e2.lt)
   have e4 := e3.trans (zah hL e3.lt (s := bs [44]))
   have c1 := zbw q hlt hl
   have c2 := zaI hL (bs [58]) _ e1.lt hl
   have c3 := He _ e2.lt (by rw [e2.deep, i2.deep, hd])
   have c4 := zaD (bs [44]) _ e3.lt hl
   generalize (zaz L q).1 = s1 at *
   generalize (zaz L q).2 = q1' at *
   generalize zax L (bs [58]) q1' = q2' at *
   generalize (ex q2').1 = k1 at *
   generalize (ex q2').2 = q3' at *
   simp
   refine zaa.mk [0] c1 (by simp) ?_
   simp
   refine zaa.mk [0] c2 (by simp) ?_
   simp
   refine zaa.mk [0] c3 (by simp) ?_
   simp
   refine ⟨by omega, by omega, ?_⟩
   refine zaa.mk [0] c4 (by simp) ?_
   by_cases q5 : (zab L (bs [44]) q3').1 = true
   ·rw [if_pos q5] at i1
    have ha := (zaL q5).1
    have hb' := e3.le
    simp [q5]
    refine Abs.Next.mk (n, ns ++ [s1], ks ++ [k1], (zab L (bs [44]) q3').2) [0, 1, 2, 3, 7, 8] ⟨i1, i2.trans e4, by simp only; omega, by simp [i4], by simp; omega⟩ (by simp) ?_
    simp
    exact ⟨List.take_of_length_le (by simp), List.take_of_length_le (by simp)⟩
   ·rw [if_neg q5, zaE q5] at i1
    rw [<- i1]
    have c5 := zaI hL (bs [125]) _ e3.lt hl
    rw [zaE q5]
    rw [Bool.not_eq_true] at q5
    simp [q5]
    refine fzK.mk [7, 8] ?_
    have k1' : List.take ns.length (List.map (fun x => List.map AC.d x) (encS ns)) = List.map (fun x => List.map AC.d x) (encS ns) := List.take_of_length_le (by simp)
    have k2' : List.take ks.length (List.map ((fun x => List.map AC.d x) ∘ Nod.enc) ks) = List.map ((fun x => List.map AC.d x) ∘ Nod.enc) ks := List.take_of_length_le (by simp)
    simp [zas, k1', k2']
    refine zaa.mk [0] c5 (by simp) ?_
    simp [zas, k1', k2']
    have z1 : D.erdE (List.take (ns.length + 1) (encS ns ++ [[D.str s1]])) = encS ns ++ [[D.str s1]] := by
     rw [List.take_of_length_le (by simp)]
     simpa only [encS_app, znf] using zf2 (ns ++ [s1])
    have z2 : D.erdE (List.take (ks.length + 1) (ks.map Nod.enc ++ [k1.enc])) = ks.map Nod.enc ++ [k1.enc] := by
     rw [List.take_of_length_le (by simp)]
     simpa using zvh (ks ++ [k1])
    exact EndM.mkE [0] [1] (by simp [zaN, zas, k1', k2', z1, z2])
end
end Go.Gr
namespace Go.Gr
open Go.Abs Go.Proofs
theorem zbk (s : ByteArray) : s.data.toList.length = s.size := by rw [Array.length_toList]; try rfl
theorem zcf {s : ByteArray} {j : Nat} (h : j < s.data.toList.length) : s.data[j]? = some s.data.toList[j] := by
 simp at h ⊢
theorem wrap_u64 {n : Int} (h1 : 0 <= n) (h2 : n <= 18446744073709551615) : IntKind.u64.wrap n = n := zll (by simpa [IntKind.min, IntKind.bits, IntKind.signed] using h1) (by simpa [IntKind.max, IntKind.bits, IntKind.signed] using h2)
theorem wrap_u8 {n : Int} (h1 : 0 <= n) (h2 : n <= 255) : IntKind.u8.wrap n = n := zll (by simpa [IntKind.min, IntKind.bits, IntKind.signed] using h1) (by simpa [IntKind.max, IntKind.bits, IntKind.signed] using h2)
theorem ztI (j : Nat) : 10 ^ (j + 1) = 10 * 10 ^ j := by rw [Nat.pow_succ]; omega
set_option maxRecDepth 20000 in
set_option maxHeartbeats 1000000 in
theorem zn2 (s : ByteArray) : PCall Pg F.g01_Parse [.one (.str s)] (.tup [.one (.int .i64 (zce s).1), .one (.bool (zce s).2)]) := by
 refine zoT (by simp) fun o c hN hp => ?_
 have hs : s.size <= zak := by have := o.1; simpa only [DV.ok, D.ok] using this
 unfold zak at hs
 have hlen := zbk s
 unfold zhJ
 by_cases h0 : s.size = 0
 ·have e : zce s = (0, false) := by unfold zce zd9; rw [if_pos (by left; omega)]
  have h0' : (s.size : Int) = 0 := by omega
  rw [e]
  simp [h0, h0']
 by_cases h19 : 19 < s.size
 ·have e : zce s = (0, false) := by unfold zce zd9; rw [if_pos (by right; left; omega)]
  have h0' : ¬ (s.size : Int) = 0 := by omega
  have h19' : (19 : Int) < s.size := by omega
  rw [e]
  simp [h0, h0', h19']
 have h0' : ¬ (s.size : Int) = 0 := by omega
 have h19' : ¬ (19 : Int) < s.size := by omega
 have hj0 : 0 < s.data.toList.length := by omega
 have hb0 := zcf hj0
 have hd0 : s.data.toList.head? = some s.data.toList[0] := by
  rw [List.head?_eq_getElem?, List.getElem?_eq_getElem hj0]
 generalize hB : s.data.toList[0] = b0 at hb0 hd0
 by_cases hz : b0 = 48 /\ 1 < s.size
 ·have e : zce s = (0, false) := by unfold zce zd9; rw [if_pos (by right; right; rw [hd0, hz.1]; exact ⟨rfl, by omega⟩)]
  have h1 : (1 : Int) < s.size := by omega
  rw [e]
  simp [h0, h0', h19', hb0, hz.1, h1]
 have hz' : ¬ ((b0.toNat : Int) = 48 /\ (1 : Int) < s.size) := by
  rintro ⟨x, y⟩
  exact hz ⟨by apply UInt8.toNat_inj.mp; simpa using (by omega : b0.toNat = 48), by omega⟩
 have e : zce s = match numL s.data.toList 0 with
  | none => (0, false)
  | some n => if 9223372036854775807 < n then (0, false) else ((n : Int), true) := by
  unfold zce zd9
  have hn : ¬ (s.data.toList.length = 0 \/ 19 < s.data.toList.length \/ (s.data.toList.head? = some 48 /\ 1 < s.data.toList.length)) := by
   rintro (x | x | ⟨x, y⟩)
   ·omega
   ·omega
   ·rw [hd0] at x
    exact hz ⟨by simpa using x, by omega⟩
  rw [if_neg hn]
  cases numL s.data.toList 0 <;> rfl
 rw [e]
 have hgo : ∀ K : Prop, K = K := fun _ => rfl
 by_cases q1 : (b0.toNat : Int) = 48 <;> by_cases q2 : (1 : Int) < s.size
 ·exact absurd ⟨q1, q2⟩ hz'
 all_goals
  simp [h0, h0', h19', hb0, q1, q2]
  refine W.loop Pg_mixed hp (fun x : Nat × Nat => x.1 <= s.size /\ x.2 < 10 ^ x.1 /\ numL (s.data.toList.drop x.1) x.2 = numL s.data.toList 0) (fun x => [(0, .c (.d (.str s))), (4, .c (.d (.int .u64 x.2))), (5, .c (.d (.int .i64 x.1)))]) (fun _ => []) (fun x => s.size - x.1) (0, 0) [] ⟨by simp, by simp, by simp⟩ (by simp) fun ⟨j, n⟩ ⟨i1, i2, i3⟩ => ?_
  unfold zga
  simp only at i1 i2 i3
  simp
  refine gd.mk (fun h => ?_) (fun h => ?_)
  ·have hj : j < s.size := by simpa using h
   have hj' : j < s.data.toList.length := by omega
   rw [List.drop_eq_getElem_cons hj', numL] at i3
   have hb := zcf hj'
   generalize s.data.toList[j] = b at i3 hb
   by_cases d1 : (b.toNat : Int) < 48
   ·have hd : ¬ digU b = true := by unfold digU digV; simp; omega
    rw [if_neg hd] at i3
    rw [<- i3]
    simp [hb, d1]
   ·by_cases d2 : (57 : Int) < b.toNat
    ·have hd : ¬ digU b = true := by unfold digU digV; simp; omega
     rw [if_neg hd] at i3
     rw [<- i3]
     simp [hb, d1, d2]
    ·have hd : digU b = true := by unfold digU digV; simp; omega
     rw [if_pos hd] at i3
     have hpw : 10 ^ (j + 1) <= 10 ^ 19 := Nat.pow_le_pow_right (by omega) (by omega)
     have hps := ztI j
     have w1 : IntKind.u64.wrap (10 * (n : Int)) = ((10 * n : Nat) : Int) := by rw [wrap_u64 (by omega) (by omega)]; omega
     have w2 : IntKind.u8.wrap ((b.toNat : Int) - 48) = ((b.toNat - 48 : Nat) : Int) := by rw [wrap_u8 (by omega) (by omega)]; omega
     have w3 : IntKind.u64.wrap (((b.toNat - 48 : Nat) : Int)) = ((b.toNat - 48 : Nat) : Int) := by rw [wrap_u64 (by omega) (by omega)]
     have w4 : IntKind.u64.wrap (((10 * n : Nat) : Int) + ((b.toNat - 48 : Nat) : Int)) = ((10 * n + (b.toNat - 48) : Nat) : Int) := by rw [wrap_u64 (by omega) (by omega)]; omega
     simp [hb, d1, d2]
     refine Abs.Next.mk (j + 1, 10 * n + (b.toNat - 48)) [] ⟨by simp only; omega, by simp only; omega, i3⟩ (by simp only; omega) ?_
     simp only [w1, w2, w3, w4]
     simp
     exact wrap_i64 (by omega) (by omega)
  ·have hj : j = s.size := by simp at h; omega
   subst hj
   rw [List.drop_of_length_le (by omega), numL] at i3
   rw [<- i3]
   simp only
   have hpw : 10 ^ s.size <= 10 ^ 19 := Nat.pow_le_pow_right (by omega) (by omega)
   by_cases hm : 9223372036854775807 < n
   ·have hm' : (9223372036854775807 : Int) < n := by omega
    rw [if_pos hm]
    simp [hm, hm']
   ·have hm' : ¬ (9223372036854775807 : Int) < n := by omega
    rw [if_neg hm]
    simp [hm, hm']
    exact wrap_i64 (by omega) (by omega)
end Go.Gr
namespace Go.Gr
open Go.Abs Go.Proofs
section
variable {L : List Tok}
set_option maxRecDepth 20000 in
set_option maxHeartbeats 4000000 in
theorem ztT (hL : OkL L) (hl : L.length <= 10000) {d : Nat} {ki : PS -> Typ × PS} {ex : PS -> Nod × PS} (hk : Tame L ki) (Hk : KiOk L d ki) (he : Tame L ex) (He : NoOk L F.gp_Expr d ex) :
  NoOk L F.gp_atom d (zeH L ki ex) := by
 intro p h hd
 refine zqB ⟨by simp, by simp, by simp, by simp, by simp, by simp, by simp⟩ fun ts hts ok hb c hN hp => ?_
 obtain ⟨t, rfl⟩ := zaR hts
 have a0 := zfP (L := L) 2 p h
 have hg := zcr h
 have hw : IntKind.i64.wrap ((p.at' : Int) + 1) = ((p.at' + 1 : Nat) : Int) := by rw [wrap_i64 (by omega) (by omega)]; omega
 have hpz := zn2 (curT L p).text
 unfold zkB zeH numV
 simp only
 by_cases c1 : p.e = 0 /\ (curT L p).kind = 3
 ·rw [if_pos c1]
  obtain ⟨x1, x2⟩ := c1
  simp
  refine zaa.mk [0] a0 (by simp) ?_
  simp [hg, x1, x2, hw]
  refine ⟨by decide, ?_⟩
  refine zac.mk hpz ?_
  simp
  exact EndM.mkE [0] [1] (by simp [zaN, encS, x1])
 rw [if_neg c1]
 by_cases c2 : p.e = 0 /\ (curT L p).kind = 4
 ·rw [if_pos c2]
  obtain ⟨x1, x2⟩ := c2
  simp
  refine zaa.mk [0] a0 (by simp) ?_
  simp [hg, x1, x2, hw]
  refine ⟨by decide, ?_⟩
  exact EndM.mkE [0] [1] (by simp [zaN, encS, x1])
 rw [if_neg c2]
 have d1 := zaD ziJ p h hl
 have d2 := zaD zgq p h hl
 have d3 := zaD ziK p h hl
 have d4 := zaD zd8 p h hl
 have d5 := zaD zc9 p h hl
 have d6 := zaD (bs [40]) p h hl
 have d7 := zaD (bs [123]) p h hl
 have d8 := zbw p h hl
 have n1 : p.e = 0 -> ¬ (curT L p).kind = 3 := fun x y => c1 ⟨x, y⟩
 have n2 : p.e = 0 -> ¬ (curT L p).kind = 4 := fun x y => c2 ⟨x, y⟩
 simp
 refine zaa.mk [0] a0 (by simp) ?_
 by_cases x : p.e = 0
 simp [hg, x, n1 x, n2 x]
 rotate_left
 simp [hg, x]
 all_goals
  refine ⟨by decide, ?_⟩
  refine zaa.mk [0] d1 (by simp [x]) ?_
  by_cases q1 : (zab L ziJ p).1 = true
  ·rw [if_pos q1]
   simp [q1]
   exact EndM.mkE [0] [1] (by simp [zaN, encS])
  rw [if_neg q1, zaE q1]
  rw [Bool.not_eq_true] at q1
  simp [q1]
  refine zaa.mk [0] d2 (by simp) ?_
  by_cases q2 : (zab L zgq p).1 = true
  ·rw [if_pos q2]
   simp [q2]
   exact EndM.mkE [0] [1] (by simp [zaN, encS])
  rw [if_neg q2, zaE q2]
  rw [Bool.not_eq_true] at q2
  simp [q2]
  refine zaa.mk [0] d3 (by simp) ?_
  by_cases q3 : (zab L ziK p).1 = true
  ·rw [if_pos q3]
   simp [q3]
   exact EndM.mkE [0] [1] (by simp [zaN, encS])
  rw [if_neg q3, zaE q3]
  rw [Bool.not_eq_true] at q3
  simp [q3]
  refine zaa.mk [0] d4 (by simp) ?_
  by_cases q4 : (zab L zd8 p).1 = true
  ·rw [if_pos q4]
   have t1 := zah hL h (s := zd8)
   have t2 := t1.trans (zap hL t1.lt (s := bs [40]))
   have b1 := zaI hL (bs [40]) _ t1.lt hl
   have b2 := zaI hL (bs [41]) _ t2.lt hl
   generalize (zab L zd8 p).2 = p1 at *
   generalize zax L (bs [40]) p1 = p2 at *
   generalize zax L (bs [41]) p2 = p3 at *
   simp [q4]
   refine zaa.mk [0] b1 (by simp) ?_
   simp
   refine zaa.mk [0] b2 (by simp) ?_
   simp
   exact EndM.mkE [0] [1] (by simp [zaN, encS])
  rw [if_neg q4, zaE q4]
  rw [Bool.not_eq_true] at q4
  simp [q4]
  refine zaa.mk [0] d5 (by simp) ?_
  by_cases q5 : (zab L zc9 p).1 = true
  ·rw [if_pos q5]
   have t1 := zah hL h (s := zc9)
   have t2 := t1.trans (zap hL t1.lt (s := bs [40]))
   have t3 := t2.trans (he _ t2.lt)
   have b1 := zaI hL (bs [40]) _ t1.lt hl
   have b2 := He _ t2.lt (by rw [t2.deep, hd])
   have b3 := zaI hL (bs [41]) _ t3.lt hl
   generalize (zab L zc9 p).2 = p1 at *
   generalize zax L (bs [40]) p1 = p2 at *
   generalize (ex p2).1 = A at *
   generalize (ex p2).2 = p3 at *
   generalize zax L (bs [41]) p3 = p4 at *
   simp [q5]
   refine zaa.mk [0] b1 (by simp) ?_
   simp
   refine zaa.mk [0] b2 (by simp) ?_
   simp
   refine zaa.mk [0] b3 (by simp) ?_
   simp
   exact EndM.mkE [0] [1] (by simp [zaN, encS])
  rw [if_neg q5, zaE q5]
  rw [Bool.not_eq_true] at q5
  simp [q5]
  refine zaa.mk [0] d6 (by simp) ?_
  by_cases q6 : (zab L (bs [40]) p).1 = true
  ·rw [if_pos q6]
   have t1 := zah hL h (s := bs [40])
   have t2 := t1.trans (he _ t1.lt)
   have b1 := He _ t1.lt (by rw [t1.deep, hd])
   have b2 := zaI hL (bs [41]) _ t2.lt hl
   generalize (zab L (bs [40]) p).2 = p1 at *
   generalize (ex p1).1 = A at *
   generalize (ex p1).2 = p2 at *
   generalize zax L (bs [41]) p2 = p3 at *
   simp [q6]
   refine zaa.mk [0] b1 (by simp) ?_
   simp
   refine zaa.mk [0] b2 (by simp) ?_
   simp
   exact EndM.mk [0] [1] (by simp)
  rw [if_neg q6, zaE q6]
  rw [Bool.not_eq_true] at q6
  simp [q6]
  refine zaa.mk [0] d7 (by simp) ?_
  by_cases q7 : (zab L (bs [123]) p).1 = true
  ·rw [if_pos q7]
   have t1 := zah hL h (s := bs [123])
   have b1 := zqE hL hl he He 2 p _ t1.lt (by rw [t1.deep, hd])
   generalize (zab L (bs [123]) p).2 = p1 at *
   generalize (zbZ L ex p p1).1 = A at *
   generalize (zbZ L ex p p1).2 = p2 at *
   simp [q7]
   refine zaa.mk [0] b1 (by simp) ?_
   simp
   exact EndM.mk [0] [1] (by simp)
  rw [if_neg q7, zaE q7]
  rw [Bool.not_eq_true] at q7
  have t1 := zaK hL h
  have b1 := zaD (bs [91]) _ t1.lt hl
  generalize (zaz L p).1 = s1 at *
  generalize (zaz L p).2 = p1 at *
  simp [q7]
  refine zaa.mk [0] d8 (by simp) ?_
  simp
  refine zaa.mk [0] b1 (by simp) ?_
  by_cases q8 : (zab L (bs [91]) p1).1 = true
  ·rw [if_pos q8]
   have t2 := t1.trans (zah hL t1.lt (s := bs [91]))
   have b2 := zrY hL hl hk Hk _ t2.lt (by rw [t2.deep, hd])
   generalize (zab L (bs [91]) p1).2 = p2 at *
   generalize (zb7 L ki (L.length + 1) [] p2).1 = T at *
   generalize (zb7 L ki (L.length + 1) [] p2).2 = p3 at *
   simp [q8]
   refine zaa.mk [0] b2 (by simp) ?_
   simp
   exact EndM.mkE [0] [1] (by simp [zaN, encS])
  rw [if_neg q8, zaE q8]
  rw [Bool.not_eq_true] at q8
  simp [q8]
  exact EndM.mkE [0] [1] (by simp [zaN, encS])
theorem zsq (hL : OkL L) (hl : L.length <= 10000) : ∀ (n : Nat) (d : Nat), d <= 100 -> 101 <= d + n -> NoOk L F.gp_Expr d (euP L (kiP L) n).1 /\ NoOk L F.gp_unary d (euP L (kiP L) n).2
 | 0, d, h1, h2 => by omega
 | n + 1, d, h1, h2 => by
  have hk : Tame L (kiP L) := zls hL 102
  have ht := zmW hL hk n
  have htn := zmW hL hk (n + 1)
  rw [euP] at htn ⊢
  by_cases hd : d = 100
  ·subst hd
   have hr := zit hL hk ht.2
   refine ⟨fun p h hdp => ?_, fun p h hdp => ?_⟩
   ·exact znQ hL hl (zlt hL hk ht.1 hr.2.2.2.2.2) p h (by omega) (fun q => absurd q (by omega))
   ·exact zmk hL hl hk ht.1 ht.2 p h (by omega) (fun q => absurd q (by omega)) (fun q => absurd q (by omega))
  ·have ih := zsq hL hl n (d + 1) (by omega) (by omega)
   have Hk : KiOk L (d + 1) (kiP L) := fun r hr hd => zjw hL hl 102 r hr (by omega) (by omega)
   have Ha := ztT hL hl hk Hk ht.1 ih.1
   have Hp := ztu hL hl (zlv hL hk ht.1) Ha ht.1 ih.1
   have H6 := zrI ih.2
   have hr := zit hL hk ht.2
   have H5 := ze1 hL hl (k := 5) (by decide) (by decide) ht.2 H6
   have H4 := ze1 hL hl (k := 4) (by decide) (by decide) hr.1 H5
   have H3 := ze1 hL hl (k := 3) (by decide) (by decide) hr.2.1 H4
   have H2 := zrJ (zut hL hl hk Hk hr.2.2.1 H3)
   have H1 := ze1 hL hl (k := 1) (by decide) (by decide) hr.2.2.2.1 H2
   have H0 := ze1 hL hl (k := 0) (by decide) (by decide) hr.2.2.2.2.1 H1
   refine ⟨fun p h hdp => ?_, fun p h hdp => ?_⟩
   ·subst hdp
    exact znQ hL hl (zlt hL hk ht.1 hr.2.2.2.2.2) p h (by omega) (fun _ q hq hdq => zs0 hL hl hk Hk ht.1 ih.1 H0 q hq hdq)
   ·subst hdp
    exact zmk hL hl hk ht.1 ht.2 p h (by omega) (fun _ => ih.2) (fun _ => Hp)
end
end Go.Gr
namespace Go.Gr
open Go.Abs Go.Proofs
def encV (v : ByteArray × Typ) : List D := .str v.1 :: v.2.enc
def Imp.enc (i : Imp) : List D := [.str i.from_, .sl false 1 (encS i.names), .int .i64 i.line, .int .i64 i.col]
def Dec.enc (d : Dec) : List D := [.str d.name, .bool d.exp, .sl false 5 (d.vars.map encV), .str d.param, .sl false 4 (d.types.map Typ.enc)] ++ d.body.enc ++ [.int .i64 d.line, .int .i64 d.col]
def Mdl.enc (m : Mdl) : List D := [.sl false 4 (m.imps.map Imp.enc), .sl false 15 (m.decs.map Dec.enc)]
@[simp] theorem zvQ (v : ByteArray × Typ) : (encV v).length = 5 := by simp [encV]
@[simp] theorem Imp.enc_length (v : Imp) : v.enc.length = 4 := rfl
@[simp] theorem Dec.enc_length (v : Dec) : v.enc.length = 15 := by simp [Dec.enc]
@[simp] theorem Mdl.enc_length (v : Mdl) : v.enc.length = 2 := rfl
theorem zlY (v : ByteArray × Typ) : D.erdL (encV v) = encV v := by simp [encV]
theorem zlZ : ∀ l : List (ByteArray × Typ), D.erdE (l.map encV) = l.map encV
 | [] => rfl
 | v :: l => by simp only [List.map_cons, D.erdE, zlY, zlZ l]
@[simp] theorem zs6 : ∀ a b : List D, D.erdL (a ++ b) = D.erdL a ++ D.erdL b
 | [], _ => rfl
 | x :: a, b => by simp only [List.cons_append, D.erdL, zs6 a b]
@[simp] theorem zjx : ∀ a b : List (List D), D.erdE (a ++ b) = D.erdE a ++ D.erdE b
 | [], _ => rfl
 | x :: a, b => by simp only [List.cons_append, D.erdE, zjx a b]
attribute [simp] zlY zlZ
@[simp] theorem Imp.erdL (v : Imp) : D.erdL v.enc = v.enc := by simp [Imp.enc]
@[simp] theorem Imp.erdE : ∀ l : List Imp, D.erdE (l.map Imp.enc) = l.map Imp.enc
 | [] => rfl
 | v :: l => by simp only [List.map_cons, D.erdE, Imp.erdL, Imp.erdE l]
@[simp] theorem zwD (a b c d e : AC) (T : Typ) : splice [a, b, c, d, e] 1 (T.enc.map AC.d) = a :: T.enc.map .d := by rw [T.enc_eq]; try rfl
theorem zjy : ∀ v : List (List D), (D.erdE v).length = v.length
 | [] => rfl
 | d :: v => by simp only [D.erdE, List.length_cons, zjy v]
section
variable {L : List Tok}
theorem zgB (hL : OkL L) : ∀ (n : Nat) (l : List ByteArray), Tame L (zbE L n l)
 | 0, l, p, hp => Tm.refl hp
 | n + 1, l, p, hp => by
  have h1 := zaK hL hp
  have h2 := h1.trans (zah hL h1.lt (s := bs [44]))
  rw [zbE]
  split
  ·exact h2.trans (zgB hL n _ _ h2.lt)
  ·exact h2
theorem zcL (hL : OkL L) : Tame L (kiP L) := zls hL 102
theorem zlg (hL : OkL L) : Tame L (exP L) := (zmW hL (zcL hL) 102).1
theorem zui (hL : OkL L) (hl : L.length <= 10000) : KiOk L 0 (kiP L) := fun r hr hd => zjw hL hl 102 r hr (by omega) (by omega)
theorem zv0 (hL : OkL L) (hl : L.length <= 10000) : NoOk L F.gp_Expr 0 (exP L) := (zsq hL hl 102 0 (by omega) (by omega)).1
def bndP (L : List Tok) (p : PS) : Typ × PS := if (zab L (bs [60, 58]) p).1 = true then kiP L (zab L (bs [60, 58]) p).2 else (noT, p)
theorem zvk (hL : OkL L) : Tame L (bndP L) := fun p hp => by
 unfold bndP
 split
 ·have h1 := zah hL hp (s := bs [60, 58])
  exact h1.trans (zcL hL _ h1.lt)
 ·exact Tm.refl hp
theorem znk (n : Nat) (l : List (ByteArray × Typ)) (p : PS) : zdI L (n + 1) l p = if (zab L (bs [44]) (bndP L (zaz L p).2).2).1 = true then zdI L n (l ++ [((zaz L p).1, (bndP L (zaz L p).2).1)]) (zab L (bs [44]) (bndP L (zaz L p).2).2).2 else (l ++ [((zaz L p).1, (bndP L (zaz L p).2).1)], zax L (bs [93]) (zab L (bs [44]) (bndP L (zaz L p).2).2).2) := by
 rw [zdI]; try rfl
theorem znl (hL : OkL L) : ∀ (n : Nat) (l : List (ByteArray × Typ)), Tame L (zdI L n l)
 | 0, l, p, hp => Tm.refl hp
 | n + 1, l, p, hp => by
  have h1 := zaK hL hp
  have h2 := h1.trans (zvk hL _ h1.lt)
  have h3 := h2.trans (zah hL h2.lt (s := bs [44]))
  rw [znk]
  split
  ·exact h3.trans (znl hL n _ _ h3.lt)
  ·exact h3.trans (zap hL h3.lt)
theorem zlh (hL : OkL L) : Tame L (zdJ L) := fun p hp => by
 unfold zdJ
 split
 ·have h1 := zah hL hp (s := bs [91])
  exact h1.trans (znl hL _ _ _ h1.lt)
 ·exact Tm.refl hp
theorem zil (hL : OkL L) : ∀ (n : Nat) (l : List Imp), Tame L (zcY L n l)
 | 0, l, p, hp => Tm.refl hp
 | n + 1, l, p, hp => by
  rw [zcY]
  split
  ·have h1 := zah hL hp (s := zbN)
   have h2 := h1.trans (zaK hL h1.lt)
   have h3 := h2.trans (zap hL h2.lt (s := bs [58]))
   have h4 := h3.trans (zgB hL (L.length + 1) [] _ h3.lt)
   have h5 := h4.trans (zap hL h4.lt (s := bs [59]))
   exact h5.trans (zil hL n _ _ h5.lt)
  ·exact Tm.refl hp
theorem zrz (hL : OkL L) : Tame L (decP L) := fun p hp => by
 have h1 := zah hL hp (s := zdq)
 have h2 := h1.trans (zap hL h1.lt (s := wFn))
 have h3 := h2.trans (zaK hL h2.lt)
 have h4 := h3.trans (zlh hL _ h3.lt)
 have h5 := h4.trans (zeM hL (zcL hL) _ h4.lt)
 have h6 := h5.trans (zap hL h5.lt (s := bs [61]))
 have h7 := h6.trans (zlg hL _ h6.lt)
 exact h7.trans (zap hL h7.lt (s := bs [59]))
theorem zli (hL : OkL L) : ∀ (n : Nat) (l : List Dec), Tame L (zb8 L n l)
 | 0, l, p, hp => Tm.refl hp
 | n + 1, l, p, hp => by
  rw [zb8]
  split
  ·have h1 := zrz hL _ hp
   exact h1.trans (zli hL n _ _ h1.lt)
  ·exact Tm.refl hp
theorem zrA (hL : OkL L) : Tame L (zdr L) := fun p hp => by
 have h1 := zil hL (L.length + 1) [] _ hp
 exact h1.trans (zli hL (L.length + 1) [] _ h1.lt)
set_option maxRecDepth 20000 in
set_option maxHeartbeats 2000000 in
theorem zrB (hL : OkL L) (hl : L.length <= 10000) (p : PS) (h : p.at' < L.length) :
  MCall Pg F.gp_names [.c (.ptr 0 0)] [psB L p] (.c (.d (.sl false 1 (encS (zbE L (L.length + 1) [] p).1)))) [psB L (zbE L (L.length + 1) [] p).2] := by
 refine zo1 ⟨by simp, by simp, by simp, by simp, by simp, by simp, by simp⟩ fun ts hts ok hb c hN hp => ?_
 obtain ⟨t, rfl⟩ := zaR hts
 obtain ⟨F0, hF0⟩ : ∃ F0, zbE L (L.length + 1) [] p = F0 := ⟨_, rfl⟩
 rw [hF0]
 unfold zjg
 simp
 refine owK.mk [.t 3] ?_
 simp
 refine W.loop Pg_mixed hp (fun x : Nat × List ByteArray × PS => zbE L x.1 x.2.1 x.2.2 = F0 /\ Tm L p x.2.2 /\ L.length < x.1 + x.2.2.at' /\ x.2.1.length <= x.2.2.at')
  (fun x => [(0, .c (.ptr 0 0)), (3, .c (.msl 1 2 0 x.2.1.length))])
  (fun x => [psB L x.2.2, .pin t 0, .arr 1 ((encS x.2.1).map (·.map .d))])
  (fun x => x.1) (L.length + 1, [], p) [0, 1, 2] ⟨hF0, Tm.refl h, by simp only; omega, by simp⟩ (by simp) fun ⟨n, l, q⟩ ⟨i1, i2, i3, i4⟩ => ?_
 unfold lp_gp_names_0
 simp only at i1 i2 i4
 have i3 : L.length < n + q.at' := i3
 have hlt := i2.lt
 obtain ⟨n, rfl⟩ : ∃ m, n = m + 1 := ⟨n - 1, by omega⟩
 rw [zbE] at i1
 have e1 := zaK hL hlt
 have le1 := e1.le
 have a1 := zbw q hlt hl
 have a2 := zaD (bs [44]) _ e1.lt hl
 generalize (zaz L q).1 = s at *
 generalize (zaz L q).2 = q1 at *
 simp
 refine zaa.mk [0] a1 (by simp) ?_
 simp
 refine ⟨by omega, ?_⟩
 refine zaa.mk [0] a2 (by simp) ?_
 by_cases q2 : (zab L (bs [44]) q1).1 = true
 ·rw [if_pos q2] at i1
  have hat := (zaL q2).1
  have e2 := e1.trans (zah hL e1.lt (s := bs [44]))
  generalize (zab L (bs [44]) q1).2 = q3 at *
  simp [q2]
  refine Abs.Next.mk (n, l ++ [s], q3) [0, 1, 3] ⟨i1, i2.trans e2, by simp only; omega, by simp; omega⟩ (by simp) ?_
  simp
  exact List.take_of_length_le (by simp)
 ·rw [if_neg q2, zaE q2] at i1
  rw [zaE q2, <- i1]
  rw [Bool.not_eq_true] at q2
  have z : List.take l.length (List.map (fun x => List.map AC.d x) (encS l)) = List.map (fun x => List.map AC.d x) (encS l) := List.take_of_length_le (by simp)
  have z2 : List.take (l.length + 1) (encS l ++ [[.str s]]) = encS l ++ [[.str s]] := List.take_of_length_le (by simp)
  simp [q2]
  refine fzK.mk [3] ?_
  simp [zas, z]
  exact EndM.mk [0] [1] (by simp [zas, z, z2])
set_option maxRecDepth 20000 in
set_option maxHeartbeats 2000000 in
theorem zs7 (hL : OkL L) (hl : L.length <= 10000) (p : PS) (h : p.at' < L.length) (hd : p.deep = 0) :
  MCall Pg F.gp_vars [.c (.ptr 0 0)] [psB L p] (.c (.d (.sl false 5 ((zdJ L p).1.map encV)))) [psB L (zdJ L p).2] := by
 refine zqC ⟨by simp, by simp, by simp, by simp, by simp, by simp, by simp⟩ fun ts hts ok hb c hN hp => ?_
 obtain ⟨t, rfl⟩ := zaR hts
 have c1 := zaD (bs [91]) p h hl
 unfold zkC zdJ
 simp
 refine zaa.mk [0] c1 (by simp) ?_
 by_cases q0 : (zab L (bs [91]) p).1 = true
 ·rw [if_pos q0]
  have t1 := zah hL h (s := bs [91])
  obtain ⟨F0, hF0⟩ : ∃ F0, zdI L (L.length + 1) [] (zab L (bs [91]) p).2 = F0 := ⟨_, rfl⟩
  rw [hF0]
  generalize (zab L (bs [91]) p).2 = p1 at *
  have hd1 : p1.deep = 0 := by rw [t1.deep, hd]
  simp [q0]
  refine owK.mk [.t 3] ?_
  simp
  refine W.loop Pg_mixed hp (fun x : Nat × List (ByteArray × Typ) × List (List D) × PS => zdI L x.1 x.2.1 x.2.2.2 = F0 /\ Tm L p1 x.2.2.2 /\ L.length < x.1 + x.2.2.2.at' /\ x.2.1.length <= x.2.2.2.at' /\ D.erdE x.2.2.1 = x.2.1.map encV)
   (fun x => [(0, .c (.ptr 0 0)), (3, .c (.msl 5 2 0 x.2.2.1.length))])
   (fun x => [psB L x.2.2.2, .pin t 0, .arr 5 (x.2.2.1.map (·.map .d))])
   (fun x => x.1) (L.length + 1, [], [], p1) [0, 1, 2] ⟨hF0, Tm.refl t1.lt, by simp only; omega, by simp, rfl⟩ (by simp) fun ⟨n, l, v, q⟩ ⟨i1, i2, i3, i4, i5⟩ => ?_
  unfold lp_gp_vars_0
  simp only at i1 i2 i4 i5
  have i3 : L.length < n + q.at' := i3
  have hvl : v.length = l.length := by rw [<- zjy, i5, List.length_map]
  have hlt := i2.lt
  obtain ⟨n, rfl⟩ : ∃ m, n = m + 1 := ⟨n - 1, by omega⟩
  rw [znk] at i1
  have e1 := zaK hL hlt
  have le1 := e1.le
  have a1 := zbw q hlt hl
  have a2 := zaD (bs [60, 58]) _ e1.lt hl
  generalize (zaz L q).1 = s at *
  generalize (zaz L q).2 = q1 at *
  simp
  refine zaa.mk [0] a1 (by simp) ?_
  simp
  refine zaa.mk [0] a2 (by simp) ?_
  unfold bndP at i1
  by_cases b1 : (zab L (bs [60, 58]) q1).1 = true
  ·rw [if_pos b1] at i1
   have e2 := e1.trans (zah hL e1.lt (s := bs [60, 58]))
   have e3 := e2.trans (zcL hL _ e2.lt)
   have hat := (zaL b1).1
   have le3 := (zcL hL _ e2.lt).le
   have a3 := zui hL hl _ e2.lt (by rw [e2.deep, i2.deep, hd1])
   have a4 := zaD (bs [44]) _ e3.lt hl
   generalize (zab L (bs [60, 58]) q1).2 = q2 at *
   generalize (kiP L q2).1 = T at *
   generalize (kiP L q2).2 = q3 at *
   simp [b1]
   refine zaa.mk [0] a3 (by simp) ?_
   simp
   refine ⟨by omega, ?_⟩
   refine zaa.mk [0] a4 (by simp) ?_
   by_cases q2 : (zab L (bs [44]) q3).1 = true
   ·rw [if_pos q2] at i1
    have hat := (zaL q2).1
    have e4 := e3.trans (zah hL e3.lt (s := bs [44]))
    generalize (zab L (bs [44]) q3).2 = q4 at *
    simp [q2]
    refine Abs.Next.mk (n, l ++ [(s, T)], v ++ [.str s :: T.enc], q4) [0, 1, 4] ⟨i1, i2.trans e4, by simp only; omega, by simp; omega, by simp [i5, encV]⟩ (by simp) ?_
    simp
    exact List.take_of_length_le (by simp)
   ·rw [if_neg q2, zaE q2] at i1
    rw [zaE q2, <- i1]
    rw [Bool.not_eq_true] at q2
    have a3 := zaI hL (bs [93]) _ e3.lt hl
    have z : List.take v.length (List.map (fun x => List.map AC.d x) v) = List.map (fun x => List.map AC.d x) v := List.take_of_length_le (by simp)
    have z2 : List.take (v.length + 1) (v ++ [.str s :: T.enc]) = v ++ [.str s :: T.enc] := List.take_of_length_le (by simp)
    simp [q2]
    refine fzK.mk [4] ?_
    simp [zas, z]
    refine zaa.mk [0] a3 (by simp) ?_
    simp [zas, z]
    exact EndM.mkE [0] [1] (by simp [zas, z, z2, i5, encV])
  ·rw [if_neg b1] at i1
   rw [zaE b1]
   rw [Bool.not_eq_true] at b1
   have a4 := zaD (bs [44]) _ e1.lt hl
   simp [b1]
   refine ⟨by omega, ?_⟩
   refine zaa.mk [0] a4 (by simp) ?_
   by_cases q2 : (zab L (bs [44]) q1).1 = true
   ·rw [if_pos q2] at i1
    have hat := (zaL q2).1
    have e4 := e1.trans (zah hL e1.lt (s := bs [44]))
    generalize (zab L (bs [44]) q1).2 = q4 at *
    simp [q2]
    refine Abs.Next.mk (n, l ++ [(s, noT)], v ++ [[.str s, .int .i64 0, .str (bs []), .sl true 1 [], .sl true 4 []]], q4) [0, 1, 4] ⟨i1, i2.trans e4, by simp only; omega, by simp; omega, by simp [i5, encV, noT, Typ.enc, Typ.encs, encS]⟩ (by simp) ?_
    simp
    exact List.take_of_length_le (by simp)
   ·rw [if_neg q2, zaE q2] at i1
    rw [zaE q2, <- i1]
    rw [Bool.not_eq_true] at q2
    have a3 := zaI hL (bs [93]) _ e1.lt hl
    have z : List.take v.length (List.map (fun x => List.map AC.d x) v) = List.map (fun x => List.map AC.d x) v := List.take_of_length_le (by simp)
    have z2 : List.take (v.length + 1) (v ++ [[.str s, .int .i64 0, .str (bs []), .sl true 1 [], .sl true 4 []]]) = v ++ [[.str s, .int .i64 0, .str (bs []), .sl true 1 [], .sl true 4 []]] := List.take_of_length_le (by simp)
    simp [q2]
    refine fzK.mk [4] ?_
    simp [zas, z]
    refine zaa.mk [0] a3 (by simp) ?_
    simp [zas, z]
    exact EndM.mkE [0] [1] (by simp [zas, z, z2, i5, encV, noT, Typ.enc, Typ.encs, encS])
 ·rw [if_neg q0, zaE q0]
  rw [Bool.not_eq_true] at q0
  simp [q0]
  exact EndM.mkE [0] [1] (by simp)
end
end Go.Gr
namespace Go.Gr
open Go.Abs Go.Proofs
theorem zic (c : Int) : PCall Pg F.g02_letter [.one (.int .u8 c)] (.one (.bool (letV c))) := by
 refine znJ (by simp) fun o c' hN hp => ?_
 unfold zhh letV
 by_cases h1 : 97 <= c <;> by_cases h2 : c <= 122 <;> by_cases h3 : 65 <= c <;> by_cases h4 : c <= 90 <;> simp [h1, h2, h3, h4] <;> (try (intros; omega)) <;> (try omega)
theorem zgV (c : Int) : PCall Pg F.g02_digit [.one (.int .u8 c)] (.one (.bool (digV c))) := by
 refine zoV (by simp) fun o c' hN hp => ?_
 unfold zhL digV
 by_cases h1 : 48 <= c <;> by_cases h2 : c <= 57 <;> simp [h1, h2] <;> (try omega)
theorem zt1 : PCall Pg F.g02_Words [] (.one (.sl false 1 (encS zh5))) := by
 refine zoU (by simp) fun o c' hN hp => ?_
 unfold zhK
 simp [zh5, encS]
theorem zlD (s : ByteArray) : PCall Pg F.g02_word [.one (.str s)] (.one (.bool (zkV s))) := by
 refine zqn (by simp) fun o c' hN hp => ?_
 unfold zi9 zkV
 have hl : zh5.length = 25 := rfl
 obtain ⟨l, hwl⟩ : ∃ l, zh5 = l := ⟨_, rfl⟩
 rw [hwl] at hl ⊢
 obtain ⟨R, hR⟩ : ∃ R, (l.any fun w => decide (w = s)) = R := ⟨_, rfl⟩
 rw [hR]
 have hw := zt1
 rw [hwl] at hw
 simp
 refine zac.mk hw ?_
 simp
 refine W.loop Pg_mixed hp (fun j : Nat => j <= l.length /\ (l.drop j).any (fun w => decide (w = s)) = R) (fun j => [(4, .c (.d (.int .i64 j))), (3, .c (.d (.sl false 1 (encS l)))), (0, .c (.d (.str s)))]) (fun _ => []) (fun j => l.length - j) 0 [] ⟨by simp, by simpa using hR⟩ (by simp) fun j ⟨h1, h2⟩ => ?_
 unfold zhg
 simp
 refine gd.mk (fun h => ?_) (fun h => ?_)
 ·have hj : j < l.length := by simpa using h
  rw [List.drop_eq_getElem_cons hj, List.any_cons] at h2
  simp [List.getElem?_eq_getElem hj]
  refine gd.mk (fun h => ?_) (fun h => ?_)
  ·rw [h] at h2
   simp [<- h2]
  ·rw [h] at h2
   refine Abs.Next.mk (j + 1) [] ⟨by omega, h2⟩ (by omega) ?_
   simp
   exact wrap_i64 (by omega) (by omega)
 ·have hj : j = l.length := by simp at h; omega
  subst hj
  rw [List.drop_length, List.any_nil] at h2
  simp [<- h2]
theorem zvN {a b : List UInt8} (h : bA a = bA b) : a = b := by
 have : (bA a).data.toList = (bA b).data.toList := by rw [h]
 simpa [bA] using this
theorem zlE (s : ByteArray) : bA s.data.toList = s := by
 cases s; simp [bA]
theorem ext_bA (s : ByteArray) (a b : Nat) : s.extract a b = bA ((s.data.toList.drop a).take (b - a)) := by
 rw [<- zlE (s.extract a b)]
 congr 1
 simp [ByteArray.data_extract, Array.toList_extract]
theorem zpS (s : ByteArray) : PCall Pg F.g02_Name [.one (.str s)] (.one (.bool (zbm s))) := by
 refine zqo (by simp) fun o c' hN hp => ?_
 have hs : s.size <= zak := by have := o.1; simpa only [DV.ok, D.ok] using this
 unfold zak at hs
 have hlen := zbk s
 obtain ⟨R, hR⟩ : ∃ R, zbm s = R := ⟨_, rfl⟩
 rw [hR]
 unfold zbm at hR
 unfold zja
 by_cases h0 : s.size = 0
 ·have hL : s.data.toList = [] := List.length_eq_zero_iff.1 (by omega)
  rw [hL] at hR
  simp only at hR
  subst hR
  simp
  refine zac.mk (zlD s) ?_
  simp [h0]
 have hj0 : 0 < s.data.toList.length := by omega
 have hb0 := zcf hj0
 have hR : (decide (s.size <= 32) && (!zkV s && (!digU s.data.toList[0] && s.data.toList.all fun b => letU b || digU b))) = R := by
  rw [<- hR]
  revert hj0
  cases s.data.toList with
  | nil => intro h; simp at h
  | cons c l => intro h _; rfl
 simp
 refine zac.mk (zlD s) ?_
 have h0' : ¬ (s.size : Int) = 0 := by omega
 by_cases h32 : s.size <= 32
 rotate_left
 ·have h32' : (32 : Int) < s.size := by omega
  simp [h32] at hR
  simp [h0, h0', h32', hR]
 have h32' : ¬ (32 : Int) < s.size := by omega
 simp only [h32, decide_true, Bool.true_and] at hR
 generalize zkV s = wv at *
 cases wv with
 | true =>
  simp at hR
  simp [h0, h0', h32', hR]
 | false =>
  simp only [Bool.not_false, Bool.true_and] at hR
  generalize s.data.toList[0] = b0 at *
  have hd : digU b0 = digV b0.toNat := rfl
  simp [h0, h0', h32', hb0]
  refine zac.mk (zgV b0.toNat) ?_
  rw [<- hd]
  generalize digU b0 = d0 at *
  cases d0 with
  | true =>
   simp at hR
   simp [hR]
  | false =>
   simp only [Bool.not_false, Bool.true_and] at hR
   simp
   refine W.loop Pg_mixed hp (fun j : Nat => j <= s.size /\ ((s.data.toList.drop j).all fun b => letU b || digU b) = R) (fun j => [(4, .c (.d (.int .i64 j))), (0, .c (.d (.str s)))]) (fun _ => []) (fun j => s.size - j) 0 [] ⟨by simp, by simpa using hR⟩ (by simp) fun j ⟨h1, h2⟩ => ?_
   unfold zhi
   simp
   refine gd.mk (fun h => ?_) (fun h => ?_)
   ·have hj : j < s.size := by simpa using h
    have hj' : j < s.data.toList.length := by omega
    rw [List.drop_eq_getElem_cons hj', List.all_cons] at h2
    have hb := zcf hj'
    generalize s.data.toList[j] = b at h2 hb
    have hd : digU b = digV b.toNat := rfl
    have hle : letU b = letV b.toNat := rfl
    simp [hb]
    refine zac.mk (zic b.toNat) ?_
    rw [<- hle]
    simp [hb]
    refine zac.mk (zgV b.toNat) ?_
    rw [<- hd]
    generalize letU b = x1 at *
    generalize digU b = x2 at *
    cases x1 <;> cases x2
    ·simp at h2
     simp [h2]
    all_goals
     simp only [Bool.or_true, Bool.true_or, Bool.true_and, Bool.or_self] at h2
     simp
     refine Abs.Next.mk (j + 1) [] ⟨by omega, h2⟩ (by omega) ?_
     simp
     exact wrap_i64 (by omega) (by omega)
   ·have hj : j = s.size := by simp at h; omega
    subst hj
    rw [List.drop_of_length_le (by omega), List.all_nil] at h2
    simp [<- h2]
def twoB : List ByteArray := [bs [45, 62], bs [61, 62], bs [60, 58], bs [60, 60], bs [60, 61], bs [62, 62], bs [61, 61], bs [43, 43]]
def oneB : ByteArray := bs [40, 41, 123, 125, 91, 93, 44, 58, 59, 61, 43, 45, 42, 47, 37, 38, 94, 60, 124, 46]
theorem zu1 : twoB = twoL.map bA := by decide
theorem zlF : oneB.data.toList = oneL := by decide
theorem zu2 (s : ByteArray) : (twoL.any fun t => decide (s.data.toList.take 2 = t)) = (twoB.any fun t => decide (s.extract 0 2 = t)) := by
 rw [zu1, List.any_map]
 congr 1
 funext t
 simp only [Function.comp]
 rw [ext_bA]
 simp only [List.drop_zero, Nat.sub_zero]
 by_cases h : s.data.toList.take 2 = t
 ·simp [h]
 ·have : ¬ bA (s.data.toList.take 2) = bA t := fun e => h (zvN e)
  simp [h, this]
theorem zsx {s : ByteArray} (h : s.size < 2) : (twoL.any fun t => decide (s.data.toList.take 2 = t)) = false := by
 have hlen := zbk s
 rw [List.any_eq_false]
 intro t ht
 have h2 : t.length = 2 := by
  revert t; decide
 simp only [decide_eq_true_eq]
 intro e
 have := congrArg List.length e
 rw [List.length_take] at this
 omega
set_option maxRecDepth 20000 in
theorem zu3 (s : ByteArray) (hpos : 0 < s.size) : PCall Pg F.g02_sign [.one (.str s)] (.one (.int .i64 (zd1 s.data.toList))) := by
 refine zqp (by simp) fun o c' hN hp => ?_
 have hs : s.size <= zak := by have := o.1; simpa only [DV.ok, D.ok] using this
 unfold zak at hs
 have hlen := zbk s
 obtain ⟨R, hR⟩ : ∃ R, zd1 s.data.toList = R := ⟨_, rfl⟩
 rw [hR]
 have hj0 : 0 < s.data.toList.length := by omega
 have hb0 := zcf hj0
 have hR : (if (twoL.any fun t => decide (s.data.toList.take 2 = t)) = true then 2 else if s.data.toList[0] ∈ oneL then 1 else 0) = R := by
  rw [<- hR]
  revert hj0
  unfold zd1
  cases s.data.toList with
  | nil => intro h; simp at h
  | cons c l => intro h _; rfl
 generalize s.data.toList[0] = b0 at *
 have k2 : ∀ {Q : Exit -> St -> Prop} {S : St} {g} {ms : List Nat} (h0 : Match ms S [(6, .c (.d (.int .i64 0))), (5, .c (.d (.str oneB))), (0, .c (.d (.str s)))] []),
   (b0 ∈ oneL -> ∀ T M n, Abs.look T 2 = .c (.d (.int .i64 1)) -> Q .ret ⟨T, M, n⟩) -> (b0 ∉ oneL -> ∀ T M n, Q (.exit 2) ⟨T, M, n⟩) -> lw_ Pg c' zet Q g S := by
  intro Q S g ms h0 hy hn
  refine W.loop Pg_mixed hp (fun j : Nat => j <= oneL.length /\ (b0 ∈ oneL.drop j ↔ b0 ∈ oneL)) (fun j => [(6, .c (.d (.int .i64 j))), (5, .c (.d (.str oneB))), (0, .c (.d (.str s)))]) (fun _ => []) (fun j => oneL.length - j) 0 ms ⟨by simp, by simp⟩ h0 fun j ⟨h1, h2⟩ => ?_
  have hsz : oneB.size = oneL.length := by rw [<- zbk, zlF]
  unfold zet
  simp [hsz]
  refine gd.mk (fun h => ?_) (fun h => ?_)
  ·have hj : j < oneL.length := by simpa using h
   have hb : oneB.data[j]? = some oneL[j] := by
    have := zcf (s := oneB) (j := j) (by rw [zlF]; exact hj)
    rw [this]; simp only [zlF]
   rw [List.drop_eq_getElem_cons hj, List.mem_cons] at h2
   generalize oneL[j] = b at *
   simp [hb0, hb]
   refine ⟨by decide, ?_⟩
   by_cases e : b0 = b
   ·subst e
    simp
    exact hy (h2.1 (.inl rfl)) _ _ _ (by simp)
   ·have e' : ¬ (b0.toNat : Int) = b.toNat := fun q => e (UInt8.toNat_inj.mp (by omega))
    have e'' : ¬ b0.toNat = b.toNat := fun q => e (UInt8.toNat_inj.mp (by omega))
    simp [e', e'', e]
    refine Abs.Next.mk (j + 1) [] ⟨by omega, ⟨fun z => h2.1 (.inr z), fun z => (h2.2 z).resolve_left e⟩⟩ (by omega) ?_
    simp
    exact wrap_i64 (by have : oneL.length = 20 := rfl; omega) (by have : oneL.length = 20 := rfl; omega)
  ·have hj : j = oneL.length := by simp at h; omega
   subst hj
   rw [List.drop_length] at h2
   exact hn (fun z => by simpa using h2.2 z) _ _ _
 unfold zjb
 simp
 by_cases h2s : s.size < 2
 ·have hz := zsx h2s
  rw [hz] at hR
  simp only [Bool.false_eq_true, if_false] at hR
  have h2' : ¬ (2 : Int) <= s.size := by omega
  refine W.loop Pg_mixed hp (fun j : Nat => j <= twoB.length) (fun j => [(4, .c (.d (.int .i64 j))), (3, .c (.d (.sl true 1 (encS twoB)))), (0, .c (.d (.str s)))]) (fun _ => []) (fun j => twoB.length - j) 0 [] (by simp) (by simp [encS, twoB]) fun j h1 => ?_
  unfold zes
  simp
  refine gd.mk (fun h => ?_) (fun h => ?_)
  ·have hj : j < twoB.length := by simpa using h
   simp [h2']
   refine ⟨by decide, ?_⟩
   refine Abs.Next.mk (j + 1) [] (by omega) (by omega) ?_
   simp
   exact wrap_i64 (by have : twoB.length = 8 := rfl; omega) (by have : twoB.length = 8 := rfl; omega)
  ·skip
   refine k2 (ms := []) (by simp [oneB]) (fun hm T M n ht => ?_) (fun hm T M n => ?_)
   ·rw [if_pos hm] at hR
    subst hR
    simp [ht]
   ·rw [if_neg hm] at hR
    subst hR
    simp
 ·rw [zu2] at hR
  have h2' : (2 : Int) <= s.size := by omega
  have h2'' : 2 <= s.size := by omega
  refine W.loop Pg_mixed hp (fun j : Nat => j <= twoB.length /\ (twoB.drop j).any (fun t => decide (s.extract 0 2 = t)) = twoB.any (fun t => decide (s.extract 0 2 = t))) (fun j => [(4, .c (.d (.int .i64 j))), (3, .c (.d (.sl true 1 (encS twoB)))), (0, .c (.d (.str s)))]) (fun _ => []) (fun j => twoB.length - j) 0 [] ⟨by simp, by simp⟩ (by simp [encS, twoB]) fun j ⟨h1, h3⟩ => ?_
  unfold zes
  simp
  refine gd.mk (fun h => ?_) (fun h => ?_)
  ·have hj : j < twoB.length := by simpa using h
   rw [List.drop_eq_getElem_cons hj, List.any_cons] at h3
   simp [h2', h2'', List.getElem?_eq_getElem hj]
   generalize twoB[j] = u at *
   by_cases e : s.extract 0 2 = u
   ·rw [<- h3] at hR
    simp [e] at hR
    subst hR
    simp [e]
    decide
   ·simp [e] at h3 ⊢
    refine ⟨by decide, ?_⟩
    refine Abs.Next.mk (j + 1) [] ⟨by omega, by simpa using h3⟩ (by omega) ?_
    simp
    exact wrap_i64 (by have : twoB.length = 8 := rfl; omega) (by have : twoB.length = 8 := rfl; omega)
  ·have hj : j = twoB.length := by simp at h; omega
   subst hj
   rw [List.drop_length, List.any_nil] at h3
   rw [<- h3] at hR
   simp only [Bool.false_eq_true, if_false] at hR
   simp
   refine k2 (ms := []) (by simp [oneB]) (fun hm T M n ht => ?_) (fun hm T M n => ?_)
   ·rw [if_pos hm] at hR
    subst hR
    simp [ht]
   ·rw [if_neg hm] at hR
    subst hR
    simp
end Go.Gr
namespace Go.Gr
open Go.Abs Go.Proofs
theorem ub (b c : UInt8) : b = c ↔ (b.toNat : Int) = c.toNat := ⟨fun h => by rw [h], fun h => UInt8.toNat_inj.mp (by omega)⟩
theorem ubn (b c : UInt8) : b = c ↔ b.toNat = c.toNat := ⟨fun h => by rw [h], fun h => UInt8.toNat_inj.mp h⟩
theorem un {b c : UInt8} (h : ¬ b = c) : ¬ (b.toNat : Int) = c.toNat /\ ¬ b.toNat = c.toNat := ⟨fun e => h ((ub b c).2 e), fun e => h ((ubn b c).2 e)⟩
set_option maxRecDepth 20000 in
theorem zs8 (s : ByteArray) : PCall Pg F.g02_blank [.one (.str s)] (.one (.int .i64 (blkL false s.data.toList))) := by
 refine zoW (by simp) fun o c' hN hp => ?_
 have hs : s.size <= zak := by have := o.1; simpa only [DV.ok, D.ok] using this
 unfold zak at hs
 have hlen := zbk s
 obtain ⟨R, hR⟩ : ∃ R, blkL false s.data.toList = R := ⟨_, rfl⟩
 rw [hR]
 have k2 : ∀ {Q : Exit -> St -> Prop} {S : St} {g} {ms : List Nat} (k : Nat) (hk : k < s.size) (hne : s.data[k]? ≠ some 10) (hq : k + blkL true (s.data.toList.drop k) = R) (h0 : Match ms S [(3, .c (.d (.int .i64 k))), (0, .c (.d (.str s)))] []),
   (∀ j T M n, j <= s.size -> k < j -> j + blkL false (s.data.toList.drop j) = R -> Abs.look T 3 = .c (.d (.int .i64 j)) -> Abs.look T 0 = .c (.d (.str s)) -> Q (.exit 2) ⟨T, M, n⟩) -> lw_ Pg c' zdU Q g S := by
  intro Q S g ms k hk hne hq h0 hn
  refine W.loop Pg_mixed hp (fun j : Nat => j <= s.size /\ k <= j /\ j + blkL true (s.data.toList.drop j) = R) (fun j => [(3, .c (.d (.int .i64 j))), (0, .c (.d (.str s)))]) (fun _ => []) (fun j => s.size - j) k ms ⟨by omega, Nat.le_refl _, hq⟩ h0 fun j ⟨h1, h2, h3⟩ => ?_
  unfold zdU
  simp
  refine gd.mk (fun h => ?_) (fun h => ?_)
  ·have hj : j < s.size := by simpa using h
   have hj' : j < s.data.toList.length := by omega
   rw [List.drop_eq_getElem_cons hj', blkL] at h3
   have hd := List.drop_eq_getElem_cons hj'
   have hb := zcf hj'
   generalize s.data.toList[j] = b at h3 hb hd
   by_cases e : b = 10
   ·subst e
    simp [hb]
    refine hn j _ _ _ h1 ?_ ?_ (by simp) (by simp)
    ·rcases Nat.lt_or_ge k j with h | h
     ·exact h
     ·have : j = k := by omega
      subst this
      exact absurd hb hne
    rw [hd, blkL]
    simpa using h3
   ·have e' := un e
    simp at e'
    simp [hb, e', e]
    simp [e] at h3
    refine Abs.Next.mk (j + 1) [] ⟨by omega, by omega, by omega⟩ (by omega) ?_
    simp
    exact wrap_i64 (by omega) (by omega)
  ·have hj : j = s.size := by simp at h; omega
   subst hj
   rw [List.drop_of_length_le (by omega), blkL] at h3
   refine hn s.size _ _ _ (by omega) (by omega) ?_ (by simp) (by simp)
   rw [List.drop_of_length_le (by omega), blkL]; exact h3
 unfold zhM
 simp
 refine W.loop Pg_mixed hp (fun j : Nat => j <= s.size /\ j + blkL false (s.data.toList.drop j) = R) (fun j => [(3, .c (.d (.int .i64 j))), (0, .c (.d (.str s)))]) (fun _ => []) (fun j => s.size - j) 0 [] ⟨by simp, by simpa using hR⟩ (by simp) fun j ⟨h1, h3⟩ => ?_
 unfold zgb
 simp
 refine gd.mk (fun h => ?_) (fun h => ?_)
 ·have hj : j < s.size := by simpa using h
  have hj' : j < s.data.toList.length := by omega
  rw [List.drop_eq_getElem_cons hj', blkL] at h3
  have hd := List.drop_eq_getElem_cons hj'
  have hb := zcf hj'
  generalize s.data.toList[j] = b at h3 hb hd
  by_cases e : b = 35
  ·subst e
   simp [hb]
   simp only [if_true] at h3
   refine k2 j (by omega) (by rw [hb]; decide) ?_ (ms := []) (by simp) fun k T M n g1 g2 g3 t1 t2 => ?_
   ·rw [hd, blkL]; simpa using h3
   ·simp
    exact Abs.Next.mk k [] ⟨g1, g3⟩ (by omega) (by simp [t1, t2])
  ·have e' := un e
   simp at e'
   rw [if_neg e] at h3
   by_cases w : b = 32 \/ b = 9 \/ b = 10 \/ b = 13
   ·rw [if_pos w] at h3
    have z : ∀ G : Prop, (b = 32 -> G) -> (b = 9 -> G) -> (b = 10 -> G) -> (b = 13 -> G) -> G := fun G a1 a2 a3 a4 => by
     rcases w with w | w | w | w
     ·exact a1 w
     ·exact a2 w
     ·exact a3 w
     ·exact a4 w
    refine z _ ?_ ?_ ?_ ?_
    all_goals
     intro w
     subst w
     simp [hb]
     refine Abs.Next.mk (j + 1) [] ⟨by omega, by omega⟩ (by omega) ?_
     simp
     exact wrap_i64 (by omega) (by omega)
   ·rw [if_neg w] at h3
    have w1 := un (fun h => w (.inl h))
    have w2 := un (fun h => w (.inr (.inl h)))
    have w3 := un (fun h => w (.inr (.inr (.inl h))))
    have w4 := un (fun h => w (.inr (.inr (.inr h))))
    simp at w1 w2 w3 w4
    simp [hb, e', e, w1, w2, w3, w4]
    omega
 ·have hj : j = s.size := by simp at h; omega
  subst hj
  rw [List.drop_of_length_le (by omega), blkL] at h3
  simp [<- h3]
def quoE : List UInt8 -> Option (List UInt8 × Nat)
 | [] => none
 | d :: l => if d = 92 \/ d = 34 then (quoL l).map fun x => (d :: x.1, x.2 + 2) else if d = 110 then (quoL l).map fun x => (10 :: x.1, x.2 + 2) else if d = 116 then (quoL l).map fun x => (9 :: x.1, x.2 + 2) else none
theorem zl0 (c : UInt8) (l : List UInt8) : quoL (c :: l) = if c = 34 then some ([], 1) else if c < 32 then none else if c ≠ 92 then (quoL l).map (fun x => (c :: x.1, x.2 + 1)) else quoE l := by
 cases l <;> rw [quoL.eq_def] <;> rfl
def quoR (out : List UInt8) (i : Nat) (l : List UInt8) : List UInt8 × Int := match quoL l with
 | none => ([], 0)
 | some (t, n) => (out ++ t, i + n)
theorem zfs (out : List UInt8) (c : UInt8) (i n : Nat) (l : List UInt8) : (match (quoL l).map (fun x => (c :: x.1, x.2 + n)) with
  | none => (([], 0) : List UInt8 × Int)
  | some (t, m) => (out ++ t, (i : Int) + m)) = quoR (out ++ [c]) (i + n) l := by
 unfold quoR
 cases quoL l with
 | none => rfl
 | some x =>
  simp
  omega
theorem zhy (a b : List UInt8) : bA (a ++ b) = bA a ++ bA b := by
 have : (bA (a ++ b)).data.toList = (bA a ++ bA b).data.toList := by simp [bA]
 rw [<- zlE (bA (a ++ b)), this, zlE]
theorem zpo {s : ByteArray} {j : Nat} (h : j < s.data.toList.length) : s.extract j (j + 1) = bA [s.data.toList[j]] := by
 rw [ext_bA]
 congr 1
 rw [List.drop_eq_getElem_cons h, show j + 1 - j = 1 by omega]; try rfl
set_option maxRecDepth 20000 in
theorem zrC (s : ByteArray) (hpos : 0 < s.size) : PCall Pg F.g02_quoted [.one (.str s)] (.tup [.one (.str (bA (quoR [] 1 (s.data.toList.drop 1)).1)), .one (.int .i64 (quoR [] 1 (s.data.toList.drop 1)).2)]) := by
 refine znK (by simp) fun o c' hN hp => ?_
 have hs : s.size <= zak := by have := o.1; simpa only [DV.ok, D.ok] using this
 unfold zak at hs
 have hlen := zbk s
 obtain ⟨R, hR⟩ : ∃ R, quoR [] 1 (s.data.toList.drop 1) = R := ⟨_, rfl⟩
 rw [hR]
 unfold zhj
 simp
 refine W.loop Pg_mixed hp (fun x : Nat × List UInt8 => x.1 <= s.size /\ x.2.length <= x.1 /\ quoR x.2 x.1 (s.data.toList.drop x.1) = R) (fun x => [(5, .c (.d (.int .i64 x.1))), (4, .c (.d (.str (bA x.2)))), (0, .c (.d (.str s)))]) (fun _ => []) (fun x => s.size - x.1) (1, []) [] ⟨by simp only; omega, by simp, hR⟩ (by simp [bA, bs]) fun ⟨j, out⟩ ⟨h1, h2, h3⟩ => ?_
 unfold zfw
 simp only at h1 h2 h3
 simp
 refine gd.mk (fun h => ?_) (fun h => ?_)
 ·have hj : j < s.size := by simpa using h
  have hj' : j < s.data.toList.length := by omega
  unfold quoR at h3
  rw [List.drop_eq_getElem_cons hj', zl0] at h3
  have hx := zpo hj'
  have hb := zcf hj'
  generalize s.data.toList[j] = b at h3 hb hx
  by_cases e1 : b = 34
  ·subst e1
   simp at h3
   subst h3
   simp [hb]
   exact wrap_i64 (by omega) (by omega)
  rw [if_neg e1] at h3
  have e1' := un e1
  simp at e1'
  by_cases e2 : b < 32
  ·rw [if_pos e2] at h3
   simp only at h3
   subst h3
   have e2' : (b.toNat : Int) < 32 := by
    have : b.toNat < 32 := e2
    omega
   simp [hb, e1, e1', e2']
   rfl
  rw [if_neg e2] at h3
  have e2' : ¬ (b.toNat : Int) < 32 := by
   intro q
   exact e2 (show b.toNat < 32 by omega)
  by_cases e3 : b = 92
  rotate_left
  ·rw [if_pos e3] at h3
   have e3' := un e3
   simp at e3'
   have hw := wrap_i64 (n := (j : Int) + 1) (by omega) (by omega)
   simp [hb, e1, e1', e2', e3, e3', hw]
   have hsz : (bA out).size + (min (j + 1) s.size - j) <= zak := by
    have : (bA out).size = out.length := by rw [<- zbk]; simp [bA]
    unfold zak; omega
   refine ⟨by omega, by omega, hsz, ?_⟩
   rw [zfs out b j 1] at h3
   refine Abs.Next.mk (j + 1, out ++ [b]) [] ⟨by simp only; omega, by simp; omega, h3⟩ (by simp only; omega) ?_
   rw [hx]
   simp [zhy]
  ·simp only [ne_eq, e3, not_true, if_false] at h3
   subst e3
   have hw := wrap_i64 (n := (j : Int) + 1) (by omega) (by omega)
   have hw2 := wrap_i64 (n := (j : Int) + 1 + 1) (by omega) (by omega)
   simp [hb, hw]
   by_cases hj2 : j + 1 < s.size
   rotate_left
   ·have hj2' : (s.size : Int) <= (j : Int) + 1 := by omega
    rw [List.drop_of_length_le (by omega), quoE] at h3
    simp only at h3
    subst h3
    simp [hj2']
    rfl
   have hj2' : ¬ (s.size : Int) <= (j : Int) + 1 := by omega
   have hjl : j + 1 < s.data.toList.length := by omega
   rw [List.drop_eq_getElem_cons hjl, quoE] at h3
   have hx2 := zpo hjl
   have hb2 := zcf hjl
   generalize s.data.toList[j + 1] = d at h3 hb2 hx2
   have hsz : (bA out).size = out.length := by rw [<- zbk]; simp [bA]
   have hnat : ((j : Int) + 1).toNat = j + 1 := by omega
   have hw2 : IntKind.i64.wrap ((j : Int) + 1 + 1) = ((j + 2 : Nat) : Int) := by rw [hw2]; omega
   have hmin : min (j + 2) s.size - (j + 1) <= 1 := by omega
   have hcat : (bA out).size + 1 <= zak := by rw [hsz]; unfold zak; omega
   by_cases d1 : d = 92 \/ d = 34
   ·rw [if_pos d1] at h3
    rw [zfs out d j 2] at h3
    have hnat2 : ((j : Int) + 2).toNat = j + 1 + 1 := by omega
    rcases d1 with q | q
    ·have q1 := (ubn d 92).1 q
     simp at q1
     simp [hj2', hb2, hnat, hw2, q1]
     refine ⟨by omega, by omega, by omega, by omega, by omega, by rw [hnat2]; omega, ?_⟩
     refine Abs.Next.mk (j + 2, out ++ [d]) [] ⟨by simp only; omega, by simp; omega, h3⟩ (by simp only; omega) ?_
     rw [hnat2, hx2]
     simp [zhy]
    ·have q1 := (ubn d 34).1 q
     simp at q1
     simp [hj2', hb2, hnat, hw2, q1]
     refine ⟨by omega, by omega, by omega, by omega, by omega, by rw [hnat2]; omega, ?_⟩
     refine Abs.Next.mk (j + 2, out ++ [d]) [] ⟨by simp only; omega, by simp; omega, h3⟩ (by simp only; omega) ?_
     rw [hnat2, hx2]
     simp [zhy]
   rw [if_neg d1] at h3
   have d11 := un (fun h => d1 (.inl h))
   have d12 := un (fun h => d1 (.inr h))
   simp at d11 d12
   by_cases d2 : d = 110
   ·rw [if_pos d2] at h3
    subst d2
    rw [zfs out 10 j 2] at h3
    simp [hj2', hb2, hnat, hw2]
    refine ⟨by omega, hcat, ?_⟩
    refine Abs.Next.mk (j + 2, out ++ [10]) [] ⟨by simp only; omega, by simp; omega, h3⟩ (by simp only; omega) ?_
    simp [zhy]
    rfl
   rw [if_neg d2] at h3
   have d21 := un d2
   simp at d21
   by_cases d3 : d = 116
   ·rw [if_pos d3] at h3
    subst d3
    rw [zfs out 9 j 2] at h3
    simp [hj2', hb2, hnat, hw2]
    refine ⟨by omega, hcat, ?_⟩
    refine Abs.Next.mk (j + 2, out ++ [9]) [] ⟨by simp only; omega, by simp; omega, h3⟩ (by simp only; omega) ?_
    simp [zhy]
    rfl
   rw [if_neg d3] at h3
   have d31 := un d3
   simp at d31
   simp only at h3
   subst h3
   simp [hj2', hb2, hnat, d11, d12, d21, d31]
   exact ⟨by omega, rfl⟩
 ·have hj : j = s.size := by simp at h; omega
  subst hj
  unfold quoR at h3
  rw [List.drop_of_length_le (by omega), quoL] at h3
  simp only at h3
  subst h3
  simp
  rfl
end Go.Gr
