/- What a weight tells; the laws of units, and of a coercion behind itself. -/
import Derived.Test.YtkgomampbengjaaGreatDoorCoV
set_option linter.unusedVariables false
set_option linter.unusedSimpArgs false
namespace Go.Gr
open Go.Abs Go.Proofs

mutual
theorem wgt_le : ∀ (d : Coe) (m : Int), m ≤ 1000 → wgt d m ≤ m ∨ wgt d m ≤ 0
  | .mk t n s f g, m, hm => by
    rw [wgt]
    split
    · exact .inr (Int.le_refl _)
    · rename_i q
      have q' : (f.length : Int) ≤ m := by omega
      have hw : IntKind.i64.wrap (m - 1) = m - 1 := wrap_i64 (by omega) (by omega)
      rw [hw]
      have h1 := wgts_le f (m - 1) (by omega)
      have h2 := wgts_le g (wgts f (m - 1)) (by omega)
      omega
theorem wgts_le : ∀ (l : List Coe) (m : Int), m ≤ 1000 → wgts l m ≤ m ∨ wgts l m ≤ 0
  | [], m, hm => .inl (by simp [wgts])
  | d :: ds, m, hm => by
    rw [wgts]
    split
    · have h1 := wgt_le d m hm
      have h2 := wgts_le ds (wgt d m) (by omega)
      omega
    · exact .inl (Int.le_refl _)
end
mutual
theorem wgt_tells : ∀ (d : Coe) (m : Int), 0 < wgt d m → m ≤ 1000 → smC 1000 d ∧ wgt d m + sizC d ≤ m
  | .mk t n s f g, m, h, hm => by
    rw [wgt] at h ⊢
    split at h
    · omega
    · rename_i q
      rw [if_neg q]
      have q' : n.length ≤ 100 ∧ (f.length : Int) ≤ m ∧ (g.length : Int) ≤ m := by omega
      have hw : IntKind.i64.wrap (m - 1) = m - 1 := wrap_i64 (by omega) (by omega)
      rw [hw] at h ⊢
      obtain ⟨g1, g2⟩ := wgts_tells g _ h (by
        have := wgts_le f (m - 1) (by omega)
        omega)
      have hf : 0 < wgts f (m - 1) := by
        rcases Int.lt_or_le 0 (wgts f (m - 1)) with q | q
        · exact q
        · rw [wgts_stop q] at h; omega
      obtain ⟨f1, f2⟩ := wgts_tells f _ hf (by omega)
      refine ⟨?_, ?_⟩
      · simp only [smC, smCs_iff]
        exact ⟨by omega, by omega, by omega, f1, g1⟩
      · simp only [sizC]
        omega
theorem wgts_tells : ∀ (l : List Coe) (m : Int), 0 < wgts l m → m ≤ 1000 → (∀ x, x ∈ l → smC 1000 x) ∧ wgts l m + sizCs l ≤ m
  | [], m, h, hm => ⟨(fun x hx => by cases hx), by simp [wgts, sizCs]⟩
  | d :: ds, m, h, hm => by
    rw [wgts] at h ⊢
    split at h
    · rename_i q
      rw [if_pos q]
      have hd : 0 < wgt d m := by
        rcases Int.lt_or_le 0 (wgt d m) with q | q
        · exact q
        · rw [wgts_stop q] at h; omega
      obtain ⟨d1, d2⟩ := wgt_tells d m hd hm
      obtain ⟨l1, l2⟩ := wgts_tells ds _ h (by omega)
      refine ⟨fun x hx => ?_, by simp only [sizCs]; omega⟩
      rcases List.mem_cons.1 hx with rfl | hx
      · exact d1
      · exact l1 x hx
    · rename_i q
      omega
end
mutual
theorem wgt_nn : ∀ (d : Coe) (m : Int), 1 ≤ m → m ≤ 1000 → 0 ≤ wgt d m
  | .mk t n s f g, m, h, hm => by
    rw [wgt]
    split
    · exact Int.le_refl _
    · have hw : IntKind.i64.wrap (m - 1) = m - 1 := wrap_i64 (by omega) (by omega)
      rw [hw]
      have h1 := wgts_nn f (m - 1) (by omega) (by omega)
      have h2 := wgts_le f (m - 1) (by omega)
      exact wgts_nn g _ h1 (by omega)
theorem wgts_nn : ∀ (l : List Coe) (m : Int), 0 ≤ m → m ≤ 1000 → 0 ≤ wgts l m
  | [], m, h, hm => by simpa [wgts] using h
  | d :: ds, m, h, hm => by
    rw [wgts]
    split
    · rename_i q
      have h1 := wgt_nn d m (by omega) hm
      have h2 := wgt_le d m hm
      exact wgts_nn ds _ h1 (by omega)
    · exact h
end
theorem wgt_small {d : Coe} {m : Int} (h1 : 1 ≤ m) (hm : m ≤ 1000) (h : ¬ wgt d m = 0) : smC 1000 d ∧ sizC d ≤ 1000 := by
  have h2 := wgt_nn d m h1 hm
  have := wgt_tells d m (by omega) hm
  exact ⟨this.1, by omega⟩
theorem smC_up {B B' : Nat} (h : B ≤ B') {c : Coe} (s : smC B c) : smC B' c := by
  obtain ⟨n, hn⟩ := inN_ex c
  exact smC_le h n hn s

set_option maxRecDepth 20000 in
theorem CoerceTwice_ok (a : Coe) : PCall Pg F.graduslaw10_CoerceTwice [.agg a.enc] (.one (.bool true)) := by
  refine w_graduslaw10_CoerceTwice (by simp) fun o c hN hp => ?_
  unfold mc_graduslaw10_CoerceTwice
  simp
  refine callK.mk awake_ok ?_
  simp
  refine callK.mk (weight_ok a 100) ?_
  simp
  refine gd.mk (fun h => ?_) (fun h => ?_)
  · refine callK.mk (cMay_ok a) ?_
    simp
    refine gd.mk (fun h2 => trivial) (fun h2 => ?_)
    have h1' : ¬ wgt a 100 = 0 := of_decide_eq_false h
    have h2' : mayC a = true := by simpa using h2
    obtain ⟨n, hn⟩ := inN_ex a
    have sa := smC_up (B' := 536870912) (by omega) (wgt_small (by omega) (by omega) h1').1
    have hc := Compose_ok n hn hn sa sa
    have e : compC n a a = a := by unfold compC; rw [h2']; exact comp_idem n a hn h2'
    rw [e] at hc
    have m7 := Same_ok a a
    rw [sameC_rfl] at m7
    refine callK.mk hc ?_
    simp
    refine callK.mk m7 ?_
    simp
    decide
  · trivial

/-- the coercions that the law of units is handed -/
theorem units_plain {n : Nat} {a b c : Coe} (ia : inN n a) (ib : inN n b) (ic : inN n c) (ma : mayC a = true) (mb : mayC b = true) (mc : mayC c = true) : compC n (compC n a b) c = compC n a (compC n b c) := by
  have e1 : compC n a b = compN n a b := by unfold compC; rw [ma, mb]; rfl
  have e2 : compC n b c = compN n b c := by unfold compC; rw [mb, mc]; rfl
  have m1 := comp_may n a b ma mb
  have m2 := comp_may n b c mb mc
  rw [e1, e2]
  unfold compC
  rw [m1, mc, ma, m2]
  exact comp_assoc n a b c ia ib ic ma mb mc

set_option maxRecDepth 20000 in
theorem CoerceUnits_ok (a b c : Coe) : PCall Pg F.graduslaw10_CoerceUnits [.agg a.enc, .agg b.enc, .agg c.enc] (.one (.bool true)) := by
  refine w_graduslaw10_CoerceUnits (by simp) fun o c' hN hp => ?_
  unfold mc_graduslaw10_CoerceUnits
  simp
  refine callK.mk awake_ok ?_
  simp
  refine callK.mk (weight_ok a 100) ?_
  simp
  refine gd.mk (fun w1 => ?_) (fun w1 => trivial)
  refine callK.mk (weight_ok b 100) ?_
  simp
  refine gd.mk (fun w2 => ?_) (fun w2 => trivial)
  refine callK.mk (weight_ok c 100) ?_
  simp
  refine gd.mk (fun w3 => trivial) (fun w3 => ?_)
  have w1' : ¬ wgt a 100 = 0 := of_decide_eq_false w1
  have w2' : ¬ wgt b 100 = 0 := of_decide_eq_false w2
  have w3' : ¬ wgt c 100 = 0 := by simpa using w3
  obtain ⟨n1, i1⟩ := inN_ex a
  obtain ⟨n2, i2⟩ := inN_ex b
  obtain ⟨n3, i3⟩ := inN_ex c
  have ia : inN (n1 + n2 + n3) a := inN_le (by omega) i1
  have ib : inN (n1 + n2 + n3) b := inN_le (by omega) i2
  have ic : inN (n1 + n2 + n3) c := inN_le (by omega) i3
  generalize n1 + n2 + n3 = n at ia ib ic
  have ta := (wgt_small (by omega) (by omega) w1').1
  have tb := (wgt_small (by omega) (by omega) w2').1
  have tc := (wgt_small (by omega) (by omega) w3').1
  have sa := smC_up (B' := 536870912) (by omega) ta
  have sb := smC_up (B' := 536870912) (by omega) tb
  have sc := smC_up (B' := 536870912) (by omega) tc
  have m7 := Same_ok a a
  rw [sameC_rfl] at m7
  refine callK.mk Id_ok ?_
  simp
  refine callK.mk (cMay_ok a) ?_
  simp
  refine gd.mk (fun ma => ?_) (fun ma => ?_)
  · have u1 := Compose_ok n ia (inN_id n) sa (smC_id _)
    have u2 := Compose_ok n (inN_id n) ia (smC_id _) sa
    have hu := comp_unit n a ia ma
    have e1 : compC n a idC = a := by unfold compC; rw [ma, may_id]; exact hu.1
    have e2 : compC n idC a = a := by unfold compC; rw [ma, may_id]; exact hu.2
    rw [e1] at u1
    rw [e2] at u2
    refine callK.mk u1 ?_
    simp
    refine callK.mk m7 ?_
    simp
    refine callK.mk u2 ?_
    simp
    refine callK.mk m7 ?_
    simp
    refine ⟨by decide, ?_⟩
    refine callK.mk (cMay_ok a) ?_
    simp [ma]
    refine callK.mk (cMay_ok b) ?_
    simp
    refine gd.mk (fun mb => ?_) (fun mb => trivial)
    refine callK.mk (cMay_ok c) ?_
    simp
    refine gd.mk (fun mc => trivial) (fun mc => ?_)
    have mc' : mayC c = true := by simpa using mc
    have mb' : mayC b = true := by simpa using mb
    have v1 := Compose_ok n ia ib sa sb
    have v2 := Compose_ok n ib ic sb sc
    have k1 : compC n a b = compN n a b := by unfold compC; rw [ma, mb']; rfl
    have k2 : compC n b c = compN n b c := by unfold compC; rw [mb', mc']; rfl
    have s1 := (smC_comp (A := 1000) (B := 1000) (by omega) n ia ib ma mb' ta tb).1
    have s2 := (smC_comp (A := 1000) (B := 1000) (by omega) n ib ic mb' mc' tb tc).1
    have v3 := Compose_ok n (a := compC n a b) (b := c) (by rw [k1]; exact comp_in n ma mb' ia ib) ic (by rw [k1]; exact smC_up (by omega) s1) sc
    have v4 := Compose_ok n (a := a) (b := compC n b c) ia (by rw [k2]; exact comp_in n mb' mc' ib ic) sa (by rw [k2]; exact smC_up (by omega) s2)
    rw [units_plain ia ib ic ma mb' mc'] at v3
    have m8 := Same_ok (compC n a (compC n b c)) (compC n a (compC n b c))
    rw [sameC_rfl] at m8
    refine callK.mk v1 ?_
    simp
    refine callK.mk v3 ?_
    simp
    refine ⟨by decide, ?_⟩
    refine callK.mk v2 ?_
    simp
    refine callK.mk v4 ?_
    simp
    refine ⟨by decide, ?_⟩
    refine callK.mk m8 ?_
    simp
  · simp at ma
    refine ⟨by decide, ?_⟩
    refine callK.mk (cMay_ok a) ?_
    simp [ma]
end Go.Gr
