import Derived.Test.YtkgomampbengjaaGreatDoorCoV
/- What a weight tells; the laws of units, and of a coercion behind itself. -/
set_option linter.unusedVariables false
set_option linter.unusedSimpArgs false
namespace Go.Gr
open Go.Abs Go.Proofs

mutual
theorem wgt_le : ∀ (d : Coe) (m : Int), m ≤ 1000 → wgt d m ≤ m ∨ wgt d m ≤ 0
  | .mk t n s f g, m, hm => by
    rw [wgt]
    split
    · exact .inr (Int.le_refl _)
    · rename_i q
      have q' : (f.length : Int) ≤ m := by omega
      have hw : IntKind.i64.wrap (m - 1) = m - 1 := wrap_i64 (by omega) (by omega)
      rw [hw]
      have h1 := wgts_le f (m - 1) (by omega)
      have h2 := wgts_le g (wgts f (m - 1)) (by omega)
      omega
theorem wgts_le : ∀ (l : List Coe) (m : Int), m ≤ 1000 → wgts l m ≤ m ∨ wgts l m ≤ 0
  | [], m, hm => .inl (by simp [wgts])
  | d :: ds, m, hm => by
    rw [wgts]
    split
    · have h1 := wgt_le d m hm
      have h2 := wgts_le ds (wgt d m) (by omega)
      omega
    · exact .inl (Int.le_refl _)
end
mutual
theorem wgt_tells : ∀ (d : Coe) (m : Int), 0 < wgt d m → m ≤ 1000 → smC 1000 d ∧ wgt d m + sizC d ≤ m
  | .mk t n s f g, m, h, hm => by
    rw [wgt] at h ⊢
    split at h
    · omega
    · rename_i q
      rw [if_neg q]
      have q' : n.length ≤ 100 ∧ (f.length : Int) ≤ m ∧ (g.length : Int) ≤ m := by omega
      have hw : IntKind.i64.wrap (m - 1) = m - 1 := wrap_i64 (by omega) (by omega)
      rw [hw] at h ⊢
      obtain ⟨g1, g2⟩ := wgts_tells g _ h (by
        have := wgts_le f (m - 1) (by omega)
        omega)
      have hf : 0 < wgts f (m - 1) := by
        rcases Int.lt_or_le 0 (wgts f (m - 1)) with q | q
        · exact q
        · rw [wgts_stop q] at h; omega
      obtain ⟨f1, f2⟩ := wgts_tells f _ hf (by omega)
      refine ⟨?_, ?_⟩
      · simp only [smC, smCs_iff]
        exact ⟨by omega, by omega, by omega, f1, g1⟩
      · simp only [sizC]
        omega
theorem wgts_tells : ∀ (l : List Coe) (m : Int), 0 < wgts l m → m ≤ 1000 → (∀ x, x ∈ l → smC 1000 x) ∧ wgts l m + sizCs l ≤ m
  | [], m, h, hm => ⟨(fun x hx => by cases hx), by simp [wgts, sizCs]⟩
  | d :: ds, m, h, hm => by
    rw [wgts] at h ⊢
    split at h
    · rename_i q
      rw [if_pos q]
      have hd : 0 < wgt d m := by
        rcases Int.lt_or_le 0 (wgt d m) with q | q
        · exact q
        · rw [wgts_stop q] at h; omega
      obtain ⟨d1, d2⟩ := wgt_tells d m hd hm
      obtain ⟨l1, l2⟩ := wgts_tells ds _ h (by omega)
      refine ⟨fun x hx => ?_, by simp only [sizCs]; omega⟩
      rcases List.mem_cons.1 hx with rfl | hx
      · exact d1
      · exact l1 x hx
    · rename_i q
      omega
end
mutual
theorem wgt_nn : ∀ (d : Coe) (m : Int), 1 ≤ m → m ≤ 1000 → 0 ≤ wgt d m
  | .mk t n s f g, m, h, hm => by
    rw [wgt]
    split
    · exact Int.le_refl _
    · have hw : IntKind.i64.wrap (m - 1) = m - 1 := wrap_i64 (by omega) (by omega)
      rw [hw]
      have h1 := wgts_nn f (m - 1) (by omega) (by omega)
      have h2 := wgts_le f (m - 1) (by omega)
      exact wgts_nn g _ h1 (by omega)
theorem wgts_nn : ∀ (l : List Coe) (m : Int), 0 ≤ m → m ≤ 1000 → 0 ≤ wgts l m
  | [], m, h, hm => by simpa [wgts] using h
  | d :: ds, m, h, hm => by
    rw [wgts]
    split
    · rename_i q
      have h1 := wgt_nn d m (by omega) hm
      have h2 := wgt_le d m hm
      exact wgts_nn ds _ h1 (by omega)
    · exact h
end
theorem wgt_small {d : Coe} {m : Int} (h1 : 1 ≤ m) (hm : m ≤ 1000) (h : ¬ wgt d m = 0) : smC 1000 d ∧ sizC d ≤ 1000 := by
  have h2 := wgt_nn d m h1 hm
  have := wgt_tells d m (by omega) hm
  exact ⟨this.1, by omega⟩
theorem smC_up {B B' : Nat} (h : B ≤ B') {c : Coe} (s : smC B c) : smC B' c := by
  obtain ⟨n, hn⟩ := inN_ex c
  exact smC_le h n hn s

set_option maxRecDepth 20000 in
theorem CoerceTwice_ok (a : Coe) : PCall Pg F.graduslaw10_CoerceTwice [.agg a.enc] (.one (.bool true)) := by
  refine w_graduslaw10_CoerceTwice (by simp) fun o c hN hp => ?_
  unfold mc_graduslaw10_CoerceTwice
  simp
  refine callK.mk awake_ok ?_
  simp
  refine callK.mk (weight_ok a 100) ?_
  simp
  refine gd.mk (fun h => ?_) (fun h => ?_)
  · refine callK.mk (cMay_ok a) ?_
    simp
    refine gd.mk (fun h2 => trivial) (fun h2 => ?_)
    have h1' : ¬ wgt a 100 = 0 := of_decide_eq_false h
    have h2' : mayC a = true := by simpa using h2
    obtain ⟨n, hn⟩ := inN_ex a
    have sa := smC_up (B' := 536870912) (by omega) (wgt_small (by omega) (by omega) h1').1
    have hc := Compose_ok n hn hn sa sa
    have e : compC n a a = a := by unfold compC; rw [h2']; exact comp_idem n a hn h2'
    rw [e] at hc
    have m7 := Same_ok a a
    rw [sameC_rfl] at m7
    refine callK.mk hc ?_
    simp
    refine callK.mk m7 ?_
    simp
    decide
  · trivial

/-- the coercions that the law of units is handed -/
theorem units_plain {n : Nat} {a b c : Coe} (ia : inN n a) (ib : inN n b) (ic : inN n c) (ma : mayC a = true) (mb : mayC b = true) (mc : mayC c = true) : compC n (compC n a b) c = compC n a (compC n b c) := by
  have e1 : compC n a b = compN n a b := by unfold compC; rw [ma, mb]; rfl
  have e2 : compC n b c = compN n b c := by unfold compC; rw [mb, mc]; rfl
  have m1 := comp_may n a b ma mb
  have m2 := comp_may n b c mb mc
  rw [e1, e2]
  unfold compC
  rw [m1, mc, ma, m2]
  exact comp_assoc n a b c ia ib ic ma mb mc

set_option maxRecDepth 20000 in
theorem CoerceUnits_ok (a b c : Coe) : PCall Pg F.graduslaw10_CoerceUnits [.agg a.enc, .agg b.enc, .agg c.enc] (.one (.bool true)) := by
  refine w_graduslaw10_CoerceUnits (by simp) fun o c' hN hp => ?_
  unfold mc_graduslaw10_CoerceUnits
  simp
  refine callK.mk awake_ok ?_
  simp
  refine callK.mk (weight_ok a 100) ?_
  simp
  refine gd.mk (fun w1 => ?_) (fun w1 => trivial)
  refine callK.mk (weight_ok b 100) ?_
  simp
  refine gd.mk (fun w2 => ?_) (fun w2 => trivial)
  refine callK.mk (weight_ok c 100) ?_
  simp
  refine gd.mk (fun w3 => trivial) (fun w3 => ?_)
  have w1' : ¬ wgt a 100 = 0 := of_decide_eq_false w1
  have w2' : ¬ wgt b 100 = 0 := of_decide_eq_false w2
  have w3' : ¬ wgt c 100 = 0 := by simpa using w3
  obtain ⟨n1, i1⟩ := inN_ex a
  obtain ⟨n2, i2⟩ := inN_ex b
  obtain ⟨n3, i3⟩ := inN_ex c
  have ia : inN (n1 + n2 + n3) a := inN_le (by omega) i1
  have ib : inN (n1 + n2 + n3) b := inN_le (by omega) i2
  have ic : inN (n1 + n2 + n3) c := inN_le (by omega) i3
  generalize n1 + n2 + n3 = n at ia ib ic
  have ta := (wgt_small (by omega) (by omega) w1').1
  have tb := (wgt_small (by omega) (by omega) w2').1
  have tc := (wgt_small (by omega) (by omega) w3').1
  have sa := smC_up (B' := 536870912) (by omega) ta
  have sb := smC_up (B' := 536870912) (by omega) tb
  have sc := smC_up (B' := 536870912) (by omega) tc
  have m7 := Same_ok a a
  rw [sameC_rfl] at m7
  refine callK.mk Id_ok ?_
  simp
  refine callK.mk (cMay_ok a) ?_
  simp
  refine gd.mk (fun ma => ?_) (fun ma => ?_)
  · have u1 := Compose_ok n ia (inN_id n) sa (smC_id _)
    have u2 := Compose_ok n (inN_id n) ia (smC_id _) sa
    have hu := comp_unit n a ia ma
    have e1 : compC n a idC = a := by unfold compC; rw [ma, may_id]; exact hu.1
    have e2 : compC n idC a = a := by unfold compC; rw [ma, may_id]; exact hu.2
    rw [e1] at u1
    rw [e2] at u2
    refine callK.mk u1 ?_
    simp
    refine callK.mk m7 ?_
    simp
    refine callK.mk u2 ?_
    simp
    refine callK.mk m7 ?_
    simp
    refine ⟨by decide, ?_⟩
    refine callK.mk (cMay_ok a) ?_
    simp [ma]
    refine callK.mk (cMay_ok b) ?_
    simp
    refine gd.mk (fun mb => ?_) (fun mb => trivial)
    refine callK.mk (cMay_ok c) ?_
    simp
    refine gd.mk (fun mc => trivial) (fun mc => ?_)
    have mc' : mayC c = true := by simpa using mc
    have mb' : mayC b = true := by simpa using mb
    have v1 := Compose_ok n ia ib sa sb
    have v2 := Compose_ok n ib ic sb sc
    have k1 : compC n a b = compN n a b := by unfold compC; rw [ma, mb']; rfl
    have k2 : compC n b c = compN n b c := by unfold compC; rw [mb', mc']; rfl
    have s1 := (smC_comp (A := 1000) (B := 1000) (by omega) n ia ib ma mb' ta tb).1
    have s2 := (smC_comp (A := 1000) (B := 1000) (by omega) n ib ic mb' mc' tb tc).1
    have v3 := Compose_ok n (a := compC n a b) (b := c) (by rw [k1]; exact comp_in n ma mb' ia ib) ic (by rw [k1]; exact smC_up (by omega) s1) sc
    have v4 := Compose_ok n (a := a) (b := compC n b c) ia (by rw [k2]; exact comp_in n mb' mc' ib ic) sa (by rw [k2]; exact smC_up (by omega) s2)
    rw [units_plain ia ib ic ma mb' mc'] at v3
    have m8 := Same_ok (compC n a (compC n b c)) (compC n a (compC n b c))
    rw [sameC_rfl] at m8
    refine callK.mk v1 ?_
    simp
    refine callK.mk v3 ?_
    simp
    refine ⟨by decide, ?_⟩
    refine callK.mk v2 ?_
    simp
    refine callK.mk v4 ?_
    simp
    refine ⟨by decide, ?_⟩
    refine callK.mk m8 ?_
    simp
  · simp at ma
    refine ⟨by decide, ?_⟩
    refine callK.mk (cMay_ok a) ?_
    simp [ma]
end Go.Gr

/- Labels: plain lists. -/
set_option linter.unusedVariables false
set_option linter.unusedSimpArgs false
namespace Go.Gr
open Go.Abs Go.Proofs

/-! ### a set of numbers, as they come -/
def insL (l : List Int) (x : Int) : List Int := if x ∈ l then l else l ++ [x]
def addL (l r : List Int) : List Int := r.foldl insL l
theorem addL_app (l a b : List Int) : addL l (a ++ b) = addL (addL l a) b := by simp [addL]
@[simp] theorem addL_nil (l : List Int) : addL l [] = l := rfl
theorem addL_take {l r : List Int} {j : Nat} (h : j < r.length) : addL l (r.take (j + 1)) = insL (addL l (r.take j)) r[j] := by
  rw [List.take_succ_eq_append_getElem h, addL_app]; rfl
theorem insL_mem {l : List Int} {x y : Int} : y ∈ insL l x ↔ y ∈ l ∨ y = x := by
  unfold insL
  split
  · rename_i h
    exact ⟨.inl, fun h' => h'.elim id fun e => e ▸ h⟩
  · simp
theorem insL_nodup {l : List Int} {x : Int} (h : l.Nodup) : (insL l x).Nodup := by
  unfold insL
  split
  · exact h
  · rename_i q
    refine List.nodup_append.2 ⟨h, by simp, fun a ha b hb e => ?_⟩
    rw [List.mem_singleton] at hb
    exact q (hb ▸ e ▸ ha)
theorem insL_len (l : List Int) (x : Int) : (insL l x).length ≤ l.length + 1 := by
  unfold insL; split <;> simp
theorem addL_mem : ∀ {r l : List Int} {y : Int}, y ∈ addL l r ↔ y ∈ l ∨ y ∈ r
  | [], l, y => by simp [addL]
  | x :: r, l, y => by
    have : addL l (x :: r) = addL (insL l x) r := rfl
    rw [this, addL_mem, insL_mem, List.mem_cons, or_assoc]
theorem addL_nodup : ∀ {r l : List Int}, l.Nodup → (addL l r).Nodup
  | [], l, h => h
  | x :: r, l, h => addL_nodup (r := r) (insL_nodup h)
theorem addL_len : ∀ (r l : List Int), (addL l r).length ≤ l.length + r.length
  | [], l => Nat.le_refl _
  | x :: r, l => by
    have h1 := addL_len r (insL l x)
    have h2 := insL_len l x
    have : addL l (x :: r) = addL (insL l x) r := rfl
    rw [this, List.length_cons]; omega

/-! ### in rising order, without nought -/
def labS (r : List Int) : List Int := sortI ((addL [] r).filter fun x => !decide (x = 0))
theorem sortI_mem {l : List Int} {x : Int} : x ∈ sortI l ↔ x ∈ l := by simp [sortI]
theorem sortI_rises {l : List Int} (h : l.Nodup) : (sortI l).Pairwise (· < ·) := by
  have h1 := List.pairwise_mergeSort (le := fun x y : Int => decide (x ≤ y)) (fun a b c h1 h2 => by simp only [decide_eq_true_eq] at *; omega) (fun a b => by simp only [Bool.or_eq_true, decide_eq_true_eq]; omega) l
  have h2 : (l.mergeSort fun x y => decide (x ≤ y)).Nodup := (List.mergeSort_perm _ _).nodup_iff.2 h
  unfold sortI
  refine (h1.and h2).imp fun {a b} ⟨p, q⟩ => ?_
  simp only [decide_eq_true_eq] at p
  omega
theorem rises_extI {l k : List Int} (h1 : l.Pairwise (· < ·)) (h2 : k.Pairwise (· < ·)) (h : ∀ x, x ∈ l ↔ x ∈ k) : l = k :=
  List.Perm.eq_of_pairwise (le := (· < ·)) (fun a b _ _ p q => by omega) h1 h2 ((List.perm_ext_iff_of_nodup (h1.imp fun h e => by omega) (h2.imp fun h e => by omega)).2 h)
theorem labS_mem {r : List Int} {x : Int} : x ∈ labS r ↔ x ∈ r ∧ x ≠ 0 := by
  unfold labS
  rw [sortI_mem, List.mem_filter, addL_mem]
  simp
theorem labS_rises (r : List Int) : (labS r).Pairwise (· < ·) := sortI_rises ((addL_nodup (r := r) (l := []) (by simp)).filter _)
theorem labS_is {l r : List Int} (h1 : l.Pairwise (· < ·)) (h : ∀ x, x ∈ l ↔ x ∈ r ∧ x ≠ 0) : l = labS r :=
  rises_extI h1 (labS_rises r) fun x => by rw [h, labS_mem]
theorem labS_len (r : List Int) : (labS r).length ≤ r.length := by
  unfold labS sortI
  have h1 := addL_len r []
  have h2 := List.length_filter_le (fun x => !decide (x = 0)) (addL [] r)
  simp only [List.length_nil, Nat.zero_add] at h1
  rw [List.length_mergeSort]; omega
@[simp] theorem labS_nil : labS [] = [] := by simp [labS, sortI, addL]

/-- how many are less -/
def cutI (l : List Int) (x : Int) : Nat := (l.takeWhile fun y => decide (y < x)).length
theorem cutI_le (l : List Int) (x : Int) : cutI l x ≤ l.length := by
  unfold cutI
  have := (List.takeWhile_sublist (l := l) fun y => decide (y < x)).length_le
  omega
theorem cutI_lt : ∀ {l : List Int} {x : Int} {i : Nat} (h : i < l.length), i < cutI l x → l[i] < x
  | y :: l, x, i, h, hi => by
    unfold cutI at hi
    rw [List.takeWhile_cons] at hi
    split at hi
    · rename_i q
      match i with
      | 0 => simpa using q
      | i + 1 =>
        simp only [List.getElem_cons_succ]
        exact cutI_lt _ (by unfold cutI; simpa using hi)
    · simp at hi
theorem cutI_at : ∀ {l : List Int} {x : Int} (h : cutI l x < l.length), ¬ l[cutI l x] < x
  | [], x, h => by simp at h
  | y :: l, x, h => by
    by_cases q : y < x
    · have e : cutI (y :: l) x = cutI l x + 1 := by unfold cutI; rw [List.takeWhile_cons, if_pos (by simpa using q)]; rfl
      simp only [e, List.getElem_cons_succ]
      exact cutI_at (by rw [e] at h; simpa using h)
    · have e : cutI (y :: l) x = 0 := by unfold cutI; rw [List.takeWhile_cons, if_neg (by simpa using q)]; rfl
      simp only [e, List.getElem_cons_zero]
      exact q
/-- a number put in its place -/
theorem labS_put {r : List Int} {x : Int} (h0 : x ≠ 0) (hn : x ∉ labS r) : (labS r).take (cutI (labS r) x) ++ x :: (labS r).drop (cutI (labS r) x) = labS (r ++ [x]) := by
  have hr := labS_rises r
  have hm : ∀ y, y ∈ labS r ↔ y ∈ r ∧ y ≠ 0 := fun y => labS_mem
  generalize labS r = l at *
  have hlt : ∀ y, y ∈ l.take (cutI l x) → y < x := fun y hy => by
    obtain ⟨i, hi, e⟩ := List.getElem_of_mem hy
    rw [List.getElem_take] at e
    have : i < cutI l x ∧ i < l.length := by simp at hi; omega
    rw [← e]; exact cutI_lt this.2 this.1
  have hge : ∀ y, y ∈ l.drop (cutI l x) → x < y := fun y hy => by
    obtain ⟨i, hi, e⟩ := List.getElem_of_mem hy
    rw [List.getElem_drop] at e
    have hi' : cutI l x + i < l.length := by simp at hi; omega
    have h1 := cutI_at (l := l) (x := x) (by omega)
    have h2 : l[cutI l x]'(by omega) ≤ l[cutI l x + i] := by
      by_cases q : i = 0
      · subst q; simp
      · exact Int.le_of_lt ((List.pairwise_iff_getElem.1 hr) _ _ (by omega) hi' (by omega))
    have h3 : x ≠ y := fun q => hn (q ▸ List.mem_of_mem_drop hy)
    omega
  have hr1 := hr.sublist (List.take_sublist (cutI l x) l)
  have hr2 := hr.sublist (List.drop_sublist (cutI l x) l)
  refine labS_is ?_ fun y => ?_
  · refine List.pairwise_append.2 ⟨hr1, List.pairwise_cons.2 ⟨hge, hr2⟩, fun a ha b hb => ?_⟩
    have h1 := hlt a ha
    rcases List.mem_cons.1 hb with e | hb
    · omega
    · have := hge b hb; omega
  · have hy : y ∈ l ↔ y ∈ l.take (cutI l x) ∨ y ∈ l.drop (cutI l x) := by rw [← List.mem_append, List.take_append_drop]
    simp only [List.mem_append, List.mem_cons, List.not_mem_nil, or_false]
    constructor
    · rintro (h | rfl | h)
      · have := (hm y).1 (hy.2 (.inl h)); exact ⟨.inl this.1, this.2⟩
      · exact ⟨.inr rfl, h0⟩
      · have := (hm y).1 (hy.2 (.inr h)); exact ⟨.inl this.1, this.2⟩
    · rintro ⟨h | rfl, h2⟩
      · rcases hy.1 ((hm y).2 ⟨h, h2⟩) with q | q
        · exact .inl q
        · exact .inr (.inr q)
      · exact .inr (.inl rfl)
theorem labS_same {r : List Int} {x : Int} (h : x = 0 ∨ x ∈ labS r) : labS r = labS (r ++ [x]) := by
  refine labS_is (labS_rises r) fun y => ?_
  rw [labS_mem, List.mem_append, List.mem_singleton]
  constructor
  · exact fun h => ⟨.inl h.1, h.2⟩
  · rintro ⟨q | rfl, q'⟩
    · exact ⟨q, q'⟩
    · rcases h with h | h
      · exact absurd h q'
      · exact labS_mem.1 h
/-- at the place stands the number, if it is in -/
theorem cutI_is {l : List Int} (hr : l.Pairwise (· < ·)) {x : Int} : x ∈ l ↔ ∃ h : cutI l x < l.length, l[cutI l x] = x := by
  constructor
  · intro hx
    obtain ⟨i, hi, e⟩ := List.getElem_of_mem hx
    have h1 : ¬ i < cutI l x := fun q => by have := cutI_lt hi q; omega
    refine ⟨by omega, ?_⟩
    by_cases q : cutI l x = i
    · simp only [q]; exact e
    · have h2 := (List.pairwise_iff_getElem.1 hr) (cutI l x) i (by omega) hi (by omega)
      have h3 := cutI_at (l := l) (x := x) (by omega)
      omega
  · rintro ⟨h, e⟩
    rw [← e]; exact List.getElem_mem h

/-! ### all the labels of a coercion -/
mutual
def rawC : Coe → List Int
  | .mk t n s f g => (t ++ n.map (·.2)) ++ (rawCs f ++ rawCs g)
def rawCs : List Coe → List Int
  | [] => []
  | c :: l => rawC c ++ rawCs l
end
theorem rawCs_app : ∀ a b : List Coe, rawCs (a ++ b) = rawCs a ++ rawCs b
  | [], b => by simp [rawCs]
  | x :: a, b => by simp [rawCs, rawCs_app a b]
theorem rawC_eq (c : Coe) : rawC c = (c.tags ++ c.needs.map (·.2)) ++ rawCs (c.fields ++ c.fn) := by
  cases c; simp [rawC, Coe.fields, Coe.fn, Coe.tags, Coe.needs, rawCs_app]
theorem rawCs_take {l : List Coe} {j : Nat} (h : j < l.length) : rawCs (l.take (j + 1)) = rawCs (l.take j) ++ rawC l[j] := by
  rw [List.take_succ_eq_append_getElem h, rawCs_app]; simp [rawCs]
theorem rawCs_mem {x : Int} : ∀ {l : List Coe}, x ∈ rawCs l ↔ ∃ c, c ∈ l ∧ x ∈ rawC c
  | [] => by simp [rawCs]
  | c :: l => by simp [rawCs, rawCs_mem (l := l)]
end Go.Gr

/- Labels: the program's, walked. -/
set_option linter.unusedVariables false
set_option linter.unusedSimpArgs false
namespace Go.Gr
open Go.Abs Go.Proofs

theorem mfindL_not {k : Int} : ∀ {l : List Int} (i : Nat), k ∉ l → mfind 0 (.int .i64 k) (mapL l) i = some none
  | [], i, _ => rfl
  | x :: l, i, h => by
    simp only [List.mem_cons, not_or] at h
    have ih := mfindL_not (l := l) (i + 1) h.2
    simp only [mapL] at ih
    simp [mapL, h.1, ih]
theorem mfindL_is {k : Int} : ∀ {l : List Int} (i : Nat), k ∈ l → ∃ j, j < l.length ∧ l[j]? = some k ∧ mfind 0 (.int .i64 k) (mapL l) i = some (some (i + j, .c (.d (.bool true))))
  | [], i, h => by simp at h
  | x :: l, i, h => by
    by_cases e : k = x
    · exact ⟨0, by simp, by simp [e], by simp [mapL, e]⟩
    · have h' : k ∈ l := (List.mem_cons.1 h).resolve_left e
      obtain ⟨j, h1, h2, h3⟩ := mfindL_is (l := l) (i + 1) h'
      simp only [mapL] at h3
      refine ⟨j + 1, by simp; omega, by simpa using h2, ?_⟩
      simp [mapL, e, h3]; omega
theorem mapL_set {l : List Int} {j : Nat} {k : Int} (h : l[j]? = some k) : (mapL l).set j (.int .i64 k, .c (.d (.bool true))) = mapL l := by
  unfold mapL
  have : (l.map fun x => ((D.int .i64 x, AV.c (AC.d (D.bool true))) : D × AV)).set j (.int .i64 k, .c (.d (.bool true))) = (l.set j k).map fun x => (D.int .i64 x, AV.c (AC.d (D.bool true))) := by rw [List.map_set]
  rw [this]
  congr 1
  refine List.ext_getElem? fun i => ?_
  rw [List.getElem?_set]
  split
  · rename_i e
    subst e
    split
    · rw [h]
    · rename_i q
      rw [List.getElem?_eq_none (by omega)]
  · rfl
theorem mapL_put {l : List Int} {k : Int} : (∃ j w, mfind 0 (.int .i64 k) (mapL l) 0 = some (some (j, w)) ∧ (mapL l).set j (.int .i64 k, .c (.d (.bool true))) = mapL (insL l k)) ∨ (mfind 0 (.int .i64 k) (mapL l) 0 = some none ∧ mapL l ++ [(.int .i64 k, .c (.d (.bool true)))] = mapL (insL l k)) := by
  by_cases h : k ∈ l
  · obtain ⟨j, h1, h2, h3⟩ := mfindL_is 0 h
    refine .inl ⟨j, _, by simpa using h3, ?_⟩
    rw [mapL_set h2]; unfold insL; rw [if_pos h]
  · exact .inr ⟨mfindL_not 0 h, by unfold insL; rw [if_neg h]; simp [mapL]⟩

set_option maxRecDepth 20000 in
theorem labels_one (d : Coe) (sd : Small1 536870912 d) (ih : ∀ x, x ∈ d.fields ++ d.fn → ∀ l, MCall Pg F.coerce_labels [.ag (x.enc.map .d), .c (.map 0)] [.map (mapL l)] (.tup []) [.map (mapL (addL l (rawC x)))]) (l : List Int) :
    MCall Pg F.coerce_labels [.ag (d.enc.map .d), .c (.map 0)] [.map (mapL l)] (.tup []) [.map (mapL (addL l (rawC d)))] := by
  have hf := sd.fields
  have hg := sd.fn
  have hn := sd.needs
  refine wm_coerce_labels ⟨by simp, by simp, by simp, by simp, by simp, by simp [live], by simp [live]; exact mapL_lv'⟩ fun ts hts ok hb c hN hp => ?_
  obtain ⟨t0, rfl⟩ := oneTs hts
  have ht : d.tags.length ≤ lenMax := by
    have := ok.1
    rw [Coe.enc_eq] at this
    simp only [List.map_cons, List.map_nil, AV.ok, AC.okL, AC.ok, D.ok] at this
    simpa using this.1.1
  unfold lenMax at ht
  unfold mc_coerce_labels
  simp
  refine W.loop Pg_mixed hp (fun j : Nat => j ≤ d.tags.length) (fun j => [(13, .c (.d (.int .i64 j))), (1, .c (.map 0)), (2, .c (.d (.rp d.enc 0))), (11, .c (.d (.sl false 1 (encI d.tags)))), (12, .c (.d (.int .i64 d.tags.length)))])
    (fun j => [.map (mapL (addL l (d.tags.take j))), .pin t0 0]) (fun j => d.tags.length - j) 0 [0, 1] (by simp) (by simp; exact fun a b h => mapL_lt h) fun j h1 => ?_
  unfold lp_coerce_labels_0
  simp
  refine gd.mk (fun h => ?_) (fun h => ?_)
  · have hj : j < d.tags.length := by simpa using h
    simp [List.getElem?_eq_getElem hj]
    have ha := addL_take (l := l) hj
    rcases mapL_put (l := addL l (d.tags.take j)) (k := d.tags[j]) with ⟨i, w, m1, m2⟩ | ⟨m1, m2⟩ <;> simp [m1, m2] <;> rw [← ha]
    · refine Abs.Next.mk (j + 1) [0, 1] (by omega) (by omega) ?_
      simp
      exact ⟨wrap_i64 (by omega) (by omega), fun a b h => mapL_lt h⟩
    · refine Abs.Next.mk (j + 1) [0, 1] (by omega) (by omega) ?_
      simp
      exact ⟨wrap_i64 (by omega) (by omega), fun a b h => mapL_lt h⟩
  · have hj : j = d.tags.length := by simp at h; omega
    subst hj
    simp
    refine W.loop Pg_mixed hp (fun j : Nat => j ≤ d.needs.length) (fun j => [(23, .c (.d (.int .i64 j))), (1, .c (.map 0)), (2, .c (.d (.rp d.enc 0))), (21, .c (.d (.sl false 2 (encN d.needs)))), (22, .c (.d (.int .i64 d.needs.length)))])
      (fun j => [.map (mapL (addL (addL l d.tags) ((d.needs.map (·.2)).take j))), .pin t0 0]) (fun j => d.needs.length - j) 0 [0, 1] (by simp) (by simp; exact fun a b h => mapL_lt h) fun j h1 => ?_
    unfold lp_coerce_labels_2
    simp
    refine gd.mk (fun h => ?_) (fun h => ?_)
    · have hj : j < d.needs.length := by simpa using h
      have hj2 : j < (d.needs.map (·.2)).length := by simpa using hj
      have ha := addL_take (l := addL l d.tags) hj2
      simp only [List.getElem_map] at ha
      simp [List.getElem?_eq_getElem hj]
      rcases mapL_put (l := addL (addL l d.tags) ((d.needs.map (·.2)).take j)) (k := d.needs[j].2) with ⟨i, w, m1, m2⟩ | ⟨m1, m2⟩ <;> simp [m1, m2] <;> rw [← ha]
      · refine Abs.Next.mk (j + 1) [0, 1] (by omega) (by omega) ?_
        simp
        exact ⟨wrap_i64 (by omega) (by omega), fun a b h => mapL_lt h⟩
      · refine Abs.Next.mk (j + 1) [0, 1] (by omega) (by omega) ?_
        simp
        exact ⟨wrap_i64 (by omega) (by omega), fun a b h => mapL_lt h⟩
    · have hj : j = d.needs.length := by simp at h; omega
      subst hj
      have ha : addL (addL l d.tags) ((d.needs.map (·.2)).take d.needs.length) = addL l (d.tags ++ d.needs.map (·.2)) := by rw [addL_app, List.take_of_length_le (by simp)]
      rw [ha]
      simp
      refine fzK.mk [] ?_
      simp
      refine callKM.mk [] (CloneC_ok d.fields (by omega)) (by simp) ?_
      simp
      refine ⟨by omega, by decide, ?_⟩
      have hL : (List.map ((fun x => List.map AC.d x) ∘ Coe.enc) d.fields).take d.fields.length ++ List.map ((fun x => List.map AC.d x) ∘ Coe.enc) d.fn = ((d.fields ++ d.fn).map Coe.enc).map (·.map .d) := by
        rw [List.take_of_length_le (by simp)]; simp
      have hlen : d.fields.length + d.fn.length = (d.fields ++ d.fn).length := by simp
      have hlenI : (d.fields.length : Int) + d.fn.length = ((d.fields ++ d.fn).length : Nat) := by simp
      have hLl : (d.fields ++ d.fn).length ≤ 1073741824 := by rw [← hlen]; omega
      rw [hL, hlen, hlenI, rawC_eq, addL_app]
      generalize addL l (d.tags ++ d.needs.map (·.2)) = R
      generalize d.fields ++ d.fn = L at *
      refine W.loop Pg_mixed hp (fun j : Nat => j ≤ L.length) (fun j => [(38, .c (.d (.int .i64 j))), (1, .c (.map 0)), (36, .c (.msl 5 3 0 L.length)), (37, .c (.d (.int .i64 L.length)))])
        (fun j => [.map (mapL (addL R (rawCs (L.take j)))), .pin t0 0, .dead, .arr 5 ((L.map Coe.enc).map (·.map .d))]) (fun j => L.length - j) 0 [0, 1, 2, 3] (by simp) (by simp [rawCs]; exact fun a b h => mapL_lt h) fun j h1 => ?_
      unfold lp_coerce_labels_4
      simp
      refine gd.mk (fun h => ?_) (fun h => ?_)
      · have hj : j < L.length := by simpa using h
        simp [List.getElem?_eq_getElem hj]
        have ha : addL (addL R (rawCs (L.take j))) (rawC L[j]) = addL R (rawCs (L.take (j + 1))) := by rw [rawCs_take hj, addL_app]
        have hc := ih _ (List.getElem_mem hj) (addL R (rawCs (L.take j)))
        rw [ha] at hc
        refine ⟨hj, callKM.mk [0] hc (by simp; exact fun a b h => mapL_lt h) ?_⟩
        simp
        refine Abs.Next.mk (j + 1) [0, 1, 2, 3] (by omega) (by omega) ?_
        simp
        exact ⟨wrap_i64 (by omega) (by omega), fun a b h => mapL_lt h⟩
      · have hj : j = L.length := by simp at h; omega
        subst hj
        simp
        exact EndM.mk [0] [1] (by simp)

theorem labels_ok : ∀ (n : Nat) {d : Coe}, inN n d → smC 536870912 d → ∀ l, MCall Pg F.coerce_labels [.ag (d.enc.map .d), .c (.map 0)] [.map (mapL l)] (.tup []) [.map (mapL (addL l (rawC d)))]
  | 0, d, hi, sd => labels_one d (smC_small sd) fun x hx => by
      have : d = idC := hi
      rw [this] at hx; cases hx
  | n + 1, d, hi, sd => labels_one d (smC_small sd) fun x hx => by
      have sd' := (smC_iff _ _).1 sd
      rcases List.mem_append.1 hx with h | h
      · exact labels_ok n (hi.1 x h) (sd'.2.2.2.1 x h)
      · exact labels_ok n (hi.2 x h) (sd'.2.2.2.2 x h)

theorem mapL_erase {l : List Int} (hn : l.Nodup) : (∃ j w, mfind 0 (.int .i64 0) (mapL l) 0 = some (some (j, w)) ∧ (mapL l).eraseIdx j = mapL (l.filter fun x => !decide (x = 0))) ∨ (mfind 0 (.int .i64 0) (mapL l) 0 = some none ∧ mapL l = mapL (l.filter fun x => !decide (x = 0))) := by
  by_cases h : (0 : Int) ∈ l
  · obtain ⟨j, h1, h2, h3⟩ := mfindL_is 0 h
    refine .inl ⟨j, _, by simpa using h3, ?_⟩
    have e : l.eraseIdx j = l.filter fun x => !decide (x = 0) := by
      have hj : l[j] = 0 := by rw [List.getElem?_eq_getElem h1] at h2; simpa using h2
      rw [List.eraseIdx_eq_take_drop_succ]
      have hd : l = l.take j ++ 0 :: l.drop (j + 1) := by
        conv => lhs; rw [← List.take_append_drop j l, List.drop_eq_getElem_cons h1, hj]
      have hnd := hn
      rw [hd] at hnd
      obtain ⟨n1, n2, n3⟩ := List.nodup_append.1 hnd
      have n4 := List.nodup_cons.1 n2
      have f1 : (l.take j).filter (fun x => !decide (x = 0)) = l.take j := List.filter_eq_self.2 fun a ha => by
        have := n3 a ha 0 (by simp)
        simpa using this
      have f2 : (l.drop (j + 1)).filter (fun x => !decide (x = 0)) = l.drop (j + 1) := List.filter_eq_self.2 fun a ha => by
        have : a ≠ 0 := fun e => n4.1 (e ▸ ha)
        simpa using this
      conv => rhs; rw [hd, List.filter_append, List.filter_cons_of_neg (by simp), f1, f2]
    rw [← e]
    unfold mapL
    rw [List.eraseIdx_eq_take_drop_succ, List.eraseIdx_eq_take_drop_succ, List.map_append, List.map_take, List.map_drop]
  · refine .inr ⟨mfindL_not 0 h, ?_⟩
    rw [List.filter_eq_self.2]
    intro a ha
    have : a ≠ 0 := fun e => h (e ▸ ha)
    simpa using this

set_option maxRecDepth 20000 in
theorem Labels_ok (n : Nat) {d : Coe} (hi : inN n d) (sd : smC 536870912 d) (hl : (rawC d).length ≤ 1073741824) : PCall Pg F.coerce_Labels [.agg d.enc] (.one (.sl false 1 (encI (labS (rawC d))))) := by
  refine w_coerce_Labels (by simp) fun o c hN hp => ?_
  unfold mc_coerce_Labels
  simp
  refine callKM.mk [0] (labels_ok n hi sd []) (by simp [mapL]) ?_
  simp
  have hnd := addL_nodup (r := rawC d) (l := []) (by simp)
  have hle := addL_len (rawC d) []
  have hnf := hnd.filter fun x => !decide (x = 0)
  have hlf := List.length_filter_le (fun x => !decide (x = 0)) (addL [] (rawC d))
  have hS : labS (rawC d) = sortI ((addL [] (rawC d)).filter fun x => !decide (x = 0)) := rfl
  rw [hS]
  simp only [List.length_nil, Nat.zero_add] at hle
  rcases mapL_erase hnd with ⟨j, w, m1, m2⟩ | ⟨m1, m2⟩ <;> generalize (addL [] (rawC d)).filter (fun x => !decide (x = 0)) = L at *
  · simp [m1, m2]
    refine callKM.mk [0] (keysL_ok L) (by simp; exact fun a b h => mapL_lt h) ?_
    simp
    refine callKM.mk [0, 1] (sortedL_ok L hnf (by omega)) (by simp; exact fun a b h => mapL_lt h) ?_
    simp
  · simp [m1]
    rw [m2]
    refine callKM.mk [0] (keysL_ok L) (by simp; exact fun a b h => mapL_lt h) ?_
    simp
    refine callKM.mk [0, 1] (sortedL_ok L hnf (by omega)) (by simp; exact fun a b h => mapL_lt h) ?_
    simp
end Go.Gr

/- Labels: the reference's, walked. -/
set_option linter.unusedVariables false
set_option linter.unusedSimpArgs false
namespace Go.Gr
open Go.Abs Go.Proofs

/-- all of these are in -/
def inI (l more : List Int) : Bool := more.all fun x => decide (x = 0) || decide (x ∈ l)
theorem inI_take {l more : List Int} {j : Nat} (h : j < more.length) : inI l (more.take (j + 1)) = (inI l (more.take j) && (decide (more[j] = 0) || decide (more[j] ∈ l))) := by
  unfold inI; rw [List.take_succ_eq_append_getElem h, List.all_append]; simp
abbrev arrI (l : List Int) : Blk := .arr 1 ((encI l).map (·.map .d))
/-- the blocks of the adding's walk -/
def addB (t0 : Nat × Nat) (ok : Bool) (l : List Int) : List Blk := match ok with
  | true => [arrI l, .pin t0 0]
  | false => [.dead, .pin t0 0, arrI l]
def addT (tr ok : Bool) (l more : List Int) (j : Nat) : List (Nat × AV) := [(5, .c (.d (.int .i64 j))), (0, .c (.msl 1 (match ok with | true => 0 | false => 2) 0 l.length)), (1, .c (.d (.sl tr 1 (encI more))))]

set_option maxRecDepth 20000 in
theorem add2 {c : Ctx} (hp : c.pure) {t0 : Nat × Nat} (tr ok : Bool) (l more : List Int) (hl : l.length ≤ 1073741824) {j : Nat} (hj : j < more.length) {Q : Exit → St → Prop} {S : St} {g} {ms : List Nat}
    (h0 : Match ms S ((6, .c (.d (.int .i64 0))) :: addT tr ok l more j) (addB t0 ok l))
    (hQ : ∀ T, Abs.look T 6 = .c (.d (.int .i64 (cutI l more[j]))) → Abs.look T 5 = .c (.d (.int .i64 j)) → Abs.look T 0 = .c (.msl 1 (match ok with | true => 0 | false => 2) 0 l.length) → Abs.look T 1 = .c (.d (.sl tr 1 (encI more))) → Q (.exit 2) ⟨T, hpOf (addB t0 ok l), (addB t0 ok l).length⟩) : lw_ Pg c lp_gradusref10_add_2 Q g S := by
  refine W.loop Pg_mixed hp (fun k : Nat => k ≤ cutI l more[j]) (fun k => (6, .c (.d (.int .i64 k))) :: addT tr ok l more j)
    (fun k => addB t0 ok l) (fun k => cutI l more[j] - k) 0 ms (by simp) h0 fun k h1 => ?_
  have hcl := cutI_le l more[j]
  unfold lp_gradusref10_add_2
  cases ok
  · simp [addB, addT] at hQ ⊢
    refine gd.mk (fun h => ?_) (fun h => ?_)
    · have hk : k < l.length := by simpa using h
      simp [List.getElem?_eq_getElem hk, List.getElem?_eq_getElem hj]
      refine ⟨hk, by decide, gd.mk (fun h => ?_) (fun h => ?_)⟩
      · have hx : l[k] < more[j] := by simpa using h
        have hne : k ≠ cutI l more[j] := fun e => by
          have := cutI_at (l := l) (x := more[j]) (by omega)
          simp only [← e] at this
          exact this hx
        refine Abs.Next.mk (k + 1) [0, 1, 2] (by omega) (by omega) ?_
        simp
        exact wrap_i64 (by omega) (by omega)
      · have hx : ¬ l[k] < more[j] := by simpa using h
        have e : k = cutI l more[j] := by
          rcases Nat.lt_or_ge k (cutI l more[j]) with q | q
          · exact absurd (cutI_lt hk q) hx
          · omega
        exact hQ _ (by simp [e]) (by simp) (by simp) (by simp)
    · have hk : k = l.length := by simp at h; omega
      have e : k = cutI l more[j] := by omega
      exact ⟨by decide, hQ _ (by simp [e]) (by simp) (by simp) (by simp)⟩
  · simp [addB, addT] at hQ ⊢
    refine gd.mk (fun h => ?_) (fun h => ?_)
    · have hk : k < l.length := by simpa using h
      simp [List.getElem?_eq_getElem hk, List.getElem?_eq_getElem hj]
      refine ⟨hk, by decide, gd.mk (fun h => ?_) (fun h => ?_)⟩
      · have hx : l[k] < more[j] := by simpa using h
        have hne : k ≠ cutI l more[j] := fun e => by
          have := cutI_at (l := l) (x := more[j]) (by omega)
          simp only [← e] at this
          exact this hx
        refine Abs.Next.mk (k + 1) [0, 1] (by omega) (by omega) ?_
        simp
        exact wrap_i64 (by omega) (by omega)
      · have hx : ¬ l[k] < more[j] := by simpa using h
        have e : k = cutI l more[j] := by
          rcases Nat.lt_or_ge k (cutI l more[j]) with q | q
          · exact absurd (cutI_lt hk q) hx
          · omega
        exact hQ _ (by simp [e]) (by simp) (by simp) (by simp)
    · have hk : k = l.length := by simp at h; omega
      have e : k = cutI l more[j] := by omega
      exact ⟨by decide, hQ _ (by simp [e]) (by simp) (by simp) (by simp)⟩

set_option maxRecDepth 20000 in
theorem add_walk (tr : Bool) (r more : List Int) (hr : r.length ≤ 536870912) (hm : more.length ≤ 536870912) {t0 : Nat × Nat} {c : Ctx} (hp : c.pure) {Q : Exit → St → Prop} {S : St} {g}
    (h0 : Match [0, 1] S (addT tr true (labS r) more 0) (addB t0 true (labS r)))
    (hQ : ∀ T, Abs.look T 0 = .c (.msl 1 (match inI (labS r) more with | true => 0 | false => 2) 0 (labS (r ++ more)).length) → Q (.exit 0) ⟨T, hpOf (addB t0 (inI (labS r) more) (labS (r ++ more))), (addB t0 (inI (labS r) more) (labS (r ++ more))).length⟩) : lw_ Pg c lp_gradusref10_add_0 Q g S := by
  refine W.loop Pg_mixed hp (fun j : Nat => j ≤ more.length) (fun j => addT tr (inI (labS r) (more.take j)) (labS (r ++ more.take j)) more j)
    (fun j => addB t0 (inI (labS r) (more.take j)) (labS (r ++ more.take j))) (fun j => more.length - j) 0 [0, 1] (by simp) (by simpa [inI] using h0) fun j h1 => ?_
  unfold lp_gradusref10_add_0
  have hlen : (labS (r ++ more.take j)).length ≤ 1073741824 := by
    have := labS_len (r ++ more.take j)
    simp only [List.length_append, List.length_take] at this
    omega
  have hsucc : ∀ h : j < more.length, inI (labS r) (more.take (j + 1)) = (inI (labS r) (more.take j) && (decide (more[j] = 0) || decide (more[j] ∈ labS r))) := fun h => inI_take h
  have hal : inI (labS r) (more.take j) = true → labS (r ++ more.take j) = labS r := fun h => (labS_is (labS_rises r) fun x => by
    rw [labS_mem, List.mem_append]
    constructor
    · exact fun h => ⟨.inl h.1, h.2⟩
    · rintro ⟨q | q, q'⟩
      · exact ⟨q, q'⟩
      · have := List.all_eq_true.1 h x q
        simp only [Bool.or_eq_true, decide_eq_true_eq] at this
        rcases this with e | e
        · exact absurd e q'
        · exact labS_mem.1 e).symm
  have hri := labS_rises (r ++ more.take j)
  by_cases hj : j < more.length
  rotate_left
  · have e : j = more.length := by omega
    subst e
    rw [List.take_length]
    clear hri hal hsucc hlen h0
    generalize inI (labS r) more = ok at *
    generalize labS (r ++ more) = l at *
    cases ok
    · simp [addT, addB]
      exact hQ _ (by simp)
    · simp [addT, addB]
      exact hQ _ (by simp)
  · have hx : r ++ more.take (j + 1) = (r ++ more.take j) ++ [more[j]] := by rw [List.take_succ_eq_append_getElem hj, List.append_assoc]
    have hsucc := hsucc hj
    have hsame : more[j] = 0 ∨ more[j] ∈ labS (r ++ more.take j) → labS (r ++ more.take (j + 1)) = labS (r ++ more.take j) := fun h => by rw [hx]; exact (labS_same h).symm
    have hput : more[j] ≠ 0 → more[j] ∉ labS (r ++ more.take j) → labS (r ++ more.take (j + 1)) = (labS (r ++ more.take j)).take (cutI (labS (r ++ more.take j)) more[j]) ++ more[j] :: (labS (r ++ more.take j)).drop (cutI (labS (r ++ more.take j)) more[j]) := fun h h' => by rw [hx]; exact (labS_put h h').symm
    have his := cutI_is hri (x := more[j])
    have hcl := cutI_le (labS (r ++ more.take j)) more[j]
    clear hx h0
    generalize hok : inI (labS r) (more.take j) = ok at *
    generalize hl : labS (r ++ more.take j) = l at *
    cases ok
    · simp [addT, addB, hj]
      refine add2 (t0 := t0) hp tr false l more hlen hj (ms := [0, 1, 2]) (by simp [addT, addB]) fun T e6 e5 e0 e1 => ?_
      simp [addB, e6, e5, e0, e1, List.getElem?_eq_getElem hj]
      generalize hc : cutI l more[j] = k at *
      by_cases hin : more[j] = 0 ∨ more[j] ∈ l
      · have hs := hsame hin
        have hkeep : inI (labS r) (more.take (j + 1)) = false := by
          rw [hsucc]
          simp
        refine gd.mk (fun z => ?_) (fun z => ?_)
        · have z' : more[j] ≠ 0 := by simpa using z
          obtain ⟨hk, he⟩ := his.1 (hin.resolve_left z')
          simp [hk, List.getElem?_eq_getElem hk, he]
          refine ⟨by decide, ?_⟩
          refine Abs.Next.mk (j + 1) [0, 1, 2] (by omega) (by omega) ?_
          simp only [hkeep, hs]
          simp [e0, e1]
          exact wrap_i64 (by omega) (by omega)
        · refine ⟨by decide, ?_⟩
          refine Abs.Next.mk (j + 1) [0, 1, 2] (by omega) (by omega) ?_
          simp only [hkeep, hs]
          simp [e0, e1]
          exact wrap_i64 (by omega) (by omega)
      · rw [not_or] at hin
        have hs := hput hin.1 hin.2
        have hkeep : inI (labS r) (more.take (j + 1)) = false := by
          rw [hsucc]
          simp
        have hne : ∀ (h : k < l.length), ¬ l[k] = more[j] := fun h e => hin.2 (his.2 ⟨h, e⟩)
        have f1 : (List.map (fun x => List.map AC.d x) (encI l)).take k = List.map (fun x => List.map AC.d x) (encI (l.take k)) := by simp [encI, List.map_take]
        have f2 : (List.map (fun x => List.map AC.d x) (encI l)).drop k = List.map (fun x => List.map AC.d x) (encI (l.drop k)) := by simp [encI, List.map_drop]
        have f3 : ∀ (y : List AC) , (List.map (fun x => List.map AC.d x) (encI (l.take k)) ++ [y]).take (k + 1) = List.map (fun x => List.map AC.d x) (encI (l.take k)) ++ [y] := fun y => List.take_of_length_le (by simp; omega)
        have f4 : (List.map (fun x => List.map AC.d x) (encI (l.drop k))).take (l.length - k) = List.map (fun x => List.map AC.d x) (encI (l.drop k)) := List.take_of_length_le (by simp)
        have hln : (List.take k l ++ more[j] :: List.drop k l).length = k + 1 + (l.length - k) := by simp; omega
        have hfin : List.map (fun x => List.map AC.d x) (encI (l.take k)) ++ [[AC.d (D.int IntKind.i64 more[j])]] ++ List.map (fun x => List.map AC.d x) (encI (l.drop k)) = List.map (fun x => List.map AC.d x) (encI (List.take k l ++ more[j] :: List.drop k l)) := by simp [encI]
        simp only [hin.1, decide_false, gd_ff]
        by_cases hk : k < l.length
        · have hne := hne hk
          simp [hk, List.getElem?_eq_getElem hk, hne]
          refine ⟨by decide, by omega, by omega, by omega, by omega, by omega, by decide, by omega, by omega, ?_⟩
          refine Abs.Next.mk (j + 1) [0, 1, 5] (by omega) (by omega) ?_
          simp only [hkeep, hs, f1, f2, f3, f4, hfin, hln]
          simp [e1]
          exact wrap_i64 (by omega) (by omega)
        · simp only [hk, decide_false, gd_ft]
          refine ⟨by decide, by omega, by omega, by omega, by omega, by omega, by decide, by omega, by omega, ?_⟩
          refine Abs.Next.mk (j + 1) [0, 1, 5] (by omega) (by omega) ?_
          simp only [hkeep, hs, f1, f2, f3, f4, hfin, hln]
          simp [e1]
          exact wrap_i64 (by omega) (by omega)
    · simp [addT, addB, hj]
      refine add2 (t0 := t0) hp tr true l more hlen hj (ms := [0, 1]) (by simp [addT, addB]) fun T e6 e5 e0 e1 => ?_
      simp [addB, e6, e5, e0, e1, List.getElem?_eq_getElem hj]
      generalize hc : cutI l more[j] = k at *
      by_cases hin : more[j] = 0 ∨ more[j] ∈ l
      · have hs := hsame hin
        have hkeep : inI (labS r) (more.take (j + 1)) = true := by
          rw [hsucc]
          rw [hal rfl] at hin; simpa using hin
        refine gd.mk (fun z => ?_) (fun z => ?_)
        · have z' : more[j] ≠ 0 := by simpa using z
          obtain ⟨hk, he⟩ := his.1 (hin.resolve_left z')
          simp [hk, List.getElem?_eq_getElem hk, he]
          refine ⟨by decide, ?_⟩
          refine Abs.Next.mk (j + 1) [0, 1] (by omega) (by omega) ?_
          simp only [hkeep, hs]
          simp [e0, e1]
          exact wrap_i64 (by omega) (by omega)
        · refine ⟨by decide, ?_⟩
          refine Abs.Next.mk (j + 1) [0, 1] (by omega) (by omega) ?_
          simp only [hkeep, hs]
          simp [e0, e1]
          exact wrap_i64 (by omega) (by omega)
      · rw [not_or] at hin
        have hs := hput hin.1 hin.2
        have hkeep : inI (labS r) (more.take (j + 1)) = false := by
          rw [hsucc]
          have := hal rfl; rw [this] at hin; simpa using hin
        have hne : ∀ (h : k < l.length), ¬ l[k] = more[j] := fun h e => hin.2 (his.2 ⟨h, e⟩)
        have f1 : (List.map (fun x => List.map AC.d x) (encI l)).take k = List.map (fun x => List.map AC.d x) (encI (l.take k)) := by simp [encI, List.map_take]
        have f2 : (List.map (fun x => List.map AC.d x) (encI l)).drop k = List.map (fun x => List.map AC.d x) (encI (l.drop k)) := by simp [encI, List.map_drop]
        have f3 : ∀ (y : List AC) , (List.map (fun x => List.map AC.d x) (encI (l.take k)) ++ [y]).take (k + 1) = List.map (fun x => List.map AC.d x) (encI (l.take k)) ++ [y] := fun y => List.take_of_length_le (by simp; omega)
        have f4 : (List.map (fun x => List.map AC.d x) (encI (l.drop k))).take (l.length - k) = List.map (fun x => List.map AC.d x) (encI (l.drop k)) := List.take_of_length_le (by simp)
        have hln : (List.take k l ++ more[j] :: List.drop k l).length = k + 1 + (l.length - k) := by simp; omega
        have hfin : List.map (fun x => List.map AC.d x) (encI (l.take k)) ++ [[AC.d (D.int IntKind.i64 more[j])]] ++ List.map (fun x => List.map AC.d x) (encI (l.drop k)) = List.map (fun x => List.map AC.d x) (encI (List.take k l ++ more[j] :: List.drop k l)) := by simp [encI]
        simp only [hin.1, decide_false, gd_ff]
        by_cases hk : k < l.length
        · have hne := hne hk
          simp [hk, List.getElem?_eq_getElem hk, hne]
          refine ⟨by decide, by omega, by omega, by omega, by omega, by omega, by decide, by omega, by omega, ?_⟩
          refine Abs.Next.mk (j + 1) [0, 1, 4] (by omega) (by omega) ?_
          simp only [hkeep, hs, f1, f2, f3, f4, hfin, hln]
          simp [e1]
          exact wrap_i64 (by omega) (by omega)
        · simp only [hk, decide_false, gd_ft]
          refine ⟨by decide, by omega, by omega, by omega, by omega, by omega, by decide, by omega, by omega, ?_⟩
          refine Abs.Next.mk (j + 1) [0, 1, 4] (by omega) (by omega) ?_
          simp only [hkeep, hs, f1, f2, f3, f4, hfin, hln]
          simp [e1]
          exact wrap_i64 (by omega) (by omega)

theorem add_no (tr : Bool) (r more : List Int) (hr : r.length ≤ 536870912) (hm : more.length ≤ 536870912) (h : inI (labS r) more = true) :
    MCall Pg F.gradusref10_add [.c (.msl 1 0 0 (labS r).length), .c (.d (.sl tr 1 (encI more)))] [arrI (labS r)] (.c (.msl 1 0 0 (labS (r ++ more)).length)) [arrI (labS (r ++ more))] := by
  refine wm_gradusref10_add ⟨by simp, by simp, by simp, by simp, by simp, by simp [live], by simp⟩ fun ts hts ok hb c hN hp => ?_
  obtain ⟨t0, rfl⟩ := oneTs hts
  unfold mc_gradusref10_add
  simp
  refine add_walk tr r more hr hm (t0 := t0) hp (by simp [addT, addB]) fun T e => ?_
  rw [h] at e ⊢
  simp [addB, e]
  exact EndM.mk [0] [1] (by simp)
theorem add_yes (tr : Bool) (r more : List Int) (hr : r.length ≤ 536870912) (hm : more.length ≤ 536870912) (h : inI (labS r) more = false) :
    MCall Pg F.gradusref10_add [.c (.msl 1 0 0 (labS r).length), .c (.d (.sl tr 1 (encI more)))] [arrI (labS r)] (.c (.msl 1 1 0 (labS (r ++ more)).length)) [.dead, arrI (labS (r ++ more))] := by
  refine wm_gradusref10_add ⟨by simp, by simp, by simp, by simp, by simp, by simp [live], by simp⟩ fun ts hts ok hb c hN hp => ?_
  obtain ⟨t0, rfl⟩ := oneTs hts
  unfold mc_gradusref10_add
  simp
  refine add_walk tr r more hr hm (t0 := t0) hp (by simp [addT, addB]) fun T e => ?_
  rw [h] at e ⊢
  simp [addB, e]
  exact EndM.mk [0, 2] [1] (by simp)

/-- labels that are added all the same, if they are the same set -/
theorem labS_add (r more raw : List Int) (h : ∀ x, x ≠ 0 → (x ∈ more ↔ x ∈ raw)) : labS (r ++ more) = labS (r ++ raw) := by
  refine labS_is (labS_rises _) fun x => ?_
  rw [labS_mem, List.mem_append, List.mem_append]
  constructor
  · rintro ⟨q | q, q'⟩
    · exact ⟨.inl q, q'⟩
    · exact ⟨.inr ((h x q').1 q), q'⟩
  · rintro ⟨q | q, q'⟩
    · exact ⟨.inl q, q'⟩
    · exact ⟨.inr ((h x q').2 q), q'⟩

set_option maxRecDepth 20000 in
theorem rLabels_one (d : Coe) (hraw : (rawC d).length ≤ 536870912) (ih : ∀ x, x ∈ d.fields ∨ x ∈ d.fn → PCall Pg F.gradusref10_Labels [.agg x.enc] (.one (.sl false 1 (encI (labS (rawC x)))))) : PCall Pg F.gradusref10_Labels [.agg d.enc] (.one (.sl false 1 (encI (labS (rawC d))))) := by
  have hsz : d.tags.length + d.needs.length + (rawCs d.fields).length + (rawCs d.fn).length ≤ 536870912 := by
    rw [rawC_eq, rawCs_app] at hraw
    simp at hraw; omega
  refine w_gradusref10_Labels (by simp) fun o c hN hp => ?_
  have hl : d.tags.length ≤ lenMax ∧ d.needs.length ≤ lenMax ∧ d.names.length ≤ lenMax ∧ d.fields.length ≤ lenMax ∧ d.fn.length ≤ lenMax := by
    have := o.1; rw [Coe.enc_eq] at this; simp only [DV.ok, D.okL, D.ok, encI_length, encN_length, encS_length, List.length_map] at this
    exact ⟨this.1.1, this.2.1.1, this.2.2.1.1, this.2.2.2.1.1, this.2.2.2.2.1.1⟩
  unfold lenMax at hl
  unfold mc_gradusref10_Labels
  simp
  refine owK.mk [.t 3] ?_
  simp
  refine W.loop Pg_mixed hp (fun j : Nat => j ≤ d.tags.length) (fun j => [(4, .c (.d (.int .i64 j))), (1, .c (.d (.rp d.enc 0))), (3, .c (.msl 1 0 0 (labS (d.tags.take j)).length))])
    (fun j => [arrI (labS (d.tags.take j))]) (fun j => d.tags.length - j) 0 [0] (by simp) (by simp) fun j h1 => ?_
  unfold lp_gradusref10_Labels_0
  simp
  refine gd.mk (fun h => ?_) (fun h => ?_)
  · have hj : j < d.tags.length := by simpa using h
    simp [List.getElem?_eq_getElem hj]
    have hs : labS (d.tags.take j ++ [d.tags[j]]) = labS (d.tags.take (j + 1)) := by rw [List.take_succ_eq_append_getElem hj]
    by_cases hi : inI (labS (d.tags.take j)) [d.tags[j]] = true
    · have hc := add_no true (d.tags.take j) [d.tags[j]] (by rw [List.length_take]; omega) (by simp) hi
      rw [hs] at hc
      refine callKM.mk [0] hc (by simp; rfl) ?_
      simp
      refine owK.mk [] ?_
      simp
      refine Abs.Next.mk (j + 1) [0] (by omega) (by omega) ?_
      simp
      exact wrap_i64 (by omega) (by omega)
    · have hc := add_yes true (d.tags.take j) [d.tags[j]] (by rw [List.length_take]; omega) (by simp) (by simpa using hi)
      rw [hs] at hc
      refine callKM.mk [0] hc (by simp; rfl) ?_
      simp
      refine owK.mk [] ?_
      simp
      refine Abs.Next.mk (j + 1) [1] (by omega) (by omega) ?_
      simp
      exact wrap_i64 (by omega) (by omega)
  · have hj : j = d.tags.length := by simp at h; omega
    subst hj
    simp
    refine W.loop Pg_mixed hp (fun j : Nat => j ≤ d.needs.length) (fun j => [(5, .c (.d (.int .i64 j))), (1, .c (.d (.rp d.enc 0))), (3, .c (.msl 1 0 0 (labS (d.tags ++ (d.needs.map (·.2)).take j)).length))])
      (fun j => [arrI (labS (d.tags ++ (d.needs.map (·.2)).take j))]) (fun j => d.needs.length - j) 0 [0] (by simp) (by simp) fun j h1 => ?_
    unfold lp_gradusref10_Labels_2
    simp
    refine gd.mk (fun h => ?_) (fun h => ?_)
    · have hj : j < d.needs.length := by simpa using h
      have hj2 : j < (d.needs.map (·.2)).length := by simpa using hj
      have hs : labS ((d.tags ++ (d.needs.map (·.2)).take j) ++ [d.needs[j].2]) = labS (d.tags ++ (d.needs.map (·.2)).take (j + 1)) := by rw [List.take_succ_eq_append_getElem hj2, List.append_assoc]; simp
      simp [List.getElem?_eq_getElem hj]
      by_cases hi : inI (labS (d.tags ++ (d.needs.map (·.2)).take j)) [d.needs[j].2] = true
      · have hc := add_no true (d.tags ++ (d.needs.map (·.2)).take j) [d.needs[j].2] (by rw [List.length_append, List.length_take, List.length_map]; omega) (by simp) hi
        rw [hs] at hc
        refine callKM.mk [0] hc (by simp; rfl) ?_
        simp
        refine Abs.Next.mk (j + 1) [0] (by omega) (by omega) ?_
        simp
        exact wrap_i64 (by omega) (by omega)
      · have hc := add_yes true (d.tags ++ (d.needs.map (·.2)).take j) [d.needs[j].2] (by rw [List.length_append, List.length_take, List.length_map]; omega) (by simp) (by simpa using hi)
        rw [hs] at hc
        refine callKM.mk [0] hc (by simp; rfl) ?_
        simp
        refine Abs.Next.mk (j + 1) [1] (by omega) (by omega) ?_
        simp
        exact wrap_i64 (by omega) (by omega)
    · have hj : j = d.needs.length := by simp at h; omega
      subst hj
      have hz : (d.needs.map (·.2)).take d.needs.length = d.needs.map (·.2) := List.take_of_length_le (by simp)
      rw [hz]
      simp
      refine W.loop Pg_mixed hp (fun j : Nat => j ≤ d.fields.length) (fun j => [(6, .c (.d (.int .i64 j))), (1, .c (.d (.rp d.enc 0))), (3, .c (.msl 1 0 0 (labS ((d.tags ++ d.needs.map (·.2)) ++ rawCs (d.fields.take j))).length))])
        (fun j => [arrI (labS ((d.tags ++ d.needs.map (·.2)) ++ rawCs (d.fields.take j)))]) (fun j => d.fields.length - j) 0 [0] (by simp) (by simp [rawCs]) fun j h1 => ?_
      unfold lp_gradusref10_Labels_4
      simp
      refine gd.mk (fun h => ?_) (fun h => ?_)
      · have hj : j < d.fields.length := by simpa using h
        have hs : labS (((d.tags ++ d.needs.map (·.2)) ++ rawCs (d.fields.take j)) ++ labS (rawC d.fields[j])) = labS ((d.tags ++ d.needs.map (·.2)) ++ rawCs (d.fields.take (j + 1))) := by
          rw [rawCs_take hj, ← List.append_assoc]
          exact labS_add _ _ _ fun x hx => by rw [labS_mem]; exact ⟨fun h => h.1, fun h => ⟨h, hx⟩⟩
        have hb1 : (rawCs (d.fields.take (j + 1))).length ≤ (rawCs d.fields).length := by
          have := rawCs_app (d.fields.take (j + 1)) (d.fields.drop (j + 1))
          rw [List.take_append_drop] at this
          rw [this, List.length_append]; omega
        have hb2 : (rawCs (d.fields.take j)).length + (rawC d.fields[j]).length = (rawCs (d.fields.take (j + 1))).length := by rw [rawCs_take hj, List.length_append]
        have hb3 := labS_len (rawC d.fields[j])
        simp [List.getElem?_eq_getElem hj]
        refine callK.mk (ih _ (.inl (List.getElem_mem hj))) ?_
        simp
        by_cases hi : inI (labS ((d.tags ++ d.needs.map (·.2)) ++ rawCs (d.fields.take j))) (labS (rawC d.fields[j])) = true
        · have hc := add_no false ((d.tags ++ d.needs.map (·.2)) ++ rawCs (d.fields.take j)) (labS (rawC d.fields[j])) (by simp only [List.length_append, List.length_map]; omega) (by omega) hi
          rw [hs] at hc
          simp only [List.append_assoc] at hc
          refine callKM.mk [0] hc (by simp) ?_
          simp
          refine Abs.Next.mk (j + 1) [0] (by omega) (by omega) ?_
          simp
          exact wrap_i64 (by omega) (by omega)
        · have hc := add_yes false ((d.tags ++ d.needs.map (·.2)) ++ rawCs (d.fields.take j)) (labS (rawC d.fields[j])) (by simp only [List.length_append, List.length_map]; omega) (by omega) (by simpa using hi)
          rw [hs] at hc
          simp only [List.append_assoc] at hc
          refine callKM.mk [0] hc (by simp) ?_
          simp
          refine Abs.Next.mk (j + 1) [1] (by omega) (by omega) ?_
          simp
          exact wrap_i64 (by omega) (by omega)
      · have hj : j = d.fields.length := by simp at h; omega
        subst hj
        simp
        refine W.loop Pg_mixed hp (fun j : Nat => j ≤ d.fn.length) (fun j => [(7, .c (.d (.int .i64 j))), (1, .c (.d (.rp d.enc 0))), (3, .c (.msl 1 0 0 (labS (((d.tags ++ d.needs.map (·.2)) ++ rawCs d.fields) ++ rawCs (d.fn.take j))).length))])
          (fun j => [arrI (labS (((d.tags ++ d.needs.map (·.2)) ++ rawCs d.fields) ++ rawCs (d.fn.take j)))]) (fun j => d.fn.length - j) 0 [0] (by simp) (by simp [rawCs]) fun j h1 => ?_
        unfold lp_gradusref10_Labels_6
        simp
        refine gd.mk (fun h => ?_) (fun h => ?_)
        · have hj : j < d.fn.length := by simpa using h
          have hs : labS ((((d.tags ++ d.needs.map (·.2)) ++ rawCs d.fields) ++ rawCs (d.fn.take j)) ++ labS (rawC d.fn[j])) = labS (((d.tags ++ d.needs.map (·.2)) ++ rawCs d.fields) ++ rawCs (d.fn.take (j + 1))) := by
            rw [rawCs_take hj, ← List.append_assoc]
            exact labS_add _ _ _ fun x hx => by rw [labS_mem]; exact ⟨fun h => h.1, fun h => ⟨h, hx⟩⟩
          have hb1 : (rawCs (d.fn.take (j + 1))).length ≤ (rawCs d.fn).length := by
            have := rawCs_app (d.fn.take (j + 1)) (d.fn.drop (j + 1))
            rw [List.take_append_drop] at this
            rw [this, List.length_append]; omega
          have hb2 : (rawCs (d.fn.take j)).length + (rawC d.fn[j]).length = (rawCs (d.fn.take (j + 1))).length := by rw [rawCs_take hj, List.length_append]
          have hb3 := labS_len (rawC d.fn[j])
          simp [List.getElem?_eq_getElem hj]
          refine callK.mk (ih _ (.inr (List.getElem_mem hj))) ?_
          simp
          by_cases hi : inI (labS (((d.tags ++ d.needs.map (·.2)) ++ rawCs d.fields) ++ rawCs (d.fn.take j))) (labS (rawC d.fn[j])) = true
          · have hc := add_no false (((d.tags ++ d.needs.map (·.2)) ++ rawCs d.fields) ++ rawCs (d.fn.take j)) (labS (rawC d.fn[j])) (by simp only [List.length_append, List.length_map]; omega) (by omega) hi
            rw [hs] at hc
            simp only [List.append_assoc] at hc
            refine callKM.mk [0] hc (by simp) ?_
            simp
            refine Abs.Next.mk (j + 1) [0] (by omega) (by omega) ?_
            simp
            exact wrap_i64 (by omega) (by omega)
          · have hc := add_yes false (((d.tags ++ d.needs.map (·.2)) ++ rawCs d.fields) ++ rawCs (d.fn.take j)) (labS (rawC d.fn[j])) (by simp only [List.length_append, List.length_map]; omega) (by omega) (by simpa using hi)
            rw [hs] at hc
            simp only [List.append_assoc] at hc
            refine callKM.mk [0] hc (by simp) ?_
            simp
            refine Abs.Next.mk (j + 1) [1] (by omega) (by omega) ?_
            simp
            exact wrap_i64 (by omega) (by omega)
        · have hj : j = d.fn.length := by simp at h; omega
          subst hj
          simp
          have hr : rawC d = d.tags ++ (d.needs.map (·.2) ++ (rawCs d.fields ++ rawCs d.fn)) := by rw [rawC_eq, rawCs_app]; simp
          rw [hr]
          exact List.take_of_length_le (by simp)

theorem rawCs_len {l : List Coe} {x : Coe} (h : x ∈ l) : (rawC x).length ≤ (rawCs l).length := by
  obtain ⟨a, b, rfl⟩ := List.append_of_mem h
  rw [rawCs_app]; simp [rawCs]; omega
theorem rLabels_ok : ∀ (n : Nat) {d : Coe}, inN n d → (rawC d).length ≤ 536870912 → PCall Pg F.gradusref10_Labels [.agg d.enc] (.one (.sl false 1 (encI (labS (rawC d)))))
  | 0, d, hi, hr => rLabels_one d hr fun x hx => by
      have : d = idC := hi
      rw [this] at hx; rcases hx with h | h <;> cases h
  | n + 1, d, hi, hr => rLabels_one d hr fun x hx => by
      have hr' := hr
      rw [rawC_eq, rawCs_app] at hr'
      simp only [List.length_append] at hr'
      rcases hx with h | h
      · exact rLabels_ok n (hi.1 x h) (by have := rawCs_len h; omega)
      · exact rLabels_ok n (hi.2 x h) (by have := rawCs_len h; omega)
end Go.Gr

/- Plain: sizes and labels of one coercion behind another one. -/
set_option linter.unusedVariables false
set_option linter.unusedSimpArgs false
namespace Go.Gr
open Go.Abs Go.Proofs

theorem sizCs_sum : ∀ l : List Coe, sizCs l = (l.map sizC).sum
  | [] => rfl
  | c :: l => by simp [sizCs, sizCs_sum l]
theorem sum_le {α : Type} {f g : α → Nat} : ∀ {l : List α}, (∀ x, x ∈ l → f x ≤ g x) → (l.map f).sum ≤ (l.map g).sum
  | [], _ => Nat.le_refl _
  | x :: l, h => by
    have h1 := h x (by simp)
    have h2 := sum_le (f := f) (g := g) (l := l) fun y hy => h y (by simp [hy])
    simp only [List.map_cons, List.sum_cons]; omega
theorem sum_filter {α : Type} (p : α → Bool) (f : α → Nat) : ∀ l : List α, ((l.filter p).map f).sum + ((l.filter fun x => !p x).map f).sum = (l.map f).sum
  | [] => rfl
  | x :: l => by
    have ih := sum_filter p f l
    cases q : p x <;> simp [q] <;> omega
theorem sum_filter_le {α : Type} (p : α → Bool) (f : α → Nat) (l : List α) : ((l.filter p).map f).sum ≤ (l.map f).sum := by
  have := sum_filter p f l; omega
theorem sum_add {α : Type} (f g : α → Nat) : ∀ l : List α, (l.map fun x => f x + g x).sum = (l.map f).sum + (l.map g).sum
  | [] => rfl
  | x :: l => by
    have ih := sum_add f g l
    simp only [List.map_cons, List.sum_cons, ih]; omega
theorem fields_at {c : Coe} (M : May c) : c.names.map (fieldC c) = c.fields := by
  refine List.ext_getElem (by simp [M.len]) fun i h1 h2 => ?_
  simp only [List.getElem_map]
  exact atN_get (by simpa using h1) h2 (ltB_nodup M.names)
theorem sortS_perm (l : List ByteArray) : (sortS l).Perm l := by
  unfold sortS
  have h1 := (List.mergeSort_perm (l.map fun s => s.data.toList) fun x y => decide (x ≤ y)).map fun x : List UInt8 => (⟨x.toArray⟩ : ByteArray)
  refine h1.trans ?_
  rw [List.map_map]
  have : ((fun x : List UInt8 => (⟨x.toArray⟩ : ByteArray)) ∘ fun s : ByteArray => s.data.toList) = id := by funext s; simp
  rw [this, List.map_id]

/-- what is in the fields of a coercion behind another one -/
theorem fs_sum {v : Coe → Coe → Coe} {a b : Coe} (Ma : May a) (Mb : May b) (hu : ∀ k, v (fieldC a k) idC = fieldC a k ∧ v idC (fieldC b k) = fieldC b k)
    (H : ∀ k, k ∈ a.names → k ∈ b.names → sizC (v (fieldC a k) (fieldC b k)) ≤ sizC (fieldC a k) + sizC (fieldC b k)) : sizCs ((fsC v a b).map (·.2)) ≤ sizCs a.fields + sizCs b.fields := by
  have key : ∀ k, k ∈ keysU a b → sizC (v (fieldC a k) (fieldC b k)) ≤ (if k ∈ a.names then sizC (fieldC a k) else 0) + (if k ∈ b.names then sizC (fieldC b k) else 0) := fun k hk => by
    by_cases h1 : k ∈ a.names
    · by_cases h2 : k ∈ b.names
      · rw [if_pos h1, if_pos h2]; exact H k h1 h2
      · rw [if_pos h1, if_neg h2]
        have e : fieldC b k = idC := atN_not h2
        rw [e, (hu k).1]; exact Nat.le_refl _
    · have h2 : k ∈ b.names := (keysU_mem.1 hk).resolve_left h1
      rw [if_neg h1, if_pos h2]
      have e : fieldC a k = idC := atN_not h1
      rw [e, (hu k).2]; omega
  have e0 : sizCs ((fsC v a b).map (·.2)) ≤ ((keysU a b).map fun k => sizC (v (fieldC a k) (fieldC b k))).sum := by
    rw [sizCs_sum]
    unfold fsC busy
    rw [List.map_map]
    refine Nat.le_trans (sum_filter_le _ _ _) ?_
    rw [List.map_map]
    exact Nat.le_refl _
  refine Nat.le_trans e0 (Nat.le_trans (sum_le key) ?_)
  have hp : (keysU a b).Perm (a.names ++ b.names.filter fun k => !decide (k ∈ a.names)) := sortS_perm _
  rw [(hp.map _).sum_nat, List.map_append, List.sum_append_nat]
  have na := ltB_nodup Ma.names
  have nb := ltB_nodup Mb.names
  have p1 : (a.names.filter fun k => decide (k ∈ b.names)).Perm (b.names.filter fun k => decide (k ∈ a.names)) := by
    refine (List.perm_ext_iff_of_nodup (na.filter _) (nb.filter _)).2 fun x => ?_
    simp only [List.mem_filter, decide_eq_true_eq]
    exact And.comm
  have s1 := sum_filter (fun k => decide (k ∈ a.names)) (fun k => sizC (fieldC b k)) b.names
  have s2 : (a.names.map fun k => (if k ∈ a.names then sizC (fieldC a k) else 0) + (if k ∈ b.names then sizC (fieldC b k) else 0)).sum = (a.names.map fun k => sizC (fieldC a k)).sum + ((a.names.filter fun k => decide (k ∈ b.names)).map fun k => sizC (fieldC b k)).sum := by
    rw [sum_add]
    congr 1
    · congr 1
      refine List.map_congr_left fun k hk => ?_
      rw [if_pos hk]
    · generalize a.names = l
      induction l with
      | nil => rfl
      | cons x l ih => by_cases q : x ∈ b.names <;> simp [q, ih]
  have s3 : ((b.names.filter fun k => !decide (k ∈ a.names)).map fun k => (if k ∈ a.names then sizC (fieldC a k) else 0) + (if k ∈ b.names then sizC (fieldC b k) else 0)).sum = ((b.names.filter fun k => !decide (k ∈ a.names)).map fun k => sizC (fieldC b k)).sum := by
    congr 1
    refine List.map_congr_left fun k hk => ?_
    simp only [List.mem_filter, Bool.not_eq_true', decide_eq_false_iff_not] at hk
    rw [if_neg hk.2, if_pos hk.1]; omega
  have s4 : (a.names.map fun k => sizC (fieldC a k)).sum = sizCs a.fields := by
    rw [sizCs_sum, ← fields_at Ma, List.map_map]; rfl
  have s5 : (b.names.map fun k => sizC (fieldC b k)).sum = sizCs b.fields := by
    rw [sizCs_sum]; conv => rhs; rw [← fields_at Mb, List.map_map]
    rfl
  rw [s2, s3, s4, (p1.map _).sum_nat]
  omega

theorem siz_pos (c : Coe) : 1 ≤ sizC c := by rw [sizC_eq]; omega
theorem May.fields_in {n : Nat} {c : Coe} (M : May c) (k : ByteArray) : mayC (fieldC c k) = true := M.field k
theorem pair_siz {c : Coe} (M : May c) : (c.fn = [] ∧ pairC c = (idC, idC)) ∨ (∃ x y, c.fn = [x, y] ∧ pairC c = (x, y)) := by
  rcases M.fn with e | ⟨f, g, e, _⟩
  · exact .inl ⟨e, by unfold pairC; rw [e]⟩
  · exact .inr ⟨f, g, e, by unfold pairC; rw [e]⟩
theorem fun_siz (f g : Coe) : sizCs (funC f g) ≤ sizC f + sizC g := by
  unfold funC
  split
  · simp [sizCs]
  · simp [sizCs]
theorem comp_siz : ∀ (n : Nat) {a b : Coe}, inN n a → inN n b → mayC a = true → mayC b = true → sizC (compN n a b) + 1 ≤ sizC a + sizC b
  | 0, a, b, _, _, _, _ => by
    have h1 := siz_pos a
    have h2 := siz_pos b
    have : sizC (compN 0 a b) = 1 := by rfl
    omega
  | n + 1, a, b, ia, ib, ma, mb => by
    have Ma := (mayC_iff _).1 ma
    have Mb := (mayC_iff _).1 mb
    have hf := fs_sum (v := compN n) Ma Mb (fun k => ⟨(comp_unit n _ (inN_field ia Ma.len k) (Ma.field k)).1, (comp_unit n _ (inN_field ib Mb.len k) (Mb.field k)).2⟩) fun k _ _ => by
      have := comp_siz n (inN_field ia Ma.len k) (inN_field ib Mb.len k) (Ma.field k) (Mb.field k)
      omega
    have hg : sizCs (funC (compN n (pairC b).1 (pairC a).1) (compN n (pairC a).2 (pairC b).2)) ≤ sizCs a.fn + sizCs b.fn := by
      rcases pair_siz Ma with ⟨ea, pa⟩ | ⟨x, y, ea, pa⟩ <;> rcases pair_siz Mb with ⟨eb, pb⟩ | ⟨x', y', eb, pb⟩
      · rw [pa, pb]
        simp only [comp_id]
        unfold funC
        simp [sameC_rfl, sizCs]
      · have hb := inN_pair ib
        have hm := Mb.pair
        rw [pb] at hb hm
        rw [pa, pb]
        simp only
        rw [(comp_unit n _ hb.1 hm.1).1, (comp_unit n _ hb.2 hm.2).2]
        have := fun_siz x' y'
        rw [ea, eb]; simp [sizCs]; omega
      · have hb := inN_pair ia
        have hm := Ma.pair
        rw [pa] at hb hm
        rw [pa, pb]
        simp only
        rw [(comp_unit n _ hb.1 hm.1).2, (comp_unit n _ hb.2 hm.2).1]
        have := fun_siz x y
        rw [ea, eb]; simp [sizCs]; omega
      · have h1 := comp_siz n (inN_pair ib).1 (inN_pair ia).1 Mb.pair.1 Ma.pair.1
        have h2 := comp_siz n (inN_pair ia).2 (inN_pair ib).2 Ma.pair.2 Mb.pair.2
        rw [pa, pb] at h1 h2 ⊢
        have := fun_siz (compN n x' x) (compN n y y')
        rw [ea, eb]; simp [sizCs] at h1 h2 ⊢; omega
    rw [compN_succ, sizC_eq, sizC_eq a, sizC_eq b, sizCs_app, sizCs_app, sizCs_app]
    have e1 : sizCs (nodeC (compN n) a b).fields ≤ sizCs ((fsC (compN n) a b).map (·.2)) := by
      have : (nodeC (compN n) a b).fields = if tagZ (nodeC (compN n) a b) 4 = 0 then (fsC (compN n) a b).map (·.2) else [] := rfl
      rw [this]; split
      · exact Nat.le_refl _
      · simp [sizCs]
    have e2 : sizCs (nodeC (compN n) a b).fn ≤ sizCs (funC (compN n (pairC b).1 (pairC a).1) (compN n (pairC a).2 (pairC b).2)) := by
      have : (nodeC (compN n) a b).fn = if tagZ (nodeC (compN n) a b) 5 = 0 then funC (compN n (pairC b).1 (pairC a).1) (compN n (pairC a).2 (pairC b).2) else [] := rfl
      rw [this]; split
      · exact Nat.le_refl _
      · simp [sizCs]
    omega

/-! ### labels -/
theorem raw_id {x : Int} (h : x ∈ rawC idC) : x = 0 := by
  have : rawC idC = [0, 0, 0, 0, 0, 0] := rfl
  rw [this] at h; simp at h; exact h
theorem raw_field {c : Coe} (M : May c) {k : ByteArray} {x : Int} (h0 : x ≠ 0) (h : x ∈ rawC (fieldC c k)) : x ∈ rawC c := by
  unfold fieldC at h
  by_cases q : k ∈ c.names
  · have hm := atN_mem M.len q
    rw [rawC_eq, rawCs_app]
    simp only [List.mem_append]
    exact .inr (.inl (rawCs_mem.2 ⟨_, hm, h⟩))
  · rw [atN_not q] at h; exact absurd (raw_id h) h0
theorem raw_pair {c : Coe} (M : May c) {x : Int} (h0 : x ≠ 0) (h : x ∈ rawC (pairC c).1 ∨ x ∈ rawC (pairC c).2) : x ∈ rawC c := by
  rcases pair_siz M with ⟨e, p⟩ | ⟨f, g, e, p⟩ <;> rw [p] at h
  · rcases h with h | h <;> exact absurd (raw_id h) h0
  · rw [rawC_eq, rawCs_app]
    simp only [List.mem_append]
    refine .inr (.inr (rawCs_mem.2 ?_))
    rw [e]
    rcases h with h | h
    · exact ⟨f, by simp, h⟩
    · exact ⟨g, by simp, h⟩
theorem comp_raw : ∀ (n : Nat) {a b : Coe}, mayC a = true → mayC b = true → ∀ {x : Int}, x ≠ 0 → x ∈ rawC (compN n a b) → x ∈ rawC a ∨ x ∈ rawC b
  | 0, _, _, _, _, x, h0, h => absurd (raw_id h) h0
  | n + 1, a, b, ma, mb, x, h0, h => by
    have Ma := (mayC_iff _).1 ma
    have Mb := (mayC_iff _).1 mb
    have ia : ∀ {c : Coe}, x ∈ c.tags → x ∈ rawC c := fun h => by rw [rawC_eq]; simp [h]
    have iN : ∀ {c : Coe}, x ∈ c.needs.map (·.2) → x ∈ rawC c := fun h => by rw [rawC_eq]; simp only [List.mem_append]; exact .inl (.inr h)
    rw [compN_succ, rawC_eq, rawCs_app] at h
    simp only [List.mem_append] at h
    rcases h with (h | h) | h | h
    · have ht : x ∈ tagsC a.tags b.tags := h
      obtain ⟨i, hi, e⟩ := List.getElem_of_mem ht
      have hL := tagsC_len Ma.tags Mb.tags
      have hia : i < a.tags.length := by have := Ma.tags; omega
      have hib : i < b.tags.length := by have := Mb.tags; omega
      have hval : (tagsC a.tags b.tags)[i] = if a.tags[i] = 0 then b.tags[i] else a.tags[i] := by simp [tagsC]
      rw [hval] at e
      split at e
      · exact .inr (ia (e ▸ List.getElem_mem hib))
      · exact .inl (ia (e ▸ List.getElem_mem hia))
    · have ht : x ∈ (needC a b).map (·.2) := h
      obtain ⟨y, hy, rfl⟩ := List.mem_map.1 ht
      unfold needC at hy
      split at hy
      · unfold needsC at hy
        rcases List.mem_append.1 hy with q | q
        · exact .inl (iN (List.mem_map.2 ⟨y, q, rfl⟩))
        · exact .inr (iN (List.mem_map.2 ⟨y, (List.mem_filter.1 q).1, rfl⟩))
      · exact .inl (iN (List.mem_map.2 ⟨y, hy, rfl⟩))
    · have ht : x ∈ rawCs (if tagZ (nodeC (compN n) a b) 4 = 0 then (fsC (compN n) a b).map (·.2) else []) := h
      split at ht
      · obtain ⟨c, hc, hx⟩ := rawCs_mem.1 ht
        unfold fsC busy at hc
        simp only [List.mem_map, List.mem_filter] at hc
        obtain ⟨y, ⟨⟨k, _, rfl⟩, _⟩, rfl⟩ := hc
        rcases comp_raw n (Ma.field k) (Mb.field k) h0 hx with q | q
        · exact .inl (raw_field Ma h0 q)
        · exact .inr (raw_field Mb h0 q)
      · cases ht
    · have ht : x ∈ rawCs (if tagZ (nodeC (compN n) a b) 5 = 0 then funC (compN n (pairC b).1 (pairC a).1) (compN n (pairC a).2 (pairC b).2) else []) := h
      split at ht
      · unfold funC at ht
        split at ht
        · cases ht
        · simp only [rawCs, List.append_nil, List.mem_append] at ht
          rcases ht with ht | ht
          · rcases comp_raw n Mb.pair.1 Ma.pair.1 h0 ht with q | q
            · exact .inr (raw_pair Mb h0 (.inl q))
            · exact .inl (raw_pair Ma h0 (.inl q))
          · rcases comp_raw n Ma.pair.2 Mb.pair.2 h0 ht with q | q
            · exact .inl (raw_pair Ma h0 (.inr q))
            · exact .inr (raw_pair Mb h0 (.inr q))
      · cases ht

/-- how many labels, at most -/
theorem raw_len {B : Nat} : ∀ (n : Nat) {c : Coe}, inN n c → mayC c = true → smC B c → (rawC c).length ≤ (6 + B) * sizC c
  | 0, c, ic, _, _ => by
    have : c = idC := ic
    subst this
    have : (rawC idC).length = 6 := rfl
    have h2 : sizC idC = 1 := rfl
    rw [this, h2]; omega
  | n + 1, c, ic, mc, sc => by
    have M := (mayC_iff _).1 mc
    have s := (smC_iff _ _).1 sc
    have key : ∀ l : List Coe, (∀ x, x ∈ l → (rawC x).length ≤ (6 + B) * sizC x) → (rawCs l).length ≤ (6 + B) * sizCs l := fun l => by
      induction l with
      | nil => intro _; simp [rawCs]
      | cons x l ih =>
        intro h
        have h1 := h x (by simp)
        have h2 := ih fun y hy => h y (by simp [hy])
        simp only [rawCs, sizCs, List.length_append, Nat.mul_add]; omega
    have hfn : ∀ x, x ∈ c.fn → mayC x = true := fun x hx => by
      rcases M.fn with e | ⟨f, g, e, hf, hg, _⟩
      · rw [e] at hx; cases hx
      · rw [e] at hx
        simp only [List.mem_cons, List.not_mem_nil, or_false] at hx
        rcases hx with rfl | rfl
        · exact hf
        · exact hg
    have k1 := key (c.fields ++ c.fn) fun x hx => by
      rcases List.mem_append.1 hx with h | h
      · exact raw_len n (ic.1 x h) (M.fields x h).1 (s.2.2.2.1 x h)
      · exact raw_len n (ic.2 x h) (hfn x h) (s.2.2.2.2 x h)
    rw [rawC_eq, sizC_eq]
    have h6 := M.tags
    simp only [List.length_append, List.length_map, Nat.mul_add]
    omega
mutual
theorem wgt_raw : ∀ (d : Coe) (m : Int), 0 < wgt d m → m ≤ 1000 → (rawC d).length + 200 * wgt d m ≤ 200 * m
  | .mk t n s f g, m, h, hm => by
    rw [wgt] at h ⊢
    split at h
    · omega
    · rename_i q
      rw [if_neg q]
      have q' : n.length ≤ 100 ∧ t.length ≤ 100 ∧ (f.length : Int) ≤ m ∧ (g.length : Int) ≤ m := by omega
      have hw : IntKind.i64.wrap (m - 1) = m - 1 := wrap_i64 (by omega) (by omega)
      rw [hw] at h ⊢
      have g1 := wgts_raw g _ h (by
        have := wgts_le f (m - 1) (by omega)
        omega)
      have hf : 0 < wgts f (m - 1) := by
        rcases Int.lt_or_le 0 (wgts f (m - 1)) with q | q
        · exact q
        · rw [wgts_stop q] at h; omega
      have f1 := wgts_raw f _ hf (by omega)
      simp only [rawC, List.length_append, List.length_map]
      omega
theorem wgts_raw : ∀ (l : List Coe) (m : Int), 0 < wgts l m → m ≤ 1000 → (rawCs l).length + 200 * wgts l m ≤ 200 * m
  | [], m, h, hm => by simp [wgts, rawCs]
  | d :: ds, m, h, hm => by
    rw [wgts] at h ⊢
    split at h
    · rename_i q
      rw [if_pos q]
      have hd : 0 < wgt d m := by
        rcases Int.lt_or_le 0 (wgt d m) with q | q
        · exact q
        · rw [wgts_stop q] at h; omega
      have d1 := wgt_raw d m hd hm
      have d2 := wgt_le d m hm
      have l1 := wgts_raw ds _ h (by omega)
      simp only [rawCs, List.length_append]; omega
    · omega
end
theorem raw_small {d : Coe} {m : Int} (h1 : 1 ≤ m) (hm : m ≤ 1000) (h : ¬ wgt d m = 0) : (rawC d).length ≤ 200000 := by
  have h2 := wgt_nn d m h1 hm
  have := wgt_raw d m (by omega) hm
  omega
end Go.Gr
