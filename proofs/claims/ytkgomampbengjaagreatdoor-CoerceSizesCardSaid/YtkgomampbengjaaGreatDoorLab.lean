/- Labels: plain lists. -/
import Derived.Test.YtkgomampbengjaaGreatDoorCoV
set_option linter.unusedVariables false
set_option linter.unusedSimpArgs false
namespace Go.Gr
open Go.Abs Go.Proofs

/-! ### a set of numbers, as they come -/
def insL (l : List Int) (x : Int) : List Int := if x ∈ l then l else l ++ [x]
def addL (l r : List Int) : List Int := r.foldl insL l
theorem addL_app (l a b : List Int) : addL l (a ++ b) = addL (addL l a) b := by simp [addL]
@[simp] theorem addL_nil (l : List Int) : addL l [] = l := rfl
theorem addL_take {l r : List Int} {j : Nat} (h : j < r.length) : addL l (r.take (j + 1)) = insL (addL l (r.take j)) r[j] := by
  rw [List.take_succ_eq_append_getElem h, addL_app]; rfl
theorem insL_mem {l : List Int} {x y : Int} : y ∈ insL l x ↔ y ∈ l ∨ y = x := by
  unfold insL
  split
  · rename_i h
    exact ⟨.inl, fun h' => h'.elim id fun e => e ▸ h⟩
  · simp
theorem insL_nodup {l : List Int} {x : Int} (h : l.Nodup) : (insL l x).Nodup := by
  unfold insL
  split
  · exact h
  · rename_i q
    refine List.nodup_append.2 ⟨h, by simp, fun a ha b hb e => ?_⟩
    rw [List.mem_singleton] at hb
    exact q (hb ▸ e ▸ ha)
theorem insL_len (l : List Int) (x : Int) : (insL l x).length ≤ l.length + 1 := by
  unfold insL; split <;> simp
theorem addL_mem : ∀ {r l : List Int} {y : Int}, y ∈ addL l r ↔ y ∈ l ∨ y ∈ r
  | [], l, y => by simp [addL]
  | x :: r, l, y => by
    have : addL l (x :: r) = addL (insL l x) r := rfl
    rw [this, addL_mem, insL_mem, List.mem_cons, or_assoc]
theorem addL_nodup : ∀ {r l : List Int}, l.Nodup → (addL l r).Nodup
  | [], l, h => h
  | x :: r, l, h => addL_nodup (r := r) (insL_nodup h)
theorem addL_len : ∀ (r l : List Int), (addL l r).length ≤ l.length + r.length
  | [], l => Nat.le_refl _
  | x :: r, l => by
    have h1 := addL_len r (insL l x)
    have h2 := insL_len l x
    have : addL l (x :: r) = addL (insL l x) r := rfl
    rw [this, List.length_cons]; omega

/-! ### in rising order, without nought -/
def labS (r : List Int) : List Int := sortI ((addL [] r).filter fun x => !decide (x = 0))
theorem sortI_mem {l : List Int} {x : Int} : x ∈ sortI l ↔ x ∈ l := by simp [sortI]
theorem sortI_rises {l : List Int} (h : l.Nodup) : (sortI l).Pairwise (· < ·) := by
  have h1 := List.pairwise_mergeSort (le := fun x y : Int => decide (x ≤ y)) (fun a b c h1 h2 => by simp only [decide_eq_true_eq] at *; omega) (fun a b => by simp only [Bool.or_eq_true, decide_eq_true_eq]; omega) l
  have h2 : (l.mergeSort fun x y => decide (x ≤ y)).Nodup := (List.mergeSort_perm _ _).nodup_iff.2 h
  unfold sortI
  refine (h1.and h2).imp fun {a b} ⟨p, q⟩ => ?_
  simp only [decide_eq_true_eq] at p
  omega
theorem rises_extI {l k : List Int} (h1 : l.Pairwise (· < ·)) (h2 : k.Pairwise (· < ·)) (h : ∀ x, x ∈ l ↔ x ∈ k) : l = k :=
  List.Perm.eq_of_pairwise (le := (· < ·)) (fun a b _ _ p q => by omega) h1 h2 ((List.perm_ext_iff_of_nodup (h1.imp fun h e => by omega) (h2.imp fun h e => by omega)).2 h)
theorem labS_mem {r : List Int} {x : Int} : x ∈ labS r ↔ x ∈ r ∧ x ≠ 0 := by
  unfold labS
  rw [sortI_mem, List.mem_filter, addL_mem]
  simp
theorem labS_rises (r : List Int) : (labS r).Pairwise (· < ·) := sortI_rises ((addL_nodup (r := r) (l := []) (by simp)).filter _)
theorem labS_is {l r : List Int} (h1 : l.Pairwise (· < ·)) (h : ∀ x, x ∈ l ↔ x ∈ r ∧ x ≠ 0) : l = labS r :=
  rises_extI h1 (labS_rises r) fun x => by rw [h, labS_mem]
theorem labS_len (r : List Int) : (labS r).length ≤ r.length := by
  unfold labS sortI
  have h1 := addL_len r []
  have h2 := List.length_filter_le (fun x => !decide (x = 0)) (addL [] r)
  simp only [List.length_nil, Nat.zero_add] at h1
  rw [List.length_mergeSort]; omega
@[simp] theorem labS_nil : labS [] = [] := by simp [labS, sortI, addL]

/-- how many are less -/
def cutI (l : List Int) (x : Int) : Nat := (l.takeWhile fun y => decide (y < x)).length
theorem cutI_le (l : List Int) (x : Int) : cutI l x ≤ l.length := by
  unfold cutI
  have := (List.takeWhile_sublist (l := l) fun y => decide (y < x)).length_le
  omega
theorem cutI_lt : ∀ {l : List Int} {x : Int} {i : Nat} (h : i < l.length), i < cutI l x → l[i] < x
  | y :: l, x, i, h, hi => by
    unfold cutI at hi
    rw [List.takeWhile_cons] at hi
    split at hi
    · rename_i q
      match i with
      | 0 => simpa using q
      | i + 1 =>
        simp only [List.getElem_cons_succ]
        exact cutI_lt _ (by unfold cutI; simpa using hi)
    · simp at hi
theorem cutI_at : ∀ {l : List Int} {x : Int} (h : cutI l x < l.length), ¬ l[cutI l x] < x
  | [], x, h => by simp at h
  | y :: l, x, h => by
    by_cases q : y < x
    · have e : cutI (y :: l) x = cutI l x + 1 := by unfold cutI; rw [List.takeWhile_cons, if_pos (by simpa using q)]; rfl
      simp only [e, List.getElem_cons_succ]
      exact cutI_at (by rw [e] at h; simpa using h)
    · have e : cutI (y :: l) x = 0 := by unfold cutI; rw [List.takeWhile_cons, if_neg (by simpa using q)]; rfl
      simp only [e, List.getElem_cons_zero]
      exact q
/-- a number put in its place -/
theorem labS_put {r : List Int} {x : Int} (h0 : x ≠ 0) (hn : x ∉ labS r) : (labS r).take (cutI (labS r) x) ++ x :: (labS r).drop (cutI (labS r) x) = labS (r ++ [x]) := by
  have hr := labS_rises r
  have hm : ∀ y, y ∈ labS r ↔ y ∈ r ∧ y ≠ 0 := fun y => labS_mem
  generalize labS r = l at *
  have hlt : ∀ y, y ∈ l.take (cutI l x) → y < x := fun y hy => by
    obtain ⟨i, hi, e⟩ := List.getElem_of_mem hy
    rw [List.getElem_take] at e
    have : i < cutI l x ∧ i < l.length := by simp at hi; omega
    rw [← e]; exact cutI_lt this.2 this.1
  have hge : ∀ y, y ∈ l.drop (cutI l x) → x < y := fun y hy => by
    obtain ⟨i, hi, e⟩ := List.getElem_of_mem hy
    rw [List.getElem_drop] at e
    have hi' : cutI l x + i < l.length := by simp at hi; omega
    have h1 := cutI_at (l := l) (x := x) (by omega)
    have h2 : l[cutI l x]'(by omega) ≤ l[cutI l x + i] := by
      by_cases q : i = 0
      · subst q; simp
      · exact Int.le_of_lt ((List.pairwise_iff_getElem.1 hr) _ _ (by omega) hi' (by omega))
    have h3 : x ≠ y := fun q => hn (q ▸ List.mem_of_mem_drop hy)
    omega
  have hr1 := hr.sublist (List.take_sublist (cutI l x) l)
  have hr2 := hr.sublist (List.drop_sublist (cutI l x) l)
  refine labS_is ?_ fun y => ?_
  · refine List.pairwise_append.2 ⟨hr1, List.pairwise_cons.2 ⟨hge, hr2⟩, fun a ha b hb => ?_⟩
    have h1 := hlt a ha
    rcases List.mem_cons.1 hb with e | hb
    · omega
    · have := hge b hb; omega
  · have hy : y ∈ l ↔ y ∈ l.take (cutI l x) ∨ y ∈ l.drop (cutI l x) := by rw [← List.mem_append, List.take_append_drop]
    simp only [List.mem_append, List.mem_cons, List.not_mem_nil, or_false]
    constructor
    · rintro (h | rfl | h)
      · have := (hm y).1 (hy.2 (.inl h)); exact ⟨.inl this.1, this.2⟩
      · exact ⟨.inr rfl, h0⟩
      · have := (hm y).1 (hy.2 (.inr h)); exact ⟨.inl this.1, this.2⟩
    · rintro ⟨h | rfl, h2⟩
      · rcases hy.1 ((hm y).2 ⟨h, h2⟩) with q | q
        · exact .inl q
        · exact .inr (.inr q)
      · exact .inr (.inl rfl)
theorem labS_same {r : List Int} {x : Int} (h : x = 0 ∨ x ∈ labS r) : labS r = labS (r ++ [x]) := by
  refine labS_is (labS_rises r) fun y => ?_
  rw [labS_mem, List.mem_append, List.mem_singleton]
  constructor
  · exact fun h => ⟨.inl h.1, h.2⟩
  · rintro ⟨q | rfl, q'⟩
    · exact ⟨q, q'⟩
    · rcases h with h | h
      · exact absurd h q'
      · exact labS_mem.1 h
/-- at the place stands the number, if it is in -/
theorem cutI_is {l : List Int} (hr : l.Pairwise (· < ·)) {x : Int} : x ∈ l ↔ ∃ h : cutI l x < l.length, l[cutI l x] = x := by
  constructor
  · intro hx
    obtain ⟨i, hi, e⟩ := List.getElem_of_mem hx
    have h1 : ¬ i < cutI l x := fun q => by have := cutI_lt hi q; omega
    refine ⟨by omega, ?_⟩
    by_cases q : cutI l x = i
    · simp only [q]; exact e
    · have h2 := (List.pairwise_iff_getElem.1 hr) (cutI l x) i (by omega) hi (by omega)
      have h3 := cutI_at (l := l) (x := x) (by omega)
      omega
  · rintro ⟨h, e⟩
    rw [← e]; exact List.getElem_mem h

/-! ### all the labels of a coercion -/
mutual
def rawC : Coe → List Int
  | .mk t n s f g => (t ++ n.map (·.2)) ++ (rawCs f ++ rawCs g)
def rawCs : List Coe → List Int
  | [] => []
  | c :: l => rawC c ++ rawCs l
end
theorem rawCs_app : ∀ a b : List Coe, rawCs (a ++ b) = rawCs a ++ rawCs b
  | [], b => by simp [rawCs]
  | x :: a, b => by simp [rawCs, rawCs_app a b]
theorem rawC_eq (c : Coe) : rawC c = (c.tags ++ c.needs.map (·.2)) ++ rawCs (c.fields ++ c.fn) := by
  cases c; simp [rawC, Coe.fields, Coe.fn, Coe.tags, Coe.needs, rawCs_app]
theorem rawCs_take {l : List Coe} {j : Nat} (h : j < l.length) : rawCs (l.take (j + 1)) = rawCs (l.take j) ++ rawC l[j] := by
  rw [List.take_succ_eq_append_getElem h, rawCs_app]; simp [rawCs]
theorem rawCs_mem {x : Int} : ∀ {l : List Coe}, x ∈ rawCs l ↔ ∃ c, c ∈ l ∧ x ∈ rawC c
  | [] => by simp [rawCs]
  | c :: l => by simp [rawCs, rawCs_mem (l := l)]
end Go.Gr
