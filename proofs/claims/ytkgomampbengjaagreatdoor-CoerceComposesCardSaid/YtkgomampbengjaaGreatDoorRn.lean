/- The reference's names, field, pair. -/
import Derived.Test.YtkgomampbengjaaGreatDoorCoV
set_option linter.unusedVariables false
set_option linter.unusedSimpArgs false
namespace Go.Gr
open Go.Abs Go.Proofs

theorem bytesLess_lt (a b : ByteArray) : Op.bytesLess a.data.toList b.data.toList = decide (ltB a b) := bytes_less _ _

/-- names merged so far -/
structure Mrg (a b : List ByteArray) (i k : Nat) (l : List ByteArray) : Prop where
  hi : i ≤ a.length
  hk : k ≤ b.length
  len : l.length ≤ i + k
  rises : l.Pairwise ltB
  mem : ∀ x, x ∈ l ↔ x ∈ a.take i ∨ x ∈ b.take k
  la : ∀ x, x ∈ l → ∀ j (h : j < a.length), i ≤ j → ltB x a[j]
  lb : ∀ x, x ∈ l → ∀ j (h : j < b.length), k ≤ j → ltB x b[j]

theorem pair_lt {l : List ByteArray} (h : l.Pairwise ltB) {i j : Nat} (hj : j < l.length) (hij : i < j) : ltB (l[i]'(by omega)) l[j] := (List.pairwise_iff_getElem.1 h) i j (by omega) hj hij

theorem Mrg.left {a b l : List ByteArray} {i k : Nat} (ha : a.Pairwise ltB) (hb : b.Pairwise ltB) (M : Mrg a b i k l) (h : i < a.length) (hl : ∀ (hk : k < b.length), ltB a[i] b[k]) : Mrg a b (i + 1) k (l ++ [a[i]]) where
  hi := h
  hk := M.hk
  len := by have := M.len; simp; omega
  rises := List.pairwise_append.2 ⟨M.rises, by simp, fun x hx y hy => by rw [List.mem_singleton.1 hy]; exact M.la x hx i h (Nat.le_refl _)⟩
  mem x := by rw [List.mem_append, M.mem, mem_take h, List.mem_singleton]; exact ⟨fun h => h.elim (fun h => h.elim (fun h => .inl (.inl h)) .inr) (fun h => .inl (.inr h)), fun h => h.elim (fun h => h.elim (fun h => .inl (.inl h)) .inr) (fun h => .inl (.inr h))⟩
  la x hx j hj hij := by
    rcases List.mem_append.1 hx with q | q
    · exact M.la x q j hj (by omega)
    · rw [List.mem_singleton.1 q]; exact pair_lt ha hj (by omega)
  lb x hx j hj hkj := by
    rcases List.mem_append.1 hx with q | q
    · exact M.lb x q j hj hkj
    · rw [List.mem_singleton.1 q]
      have h1 := hl (by omega)
      by_cases e : k = j
      · subst e; exact h1
      · exact ltB_trans h1 (pair_lt hb hj (by omega))
theorem Mrg.right {a b l : List ByteArray} {i k : Nat} (ha : a.Pairwise ltB) (hb : b.Pairwise ltB) (M : Mrg a b i k l) (h : k < b.length) (hl : ∀ (hi : i < a.length), ltB b[k] a[i]) : Mrg a b i (k + 1) (l ++ [b[k]]) where
  hi := M.hi
  hk := h
  len := by have := M.len; simp; omega
  rises := List.pairwise_append.2 ⟨M.rises, by simp, fun x hx y hy => by rw [List.mem_singleton.1 hy]; exact M.lb x hx k h (Nat.le_refl _)⟩
  mem x := by rw [List.mem_append, M.mem, mem_take h, List.mem_singleton, or_assoc]
  la x hx j hj hij := by
    rcases List.mem_append.1 hx with q | q
    · exact M.la x q j hj hij
    · rw [List.mem_singleton.1 q]
      have h1 := hl (by omega)
      by_cases e : i = j
      · subst e; exact h1
      · exact ltB_trans h1 (pair_lt ha hj (by omega))
  lb x hx j hj hkj := by
    rcases List.mem_append.1 hx with q | q
    · exact M.lb x q j hj (by omega)
    · rw [List.mem_singleton.1 q]; exact pair_lt hb hj (by omega)
theorem Mrg.both {a b l : List ByteArray} {i k : Nat} (ha : a.Pairwise ltB) (hb : b.Pairwise ltB) (M : Mrg a b i k l) (h : i < a.length) (h' : k < b.length) (e : a[i] = b[k]) : Mrg a b (i + 1) (k + 1) (l ++ [b[k]]) where
  hi := h
  hk := h'
  len := by have := M.len; simp; omega
  rises := List.pairwise_append.2 ⟨M.rises, by simp, fun x hx y hy => by rw [List.mem_singleton.1 hy]; exact M.lb x hx k h' (Nat.le_refl _)⟩
  mem x := by
    rw [List.mem_append, M.mem, mem_take h, mem_take h', List.mem_singleton, e]
    exact ⟨fun h => h.elim (fun h => h.elim (fun h => .inl (.inl h)) (fun h => .inr (.inl h))) (fun h => .inr (.inr h)), fun h => h.elim (fun h => h.elim (fun h => .inl (.inl h)) .inr) (fun h => h.elim (fun h => .inl (.inr h)) .inr)⟩
  la x hx j hj hij := by
    rcases List.mem_append.1 hx with q | q
    · exact M.la x q j hj (by omega)
    · rw [List.mem_singleton.1 q, ← e]; exact pair_lt ha hj (by omega)
  lb x hx j hj hkj := by
    rcases List.mem_append.1 hx with q | q
    · exact M.lb x q j hj (by omega)
    · rw [List.mem_singleton.1 q]; exact pair_lt hb hj (by omega)

set_option maxRecDepth 20000 in
theorem rnames_ok (a b : List ByteArray) (ha : a.Pairwise ltB) (hb : b.Pairwise ltB) (sa : a.length ≤ 536870912) (sb : b.length ≤ 536870912) :
    PCall Pg F.gradusref10_names [.one (.sl false 1 (encS a)), .one (.sl false 1 (encS b))] (.one (.sl false 1 (encS (sortS (a ++ b.filter fun k => !decide (k ∈ a)))))) := by
  have hfin : ∀ l, Mrg a b a.length b.length l → l = sortS (a ++ b.filter fun k => !decide (k ∈ a)) := fun l M => by
    have hnd : (a ++ b.filter fun k => !decide (k ∈ a)).Nodup := by
      refine List.nodup_append.2 ⟨ltB_nodup ha, (ltB_nodup hb).filter _, fun x hx y hy e => ?_⟩
      simp only [List.mem_filter, Bool.not_eq_true', decide_eq_false_iff_not] at hy
      exact hy.2 (e ▸ hx)
    refine rises_ext M.rises (sortS_rises hnd) fun x => ?_
    rw [M.mem, sortS_mem, List.take_length, List.take_length]
    simp only [List.mem_append, List.mem_filter, Bool.not_eq_true', decide_eq_false_iff_not]
    by_cases h : x ∈ a <;> simp [h]
  refine w_gradusref10_names (by simp) fun o c hN hp => ?_
  unfold mc_gradusref10_names
  simp
  refine owK.mk [.t 5] ?_
  simp
  refine W.loop Pg_mixed hp (fun x : Nat × Nat × List ByteArray => Mrg a b x.1 x.2.1 x.2.2) (fun x => [(6, .c (.d (.int .i64 x.1))), (7, .c (.d (.int .i64 x.2.1))), (5, .c (.msl 1 0 0 x.2.2.length)), (0, .c (.d (.sl false 1 (encS a)))), (1, .c (.d (.sl false 1 (encS b))))])
    (fun x => [.arr 1 ((encS x.2.2).map (·.map .d))]) (fun x => (a.length - x.1) + (b.length - x.2.1)) (0, 0, []) [0] ⟨by simp, by simp, by simp, by simp, by simp, by simp, by simp⟩ (by simp) fun ⟨i, k, l⟩ M => ?_
  have m1 := M.hi
  have m2 := M.hk
  have m3 := M.len
  simp only at m1 m2 m3 M
  unfold lp_gradusref10_names_0
  simp
  have ta : ∀ {l : List ByteArray}, (encS l).take l.length = encS l := List.take_of_length_le (by simp)
  by_cases hi : i < a.length
  · by_cases hk : k < b.length
    · have kne : ¬ ((k : Int) = b.length) := by omega
      have hd : ltB a[i] b[k] ∨ a[i] = b[k] ∨ (ltB b[k] a[i] ∧ ¬ a[i] = b[k] ∧ ¬ ltB a[i] b[k]) := by
        by_cases e : a[i] = b[k]
        · exact .inr (.inl e)
        · rcases ltB_total e with q | q
          · exact .inl q
          · exact .inr (.inr ⟨q, e, fun h => ltB_irrefl _ (ltB_trans h q)⟩)
      rcases hd with q | q | ⟨q, q1, q2⟩
      · have q' := (bytesLess_lt a[i] b[k]).trans (decide_eq_true q)
        simp [hi, hk, kne, List.getElem?_eq_getElem hi, List.getElem?_eq_getElem hk, q', ta]
        refine ⟨by decide, by omega, ?_⟩
        refine Abs.Next.mk (i + 1, k, l ++ [a[i]]) [1] (M.left ha hb hi fun _ => q) (by simp; omega) ?_
        simp
        exact ⟨wrap_i64 (by omega) (by omega), by rw [List.take_of_length_le (by simp)]; simp [encS]⟩
      · have q' := (bytesLess_lt a[i] b[k]).trans (decide_eq_false (by rw [q]; exact ltB_irrefl _))
        simp [hi, hk, kne, List.getElem?_eq_getElem hi, List.getElem?_eq_getElem hk, q', ta]
        refine ⟨by decide, by omega, ?_⟩
        refine ⟨by decide, ?_⟩
        simp only [q, decide_true, gd_tt]
        refine owK.mk [] ?_
        simp
        refine Abs.Next.mk (i + 1, k + 1, l ++ [b[k]]) [1] (M.both ha hb hi hk q) (by simp; omega) ?_
        simp
        exact ⟨⟨wrap_i64 (by omega) (by omega), wrap_i64 (by omega) (by omega)⟩, by rw [List.take_of_length_le (by simp)]; simp [encS]⟩
      · have q' := (bytesLess_lt a[i] b[k]).trans (decide_eq_false q2)
        simp [hi, hk, kne, List.getElem?_eq_getElem hi, List.getElem?_eq_getElem hk, q', ta]
        refine ⟨by decide, by omega, ?_⟩
        refine ⟨by decide, ?_⟩
        simp only [q1, decide_false, gd_ft]
        refine owK.mk [] ?_
        simp
        refine Abs.Next.mk (i, k + 1, l ++ [b[k]]) [1] (M.right ha hb hk fun _ => q) (by simp; omega) ?_
        simp
        exact ⟨wrap_i64 (by omega) (by omega), by rw [List.take_of_length_le (by simp)]; simp [encS]⟩
    · have ek : k = b.length := by omega
      subst ek
      simp [hi, List.getElem?_eq_getElem hi, ta]
      refine ⟨by decide, by omega, ?_⟩
      refine Abs.Next.mk (i + 1, b.length, l ++ [a[i]]) [1] (M.left ha hb hi fun h => absurd h hk) (by simp; omega) ?_
      simp
      exact ⟨wrap_i64 (by omega) (by omega), by rw [List.take_of_length_le (by simp)]; simp [encS]⟩
  · have ei : i = a.length := by omega
    subst ei
    by_cases hk : k < b.length
    · have kne : ¬ ((k : Int) = b.length) := by omega
      simp [hk, kne, List.getElem?_eq_getElem hk, ta]
      refine ⟨by decide, by omega, by decide, ?_⟩
      refine owK.mk [] ?_
      simp
      refine Abs.Next.mk (a.length, k + 1, l ++ [b[k]]) [1] (M.right ha hb hk fun h => absurd h hi) (by simp; omega) ?_
      simp
      exact ⟨wrap_i64 (by omega) (by omega), by rw [List.take_of_length_le (by simp)]; simp [encS]⟩
    · have ek : k = b.length := by omega
      subst ek
      simp [ta]
      rw [hfin l M]
end Go.Gr
