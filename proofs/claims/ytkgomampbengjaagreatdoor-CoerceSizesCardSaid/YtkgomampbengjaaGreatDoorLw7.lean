/- CoerceLabels and CoerceSizes: the laws on data. -/
import Derived.Test.YtkgomampbengjaaGreatDoorThy4
set_option linter.unusedVariables false
set_option linter.unusedSimpArgs false
namespace Go.Gr
open Go.Abs Go.Proofs

theorem sizCs_take {l : List Coe} {j : Nat} (h : j < l.length) : sizCs (l.take (j + 1)) = sizCs (l.take j) + sizC l[j] := by
  rw [List.take_succ_eq_append_getElem h, sizCs_app]; simp [sizCs]
theorem sizCs_take_le (l : List Coe) (j : Nat) : sizCs (l.take j) ≤ sizCs l := by
  have := sizCs_app (l.take j) (l.drop j)
  rw [List.take_append_drop] at this; omega
theorem len_siz : ∀ l : List Coe, l.length ≤ sizCs l
  | [] => by simp [sizCs]
  | c :: l => by have := len_siz l; have := siz_pos c; simp [sizCs]; omega

set_option maxRecDepth 20000 in
theorem rSize_one (d : Coe) (hs : sizC d ≤ 1073741824) (ih : ∀ x, x ∈ d.fields ∨ x ∈ d.fn → PCall Pg F.gradusref10_Size [.agg x.enc] (.one (.int .i64 (sizC x)))) : PCall Pg F.gradusref10_Size [.agg d.enc] (.one (.int .i64 (sizC d))) := by
  have hs' := hs
  rw [sizC_eq, sizCs_app] at hs'
  have l1 := len_siz d.fields
  have l2 := len_siz d.fn
  refine w_gradusref10_Size (by simp) fun o c hN hp => ?_
  unfold mc_gradusref10_Size
  simp
  refine W.loop Pg_mixed hp (fun j : Nat => j ≤ d.fields.length) (fun j => [(4, .c (.d (.int .i64 j))), (1, .c (.d (.rp d.enc 0))), (3, .c (.d (.int .i64 (1 + sizCs (d.fields.take j) : Nat))))])
    (fun j => []) (fun j => d.fields.length - j) 0 [] (by simp) (by simp [sizCs]) fun j h1 => ?_
  unfold lp_gradusref10_Size_0
  simp
  refine gd.mk (fun h => ?_) (fun h => ?_)
  · have hj : j < d.fields.length := by simpa using h
    have hsum := sizCs_take hj
    have hb := sizCs_take_le d.fields (j + 1)
    simp [List.getElem?_eq_getElem hj]
    refine callK.mk (ih _ (.inl (List.getElem_mem hj))) ?_
    simp
    refine Abs.Next.mk (j + 1) [] (by omega) (by omega) ?_
    simp [hsum]
    exact ⟨wrap_i64 (by omega) (by omega), by rw [wrap_i64 (by omega) (by omega)]; omega⟩
  · have hj : j = d.fields.length := by simp at h; omega
    subst hj
    simp
    refine W.loop Pg_mixed hp (fun j : Nat => j ≤ d.fn.length) (fun j => [(5, .c (.d (.int .i64 j))), (1, .c (.d (.rp d.enc 0))), (3, .c (.d (.int .i64 (1 + sizCs d.fields + sizCs (d.fn.take j) : Nat))))])
      (fun j => []) (fun j => d.fn.length - j) 0 [] (by simp) (by simp [sizCs]) fun j h1 => ?_
    unfold lp_gradusref10_Size_2
    simp
    refine gd.mk (fun h => ?_) (fun h => ?_)
    · have hj : j < d.fn.length := by simpa using h
      have hsum := sizCs_take hj
      have hb := sizCs_take_le d.fn (j + 1)
      simp [List.getElem?_eq_getElem hj]
      refine callK.mk (ih _ (.inr (List.getElem_mem hj))) ?_
      simp
      refine Abs.Next.mk (j + 1) [] (by omega) (by omega) ?_
      simp [hsum]
      exact ⟨wrap_i64 (by omega) (by omega), by rw [wrap_i64 (by omega) (by omega)]; omega⟩
    · have hj : j = d.fn.length := by simp at h; omega
      subst hj
      rw [sizC_eq, sizCs_app]
      simp
      omega

theorem rSize_ok : ∀ (n : Nat) {d : Coe}, inN n d → sizC d ≤ 1073741824 → PCall Pg F.gradusref10_Size [.agg d.enc] (.one (.int .i64 (sizC d)))
  | 0, d, hi, hs => rSize_one d hs fun x hx => by
      have : d = idC := hi
      rw [this] at hx; rcases hx with h | h <;> cases h
  | n + 1, d, hi, hs => rSize_one d hs fun x hx => by
      rw [sizC_eq, sizCs_app] at hs
      rcases hx with h | h
      · exact rSize_ok n (hi.1 x h) (by have := sizCs_mem h; omega)
      · exact rSize_ok n (hi.2 x h) (by have := sizCs_mem h; omega)

theorem has_ok (l : List Int) (x : Int) (hl : l.length ≤ 1073741824) : PCall Pg F.graduslaw10_has [.one (.sl false 1 (encI l)), .one (.int .i64 x)] (.one (.bool (decide (x ∈ l)))) := by
  refine w_graduslaw10_has (by simp) fun o c hN hp => ?_
  unfold mc_graduslaw10_has
  simp
  refine W.loop Pg_mixed hp (fun j : Nat => j ≤ l.length ∧ x ∉ l.take j) (fun j => [(5, .c (.d (.int .i64 j))), (0, .c (.d (.sl false 1 (encI l)))), (1, .c (.d (.int .i64 x)))])
    (fun j => []) (fun j => l.length - j) 0 [] (by simp) (by simp) fun j ⟨h1, h2⟩ => ?_
  unfold lp_graduslaw10_has_0
  simp
  refine gd.mk (fun h => ?_) (fun h => ?_)
  · have hj : j < l.length := by simpa using h
    simp [List.getElem?_eq_getElem hj]
    refine gd.mk (fun h => ?_) (fun h => ?_)
    · simp at h
      have : x ∈ l := h ▸ List.getElem_mem hj
      simp [this]
    · simp at h
      refine Abs.Next.mk (j + 1) [] ⟨by omega, fun q => ?_⟩ (by omega) ?_
      · rcases (mem_take hj).1 q with q | q
        · exact h2 q
        · exact h q.symm
      · simp
        exact wrap_i64 (by omega) (by omega)
  · have hj : j = l.length := by simp at h; omega
    subst hj
    rw [List.take_length] at h2
    simp [h2]

set_option maxRecDepth 20000 in
theorem CoerceLabels_ok (a : Coe) : PCall Pg F.graduslaw10_CoerceLabels [.agg a.enc] (.one (.bool true)) := by
  refine w_graduslaw10_CoerceLabels (by simp) fun o c hN hp => ?_
  unfold mc_graduslaw10_CoerceLabels
  simp
  refine callK.mk awake_ok ?_
  simp
  refine callK.mk (weight_ok a 300) ?_
  simp
  refine gd.mk (fun h => trivial) (fun h => ?_)
  have h1' : ¬ wgt a 300 = 0 := by simpa using h
  obtain ⟨n, hn⟩ := inN_ex a
  have hw := wgt_small (by omega) (by omega) h1'
  have sa := smC_up (B' := 536870912) (by omega) hw.1
  have hr := raw_small (by omega) (by omega) h1'
  have hlen := labS_len (rawC a)
  refine callK.mk (Labels_ok n hn sa (by omega)) ?_
  simp
  refine callK.mk (rLabels_ok n hn (by omega)) ?_
  simp
  refine callK.mk (Size_ok n hn (by omega) sa) ?_
  simp
  refine callK.mk (rSize_ok n hn (by omega)) ?_
  simp
  generalize labS (rawC a) = L at *
  refine ⟨by decide, ?_⟩
  refine W.loop Pg_mixed hp (fun j : Nat => j ≤ L.length) (fun j => [(6, .c (.d (.int .i64 j))), (4, .c (.d (.sl false 1 (encI L)))), (5, .c (.d (.sl false 1 (encI L))))])
    (fun j => []) (fun j => L.length - j) 0 [] (by simp) (by simp) fun j h1 => ?_
  unfold lp_graduslaw10_CoerceLabels_0
  simp
  refine gd.mk (fun h => ?_) (fun h => ?_)
  · have hj : j < L.length := by simpa using h
    simp [List.getElem?_eq_getElem hj]
    refine ⟨by decide, ?_⟩
    refine Abs.Next.mk (j + 1) [] (by omega) (by omega) ?_
    simp
    exact wrap_i64 (by omega) (by omega)
  · simp

set_option maxRecDepth 20000 in
theorem CoerceSizes_ok (a b : Coe) : PCall Pg F.graduslaw10_CoerceSizes [.agg a.enc, .agg b.enc] (.one (.bool true)) := by
  refine w_graduslaw10_CoerceSizes (by simp) fun o c' hN hp => ?_
  unfold mc_graduslaw10_CoerceSizes
  simp
  refine callK.mk awake_ok ?_
  simp
  refine callK.mk (weight_ok a 100) ?_
  simp
  refine gd.mk (fun w1 => ?_) (fun w1 => trivial)
  refine callK.mk (weight_ok b 100) ?_
  simp
  refine gd.mk (fun w2 => ?_) (fun w2 => trivial)
  refine callK.mk (cMay_ok a) ?_
  simp
  refine gd.mk (fun m1 => ?_) (fun m1 => trivial)
  refine callK.mk (cMay_ok b) ?_
  simp
  refine gd.mk (fun m2 => trivial) (fun m2 => ?_)
  have w1' : ¬ wgt a 100 = 0 := of_decide_eq_false w1
  have w2' : ¬ wgt b 100 = 0 := of_decide_eq_false w2
  have ma : mayC a = true := by simpa using m1
  have mb : mayC b = true := by simpa using m2
  obtain ⟨n1, i1⟩ := inN_ex a
  obtain ⟨n2, i2⟩ := inN_ex b
  have ia : inN (n1 + n2) a := inN_le (by omega) i1
  have ib : inN (n1 + n2) b := inN_le (by omega) i2
  generalize n1 + n2 = n at ia ib
  have ha := wgt_small (by omega) (by omega) w1'
  have hb := wgt_small (by omega) (by omega) w2'
  have sa := smC_up (B' := 536870912) (by omega) ha.1
  have sb := smC_up (B' := 536870912) (by omega) hb.1
  have ra := raw_small (by omega) (by omega) w1'
  have rb := raw_small (by omega) (by omega) w2'
  have ec : compC n a b = compN n a b := by unfold compC; rw [ma, mb]; rfl
  have hc := Compose_ok n ia ib sa sb
  rw [ec] at hc
  have ic := comp_in n ma mb ia ib
  have mc := comp_may n a b ma mb
  have sc0 := (smC_comp (A := 1000) (B := 1000) (by omega) n ia ib ma mb ha.1 hb.1).1
  have sc := smC_up (B' := 536870912) (by omega) sc0
  have zc := comp_siz n ia ib ma mb
  have rc := raw_len n ic mc sc0
  have rc2 : (rawC (compN n a b)).length ≤ 1073741824 := by
    have : (6 + (1000 + 1000)) * sizC (compN n a b) ≤ (6 + (1000 + 1000)) * 2000 := Nat.mul_le_mul_left _ (by omega)
    omega
  have hin : ∀ x, x ∈ labS (rawC (compN n a b)) → x ∈ labS (rawC a) ∨ x ∈ labS (rawC b) := fun x hx => by
    have hx := labS_mem.1 hx
    rcases comp_raw n ma mb hx.2 hx.1 with q | q
    · exact .inl (labS_mem.2 ⟨q, hx.2⟩)
    · exact .inr (labS_mem.2 ⟨q, hx.2⟩)
  have la := labS_len (rawC a)
  have lb := labS_len (rawC b)
  have lc := labS_len (rawC (compN n a b))
  have za := Size_ok n ia (by omega) sa
  have zb := Size_ok n ib (by omega) sb
  have zz := Size_ok n ic (by omega) sc
  refine callK.mk hc ?_
  simp
  refine callK.mk (Labels_ok n ia sa (by omega)) ?_
  simp
  refine callK.mk (Labels_ok n ib sb (by omega)) ?_
  simp
  refine callK.mk (Labels_ok n ic sc rc2) ?_
  simp
  generalize labS (rawC (compN n a b)) = L at *
  generalize labS (rawC a) = L1 at *
  generalize labS (rawC b) = L2 at *
  generalize hd : compN n a b = d at *
  refine W.loop Pg_mixed hp (fun j : Nat => j ≤ L.length) (fun j => [(10, .c (.d (.int .i64 j))), (9, .c (.d (.sl false 1 (encI L)))), (7, .c (.d (.sl false 1 (encI L1)))), (8, .c (.d (.sl false 1 (encI L2)))), (2, .c (.d (.rp a.enc 0))), (3, .c (.d (.rp b.enc 0))), (6, .c (.ptr 0 0))])
    (fun j => [.box (d.enc.map .d)]) (fun j => L.length - j) 0 [0] (by simp) (by simp) fun j h1 => ?_
  unfold lp_graduslaw10_CoerceSizes_0
  simp
  refine gd.mk (fun h => ?_) (fun h => ?_)
  · have hj : j < L.length := by simpa using h
    simp [List.getElem?_eq_getElem hj]
    refine callK.mk (has_ok L1 L[j] (by omega)) ?_
    simp [List.getElem?_eq_getElem hj]
    refine callK.mk (has_ok L2 L[j] (by omega)) ?_
    simp
    have hmem := hin L[j] (List.getElem_mem hj)
    by_cases q1 : L[j] ∈ L1
    · simp [q1]
      refine Abs.Next.mk (j + 1) [0] (by omega) (by omega) ?_
      simp
      exact wrap_i64 (by omega) (by omega)
    · have q2 := hmem.resolve_left q1
      simp [q1, q2]
      refine Abs.Next.mk (j + 1) [0] (by omega) (by omega) ?_
      simp
      exact wrap_i64 (by omega) (by omega)
  · refine callK.mk zz ?_
    simp
    refine callK.mk za ?_
    simp
    refine callK.mk zb ?_
    simp
    refine ⟨by decide, ?_⟩
    rw [wrap_i64 (by omega) (by omega)]; omega
end Go.Gr
