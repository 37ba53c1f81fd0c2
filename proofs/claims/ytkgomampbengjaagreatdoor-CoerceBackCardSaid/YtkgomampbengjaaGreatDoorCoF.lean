import Derived.Test.YtkgomampbengjaaGreatDoorCoB
/- CoerceBack, walked. -/
set_option linter.unusedVariables false
set_option linter.unusedSimpArgs false
namespace Go.Gr
open Go.Abs Go.Proofs

theorem nrm_any : isN (bT0 0) = true := by decide
set_option maxRecDepth 20000 in
theorem CoerceBack_ok (a : Typ) : PCall Pg F.graduslaw10_CoerceBack [.agg a.enc] (.one (.bool true)) := by
  refine w_graduslaw10_CoerceBack (by simp) fun o c hN hp => ?_
  unfold mc_graduslaw10_CoerceBack
  simp
  refine callK.mk awake_ok ?_
  simp
  refine callK.mk (heavy_ok a 300) ?_
  simp
  refine gd.mk (fun h => ?_) (fun h => ?_)
  · have hsub := Sub_ok a a (belowN false (dpt a) a a) fun h1 h2 => below_ok false (dpt a) a a (nrm_good h1).1 (nrm_good h1).1 (Nat.le_refl _) (Nat.le_refl _)
    generalize belowN false (dpt a) a a = R at hsub
    refine callK.mk hsub ?_
    simp
    refine gd.mk (fun h2 => ?_) (fun h2 => ?_)
    · trivial
    · have ha : isN a = true := by
        revert h2; cases isN a <;> simp
      have ga := nrm_good ha
      have gy := good_any
      have hb : PCall Pg F.graduslaw10_base [.one (.int .i64 0)] (.agg (bT0 0).enc) := base_ok 0
      have n1 := dpt_pos a
      have d1 := dpt_any
      have m1 := Make_ok (dpt a + dpt a) a a 2 (by omega) (by omega) (by omega)
      have m2 := Make_ok (dpt a + dpt a) a (bT0 0) 4 (by omega) (by omega) (by omega)
      have m3 := Make_ok (dpt a + dpt a) (bT0 0) a 6 (by omega) (by omega) (by omega)
      generalize dpt a + dpt a = N at *
      have e1 : makeP N a a 2 = idC := by unfold makeP; rw [if_neg (by simp [ha]), cst_self]
      have e2 : makeP N a (bT0 0) 4 = cstN N a (bT0 0) 4 := by unfold makeP; rw [if_neg (by simp [ha, nrm_any])]
      have e3 : makeP N (bT0 0) a 6 = cstN N (bT0 0) a 6 := by unfold makeP; rw [if_neg (by simp [ha, nrm_any])]
      rw [e1] at m1
      rw [e2] at m2
      rw [e3] at m3
      have i2 := cst_in N a (bT0 0) 4
      have i3 := cst_in N (bT0 0) a 6
      have s2 := cst_sm N a (bT0 0) 4 ga gy
      have s3 := cst_sm N (bT0 0) a 6 gy ga
      have y2 := cst_may N a (bT0 0) 4 ga gy (by omega)
      have y3 := cst_may N (bT0 0) a 6 gy ga (by omega)
      have r2 : ∀ x, x ∈ rawC (cstN N a (bT0 0) 4) → x = 0 ∨ x = 4 ∨ x = 5 := fun x hx => cst_raw N _ _ _ hx
      have r3 : ∀ x, x ∈ rawC (cstN N (bT0 0) a 6) → x = 0 ∨ x = 6 ∨ x = 7 := fun x hx => cst_raw N _ _ _ hx
      generalize cstN N a (bT0 0) 4 = A at *
      generalize cstN N (bT0 0) a 6 = B at *
      have hc := Compose_ok N i2 i3 (smC_up (by omega) s2) (smC_up (by omega) s3)
      have e : compC N A B = compN N A B := by unfold compC; rw [y2, y3]; rfl
      rw [e] at hc
      have iy := comp_in N y2 y3 i2 i3
      have sy := (smC_comp (A := 1000) (B := 1000) (by omega) N i2 i3 y2 y3 s2 s3).1
      have my := comp_may N A B y2 y3
      have ry : ∀ x, x ∈ rawC (compN N A B) → x ∈ [0, 4, 5, 6, 7] := fun x hx => by
        by_cases x0 : x = 0
        · simp [x0]
        · rcases comp_raw N y2 y3 x0 hx with q | q
          · rcases r2 x q with r | r | r <;> simp [r]
          · rcases r3 x q with r | r | r <;> simp [r]
      generalize compN N A B = Y at *
      have hl := LabelsD_ok N iy (smC_up (by omega) sy) [0, 4, 5, 6, 7] (by simp) ry
      have hm := cMay_ok Y
      have hs := Same_ok idC idC
      rw [sameC_rfl] at hs
      rw [my] at hm
      have hL : ∀ x, x ∈ labS (rawC Y) → 4 ≤ x ∧ x ≤ 7 := fun x hx => by
        obtain ⟨h1, h2⟩ := labS_mem.1 hx
        have := ry x h1
        simp only [List.mem_cons, List.not_mem_nil, or_false] at this
        omega
      have hlen : (labS (rawC Y)).length ≤ 5 := nodup_sub (k := [0, 4, 5, 6, 7]) ((labS_rises _).imp fun h e => by omega) fun x hx => ry x (labS_mem.1 hx).1
      generalize labS (rawC Y) = L at *
      refine callK.mk hb ?_
      simp
      refine callK.mk m1 ?_
      simp
      refine callK.mk m2 ?_
      simp
      refine callK.mk m3 ?_
      simp
      refine callK.mk hc ?_
      simp
      refine ⟨by decide, callK.mk hl ?_⟩
      simp
      refine W.loop Pg_mixed hp (fun j : Nat => j ≤ L.length) (fun j => [(8, .c (.d (.int .i64 j))), (7, .c (.d (.sl false 1 (encI L)))), (5, .c (.ptr 0 0)), (6, .c (.ptr 1 0))]) (fun _ => [.box (idC.enc.map .d), .box (Y.enc.map .d)]) (fun j => L.length - j) 0 [1, 2] (by simp) (by simp) fun j h1 => ?_
      unfold lp_graduslaw10_CoerceBack_0
      simp
      refine gd.mk (fun h => ?_) (fun h => ?_)
      · have hj : j < L.length := by simpa using h
        have hx := hL _ (List.getElem_mem hj)
        have x1 : ¬ L[j] < 4 := by omega
        have x2 : ¬ 7 < L[j] := by omega
        simp [List.getElem?_eq_getElem hj, x1, x2]
        refine Abs.Next.mk (j + 1) [0, 1] (by omega) (by omega) ?_
        simp
        exact wrap_i64 (by omega) (by omega)
      · refine callK.mk Id_ok ?_
        simp
        refine callK.mk hs ?_
        simp
        refine callK.mk hm ?_
        simp
        decide
  · trivial
end Go.Gr
