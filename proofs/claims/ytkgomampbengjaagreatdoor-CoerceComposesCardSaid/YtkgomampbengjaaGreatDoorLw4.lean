/- CoerceComposes: the law on data. -/
import Derived.Test.YtkgomampbengjaaGreatDoorRc
import Derived.Test.YtkgomampbengjaaGreatDoorWg2
set_option linter.unusedVariables false
set_option linter.unusedSimpArgs false
namespace Go.Gr
open Go.Abs Go.Proofs

theorem compC_may (n : Nat) (a b : Coe) : mayC (compC n a b) = (mayC a && mayC b) := by
  unfold compC
  by_cases h : (mayC a && mayC b) = true
  · rw [if_pos h, h]
    simp only [Bool.and_eq_true] at h
    exact comp_may n a b h.1 h.2
  · rw [if_neg h]
    simp only [Bool.not_eq_true] at h
    rw [h]; decide

set_option maxRecDepth 20000 in
theorem CoerceComposes_ok (a b : Coe) : PCall Pg F.graduslaw10_CoerceComposes [.agg a.enc, .agg b.enc] (.one (.bool true)) := by
  refine w_graduslaw10_CoerceComposes (by simp) fun o c' hN hp => ?_
  unfold mc_graduslaw10_CoerceComposes
  simp
  refine callK.mk awake_ok ?_
  simp
  refine callK.mk (weight_ok a 200) ?_
  simp
  refine gd.mk (fun w1 => ?_) (fun w1 => trivial)
  refine callK.mk (weight_ok b 200) ?_
  simp
  refine gd.mk (fun w2 => trivial) (fun w2 => ?_)
  have w1' : ¬ wgt a 200 = 0 := of_decide_eq_false w1
  have w2' : ¬ wgt b 200 = 0 := by simpa using w2
  obtain ⟨n1, i1⟩ := inN_ex a
  obtain ⟨n2, i2⟩ := inN_ex b
  have ia : inN (n1 + n2) a := inN_le (by omega) i1
  have ib : inN (n1 + n2) b := inN_le (by omega) i2
  generalize n1 + n2 = n at ia ib
  have sa := smC_up (B' := 536870912) (by omega) (wgt_small (by omega) (by omega) w1').1
  have sb := smC_up (B' := 536870912) (by omega) (wgt_small (by omega) (by omega) w2').1
  have hs := rSame_ok (compC n a b) (compC n a b)
  rw [sameC_rfl] at hs
  have hm := cMay_ok (compC n a b)
  rw [compC_may] at hm
  refine callK.mk (Compose_ok n ia ib sa sb) ?_
  simp
  refine callK.mk (rCompose_ok n ia ib sa sb) ?_
  simp
  refine callK.mk hs ?_
  simp
  refine ⟨by decide, ?_⟩
  refine callK.mk (cMay_ok a) ?_
  simp
  refine callK.mk (cMay_ok b) ?_
  simp
  refine callK.mk hm ?_
  simp
  cases mayC a <;> cases mayC b <;> simp
end Go.Gr
