/- CoerceMays: the law on data. -/
import Derived.Test.YtkgomampbengjaaGreatDoorCoV
set_option linter.unusedVariables false
set_option linter.unusedSimpArgs false
namespace Go.Gr
open Go.Abs Go.Proofs

set_option maxRecDepth 20000 in
theorem CoerceMays_ok (a b : Coe) : PCall Pg F.graduslaw10_CoerceMays [.agg a.enc, .agg b.enc] (.one (.bool true)) := by
  refine w_graduslaw10_CoerceMays (by simp) fun o c hN hp => ?_
  unfold mc_graduslaw10_CoerceMays
  simp
  refine callK.mk awake_ok ?_
  simp
  refine callK.mk (weight_ok a 300) ?_
  simp
  refine gd.mk (fun h => ?_) (fun h => ?_)
  rotate_left
  · trivial
  refine callK.mk (weight_ok b 300) ?_
  simp
  refine gd.mk (fun h2 => ?_) (fun h2 => ?_)
  · simp
  · have m7 := Same_ok a a
    rw [sameC_rfl] at m7
    refine callK.mk (cMay_ok a) ?_
    simp
    refine callK.mk (rMay_ok a) ?_
    simp
    refine callK.mk (Same_ok a b) ?_
    simp
    refine callK.mk (rSame_ok a b) ?_
    simp
    refine callK.mk m7 ?_
    simp
    decide
end Go.Gr
