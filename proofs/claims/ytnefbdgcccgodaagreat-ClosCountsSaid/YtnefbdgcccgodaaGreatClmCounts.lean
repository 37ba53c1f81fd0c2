/- The claim. -/
import Derived.Test.YtnefbdgcccgodaaGreatJ24
import Derived.Test.YtnefbdgcccgodaaGreatRows
import Derived.WalkKit
import Derived.ProofKit
import Derived.OpenShut
import Derived.JoinedCond
/- ClosCounts, the claim: whatever sources are handed in, the law answers true, and its arguments read as before; no condition. -/
set_option linter.unusedVariables false
namespace Go.Proofs.YtnefbdgcccgodaaGreat
open Go.Abs Go.Gr

set_option maxRecDepth 100000 in
theorem lawLifted (os : Os) (started : os.Started) (H : Type) (enc : TypeId × Value → H) :
    ReturnsInHanded {} Tryz.checked os 5 .any (Rows.closCountsSpec.pre6 enc Tryz.prog Tryz.f5 Rows.closCountsRow.domain false) (Rows.closCountsSpec.post enc Tryz.prog Tryz.f5 false true false false) :=
  law_lifted (C := Tryz.checked) noGnd own started (by kernel_rfl) Tryz.func5 rfl typesOk (by kernel_rfl) (by kernel_rfl) Tryz.underlying4 laidOut
    (fun ds h => by match ds, h with | [a], _ => rfl)
    (ChangeSpec.witness6 (enc := enc) (C := Tryz.checked) false ⟨#[], #[.slice none 0 0], []⟩ 8 (by kernel_rfl) (by kernel_rfl) (by kernel_rfl) (by kernel_rfl))
    (fun dvs h => by obtain ⟨l, rfl⟩ := args22 h; exact ClosCounts_ok l)

theorem ClosCounts_holds : Rows.ClosCountsSaid :=
  OpenClaim.holds_of_wide 5 Tryz.f5 rfl rfl rfl rfl rfl rfl rfl ⟨rfl, rfl, rfl, rfl, rfl⟩ rfl rfl rfl rfl rfl (by kernel_rfl) Tryz.func5 (by kernel_rfl)
    (of_decide_eq_true (by kernel_rfl)) (by unfold Func.isWrapper; first | (rw [if_pos (by decide +kernel)]; kernel_rfl) | (rw [if_neg (by decide +kernel)]; exact ⟨rfl, rfl⟩))
    (fun os started H enc _ => lawLifted os started H enc)
#print axioms ClosCounts_holds
end Go.Proofs.YtnefbdgcccgodaaGreat
