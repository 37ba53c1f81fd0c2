/- CodeMakes, the claim: whatever sources are handed in, the law answers true, and its arguments read as before; no condition. -/
import Derived.Test.YtlfjlokfciejnaaGreatJ23
import Derived.Test.YtlfjlokfciejnaaGreatJ25
import Derived.Test.YtlfjlokfciejnaaGreatRows
import Derived.WalkKit
import Derived.ProofKit
import Derived.OpenShut
import Derived.JoinedCond
set_option linter.unusedVariables false
namespace Go.Proofs.YtlfjlokfciejnaaGreat
open Go.Abs Go.Gr

set_option maxRecDepth 100000 in
theorem lawLifted (os : Os) (started : os.Started) (H : Type) (enc : TypeId × Value → H) :
    ReturnsInHanded {} Tryz.checked os 3 .any (Rows.codeMakesSpec.pre6 enc Tryz.prog Tryz.f3 Rows.codeMakesRow.domain false) (Rows.codeMakesSpec.post enc Tryz.prog Tryz.f3 false true false false) :=
  Fb (C := Tryz.checked) noGnd own started (by kernel_rfl) Tryz.func3 rfl Ot (by kernel_rfl) (by kernel_rfl) Tryz.underlying4 laidOut
    (fun ds h => by match ds, h with | [a, b], _ => rfl)
    (ChangeSpec.witness6 (enc := enc) (C := Tryz.checked) false ⟨#[], #[.slice none 0 0,.bool false], []⟩ 8 (by kernel_rfl) (by kernel_rfl) (by kernel_rfl) (by kernel_rfl))
    (fun dvs h => by obtain ⟨l, k, rfl⟩ := Ou h; exact EZ l k)

theorem CodeMakes_holds : Rows.CodeMakesSaid :=
  OpenClaim.holds_of_wide 3 Tryz.f3 rfl rfl rfl rfl rfl rfl rfl ⟨rfl, rfl, rfl, rfl, rfl⟩ rfl rfl rfl rfl rfl (by kernel_rfl) Tryz.func3 (by kernel_rfl)
    (of_decide_eq_true (by kernel_rfl)) (by unfold Func.isWrapper; first | (rw [if_pos (by decide +kernel)]; kernel_rfl) | (rw [if_neg (by decide +kernel)]; exact ⟨rfl, rfl⟩))
    (fun os started H enc _ => lawLifted os started H enc)
#print axioms CodeMakes_holds
end Go.Proofs.YtlfjlokfciejnaaGreat
