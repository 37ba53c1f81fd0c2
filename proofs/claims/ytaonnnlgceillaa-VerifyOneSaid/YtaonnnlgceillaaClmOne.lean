/- VerifyOne, the claim. -/
import Derived.Test.YtaonnnlgceillaaVerV
import Derived.Test.YtaonnnlgceillaaRows
import Derived.WalkKit
import Derived.ProofKit
import Derived.OpenShut
import Derived.JoinedCond
set_option linter.unusedVariables false
namespace Go.Proofs.Ytaonnnlgceillaa
open Go.Abs Go.Gr

def emptySl : Value := .slice none 0 0
def codeArg : Value := .agg #[emptySl, emptySl, emptySl, emptySl, emptySl, .int .i64 0, .bool false]
def insArg : Value := .agg #[.int .i64 0, .int .i64 0, .int .i64 0, .int .i64 0]

set_option maxRecDepth 100000 in
theorem lawLifted (os : Os) (started : os.Started) (H : Type) (enc : TypeId × Value → H) :
    ReturnsInHanded {} Try.checked os 7 .any (Rows.verifyOneSpec.pre6 enc Try.prog Try.f7 Rows.verifyOneRow.domain false) (Rows.verifyOneSpec.post enc Try.prog Try.f7 false true false false) :=
  law_lifted (C := Try.checked) own started (by kernel_rfl) Try.func7 rfl typesOk (by kernel_rfl) (by kernel_rfl) Try.underlying4 laidOut
    (fun ds h => by match ds, h with | [a, b], _ => rfl)
    (ChangeSpec.witness6 (enc := enc) (C := Try.checked) false ⟨#[], #[codeArg, insArg], []⟩ 8 (by kernel_rfl) (by kernel_rfl) (by kernel_rfl) (by kernel_rfl))
    (fun dvs h => by obtain ⟨c, i, rfl⟩ := args28_32 h; exact VerifyOne_ok c i)

theorem VerifyOne_holds : Rows.VerifyOneSaid :=
  OpenClaim.holds_of_wide 7 Try.f7 rfl rfl rfl rfl rfl rfl rfl ⟨rfl, rfl, rfl, rfl, rfl⟩ rfl rfl rfl rfl rfl (by kernel_rfl) Try.func7 (by kernel_rfl)
    (of_decide_eq_true (by kernel_rfl)) (by unfold Func.isWrapper; first | (rw [if_pos (by decide +kernel)]; kernel_rfl) | (rw [if_neg (by decide +kernel)]; exact ⟨rfl, rfl⟩))
    (fun os started H enc _ => lawLifted os started H enc)
#print axioms VerifyOne_holds
end Go.Proofs.Ytaonnnlgceillaa
