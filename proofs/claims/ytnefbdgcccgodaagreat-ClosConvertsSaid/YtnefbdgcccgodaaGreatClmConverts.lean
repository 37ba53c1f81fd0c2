/- The claim. -/
import Derived.Test.YtnefbdgcccgodaaGreatJ22
import Derived.Test.YtnefbdgcccgodaaGreatRows
import Derived.WalkKit
import Derived.ProofKit
import Derived.OpenShut
import Derived.JoinedCond
/- ClosConverts, the claim: whatever sources are handed in, the law answers true, and its arguments read as before; no condition. -/
set_option linter.unusedVariables false
namespace Go.Proofs.YtnefbdgcccgodaaGreat
open Go.Abs Go.Gr

set_option maxRecDepth 100000 in
theorem lawLifted(os:Os)(started:os.Started)(H:Type)(enc:TypeId × Value→H):
    ReturnsInHanded {} Tryz.checked os 3 .any (Rows.closConvertsSpec.pre6 enc Tryz.prog Tryz.f3 Rows.closConvertsRow.domain false) (Rows.closConvertsSpec.post enc Tryz.prog Tryz.f3 false true false false):=
  law_lifted (C:=Tryz.checked) noGnd own started (by kernel_rfl) Tryz.func3 rfl typesOk (by kernel_rfl) (by kernel_rfl) Tryz.underlying4 laidOut
    (fun ds h=>by match ds,h with|[a,b],_=>rfl)
    (ChangeSpec.witness6 (enc:=enc) (C:=Tryz.checked) false ⟨#[],#[.slice none 0 0,.int .i64 0],[]⟩ 8 (by kernel_rfl) (by kernel_rfl) (by kernel_rfl) (by kernel_rfl))
    (fun dvs h=>by obtain⟨l,k,rfl⟩:=args223 h;exact ClosConverts_ok l k)

theorem ClosConverts_holds:Rows.ClosConvertsSaid:=
  OpenClaim.holds_of_wide 3 Tryz.f3 rfl rfl rfl rfl rfl rfl rfl ⟨rfl,rfl,rfl,rfl,rfl⟩ rfl rfl rfl rfl rfl (by kernel_rfl) Tryz.func3 (by kernel_rfl)
    (of_decide_eq_true (by kernel_rfl)) (by unfold Func.isWrapper;first|(rw[if_pos (by decide+kernel)];kernel_rfl)|(rw[if_neg (by decide+kernel)];exact⟨rfl,rfl⟩))
    (fun os started H enc _=>lawLifted os started H enc)
#print axioms ClosConverts_holds
end Go.Proofs.YtnefbdgcccgodaaGreat
