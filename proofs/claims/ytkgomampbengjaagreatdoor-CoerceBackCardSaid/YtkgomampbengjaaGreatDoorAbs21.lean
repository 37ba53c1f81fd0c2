/- Loops whose other variables stay. -/
import Derived.Test.YtkgomampbengjaaGreatDoorAbs20
set_option linter.unusedVariables false
namespace Go.Abs

def zipK : List Nat → List AV → List (Nat × AV)
  | k :: ks, v :: vs => (k, v) :: zipK ks vs
  | _, _ => []
def keepK (S : St) (ks : List Nat) : List Nat → List (Nat × AV)
  | [] => []
  | k :: r => if k ∈ ks then keepK S ks r else (k, S.get k) :: keepK S ks r
attribute [simp] zipK keepK

/-- a loop, the changing variables named; those that are wanted behind its head stay -/
theorem W.loopL {P : Program} {c : Ctx} {Q : Exit → St → Prop} {S : St} {Y : Type} (hm : P.follows .mixedOrders = true) (hp : c.pure) {body : MC} {g : Tag (body, Q)} (live ks : List Nat) (I : Y → Prop) (ch : Y → List AV) (bs : Y → List Blk) (μ : Y → Nat) (x0 : Y) (l0 : List Nat) (hI : I x0)
    (h0 : Match l0 S (zipK ks (ch x0) ++ keepK S ks live) (bs x0))
    (round : ∀ x, I x → w_ P c body (thenQ (Next I (fun x => zipK ks (ch x) ++ keepK S ks live) bs μ x ⟨⟩) Q) ⟨⟩ (hd (zipK ks (ch x) ++ keepK S ks live) (bs x))) : lw_ P c body Q g S :=
  W.loop hm hp I (fun x => zipK ks (ch x) ++ keepK S ks live) bs μ x0 l0 hI h0 round
end Go.Abs
