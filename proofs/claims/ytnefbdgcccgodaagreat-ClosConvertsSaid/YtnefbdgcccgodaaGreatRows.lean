/-
  No cell of these rows narrows 'for every input' (looked for: loops, veiled, ifaces, maps, wideKeys, modest, calm, conditions, laid).
  DERIVED. THE GIVEN ROWS OF THIS SEAT. 3 by the template 'for every input the law returns true; each argument reads behind the call as it read before'; 0 by the template 'total and deterministic' (their statements: YtnefbdgcccgodaaGreatTotals.lean).
  GIVEN WITH THE SEED: the statements are not yours to turn. If you find one false, say at which input.
  Laid BY PROGRAM, IN A SANDBOX (cutbox-rows.mjs): the forced cells as the released guide's own fill.sh prints them over the translation f205012615db0971… (all of the seat's roots in one cut). By AI agents, Wed Nov 11 2026. No macro, syntax, notation, axiom, sorry.
-/
import Derived.Test.YtnefbdgcccgodaaGreatChecked
import GoSem.Claim
import GoSem.ClaimJoined
import GoSem.ClaimMapViews
import Derived.JoinedTies
import Derived.KernelRfl
namespace Go.Proofs.YtnefbdgcccgodaaGreat
/- THE CELL 'sum', in the pinned program and in every row, IS THE sha256 OF THE DUMP (.gsa) THAT YtnefbdgcccgodaaGreatProg.lean LOADS. Nothing in Lean hashes anything: it is a label: what it is worth is what the hold of that sum in a sandbox is worth. -/
noncomputable def Tryz.pinned : Pinned := { name := "ytnefbdgcccgodaagreat", sum := "f205012615db0971ac693edf90c97e0d1b15d65c354bb09de1c0dbfe0befd00e", checked := Tryz.checked }
namespace Rows
def none {H : Type} : Left H := { results := [], args := [] }

/-- 'graduslaw13.ClosConverts': WHATEVER THE INPUT: true; the input reads as it did. -/
def closConvertsSpec : ChangeSpec := { name := "closConverts", fn := fun _ => fun
  | [d1, d2] => { results := [.lit (.bool true)], args := [d1, d2] }
  | _ => none }
def closConvertsRow : OpenClaim := { program := "ytnefbdgcccgodaagreat", sum := "f205012615db0971ac693edf90c97e0d1b15d65c354bb09de1c0dbfe0befd00e", func := "gradus/graduslaw13.ClosConverts", spec := "closConverts", unfollowed := true, recurses := true, apart := false }
def ClosConvertsSaid : Prop := closConvertsRow.holds Tryz.pinned (OpenSpec.ofChange closConvertsSpec)

/-- ITS FALSE NEIGHBOUR: 'it returns false'. Refute it at one input. -/
def closConvertsWrong : ChangeSpec := { name := "closConverts", fn := fun _ => fun
  | [d1, d2] => { results := [.lit (.bool false)], args := [d1, d2] }
  | _ => none }
def ClosConvertsWrongFalsely : Prop := closConvertsRow.holds Tryz.pinned (OpenSpec.ofChange closConvertsWrong)

/-- 'graduslaw13.ClosSound': WHATEVER THE INPUT: true; the input reads as it did. -/
def closSoundSpec : ChangeSpec := { name := "closSound", fn := fun _ => fun
  | [d] => { results := [.lit (.bool true)], args := [d] }
  | _ => none }
def closSoundRow : OpenClaim := { program := "ytnefbdgcccgodaagreat", sum := "f205012615db0971ac693edf90c97e0d1b15d65c354bb09de1c0dbfe0befd00e", func := "gradus/graduslaw13.ClosSound", spec := "closSound", unfollowed := true, recurses := true, apart := false }
def ClosSoundSaid : Prop := closSoundRow.holds Tryz.pinned (OpenSpec.ofChange closSoundSpec)

/-- ITS FALSE NEIGHBOUR: 'it returns false'. Refute it at one input. -/
def closSoundWrong : ChangeSpec := { name := "closSound", fn := fun _ => fun
  | [d] => { results := [.lit (.bool false)], args := [d] }
  | _ => none }
def ClosSoundWrongFalsely : Prop := closSoundRow.holds Tryz.pinned (OpenSpec.ofChange closSoundWrong)

/-- 'graduslaw13.ClosCounts': WHATEVER THE INPUT: true; the input reads as it did. -/
def closCountsSpec : ChangeSpec := { name := "closCounts", fn := fun _ => fun
  | [d] => { results := [.lit (.bool true)], args := [d] }
  | _ => none }
def closCountsRow : OpenClaim := { program := "ytnefbdgcccgodaagreat", sum := "f205012615db0971ac693edf90c97e0d1b15d65c354bb09de1c0dbfe0befd00e", func := "gradus/graduslaw13.ClosCounts", spec := "closCounts", unfollowed := true, recurses := true, apart := false }
def ClosCountsSaid : Prop := closCountsRow.holds Tryz.pinned (OpenSpec.ofChange closCountsSpec)

/-- ITS FALSE NEIGHBOUR: 'it returns false'. Refute it at one input. -/
def closCountsWrong : ChangeSpec := { name := "closCounts", fn := fun _ => fun
  | [d] => { results := [.lit (.bool false)], args := [d] }
  | _ => none }
def ClosCountsWrongFalsely : Prop := closCountsRow.holds Tryz.pinned (OpenSpec.ofChange closCountsWrong)

/- THE SECOND FORM. 'bulk': how many values and letters a reading holds, each counted each time it is reached (what is shared counts as often as it is met; a slice's spare places count too). A statement '..UptoSaid' is the law's where the arguments, and the package variables that the reading takes, are together of bulk at most 1048576: NARROWER than '..Said'. Prove '..Said' where nothing that the law and all that it calls make is longer than what came in: it says more and counts as full. Else prove '..UptoSaid'. A law counts once. -/
mutual
def uptoBulk {H : Type} : DataW H → Nat
  | .lit (.string bytes) => bytes.length + 1
  | .lit _ => 1
  | .nil => 1
  | .ptr d => uptoBulk d + 1
  | .slice elems spare => uptoBulkAll elems + uptoBulkAll spare + 1
  | .agg parts => uptoBulkAll parts + 1
  | .iface _ d => uptoBulk d + 1
  | .map entries => uptoBulkEntries entries + 1
  | .held _ => 1
def uptoBulkAll {H : Type} : List (DataW H) → Nat
  | [] => 0
  | d :: r => uptoBulk d + uptoBulkAll r
def uptoBulkEntries {H : Type} : List (Lit × DataW H) → Nat
  | [] => 0
  | x :: r => uptoBulkEntry x + uptoBulkEntries r
def uptoBulkEntry {H : Type} : Lit × DataW H → Nat
  | (.string bytes, d) => bytes.length + uptoBulk d + 1
  | (_, d) => uptoBulk d + 1
 end
def uptoSmall : (H : Type) → List (DataW H) → Bool := fun _ ds => decide (uptoBulkAll ds ≤ 1048576)
def OpenSpec.upto (s : _root_.Go.ChangeSpec) : _root_.Go.OpenSpec := { _root_.Go.OpenSpec.ofChange s with cond := some uptoSmall }

/-- 'graduslaw13.ClosConverts', WHERE WHAT IT READS IS OF BULK AT MOST 1048576: true; the input reads as it did. -/
def closConvertsUptoRow : OpenClaim := { program := "ytnefbdgcccgodaagreat", sum := "f205012615db0971ac693edf90c97e0d1b15d65c354bb09de1c0dbfe0befd00e", func := "gradus/graduslaw13.ClosConverts", spec := "closConverts", unfollowed := true, recurses := true, apart := false, narrowed := true }
def ClosConvertsUptoSaid : Prop := closConvertsUptoRow.holds Tryz.pinned (OpenSpec.upto closConvertsSpec)

/-- 'graduslaw13.ClosSound', WHERE WHAT IT READS IS OF BULK AT MOST 1048576: true; the input reads as it did. -/
def closSoundUptoRow : OpenClaim := { program := "ytnefbdgcccgodaagreat", sum := "f205012615db0971ac693edf90c97e0d1b15d65c354bb09de1c0dbfe0befd00e", func := "gradus/graduslaw13.ClosSound", spec := "closSound", unfollowed := true, recurses := true, apart := false, narrowed := true }
def ClosSoundUptoSaid : Prop := closSoundUptoRow.holds Tryz.pinned (OpenSpec.upto closSoundSpec)

/-- 'graduslaw13.ClosCounts', WHERE WHAT IT READS IS OF BULK AT MOST 1048576: true; the input reads as it did. -/
def closCountsUptoRow : OpenClaim := { program := "ytnefbdgcccgodaagreat", sum := "f205012615db0971ac693edf90c97e0d1b15d65c354bb09de1c0dbfe0befd00e", func := "gradus/graduslaw13.ClosCounts", spec := "closCounts", unfollowed := true, recurses := true, apart := false, narrowed := true }
def ClosCountsUptoSaid : Prop := closCountsUptoRow.holds Tryz.pinned (OpenSpec.upto closCountsSpec)

end Rows
end Go.Proofs.YtnefbdgcccgodaaGreat
