/-
  DERIVED. GIVEN WITH THE SEED: THE CARDS: each row of YtnbgmeamdkggeaaGreatDoorRows.lean that lists a variable, with what it lists TIED to the program's text (the seventh form; the later family's looks); each row that meets fmt, with fmt's text TOLD by the authors' own Lean function (tested against real Go, not proved from fmt's source: count such statements apart). THE CARD IS WHAT COUNTS. Prove the row's statement (the work); the ties are given (YtnbgmeamdkggeaaGreatDoorTie.lean); close each card by the builder's one call (the guide's Derived/Test/ToyasCard.lean, 'card_holds'). Laid BY PROGRAM, IN A SANDBOX (cutbox-door.mjs). By AI agents, Wed Nov 11 2026. No macro, syntax, notation, axiom, sorry.
-/
import Derived.Test.YtnbgmeamdkggeaaGreatDoorRows
import GoSem.ClaimSeven
namespace Go.Proofs.YtnbgmeamdkggeaaGreatDoor
namespace Rows

/-- THE TIED CARD OF 'graduslaw11.RunStatic'. -/
def runStaticCard : Claim7 := { stood := { row := runStaticRow, standIns := [], harness := (true, "9d602ed332662bc4f128ff567d5eca8c65cb21396eec2e6bc607bd6f4117fdf1"), looks := true }, kinds := [], alts := [], laidByText := true, laidKinds := [.data, .data, .data, .listed, .data], laidTests := true, laidLooks := .later }
def RunStaticCardSaid : Prop := Claim7.holds Tryz.pinned (.plain (OpenSpec.ofChange runStaticSpec)) runStaticCard

/-- THE SECOND FORM's CARD OF 'graduslaw11.RunStatic'. -/
def runStaticUptoCard : Claim7 := { stood := { row := runStaticUptoRow, standIns := [], harness := (true, "9d602ed332662bc4f128ff567d5eca8c65cb21396eec2e6bc607bd6f4117fdf1"), looks := true }, kinds := [], alts := [], laidByText := true, laidKinds := [.data, .data, .data, .listed, .data], laidTests := true, laidLooks := .later }
def RunStaticUptoCardSaid : Prop := Claim7.holds Tryz.pinned (.plain (OpenSpec.upto runStaticSpec)) runStaticUptoCard
end Rows
end Go.Proofs.YtnbgmeamdkggeaaGreatDoor
