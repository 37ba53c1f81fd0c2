/-
  DERIVED. GIVEN WITH THE SEED: THE CARDS: each row of YtlfjlokfciejnaaGreatDoorRows.lean that lists a variable, with what it lists TIED to the program's text (the seventh form; the later family's looks); each row that meets fmt, with fmt's text TOLD by the authors' own Lean function (tested against real Go, not proved from fmt's source: count such statements apart). THE CARD IS WHAT COUNTS. Prove the row's statement (the work); the ties are given (YtlfjlokfciejnaaGreatDoorTie.lean); close each card by the builder's one call (the guide's Derived/Test/ToyasCard.lean, 'card_holds'). Laid BY PROGRAM, IN A SANDBOX (cutbox-door.mjs). By AI agents, Wed Nov 11 2026. No macro, syntax, notation, axiom, sorry.
-/
import Derived.Test.YtlfjlokfciejnaaGreatDoorRows
import GoSem.ClaimSeven
namespace Go.Proofs.YtlfjlokfciejnaaGreatDoor
namespace Rows

/-- THE TIED CARD OF 'graduslaw12.NormCores'. -/
def normCoresCard : Claim7 := { stood := { row := normCoresRow, standIns := [], harness := (true, "12817a8448b0d757ad6a0cf65a7e0115386a4168a77432873733912c986aab44"), looks := false }, kinds := [], alts := [], laidByText := true, laidKinds := [.listed, .data], laidTests := true, laidLooks := .later }
def NormCoresCardSaid : Prop := Claim7.holds Tryz.pinned (.plain (OpenSpec.ofChange normCoresSpec)) normCoresCard

/-- THE TIED CARD OF 'graduslaw12.NormFewer'. -/
def normFewerCard : Claim7 := { stood := { row := normFewerRow, standIns := [], harness := (true, "12817a8448b0d757ad6a0cf65a7e0115386a4168a77432873733912c986aab44"), looks := false }, kinds := [], alts := [], laidByText := true, laidKinds := [.listed, .data], laidTests := true, laidLooks := .later }
def NormFewerCardSaid : Prop := Claim7.holds Tryz.pinned (.plain (OpenSpec.ofChange normFewerSpec)) normFewerCard

/-- THE TIED CARD OF 'graduslaw12.NormTwice'. -/
def normTwiceCard : Claim7 := { stood := { row := normTwiceRow, standIns := [], harness := (true, "12817a8448b0d757ad6a0cf65a7e0115386a4168a77432873733912c986aab44"), looks := false }, kinds := [], alts := [], laidByText := true, laidKinds := [.listed, .data], laidTests := true, laidLooks := .later }
def NormTwiceCardSaid : Prop := Claim7.holds Tryz.pinned (.plain (OpenSpec.ofChange normTwiceSpec)) normTwiceCard

/-- THE TIED CARD OF 'graduslaw12.NormLabels'. -/
def normLabelsCard : Claim7 := { stood := { row := normLabelsRow, standIns := [], harness := (true, "12817a8448b0d757ad6a0cf65a7e0115386a4168a77432873733912c986aab44"), looks := false }, kinds := [], alts := [], laidByText := true, laidKinds := [.listed, .data], laidTests := true, laidLooks := .later }
def NormLabelsCardSaid : Prop := Claim7.holds Tryz.pinned (.plain (OpenSpec.ofChange normLabelsSpec)) normLabelsCard

/-- THE SECOND FORM's CARD OF 'graduslaw12.NormCores'. -/
def normCoresUptoCard : Claim7 := { stood := { row := normCoresUptoRow, standIns := [], harness := (true, "12817a8448b0d757ad6a0cf65a7e0115386a4168a77432873733912c986aab44"), looks := false }, kinds := [], alts := [], laidByText := true, laidKinds := [.listed, .data], laidTests := true, laidLooks := .later }
def NormCoresUptoCardSaid : Prop := Claim7.holds Tryz.pinned (.plain (OpenSpec.upto normCoresSpec)) normCoresUptoCard

/-- THE SECOND FORM's CARD OF 'graduslaw12.NormFewer'. -/
def normFewerUptoCard : Claim7 := { stood := { row := normFewerUptoRow, standIns := [], harness := (true, "12817a8448b0d757ad6a0cf65a7e0115386a4168a77432873733912c986aab44"), looks := false }, kinds := [], alts := [], laidByText := true, laidKinds := [.listed, .data], laidTests := true, laidLooks := .later }
def NormFewerUptoCardSaid : Prop := Claim7.holds Tryz.pinned (.plain (OpenSpec.upto normFewerSpec)) normFewerUptoCard

/-- THE SECOND FORM's CARD OF 'graduslaw12.NormTwice'. -/
def normTwiceUptoCard : Claim7 := { stood := { row := normTwiceUptoRow, standIns := [], harness := (true, "12817a8448b0d757ad6a0cf65a7e0115386a4168a77432873733912c986aab44"), looks := false }, kinds := [], alts := [], laidByText := true, laidKinds := [.listed, .data], laidTests := true, laidLooks := .later }
def NormTwiceUptoCardSaid : Prop := Claim7.holds Tryz.pinned (.plain (OpenSpec.upto normTwiceSpec)) normTwiceUptoCard

/-- THE SECOND FORM's CARD OF 'graduslaw12.NormLabels'. -/
def normLabelsUptoCard : Claim7 := { stood := { row := normLabelsUptoRow, standIns := [], harness := (true, "12817a8448b0d757ad6a0cf65a7e0115386a4168a77432873733912c986aab44"), looks := false }, kinds := [], alts := [], laidByText := true, laidKinds := [.listed, .data], laidTests := true, laidLooks := .later }
def NormLabelsUptoCardSaid : Prop := Claim7.holds Tryz.pinned (.plain (OpenSpec.upto normLabelsSpec)) normLabelsUptoCard
end Rows
end Go.Proofs.YtlfjlokfciejnaaGreatDoor
