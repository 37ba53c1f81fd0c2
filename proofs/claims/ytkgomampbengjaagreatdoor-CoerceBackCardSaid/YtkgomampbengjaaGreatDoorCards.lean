/-
  DERIVED. GIVEN WITH THE SEED: THE CARDS: each row of YtkgomampbengjaaGreatDoorRows.lean that lists a variable, with what it lists TIED to the program's text (the seventh form; the later family's looks); each row that meets fmt, with fmt's text TOLD by the authors' own Lean function (tested against real Go, not proved from fmt's source: count such statements apart). THE CARD IS WHAT COUNTS. Prove the row's statement (the work); the ties are given (YtkgomampbengjaaGreatDoorTie.lean); close each card by the builder's one call (the guide's Derived/Test/ToyasCard.lean, 'card_holds'). Laid BY PROGRAM, IN A SANDBOX (cutbox-door.mjs). By AI agents, Wed Nov 11 2026. No macro, syntax, notation, axiom, sorry.
-/
import Derived.Test.YtkgomampbengjaaGreatDoorRows
import GoSem.ClaimSeven
namespace Go.Proofs.YtkgomampbengjaaGreatDoor
namespace Rows

/-- THE TIED CARD OF 'graduslaw10.CoerceMays'. -/
def coerceMaysCard : Claim7 := { stood := { row := coerceMaysRow, standIns := [], harness := (true, "2c7d377ceb51f772ba8a9cdde2cbb61531e6d835815c31c06833447809604f87"), looks := false }, kinds := [], alts := [], laidByText := true, laidKinds := [.listed, .data], laidTests := true, laidLooks := .later }
def CoerceMaysCardSaid : Prop := Claim7.holds Tryz.pinned (.plain (OpenSpec.ofChange coerceMaysSpec)) coerceMaysCard

/-- THE TIED CARD OF 'graduslaw10.CoerceComposes'. -/
def coerceComposesCard : Claim7 := { stood := { row := coerceComposesRow, standIns := [], harness := (true, "2c7d377ceb51f772ba8a9cdde2cbb61531e6d835815c31c06833447809604f87"), looks := false }, kinds := [], alts := [], laidByText := true, laidKinds := [.listed, .data], laidTests := true, laidLooks := .later }
def CoerceComposesCardSaid : Prop := Claim7.holds Tryz.pinned (.plain (OpenSpec.ofChange coerceComposesSpec)) coerceComposesCard

/-- THE TIED CARD OF 'graduslaw10.CoerceUnits'. -/
def coerceUnitsCard : Claim7 := { stood := { row := coerceUnitsRow, standIns := [], harness := (true, "2c7d377ceb51f772ba8a9cdde2cbb61531e6d835815c31c06833447809604f87"), looks := false }, kinds := [], alts := [], laidByText := true, laidKinds := [.listed, .data], laidTests := true, laidLooks := .later }
def CoerceUnitsCardSaid : Prop := Claim7.holds Tryz.pinned (.plain (OpenSpec.ofChange coerceUnitsSpec)) coerceUnitsCard

/-- THE TIED CARD OF 'graduslaw10.CoerceTwice'. -/
def coerceTwiceCard : Claim7 := { stood := { row := coerceTwiceRow, standIns := [], harness := (true, "2c7d377ceb51f772ba8a9cdde2cbb61531e6d835815c31c06833447809604f87"), looks := false }, kinds := [], alts := [], laidByText := true, laidKinds := [.listed, .data], laidTests := true, laidLooks := .later }
def CoerceTwiceCardSaid : Prop := Claim7.holds Tryz.pinned (.plain (OpenSpec.ofChange coerceTwiceSpec)) coerceTwiceCard

/-- THE TIED CARD OF 'graduslaw10.CoerceLabels'. -/
def coerceLabelsCard : Claim7 := { stood := { row := coerceLabelsRow, standIns := [], harness := (true, "2c7d377ceb51f772ba8a9cdde2cbb61531e6d835815c31c06833447809604f87"), looks := false }, kinds := [], alts := [], laidByText := true, laidKinds := [.listed, .data], laidTests := true, laidLooks := .later }
def CoerceLabelsCardSaid : Prop := Claim7.holds Tryz.pinned (.plain (OpenSpec.ofChange coerceLabelsSpec)) coerceLabelsCard

/-- THE TIED CARD OF 'graduslaw10.CoerceSizes'. -/
def coerceSizesCard : Claim7 := { stood := { row := coerceSizesRow, standIns := [], harness := (true, "2c7d377ceb51f772ba8a9cdde2cbb61531e6d835815c31c06833447809604f87"), looks := false }, kinds := [], alts := [], laidByText := true, laidKinds := [.listed, .data], laidTests := true, laidLooks := .later }
def CoerceSizesCardSaid : Prop := Claim7.holds Tryz.pinned (.plain (OpenSpec.ofChange coerceSizesSpec)) coerceSizesCard

/-- THE TIED CARD OF 'graduslaw10.CoerceBack'. -/
def coerceBackCard : Claim7 := { stood := { row := coerceBackRow, standIns := [], harness := (true, "2c7d377ceb51f772ba8a9cdde2cbb61531e6d835815c31c06833447809604f87"), looks := false }, kinds := [], alts := [], laidByText := true, laidKinds := [.listed, .data], laidTests := true, laidLooks := .later }
def CoerceBackCardSaid : Prop := Claim7.holds Tryz.pinned (.plain (OpenSpec.ofChange coerceBackSpec)) coerceBackCard

/-- THE TIED CARD OF 'graduslaw10.CoerceBlames'. -/
def coerceBlamesCard : Claim7 := { stood := { row := coerceBlamesRow, standIns := [], harness := (true, "2c7d377ceb51f772ba8a9cdde2cbb61531e6d835815c31c06833447809604f87"), looks := false }, kinds := [], alts := [], laidByText := true, laidKinds := [.listed, .data], laidTests := true, laidLooks := .later }
def CoerceBlamesCardSaid : Prop := Claim7.holds Tryz.pinned (.plain (OpenSpec.ofChange coerceBlamesSpec)) coerceBlamesCard

/-- THE SECOND FORM's CARD OF 'graduslaw10.CoerceMays'. -/
def coerceMaysUptoCard : Claim7 := { stood := { row := coerceMaysUptoRow, standIns := [], harness := (true, "2c7d377ceb51f772ba8a9cdde2cbb61531e6d835815c31c06833447809604f87"), looks := false }, kinds := [], alts := [], laidByText := true, laidKinds := [.listed, .data], laidTests := true, laidLooks := .later }
def CoerceMaysUptoCardSaid : Prop := Claim7.holds Tryz.pinned (.plain (OpenSpec.upto coerceMaysSpec)) coerceMaysUptoCard

/-- THE SECOND FORM's CARD OF 'graduslaw10.CoerceComposes'. -/
def coerceComposesUptoCard : Claim7 := { stood := { row := coerceComposesUptoRow, standIns := [], harness := (true, "2c7d377ceb51f772ba8a9cdde2cbb61531e6d835815c31c06833447809604f87"), looks := false }, kinds := [], alts := [], laidByText := true, laidKinds := [.listed, .data], laidTests := true, laidLooks := .later }
def CoerceComposesUptoCardSaid : Prop := Claim7.holds Tryz.pinned (.plain (OpenSpec.upto coerceComposesSpec)) coerceComposesUptoCard

/-- THE SECOND FORM's CARD OF 'graduslaw10.CoerceUnits'. -/
def coerceUnitsUptoCard : Claim7 := { stood := { row := coerceUnitsUptoRow, standIns := [], harness := (true, "2c7d377ceb51f772ba8a9cdde2cbb61531e6d835815c31c06833447809604f87"), looks := false }, kinds := [], alts := [], laidByText := true, laidKinds := [.listed, .data], laidTests := true, laidLooks := .later }
def CoerceUnitsUptoCardSaid : Prop := Claim7.holds Tryz.pinned (.plain (OpenSpec.upto coerceUnitsSpec)) coerceUnitsUptoCard

/-- THE SECOND FORM's CARD OF 'graduslaw10.CoerceTwice'. -/
def coerceTwiceUptoCard : Claim7 := { stood := { row := coerceTwiceUptoRow, standIns := [], harness := (true, "2c7d377ceb51f772ba8a9cdde2cbb61531e6d835815c31c06833447809604f87"), looks := false }, kinds := [], alts := [], laidByText := true, laidKinds := [.listed, .data], laidTests := true, laidLooks := .later }
def CoerceTwiceUptoCardSaid : Prop := Claim7.holds Tryz.pinned (.plain (OpenSpec.upto coerceTwiceSpec)) coerceTwiceUptoCard

/-- THE SECOND FORM's CARD OF 'graduslaw10.CoerceLabels'. -/
def coerceLabelsUptoCard : Claim7 := { stood := { row := coerceLabelsUptoRow, standIns := [], harness := (true, "2c7d377ceb51f772ba8a9cdde2cbb61531e6d835815c31c06833447809604f87"), looks := false }, kinds := [], alts := [], laidByText := true, laidKinds := [.listed, .data], laidTests := true, laidLooks := .later }
def CoerceLabelsUptoCardSaid : Prop := Claim7.holds Tryz.pinned (.plain (OpenSpec.upto coerceLabelsSpec)) coerceLabelsUptoCard

/-- THE SECOND FORM's CARD OF 'graduslaw10.CoerceSizes'. -/
def coerceSizesUptoCard : Claim7 := { stood := { row := coerceSizesUptoRow, standIns := [], harness := (true, "2c7d377ceb51f772ba8a9cdde2cbb61531e6d835815c31c06833447809604f87"), looks := false }, kinds := [], alts := [], laidByText := true, laidKinds := [.listed, .data], laidTests := true, laidLooks := .later }
def CoerceSizesUptoCardSaid : Prop := Claim7.holds Tryz.pinned (.plain (OpenSpec.upto coerceSizesSpec)) coerceSizesUptoCard

/-- THE SECOND FORM's CARD OF 'graduslaw10.CoerceBack'. -/
def coerceBackUptoCard : Claim7 := { stood := { row := coerceBackUptoRow, standIns := [], harness := (true, "2c7d377ceb51f772ba8a9cdde2cbb61531e6d835815c31c06833447809604f87"), looks := false }, kinds := [], alts := [], laidByText := true, laidKinds := [.listed, .data], laidTests := true, laidLooks := .later }
def CoerceBackUptoCardSaid : Prop := Claim7.holds Tryz.pinned (.plain (OpenSpec.upto coerceBackSpec)) coerceBackUptoCard

/-- THE SECOND FORM's CARD OF 'graduslaw10.CoerceBlames'. -/
def coerceBlamesUptoCard : Claim7 := { stood := { row := coerceBlamesUptoRow, standIns := [], harness := (true, "2c7d377ceb51f772ba8a9cdde2cbb61531e6d835815c31c06833447809604f87"), looks := false }, kinds := [], alts := [], laidByText := true, laidKinds := [.listed, .data], laidTests := true, laidLooks := .later }
def CoerceBlamesUptoCardSaid : Prop := Claim7.holds Tryz.pinned (.plain (OpenSpec.upto coerceBlamesSpec)) coerceBlamesUptoCard
end Rows
end Go.Proofs.YtkgomampbengjaaGreatDoor
