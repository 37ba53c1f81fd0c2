/- The start that the laid variables ask. -/
import Derived.Test.YtkgomampbengjaaGreatDoorShpC
import Derived.Test.YtkgomampbengjaaGreatDoorRows
import Derived.Test.YtkgomampbengjaaGreatDoorCards
import Derived.Test.YtkgomampbengjaaGreatDoorTie
import Derived.WalkKit
import Derived.ProofKit
import Derived.OpenShut
import Derived.JoinedCond
import Derived.LaidMore
import Derived.Stop.Joined
import Derived.SevenTiedAt
set_option linter.unusedVariables false
namespace Go.Proofs.YtkgomampbengjaaGreatDoor
open Go.Abs Go.Gr

noncomputable def laid2 {H : Type} : List (String × DataW H) := [("unicode.White_Space", Rows.laid_unicode_White_Space), ("strings.asciiSpace", Rows.laid_strings_asciiSpace)]
noncomputable def doorW (os : Os) : World := World.doorLaid Tryz.prog 40 os
theorem door_met (os : Os) (args : Array Value) : laidMetH Tryz.prog laid2 ((doorW os).forCall (fun _ _ => 0) ⟨#[], args, []⟩).memory :=
  laidMetH_of_parts3 (fuel := 8) (laidMet_of_run' 8 (by kernel_rfl) (by kernel_rfl)) (by kernel_rfl) (by kernel_rfl)
def emptySl : Value := .slice none 0 0
def coArg : Value := .agg #[emptySl, emptySl, emptySl, emptySl, emptySl]
def tyArg : Value := .agg #[.int .i64 0, .string ⟨#[]⟩, emptySl, emptySl]
end Go.Proofs.YtkgomampbengjaaGreatDoor
