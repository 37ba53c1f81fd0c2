/- The start that the laid variables ask. -/
import Derived.Test.YtkgomampbengjaaGreatDoorShpC
import Derived.Test.YtkgomampbengjaaGreatDoorRows
import Derived.Test.YtkgomampbengjaaGreatDoorCards
import Derived.Test.YtkgomampbengjaaGreatDoorTie
import Derived.WalkKit
import Derived.ProofKit
import Derived.OpenShut
import Derived.JoinedCond
import Derived.LaidMore
import Derived.Stop.Joined
import Derived.SevenTiedAt
import Derived.Stop.LaidErr
import Derived.Lib.LaidTab
import Derived.Lib.Space
set_option linter.unusedVariables false
namespace Go.Proofs.YtkgomampbengjaaGreatDoor
open Go.Abs Go.Gr

noncomputable def laid2 {H : Type} : List (String × DataW H) := [("unicode.White_Space", Rows.laid_unicode_White_Space), ("strings.asciiSpace", Rows.laid_strings_asciiSpace)]
noncomputable def doorW (os : Os) : World := World.doorLaid Tryz.prog 40 os
theorem door_met (os : Os) (args : Array Value) : laidMetH Tryz.prog laid2 ((doorW os).forCall (fun _ _ => 0) ⟨#[], args, []⟩).memory :=
  laidMetH_of_parts3 (fuel := 8) (laidMet_of_run' 8 (by kernel_rfl) (by kernel_rfl)) (by kernel_rfl) (by kernel_rfl)
def emptySl : Value := .slice none 0 0
def coArg : Value := .agg #[emptySl, emptySl, emptySl, emptySl, emptySl]
def tyArg : Value := .agg #[.int .i64 0, .string ⟨#[]⟩, emptySl, emptySl]
/-- the library's table of white space, as it is laid, stands among what stays -/
theorem spN_is : ∀ c, c < 256 → spN c = if Lib.isSp (UInt8.ofNat c) then 1 else 0 := by decide +kernel
set_option maxRecDepth 100000 in
theorem gnd_of (w : World) (h : laidMetH Tryz.prog laid2 w) : Gnd Tryz.prog fun B => w.heap[B]? := by
  have h1 : laidMet Tryz.prog laid2 w := by
    have e : ((laid2 (H := Unit)).filter fun x => x.2.handleName?.isSome) = [] := by kernel_rfl
    unfold laidMetH at h
    rw [e] at h
    exact h
  have h2 : laidMet Tryz.prog (("strings.asciiSpace", Lib.tabData .u8 Lib.asciiSpaceTab) :: []) w := laidMet.tail h1
  have h3 := Lib.tabIs_of_head (g := 1) (t := 167) (e := 5) (n := 256) (by kernel_rfl) (by kernel_rfl) (by kernel_rfl) (by kernel_rfl) (by kernel_rfl) (by kernel_rfl) h2
  intro g hg
  have hv := h3
  unfold Lib.TabIs World.var? at hv
  rw [hg] at hv
  simp only [Option.bind_some] at hv
  cases ho : w.heap[g]? with
  | none => rw [ho] at hv; cases hv
  | some o =>
    refine ⟨o, ho, fun w' hw' c hc => ?_⟩
    have h4 : Lib.TabIs Tryz.prog w' "strings.asciiSpace" .u8 Lib.asciiSpaceTab := by
      unfold Lib.TabIs World.var?
      rw [hg]
      simp only [Option.bind_some]
      rw [ho] at hv
      rw [hw']
      exact hv
    rw [h4.cell hg c (by rw [Lib.asciiSpaceTab_length]; exact hc), Lib.asciiSpaceTab_at c hc, spN_is c hc]
end Go.Proofs.YtkgomampbengjaaGreatDoor
