/- CoerceLabels, the claim: whatever coercions or types are handed in, the law answers true; the variables that are laid are tied to the program's text. -/
import Derived.Test.YtkgomampbengjaaGreatDoorClmT
import Derived.Test.YtkgomampbengjaaGreatDoorLw7
set_option linter.unusedVariables false
namespace Go.Proofs.YtkgomampbengjaaGreatDoor
open Go.Abs Go.Gr

set_option maxRecDepth 100000 in
theorem lawLifted (os : Os) (started : os.Started) (H : Type) (enc : TypeId × Value → H) :
    ReturnsInHanded {} Tryz.checked os 7 .any (fun w args => (Rows.coerceLabelsSpec.pre enc Tryz.prog Tryz.f7 [] false w args ∧ laidMetH Tryz.prog laid2 w) ∧ sizedMet enc Tryz.prog Tryz.f7 (OpenSpec.ofChange Rows.coerceLabelsSpec) false w args)
      (Rows.coerceLabelsSpec.post enc Tryz.prog Tryz.f7 false true false false) :=
  law_liftedX (C := Tryz.checked) (X := fun w => laidMetH Tryz.prog laid2 w) (fun _ _ hh h => h.of_heap hh) own started (by kernel_rfl) Tryz.func7 rfl typesOk (by kernel_rfl) (by kernel_rfl) Tryz.underlying4 laidOut
    (fun ds h => by match ds, h with | [a], _ => rfl)
    (ChangeSpec.witness_shaped (enc := enc) (C := Tryz.checked) (os := os) (X := fun w _ => laidMetH Tryz.prog laid2 w) false (doorW os) #[coArg] 8 rfl (World.shaped_of_RefB (by kernel_rfl) (by kernel_rfl)) (by kernel_rfl) (by kernel_rfl) (by kernel_rfl) (door_met os _))
    (fun dvs h => by obtain ⟨a, rfl⟩ := args1 h; exact CoerceLabels_ok a)

theorem CoerceLabels_said : Rows.CoerceLabelsSaid :=
  OpenClaim.holds_of_wide 7 Tryz.f7 rfl rfl rfl rfl rfl rfl rfl ⟨rfl, rfl, rfl, rfl, rfl⟩ rfl rfl rfl rfl rfl (by kernel_rfl) Tryz.func7 (by kernel_rfl)
    (of_decide_eq_true (by kernel_rfl)) (by unfold Func.isWrapper; first | (rw [if_pos (by decide +kernel)]; kernel_rfl) | (rw [if_neg (by decide +kernel)]; exact ⟨rfl, rfl⟩))
    (fun os started H enc _ => lawLifted os started H enc)

theorem CoerceLabels_holds : Rows.CoerceLabelsCardSaid :=
  Claim7.holds_tied_plain_at .later [] [.listed, .data] true (true, "2c7d377ceb51f772ba8a9cdde2cbb61531e6d835815c31c06833447809604f87") false
    CoerceLabels_said (fun _ h => by cases h) (by kernel_rfl) (fun _ h => by cases h) coerceLabels_row_tie rfl ⟨rfl, rfl⟩ (by kernel_rfl) rfl
    (fun f fn hf hfn => by
      obtain rfl : f = 7 := Option.some.inj ((show Tryz.prog.funcNamed Rows.coerceLabelsRow.func = some 7 by kernel_rfl).symm.trans hf) |>.symm
      obtain rfl : fn = Tryz.f7 := (Option.some.inj (Tryz.func7.symm.trans hfn)).symm
      exact ⟨by kernel_rfl, fun j t ht => by
        rw [Tryz.params7] at ht
        have hm : t ∈ [27] := by simpa using Array.mem_of_getElem? ht
        have hall : ([27].all fun u => !Tryz.prog.wantsStandIn u) = true := by kernel_rfl
        exact (show Tryz.prog.wantsStandIn t = false by simpa using List.all_eq_true.1 hall t hm)⟩)
    (by kernel_rfl)
#print axioms CoerceLabels_holds
end Go.Proofs.YtkgomampbengjaaGreatDoor
