/- CoerceSizes, the claim: whatever coercions or types are handed in, the law answers true; the variables that are laid are tied to the program's text. -/
import Derived.Test.YtkgomampbengjaaGreatDoorClmT
import Derived.Test.YtkgomampbengjaaGreatDoorLw7
set_option linter.unusedVariables false
namespace Go.Proofs.YtkgomampbengjaaGreatDoor
open Go.Abs Go.Gr

set_option maxRecDepth 100000 in
theorem lawLifted (os : Os) (started : os.Started) (H : Type) (enc : TypeId × Value → H) :
    ReturnsInHanded {} Tryz.checked os 8 .any (fun w args => (Rows.coerceSizesSpec.pre enc Tryz.prog Tryz.f8 [] false w args ∧ laidMetH Tryz.prog laid2 w) ∧ sizedMet enc Tryz.prog Tryz.f8 (OpenSpec.ofChange Rows.coerceSizesSpec) false w args)
      (Rows.coerceSizesSpec.post enc Tryz.prog Tryz.f8 false true false false) :=
  law_liftedX (C := Tryz.checked) (X := fun w => laidMetH Tryz.prog laid2 w) (fun _ _ hh h => h.of_heap hh) own started (by kernel_rfl) Tryz.func8 rfl typesOk (by kernel_rfl) (by kernel_rfl) Tryz.underlying4 laidOut
    (fun ds h => by match ds, h with | [a, b], _ => rfl)
    (ChangeSpec.witness_shaped (enc := enc) (C := Tryz.checked) (os := os) (X := fun w _ => laidMetH Tryz.prog laid2 w) false (doorW os) #[coArg, coArg] 8 rfl (World.shaped_of_RefB (by kernel_rfl) (by kernel_rfl)) (by kernel_rfl) (by kernel_rfl) (by kernel_rfl) (door_met os _))
    (fun dvs h => by obtain ⟨a, b, rfl⟩ := args2 h; exact CoerceSizes_ok a b)

theorem CoerceSizes_said : Rows.CoerceSizesSaid :=
  OpenClaim.holds_of_wide 8 Tryz.f8 rfl rfl rfl rfl rfl rfl rfl ⟨rfl, rfl, rfl, rfl, rfl⟩ rfl rfl rfl rfl rfl (by kernel_rfl) Tryz.func8 (by kernel_rfl)
    (of_decide_eq_true (by kernel_rfl)) (by unfold Func.isWrapper; first | (rw [if_pos (by decide +kernel)]; kernel_rfl) | (rw [if_neg (by decide +kernel)]; exact ⟨rfl, rfl⟩))
    (fun os started H enc _ => lawLifted os started H enc)

theorem CoerceSizes_holds : Rows.CoerceSizesCardSaid :=
  Claim7.holds_tied_plain_at .later [] [.listed, .data] true (true, "2c7d377ceb51f772ba8a9cdde2cbb61531e6d835815c31c06833447809604f87") false
    CoerceSizes_said (fun _ h => by cases h) (by kernel_rfl) (fun _ h => by cases h) coerceSizes_row_tie rfl ⟨rfl, rfl⟩ (by kernel_rfl) rfl
    (fun f fn hf hfn => by
      obtain rfl : f = 8 := Option.some.inj ((show Tryz.prog.funcNamed Rows.coerceSizesRow.func = some 8 by kernel_rfl).symm.trans hf) |>.symm
      obtain rfl : fn = Tryz.f8 := (Option.some.inj (Tryz.func8.symm.trans hfn)).symm
      exact ⟨by kernel_rfl, fun j t ht => by
        rw [Tryz.params8] at ht
        have hm : t ∈ [27] := by simpa using Array.mem_of_getElem? ht
        have hall : ([27].all fun u => !Tryz.prog.wantsStandIn u) = true := by kernel_rfl
        exact (show Tryz.prog.wantsStandIn t = false by simpa using List.all_eq_true.1 hall t hm)⟩)
    (by kernel_rfl)
#print axioms CoerceSizes_holds
end Go.Proofs.YtkgomampbengjaaGreatDoor
