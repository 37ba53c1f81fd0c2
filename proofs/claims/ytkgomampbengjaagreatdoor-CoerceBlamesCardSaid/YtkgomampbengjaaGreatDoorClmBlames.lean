/- CoerceBlames, the claim: whatever coercions or types are handed in, the law answers true; the variables that are laid are tied to the program's text. -/
import Derived.Test.YtkgomampbengjaaGreatDoorClmT
import Derived.Test.YtkgomampbengjaaGreatDoorCoF
set_option linter.unusedVariables false
namespace Go.Proofs.YtkgomampbengjaaGreatDoor
open Go.Abs Go.Gr

set_option maxRecDepth 100000 in
theorem lawLifted (os : Os) (started : os.Started) (H : Type) (enc : TypeId × Value → H) :
    ReturnsInHanded {} Tryz.checked os 10 .any (fun w args => (Rows.coerceBlamesSpec.pre enc Tryz.prog Tryz.f10 [] false w args ∧ laidMetH Tryz.prog laid2 w) ∧ sizedMet enc Tryz.prog Tryz.f10 (OpenSpec.ofChange Rows.coerceBlamesSpec) false w args)
      (Rows.coerceBlamesSpec.post enc Tryz.prog Tryz.f10 false true false false) :=
  law_liftedX (C := Tryz.checked) (X := fun w => laidMetH Tryz.prog laid2 w) (fun _ _ hh h => h.of_heap hh) gnd_of own started (by kernel_rfl) Tryz.func10 rfl typesOk (by kernel_rfl) (by kernel_rfl) Tryz.underlying4 laidOut
    (fun ds h => by match ds, h with | [a, b, c], _ => rfl)
    (ChangeSpec.witness_shaped (enc := enc) (C := Tryz.checked) (os := os) (X := fun w _ => laidMetH Tryz.prog laid2 w) false (doorW os) #[tyArg, tyArg, .int .i64 0] 8 rfl (World.shaped_of_RefB (by kernel_rfl) (by kernel_rfl)) (by kernel_rfl) (by kernel_rfl) (by kernel_rfl) (door_met os _))
    (fun dvs h => by obtain ⟨a, b, i, rfl⟩ := argsTTI h; exact CoerceBlames_ok a b i)

theorem CoerceBlames_said : Rows.CoerceBlamesSaid :=
  OpenClaim.holds_of_wide 10 Tryz.f10 rfl rfl rfl rfl rfl rfl rfl ⟨rfl, rfl, rfl, rfl, rfl⟩ rfl rfl rfl rfl rfl (by kernel_rfl) Tryz.func10 (by kernel_rfl)
    (of_decide_eq_true (by kernel_rfl)) (by unfold Func.isWrapper; first | (rw [if_pos (by decide +kernel)]; kernel_rfl) | (rw [if_neg (by decide +kernel)]; exact ⟨rfl, rfl⟩))
    (fun os started H enc _ => lawLifted os started H enc)

theorem CoerceBlames_holds : Rows.CoerceBlamesCardSaid :=
  Claim7.holds_tied_plain_at .later [] [.listed, .data] true (true, "2c7d377ceb51f772ba8a9cdde2cbb61531e6d835815c31c06833447809604f87") false
    CoerceBlames_said (fun _ h => by cases h) (by kernel_rfl) (fun _ h => by cases h) coerceBlames_row_tie rfl ⟨rfl, rfl⟩ (by kernel_rfl) rfl
    (fun f fn hf hfn => by
      obtain rfl : f = 10 := Option.some.inj ((show Tryz.prog.funcNamed Rows.coerceBlamesRow.func = some 10 by kernel_rfl).symm.trans hf) |>.symm
      obtain rfl : fn = Tryz.f10 := (Option.some.inj (Tryz.func10.symm.trans hfn)).symm
      exact ⟨by kernel_rfl, fun j t ht => by
        rw [Tryz.params10] at ht
        have hm : t ∈ [40, 40, 3] := by simpa using Array.mem_of_getElem? ht
        have hall : ([40, 40, 3].all fun u => !Tryz.prog.wantsStandIn u) = true := by kernel_rfl
        exact (show Tryz.prog.wantsStandIn t = false by simpa using List.all_eq_true.1 hall t hm)⟩)
    (by kernel_rfl)
#print axioms CoerceBlames_holds
end Go.Proofs.YtkgomampbengjaaGreatDoor
