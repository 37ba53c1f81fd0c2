/- The claim. -/
import Derived.Test.YtlfjlokfciejnaaGreatDoorLJ25
/- NormLabels, the claim: whatever sources are handed in, the law answers true; the variables that are laid are tied to the program's text. -/
set_option linter.unusedVariables false
namespace Go.Proofs.YtlfjlokfciejnaaGreatDoor
open Go.Abs Go.Gr

set_option maxRecDepth 100000 in
theorem lawLifted(os:Os)(started:os.Started)(H:Type)(enc:TypeId × Value→H):
    ReturnsInHanded {} Tryz.checked os 6 .any (fun w args=>(Rows.normLabelsSpec.pre enc Tryz.prog Tryz.f6 [] false w args∧laidMetH Tryz.prog laid2 w)∧sizedMet enc Tryz.prog Tryz.f6 (OpenSpec.ofChange Rows.normLabelsSpec) false w args)
      (Rows.normLabelsSpec.post enc Tryz.prog Tryz.f6 false true false false):=
  law_liftedX (C:=Tryz.checked) (X:=fun w=>laidMetH Tryz.prog laid2 w) (fun _ _ hh h=>h.of_heap hh) gnd_of own started (by kernel_rfl) Tryz.func6 rfl typesOk (by kernel_rfl) (by kernel_rfl) Tryz.underlying4 laidOut
    (fun ds h=>by match ds,h with|[a],_=>rfl)
    (ChangeSpec.witness_shaped (enc:=enc) (C:=Tryz.checked) (os:=os) (X:=fun w _=>laidMetH Tryz.prog laid2 w) false (doorW os) #[emptySl] 8 rfl (World.shaped_of_RefB (by kernel_rfl) (by kernel_rfl)) (by kernel_rfl) (by kernel_rfl) (by kernel_rfl) (door_met os _))
    (fun dvs h=>by obtain⟨l,rfl⟩:=args22 h;exact NormLabels_ok l)

theorem NormLabels_said:Rows.NormLabelsSaid:=
  OpenClaim.holds_of_wide 6 Tryz.f6 rfl rfl rfl rfl rfl rfl rfl ⟨rfl,rfl,rfl,rfl,rfl⟩ rfl rfl rfl rfl rfl (by kernel_rfl) Tryz.func6 (by kernel_rfl)
    (of_decide_eq_true (by kernel_rfl)) (by unfold Func.isWrapper;first|(rw[if_pos (by decide+kernel)];kernel_rfl)|(rw[if_neg (by decide+kernel)];exact⟨rfl,rfl⟩))
    (fun os started H enc _=>lawLifted os started H enc)

theorem NormLabels_holds:Rows.NormLabelsCardSaid:=
  Claim7.holds_tied_plain_at .later [] [.listed, .data] true (true, "12817a8448b0d757ad6a0cf65a7e0115386a4168a77432873733912c986aab44") false
    NormLabels_said (fun _ h=>by cases h) (by kernel_rfl) (fun _ h=>by cases h) normLabels_row_tie rfl ⟨rfl,rfl⟩ (by kernel_rfl) rfl
    (fun f fn hf hfn=>by
      obtain rfl:f=6:=Option.some.inj ((show Tryz.prog.funcNamed Rows.normLabelsRow.func=some 6 by kernel_rfl).symm.trans hf)|>.symm
      obtain rfl:fn=Tryz.f6:=(Option.some.inj (Tryz.func6.symm.trans hfn)).symm
      exact⟨by kernel_rfl,fun j t ht=>by
        rw[Tryz.params6]at ht
        have hm:t∈[22]:=by simpa using Array.mem_of_getElem? ht
        have hall:([22].all fun u=> !Tryz.prog.wantsStandIn u)=true:=by kernel_rfl
        exact(show Tryz.prog.wantsStandIn t=false by simpa using List.all_eq_true.1 hall t hm)⟩)
    (by kernel_rfl)
#print axioms NormLabels_holds
end Go.Proofs.YtlfjlokfciejnaaGreatDoor
