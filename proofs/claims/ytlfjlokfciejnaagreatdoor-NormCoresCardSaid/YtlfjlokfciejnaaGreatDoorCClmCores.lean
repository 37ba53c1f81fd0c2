/- The claim. -/
import Derived.Test.YtlfjlokfciejnaaGreatDoorCJ25
/- NormCores, the claim: whatever sources are handed in, the law answers true; the variables that are laid are tied to the program's text. -/
set_option linter.unusedVariables false
namespace Go.Proofs.YtlfjlokfciejnaaGreatDoor
open Go.Abs Go.Gr

set_option maxRecDepth 100000 in
theorem lawLifted(os:Os)(started:os.Started)(H:Type)(enc:TypeId × Value→H):
    ReturnsInHanded {} Tryz.checked os 3 .any (fun w args=>(Rows.normCoresSpec.pre enc Tryz.prog Tryz.f3 [] false w args∧laidMetH Tryz.prog laid2 w)∧sizedMet enc Tryz.prog Tryz.f3 (OpenSpec.ofChange Rows.normCoresSpec) false w args)
      (Rows.normCoresSpec.post enc Tryz.prog Tryz.f3 false true false false):=
  law_liftedX (C:=Tryz.checked) (X:=fun w=>laidMetH Tryz.prog laid2 w) (fun _ _ hh h=>h.of_heap hh) gnd_of own started (by kernel_rfl) Tryz.func3 rfl typesOk (by kernel_rfl) (by kernel_rfl) Tryz.underlying4 laidOut
    (fun ds h=>by match ds,h with|[a,b],_=>rfl)
    (ChangeSpec.witness_shaped (enc:=enc) (C:=Tryz.checked) (os:=os) (X:=fun w _=>laidMetH Tryz.prog laid2 w) false (doorW os) #[emptySl,.bool false] 8 rfl (World.shaped_of_RefB (by kernel_rfl) (by kernel_rfl)) (by kernel_rfl) (by kernel_rfl) (by kernel_rfl) (door_met os _))
    (fun dvs h=>by obtain⟨l,k,rfl⟩:=args224 h;exact NormCores_ok l k)

theorem NormCores_said:Rows.NormCoresSaid:=
  OpenClaim.holds_of_wide 3 Tryz.f3 rfl rfl rfl rfl rfl rfl rfl ⟨rfl,rfl,rfl,rfl,rfl⟩ rfl rfl rfl rfl rfl (by kernel_rfl) Tryz.func3 (by kernel_rfl)
    (of_decide_eq_true (by kernel_rfl)) (by unfold Func.isWrapper;first|(rw[if_pos (by decide+kernel)];kernel_rfl)|(rw[if_neg (by decide+kernel)];exact⟨rfl,rfl⟩))
    (fun os started H enc _=>lawLifted os started H enc)

theorem NormCores_holds:Rows.NormCoresCardSaid:=
  Claim7.holds_tied_plain_at .later [] [.listed, .data] true (true, "12817a8448b0d757ad6a0cf65a7e0115386a4168a77432873733912c986aab44") false
    NormCores_said (fun _ h=>by cases h) (by kernel_rfl) (fun _ h=>by cases h) normCores_row_tie rfl ⟨rfl,rfl⟩ (by kernel_rfl) rfl
    (fun f fn hf hfn=>by
      obtain rfl:f=3:=Option.some.inj ((show Tryz.prog.funcNamed Rows.normCoresRow.func=some 3 by kernel_rfl).symm.trans hf)|>.symm
      obtain rfl:fn=Tryz.f3:=(Option.some.inj (Tryz.func3.symm.trans hfn)).symm
      exact⟨by kernel_rfl,fun j t ht=>by
        rw[Tryz.params3]at ht
        have hm:t∈[22,4]:=by simpa using Array.mem_of_getElem? ht
        have hall:([22,4].all fun u=> !Tryz.prog.wantsStandIn u)=true:=by kernel_rfl
        exact(show Tryz.prog.wantsStandIn t=false by simpa using List.all_eq_true.1 hall t hm)⟩)
    (by kernel_rfl)
#print axioms NormCores_holds
end Go.Proofs.YtlfjlokfciejnaaGreatDoor
