/- RunStatic, the claim: whatever sources, numbers and fuel are handed in, the law answers true, and its arguments read as before; the condition: the variables that the row lists are laid, and they are tied to the program's text. -/
import Derived.Test.YtnbgmeamdkggeaaGreatDoorJ20
import Derived.Test.YtnbgmeamdkggeaaGreatDoorJ22
import Derived.Test.YtnbgmeamdkggeaaGreatDoorClmF
import Derived.Test.YtnbgmeamdkggeaaGreatDoorRows
import Derived.Test.YtnbgmeamdkggeaaGreatDoorCards
import Derived.Test.YtnbgmeamdkggeaaGreatDoorTie
import Derived.WalkKit
import Derived.ProofKit
import Derived.OpenShut
import Derived.JoinedCond
import Derived.LaidMore
import Derived.Stop.Joined
import Derived.SevenTiedAt
import Derived.Stop.LaidErr
import Derived.Lib.LaidTab
import Derived.Lib.Space
/- RunStatic, the claim: whatever sources, numbers and fuel are handed in, the law answers true; the variables that are laid are tied to the program's text. -/
set_option linter.unusedVariables false
namespace Go.Proofs.YtnbgmeamdkggeaaGreatDoor
open Go.Abs Go.Gr

noncomputable def laid5 {H : Type} : List (String × DataW H) := [("math/bits.deBruijn32tab", Rows.laid_math_bits_deBruijn32tab), ("math/bits.deBruijn64tab", Rows.laid_math_bits_deBruijn64tab), ("internal/strconv.uint64pow10", Rows.laid_internal_strconv_uint64pow10), ("unicode.White_Space", Rows.laid_unicode_White_Space), ("strings.asciiSpace", Rows.laid_strings_asciiSpace)]
noncomputable def doorW (os:Os):World:=World.doorLaid Tryz.prog 48 os
theorem door_met(os:Os)(args:Array Value):laidMetH Tryz.prog laid5 ((doorW os).forCall (fun _ _=>0) ⟨#[],args,[]⟩).memory:=
  laidMetH_of_parts3 (fuel:=8) (laidMet_of_run' 8 (by kernel_rfl) (by kernel_rfl)) (by kernel_rfl) (by kernel_rfl)
def emptySl:Value:=.slice none 0 0
theorem spN_is:∀c,c<256→spN c=if Lib.isSp (UInt8.ofNat c)then 1 else 0:=by decide+kernel
theorem p10_is:(Lib.pow10Tab.map fun z=>Value.int .u64 z).toArray=p10V:=by
  unfold p10V Lib.pow10Tab
  rw[List.map_map]
  rfl
/-- a variable's reading is its own row's -/
theorem var_of{w w':World}{name:String}{g:Nat}{x:Array Value}(hg:Tryz.prog.globalNamed name=some g)(hv:w.var? Tryz.prog name=some x):∃o,w.heap[g]?=some o∧∀w':World,w'.heap[g]?=some o→w'.var? Tryz.prog name=some x:=by
  unfold World.var? at hv⊢
  simp only[hg,Option.bind_some]at hv⊢
  cases ho:w.heap[g]? with
  |none=>rw[ho]at hv;cases hv
  | some o=>
    refine⟨o,rfl,fun w' hw'=>?_⟩
    rw[ho]at hv
    rw[hw']
    exact hv
set_option maxRecDepth 100000 in
theorem gnd_of(w:World)(h:laidMetH Tryz.prog laid5 w):Gnd Tryz.prog fun B=>w.heap[B]?:=by
  have h1:laidMet Tryz.prog laid5 w:=by
    have e:((laid5 (H:=Unit)).filter fun x=>x.2.handleName?.isSome)=[]:=by kernel_rfl
    unfold laidMetH at h
    rw[e]at h
    exact h
  have h2 : laidMet Tryz.prog (("internal/strconv.uint64pow10", Lib.tabData .u64 Lib.pow10Tab) :: [("unicode.White_Space", Rows.laid_unicode_White_Space), ("strings.asciiSpace", Rows.laid_strings_asciiSpace)]) w := laidMet.tail (laidMet.tail h1)
  have h3 : laidMet Tryz.prog (("strings.asciiSpace", Lib.tabData .u8 Lib.asciiSpaceTab) :: []) w := laidMet.tail (laidMet.tail h2)
  have k2:=Lib.tabIs_of_head (g:=1) (t:=319) (e:=273) (n:=20) (by kernel_rfl) (by kernel_rfl) (by kernel_rfl) (by kernel_rfl) (by kernel_rfl) (by kernel_rfl) h2
  have k3:=Lib.tabIs_of_head (g:=4) (t:=329) (e:=5) (n:=256) (by kernel_rfl) (by kernel_rfl) (by kernel_rfl) (by kernel_rfl) (by kernel_rfl) (by kernel_rfl) h3
  refine⟨fun g hg=>?_,fun g hg=>?_⟩
  · obtain⟨o,ho,hv⟩:=var_of (w':=w) hg k3
    refine⟨o,ho,fun w' hw' c hc=>?_⟩
    have h4 : Lib.TabIs Tryz.prog w' "strings.asciiSpace" .u8 Lib.asciiSpaceTab := hv w' hw'
    rw[h4.cell hg c (by rw[Lib.asciiSpaceTab_length];exact hc),Lib.asciiSpaceTab_at c hc,spN_is c hc]
  · obtain⟨o,ho,hv⟩:=var_of (w':=w) hg k2
    refine⟨o,ho,fun w' hw'=>?_⟩
    rw[hv w' hw',p10_is]

set_option maxRecDepth 100000 in
theorem lawLifted(os:Os)(started:os.Started)(H:Type)(enc:TypeId × Value→H):
    ReturnsInHanded {} Tryz.checked os 3 .any (fun w args=>(Rows.runStaticSpec.pre enc Tryz.prog Tryz.f3 [] false w args∧laidMetH Tryz.prog laid5 w)∧sizedMet enc Tryz.prog Tryz.f3 (OpenSpec.ofChange Rows.runStaticSpec) false w args)
      (Rows.runStaticSpec.post enc Tryz.prog Tryz.f3 false true false false):=
  law_liftedX (C:=Tryz.checked) (X:=fun w=>laidMetH Tryz.prog laid5 w) (fun _ _ hh h=>h.of_heap hh) gnd_of own started (by kernel_rfl) Tryz.func3 rfl typesOk (by kernel_rfl) (by kernel_rfl) Tryz.underlying4 laidOut
    (fun ds h=>by match ds,h with|[a,b,c],_=>rfl)
    (ChangeSpec.witness_shaped (enc:=enc) (C:=Tryz.checked) (os:=os) (X:=fun w _=>laidMetH Tryz.prog laid5 w) false (doorW os) #[emptySl,emptySl,.int .i64 0] 8 rfl (World.shaped_of_RefB (by kernel_rfl) (by kernel_rfl)) (by kernel_rfl) (by kernel_rfl) (by kernel_rfl) (door_met os _))
    (fun dvs h=>by obtain⟨l,k,f,rfl⟩:=argsR h;exact RunStatic_ok l k f)

theorem RunStatic_said:Rows.RunStaticSaid:=
  OpenClaim.holds_of_wide 3 Tryz.f3 rfl rfl rfl rfl rfl rfl rfl ⟨rfl,rfl,rfl,rfl,rfl⟩ rfl rfl rfl rfl rfl (by kernel_rfl) Tryz.func3 closedF
    (of_decide_eq_true (by kernel_rfl)) (by unfold Func.isWrapper;first|(rw[if_pos (by decide+kernel)];kernel_rfl)|(rw[if_neg (by decide+kernel)];exact⟨rfl,rfl⟩))
    (fun os started H enc _=>lawLifted os started H enc)

theorem RunStatic_holds:Rows.RunStaticCardSaid:=
  Claim7.holds_tied_plain_at .later [] [.data, .data, .data, .listed, .data] true (true, "9d602ed332662bc4f128ff567d5eca8c65cb21396eec2e6bc607bd6f4117fdf1") true
    RunStatic_said (fun _ h=>by cases h) (by kernel_rfl) (fun _ h=>by cases h) runStatic_row_tie rfl ⟨rfl,rfl⟩ (by kernel_rfl) rfl
    (fun f fn hf hfn=>by
      obtain rfl:f=3:=Option.some.inj ((show Tryz.prog.funcNamed Rows.runStaticRow.func=some 3 by kernel_rfl).symm.trans hf)|>.symm
      obtain rfl:fn=Tryz.f3:=(Option.some.inj (Tryz.func3.symm.trans hfn)).symm
      exact⟨by kernel_rfl,fun j t ht=>by
        rw[Tryz.params3]at ht
        have hm:t∈[22,23,3]:=by simpa using Array.mem_of_getElem? ht
        have hall:([22,23,3].all fun u=> !Tryz.prog.wantsStandIn u)=true:=by kernel_rfl
        exact(show Tryz.prog.wantsStandIn t=false by simpa using List.all_eq_true.1 hall t hm)⟩)
    (by kernel_rfl)
#print axioms RunStatic_holds
end Go.Proofs.YtnbgmeamdkggeaaGreatDoor
