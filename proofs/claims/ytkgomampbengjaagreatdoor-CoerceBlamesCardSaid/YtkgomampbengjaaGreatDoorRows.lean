/-
  NARROWER THAN 'FOR EVERY INPUT', by the rows' own cells (each row's printed sentence says how): CoerceMays: loops, laid · CoerceComposes: loops, laid · CoerceUnits: loops, laid · CoerceTwice: loops, laid · CoerceLabels: loops, laid · CoerceSizes: loops, laid · CoerceBack: loops, laid · CoerceBlames: loops, laid.
  DERIVED. THE GIVEN ROWS OF THIS SEAT. 8 by the template 'for every input the law returns true; each argument reads behind the call as it read before'; 0 by the template 'total and deterministic' (their statements: YtkgomampbengjaaGreatDoorTotals.lean).
  GIVEN WITH THE SEED: the statements are not yours to turn. If you find one false, say at which input.
  Laid BY PROGRAM, IN A SANDBOX (cutbox-rows.mjs): the forced cells as the released guide's own fill.sh prints them over the translation cf570adae9c8066b… (all of the seat's roots in one cut). By AI agents, Wed Nov 11 2026. No macro, syntax, notation, axiom, sorry.
-/
import Derived.Test.YtkgomampbengjaaGreatDoorChecked
import GoSem.Claim
import GoSem.ClaimJoined
import GoSem.ClaimMapViews
import Derived.JoinedTies
import Derived.KernelRfl
namespace Go.Proofs.YtkgomampbengjaaGreatDoor
/- THE CELL 'sum', in the pinned program and in every row, IS THE sha256 OF THE DUMP (.gsa) THAT YtkgomampbengjaaGreatDoorProg.lean LOADS. Nothing in Lean hashes anything: it is a label: what it is worth is what the hold of that sum in a sandbox is worth. -/
noncomputable def Tryz.pinned : Pinned := { name := "ytkgomampbengjaagreatdoor", sum := "cf570adae9c8066b3ec707244768bb234f09558c8a3d1bcbcf5cf54e43caaff9", checked := Tryz.checked }
namespace Rows
def none {H : Type} : Left H := { results := [], args := [] }

/- WHAT THE LISTED PACKAGE-LEVEL VARIABLES READ AS WHEN THE CALL BEGINS. Each datum BY PROGRAM (the guide's laid-datum.mjs) off the statement by which the dump's own 'gosem.cut.vars' lays the variable. In a bare row this is a premise. The card (YtkgomampbengjaaGreatDoorCards.lean) ties it to the program's text. -/
def laid_unicode_White_Space {H : Type} : DataW H := .ptr (.agg [.slice [.agg [.lit (.int .u16 9), .lit (.int .u16 13), .lit (.int .u16 1)], .agg [.lit (.int .u16 32), .lit (.int .u16 133), .lit (.int .u16 101)], .agg [.lit (.int .u16 160), .lit (.int .u16 5760), .lit (.int .u16 5600)], .agg [.lit (.int .u16 8192), .lit (.int .u16 8202), .lit (.int .u16 1)], .agg [.lit (.int .u16 8232), .lit (.int .u16 8233), .lit (.int .u16 1)], .agg [.lit (.int .u16 8239), .lit (.int .u16 8287), .lit (.int .u16 48)], .agg [.lit (.int .u16 12288), .lit (.int .u16 12288), .lit (.int .u16 1)]] [], .nil, .lit (.int .i64 2)])
def laid_strings_asciiSpace {H : Type} : DataW H := .agg [.lit (.int .u8 0), .lit (.int .u8 0), .lit (.int .u8 0), .lit (.int .u8 0), .lit (.int .u8 0), .lit (.int .u8 0), .lit (.int .u8 0), .lit (.int .u8 0), .lit (.int .u8 0), .lit (.int .u8 1), .lit (.int .u8 1), .lit (.int .u8 1), .lit (.int .u8 1), .lit (.int .u8 1), .lit (.int .u8 0), .lit (.int .u8 0), .lit (.int .u8 0), .lit (.int .u8 0), .lit (.int .u8 0), .lit (.int .u8 0), .lit (.int .u8 0), .lit (.int .u8 0), .lit (.int .u8 0), .lit (.int .u8 0), .lit (.int .u8 0), .lit (.int .u8 0), .lit (.int .u8 0), .lit (.int .u8 0), .lit (.int .u8 0), .lit (.int .u8 0), .lit (.int .u8 0), .lit (.int .u8 0), .lit (.int .u8 1), .lit (.int .u8 0), .lit (.int .u8 0), .lit (.int .u8 0), .lit (.int .u8 0), .lit (.int .u8 0), .lit (.int .u8 0), .lit (.int .u8 0), .lit (.int .u8 0), .lit (.int .u8 0), .lit (.int .u8 0), .lit (.int .u8 0), .lit (.int .u8 0), .lit (.int .u8 0), .lit (.int .u8 0), .lit (.int .u8 0), .lit (.int .u8 0), .lit (.int .u8 0), .lit (.int .u8 0), .lit (.int .u8 0), .lit (.int .u8 0), .lit (.int .u8 0), .lit (.int .u8 0), .lit (.int .u8 0), .lit (.int .u8 0), .lit (.int .u8 0), .lit (.int .u8 0), .lit (.int .u8 0), .lit (.int .u8 0), .lit (.int .u8 0), .lit (.int .u8 0), .lit (.int .u8 0), .lit (.int .u8 0), .lit (.int .u8 0), .lit (.int .u8 0), .lit (.int .u8 0), .lit (.int .u8 0), .lit (.int .u8 0), .lit (.int .u8 0), .lit (.int .u8 0), .lit (.int .u8 0), .lit (.int .u8 0), .lit (.int .u8 0), .lit (.int .u8 0), .lit (.int .u8 0), .lit (.int .u8 0), .lit (.int .u8 0), .lit (.int .u8 0), .lit (.int .u8 0), .lit (.int .u8 0), .lit (.int .u8 0), .lit (.int .u8 0), .lit (.int .u8 0), .lit (.int .u8 0), .lit (.int .u8 0), .lit (.int .u8 0), .lit (.int .u8 0), .lit (.int .u8 0), .lit (.int .u8 0), .lit (.int .u8 0), .lit (.int .u8 0), .lit (.int .u8 0), .lit (.int .u8 0), .lit (.int .u8 0), .lit (.int .u8 0), .lit (.int .u8 0), .lit (.int .u8 0), .lit (.int .u8 0), .lit (.int .u8 0), .lit (.int .u8 0), .lit (.int .u8 0), .lit (.int .u8 0), .lit (.int .u8 0), .lit (.int .u8 0), .lit (.int .u8 0), .lit (.int .u8 0), .lit (.int .u8 0), .lit (.int .u8 0), .lit (.int .u8 0), .lit (.int .u8 0), .lit (.int .u8 0), .lit (.int .u8 0), .lit (.int .u8 0), .lit (.int .u8 0), .lit (.int .u8 0), .lit (.int .u8 0), .lit (.int .u8 0), .lit (.int .u8 0), .lit (.int .u8 0), .lit (.int .u8 0), .lit (.int .u8 0), .lit (.int .u8 0), .lit (.int .u8 0), .lit (.int .u8 0), .lit (.int .u8 0), .lit (.int .u8 0), .lit (.int .u8 0), .lit (.int .u8 0), .lit (.int .u8 0), .lit (.int .u8 0), .lit (.int .u8 0), .lit (.int .u8 0), .lit (.int .u8 0), .lit (.int .u8 0), .lit (.int .u8 0), .lit (.int .u8 0), .lit (.int .u8 0), .lit (.int .u8 0), .lit (.int .u8 0), .lit (.int .u8 0), .lit (.int .u8 0), .lit (.int .u8 0), .lit (.int .u8 0), .lit (.int .u8 0), .lit (.int .u8 0), .lit (.int .u8 0), .lit (.int .u8 0), .lit (.int .u8 0), .lit (.int .u8 0), .lit (.int .u8 0), .lit (.int .u8 0), .lit (.int .u8 0), .lit (.int .u8 0), .lit (.int .u8 0), .lit (.int .u8 0), .lit (.int .u8 0), .lit (.int .u8 0), .lit (.int .u8 0), .lit (.int .u8 0), .lit (.int .u8 0), .lit (.int .u8 0), .lit (.int .u8 0), .lit (.int .u8 0), .lit (.int .u8 0), .lit (.int .u8 0), .lit (.int .u8 0), .lit (.int .u8 0), .lit (.int .u8 0), .lit (.int .u8 0), .lit (.int .u8 0), .lit (.int .u8 0), .lit (.int .u8 0), .lit (.int .u8 0), .lit (.int .u8 0), .lit (.int .u8 0), .lit (.int .u8 0), .lit (.int .u8 0), .lit (.int .u8 0), .lit (.int .u8 0), .lit (.int .u8 0), .lit (.int .u8 0), .lit (.int .u8 0), .lit (.int .u8 0), .lit (.int .u8 0), .lit (.int .u8 0), .lit (.int .u8 0), .lit (.int .u8 0), .lit (.int .u8 0), .lit (.int .u8 0), .lit (.int .u8 0), .lit (.int .u8 0), .lit (.int .u8 0), .lit (.int .u8 0), .lit (.int .u8 0), .lit (.int .u8 0), .lit (.int .u8 0), .lit (.int .u8 0), .lit (.int .u8 0), .lit (.int .u8 0), .lit (.int .u8 0), .lit (.int .u8 0), .lit (.int .u8 0), .lit (.int .u8 0), .lit (.int .u8 0), .lit (.int .u8 0), .lit (.int .u8 0), .lit (.int .u8 0), .lit (.int .u8 0), .lit (.int .u8 0), .lit (.int .u8 0), .lit (.int .u8 0), .lit (.int .u8 0), .lit (.int .u8 0), .lit (.int .u8 0), .lit (.int .u8 0), .lit (.int .u8 0), .lit (.int .u8 0), .lit (.int .u8 0), .lit (.int .u8 0), .lit (.int .u8 0), .lit (.int .u8 0), .lit (.int .u8 0), .lit (.int .u8 0), .lit (.int .u8 0), .lit (.int .u8 0), .lit (.int .u8 0), .lit (.int .u8 0), .lit (.int .u8 0), .lit (.int .u8 0), .lit (.int .u8 0), .lit (.int .u8 0), .lit (.int .u8 0), .lit (.int .u8 0), .lit (.int .u8 0), .lit (.int .u8 0), .lit (.int .u8 0), .lit (.int .u8 0), .lit (.int .u8 0), .lit (.int .u8 0), .lit (.int .u8 0), .lit (.int .u8 0), .lit (.int .u8 0), .lit (.int .u8 0), .lit (.int .u8 0), .lit (.int .u8 0), .lit (.int .u8 0), .lit (.int .u8 0), .lit (.int .u8 0), .lit (.int .u8 0), .lit (.int .u8 0), .lit (.int .u8 0), .lit (.int .u8 0), .lit (.int .u8 0), .lit (.int .u8 0)]

/-- 'graduslaw10.CoerceMays': WHATEVER THE INPUT: true; the input reads as it did. -/
def coerceMaysSpec : ChangeSpec := { name := "coerceMays", fn := fun _ => fun
  | [d1, d2] => { results := [.lit (.bool true)], args := [d1, d2] }
  | _ => none }
def coerceMaysRow : OpenClaim := { program := "ytkgomampbengjaagreatdoor", sum := "cf570adae9c8066b3ec707244768bb234f09558c8a3d1bcbcf5cf54e43caaff9", func := "gradus/graduslaw10.CoerceMays", spec := "coerceMays", inPlace := ["internal/bytealg.abigen_runtime_cmpstring"], unfollowed := true, recurses := true, named := ["strings.asciiSpace", "unicode.White_Space"], loops := true, apart := false, laid := [("unicode.White_Space", laid_unicode_White_Space), ("strings.asciiSpace", laid_strings_asciiSpace)] }
def CoerceMaysSaid : Prop := coerceMaysRow.holds Tryz.pinned (OpenSpec.ofChange coerceMaysSpec)

/-- ITS FALSE NEIGHBOUR: 'it returns false'. Refute it at one input. -/
def coerceMaysWrong : ChangeSpec := { name := "coerceMays", fn := fun _ => fun
  | [d1, d2] => { results := [.lit (.bool false)], args := [d1, d2] }
  | _ => none }
def CoerceMaysWrongFalsely : Prop := coerceMaysRow.holds Tryz.pinned (OpenSpec.ofChange coerceMaysWrong)

/-- 'graduslaw10.CoerceComposes': WHATEVER THE INPUT: true; the input reads as it did. -/
def coerceComposesSpec : ChangeSpec := { name := "coerceComposes", fn := fun _ => fun
  | [d1, d2] => { results := [.lit (.bool true)], args := [d1, d2] }
  | _ => none }
def coerceComposesRow : OpenClaim := { program := "ytkgomampbengjaagreatdoor", sum := "cf570adae9c8066b3ec707244768bb234f09558c8a3d1bcbcf5cf54e43caaff9", func := "gradus/graduslaw10.CoerceComposes", spec := "coerceComposes", inPlace := ["internal/bytealg.abigen_runtime_cmpstring"], unfollowed := true, recurses := true, named := ["strings.asciiSpace", "unicode.White_Space"], loops := true, apart := false, laid := [("unicode.White_Space", laid_unicode_White_Space), ("strings.asciiSpace", laid_strings_asciiSpace)] }
def CoerceComposesSaid : Prop := coerceComposesRow.holds Tryz.pinned (OpenSpec.ofChange coerceComposesSpec)

/-- ITS FALSE NEIGHBOUR: 'it returns false'. Refute it at one input. -/
def coerceComposesWrong : ChangeSpec := { name := "coerceComposes", fn := fun _ => fun
  | [d1, d2] => { results := [.lit (.bool false)], args := [d1, d2] }
  | _ => none }
def CoerceComposesWrongFalsely : Prop := coerceComposesRow.holds Tryz.pinned (OpenSpec.ofChange coerceComposesWrong)

/-- 'graduslaw10.CoerceUnits': WHATEVER THE INPUT: true; the input reads as it did. -/
def coerceUnitsSpec : ChangeSpec := { name := "coerceUnits", fn := fun _ => fun
  | [d1, d2, d3] => { results := [.lit (.bool true)], args := [d1, d2, d3] }
  | _ => none }
def coerceUnitsRow : OpenClaim := { program := "ytkgomampbengjaagreatdoor", sum := "cf570adae9c8066b3ec707244768bb234f09558c8a3d1bcbcf5cf54e43caaff9", func := "gradus/graduslaw10.CoerceUnits", spec := "coerceUnits", inPlace := ["internal/bytealg.abigen_runtime_cmpstring"], unfollowed := true, recurses := true, named := ["strings.asciiSpace", "unicode.White_Space"], loops := true, apart := false, laid := [("unicode.White_Space", laid_unicode_White_Space), ("strings.asciiSpace", laid_strings_asciiSpace)] }
def CoerceUnitsSaid : Prop := coerceUnitsRow.holds Tryz.pinned (OpenSpec.ofChange coerceUnitsSpec)

/-- ITS FALSE NEIGHBOUR: 'it returns false'. Refute it at one input. -/
def coerceUnitsWrong : ChangeSpec := { name := "coerceUnits", fn := fun _ => fun
  | [d1, d2, d3] => { results := [.lit (.bool false)], args := [d1, d2, d3] }
  | _ => none }
def CoerceUnitsWrongFalsely : Prop := coerceUnitsRow.holds Tryz.pinned (OpenSpec.ofChange coerceUnitsWrong)

/-- 'graduslaw10.CoerceTwice': WHATEVER THE INPUT: true; the input reads as it did. -/
def coerceTwiceSpec : ChangeSpec := { name := "coerceTwice", fn := fun _ => fun
  | [d] => { results := [.lit (.bool true)], args := [d] }
  | _ => none }
def coerceTwiceRow : OpenClaim := { program := "ytkgomampbengjaagreatdoor", sum := "cf570adae9c8066b3ec707244768bb234f09558c8a3d1bcbcf5cf54e43caaff9", func := "gradus/graduslaw10.CoerceTwice", spec := "coerceTwice", inPlace := ["internal/bytealg.abigen_runtime_cmpstring"], unfollowed := true, recurses := true, named := ["strings.asciiSpace", "unicode.White_Space"], loops := true, apart := false, laid := [("unicode.White_Space", laid_unicode_White_Space), ("strings.asciiSpace", laid_strings_asciiSpace)] }
def CoerceTwiceSaid : Prop := coerceTwiceRow.holds Tryz.pinned (OpenSpec.ofChange coerceTwiceSpec)

/-- ITS FALSE NEIGHBOUR: 'it returns false'. Refute it at one input. -/
def coerceTwiceWrong : ChangeSpec := { name := "coerceTwice", fn := fun _ => fun
  | [d] => { results := [.lit (.bool false)], args := [d] }
  | _ => none }
def CoerceTwiceWrongFalsely : Prop := coerceTwiceRow.holds Tryz.pinned (OpenSpec.ofChange coerceTwiceWrong)

/-- 'graduslaw10.CoerceLabels': WHATEVER THE INPUT: true; the input reads as it did. -/
def coerceLabelsSpec : ChangeSpec := { name := "coerceLabels", fn := fun _ => fun
  | [d] => { results := [.lit (.bool true)], args := [d] }
  | _ => none }
def coerceLabelsRow : OpenClaim := { program := "ytkgomampbengjaagreatdoor", sum := "cf570adae9c8066b3ec707244768bb234f09558c8a3d1bcbcf5cf54e43caaff9", func := "gradus/graduslaw10.CoerceLabels", spec := "coerceLabels", inPlace := ["internal/bytealg.abigen_runtime_cmpstring"], unfollowed := true, recurses := true, named := ["strings.asciiSpace", "unicode.White_Space"], loops := true, apart := false, laid := [("unicode.White_Space", laid_unicode_White_Space), ("strings.asciiSpace", laid_strings_asciiSpace)] }
def CoerceLabelsSaid : Prop := coerceLabelsRow.holds Tryz.pinned (OpenSpec.ofChange coerceLabelsSpec)

/-- ITS FALSE NEIGHBOUR: 'it returns false'. Refute it at one input. -/
def coerceLabelsWrong : ChangeSpec := { name := "coerceLabels", fn := fun _ => fun
  | [d] => { results := [.lit (.bool false)], args := [d] }
  | _ => none }
def CoerceLabelsWrongFalsely : Prop := coerceLabelsRow.holds Tryz.pinned (OpenSpec.ofChange coerceLabelsWrong)

/-- 'graduslaw10.CoerceSizes': WHATEVER THE INPUT: true; the input reads as it did. -/
def coerceSizesSpec : ChangeSpec := { name := "coerceSizes", fn := fun _ => fun
  | [d1, d2] => { results := [.lit (.bool true)], args := [d1, d2] }
  | _ => none }
def coerceSizesRow : OpenClaim := { program := "ytkgomampbengjaagreatdoor", sum := "cf570adae9c8066b3ec707244768bb234f09558c8a3d1bcbcf5cf54e43caaff9", func := "gradus/graduslaw10.CoerceSizes", spec := "coerceSizes", inPlace := ["internal/bytealg.abigen_runtime_cmpstring"], unfollowed := true, recurses := true, named := ["strings.asciiSpace", "unicode.White_Space"], loops := true, apart := false, laid := [("unicode.White_Space", laid_unicode_White_Space), ("strings.asciiSpace", laid_strings_asciiSpace)] }
def CoerceSizesSaid : Prop := coerceSizesRow.holds Tryz.pinned (OpenSpec.ofChange coerceSizesSpec)

/-- ITS FALSE NEIGHBOUR: 'it returns false'. Refute it at one input. -/
def coerceSizesWrong : ChangeSpec := { name := "coerceSizes", fn := fun _ => fun
  | [d1, d2] => { results := [.lit (.bool false)], args := [d1, d2] }
  | _ => none }
def CoerceSizesWrongFalsely : Prop := coerceSizesRow.holds Tryz.pinned (OpenSpec.ofChange coerceSizesWrong)

/-- 'graduslaw10.CoerceBack': WHATEVER THE INPUT: true; the input reads as it did. -/
def coerceBackSpec : ChangeSpec := { name := "coerceBack", fn := fun _ => fun
  | [d] => { results := [.lit (.bool true)], args := [d] }
  | _ => none }
def coerceBackRow : OpenClaim := { program := "ytkgomampbengjaagreatdoor", sum := "cf570adae9c8066b3ec707244768bb234f09558c8a3d1bcbcf5cf54e43caaff9", func := "gradus/graduslaw10.CoerceBack", spec := "coerceBack", inPlace := ["internal/bytealg.abigen_runtime_cmpstring"], unfollowed := true, recurses := true, named := ["strings.asciiSpace", "unicode.White_Space"], loops := true, apart := false, laid := [("unicode.White_Space", laid_unicode_White_Space), ("strings.asciiSpace", laid_strings_asciiSpace)] }
def CoerceBackSaid : Prop := coerceBackRow.holds Tryz.pinned (OpenSpec.ofChange coerceBackSpec)

/-- ITS FALSE NEIGHBOUR: 'it returns false'. Refute it at one input. -/
def coerceBackWrong : ChangeSpec := { name := "coerceBack", fn := fun _ => fun
  | [d] => { results := [.lit (.bool false)], args := [d] }
  | _ => none }
def CoerceBackWrongFalsely : Prop := coerceBackRow.holds Tryz.pinned (OpenSpec.ofChange coerceBackWrong)

/-- 'graduslaw10.CoerceBlames': WHATEVER THE INPUT: true; the input reads as it did. -/
def coerceBlamesSpec : ChangeSpec := { name := "coerceBlames", fn := fun _ => fun
  | [d1, d2, d3] => { results := [.lit (.bool true)], args := [d1, d2, d3] }
  | _ => none }
def coerceBlamesRow : OpenClaim := { program := "ytkgomampbengjaagreatdoor", sum := "cf570adae9c8066b3ec707244768bb234f09558c8a3d1bcbcf5cf54e43caaff9", func := "gradus/graduslaw10.CoerceBlames", spec := "coerceBlames", inPlace := ["internal/bytealg.abigen_runtime_cmpstring"], unfollowed := true, recurses := true, named := ["strings.asciiSpace", "unicode.White_Space"], loops := true, apart := false, laid := [("unicode.White_Space", laid_unicode_White_Space), ("strings.asciiSpace", laid_strings_asciiSpace)] }
def CoerceBlamesSaid : Prop := coerceBlamesRow.holds Tryz.pinned (OpenSpec.ofChange coerceBlamesSpec)

/-- ITS FALSE NEIGHBOUR: 'it returns false'. Refute it at one input. -/
def coerceBlamesWrong : ChangeSpec := { name := "coerceBlames", fn := fun _ => fun
  | [d1, d2, d3] => { results := [.lit (.bool false)], args := [d1, d2, d3] }
  | _ => none }
def CoerceBlamesWrongFalsely : Prop := coerceBlamesRow.holds Tryz.pinned (OpenSpec.ofChange coerceBlamesWrong)

/- THE SECOND FORM. 'bulk': how many values and letters a reading holds, each counted each time it is reached (what is shared counts as often as it is met; a slice's spare places count too). A statement '..UptoSaid' is the law's where the arguments, and the package variables that the reading takes, are together of bulk at most 1048576: NARROWER than '..Said'. Prove '..Said' where nothing that the law and all that it calls make is longer than what came in: it says more and counts as full. Else prove '..UptoSaid'. A law counts once. -/
mutual
def uptoBulk {H : Type} : DataW H → Nat
  | .lit (.string bytes) => bytes.length + 1
  | .lit _ => 1
  | .nil => 1
  | .ptr d => uptoBulk d + 1
  | .slice elems spare => uptoBulkAll elems + uptoBulkAll spare + 1
  | .agg parts => uptoBulkAll parts + 1
  | .iface _ d => uptoBulk d + 1
  | .map entries => uptoBulkEntries entries + 1
  | .held _ => 1
def uptoBulkAll {H : Type} : List (DataW H) → Nat
  | [] => 0
  | d :: r => uptoBulk d + uptoBulkAll r
def uptoBulkEntries {H : Type} : List (Lit × DataW H) → Nat
  | [] => 0
  | x :: r => uptoBulkEntry x + uptoBulkEntries r
def uptoBulkEntry {H : Type} : Lit × DataW H → Nat
  | (.string bytes, d) => bytes.length + uptoBulk d + 1
  | (_, d) => uptoBulk d + 1
 end
def uptoSmall : (H : Type) → List (DataW H) → Bool := fun _ ds => decide (uptoBulkAll ds ≤ 1048576)
def OpenSpec.upto (s : _root_.Go.ChangeSpec) : _root_.Go.OpenSpec := { _root_.Go.OpenSpec.ofChange s with cond := some uptoSmall }

/-- 'graduslaw10.CoerceMays', WHERE WHAT IT READS IS OF BULK AT MOST 1048576: true; the input reads as it did. -/
def coerceMaysUptoRow : OpenClaim := { program := "ytkgomampbengjaagreatdoor", sum := "cf570adae9c8066b3ec707244768bb234f09558c8a3d1bcbcf5cf54e43caaff9", func := "gradus/graduslaw10.CoerceMays", spec := "coerceMays", inPlace := ["internal/bytealg.abigen_runtime_cmpstring"], unfollowed := true, recurses := true, named := ["strings.asciiSpace", "unicode.White_Space"], loops := true, apart := false, laid := [("unicode.White_Space", laid_unicode_White_Space), ("strings.asciiSpace", laid_strings_asciiSpace)], narrowed := true }
def CoerceMaysUptoSaid : Prop := coerceMaysUptoRow.holds Tryz.pinned (OpenSpec.upto coerceMaysSpec)

/-- 'graduslaw10.CoerceComposes', WHERE WHAT IT READS IS OF BULK AT MOST 1048576: true; the input reads as it did. -/
def coerceComposesUptoRow : OpenClaim := { program := "ytkgomampbengjaagreatdoor", sum := "cf570adae9c8066b3ec707244768bb234f09558c8a3d1bcbcf5cf54e43caaff9", func := "gradus/graduslaw10.CoerceComposes", spec := "coerceComposes", inPlace := ["internal/bytealg.abigen_runtime_cmpstring"], unfollowed := true, recurses := true, named := ["strings.asciiSpace", "unicode.White_Space"], loops := true, apart := false, laid := [("unicode.White_Space", laid_unicode_White_Space), ("strings.asciiSpace", laid_strings_asciiSpace)], narrowed := true }
def CoerceComposesUptoSaid : Prop := coerceComposesUptoRow.holds Tryz.pinned (OpenSpec.upto coerceComposesSpec)

/-- 'graduslaw10.CoerceUnits', WHERE WHAT IT READS IS OF BULK AT MOST 1048576: true; the input reads as it did. -/
def coerceUnitsUptoRow : OpenClaim := { program := "ytkgomampbengjaagreatdoor", sum := "cf570adae9c8066b3ec707244768bb234f09558c8a3d1bcbcf5cf54e43caaff9", func := "gradus/graduslaw10.CoerceUnits", spec := "coerceUnits", inPlace := ["internal/bytealg.abigen_runtime_cmpstring"], unfollowed := true, recurses := true, named := ["strings.asciiSpace", "unicode.White_Space"], loops := true, apart := false, laid := [("unicode.White_Space", laid_unicode_White_Space), ("strings.asciiSpace", laid_strings_asciiSpace)], narrowed := true }
def CoerceUnitsUptoSaid : Prop := coerceUnitsUptoRow.holds Tryz.pinned (OpenSpec.upto coerceUnitsSpec)

/-- 'graduslaw10.CoerceTwice', WHERE WHAT IT READS IS OF BULK AT MOST 1048576: true; the input reads as it did. -/
def coerceTwiceUptoRow : OpenClaim := { program := "ytkgomampbengjaagreatdoor", sum := "cf570adae9c8066b3ec707244768bb234f09558c8a3d1bcbcf5cf54e43caaff9", func := "gradus/graduslaw10.CoerceTwice", spec := "coerceTwice", inPlace := ["internal/bytealg.abigen_runtime_cmpstring"], unfollowed := true, recurses := true, named := ["strings.asciiSpace", "unicode.White_Space"], loops := true, apart := false, laid := [("unicode.White_Space", laid_unicode_White_Space), ("strings.asciiSpace", laid_strings_asciiSpace)], narrowed := true }
def CoerceTwiceUptoSaid : Prop := coerceTwiceUptoRow.holds Tryz.pinned (OpenSpec.upto coerceTwiceSpec)

/-- 'graduslaw10.CoerceLabels', WHERE WHAT IT READS IS OF BULK AT MOST 1048576: true; the input reads as it did. -/
def coerceLabelsUptoRow : OpenClaim := { program := "ytkgomampbengjaagreatdoor", sum := "cf570adae9c8066b3ec707244768bb234f09558c8a3d1bcbcf5cf54e43caaff9", func := "gradus/graduslaw10.CoerceLabels", spec := "coerceLabels", inPlace := ["internal/bytealg.abigen_runtime_cmpstring"], unfollowed := true, recurses := true, named := ["strings.asciiSpace", "unicode.White_Space"], loops := true, apart := false, laid := [("unicode.White_Space", laid_unicode_White_Space), ("strings.asciiSpace", laid_strings_asciiSpace)], narrowed := true }
def CoerceLabelsUptoSaid : Prop := coerceLabelsUptoRow.holds Tryz.pinned (OpenSpec.upto coerceLabelsSpec)

/-- 'graduslaw10.CoerceSizes', WHERE WHAT IT READS IS OF BULK AT MOST 1048576: true; the input reads as it did. -/
def coerceSizesUptoRow : OpenClaim := { program := "ytkgomampbengjaagreatdoor", sum := "cf570adae9c8066b3ec707244768bb234f09558c8a3d1bcbcf5cf54e43caaff9", func := "gradus/graduslaw10.CoerceSizes", spec := "coerceSizes", inPlace := ["internal/bytealg.abigen_runtime_cmpstring"], unfollowed := true, recurses := true, named := ["strings.asciiSpace", "unicode.White_Space"], loops := true, apart := false, laid := [("unicode.White_Space", laid_unicode_White_Space), ("strings.asciiSpace", laid_strings_asciiSpace)], narrowed := true }
def CoerceSizesUptoSaid : Prop := coerceSizesUptoRow.holds Tryz.pinned (OpenSpec.upto coerceSizesSpec)

/-- 'graduslaw10.CoerceBack', WHERE WHAT IT READS IS OF BULK AT MOST 1048576: true; the input reads as it did. -/
def coerceBackUptoRow : OpenClaim := { program := "ytkgomampbengjaagreatdoor", sum := "cf570adae9c8066b3ec707244768bb234f09558c8a3d1bcbcf5cf54e43caaff9", func := "gradus/graduslaw10.CoerceBack", spec := "coerceBack", inPlace := ["internal/bytealg.abigen_runtime_cmpstring"], unfollowed := true, recurses := true, named := ["strings.asciiSpace", "unicode.White_Space"], loops := true, apart := false, laid := [("unicode.White_Space", laid_unicode_White_Space), ("strings.asciiSpace", laid_strings_asciiSpace)], narrowed := true }
def CoerceBackUptoSaid : Prop := coerceBackUptoRow.holds Tryz.pinned (OpenSpec.upto coerceBackSpec)

/-- 'graduslaw10.CoerceBlames', WHERE WHAT IT READS IS OF BULK AT MOST 1048576: true; the input reads as it did. -/
def coerceBlamesUptoRow : OpenClaim := { program := "ytkgomampbengjaagreatdoor", sum := "cf570adae9c8066b3ec707244768bb234f09558c8a3d1bcbcf5cf54e43caaff9", func := "gradus/graduslaw10.CoerceBlames", spec := "coerceBlames", inPlace := ["internal/bytealg.abigen_runtime_cmpstring"], unfollowed := true, recurses := true, named := ["strings.asciiSpace", "unicode.White_Space"], loops := true, apart := false, laid := [("unicode.White_Space", laid_unicode_White_Space), ("strings.asciiSpace", laid_strings_asciiSpace)], narrowed := true }
def CoerceBlamesUptoSaid : Prop := coerceBlamesUptoRow.holds Tryz.pinned (OpenSpec.upto coerceBlamesSpec)

end Rows
end Go.Proofs.YtkgomampbengjaaGreatDoor
