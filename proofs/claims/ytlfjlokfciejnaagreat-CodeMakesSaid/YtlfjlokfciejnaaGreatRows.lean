/-
  No cell of these rows narrows 'for every input' (looked for: loops, veiled, ifaces, maps, wideKeys, modest, calm, conditions, laid).
  DERIVED. THE GIVEN ROWS OF THIS SEAT. 4 by the template 'for every input the law returns true; each argument reads behind the call as it read before'; 0 by the template 'total and deterministic' (their statements: YtlfjlokfciejnaaGreatTotals.lean).
  GIVEN WITH THE SEED: the statements are not yours to turn. If you find one false, say at which input.
  Laid BY PROGRAM, IN A SANDBOX (cutbox-rows.mjs): the forced cells as the released guide's own fill.sh prints them over the translation 480324f579a8da88… (all of the seat's roots in one cut). By AI agents, Wed Nov 11 2026. No macro, syntax, notation, axiom, sorry.
-/
import Derived.Test.YtlfjlokfciejnaaGreatChecked
import GoSem.Claim
import GoSem.ClaimJoined
import GoSem.ClaimMapViews
import Derived.JoinedTies
import Derived.KernelRfl
namespace Go.Proofs.YtlfjlokfciejnaaGreat
/- THE CELL 'sum', in the pinned program and in every row, IS THE sha256 OF THE DUMP (.gsa) THAT YtlfjlokfciejnaaGreatProg.lean LOADS. Nothing in Lean hashes anything: it is a label: what it is worth is what the hold of that sum in a sandbox is worth. -/
noncomputable def Tryz.pinned : Pinned := { name := "ytlfjlokfciejnaagreat", sum := "480324f579a8da882318ec7b740924704046b8bca384284dcc0023ac1d539837", checked := Tryz.checked }
namespace Rows
def none {H : Type} : Left H := { results := [], args := [] }

/-- 'graduslaw20.CodeMakes': WHATEVER THE INPUT: true; the input reads as it did. -/
def codeMakesSpec : ChangeSpec := { name := "codeMakes", fn := fun _ => fun
  | [d1, d2] => { results := [.lit (.bool true)], args := [d1, d2] }
  | _ => none }
def codeMakesRow : OpenClaim := { program := "ytlfjlokfciejnaagreat", sum := "480324f579a8da882318ec7b740924704046b8bca384284dcc0023ac1d539837", func := "gradus/graduslaw20.CodeMakes", spec := "codeMakes", unfollowed := true, recurses := true, plainKeys := false, apart := false }
def CodeMakesSaid : Prop := codeMakesRow.holds Tryz.pinned (OpenSpec.ofChange codeMakesSpec)

/-- ITS FALSE NEIGHBOUR: 'it returns false'. Refute it at one input. -/
def codeMakesWrong : ChangeSpec := { name := "codeMakes", fn := fun _ => fun
  | [d1, d2] => { results := [.lit (.bool false)], args := [d1, d2] }
  | _ => none }
def CodeMakesWrongFalsely : Prop := codeMakesRow.holds Tryz.pinned (OpenSpec.ofChange codeMakesWrong)

/-- 'graduslaw20.CodeAhead': WHATEVER THE INPUT: true; the input reads as it did. -/
def codeAheadSpec : ChangeSpec := { name := "codeAhead", fn := fun _ => fun
  | [d1, d2] => { results := [.lit (.bool true)], args := [d1, d2] }
  | _ => none }
def codeAheadRow : OpenClaim := { program := "ytlfjlokfciejnaagreat", sum := "480324f579a8da882318ec7b740924704046b8bca384284dcc0023ac1d539837", func := "gradus/graduslaw20.CodeAhead", spec := "codeAhead", unfollowed := true, recurses := true, plainKeys := false, apart := false }
def CodeAheadSaid : Prop := codeAheadRow.holds Tryz.pinned (OpenSpec.ofChange codeAheadSpec)

/-- ITS FALSE NEIGHBOUR: 'it returns false'. Refute it at one input. -/
def codeAheadWrong : ChangeSpec := { name := "codeAhead", fn := fun _ => fun
  | [d1, d2] => { results := [.lit (.bool false)], args := [d1, d2] }
  | _ => none }
def CodeAheadWrongFalsely : Prop := codeAheadRow.holds Tryz.pinned (OpenSpec.ofChange codeAheadWrong)

/-- 'graduslaw20.CodeAgain': WHATEVER THE INPUT: true; the input reads as it did. -/
def codeAgainSpec : ChangeSpec := { name := "codeAgain", fn := fun _ => fun
  | [d1, d2] => { results := [.lit (.bool true)], args := [d1, d2] }
  | _ => none }
def codeAgainRow : OpenClaim := { program := "ytlfjlokfciejnaagreat", sum := "480324f579a8da882318ec7b740924704046b8bca384284dcc0023ac1d539837", func := "gradus/graduslaw20.CodeAgain", spec := "codeAgain", unfollowed := true, recurses := true, plainKeys := false, apart := false }
def CodeAgainSaid : Prop := codeAgainRow.holds Tryz.pinned (OpenSpec.ofChange codeAgainSpec)

/-- ITS FALSE NEIGHBOUR: 'it returns false'. Refute it at one input. -/
def codeAgainWrong : ChangeSpec := { name := "codeAgain", fn := fun _ => fun
  | [d1, d2] => { results := [.lit (.bool false)], args := [d1, d2] }
  | _ => none }
def CodeAgainWrongFalsely : Prop := codeAgainRow.holds Tryz.pinned (OpenSpec.ofChange codeAgainWrong)

/-- 'graduslaw20.CodeStatic': WHATEVER THE INPUT: true; the input reads as it did. -/
def codeStaticSpec : ChangeSpec := { name := "codeStatic", fn := fun _ => fun
  | [d1, d2] => { results := [.lit (.bool true)], args := [d1, d2] }
  | _ => none }
def codeStaticRow : OpenClaim := { program := "ytlfjlokfciejnaagreat", sum := "480324f579a8da882318ec7b740924704046b8bca384284dcc0023ac1d539837", func := "gradus/graduslaw20.CodeStatic", spec := "codeStatic", unfollowed := true, recurses := true, plainKeys := false, apart := false }
def CodeStaticSaid : Prop := codeStaticRow.holds Tryz.pinned (OpenSpec.ofChange codeStaticSpec)

/-- ITS FALSE NEIGHBOUR: 'it returns false'. Refute it at one input. -/
def codeStaticWrong : ChangeSpec := { name := "codeStatic", fn := fun _ => fun
  | [d1, d2] => { results := [.lit (.bool false)], args := [d1, d2] }
  | _ => none }
def CodeStaticWrongFalsely : Prop := codeStaticRow.holds Tryz.pinned (OpenSpec.ofChange codeStaticWrong)

/- THE SECOND FORM. 'bulk': how many values and letters a reading holds, each counted each time it is reached (what is shared counts as often as it is met; a slice's spare places count too). A statement '..UptoSaid' is the law's where the arguments, and the package variables that the reading takes, are together of bulk at most 1048576: NARROWER than '..Said'. Prove '..Said' where nothing that the law and all that it calls make is longer than what came in: it says more and counts as full. Else prove '..UptoSaid'. A law counts once. -/
mutual
def uptoBulk {H : Type} : DataW H → Nat
  | .lit (.string bytes) => bytes.length + 1
  | .lit _ => 1
  | .nil => 1
  | .ptr d => uptoBulk d + 1
  | .slice elems spare => uptoBulkAll elems + uptoBulkAll spare + 1
  | .agg parts => uptoBulkAll parts + 1
  | .iface _ d => uptoBulk d + 1
  | .map entries => uptoBulkEntries entries + 1
  | .held _ => 1
def uptoBulkAll {H : Type} : List (DataW H) → Nat
  | [] => 0
  | d :: r => uptoBulk d + uptoBulkAll r
def uptoBulkEntries {H : Type} : List (Lit × DataW H) → Nat
  | [] => 0
  | x :: r => uptoBulkEntry x + uptoBulkEntries r
def uptoBulkEntry {H : Type} : Lit × DataW H → Nat
  | (.string bytes, d) => bytes.length + uptoBulk d + 1
  | (_, d) => uptoBulk d + 1
 end
def uptoSmall : (H : Type) → List (DataW H) → Bool := fun _ ds => decide (uptoBulkAll ds ≤ 1048576)
def OpenSpec.upto (s : _root_.Go.ChangeSpec) : _root_.Go.OpenSpec := { _root_.Go.OpenSpec.ofChange s with cond := some uptoSmall }

/-- 'graduslaw20.CodeMakes', WHERE WHAT IT READS IS OF BULK AT MOST 1048576: true; the input reads as it did. -/
def codeMakesUptoRow : OpenClaim := { program := "ytlfjlokfciejnaagreat", sum := "480324f579a8da882318ec7b740924704046b8bca384284dcc0023ac1d539837", func := "gradus/graduslaw20.CodeMakes", spec := "codeMakes", unfollowed := true, recurses := true, plainKeys := false, apart := false, narrowed := true }
def CodeMakesUptoSaid : Prop := codeMakesUptoRow.holds Tryz.pinned (OpenSpec.upto codeMakesSpec)

/-- 'graduslaw20.CodeAhead', WHERE WHAT IT READS IS OF BULK AT MOST 1048576: true; the input reads as it did. -/
def codeAheadUptoRow : OpenClaim := { program := "ytlfjlokfciejnaagreat", sum := "480324f579a8da882318ec7b740924704046b8bca384284dcc0023ac1d539837", func := "gradus/graduslaw20.CodeAhead", spec := "codeAhead", unfollowed := true, recurses := true, plainKeys := false, apart := false, narrowed := true }
def CodeAheadUptoSaid : Prop := codeAheadUptoRow.holds Tryz.pinned (OpenSpec.upto codeAheadSpec)

/-- 'graduslaw20.CodeAgain', WHERE WHAT IT READS IS OF BULK AT MOST 1048576: true; the input reads as it did. -/
def codeAgainUptoRow : OpenClaim := { program := "ytlfjlokfciejnaagreat", sum := "480324f579a8da882318ec7b740924704046b8bca384284dcc0023ac1d539837", func := "gradus/graduslaw20.CodeAgain", spec := "codeAgain", unfollowed := true, recurses := true, plainKeys := false, apart := false, narrowed := true }
def CodeAgainUptoSaid : Prop := codeAgainUptoRow.holds Tryz.pinned (OpenSpec.upto codeAgainSpec)

/-- 'graduslaw20.CodeStatic', WHERE WHAT IT READS IS OF BULK AT MOST 1048576: true; the input reads as it did. -/
def codeStaticUptoRow : OpenClaim := { program := "ytlfjlokfciejnaagreat", sum := "480324f579a8da882318ec7b740924704046b8bca384284dcc0023ac1d539837", func := "gradus/graduslaw20.CodeStatic", spec := "codeStatic", unfollowed := true, recurses := true, plainKeys := false, apart := false, narrowed := true }
def CodeStaticUptoSaid : Prop := codeStaticUptoRow.holds Tryz.pinned (OpenSpec.upto codeStaticSpec)

end Rows
end Go.Proofs.YtlfjlokfciejnaaGreat
