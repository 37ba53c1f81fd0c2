/-
  NARROWER THAN 'FOR EVERY INPUT', by the rows' own cells (each row's printed sentence says how): VerifyCodes: loops · VerifyAdds: loops · VerifyUses: loops · VerifyRegs: loops · VerifyOne: loops.
  DERIVED. THE GIVEN ROWS OF THIS SEAT. 5 by the template 'for every input the law returns true; each argument reads behind the call as it read before'; 0 by the template 'total and deterministic' (their statements: YtaonnnlgceillaaTotals.lean).
  GIVEN WITH THE SEED: the statements are not yours to turn. If you find one false, say at which input.
  Laid BY PROGRAM, IN A SANDBOX (cutbox-rows.mjs): the forced cells as the released guide's own fill.sh prints them over the translation 8ca8ffe7409d2951… (all of the seat's roots in one cut). By AI agents, Wed Nov 11 2026. No macro, syntax, notation, axiom, sorry.
-/
import Derived.Test.YtaonnnlgceillaaChecked
import GoSem.Claim
import GoSem.ClaimJoined
import GoSem.ClaimMapViews
import Derived.JoinedTies
import Derived.KernelRfl
namespace Go.Proofs.Ytaonnnlgceillaa
/- THE CELL 'sum', in the pinned program and in every row, IS THE sha256 OF THE DUMP (.gsa) THAT YtaonnnlgceillaaProg.lean LOADS. Nothing in Lean hashes anything: it is a label: what it is worth is what the hold of that sum in a sandbox is worth. -/
noncomputable def Try.pinned : Pinned := { name := "ytaonnnlgceillaa", sum := "8ca8ffe7409d29511267bb68dd35f82ba439c5fd12e19b9d5875bb6f31ee3003", checked := Try.checked }
namespace Rows
def none {H : Type} : Left H := { results := [], args := [] }

/-- 'graduslaw18.VerifyCodes': WHATEVER THE INPUT: true; the input reads as it did. -/
def verifyCodesSpec : ChangeSpec := { name := "verifyCodes", fn := fun _ => fun
  | [d] => { results := [.lit (.bool true)], args := [d] }
  | _ => none }
def verifyCodesRow : OpenClaim := { program := "ytaonnnlgceillaa", sum := "8ca8ffe7409d29511267bb68dd35f82ba439c5fd12e19b9d5875bb6f31ee3003", func := "gradus/graduslaw18.VerifyCodes", spec := "verifyCodes", inPlace := ["internal/bytealg.abigen_runtime_cmpstring"], unfollowed := true, recurses := true, loops := true, apart := false }
def VerifyCodesSaid : Prop := verifyCodesRow.holds Try.pinned (OpenSpec.ofChange verifyCodesSpec)

/-- ITS FALSE NEIGHBOUR: 'it returns false'. Refute it at one input. -/
def verifyCodesWrong : ChangeSpec := { name := "verifyCodes", fn := fun _ => fun
  | [d] => { results := [.lit (.bool false)], args := [d] }
  | _ => none }
def VerifyCodesWrongFalsely : Prop := verifyCodesRow.holds Try.pinned (OpenSpec.ofChange verifyCodesWrong)

/-- 'graduslaw18.VerifyAdds': WHATEVER THE INPUT: true; the input reads as it did. -/
def verifyAddsSpec : ChangeSpec := { name := "verifyAdds", fn := fun _ => fun
  | [d1, d2, d3] => { results := [.lit (.bool true)], args := [d1, d2, d3] }
  | _ => none }
def verifyAddsRow : OpenClaim := { program := "ytaonnnlgceillaa", sum := "8ca8ffe7409d29511267bb68dd35f82ba439c5fd12e19b9d5875bb6f31ee3003", func := "gradus/graduslaw18.VerifyAdds", spec := "verifyAdds", inPlace := ["internal/bytealg.abigen_runtime_cmpstring"], unfollowed := true, recurses := true, loops := true, apart := false }
def VerifyAddsSaid : Prop := verifyAddsRow.holds Try.pinned (OpenSpec.ofChange verifyAddsSpec)

/-- ITS FALSE NEIGHBOUR: 'it returns false'. Refute it at one input. -/
def verifyAddsWrong : ChangeSpec := { name := "verifyAdds", fn := fun _ => fun
  | [d1, d2, d3] => { results := [.lit (.bool false)], args := [d1, d2, d3] }
  | _ => none }
def VerifyAddsWrongFalsely : Prop := verifyAddsRow.holds Try.pinned (OpenSpec.ofChange verifyAddsWrong)

/-- 'graduslaw18.VerifyUses': WHATEVER THE INPUT: true; the input reads as it did. -/
def verifyUsesSpec : ChangeSpec := { name := "verifyUses", fn := fun _ => fun
  | [d1, d2] => { results := [.lit (.bool true)], args := [d1, d2] }
  | _ => none }
def verifyUsesRow : OpenClaim := { program := "ytaonnnlgceillaa", sum := "8ca8ffe7409d29511267bb68dd35f82ba439c5fd12e19b9d5875bb6f31ee3003", func := "gradus/graduslaw18.VerifyUses", spec := "verifyUses", inPlace := ["internal/bytealg.abigen_runtime_cmpstring"], unfollowed := true, recurses := true, loops := true, apart := false }
def VerifyUsesSaid : Prop := verifyUsesRow.holds Try.pinned (OpenSpec.ofChange verifyUsesSpec)

/-- ITS FALSE NEIGHBOUR: 'it returns false'. Refute it at one input. -/
def verifyUsesWrong : ChangeSpec := { name := "verifyUses", fn := fun _ => fun
  | [d1, d2] => { results := [.lit (.bool false)], args := [d1, d2] }
  | _ => none }
def VerifyUsesWrongFalsely : Prop := verifyUsesRow.holds Try.pinned (OpenSpec.ofChange verifyUsesWrong)

/-- 'graduslaw18.VerifyRegs': WHATEVER THE INPUT: true; the input reads as it did. -/
def verifyRegsSpec : ChangeSpec := { name := "verifyRegs", fn := fun _ => fun
  | [d] => { results := [.lit (.bool true)], args := [d] }
  | _ => none }
def verifyRegsRow : OpenClaim := { program := "ytaonnnlgceillaa", sum := "8ca8ffe7409d29511267bb68dd35f82ba439c5fd12e19b9d5875bb6f31ee3003", func := "gradus/graduslaw18.VerifyRegs", spec := "verifyRegs", inPlace := ["internal/bytealg.abigen_runtime_cmpstring"], unfollowed := true, recurses := true, loops := true, apart := false }
def VerifyRegsSaid : Prop := verifyRegsRow.holds Try.pinned (OpenSpec.ofChange verifyRegsSpec)

/-- ITS FALSE NEIGHBOUR: 'it returns false'. Refute it at one input. -/
def verifyRegsWrong : ChangeSpec := { name := "verifyRegs", fn := fun _ => fun
  | [d] => { results := [.lit (.bool false)], args := [d] }
  | _ => none }
def VerifyRegsWrongFalsely : Prop := verifyRegsRow.holds Try.pinned (OpenSpec.ofChange verifyRegsWrong)

/-- 'graduslaw18.VerifyOne': WHATEVER THE INPUT: true; the input reads as it did. -/
def verifyOneSpec : ChangeSpec := { name := "verifyOne", fn := fun _ => fun
  | [d1, d2] => { results := [.lit (.bool true)], args := [d1, d2] }
  | _ => none }
def verifyOneRow : OpenClaim := { program := "ytaonnnlgceillaa", sum := "8ca8ffe7409d29511267bb68dd35f82ba439c5fd12e19b9d5875bb6f31ee3003", func := "gradus/graduslaw18.VerifyOne", spec := "verifyOne", inPlace := ["internal/bytealg.abigen_runtime_cmpstring"], unfollowed := true, recurses := true, loops := true, apart := false }
def VerifyOneSaid : Prop := verifyOneRow.holds Try.pinned (OpenSpec.ofChange verifyOneSpec)

/-- ITS FALSE NEIGHBOUR: 'it returns false'. Refute it at one input. -/
def verifyOneWrong : ChangeSpec := { name := "verifyOne", fn := fun _ => fun
  | [d1, d2] => { results := [.lit (.bool false)], args := [d1, d2] }
  | _ => none }
def VerifyOneWrongFalsely : Prop := verifyOneRow.holds Try.pinned (OpenSpec.ofChange verifyOneWrong)

/- THE SECOND FORM. 'bulk': how many values and letters a reading holds, each counted each time it is reached (what is shared counts as often as it is met; a slice's spare places count too). A statement '..UptoSaid' is the law's where the arguments, and the package variables that the reading takes, are together of bulk at most 1048576: NARROWER than '..Said'. Prove '..Said' where nothing that the law and all that it calls make is longer than what came in: it says more and counts as full. Else prove '..UptoSaid'. A law counts once. -/
mutual
def uptoBulk {H : Type} : DataW H → Nat
  | .lit (.string bytes) => bytes.length + 1
  | .lit _ => 1
  | .nil => 1
  | .ptr d => uptoBulk d + 1
  | .slice elems spare => uptoBulkAll elems + uptoBulkAll spare + 1
  | .agg parts => uptoBulkAll parts + 1
  | .iface _ d => uptoBulk d + 1
  | .map entries => uptoBulkEntries entries + 1
  | .held _ => 1
def uptoBulkAll {H : Type} : List (DataW H) → Nat
  | [] => 0
  | d :: r => uptoBulk d + uptoBulkAll r
def uptoBulkEntries {H : Type} : List (Lit × DataW H) → Nat
  | [] => 0
  | x :: r => uptoBulkEntry x + uptoBulkEntries r
def uptoBulkEntry {H : Type} : Lit × DataW H → Nat
  | (.string bytes, d) => bytes.length + uptoBulk d + 1
  | (_, d) => uptoBulk d + 1
 end
def uptoSmall : (H : Type) → List (DataW H) → Bool := fun _ ds => decide (uptoBulkAll ds ≤ 1048576)
def OpenSpec.upto (s : _root_.Go.ChangeSpec) : _root_.Go.OpenSpec := { _root_.Go.OpenSpec.ofChange s with cond := some uptoSmall }

/-- 'graduslaw18.VerifyCodes', WHERE WHAT IT READS IS OF BULK AT MOST 1048576: true; the input reads as it did. -/
def verifyCodesUptoRow : OpenClaim := { program := "ytaonnnlgceillaa", sum := "8ca8ffe7409d29511267bb68dd35f82ba439c5fd12e19b9d5875bb6f31ee3003", func := "gradus/graduslaw18.VerifyCodes", spec := "verifyCodes", inPlace := ["internal/bytealg.abigen_runtime_cmpstring"], unfollowed := true, recurses := true, loops := true, apart := false, narrowed := true }
def VerifyCodesUptoSaid : Prop := verifyCodesUptoRow.holds Try.pinned (OpenSpec.upto verifyCodesSpec)

/-- 'graduslaw18.VerifyAdds', WHERE WHAT IT READS IS OF BULK AT MOST 1048576: true; the input reads as it did. -/
def verifyAddsUptoRow : OpenClaim := { program := "ytaonnnlgceillaa", sum := "8ca8ffe7409d29511267bb68dd35f82ba439c5fd12e19b9d5875bb6f31ee3003", func := "gradus/graduslaw18.VerifyAdds", spec := "verifyAdds", inPlace := ["internal/bytealg.abigen_runtime_cmpstring"], unfollowed := true, recurses := true, loops := true, apart := false, narrowed := true }
def VerifyAddsUptoSaid : Prop := verifyAddsUptoRow.holds Try.pinned (OpenSpec.upto verifyAddsSpec)

/-- 'graduslaw18.VerifyUses', WHERE WHAT IT READS IS OF BULK AT MOST 1048576: true; the input reads as it did. -/
def verifyUsesUptoRow : OpenClaim := { program := "ytaonnnlgceillaa", sum := "8ca8ffe7409d29511267bb68dd35f82ba439c5fd12e19b9d5875bb6f31ee3003", func := "gradus/graduslaw18.VerifyUses", spec := "verifyUses", inPlace := ["internal/bytealg.abigen_runtime_cmpstring"], unfollowed := true, recurses := true, loops := true, apart := false, narrowed := true }
def VerifyUsesUptoSaid : Prop := verifyUsesUptoRow.holds Try.pinned (OpenSpec.upto verifyUsesSpec)

/-- 'graduslaw18.VerifyRegs', WHERE WHAT IT READS IS OF BULK AT MOST 1048576: true; the input reads as it did. -/
def verifyRegsUptoRow : OpenClaim := { program := "ytaonnnlgceillaa", sum := "8ca8ffe7409d29511267bb68dd35f82ba439c5fd12e19b9d5875bb6f31ee3003", func := "gradus/graduslaw18.VerifyRegs", spec := "verifyRegs", inPlace := ["internal/bytealg.abigen_runtime_cmpstring"], unfollowed := true, recurses := true, loops := true, apart := false, narrowed := true }
def VerifyRegsUptoSaid : Prop := verifyRegsUptoRow.holds Try.pinned (OpenSpec.upto verifyRegsSpec)

/-- 'graduslaw18.VerifyOne', WHERE WHAT IT READS IS OF BULK AT MOST 1048576: true; the input reads as it did. -/
def verifyOneUptoRow : OpenClaim := { program := "ytaonnnlgceillaa", sum := "8ca8ffe7409d29511267bb68dd35f82ba439c5fd12e19b9d5875bb6f31ee3003", func := "gradus/graduslaw18.VerifyOne", spec := "verifyOne", inPlace := ["internal/bytealg.abigen_runtime_cmpstring"], unfollowed := true, recurses := true, loops := true, apart := false, narrowed := true }
def VerifyOneUptoSaid : Prop := verifyOneUptoRow.holds Try.pinned (OpenSpec.upto verifyOneSpec)

end Rows
end Go.Proofs.Ytaonnnlgceillaa
