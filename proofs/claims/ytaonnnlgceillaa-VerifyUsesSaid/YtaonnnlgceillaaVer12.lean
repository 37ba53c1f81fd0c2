import Derived.Test.YtaonnnlgceillaaVer11
set_option linter.unusedVariables false
set_option linter.unusedSimpArgs false
namespace Go.Ver
open Go.Abs Go.Proofs

def hasB (a b : Int) : Bool := decide (0 ≤ a) && decide (a < b)
theorem has_ok' (a b : Int) : PCall Try.prog 18 [.one (.int .i64 a), .one (.int .i64 b)] (.one (.bool (hasB a b))) := has_ok a b
theorem hasB_true {a b : Int} : hasB a b = true ↔ 0 ≤ a ∧ a < b := by simp [hasB]

def operandOf (c : Cod) (p : Prc) (i : Ins) (s n : Int) : Bool :=
  if s = 1 ∨ s = 2 ∨ s = 3 then hasB n p.regs
  else if s = 4 then hasB n c.ints.length
  else if s = 5 then hasB n c.strs.length
  else if s = 6 then hasB n 2
  else if s = 7 then hasB n 6
  else if s = 8 then hasB n c.cos.length
  else if s = 9 then hasB n c.procs.length && decide (capsOf c n = 0)
  else if s = 10 then hasB n c.procs.length
  else if s = 11 then hasB n c.shapes.length
  else if s = 12 then hasB n (IntKind.i64.wrap (p.regs + 1)) && decide (manyOf c i ≤ IntKind.i64.wrap (p.regs - n))
  else if s = 13 then hasB n p.code.length
  else true

set_option maxRecDepth 20000 in
set_option maxHeartbeats 1000000 in
theorem operand_ok (c : Cod) (p : Prc) (i : Ins) (s n : Int) : PCall Try.prog 48 [.agg c.enc, .agg p.enc, .agg i.enc, .one (.int .i64 s), .one (.int .i64 n)] (.one (.bool (operandOf c p i s n))) := by
  refine w48 (by simp) fun o c' hN hp => ?_
  unfold mc48
  simp
  repeat' (refine gd.mk (fun h => ?_) (fun h => ?_))
  all_goals (simp only [Bool.not_true, Bool.not_false, decide_eq_true_eq, decide_eq_false_iff_not] at *)
  all_goals (unfold operandOf)
  all_goals (repeat (first | rw [if_pos (by omega)] | rw [if_neg (by omega)]))
  all_goals (first | done | skip)
  all_goals (try (refine callK.mk (has_ok' _ _) ?_; simp; done))
  · refine callK.mk (has_ok' _ _) ?_
    simp
    refine gd.mk (fun h' => ?_) (fun h' => ?_)
    · have h2 := hasB_true.1 h'
      have : n.toNat < c.procs.length := by omega
      simp [List.getElem?_eq_getElem this, capsOf, h2, h']
    · rw [Bool.not_true] at h'
      simp [h']
  · refine callK.mk (has_ok' _ _) ?_
    simp
    refine gd.mk (fun h' => ?_) (fun h' => ?_)
    · refine callK.mk (many_ok _ _) ?_
      simp
      refine ⟨by decide, ?_⟩
      exact fun _ => h'
    · rw [Bool.not_true] at h'
      refine ⟨by decide, ?_⟩
      intro h2
      rw [h'] at h2
      cases h2

def colOk (c : Cod) (p : Prc) (i : Ins) (k : Nat) : Bool := operandOf c p i (colS i k) (colN i k)
def instrOf (c : Cod) (p : Prc) (i : Ins) : Bool := decide (0 ≤ i.op ∧ i.op < 33) && (colOk c p i 0 && (colOk c p i 1 && colOk c p i 2))

theorem instr_ok (c : Cod) (p : Prc) (i : Ins) : PCall Try.prog 38 [.agg c.enc, .agg p.enc, .agg i.enc] (.one (.bool (instrOf c p i))) := by
  refine w38 (by simp) fun o c' hN hp => ?_
  unfold mc38
  simp
  refine callK.mk (of_ok _) ?_
  simp only [DV.av, DV.avs]
  simp
  refine gd.mk (fun h => ?_) (fun h => ?_)
  · simp [instrOf]
    intro h1 h2
    simp [h1, h2] at h
  · have hop : 0 ≤ i.op ∧ i.op < 33 := by simpa using h
    refine callK.mk (columns_ok _) ?_
    simp
    rw [show [AC.d (D.int IntKind.i64 i.a), AC.d (D.int IntKind.i64 i.b), AC.d (D.int IntKind.i64 i.c)] = (colD i).map .d from rfl]
    refine W.loop Try.checked.mixed hp (fun k : Nat => k ≤ 3 ∧ ∀ j, j < k → colOk c p i j = true) (fun k => [(21, .c (.d (.int .i64 k))), (7, .c (.ptr 0 0)), (20, .ag ((colD i).map .d)), (3, .c (.d (.rp c.enc 0))), (4, .c (.d (.rp p.enc 0))), (5, .c (.d (.rp i.enc 0)))])
      (fun k => [.box ((row3 (sortOf i.op)).map .d)]) (fun k => 3 - k) 0 [0] ⟨by simp, by simp⟩ (by simp) fun k hk => ?_
    obtain ⟨hk, hall⟩ := hk
    simp
    refine gd.mk (fun h => ?_) (fun h => ?_)
    · have h : k < 3 := by simp at h; omega
      simp [colD_get h, colS_get h]
      refine ⟨by omega, callK.mk (operand_ok _ _ _ _ _) ?_⟩
      simp
      refine ⟨by decide, gd.mk (fun h' => ?_) (fun h' => ?_)⟩
      · have h2 : colOk c p i k = false := by unfold colOk; simpa using h'
        unfold instrOf
        have : k = 0 ∨ k = 1 ∨ k = 2 := by omega
        rcases this with rfl | rfl | rfl <;> simp [h2]
      · have h2 : colOk c p i k = true := by unfold colOk; simpa using h'
        refine Abs.Next.mk (k + 1) [0] ⟨by omega, fun j hj => ?_⟩ (by omega) ?_
        · by_cases hjk : j = k
          · rw [hjk]; exact h2
          · exact hall j (by omega)
        · simp
          exact wrap_i64 (by omega) (by omega)
    · have hk : k = 3 := by simp at h; omega
      subst hk
      simp [instrOf, hop, hall 0 (by omega), hall 1 (by omega), hall 2 (by omega)]
end Go.Ver
