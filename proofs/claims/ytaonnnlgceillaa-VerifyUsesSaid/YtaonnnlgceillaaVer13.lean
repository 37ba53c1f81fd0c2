import Derived.Test.YtaonnnlgceillaaVer12
set_option linter.unusedVariables false
set_option linter.unusedSimpArgs false
namespace Go.Ver
open Go.Abs Go.Proofs

def fi {α : Type} (q : α → Bool) : Nat → List α → Int
  | _, [] => -1
  | j, x :: l => if q x = true then (j : Int) else fi q (j + 1) l
theorem fi_any {α : Type} (q : α → Bool) : ∀ (j : Nat) (l : List α), decide (0 ≤ fi q j l) = l.any q
  | _, [] => by simp [fi]
  | j, x :: l => by
    have ih := fi_any q (j + 1) l
    simp only [fi, List.any_cons]
    split
    · rename_i h; rw [h, Bool.true_or]; simp
    · rename_i h
      rw [Bool.not_eq_true] at h
      rw [h, Bool.false_or]; exact ih

theorem fn1_ok (c : Cod) (p : Prc) (i : Ins) : PCall Try.prog 37 [.agg i.enc, .one (.rp c.enc 0), .one (.rp p.enc 0)] (.one (.bool (!instrOf c p i))) := by
  refine w37 (by simp) fun o c' hN hp => ?_
  unfold mc37
  simp
  refine callK.mk (instr_ok _ _ _) ?_
  simp

theorem index_ok (l : List Ins) (g : FuncId) (caps : List D) (q : Ins → Bool) (H : ∀ x, x ∈ l → PCall Try.prog g (.agg x.enc :: caps.map .one) (.one (.bool (q x)))) :
    PCall Try.prog 47 [.one (.sl false 4 (l.map Ins.enc)), .one (.fn (.func g) caps)] (.one (.int .i64 (fi q 0 l))) := by
  refine w47 (by simp) fun o c' hN hp => ?_
  have hl : l.length ≤ lenMax := by
    have := o.1; simp only [DV.ok, D.ok] at this; simpa using this.1
  unfold lenMax at hl
  unfold mc47
  simp
  refine W.loop Try.checked.mixed hp (fun j : Nat => j ≤ l.length ∧ fi q j (l.drop j) = fi q 0 l) (fun j => [(8, .c (.d (.int .i64 j))), (7, .c (.d (.int .i64 l.length))), (0, .c (.d (.sl false 4 (l.map Ins.enc)))), (1, .c (.d (.fn (.func g) caps)))]) (fun _ => []) (fun j => l.length - j) 0 [] ⟨by simp, by simp⟩ (by simp) fun j hj => ?_
  obtain ⟨h1, h2⟩ := hj
  simp
  refine gd.mk (fun h => ?_) (fun h => ?_)
  · simp at h
    have hj : j < l.length := by omega
    simp [List.getElem?_eq_getElem hj]
    rw [List.drop_eq_getElem_cons hj, fi] at h2
    refine callK.mk (H _ (List.getElem_mem hj)) ?_
    simp
    refine gd.mk (fun h' => ?_) (fun h' => ?_)
    · rw [if_pos h'] at h2
      exact h2
    · rw [Bool.not_true] at h'
      rw [if_neg (by rw [h']; simp)] at h2
      refine Abs.Next.mk (j + 1) [] ⟨by omega, h2⟩ (by omega) ?_
      simp
      exact wrap_i64 (by omega) (by omega)
  · have hj : j = l.length := by simp at h; omega
    rw [← h2, hj]
    simp [fi]

theorem contains_ok (l : List Ins) (g : FuncId) (caps : List D) (q : Ins → Bool) (H : ∀ x, x ∈ l → PCall Try.prog g (.agg x.enc :: caps.map .one) (.one (.bool (q x)))) :
    PCall Try.prog 36 [.one (.sl false 4 (l.map Ins.enc)), .one (.fn (.func g) caps)] (.one (.bool (l.any q))) := by
  refine w36 (by simp) fun o c' hN hp => ?_
  unfold mc36
  simp
  refine callK.mk (index_ok l g caps q H) ?_
  simp
  exact fi_any q 0 l

def procOf (c : Cod) (p : Prc) : Bool :=
  !(decide (p.caps < 0 ∨ p.regs ≤ p.caps ∨ 256 < p.regs ∨ p.code.length = 0 ∨ 65536 < p.code.length)) &&
  ((match p.code[p.code.length - 1]? with | some i => decide (i.op = 23 ∨ i.op = 24) | none => false) && !(p.code.any fun i => !instrOf c p i))

set_option maxRecDepth 20000 in
theorem function_ok (c : Cod) (p : Prc) : PCall Try.prog 19 [.agg c.enc, .agg p.enc] (.one (.bool (procOf c p))) := by
  refine w19 (by simp) fun o c' hN hp => ?_
  have hl : p.code.length ≤ lenMax := by
    have := o.2.1; simp only [DV.ok, Prc.enc, D.okL, D.ok] at this; simpa using this.2.2.1.1
  unfold lenMax at hl
  unfold mc19
  simp
  repeat' (refine gd.mk (fun h => ?_) (fun h => ?_))
  all_goals (simp only [Bool.not_true, Bool.not_false, decide_eq_true_eq, decide_eq_false_iff_not] at *)
  all_goals (try (have h0 : p.code.length = 0 := by simp_all))
  all_goals (first | (unfold procOf; rw [decide_eq_true (by omega)]; rfl) | skip)
  have hne : p.code.length ≠ 0 := by
    intro e
    have := List.length_eq_zero_iff.1 e
    contradiction
  have hw : IntKind.i64.wrap ((p.code.length : Int) - 1) = ((p.code.length - 1 : Nat) : Int) := by
    rw [wrap_i64 (by omega) (by omega)]; omega
  have hj : p.code.length - 1 < p.code.length := by omega
  have e : procOf c p = (decide (p.code[p.code.length - 1].op = 23 ∨ p.code[p.code.length - 1].op = 24) && !(p.code.any fun i => !instrOf c p i)) := by
    unfold procOf
    rw [decide_eq_false (by omega), List.getElem?_eq_getElem hj]
    rfl
  have H : ∀ x, x ∈ p.code → PCall Try.prog 37 (.agg x.enc :: [D.rp c.enc 0, D.rp p.enc 0].map .one) (.one (.bool ((fun i => !instrOf c p i) x))) := fun x _ => fn1_ok c p x
  rw [hw]
  simp [List.getElem?_eq_getElem hj]
  refine gd.mk (fun h2 => gd.mk (fun h3 => ?_) (fun h3 => ?_)) (fun h2 => ?_)
  · simp at h2 h3
    rw [e, decide_eq_false (by omega)]; rfl
  · simp at h2 h3
    refine callK.mk (contains_ok p.code 37 _ _ H) ?_
    rw [e, decide_eq_true (by omega)]
    simp
  · simp at h2
    refine callK.mk (contains_ok p.code 37 _ _ H) ?_
    rw [e, decide_eq_true (by omega)]
    simp
end Go.Ver
