import Derived.Test.YtaonnnlgceillaaVer13
set_option linter.unusedVariables false
set_option linter.unusedSimpArgs false
namespace Go.Ver
open Go.Abs Go.Proofs

theorem indexCo_ok (l : List Coe) (g : FuncId) (caps : List D) (q : Coe → Bool) (H : ∀ x, x ∈ l → PCall Try.prog g (.agg x.enc :: caps.map .one) (.one (.bool (q x)))) :
    PCall Try.prog 39 [.one (.sl false 5 (l.map Coe.enc)), .one (.fn (.func g) caps)] (.one (.int .i64 (fi q 0 l))) := by
  refine w39 (by simp) fun o c' hN hp => ?_
  have hl : l.length ≤ lenMax := by
    have := o.1; simp only [DV.ok, D.ok] at this; simpa using this.1
  unfold lenMax at hl
  unfold mc39
  simp
  refine W.loop Try.checked.mixed hp (fun j : Nat => j ≤ l.length ∧ fi q j (l.drop j) = fi q 0 l) (fun j => [(8, .c (.d (.int .i64 j))), (7, .c (.d (.int .i64 l.length))), (0, .c (.d (.sl false 5 (l.map Coe.enc)))), (1, .c (.d (.fn (.func g) caps)))]) (fun _ => []) (fun j => l.length - j) 0 [] ⟨by simp, by simp⟩ (by simp) fun j hj => ?_
  obtain ⟨h1, h2⟩ := hj
  simp
  refine gd.mk (fun h => ?_) (fun h => ?_)
  · simp at h
    have hj : j < l.length := by omega
    simp [List.getElem?_eq_getElem hj]
    rw [List.drop_eq_getElem_cons hj, fi] at h2
    refine callK.mk (H _ (List.getElem_mem hj)) ?_
    simp
    refine gd.mk (fun h' => ?_) (fun h' => ?_)
    · rw [if_pos h'] at h2
      exact h2
    · rw [Bool.not_true] at h'
      rw [if_neg (by rw [h']; simp)] at h2
      refine Abs.Next.mk (j + 1) [] ⟨by omega, h2⟩ (by omega) ?_
      simp
      exact wrap_i64 (by omega) (by omega)
  · have hj : j = l.length := by simp at h; omega
    rw [← h2, hj]
    simp [fi]

theorem containsCo_ok (l : List Coe) (g : FuncId) (caps : List D) (q : Coe → Bool) (H : ∀ x, x ∈ l → PCall Try.prog g (.agg x.enc :: caps.map .one) (.one (.bool (q x)))) :
    PCall Try.prog 20 [.one (.sl false 5 (l.map Coe.enc)), .one (.fn (.func g) caps)] (.one (.bool (l.any q))) := by
  refine w20 (by simp) fun o c' hN hp => ?_
  unfold mc20
  simp
  refine callK.mk (indexCo_ok l g caps q H) ?_
  simp
  exact fi_any q 0 l

theorem indexSh_ok (l : List (List ByteArray)) (g : FuncId) (caps : List D) (q : List ByteArray → Bool) (H : ∀ x, x ∈ l → PCall Try.prog g (.one (.sl false 1 (encS x)) :: caps.map .one) (.one (.bool (q x)))) :
    PCall Try.prog 42 [.one (.sl false 1 (l.map fun x => [.sl false 1 (encS x)])), .one (.fn (.func g) caps)] (.one (.int .i64 (fi q 0 l))) := by
  refine w42 (by simp) fun o c' hN hp => ?_
  have hl : l.length ≤ lenMax := by
    have := o.1; simp only [DV.ok, D.ok] at this; simpa using this.1
  unfold lenMax at hl
  unfold mc42
  simp
  refine W.loop Try.checked.mixed hp (fun j : Nat => j ≤ l.length ∧ fi q j (l.drop j) = fi q 0 l) (fun j => [(8, .c (.d (.int .i64 j))), (7, .c (.d (.int .i64 l.length))), (0, .c (.d (.sl false 1 (l.map fun x => [.sl false 1 (encS x)])))), (1, .c (.d (.fn (.func g) caps)))]) (fun _ => []) (fun j => l.length - j) 0 [] ⟨by simp, by simp⟩ (by simp) fun j hj => ?_
  obtain ⟨h1, h2⟩ := hj
  simp
  refine gd.mk (fun h => ?_) (fun h => ?_)
  · simp at h
    have hj : j < l.length := by omega
    simp [List.getElem?_eq_getElem hj]
    rw [List.drop_eq_getElem_cons hj, fi] at h2
    refine callK.mk (H _ (List.getElem_mem hj)) ?_
    simp
    refine gd.mk (fun h' => ?_) (fun h' => ?_)
    · rw [if_pos h'] at h2
      exact h2
    · rw [Bool.not_true] at h'
      rw [if_neg (by rw [h']; simp)] at h2
      refine Abs.Next.mk (j + 1) [] ⟨by omega, h2⟩ (by omega) ?_
      simp
      exact wrap_i64 (by omega) (by omega)
  · have hj : j = l.length := by simp at h; omega
    rw [← h2, hj]
    simp [fi]

theorem containsSh_ok (l : List (List ByteArray)) (g : FuncId) (caps : List D) (q : List ByteArray → Bool) (H : ∀ x, x ∈ l → PCall Try.prog g (.one (.sl false 1 (encS x)) :: caps.map .one) (.one (.bool (q x)))) :
    PCall Try.prog 23 [.one (.sl false 1 (l.map fun x => [.sl false 1 (encS x)])), .one (.fn (.func g) caps)] (.one (.bool (l.any q))) := by
  refine w23 (by simp) fun o c' hN hp => ?_
  unfold mc23
  simp
  refine callK.mk (indexSh_ok l g caps q H) ?_
  simp
  exact fi_any q 0 l


def mainOk (c : Cod) : Bool := hasB c.main c.procs.length && decide (capsOf c c.main = 0)
def verifyOf (may : Coe → Bool) (rise : List ByteArray → Bool) (c : Cod) : Bool :=
  !decide (4096 < (c.procs.length : Int)) && (mainOk c && (c.procs.all (procOf c) && (!(c.cos.any fun d => !may d) && !(c.shapes.any fun l => !rise l))))

set_option maxRecDepth 20000 in
theorem Verify_ok (c : Cod) (may : Coe → Bool) (rise : List ByteArray → Bool) (H1 : ∀ d, d ∈ c.cos → PCall Try.prog 21 (.agg d.enc :: [].map .one) (.one (.bool ((fun d => !may d) d)))) (H2 : ∀ l, l ∈ c.shapes → PCall Try.prog 24 (.one (.sl false 1 (encS l)) :: [].map .one) (.one (.bool ((fun l => !rise l) l)))) :
    PCall Try.prog 10 [.agg c.enc] (.one (.bool (verifyOf may rise c))) := by
  refine w10 (by simp) fun o c' hN hp => ?_
  have hl : c.procs.length ≤ lenMax := by
    have := o.1; simp only [DV.ok, Cod.enc, D.okL, D.ok] at this; simpa using this.2.2.2.2.1.1
  unfold lenMax at hl
  unfold mc10
  simp
  refine gd.mk (fun h => ?_) (fun h => ?_)
  · simp only [decide_eq_false_iff_not] at h
    have e1 : verifyOf may rise c = (mainOk c && (c.procs.all (procOf c) && (!(c.cos.any fun d => !may d) && !(c.shapes.any fun l => !rise l)))) := by
      unfold verifyOf; rw [decide_eq_false h]; rfl
    refine callK.mk (has_ok' _ _) ?_
    simp
    refine gd.mk (fun h' => ?_) (fun h' => ?_)
    · have h2 := hasB_true.1 (by simpa using h' : hasB c.main c.procs.length = true)
      have hm : c.main.toNat < c.procs.length := by omega
      have hcap : capsOf c c.main = c.procs[c.main.toNat].caps := by
        unfold capsOf; rw [if_pos h2.1, List.getElem?_eq_getElem hm]
      simp [List.getElem?_eq_getElem hm]
      refine ⟨h2.1, gd.mk (fun h3 => ?_) (fun h3 => ?_)⟩
      · simp at h3
        rw [e1, mainOk, hcap, decide_eq_false h3, Bool.and_false, Bool.false_and]
      · simp at h3
        have e2 : verifyOf may rise c = (c.procs.all (procOf c) && (!(c.cos.any fun d => !may d) && !(c.shapes.any fun l => !rise l))) := by
          rw [e1, mainOk, hcap, decide_eq_true h3, Bool.and_true, hasB_true.2 h2, Bool.true_and]
        refine W.loop Try.checked.mixed hp (fun j : Nat => j ≤ c.procs.length ∧ (c.procs.drop j).all (procOf c) = c.procs.all (procOf c)) (fun j => [(31, .c (.d (.int .i64 j))), (30, .c (.d (.int .i64 c.procs.length))), (29, .c (.d (.sl false 3 (c.procs.map Prc.enc)))), (1, .c (.d (.rp c.enc 0)))]) (fun _ => []) (fun j => c.procs.length - j) 0 [] ⟨by simp, by simp⟩ (by simp) fun j hj => ?_
        obtain ⟨q1, q2⟩ := hj
        simp
        refine gd.mk (fun h => ?_) (fun h => ?_)
        · simp at h
          have hj : j < c.procs.length := by omega
          simp [List.getElem?_eq_getElem hj]
          rw [List.drop_eq_getElem_cons hj, List.all_cons] at q2
          refine callK.mk (function_ok _ _) ?_
          simp
          refine gd.mk (fun h' => ?_) (fun h' => ?_)
          · simp at h'
            rw [e2, ← q2, h']; rfl
          · simp at h'
            refine Abs.Next.mk (j + 1) [] ⟨by omega, ?_⟩ (by omega) ?_
            · rw [← q2, h', Bool.true_and]
            · simp
              exact wrap_i64 (by omega) (by omega)
        · have hj : j = c.procs.length := by simp at h; omega
          rw [hj] at q2
          simp only [List.drop_length, List.all_nil] at q2
          refine callK.mk (containsCo_ok c.cos 21 [] _ H1) ?_
          simp only [DV.av]
          cases hc : (c.cos.any fun d => !may d) with
          | true =>
            simp
            rw [e2, hc]; simp
          | false =>
            simp
            refine callK.mk (containsSh_ok c.shapes 24 [] _ H2) ?_
            rw [e2, hc, ← q2]
            simp
    · have h2 : hasB c.main c.procs.length = false := by simpa using h'
      rw [e1, mainOk, h2]; rfl
  · simp only [Bool.not_false, decide_eq_true_eq] at h
    unfold verifyOf; rw [decide_eq_true h]; rfl
end Go.Ver
