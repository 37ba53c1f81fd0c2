import Derived.Test.YtaonnnlgceillaaVer4
set_option linter.unusedVariables false
set_option linter.unusedSimpArgs false
namespace Go.Ver
open Go.Abs Go.Proofs

@[simp] theorem row3_0 (x : Int × Int × Int) : (row3 x)[0]? = some (.int .i64 x.1) := rfl
@[simp] theorem row3_1 (x : Int × Int × Int) : (row3 x)[1]? = some (.int .i64 x.2.1) := rfl
@[simp] theorem row3_2 (x : Int × Int × Int) : (row3 x)[2]? = some (.int .i64 x.2.2) := rfl
@[simp] theorem row3_g0 (x : Int × Int × Int) (h : 0 < (row3 x).length) : (row3 x)[0] = .int .i64 x.1 := rfl
@[simp] theorem row3_g1 (x : Int × Int × Int) (h : 1 < (row3 x).length) : (row3 x)[1] = .int .i64 x.2.1 := rfl
@[simp] theorem row3_g2 (x : Int × Int × Int) (h : 2 < (row3 x).length) : (row3 x)[2] = .int .i64 x.2.2 := rfl

def setsOf (i : Ins) : Int := if (sortOf i.op).1 = 1 ∨ (sortOf i.op).1 = 3 then i.a else -1
theorem Sets_ok (i : Ins) : PCall Try.prog 14 [.agg i.enc] (.one (.int .i64 (setsOf i))) := by
  refine w14 (by simp) fun o c hN hp => ?_
  unfold mc14
  simp
  refine callK.mk (of_ok _) ?_
  simp
  refine gd.mk (fun h => ?_) (fun h => ?_)
  · simp at h
    refine gd.mk (fun h' => ?_) (fun h' => ?_) <;> simp_all [setsOf]
  · simp_all [setsOf]

def rsetsOf (i : Ins) : Int := if i.op < 0 ∨ 33 ≤ i.op ∨ i.op = 23 ∨ i.op = 24 ∨ i.op = 25 then -1 else i.a
theorem rSets_ok (i : Ins) : PCall Try.prog 15 [.agg i.enc] (.one (.int .i64 (rsetsOf i))) := by
  refine w15 (by simp) fun o c hN hp => ?_
  unfold mc15
  simp
  have e : ∀ P : Prop, [Decidable P] → decide P = !true → ¬ P := fun P _ h => by simpa using h
  repeat' (refine gd.mk (fun h => ?_) (fun h => ?_))
  all_goals (simp only [Bool.not_eq_true', decide_eq_true_eq, decide_eq_false_iff_not, Bool.not_false, Bool.not_true] at *)
  all_goals (unfold rsetsOf)
  all_goals (first | rw [if_pos (by omega)] | rw [if_neg (by omega)])

def capsOf (c : Cod) (n : Int) : Int := if 0 ≤ n then (match c.procs[n.toNat]? with | some p => p.caps | none => -1) else -1
theorem capsOf_not {c : Cod} {n : Int} (h : n < 0 ∨ c.procs.length ≤ n) : capsOf c n = -1 := by
  unfold capsOf
  split
  · rw [List.getElem?_eq_none (by omega)]
  · rfl
theorem caps_ok (c : Cod) (n : Int) : PCall Try.prog 32 [.agg c.enc, .one (.int .i64 n)] (.one (.int .i64 (capsOf c n))) := by
  refine w32 (by simp) fun o c' hN hp => ?_
  unfold mc32
  simp
  refine gd.mk (fun h => ?_) (fun h => ?_)
  · simp at h
    refine gd.mk (fun h' => ?_) (fun h' => ?_)
    · simp at h'
      rw [capsOf_not (.inr h')]
    · simp at h'
      have : n.toNat < c.procs.length := by omega
      simp [List.getElem?_eq_getElem this, capsOf, h]
  · simp at h
    rw [capsOf_not (.inl h)]

def fieldsOf (c : Cod) (n : Int) : Int := if 0 ≤ n then (match c.shapes[n.toNat]? with | some p => p.length | none => -1) else -1
theorem fieldsOf_not {c : Cod} {n : Int} (h : n < 0 ∨ c.shapes.length ≤ n) : fieldsOf c n = -1 := by
  unfold fieldsOf
  split
  · rw [List.getElem?_eq_none (by omega)]
  · rfl
theorem fields_ok (c : Cod) (n : Int) : PCall Try.prog 33 [.agg c.enc, .one (.int .i64 n)] (.one (.int .i64 (fieldsOf c n))) := by
  refine w33 (by simp) fun o c' hN hp => ?_
  unfold mc33
  simp
  refine gd.mk (fun h => ?_) (fun h => ?_)
  · simp at h
    refine gd.mk (fun h' => ?_) (fun h' => ?_)
    · simp at h'
      rw [fieldsOf_not (.inr h')]
    · simp at h'
      have : n.toNat < c.shapes.length := by omega
      simp [List.getElem?_eq_getElem this, fieldsOf, h]
  · simp at h
    rw [fieldsOf_not (.inl h)]

def manyOf (c : Cod) (i : Ins) : Int := if i.op = 17 ∧ 0 ≤ i.b ∧ i.b < c.procs.length then capsOf c i.b else if i.op = 18 ∧ 0 ≤ i.b ∧ i.b < c.shapes.length then fieldsOf c i.b else 0
theorem many_ok (c : Cod) (i : Ins) : PCall Try.prog 30 [.agg c.enc, .agg i.enc] (.one (.int .i64 (manyOf c i))) := by
  refine w30 (by simp) fun o c' hN hp => ?_
  unfold mc30
  simp
  refine gd.mk (fun h => ?_) (fun h => ?_)
  · simp at h
    refine callK.mk (has_ok _ _) ?_
    simp
    refine gd.mk (fun h' => ?_) (fun h' => ?_)
    · simp at h'
      have : i.b.toNat < c.procs.length := by omega
      simp [List.getElem?_eq_getElem this, manyOf, h, h', capsOf]
    · rw [Bool.not_true, Bool.and_eq_false_iff, decide_eq_false_iff_not, decide_eq_false_iff_not] at h'
      simp [h]
      unfold manyOf
      rw [if_neg (by omega), if_neg (by omega)]
  · simp at h
    refine gd.mk (fun h2 => ?_) (fun h2 => ?_)
    · simp at h2
      refine callK.mk (has_ok _ _) ?_
      simp
      refine gd.mk (fun h' => ?_) (fun h' => ?_)
      · simp at h'
        have : i.b.toNat < c.shapes.length := by omega
        simp [List.getElem?_eq_getElem this, manyOf, h, h', h2, fieldsOf]
      · rw [Bool.not_true, Bool.and_eq_false_iff, decide_eq_false_iff_not, decide_eq_false_iff_not] at h'
        unfold manyOf
        rw [if_neg (by omega), if_neg (by omega)]
    · simp at h2
      unfold manyOf
      rw [if_neg (by omega), if_neg (by omega)]
end Go.Ver
