import Derived.Test.YtaonnnlgceillaaVer6
set_option linter.unusedVariables false
set_option linter.unusedSimpArgs false
namespace Go.Ver
open Go.Abs Go.Proofs

def rusesOf (c : Cod) (i : Ins) : List Int :=
  if 0 ≤ i.op ∧ i.op < 11 then [i.b, i.c]
  else if i.op = 15 ∨ i.op = 19 ∨ i.op = 21 ∨ i.op = 26 ∨ i.op = 29 ∨ i.op = 30 ∨ i.op = 31 then [i.b]
  else if i.op = 20 then [i.a, i.b]
  else if i.op = 22 ∨ i.op = 27 ∨ i.op = 28 then [i.b, i.c]
  else if i.op = 23 ∨ i.op = 25 then [i.a]
  else if i.op = 17 then rowOf i.c (capsOf c i.b)
  else if i.op = 18 then rowOf i.c (fieldsOf c i.b)
  else []
set_option maxRecDepth 20000 in
set_option maxHeartbeats 1000000 in
theorem rUses_ok (c : Cod) (i : Ins) : PCall Try.prog 13 [.agg c.enc, .agg i.enc] (.one (.sl false 1 (encI (rusesOf c i)))) := by
  refine w13 (by simp) fun o c' hN hp => ?_
  unfold mc13
  simp
  repeat' (refine gd.mk (fun h => ?_) (fun h => ?_))
  all_goals (simp only [Bool.not_true, Bool.not_false, decide_eq_true_eq, decide_eq_false_iff_not] at *)
  all_goals (first
    | (exfalso; omega)
    | (have e : rusesOf c i = [i.b, i.c] := by unfold rusesOf; repeat (first | rw [if_pos (by omega)] | rw [if_neg (by omega)])
       rw [e]; rfl)
    | (have e : rusesOf c i = [i.b] := by unfold rusesOf; repeat (first | rw [if_pos (by omega)] | rw [if_neg (by omega)])
       rw [e]; rfl)
    | (have e : rusesOf c i = [i.a, i.b] := by unfold rusesOf; repeat (first | rw [if_pos (by omega)] | rw [if_neg (by omega)])
       rw [e]; rfl)
    | (have e : rusesOf c i = [i.a] := by unfold rusesOf; repeat (first | rw [if_pos (by omega)] | rw [if_neg (by omega)])
       rw [e]; rfl)
    | (have e : rusesOf c i = [] := by unfold rusesOf; repeat (first | rw [if_pos (by omega)] | rw [if_neg (by omega)])
       rw [e]; rfl)
    | skip)
  · refine callK.mk (caps_ok _ _) ?_
    simp
    refine callK.mk (row_ok _ _) ?_
    simp
    refine ⟨by decide, ?_⟩
    have e : rusesOf c i = rowOf i.c (capsOf c i.b) := by unfold rusesOf; repeat (first | rw [if_pos (by omega)] | rw [if_neg (by omega)])
    rw [e]
  · refine callK.mk (fields_ok _ _) ?_
    simp
    refine callK.mk (row_ok _ _) ?_
    simp
    refine ⟨by decide, ?_⟩
    have e : rusesOf c i = rowOf i.c (fieldsOf c i.b) := by unfold rusesOf; repeat (first | rw [if_pos (by omega)] | rw [if_neg (by omega)])
    rw [e]
end Go.Ver
