import Derived.Test.YtaonnnlgceillaaVer3
set_option linter.unusedVariables false
set_option linter.unusedSimpArgs false
namespace Go.Ver
open Go.Abs Go.Proofs

def sortOf (op : Int) : Int × Int × Int := if 0 ≤ op ∧ op < 33 then rowsT.getD op.toNat (0, 0, 0) else (0, 0, 0)
theorem tabT_len : tabT.length = 99 := rfl
theorem tabT_all : ∀ k : Fin 33, cut (tabT.map AC.d) (k.val * 3) 3 = (row3 (rowsT.getD k.val (0, 0, 0))).map .d := by
  intro k
  obtain ⟨k, h⟩ := k
  have : k = 0 ∨ k = 1 ∨ k = 2 ∨ k = 3 ∨ k = 4 ∨ k = 5 ∨ k = 6 ∨ k = 7 ∨ k = 8 ∨ k = 9 ∨ k = 10 ∨ k = 11 ∨ k = 12 ∨ k = 13 ∨ k = 14 ∨ k = 15 ∨ k = 16 ∨ k = 17 ∨ k = 18 ∨ k = 19 ∨ k = 20 ∨ k = 21 ∨ k = 22 ∨ k = 23 ∨ k = 24 ∨ k = 25 ∨ k = 26 ∨ k = 27 ∨ k = 28 ∨ k = 29 ∨ k = 30 ∨ k = 31 ∨ k = 32 := by omega
  rcases this with rfl | rfl | rfl | rfl | rfl | rfl | rfl | rfl | rfl | rfl | rfl | rfl | rfl | rfl | rfl | rfl | rfl | rfl | rfl | rfl | rfl | rfl | rfl | rfl | rfl | rfl | rfl | rfl | rfl | rfl | rfl | rfl | rfl <;> rfl
theorem tabT_cut {op : Int} (h1 : 0 ≤ op) (h2 : op < 33) : cut (tabT.map AC.d) (op.toNat * 3) 3 = (row3 (sortOf op)).map .d := by
  have := tabT_all ⟨op.toNat, by omega⟩
  rw [this, sortOf, if_pos ⟨h1, h2⟩]
@[simp] theorem row3_len (x : Int × Int × Int) : (row3 x).length = 3 := rfl

@[simp] theorem row3_er (x : Int × Int × Int) : (row3 x).map D.er = row3 x := rfl
theorem sortOf_not {op : Int} (h : ¬ (0 ≤ op ∧ op < 33)) : sortOf op = (0, 0, 0) := if_neg h
attribute [local irreducible] tabT
set_option maxHeartbeats 1000000 in
theorem of_ok (op : Int) : PCall Try.prog 28 [.one (.int .i64 op)] (.tup [.agg (row3 (sortOf op)), .one (.bool (decide (0 ≤ op ∧ op < 33)))]) := by
  refine w28 (by simp) fun o c hN hp => ?_
  unfold mc28
  simp
  refine gd.mk (fun h => ?_) (fun h => ?_)
  · simp at h
    refine gd.mk (fun h => ?_) (fun h => ?_)
    · simp at h
      rw [sortOf_not (by omega)]
      simp [row3]
      omega
    · simp at h
      refine callK.mk sorts_ok ?_
      simp [tabT_len, tabT_cut, *]
      omega
  · simp at h
    rw [sortOf_not (by omega)]
    simp [row3]
    omega

end Go.Ver
