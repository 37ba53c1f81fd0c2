import Derived.Test.YtaonnnlgceillaaVer8
set_option linter.unusedVariables false
set_option linter.unusedSimpArgs false
namespace Go.Ver
open Go.Abs Go.Proofs

theorem op_cases {n : Int} (h0 : 0 ≤ n) (h1 : n < 33) : n = 0 ∨ n = 1 ∨ n = 2 ∨ n = 3 ∨ n = 4 ∨ n = 5 ∨ n = 6 ∨ n = 7 ∨ n = 8 ∨ n = 9 ∨ n = 10 ∨ n = 11 ∨ n = 12 ∨ n = 13 ∨ n = 14 ∨ n = 15 ∨ n = 16 ∨ n = 17 ∨ n = 18 ∨ n = 19 ∨ n = 20 ∨ n = 21 ∨ n = 22 ∨ n = 23 ∨ n = 24 ∨ n = 25 ∨ n = 26 ∨ n = 27 ∨ n = 28 ∨ n = 29 ∨ n = 30 ∨ n = 31 ∨ n = 32 := by omega

theorem sets_eq (i : Ins) : setsOf i = rsetsOf i := by
  obtain ⟨op, a, b, c⟩ := i
  by_cases h : 0 ≤ op ∧ op < 33
  · obtain ⟨h0, h1⟩ := h
    rcases op_cases h0 h1 with h | h | h | h | h | h | h | h | h | h | h | h | h | h | h | h | h | h | h | h | h | h | h | h | h | h | h | h | h | h | h | h | h <;> subst h <;> simp [setsOf, rsetsOf, sortOf, rowsT]
  · unfold setsOf rsetsOf
    simp only
    rw [sortOf_not h, if_neg (by simp), if_pos (by omega)]

theorem rowOf_neg {a n : Int} (h : n ≤ 0) : rowOf a n = [] := by
  unfold rowOf
  split
  · rw [show n.toNat = 0 from by omega]; rfl
  · rfl

theorem many_caps {c : Cod} {i : Ins} (h : i.op = 17) : rowOf i.c (manyOf c i) = rowOf i.c (capsOf c i.b) := by
  by_cases hb : 0 ≤ i.b ∧ i.b < c.procs.length
  · unfold manyOf; rw [if_pos ⟨h, hb⟩]
  · have h1 : capsOf c i.b = -1 := capsOf_not (by omega)
    have h2 : manyOf c i = 0 := by unfold manyOf; rw [if_neg (by omega), if_neg (by omega)]
    rw [h1, h2, rowOf_neg (by omega), rowOf_neg (by omega)]
theorem many_fields {c : Cod} {i : Ins} (h : i.op = 18) : rowOf i.c (manyOf c i) = rowOf i.c (fieldsOf c i.b) := by
  by_cases hb : 0 ≤ i.b ∧ i.b < c.shapes.length
  · unfold manyOf; rw [if_neg (by omega), if_pos ⟨h, hb⟩]
  · have h1 : fieldsOf c i.b = -1 := fieldsOf_not (by omega)
    have h2 : manyOf c i = 0 := by unfold manyOf; rw [if_neg (by omega), if_neg (by omega)]
    rw [h1, h2, rowOf_neg (by omega), rowOf_neg (by omega)]

theorem uses_eq (c : Cod) (i : Ins) : usesOf c i = rusesOf c i := by
  have m1 := @many_caps c i
  have m2 := @many_fields c i
  obtain ⟨op, a, b, c'⟩ := i
  by_cases h : 0 ≤ op ∧ op < 33
  · obtain ⟨h0, h1⟩ := h
    rcases op_cases h0 h1 with h | h | h | h | h | h | h | h | h | h | h | h | h | h | h | h | h | h | h | h | h | h | h | h | h | h | h | h | h | h | h | h | h <;> subst h <;> simp at m1 m2 <;> simp [usesOf, rusesOf, upTo, colU, colS, colN, sortOf, rowsT, m1, m2]
  · have e : rusesOf c ⟨op, a, b, c'⟩ = [] := by
      unfold rusesOf
      simp only
      repeat (first | rw [if_neg (by omega)])
    rw [e]
    simp [usesOf, upTo, colU, colS, colN, sortOf_not h]
end Go.Ver
