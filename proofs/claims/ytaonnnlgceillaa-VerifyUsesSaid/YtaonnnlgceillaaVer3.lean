import Derived.Test.YtaonnnlgceillaaVer2
set_option linter.unusedVariables false
set_option linter.unusedSimpArgs false
namespace Go.Ver
open Go.Abs Go.Proofs

def rowsT : List (Int × Int × Int) := [(1,2,2),(1,2,2),(1,2,2),(1,2,2),(1,2,2),(1,2,2),(1,2,2),(1,2,2),(1,2,2),(1,2,2),(1,2,2),
  (1,4,0),(1,5,0),(1,6,0),(1,0,0),(1,2,0),(1,9,0),(1,10,12),(1,11,12),(1,2,5),(3,2,5),(1,2,8),(1,2,2),(2,0,0),(0,13,0),(2,13,0),(1,2,7),(1,2,2),(1,2,2),(1,2,0),(1,2,0),(1,2,0),(1,0,0)]
def row3 (x : Int × Int × Int) : List D := [.int .i64 x.1, .int .i64 x.2.1, .int .i64 x.2.2]
def tabT : List D := (rowsT.map row3).flatten
def tabA (x : Nat) : List D := (((List.replicate x (1,2,2)) ++ List.replicate (11 - x) (0,0,0) ++ rowsT.drop 11).map row3).flatten


theorem tabA_len {x : Nat} (h : x ≤ 11) : (tabA x).length = 99 := by
  have : x = 0 ∨ x = 1 ∨ x = 2 ∨ x = 3 ∨ x = 4 ∨ x = 5 ∨ x = 6 ∨ x = 7 ∨ x = 8 ∨ x = 9 ∨ x = 10 ∨ x = 11 := by omega
  rcases this with rfl | rfl | rfl | rfl | rfl | rfl | rfl | rfl | rfl | rfl | rfl | rfl <;> rfl
theorem tabA_put {x : Nat} (h : x < 11) : put ((tabA x).map AC.d) (x * 3) [.d (.int .i64 1), .d (.int .i64 2), .d (.int .i64 2)] = (tabA (x + 1)).map .d := by
  have : x = 0 ∨ x = 1 ∨ x = 2 ∨ x = 3 ∨ x = 4 ∨ x = 5 ∨ x = 6 ∨ x = 7 ∨ x = 8 ∨ x = 9 ∨ x = 10 := by omega
  rcases this with rfl | rfl | rfl | rfl | rfl | rfl | rfl | rfl | rfl | rfl | rfl <;> rfl
def zedD : List D := List.replicate 99 (.int .i64 0)
theorem zed_len : zedD.length = 99 := rfl

set_option maxRecDepth 100000 in
set_option maxHeartbeats 4000000 in
theorem sorts_ok : PCall Try.prog 44 [] (.agg tabT) := by
  refine w44 (by simp) fun o c hN hp => ?_
  unfold mc44
  simp
  refine W.loop Try.checked.mixed hp (fun x : Nat => x ≤ 11) (fun x => [(26, .c (.d (.int .i64 x))), (0, .c (.ptr 0 0)), (1, .c (.ptr 1 0))]) (fun x => [.box (zedD.map .d), .box ((tabA x).map .d)]) (fun x => 11 - x) 0 [0, 1] (by simp) (by simp [tabA, rowsT, row3, zedD]) fun x hx => ?_
  simp [tabA_len hx, zed_len]
  refine gd.mk (fun h => ?_) (fun h => ?_)
  · simp at h
    have hx : x < 11 := by omega
    refine ⟨by omega, by omega, Next.mk (x + 1) [0, 1] (by omega) (by omega) ?_⟩
    simp [tabA_put hx]
    rw [wrap_i64 (by omega) (by omega)]
  · have : x = 11 := by simp at h; omega
    subst this
    rfl
end Go.Ver
