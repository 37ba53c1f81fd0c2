import Derived.Test.YtaonnnlgceillaaVer5
set_option linter.unusedVariables false
set_option linter.unusedSimpArgs false
namespace Go.Ver
open Go.Abs Go.Proofs

def rowL (a : Int) (x : Nat) : List Int := (List.range x).map fun i : Nat => IntKind.i64.wrap (a + (i : Int))
@[simp] theorem rowL_len (a : Int) (x : Nat) : (rowL a x).length = x := by simp [rowL]
@[simp] theorem rowL_zero (a : Int) : rowL a 0 = [] := rfl
theorem rowL_succ (a : Int) (x : Nat) : rowL a (x + 1) = rowL a x ++ [IntKind.i64.wrap (a + x)] := by simp [rowL, List.range_succ]
theorem encI_append (l k : List Int) : encI (l ++ k) = encI l ++ encI k := by simp [encI]
@[simp] theorem encI_nil : encI [] = [] := rfl
theorem encI_one (n : Int) : encI [n] = [[.int .i64 n]] := rfl
def rowOf (a n : Int) : List Int := if n ≤ 256 then rowL a n.toNat else []

/-- numbers that are gathered by 'append' -/
def accT : Nat → AV
  | 0 => .c (.d (.sl true 1 []))
  | x + 1 => .c (.msl 1 0 0 (x + 1))
@[simp] theorem accT_zero : accT 0 = .c (.d (.sl true 1 [])) := rfl
@[simp] theorem accT_succ (x : Nat) : accT (x + 1) = .c (.msl 1 0 0 (x + 1)) := rfl
def accB (l : List Int) : List Blk := match l with
  | [] => []
  | _ => [.arr 1 ((encI l).map (·.map .d))]
@[simp] theorem accB_nil : accB [] = [] := rfl
theorem accB_pos {l : List Int} (h : 0 < l.length) : accB l = [.arr 1 ((encI l).map (·.map .d))] := by
  cases l with
  | nil => simp at h
  | cons => rfl

theorem acc_frz {l : List Int} {x : Nat} (h : l.length = x) : (frzV (hpOf (accB l)) (accT x)).map DV.er = some (.one (.sl false 1 (encI l))) := by
  cases x with
  | zero =>
    have : l = [] := by simpa using h
    subst this
    simp
  | succ x =>
    rw [accB_pos (by omega)]
    simp [h]
    rw [List.take_of_length_le (by simp; omega)]

set_option maxHeartbeats 400000 in
theorem row_ok (a n : Int) : PCall Try.prog 31 [.one (.int .i64 a), .one (.int .i64 n)] (.one (.sl false 1 (encI (rowOf a n)))) := by
  refine w31 (by simp) fun o c hN hp => ?_
  unfold mc31
  simp
  refine W.loop Try.checked.mixed hp (fun x : Nat => x = 0 ∨ (x ≤ n ∧ n ≤ 256)) (fun x => [(6, .c (.d (.int .i64 x))), (5, accT x), (0, .c (.d (.int .i64 a))), (1, .c (.d (.int .i64 n)))]) (fun x => accB (rowL a x)) (fun x => (n - x).toNat) 0 [] (.inl rfl) (by simp) fun x hx => ?_
  simp
  refine gd.mk (fun h => ?_) (fun h => ?_)
  · simp at h
    refine gd.mk (fun h' => ?_) (fun h' => ?_)
    · simp at h'
      cases x with
      | zero =>
        simp
        refine Next.mk 1 [0] (.inr ⟨by omega, h'⟩) (by omega) ?_
        rw [accB_pos (by simp), accT_succ 0]
        simp [rowL_succ, encI_one]
        exact wrap_i64 (by omega) (by omega)
      | succ x =>
        rw [accB_pos (by simp)]
        simp
        refine ⟨by omega, Next.mk (x + 1 + 1) [1] (.inr ⟨by omega, h'⟩) (by omega) ?_⟩
        rw [accB_pos (by simp), accT_succ (x + 1)]
        simp [rowL_succ a (x + 1), encI_append, encI_one]
        rw [List.take_of_length_le (by simp)]
        exact ⟨wrap_i64 (by omega) (by omega), rfl⟩
    · simp at h'
      have : x = 0 := by omega
      subst this
      simp [rowOf]
      rw [if_neg (by omega)]
      simp
  · simp at h
    have e : rowOf a n = rowL a x := by
      unfold rowOf
      rcases hx with rfl | ⟨h1, h2⟩
      · split
        · rw [show n.toNat = 0 from by omega]
        · rfl
      · rw [if_pos h2, show n.toNat = x from by omega]
    have := acc_frz (rowL_len a x)
    rw [e]
    simpa using this
end Go.Ver
