import Derived.Test.YtaonnnlgceillaaVer7
set_option linter.unusedVariables false
set_option linter.unusedSimpArgs false
namespace Go.Ver
open Go.Abs Go.Proofs

/-- numbers that are gathered, behind one other block -/
def acd : Nat → AV
  | 0 => .c (.d (.sl true 1 []))
  | x + 1 => .c (.msl 1 1 0 (x + 1))
@[simp] theorem acd_zero : acd 0 = .c (.d (.sl true 1 [])) := rfl
@[simp] theorem acd_succ (x : Nat) : acd (x + 1) = .c (.msl 1 1 0 (x + 1)) := rfl
theorem acd_pos {n : Nat} (h : 0 < n) : acd n = .c (.msl 1 1 0 n) := by
  cases n with
  | zero => omega
  | succ => rfl

def colD (i : Ins) : List D := [.int .i64 i.a, .int .i64 i.b, .int .i64 i.c]
@[simp] theorem colD_len (i : Ins) : (colD i).length = 3 := rfl
def colN (i : Ins) (k : Nat) : Int := [i.a, i.b, i.c].getD k 0
def colS (i : Ins) (k : Nat) : Int := [(sortOf i.op).1, (sortOf i.op).2.1, (sortOf i.op).2.2].getD k 0
theorem colD_get {i : Ins} {k : Nat} (h : k < 3) : (colD i)[k]? = some (.int .i64 (colN i k)) := by
  have : k = 0 ∨ k = 1 ∨ k = 2 := by omega
  rcases this with rfl | rfl | rfl <;> rfl
theorem colS_get {i : Ins} {k : Nat} (h : k < 3) : (row3 (sortOf i.op))[k]? = some (.int .i64 (colS i k)) := by
  have : k = 0 ∨ k = 1 ∨ k = 2 := by omega
  rcases this with rfl | rfl | rfl <;> rfl
def colU (c : Cod) (i : Ins) (k : Nat) : List Int := if colS i k = 2 ∨ colS i k = 3 then [colN i k] else if colS i k = 12 then rowOf (colN i k) (manyOf c i) else []
def upTo (c : Cod) (i : Ins) : Nat → List Int
  | 0 => []
  | k + 1 => upTo c i k ++ colU c i k
theorem rowOf_len (a n : Int) : (rowOf a n).length ≤ 256 := by unfold rowOf; split <;> simp; omega
theorem colU_len (c : Cod) (i : Ins) (k : Nat) : (colU c i k).length ≤ 256 := by
  unfold colU
  have := rowOf_len (colN i k) (manyOf c i)
  split
  · simp
  · split
    · exact this
    · simp
theorem upTo_len (c : Cod) (i : Ins) (k : Nat) : (upTo c i k).length ≤ 256 * k := by
  induction k with
  | zero => simp [upTo]
  | succ k ih => have := colU_len c i k; simp [upTo]; omega
def usesOf (c : Cod) (i : Ins) : List Int := upTo c i 3

@[simp] theorem accB_cons (a : Int) (l : List Int) : accB (a :: l) = [.arr 1 ((encI (a :: l)).map (·.map .d))] := rfl
theorem acd_frz {l : List Int} {b : Blk} : (frzV (hpOf (b :: accB l)) (acd l.length)).map DV.er = some (.one (.sl false 1 (encI l))) := by
  cases l with
  | nil => simp
  | cons a l =>
    simp
    rw [List.take_of_length_le (by simp)]

abbrev outT (c : Cod) (i : Ins) (k : Nat) (l : List Int) : List (Nat × AV) := [(20, .c (.d (.int .i64 k))), (5, acd l.length), (6, .c (.ptr 0 0)), (19, .ag ((colD i).map .d)), (2, .c (.d (.rp c.enc 0))), (3, .c (.d (.rp i.enc 0)))]
abbrev outB (i : Ins) (l : List Int) : List Blk := .box ((row3 (sortOf i.op)).map .d) :: accB l
/-- one more number -/
theorem out_more {c : Cod} {i : Ins} {k : Nat} {l : List Int} {n : Int} {S : St} {g} (hk : k < 3) (e : upTo c i (k + 1) = l ++ [n]) (b : Nat) (hb : b ≠ 0)
    (h20 : S.get 20 = .c (.d (.int .i64 (IntKind.i64.wrap (k + 1))))) (h5 : S.get 5 = .c (.msl 1 b 0 (l.length + 1))) (h6 : S.get 6 = .c (.ptr 0 0)) (h19 : S.get 19 = .ag ((colD i).map .d)) (h2 : S.get 2 = .c (.d (.rp c.enc 0))) (h3 : S.get 3 = .c (.d (.rp i.enc 0)))
    (m0 : S.m 0 = .box ((row3 (sortOf i.op)).map .d)) (m1 : S.m b = .arr 1 ((encI (l ++ [n])).map (·.map .d))) :
    Abs.Next (fun k : Nat => k ≤ 3) (fun k => outT c i k (upTo c i k)) (fun k => outB i (upTo c i k)) (fun k => 3 - k) k g S := by
  refine Abs.Next.mk (k + 1) [0, b] (by omega) (by omega) ?_
  rw [e, outB, outT, accB_pos (by simp), acd_pos (by simp)]
  simp [h20, h5, h6, h19, h2, h3, m0, m1, Ne.symm hb]
  exact wrap_i64 (by omega) (by omega)

/-- as many numbers as there were -/
theorem out_same {c : Cod} {i : Ins} {k : Nat} {l : List Int} {S : St} {g} (hk : k < 3) (e : upTo c i (k + 1) = l)
    (h20 : S.get 20 = .c (.d (.int .i64 (IntKind.i64.wrap (k + 1))))) (h5 : S.get 5 = acd l.length) (h6 : S.get 6 = .c (.ptr 0 0)) (h19 : S.get 19 = .ag ((colD i).map .d)) (h2 : S.get 2 = .c (.d (.rp c.enc 0))) (h3 : S.get 3 = .c (.d (.rp i.enc 0)))
    (m0 : S.m = hpOf (outB i l)) :
    Abs.Next (fun k : Nat => k ≤ 3) (fun k => outT c i k (upTo c i k)) (fun k => outB i (upTo c i k)) (fun k => 3 - k) k g S := by
  cases l with
  | nil =>
    refine Abs.Next.mk (k + 1) [0] (by omega) (by omega) ?_
    simp only [e]
    simp [h20, h5, h6, h19, h2, h3, m0]
    exact wrap_i64 (by omega) (by omega)
  | cons a l =>
    refine Abs.Next.mk (k + 1) [0, 1] (by omega) (by omega) ?_
    simp only [e]
    simp [h20, h5, h6, h19, h2, h3, m0]
    exact wrap_i64 (by omega) (by omega)

def inB : MC := (.seq (.seq (.reg [
                  ⟨none, some 39, .mv (.t 11)⟩,
                  ⟨none, some 40, .mv (.t 10)⟩,
                  ⟨none, some 41, .binI .lss (.t 39) (.t 40)⟩,
                  ⟨none, some 42, .mv (.t 41)⟩,
                  ⟨(some (42, true)), some 43, .mv (.t 10)⟩,
                  ⟨(some (42, true)), some 44, .binI .leq (.t 43) (.k (.int .i64 256))⟩,
                  ⟨none, some 45, .pick (.t 42) (.t 44) (.k (.bool false))⟩])
                  (.cond (.t 45)
                    .skip
                    (.exit 3)))
                  (.seq (.block 4
                    (.reg [
                    ⟨none, some 48, .mv (.t 5)⟩,
                    ⟨none, some 49, .mv (.t 9)⟩,
                    ⟨none, some 50, .mv (.t 11)⟩,
                    ⟨none, some 51, .binI .add (.t 49) (.t 50)⟩,
                    ⟨none, some 52, .buildSl 1 [(.t 51)]⟩,
                    ⟨none, some 53, .append 1 8 (.t 48) (.t 52)⟩,
                    ⟨none, some 5, .mv (.t 53)⟩]))
                  (.reg [
                  ⟨none, some 46, .mv (.t 11)⟩,
                  ⟨none, some 47, .binI .add (.t 46) (.k (.int .i64 1))⟩,
                  ⟨none, some 11, .mv (.t 47)⟩])))

set_option maxHeartbeats 1000000 in
theorem inner_ok {c : Cod} {i : Ins} {k : Nat} {l : List Int} {m n : Int} {c' : Ctx} (hp : c'.pure) {Q : Exit → St → Prop} {g} {S : St} (l0 : List Nat) (hl : l.length ≤ 768)
    (h0 : Match l0 S ((11, .c (.d (.int .i64 0))) :: (10, .c (.d (.int .i64 m))) :: (9, .c (.d (.int .i64 n))) :: outT c i k l) (outB i l))
    (hQ : ∀ t x, Abs.look t 20 = .c (.d (.int .i64 k)) → Abs.look t 5 = acd (l ++ rowOf n m).length → Abs.look t 6 = .c (.ptr 0 0) → Abs.look t 19 = .ag ((colD i).map .d) → Abs.look t 2 = .c (.d (.rp c.enc 0)) → Abs.look t 3 = .c (.d (.rp i.enc 0)) → Q (.exit 3) ⟨t, hpOf (outB i (l ++ rowOf n m)), x⟩) :
    lw_ Try.checked.prog c' inB Q g S := by
  refine W.loop Try.checked.mixed hp (fun r : Nat => r = 0 ∨ (r ≤ m ∧ m ≤ 256)) (fun r => (11, .c (.d (.int .i64 r))) :: (10, .c (.d (.int .i64 m))) :: (9, .c (.d (.int .i64 n))) :: outT c i k (l ++ rowL n r)) (fun r => outB i (l ++ rowL n r)) (fun r => (m - r).toNat) 0 l0 (.inl rfl) (by simpa using h0) fun r hr => ?_
  have e1 : l ++ rowL n (r + 1) = (l ++ rowL n r) ++ [IntKind.i64.wrap (n + r)] := by rw [rowL_succ, List.append_assoc]
  have e2 : (¬ (r : Int) < m ∨ ¬ m ≤ 256) → l ++ rowOf n m = l ++ rowL n r := by
    intro h
    unfold rowOf
    rcases hr with rfl | ⟨h1, h2⟩
    · split
      · rw [show m.toNat = 0 from by omega]
      · rfl
    · rw [if_pos h2, show m.toNat = r from by omega]
  have hlen : (l ++ rowL n r).length ≤ 768 + r := by simp; omega
  have fin : ∀ t x, (¬ (r : Int) < m ∨ ¬ m ≤ 256) → Abs.look t 20 = .c (.d (.int .i64 k)) → Abs.look t 5 = acd (l ++ rowL n r).length → Abs.look t 6 = .c (.ptr 0 0) → Abs.look t 19 = .ag ((colD i).map .d) → Abs.look t 2 = .c (.d (.rp c.enc 0)) → Abs.look t 3 = .c (.d (.rp i.enc 0)) → Q (.exit 3) ⟨t, hpOf (outB i (l ++ rowL n r)), x⟩ := by
    intro t x h
    have := hQ t x
    rwa [e2 h] at this
  unfold inB
  cases hL : l ++ rowL n r with
  | nil =>
    rw [hL] at e1 fin
    simp
    refine gd.mk (fun h => gd.mk (fun h' => ?_) (fun h' => ?_)) (fun h => ?_)
    · simp at h h'
      refine Abs.Next.mk (r + 1) [0, 1] (.inr ⟨by omega, h'⟩) (by omega) ?_
      simp only [e1]
      simp [encI_one]
      exact wrap_i64 (by omega) (by omega)
    · exact fin _ _ (.inr (by simpa using h')) rfl rfl rfl rfl rfl rfl
    · exact fin _ _ (.inl (by simp at h; omega)) rfl rfl rfl rfl rfl rfl
  | cons a L =>
    rw [hL] at e1 fin hlen
    simp at hlen
    simp
    refine gd.mk (fun h => gd.mk (fun h' => ?_) (fun h' => ?_)) (fun h => ?_)
    · simp at h h'
      refine ⟨by omega, Abs.Next.mk (r + 1) [0, 2] (.inr ⟨by omega, h'⟩) (by omega) ?_⟩
      simp only [e1]
      simp [encI_append, encI_one]
      refine ⟨wrap_i64 (by omega) (by omega), ?_⟩
      rw [List.take_of_length_le (by simp)]
      simp [encI]
    · exact fin _ _ (.inr (by simpa using h')) rfl rfl rfl rfl rfl rfl
    · exact fin _ _ (.inl (by simp at h; omega)) rfl rfl rfl rfl rfl rfl
theorem out_more' {c : Cod} {i : Ins} {k : Nat} {a : Int} {l : List Int} {n : Int} : (encI (a :: l ++ [n])).map (·.map AC.d) = List.take (l.length + 1) (List.map (fun x => List.map AC.d x) (encI (a :: l))) ++ [[.d (.int .i64 n)]] := by
  rw [List.take_of_length_le (by simp)]
  simp [encI]

set_option maxRecDepth 20000 in
set_option maxHeartbeats 1000000 in
theorem Uses_ok (c : Cod) (i : Ins) : PCall Try.prog 12 [.agg c.enc, .agg i.enc] (.one (.sl false 1 (encI (usesOf c i)))) := by
  refine w12 (by simp) fun o c' hN hp => ?_
  unfold mc12
  simp
  refine callK.mk (of_ok _) ?_
  simp
  refine callK.mk (columns_ok _) ?_
  simp
  rw [show [AC.d (D.int IntKind.i64 i.a), AC.d (D.int IntKind.i64 i.b), AC.d (D.int IntKind.i64 i.c)] = (colD i).map .d from rfl]
  refine W.loop Try.checked.mixed hp (fun k : Nat => k ≤ 3) (fun k => outT c i k (upTo c i k)) (fun k => outB i (upTo c i k)) (fun k => 3 - k) 0 [0] (by simp) (by simp [upTo]) fun k hk => ?_
  have ulen := upTo_len c i k
  have estep : upTo c i (k + 1) = upTo c i k ++ colU c i k := rfl
  have efin : k = 3 → usesOf c i = upTo c i k := fun h => by rw [h]; rfl
  generalize upTo c i k = l at ulen estep efin ⊢
  cases l with
  | nil =>
    simp
    refine gd.mk (fun h => ?_) (fun h => ?_)
    · have h : k < 3 := by simp at h; omega
      simp [colD_get h, colS_get h]
      refine ⟨by omega, gd.mk (fun h2 => ?_) (fun h2 => gd.mk (fun h3 => ?_) (fun h3 => gd.mk (fun h4 => ?_) (fun h4 => ?_)))⟩
      · simp at h2
        exact out_more (n := colN i k) h (by rw [estep, colU, if_pos (.inl h2)]) 1 (by omega) rfl rfl rfl rfl rfl rfl rfl rfl
      · simp at h3
        exact out_more (n := colN i k) h (by rw [estep, colU, if_pos (.inr h3)]) 1 (by omega) rfl rfl rfl rfl rfl rfl rfl rfl
      · simp at h2 h3 h4
        refine callK.mk (many_ok _ _) ?_
        simp
        refine inner_ok (c := c) (i := i) (k := k) (l := []) (m := manyOf c i) (n := colN i k) hp [0] (by simp) (by simp) fun t x q20 q5 q6 q19 q2 q3 => ?_
        simp [q20]
        exact out_same (l := [] ++ rowOf (colN i k) (manyOf c i)) h (by rw [estep, colU, if_neg (by omega), if_pos h4]) rfl q5 q6 q19 q2 q3 rfl
      · simp at h2 h3 h4
        exact out_same (l := []) h (by rw [estep, colU, if_neg (by omega), if_neg h4]; rfl) rfl rfl rfl rfl rfl rfl rfl
    · have : k = 3 := by simp at h; omega
      rw [efin this]
      simp
  | cons a l =>
    simp
    refine gd.mk (fun h => ?_) (fun h => ?_)
    · have h : k < 3 := by simp at h; omega
      simp at ulen
      simp [colD_get h, colS_get h]
      refine ⟨by omega, gd.mk (fun h2 => ?_) (fun h2 => gd.mk (fun h3 => ?_) (fun h3 => gd.mk (fun h4 => ?_) (fun h4 => ?_)))⟩
      · simp at h2
        refine ⟨by omega, out_more (l := a :: l) (n := colN i k) h (by rw [estep, colU, if_pos (.inl h2)]) 2 (by omega) rfl rfl rfl rfl rfl rfl rfl ?_⟩
        rw [out_more' (c := c) (i := i) (k := k)]; rfl
      · simp at h3
        refine ⟨by omega, out_more (l := a :: l) (n := colN i k) h (by rw [estep, colU, if_pos (.inr h3)]) 2 (by omega) rfl rfl rfl rfl rfl rfl rfl ?_⟩
        rw [out_more' (c := c) (i := i) (k := k)]; rfl
      · simp at h2 h3 h4
        refine callK.mk (many_ok _ _) ?_
        simp
        refine inner_ok (c := c) (i := i) (k := k) (l := a :: l) (m := manyOf c i) (n := colN i k) hp [0, 1] (by simp; omega) (by simp) fun t x q20 q5 q6 q19 q2 q3 => ?_
        simp [q20]
        exact out_same (l := a :: l ++ rowOf (colN i k) (manyOf c i)) h (by rw [estep, colU, if_neg (by omega), if_pos h4]) rfl q5 q6 q19 q2 q3 rfl
      · simp at h2 h3 h4
        exact out_same (l := a :: l) h (by rw [estep, colU, if_neg (by omega), if_neg h4]; simp) rfl rfl rfl rfl rfl rfl rfl
    · have : k = 3 := by simp at h; omega
      rw [efin this]
      exact List.take_of_length_le (by simp)
end Go.Ver
