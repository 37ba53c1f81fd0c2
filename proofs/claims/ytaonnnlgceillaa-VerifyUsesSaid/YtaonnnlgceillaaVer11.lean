import Derived.Test.YtaonnnlgceillaaVer10
set_option linter.unusedVariables false
set_option linter.unusedSimpArgs false
namespace Go.Ver
open Go.Abs Go.Proofs
def sz4 : MC :=
  (.seq (.seq (.reg [
      ⟨none, some 68, .mv (.t 6)⟩,
      ⟨none, some 69, .faddr 2 (.t 1)⟩,
      ⟨none, some 70, .load false 1 (.t 69)⟩,
      ⟨none, some 71, .len (.t 70)⟩,
      ⟨none, some 72, .binI .lss (.t 68) (.t 71)⟩])
      (.cond (.t 72)
        .skip
        (.exit 4)))
      (.seq (.block 5
        (.seq (.reg [
        ⟨none, some 75, .faddr 2 (.t 1)⟩,
        ⟨none, some 76, .load false 1 (.t 75)⟩,
        ⟨none, some 77, .mv (.t 6)⟩,
        ⟨none, some 78, .iaddrS 1 (.t 76) (.t 77)⟩,
        ⟨none, some 79, .load false 1 (.t 78)⟩,
        ⟨none, some 80, .len (.t 79)⟩,
        ⟨none, some 81, .binI .gtr (.t 80) (.k (.int .i64 1000))⟩])
        (.cond (.t 81)
          (.seq (.reg [
          ⟨none, some 2, .mv (.k (.bool false))⟩])
          .ret)
          .skip)))
      (.reg [
      ⟨none, some 73, .mv (.t 6)⟩,
      ⟨none, some 74, .binI .add (.t 73) (.k (.int .i64 1))⟩,
      ⟨none, some 6, .mv (.t 74)⟩])))

def sz2 : MC :=
  (.seq (.seq (.reg [
      ⟨none, some 50, .mv (.t 5)⟩,
      ⟨none, some 51, .faddr 3 (.t 1)⟩,
      ⟨none, some 52, .load false 1 (.t 51)⟩,
      ⟨none, some 53, .len (.t 52)⟩,
      ⟨none, some 54, .binI .lss (.t 50) (.t 53)⟩,
      ⟨none, some 55, .mv (.t 54)⟩,
      ⟨(some (55, true)), some 56, .mv (.t 4)⟩,
      ⟨(some (55, true)), some 57, .binI .gtr (.t 56) (.k (.int .i64 0))⟩,
      ⟨none, some 58, .pick (.t 55) (.t 57) (.k (.bool false))⟩])
      (.cond (.t 58)
        .skip
        (.exit 2)))
      (.seq (.block 3
        (.reg [
        ⟨none, some 61, .faddr 3 (.t 1)⟩,
        ⟨none, some 62, .load false 1 (.t 61)⟩,
        ⟨none, some 63, .mv (.t 5)⟩,
        ⟨none, some 64, .iaddrS 5 (.t 62) (.t 63)⟩,
        ⟨none, some 65, .load true 5 (.t 64)⟩,
        ⟨none, some 66, .mv (.t 4)⟩,
        ⟨none, some 67, .call 17 [(.t 65), (.t 66)]⟩,
        ⟨none, some 4, .mv (.t 67)⟩]))
      (.reg [
      ⟨none, some 59, .mv (.t 5)⟩,
      ⟨none, some 60, .binI .add (.t 59) (.k (.int .i64 1))⟩,
      ⟨none, some 5, .mv (.t 60)⟩])))

def sz0 : MC :=
  (.seq (.seq (.reg [
      ⟨none, some 35, .mv (.t 3)⟩,
      ⟨none, some 36, .faddr 4 (.t 1)⟩,
      ⟨none, some 37, .load false 1 (.t 36)⟩,
      ⟨none, some 38, .len (.t 37)⟩,
      ⟨none, some 39, .binI .lss (.t 35) (.t 38)⟩])
      (.cond (.t 39)
        .skip
        (.exit 0)))
      (.seq (.block 1
        (.seq (.reg [
        ⟨none, some 42, .faddr 4 (.t 1)⟩,
        ⟨none, some 43, .load false 1 (.t 42)⟩,
        ⟨none, some 44, .mv (.t 3)⟩,
        ⟨none, some 45, .iaddrS 3 (.t 43) (.t 44)⟩,
        ⟨none, some 46, .faddr 2 (.t 45)⟩,
        ⟨none, some 47, .load false 1 (.t 46)⟩,
        ⟨none, some 48, .len (.t 47)⟩,
        ⟨none, some 49, .binI .gtr (.t 48) (.k (.int .i64 300))⟩])
        (.cond (.t 49)
          (.seq (.reg [
          ⟨none, some 2, .mv (.k (.bool false))⟩])
          .ret)
          .skip)))
      (.reg [
      ⟨none, some 40, .mv (.t 3)⟩,
      ⟨none, some 41, .binI .add (.t 40) (.k (.int .i64 1))⟩,
      ⟨none, some 3, .mv (.t 41)⟩])))

def shapesOk (l : List (List ByteArray)) : Bool := l.all fun x => decide (x.length ≤ 1000)
def procsOk (l : List Prc) : Bool := l.all fun x => decide (x.code.length ≤ 300)
def sizedOf (c : Cod) : Bool := decide (¬ (50 < (c.procs.length : Int) ∨ 50 < (c.cos.length : Int) ∨ 50 < (c.shapes.length : Int) ∨ 10000 < (c.ints.length : Int) ∨ 10000 < (c.strs.length : Int))) &&
  (procsOk c.procs && (shapesOk c.shapes && decide (0 < wgts c.cos 300)))

theorem sized4 {c' : Ctx} (hp : c'.pure) (c : Cod) (hl : c.shapes.length ≤ 50) {r : Int} {Q : Exit → St → Prop} {S : St} {g}
    (h0 : Match [] S [(6, .c (.d (.int .i64 0))), (4, .c (.d (.int .i64 r))), (1, .c (.d (.rp c.enc 0)))] [])
    (hQ : ∀ t x, shapesOk c.shapes = true → Abs.look t 4 = .c (.d (.int .i64 r)) → Q (.exit 4) ⟨t, hpOf [], x⟩) (hR : ∀ t x, shapesOk c.shapes = false → Abs.look t 2 = .c (.d (.bool false)) → Q .ret ⟨t, hpOf [], x⟩) : lw_ Try.checked.prog c' sz4 Q g S := by
  refine W.loop Try.checked.mixed hp (fun j : Nat => j ≤ c.shapes.length ∧ shapesOk c.shapes = shapesOk (c.shapes.drop j)) (fun j => [(6, .c (.d (.int .i64 j))), (4, .c (.d (.int .i64 r))), (1, .c (.d (.rp c.enc 0)))]) (fun _ => []) (fun j => c.shapes.length - j) 0 [] ⟨by simp, by simp⟩ (by simpa using h0) fun j hj => ?_
  obtain ⟨hx1, hx2⟩ := hj
  unfold sz4
  simp
  refine gd.mk (fun h => ?_) (fun h => ?_)
  · simp at h
    have hj : j < c.shapes.length := by omega
    simp [List.getElem?_eq_getElem hj]
    rw [List.drop_eq_getElem_cons hj] at hx2
    simp only [shapesOk, List.all_cons] at hx2
    refine gd.mk (fun h' => ?_) (fun h' => ?_)
    · simp at h'
      refine hR _ _ ?_ rfl
      unfold shapesOk
      rw [hx2, decide_eq_false (by omega)]; rfl
    · simp at h'
      refine Abs.Next.mk (j + 1) [] ⟨by omega, ?_⟩ (by omega) ?_
      · unfold shapesOk
        rw [hx2, decide_eq_true (by omega), Bool.true_and]
      · simp
        exact wrap_i64 (by omega) (by omega)
  · have hj : j = c.shapes.length := by simp at h; omega
    refine hQ _ _ ?_ rfl
    rw [hx2, hj]; simp [shapesOk]

theorem sized2 {c' : Ctx} (hp : c'.pure) (c : Cod) (hl : c.cos.length ≤ 50) {Q : Exit → St → Prop} {S : St} {g}
    (h0 : Match [] S [(5, .c (.d (.int .i64 0))), (4, .c (.d (.int .i64 300))), (1, .c (.d (.rp c.enc 0)))] [])
    (hQ : ∀ t x, Abs.look t 4 = .c (.d (.int .i64 (wgts c.cos 300))) → Abs.look t 1 = .c (.d (.rp c.enc 0)) → Q (.exit 2) ⟨t, hpOf [], x⟩) : lw_ Try.checked.prog c' sz2 Q g S := by
  refine W.loop Try.checked.mixed hp (fun x : Nat × Int => x.1 ≤ c.cos.length ∧ wgts (c.cos.drop x.1) x.2 = wgts c.cos 300) (fun x => [(5, .c (.d (.int .i64 x.1))), (4, .c (.d (.int .i64 x.2))), (1, .c (.d (.rp c.enc 0)))]) (fun _ => []) (fun x => c.cos.length - x.1) (0, 300) [] ⟨by simp, by simp⟩ (by simpa using h0) fun x hx => ?_
  obtain ⟨j, r⟩ := x
  obtain ⟨hx1, hx2⟩ := hx
  simp only at hx1 hx2
  unfold sz2
  simp
  refine gd.mk (fun h => gd.mk (fun h' => ?_) (fun h' => ?_)) (fun h => ?_)
  · simp at h h'
    have hj : j < c.cos.length := by omega
    simp [List.getElem?_eq_getElem hj]
    refine callK.mk (weight_ok _ _) ?_
    simp
    refine Abs.Next.mk (j + 1, wgt c.cos[j] r) [] ⟨by simp; omega, ?_⟩ (by simp; omega) ?_
    · rw [← hx2, List.drop_eq_getElem_cons hj, wgts, if_pos h']
    · simp
      exact wrap_i64 (by omega) (by omega)
  · simp at h'
    refine hQ _ _ ?_ rfl
    rw [← hx2, wgts_stop h']; rfl
  · have hj : j = c.cos.length := by simp at h; omega
    refine hQ _ _ ?_ rfl
    rw [← hx2, hj]; simp [wgts]

theorem sized0 {c' : Ctx} (hp : c'.pure) (c : Cod) (hl : c.procs.length ≤ 50) {Q : Exit → St → Prop} {S : St} {g}
    (h0 : Match [] S [(3, .c (.d (.int .i64 0))), (1, .c (.d (.rp c.enc 0)))] [])
    (hQ : ∀ t x, procsOk c.procs = true → Abs.look t 1 = .c (.d (.rp c.enc 0)) → Q (.exit 0) ⟨t, hpOf [], x⟩) (hR : ∀ t x, procsOk c.procs = false → Abs.look t 2 = .c (.d (.bool false)) → Q .ret ⟨t, hpOf [], x⟩) : lw_ Try.checked.prog c' sz0 Q g S := by
  refine W.loop Try.checked.mixed hp (fun j : Nat => j ≤ c.procs.length ∧ procsOk c.procs = procsOk (c.procs.drop j)) (fun j => [(3, .c (.d (.int .i64 j))), (1, .c (.d (.rp c.enc 0)))]) (fun _ => []) (fun j => c.procs.length - j) 0 [] ⟨by simp, by simp⟩ (by simpa using h0) fun j hj => ?_
  obtain ⟨hx1, hx2⟩ := hj
  unfold sz0
  simp
  refine gd.mk (fun h => ?_) (fun h => ?_)
  · simp at h
    have hj : j < c.procs.length := by omega
    simp [List.getElem?_eq_getElem hj]
    rw [List.drop_eq_getElem_cons hj] at hx2
    simp only [procsOk, List.all_cons] at hx2
    refine gd.mk (fun h' => ?_) (fun h' => ?_)
    · simp at h'
      refine hR _ _ ?_ rfl
      unfold procsOk
      rw [hx2, decide_eq_false (by omega)]; rfl
    · simp at h'
      refine Abs.Next.mk (j + 1) [] ⟨by omega, ?_⟩ (by omega) ?_
      · unfold procsOk
        rw [hx2, decide_eq_true (by omega), Bool.true_and]
      · simp
        exact wrap_i64 (by omega) (by omega)
  · have hj : j = c.procs.length := by simp at h; omega
    refine hQ _ _ ?_ rfl
    rw [hx2, hj]; simp [procsOk]

set_option maxRecDepth 20000 in
theorem Sized_ok (c : Cod) : PCall Try.prog 9 [.agg c.enc] (.one (.bool (sizedOf c))) := by
  refine w9 (by simp) fun o c' hN hp => ?_
  unfold mc9
  simp
  repeat' (refine gd.mk (fun h => ?_) (fun h => ?_))
  all_goals (simp only [Bool.not_true, Bool.not_false, decide_eq_true_eq, decide_eq_false_iff_not] at *)
  all_goals (first | (unfold sizedOf; rw [decide_eq_false (by omega)]; rfl) | skip)
  have e : sizedOf c = (procsOk c.procs && (shapesOk c.shapes && decide (0 < wgts c.cos 300))) := by
    unfold sizedOf; rw [decide_eq_true (by omega), Bool.true_and]
  rw [e]
  refine sized0 hp c (by omega) (by simp) (fun t x p1 q1 => ?_) (fun t x p1 q2 => ?_)
  · simp [q1]
    refine sized2 hp c (by omega) (by simp [q1]) (fun t x q4 q1 => ?_)
    simp [q1, q4]
    refine sized4 hp c (by omega) (r := wgts c.cos 300) (by simp [q1, q4]) (fun t x p2 q4 => ?_) (fun t x p2 q2 => ?_)
    · simp [q4, p1, p2]
    · simp [q2, p1, p2]
  · simp [q2, p1]
end Go.Ver
