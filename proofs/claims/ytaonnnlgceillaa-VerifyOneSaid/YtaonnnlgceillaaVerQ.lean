import Derived.Test.YtaonnnlgceillaaVerP
set_option linter.unusedVariables false
set_option linter.unusedSimpArgs false
namespace Go.Gr
open Go.Abs Go.Proofs

def Coe.tags : Coe → List Int | .mk t _ _ _ _ => t
def Coe.needs : Coe → List (ByteArray × Int) | .mk _ n _ _ _ => n
def Coe.names : Coe → List ByteArray | .mk _ _ s _ _ => s
def Coe.fields : Coe → List Coe | .mk _ _ _ f _ => f
def Coe.fn : Coe → List Coe | .mk _ _ _ _ g => g
theorem Coe.enc_eq (d : Coe) : d.enc = [.sl false 1 (encI d.tags), .sl false 2 (encN d.needs), .sl false 1 (encS d.names), .sl false 5 (d.fields.map Coe.enc), .sl false 5 (d.fn.map Coe.enc)] := by
  cases d with
  | mk t n s f g => simp [Coe.enc, Coe.encs_map, Coe.tags, Coe.needs, Coe.names, Coe.fields, Coe.fn]
@[simp] theorem Coe.enc_length (d : Coe) : d.enc.length = 5 := by simp [Coe.enc_eq]
@[simp high] theorem Coe.enc_0 (d : Coe) : d.enc[0]? = some (.sl false 1 (encI d.tags)) := by simp [Coe.enc_eq]
@[simp high] theorem Coe.enc_1 (d : Coe) : d.enc[1]? = some (.sl false 2 (encN d.needs)) := by simp [Coe.enc_eq]
@[simp high] theorem Coe.enc_2 (d : Coe) : d.enc[2]? = some (.sl false 1 (encS d.names)) := by simp [Coe.enc_eq]
@[simp high] theorem Coe.enc_3 (d : Coe) : d.enc[3]? = some (.sl false 5 (d.fields.map Coe.enc)) := by simp [Coe.enc_eq]
@[simp high] theorem Coe.enc_4 (d : Coe) : d.enc[4]? = some (.sl false 5 (d.fn.map Coe.enc)) := by simp [Coe.enc_eq]
@[simp] theorem Coe.cut_enc (d : Coe) : cut d.enc 0 5 = d.enc := by simp [cut]
@[simp] theorem Coe.cut_map (d : Coe) : cut (d.enc.map AC.d) 0 5 = d.enc.map .d := by simp [cut]

mutual
def wgt : Coe → Int → Int
  | .mk t n s f g, m => if 100 < (t.length : Int) ∨ 100 < (n.length : Int) ∨ 100 < (s.length : Int) ∨ m < f.length ∨ m < g.length then 0 else wgts g (wgts f (IntKind.i64.wrap (m - 1)))
def wgts : List Coe → Int → Int
  | [], m => m
  | d :: ds, m => if 0 < m then wgts ds (wgt d m) else m
end
theorem wgt_eq (d : Coe) (m : Int) : wgt d m = if 100 < (d.tags.length : Int) ∨ 100 < (d.needs.length : Int) ∨ 100 < (d.names.length : Int) ∨ m < d.fields.length ∨ m < d.fn.length then 0 else wgts d.fn (wgts d.fields (IntKind.i64.wrap (m - 1))) := by
  cases d; rw [wgt]; rfl
theorem wgts_stop {l : List Coe} {m : Int} (h : m ≤ 0) : wgts l m = m := by
  cases l with
  | nil => rw [wgts]
  | cons d l => rw [wgts, if_neg (by omega)]

abbrev wT (d : Coe) (r : Int) : List (Nat × AV) := [(1, .c (.d (.int .i64 r))), (2, .c (.d (.rp d.enc 0)))]
theorem weight_two {c : Ctx} (hp : c.pure) (d : Coe) (ih : ∀ e, e ∈ d.fn → ∀ m, PCall Pg F.graduslaw18_weight [.agg e.enc, .one (.int .i64 m)] (.one (.int .i64 (wgt e m)))) (hg : d.fn.length ≤ 4611686018427387904) {r0 : Int} {Q : Exit → St → Prop} {S : St} {g}
    (h0 : Match [] S ((6, .c (.d (.int .i64 0))) :: wT d r0) []) (hQ : ∀ t x, Abs.look t 1 = .c (.d (.int .i64 (wgts d.fn r0))) → Q (.exit 2) ⟨t, hpOf [], x⟩) : lw_ Pg c lp_graduslaw18_weight_2 Q g S := by
  refine W.loop Pg_mixed hp (fun x : Nat × Int => x.1 ≤ d.fn.length ∧ wgts (d.fn.drop x.1) x.2 = wgts d.fn r0) (fun x => (6, .c (.d (.int .i64 x.1))) :: wT d x.2) (fun _ => []) (fun x => d.fn.length - x.1) (0, r0) [] ⟨by simp, by simp⟩ (by simpa using h0) fun x hx => ?_
  obtain ⟨j, r⟩ := x
  obtain ⟨hx1, hx2⟩ := hx
  simp only at hx1 hx2
  unfold lp_graduslaw18_weight_2
  simp
  refine gd.mk (fun h => gd.mk (fun h' => ?_) (fun h' => ?_)) (fun h => ?_)
  · simp at h h'
    have hj : j < d.fn.length := by omega
    simp [List.getElem?_eq_getElem hj]
    refine callK.mk (ih _ (List.getElem_mem hj) _) ?_
    simp
    refine Abs.Next.mk (j + 1, wgt d.fn[j] r) [] ⟨by simp; omega, ?_⟩ (by simp; omega) ?_
    · rw [← hx2, List.drop_eq_getElem_cons hj, wgts, if_pos h']
    · simp
      exact wrap_i64 (by omega) (by omega)
  · simp at h'
    refine hQ _ _ ?_
    rw [← hx2, wgts_stop h']; rfl
  · have hj : j = d.fn.length := by simp at h; omega
    refine hQ _ _ ?_
    rw [← hx2, hj]; simp [wgts]

theorem weight_one (d : Coe) (ih : ∀ e, e ∈ d.fields ∨ e ∈ d.fn → ∀ m, PCall Pg F.graduslaw18_weight [.agg e.enc, .one (.int .i64 m)] (.one (.int .i64 (wgt e m)))) (m : Int) :
    PCall Pg F.graduslaw18_weight [.agg d.enc, .one (.int .i64 m)] (.one (.int .i64 (wgt d m))) := by
  refine w_graduslaw18_weight (by simp) fun o c hN hp => ?_
  have hf : d.fields.length ≤ lenMax := by
    have := o.1; rw [Coe.enc_eq] at this; simp only [DV.ok, D.okL, D.ok] at this; simpa using this.2.2.2.1.1
  have hg : d.fn.length ≤ lenMax := by
    have := o.1; rw [Coe.enc_eq] at this; simp only [DV.ok, D.okL, D.ok] at this; simpa using this.2.2.2.2.1.1
  unfold lenMax at hf hg
  unfold mc_graduslaw18_weight
  simp
  repeat' (refine gd.mk (fun h => ?_) (fun h => ?_))
  all_goals (simp only [Bool.not_true, Bool.not_false, decide_eq_true_eq, decide_eq_false_iff_not] at *)
  all_goals (first | (rw [wgt_eq, if_pos (by omega)]; done) | skip)
  have e : wgt d m = wgts d.fn (wgts d.fields (IntKind.i64.wrap (m - 1))) := by rw [wgt_eq, if_neg (by omega)]
  rw [e]
  refine W.loop Pg_mixed hp (fun x : Nat × Int => x.1 ≤ d.fields.length ∧ wgts (d.fields.drop x.1) x.2 = wgts d.fields (IntKind.i64.wrap (m - 1))) (fun x => (5, .c (.d (.int .i64 x.1))) :: wT d x.2) (fun _ => []) (fun x => d.fields.length - x.1) (0, IntKind.i64.wrap (m - 1)) [] ⟨by simp, by simp⟩ (by simp) fun x hx => ?_
  unfold lp_graduslaw18_weight_0
  obtain ⟨j, r⟩ := x
  obtain ⟨hx1, hx2⟩ := hx
  simp only at hx1 hx2
  simp
  refine gd.mk (fun h => gd.mk (fun h' => ?_) (fun h' => ?_)) (fun h => ?_)
  · simp at h h'
    have hj : j < d.fields.length := by omega
    simp [List.getElem?_eq_getElem hj]
    refine callK.mk (ih _ (.inl (List.getElem_mem hj)) _) ?_
    simp
    refine Abs.Next.mk (j + 1, wgt d.fields[j] r) [] ⟨by simp; omega, ?_⟩ (by simp; omega) ?_
    · rw [← hx2, List.drop_eq_getElem_cons hj, wgts, if_pos h']
    · simp
      exact wrap_i64 (by omega) (by omega)
  · simp at h'
    refine weight_two hp d (fun e h => ih e (.inr h)) hg (r0 := r) (by simp) fun t x q => ?_
    simp [q]
    rw [← hx2, wgts_stop (l := List.drop j d.fields) h']
  · have hj : j = d.fields.length := by simp at h; omega
    refine weight_two hp d (fun e h => ih e (.inr h)) hg (r0 := r) (by simp) fun t x q => ?_
    simp [q]
    rw [← hx2, hj]; simp [wgts]

mutual
theorem weight_ok : ∀ (d : Coe) (m : Int), PCall Pg F.graduslaw18_weight [.agg d.enc, .one (.int .i64 m)] (.one (.int .i64 (wgt d m)))
  | .mk t n s f g, m => weight_one (.mk t n s f g) (fun e h m => by
      rcases h with h | h
      · exact weights_ok f e h m
      · exact weights_ok g e h m) m
theorem weights_ok : ∀ (l : List Coe) (e : Coe), e ∈ l → ∀ m : Int, PCall Pg F.graduslaw18_weight [.agg e.enc, .one (.int .i64 m)] (.one (.int .i64 (wgt e m)))
  | [], e, h, m => by cases h
  | d :: l, e, h, m => by
    cases h with
    | head => exact weight_ok d m
    | tail _ h => exact weights_ok l e h m
end
end Go.Gr

set_option linter.unusedVariables false
set_option linter.unusedSimpArgs false
namespace Go.Gr
open Go.Abs Go.Proofs
def shapesOk (l : List (List ByteArray)) : Bool := l.all fun x => decide (x.length ≤ 1000)
def procsOk (l : List Prc) : Bool := l.all fun x => decide (x.code.length ≤ 300)
def sizedOf (c : Cod) : Bool := decide (¬ (50 < (c.procs.length : Int) ∨ 50 < (c.cos.length : Int) ∨ 50 < (c.shapes.length : Int) ∨ 10000 < (c.ints.length : Int) ∨ 10000 < (c.strs.length : Int))) &&
  (procsOk c.procs && (shapesOk c.shapes && decide (0 < wgts c.cos 300)))

theorem sized4 {c' : Ctx} (hp : c'.pure) (c : Cod) (hl : c.shapes.length ≤ 50) {r : Int} {Q : Exit → St → Prop} {S : St} {g}
    (h0 : Match [] S [(6, .c (.d (.int .i64 0))), (4, .c (.d (.int .i64 r))), (1, .c (.d (.rp c.enc 0)))] [])
    (hQ : ∀ t x, shapesOk c.shapes = true → Abs.look t 4 = .c (.d (.int .i64 r)) → Q (.exit 4) ⟨t, hpOf [], x⟩) (hR : ∀ t x, shapesOk c.shapes = false → Abs.look t 2 = .c (.d (.bool false)) → Q .ret ⟨t, hpOf [], x⟩) : lw_ Pg c' lp_graduslaw18_Sized_4 Q g S := by
  refine W.loop Pg_mixed hp (fun j : Nat => j ≤ c.shapes.length ∧ shapesOk c.shapes = shapesOk (c.shapes.drop j)) (fun j => [(6, .c (.d (.int .i64 j))), (4, .c (.d (.int .i64 r))), (1, .c (.d (.rp c.enc 0)))]) (fun _ => []) (fun j => c.shapes.length - j) 0 [] ⟨by simp, by simp⟩ (by simpa using h0) fun j hj => ?_
  obtain ⟨hx1, hx2⟩ := hj
  unfold lp_graduslaw18_Sized_4
  simp
  refine gd.mk (fun h => ?_) (fun h => ?_)
  · simp at h
    have hj : j < c.shapes.length := by omega
    simp [List.getElem?_eq_getElem hj]
    rw [List.drop_eq_getElem_cons hj] at hx2
    simp only [shapesOk, List.all_cons] at hx2
    refine gd.mk (fun h' => ?_) (fun h' => ?_)
    · simp at h'
      refine hR _ _ ?_ rfl
      unfold shapesOk
      rw [hx2, decide_eq_false (by omega)]; rfl
    · simp at h'
      refine Abs.Next.mk (j + 1) [] ⟨by omega, ?_⟩ (by omega) ?_
      · unfold shapesOk
        rw [hx2, decide_eq_true (by omega), Bool.true_and]
      · simp
        exact wrap_i64 (by omega) (by omega)
  · have hj : j = c.shapes.length := by simp at h; omega
    refine hQ _ _ ?_ rfl
    rw [hx2, hj]; simp [shapesOk]

theorem sized2 {c' : Ctx} (hp : c'.pure) (c : Cod) (hl : c.cos.length ≤ 50) {Q : Exit → St → Prop} {S : St} {g}
    (h0 : Match [] S [(5, .c (.d (.int .i64 0))), (4, .c (.d (.int .i64 300))), (1, .c (.d (.rp c.enc 0)))] [])
    (hQ : ∀ t x, Abs.look t 4 = .c (.d (.int .i64 (wgts c.cos 300))) → Abs.look t 1 = .c (.d (.rp c.enc 0)) → Q (.exit 2) ⟨t, hpOf [], x⟩) : lw_ Pg c' lp_graduslaw18_Sized_2 Q g S := by
  refine W.loop Pg_mixed hp (fun x : Nat × Int => x.1 ≤ c.cos.length ∧ wgts (c.cos.drop x.1) x.2 = wgts c.cos 300) (fun x => [(5, .c (.d (.int .i64 x.1))), (4, .c (.d (.int .i64 x.2))), (1, .c (.d (.rp c.enc 0)))]) (fun _ => []) (fun x => c.cos.length - x.1) (0, 300) [] ⟨by simp, by simp⟩ (by simpa using h0) fun x hx => ?_
  obtain ⟨j, r⟩ := x
  obtain ⟨hx1, hx2⟩ := hx
  simp only at hx1 hx2
  unfold lp_graduslaw18_Sized_2
  simp
  refine gd.mk (fun h => gd.mk (fun h' => ?_) (fun h' => ?_)) (fun h => ?_)
  · simp at h h'
    have hj : j < c.cos.length := by omega
    simp [List.getElem?_eq_getElem hj]
    refine callK.mk (weight_ok _ _) ?_
    simp
    refine Abs.Next.mk (j + 1, wgt c.cos[j] r) [] ⟨by simp; omega, ?_⟩ (by simp; omega) ?_
    · rw [← hx2, List.drop_eq_getElem_cons hj, wgts, if_pos h']
    · simp
      exact wrap_i64 (by omega) (by omega)
  · simp at h'
    refine hQ _ _ ?_ rfl
    rw [← hx2, wgts_stop h']; rfl
  · have hj : j = c.cos.length := by simp at h; omega
    refine hQ _ _ ?_ rfl
    rw [← hx2, hj]; simp [wgts]

theorem sized0 {c' : Ctx} (hp : c'.pure) (c : Cod) (hl : c.procs.length ≤ 50) {Q : Exit → St → Prop} {S : St} {g}
    (h0 : Match [] S [(3, .c (.d (.int .i64 0))), (1, .c (.d (.rp c.enc 0)))] [])
    (hQ : ∀ t x, procsOk c.procs = true → Abs.look t 1 = .c (.d (.rp c.enc 0)) → Q (.exit 0) ⟨t, hpOf [], x⟩) (hR : ∀ t x, procsOk c.procs = false → Abs.look t 2 = .c (.d (.bool false)) → Q .ret ⟨t, hpOf [], x⟩) : lw_ Pg c' lp_graduslaw18_Sized_0 Q g S := by
  refine W.loop Pg_mixed hp (fun j : Nat => j ≤ c.procs.length ∧ procsOk c.procs = procsOk (c.procs.drop j)) (fun j => [(3, .c (.d (.int .i64 j))), (1, .c (.d (.rp c.enc 0)))]) (fun _ => []) (fun j => c.procs.length - j) 0 [] ⟨by simp, by simp⟩ (by simpa using h0) fun j hj => ?_
  obtain ⟨hx1, hx2⟩ := hj
  unfold lp_graduslaw18_Sized_0
  simp
  refine gd.mk (fun h => ?_) (fun h => ?_)
  · simp at h
    have hj : j < c.procs.length := by omega
    simp [List.getElem?_eq_getElem hj]
    rw [List.drop_eq_getElem_cons hj] at hx2
    simp only [procsOk, List.all_cons] at hx2
    refine gd.mk (fun h' => ?_) (fun h' => ?_)
    · simp at h'
      refine hR _ _ ?_ rfl
      unfold procsOk
      rw [hx2, decide_eq_false (by omega)]; rfl
    · simp at h'
      refine Abs.Next.mk (j + 1) [] ⟨by omega, ?_⟩ (by omega) ?_
      · unfold procsOk
        rw [hx2, decide_eq_true (by omega), Bool.true_and]
      · simp
        exact wrap_i64 (by omega) (by omega)
  · have hj : j = c.procs.length := by simp at h; omega
    refine hQ _ _ ?_ rfl
    rw [hx2, hj]; simp [procsOk]

set_option maxRecDepth 20000 in
theorem Sized_ok (c : Cod) : PCall Pg F.graduslaw18_Sized [.agg c.enc] (.one (.bool (sizedOf c))) := by
  refine w_graduslaw18_Sized (by simp) fun o c' hN hp => ?_
  unfold mc_graduslaw18_Sized
  simp
  repeat' (refine gd.mk (fun h => ?_) (fun h => ?_))
  all_goals (simp only [Bool.not_true, Bool.not_false, decide_eq_true_eq, decide_eq_false_iff_not] at *)
  all_goals (first | (unfold sizedOf; rw [decide_eq_false (by omega)]; rfl) | skip)
  have e : sizedOf c = (procsOk c.procs && (shapesOk c.shapes && decide (0 < wgts c.cos 300))) := by
    unfold sizedOf; rw [decide_eq_true (by omega), Bool.true_and]
  rw [e]
  refine sized0 hp c (by omega) (by simp) (fun t x p1 q1 => ?_) (fun t x p1 q2 => ?_)
  · simp [q1]
    refine sized2 hp c (by omega) (by simp [q1]) (fun t x q4 q1 => ?_)
    simp [q1, q4]
    refine sized4 hp c (by omega) (r := wgts c.cos 300) (by simp [q1, q4]) (fun t x p2 q4 => ?_) (fun t x p2 q2 => ?_)
    · simp [q4, p1, p2]
    · simp [q2, p1, p2]
  · simp [q2, p1]
end Go.Gr

set_option linter.unusedVariables false
set_option linter.unusedSimpArgs false
namespace Go.Gr
open Go.Abs Go.Proofs

def hasB (a b : Int) : Bool := decide (0 ≤ a) && decide (a < b)
theorem has_ok' (a b : Int) : PCall Pg F.verify_has [.one (.int .i64 a), .one (.int .i64 b)] (.one (.bool (hasB a b))) := has_ok a b
theorem hasB_true {a b : Int} : hasB a b = true ↔ 0 ≤ a ∧ a < b := by simp [hasB]

def operandOf (c : Cod) (p : Prc) (i : Ins) (s n : Int) : Bool :=
  if s = 1 ∨ s = 2 ∨ s = 3 then hasB n p.regs
  else if s = 4 then hasB n c.ints.length
  else if s = 5 then hasB n c.strs.length
  else if s = 6 then hasB n 2
  else if s = 7 then hasB n 6
  else if s = 8 then hasB n c.cos.length
  else if s = 9 then hasB n c.procs.length && decide (capsOf c n = 0)
  else if s = 10 then hasB n c.procs.length
  else if s = 11 then hasB n c.shapes.length
  else if s = 12 then hasB n (IntKind.i64.wrap (p.regs + 1)) && decide (manyOf c i ≤ IntKind.i64.wrap (p.regs - n))
  else if s = 13 then hasB n p.code.length
  else true

set_option maxRecDepth 20000 in
set_option maxHeartbeats 1000000 in
theorem operand_ok (c : Cod) (p : Prc) (i : Ins) (s n : Int) : PCall Pg F.verify_operand [.agg c.enc, .agg p.enc, .agg i.enc, .one (.int .i64 s), .one (.int .i64 n)] (.one (.bool (operandOf c p i s n))) := by
  refine w_verify_operand (by simp) fun o c' hN hp => ?_
  unfold mc_verify_operand
  simp
  repeat' (refine gd.mk (fun h => ?_) (fun h => ?_))
  all_goals (simp only [Bool.not_true, Bool.not_false, decide_eq_true_eq, decide_eq_false_iff_not] at *)
  all_goals (unfold operandOf)
  all_goals (repeat (first | rw [if_pos (by omega)] | rw [if_neg (by omega)]))
  all_goals (first | done | skip)
  all_goals (try (refine callK.mk (has_ok' _ _) ?_; simp; done))
  · refine callK.mk (has_ok' _ _) ?_
    simp
    refine gd.mk (fun h' => ?_) (fun h' => ?_)
    · have h2 := hasB_true.1 h'
      have : n.toNat < c.procs.length := by omega
      simp [List.getElem?_eq_getElem this, capsOf, h2, h']
    · rw [Bool.not_true] at h'
      simp [h']
  · refine callK.mk (has_ok' _ _) ?_
    simp
    refine gd.mk (fun h' => ?_) (fun h' => ?_)
    · refine callK.mk (many_ok _ _) ?_
      simp
      refine ⟨by decide, ?_⟩
      exact fun _ => h'
    · rw [Bool.not_true] at h'
      refine ⟨by decide, ?_⟩
      intro h2
      rw [h'] at h2
      cases h2

def colOk (c : Cod) (p : Prc) (i : Ins) (k : Nat) : Bool := operandOf c p i (colS i k) (colN i k)
def instrOf (c : Cod) (p : Prc) (i : Ins) : Bool := decide (0 ≤ i.op ∧ i.op < 33) && (colOk c p i 0 && (colOk c p i 1 && colOk c p i 2))

theorem instr_ok (c : Cod) (p : Prc) (i : Ins) : PCall Pg F.verify_instr [.agg c.enc, .agg p.enc, .agg i.enc] (.one (.bool (instrOf c p i))) := by
  refine w_verify_instr (by simp) fun o c' hN hp => ?_
  unfold mc_verify_instr
  simp
  refine callK.mk (of_ok _) ?_
  simp only [DV.av, DV.avs]
  simp
  refine gd.mk (fun h => ?_) (fun h => ?_)
  · simp [instrOf]
    intro h1 h2
    simp [h1, h2] at h
  · have hop : 0 ≤ i.op ∧ i.op < 33 := by simpa using h
    refine callK.mk (columns_ok _) ?_
    simp
    rw [show [AC.d (D.int IntKind.i64 i.a), AC.d (D.int IntKind.i64 i.b), AC.d (D.int IntKind.i64 i.c)] = (colD i).map .d from rfl]
    refine W.loop Pg_mixed hp (fun k : Nat => k ≤ 3 ∧ ∀ j, j < k → colOk c p i j = true) (fun k => [(21, .c (.d (.int .i64 k))), (7, .c (.ptr 0 0)), (20, .ag ((colD i).map .d)), (3, .c (.d (.rp c.enc 0))), (4, .c (.d (.rp p.enc 0))), (5, .c (.d (.rp i.enc 0)))])
      (fun k => [.box ((row3 (sortOf i.op)).map .d)]) (fun k => 3 - k) 0 [0] ⟨by simp, by simp⟩ (by simp) fun k hk => ?_
    unfold lp_verify_instr_0
    obtain ⟨hk, hall⟩ := hk
    simp
    refine gd.mk (fun h => ?_) (fun h => ?_)
    · have h : k < 3 := by simp at h; omega
      simp [colD_get h, colS_get h]
      refine ⟨by omega, callK.mk (operand_ok _ _ _ _ _) ?_⟩
      simp
      refine ⟨by decide, gd.mk (fun h' => ?_) (fun h' => ?_)⟩
      · have h2 : colOk c p i k = false := by unfold colOk; simpa using h'
        unfold instrOf
        have : k = 0 ∨ k = 1 ∨ k = 2 := by omega
        rcases this with rfl | rfl | rfl <;> simp [h2]
      · have h2 : colOk c p i k = true := by unfold colOk; simpa using h'
        refine Abs.Next.mk (k + 1) [0] ⟨by omega, fun j hj => ?_⟩ (by omega) ?_
        · by_cases hjk : j = k
          · rw [hjk]; exact h2
          · exact hall j (by omega)
        · simp
          exact wrap_i64 (by omega) (by omega)
    · have hk : k = 3 := by simp at h; omega
      subst hk
      simp [instrOf, hop, hall 0 (by omega), hall 1 (by omega), hall 2 (by omega)]
end Go.Gr

set_option linter.unusedVariables false
set_option linter.unusedSimpArgs false
namespace Go.Gr
open Go.Abs Go.Proofs

def fi {α : Type} (q : α → Bool) : Nat → List α → Int
  | _, [] => -1
  | j, x :: l => if q x = true then (j : Int) else fi q (j + 1) l
theorem fi_any {α : Type} (q : α → Bool) : ∀ (j : Nat) (l : List α), decide (0 ≤ fi q j l) = l.any q
  | _, [] => by simp [fi]
  | j, x :: l => by
    have ih := fi_any q (j + 1) l
    simp only [fi, List.any_cons]
    split
    · rename_i h; rw [h, Bool.true_or]; simp
    · rename_i h
      rw [Bool.not_eq_true] at h
      rw [h, Bool.false_or]; exact ih

theorem fn1_ok (c : Cod) (p : Prc) (i : Ins) : PCall Pg F.verify_function_1 [.agg i.enc, .one (.rp c.enc 0), .one (.rp p.enc 0)] (.one (.bool (!instrOf c p i))) := by
  refine w_verify_function_1 (by simp) fun o c' hN hp => ?_
  unfold mc_verify_function_1
  simp
  refine callK.mk (instr_ok _ _ _) ?_
  simp

theorem index_ok (l : List Ins) (g : FuncId) (caps : List D) (q : Ins → Bool) (H : ∀ x, x ∈ l → PCall Pg g (.agg x.enc :: caps.map .one) (.one (.bool (q x)))) :
    PCall Pg F.slices_IndexFunc_api_Instr_api_Instr [.one (.sl false 4 (l.map Ins.enc)), .one (.fn (.func g) caps)] (.one (.int .i64 (fi q 0 l))) := by
  refine w_slices_IndexFunc_api_Instr_api_Instr (by simp) fun o c' hN hp => ?_
  have hl : l.length ≤ lenMax := by
    have := o.1; simp only [DV.ok, D.ok] at this; simpa using this.1
  unfold lenMax at hl
  unfold mc_slices_IndexFunc_api_Instr_api_Instr
  simp
  refine W.loop Pg_mixed hp (fun j : Nat => j ≤ l.length ∧ fi q j (l.drop j) = fi q 0 l) (fun j => [(8, .c (.d (.int .i64 j))), (7, .c (.d (.int .i64 l.length))), (0, .c (.d (.sl false 4 (l.map Ins.enc)))), (1, .c (.d (.fn (.func g) caps)))]) (fun _ => []) (fun j => l.length - j) 0 [] ⟨by simp, by simp⟩ (by simp) fun j hj => ?_
  unfold lp_slices_IndexFunc_api_Instr_api_Instr_0
  obtain ⟨h1, h2⟩ := hj
  simp
  refine gd.mk (fun h => ?_) (fun h => ?_)
  · simp at h
    have hj : j < l.length := by omega
    simp [List.getElem?_eq_getElem hj]
    rw [List.drop_eq_getElem_cons hj, fi] at h2
    refine callK.mk (H _ (List.getElem_mem hj)) ?_
    simp
    refine gd.mk (fun h' => ?_) (fun h' => ?_)
    · rw [if_pos h'] at h2
      exact h2
    · rw [Bool.not_true] at h'
      rw [if_neg (by rw [h']; simp)] at h2
      refine Abs.Next.mk (j + 1) [] ⟨by omega, h2⟩ (by omega) ?_
      simp
      exact wrap_i64 (by omega) (by omega)
  · have hj : j = l.length := by simp at h; omega
    rw [← h2, hj]
    simp [fi]

theorem contains_ok (l : List Ins) (g : FuncId) (caps : List D) (q : Ins → Bool) (H : ∀ x, x ∈ l → PCall Pg g (.agg x.enc :: caps.map .one) (.one (.bool (q x)))) :
    PCall Pg F.slices_ContainsFunc_api_Instr_api_Instr [.one (.sl false 4 (l.map Ins.enc)), .one (.fn (.func g) caps)] (.one (.bool (l.any q))) := by
  refine w_slices_ContainsFunc_api_Instr_api_Instr (by simp) fun o c' hN hp => ?_
  unfold mc_slices_ContainsFunc_api_Instr_api_Instr
  simp
  refine callK.mk (index_ok l g caps q H) ?_
  simp
  exact fi_any q 0 l

def procOf (c : Cod) (p : Prc) : Bool :=
  !(decide (p.caps < 0 ∨ p.regs ≤ p.caps ∨ 256 < p.regs ∨ p.code.length = 0 ∨ 65536 < p.code.length)) &&
  ((match p.code[p.code.length - 1]? with | some i => decide (i.op = 23 ∨ i.op = 24) | none => false) && !(p.code.any fun i => !instrOf c p i))

set_option maxRecDepth 20000 in
theorem function_ok (c : Cod) (p : Prc) : PCall Pg F.verify_function [.agg c.enc, .agg p.enc] (.one (.bool (procOf c p))) := by
  refine w_verify_function (by simp) fun o c' hN hp => ?_
  have hl : p.code.length ≤ lenMax := by
    have := o.2.1; simp only [DV.ok, Prc.enc, D.okL, D.ok] at this; simpa using this.2.2.1.1
  unfold lenMax at hl
  unfold mc_verify_function
  simp
  repeat' (refine gd.mk (fun h => ?_) (fun h => ?_))
  all_goals (simp only [Bool.not_true, Bool.not_false, decide_eq_true_eq, decide_eq_false_iff_not] at *)
  all_goals (try (have h0 : p.code.length = 0 := by simp_all))
  all_goals (first | (unfold procOf; rw [decide_eq_true (by omega)]; rfl) | skip)
  have hne : p.code.length ≠ 0 := by
    intro e
    have := List.length_eq_zero_iff.1 e
    contradiction
  have hw : IntKind.i64.wrap ((p.code.length : Int) - 1) = ((p.code.length - 1 : Nat) : Int) := by
    rw [wrap_i64 (by omega) (by omega)]; omega
  have hj : p.code.length - 1 < p.code.length := by omega
  have e : procOf c p = (decide (p.code[p.code.length - 1].op = 23 ∨ p.code[p.code.length - 1].op = 24) && !(p.code.any fun i => !instrOf c p i)) := by
    unfold procOf
    rw [decide_eq_false (by omega), List.getElem?_eq_getElem hj]
    rfl
  have H : ∀ x, x ∈ p.code → PCall Pg F.verify_function_1 (.agg x.enc :: [D.rp c.enc 0, D.rp p.enc 0].map .one) (.one (.bool ((fun i => !instrOf c p i) x))) := fun x _ => fn1_ok c p x
  rw [hw]
  simp [List.getElem?_eq_getElem hj]
  refine gd.mk (fun h2 => gd.mk (fun h3 => ?_) (fun h3 => ?_)) (fun h2 => ?_)
  · simp at h2 h3
    rw [e, decide_eq_false (by omega)]; rfl
  · simp at h2 h3
    refine callK.mk (contains_ok p.code 37 _ _ H) ?_
    rw [e, decide_eq_true (by omega)]
    simp
  · simp at h2
    refine callK.mk (contains_ok p.code 37 _ _ H) ?_
    rw [e, decide_eq_true (by omega)]
    simp
end Go.Gr

set_option linter.unusedVariables false
set_option linter.unusedSimpArgs false
namespace Go.Gr
open Go.Abs Go.Proofs

theorem indexCo_ok (l : List Coe) (g : FuncId) (caps : List D) (q : Coe → Bool) (H : ∀ x, x ∈ l → PCall Pg g (.agg x.enc :: caps.map .one) (.one (.bool (q x)))) :
    PCall Pg F.slices_IndexFunc_api_Co_api_Co [.one (.sl false 5 (l.map Coe.enc)), .one (.fn (.func g) caps)] (.one (.int .i64 (fi q 0 l))) := by
  refine w_slices_IndexFunc_api_Co_api_Co (by simp) fun o c' hN hp => ?_
  have hl : l.length ≤ lenMax := by
    have := o.1; simp only [DV.ok, D.ok] at this; simpa using this.1
  unfold lenMax at hl
  unfold mc_slices_IndexFunc_api_Co_api_Co
  simp
  refine W.loop Pg_mixed hp (fun j : Nat => j ≤ l.length ∧ fi q j (l.drop j) = fi q 0 l) (fun j => [(8, .c (.d (.int .i64 j))), (7, .c (.d (.int .i64 l.length))), (0, .c (.d (.sl false 5 (l.map Coe.enc)))), (1, .c (.d (.fn (.func g) caps)))]) (fun _ => []) (fun j => l.length - j) 0 [] ⟨by simp, by simp⟩ (by simp) fun j hj => ?_
  unfold lp_slices_IndexFunc_api_Co_api_Co_0
  obtain ⟨h1, h2⟩ := hj
  simp
  refine gd.mk (fun h => ?_) (fun h => ?_)
  · simp at h
    have hj : j < l.length := by omega
    simp [List.getElem?_eq_getElem hj]
    rw [List.drop_eq_getElem_cons hj, fi] at h2
    refine callK.mk (H _ (List.getElem_mem hj)) ?_
    simp
    refine gd.mk (fun h' => ?_) (fun h' => ?_)
    · rw [if_pos h'] at h2
      exact h2
    · rw [Bool.not_true] at h'
      rw [if_neg (by rw [h']; simp)] at h2
      refine Abs.Next.mk (j + 1) [] ⟨by omega, h2⟩ (by omega) ?_
      simp
      exact wrap_i64 (by omega) (by omega)
  · have hj : j = l.length := by simp at h; omega
    rw [← h2, hj]
    simp [fi]

theorem containsCo_ok (l : List Coe) (g : FuncId) (caps : List D) (q : Coe → Bool) (H : ∀ x, x ∈ l → PCall Pg g (.agg x.enc :: caps.map .one) (.one (.bool (q x)))) :
    PCall Pg F.slices_ContainsFunc_api_Co_api_Co [.one (.sl false 5 (l.map Coe.enc)), .one (.fn (.func g) caps)] (.one (.bool (l.any q))) := by
  refine w_slices_ContainsFunc_api_Co_api_Co (by simp) fun o c' hN hp => ?_
  unfold mc_slices_ContainsFunc_api_Co_api_Co
  simp
  refine callK.mk (indexCo_ok l g caps q H) ?_
  simp
  exact fi_any q 0 l

theorem indexSh_ok (l : List (List ByteArray)) (g : FuncId) (caps : List D) (q : List ByteArray → Bool) (H : ∀ x, x ∈ l → PCall Pg g (.one (.sl false 1 (encS x)) :: caps.map .one) (.one (.bool (q x)))) :
    PCall Pg F.slices_IndexFunc_string_string [.one (.sl false 1 (l.map fun x => [.sl false 1 (encS x)])), .one (.fn (.func g) caps)] (.one (.int .i64 (fi q 0 l))) := by
  refine w_slices_IndexFunc_string_string (by simp) fun o c' hN hp => ?_
  have hl : l.length ≤ lenMax := by
    have := o.1; simp only [DV.ok, D.ok] at this; simpa using this.1
  unfold lenMax at hl
  unfold mc_slices_IndexFunc_string_string
  simp
  refine W.loop Pg_mixed hp (fun j : Nat => j ≤ l.length ∧ fi q j (l.drop j) = fi q 0 l) (fun j => [(8, .c (.d (.int .i64 j))), (7, .c (.d (.int .i64 l.length))), (0, .c (.d (.sl false 1 (l.map fun x => [.sl false 1 (encS x)])))), (1, .c (.d (.fn (.func g) caps)))]) (fun _ => []) (fun j => l.length - j) 0 [] ⟨by simp, by simp⟩ (by simp) fun j hj => ?_
  unfold lp_slices_IndexFunc_string_string_0
  obtain ⟨h1, h2⟩ := hj
  simp
  refine gd.mk (fun h => ?_) (fun h => ?_)
  · simp at h
    have hj : j < l.length := by omega
    simp [List.getElem?_eq_getElem hj]
    rw [List.drop_eq_getElem_cons hj, fi] at h2
    refine callK.mk (H _ (List.getElem_mem hj)) ?_
    simp
    refine gd.mk (fun h' => ?_) (fun h' => ?_)
    · rw [if_pos h'] at h2
      exact h2
    · rw [Bool.not_true] at h'
      rw [if_neg (by rw [h']; simp)] at h2
      refine Abs.Next.mk (j + 1) [] ⟨by omega, h2⟩ (by omega) ?_
      simp
      exact wrap_i64 (by omega) (by omega)
  · have hj : j = l.length := by simp at h; omega
    rw [← h2, hj]
    simp [fi]

theorem containsSh_ok (l : List (List ByteArray)) (g : FuncId) (caps : List D) (q : List ByteArray → Bool) (H : ∀ x, x ∈ l → PCall Pg g (.one (.sl false 1 (encS x)) :: caps.map .one) (.one (.bool (q x)))) :
    PCall Pg F.slices_ContainsFunc_string_string [.one (.sl false 1 (l.map fun x => [.sl false 1 (encS x)])), .one (.fn (.func g) caps)] (.one (.bool (l.any q))) := by
  refine w_slices_ContainsFunc_string_string (by simp) fun o c' hN hp => ?_
  unfold mc_slices_ContainsFunc_string_string
  simp
  refine callK.mk (indexSh_ok l g caps q H) ?_
  simp
  exact fi_any q 0 l


def mainOk (c : Cod) : Bool := hasB c.main c.procs.length && decide (capsOf c c.main = 0)
def verifyOf (may : Coe → Bool) (rise : List ByteArray → Bool) (c : Cod) : Bool :=
  !decide (4096 < (c.procs.length : Int)) && (mainOk c && (c.procs.all (procOf c) && (!(c.cos.any fun d => !may d) && !(c.shapes.any fun l => !rise l))))

set_option maxRecDepth 20000 in
theorem Verify_ok (c : Cod) (may : Coe → Bool) (rise : List ByteArray → Bool) (H1 : ∀ d, d ∈ c.cos → PCall Pg F.verify_Verify_1 (.agg d.enc :: [].map .one) (.one (.bool ((fun d => !may d) d)))) (H2 : ∀ l, l ∈ c.shapes → PCall Pg F.verify_Verify_2 (.one (.sl false 1 (encS l)) :: [].map .one) (.one (.bool ((fun l => !rise l) l)))) :
    PCall Pg F.verify_Verify [.agg c.enc] (.one (.bool (verifyOf may rise c))) := by
  refine w_verify_Verify (by simp) fun o c' hN hp => ?_
  have hl : c.procs.length ≤ lenMax := by
    have := o.1; simp only [DV.ok, Cod.enc, D.okL, D.ok] at this; simpa using this.2.2.2.2.1.1
  unfold lenMax at hl
  unfold mc_verify_Verify
  simp
  refine gd.mk (fun h => ?_) (fun h => ?_)
  · simp only [decide_eq_false_iff_not] at h
    have e1 : verifyOf may rise c = (mainOk c && (c.procs.all (procOf c) && (!(c.cos.any fun d => !may d) && !(c.shapes.any fun l => !rise l)))) := by
      unfold verifyOf; rw [decide_eq_false h]; rfl
    refine callK.mk (has_ok' _ _) ?_
    simp
    refine gd.mk (fun h' => ?_) (fun h' => ?_)
    · have h2 := hasB_true.1 (by simpa using h' : hasB c.main c.procs.length = true)
      have hm : c.main.toNat < c.procs.length := by omega
      have hcap : capsOf c c.main = c.procs[c.main.toNat].caps := by
        unfold capsOf; rw [if_pos h2.1, List.getElem?_eq_getElem hm]
      simp [List.getElem?_eq_getElem hm]
      refine ⟨h2.1, gd.mk (fun h3 => ?_) (fun h3 => ?_)⟩
      · simp at h3
        rw [e1, mainOk, hcap, decide_eq_false h3, Bool.and_false, Bool.false_and]
      · simp at h3
        have e2 : verifyOf may rise c = (c.procs.all (procOf c) && (!(c.cos.any fun d => !may d) && !(c.shapes.any fun l => !rise l))) := by
          rw [e1, mainOk, hcap, decide_eq_true h3, Bool.and_true, hasB_true.2 h2, Bool.true_and]
        refine W.loop Pg_mixed hp (fun j : Nat => j ≤ c.procs.length ∧ (c.procs.drop j).all (procOf c) = c.procs.all (procOf c)) (fun j => [(31, .c (.d (.int .i64 j))), (30, .c (.d (.int .i64 c.procs.length))), (29, .c (.d (.sl false 3 (c.procs.map Prc.enc)))), (1, .c (.d (.rp c.enc 0)))]) (fun _ => []) (fun j => c.procs.length - j) 0 [] ⟨by simp, by simp⟩ (by simp) fun j hj => ?_
        unfold lp_verify_Verify_0
        obtain ⟨q1, q2⟩ := hj
        simp
        refine gd.mk (fun h => ?_) (fun h => ?_)
        · simp at h
          have hj : j < c.procs.length := by omega
          simp [List.getElem?_eq_getElem hj]
          rw [List.drop_eq_getElem_cons hj, List.all_cons] at q2
          refine callK.mk (function_ok _ _) ?_
          simp
          refine gd.mk (fun h' => ?_) (fun h' => ?_)
          · simp at h'
            rw [e2, ← q2, h']; rfl
          · simp at h'
            refine Abs.Next.mk (j + 1) [] ⟨by omega, ?_⟩ (by omega) ?_
            · rw [← q2, h', Bool.true_and]
            · simp
              exact wrap_i64 (by omega) (by omega)
        · have hj : j = c.procs.length := by simp at h; omega
          rw [hj] at q2
          simp only [List.drop_length, List.all_nil] at q2
          refine callK.mk (containsCo_ok c.cos 21 [] _ H1) ?_
          simp only [DV.av]
          cases hc : (c.cos.any fun d => !may d) with
          | true =>
            simp
            rw [e2, hc]; simp
          | false =>
            simp
            refine callK.mk (containsSh_ok c.shapes 24 [] _ H2) ?_
            rw [e2, hc, ← q2]
            simp
    · have h2 : hasB c.main c.procs.length = false := by simpa using h'
      rw [e1, mainOk, h2]; rfl
  · simp only [Bool.not_false, decide_eq_true_eq] at h
    unfold verifyOf; rw [decide_eq_true h]; rfl
end Go.Gr

set_option linter.unusedVariables false
set_option linter.unusedSimpArgs false
namespace Go.Abs
mutual
def D.erd : D → D
  | .sl _ s es => .sl false s (D.erdE es)
  | .any => .any
  | .int k n => .int k n
  | .bool b => .bool b
  | .str s => .str s
  | .sc v => .sc v
  | .rp cs o => .rp cs o
  | .fn f c => .fn f c
  | .ifc t a c => .ifc t a c
def D.erdL : List D → List D
  | [] => []
  | d :: ds => d.erd :: D.erdL ds
def D.erdE : List (List D) → List (List D)
  | [] => []
  | e :: es => D.erdL e :: D.erdE es
end
theorem D.erdL_length : ∀ ds : List D, (D.erdL ds).length = ds.length
  | [] => rfl
  | d :: ds => by simp [D.erdL, D.erdL_length ds]
theorem D.erdE_length : ∀ es : List (List D), (D.erdE es).length = es.length
  | [] => rfl
  | d :: ds => by simp [D.erdE, D.erdE_length ds]
mutual
theorem RepD.erd {h : PH} : ∀ (d : D) (v : Value), RepD h d v → RepD h d.erd v
  | .sl x s es, v, r => by
    simp only [D.erd]
    simp only [RepD] at r ⊢
    obtain ⟨a, cap, r1, r2, r3, r4, r5, r6, r7⟩ := r
    refine ⟨a, cap, by rw [r1, D.erdE_length], by rw [D.erdE_length]; exact r2, (fun h => by cases h), by rw [D.erdE_length]; exact r4, (fun ha => ⟨?_, (r5 ha).2⟩), r6, RepE.erd s es _ r7⟩
    rw [(r5 ha).1]; rfl
  | .any, v, r => by simp only [D.erd]; exact r
  | .int k n, v, r => by simp only [D.erd]; exact r
  | .bool b, v, r => by simp only [D.erd]; exact r
  | .str s, v, r => by simp only [D.erd]; exact r
  | .sc u, v, r => by simp only [D.erd]; exact r
  | .rp cs o, v, r => by simp only [D.erd]; exact r
  | .fn f c, v, r => by simp only [D.erd]; exact r
  | .ifc t a c, v, r => by simp only [D.erd]; exact r
theorem RepL.erd {h : PH} : ∀ (ds : List D) (vs : List Value), RepL h ds vs → RepL h (D.erdL ds) vs
  | [], vs, r => by simp [D.erdL, RepL]
  | _ :: _, [], r => by simp [RepL] at r
  | d :: ds, v :: vs, r => by
    simp only [RepL] at r
    simp only [D.erdL, RepL]
    exact ⟨⟨r.1.1, RepD.erd d v r.1.2⟩, RepL.erd ds vs r.2⟩
theorem RepE.erd {h : PH} (s : Nat) : ∀ (es : List (List D)) (vs : List Value), RepE h s es vs → RepE h s (D.erdE es) vs
  | [], vs, r => by simp [D.erdE, RepE]
  | e :: es, vs, r => by
    simp only [RepE] at r
    simp only [D.erdE, RepE]
    exact ⟨by rw [D.erdL_length]; exact r.1, RepL.erd e vs r.2.1, RepE.erd s es _ r.2.2⟩
end
mutual
def DV.erd : DV → DV
  | .one x => .one x.erd
  | .agg cs => .agg (D.erdL cs)
  | .tup vs => .tup (DV.erds vs)
def DV.erds : List DV → List DV
  | [] => []
  | v :: vs => v.erd :: DV.erds vs
end
mutual
theorem RepDV.erd {h : PH} : ∀ {d : DV} {v : Value}, RepDV h d v → RepDV h d.erd v
  | .one x, v, r => by simp only [RepDV, DV.erd] at r ⊢; exact RepD.erd _ _ r
  | .agg cs, v, r => by
    simp only [RepDV, DV.erd] at r ⊢
    obtain ⟨vs, r1, r2, r3⟩ := r
    exact ⟨vs, r1, by rw [r2, D.erdL_length], RepL.erd _ _ r3⟩
  | .tup xs, v, r => by
    simp only [RepDV, DV.erd] at r ⊢
    obtain ⟨vs, r1, r2⟩ := r
    exact ⟨vs, r1, RepDVL.erds r2⟩
theorem RepDVL.erds {h : PH} : ∀ {ds : List DV} {vs : List Value}, RepDVL h ds vs → RepDVL h (DV.erds ds) vs
  | [], _, r => by simpa [RepDVL, DV.erds] using r
  | _ :: _, [], r => by simp [RepDVL] at r
  | d :: ds, v :: vs, r => by
    simp only [RepDVL] at r
    simp only [DV.erds, RepDVL]
    exact ⟨RepDV.erd r.1, RepDVL.erds r.2⟩
end
/-- a call handed data of which less is said -/
theorem PCall.erd {P : Program} {f : FuncId} {args args' : List DV} {v : DV} (h : PCall P f args' v) (e : DV.erds args = args') : PCall P f args v := by
  subst e
  exact ⟨h.1, fun ph w us hp r => h.2 ph w us hp (RepDVL.erds r)⟩
end Go.Abs
namespace Go.Gr
open Go.Abs Go.Proofs

def aw1 : Cod := ⟨[], [], [], [], [⟨0, 1, [⟨23, 0, 0, 0⟩]⟩], 0, false⟩
def aw2 : Cod := ⟨[], [], [], [], [⟨0, 0, [⟨23, 0, 0, 0⟩]⟩], 0, false⟩
theorem aw1_ok : PCall Pg F.verify_Verify [.agg aw1.enc] (.one (.bool true)) :=
  Verify_ok aw1 (fun _ => true) (fun _ => true) (fun d h => by cases h) (fun d h => by cases h)
theorem aw2_ok : PCall Pg F.verify_Verify [.agg aw2.enc] (.one (.bool false)) :=
  Verify_ok aw2 (fun _ => true) (fun _ => true) (fun d h => by cases h) (fun d h => by cases h)

theorem awake_ok : PCall Pg F.graduslaw18_awake [] (.one (.bool true)) := by
  refine w_graduslaw18_awake (by simp) fun o c' hN hp => ?_
  unfold mc_graduslaw18_awake
  simp
  refine callK.mk (PCall.erd aw1_ok rfl) ?_
  simp
  refine callK.mk (PCall.erd aw2_ok rfl) ?_
  simp
  refine callK.mk (Sets_ok ⟨14, 3, 0, 0⟩) ?_
  simp [show setsOf ⟨14, 3, 0, 0⟩ = 3 from rfl]
  refine callK.mk (Sets_ok ⟨23, 3, 0, 0⟩) ?_
  simp [show setsOf ⟨23, 3, 0, 0⟩ = -1 from rfl]
end Go.Gr

set_option linter.unusedVariables false
set_option linter.unusedSimpArgs false
namespace Go.Gr
open Go.Abs Go.Proofs

set_option maxRecDepth 20000 in
theorem VerifyUses_ok (c : Cod) (i : Ins) : PCall Pg F.graduslaw18_VerifyUses [.agg c.enc, .agg i.enc] (.one (.bool true)) := by
  refine w_graduslaw18_VerifyUses (by simp) fun o c' hN hp => ?_
  unfold mc_graduslaw18_VerifyUses
  simp
  refine callK.mk awake_ok ?_
  simp
  refine callK.mk (Sized_ok c) ?_
  simp
  refine gd.mk (fun h => gd.mk (fun h2 => ?_) (fun h2 => ?_)) (fun h => ?_)
  · simp
  · refine callK.mk (Uses_ok c i) ?_
    simp
    have hm := rUses_ok c i
    have hlen : (rusesOf c i).length ≤ 768 := by rw [← uses_eq]; exact upTo_len c i 3
    rw [uses_eq]
    rcases use_cases c i with ⟨e1, e2⟩ | ⟨h0, e1, e2⟩
    all_goals
      rw [e1, e2] at hm
      generalize rusesOf c i = l at *
      refine callKM.mk [] hm (by simp) ?_
      simp
      refine callK.mk (Sets_ok i) ?_
      simp
      refine callK.mk (rSets_ok i) ?_
      simp [sets_eq]
      refine ⟨by decide, ?_⟩
    · refine W.loop Pg_mixed hp (fun j : Nat => j ≤ l.length) (fun j => [(9, .c (.d (.int .i64 j))), (7, .c (.d (.sl false 1 (encI l)))), (8, .c (.d (.sl true 1 (encI l))))]) (fun _ => []) (fun j => l.length - j) 0 [] (by simp) (by simp) fun j hj => ?_
      unfold lp_graduslaw18_VerifyUses_0
      simp
      refine gd.mk (fun h => ?_) (fun h => ?_)
      · simp at h
        have hj : j < l.length := by omega
        simp [List.getElem?_eq_getElem hj]
        refine ⟨by decide, Abs.Next.mk (j + 1) [] (by omega) (by omega) ?_⟩
        simp
        exact wrap_i64 (by omega) (by omega)
      · simp
    · refine W.loop Pg_mixed hp (fun j : Nat => j ≤ l.length) (fun j => [(9, .c (.d (.int .i64 j))), (7, .c (.d (.sl false 1 (encI l)))), (8, .c (.msl 1 0 0 l.length))]) (fun _ => [.arr 1 ((encI l).map (·.map .d))]) (fun j => l.length - j) 0 [0] (by simp) (by simp) fun j hj => ?_
      unfold lp_graduslaw18_VerifyUses_0
      simp
      refine gd.mk (fun h => ?_) (fun h => ?_)
      · simp at h
        have hj : j < l.length := by omega
        simp [List.getElem?_eq_getElem hj]
        refine ⟨hj, by decide, Abs.Next.mk (j + 1) [0] (by omega) (by omega) ?_⟩
        simp
        exact wrap_i64 (by omega) (by omega)
      · simp
  · simp
end Go.Gr
