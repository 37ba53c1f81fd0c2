import Derived.Test.YtkgomampbengjaaGreatDoorCoeC
/- Data of the program's types; the small functions. -/
set_option linter.unusedVariables false
set_option linter.unusedSimpArgs false
namespace Go.Gr
open Go.Abs Go.Proofs

structure Ins where
  op : Int
  a : Int
  b : Int
  c : Int
def Ins.enc (i : Ins) : List D := [.int .i64 i.op, .int .i64 i.a, .int .i64 i.b, .int .i64 i.c]
structure Prc where
  caps : Int
  regs : Int
  code : List Ins
def Prc.enc (p : Prc) : List D := [.int .i64 p.caps, .int .i64 p.regs, .sl false 4 (p.code.map Ins.enc)]
def encI (l : List Int) : List (List D) := l.map fun i => [.int .i64 i]
def encS (l : List ByteArray) : List (List D) := l.map fun s => [.str s]
def encN (l : List (ByteArray × Int)) : List (List D) := l.map fun x => [.str x.1, .int .i64 x.2]
inductive Coe where
  | mk (tags : List Int) (needs : List (ByteArray × Int)) (names : List ByteArray) (fields fn : List Coe)
mutual
def Coe.enc : Coe → List D
  | .mk t n s f g => [.sl false 1 (encI t), .sl false 2 (encN n), .sl false 1 (encS s), .sl false 5 (Coe.encs f), .sl false 5 (Coe.encs g)]
def Coe.encs : List Coe → List (List D)
  | [] => []
  | c :: cs => Coe.enc c :: Coe.encs cs
end
theorem Coe.encs_map (l : List Coe) : Coe.encs l = l.map Coe.enc := by
  induction l with
  | nil => simp [Coe.encs]
  | cons c l ih => simp [Coe.encs, ih]
structure Cod where
  ints : List Int
  strs : List ByteArray
  shapes : List (List ByteArray)
  cos : List Coe
  procs : List Prc
  main : Int
  merge : Bool
def Cod.enc (c : Cod) : List D := [.sl false 1 (encI c.ints), .sl false 1 (encS c.strs), .sl false 1 (c.shapes.map fun l => [.sl false 1 (encS l)]), .sl false 5 (c.cos.map Coe.enc), .sl false 3 (c.procs.map Prc.enc), .int .i64 c.main, .bool c.merge]

@[simp] theorem Ins.enc_length (i : Ins) : i.enc.length = 4 := rfl
@[simp] theorem Ins.enc_0 (i : Ins) : i.enc[0]? = some (.int .i64 i.op) := rfl
@[simp] theorem Ins.enc_1 (i : Ins) : i.enc[1]? = some (.int .i64 i.a) := rfl
@[simp] theorem Ins.enc_2 (i : Ins) : i.enc[2]? = some (.int .i64 i.b) := rfl
@[simp] theorem Ins.enc_3 (i : Ins) : i.enc[3]? = some (.int .i64 i.c) := rfl
@[simp] theorem Prc.enc_length (p : Prc) : p.enc.length = 3 := rfl
@[simp] theorem Prc.enc_0 (p : Prc) : p.enc[0]? = some (.int .i64 p.caps) := rfl
@[simp] theorem Prc.enc_1 (p : Prc) : p.enc[1]? = some (.int .i64 p.regs) := rfl
@[simp] theorem Prc.enc_2 (p : Prc) : p.enc[2]? = some (.sl false 4 (p.code.map Ins.enc)) := rfl
@[simp] theorem Cod.enc_length (c : Cod) : c.enc.length = 7 := rfl
@[simp] theorem Cod.enc_0 (c : Cod) : c.enc[0]? = some (.sl false 1 (encI c.ints)) := rfl
@[simp] theorem Cod.enc_1 (c : Cod) : c.enc[1]? = some (.sl false 1 (encS c.strs)) := rfl
@[simp] theorem Cod.enc_2 (c : Cod) : c.enc[2]? = some (.sl false 1 (c.shapes.map fun l => [.sl false 1 (encS l)])) := rfl
@[simp] theorem Cod.enc_3 (c : Cod) : c.enc[3]? = some (.sl false 5 (c.cos.map Coe.enc)) := rfl
@[simp] theorem Cod.enc_4 (c : Cod) : c.enc[4]? = some (.sl false 3 (c.procs.map Prc.enc)) := rfl
@[simp] theorem Cod.enc_5 (c : Cod) : c.enc[5]? = some (.int .i64 c.main) := rfl
@[simp] theorem Cod.enc_6 (c : Cod) : c.enc[6]? = some (.bool c.merge) := rfl
@[simp] theorem Ins.cut_enc (i : Ins) : cut i.enc 0 4 = i.enc := rfl
@[simp] theorem Prc.cut_enc (p : Prc) : cut p.enc 0 3 = p.enc := rfl
@[simp] theorem Cod.cut_enc (c : Cod) : cut c.enc 0 7 = c.enc := rfl
@[simp] theorem Ins.cut_map (i : Ins) : cut (i.enc.map AC.d) 0 4 = i.enc.map .d := rfl
@[simp] theorem Prc.cut_map (p : Prc) : cut (p.enc.map AC.d) 0 3 = p.enc.map .d := rfl
@[simp] theorem Cod.cut_map (c : Cod) : cut (c.enc.map AC.d) 0 7 = c.enc.map .d := rfl
@[simp] theorem encI_length (l : List Int) : (encI l).length = l.length := by simp [encI]
@[simp] theorem encS_length (l : List ByteArray) : (encS l).length = l.length := by simp [encS]
@[simp] theorem encN_length (l : List (ByteArray × Int)) : (encN l).length = l.length := by simp [encN]
@[simp] theorem encI_get (l : List Int) (k : Nat) : (encI l)[k]? = (l[k]?).map fun i => [.int .i64 i] := by simp [encI]
@[simp] theorem encS_get (l : List ByteArray) (k : Nat) : (encS l)[k]? = (l[k]?).map fun i => [.str i] := by simp [encS]


def Coe.tags : Coe → List Int | .mk t _ _ _ _ => t
def Coe.needs : Coe → List (ByteArray × Int) | .mk _ n _ _ _ => n
def Coe.names : Coe → List ByteArray | .mk _ _ s _ _ => s
def Coe.fields : Coe → List Coe | .mk _ _ _ f _ => f
def Coe.fn : Coe → List Coe | .mk _ _ _ _ g => g
theorem Coe.enc_eq (d : Coe) : d.enc = [.sl false 1 (encI d.tags), .sl false 2 (encN d.needs), .sl false 1 (encS d.names), .sl false 5 (d.fields.map Coe.enc), .sl false 5 (d.fn.map Coe.enc)] := by
  cases d with
  | mk t n s f g => simp [Coe.enc, Coe.encs_map, Coe.tags, Coe.needs, Coe.names, Coe.fields, Coe.fn]
@[simp] theorem Coe.enc_length (d : Coe) : d.enc.length = 5 := by simp [Coe.enc_eq]
@[simp high] theorem Coe.enc_0 (d : Coe) : d.enc[0]? = some (.sl false 1 (encI d.tags)) := by simp [Coe.enc_eq]
@[simp high] theorem Coe.enc_1 (d : Coe) : d.enc[1]? = some (.sl false 2 (encN d.needs)) := by simp [Coe.enc_eq]
@[simp high] theorem Coe.enc_2 (d : Coe) : d.enc[2]? = some (.sl false 1 (encS d.names)) := by simp [Coe.enc_eq]
@[simp high] theorem Coe.enc_3 (d : Coe) : d.enc[3]? = some (.sl false 5 (d.fields.map Coe.enc)) := by simp [Coe.enc_eq]
@[simp high] theorem Coe.enc_4 (d : Coe) : d.enc[4]? = some (.sl false 5 (d.fn.map Coe.enc)) := by simp [Coe.enc_eq]
@[simp] theorem Coe.cut_enc (d : Coe) : cut d.enc 0 5 = d.enc := by simp [cut]
@[simp] theorem Coe.cut_map (d : Coe) : cut (d.enc.map AC.d) 0 5 = d.enc.map .d := by simp [cut]

end Go.Gr

/- Slices that are compared. -/
set_option linter.unusedVariables false
set_option linter.unusedSimpArgs false
namespace Go.Gr
open Go.Abs Go.Proofs
@[simp] theorem encN_get (l : List (ByteArray × Int)) (k : Nat) : (encN l)[k]? = (l[k]?).map fun x => [.str x.1, .int .i64 x.2] := by simp [encN]

theorem eqInts_ok (a b : List Int) : PCall Pg F.slices_Equal_int_int [.one (.sl false 1 (encI a)), .one (.sl false 1 (encI b))] (.one (.bool (decide (a = b)))) := by
  refine w_slices_Equal_int_int (by simp) fun o c hN hp => ?_
  have hl : a.length ≤ lenMax := by have := o.1; simp only [DV.ok, D.ok] at this; simpa [encI] using this.1
  unfold lenMax at hl
  unfold mc_slices_Equal_int_int
  simp
  refine gd.mk (fun h => ?_) (fun h => ?_)
  · simp at h
    intro e; rw [e] at h; exact h rfl
  · simp at h
    refine W.loopL Pg_mixed hp lv_slices_Equal_int_int_0 [13] (fun j : Nat => j ≤ a.length ∧ a.take j = b.take j) (fun j => [.c (.d (.int .i64 j))]) (fun _ => []) (fun j => a.length - j) 0 [] (by simp) (by simp [lv_slices_Equal_int_int_0]) fun j ⟨h1, h2⟩ => ?_
    unfold lp_slices_Equal_int_int_0 lv_slices_Equal_int_int_0
    simp
    refine gd.mk (fun h => ?_) (fun h => ?_)
    · have hj : j < a.length := by simpa using h
      have hj' : j < b.length := by omega
      simp [List.getElem?_eq_getElem hj, List.getElem?_eq_getElem hj']
      refine ⟨by decide, gd.mk (fun h => ?_) (fun h => ?_)⟩
      · simp at h
        intro e
        subst e
        exact h rfl
      · simp at h
        refine Abs.Next.mk (j + 1) [] ⟨by omega, ?_⟩ (by omega) (by simp; exact wrap_i64 (by omega) (by omega))
        rw [List.take_succ_eq_append_getElem hj, List.take_succ_eq_append_getElem hj', h2, h]
    · have hj : j = a.length := by simp at h; omega
      subst hj
      rw [List.take_length, List.take_of_length_le (by omega)] at h2
      exact h2

theorem eqStrs_ok (a b : List ByteArray) : PCall Pg F.slices_Equal_string_string [.one (.sl false 1 (encS a)), .one (.sl false 1 (encS b))] (.one (.bool (decide (a = b)))) := by
  refine w_slices_Equal_string_string (by simp) fun o c hN hp => ?_
  have hl : a.length ≤ lenMax := by have := o.1; simp only [DV.ok, D.ok] at this; simpa [encS] using this.1
  unfold lenMax at hl
  unfold mc_slices_Equal_string_string
  simp
  refine gd.mk (fun h => ?_) (fun h => ?_)
  · simp at h
    intro e; rw [e] at h; exact h rfl
  · simp at h
    refine W.loopL Pg_mixed hp lv_slices_Equal_string_string_0 [13] (fun j : Nat => j ≤ a.length ∧ a.take j = b.take j) (fun j => [.c (.d (.int .i64 j))]) (fun _ => []) (fun j => a.length - j) 0 [] (by simp) (by simp [lv_slices_Equal_string_string_0]) fun j ⟨h1, h2⟩ => ?_
    unfold lp_slices_Equal_string_string_0 lv_slices_Equal_string_string_0
    simp
    refine gd.mk (fun h => ?_) (fun h => ?_)
    · have hj : j < a.length := by simpa using h
      have hj' : j < b.length := by omega
      simp [List.getElem?_eq_getElem hj, List.getElem?_eq_getElem hj']
      refine ⟨by decide, gd.mk (fun h => ?_) (fun h => ?_)⟩
      · simp at h
        intro e
        subst e
        exact h rfl
      · simp at h
        refine Abs.Next.mk (j + 1) [] ⟨by omega, ?_⟩ (by omega) (by simp; exact wrap_i64 (by omega) (by omega))
        rw [List.take_succ_eq_append_getElem hj, List.take_succ_eq_append_getElem hj', h2, h]
    · have hj : j = a.length := by simp at h; omega
      subst hj
      rw [List.take_length, List.take_of_length_le (by omega)] at h2
      exact h2

theorem eqNeeds_ok (a b : List (ByteArray × Int)) : PCall Pg F.slices_Equal_api_Need_api_Need [.one (.sl false 2 (encN a)), .one (.sl false 2 (encN b))] (.one (.bool (decide (a = b)))) := by
  refine w_slices_Equal_api_Need_api_Need (by simp) fun o c hN hp => ?_
  have hl : a.length ≤ lenMax := by have := o.1; simp only [DV.ok, D.ok] at this; simpa [encN] using this.1
  unfold lenMax at hl
  unfold mc_slices_Equal_api_Need_api_Need
  simp
  refine gd.mk (fun h => ?_) (fun h => ?_)
  · simp at h
    intro e; rw [e] at h; exact h rfl
  · simp at h
    refine W.loopL Pg_mixed hp lv_slices_Equal_api_Need_api_Need_0 [13] (fun j : Nat => j ≤ a.length ∧ a.take j = b.take j) (fun j => [.c (.d (.int .i64 j))]) (fun _ => []) (fun j => a.length - j) 0 [] (by simp) (by simp [lv_slices_Equal_api_Need_api_Need_0]) fun j ⟨h1, h2⟩ => ?_
    unfold lp_slices_Equal_api_Need_api_Need_0 lv_slices_Equal_api_Need_api_Need_0
    simp
    refine gd.mk (fun h => ?_) (fun h => ?_)
    · have hj : j < a.length := by simpa using h
      have hj' : j < b.length := by omega
      simp [List.getElem?_eq_getElem hj, List.getElem?_eq_getElem hj']
      refine ⟨by decide, gd.mk (fun h => ?_) (fun h => ?_)⟩
      · simp at h
        intro e
        subst e
        simp at h
      · simp at h
        refine Abs.Next.mk (j + 1) [] ⟨by omega, ?_⟩ (by omega) (by simp; exact wrap_i64 (by omega) (by omega))
        rw [List.take_succ_eq_append_getElem hj, List.take_succ_eq_append_getElem hj', h2, Prod.ext h.1 h.2]
    · have hj : j = a.length := by simp at h; omega
      subst hj
      rw [List.take_length, List.take_of_length_le (by omega)] at h2
      exact h2

end Go.Gr

set_option linter.unusedVariables false
set_option linter.unusedSimpArgs false
namespace Go.Gr
open Go.Abs Go.Proofs
mutual
def wgt : Coe → Int → Int
  | .mk t n s f g, m => if 100 < (t.length : Int) ∨ 100 < (n.length : Int) ∨ 100 < (s.length : Int) ∨ m < f.length ∨ m < g.length then 0 else wgts g (wgts f (IntKind.i64.wrap (m - 1)))
def wgts : List Coe → Int → Int
  | [], m => m
  | d :: ds, m => if 0 < m then wgts ds (wgt d m) else m
end
theorem wgt_eq (d : Coe) (m : Int) : wgt d m = if 100 < (d.tags.length : Int) ∨ 100 < (d.needs.length : Int) ∨ 100 < (d.names.length : Int) ∨ m < d.fields.length ∨ m < d.fn.length then 0 else wgts d.fn (wgts d.fields (IntKind.i64.wrap (m - 1))) := by
  cases d; rw [wgt]; rfl
theorem wgts_stop {l : List Coe} {m : Int} (h : m ≤ 0) : wgts l m = m := by
  cases l with
  | nil => rw [wgts]
  | cons d l => rw [wgts, if_neg (by omega)]

abbrev wT (d : Coe) (r : Int) : List (Nat × AV) := [(1, .c (.d (.int .i64 r))), (2, .c (.d (.rp d.enc 0)))]
theorem weight_two {c : Ctx} (hp : c.pure) (d : Coe) (ih : ∀ e, e ∈ d.fn → ∀ m, PCall Pg F.graduslaw10_weight [.agg e.enc, .one (.int .i64 m)] (.one (.int .i64 (wgt e m)))) (hg : d.fn.length ≤ 4611686018427387904) {r0 : Int} {Q : Exit → St → Prop} {S : St} {g}
    (h0 : Match [] S ((6, .c (.d (.int .i64 0))) :: wT d r0) []) (hQ : ∀ t x, Abs.look t 1 = .c (.d (.int .i64 (wgts d.fn r0))) → Q (.exit 2) ⟨t, hpOf [], x⟩) : lw_ Pg c lp_graduslaw10_weight_2 Q g S := by
  refine W.loop Pg_mixed hp (fun x : Nat × Int => x.1 ≤ d.fn.length ∧ wgts (d.fn.drop x.1) x.2 = wgts d.fn r0) (fun x => (6, .c (.d (.int .i64 x.1))) :: wT d x.2) (fun _ => []) (fun x => d.fn.length - x.1) (0, r0) [] ⟨by simp, by simp⟩ (by simpa using h0) fun x hx => ?_
  obtain ⟨j, r⟩ := x
  obtain ⟨hx1, hx2⟩ := hx
  simp only at hx1 hx2
  unfold lp_graduslaw10_weight_2
  simp
  refine gd.mk (fun h => gd.mk (fun h' => ?_) (fun h' => ?_)) (fun h => ?_)
  · simp at h h'
    have hj : j < d.fn.length := by omega
    simp [List.getElem?_eq_getElem hj]
    refine callK.mk (ih _ (List.getElem_mem hj) _) ?_
    simp
    refine Abs.Next.mk (j + 1, wgt d.fn[j] r) [] ⟨by simp; omega, ?_⟩ (by simp; omega) ?_
    · rw [← hx2, List.drop_eq_getElem_cons hj, wgts, if_pos h']
    · simp
      exact wrap_i64 (by omega) (by omega)
  · simp at h'
    refine hQ _ _ ?_
    rw [← hx2, wgts_stop h']; rfl
  · have hj : j = d.fn.length := by simp at h; omega
    refine hQ _ _ ?_
    rw [← hx2, hj]; simp [wgts]

theorem weight_one (d : Coe) (ih : ∀ e, e ∈ d.fields ∨ e ∈ d.fn → ∀ m, PCall Pg F.graduslaw10_weight [.agg e.enc, .one (.int .i64 m)] (.one (.int .i64 (wgt e m)))) (m : Int) :
    PCall Pg F.graduslaw10_weight [.agg d.enc, .one (.int .i64 m)] (.one (.int .i64 (wgt d m))) := by
  refine w_graduslaw10_weight (by simp) fun o c hN hp => ?_
  have hf : d.fields.length ≤ lenMax := by
    have := o.1; rw [Coe.enc_eq] at this; simp only [DV.ok, D.okL, D.ok] at this; simpa using this.2.2.2.1.1
  have hg : d.fn.length ≤ lenMax := by
    have := o.1; rw [Coe.enc_eq] at this; simp only [DV.ok, D.okL, D.ok] at this; simpa using this.2.2.2.2.1.1
  unfold lenMax at hf hg
  unfold mc_graduslaw10_weight
  simp
  repeat' (refine gd.mk (fun h => ?_) (fun h => ?_))
  all_goals (simp only [Bool.not_true, Bool.not_false, decide_eq_true_eq, decide_eq_false_iff_not] at *)
  all_goals (first | (rw [wgt_eq, if_pos (by omega)]; done) | skip)
  have e : wgt d m = wgts d.fn (wgts d.fields (IntKind.i64.wrap (m - 1))) := by rw [wgt_eq, if_neg (by omega)]
  rw [e]
  refine W.loop Pg_mixed hp (fun x : Nat × Int => x.1 ≤ d.fields.length ∧ wgts (d.fields.drop x.1) x.2 = wgts d.fields (IntKind.i64.wrap (m - 1))) (fun x => (5, .c (.d (.int .i64 x.1))) :: wT d x.2) (fun _ => []) (fun x => d.fields.length - x.1) (0, IntKind.i64.wrap (m - 1)) [] ⟨by simp, by simp⟩ (by simp) fun x hx => ?_
  unfold lp_graduslaw10_weight_0
  obtain ⟨j, r⟩ := x
  obtain ⟨hx1, hx2⟩ := hx
  simp only at hx1 hx2
  simp
  refine gd.mk (fun h => gd.mk (fun h' => ?_) (fun h' => ?_)) (fun h => ?_)
  · simp at h h'
    have hj : j < d.fields.length := by omega
    simp [List.getElem?_eq_getElem hj]
    refine callK.mk (ih _ (.inl (List.getElem_mem hj)) _) ?_
    simp
    refine Abs.Next.mk (j + 1, wgt d.fields[j] r) [] ⟨by simp; omega, ?_⟩ (by simp; omega) ?_
    · rw [← hx2, List.drop_eq_getElem_cons hj, wgts, if_pos h']
    · simp
      exact wrap_i64 (by omega) (by omega)
  · simp at h'
    refine weight_two hp d (fun e h => ih e (.inr h)) hg (r0 := r) (by simp) fun t x q => ?_
    simp [q]
    rw [← hx2, wgts_stop (l := List.drop j d.fields) h']
  · have hj : j = d.fields.length := by simp at h; omega
    refine weight_two hp d (fun e h => ih e (.inr h)) hg (r0 := r) (by simp) fun t x q => ?_
    simp [q]
    rw [← hx2, hj]; simp [wgts]

mutual
theorem weight_ok : ∀ (d : Coe) (m : Int), PCall Pg F.graduslaw10_weight [.agg d.enc, .one (.int .i64 m)] (.one (.int .i64 (wgt d m)))
  | .mk t n s f g, m => weight_one (.mk t n s f g) (fun e h m => by
      rcases h with h | h
      · exact weights_ok f e h m
      · exact weights_ok g e h m) m
theorem weights_ok : ∀ (l : List Coe) (e : Coe), e ∈ l → ∀ m : Int, PCall Pg F.graduslaw10_weight [.agg e.enc, .one (.int .i64 m)] (.one (.int .i64 (wgt e m)))
  | [], e, h, m => by cases h
  | d :: l, e, h, m => by
    cases h with
    | head => exact weight_ok d m
    | tail _ h => exact weights_ok l e h m
end
end Go.Gr

/- Coercions: two are the same. -/
set_option linter.unusedVariables false
set_option linter.unusedSimpArgs false
namespace Go.Gr
open Go.Abs Go.Proofs

mutual
def sameC : Coe → Coe → Bool
  | .mk t n s f g, .mk t' n' s' f' g' => decide (t = t') && (decide (n = n') && (decide (s = s') && (sameCs f f' && sameCs g g')))
def sameCs : List Coe → List Coe → Bool
  | [], [] => true
  | a :: l, b :: k => sameC a b && sameCs l k
  | _, _ => false
end
def idC : Coe := .mk [0, 0, 0, 0, 0, 0] [] [] [] []

theorem Id_ok : PCall Pg F.coerce_Id [] (.agg idC.enc) := by
  refine w_coerce_Id (by simp) fun o c hN hp => ?_
  unfold mc_coerce_Id
  simp [idC, Coe.enc, encI, encN, encS, Coe.encs]

theorem rId_ok : PCall Pg F.gradusref10_Id [] (.agg idC.enc) := by
  refine w_gradusref10_Id (by simp) fun o c hN hp => ?_
  unfold mc_gradusref10_Id
  simp [idC, Coe.enc, encI, encN, encS, Coe.encs]

/-- two lists, one after the other -/
def eqF {α : Type} (q : α → α → Bool) : List α → List α → Bool
  | [], [] => true
  | a :: l, b :: k => q a b && eqF q l k
  | _, _ => false
theorem eqF_len {α : Type} (q : α → α → Bool) : ∀ {a b : List α}, a.length ≠ b.length → eqF q a b = false
  | [], [], h => by simp at h
  | [], _ :: _, h => rfl
  | _ :: _, [], h => rfl
  | a :: l, b :: k, h => by simp only [eqF]; rw [eqF_len q (a := l) (b := k) (by simpa using h)]; simp

theorem EqualFunc_ok (a b : List Coe) (g : FuncId) (caps : List D) (q : Coe → Coe → Bool) (H : ∀ x, x ∈ a → ∀ y, PCall Pg g (.agg x.enc :: .agg y.enc :: caps.map .one) (.one (.bool (q x y)))) :
    PCall Pg F.slices_EqualFunc_api_Co_api_Co_api_Co_api_Co [.one (.sl false 5 (a.map Coe.enc)), .one (.sl false 5 (b.map Coe.enc)), .one (.fn (.func g) caps)] (.one (.bool (eqF q a b))) := by
  refine w_slices_EqualFunc_api_Co_api_Co_api_Co_api_Co (by simp) fun o c hN hp => ?_
  have hl : a.length ≤ lenMax := by have := o.1; simp only [DV.ok, D.ok] at this; simpa using this.1
  unfold lenMax at hl
  unfold mc_slices_EqualFunc_api_Co_api_Co_api_Co_api_Co
  simp
  refine gd.mk (fun h => ?_) (fun h => ?_)
  · simp at h
    exact eqF_len q (by omega)
  · simp at h
    refine W.loopL Pg_mixed hp lv_slices_EqualFunc_api_Co_api_Co_api_Co_api_Co_0 [17] (fun j : Nat => j ≤ a.length ∧ eqF q (a.drop j) (b.drop j) = eqF q a b) (fun j => [.c (.d (.int .i64 j))]) (fun _ => []) (fun j => a.length - j) 0 [] (by simp) (by simp [lv_slices_EqualFunc_api_Co_api_Co_api_Co_api_Co_0]) fun j ⟨h1, h2⟩ => ?_
    unfold lp_slices_EqualFunc_api_Co_api_Co_api_Co_api_Co_0 lv_slices_EqualFunc_api_Co_api_Co_api_Co_api_Co_0
    simp
    refine gd.mk (fun h => ?_) (fun h => ?_)
    · have hj : j < a.length := by simpa using h
      have hj' : j < b.length := by omega
      rw [List.drop_eq_getElem_cons hj, List.drop_eq_getElem_cons hj', eqF] at h2
      simp [List.getElem?_eq_getElem hj, List.getElem?_eq_getElem hj']
      refine callK.mk (H _ (List.getElem_mem hj) _) ?_
      simp
      refine gd.mk (fun h => ?_) (fun h => ?_)
      · simp at h
        rw [h, Bool.false_and] at h2
        exact h2.symm
      · simp at h
        rw [h, Bool.true_and] at h2
        exact Abs.Next.mk (j + 1) [] ⟨by omega, h2⟩ (by omega) (by simp; exact wrap_i64 (by omega) (by omega))
    · have hj : j = a.length := by simp at h; omega
      subst hj
      rw [List.drop_length, List.drop_of_length_le (by omega)] at h2
      rw [← h2]; rfl

theorem sameCs_eq : ∀ (a b : List Coe), sameCs a b = eqF sameC a b
  | [], [] => by simp [sameCs, eqF]
  | [], _ :: _ => by simp [sameCs, eqF]
  | _ :: _, [] => by simp [sameCs, eqF]
  | a :: l, b :: k => by simp [sameCs, eqF, sameCs_eq l k]
theorem sameC_eq (a b : Coe) : sameC a b = (decide (a.tags = b.tags) && (decide (a.needs = b.needs) && (decide (a.names = b.names) && (eqF sameC a.fields b.fields && eqF sameC a.fn b.fn)))) := by
  cases a; cases b
  simp only [sameC, sameCs_eq]
  rfl

theorem Same_one (a b : Coe) (ih : ∀ x, x ∈ a.fields ∨ x ∈ a.fn → ∀ y, PCall Pg F.coerce_Same [.agg x.enc, .agg y.enc] (.one (.bool (sameC x y)))) : PCall Pg F.coerce_Same [.agg a.enc, .agg b.enc] (.one (.bool (sameC a b))) := by
  have e := sameC_eq a b
  rw [Coe.enc_eq a, Coe.enc_eq b]
  refine w_coerce_Same (by simp) fun o c hN hp => ?_
  unfold mc_coerce_Same
  simp
  refine callK.mk (eqInts_ok _ _) ?_
  generalize decide (a.tags = b.tags) = p1 at e ⊢
  simp
  refine gd.mk (fun h1 => ?_) (fun h1 => ?_)
  · refine callK.mk (eqNeeds_ok _ _) ?_
    generalize decide (a.needs = b.needs) = p2 at e ⊢
    simp
    refine gd.mk (fun h2 => ?_) (fun h2 => ?_)
    · refine callK.mk (eqStrs_ok _ _) ?_
      generalize decide (a.names = b.names) = p3 at e ⊢
      simp
      refine gd.mk (fun h3 => ?_) (fun h3 => ?_)
      · refine callK.mk (EqualFunc_ok _ _ F.coerce_Same [] sameC fun x hx y => ih x (.inl hx) y) ?_
        generalize eqF sameC a.fields b.fields = p4 at e ⊢
        simp
        refine gd.mk (fun h4 => ?_) (fun h4 => ?_)
        · refine callK.mk (EqualFunc_ok _ _ F.coerce_Same [] sameC fun x hx y => ih x (.inr hx) y) ?_
          simp [e, h1, h2, h3, h4]
        · simp at h4
          simp [e, h4]
      · simp at h3
        simp [e, h3]
    · simp at h2
      simp [e, h2]
  · simp at h1
    simp [e, h1]
mutual
theorem Same_ok : ∀ (a b : Coe), PCall Pg F.coerce_Same [.agg a.enc, .agg b.enc] (.one (.bool (sameC a b)))
  | .mk t n s f g, b => Same_one _ b fun x hx y => hx.elim (fun h => Same_oks f x h y) (fun h => Same_oks g x h y)
theorem Same_oks : ∀ (l : List Coe) (x : Coe), x ∈ l → ∀ y, PCall Pg F.coerce_Same [.agg x.enc, .agg y.enc] (.one (.bool (sameC x y)))
  | c :: l, x, h, y => by
    cases List.mem_cons.1 h with
    | inl e => rw [e]; exact Same_ok c y
    | inr e => exact Same_oks l x e y
end
end Go.Gr

/- Coercions: the reference's sameness. -/
set_option linter.unusedVariables false
set_option linter.unusedSimpArgs false
namespace Go.Gr
open Go.Abs Go.Proofs

theorem take_next {α : Type} {a b : List α} {j : Nat} (ha : j < a.length) (hb : j < b.length) (h : a.take j = b.take j) (e : a[j] = b[j]) : a.take (j + 1) = b.take (j + 1) := by
  rw [List.take_succ_eq_append_getElem ha, List.take_succ_eq_append_getElem hb, h, e]
theorem take_all {α : Type} {a b : List α} {j : Nat} (ha : j = a.length) (hb : a.length = b.length) (h : a.take j = b.take j) : a = b := by
  subst ha
  rw [List.take_length, List.take_of_length_le (by omega)] at h
  exact h
theorem eqF_all {α : Type} (q : α → α → Bool) : ∀ {a b : List α} {j : Nat}, a.length ≤ j → a.length = b.length → eqF q (a.drop j) (b.drop j) = true
  | a, b, j, h, e => by rw [List.drop_of_length_le h, List.drop_of_length_le (by omega)]; rfl

set_option maxRecDepth 20000 in
theorem rSame_one (a b : Coe) (ih : ∀ x, x ∈ a.fields ∨ x ∈ a.fn → ∀ y, PCall Pg F.gradusref10_Same [.agg x.enc, .agg y.enc] (.one (.bool (sameC x y)))) : PCall Pg F.gradusref10_Same [.agg a.enc, .agg b.enc] (.one (.bool (sameC a b))) := by
  have e := sameC_eq a b
  rw [Coe.enc_eq a, Coe.enc_eq b]
  refine w_gradusref10_Same (by simp) fun o c hN hp => ?_
  have hl : a.tags.length ≤ lenMax ∧ a.needs.length ≤ lenMax ∧ a.names.length ≤ lenMax ∧ a.fields.length ≤ lenMax ∧ a.fn.length ≤ lenMax := by
    have := o.1; simp only [DV.ok, D.okL, D.ok, encI_length, encN_length, encS_length, List.length_map] at this; exact ⟨this.1.1, this.2.1.1, this.2.2.1.1, this.2.2.2.1.1, this.2.2.2.2.1.1⟩
  unfold lenMax at hl
  obtain ⟨l1, l2, l3, l4, l5⟩ := hl
  unfold mc_gradusref10_Same
  simp
  have f1 : a.tags.length ≠ b.tags.length → decide (a.tags = b.tags) = false := fun h => decide_eq_false fun e => h (by rw [e])
  have f2 : a.needs.length ≠ b.needs.length → decide (a.needs = b.needs) = false := fun h => decide_eq_false fun e => h (by rw [e])
  have f3 : a.names.length ≠ b.names.length → decide (a.names = b.names) = false := fun h => decide_eq_false fun e => h (by rw [e])
  have f4 : a.fields.length ≠ b.fields.length → eqF sameC a.fields b.fields = false := eqF_len _
  have f5 : a.fn.length ≠ b.fn.length → eqF sameC a.fn b.fn = false := eqF_len _
  refine gd.mk (fun h1 => ?_) (fun h1 => ?_)
  rotate_left
  · have h1 : a.tags.length ≠ b.tags.length := by simp at h1; omega
    simp [e, f1 h1]
  have h1 : a.tags.length = b.tags.length := by simp at h1; omega
  refine gd.mk (fun h2 => ?_) (fun h2 => ?_)
  rotate_left
  · have h2 : a.needs.length ≠ b.needs.length := by simp at h2; omega
    simp [e, f2 h2]
  have h2 : a.needs.length = b.needs.length := by simp at h2; omega
  refine gd.mk (fun h3 => ?_) (fun h3 => ?_)
  rotate_left
  · have h3 : a.names.length ≠ b.names.length := by simp at h3; omega
    simp [e, f3 h3]
  have h3 : a.names.length = b.names.length := by simp at h3; omega
  refine gd.mk (fun h4 => ?_) (fun h4 => ?_)
  rotate_left
  · have h4 : a.fields.length ≠ b.fields.length := by simp at h4; omega
    simp [e, f4 h4]
  have h4 : a.fields.length = b.fields.length := by simp at h4; omega
  refine gd.mk (fun h5 => ?_) (fun h5 => ?_)
  · have h5 : a.fn.length ≠ b.fn.length := by simp at h5; omega
    simp [e, f5 h5]
  have h5 : a.fn.length = b.fn.length := by simp at h5; omega
  refine W.loopL Pg_mixed hp lv_gradusref10_Same_0 [5] (fun j : Nat => j ≤ a.tags.length ∧ a.tags.take j = b.tags.take j) (fun j => [.c (.d (.int .i64 j))]) (fun _ => []) (fun j => a.tags.length - j) 0 [] (by simp) (by simp [lv_gradusref10_Same_0]) fun j ⟨g1, g2⟩ => ?_
  unfold lp_gradusref10_Same_0 lv_gradusref10_Same_0
  simp
  refine gd.mk (fun h => ?_) (fun h => ?_)
  · have hj : j < a.tags.length := by simpa using h
    have hj' : j < b.tags.length := by omega
    simp [List.getElem?_eq_getElem hj, List.getElem?_eq_getElem hj']
    refine ⟨by decide, gd.mk (fun h => ?_) (fun h => ?_)⟩
    · simp at h
      have : decide (a.tags = b.tags) = false := decide_eq_false fun e => h (List.getElem_of_eq e _)
      rw [e, this]; rfl
    · simp at h
      exact Abs.Next.mk (j + 1) [] ⟨by omega, take_next hj hj' g2 h⟩ (by omega) (by simp; exact wrap_i64 (by omega) (by omega))
  have hj : j = a.tags.length := by simp at h; omega
  have d1 := take_all hj h1 g2
  refine W.loopL Pg_mixed hp lv_gradusref10_Same_2 [6] (fun j : Nat => j ≤ a.needs.length ∧ a.needs.take j = b.needs.take j) (fun j => [.c (.d (.int .i64 j))]) (fun _ => []) (fun j => a.needs.length - j) 0 [] (by simp) (by simp [lv_gradusref10_Same_2]) fun j ⟨g1, g2⟩ => ?_
  unfold lp_gradusref10_Same_2 lv_gradusref10_Same_2
  simp
  refine gd.mk (fun h => ?_) (fun h => ?_)
  · have hj : j < a.needs.length := by simpa using h
    have hj' : j < b.needs.length := by omega
    simp [List.getElem?_eq_getElem hj, List.getElem?_eq_getElem hj']
    refine ⟨by decide, gd.mk (fun h => ?_) (fun h => ?_)⟩
    · have : decide (a.needs = b.needs) = false := decide_eq_false fun e => by
        have := List.getElem_of_eq e hj
        rw [this] at h
        simp at h
      rw [e, this, Bool.false_and, Bool.and_false]
    · simp at h
      exact Abs.Next.mk (j + 1) [] ⟨by omega, take_next hj hj' g2 (Prod.ext h.1 h.2)⟩ (by omega) (by simp; exact wrap_i64 (by omega) (by omega))
  have hj : j = a.needs.length := by simp at h; omega
  have d2 := take_all hj h2 g2
  refine W.loopL Pg_mixed hp lv_gradusref10_Same_4 [7] (fun j : Nat => j ≤ a.names.length ∧ a.names.take j = b.names.take j) (fun j => [.c (.d (.int .i64 j))]) (fun _ => []) (fun j => a.names.length - j) 0 [] (by simp) (by simp [lv_gradusref10_Same_4]) fun j ⟨g1, g2⟩ => ?_
  unfold lp_gradusref10_Same_4 lv_gradusref10_Same_4
  simp
  refine gd.mk (fun h => ?_) (fun h => ?_)
  · have hj : j < a.names.length := by simpa using h
    have hj' : j < b.names.length := by omega
    simp [List.getElem?_eq_getElem hj, List.getElem?_eq_getElem hj']
    refine ⟨by decide, gd.mk (fun h => ?_) (fun h => ?_)⟩
    · simp at h
      have : decide (a.names = b.names) = false := decide_eq_false fun e => h (List.getElem_of_eq e _)
      rw [e, this, Bool.false_and, Bool.and_false, Bool.and_false]
    · simp at h
      exact Abs.Next.mk (j + 1) [] ⟨by omega, take_next hj hj' g2 h⟩ (by omega) (by simp; exact wrap_i64 (by omega) (by omega))
  have hj : j = a.names.length := by simp at h; omega
  have d3 := take_all hj h3 g2
  have e : sameC a b = (eqF sameC a.fields b.fields && eqF sameC a.fn b.fn) := by rw [e, decide_eq_true d1, decide_eq_true d2, decide_eq_true d3]; rfl
  refine W.loopL Pg_mixed hp lv_gradusref10_Same_6 [8] (fun j : Nat => j ≤ a.fields.length ∧ eqF sameC (a.fields.drop j) (b.fields.drop j) = eqF sameC a.fields b.fields) (fun j => [.c (.d (.int .i64 j))]) (fun _ => []) (fun j => a.fields.length - j) 0 [] (by simp) (by simp [lv_gradusref10_Same_6]) fun j ⟨g1, g2⟩ => ?_
  unfold lp_gradusref10_Same_6 lv_gradusref10_Same_6
  simp
  refine gd.mk (fun h => ?_) (fun h => ?_)
  · have hj : j < a.fields.length := by simpa using h
    have hj' : j < b.fields.length := by omega
    rw [List.drop_eq_getElem_cons hj, List.drop_eq_getElem_cons hj', eqF] at g2
    simp [List.getElem?_eq_getElem hj, List.getElem?_eq_getElem hj']
    refine callK.mk (ih _ (.inl (List.getElem_mem hj)) _) ?_
    simp
    refine ⟨by decide, gd.mk (fun h => ?_) (fun h => ?_)⟩
    · simp at h
      rw [h, Bool.false_and] at g2
      rw [e, ← g2]; rfl
    · simp at h
      rw [h, Bool.true_and] at g2
      exact Abs.Next.mk (j + 1) [] ⟨by omega, g2⟩ (by omega) (by simp; exact wrap_i64 (by omega) (by omega))
  have hj : j = a.fields.length := by simp at h; omega
  have e : sameC a b = eqF sameC a.fn b.fn := by rw [e, ← g2, eqF_all sameC (by omega) h4]; rfl
  refine W.loopL Pg_mixed hp lv_gradusref10_Same_8 [10] (fun j : Nat => j ≤ a.fn.length ∧ eqF sameC (a.fn.drop j) (b.fn.drop j) = eqF sameC a.fn b.fn) (fun j => [.c (.d (.int .i64 j))]) (fun _ => []) (fun j => a.fn.length - j) 0 [] (by simp) (by simp [lv_gradusref10_Same_8]) fun j ⟨g1, g2⟩ => ?_
  unfold lp_gradusref10_Same_8 lv_gradusref10_Same_8
  simp
  refine gd.mk (fun h => ?_) (fun h => ?_)
  · have hj : j < a.fn.length := by simpa using h
    have hj' : j < b.fn.length := by omega
    rw [List.drop_eq_getElem_cons hj, List.drop_eq_getElem_cons hj', eqF] at g2
    simp [List.getElem?_eq_getElem hj, List.getElem?_eq_getElem hj']
    refine callK.mk (ih _ (.inr (List.getElem_mem hj)) _) ?_
    simp
    refine ⟨by decide, gd.mk (fun h => ?_) (fun h => ?_)⟩
    · simp at h
      rw [h, Bool.false_and] at g2
      rw [e, ← g2]
    · simp at h
      rw [h, Bool.true_and] at g2
      exact Abs.Next.mk (j + 1) [] ⟨by omega, g2⟩ (by omega) (by simp; exact wrap_i64 (by omega) (by omega))
  have hj : j = a.fn.length := by simp at h; omega
  have e : sameC a b = true := by rw [e, ← g2, eqF_all sameC (by omega) h5]
  simp [e]

mutual
theorem rSame_ok : ∀ (a b : Coe), PCall Pg F.gradusref10_Same [.agg a.enc, .agg b.enc] (.one (.bool (sameC a b)))
  | .mk t n s f g, b => rSame_one _ b fun x hx y => hx.elim (fun h => rSame_oks f x h y) (fun h => rSame_oks g x h y)
theorem rSame_oks : ∀ (l : List Coe) (x : Coe), x ∈ l → ∀ y, PCall Pg F.gradusref10_Same [.agg x.enc, .agg y.enc] (.one (.bool (sameC x y)))
  | c :: l, x, h, y => by
    cases List.mem_cons.1 h with
    | inl e => rw [e]; exact rSame_ok c y
    | inr e => exact rSame_oks l x e y
end
theorem idle_ok (a : Coe) : PCall Pg F.coerce_idle [.agg a.enc] (.one (.bool (sameC a idC))) := by
  refine w_coerce_idle (by simp) fun o c hN hp => ?_
  unfold mc_coerce_idle
  simp
  refine callK.mk Id_ok ?_
  simp
  refine callK.mk (Same_ok a idC) ?_
  simp
  decide
theorem IsId_ok (a : Coe) : PCall Pg F.gradusref10_IsId [.agg a.enc] (.one (.bool (sameC a idC))) := by
  refine w_gradusref10_IsId (by simp) fun o c hN hp => ?_
  unfold mc_gradusref10_IsId
  simp
  refine callK.mk rId_ok ?_
  simp
  refine callK.mk (rSame_ok a idC) ?_
  simp
  decide
end Go.Gr
