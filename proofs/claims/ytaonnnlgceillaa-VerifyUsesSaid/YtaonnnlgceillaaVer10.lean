import Derived.Test.YtaonnnlgceillaaVer9
set_option linter.unusedVariables false
set_option linter.unusedSimpArgs false
namespace Go.Ver
open Go.Abs Go.Proofs

def Coe.tags : Coe → List Int | .mk t _ _ _ _ => t
def Coe.needs : Coe → List (ByteArray × Int) | .mk _ n _ _ _ => n
def Coe.names : Coe → List ByteArray | .mk _ _ s _ _ => s
def Coe.fields : Coe → List Coe | .mk _ _ _ f _ => f
def Coe.fn : Coe → List Coe | .mk _ _ _ _ g => g
theorem Coe.enc_eq (d : Coe) : d.enc = [.sl false 1 (encI d.tags), .sl false 2 (encN d.needs), .sl false 1 (encS d.names), .sl false 5 (d.fields.map Coe.enc), .sl false 5 (d.fn.map Coe.enc)] := by
  cases d with
  | mk t n s f g => simp [Coe.enc, Coe.encs_map, Coe.tags, Coe.needs, Coe.names, Coe.fields, Coe.fn]
@[simp] theorem Coe.enc_length (d : Coe) : d.enc.length = 5 := by simp [Coe.enc_eq]
@[simp high] theorem Coe.enc_0 (d : Coe) : d.enc[0]? = some (.sl false 1 (encI d.tags)) := by simp [Coe.enc_eq]
@[simp high] theorem Coe.enc_1 (d : Coe) : d.enc[1]? = some (.sl false 2 (encN d.needs)) := by simp [Coe.enc_eq]
@[simp high] theorem Coe.enc_2 (d : Coe) : d.enc[2]? = some (.sl false 1 (encS d.names)) := by simp [Coe.enc_eq]
@[simp high] theorem Coe.enc_3 (d : Coe) : d.enc[3]? = some (.sl false 5 (d.fields.map Coe.enc)) := by simp [Coe.enc_eq]
@[simp high] theorem Coe.enc_4 (d : Coe) : d.enc[4]? = some (.sl false 5 (d.fn.map Coe.enc)) := by simp [Coe.enc_eq]
@[simp] theorem Coe.cut_enc (d : Coe) : cut d.enc 0 5 = d.enc := by simp [cut]
@[simp] theorem Coe.cut_map (d : Coe) : cut (d.enc.map AC.d) 0 5 = d.enc.map .d := by simp [cut]

mutual
def wgt : Coe → Int → Int
  | .mk t n s f g, m => if 100 < (t.length : Int) ∨ 100 < (n.length : Int) ∨ 100 < (s.length : Int) ∨ m < f.length ∨ m < g.length then 0 else wgts g (wgts f (IntKind.i64.wrap (m - 1)))
def wgts : List Coe → Int → Int
  | [], m => m
  | d :: ds, m => if 0 < m then wgts ds (wgt d m) else m
end
theorem wgt_eq (d : Coe) (m : Int) : wgt d m = if 100 < (d.tags.length : Int) ∨ 100 < (d.needs.length : Int) ∨ 100 < (d.names.length : Int) ∨ m < d.fields.length ∨ m < d.fn.length then 0 else wgts d.fn (wgts d.fields (IntKind.i64.wrap (m - 1))) := by
  cases d; rw [wgt]; rfl
theorem wgts_stop {l : List Coe} {m : Int} (h : m ≤ 0) : wgts l m = m := by
  cases l with
  | nil => rw [wgts]
  | cons d l => rw [wgts, if_neg (by omega)]

abbrev wT (d : Coe) (r : Int) : List (Nat × AV) := [(1, .c (.d (.int .i64 r))), (2, .c (.d (.rp d.enc 0)))]
def inW : MC := (.seq (.seq (.reg [
                                ⟨none, some 57, .mv (.t 6)⟩,
                                ⟨none, some 58, .faddr 4 (.t 2)⟩,
                                ⟨none, some 59, .load false 1 (.t 58)⟩,
                                ⟨none, some 60, .len (.t 59)⟩,
                                ⟨none, some 61, .binI .lss (.t 57) (.t 60)⟩,
                                ⟨none, some 62, .mv (.t 61)⟩,
                                ⟨(some (62, true)), some 63, .mv (.t 1)⟩,
                                ⟨(some (62, true)), some 64, .binI .gtr (.t 63) (.k (.int .i64 0))⟩,
                                ⟨none, some 65, .pick (.t 62) (.t 64) (.k (.bool false))⟩])
                          (.cond (.t 65) .skip (.exit 2)))
                      (.seq (.block 3
                            (.reg [
                              ⟨none, some 68, .faddr 4 (.t 2)⟩,
                                ⟨none, some 69, .load false 1 (.t 68)⟩,
                                ⟨none, some 70, .mv (.t 6)⟩,
                                ⟨none, some 71, .iaddrS 5 (.t 69) (.t 70)⟩,
                                ⟨none, some 72, .load true 5 (.t 71)⟩,
                                ⟨none, some 73, .mv (.t 1)⟩,
                                ⟨none, some 74, .call 17 [(.t 72), (.t 73)]⟩,
                                ⟨none, some 1, .mv (.t 74)⟩]))
                        (.reg [
                          ⟨none, some 66, .mv (.t 6)⟩,
                            ⟨none, some 67, .binI .add (.t 66) (.k (.int .i64 1))⟩,
                            ⟨none, some 6, .mv (.t 67)⟩])))

theorem weight_two {c : Ctx} (hp : c.pure) (d : Coe) (ih : ∀ e, e ∈ d.fn → ∀ m, PCall Try.prog 17 [.agg e.enc, .one (.int .i64 m)] (.one (.int .i64 (wgt e m)))) (hg : d.fn.length ≤ 4611686018427387904) {r0 : Int} {Q : Exit → St → Prop} {S : St} {g}
    (h0 : Match [] S ((6, .c (.d (.int .i64 0))) :: wT d r0) []) (hQ : ∀ t x, Abs.look t 1 = .c (.d (.int .i64 (wgts d.fn r0))) → Q (.exit 2) ⟨t, hpOf [], x⟩) : lw_ Try.checked.prog c inW Q g S := by
  refine W.loop Try.checked.mixed hp (fun x : Nat × Int => x.1 ≤ d.fn.length ∧ wgts (d.fn.drop x.1) x.2 = wgts d.fn r0) (fun x => (6, .c (.d (.int .i64 x.1))) :: wT d x.2) (fun _ => []) (fun x => d.fn.length - x.1) (0, r0) [] ⟨by simp, by simp⟩ (by simpa using h0) fun x hx => ?_
  obtain ⟨j, r⟩ := x
  obtain ⟨hx1, hx2⟩ := hx
  simp only at hx1 hx2
  unfold inW
  simp
  refine gd.mk (fun h => gd.mk (fun h' => ?_) (fun h' => ?_)) (fun h => ?_)
  · simp at h h'
    have hj : j < d.fn.length := by omega
    simp [List.getElem?_eq_getElem hj]
    refine callK.mk (ih _ (List.getElem_mem hj) _) ?_
    simp
    refine Abs.Next.mk (j + 1, wgt d.fn[j] r) [] ⟨by simp; omega, ?_⟩ (by simp; omega) ?_
    · rw [← hx2, List.drop_eq_getElem_cons hj, wgts, if_pos h']
    · simp
      exact wrap_i64 (by omega) (by omega)
  · simp at h'
    refine hQ _ _ ?_
    rw [← hx2, wgts_stop h']; rfl
  · have hj : j = d.fn.length := by simp at h; omega
    refine hQ _ _ ?_
    rw [← hx2, hj]; simp [wgts]

theorem weight_one (d : Coe) (ih : ∀ e, e ∈ d.fields ∨ e ∈ d.fn → ∀ m, PCall Try.prog 17 [.agg e.enc, .one (.int .i64 m)] (.one (.int .i64 (wgt e m)))) (m : Int) :
    PCall Try.prog 17 [.agg d.enc, .one (.int .i64 m)] (.one (.int .i64 (wgt d m))) := by
  refine w17 (by simp) fun o c hN hp => ?_
  have hf : d.fields.length ≤ lenMax := by
    have := o.1; rw [Coe.enc_eq] at this; simp only [DV.ok, D.okL, D.ok] at this; simpa using this.2.2.2.1.1
  have hg : d.fn.length ≤ lenMax := by
    have := o.1; rw [Coe.enc_eq] at this; simp only [DV.ok, D.okL, D.ok] at this; simpa using this.2.2.2.2.1.1
  unfold lenMax at hf hg
  unfold mc17
  simp
  repeat' (refine gd.mk (fun h => ?_) (fun h => ?_))
  all_goals (simp only [Bool.not_true, Bool.not_false, decide_eq_true_eq, decide_eq_false_iff_not] at *)
  all_goals (first | (rw [wgt_eq, if_pos (by omega)]; done) | skip)
  have e : wgt d m = wgts d.fn (wgts d.fields (IntKind.i64.wrap (m - 1))) := by rw [wgt_eq, if_neg (by omega)]
  rw [e]
  refine W.loop Try.checked.mixed hp (fun x : Nat × Int => x.1 ≤ d.fields.length ∧ wgts (d.fields.drop x.1) x.2 = wgts d.fields (IntKind.i64.wrap (m - 1))) (fun x => (5, .c (.d (.int .i64 x.1))) :: wT d x.2) (fun _ => []) (fun x => d.fields.length - x.1) (0, IntKind.i64.wrap (m - 1)) [] ⟨by simp, by simp⟩ (by simp) fun x hx => ?_
  obtain ⟨j, r⟩ := x
  obtain ⟨hx1, hx2⟩ := hx
  simp only at hx1 hx2
  simp
  refine gd.mk (fun h => gd.mk (fun h' => ?_) (fun h' => ?_)) (fun h => ?_)
  · simp at h h'
    have hj : j < d.fields.length := by omega
    simp [List.getElem?_eq_getElem hj]
    refine callK.mk (ih _ (.inl (List.getElem_mem hj)) _) ?_
    simp
    refine Abs.Next.mk (j + 1, wgt d.fields[j] r) [] ⟨by simp; omega, ?_⟩ (by simp; omega) ?_
    · rw [← hx2, List.drop_eq_getElem_cons hj, wgts, if_pos h']
    · simp
      exact wrap_i64 (by omega) (by omega)
  · simp at h'
    refine weight_two hp d (fun e h => ih e (.inr h)) hg (r0 := r) (by simp) fun t x q => ?_
    simp [q]
    rw [← hx2, wgts_stop (l := List.drop j d.fields) h']
  · have hj : j = d.fields.length := by simp at h; omega
    refine weight_two hp d (fun e h => ih e (.inr h)) hg (r0 := r) (by simp) fun t x q => ?_
    simp [q]
    rw [← hx2, hj]; simp [wgts]

mutual
theorem weight_ok : ∀ (d : Coe) (m : Int), PCall Try.prog 17 [.agg d.enc, .one (.int .i64 m)] (.one (.int .i64 (wgt d m)))
  | .mk t n s f g, m => weight_one (.mk t n s f g) (fun e h m => by
      rcases h with h | h
      · exact weights_ok f e h m
      · exact weights_ok g e h m) m
theorem weights_ok : ∀ (l : List Coe) (e : Coe), e ∈ l → ∀ m : Int, PCall Try.prog 17 [.agg e.enc, .one (.int .i64 m)] (.one (.int .i64 (wgt e m)))
  | [], e, h, m => by cases h
  | d :: l, e, h, m => by
    cases h with
    | head => exact weight_ok d m
    | tail _ h => exact weights_ok l e h m
end
end Go.Ver
