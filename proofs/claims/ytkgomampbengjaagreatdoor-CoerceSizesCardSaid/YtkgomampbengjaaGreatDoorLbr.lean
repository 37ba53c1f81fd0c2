/- Labels: the reference's, walked. -/
import Derived.Test.YtkgomampbengjaaGreatDoorLbw
set_option linter.unusedVariables false
set_option linter.unusedSimpArgs false
namespace Go.Gr
open Go.Abs Go.Proofs

/-- all of these are in -/
def inI (l more : List Int) : Bool := more.all fun x => decide (x = 0) || decide (x ∈ l)
theorem inI_take {l more : List Int} {j : Nat} (h : j < more.length) : inI l (more.take (j + 1)) = (inI l (more.take j) && (decide (more[j] = 0) || decide (more[j] ∈ l))) := by
  unfold inI; rw [List.take_succ_eq_append_getElem h, List.all_append]; simp
abbrev arrI (l : List Int) : Blk := .arr 1 ((encI l).map (·.map .d))
/-- the blocks of the adding's walk -/
def addB (t0 : Nat × Nat) (ok : Bool) (l : List Int) : List Blk := match ok with
  | true => [arrI l, .pin t0 0]
  | false => [.dead, .pin t0 0, arrI l]
def addT (tr ok : Bool) (l more : List Int) (j : Nat) : List (Nat × AV) := [(5, .c (.d (.int .i64 j))), (0, .c (.msl 1 (match ok with | true => 0 | false => 2) 0 l.length)), (1, .c (.d (.sl tr 1 (encI more))))]

set_option maxRecDepth 20000 in
theorem add2 {c : Ctx} (hp : c.pure) {t0 : Nat × Nat} (tr ok : Bool) (l more : List Int) (hl : l.length ≤ 1073741824) {j : Nat} (hj : j < more.length) {Q : Exit → St → Prop} {S : St} {g} {ms : List Nat}
    (h0 : Match ms S ((6, .c (.d (.int .i64 0))) :: addT tr ok l more j) (addB t0 ok l))
    (hQ : ∀ T, Abs.look T 6 = .c (.d (.int .i64 (cutI l more[j]))) → Abs.look T 5 = .c (.d (.int .i64 j)) → Abs.look T 0 = .c (.msl 1 (match ok with | true => 0 | false => 2) 0 l.length) → Abs.look T 1 = .c (.d (.sl tr 1 (encI more))) → Q (.exit 2) ⟨T, hpOf (addB t0 ok l), (addB t0 ok l).length⟩) : lw_ Pg c lp_gradusref10_add_2 Q g S := by
  refine W.loop Pg_mixed hp (fun k : Nat => k ≤ cutI l more[j]) (fun k => (6, .c (.d (.int .i64 k))) :: addT tr ok l more j)
    (fun k => addB t0 ok l) (fun k => cutI l more[j] - k) 0 ms (by simp) h0 fun k h1 => ?_
  have hcl := cutI_le l more[j]
  unfold lp_gradusref10_add_2
  cases ok
  · simp [addB, addT] at hQ ⊢
    refine gd.mk (fun h => ?_) (fun h => ?_)
    · have hk : k < l.length := by simpa using h
      simp [List.getElem?_eq_getElem hk, List.getElem?_eq_getElem hj]
      refine ⟨hk, by decide, gd.mk (fun h => ?_) (fun h => ?_)⟩
      · have hx : l[k] < more[j] := by simpa using h
        have hne : k ≠ cutI l more[j] := fun e => by
          have := cutI_at (l := l) (x := more[j]) (by omega)
          simp only [← e] at this
          exact this hx
        refine Abs.Next.mk (k + 1) [0, 1, 2] (by omega) (by omega) ?_
        simp
        exact wrap_i64 (by omega) (by omega)
      · have hx : ¬ l[k] < more[j] := by simpa using h
        have e : k = cutI l more[j] := by
          rcases Nat.lt_or_ge k (cutI l more[j]) with q | q
          · exact absurd (cutI_lt hk q) hx
          · omega
        exact hQ _ (by simp [e]) (by simp) (by simp) (by simp)
    · have hk : k = l.length := by simp at h; omega
      have e : k = cutI l more[j] := by omega
      exact ⟨by decide, hQ _ (by simp [e]) (by simp) (by simp) (by simp)⟩
  · simp [addB, addT] at hQ ⊢
    refine gd.mk (fun h => ?_) (fun h => ?_)
    · have hk : k < l.length := by simpa using h
      simp [List.getElem?_eq_getElem hk, List.getElem?_eq_getElem hj]
      refine ⟨hk, by decide, gd.mk (fun h => ?_) (fun h => ?_)⟩
      · have hx : l[k] < more[j] := by simpa using h
        have hne : k ≠ cutI l more[j] := fun e => by
          have := cutI_at (l := l) (x := more[j]) (by omega)
          simp only [← e] at this
          exact this hx
        refine Abs.Next.mk (k + 1) [0, 1] (by omega) (by omega) ?_
        simp
        exact wrap_i64 (by omega) (by omega)
      · have hx : ¬ l[k] < more[j] := by simpa using h
        have e : k = cutI l more[j] := by
          rcases Nat.lt_or_ge k (cutI l more[j]) with q | q
          · exact absurd (cutI_lt hk q) hx
          · omega
        exact hQ _ (by simp [e]) (by simp) (by simp) (by simp)
    · have hk : k = l.length := by simp at h; omega
      have e : k = cutI l more[j] := by omega
      exact ⟨by decide, hQ _ (by simp [e]) (by simp) (by simp) (by simp)⟩

set_option maxRecDepth 20000 in
theorem add_walk (tr : Bool) (r more : List Int) (hr : r.length ≤ 536870912) (hm : more.length ≤ 536870912) {t0 : Nat × Nat} {c : Ctx} (hp : c.pure) {Q : Exit → St → Prop} {S : St} {g}
    (h0 : Match [0, 1] S (addT tr true (labS r) more 0) (addB t0 true (labS r)))
    (hQ : ∀ T, Abs.look T 0 = .c (.msl 1 (match inI (labS r) more with | true => 0 | false => 2) 0 (labS (r ++ more)).length) → Q (.exit 0) ⟨T, hpOf (addB t0 (inI (labS r) more) (labS (r ++ more))), (addB t0 (inI (labS r) more) (labS (r ++ more))).length⟩) : lw_ Pg c lp_gradusref10_add_0 Q g S := by
  refine W.loop Pg_mixed hp (fun j : Nat => j ≤ more.length) (fun j => addT tr (inI (labS r) (more.take j)) (labS (r ++ more.take j)) more j)
    (fun j => addB t0 (inI (labS r) (more.take j)) (labS (r ++ more.take j))) (fun j => more.length - j) 0 [0, 1] (by simp) (by simpa [inI] using h0) fun j h1 => ?_
  unfold lp_gradusref10_add_0
  have hlen : (labS (r ++ more.take j)).length ≤ 1073741824 := by
    have := labS_len (r ++ more.take j)
    simp only [List.length_append, List.length_take] at this
    omega
  have hsucc : ∀ h : j < more.length, inI (labS r) (more.take (j + 1)) = (inI (labS r) (more.take j) && (decide (more[j] = 0) || decide (more[j] ∈ labS r))) := fun h => inI_take h
  have hal : inI (labS r) (more.take j) = true → labS (r ++ more.take j) = labS r := fun h => (labS_is (labS_rises r) fun x => by
    rw [labS_mem, List.mem_append]
    constructor
    · exact fun h => ⟨.inl h.1, h.2⟩
    · rintro ⟨q | q, q'⟩
      · exact ⟨q, q'⟩
      · have := List.all_eq_true.1 h x q
        simp only [Bool.or_eq_true, decide_eq_true_eq] at this
        rcases this with e | e
        · exact absurd e q'
        · exact labS_mem.1 e).symm
  have hri := labS_rises (r ++ more.take j)
  by_cases hj : j < more.length
  rotate_left
  · have e : j = more.length := by omega
    subst e
    rw [List.take_length]
    clear hri hal hsucc hlen h0
    generalize inI (labS r) more = ok at *
    generalize labS (r ++ more) = l at *
    cases ok
    · simp [addT, addB]
      exact hQ _ (by simp)
    · simp [addT, addB]
      exact hQ _ (by simp)
  · have hx : r ++ more.take (j + 1) = (r ++ more.take j) ++ [more[j]] := by rw [List.take_succ_eq_append_getElem hj, List.append_assoc]
    have hsucc := hsucc hj
    have hsame : more[j] = 0 ∨ more[j] ∈ labS (r ++ more.take j) → labS (r ++ more.take (j + 1)) = labS (r ++ more.take j) := fun h => by rw [hx]; exact (labS_same h).symm
    have hput : more[j] ≠ 0 → more[j] ∉ labS (r ++ more.take j) → labS (r ++ more.take (j + 1)) = (labS (r ++ more.take j)).take (cutI (labS (r ++ more.take j)) more[j]) ++ more[j] :: (labS (r ++ more.take j)).drop (cutI (labS (r ++ more.take j)) more[j]) := fun h h' => by rw [hx]; exact (labS_put h h').symm
    have his := cutI_is hri (x := more[j])
    have hcl := cutI_le (labS (r ++ more.take j)) more[j]
    clear hx h0
    generalize hok : inI (labS r) (more.take j) = ok at *
    generalize hl : labS (r ++ more.take j) = l at *
    cases ok
    · simp [addT, addB, hj]
      refine add2 (t0 := t0) hp tr false l more hlen hj (ms := [0, 1, 2]) (by simp [addT, addB]) fun T e6 e5 e0 e1 => ?_
      simp [addB, e6, e5, e0, e1, List.getElem?_eq_getElem hj]
      generalize hc : cutI l more[j] = k at *
      by_cases hin : more[j] = 0 ∨ more[j] ∈ l
      · have hs := hsame hin
        have hkeep : inI (labS r) (more.take (j + 1)) = false := by
          rw [hsucc]
          simp
        refine gd.mk (fun z => ?_) (fun z => ?_)
        · have z' : more[j] ≠ 0 := by simpa using z
          obtain ⟨hk, he⟩ := his.1 (hin.resolve_left z')
          simp [hk, List.getElem?_eq_getElem hk, he]
          refine ⟨by decide, ?_⟩
          refine Abs.Next.mk (j + 1) [0, 1, 2] (by omega) (by omega) ?_
          simp only [hkeep, hs]
          simp [e0, e1]
          exact wrap_i64 (by omega) (by omega)
        · refine ⟨by decide, ?_⟩
          refine Abs.Next.mk (j + 1) [0, 1, 2] (by omega) (by omega) ?_
          simp only [hkeep, hs]
          simp [e0, e1]
          exact wrap_i64 (by omega) (by omega)
      · rw [not_or] at hin
        have hs := hput hin.1 hin.2
        have hkeep : inI (labS r) (more.take (j + 1)) = false := by
          rw [hsucc]
          simp
        have hne : ∀ (h : k < l.length), ¬ l[k] = more[j] := fun h e => hin.2 (his.2 ⟨h, e⟩)
        have f1 : (List.map (fun x => List.map AC.d x) (encI l)).take k = List.map (fun x => List.map AC.d x) (encI (l.take k)) := by simp [encI, List.map_take]
        have f2 : (List.map (fun x => List.map AC.d x) (encI l)).drop k = List.map (fun x => List.map AC.d x) (encI (l.drop k)) := by simp [encI, List.map_drop]
        have f3 : ∀ (y : List AC) , (List.map (fun x => List.map AC.d x) (encI (l.take k)) ++ [y]).take (k + 1) = List.map (fun x => List.map AC.d x) (encI (l.take k)) ++ [y] := fun y => List.take_of_length_le (by simp; omega)
        have f4 : (List.map (fun x => List.map AC.d x) (encI (l.drop k))).take (l.length - k) = List.map (fun x => List.map AC.d x) (encI (l.drop k)) := List.take_of_length_le (by simp)
        have hln : (List.take k l ++ more[j] :: List.drop k l).length = k + 1 + (l.length - k) := by simp; omega
        have hfin : List.map (fun x => List.map AC.d x) (encI (l.take k)) ++ [[AC.d (D.int IntKind.i64 more[j])]] ++ List.map (fun x => List.map AC.d x) (encI (l.drop k)) = List.map (fun x => List.map AC.d x) (encI (List.take k l ++ more[j] :: List.drop k l)) := by simp [encI]
        simp only [hin.1, decide_false, gd_ff]
        by_cases hk : k < l.length
        · have hne := hne hk
          simp [hk, List.getElem?_eq_getElem hk, hne]
          refine ⟨by decide, by omega, by omega, by omega, by omega, by omega, by decide, by omega, by omega, ?_⟩
          refine Abs.Next.mk (j + 1) [0, 1, 5] (by omega) (by omega) ?_
          simp only [hkeep, hs, f1, f2, f3, f4, hfin, hln]
          simp [e1]
          exact wrap_i64 (by omega) (by omega)
        · simp only [hk, decide_false, gd_ft]
          refine ⟨by decide, by omega, by omega, by omega, by omega, by omega, by decide, by omega, by omega, ?_⟩
          refine Abs.Next.mk (j + 1) [0, 1, 5] (by omega) (by omega) ?_
          simp only [hkeep, hs, f1, f2, f3, f4, hfin, hln]
          simp [e1]
          exact wrap_i64 (by omega) (by omega)
    · simp [addT, addB, hj]
      refine add2 (t0 := t0) hp tr true l more hlen hj (ms := [0, 1]) (by simp [addT, addB]) fun T e6 e5 e0 e1 => ?_
      simp [addB, e6, e5, e0, e1, List.getElem?_eq_getElem hj]
      generalize hc : cutI l more[j] = k at *
      by_cases hin : more[j] = 0 ∨ more[j] ∈ l
      · have hs := hsame hin
        have hkeep : inI (labS r) (more.take (j + 1)) = true := by
          rw [hsucc]
          rw [hal rfl] at hin; simpa using hin
        refine gd.mk (fun z => ?_) (fun z => ?_)
        · have z' : more[j] ≠ 0 := by simpa using z
          obtain ⟨hk, he⟩ := his.1 (hin.resolve_left z')
          simp [hk, List.getElem?_eq_getElem hk, he]
          refine ⟨by decide, ?_⟩
          refine Abs.Next.mk (j + 1) [0, 1] (by omega) (by omega) ?_
          simp only [hkeep, hs]
          simp [e0, e1]
          exact wrap_i64 (by omega) (by omega)
        · refine ⟨by decide, ?_⟩
          refine Abs.Next.mk (j + 1) [0, 1] (by omega) (by omega) ?_
          simp only [hkeep, hs]
          simp [e0, e1]
          exact wrap_i64 (by omega) (by omega)
      · rw [not_or] at hin
        have hs := hput hin.1 hin.2
        have hkeep : inI (labS r) (more.take (j + 1)) = false := by
          rw [hsucc]
          have := hal rfl; rw [this] at hin; simpa using hin
        have hne : ∀ (h : k < l.length), ¬ l[k] = more[j] := fun h e => hin.2 (his.2 ⟨h, e⟩)
        have f1 : (List.map (fun x => List.map AC.d x) (encI l)).take k = List.map (fun x => List.map AC.d x) (encI (l.take k)) := by simp [encI, List.map_take]
        have f2 : (List.map (fun x => List.map AC.d x) (encI l)).drop k = List.map (fun x => List.map AC.d x) (encI (l.drop k)) := by simp [encI, List.map_drop]
        have f3 : ∀ (y : List AC) , (List.map (fun x => List.map AC.d x) (encI (l.take k)) ++ [y]).take (k + 1) = List.map (fun x => List.map AC.d x) (encI (l.take k)) ++ [y] := fun y => List.take_of_length_le (by simp; omega)
        have f4 : (List.map (fun x => List.map AC.d x) (encI (l.drop k))).take (l.length - k) = List.map (fun x => List.map AC.d x) (encI (l.drop k)) := List.take_of_length_le (by simp)
        have hln : (List.take k l ++ more[j] :: List.drop k l).length = k + 1 + (l.length - k) := by simp; omega
        have hfin : List.map (fun x => List.map AC.d x) (encI (l.take k)) ++ [[AC.d (D.int IntKind.i64 more[j])]] ++ List.map (fun x => List.map AC.d x) (encI (l.drop k)) = List.map (fun x => List.map AC.d x) (encI (List.take k l ++ more[j] :: List.drop k l)) := by simp [encI]
        simp only [hin.1, decide_false, gd_ff]
        by_cases hk : k < l.length
        · have hne := hne hk
          simp [hk, List.getElem?_eq_getElem hk, hne]
          refine ⟨by decide, by omega, by omega, by omega, by omega, by omega, by decide, by omega, by omega, ?_⟩
          refine Abs.Next.mk (j + 1) [0, 1, 4] (by omega) (by omega) ?_
          simp only [hkeep, hs, f1, f2, f3, f4, hfin, hln]
          simp [e1]
          exact wrap_i64 (by omega) (by omega)
        · simp only [hk, decide_false, gd_ft]
          refine ⟨by decide, by omega, by omega, by omega, by omega, by omega, by decide, by omega, by omega, ?_⟩
          refine Abs.Next.mk (j + 1) [0, 1, 4] (by omega) (by omega) ?_
          simp only [hkeep, hs, f1, f2, f3, f4, hfin, hln]
          simp [e1]
          exact wrap_i64 (by omega) (by omega)

theorem add_no (tr : Bool) (r more : List Int) (hr : r.length ≤ 536870912) (hm : more.length ≤ 536870912) (h : inI (labS r) more = true) :
    MCall Pg F.gradusref10_add [.c (.msl 1 0 0 (labS r).length), .c (.d (.sl tr 1 (encI more)))] [arrI (labS r)] (.c (.msl 1 0 0 (labS (r ++ more)).length)) [arrI (labS (r ++ more))] := by
  refine wm_gradusref10_add ⟨by simp, by simp, by simp, by simp, by simp, by simp [live], by simp⟩ fun ts hts ok hb c hN hp => ?_
  obtain ⟨t0, rfl⟩ := oneTs hts
  unfold mc_gradusref10_add
  simp
  refine add_walk tr r more hr hm (t0 := t0) hp (by simp [addT, addB]) fun T e => ?_
  rw [h] at e ⊢
  simp [addB, e]
  exact EndM.mk [0] [1] (by simp)
theorem add_yes (tr : Bool) (r more : List Int) (hr : r.length ≤ 536870912) (hm : more.length ≤ 536870912) (h : inI (labS r) more = false) :
    MCall Pg F.gradusref10_add [.c (.msl 1 0 0 (labS r).length), .c (.d (.sl tr 1 (encI more)))] [arrI (labS r)] (.c (.msl 1 1 0 (labS (r ++ more)).length)) [.dead, arrI (labS (r ++ more))] := by
  refine wm_gradusref10_add ⟨by simp, by simp, by simp, by simp, by simp, by simp [live], by simp⟩ fun ts hts ok hb c hN hp => ?_
  obtain ⟨t0, rfl⟩ := oneTs hts
  unfold mc_gradusref10_add
  simp
  refine add_walk tr r more hr hm (t0 := t0) hp (by simp [addT, addB]) fun T e => ?_
  rw [h] at e ⊢
  simp [addB, e]
  exact EndM.mk [0, 2] [1] (by simp)

/-- labels that are added all the same, if they are the same set -/
theorem labS_add (r more raw : List Int) (h : ∀ x, x ≠ 0 → (x ∈ more ↔ x ∈ raw)) : labS (r ++ more) = labS (r ++ raw) := by
  refine labS_is (labS_rises _) fun x => ?_
  rw [labS_mem, List.mem_append, List.mem_append]
  constructor
  · rintro ⟨q | q, q'⟩
    · exact ⟨.inl q, q'⟩
    · exact ⟨.inr ((h x q').1 q), q'⟩
  · rintro ⟨q | q, q'⟩
    · exact ⟨.inl q, q'⟩
    · exact ⟨.inr ((h x q').2 q), q'⟩

set_option maxRecDepth 20000 in
theorem rLabels_one (d : Coe) (hraw : (rawC d).length ≤ 536870912) (ih : ∀ x, x ∈ d.fields ∨ x ∈ d.fn → PCall Pg F.gradusref10_Labels [.agg x.enc] (.one (.sl false 1 (encI (labS (rawC x)))))) : PCall Pg F.gradusref10_Labels [.agg d.enc] (.one (.sl false 1 (encI (labS (rawC d))))) := by
  have hsz : d.tags.length + d.needs.length + (rawCs d.fields).length + (rawCs d.fn).length ≤ 536870912 := by
    rw [rawC_eq, rawCs_app] at hraw
    simp at hraw; omega
  refine w_gradusref10_Labels (by simp) fun o c hN hp => ?_
  have hl : d.tags.length ≤ lenMax ∧ d.needs.length ≤ lenMax ∧ d.names.length ≤ lenMax ∧ d.fields.length ≤ lenMax ∧ d.fn.length ≤ lenMax := by
    have := o.1; rw [Coe.enc_eq] at this; simp only [DV.ok, D.okL, D.ok, encI_length, encN_length, encS_length, List.length_map] at this
    exact ⟨this.1.1, this.2.1.1, this.2.2.1.1, this.2.2.2.1.1, this.2.2.2.2.1.1⟩
  unfold lenMax at hl
  unfold mc_gradusref10_Labels
  simp
  refine owK.mk [.t 3] ?_
  simp
  refine W.loop Pg_mixed hp (fun j : Nat => j ≤ d.tags.length) (fun j => [(4, .c (.d (.int .i64 j))), (1, .c (.d (.rp d.enc 0))), (3, .c (.msl 1 0 0 (labS (d.tags.take j)).length))])
    (fun j => [arrI (labS (d.tags.take j))]) (fun j => d.tags.length - j) 0 [0] (by simp) (by simp) fun j h1 => ?_
  unfold lp_gradusref10_Labels_0
  simp
  refine gd.mk (fun h => ?_) (fun h => ?_)
  · have hj : j < d.tags.length := by simpa using h
    simp [List.getElem?_eq_getElem hj]
    have hs : labS (d.tags.take j ++ [d.tags[j]]) = labS (d.tags.take (j + 1)) := by rw [List.take_succ_eq_append_getElem hj]
    by_cases hi : inI (labS (d.tags.take j)) [d.tags[j]] = true
    · have hc := add_no true (d.tags.take j) [d.tags[j]] (by rw [List.length_take]; omega) (by simp) hi
      rw [hs] at hc
      refine callKM.mk [0] hc (by simp; rfl) ?_
      simp
      refine owK.mk [] ?_
      simp
      refine Abs.Next.mk (j + 1) [0] (by omega) (by omega) ?_
      simp
      exact wrap_i64 (by omega) (by omega)
    · have hc := add_yes true (d.tags.take j) [d.tags[j]] (by rw [List.length_take]; omega) (by simp) (by simpa using hi)
      rw [hs] at hc
      refine callKM.mk [0] hc (by simp; rfl) ?_
      simp
      refine owK.mk [] ?_
      simp
      refine Abs.Next.mk (j + 1) [1] (by omega) (by omega) ?_
      simp
      exact wrap_i64 (by omega) (by omega)
  · have hj : j = d.tags.length := by simp at h; omega
    subst hj
    simp
    refine W.loop Pg_mixed hp (fun j : Nat => j ≤ d.needs.length) (fun j => [(5, .c (.d (.int .i64 j))), (1, .c (.d (.rp d.enc 0))), (3, .c (.msl 1 0 0 (labS (d.tags ++ (d.needs.map (·.2)).take j)).length))])
      (fun j => [arrI (labS (d.tags ++ (d.needs.map (·.2)).take j))]) (fun j => d.needs.length - j) 0 [0] (by simp) (by simp) fun j h1 => ?_
    unfold lp_gradusref10_Labels_2
    simp
    refine gd.mk (fun h => ?_) (fun h => ?_)
    · have hj : j < d.needs.length := by simpa using h
      have hj2 : j < (d.needs.map (·.2)).length := by simpa using hj
      have hs : labS ((d.tags ++ (d.needs.map (·.2)).take j) ++ [d.needs[j].2]) = labS (d.tags ++ (d.needs.map (·.2)).take (j + 1)) := by rw [List.take_succ_eq_append_getElem hj2, List.append_assoc]; simp
      simp [List.getElem?_eq_getElem hj]
      by_cases hi : inI (labS (d.tags ++ (d.needs.map (·.2)).take j)) [d.needs[j].2] = true
      · have hc := add_no true (d.tags ++ (d.needs.map (·.2)).take j) [d.needs[j].2] (by rw [List.length_append, List.length_take, List.length_map]; omega) (by simp) hi
        rw [hs] at hc
        refine callKM.mk [0] hc (by simp; rfl) ?_
        simp
        refine Abs.Next.mk (j + 1) [0] (by omega) (by omega) ?_
        simp
        exact wrap_i64 (by omega) (by omega)
      · have hc := add_yes true (d.tags ++ (d.needs.map (·.2)).take j) [d.needs[j].2] (by rw [List.length_append, List.length_take, List.length_map]; omega) (by simp) (by simpa using hi)
        rw [hs] at hc
        refine callKM.mk [0] hc (by simp; rfl) ?_
        simp
        refine Abs.Next.mk (j + 1) [1] (by omega) (by omega) ?_
        simp
        exact wrap_i64 (by omega) (by omega)
    · have hj : j = d.needs.length := by simp at h; omega
      subst hj
      have hz : (d.needs.map (·.2)).take d.needs.length = d.needs.map (·.2) := List.take_of_length_le (by simp)
      rw [hz]
      simp
      refine W.loop Pg_mixed hp (fun j : Nat => j ≤ d.fields.length) (fun j => [(6, .c (.d (.int .i64 j))), (1, .c (.d (.rp d.enc 0))), (3, .c (.msl 1 0 0 (labS ((d.tags ++ d.needs.map (·.2)) ++ rawCs (d.fields.take j))).length))])
        (fun j => [arrI (labS ((d.tags ++ d.needs.map (·.2)) ++ rawCs (d.fields.take j)))]) (fun j => d.fields.length - j) 0 [0] (by simp) (by simp [rawCs]) fun j h1 => ?_
      unfold lp_gradusref10_Labels_4
      simp
      refine gd.mk (fun h => ?_) (fun h => ?_)
      · have hj : j < d.fields.length := by simpa using h
        have hs : labS (((d.tags ++ d.needs.map (·.2)) ++ rawCs (d.fields.take j)) ++ labS (rawC d.fields[j])) = labS ((d.tags ++ d.needs.map (·.2)) ++ rawCs (d.fields.take (j + 1))) := by
          rw [rawCs_take hj, ← List.append_assoc]
          exact labS_add _ _ _ fun x hx => by rw [labS_mem]; exact ⟨fun h => h.1, fun h => ⟨h, hx⟩⟩
        have hb1 : (rawCs (d.fields.take (j + 1))).length ≤ (rawCs d.fields).length := by
          have := rawCs_app (d.fields.take (j + 1)) (d.fields.drop (j + 1))
          rw [List.take_append_drop] at this
          rw [this, List.length_append]; omega
        have hb2 : (rawCs (d.fields.take j)).length + (rawC d.fields[j]).length = (rawCs (d.fields.take (j + 1))).length := by rw [rawCs_take hj, List.length_append]
        have hb3 := labS_len (rawC d.fields[j])
        simp [List.getElem?_eq_getElem hj]
        refine callK.mk (ih _ (.inl (List.getElem_mem hj))) ?_
        simp
        by_cases hi : inI (labS ((d.tags ++ d.needs.map (·.2)) ++ rawCs (d.fields.take j))) (labS (rawC d.fields[j])) = true
        · have hc := add_no false ((d.tags ++ d.needs.map (·.2)) ++ rawCs (d.fields.take j)) (labS (rawC d.fields[j])) (by simp only [List.length_append, List.length_map]; omega) (by omega) hi
          rw [hs] at hc
          simp only [List.append_assoc] at hc
          refine callKM.mk [0] hc (by simp) ?_
          simp
          refine Abs.Next.mk (j + 1) [0] (by omega) (by omega) ?_
          simp
          exact wrap_i64 (by omega) (by omega)
        · have hc := add_yes false ((d.tags ++ d.needs.map (·.2)) ++ rawCs (d.fields.take j)) (labS (rawC d.fields[j])) (by simp only [List.length_append, List.length_map]; omega) (by omega) (by simpa using hi)
          rw [hs] at hc
          simp only [List.append_assoc] at hc
          refine callKM.mk [0] hc (by simp) ?_
          simp
          refine Abs.Next.mk (j + 1) [1] (by omega) (by omega) ?_
          simp
          exact wrap_i64 (by omega) (by omega)
      · have hj : j = d.fields.length := by simp at h; omega
        subst hj
        simp
        refine W.loop Pg_mixed hp (fun j : Nat => j ≤ d.fn.length) (fun j => [(7, .c (.d (.int .i64 j))), (1, .c (.d (.rp d.enc 0))), (3, .c (.msl 1 0 0 (labS (((d.tags ++ d.needs.map (·.2)) ++ rawCs d.fields) ++ rawCs (d.fn.take j))).length))])
          (fun j => [arrI (labS (((d.tags ++ d.needs.map (·.2)) ++ rawCs d.fields) ++ rawCs (d.fn.take j)))]) (fun j => d.fn.length - j) 0 [0] (by simp) (by simp [rawCs]) fun j h1 => ?_
        unfold lp_gradusref10_Labels_6
        simp
        refine gd.mk (fun h => ?_) (fun h => ?_)
        · have hj : j < d.fn.length := by simpa using h
          have hs : labS ((((d.tags ++ d.needs.map (·.2)) ++ rawCs d.fields) ++ rawCs (d.fn.take j)) ++ labS (rawC d.fn[j])) = labS (((d.tags ++ d.needs.map (·.2)) ++ rawCs d.fields) ++ rawCs (d.fn.take (j + 1))) := by
            rw [rawCs_take hj, ← List.append_assoc]
            exact labS_add _ _ _ fun x hx => by rw [labS_mem]; exact ⟨fun h => h.1, fun h => ⟨h, hx⟩⟩
          have hb1 : (rawCs (d.fn.take (j + 1))).length ≤ (rawCs d.fn).length := by
            have := rawCs_app (d.fn.take (j + 1)) (d.fn.drop (j + 1))
            rw [List.take_append_drop] at this
            rw [this, List.length_append]; omega
          have hb2 : (rawCs (d.fn.take j)).length + (rawC d.fn[j]).length = (rawCs (d.fn.take (j + 1))).length := by rw [rawCs_take hj, List.length_append]
          have hb3 := labS_len (rawC d.fn[j])
          simp [List.getElem?_eq_getElem hj]
          refine callK.mk (ih _ (.inr (List.getElem_mem hj))) ?_
          simp
          by_cases hi : inI (labS (((d.tags ++ d.needs.map (·.2)) ++ rawCs d.fields) ++ rawCs (d.fn.take j))) (labS (rawC d.fn[j])) = true
          · have hc := add_no false (((d.tags ++ d.needs.map (·.2)) ++ rawCs d.fields) ++ rawCs (d.fn.take j)) (labS (rawC d.fn[j])) (by simp only [List.length_append, List.length_map]; omega) (by omega) hi
            rw [hs] at hc
            simp only [List.append_assoc] at hc
            refine callKM.mk [0] hc (by simp) ?_
            simp
            refine Abs.Next.mk (j + 1) [0] (by omega) (by omega) ?_
            simp
            exact wrap_i64 (by omega) (by omega)
          · have hc := add_yes false (((d.tags ++ d.needs.map (·.2)) ++ rawCs d.fields) ++ rawCs (d.fn.take j)) (labS (rawC d.fn[j])) (by simp only [List.length_append, List.length_map]; omega) (by omega) (by simpa using hi)
            rw [hs] at hc
            simp only [List.append_assoc] at hc
            refine callKM.mk [0] hc (by simp) ?_
            simp
            refine Abs.Next.mk (j + 1) [1] (by omega) (by omega) ?_
            simp
            exact wrap_i64 (by omega) (by omega)
        · have hj : j = d.fn.length := by simp at h; omega
          subst hj
          simp
          have hr : rawC d = d.tags ++ (d.needs.map (·.2) ++ (rawCs d.fields ++ rawCs d.fn)) := by rw [rawC_eq, rawCs_app]; simp
          rw [hr]
          exact List.take_of_length_le (by simp)

theorem rawCs_len {l : List Coe} {x : Coe} (h : x ∈ l) : (rawC x).length ≤ (rawCs l).length := by
  obtain ⟨a, b, rfl⟩ := List.append_of_mem h
  rw [rawCs_app]; simp [rawCs]; omega
theorem rLabels_ok : ∀ (n : Nat) {d : Coe}, inN n d → (rawC d).length ≤ 536870912 → PCall Pg F.gradusref10_Labels [.agg d.enc] (.one (.sl false 1 (encI (labS (rawC d)))))
  | 0, d, hi, hr => rLabels_one d hr fun x hx => by
      have : d = idC := hi
      rw [this] at hx; rcases hx with h | h <;> cases h
  | n + 1, d, hi, hr => rLabels_one d hr fun x hx => by
      have hr' := hr
      rw [rawC_eq, rawCs_app] at hr'
      simp only [List.length_append] at hr'
      rcases hx with h | h
      · exact rLabels_ok n (hi.1 x h) (by have := rawCs_len h; omega)
      · exact rLabels_ok n (hi.2 x h) (by have := rawCs_len h; omega)
end Go.Gr
