/- From the claim's reading of an argument to the data of the walks. -/
import Derived.Test.YtkgomampbengjaaGreatDoorAbs19
import Derived.Carry
import Derived.ChangeArms
import Derived.SizedLaws
set_option linter.unusedVariables false
set_option linter.unusedSimpArgs false
namespace Go.Abs

/-! ### what data of a type look like -/
mutual
def ShapeF (P : Program) : Nat → TypeId → List D → Prop
  | 0, _, _ => False
  | n + 1, t, ds => match P.underlying t with
    | some .bool => ∃ b, ds = [.bool b]
    | some (.int k) => ∃ i, ds = [.int k i]
    | some .string => ∃ s, ds = [.str s]
    | some (.slice e) => ∃ es, ds = [.sl false (P.cellsOf e) es] ∧ ∀ x, x ∈ es → ShapeF P n e x
    | some (.struct fs) => ShapeFs P n (fs.toList.map (·.type)) ds
    | _ => False
def ShapeFs (P : Program) : Nat → List TypeId → List D → Prop
  | _, [], ds => ds = []
  | n, t :: ts, ds => ∃ a b, ds = a ++ b ∧ ShapeF P n t a ∧ ShapeFs P n ts b
end

def layF (P : Program) (tot : Nat) : Nat → List Field → Bool
  | o, [] => o == tot
  | o, f :: r => f.offset == o && layF P tot (o + P.cellsOf f.type) r

/-- a type within a closed set of plain types -/
def goodT (P : Program) (S : List TypeId) (t : TypeId) : Bool := match P.underlying t with
  | some .bool | some (.int _) | some .string => true
  | some (.slice e) => S.contains e && decide (0 < P.cellsOf e) && decide (0 < P.bytesOf e)
  | some (.struct fs) => layF P (P.cellsOf t) 0 fs.toList && fs.toList.all fun f => S.contains f.type
  | _ => false

theorem RepE.of_get {h : PH} {s : Nat} : ∀ {es : List (List D)} {vs : List Value}, (∀ i e, es[i]? = some e → e.length = s ∧ RepL h e (vs.drop (i * s))) → RepE h s es vs
  | [], vs, _ => by simp [RepE]
  | e :: es, vs, H => by
    simp only [RepE]
    have h0 := H 0 e rfl
    refine ⟨h0.1, by simpa using h0.2, RepE.of_get fun i e' he => ?_⟩
    have := H (i + 1) e' (by simpa using he)
    rw [List.drop_drop, show s + i * s = (i + 1) * s by rw [Nat.add_mul]; omega]
    exact this

section
variable {H : Type} {enc : TypeId × Value → H} {P : Program} {w : World} {held : Bool}

theorem mapM_cells {B : Nat} {c : Array Value} {ty : TypeId} {fr : Nat × Nat} (hB : w.heap[B]? = some (.cells c ty fr)) : ∀ (n k o : Nat) (cs : List Value), ((List.range' k n).mapM fun i => w.cell? ⟨B, o + i, none⟩) = some cs → cs = (c.toList.drop (o + k)).take n ∧ cs.length = n
  | 0, k, o, cs, h => by simp at h; subst h; simp
  | n + 1, k, o, cs, h => by
    rw [List.range'_succ, List.mapM_cons] at h
    have hc : w.cell? ⟨B, o + k, none⟩ = c[o + k]? := by simp [World.cell?, hB]
    rw [hc] at h
    cases e : c[o + k]? with
    | none => simp [e] at h
    | some v =>
      simp only [e, Option.pure_def, Option.bind_eq_bind, Option.bind_some, Option.bind_eq_some_iff] at h
      obtain ⟨r, hr, hcs⟩ := h
      cases hcs
      obtain ⟨h1, h2⟩ := mapM_cells hB n (k + 1) o r hr
      have hk : o + k < c.toList.length := by
        rcases Nat.lt_or_ge (o + k) c.size with h | h
        · simpa using h
        · rw [Array.getElem?_eq_none h] at e; cases e
      rw [List.drop_eq_getElem_cons hk]
      refine ⟨?_, by simp [h2]⟩
      rw [List.take_succ_cons, h1, show o + (k + 1) = o + k + 1 by omega]
      congr 1
      have := Array.getElem?_eq_getElem (xs := c) (i := o + k) (by simpa using hk)
      rw [this] at e
      simp at e
      simp [e]

theorem cells_eq {base : Nat} {a : Addr} {s : Nat} {cs : List Value} (hs : 0 < s) (h : w.cells? base a s = some cs) : a.spot = none ∧ cs = ((hcells (fun B => w.heap[B]?) a.block).drop a.off).take s ∧ cs.length = s := by
  unfold World.cells? at h
  split at h
  · obtain ⟨B, o, sp⟩ := a
    have hsp : sp = none := by
      cases sp with
      | none => rfl
      | some z =>
        exfalso
        cases s with
        | zero => cases hs
        | succ s =>
          rw [List.range_eq_range', List.range'_succ, List.mapM_cons] at h
          have : w.cell? (Addr.add ⟨B, o, some z⟩ 0) = none := by
            unfold World.cell? Addr.add
            simp
            cases w.heap[B]? with
            | none => rfl
            | some ob => cases ob <;> rfl
          rw [this] at h
          simp at h
    subst hsp
    refine ⟨rfl, ?_⟩
    simp only [addr_add] at h
    simp only [hcells]
    cases e : w.heap[B]? with
    | none =>
      exfalso
      cases s with
      | zero => cases hs
      | succ s =>
        rw [List.range_eq_range', List.range'_succ, List.mapM_cons] at h
        simp [World.cell?, e] at h
    | some ob =>
      cases ob with
      | cells c ty fr =>
        rw [List.range_eq_range'] at h
        have := mapM_cells e s 0 o cs h
        rw [Nat.add_zero] at this
        exact this
      | _ =>
        exfalso
        cases s with
        | zero => cases hs
        | succ s =>
          rw [List.range_eq_range', List.range'_succ, List.mapM_cons] at h
          simp [World.cell?, e] at h
  · cases h

theorem RepL.of_take {h : PH} {ds : List D} {vs : List Value} {n : Nat} (r : RepL h ds (vs.take n)) : RepL h ds vs := by
  have := RepL.mono (PH.le_refl h) ds _ (vs.drop n) r
  simpa using this

theorem mem_weightsAll {e : TypeId} : ∀ {l : List (DataW H)} {d : DataW H}, d ∈ l → ∀ n, n ∈ d.weights P e → n ∈ DataW.weightsAll P e l
  | x :: l, d, h, n, hn => by
    simp only [DataW.weightsAll, List.mem_append]
    cases List.mem_cons.1 h with
    | inl h => subst h; exact Or.inl hn
    | inr h => exact Or.inr (mem_weightsAll h n hn)

theorem maxWeight : reachBytes ≤ lenMax := by decide

theorem trod_shape {S : List TypeId} (hS : ∀ t, t ∈ S → goodT P S t = true) : ∀ (fuel : Nat) (t : TypeId) (cs : List Value) (d : DataW H) (ps : List MemPlace), t ∈ S →
    DataW.trod enc P w 0 (fun _ => true) true fuel t cs = some (d, ps) → (∀ n, n ∈ d.weights P t → n ≤ reachBytes) →
    ∃ ds, ShapeF P fuel t ds ∧ RepL (fun B => w.heap[B]?) ds cs ∧ ds.length = cs.length := by
  intro fuel
  induction fuel with
  | zero => intro t cs d ps _ h; simp [DataW.trod] at h
  | succ fuel ih =>
  intro t cs d ps ht h hw
  have hg := hS t ht
  unfold goodT at hg
  split at hg
  · rename_i hu
    obtain ⟨b, rfl, _⟩ := DataW.trod_bool hu h
    exact ⟨[.bool b], by unfold ShapeF; rw [hu]; exact ⟨b, rfl⟩, by simp [RepL, RepD, Value.one1], rfl⟩
  · rename_i k hu
    obtain ⟨n, rfl, _, hwf⟩ := DataW.trod_int hu h
    refine ⟨[.int k n], by unfold ShapeF; rw [hu]; exact ⟨n, rfl⟩, ?_, rfl⟩
    simp only [Lit.wf, Bool.and_eq_true, decide_eq_true_eq] at hwf
    simp [RepL, RepD, Value.one1, hwf]
  · rename_i hu
    obtain ⟨s, rfl, hx, _⟩ := DataW.trod_string hu h
    refine ⟨[.str s], by unfold ShapeF; rw [hu]; exact ⟨s, rfl⟩, ?_, rfl⟩
    simp only [Prod.mk.injEq] at hx
    rw [hx.1] at hw
    have h1 := hw s.data.toList.length (by unfold DataW.weights; exact List.mem_singleton.2 rfl)
    have e : s.size = s.data.toList.length := (Array.length_toList ..).symm
    have h2 := maxWeight
    refine ⟨⟨rfl, ?_⟩, trivial⟩
    unfold RepD
    exact ⟨rfl, e ▸ Nat.le_trans h1 h2⟩
  · rename_i e hu
    simp only [Bool.and_eq_true, decide_eq_true_eq, List.contains_iff_mem] at hg
    obtain ⟨⟨he, hc⟩, hb⟩ := hg
    rcases DataW.trod_slice hu h with ⟨rfl, _⟩ | ⟨a, len, cap, elems, rest, n, hn, rfl, hx, _, hlc, hcm, hlen, hel, hsp, _⟩
    · refine ⟨[.sl false (P.cellsOf e) []], by unfold ShapeF; rw [hu]; exact ⟨[], rfl, by simp⟩, ?_, rfl⟩
      refine ⟨⟨rfl, ?_⟩, trivial⟩
      unfold RepD
      exact ⟨none, 0, rfl, Nat.le_refl _, fun h => (by cases h), Nat.zero_le _, fun _ => ⟨rfl, rfl⟩, fun p hp => (by cases hp), (by simp [RepE])⟩
    · simp only [Nat.add_right_cancel_iff] at hn
      subst hn
      simp only [Prod.mk.injEq] at hx
      have hw0 : ∀ x, x ∈ elems.map (·.1) → ∀ m, m ∈ x.weights P e → m ≤ reachBytes := fun x hx' m hm => hw m (by
        rw [hx.1]; simp only [DataW.weights, hu]
        exact List.mem_cons_of_mem _ (List.mem_append_left _ (mem_weightsAll hx' m hm)))
      have hcap : (elems.length + rest.length) * P.bytesOf e ≤ reachBytes := hw _ (by rw [hx.1]; simp only [DataW.weights, hu]; simp)
      have hcap' : elems.length + rest.length ≤ reachBytes := Nat.le_trans (Nat.le_mul_of_pos_right _ hb) hcap
      have key : ∀ i, i < len → ∃ ds, ShapeF P fuel e ds ∧ ds.length = P.cellsOf e ∧ a.spot = none ∧ RepL (fun B => w.heap[B]?) ds ((hcells (fun B => w.heap[B]?) a.block).drop (a.off + i * P.cellsOf e)) := by
        intro i hi
        have h1 := hel i hi
        have hil : i < elems.length := by omega
        rw [List.getElem?_eq_getElem hil] at h1
        obtain ⟨cs', hcs, htr⟩ := Option.bind_eq_some_iff.1 h1
        obtain ⟨ds, s1, s2, s3⟩ := ih e cs' elems[i].1 elems[i].2 he htr (hw0 _ (List.mem_map_of_mem (List.getElem_mem hil)))
        obtain ⟨g1, g2, g3⟩ := cells_eq hc hcs
        have g4 : (a.add (i * P.cellsOf e)).block = a.block := by unfold Addr.add; split <;> rfl
        have g5 : (a.add (i * P.cellsOf e)).off = a.off + i * P.cellsOf e := by unfold Addr.add; split <;> simp_all
        rw [g4, g5] at g2
        refine ⟨ds, s1, by omega, ?_, RepL.of_take (g2 ▸ s2)⟩
        -- the first element's reading says that the place is plain
        have h0 := hel 0 (by omega)
        rw [List.getElem?_eq_getElem (show 0 < elems.length by omega)] at h0
        obtain ⟨cs0, hcs0, _⟩ := Option.bind_eq_some_iff.1 h0
        have := (cells_eq hc hcs0).1
        simpa [Addr.add] using this
      have hspot : 0 < cap → a.spot = none := by
        intro hcap
        rcases Nat.lt_or_ge 0 len with hl | hl
        · obtain ⟨_, _, _, h3, _⟩ := key 0 hl; exact h3
        · have hl0 : len = 0 := by omega
          have := (hsp rfl).2 0 (by omega)
          rw [List.getElem?_eq_getElem (show 0 < rest.length by have := (hsp rfl).1; omega)] at this
          obtain ⟨cs0, hcs0, _⟩ := Option.bind_eq_some_iff.1 this
          have := (cells_eq hc hcs0).1
          simpa [Addr.add, hl0] using this
      have pick : ∃ es : List (List D), es.length = len ∧ ∀ i x, es[i]? = some x → ShapeF P fuel e x ∧ x.length = P.cellsOf e ∧ RepL (fun B => w.heap[B]?) x ((hcells (fun B => w.heap[B]?) a.block).drop (a.off + i * P.cellsOf e)) := by
        have : ∀ m, m ≤ len → ∃ es : List (List D), es.length = m ∧ ∀ i x, es[i]? = some x → ShapeF P fuel e x ∧ x.length = P.cellsOf e ∧ RepL (fun B => w.heap[B]?) x ((hcells (fun B => w.heap[B]?) a.block).drop (a.off + i * P.cellsOf e)) := by
          intro m
          induction m with
          | zero => intro _; exact ⟨[], rfl, by simp⟩
          | succ m ihm =>
            intro hm
            obtain ⟨es, hes, hall⟩ := ihm (by omega)
            obtain ⟨ds, d1, d2, d3, d4⟩ := key m (by omega)
            refine ⟨es ++ [ds], by simp [hes], fun i x hx => ?_⟩
            rw [List.getElem?_append] at hx
            split at hx
            · exact hall i x hx
            · have : i = m := by
                rcases Nat.lt_or_ge (i - es.length) 1 with h | h
                · omega
                · rw [List.getElem?_eq_none (by simpa using h)] at hx; cases hx
              subst this
              simp [hes] at hx
              subst hx
              exact ⟨d1, d2, d4⟩
        exact this len (Nat.le_refl _)
      obtain ⟨es, hes, hall⟩ := pick
      refine ⟨[.sl false (P.cellsOf e) es], ?_, ?_, rfl⟩
      · unfold ShapeF; rw [hu]
        refine ⟨es, rfl, fun x hx => ?_⟩
        obtain ⟨i, hi, rfl⟩ := List.getElem_of_mem hx
        exact (hall i _ (List.getElem?_eq_getElem hi)).1
      · have := maxWeight
        simp only [RepL, RepD, Value.one1, and_true, true_and]
        refine ⟨some a, cap, by rw [hes], by omega, by simp, by omega, by simp, fun p hp hcap => by cases hp; exact hspot hcap, ?_⟩
        refine RepE.of_get fun i x hx => ?_
        obtain ⟨_, h2, h3⟩ := hall i x hx
        refine ⟨h2, ?_⟩
        simp only [cellsAt]
        rw [List.drop_drop]
        exact h3
  · rename_i fs hu
    simp only [Bool.and_eq_true, List.all_eq_true, List.contains_iff_mem] at hg
    obtain ⟨hlay, hmem⟩ := hg
    obtain ⟨xs, n, hn, hx, hl, hxl, hf⟩ := DataW.trod_struct hu h
    simp only [Nat.add_right_cancel_iff] at hn
    subst hn
    simp only [Prod.mk.injEq] at hx
    have hw1 : ∀ (i : Nat) (f : Field) y, fs[i]? = some f → xs[i]? = some y → ∀ m, m ∈ y.1.weights P f.type → m ≤ reachBytes := fun i f y hfi hyi m hm => hw m (by
      rw [hx.1]; simp only [DataW.weights, hu]
      exact DataW.weights_mem_each (j := i) (t := f.type) (d := y.1) (by simp [hfi]) (by simp [hyi]) m hm)
    have key : ∀ (l : List Field) (k o : Nat), fs.toList.drop k = l → layF P (P.cellsOf t) o l = true → o ≤ cs.length → ∃ ds, ShapeFs P fuel (l.map (·.type)) ds ∧ RepL (fun B => w.heap[B]?) ds (cs.drop o) ∧ ds.length = cs.length - o := by
      intro l
      induction l with
      | nil =>
        intro k o _ hlay ho
        simp only [layF, beq_iff_eq] at hlay
        exact ⟨[], by simp [ShapeFs], by simp [RepL], by simp; omega⟩
      | cons f l ihl =>
        intro k o hk hlay ho
        simp only [layF, Bool.and_eq_true, beq_iff_eq] at hlay
        have hkf : fs[k]? = some f := by
          have : (fs.toList.drop k)[0]? = some f := by rw [hk]; rfl
          simpa using this
        have hfk := hf k f hkf
        have hks : k < xs.length := by
          rw [hxl]
          rcases Nat.lt_or_ge k fs.size with h | h
          · exact h
          · rw [Array.getElem?_eq_none h] at hkf; cases hkf
        rw [List.getElem?_eq_getElem hks, hlay.1] at hfk
        have hfm : f ∈ fs.toList := List.mem_of_mem_drop (i := k) (by rw [hk]; simp)
        obtain ⟨a, s1, s2, s3⟩ := ih f.type _ xs[k].1 xs[k].2 (hmem f hfm) hfk (hw1 k f xs[k] hkf (List.getElem?_eq_getElem hks))
        have hle : ∀ (l : List Field) (o : Nat), layF P (P.cellsOf t) o l = true → o ≤ P.cellsOf t := by
          intro l
          induction l with
          | nil => intro o h; simp [layF] at h; omega
          | cons f l ih => intro o h; simp [layF] at h; have := ih _ h.2; omega
        have ho2 := hle _ _ hlay.2
        obtain ⟨b, t1, t2, t3⟩ := ihl (k + 1) (o + P.cellsOf f.type) (by rw [← List.drop_drop, hk]; rfl) hlay.2 (by omega)
        have hal : a.length = P.cellsOf f.type := by rw [s3]; simp; omega
        refine ⟨a ++ b, (by simp only [List.map_cons, ShapeFs]; exact ⟨a, b, rfl, s1, t1⟩), ?_, by simp [hal, t3]; omega⟩
        have e : cs.drop o = (cs.drop o).take (P.cellsOf f.type) ++ cs.drop (o + P.cellsOf f.type) := by
          rw [← List.drop_drop, List.take_append_drop]
        rw [e]
        exact RepL.append s2 (by rw [s3]) t2
    obtain ⟨ds, d1, d2, d3⟩ := key fs.toList 0 0 rfl hlay (by omega)
    exact ⟨ds, by unfold ShapeF; rw [hu]; exact d1, by simpa using d2, by simpa using d3⟩
  · cases hg


def isAgg (P : Program) (t : TypeId) : Bool := match P.underlying t with
  | some (.struct _) => true
  | _ => false
def dvOf (ag : Bool) (ds : List D) : DV := match ag with
  | true => .agg ds
  | false => .one (ds.headD .any)
def ShapeA (P : Program) : List TypeId → List DV → Prop
  | [], vs => vs = []
  | _ :: _, [] => False
  | t :: ts, v :: vs => (∃ n ds, ShapeF P n t ds ∧ v = dvOf (isAgg P t) ds) ∧ ShapeA P ts vs

theorem arg_rep {S : List TypeId} (hS : ∀ t, t ∈ S → goodT P S t = true) {base : Nat} {t : TypeId} {v : Value} {d : DataW H} {ps : List MemPlace} (ht : t ∈ S) (hval : Value.okWide P w .any base t v)
    (h : DataW.Trod enc P w 0 (fun _ => true) true t v d ps) (hw : ∀ n, n ∈ d.weights P t → n ≤ reachBytes) :
    ∃ n ds, ShapeF P n t ds ∧ RepDV (fun B => w.heap[B]?) (dvOf (isAgg P t) ds) v := by
  obtain ⟨fuel, h⟩ := h
  obtain ⟨ds, h1, h2, h3⟩ := trod_shape hS fuel t _ d ps ht h hw
  refine ⟨fuel, ds, h1, ?_⟩
  unfold isAgg
  unfold Value.okWide at hval
  have hg := hS t ht
  unfold goodT at hg
  have one : ∀ u : Value, u = v → u.cells.toList = [u] → RepDV (fun B => w.heap[B]?) (dvOf false ds) v := by
    intro u hu hc
    subst hu
    rw [hc] at h2 h3
    match ds, h3 with
    | [x], _ => simp only [dvOf, List.headD_cons, RepDV]; simp only [RepL] at h2; exact h2.1.2
  have cell : ∀ {td : TypeDesc}, P.underlying t = some td → Cell.okWide P w .any base t v → (∀ fs, td ≠ .struct fs) → (∀ n e, td ≠ .array n e) → v.cells.toList = [v] := by
    intro td hu hc h1 h2
    unfold Cell.okWide Cell.ok at hc
    rw [hu] at hc
    cases v <;> first | rfl | (exfalso; revert hc; cases td <;> simp)
  split at hg
  · rename_i hu
    rw [hu] at hval ⊢
    exact one v rfl (cell hu hval (by simp) (by simp))
  · rename_i hu
    rw [hu] at hval ⊢
    exact one v rfl (cell hu hval (by simp) (by simp))
  · rename_i hu
    rw [hu] at hval ⊢
    exact one v rfl (cell hu hval (by simp) (by simp))
  · rename_i hu
    rw [hu] at hval ⊢
    exact one v rfl (cell hu hval (by simp) (by simp))
  · rename_i hu
    rw [hu] at hval ⊢
    simp only at hval ⊢
    obtain ⟨cs, rfl, _, _⟩ := hval
    simp only [dvOf, RepDV]
    refine ⟨cs.toList, by simp, ?_, h2⟩
    rw [h3]; rfl
  · cases hg

theorem args_rep {S : List TypeId} (hS : ∀ t, t ∈ S → goodT P S t = true) {base : Nat} : ∀ {ts : List TypeId} {vs : List Value} {ds : List (DataW H)} {ps : List MemPlace}, (∀ t, t ∈ ts → t ∈ S) →
    (∀ (j : Nat) t v, ts[j]? = some t → vs[j]? = some v → Value.okWide P w .any base t v) → DataW.TrodAll enc P w 0 (fun _ => true) true ts vs ds ps → (∀ n, n ∈ DataW.weightsEach P ts ds → n ≤ reachBytes) →
    ∃ dvs, ShapeA P ts dvs ∧ RepDVL (fun B => w.heap[B]?) dvs vs
  | [], [], [], _, _, _, _, _ => ⟨[], rfl, by simp [RepDVL]⟩
  | t :: ts, v :: vs, d :: ds, ps, ht, hval, h, hw => by
    obtain ⟨p, q, h1, h2, _⟩ := h
    obtain ⟨n, e, a1, a2⟩ := arg_rep hS (ht t (by simp)) (hval 0 t v rfl rfl) h1 (fun n hn => hw n (by simp [DataW.weightsEach, hn]))
    obtain ⟨dvs, b1, b2⟩ := args_rep hS (fun u hu => ht u (by simp [hu])) (fun j u x hu hx => hval (j + 1) u x (by simpa using hu) (by simpa using hx)) h2 (fun n hn => hw n (by simp [DataW.weightsEach, hn]))
    exact ⟨dvOf (isAgg P t) e :: dvs, ⟨⟨n, e, a1, rfl⟩, b1⟩, by simp only [RepDVL]; exact ⟨a2, b2⟩⟩

theorem trodAll_stays (hl : laidOutB P = true) {W W' : World} (hb : Go.RowKit.Below W.heap.size W W') : ∀ {ts : List TypeId} {vs : List Value} {ds : List (DataW H)} {ps : List MemPlace}, (∀ t, t ∈ ts → P.readableRec t = true ∧ t < P.types.size) →
    DataW.TrodAll enc P W 0 (fun _ => true) true ts vs ds ps → (∀ x, x ∈ ps → x.block < W.heap.size) → DataW.TrodAll enc P W' 0 (fun b => decide (b < W.heap.size)) true ts vs ds ps
  | [], [], [], _, _, h, _ => h
  | t :: ts, v :: vs, d :: ds, ps, hr, h, hlt => by
    obtain ⟨p, q, h1, h2, rfl⟩ := h
    have hrt := hr t (by simp)
    exact ⟨p, q, Go.RowKit.Below.trod hl hrt.1 hrt.2 h1 hb (fun x hx => hlt x (by simp [hx])), trodAll_stays hl hb (fun u hu => hr u (by simp [hu])) h2 (fun x hx => hlt x (by simp [hx])), rfl⟩
end

/-- a law's claim, from its contract on data -/
theorem law_lifted {C : Checked} {os : Os} {f : FuncId} {fn : Func} {s : ChangeSpec} {conds : List PathCond} {S : List TypeId} {rt : TypeId} {H : Type} {enc : TypeId × Value → H}
    (hG : C.prog.globalNamed "strings.asciiSpace" = none) (own : ownKnob C.prog.godebug = none) (started : os.Started) (noInit : C.prog.inits.idxOf? f = none) (hfn : C.prog.funcs[f]? = some fn) (hvars : s.vars = [])
    (hS : (S.all fun t => goodT C.prog S t && C.prog.readableRec t && decide (t < C.prog.types.size)) = true) (hp : (fn.params.toList.all fun t => S.contains t) = true)
    (hres : fn.resultTypes = #[rt]) (hrt : C.prog.underlying rt = some .bool) (hl : laidOutB C.prog = true)
    (hspec : ∀ (ds : List (DataW H)), ds.length = fn.params.size → s.fn H ds = { results := [.lit (.bool true)], args := ds })
    (witness : ∃ (w : World) (tape : Tape) (i : Input), w.os = os ∧ (w.forCall tape i).Shaped C.prog ∧ i.vars = [] ∧ Input.okWide C.prog (w.forCall tape i) .any w.heap.size f i ∧
      s.pre6 enc C.prog fn conds false (w.forCall tape i).memory i.args ∧ ({} : Assume).holds C.prog (lone (Frame.enter C.prog f i.args .normal) [] (w.forCall tape i)))
    (hc : ∀ dvs, ShapeA C.prog fn.params.toList dvs → PCall C.prog f dvs (.one (.bool true))) :
    ReturnsInHanded {} C os f .any (s.pre6 enc C.prog fn conds false) (s.post enc C.prog fn false true false false) := by
  refine returnsInHanded_of_change_sized own started noInit hfn witness ?_
  intro W base args ds gs before hval hW _ hwt _
  simp only [List.all_eq_true, Bool.and_eq_true, decide_eq_true_eq, List.contains_iff_mem] at hS hp
  have hW' := hW
  obtain ⟨p, q, hA, hV, hpq, hfz, hnd⟩ := hW
  rw [hvars] at hV
  have hgs : gs = [] ∧ q = [] := by
    cases gs with
    | nil => exact ⟨rfl, hV⟩
    | cons g gs => exact hV.elim
  obtain ⟨rfl, rfl⟩ := hgs
  simp only [List.append_nil] at hpq
  subst hpq
  have hpv : s.plain.varTypes C.prog = [] := by unfold ChangeSpec.plain DataSpec.varTypes; rw [hvars]; rfl
  simp only [hpv, List.append_nil, List.all_eq_true, decide_eq_true_eq] at hwt
  have hlen : ∀ {ts : List TypeId} {vs : List Value} {ds : List (DataW H)} {ps : List MemPlace}, DataW.TrodAll enc C.prog W 0 (fun _ => true) true ts vs ds ps → ds.length = ts.length := by
    intro ts
    induction ts with
    | nil => intro vs ds ps h; cases vs <;> cases ds <;> first | rfl | exact h.elim
    | cons t ts ih =>
      intro vs ds ps h
      cases vs <;> cases ds <;> first | exact h.elim | skip
      obtain ⟨_, _, _, h2, _⟩ := h
      simp [ih h2]
  obtain ⟨dvs, d1, d2⟩ := args_rep (fun t ht => (hS t ht).1.1) hp (fun j t v ht hv => hval j t v (by simpa using ht) (by simpa using hv)) hA hwt
  have hcall := (hc dvs d1).2 (fun B => W.heap[B]?) W args.toList (fun B o h => h) (fun g e => by rw [hG] at e; cases e) d2
  refine (show Calls C.prog f args.toList.toArray W _ from hcall).mono fun e W' he => ?_
  obtain ⟨vC, h', rfl, _, _, _, hsz, hold, ⟨so, st, sp⟩, rv⟩ := he
  simp only [RepDV, RepD] at rv
  subst rv
  have hb : Go.RowKit.Below W.heap.size W W' := ⟨so, st, sp, hsz, hold⟩
  have hsp := hspec ds (by simpa using hlen hA)
  refine ⟨_, rfl, ds, [], before, [], before, [], hW', ?_, ?_, ?_, hb.frame _, fun h => by cases h⟩
  · rw [List.append_nil, hsp, hres]
    refine ⟨[], [], ⟨1, ?_⟩, rfl, rfl⟩
    unfold DataW.trod
    rw [hrt]
    rfl
  · rw [List.append_nil, hsp]
    exact trodAll_stays hl hb (fun t ht => ⟨(hS t (hp t ht)).1.2, (hS t (hp t ht)).2⟩) hA (fun x hx => hW'.lt x hx)
  · rw [List.append_nil, hsp, hvars]
    rfl

/-! ### what data look like, opened -/
section
variable {P : Program} {n : Nat} {t : TypeId} {ds : List D}
theorem shape_int {k : IntKind} (hu : P.underlying t = some (.int k)) (h : ShapeF P n t ds) : ∃ i, ds = [.int k i] := by
  cases n with
  | zero => exact (by unfold ShapeF at h; exact h : False).elim
  | succ n => unfold ShapeF at h; rw [hu] at h; exact h
theorem shape_bool (hu : P.underlying t = some .bool) (h : ShapeF P n t ds) : ∃ i, ds = [.bool i] := by
  cases n with
  | zero => exact (by unfold ShapeF at h; exact h : False).elim
  | succ n => unfold ShapeF at h; rw [hu] at h; exact h
theorem shape_str (hu : P.underlying t = some .string) (h : ShapeF P n t ds) : ∃ i, ds = [.str i] := by
  cases n with
  | zero => exact (by unfold ShapeF at h; exact h : False).elim
  | succ n => unfold ShapeF at h; rw [hu] at h; exact h
theorem shape_struct {fs : Array Field} (hu : P.underlying t = some (.struct fs)) (h : ShapeF P n t ds) : ∃ m, n = m + 1 ∧ ShapeFs P m (fs.toList.map (·.type)) ds := by
  cases n with
  | zero => exact (by unfold ShapeF at h; exact h : False).elim
  | succ n => unfold ShapeF at h; rw [hu] at h; exact ⟨n, rfl, h⟩
theorem shape_nil (h : ShapeFs P n [] ds) : ds = [] := by unfold ShapeFs at h; exact h
theorem shape_cons {ts : List TypeId} (h : ShapeFs P n (t :: ts) ds) : ∃ a b, ds = a ++ b ∧ ShapeF P n t a ∧ ShapeFs P n ts b := by unfold ShapeFs at h; exact h
theorem list_enc {α : Type} {enc : α → List D} {es : List (List D)} (h : ∀ x, x ∈ es → ∃ a, x = enc a) : ∃ l : List α, es = l.map enc := by
  induction es with
  | nil => exact ⟨[], rfl⟩
  | cons e es ih =>
    obtain ⟨a, ha⟩ := h e (by simp)
    obtain ⟨l, hl⟩ := ih (fun x hx => h x (by simp [hx]))
    exact ⟨a :: l, by simp [ha, hl]⟩
theorem shape_slice {e : TypeId} {s : Nat} {α : Type} {enc : α → List D} (hu : P.underlying t = some (.slice e)) (hs : P.cellsOf e = s) (he : ∀ m, m < n → ∀ x, ShapeF P m e x → ∃ a, x = enc a) (h : ShapeF P n t ds) : ∃ l : List α, ds = [.sl false s (l.map enc)] := by
  cases n with
  | zero => exact (by unfold ShapeF at h; exact h : False).elim
  | succ n =>
    unfold ShapeF at h; rw [hu] at h
    obtain ⟨es, h1, h2⟩ := h
    obtain ⟨l, hl⟩ := list_enc (enc := enc) (fun x hx => he n (by omega) x (h2 x hx))
    exact ⟨l, by rw [h1, hs, hl]⟩
end
end Go.Abs
