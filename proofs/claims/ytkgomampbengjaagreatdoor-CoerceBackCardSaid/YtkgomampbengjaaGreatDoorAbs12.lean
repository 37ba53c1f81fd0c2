/- The abstract operations (8): append, whole. -/
import Derived.Test.YtkgomampbengjaaGreatDoorAbs11
set_option linter.unusedVariables false
set_option linter.unusedSimpArgs false
namespace Go.Abs

section
variable {P : Program} {get : Nat → AV} {m : Hp} {n : Nat}

theorem Runs.storeAt {B o : Nat} {us : List Value} {U : TypeId} {w : World} {vs : List Value} (hB : w.heap[B]? = some (.cells us.toArray U (0, 0))) (hle : o + vs.length ≤ us.length) (h1 : ∀ x, x ∈ vs → x.one1 = true) :
    Runs P (Go.storeCells ⟨B, o, none⟩ vs 0) w () { w with heap := w.heap.setIfInBounds B (.cells (Abs.splice us o vs).toArray U (0, 0)) } := by
  by_cases h0 : vs = []
  · subst h0
    simp only [Abs.splice]
    have e : w.heap.setIfInBounds B (.cells us.toArray U (0, 0)) = w.heap := by
      apply Array.ext_getElem?
      intro j
      by_cases hj : B = j
      · subst hj
        have hlt : B < w.heap.size := by
          rcases Nat.lt_or_ge B w.heap.size with h | h
          · exact h
          · rw [Array.getElem?_eq_none h] at hB; cases hB
        rw [Array.getElem?_setIfInBounds_self, if_pos hlt, hB]
      · rw [Array.getElem?_setIfInBounds_ne hj]
    rw [e]
    exact Runs.pure _
  · have := Runs.storeCells (P := P) o vs 0 us w hB (by simpa using hle) h1 h0
    simp only [Nat.add_zero] at this
    exact this

/-- the row of elements, behind which more have been written -/
theorem RepCE.grown {ph : PH} {ρ : RM} {s : Nat} {es ys : List (List AC)} {us new : List Value} {len : Nat} (r : RepCE ph ρ s es us) (hl : len ≤ es.length) (r' : RepCE ph ρ s ys new) (hn : new.length = ys.length * s)
    (hle : len * s + new.length ≤ us.length) : RepCE ph ρ s (es.take len ++ ys) (Abs.splice us (len * s) new) := by
  rw [splice_eq _ _ _ hle, List.append_assoc]
  have h1 := (r.takeEs len).takeAll
  have hlen : (es.take len).length = len := by simp; omega
  rw [hlen] at h1
  exact h1.append (by rw [hlen]; simp; omega) (r'.more _)

theorem sem_append {o : Oper} {c : Call} {T T' : TypeId} {ox oy : Operand} {s bytes : Nat} {x y : MX} (ho : o.op = .call c) (hb : c.callee = .builtin .append) (ha : c.args.toList = [ox, oy]) (hta : c.argTypes.toList = [T, T'])
    (hx : chkX x ox = true) (hy : chkX y oy = true) (hni : isInt P T' = false) (hsome : (P.underlying T').isSome = true) {i : TypeInfo} (hi : slElem P T = some i) (c1 : i.size = s) (c2 : i.bytes = bytes) (c3 : 0 < bytes) (c3' : bytes ≤ 1073741824) (c4 : 0 < s)
    (hz : i.zero.isSome = true) (hzl : (zeroOf i).length = s) {K : AV → List Nat → List (Nat × Blk) → Prop}
    (hK : match X get x with
    | .c (.msl s' b off len) => match m b with
      | .arr s'' es => s = s' ∧ s = s'' ∧ off = 0 ∧ len ≤ es.length ∧ m n = .non ∧ srcs get m s (fun ys rd => (len + ys.length) * bytes ≤ 70368744177664 ∧ (rd = [] ∨ rd = [b] ∨ b ∉ rd) ∧
          K (.c (.msl s n 0 (len + ys.length))) rd [(b, .dead), (n, .arr s (es.take len ++ ys))]) y
      | _ => False
    | .c (.d (.sl true s' [])) => m n = .non ∧ srcs get m s (fun ys rd => ys.length * bytes ≤ 70368744177664 ∧ K (.c (.msl s n 0 ys.length)) rd [(n, .arr s ys)]) y
    | .c (.d (.sl true s' (e :: es))) => s = s' ∧ m n = .non ∧ srcs get m s (fun ys rd => ys ≠ [] ∧ ((e :: es).length + ys.length) * bytes ≤ 70368744177664 ∧ K (.c (.msl s n 0 ((e :: es).length + ys.length))) rd [(n, .arr s ((e :: es).map (·.map .d) ++ ys))]) y
    | _ => False) : ∃ v rd wr, OpSem P o get m rd wr v ∧ K v rd wr := by
  obtain ⟨d', hu'⟩ := Option.isSome_iff_exists.1 hsome
  have hnot : ∀ k, d' ≠ .int k := by
    intro k hk; subst hk
    simp [isInt, hu'] at hni
  obtain ⟨et, hu, hei⟩ := sl_of hi
  obtain ⟨zv, ez⟩ := Option.isSome_iff_exists.1 hz
  have e0 : zeroOf i = zv.cells.toList := by simp [zeroOf, ez]
  have hzs : zv.cells.size = s := by rw [e0] at hzl; simpa using hzl
  have hargs : c.args = #[ox, oy] := by rw [← Array.toArray_toList (xs := c.args), ha]
  have htys : c.argTypes = #[T, T'] := by rw [← Array.toArray_toList (xs := c.argTypes), hta]
  -- the operation's run, out of append's
  have wrap : ∀ {a : Act} {w w' : World} {v : Value}, Runs P (Builtin.append_ #[T, T'] o.type #[a.eval ox, a.eval oy]) w v w' → Runs P (execOp a.eval o) w (.value v) w' := by
    intro a w w' v h
    unfold execOp; rw [ho]
    show Runs P (do let d ← resolve a.eval c o.type; invoke d.target d.args) w _ w'
    unfold resolve
    rw [hb, hargs, htys]
    refine (Runs.pure _).bind ?_
    simp only [invoke, List.map_toArray, List.map_cons, List.map_nil]
    exact h.bind (Runs.pure _)
  have ops : ∀ k, (ox = .tmp k ∨ oy = .tmp k) → Operand.tmp k ∈ o.op.operands := by
    intro k hk
    rw [ho]
    simp only [Op.operands, Call.operands, hb, hargs]
    rcases hk with hk | hk <;> simp [hk]
  have blen : ∀ {k : Nat}, k * bytes ≤ 70368744177664 → k ≤ lenMax := fun {k} h => by
    have : k * 1 ≤ k * bytes := Nat.mul_le_mul_left _ c3
    unfold lenMax; omega
  -- a new block
  have fresh : ∀ {ph : PH} {ρ : RM} {m' : Hp} {w : World} (hr : HRel ph ρ m' w.heap) (hn : m' n = .non) {es ys : List (List AC)} {oldl newl : List Value} {k newCap : Nat} (h1 : RepCE ph ρ s es oldl) (h2 : oldl.length = es.length * s)
      (h3 : RepCE ph ρ s ys newl) (h4 : newl.length = ys.length * s) (hk : es.length + ys.length = k) (hcap : k ≤ newCap) (hkl : k ≤ lenMax),
      HRel ph (upd ρ n (some (w.heap.size, newCap))) (upd m' n (.arr s (es ++ ys))) (w.heap.push (.cells (oldl.toArray ++ newl.toArray ++ Builtin.zeroCells zv.cells (newCap - k)) et)) ∧
      Step ph ρ m' w.heap ph (upd ρ n (some (w.heap.size, newCap))) (upd m' n (.arr s (es ++ ys))) (w.heap.push (.cells (oldl.toArray ++ newl.toArray ++ Builtin.zeroCells zv.cells (newCap - k)) et)) := by
    intro ph ρ m' w hr hn es ys oldl newl k newCap h1 h2 h3 h4 hk hcap hkl
    refine hr.pushO _ hn newCap (blk := .arr s (es ++ ys)) (by simp) (.inr ⟨oldl ++ newl ++ (Builtin.zeroCells zv.cells (newCap - k)).toList, et, ?_, ?_, ?_, ?_, ?_⟩)
    · rw [push_get_size]
      congr 2
      apply Array.ext'; simp
    · have hzc : (Builtin.zeroCells zv.cells (newCap - k)).toList.length = (newCap - k) * s := by simp [Builtin.zeroCells, hzs]
      rw [List.length_append, List.length_append, hzc, h2, h4, ← Nat.add_mul, ← Nat.add_mul]
      congr 1; omega
    · simp; omega
    · simp; omega
    · have rle := rle_upd (ρ := ρ) (p := (w.heap.size, newCap)) ((hr.dom n).1 hn)
      have := (h1.append h2 h3).more (Builtin.zeroCells zv.cells (newCap - k)).toList
      exact RepCE.mono (PH.le_refl ph) rle _ _ this
  split at hK
  · rename_i s' b off len ex
    split at hK
    · rename_i s'' es eb
      obtain ⟨k1, k2, k3, k4, hn, hK⟩ := hK
      subst k1 k2 k3
      obtain ⟨ys, rd, ⟨hbnd, hrd, kk⟩, hsrc⟩ := srcs_ok (P := P) hK
      refine ⟨_, _, _, OpSem.of_value fun m' h1 h2 ph ρ w a hr hg => ?_, kk⟩
      have r1 := chkX_ok hx (ph := ph) (ρ := ρ) (get := get) (a := a) fun k hk => hg k (ops k (.inl hk))
      have r2 := chkX_ok hy (ph := ph) (ρ := ρ) (get := get) (a := a) fun k hk => hg k (ops k (.inr hk))
      have eb' : m' b = .arr s es := (h2 (b, .dead) (by simp)).trans eb
      have hn' : m' n = .non := (h2 (n, .arr s (es.take len ++ ys)) (by simp)).trans hn
      have hnb : n ≠ b := fun hh => by subst hh; rw [eb'] at hn'; cases hn'
      obtain ⟨new, s1, s2, s3, s4⟩ := hsrc (fun b' hb' => h1 b' hb') hr r2
      rw [ex] at r1
      simp only [RepV, RepC] at r1
      obtain ⟨p, base, p1, p2, p3, p4, p5⟩ := r1
      have hone := RepCE.one s4 s3
      simp only [Nat.zero_add] at p3
      simp only [Nat.sub_zero] at p2
      have how := hr.own b p p1
      rw [eb'] at how
      have hl := blen hbnd
      by_cases hin : len + ys.length ≤ p.2
      · -- there is room
        by_cases hp0 : p.2 = 0
        · have hlen0 : len = 0 := by omega
          have hys : ys = [] := List.length_eq_zero_iff.1 (by omega)
          subst hlen0 hys
          have hnew : new = [] := List.length_eq_zero_iff.1 (by simpa using s3)
          subst hnew
          obtain ⟨K1, S1⟩ := hr.kill (b := b) (by rw [eb']; simp)
          obtain ⟨K2, S2⟩ := K1.none (b := n) (by rw [upd_ne _ _ hnb]; exact hn') s
          refine ⟨ph, _, w, .slice base 0 p.2, wrap ?_, S1.trans S2, K2, Same.refl w, ?_⟩
          · rw [p2]
            have := runs_append_in (P := P) (T := T) (T' := T') (ty := o.type) (i := i) (base := base) (sLen := 0) (sCap := p.2) (k := 0) (x := a.eval oy) (w := w) (w' := w) (new := #[]) hu hei hu' hnot s1 (by omega) (by rw [c1]; exact s2 w rfl)
              (fun q hq => by simp only [Nat.zero_mul]; exact Runs.pure _) (fun _ => rfl)
            simpa using this
          · simp only [RepV, RepC]
            refine ⟨(0, 0), base, upd_same _ _ _, by simp [hp0], by simp, fun h => by simp at h, fun q hq h => by simp at h⟩
        · have hreal : Real (m' b) p := by rw [eb']; show 0 < p.2; omega
          have hbase := p4 (by omega)
          subst hbase
          rcases how with ⟨q1, q2⟩ | ⟨us, U, g1, g2, g3, g5, g4⟩
          · omega
          have hm3 : (len + ys.length) * s ≤ p.2 * s := Nat.mul_le_mul_right s hin
          have e2 : (len + ys.length) * s = len * s + ys.length * s := Nat.add_mul ..
          have hle : len * s + new.length ≤ us.length := by omega
          have hrep : BlkRep ph (upd ρ n (some p)) p (.arr s (es.take len ++ ys)) (w.heap.setIfInBounds p.1 (.cells (Abs.splice us (len * s) new).toArray U (0, 0))) := by
            refine .inr ⟨_, U, set_get_same _ _ (hr.real_lt p1 hreal), by rw [splice_length]; exact g2, by simp; omega, by simp; omega, ?_⟩
            exact RepCE.mono (PH.le_refl ph) (rle_upd ((hr.dom n).1 hn')) _ _ (RepCE.grown g4 k4 s4 s3 hle)
          obtain ⟨K1, S1⟩ := hr.move (.cells (Abs.splice us (len * s) new).toArray U (0, 0)) p1 hreal hn' (blk := .arr s (es.take len ++ ys)) (by simp) hrep
          refine ⟨ph, _, { w with heap := w.heap.setIfInBounds p.1 (.cells (Abs.splice us (len * s) new).toArray U (0, 0)) }, .slice (some ⟨p.1, 0, none⟩) (len + ys.length) p.2, wrap ?_, S1, K1, Same.refl w, ?_⟩
          · rw [p2]
            simp only [Nat.zero_mul] at *
            refine runs_append_in (i := i) (new := new.toArray) hu hei hu' hnot s1 hin (by rw [c1]; exact s2 w rfl) (fun q hq => ?_) (fun h => by cases h)
            cases hq
            rw [addr_add, c1]
            simp only [Nat.zero_add]
            exact Runs.storeAt g1 (by simpa using hle) hone
          · simp only [RepV, RepC]
            exact ⟨p, some ⟨p.1, 0, none⟩, upd_same _ _ _, by simp, by simpa using hin, fun _ => by simp, fun q hq _ => by cases hq; rfl⟩
      · -- a new row
        obtain ⟨K0, S0⟩ := hr.kill (b := b) (by rw [eb']; simp)
        have hold : ∃ oldl : List Value, Runs P (Builtin.firstCells s len (.slice base len p.2)) (World.drew1 w) oldl.toArray (World.drew1 w) ∧ oldl.length = len * s ∧ RepCE ph ρ s (es.take len) oldl := by
          rcases how with ⟨q1, q2⟩ | ⟨us, U, g1, g2, g3, g5, g4⟩
          · have : len = 0 := by omega
            subst this
            refine ⟨[], ?_, by simp, by simp [RepCE]⟩
            cases base with
            | none => exact rfl
            | some q => simp only [Builtin.firstCells, Nat.zero_mul]; exact rfl
          · have hm3 : len * s ≤ p.2 * s := Nat.mul_le_mul_right s p3
            have hlen : (es.take len).length = len := by simp; omega
            refine ⟨us.take (len * s), ?_, by simp; omega, by have := (g4.takeEs len).takeAll; rwa [hlen] at this⟩
            by_cases hp0 : 0 < p.2
            · have hbase := p4 hp0
              subst hbase
              simp only [Builtin.firstCells, Nat.zero_mul]
              have hl2 : (us.take (len * s)).length = len * s := by simp; omega
              have := Runs.loadCells (P := P) (w := World.drew1 w) (B := p.1) (o := 0) (vs := us.take (len * s)) (fun j u hj => by
                have hj' := take_get hj
                rw [cell_of (show (World.drew1 w).heap[p.1]? = _ from g1)]
                simpa using hj')
              rw [hl2] at this
              exact this
            · have : len = 0 := by omega
              subst this
              simp only [Nat.zero_mul, List.take_zero]
              cases base with
              | none => exact rfl
              | some q => simp only [Builtin.firstCells, Nat.zero_mul]; exact rfl
        obtain ⟨oldl, o1, o2, o3⟩ := hold
        obtain ⟨newCap, hcap, hrun⟩ := runs_append_new (P := P) (T := T) (T' := T') (ty := o.type) (i := i) (base := base) (sLen := len) (sCap := p.2) (k := ys.length) (x := a.eval oy) (w := w) (old := oldl.toArray) (new := new.toArray) hu hei ez hu' hnot s1
          (by omega) (by rw [c2]; exact hbnd) (by omega) (by omega) (by rw [c1]; exact o1) (by rw [c1]; exact s2 _ rfl)
        have hlen : (es.take len).length = len := by simp; omega
        obtain ⟨K1, S1⟩ := fresh (w := w) K0 (by rw [upd_ne _ _ hnb]; exact hn') (k := len + ys.length) (newCap := newCap) o3 (by rw [hlen]; exact o2) s4 s3 (by rw [hlen]) hcap hl
        refine ⟨ph, _, { World.drew1 w with heap := w.heap.push (.cells (oldl.toArray ++ new.toArray ++ Builtin.zeroCells zv.cells (newCap - (len + ys.length))) et) }, _, wrap (by rw [p2]; exact hrun), S0.trans S1, K1, ⟨rfl, rfl, rfl⟩, ?_⟩
        simp only [RepV, RepC]
        exact ⟨_, some ⟨w.heap.size, 0, none⟩, upd_same _ _ _, by simp, by simpa using hcap, fun _ => by simp, fun q hq _ => by cases hq; rfl⟩
    · exact hK.elim
  · rename_i s' ex
    obtain ⟨hn, hK⟩ := hK
    obtain ⟨ys, rd, ⟨hbnd, kk⟩, hsrc⟩ := srcs_ok (P := P) hK
    refine ⟨_, _, _, OpSem.of_value fun m' h1 h2 ph ρ w a hr hg => ?_, kk⟩
    have r1 := chkX_ok hx (ph := ph) (ρ := ρ) (get := get) (a := a) fun k hk => hg k (ops k (.inl hk))
    have r2 := chkX_ok hy (ph := ph) (ρ := ρ) (get := get) (a := a) fun k hk => hg k (ops k (.inr hk))
    have hn' : m' n = .non := (h2 (n, .arr s ys) (by simp)).trans hn
    obtain ⟨new, s1, s2, s3, s4⟩ := hsrc (fun b' hb' => h1 b' hb') hr r2
    rw [ex] at r1
    simp only [RepV, RepC, RepD] at r1
    obtain ⟨base, cap, p1, p2, p3, p4, p5, p6, p7⟩ := r1
    have hcap0 : cap = 0 := by simpa using p3
    subst hcap0
    simp only [List.length_nil] at p1
    by_cases hys : ys.length = 0
    · have hys' : ys = [] := List.length_eq_zero_iff.1 hys
      subst hys'
      have hnew : new = [] := List.length_eq_zero_iff.1 (by simpa using s3)
      subst hnew
      obtain ⟨K2, S2⟩ := hr.none (b := n) hn' s
      refine ⟨ph, _, w, .slice base 0 0, wrap ?_, S2, K2, Same.refl w, ?_⟩
      · rw [p1]
        have := runs_append_in (P := P) (T := T) (T' := T') (ty := o.type) (i := i) (base := base) (sLen := 0) (sCap := 0) (k := 0) (x := a.eval oy) (w := w) (w' := w) (new := #[]) hu hei hu' hnot s1 (by omega) (by rw [c1]; exact s2 w rfl)
          (fun q hq => by simp only [Nat.zero_mul]; exact Runs.pure _) (fun _ => rfl)
        simpa using this
      · simp only [RepV, RepC]
        exact ⟨(0, 0), base, upd_same _ _ _, by simp, by simp, fun h => by simp at h, fun q hq h => by simp at h⟩
    · obtain ⟨newCap, hcap, hrun⟩ := runs_append_new (P := P) (T := T) (T' := T') (ty := o.type) (i := i) (base := base) (sLen := 0) (sCap := 0) (k := ys.length) (x := a.eval oy) (w := w) (old := #[]) (new := new.toArray) hu hei ez hu' hnot s1
        (by omega) (by rw [c2]; simpa using hbnd) (by omega) (by omega)
        (by
          cases base with
          | none => exact rfl
          | some q => simp only [Builtin.firstCells, Nat.zero_mul]; exact rfl) (by rw [c1]; exact s2 _ rfl)
      obtain ⟨K1, S1⟩ := fresh (w := w) hr hn' (es := []) (oldl := []) (k := ys.length) (newCap := newCap) (by simp [RepCE]) (by simp) s4 s3 (by simp) (by omega) (blen hbnd)
      simp only [List.nil_append, Nat.zero_add] at K1 S1 hrun
      refine ⟨ph, _, { World.drew1 w with heap := w.heap.push (.cells ((#[] : Array Value) ++ new.toArray ++ Builtin.zeroCells zv.cells (newCap - ys.length)) et) }, _, wrap (by rw [p1]; exact hrun), S1, K1, ⟨rfl, rfl, rfl⟩, ?_⟩
      simp only [RepV, RepC]
      exact ⟨_, some ⟨w.heap.size, 0, none⟩, upd_same _ _ _, by simp, by simp; omega, fun _ => by simp, fun q hq _ => by cases hq; rfl⟩
  · rename_i s' e es ex
    obtain ⟨k1, hn, hK⟩ := hK
    subst k1
    obtain ⟨ys, rd, ⟨hne, hbnd, kk⟩, hsrc⟩ := srcs_ok (P := P) hK
    generalize hes : e :: es = l at ex hbnd kk
    refine ⟨_, _, _, OpSem.of_value fun m' h1 h2 ph ρ w a hr hg => ?_, kk⟩
    have r1 := chkX_ok hx (ph := ph) (ρ := ρ) (get := get) (a := a) fun k hk => hg k (ops k (.inl hk))
    have r2 := chkX_ok hy (ph := ph) (ρ := ρ) (get := get) (a := a) fun k hk => hg k (ops k (.inr hk))
    have hn' : m' n = .non := (h2 (n, .arr s (l.map (·.map .d) ++ ys)) (by simp)).trans hn
    obtain ⟨new, s1, s2, s3, s4⟩ := hsrc (fun b' hb' => h1 b' hb') hr r2
    rw [ex] at r1
    simp only [RepV, RepC, RepD] at r1
    obtain ⟨base, cap, p1, p2, p3, p4, p5, p6, p7⟩ := r1
    have hcap0 : cap = l.length := p3 trivial
    subst hcap0
    have hl0 : 0 < l.length := by rw [← hes]; simp
    have hys : 0 < ys.length := by cases ys <;> simp_all
    have htot := p7.total
    have hold : ∃ oldl : List Value, Runs P (Builtin.firstCells s l.length (.slice base l.length l.length)) (World.drew1 w) oldl.toArray (World.drew1 w) ∧ oldl.length = l.length * s ∧ RepCE ph ρ s (l.map (·.map .d)) oldl := by
      refine ⟨(cellsAt ph base).take (l.length * s), ?_, by simp; omega, ?_⟩
      · cases base with
        | none => have := (p5 rfl).1; rw [this] at hl0; simp at hl0
        | some q =>
          obtain ⟨B, off, spot⟩ := q
          have := p6 _ rfl hl0
          simp only at this
          subst this
          simp only [Builtin.firstCells]
          have hlen : ((cellsAt ph (some ⟨B, off, none⟩)).take (l.length * s)).length = l.length * s := by simp; omega
          have := Runs.loadCells (P := P) (w := World.drew1 w) (B := B) (o := off) (vs := (cellsAt ph (some ⟨B, off, none⟩)).take (l.length * s)) (fun j u hj => by
            have hj' := take_get hj
            simp only [cellsAt, List.getElem?_drop] at hj'
            unfold hcells at hj'
            cases hB : ph B with
            | none => rw [hB] at hj'; simp at hj'
            | some ob =>
              rw [hB] at hj'
              cases ob with
              | cells c T' fr =>
                rw [cell_of (show (World.drew1 w).heap[B]? = _ from hr.pers B _ hB)]
                simpa using hj'
              | _ => simp at hj')
          rw [hlen] at this
          exact this
      · have r8 := RepCE.of_E (ρ := ρ) p7
        have := r8.takeAll
        rwa [List.length_map] at this
    obtain ⟨oldl, o1, o2, o3⟩ := hold
    obtain ⟨newCap, hcap, hrun⟩ := runs_append_new (P := P) (T := T) (T' := T') (ty := o.type) (i := i) (base := base) (sLen := l.length) (sCap := l.length) (k := ys.length) (x := a.eval oy) (w := w) (old := oldl.toArray) (new := new.toArray) hu hei ez hu' hnot s1
      (by omega) (by rw [c2]; exact hbnd) (by omega) (by omega) (by rw [c1]; exact o1) (by rw [c1]; exact s2 _ rfl)
    obtain ⟨K1, S1⟩ := fresh (w := w) hr hn' (es := l.map (·.map .d)) (k := l.length + ys.length) (newCap := newCap) o3 (by simpa using o2) s4 s3 (by simp) hcap (blen hbnd)
    refine ⟨ph, _, { World.drew1 w with heap := w.heap.push (.cells (oldl.toArray ++ new.toArray ++ Builtin.zeroCells zv.cells (newCap - (l.length + ys.length))) et) }, _, wrap (by rw [p1]; exact hrun), S1, K1, ⟨rfl, rfl, rfl⟩, ?_⟩
    simp only [RepV, RepC]
    exact ⟨_, some ⟨w.heap.size, 0, none⟩, upd_same _ _ _, by simp, by simp; omega, fun _ => by simp, fun q hq _ => by cases hq; rfl⟩
  · exact hK.elim

end
end Go.Abs
