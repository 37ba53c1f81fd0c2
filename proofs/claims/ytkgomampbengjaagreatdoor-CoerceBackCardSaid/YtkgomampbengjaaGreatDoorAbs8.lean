/- The abstract operations (4): memory. -/
import Derived.Test.YtkgomampbengjaaGreatDoorAbs7
set_option linter.unusedVariables false
set_option linter.unusedSimpArgs false
namespace Go.Abs

section
variable {P : Program} {get : Nat → AV} {m : Hp} {n : Nat}

theorem World.mk_heap (w : World) (h : Heap) : ({ w with heap := h } : World).heap = h := rfl

theorem sem_load {o : Oper} {T : TypeId} {ag : Bool} {sz : Nat} {x : MX} {ox : Operand} (ho : o.op = .load T ox) (hT : tyA P T = some (ag, sz)) (hx : chkX x ox = true) {K : AV → List Nat → Prop}
    (hK : match X get x with
    | .c (.d (.rp cs off)) => ldD ag sz cs off fun v => K v []
    | .c (.ptr b off) => match m b with
      | .box cs => ldC ag sz cs off fun v => K v [b]
      | _ => False
    | .c (.ept s b i off) => match m b with
      | .arr s' es => s = s' ∧ (match es[i]? with | some e => ldC ag sz e off fun v => K v [b] | none => False)
      | _ => False
    | _ => False) : ∃ v rd, OpSem P o get m rd [] v ∧ K v rd := by
  have base : ∀ (rd : List Nat) (v : AV) (H : ∀ m' : Hp, (∀ b, b ∈ rd → m' b = m b) → ∀ (h : PH) (ρ : RM) (w : World) (p : Value), HRel h ρ m' w.heap → RepV h ρ (X get x) p →
      ∃ B off vC, p = .pointer (some ⟨B, off, none⟩) ∧ Runs P (loadVar T ⟨B, off, none⟩) w vC w ∧ RepV h ρ v vC), OpSem P o get m rd [] v := by
    intro rd v H
    refine OpSem.of_pure fun m' h1 ph ρ w a hr hg => ?_
    have r1 := chkX_ok hx (ph := ph) (ρ := ρ) (get := get) (a := a) fun k hk => hg k (by rw [ho]; simp [Op.operands, hk])
    obtain ⟨B, off, vC, e, hrun, rv⟩ := H m' h1 ph ρ w _ hr r1
    refine ⟨vC, ?_, rv⟩
    unfold execOp; rw [ho]
    refine Runs.bind (a := vC) ?_ (Runs.pure _)
    show Runs P (Instr.loadAt T (a.eval ox)) w vC w
    rw [e]
    exact (Runs.pure (⟨B, off, none⟩ : Addr)).bind hrun
  split at hK
  · rename_i cs off ex
    obtain ⟨v, kv, H⟩ := ldD_ok hT hK
    refine ⟨v, [], base [] v fun m' h1 ph ρ w p hr rp => ?_, kv⟩
    rw [ex] at rp
    simp only [RepV, RepC, RepD] at rp
    obtain ⟨B, o', e, rl⟩ := rp
    obtain ⟨vC, h2, h3⟩ := H (ρ := ρ) hr rl
    exact ⟨B, _, vC, e, h2, h3⟩
  · rename_i b off ex
    split at hK
    · rename_i cs eb
      obtain ⟨v, kv, H⟩ := ldC_ok hT hK
      refine ⟨v, [b], base [b] v fun m' h1 ph ρ w p hr rp => ?_, kv⟩
      rw [ex] at rp
      simp only [RepV, RepC] at rp
      obtain ⟨q, hq, e⟩ := rp
      have ho := hr.own b q hq
      rw [h1 b (by simp), eb] at ho
      obtain ⟨vs, U, g1, g2, g3⟩ := ho
      obtain ⟨vC, h2, h3⟩ := H (o := 0) g1 (by simpa using g3)
      exact ⟨q.1, off, vC, e, by simpa using h2, h3⟩
    · exact hK.elim
  · rename_i s b i off ex
    split at hK
    · rename_i s' es eb
      obtain ⟨es', hK⟩ := hK
      subst es'
      split at hK
      · rename_i e he
        obtain ⟨v, kv, H⟩ := ldC_ok hT hK
        refine ⟨v, [b], base [b] v fun m' h1 ph ρ w p hr rp => ?_, kv⟩
        rw [ex] at rp
        simp only [RepV, RepC] at rp
        obtain ⟨q, hq, e⟩ := rp
        have ho := hr.own b q hq
        rw [h1 b (by simp), eb] at ho
        rcases ho with ho | ⟨vs, U, g1, g2, g3, g5, g4⟩
        · rw [ho.2] at he; simp at he
        · have := g4.get he
          obtain ⟨vC, h2, h3⟩ := H (o := i * s) g1 this.2
          exact ⟨q.1, _, vC, e, h2, h3⟩
      · exact hK.elim
    · exact hK.elim
  · exact hK.elim

theorem sem_box {o : Oper} {T : TypeId} {x : MX} {ox : Operand} (ho : o.op = .box T ox) (hx : chkX x ox = true) {ds : List D} (e : cellsD (X get x) = some ds) : OpSem P o get m [] [] (.c (.d (.rp ds 0))) := by
  refine OpSem.of_value fun m' h1 h2 ph ρ w a hr hg => ?_
  have r1 := chkX_ok hx (ph := ph) (ρ := ρ) (get := get) (a := a) fun k hk => hg k (by rw [ho]; simp [Op.operands, hk])
  obtain ⟨vs, e1, e2, e3⟩ := cellsD_ok r1 e
  obtain ⟨H, S⟩ := hr.pushP (.cells vs.toArray T)
  refine ⟨_, ρ, { w with heap := w.heap.push (.cells vs.toArray T) }, .pointer (some ⟨w.heap.size, 0, none⟩), ?_, S, H, Same.refl w, ?_⟩
  · unfold execOp; rw [ho]
    refine Runs.bind (a := .pointer (some ⟨w.heap.size, 0, none⟩)) ?_ (Runs.pure _)
    show Runs P (Instr.box T (a.eval ox)) w _ _
    unfold Instr.box newVar newRow
    rw [e1]
    exact ((Runs.newObj _).bind (Runs.pure _)).bind (Runs.pure _)
  · simp only [RepV, RepC, RepD]
    refine ⟨w.heap.size, 0, rfl, ?_⟩
    have : hcells (upd ph w.heap.size (some (.cells vs.toArray T))) w.heap.size = vs := by simp [hcells, upd_same]
    rw [this]
    exact RepL.mono' S.hle e3

theorem sem_boxM {o : Oper} {T : TypeId} {x : MX} {ox : Operand} (ho : o.op = .box T ox) (hx : chkX x ox = true) {cs : List AC} (e : cellsC (X get x) = some cs) (hn : m n = .non) :
    OpSem P o get m [] [(n, .box cs)] (.c (.ptr n 0)) := by
  refine OpSem.of_value fun m' h1 h2 ph ρ w a hr hg => ?_
  have r1 := chkX_ok hx (ph := ph) (ρ := ρ) (get := get) (a := a) fun k hk => hg k (by rw [ho]; simp [Op.operands, hk])
  obtain ⟨vs, e1, e2, e3⟩ := cellsC_ok r1 e
  have hn' : m' n = .non := (h2 (n, .box cs) (by simp)).trans hn
  obtain ⟨H, S⟩ := hr.pushO (.cells vs.toArray T) hn' vs.length (blk := .box cs) (by simp)
    ⟨vs, T, push_get_size _ _, e2, RepCL.mono (PH.le_refl ph) (rle_upd ((hr.dom n).1 hn')) _ _ e3⟩
  refine ⟨_, _, { w with heap := w.heap.push (.cells vs.toArray T) }, .pointer (some ⟨w.heap.size, 0, none⟩), ?_, S, H, Same.refl w, ?_⟩
  · unfold execOp; rw [ho]
    refine Runs.bind (a := .pointer (some ⟨w.heap.size, 0, none⟩)) ?_ (Runs.pure _)
    show Runs P (Instr.box T (a.eval ox)) w _ _
    unfold Instr.box newVar newRow
    rw [e1]
    exact ((Runs.newObj _).bind (Runs.pure _)).bind (Runs.pure _)
  · simp only [RepV, RepC]
    exact ⟨_, upd_same _ _ _, rfl⟩

theorem sem_alloc {o : Oper} {T : TypeId} {i : TypeInfo} {z : List D} (ho : o.op = .alloc T) (hi : P.info? T = some i) (hz : i.zero.isSome = true) (hc : constDs z (zeroOf i) = true) (hn : m n = .non) :
    OpSem P o get m [] [(n, .box (z.map .d))] (.c (.ptr n 0)) := by
  refine OpSem.of_value fun m' h1 h2 ph ρ w a hr hg => ?_
  obtain ⟨zv, ez⟩ := Option.isSome_iff_exists.1 hz
  have e0 : zeroOf i = zv.cells.toList := by simp [zeroOf, ez]
  obtain ⟨c1, c2⟩ := constDs_ok hc
  have hn' : m' n = .non := (h2 (n, .box (z.map .d)) (by simp)).trans hn
  obtain ⟨H, S⟩ := hr.pushO (.cells zv.cells T) hn' zv.cells.size (blk := .box (z.map .d)) (by simp)
    ⟨zv.cells.toList, T, by simp, by rw [← e0]; simpa using c1, RepCL.of_D (by rw [← e0]; exact c2 _)⟩
  refine ⟨_, _, { w with heap := w.heap.push (.cells zv.cells T) }, .pointer (some ⟨w.heap.size, 0, none⟩), ?_, S, H, Same.refl w, ?_⟩
  · unfold execOp; rw [ho]
    refine Runs.bind (a := .pointer (some ⟨w.heap.size, 0, none⟩)) ?_ (Runs.pure _)
    show Runs P (Instr.alloc T true (.tuple #[])) w _ _
    unfold Instr.alloc newVar newRow
    refine (Runs.zeroValue hi ez).bind ?_
    exact ((Runs.newObj _).bind (Runs.pure _)).bind (Runs.pure _)
  · simp only [RepV, RepC]
    exact ⟨_, upd_same _ _ _, rfl⟩

theorem splice_get {α : Type} : ∀ (vs cs : List α) (o j : Nat), o + vs.length ≤ cs.length → (splice cs o vs)[j]? = if o ≤ j ∧ j < o + vs.length then vs[j - o]? else cs[j]?
  | [], cs, o, j, h => by simp only [splice, List.length_nil]; rw [if_neg (by omega)]
  | v :: vs, cs, o, j, h => by
    simp only [List.length_cons] at h
    simp only [splice, List.length_cons]
    rw [splice_get vs (cs.set o v) (o + 1) j (by simp; omega)]
    by_cases hj : j = o
    · subst hj
      rw [if_neg (by omega), if_pos (by omega)]
      simp [List.getElem?_set]
      omega
    · by_cases h1 : o + 1 ≤ j ∧ j < o + 1 + vs.length
      · rw [if_pos h1, if_pos (by omega)]
        rw [show j - o = (j - (o + 1)) + 1 from by omega, List.getElem?_cons_succ]
      · rw [if_neg h1, if_neg (by omega), List.getElem?_set_ne (Ne.symm hj)]

theorem splice_eq {α : Type} (cs vs : List α) (o : Nat) (h : o + vs.length ≤ cs.length) : splice cs o vs = cs.take o ++ vs ++ cs.drop (o + vs.length) := by
  apply List.ext_getElem?
  intro j
  rw [splice_get vs cs o j h]
  by_cases h1 : j < o
  · rw [if_neg (by omega), List.append_assoc, List.getElem?_append_left (by simp; omega), List.getElem?_take, if_pos h1]
  · by_cases h2 : j < o + vs.length
    · rw [if_pos ⟨by omega, h2⟩, List.append_assoc, List.getElem?_append_right (by simp; omega), List.getElem?_append_left (by simp; omega)]
      congr 1
      simp; omega
    · rw [if_neg (by omega), List.getElem?_append_right (by simp; omega), List.getElem?_drop]
      congr 1
      simp; omega

theorem put_eq {α : Type} (cs l : List α) (o : Nat) (h : o + l.length ≤ cs.length) : put cs o l = splice cs o l := by
  unfold put
  split
  · rename_i hh
    obtain ⟨h1, h2⟩ := hh
    subst h1
    rw [splice_eq cs l 0 h]
    simp [h2]
  · rfl

theorem put_length {α : Type} (cs l : List α) (o : Nat) (h : o + l.length ≤ cs.length) : (put cs o l).length = cs.length := by
  rw [put_eq cs l o h, splice_length]

theorem RepCL.splice {ph : PH} {ρ : RM} : ∀ {l : List AC} {vs : List Value} {cs : List AC} {us : List Value} {o : Nat}, RepCL ph ρ cs us → RepCL ph ρ l vs → vs.length = l.length →
    RepCL ph ρ (splice cs o l) (splice us o vs)
  | [], [], _, _, _, r, _, _ => by simpa [Abs.splice] using r
  | [], _ :: _, _, _, _, _, _, e => by simp at e
  | _ :: _, [], _, _, _, _, r, _ => by simp [RepCL] at r
  | c :: l, v :: vs, cs, us, o, r, r', e => by
    simp only [RepCL] at r'
    simp only [Abs.splice]
    exact RepCL.splice (r.set r'.1.1 r'.1.2) r'.2 (by simpa using e)

/-- cells of a row are written -/
theorem runs_store {T : TypeId} {i : TypeInfo} {B o : Nat} {us : List Value} {U : TypeId} {w : World} {v : Value} {vs : List Value} (hT : P.info? T = some i) (hv : v.cells = vs.toArray) (hl : vs.length = i.size)
    (hB : w.heap[B]? = some (.cells us.toArray U (0, 0))) (hle : o + vs.length ≤ us.length) (h1 : ∀ x, x ∈ vs → x.one1 = true) (h0 : vs ≠ []) :
    Runs P (storeVar T ⟨B, o, none⟩ v) w () (World.cellsAt w B (Abs.splice us o vs) U) := by
  unfold storeVar
  refine (Runs.sizeOf hT).bind ?_
  rw [hv]
  simp only [List.size_toArray]
  rw [if_neg (by simp [hl])]
  have := Runs.storeCells (P := P) o vs 0 us w hB (by simpa using hle) h1 h0
  simpa using this

theorem sem_store {o : Oper} {T : TypeId} {i : TypeInfo} {sz : Nat} {x y : MX} {ox oy : Operand} (ho : o.op = .store T ox oy) (hT : P.info? T = some i) (hs : i.size = sz) (h0 : 0 < sz) (hx : chkX x ox = true) (hy : chkX y oy = true)
    {K : List (Nat × Blk) → Prop} (hK : match X get x, cellsC (X get y) with
    | .c (.ptr b off), some l => match m b with
      | .box cs => l.length = sz ∧ off + sz ≤ cs.length ∧ K [(b, .box (put cs off l))]
      | _ => False
    | .c (.ept s b i off), some l => match m b with
      | .arr s' es => s = s' ∧ l.length = sz ∧ off + sz ≤ s ∧ (match es[i]? with | some e => K [(b, .arr s (es.set i (put e off l)))] | none => False)
      | _ => False
    | _, _ => False) : ∃ wr, OpSem P o get m [] wr (.c (.d .any)) ∧ K wr := by
  have base : ∀ (b : Nat) (blk : Blk) (hl : blk ≠ .non) (H : ∀ m' : Hp, m' b = m b → ∀ (h : PH) (ρ : RM) (w : World) (p v : Value), HRel h ρ m' w.heap → RepV h ρ (X get x) p → RepV h ρ (X get y) v →
      ∃ q off us U vs, ρ b = some q ∧ Real (m' b) q ∧ p = .pointer (some ⟨q.1, off, none⟩) ∧ w.heap[q.1]? = some (.cells us.toArray U (0, 0)) ∧ v.cells = vs.toArray ∧ vs.length = sz ∧ off + sz ≤ us.length ∧ (∀ x, x ∈ vs → x.one1 = true) ∧
        BlkRep h ρ q blk (w.heap.setIfInBounds q.1 (.cells (Abs.splice us off vs).toArray U (0, 0)))), OpSem P o get m [] [(b, blk)] (.c (.d .any)) := by
    intro b blk hl H
    refine OpSem.of_skip fun m' h1 h2 ph ρ w a hr hg => ?_
    have r1 := chkX_ok hx (ph := ph) (ρ := ρ) (get := get) (a := a) fun k hk => hg k (by rw [ho]; simp [Op.operands, hk])
    have r2 := chkX_ok hy (ph := ph) (ρ := ρ) (get := get) (a := a) fun k hk => hg k (by rw [ho]; simp [Op.operands, hk])
    obtain ⟨q, off, us, U, vs, e1, e2, e3, e4, e5, e6, e7, e8, e9⟩ := H m' (h2 (b, blk) (by simp)) ph ρ w _ _ hr r1 r2
    obtain ⟨K, S⟩ := hr.set (.cells (Abs.splice us off vs).toArray U (0, 0)) e1 e2 hl e9
    refine ⟨ph, ρ, World.cellsAt w q.1 (Abs.splice us off vs) U, ?_, S, K, Same.refl w⟩
    unfold execOp; rw [ho]
    refine Runs.bind (a := ()) ?_ (Runs.pure _)
    show Runs P (Instr.storeAt T (a.eval ox) (a.eval oy)) w () _
    rw [e3]
    refine (Runs.pure (⟨q.1, off, none⟩ : Addr)).bind ?_
    exact runs_store hT e5 (by rw [e6, hs]) e4 (by omega) e8 (by intro h; rw [h] at e6; simp at e6; omega)
  split at hK
  · rename_i b off l ex ey
    split at hK
    · rename_i cs eb
      obtain ⟨k1, k2, kk⟩ := hK
      refine ⟨_, base b (.box (put cs off l)) (by simp) fun m' h1 ph ρ w p v hr rp rv => ?_, kk⟩
      rw [ex] at rp
      simp only [RepV, RepC] at rp
      obtain ⟨q, hq, e⟩ := rp
      obtain ⟨vs, c1, c2, c3⟩ := cellsC_ok rv ey
      have how := hr.own b q hq
      rw [h1, eb] at how
      have hreal : Real (m' b) q := by rw [h1, eb]; trivial
      have hlt := hr.real_lt hq hreal
      obtain ⟨us, U, g1, g2, g3⟩ := how
      refine ⟨q, off, us, U, vs, hq, hreal, e, g1, c1, by omega, by omega, RepCL.one c3 c2, _, U, set_get_same _ _ hlt, ?_, ?_⟩
      · rw [splice_length, put_length _ _ _ (by omega)]; exact g2
      · rw [put_eq _ _ _ (by omega)]; exact RepCL.splice g3 c3 c2
    · exact hK.elim
  · rename_i s b i off l ex ey
    split at hK
    · rename_i s' es eb
      obtain ⟨k0, k1, k2, hK⟩ := hK
      subst k0
      split at hK
      · rename_i e he
        refine ⟨_, base b (.arr s (es.set i (put e off l))) (by simp) fun m' h1 ph ρ w p v hr rp rv => ?_, hK⟩
        rw [ex] at rp
        simp only [RepV, RepC] at rp
        obtain ⟨q, hq, e'⟩ := rp
        obtain ⟨vs, c1, c2, c3⟩ := cellsC_ok rv ey
        have how := hr.own b q hq
        rw [h1, eb] at how
        rcases how with how | ⟨us, U, g1, g2, g3, g5, g4⟩
        · rw [how.2] at he; simp at he
        have hil : i < es.length := by
          rcases Nat.lt_or_ge i es.length with h | h
          · exact h
          · rw [List.getElem?_eq_none h] at he; cases he
        have hreal : Real (m' b) q := by rw [h1, eb]; show 0 < q.2; omega
        have hlt := hr.real_lt hq hreal
        have hge := g4.get he
        have htot : (i + 1) * s ≤ q.2 * s := Nat.mul_le_mul_right s (by omega)
        have e1 : (i + 1) * s = i * s + s := by rw [Nat.add_mul, Nat.one_mul]
        refine ⟨q, i * s + off, us, U, vs, hq, hreal, e', g1, c1, by omega, by omega, RepCL.one c3 c2, .inr ⟨_, U, set_get_same _ _ hlt, ?_, ?_, ?_, ?_⟩⟩
        · rw [splice_length]; exact g2
        · simpa using g3
        · simpa using g5
        · -- the row of elements with one turned
          have key : ∀ (es : List (List AC)) (us : List Value) (i : Nat) (e : List AC), RepCE ph ρ s es us → es[i]? = some e → RepCE ph ρ s (es.set i (put e off l)) (Abs.splice us (i * s + off) vs) := by
            intro es
            induction es with
            | nil => intro us i e _ h; simp at h
            | cons f es ih =>
              intro us i e r h
              simp only [RepCE] at r
              cases i with
              | zero =>
                simp at h; subst h
                simp only [List.set_cons_zero, RepCE]
                have hle := r.2.1.length
                have hpe : off + l.length ≤ f.length := by omega
                refine ⟨by rw [put_length _ _ _ hpe]; exact r.1, ?_, ?_⟩
                · rw [put_eq _ _ _ hpe]
                  have := RepCL.splice (o := off) r.2.1 c3 c2
                  simpa using this
                · have : (Abs.splice us (0 * s + off) vs).drop s = us.drop s := by
                    apply List.ext_getElem?
                    intro j
                    rw [List.getElem?_drop, List.getElem?_drop, splice_get _ _ _ _ (by omega), if_neg (by omega)]
                  rw [this]; exact r.2.2
              | succ i =>
                simp only [List.getElem?_cons_succ] at h
                simp only [List.set_cons_succ, RepCE]
                have hle := r.2.1.length
                have htot := r.2.2.total
                simp only [List.length_drop] at htot
                have hil : i < es.length := by
                  rcases Nat.lt_or_ge i es.length with h' | h'
                  · exact h'
                  · rw [List.getElem?_eq_none h'] at h; cases h
                have hm : (i + 1) * s ≤ es.length * s := Nat.mul_le_mul_right s (by omega)
                have e1 : (i + 1) * s = i * s + s := by rw [Nat.add_mul, Nat.one_mul]
                have hin : (i + 1) * s + off + vs.length ≤ us.length := by omega
                refine ⟨r.1, ?_, ?_⟩
                · have h2 := r.2.1.take
                  have : (Abs.splice us ((i + 1) * s + off) vs).take f.length = us.take f.length := by
                    apply List.ext_getElem?
                    intro j
                    rw [List.getElem?_take, List.getElem?_take]
                    by_cases hj : j < f.length
                    · rw [if_pos hj, if_pos hj, splice_get _ _ _ _ hin, if_neg (by omega)]
                    · rw [if_neg hj, if_neg hj]
                  rw [← this] at h2
                  have h3 := h2.more ((Abs.splice us ((i + 1) * s + off) vs).drop f.length)
                  rwa [List.take_append_drop] at h3
                · have : (Abs.splice us ((i + 1) * s + off) vs).drop s = Abs.splice (us.drop s) (i * s + off) vs := by
                    apply List.ext_getElem?
                    intro j
                    rw [List.getElem?_drop, splice_get _ _ _ _ hin, splice_get _ _ _ _ (by simp; omega), List.getElem?_drop]
                    by_cases hj : i * s + off ≤ j ∧ j < i * s + off + vs.length
                    · rw [if_pos (by omega), if_pos hj]; congr 1; omega
                    · rw [if_neg (by omega), if_neg hj]
                  rw [this]
                  exact ih _ _ _ r.2.2 h
          exact key es us i e g4 he
      · exact hK.elim
    · exact hK.elim
  · exact hK.elim

end
end Go.Abs
