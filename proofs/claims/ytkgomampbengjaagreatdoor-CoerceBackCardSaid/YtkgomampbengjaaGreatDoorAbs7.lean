/- The abstract operations (3): what they do is what the program's own operations do. -/
import Derived.Test.YtkgomampbengjaaGreatDoorAbs6
set_option linter.unusedVariables false
set_option linter.unusedSimpArgs false
namespace Go.Abs

section
variable {P : Program} {get : Nat → AV} {m : Hp} {n : Nat}

theorem beq_op {a b : BinOp} (h : decide (a = b) = true) : a = b := by simpa using h

/-- a value that a run of some step gives becomes the operation's -/
theorem val_of {o : Oper} {a : Act} {w w' : World} {x : Sem Value} {v : Value} (e : execOp a.eval o = (do pure (.value (← x)))) (h : Runs P x w v w') : Runs P (execOp a.eval o) w (.value v) w' := by
  rw [e]; exact h.bind (Runs.pure _)

theorem sem_mv {o : Oper} {x : MX} {ox : Operand} (ho : o.op = .move ox ∨ o.op = .assign ox) (h : chkX x ox = true) : OpSem P o get m [] [] (X get x) := by
  refine OpSem.of_pure fun m' h1 ph ρ w a hr hg => ⟨a.eval ox, ?_, chkX_ok h fun k hk => hg k ?_⟩
  · rcases ho with ho | ho <;> (unfold execOp; rw [ho]; exact Runs.pure _)
  · rcases ho with ho | ho <;> (rw [ho]; simp [Op.operands, hk])

theorem sem_pick {o : Oper} {c x y : MX} {oc ox oy : Operand} (ho : o.op = .pick oc ox oy) (hc : chkX c oc = true) (hx : chkX x ox = true) (hy : chkX y oy = true) {t : Bool} (et : X get c = .c (.d (.bool t))) :
    OpSem P o get m [] [] (if t then X get x else X get y) := by
  refine OpSem.of_pure fun m' h1 ph ρ w a hr hg => ⟨if t then a.eval ox else a.eval oy, ?_, ?_⟩
  · have rc := chkX_ok hc (ph := ph) (ρ := ρ) (get := get) (a := a) fun k hk => hg k (by rw [ho]; simp [Op.operands, hk])
    rw [et] at rc
    simp only [RepV, RepC, RepD] at rc
    unfold execOp; rw [ho]
    simp only [rc, asBool]
    refine Runs.bind (a := t) (Runs.pure _) ?_
    cases t <;> exact Runs.pure _
  · cases t
    · exact chkX_ok hy fun k hk => hg k (by rw [ho]; simp [Op.operands, hk])
    · exact chkX_ok hx fun k hk => hg k (by rw [ho]; simp [Op.operands, hk])

theorem sem_bin {o : Oper} {op : BinOp} {T U : TypeId} {x y : MX} {ox oy : Operand} (ho : o.op = .binOp op T ox oy U) (hx : chkX x ox = true) (hy : chkX y oy = true) {d : D}
    (H : ∀ (ph : PH) (ρ : RM) (a b : Value) (w : World), RepV ph ρ (X get x) a → RepV ph ρ (X get y) b → ¬ (a = .nilIface ∧ b = .nilIface) ∧ (∀ c d, ¬ (a = .agg c ∧ b = .agg d)) ∧ ∃ v, Runs P (binOp op T a b) w v w ∧ RepD ph d v) :
    OpSem P o get m [] [] (.c (.d d)) := by
  refine OpSem.of_pure fun m' h1 ph ρ w a hr hg => ?_
  have r1 := chkX_ok hx (ph := ph) (ρ := ρ) (get := get) (a := a) fun k hk => hg k (by rw [ho]; simp [Op.operands, hk])
  have r2 := chkX_ok hy (ph := ph) (ρ := ρ) (get := get) (a := a) fun k hk => hg k (by rw [ho]; simp [Op.operands, hk])
  obtain ⟨g1, g2, v, hv, rv⟩ := H ph ρ _ _ w r1 r2
  refine ⟨v, ?_, by simpa only [RepV, RepC] using rv⟩
  unfold execOp; rw [ho]
  refine Runs.bind (a := v) ?_ (Runs.pure _)
  exact (eqGuard_runs op T ox oy _ _ g1 g2).bind hv

theorem sem_un {o : Oper} {op : UnOp} {T : TypeId} {x : MX} {ox : Operand} (ho : o.op = .unOp op T ox) (hx : chkX x ox = true) {d : D}
    (H : ∀ (ph : PH) (ρ : RM) (a : Value) (w : World), RepV ph ρ (X get x) a → ∃ v, Runs P (Op.unary op a) w v w ∧ RepD ph d v) : OpSem P o get m [] [] (.c (.d d)) := by
  refine OpSem.of_pure fun m' h1 ph ρ w a hr hg => ?_
  have r1 := chkX_ok hx (ph := ph) (ρ := ρ) (get := get) (a := a) fun k hk => hg k (by rw [ho]; simp [Op.operands, hk])
  obtain ⟨v, hv, rv⟩ := H ph ρ _ w r1
  refine ⟨v, ?_, by simpa only [RepV, RepC] using rv⟩
  unfold execOp; rw [ho]
  exact hv.bind (Runs.pure _)

theorem Runs.convert_int {T U : TypeId} {d : TypeDesc} {k k' : IntKind} {j : Int} {w : World} (hT : P.underlying T = some d) (hU : P.underlying U = some (.int k)) :
    Runs P (convert T U (.int k' j)) w (.int k (k.wrap j)) w := by
  unfold convert
  refine (Runs.underlying hT).bind ((Runs.underlying hU).bind ?_)
  exact Runs.pure _

/-! ### memory -/

theorem cells_repr {ph : PH} {ρ : RM} {m : Hp} {w : World} (H : HRel ph ρ m w.heap) {B o : Nat} {cs : List D} (r : RepL ph cs ((hcells ph B).drop o)) {j : Nat} {x : D} (e : cs[j]? = some x) :
    ∃ v, w.cell? ⟨B, o + j, none⟩ = some v ∧ v.one1 = true ∧ RepD ph x v := by
  obtain ⟨v, h1, h2, h3⟩ := r.get e
  refine ⟨v, ?_, h2, h3⟩
  rw [List.getElem?_drop] at h1
  unfold hcells at h1
  cases hB : ph B with
  | none => rw [hB] at h1; simp at h1
  | some ob =>
    rw [hB] at h1
    cases ob with
    | cells c T fr =>
      rw [cell_of (H.pers B _ hB)]
      simpa using h1
    | _ => simp at h1

theorem take_get {α : Type} {l : List α} {n j : Nat} {v : α} (h : (l.take n)[j]? = some v) : l[j]? = some v := by
  rw [List.getElem?_take] at h
  split at h
  · exact h
  · cases h

theorem runs_loadVar_agg {T : TypeId} {B o sz : Nat} {w : World} {vs : List Value} (hT : tyA P T = some (true, sz)) (hl : vs.length = sz) (h : ∀ j v, vs[j]? = some v → w.cell? ⟨B, o + j, none⟩ = some v) :
    Runs P (loadVar T ⟨B, o, none⟩) w (.agg vs.toArray) w := by
  obtain ⟨d, i, h1, h2, h3, h4⟩ := tyA_ok hT
  unfold loadVar
  refine (Runs.isAgg h1).bind ?_
  rw [h3, if_pos rfl]
  refine (Runs.sizeOf h2).bind ?_
  rw [h4, ← hl]
  exact (Runs.loadCells h).bind (Runs.pure _)

theorem runs_loadVar_one {T : TypeId} {B o sz : Nat} {w : World} {v : Value} (hT : tyA P T = some (false, sz)) (h : w.cell? ⟨B, o, none⟩ = some v) : Runs P (loadVar T ⟨B, o, none⟩) w v w := by
  obtain ⟨d, i, h1, h2, h3, h4⟩ := tyA_ok hT
  unfold loadVar
  refine (Runs.isAgg h1).bind ?_
  rw [h3]
  exact Runs.load h

theorem cut_eq {α : Type} (cs : List α) (off sz : Nat) (h : off + sz ≤ cs.length) : cut cs off sz = (cs.drop off).take sz := by
  unfold cut
  split
  · rename_i hh; obtain ⟨h1, h2⟩ := hh; subst h1; subst h2; simp
  · rfl

theorem cut_length {α : Type} (cs : List α) (off sz : Nat) (h : off + sz ≤ cs.length) : (cut cs off sz).length = sz := by
  rw [cut_eq cs off sz h]; simp; omega

/-- cells of kept memory, read as a value -/
theorem ldD_ok {T : TypeId} {ag : Bool} {sz : Nat} {cs : List D} {off : Nat} {K : AV → Prop} (hT : tyA P T = some (ag, sz)) (hK : ldD ag sz cs off K) :
    ∃ v, K v ∧ ∀ {ph : PH} {ρ : RM} {m : Hp} {w : World} (H : HRel ph ρ m w.heap) {B o : Nat} (r : RepL ph cs ((hcells ph B).drop o)), ∃ vC, Runs P (loadVar T ⟨B, o + off, none⟩) w vC w ∧ RepV ph ρ v vC := by
  unfold ldD at hK
  cases ag with
  | true =>
    obtain ⟨h1, h2⟩ := hK
    refine ⟨_, h2, fun {ph ρ m w} H {B o} r => ?_⟩
    have r' : RepL ph (cut cs off sz) (((hcells ph B).drop o).drop off) := by
      rw [cut_eq cs off sz h1]; exact (r.drop off).takeDs sz
    have hlen := cut_length cs off sz h1
    have hle := r'.length
    refine ⟨.agg ((((hcells ph B).drop o).drop off).take sz).toArray, runs_loadVar_agg hT (by simp [hlen] at hle ⊢; omega) ?_, ?_⟩
    · intro j v hj
      have hj' := take_get hj
      have hjl : j < (cut cs off sz).length := by
        rw [hlen]
        rcases Nat.lt_or_ge j sz with h | h
        · exact h
        · rw [List.getElem?_eq_none (by simp; omega)] at hj; cases hj
      obtain ⟨u, e1, e2, e3⟩ := cells_repr (w := w) H (B := B) (o := o + off) (cs := cut cs off sz) (by rw [← List.drop_drop]; exact r') (j := j) (List.getElem?_eq_getElem hjl)
      obtain ⟨u', e1', e2', e3'⟩ := r'.get (List.getElem?_eq_getElem hjl)
      rw [hj'] at e1'
      cases e1'
      rw [e1]
      have := e1
      -- the same cell
      unfold hcells at hj'
      cases hB : ph B with
      | none => rw [hB] at hj'; simp at hj'
      | some ob =>
        rw [hB] at hj'
        cases ob with
        | cells c T' fr =>
          rw [cell_of (H.pers B _ hB)] at this
          simp only [List.getElem?_drop, Array.getElem?_toList] at hj'
          rw [show o + (off + j) = o + off + j from by omega] at hj'
          rw [hj'] at this; exact this.symm
        | _ => simp at hj'
    · simp only [RepV]
      refine ⟨_, rfl, by simp [hlen] at hle ⊢; omega, RepCL.of_D ?_⟩
      have := r'.take
      rw [hlen] at this
      exact this
  | false =>
    simp only at hK
    split at hK
    · rename_i c hc
      refine ⟨_, hK, fun {ph ρ m w} H {B o} r => ?_⟩
      obtain ⟨v, e1, e2, e3⟩ := cells_repr (w := w) H r hc
      exact ⟨v, runs_loadVar_one hT e1, by simpa only [RepV, RepC] using e3⟩
    · exact hK.elim

/-- cells of a row, read as a value -/
theorem ldC_ok {T : TypeId} {ag : Bool} {sz : Nat} {cs : List AC} {off : Nat} {K : AV → Prop} (hT : tyA P T = some (ag, sz)) (hK : ldC ag sz cs off K) :
    ∃ v, K v ∧ ∀ {ph : PH} {ρ : RM} {w : World} {B o : Nat} {vs : List Value} {U : TypeId} {fr : Nat × Nat} (hB : w.heap[B]? = some (.cells vs.toArray U fr)) (r : RepCL ph ρ cs (vs.drop o)),
      ∃ vC, Runs P (loadVar T ⟨B, o + off, none⟩) w vC w ∧ RepV ph ρ v vC := by
  unfold ldC at hK
  cases ag with
  | true =>
    obtain ⟨h1, h2⟩ := hK
    refine ⟨_, h2, fun {ph ρ w B o vs U fr} hB r => ?_⟩
    have r' : RepCL ph ρ (cut cs off sz) ((vs.drop o).drop off) := by
      rw [cut_eq cs off sz h1]; exact (r.drop off).takeDs sz
    have hlen := cut_length cs off sz h1
    have hle := r'.length
    refine ⟨.agg (((vs.drop o).drop off).take sz).toArray, runs_loadVar_agg hT (by simp [hlen] at hle ⊢; omega) ?_, ?_⟩
    · intro j v hj
      have hj' := take_get hj
      rw [cell_of hB]
      simp only [List.getElem?_drop] at hj'
      rw [show o + off + j = o + (off + j) from by omega]
      simpa using hj'
    · simp only [RepV]
      refine ⟨_, rfl, by simp [hlen] at hle ⊢; omega, ?_⟩
      have := r'.take
      rw [hlen] at this
      exact this
  | false =>
    simp only at hK
    split at hK
    · rename_i c hc
      refine ⟨_, hK, fun {ph ρ w B o vs U fr} hB r => ?_⟩
      obtain ⟨v, e1, e2, e3⟩ := r.get hc
      refine ⟨v, runs_loadVar_one hT ?_, by simpa only [RepV] using e3⟩
      rw [cell_of hB]
      simpa [List.getElem?_drop] using e1
    · exact hK.elim

/-- a part of a value -/
theorem part_ok {T : TypeId} {ag : Bool} {sz : Nat} {cs : List AC} {off : Nat} {K : AV → Prop} (hT : tyA P T = some (ag, sz)) (hK : ldC ag sz cs off K) :
    ∃ v, K v ∧ ∀ {ph : PH} {ρ : RM} {w : World} {vs : List Value} (hl : vs.length = cs.length) (r : RepCL ph ρ cs vs), ∃ vC, Runs P (part T vs.toArray off) w vC w ∧ RepV ph ρ v vC := by
  obtain ⟨d, i, h1, h2, h3, h4⟩ := tyA_ok hT
  unfold ldC at hK
  cases ag with
  | true =>
    obtain ⟨g1, g2⟩ := hK
    refine ⟨_, g2, fun {ph ρ w vs} hl r => ?_⟩
    have r' : RepCL ph ρ (cut cs off sz) (vs.drop off) := by
      rw [cut_eq cs off sz g1]; exact (r.drop off).takeDs sz
    have hlen := cut_length cs off sz g1
    refine ⟨.agg ((vs.drop off).take sz).toArray, ?_, ?_⟩
    · unfold part
      refine (Runs.isAgg h1).bind ?_
      rw [h3]
      refine (Runs.sizeOf h2).bind ?_
      rw [h4]
      have e : vs.toArray.extract off (off + sz) = ((vs.drop off).take sz).toArray := by
        apply Array.ext'
        simp [List.extract_eq_take_drop]
      rw [e]
      exact Runs.pure _
    · simp only [RepV]
      refine ⟨_, rfl, by simp [hlen]; omega, ?_⟩
      have := r'.take
      rw [hlen] at this
      exact this
  | false =>
    simp only at hK
    split at hK
    · rename_i c hc
      refine ⟨_, hK, fun {ph ρ w vs} hl r => ?_⟩
      obtain ⟨v, e1, e2, e3⟩ := r.get hc
      refine ⟨v, ?_, by simpa only [RepV] using e3⟩
      unfold part
      refine (Runs.isAgg h1).bind ?_
      rw [h3]
      simp only [Bool.false_eq_true, if_false]
      rw [show vs.toArray[off]? = some v from by simpa using e1]
      exact Runs.pure _
    · exact hK.elim

end
end Go.Abs
