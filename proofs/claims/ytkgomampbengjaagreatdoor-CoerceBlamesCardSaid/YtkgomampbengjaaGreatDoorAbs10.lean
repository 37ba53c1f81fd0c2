/- The abstract operations (6): literals of slices, addresses, slicing. -/
import Derived.Test.YtkgomampbengjaaGreatDoorAbs9
set_option linter.unusedVariables false
set_option linter.unusedSimpArgs false
namespace Go.Abs

section
variable {P : Program} {get : Nat → AV} {m : Hp} {n : Nat}

/-- the rows of a literal -/
theorem row_fill {ph : PH} {ρ : RM} {a : Act} {s : Nat} : ∀ {xs : List MX} {os : List (Nat × Operand)} {es : List (List AC)} {k : Nat} {us : List Value},
    chkRow xs k os = true → (∀ j, Operand.tmp j ∈ os.map (·.2) → RepV ph ρ (get j) (a.tmps.getD j undef)) → rowC get s xs = some es → us.length = (k + xs.length) * s →
    ∃ vs : List Value, Instr.fill (fun i => some (i * s, s)) us.toArray (os.map fun x => (x.1, a.eval x.2)) = some (us.take (k * s) ++ vs).toArray ∧ vs.length = xs.length * s ∧ RepCE ph ρ s es vs ∧ es.length = xs.length
  | [], [], es, k, us, h, hg, he, hl => by
    simp only [rowC] at he; cases he
    refine ⟨[], ?_, by simp, by simp [RepCE], rfl⟩
    simp only [List.map_nil, Instr.fill]
    rw [List.take_of_length_le (by simp at hl; omega)]
    simp
  | [], _ :: _, _, _, _, h, _, _, _ => by simp [chkRow] at h
  | _ :: _, [], _, _, _, h, _, _, _ => by simp [chkRow] at h
  | x :: xs, (i, o) :: os, es, k, us, h, hg, he, hl => by
    simp only [chkRow, Bool.and_eq_true, beq_iff_eq] at h
    obtain ⟨⟨h1, h2⟩, h3⟩ := h
    subst h1
    simp only [rowC] at he
    split at he
    · rename_i l r hc hr
      split at he
      · rename_i hs
        cases he
        have rv := chkX_ok h2 (ph := ph) (ρ := ρ) (get := get) (a := a) fun k hk => hg k (by simp [hk])
        obtain ⟨ws, c1, c2, c3⟩ := cellsC_ok rv hc
        simp only [List.length_cons] at hl
        have e1 : (i + (xs.length + 1)) * s = i * s + s + xs.length * s := by rw [Nat.add_mul, Nat.add_mul, Nat.one_mul]; omega
        have hle : i * s + ws.length ≤ us.length := by omega
        obtain ⟨vs, f1, f2, f3, f4⟩ := row_fill (us := Abs.splice us (i * s) ws) h3 (fun k hk => hg k (by simp at hk ⊢; exact .inr hk)) hr (by
          rw [splice_length, hl]; congr 1; omega)
        refine ⟨ws ++ vs, ?_, ?_, ?_, ?_⟩
        · simp only [List.map_cons, Instr.fill]
          rw [c1]
          simp only [List.size_toArray]
          rw [if_neg (by simp; omega)]
          have := foldl_splice ws us (i * s) 0 (by omega)
          simp only [Nat.add_zero] at this
          rw [this, f1]
          have e2 : (i + 1) * s = i * s + s := by rw [Nat.add_mul, Nat.one_mul]
          rw [e2, splice_eq _ _ _ hle]
          congr 2
          rw [← List.append_assoc]
          congr 1
          rw [List.take_append_of_le_length (by simp; omega)]
          rw [List.take_of_length_le (by simp; omega)]
        · simp only [List.length_append, List.length_cons]; rw [f2, Nat.add_mul, Nat.one_mul]; omega
        · simp only [RepCE]
          refine ⟨hs, c3.more vs, ?_⟩
          rw [List.drop_append_of_le_length (by omega), List.drop_of_length_le (by omega)]
          simpa using f3
        · simp [f4]
      · cases he
    · cases he

theorem rowD_C {s : Nat} : ∀ {xs : List MX} {es : List (List D)}, rowD get s xs = some es → rowC get s xs = some (es.map (·.map .d))
  | [], es, h => by simp only [rowD] at h; cases h; rfl
  | x :: xs, es, h => by
    simp only [rowD] at h
    split at h
    · rename_i l r h1 h2
      split at h
      · rename_i hs
        cases h
        simp only [rowC]
        unfold cellsD at h1
        cases hc : cellsC (X get x) with
        | none => rw [hc] at h1; cases h1
        | some cs =>
          rw [hc] at h1
          have := allD_ok h1
          subst this
          rw [rowD_C h2]
          simp [hs]
      · cases h
    · cases h

theorem runs_buildSlice {T : TypeId} {len : Nat} {os : Array (Nat × Operand)} {e : TypeId} {i : TypeInfo} {s : Nat} {w : World} {a : Act} (hu : P.underlying T = some (.slice e)) (hi : P.info? e = some i) (hs : i.size = s)
    (hz : i.zero.isSome = true) (hlen : len * s ≤ 16777216) :
    ∃ us : List Value, us.length = len * s ∧ ∀ vs : List Value, Instr.fill (fun i => some (i * s, s)) us.toArray (os.toList.map fun x => (x.1, a.eval x.2)) = some vs.toArray →
      Runs P (Instr.buildSlice T len (os.map fun x => (x.1, a.eval x.2))) w (.slice (some ⟨w.heap.size, 0, none⟩) len len) { w with heap := w.heap.push (.cells vs.toArray e) } := by
  obtain ⟨zv, ez⟩ := Option.isSome_iff_exists.1 hz
  have last : ∀ (msg : String) (zs : Array Value) (vs : List Value), Instr.fill (fun i => some (i * s, s)) ((Array.range (len * s)).map (zs[· % zs.size]!)) (os.toList.map fun x => (x.1, a.eval x.2)) = some vs.toArray →
      Runs P (match Instr.fill (fun i => some (i * s, s)) ((Array.range (len * s)).map (zs[· % zs.size]!)) ((os.map fun x => (x.1, a.eval x.2)).toList) with
        | some cells => do
          let r ← newRow e cells
          Pure.pure (Value.slice (some r) len len)
        | _ => stuck msg) w (.slice (some ⟨w.heap.size, 0, none⟩) len len) { w with heap := w.heap.push (.cells vs.toArray e) } := by
    intro msg zs vs hf
    rw [show (os.map fun x => (x.1, a.eval x.2)).toList = os.toList.map fun x => (x.1, a.eval x.2) from by simp]
    rw [hf]
    unfold newRow
    exact ((Runs.newObj _).bind (Runs.pure _)).bind (Runs.pure _)
  by_cases h0 : len * s = 0
  · refine ⟨((Array.range (len * s)).map (fun x => (#[] : Array Value)[x % (#[] : Array Value).size]!)).toList, by simp, fun vs hf => ?_⟩
    unfold Instr.buildSlice
    refine (Runs.underlying hu).bind ((Runs.sizeOf hi).bind ?_)
    rw [hs]
    rw [if_neg (by omega)]
    dsimp only
    rw [if_pos h0]
    refine (Runs.pure _).bind ?_
    rw [Array.toArray_toList] at hf
    exact last _ #[] vs hf
  · refine ⟨((Array.range (len * s)).map (fun x => zv.cells[x % zv.cells.size]!)).toList, by simp, fun vs hf => ?_⟩
    unfold Instr.buildSlice
    refine (Runs.underlying hu).bind ((Runs.sizeOf hi).bind ?_)
    rw [hs]
    rw [if_neg (by omega)]
    dsimp only
    rw [if_neg h0]
    refine (Runs.zeroValue hi ez).bind ((Runs.pure _).bind ?_)
    rw [Array.toArray_toList] at hf
    exact last _ zv.cells vs hf

theorem sl_of {T : TypeId} {i : TypeInfo} (h : slElem P T = some i) : ∃ e, P.underlying T = some (.slice e) ∧ P.info? e = some i := by
  unfold slElem at h
  split at h
  · rename_i e he; exact ⟨e, he, h⟩
  · cases h

theorem sem_buildSl {o : Oper} {T : TypeId} {len : Nat} {os : Array (Nat × Operand)} {s : Nat} {xs : List MX} (ho : o.op = .buildSlice T len os) (hc : chkOp P (.buildSl s xs) (.buildSlice T len os) = true) {es : List (List D)}
    (e : rowD get s xs = some es) : OpSem P o get m [] [] (.c (.d (.sl true s es))) := by
  refine OpSem.of_value fun m' h1 h2 ph ρ w a hr hg => ?_
  have hg' : ∀ k, Operand.tmp k ∈ os.toList.map (·.2) → RepV ph ρ (get k) (a.tmps.getD k undef) := fun k hk => hg k (by rw [ho]; simpa [Op.operands] using hk)
  simp only [chkOp] at hc
  split at hc
  · rename_i i hi
    simp only [Bool.and_eq_true, beq_iff_eq, decide_eq_true_eq] at hc
    obtain ⟨⟨⟨⟨⟨⟨c1, c2⟩, c3⟩, c4⟩, c5⟩, c7⟩, c6⟩ := hc
    obtain ⟨et, hu, hi'⟩ := sl_of hi
    obtain ⟨us, hus, hrun⟩ := runs_buildSlice (os := os) (w := w) (a := a) hu hi' c1 c2 c5
    obtain ⟨vs, f1, f2, f3, f4⟩ := row_fill (us := us) c6 hg' (rowD_C e) (by rw [hus, ← c4]; simp)
    simp only [Nat.zero_mul, List.take_zero, List.nil_append, List.length_map] at f1 f4
    obtain ⟨H, S⟩ := hr.pushP (.cells vs.toArray et)
    refine ⟨_, ρ, { w with heap := w.heap.push (.cells vs.toArray et) }, .slice (some ⟨w.heap.size, 0, none⟩) len len, ?_, S, H, Same.refl w, ?_⟩
    · unfold execOp; rw [ho]
      refine Runs.bind ?_ (Runs.pure _)
      exact hrun vs f1
    · simp only [RepV, RepC, RepD]
      have hlen : es.length = len := by omega
      refine ⟨some ⟨w.heap.size, 0, none⟩, len, by rw [hlen], by omega, fun _ => hlen.symm, ?_, fun h => (by cases h), fun p hp _ => (by cases hp; rfl), ?_⟩
      · unfold lenMax; omega
      · have e4 : cellsAt (upd ph w.heap.size (some (.cells vs.toArray et))) (some ⟨w.heap.size, 0, none⟩) = vs := by simp [cellsAt, hcells, upd_same]
        rw [e4]
        have := RepCE.mono S.hle (RM.le_refl ρ) _ _ f3
        exact RepCE.to_E this
  · cases hc

theorem sem_buildSlM {o : Oper} {T : TypeId} {len : Nat} {os : Array (Nat × Operand)} {s : Nat} {xs : List MX} (ho : o.op = .buildSlice T len os) (hc : chkOp P (.buildSlM s xs) (.buildSlice T len os) = true) {es : List (List AC)}
    (e : rowC get s xs = some es) (hn : m n = .non) : OpSem P o get m [] [(n, .arr s es)] (.c (.msl s n 0 xs.length)) := by
  refine OpSem.of_value fun m' h1 h2 ph ρ w a hr hg => ?_
  have hg' : ∀ k, Operand.tmp k ∈ os.toList.map (·.2) → RepV ph ρ (get k) (a.tmps.getD k undef) := fun k hk => hg k (by rw [ho]; simpa [Op.operands] using hk)
  have hn' : m' n = .non := (h2 (n, .arr s es) (by simp)).trans hn
  simp only [chkOp] at hc
  split at hc
  · rename_i i hi
    simp only [Bool.and_eq_true, beq_iff_eq, decide_eq_true_eq] at hc
    obtain ⟨⟨⟨⟨⟨⟨c1, c2⟩, c3⟩, c4⟩, c5⟩, c7⟩, c6⟩ := hc
    obtain ⟨et, hu, hi'⟩ := sl_of hi
    obtain ⟨us, hus, hrun⟩ := runs_buildSlice (os := os) (w := w) (a := a) hu hi' c1 c2 c5
    obtain ⟨vs, f1, f2, f3, f4⟩ := row_fill (us := us) c6 hg' e (by rw [hus, ← c4]; simp)
    simp only [Nat.zero_mul, List.take_zero, List.nil_append] at f1 f4
    obtain ⟨H, S⟩ := hr.pushO (.cells vs.toArray et) hn' len (blk := .arr s es) (by simp)
      (.inr ⟨vs, et, push_get_size _ _, by rw [f2, c4], by omega, by unfold lenMax; omega, RepCE.mono (PH.le_refl ph) (rle_upd ((hr.dom n).1 hn')) _ _ f3⟩)
    refine ⟨_, _, { w with heap := w.heap.push (.cells vs.toArray et) }, .slice (some ⟨w.heap.size, 0, none⟩) len len, ?_, S, H, Same.refl w, ?_⟩
    · unfold execOp; rw [ho]
      refine Runs.bind ?_ (Runs.pure _)
      exact hrun vs f1
    · simp only [RepV, RepC]
      refine ⟨_, some ⟨w.heap.size, 0, none⟩, upd_same _ _ _, by rw [c4]; rfl, by rw [c4]; simp, fun _ => by simp, fun q hq _ => by cases hq; rfl⟩
  · cases hc

/-! ### addresses -/

theorem sem_faddr {o : Oper} {T : TypeId} {f off : Nat} {x : MX} {ox : Operand} (ho : o.op = .fieldAddr T ox f) (hc : chkOp P (.faddr off x) (.fieldAddr T ox f) = true) {K : AV → Prop}
    (hK : match X get x with
    | .c (.ptr b o) => K (.c (.ptr b (o + off)))
    | .c (.ept s b i o) => K (.c (.ept s b i (o + off)))
    | .c (.d (.rp cs o)) => K (.c (.d (.rp cs (o + off))))
    | _ => False) : ∃ v, OpSem P o get m [] [] v ∧ K v := by
  simp only [chkOp, Bool.and_eq_true] at hc
  obtain ⟨c0, hx⟩ := hc
  split at c0
  · rename_i off' U i hf
    simp only [Bool.and_eq_true, beq_iff_eq, bne_iff_ne] at c0
    obtain ⟨c1, c2⟩ := c0
    subst c1
    unfold fieldOf at hf
    split at hf
    · rename_i fs hu
      split at hf
      · rename_i fd hfd
        simp only [Option.map_eq_some_iff] at hf
        obtain ⟨t, ht, hf⟩ := hf
        injection hf with h1 h2
        injection h2 with h2 h3
        subst h1 h3
        have base : ∀ (v : AV) (H : ∀ (h : PH) (ρ : RM) (p : Value), RepV h ρ (X get x) p → ∃ B q, p = .pointer (some ⟨B, q, none⟩) ∧ RepV h ρ v (.pointer (some ⟨B, q + fd.offset, none⟩))), OpSem P o get m [] [] v := by
          intro v H
          refine OpSem.of_pure fun m' h1 ph ρ w a hr hg => ?_
          have r1 := chkX_ok hx (ph := ph) (ρ := ρ) (get := get) (a := a) fun k hk => hg k (by rw [ho]; simp [Op.operands, hk])
          obtain ⟨B, q, e, rv⟩ := H ph ρ _ r1
          refine ⟨_, ?_, rv⟩
          unfold execOp; rw [ho]
          refine Runs.bind ?_ (Runs.pure _)
          show Runs P (Instr.fieldAt T (a.eval ox) f) w _ w
          rw [e]
          unfold Instr.fieldAt
          refine (Runs.underlying hu).bind ?_
          simp only [hfd]
          refine (Runs.pure (⟨B, q, none⟩ : Addr)).bind ?_
          unfold fieldPlace
          refine Runs.bind (a := (⟨B, q + fd.offset, none⟩ : Addr)) ?_ (Runs.pure _)
          refine (Runs.sizeOf ht).bind ?_
          rw [if_neg c2, addr_add]
          exact Runs.pure _
        split at hK
        · rename_i b q ex
          refine ⟨_, base _ fun h ρ p rp => ?_, hK⟩
          rw [ex] at rp
          simp only [RepV, RepC] at rp ⊢
          obtain ⟨y, h1, h2⟩ := rp
          exact ⟨y.1, q, h2, y, h1, rfl⟩
        · rename_i s b i' q ex
          refine ⟨_, base _ fun h ρ p rp => ?_, hK⟩
          rw [ex] at rp
          simp only [RepV, RepC] at rp ⊢
          obtain ⟨y, h1, h2⟩ := rp
          exact ⟨y.1, _, h2, y, h1, by rw [Nat.add_assoc]⟩
        · rename_i cs q ex
          refine ⟨_, base _ fun h ρ p rp => ?_, hK⟩
          rw [ex] at rp
          simp only [RepV, RepC, RepD] at rp ⊢
          obtain ⟨B, y, h1, h2⟩ := rp
          exact ⟨B, _, h1, B, y, by rw [Nat.add_assoc], h2⟩
        · exact hK.elim
      · cases hf
    · cases hf
  · cases c0

theorem sem_field {o : Oper} {T : TypeId} {f off sz : Nat} {ag : Bool} {x : MX} {ox : Operand} (ho : o.op = .field T ox f) (hc : chkOp P (.field ag off sz x) (.field T ox f) = true) {K : AV → Prop} {cs : List AC}
    (ex : X get x = .ag cs) (hK : ldC ag sz cs off K) : ∃ v, OpSem P o get m [] [] v ∧ K v := by
  simp only [chkOp, Bool.and_eq_true] at hc
  obtain ⟨c0, hx⟩ := hc
  split at c0
  · rename_i off' U i hf
    simp only [Bool.and_eq_true, beq_iff_eq] at c0
    obtain ⟨c1, c2⟩ := c0
    subst c1
    unfold fieldOf at hf
    split at hf
    · rename_i fs hu
      split at hf
      · rename_i fd hfd
        simp only [Option.map_eq_some_iff] at hf
        obtain ⟨t, ht, hf⟩ := hf
        injection hf with h1 h2
        injection h2 with h2 h3
        subst h1 h2
        obtain ⟨v, kv, H⟩ := part_ok c2 hK
        refine ⟨v, OpSem.of_pure fun m' h1 ph ρ w a hr hg => ?_, kv⟩
        have r1 := chkX_ok hx (ph := ph) (ρ := ρ) (get := get) (a := a) fun k hk => hg k (by rw [ho]; simp [Op.operands, hk])
        rw [ex] at r1
        simp only [RepV] at r1
        obtain ⟨vs, e1, e2, e3⟩ := r1
        obtain ⟨vC, g1, g2⟩ := H (w := w) e2 e3
        refine ⟨vC, ?_, g2⟩
        unfold execOp; rw [ho]
        refine Runs.bind ?_ (Runs.pure _)
        show Runs P (Instr.field T (a.eval ox) f) w _ w
        rw [e1]
        unfold Instr.field
        refine (Runs.underlying hu).bind ?_
        simp only [hfd]
        exact (Runs.pure vs.toArray).bind g1
      · cases hf
    · cases hf
  · cases c0

theorem arr_of {T : TypeId} {n : Nat} {i : TypeInfo} (h : arrElem P T = some (n, i)) : ∃ e, P.underlying T = some (.array n e) ∧ P.info? e = some i := by
  unfold arrElem at h
  split at h
  · rename_i n' e he
    simp only [Option.map_eq_some_iff] at h
    obtain ⟨t, ht, h⟩ := h
    cases h
    exact ⟨e, he, ht⟩
  · cases h

theorem sem_iaddrS {o : Oper} {T : TypeId} {s : Nat} {x i : MX} {ox oi : Operand} (ho : o.op = .indexAddr T ox oi) (hc : chkOp P (.iaddrS s x i) (.indexAddr T ox oi) = true) {K : AV → Prop}
    (hK : match X get x, X get i with
    | .c (.d (.sl _ s' es)), .c (.d (.int _ j)) => s = s' ∧ 0 ≤ j ∧ (match es[j.toNat]? with | some e => K (.c (.d (.rp e 0))) | none => False)
    | .c (.msl s' b off len), .c (.d (.int _ j)) => s = s' ∧ 0 ≤ j ∧ j < len ∧ K (.c (.ept s b (off + j.toNat) 0))
    | _, _ => False) : ∃ v, OpSem P o get m [] [] v ∧ K v := by
  simp only [chkOp, Bool.and_eq_true] at hc
  obtain ⟨⟨c0, hx⟩, hi⟩ := hc
  split at c0
  · rename_i e he
    simp only [beq_iff_eq] at c0
    obtain ⟨et, hu, hei⟩ := sl_of he
    have base : ∀ (v : AV) (j : Int) (k : IntKind) (ei : X get i = .c (.d (.int k j))) (hj : 0 ≤ j)
        (H : ∀ (h : PH) (ρ : RM) (p : Value), RepV h ρ (X get x) p → ∃ B q len cap, p = .slice (some ⟨B, q, none⟩) len cap ∧ j < (len : Int) ∧ RepV h ρ v (.pointer (some ⟨B, q + j.toNat * s, none⟩))), OpSem P o get m [] [] v := by
      intro v j k ei hj H
      refine OpSem.of_pure fun m' h1 ph ρ w a hr hg => ?_
      have r1 := chkX_ok hx (ph := ph) (ρ := ρ) (get := get) (a := a) fun k hk => hg k (by rw [ho]; simp [Op.operands, hk])
      have r2 := chkX_ok hi (ph := ph) (ρ := ρ) (get := get) (a := a) fun k hk => hg k (by rw [ho]; simp [Op.operands, hk])
      rw [ei] at r2
      simp only [RepV, RepC, RepD] at r2
      obtain ⟨B, q, len, cap, e1, e2, rv⟩ := H ph ρ _ r1
      refine ⟨_, ?_, rv⟩
      unfold execOp; rw [ho]
      refine Runs.bind ?_ (Runs.pure _)
      show Runs P (Instr.indexAt T (a.eval ox) (a.eval oi)) w _ w
      rw [e1, r2.1]
      unfold Instr.indexAt
      refine (Runs.pure (k, j)).bind ((Runs.underlying hu).bind ?_)
      refine (Runs.pure (some (⟨B, q, none⟩ : Addr), len, et)).bind ?_
      refine (Runs.underlying hu).bind ?_
      simp only
      rw [if_pos ⟨hj, e2⟩]
      refine (Runs.sizeOf hei).bind ?_
      rw [addr_add, c0]
      exact Runs.pure _
    split at hK
    · rename_i fl s' es k j ex ei
      obtain ⟨k1, k2, hK⟩ := hK
      subst k1
      split at hK
      · rename_i e0 he0
        refine ⟨_, base _ j k ei k2 fun h ρ p rp => ?_, hK⟩
        rw [ex] at rp
        simp only [RepV, RepC, RepD] at rp ⊢
        obtain ⟨a, cap, r1, r2, r3, r4, r5, r6, r7⟩ := rp
        have hjl : j.toNat < es.length := by
          rcases Nat.lt_or_ge j.toNat es.length with h | h
          · exact h
          · rw [List.getElem?_eq_none h] at he0; cases he0
        cases a with
        | none => have := (r5 rfl).1; subst this; simp at hjl
        | some q =>
          obtain ⟨B, off, spot⟩ := q
          have := r6 _ rfl (by omega)
          simp only at this
          subst this
          have hg := r7.get he0
          refine ⟨B, off, es.length, cap, r1, by omega, B, off + j.toNat * s, by simp, ?_⟩
          simp only [cellsAt] at hg
          rw [List.drop_drop] at hg
          exact hg.2
      · exact hK.elim
    · rename_i s' b off len k j ex ei
      obtain ⟨k1, k2, k3, hK⟩ := hK
      subst k1
      refine ⟨_, base _ j k ei k2 fun h ρ p rp => ?_, hK⟩
      rw [ex] at rp
      simp only [RepV, RepC] at rp ⊢
      obtain ⟨p', a, r1, r2, r3, r4, _⟩ := rp
      have ha := r4 (by omega)
      subst ha
      refine ⟨p'.1, off * s, len, p'.2 - off, r2, k3, p', r1, ?_⟩
      rw [Nat.add_mul, Nat.add_zero]
    · exact hK.elim
  · cases c0

theorem sem_iaddrA {o : Oper} {T : TypeId} {len s : Nat} {x i : MX} {ox oi : Operand} (ho : o.op = .indexAddr T ox oi) (hc : chkOp P (.iaddrA len s x i) (.indexAddr T ox oi) = true) {K : AV → Prop}
    (hK : match X get x, X get i with
    | .c (.ptr b o), .c (.d (.int _ j)) => 0 ≤ j ∧ j < len ∧ K (.c (.ptr b (o + j.toNat * s)))
    | .c (.ept s' b i' o), .c (.d (.int _ j)) => 0 ≤ j ∧ j < len ∧ K (.c (.ept s' b i' (o + j.toNat * s)))
    | .c (.d (.rp cs o)), .c (.d (.int _ j)) => 0 ≤ j ∧ j < len ∧ K (.c (.d (.rp cs (o + j.toNat * s))))
    | _, _ => False) : ∃ v, OpSem P o get m [] [] v ∧ K v := by
  simp only [chkOp, Bool.and_eq_true] at hc
  obtain ⟨⟨c0, hx⟩, hi⟩ := hc
  split at c0
  · rename_i n' e he
    simp only [Bool.and_eq_true, beq_iff_eq] at c0
    obtain ⟨c1, c2⟩ := c0
    subst c1
    obtain ⟨et, hu, hei⟩ := arr_of he
    have base : ∀ (v : AV) (j : Int) (k : IntKind) (ei : X get i = .c (.d (.int k j))) (hj : 0 ≤ j) (hj' : j < n')
        (H : ∀ (h : PH) (ρ : RM) (p : Value), RepV h ρ (X get x) p → ∃ B q, p = .pointer (some ⟨B, q, none⟩) ∧ RepV h ρ v (.pointer (some ⟨B, q + j.toNat * s, none⟩))), OpSem P o get m [] [] v := by
      intro v j k ei hj hj' H
      refine OpSem.of_pure fun m' h1 ph ρ w a hr hg => ?_
      have r1 := chkX_ok hx (ph := ph) (ρ := ρ) (get := get) (a := a) fun k hk => hg k (by rw [ho]; simp [Op.operands, hk])
      have r2 := chkX_ok hi (ph := ph) (ρ := ρ) (get := get) (a := a) fun k hk => hg k (by rw [ho]; simp [Op.operands, hk])
      rw [ei] at r2
      simp only [RepV, RepC, RepD] at r2
      obtain ⟨B, q, e1, rv⟩ := H ph ρ _ r1
      refine ⟨_, ?_, rv⟩
      unfold execOp; rw [ho]
      refine Runs.bind ?_ (Runs.pure _)
      show Runs P (Instr.indexAt T (a.eval ox) (a.eval oi)) w _ w
      rw [e1, r2.1]
      unfold Instr.indexAt
      refine (Runs.pure (k, j)).bind ((Runs.underlying hu).bind ?_)
      refine Runs.bind (a := (some (⟨B, q, none⟩ : Addr), n', et)) (w' := w) ?_ ?_
      · exact Runs.pure _
      refine (Runs.underlying hu).bind ?_
      simp only
      rw [if_pos ⟨hj, hj'⟩]
      refine (Runs.sizeOf hei).bind ?_
      rw [addr_add, c2]
      exact Runs.pure _
    split at hK
    · rename_i b q k j ex ei
      obtain ⟨k1, k2, hK⟩ := hK
      refine ⟨_, base _ j k ei k1 k2 fun h ρ p rp => ?_, hK⟩
      rw [ex] at rp
      simp only [RepV, RepC] at rp ⊢
      obtain ⟨y, h1, h2⟩ := rp
      exact ⟨y.1, q, h2, y, h1, rfl⟩
    · rename_i s' b i' q k j ex ei
      obtain ⟨k1, k2, hK⟩ := hK
      refine ⟨_, base _ j k ei k1 k2 fun h ρ p rp => ?_, hK⟩
      rw [ex] at rp
      simp only [RepV, RepC] at rp ⊢
      obtain ⟨y, h1, h2⟩ := rp
      exact ⟨y.1, _, h2, y, h1, by rw [Nat.add_assoc]⟩
    · rename_i cs q k j ex ei
      obtain ⟨k1, k2, hK⟩ := hK
      refine ⟨_, base _ j k ei k1 k2 fun h ρ p rp => ?_, hK⟩
      rw [ex] at rp
      simp only [RepV, RepC, RepD] at rp ⊢
      obtain ⟨B, y, h1, h2⟩ := rp
      exact ⟨B, _, h1, B, y, by rw [Nat.add_assoc], h2⟩
    · exact hK.elim
  · cases c0

theorem sem_idxA {o : Oper} {T : TypeId} {ag : Bool} {len s : Nat} {x i : MX} {ox oi : Operand} (ho : o.op = .index T ox oi) (hc : chkOp P (.idxA ag len s x i) (.index T ox oi) = true) {K : AV → Prop} {cs : List AC} {k : IntKind} {j : Int}
    (ex : X get x = .ag cs) (ei : X get i = .c (.d (.int k j))) (hj : 0 ≤ j) (hj' : j < len) (hK : ldC ag s cs (j.toNat * s) K) : ∃ v, OpSem P o get m [] [] v ∧ K v := by
  simp only [chkOp, Bool.and_eq_true] at hc
  obtain ⟨⟨c0, hx⟩, hi⟩ := hc
  split at c0
  · rename_i n' e hu
    simp only [Bool.and_eq_true, beq_iff_eq] at c0
    obtain ⟨c1, c2⟩ := c0
    subst c1
    obtain ⟨d, it, t1, t2, t3, t4⟩ := tyA_ok c2
    obtain ⟨v, kv, H⟩ := part_ok c2 hK
    refine ⟨v, OpSem.of_pure fun m' h1 ph ρ w a hr hg => ?_, kv⟩
    have r1 := chkX_ok hx (ph := ph) (ρ := ρ) (get := get) (a := a) fun k hk => hg k (by rw [ho]; simp [Op.operands, hk])
    have r2 := chkX_ok hi (ph := ph) (ρ := ρ) (get := get) (a := a) fun k hk => hg k (by rw [ho]; simp [Op.operands, hk])
    rw [ei] at r2
    simp only [RepV, RepC, RepD] at r2
    rw [ex] at r1
    simp only [RepV] at r1
    obtain ⟨vs, e1, e2, e3⟩ := r1
    obtain ⟨vC, g1, g2⟩ := H (w := w) e2 e3
    refine ⟨vC, ?_, g2⟩
    unfold execOp; rw [ho]
    refine Runs.bind ?_ (Runs.pure _)
    show Runs P (Instr.index T (a.eval ox) (a.eval oi)) w _ w
    rw [e1, r2.1]
    unfold Instr.index
    refine (Runs.pure (k, j)).bind ((Runs.underlying hu).bind ?_)
    simp only
    rw [if_pos ⟨hj, hj'⟩]
    refine (Runs.sizeOf t2).bind ?_
    rw [t4]
    exact g1
  · cases c0

theorem sem_idxS {o : Oper} {T : TypeId} {x i : MX} {ox oi : Operand} (ho : o.op = .index T ox oi) (hc : chkOp P (.idxS x i) (.index T ox oi) = true) {t : ByteArray} {k : IntKind} {j : Int} {b : UInt8}
    (ex : X get x = .c (.d (.str t))) (ei : X get i = .c (.d (.int k j))) (hj : 0 ≤ j) (hb : t.data.toList[j.toNat]? = some b) : OpSem P o get m [] [] (.c (.d (.int .u8 b.toNat))) := by
  simp only [chkOp, Bool.and_eq_true] at hc
  obtain ⟨⟨c0, hx⟩, hi⟩ := hc
  split at c0
  · rename_i hu
    refine OpSem.of_pure fun m' h1 ph ρ w a hr hg => ?_
    have r1 := chkX_ok hx (ph := ph) (ρ := ρ) (get := get) (a := a) fun k hk => hg k (by rw [ho]; simp [Op.operands, hk])
    have r2 := chkX_ok hi (ph := ph) (ρ := ρ) (get := get) (a := a) fun k hk => hg k (by rw [ho]; simp [Op.operands, hk])
    rw [ei] at r2
    rw [ex] at r1
    simp only [RepV, RepC, RepD] at r1 r2
    refine ⟨.int .u8 b.toNat, ?_, ?_⟩
    · unfold execOp; rw [ho]
      refine Runs.bind ?_ (Runs.pure _)
      show Runs P (Instr.index T (a.eval ox) (a.eval oi)) w _ w
      rw [r1.1, r2.1]
      unfold Instr.index
      refine (Runs.pure (k, j)).bind ((Runs.underlying hu).bind ?_)
      simp only
      rw [if_pos hj]
      have hb' : t[j.toNat]? = some b := by
        rw [← hb]
        show (if h : _ then _ else _) = _
        by_cases h : j.toNat < t.size
        · have : j.toNat < t.data.size := h
          simp [h, this, Array.getElem?_eq_getElem]
          rfl
        · have h2 : ¬ j.toNat < t.data.size := h
          simp [h, h2]
      rw [hb']
      exact Runs.pure _
    · simp only [RepV, RepC, RepD]
      have := b.toNat_lt
      refine ⟨trivial, by simp [IntKind.min, IntKind.signed], ?_⟩
      simp only [IntKind.max, IntKind.signed, IntKind.bits]
      simp
      omega
  · cases c0

end
end Go.Abs
