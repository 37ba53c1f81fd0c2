/- The abstract operations (9): lengths, slicing, functions, calls. -/
import Derived.Test.YtkgomampbengjaaGreatDoorAbs12
set_option linter.unusedVariables false
set_option linter.unusedSimpArgs false
namespace Go.Abs

section
variable {P : Program} {get : Nat → AV} {m : Hp} {n : Nat}

theorem len_run {o : Oper} {c : Call} {ox : Operand} {T : TypeId} (ho : o.op = .call c) (hb : c.callee = .builtin .len) (hargs : c.args = #[ox]) (htys : c.argTypes = #[T]) {k : Nat} {ph : PH} {ρ : RM} {w : World} {a : Act} (hk : k ≤ lenMax)
    (hr : Runs P (Builtin.len_ #[T] o.type #[a.eval ox]) w (goInt k) w) : ∃ vC, Runs P (execOp a.eval o) w (.value vC) w ∧ RepV ph ρ (.c (.d (.int .i64 k))) vC := by
  refine ⟨goInt k, ?_, ?_⟩
  · unfold execOp; rw [ho]
    show Runs P (do let d ← resolve a.eval c o.type; invoke d.target d.args) w _ w
    unfold resolve
    rw [hb, hargs, htys]
    refine (Runs.pure _).bind ?_
    simp only [invoke, List.map_toArray, List.map_cons, List.map_nil]
    exact hr.bind (Runs.pure _)
  · simp only [RepV, RepC]
    unfold RepD
    unfold lenMax at hk
    refine ⟨rfl, ?_, ?_⟩
    · simp only [IntKind.min, IntKind.signed, IntKind.bits]; simp
    · simp only [IntKind.max, IntKind.signed, IntKind.bits]; simp; omega

theorem sem_len {o : Oper} {c : Call} {x : MX} (ho : o.op = .call c) (hc : chkOp P (.len x) (.call c) = true) {K : AV → List Nat → Prop}
    (hK : match X get x with
    | .c (.d (.sl _ _ es)) => K (.c (.d (.int .i64 es.length))) []
    | .c (.msl _ b off l) => match m b with
      | .arr _ es => off + l ≤ es.length ∧ K (.c (.d (.int .i64 l))) [b]
      | _ => False
    | _ => False) : ∃ v rd, OpSem P o get m rd [] v ∧ K v rd := by
  simp only [chkOp] at hc
  split at hc
  · rename_i ox T hb ha hta
    simp only [Bool.and_eq_true] at hc
    obtain ⟨hx, ht⟩ := hc
    have hargs : c.args = #[ox] := by rw [← Array.toArray_toList (xs := c.args), ha]
    have htys : c.argTypes = #[T] := by rw [← Array.toArray_toList (xs := c.argTypes), hta]
    have hop : ∀ k, ox = .tmp k → Operand.tmp k ∈ o.op.operands := by
      intro k hk; rw [ho]; simp [Op.operands, Call.operands, hb, hargs, hk]
    split at ht
    · rename_i e hu
      have sl : ∀ {w : World} {a : Option Addr} {l cp : Nat}, Runs P (Builtin.len_ #[T] o.type #[.slice a l cp]) w (goInt l) w := by
        intro w a l cp
        unfold Builtin.len_
        refine (Runs.underlying hu).bind ?_
        exact Runs.pure _
      split at hK
      · rename_i fl s es ex
        refine ⟨_, [], OpSem.of_pure fun m' h1 ph ρ w a hr hg => ?_, hK⟩
        have r1 := chkX_ok hx (ph := ph) (ρ := ρ) (get := get) (a := a) fun k hk => hg k (hop k hk)
        rw [ex] at r1
        simp only [RepV, RepC, RepD] at r1
        obtain ⟨b, cap, e1, e2, e3, e4, _⟩ := r1
        refine len_run ho hb hargs htys e4 ?_
        rw [e1]
        exact sl
      · rename_i s b off l ex
        split at hK
        · rename_i s' es eb
          obtain ⟨k1, hK⟩ := hK
          refine ⟨_, [b], OpSem.of_pure fun m' h1 ph ρ w a hr hg => ?_, hK⟩
          have r1 := chkX_ok hx (ph := ph) (ρ := ρ) (get := get) (a := a) fun k hk => hg k (hop k hk)
          rw [ex] at r1
          simp only [RepV, RepC] at r1
          obtain ⟨p, q, e0, e1, e2⟩ := r1
          have how := hr.own b p e0
          rw [h1 b (by simp), eb] at how
          have hlm : l ≤ lenMax := by
            rcases how with ⟨_, h0⟩ | ⟨us, U, g1, g2, g3, g5, g4⟩
            · rw [h0] at k1; simp at k1; unfold lenMax; omega
            · omega
          refine len_run ho hb hargs htys hlm ?_
          rw [e1]
          exact sl
        · exact hK.elim
      · exact hK.elim
    · cases ht
  · cases hc

theorem sem_lenS {o : Oper} {c : Call} {x : MX} (ho : o.op = .call c) (hc : chkOp P (.lenS x) (.call c) = true) {t : ByteArray} (ex : X get x = .c (.d (.str t))) : OpSem P o get m [] [] (.c (.d (.int .i64 t.size))) := by
  simp only [chkOp] at hc
  split at hc
  · rename_i ox T hb ha hta
    simp only [Bool.and_eq_true] at hc
    obtain ⟨hx, ht⟩ := hc
    have hargs : c.args = #[ox] := by rw [← Array.toArray_toList (xs := c.args), ha]
    have htys : c.argTypes = #[T] := by rw [← Array.toArray_toList (xs := c.argTypes), hta]
    have hop : ∀ k, ox = .tmp k → Operand.tmp k ∈ o.op.operands := by
      intro k hk; rw [ho]; simp [Op.operands, Call.operands, hb, hargs, hk]
    split at ht
    · rename_i hu
      refine OpSem.of_pure fun m' h1 ph ρ w a hr hg => ?_
      have r1 := chkX_ok hx (ph := ph) (ρ := ρ) (get := get) (a := a) fun k hk => hg k (hop k hk)
      rw [ex] at r1
      simp only [RepV, RepC, RepD] at r1
      refine len_run ho hb hargs htys r1.2 ?_
      rw [r1.1]
      unfold Builtin.len_
      refine (Runs.underlying hu).bind ?_
      exact Runs.pure _
    · cases ht
  · cases hc

theorem sem_nilck {o : Oper} {x : MX} {ox : Operand} (ho : o.op = .nilCheck ox) (hx : chkX x ox = true) (hp : ∀ {ph : PH} {ρ : RM} {v : Value}, RepV ph ρ (X get x) v → ∃ q, v = .pointer (some q)) : OpSem P o get m [] [] (X get x) := by
  refine OpSem.of_pure fun m' h1 ph ρ w a hr hg => ⟨a.eval ox, ?_, ?_⟩
  · have r1 := chkX_ok hx (ph := ph) (ρ := ρ) (get := get) (a := a) fun k hk => hg k (by rw [ho]; simp [Op.operands, hk])
    obtain ⟨q, e⟩ := hp r1
    unfold execOp; rw [ho]
    simp only [e]
    exact Runs.pure _
  · exact chkX_ok hx fun k hk => hg k (by rw [ho]; simp [Op.operands, hk])

theorem RepVL.nth {h : PH} {ρ : RM} : ∀ {xs : List AV} {vs : List Value} {j : Nat} {x : AV}, RepVL h ρ xs vs → xs[j]? = some x → ∃ v, vs[j]? = some v ∧ RepV h ρ x v
  | [], _, j, x, _, e => by simp at e
  | _ :: _, [], _, _, r, _ => by simp [RepVL] at r
  | d :: ds, v :: vs, 0, x, r, e => by
    simp only [RepVL] at r
    simp at e
    subst e
    exact ⟨v, by simp, r.1⟩
  | d :: ds, v :: vs, j + 1, x, r, e => by
    simp only [RepVL] at r
    simp only [List.getElem?_cons_succ] at e ⊢
    exact RepVL.nth r.2 e

theorem sem_extract {o : Oper} {x : MX} {ox : Operand} {i : Nat} {vs : List AV} {v : AV} (ho : o.op = .extract ox i) (hx : chkX x ox = true) (ex : X get x = .tup vs) (ev : vs[i]? = some v) : OpSem P o get m [] [] v := by
  refine OpSem.of_pure fun m' h1 ph ρ w a hr hg => ?_
  have r1 := chkX_ok hx (ph := ph) (ρ := ρ) (get := get) (a := a) fun k hk => hg k (by rw [ho]; simp [Op.operands, hk])
  rw [ex] at r1
  simp only [RepV] at r1
  obtain ⟨us, e1, e2⟩ := r1
  obtain ⟨u, e3, e4⟩ := e2.nth ev
  refine ⟨u, ?_, e4⟩
  unfold execOp; rw [ho]
  refine Runs.bind ?_ (Runs.pure _)
  show Runs P (Instr.extract (a.eval ox) i) w u w
  rw [e1]
  unfold Instr.extract
  simp only [List.getElem?_toArray, e3]
  exact Runs.pure _

/-! ### slicing -/

theorem bnd_ok {get : Nat → AV} {d : Nat} {K : Nat → Prop} {x : Option MX} {ox : Option Operand} (h : bnd get d K x) (hc : chkOX x ox = true) : ∃ j, K j ∧ (ox = none → j = d) ∧
    ∀ {ph : PH} {ρ : RM} {a : Act}, (∀ k, ox = some (.tmp k) → RepV ph ρ (get k) (a.tmps.getD k undef)) → ∀ y, ox = some y → ∃ k, a.eval y = .int k j := by
  unfold bnd at h
  split at h
  · cases ox with
    | none => exact ⟨d, h, fun _ => rfl, fun _ y hy => by cases hy⟩
    | some _ => simp [chkOX] at hc
  · rename_i x
    cases ox with
    | none => simp [chkOX] at hc
    | some y =>
      simp only [chkOX] at hc
      split at h
      · rename_i k j ex
        obtain ⟨h1, h2⟩ := h
        refine ⟨j.toNat, h2, fun hh => (by cases hh), fun {ph ρ a} hg y' hy' => ?_⟩
        cases hy'
        have r1 := chkX_ok hc (ph := ph) (ρ := ρ) (get := get) (a := a) fun k hk => hg k (by rw [hk])
        rw [ex] at r1
        simp only [RepV, RepC, RepD] at r1
        exact ⟨k, by rw [r1.1]; congr 1; omega⟩
      · exact h.elim

theorem runs_sliceBound {x : Value} {k : IntKind} {j y : Nat} {code : BoundsCode} {w : World} (e : x = .int k j) (h : j ≤ y) : Runs P (Instr.sliceBound x y code) w j w := by
  rw [e]
  unfold Instr.sliceBound
  refine (Runs.pure (k, (j : Int))).bind ?_
  dsimp only
  rw [if_pos (by omega)]
  have : ((j : Int)).toNat = j := by simp
  rw [this]
  exact Runs.pure _

theorem runs_sliceBounds {isSlice : Bool} {len cap : Nat} {low high : Option Value} {l h : Nat} {w : World} (hl : ∀ x, low = some x → ∃ k, x = .int k l) (hl0 : low = none → l = 0) (hh : ∀ x, high = some x → ∃ k, x = .int k h) (hh0 : high = none → h = len)
    (h1 : l ≤ h) (h2 : h ≤ cap) : Runs P (Instr.sliceBounds isSlice len cap low high none) w (l, h, cap) w := by
  unfold Instr.sliceBounds
  refine (Runs.pure cap).bind ?_
  dsimp only
  have e2 : ∀ (K : Nat → Sem (Nat × Nat × Nat)), (∀ v, K v = Pure.pure (v, h, cap)) → Runs P (match low with
      | some v => do
        let l ← Instr.sliceBound v h (if (none : Option Value).isSome = true then .slice3C else .sliceB)
        K l
      | none => do
        let l ← Pure.pure 0
        K l) w (l, h, cap) w := by
    intro K hK
    cases low with
    | none =>
      have := hl0 rfl
      subst this
      refine (Runs.pure 0).bind ?_
      rw [hK]; exact Runs.pure _
    | some v =>
      obtain ⟨k, e⟩ := hl v rfl
      refine (runs_sliceBound e h1).bind ?_
      rw [hK]; exact Runs.pure _
  cases high with
  | none =>
    have := hh0 rfl
    subst this
    refine (Runs.pure _).bind ?_
    exact e2 _ fun _ => rfl
  | some v =>
    obtain ⟨k, e⟩ := hh v rfl
    refine (runs_sliceBound e h2).bind ?_
    exact e2 _ fun _ => rfl

theorem opt_none {α β : Type} {x : Option α} {f : α → β} (h : x.map f = none) : x = none := by cases x <;> simp_all

theorem chkOX_none {x : Option MX} {o : Option Operand} (h : chkOX x o = true) : x.isNone = o.isNone := by cases x <;> cases o <;> simp_all [chkOX]

theorem sem_slice {o : Oper} {T : TypeId} {s : Nat} {x : MX} {lo hi : Option MX} {ox : Operand} {l h mx : Option Operand} (ho : o.op = .slice T ox l h mx) (hc : chkOp P (.slice s x lo hi) (.slice T ox l h mx) = true) {K : AV → Prop}
    (hK : match X get x with
    | .c (.d (.sl e s' es)) => s = s' ∧ bnd get es.length (fun h => bnd get 0 (fun l => l ≤ h ∧ h ≤ es.length ∧ K (.c (.d (.sl (e && hi.isNone) s ((es.take h).drop l))))) lo) hi
    | .c (.msl s' b off len) => s = s' ∧ bnd get len (fun h => bnd get 0 (fun l => l ≤ h ∧ h ≤ len ∧ K (.c (.msl s b (off + l) (h - l)))) lo) hi
    | _ => False) : ∃ v, OpSem P o get m [] [] v ∧ K v := by
  simp only [chkOp, Bool.and_eq_true] at hc
  obtain ⟨⟨⟨⟨c0, c1⟩, hx⟩, c2⟩, c3⟩ := hc
  have hmx : mx = none := by cases mx <;> simp_all
  subst hmx
  split at c0
  · rename_i et het
    simp only [beq_iff_eq] at c0
    obtain ⟨e, hu, hei⟩ := sl_of het
    have ops : ∀ k, (ox = .tmp k ∨ l = some (.tmp k) ∨ h = some (.tmp k)) → Operand.tmp k ∈ o.op.operands := by
      intro k hk; rw [ho]; simp only [Op.operands]
      rcases hk with hk | hk | hk <;> simp [hk]
    have base : ∀ (v : AV) (L H : Nat)
        (HL : ∀ {ph : PH} {ρ : RM} {a : Act}, (∀ k, l = some (.tmp k) → RepV ph ρ (get k) (a.tmps.getD k undef)) → ∀ y, l = some y → ∃ k, a.eval y = .int k L)
        (HH : ∀ {ph : PH} {ρ : RM} {a : Act}, (∀ k, h = some (.tmp k) → RepV ph ρ (get k) (a.tmps.getD k undef)) → ∀ y, h = some y → ∃ k, a.eval y = .int k H)
        (hl0 : l = none → L = 0) (hLH : L ≤ H)
        (HV : ∀ (ph : PH) (ρ : RM) (p : Value), RepV ph ρ (X get x) p → ∃ A len cap, p = .slice A len cap ∧ (h = none → H = len) ∧ H ≤ cap ∧ RepV ph ρ v (.slice (if cap = L then A else A.map (·.add (L * s))) (H - L) (cap - L))), OpSem P o get m [] [] v := by
      intro v L H HL HH hl0 hLH HV
      refine OpSem.of_pure fun m' h1 ph ρ w a hr hg => ?_
      have r1 := chkX_ok hx (ph := ph) (ρ := ρ) (get := get) (a := a) fun k hk => hg k (ops k (.inl hk))
      obtain ⟨A, len, cap, e1, e2, e3, rv⟩ := HV ph ρ _ r1
      refine ⟨_, ?_, rv⟩
      unfold execOp; rw [ho]
      refine Runs.bind ?_ (Runs.pure _)
      show Runs P (Instr.sliceAt T (a.eval ox) (l.map a.eval) (h.map a.eval) none) w _ w
      rw [e1]
      unfold Instr.sliceAt
      refine (Runs.underlying hu).bind ?_
      unfold Instr.slice
      refine (Runs.underlying hu).bind ?_
      refine (runs_sliceBounds (l := L) (h := H) ?_ (fun hh => hl0 (opt_none hh)) ?_ (fun hh => e2 (opt_none hh)) hLH e3).bind ?_
      · intro y hy
        cases hl : l with
        | none => rw [hl] at hy; cases hy
        | some z =>
          rw [hl] at hy
          simp only [Option.map_some, Option.some.injEq] at hy
          subst hy
          exact HL (fun k hk => hg k (ops k (.inr (.inl hk)))) z hl
      · intro y hy
        cases hh : h with
        | none => rw [hh] at hy; cases hy
        | some z =>
          rw [hh] at hy
          simp only [Option.map_some, Option.some.injEq] at hy
          subst hy
          exact HH (fun k hk => hg k (ops k (.inr (.inr hk)))) z hh
      refine (Runs.sizeOf hei).bind ?_
      rw [c0]
      exact Runs.pure _
    split at hK
    · rename_i fl s' es ex
      obtain ⟨k1, hK⟩ := hK
      subst k1
      obtain ⟨H, hK, hH0, HH⟩ := bnd_ok hK c3
      obtain ⟨L, ⟨g1, g2, kk⟩, hL0, HL⟩ := bnd_ok hK c2
      refine ⟨_, base _ L H HL HH hL0 g1 fun ph ρ p rp => ?_, kk⟩
      rw [ex] at rp
      simp only [RepV, RepC, RepD] at rp ⊢
      obtain ⟨A, cap, r1, r2, r3, r4, r5, r6, r7⟩ := rp
      have hlen : ((es.take H).drop L).length = H - L := by simp; omega
      refine ⟨A, es.length, cap, r1, hH0, by omega, _, _, by rw [hlen], by omega, ?_, by omega, ?_, ?_, ?_⟩
      · intro hf
        simp only [Bool.and_eq_true] at hf
        have hn := chkOX_none c3
        rw [hf.2] at hn
        have hh : h = none := by
          cases h with
          | none => rfl
          | some _ => cases hn
        have := hH0 hh
        have := r3 hf.1
        omega
      · intro hA
        split at hA
        · have := r5 hA; rw [this.1]; simp; omega
        · have hA' : A = none := opt_none hA
          have := r5 hA'; rw [this.1]; simp; omega
      · intro p hp hcap
        split at hp
        · exact r6 p hp (by omega)
        · cases A with
          | none => cases hp
          | some q =>
            simp only [Option.map_some, Option.some.injEq] at hp
            rw [← hp]
            have := r6 q rfl (by omega)
            obtain ⟨B, of, sp⟩ := q
            simp only at this
            subst this
            rw [addr_add]
      · split
        · rename_i hcl
          have : (es.take H).drop L = [] := List.length_eq_zero_iff.1 (by rw [hlen]; omega)
          rw [this]; simp [RepE]
        · cases A with
          | none => have := (r5 rfl).1; subst this; simp [RepE]
          | some q =>
            have := r6 q rfl (by omega)
            obtain ⟨B, of, sp⟩ := q
            simp only at this
            subst this
            simp only [Option.map_some, addr_add, cellsAt] at r7 ⊢
            rw [← List.drop_drop]
            exact (r7.take H).drop L
    · rename_i s' b off len ex
      obtain ⟨k1, hK⟩ := hK
      subst k1
      obtain ⟨H, hK, hH0, HH⟩ := bnd_ok hK c3
      obtain ⟨L, ⟨g1, g2, kk⟩, hL0, HL⟩ := bnd_ok hK c2
      refine ⟨_, base _ L H HL HH hL0 g1 fun ph ρ p rp => ?_, kk⟩
      rw [ex] at rp
      simp only [RepV, RepC] at rp ⊢
      obtain ⟨q, A, r1, r2, r3, r4, r5⟩ := rp
      refine ⟨A, len, q.2 - off, r2, hH0, by omega, q, _, r1, by rw [Nat.sub_sub], by omega, fun hlt => ?_, fun z hz hcap => ?_⟩
      · rw [if_neg (by omega), r4 (by omega)]
        simp only [Option.map_some, addr_add, Nat.add_mul]
      · split at hz
        · exact r5 z hz (by omega)
        · cases A with
          | none => cases hz
          | some y =>
            simp only [Option.map_some, Option.some.injEq] at hz
            rw [← hz]
            have := r5 y rfl (by omega)
            obtain ⟨B, of, sp⟩ := y
            simp only at this
            subst this
            rw [addr_add]
    · exact hK.elim
  · cases c0

theorem sem_slice00 {o : Oper} {T : TypeId} {s : Nat} {x : MX} {ox : Operand} {l h mx : Option Operand} (ho : o.op = .slice T ox l h mx) (hc : chkOp P (.slice00 s x) (.slice T ox l h mx) = true) {fl : Bool} {s' : Nat} {es : List (List D)}
    (ex : X get x = .c (.d (.sl fl s' es))) : OpSem P o get m [] [] (.c (.d (.sl true s []))) := by
  simp only [chkOp, Bool.and_eq_true] at hc
  obtain ⟨⟨⟨⟨c0, hx⟩, c1⟩, c2⟩, c3⟩ := hc
  have hl : l = none := by cases l <;> simp_all
  subst hl
  split at c0
  · rename_i et het
    simp only [beq_iff_eq] at c0
    obtain ⟨e, hu, hei⟩ := sl_of het
    cases h with
    | none => simp [chkOX] at c2
    | some h =>
      cases mx with
      | none => simp [chkOX] at c3
      | some mx =>
        simp only [chkOX] at c2 c3
        refine OpSem.of_pure fun m' h1 ph ρ w a hr hg => ?_
        have r1 := chkX_ok hx (ph := ph) (ρ := ρ) (get := get) (a := a) fun k hk => hg k (by rw [ho]; simp [Op.operands, hk])
        have r2 := chkX_ok c2 (ph := ph) (ρ := ρ) (get := get) (a := a) fun k hk => hg k (by rw [ho]; simp [Op.operands, hk])
        have r3 := chkX_ok c3 (ph := ph) (ρ := ρ) (get := get) (a := a) fun k hk => hg k (by rw [ho]; simp [Op.operands, hk])
        simp only [X, RepV, RepC, RepD] at r2 r3
        rw [ex] at r1
        simp only [RepV, RepC, RepD] at r1
        obtain ⟨A, cap, q1, q2, q3, q4, q5, q6, q7⟩ := r1
        refine ⟨.slice A 0 0, ?_, ?_⟩
        · unfold execOp; rw [ho]
          refine Runs.bind ?_ (Runs.pure _)
          show Runs P (Instr.sliceAt T (a.eval ox) none (some (a.eval h)) (some (a.eval mx))) w _ w
          rw [q1, r2.1, r3.1]
          unfold Instr.sliceAt
          refine (Runs.underlying hu).bind ?_
          unfold Instr.slice
          refine (Runs.underlying hu).bind ?_
          refine Runs.bind (a := (0, 0, 0)) (w' := w) ?_ ?_
          · unfold Instr.sliceBounds
            refine Runs.bind (a := 0) (w' := w) (runs_sliceBound (k := .i64) (j := 0) rfl (Nat.zero_le _)) ?_
            refine Runs.bind (a := 0) (w' := w) (runs_sliceBound (k := .i64) (j := 0) rfl (Nat.zero_le _)) ?_
            exact (Runs.pure 0).bind (Runs.pure _)
          · refine (Runs.sizeOf hei).bind ?_
            exact Runs.pure _
        · simp only [RepV, RepC, RepD]
          refine ⟨A, 0, rfl, by simp, fun _ => rfl, by simp, fun _ => ⟨trivial, rfl⟩, fun q hq h => absurd h (by simp), by simp [RepE]⟩
  · cases c0

theorem sem_sliceS {o : Oper} {T : TypeId} {x : MX} {lo hi : Option MX} {ox : Operand} {l h mx : Option Operand} (ho : o.op = .slice T ox l h mx) (hc : chkOp P (.sliceS x lo hi) (.slice T ox l h mx) = true) {K : AV → Prop} {t : ByteArray}
    (ex : X get x = .c (.d (.str t))) (hK : bnd get t.size (fun h => bnd get 0 (fun l => l ≤ h ∧ h ≤ t.size ∧ K (.c (.d (.str (t.extract l h))))) lo) hi) : ∃ v, OpSem P o get m [] [] v ∧ K v := by
  simp only [chkOp, Bool.and_eq_true] at hc
  obtain ⟨⟨⟨⟨c0, c1⟩, hx⟩, c2⟩, c3⟩ := hc
  have hmx : mx = none := by cases mx <;> simp_all
  subst hmx
  split at c0
  · rename_i hu
    have ops : ∀ k, (ox = .tmp k ∨ l = some (.tmp k) ∨ h = some (.tmp k)) → Operand.tmp k ∈ o.op.operands := by
      intro k hk; rw [ho]; simp only [Op.operands]
      rcases hk with hk | hk | hk <;> simp [hk]
    obtain ⟨H, hK, hH0, HH⟩ := bnd_ok hK c3
    obtain ⟨L, ⟨g1, g2, kk⟩, hL0, HL⟩ := bnd_ok hK c2
    refine ⟨_, OpSem.of_pure fun m' h1 ph ρ w a hr hg => ?_, kk⟩
    have r1 := chkX_ok hx (ph := ph) (ρ := ρ) (get := get) (a := a) fun k hk => hg k (ops k (.inl hk))
    rw [ex] at r1
    simp only [RepV, RepC, RepD] at r1
    refine ⟨.string (t.extract L H), ?_, ?_⟩
    · unfold execOp; rw [ho]
      refine Runs.bind ?_ (Runs.pure _)
      show Runs P (Instr.sliceAt T (a.eval ox) (l.map a.eval) (h.map a.eval) none) w _ w
      rw [r1.1]
      unfold Instr.sliceAt
      refine (Runs.underlying hu).bind ?_
      unfold Instr.slice
      refine (Runs.underlying hu).bind ?_
      refine (runs_sliceBounds (l := L) (h := H) ?_ (fun hh => hL0 (opt_none hh)) ?_ (fun hh => hH0 (opt_none hh)) g1 g2).bind ?_
      · intro y hy
        cases hl : l with
        | none => rw [hl] at hy; cases hy
        | some z =>
          rw [hl] at hy
          simp only [Option.map_some, Option.some.injEq] at hy
          subst hy
          exact HL (fun k hk => hg k (ops k (.inr (.inl hk)))) z hl
      · intro y hy
        cases hh : h with
        | none => rw [hh] at hy; cases hy
        | some z =>
          rw [hh] at hy
          simp only [Option.map_some, Option.some.injEq] at hy
          subst hy
          exact HH (fun k hk => hg k (ops k (.inr (.inr hk)))) z hh
      exact Runs.pure _
    · simp only [RepV, RepC]
      unfold RepD
      refine ⟨rfl, ?_⟩
      have := r1.2
      rw [ByteArray.size_extract]
      omega
  · cases c0

end
end Go.Abs
