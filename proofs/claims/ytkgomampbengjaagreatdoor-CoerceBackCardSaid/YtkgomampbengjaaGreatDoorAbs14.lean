/- The abstract operations (10): functions, calls; and all of them together. -/
import Derived.Test.YtkgomampbengjaaGreatDoorAbsC
import Derived.KernelRfl
set_option linter.unusedVariables false
set_option linter.unusedSimpArgs false
namespace Go.Abs

section
variable {P : Program} {get : Nat → AV} {m : Hp} {n : Nat}

theorem capsC_ok {ph : PH} {ρ : RM} {a : Act} : ∀ {xs : List MX} {os : List Operand} {cs : List AC}, chkXs xs os = true → (∀ k, Operand.tmp k ∈ os → RepV ph ρ (get k) (a.tmps.getD k undef)) → capsC get xs = some cs →
    RepCL ph ρ cs (os.map a.eval) ∧ (os.map a.eval).length = cs.length
  | [], [], cs, _, _, e => by simp only [capsC] at e; cases e; simp [RepCL]
  | [], _ :: _, _, h, _, _ => by simp [chkXs] at h
  | _ :: _, [], _, h, _, _ => by simp [chkXs] at h
  | x :: xs, o :: os, cs, h, hg, e => by
    simp only [chkXs, Bool.and_eq_true] at h
    simp only [capsC] at e
    split at e
    · rename_i c r h1 h2
      split at e
      · rename_i h3
        cases e
        have r1 := chkX_ok h.1 (ph := ph) (ρ := ρ) (get := get) (a := a) fun k hk => hg k (by simp [hk])
        rw [h1] at r1
        simp only [RepV] at r1
        obtain ⟨i1, i2⟩ := capsC_ok h.2 (fun k hk => hg k (by simp [hk])) h2
        simp only [List.map_cons, RepCL, List.length_cons]
        exact ⟨⟨⟨AC.one_ok r1 h3, r1⟩, i1⟩, by rw [i2]⟩
      · cases e
    · cases e

theorem sem_mkfn {o : Oper} {fn : Fn} {f : FuncId} {first captured : Array Operand} {caps : List MX} (ho : o.op = .makeFunc fn first captured) (hc : chkOp P (.mkfn f caps) (.makeFunc fn first captured) = true) {cs : List AC} (e : capsC get caps = some cs) :
    OpSem P o get m [] [] (.c (.fn (.func f) cs)) := by
  simp only [chkOp, Bool.and_eq_true] at hc
  obtain ⟨⟨c0, c1⟩, c2⟩ := hc
  split at c0
  · rename_i g
    simp only [beq_iff_eq] at c0
    subst c0
    refine OpSem.of_pure fun m' h1 ph ρ w a hr hg => ?_
    obtain ⟨i1, i2⟩ := capsC_ok (ph := ph) (ρ := ρ) (a := a) c2 (fun k hk => hg k (by rw [ho]; simp only [Op.operands]; simp at hk ⊢; exact .inr hk)) e
    have hfirst : first = #[] := by simpa using c1
    refine ⟨.func (.func f) #[] (captured.map a.eval), ?_, ?_⟩
    · unfold execOp; rw [ho]
      refine Runs.bind ?_ (Runs.pure _)
      show Runs P (Instr.makeFunc (.func f) (first.map a.eval) (captured.map a.eval)) w _ w
      rw [hfirst]
      unfold Instr.makeFunc
      simp only [List.map_toArray, List.map_nil]
      exact Runs.pure _
    · simp only [RepV, RepC]
      refine ⟨captured.toList.map a.eval, ?_, i2, i1⟩
      congr 1
      apply Array.ext'; simp
  · cases c0

theorem fn_D {ph : PH} {ρ : RM} {f : Fn} {ds : List D} {v : Value} (r : RepV ph ρ (.c (.fn f (ds.map .d))) v) : RepV ph ρ (.c (.d (.fn f ds))) v := by
  simp only [RepV, RepC, RepD] at r ⊢
  obtain ⟨vs, e1, e2, e3⟩ := r
  exact ⟨vs, e1, by simpa using e2, RepCL.to_D e3⟩

theorem OpSem.weaken {o : Oper} {rd : List Nat} {wr : List (Nat × Blk)} {v v' : AV} (h : OpSem P o get m rd wr v) (hv : ∀ {ph : PH} {ρ : RM} {x : Value}, RepV ph ρ v x → RepV ph ρ v' x) : OpSem P o get m rd wr v' :=
  fun m' h1 h2 ph ρ w a hr hG hg next Q hn => h m' h1 h2 ph ρ w a hr hG hg next Q fun h' ρ' w' vC s k e p => hn h' ρ' w' vC s k e (hv p)

/-- a call that only takes and gives data -/
theorem sem_pcall {o : Oper} {f : FuncId} {ds : List DV} {v : DV} (hp : PCall P f ds v) (H : ∀ (ph : PH) (ρ : RM) (w : World) (a : Act), (∀ k, Operand.tmp k ∈ o.op.operands → RepV ph ρ (get k) (a.tmps.getD k undef)) →
    ∃ args : List Value, RepDVL ph ds args ∧ Runs P (execOp a.eval o) w (.enter f args.toArray) w) : OpSem P o get m [] [] v.av := by
  intro m' h1 h2 ph ρ w a hr hG hg next Q hn
  obtain ⟨args, ra, hrun⟩ := H ph ρ w a hg
  obtain ⟨_, hp⟩ := hp
  unfold Oper.wp
  rw [show (execOp a.eval o).run P w = .ok (.enter f args.toArray) w from hrun]
  rw [Oper.upon_enter]
  refine (hp ph w args hr.pers hG ra).mono fun e w' hh => ?_
  obtain ⟨vC, h', e1, e2, e3, e4, e5, e6, e7, e8⟩ := hh
  subst e1
  have K : HRel h' ρ m' w'.heap := hr.grow e2 e4 (fun B hB _ => ⟨e6 B hB, e3 B hB⟩)
  have S : Step ph ρ m' w.heap h' ρ m' w'.heap := ⟨e2, fun B hB _ => e3 B hB, RM.le_refl ρ, e5, fun B hB _ => e6 B hB, fun b p hp hr => .inr ⟨b, p, hp, hr, rfl⟩⟩
  exact hn h' ρ w' vC S K e7 (RepDV.av e8)

theorem runs_callFunc {f : FuncId} {args : Array Value} {w : World} (h : callee P f = true) : Runs P (callFunc f args) w (.enter f args) w := by
  unfold callee at h
  unfold callFunc
  refine Runs.program.bind ?_
  split at h
  · rename_i fn hfn
    simp only [Bool.and_eq_true, bne_iff_ne, ne_eq] at h
    rw [hfn]
    dsimp only
    rw [if_neg (by simpa using h.1), if_neg (by
      have := h.2
      cases hb : fn.body <;> simp_all)]
    exact Runs.pure _
  · cases h

theorem RepDVL.length {h : PH} : ∀ {xs : List DV} {vs : List Value}, RepDVL h xs vs → vs.length = xs.length
  | [], vs, r => by simp [RepDVL] at r; simp [r]
  | _ :: _, [], r => by simp [RepDVL] at r
  | x :: xs, v :: vs, r => by simp only [RepDVL] at r; simp [RepDVL.length r.2]

theorem RepDVL.append {h : PH} : ∀ {xs : List DV} {vs : List Value} {ys : List DV} {us : List Value}, RepDVL h xs vs → RepDVL h ys us → RepDVL h (xs ++ ys) (vs ++ us)
  | [], vs, ys, us, r, r' => by simp [RepDVL] at r; subst r; simpa using r'
  | _ :: _, [], _, _, r, _ => by simp [RepDVL] at r
  | x :: xs, v :: vs, ys, us, r, r' => by
    simp only [RepDVL, List.cons_append] at r ⊢
    exact ⟨r.1, RepDVL.append r.2 r'⟩

theorem RepL.ones {h : PH} : ∀ {ds : List D} {vs : List Value}, RepL h ds vs → vs.length = ds.length → RepDVL h (ds.map .one) vs
  | [], [], _, _ => by simp [RepDVL]
  | [], _ :: _, _, e => by simp at e
  | _ :: _, [], r, _ => by simp [RepL] at r
  | d :: ds, v :: vs, r, e => by
    simp only [RepL] at r
    simp only [List.map_cons, RepDVL, RepDV]
    exact ⟨r.1.2, RepL.ones r.2 (by simpa using e)⟩

theorem sem_call {o : Oper} {c : Call} {f : FuncId} {xs : List MX} (ho : o.op = .call c) (hc : chkOp P (.call f xs) (.call c) = true) {ds : List DV} (e : toDVs (xs.map (X get)) = some ds) {v : DV} (hp : PCall P f ds v) : OpSem P o get m [] [] v.av := by
  simp only [chkOp, Bool.and_eq_true] at hc
  obtain ⟨c0, c1⟩ := hc
  split at c0
  · rename_i g hg
    simp only [beq_iff_eq] at c0
    subst c0
    refine sem_pcall hp fun ph ρ w a hr => ?_
    have rv := chkXs_ok c1 (ph := ph) (ρ := ρ) (get := get) (a := a) fun k hk => hr k (by rw [ho]; simp [Op.operands, Call.operands, hg]; simpa using hk)
    refine ⟨_, toDVs_ok e rv, ?_⟩
    unfold execOp; rw [ho]
    show Runs P (do let d ← resolve a.eval c o.type; invoke d.target d.args) w _ w
    unfold resolve
    rw [hg]
    refine (Runs.pure _).bind ?_
    have e1 : (c.args.toList.map a.eval).toArray = c.args.map a.eval := by apply Array.ext'; simp
    rw [e1]
    simp only [invoke, Array.empty_append, Array.append_empty]
    have := runs_callFunc (w := w) (args := c.args.map a.eval) hp.1
    simpa using this
  · cases c0

theorem sem_calld {o : Oper} {c : Call} {x : MX} {xs : List MX} (ho : o.op = .call c) (hc : chkOp P (.calld x xs) (.call c) = true) {f : FuncId} {caps : List D} (ex : X get x = .c (.d (.fn (.func f) caps))) {ds : List DV}
    (e : toDVs (xs.map (X get)) = some ds) {v : DV} (hp : PCall P f (ds ++ caps.map .one) v) : OpSem P o get m [] [] v.av := by
  simp only [chkOp, Bool.and_eq_true] at hc
  obtain ⟨c0, c1⟩ := hc
  split at c0
  · rename_i ox hg
    refine sem_pcall hp fun ph ρ w a hr => ?_
    have rv := chkXs_ok c1 (ph := ph) (ρ := ρ) (get := get) (a := a) fun k hk => hr k (by rw [ho]; simp [Op.operands, Call.operands, hg]; exact .inr (by simpa using hk))
    have r1 := chkX_ok c0 (ph := ph) (ρ := ρ) (get := get) (a := a) fun k hk => hr k (by rw [ho]; simp [Op.operands, Call.operands, hg, hk])
    rw [ex] at r1
    simp only [RepV, RepC, RepD] at r1
    obtain ⟨vs, q1, q2, q3⟩ := r1
    refine ⟨c.args.toList.map a.eval ++ vs, (toDVs_ok e rv).append (RepL.ones q3 q2), ?_⟩
    unfold execOp; rw [ho]
    show Runs P (do let d ← resolve a.eval c o.type; invoke d.target d.args) w _ w
    unfold resolve
    rw [hg]
    simp only [q1, Deferred.ofValue]
    refine (Runs.pure _).bind ?_
    have e1 : (c.args.toList.map a.eval ++ vs).toArray = c.args.map a.eval ++ vs.toArray := by apply Array.ext'; simp
    rw [e1]
    simp only [invoke, Array.empty_append]
    exact runs_callFunc (w := w) (args := c.args.map a.eval ++ vs.toArray) hp.1
  · cases c0

theorem cmp_find1 : Extern.allGenericRows.lookup cmpName = none := by kernel_rfl
theorem cmp_find2 : Extern.allTypedRows.lookup cmpName = none := by kernel_rfl
theorem cmp_find3 : Extern.allRows.lookup cmpName = some Extern.BytealgCompare.compare := by kernel_rfl
theorem cmp_find {fn : Func} (h : fn.name = cmpName) : Extern.find fn = some Extern.BytealgCompare.compare := by
  unfold Extern.find
  rw [h]
  dsimp only
  rw [cmp_find1, cmp_find2, cmp_find3]
  rfl

theorem compareBytes_range : ∀ (a b : List UInt8), -1 ≤ Lib.compareBytes a b ∧ Lib.compareBytes a b ≤ 1
  | [], [] => by simp [Lib.compareBytes]
  | [], _ :: _ => by simp [Lib.compareBytes]
  | _ :: _, [] => by simp [Lib.compareBytes]
  | a :: as, b :: bs => by
    unfold Lib.compareBytes
    have := compareBytes_range as bs
    split
    · omega
    · split
      · omega
      · exact this

theorem sem_cmpS {o : Oper} {c : Call} {f : FuncId} {x y : MX} (ho : o.op = .call c) (hc : chkOp P (.cmpS f x y) (.call c) = true) {s t : ByteArray} (ex : X get x = .c (.d (.str s))) (ey : X get y = .c (.d (.str t))) :
    OpSem P o get m [] [] (.c (.d (.int .i64 (Lib.compareBytes s.data.toList t.data.toList)))) := by
  simp only [chkOp] at hc
  split at hc
  · rename_i g ox oy hg ha
    simp only [Bool.and_eq_true, beq_iff_eq] at hc
    obtain ⟨⟨⟨c0, c1⟩, c2⟩, c3⟩ := hc
    subst c0
    have hargs : c.args = #[ox, oy] := by rw [← Array.toArray_toList (xs := c.args), ha]
    split at c1
    · rename_i fn hfn
      simp only [Bool.and_eq_true, beq_iff_eq] at c1
      refine OpSem.of_pure fun m' h1 ph ρ w a hr hgg => ?_
      have r1 := chkX_ok c2 (ph := ph) (ρ := ρ) (get := get) (a := a) fun k hk => hgg k (by rw [ho]; simp [Op.operands, Call.operands, hg, hargs, hk])
      have r2 := chkX_ok c3 (ph := ph) (ρ := ρ) (get := get) (a := a) fun k hk => hgg k (by rw [ho]; simp [Op.operands, Call.operands, hg, hargs, hk])
      rw [ex] at r1
      rw [ey] at r2
      simp only [RepV, RepC, RepD] at r1 r2
      refine ⟨.int .i64 (Lib.compareBytes s.data.toList t.data.toList), ?_, ?_⟩
      · unfold execOp; rw [ho]
        show Runs P (do let d ← resolve a.eval c o.type; invoke d.target d.args) w _ w
        unfold resolve
        rw [hg, hargs]
        refine (Runs.pure _).bind ?_
        simp only [invoke, List.map_toArray, List.map_cons, List.map_nil, Array.append_empty]
        rw [r1.1, r2.1]
        obtain ⟨⟨d1, d2⟩, d3⟩ := c1
        have hn : Extern.findNext fn = none := by simpa using d3
        have := run_callFunc_extern (w := w) hfn (by rw [d1]; decide) d2 hn (cmp_find d1) #[.string s, .string t]
        rw [Lib.run_compareString] at this
        exact this
      · simp only [RepV, RepC]
        unfold RepD
        have := compareBytes_range s.data.toList t.data.toList
        refine ⟨rfl, ?_, ?_⟩
        · simp only [IntKind.min, IntKind.signed, IntKind.bits]; simp; omega
        · simp only [IntKind.max, IntKind.signed, IntKind.bits]; simp; omega
    · cases c1
  · cases hc


theorem RepV.no_agg {ph : PH} {ρ : RM} {x : AC} {v : Value} (h1 : x.one = true) (r : RepV ph ρ (.c x) v) (c : Array Value) : v ≠ .agg c := by
  simp only [RepV] at r
  have := AC.one_ok r h1
  intro h; rw [h] at this; cases this

theorem binI_H {op : BinOp} {T : TypeId} {k : IntKind} {i j : Int} {x y : MX} {d : D} (ex : X get x = .c (.d (.int k i))) (ey : X get y = .c (.d (.int k j))) (H : ∀ (ph : PH) (w : World), k.min ≤ i ∧ i ≤ k.max → k.min ≤ j ∧ j ≤ k.max → ∃ v, Runs P (binOp op T (.int k i) (.int k j)) w v w ∧ RepD ph d v)
    (ph : PH) (ρ : RM) (a b : Value) (w : World) (ra : RepV ph ρ (X get x) a) (rb : RepV ph ρ (X get y) b) : ¬ (a = .nilIface ∧ b = .nilIface) ∧ (∀ c d, ¬ (a = .agg c ∧ b = .agg d)) ∧ ∃ v, Runs P (binOp op T a b) w v w ∧ RepD ph d v := by
  rw [ex] at ra
  rw [ey] at rb
  simp only [RepV, RepC, RepD] at ra rb
  rw [ra.1, rb.1]
  exact ⟨(by rintro ⟨h, _⟩; cases h), (by rintro c d ⟨h, _⟩; cases h), H ph w ra.2 rb.2⟩

/-- ALL OF THEM: what the abstract operation does, the program's own does -/
theorem ev_ok {K : AV → List Nat → List (Nat × Blk) → Nat → Prop} {mo : MOp} {o : Oper} (hc : chkOp P mo o.op = true) (hK : ev P get m n K mo) : ∃ v rd wr n', OpSem P o get m rd wr v ∧ K v rd wr n' := by
  cases mo with
  | mv x =>
    cases ho : o.op <;> rw [ho] at hc <;> first | (simp [chkOp] at hc; done) | skip
    · exact ⟨_, _, _, _, sem_mv (.inl ho) (by simpa [chkOp] using hc), hK⟩
    · exact ⟨_, _, _, _, sem_mv (.inr ho) (by simpa [chkOp] using hc), hK⟩
  | pick c a b =>
    cases ho : o.op <;> rw [ho] at hc <;> first | (simp [chkOp] at hc; done) | skip
    simp only [chkOp, Bool.and_eq_true] at hc
    simp only [ev] at hK
    split at hK
    · rename_i t et
      refine ⟨_, [], [], n, sem_pick ho hc.1.1 hc.1.2 hc.2 et, ?_⟩
      cases t
      · exact hK.2 rfl
      · exact hK.1 rfl
    · exact hK.elim
  | binI op x y =>
    cases ho : o.op <;> rw [ho] at hc <;> first | (simp [chkOp] at hc; done) | skip
    simp only [chkOp, Bool.and_eq_true, decide_eq_true_eq] at hc
    obtain ⟨⟨c0, c1⟩, c2⟩ := hc
    subst c0
    simp only [ev] at hK
    split at hK
    · rename_i k i k' j ex ey
      obtain ⟨k1, hK⟩ := hK
      subst k1
      split at hK
      · rename_i d hd
        exact ⟨_, _, _, _, sem_bin ho c1 c2 (binI_H ex ey fun ph w _ _ => evI_ok hd _ ph), hK⟩
      · exact hK.elim
    · exact hK.elim
  | divI op x y =>
    cases ho : o.op <;> rw [ho] at hc <;> first | (simp [chkOp] at hc; done) | skip
    simp only [chkOp, Bool.and_eq_true, decide_eq_true_eq, Bool.or_eq_true] at hc
    obtain ⟨⟨⟨c0, c3⟩, c1⟩, c2⟩ := hc
    subst c0
    simp only [ev] at hK
    split at hK
    · rename_i k i k' j ex ey
      obtain ⟨k1, k2, hK⟩ := hK
      subst k1
      refine ⟨_, [], [], n, sem_bin ho c1 c2 (binI_H ex ey fun ph w h1 h2 => divI_ok c3 k2 h1 h2 _ ph), ?_⟩
      rcases c3 with rfl | rfl
      · rw [if_pos rfl]; exact hK
      · rw [if_neg (by decide)]; exact hK
    · exact hK.elim
  | binS op x y =>
    cases ho : o.op <;> rw [ho] at hc <;> first | (simp [chkOp] at hc; done) | skip
    simp only [chkOp, Bool.and_eq_true, decide_eq_true_eq] at hc
    obtain ⟨⟨c0, c1⟩, c2⟩ := hc
    subst c0
    simp only [ev] at hK
    split at hK
    · rename_i i j ex ey
      split at hK
      · rename_i d hd
        refine ⟨_, _, _, _, sem_bin ho c1 c2 (fun ph ρ a b w ra rb => ?_), hK⟩
        rw [ex] at ra
        rw [ey] at rb
        simp only [RepV, RepC, RepD] at ra rb
        rw [ra.1, rb.1]
        exact ⟨(by rintro ⟨h, _⟩; cases h), (by rintro c d ⟨h, _⟩; cases h), evS_ok hd _ ph⟩
      · exact hK.elim
    · exact hK.elim
  | cat x y =>
    cases ho : o.op <;> rw [ho] at hc <;> first | (simp [chkOp] at hc; done) | skip
    simp only [chkOp, Bool.and_eq_true, decide_eq_true_eq] at hc
    obtain ⟨⟨c0, c1⟩, c2⟩ := hc
    subst c0
    simp only [ev] at hK
    split at hK
    · rename_i i j ex ey
      obtain ⟨k1, hK⟩ := hK
      refine ⟨_, _, _, _, sem_bin ho c1 c2 (fun ph ρ a b w ra rb => ?_), hK⟩
      rw [ex] at ra
      rw [ey] at rb
      simp only [RepV, RepC, RepD] at ra rb
      rw [ra.1, rb.1]
      exact ⟨(by rintro ⟨h, _⟩; cases h), (by rintro c d ⟨h, _⟩; cases h), cat_ok k1 _ ph⟩
    · exact hK.elim
  | binB op x y =>
    cases ho : o.op <;> rw [ho] at hc <;> first | (simp [chkOp] at hc; done) | skip
    simp only [chkOp, Bool.and_eq_true, decide_eq_true_eq] at hc
    obtain ⟨⟨⟨c0, c3⟩, c1⟩, c2⟩ := hc
    subst c0
    split at c3
    · rename_i hT
      simp only [ev] at hK
      split at hK
      · rename_i i j ex ey
        split at hK
        · rename_i d hd
          refine ⟨_, _, _, _, sem_bin ho c1 c2 (fun ph ρ a b w ra rb => ?_), hK⟩
          rw [ex] at ra
          rw [ey] at rb
          simp only [RepV, RepC, RepD] at ra rb
          rw [ra, rb]
          exact ⟨(by rintro ⟨h, _⟩; cases h), (by rintro c d ⟨h, _⟩; cases h), evB_ok hd hT ph⟩
        · exact hK.elim
      · exact hK.elim
    · cases c3
  | not x =>
    cases ho : o.op <;> rw [ho] at hc <;> first | (simp [chkOp] at hc; done) | skip
    simp only [chkOp, Bool.and_eq_true, decide_eq_true_eq] at hc
    obtain ⟨c0, c1⟩ := hc
    subst c0
    simp only [ev] at hK
    split at hK
    · rename_i i ex
      refine ⟨_, _, _, _, sem_un ho c1 (fun ph ρ a w ra => ?_), hK⟩
      rw [ex] at ra
      simp only [RepV, RepC, RepD] at ra
      rw [ra]
      exact ⟨_, Runs.pure _, rfl⟩
    · exact hK.elim
  | neg x =>
    cases ho : o.op <;> rw [ho] at hc <;> first | (simp [chkOp] at hc; done) | skip
    simp only [chkOp, Bool.and_eq_true, decide_eq_true_eq] at hc
    obtain ⟨c0, c1⟩ := hc
    subst c0
    simp only [ev] at hK
    split at hK
    · rename_i k i ex
      refine ⟨_, _, _, _, sem_un ho c1 (fun ph ρ a w ra => ?_), hK⟩
      rw [ex] at ra
      simp only [RepV, RepC, RepD] at ra
      rw [ra.1]
      refine ⟨_, Runs.pure _, ?_⟩
      unfold RepD
      exact ⟨rfl, wrap_range _ _⟩
    · exact hK.elim
  | convI k x =>
    cases ho : o.op <;> rw [ho] at hc <;> first | (simp [chkOp] at hc; done) | skip
    rename_i S U ox
    simp only [chkOp, Bool.and_eq_true] at hc
    obtain ⟨⟨c0, c1⟩, c2⟩ := hc
    split at c0
    · rename_i k' hU
      simp only [decide_eq_true_eq] at c0
      subst c0
      split at c1
      · rename_i d hS
        simp only [ev] at hK
        split at hK
        · rename_i k' i ex
          refine ⟨_, _, _, _, OpSem.of_pure fun m' h1 ph ρ w a hr hg => ?_, hK⟩
          have r1 := chkX_ok c2 (ph := ph) (ρ := ρ) (get := get) (a := a) fun k hk => hg k (by rw [ho]; simp [Op.operands, hk])
          rw [ex] at r1
          simp only [RepV, RepC, RepD] at r1
          refine ⟨.int k (k.wrap i), ?_, ?_⟩
          · unfold execOp; rw [ho]
            refine Runs.bind ?_ (Runs.pure _)
            show Runs P (convert S U (a.eval ox)) w _ w
            rw [r1.1]
            exact Runs.convert_int hS hU
          · simp only [RepV, RepC]
            unfold RepD
            exact ⟨rfl, wrap_range _ _⟩
        · exact hK.elim
      · cases c1
    · cases c0
  | boxP x =>
    cases ho : o.op <;> rw [ho] at hc <;> first | (simp [chkOp] at hc; done) | skip
    simp only [ev] at hK
    split at hK
    · rename_i ds e
      exact ⟨_, _, _, _, sem_box ho (by simpa [chkOp] using hc) e, hK⟩
    · exact hK.elim
  | boxM x =>
    cases ho : o.op <;> rw [ho] at hc <;> first | (simp [chkOp] at hc; done) | skip
    simp only [ev] at hK
    split at hK
    · rename_i cs e
      exact ⟨_, _, _, _, sem_boxM ho (by simpa [chkOp] using hc) e hK.1, hK.2⟩
    · exact hK.elim
  | alloc z =>
    cases ho : o.op <;> rw [ho] at hc <;> first | (simp [chkOp] at hc; done) | skip
    simp only [chkOp] at hc
    split at hc
    · rename_i i hi
      simp only [Bool.and_eq_true] at hc
      simp only [ev] at hK
      exact ⟨_, _, _, _, sem_alloc ho hi hc.1 hc.2 hK.1, hK.2⟩
    · cases hc
  | build z ps =>
    cases ho : o.op <;> rw [ho] at hc <;> first | (simp [chkOp] at hc; done) | skip
    simp only [ev] at hK
    split at hK
    · rename_i cs e
      exact ⟨_, _, _, _, sem_build ho hc e, hK⟩
    · exact hK.elim
  | buildSl s xs =>
    cases ho : o.op <;> rw [ho] at hc <;> first | (simp [chkOp] at hc; done) | skip
    simp only [ev] at hK
    split at hK
    · rename_i es e
      exact ⟨_, _, _, _, sem_buildSl ho hc e, hK⟩
    · exact hK.elim
  | buildSlM s xs =>
    cases ho : o.op <;> rw [ho] at hc <;> first | (simp [chkOp] at hc; done) | skip
    simp only [ev] at hK
    split at hK
    · rename_i es e
      exact ⟨_, _, _, _, sem_buildSlM ho (by simpa only [chkOp] using hc) e hK.1, hK.2⟩
    · exact hK.elim
  | load ag sz x =>
    cases ho : o.op <;> rw [ho] at hc <;> first | (simp [chkOp] at hc; done) | skip
    simp only [chkOp, Bool.and_eq_true, beq_iff_eq] at hc
    obtain ⟨v, rd, h1, h2⟩ := sem_load (m := m) (K := fun v rd => K v rd [] n) ho hc.1 hc.2 hK
    exact ⟨v, rd, [], n, h1, h2⟩
  | store sz x y =>
    cases ho : o.op <;> rw [ho] at hc <;> first | (simp [chkOp] at hc; done) | skip
    simp only [chkOp, Bool.and_eq_true] at hc
    obtain ⟨⟨c0, c1⟩, c2⟩ := hc
    split at c0
    · rename_i i hi
      simp only [Bool.and_eq_true, beq_iff_eq, decide_eq_true_eq] at c0
      obtain ⟨wr, h1, h2⟩ := sem_store (m := m) (K := fun wr => K (.c (.d .any)) [] wr n) ho hi c0.1 c0.2 c1 c2 hK
      exact ⟨_, [], wr, n, h1, h2⟩
    · cases c0
  | faddr off x =>
    cases ho : o.op <;> rw [ho] at hc <;> first | (simp [chkOp] at hc; done) | skip
    obtain ⟨v, h1, h2⟩ := sem_faddr (m := m) (K := fun v => K v [] [] n) ho hc hK
    exact ⟨v, [], [], n, h1, h2⟩
  | field ag off sz x =>
    cases ho : o.op <;> rw [ho] at hc <;> first | (simp [chkOp] at hc; done) | skip
    simp only [ev] at hK
    split at hK
    · rename_i cs ex
      obtain ⟨v, h1, h2⟩ := sem_field (m := m) (K := fun v => K v [] [] n) ho hc ex hK
      exact ⟨v, [], [], n, h1, h2⟩
    · exact hK.elim
  | iaddrS s x i =>
    cases ho : o.op <;> rw [ho] at hc <;> first | (simp [chkOp] at hc; done) | skip
    obtain ⟨v, h1, h2⟩ := sem_iaddrS (m := m) (K := fun v => K v [] [] n) ho hc hK
    exact ⟨v, [], [], n, h1, h2⟩
  | iaddrA len s x i =>
    cases ho : o.op <;> rw [ho] at hc <;> first | (simp [chkOp] at hc; done) | skip
    obtain ⟨v, h1, h2⟩ := sem_iaddrA (m := m) (K := fun v => K v [] [] n) ho hc hK
    exact ⟨v, [], [], n, h1, h2⟩
  | idxA ag len s x i =>
    cases ho : o.op <;> rw [ho] at hc <;> first | (simp [chkOp] at hc; done) | skip
    simp only [ev] at hK
    split at hK
    · rename_i cs k j ex ei
      obtain ⟨v, h1, h2⟩ := sem_idxA (m := m) (K := fun v => K v [] [] n) ho hc ex ei hK.1 hK.2.1 hK.2.2
      exact ⟨v, [], [], n, h1, h2⟩
    · exact hK.elim
  | idxS x i =>
    cases ho : o.op <;> rw [ho] at hc <;> first | (simp [chkOp] at hc; done) | skip
    simp only [ev] at hK
    split at hK
    · rename_i t k j ex ei
      obtain ⟨k1, hK⟩ := hK
      split at hK
      · rename_i b hb
        exact ⟨_, _, _, _, sem_idxS ho hc ex ei k1 hb, hK⟩
      · exact hK.elim
    · exact hK.elim
  | len x =>
    cases ho : o.op <;> rw [ho] at hc <;> first | (simp [chkOp] at hc; done) | skip
    obtain ⟨v, rd, h1, h2⟩ := sem_len (m := m) (K := fun v rd => K v rd [] n) ho hc hK
    exact ⟨v, rd, [], n, h1, h2⟩
  | lenS x =>
    cases ho : o.op <;> rw [ho] at hc <;> first | (simp [chkOp] at hc; done) | skip
    simp only [ev] at hK
    split at hK
    · rename_i t ex
      exact ⟨_, _, _, _, sem_lenS ho hc ex, hK⟩
    · exact hK.elim
  | nilck x =>
    cases ho : o.op <;> rw [ho] at hc <;> first | (simp [chkOp] at hc; done) | skip
    rename_i ox
    have hx : chkX x ox = true := by simpa only [chkOp] using hc
    simp only [ev] at hK
    split at hK
    · rename_i b q ex
      refine ⟨_, _, _, _, sem_nilck ho hx (fun {ph ρ v} r => ?_), by rw [ex]; exact hK⟩
      rw [ex] at r; simp only [RepV, RepC] at r
      obtain ⟨p, _, e⟩ := r; exact ⟨_, e⟩
    · rename_i s b i q ex
      refine ⟨_, _, _, _, sem_nilck ho hx (fun {ph ρ v} r => ?_), by rw [ex]; exact hK⟩
      rw [ex] at r; simp only [RepV, RepC] at r
      obtain ⟨p, _, e⟩ := r; exact ⟨_, e⟩
    · rename_i cs q ex
      refine ⟨_, _, _, _, sem_nilck ho hx (fun {ph ρ v} r => ?_), by rw [ex]; exact hK⟩
      rw [ex] at r; simp only [RepV, RepC, RepD] at r
      obtain ⟨B, p, e, _⟩ := r; exact ⟨_, e⟩
    · exact hK.elim
  | extract x i =>
    cases ho : o.op <;> rw [ho] at hc <;> first | (simp [chkOp] at hc; done) | skip
    simp only [chkOp, Bool.and_eq_true, beq_iff_eq] at hc
    obtain ⟨c0, c1⟩ := hc
    subst c0
    simp only [ev] at hK
    split at hK
    · rename_i vs ex
      split at hK
      · rename_i v hv
        exact ⟨_, _, _, _, sem_extract ho c1 ex hv, hK⟩
      · exact hK.elim
    · exact hK.elim
  | slice s x lo hi =>
    cases ho : o.op <;> rw [ho] at hc <;> first | (simp [chkOp] at hc; done) | skip
    obtain ⟨v, h1, h2⟩ := sem_slice (m := m) (K := fun v => K v [] [] n) ho hc hK
    exact ⟨v, [], [], n, h1, h2⟩
  | slice00 s x =>
    cases ho : o.op <;> rw [ho] at hc <;> first | (simp [chkOp] at hc; done) | skip
    simp only [ev] at hK
    split at hK
    · rename_i fl s' es ex
      exact ⟨_, _, _, _, sem_slice00 ho hc ex, hK⟩
    · exact hK.elim
  | sliceS x lo hi =>
    cases ho : o.op <;> rw [ho] at hc <;> first | (simp [chkOp] at hc; done) | skip
    simp only [ev] at hK
    split at hK
    · rename_i t ex
      obtain ⟨v, h1, h2⟩ := sem_sliceS (m := m) (K := fun v => K v [] [] n) ho hc ex hK
      exact ⟨v, [], [], n, h1, h2⟩
    · exact hK.elim
  | append s bytes x y =>
    cases ho : o.op <;> rw [ho] at hc <;> first | (simp [chkOp] at hc; done) | skip
    simp only [chkOp] at hc
    split at hc
    · rename_i ox oy T T' hb ha hta
      simp only [Bool.and_eq_true, Bool.not_eq_true'] at hc
      obtain ⟨⟨⟨⟨c0, c1⟩, c2⟩, c3⟩, c4⟩ := hc
      split at c4
      · rename_i i hi
        simp only [Bool.and_eq_true, beq_iff_eq, decide_eq_true_eq] at c4
        obtain ⟨⟨⟨⟨⟨⟨d1, d2⟩, d3⟩, d4⟩, d5⟩, d6⟩, d7⟩ := c4
        obtain ⟨v, rd, wr, h1, h2⟩ := sem_append (m := m) (n := n) (K := fun v rd wr => K v rd wr (n + 1)) ho hb ha hta c0 c1 c2 c3 hi d1 d2 d3 d4 d5 d6 d7 hK
        exact ⟨v, rd, wr, n + 1, h1, h2⟩
      · cases c4
    · cases hc
  | mkfn f caps =>
    cases ho : o.op <;> rw [ho] at hc <;> first | (simp [chkOp] at hc; done) | skip
    simp only [ev] at hK
    split at hK
    · rename_i cs e
      split at hK
      · rename_i ds hd
        have := allD_ok hd
        subst this
        exact ⟨_, _, _, _, (sem_mkfn ho hc e).weaken fn_D, hK⟩
      · exact ⟨_, _, _, _, sem_mkfn ho hc e, hK⟩
    · exact hK.elim
  | call f xs =>
    cases ho : o.op <;> rw [ho] at hc <;> first | (simp [chkOp] at hc; done) | skip
    simp only [ev] at hK
    split at hK
    · rename_i ds e
      obtain ⟨v, hp, hK⟩ := hK
      exact ⟨_, _, _, _, sem_call ho hc e hp, hK⟩
    · exact hK.elim
  | calld x xs =>
    cases ho : o.op <;> rw [ho] at hc <;> first | (simp [chkOp] at hc; done) | skip
    simp only [ev] at hK
    split at hK
    · rename_i f caps ds ex e
      obtain ⟨v, hp, hK⟩ := hK
      exact ⟨_, _, _, _, sem_calld ho hc ex e hp, hK⟩
    · exact hK.elim
  | cmpS f x y =>
    cases ho : o.op <;> rw [ho] at hc <;> first | (simp [chkOp] at hc; done) | skip
    simp only [ev] at hK
    split at hK
    · rename_i s t ex ey
      exact ⟨_, _, _, _, sem_cmpS ho hc ex ey, hK⟩
    · exact hK.elim
  | mkmap =>
    cases ho : o.op <;> rw [ho] at hc <;> first | (simp [chkOp] at hc; done) | skip
    simp only [ev] at hK
    exact ⟨_, _, _, _, sem_mkmap ho (by simpa only [chkOp] using hc) hK.1, hK.2⟩
  | mlook kk ok ag z x k =>
    cases ho : o.op <;> rw [ho] at hc <;> first | (simp [chkOp] at hc; done) | skip
    simp only [ev] at hK
    split at hK
    · rename_i b d ex ek
      split at hK
      · rename_i es em
        split at hK
        · rename_i i v hf
          exact ⟨_, _, _, _, sem_mlook ho hc ex ek em hf, hK⟩
        · rename_i hf
          exact ⟨_, _, _, _, sem_mlook ho hc ex ek em hf, hK⟩
        · exact hK.elim
      · exact hK.elim
    · exact hK.elim
  | mset kk x k v =>
    cases ho : o.op <;> rw [ho] at hc <;> first | (simp [chkOp] at hc; done) | skip
    all_goals
      simp only [chkOp, Bool.and_eq_true] at hc
      simp only [ev] at hK
      split at hK
      · rename_i b d ex ek
        split at hK
        · rename_i es em
          split at hK
          · rename_i i v' hf
            first
              | exact ⟨_, _, _, _, sem_mset (.inl ho) hc.1.1.1 hc.1.1.2 hc.1.2 hc.2 ex ek em hf, hK⟩
              | exact ⟨_, _, _, _, sem_mset (.inr ho) hc.1.1.1 hc.1.1.2 hc.1.2 hc.2 ex ek em hf, hK⟩
          · rename_i hf
            first
              | exact ⟨_, _, _, _, sem_mset (.inl ho) hc.1.1.1 hc.1.1.2 hc.1.2 hc.2 ex ek em hf, hK⟩
              | exact ⟨_, _, _, _, sem_mset (.inr ho) hc.1.1.1 hc.1.1.2 hc.1.2 hc.2 ex ek em hf, hK⟩
          · exact hK.elim
        · exact hK.elim
      · exact hK.elim
  | mdel kk x k =>
    cases ho : o.op <;> rw [ho] at hc <;> first | (simp [chkOp] at hc; done) | skip
    simp only [ev] at hK
    split at hK
    · rename_i b d ex ek
      split at hK
      · rename_i es em
        split at hK
        · rename_i i v' hf
          exact ⟨_, _, _, _, sem_mdel ho hc ex ek em hf, hK⟩
        · rename_i hf
          exact ⟨_, _, _, _, sem_mdel ho hc ex ek em hf, hK⟩
        · exact hK.elim
      · exact hK.elim
    · exact hK.elim
  | mlen x =>
    cases ho : o.op <;> rw [ho] at hc <;> first | (simp [chkOp] at hc; done) | skip
    simp only [ev] at hK
    split at hK
    · rename_i b ex
      split at hK
      · rename_i es em
        exact ⟨_, _, _, _, sem_mlen ho hc ex em hK.1, hK.2⟩
      · exact hK.elim
    · exact hK.elim
  | mksl z bytes x =>
    cases ho : o.op <;> rw [ho] at hc <;> first | (simp [chkOp] at hc; done) | skip
    simp only [ev] at hK
    split at hK
    · rename_i j ex
      exact ⟨_, _, _, _, sem_mksl ho hc ex hK.1 hK.2.1, hK.2.2⟩
    · exact hK.elim
  | mkslM z bytes x y =>
    cases ho : o.op <;> rw [ho] at hc <;> first | (simp [chkOp] at hc; done) | skip
    simp only [ev] at hK
    split at hK
    · rename_i j l ex ey
      exact ⟨_, _, _, _, sem_mkslM ho hc ex ey hK.1 hK.2.1 hK.2.2.1 hK.2.2.2.1, hK.2.2.2.2⟩
    · exact hK.elim
  | minI mx x y =>
    cases ho : o.op <;> rw [ho] at hc <;> first | (simp [chkOp] at hc; done) | skip
    simp only [ev] at hK
    split at hK
    · rename_i k a k' b ex ey
      obtain ⟨rfl, hK⟩ := hK
      exact ⟨_, _, _, _, sem_minI ho hc ex ey, hK⟩
    · exact hK.elim
  | isNilP ne x =>
    cases ho : o.op <;> rw [ho] at hc <;> first | (simp [chkOp] at hc; done) | skip
    simp only [ev] at hK
    split at hK
    · rename_i ex
      exact ⟨_, _, _, _, sem_isNilP ho hc (.inl ⟨ex, rfl⟩), hK⟩
    · rename_i cs off ex
      exact ⟨_, _, _, _, sem_isNilP ho hc (.inr ⟨⟨cs, off, ex⟩, rfl⟩), hK⟩
    · exact hK.elim
  | isNil ne x =>
    cases ho : o.op <;> rw [ho] at hc <;> first | (simp [chkOp] at hc; done) | skip
    simp only [ev] at hK
    split at hK
    · rename_i ex
      exact ⟨_, _, _, _, sem_isNil ho hc ex (.inr ⟨by simp, rfl⟩), hK⟩
    · rename_i ex
      exact ⟨_, _, _, _, sem_isNil ho hc ex (.inl rfl), hK⟩
    · exact hK.elim
  | eqAg ne ks x y =>
    cases ho : o.op <;> rw [ho] at hc <;> first | (simp [chkOp] at hc; done) | skip
    simp only [ev] at hK
    split at hK
    · rename_i cs cs' ex ey
      split at hK
      · rename_i a b ea eb
        split at hK
        · rename_i t ht
          exact ⟨_, _, _, _, sem_eqAg ho hc ex ey ea eb ht, hK⟩
        · exact hK.elim
      · exact hK.elim
    · exact hK.elim
  | callM f xs =>
    cases ho : o.op <;> rw [ho] at hc <;> first | (simp [chkOp] at hc; done) | skip
    simp only [ev, mcallB] at hK
    obtain ⟨l, args, bs, v, bs', hp, hnd, hln, hvs, hal, hlt, hat, hfr, hK⟩ := hK
    refine ⟨_, _, _, _, sem_mcall hp hnd hln hal hlt hat hfr (fun ph ρ w a hg => ?_), hK⟩
    simp only [chkOp, Bool.and_eq_true] at hc
    obtain ⟨c0, c1⟩ := hc
    rename_i c
    split at c0
    · rename_i g hg'
      simp only [beq_iff_eq] at c0
      subst c0
      have rv := chkXs_ok c1 (ph := ph) (ρ := ρ) (get := get) (a := a) fun k hk => hg k (by rw [ho]; simp [Op.operands, Call.operands, hg']; simpa using hk)
      refine ⟨_, hvs ▸ rv, ?_⟩
      unfold execOp; rw [ho]
      show Runs P (do let d ← resolve a.eval c o.type; invoke d.target d.args) w _ w
      unfold resolve
      rw [hg']
      refine (Runs.pure _).bind ?_
      have e1 : (c.args.toList.map a.eval).toArray = c.args.map a.eval := by apply Array.ext'; simp
      rw [e1]
      simp only [invoke, Array.empty_append, Array.append_empty]
      have := runs_callFunc (w := w) (args := c.args.map a.eval) hp.1
      simpa using this
    · cases c0
  | calldM x xs =>
    cases ho : o.op <;> rw [ho] at hc <;> first | (simp [chkOp] at hc; done) | skip
    rename_i c
    simp only [ev] at hK
    have key : ∀ (f : FuncId) (caps : List AC), X get x = .c (.fn (.func f) caps) ∨ (∃ ds, caps = ds.map .d ∧ X get x = .c (.d (.fn (.func f) ds))) → mcallB P f (xs.map (X get) ++ caps.map .c) m n K → ∃ v rd wr n', OpSem P o get m rd wr v ∧ K v rd wr n' := by
      intro f caps hcap hK
      simp only [mcallB] at hK
      obtain ⟨l, args, bs, v, bs', hp, hnd, hln, hvs, hal, hlt, hat, hfr, hK⟩ := hK
      refine ⟨_, _, _, _, sem_mcall hp hnd hln hal hlt hat hfr (fun ph ρ w a hg => ?_), hK⟩
      simp only [chkOp, Bool.and_eq_true] at hc
      obtain ⟨c0, c1⟩ := hc
      split at c0
      · rename_i ox hg'
        have rx := chkX_ok c0 (ph := ph) (ρ := ρ) (get := get) (a := a) fun k hk => hg k (by rw [ho]; simp [Op.operands, Call.operands, hg', hk])
        have rv := chkXs_ok c1 (ph := ph) (ρ := ρ) (get := get) (a := a) fun k hk => hg k (by rw [ho]; simp [Op.operands, Call.operands, hg']; right; simpa using hk)
        have rcap : ∃ vs : List Value, a.eval ox = .func (.func f) #[] vs.toArray ∧ vs.length = caps.length ∧ RepCL ph ρ caps vs := by
          rcases hcap with e | ⟨ds, rfl, e⟩
          · rw [e] at rx; simpa only [RepV, RepC] using rx
          · rw [e] at rx
            simp only [RepV, RepC, RepD] at rx
            obtain ⟨vs, e1, e2, e3⟩ := rx
            exact ⟨vs, e1, by simpa using e2, RepCL.of_D e3⟩
        obtain ⟨vs, e1, e2, e3⟩ := rcap
        have app : ∀ (as : List AV) (us : List Value), RepVL ph ρ as us → ∀ (cs : List AC) (ws : List Value), ws.length = cs.length → RepCL ph ρ cs ws → RepVL ph ρ (as ++ cs.map .c) (us ++ ws) := by
          intro as
          induction as with
          | nil =>
            intro us hu cs
            simp only [RepVL] at hu
            subst hu
            induction cs with
            | nil => intro ws hl _; cases ws <;> simp_all [RepVL]
            | cons c cs ih =>
              intro ws hl hr
              cases ws with
              | nil => simp at hl
              | cons w ws =>
                simp only [RepCL] at hr
                simp only [List.nil_append, List.map_cons, RepVL, RepV]
                exact ⟨hr.1.2, by simpa using ih ws (by simpa using hl) hr.2⟩
          | cons x as ih =>
            intro us hu cs ws hl hr
            cases us with
            | nil => simp [RepVL] at hu
            | cons u us =>
              simp only [RepVL] at hu
              simp only [List.cons_append, RepVL]
              exact ⟨hu.1, ih us hu.2 cs ws hl hr⟩
        refine ⟨_, hvs ▸ app _ _ rv caps vs e2 e3, ?_⟩
        unfold execOp; rw [ho]
        show Runs P (do let d ← resolve a.eval c o.type; invoke d.target d.args) w _ w
        unfold resolve
        rw [hg']
        simp only [e1]
        refine (Runs.pure _).bind ?_
        have e4 : (c.args.toList.map a.eval ++ vs).toArray = c.args.map a.eval ++ vs.toArray := by apply Array.ext'; simp
        rw [e4]
        simp only [invoke, Array.empty_append]
        exact runs_callFunc (w := w) (args := c.args.map a.eval ++ vs.toArray) hp.1
      · cases c0
    split at hK
    · rename_i f caps ex
      exact key f caps (.inl ex) hK
    · rename_i f caps ex
      refine key f (caps.map .d) (.inr ⟨caps, rfl, ex⟩) ?_
      rw [List.map_map]
      exact hK
    · exact hK.elim

end
end Go.Abs
