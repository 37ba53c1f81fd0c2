/- The abstract operations (5): aggregates, addresses, slices, calls. -/
import Derived.Test.YtkgomampbengjaaGreatDoorAbs8
set_option linter.unusedVariables false
set_option linter.unusedSimpArgs false
namespace Go.Abs

section
variable {P : Program} {get : Nat → AV} {m : Hp} {n : Nat}

/-! ### build -/

theorem foldl_splice : ∀ (vs us : List Value) (off k : Nat), off + k + vs.length ≤ us.length →
    (vs.toArray.zipIdx k).foldl (fun cs (x : Value × Nat) => cs.setIfInBounds (off + x.2) x.1) us.toArray = (Abs.splice us (off + k) vs).toArray
  | [], us, off, k, h => by rw [← Array.foldl_toList]; simp [Abs.splice, Array.toList_zipIdx]
  | v :: vs, us, off, k, h => by
    simp only [List.length_cons] at h
    have := foldl_splice vs (us.set (off + k) v) off (k + 1) (by simp; omega)
    simp only [Abs.splice]
    rw [show off + k + 1 = off + (k + 1) from by omega, ← this]
    rw [← Array.foldl_toList, ← Array.foldl_toList]
    simp [Array.toList_zipIdx, List.zipIdx_cons]

theorem fill_ok {ph : PH} {ρ : RM} {a : Act} {pl pl' : Nat → Option (Nat × Nat)} (hpl : ∀ i x, pl i = some x → pl' i = some x) : ∀ {ps : List (Nat × Nat × MX)} {os : List (Nat × Operand)} {cs cs' : List AC} {us : List Value},
    chkPs P pl ps os = true → (∀ k, Operand.tmp k ∈ os.map (·.2) → RepV ph ρ (get k) (a.tmps.getD k undef)) → fillC get cs ps = some cs' → RepCL ph ρ cs us → us.length = cs.length →
    ∃ us', Instr.fill pl' us.toArray (os.map fun x => (x.1, a.eval x.2)) = some us'.toArray ∧ us'.length = cs'.length ∧ RepCL ph ρ cs' us'
  | [], [], cs, cs', us, h, hg, hf, r, hl => by
    simp only [fillC] at hf; cases hf
    exact ⟨us, rfl, hl, r⟩
  | [], _ :: _, _, _, _, h, _, _, _, _ => by simp [chkPs] at h
  | (off, sz, x) :: ps, [], _, _, _, h, _, _, _, _ => by simp [chkPs] at h
  | (off, sz, x) :: ps, (i, o) :: os, cs, cs', us, h, hg, hf, r, hl => by
    simp only [chkPs, Bool.and_eq_true, beq_iff_eq] at h
    obtain ⟨⟨h1, h2⟩, h3⟩ := h
    simp only [fillC] at hf
    split at hf
    · rename_i l hc
      split at hf
      · rename_i hh
        obtain ⟨g1, g2⟩ := hh
        have rv := chkX_ok h2 (ph := ph) (ρ := ρ) (get := get) (a := a) fun k hk => hg k (by simp [hk])
        obtain ⟨vs, c1, c2, c3⟩ := cellsC_ok rv hc
        have hle : off + vs.length ≤ us.length := by omega
        obtain ⟨us', e1, e2, e3⟩ := fill_ok hpl (us := Abs.splice us off vs) h3 (fun k hk => hg k (by simp at hk ⊢; exact .inr hk)) hf
          (by rw [put_eq _ _ _ (by omega)]; exact RepCL.splice r c3 c2) (by rw [splice_length, put_length _ _ _ (by omega), hl])
        refine ⟨us', ?_, e2, e3⟩
        simp only [List.map_cons, Instr.fill, hpl _ _ h1]
        rw [c1]
        simp only [List.size_toArray]
        rw [if_neg (by simp; omega)]
        have := foldl_splice vs us off 0 (by omega)
        simp only [Nat.add_zero] at this
        rw [this]
        exact e1
      · cases hf
    · cases hf

theorem Runs.mapM {α β : Type} {w : World} {f : α → Sem β} {g : α → β} : ∀ (xs : List α), (∀ x, x ∈ xs → Runs P (f x) w (g x) w) → Runs P (xs.mapM f) w (xs.map g) w
  | [], _ => by simp only [List.mapM_nil]; exact Runs.pure _
  | x :: xs, h => by
    rw [List.mapM_cons]
    exact (h x (by simp)).bind ((Runs.mapM xs fun y hy => h y (by simp [hy])).bind (Runs.pure _))

theorem Runs.mapMA {α β : Type} {w : World} {f : α → Sem β} {g : α → β} (xs : Array α) (h : ∀ x, x ∈ xs.toList → Runs P (f x) w (g x) w) : Runs P (xs.mapM f) w (xs.map g) w := by
  rw [Array.mapM_eq_mapM_toList]
  have := (Runs.mapM xs.toList h).map (f := List.toArray)
  have e : (xs.toList.map g).toArray = xs.map g := by apply Array.ext'; simp
  rw [e] at this
  exact this

theorem sem_build {o : Oper} {T : TypeId} {os : Array (Nat × Operand)} {z : List D} {ps : List (Nat × Nat × MX)} (ho : o.op = .build T os) (hc : chkOp P (.build z ps) (.build T os) = true) {cs : List AC}
    (e : fillC get (z.map .d) ps = some cs) : OpSem P o get m [] [] (.ag cs) := by
  refine OpSem.of_pure fun m' h1 ph ρ w a hr hg => ?_
  have hg' : ∀ k, Operand.tmp k ∈ os.toList.map (·.2) → RepV ph ρ (get k) (a.tmps.getD k undef) := fun k hk => hg k (by rw [ho]; simpa [Op.operands] using hk)
  simp only [chkOp] at hc
  split at hc
  · rename_i i fs hi hu
    simp only [Bool.and_eq_true] at hc
    obtain ⟨⟨⟨h2, h3⟩, h4⟩, h5⟩ := hc
    obtain ⟨zv, ez⟩ := Option.isSome_iff_exists.1 h2
    have e0 : zeroOf i = zv.cells.toList := by simp [zeroOf, ez]
    rw [e0] at h3
    obtain ⟨c1, c2⟩ := constDs_ok h3
    obtain ⟨us', f1, f2, f3⟩ := fill_ok (P := P) (pl' := structPl P fs) (fun _ _ h => h) h5 hg' e (us := zv.cells.toList) (RepCL.of_D (c2 ph)) (by simpa using c1)
    refine ⟨.agg us'.toArray, ?_, by simp only [RepV]; exact ⟨us', rfl, f2, f3⟩⟩
    unfold execOp; rw [ho]
    refine Runs.bind (a := .agg us'.toArray) ?_ (Runs.pure _)
    show Runs P (Instr.build T (os.map fun x => (x.1, a.eval x.2))) w _ w
    unfold Instr.build
    refine (Runs.zeroValue hi ez).bind ((Runs.underlying hu).bind ?_)
    have hpl : Runs P (fs.mapM fun f => do pure (f.offset, ← sizeOf f.type)) w (fs.map fun (f : Field) => (f.offset, ((P.info? f.type).map (·.size)).getD 0)) w := by
      refine Runs.mapMA fs fun f hf => ?_
      have := List.all_eq_true.1 h4 f hf
      obtain ⟨j, hj⟩ := Option.isSome_iff_exists.1 this
      rw [hj]
      exact (Runs.sizeOf hj).bind (Runs.pure _)
    refine hpl.bind ?_
    have hpl' : (fun x : Nat => (fs.map fun (f : Field) => (f.offset, ((P.info? f.type).map (·.size)).getD 0))[x]?) = fun x : Nat => (fs[x]?).map fun (f : Field) => (f.offset, ((P.info? f.type).map (·.size)).getD 0) := by
      funext x; simp
    obtain ⟨us2, f1', f2', f3'⟩ := fill_ok (P := P) (pl' := fun x : Nat => (fs.map fun (f : Field) => (f.offset, ((P.info? f.type).map (·.size)).getD 0))[x]?) (pl := structPl P fs)
      (fun j x hx => by
        rw [congrFun hpl' j]
        unfold structPl at hx
        split at hx
        · rename_i f hf
          simp only [Option.map_eq_some_iff] at hx
          obtain ⟨t, ht, hx⟩ := hx
          simp [hf, ht, hx]
        · cases hx) h5 hg' e (us := zv.cells.toList) (RepCL.of_D (c2 ph)) (by simpa using c1)
    have e3 : us2 = us' := by
      have key : ∀ (l : List (Nat × Value)) (c c1 c2 : Array Value), Instr.fill (structPl P fs) c l = some c1 → Instr.fill (fun x : Nat => (fs.map fun (f : Field) => (f.offset, ((P.info? f.type).map (·.size)).getD 0))[x]?) c l = some c2 → c1 = c2 := by
        intro l
        induction l with
        | nil => intro c c1 c2 h h'; simp only [Instr.fill] at h h'; cases h; cases h'; rfl
        | cons y l ih =>
          obtain ⟨j, v⟩ := y
          intro c c1 c2 h h'
          simp only [Instr.fill] at h h'
          cases hs : structPl P fs j with
          | none => rw [hs] at h; cases h
          | some x =>
            have : (fs.map fun (f : Field) => (f.offset, ((P.info? f.type).map (·.size)).getD 0))[j]? = some x := by
              rw [congrFun hpl' j]
              unfold structPl at hs
              split at hs
              · rename_i f hf
                simp only [Option.map_eq_some_iff] at hs
                obtain ⟨t, ht, hx⟩ := hs
                simp [hf, ht, hx]
              · cases hs
            rw [hs] at h
            rw [this] at h'
            simp only at h h'
            split at h
            · cases h
            · rename_i hh
              rw [if_neg hh] at h'
              exact ih _ _ _ h h'
      have := key _ _ _ _ f1 f1'
      simpa using this.symm
    rw [e3] at f1'
    rw [show (os.map fun x => (x.1, a.eval x.2)).toList = os.toList.map fun x => (x.1, a.eval x.2) from by simp]
    rw [show zv.cells = zv.cells.toList.toArray from by simp, f1']
    exact Runs.pure _
  · rename_i i n' e' hi hu
    split at hc
    · rename_i j hj
      simp only [Bool.and_eq_true] at hc
      obtain ⟨⟨h2, h3⟩, h5⟩ := hc
      obtain ⟨zv, ez⟩ := Option.isSome_iff_exists.1 h2
      have e0 : zeroOf i = zv.cells.toList := by simp [zeroOf, ez]
      rw [e0] at h3
      obtain ⟨c1, c2⟩ := constDs_ok h3
      obtain ⟨us', f1, f2, f3⟩ := fill_ok (P := P) (pl' := fun k => some (k * j.size, j.size)) (fun _ _ h => h) h5 hg' e (us := zv.cells.toList) (RepCL.of_D (c2 ph)) (by simpa using c1)
      refine ⟨.agg us'.toArray, ?_, by simp only [RepV]; exact ⟨us', rfl, f2, f3⟩⟩
      unfold execOp; rw [ho]
      refine Runs.bind (a := .agg us'.toArray) ?_ (Runs.pure _)
      show Runs P (Instr.build T (os.map fun x => (x.1, a.eval x.2))) w _ w
      unfold Instr.build
      refine (Runs.zeroValue hi ez).bind ((Runs.underlying hu).bind ((Runs.sizeOf hj).bind ?_))
      rw [show (os.map fun x => (x.1, a.eval x.2)).toList = os.toList.map fun x => (x.1, a.eval x.2) from by simp]
      rw [show zv.cells = zv.cells.toList.toArray from by simp, f1]
      exact Runs.pure _
    · cases hc
  · cases hc

end
end Go.Abs
