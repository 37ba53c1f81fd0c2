/- Runs of the model's small steps, as relations. -/
import Derived.Test.YtkgomampbengjaaGreatDoorAbs2
import GoSem.Dispatch
set_option linter.unusedVariables false
set_option linter.unusedSimpArgs false
namespace Go.Abs

/-- a step's run ends with this, in this world -/
def Runs {α : Type} (P : Program) (x : Sem α) (w : World) (a : α) (w' : World) : Prop := x.run P w = .ok a w'

section
variable {P : Program} {w w' w'' : World}

theorem run_bind_ok {α β : Type} {f : α → Sem β} {a : α} : ∀ {x : Sem α} {w w' : World}, Runs P x w a w' → (x.bind f).run P w = (f a).run P w'
  | .pure b, w, w', h => by simp [Runs, Sem.run] at h; obtain ⟨rfl, rfl⟩ := h; rfl
  | .load m p k, w, w', h => by
    simp only [Runs, Sem.run] at h
    simp only [Sem.bind, Sem.run]
    split at h
    · exact run_bind_ok h
    · split at h
      · exact run_bind_ok h
      · cases h
  | .store m p v k, w, w', h => by
    simp only [Sem.bind]
    unfold Runs at h
    cases v <;> simp only [Sem.run] at h ⊢ <;> first
      | (cases h; done)
      | (split at h
         · split at h
           · cases h
           · rename_i hf
             simp only [hf]
             exact run_bind_ok h
         · split at h
           · exact run_bind_ok h
           · cases h)
  | .new o k, w, w', h => by simp only [Runs, Sem.run] at h; simp only [Sem.bind, Sem.run]; exact run_bind_ok h
  | .shape r k, w, w', h => by simp only [Runs, Sem.run] at h; simp only [Sem.bind, Sem.run]; exact run_bind_ok h
  | .freeze a n k, w, w', h => by simp only [Runs, Sem.run] at h; simp only [Sem.bind, Sem.run]; exact run_bind_ok h
  | .frozen a k, w, w', h => by simp only [Runs, Sem.run] at h; simp only [Sem.bind, Sem.run]; exact run_bind_ok h
  | .getObj r k, w, w', h => by
    simp only [Runs, Sem.run] at h
    simp only [Sem.bind, Sem.run]
    split at h
    · cases h
    · exact run_bind_ok h
    · cases h
  | .setObj r o k, w, w', h => by
    simp only [Runs, Sem.run] at h
    simp only [Sem.bind, Sem.run]
    split at h
    · cases h
    · exact run_bind_ok h
    · cases h
  | .choose q k, w, w', h => by
    simp only [Runs, Sem.run] at h
    simp only [Sem.bind, Sem.run]
    split at h
    · rename_i hq; rw [if_pos hq]; exact run_bind_ok h
    · rename_i hq; rw [if_neg hq]; exact run_bind_ok h
  | .sys c k, w, w', h => by simp only [Runs, Sem.run] at h; simp only [Sem.bind, Sem.run]; exact run_bind_ok h
  | .program k, w, w', h => by simp only [Runs, Sem.run] at h; simp only [Sem.bind, Sem.run]; exact run_bind_ok h
  | .mark m k, w, w', h => by simp only [Runs, Sem.run] at h; simp only [Sem.bind, Sem.run]; exact run_bind_ok h
  | .halt x, w, w', h => by simp [Runs, Sem.run] at h

theorem Runs.bind {α β : Type} {x : Sem α} {f : α → Sem β} {a : α} {b : β} (h : Runs P x w a w') (k : Runs P (f a) w' b w'') : Runs P (x >>= f) w b w'' := by
  show (x.bind f).run P w = _
  rw [run_bind_ok h]; exact k

theorem Runs.pure {α : Type} (a : α) : Runs P (Pure.pure a) w a w := rfl
theorem Runs.map {α β : Type} {x : Sem α} {f : α → β} {a : α} (h : Runs P x w a w') : Runs P (Functor.map f x) w (f a) w' := by
  show Runs P (x >>= fun a => Pure.pure (f a)) w (f a) w'
  exact h.bind (Runs.pure _)

theorem Runs.program : Runs P program w P w := rfl
theorem Runs.typeInfo {t : TypeId} {i : TypeInfo} (h : P.info? t = some i) : Runs P (typeInfo t) w i w := by
  simp [Runs, Go.typeInfo, Bind.bind, Sem.bind, Sem.run, Go.program, h, Pure.pure]
theorem Runs.underlying {t : TypeId} {d : TypeDesc} (h : P.underlying t = some d) : Runs P (underlying t) w d w := by
  simp [Runs, Go.underlying, Bind.bind, Sem.bind, Sem.run, Go.program, h, Pure.pure]
theorem Runs.sizeOf {t : TypeId} {i : TypeInfo} (h : P.info? t = some i) : Runs P (sizeOf t) w i.size w := (Runs.typeInfo h).bind (Runs.pure _)
theorem Runs.zeroValue {t : TypeId} {i : TypeInfo} {z : Value} (h : P.info? t = some i) (hz : i.zero = some z) : Runs P (zeroValue t) w z w := by
  unfold Go.zeroValue
  refine (Runs.typeInfo h).bind ?_
  simp only [hz]
  exact Runs.pure _

theorem Runs.load {a : Addr} {v : Value} (h : w.cell? a = some v) : Runs P (load a) w v w := by
  simp [Runs, Go.load, Sem.run, h]
theorem Runs.store {a : Addr} {u v : Value} (h : w.cell? a = some u) (hf : w.frozen? a = false) (h1 : v.one1 = true) : Runs P (store a v) w () (w.setCell a v) := by
  cases v <;> simp_all [Runs, Go.store, Sem.run, Value.one1]
theorem Runs.newObj (o : Obj) : Runs P (newObj o) w w.heap.size { w with heap := w.heap.push o } := rfl
theorem Runs.getObj {r : Nat} {o : Obj} (h : w.heap[r]? = some o) (hc : ∀ c e f, o ≠ .cells c e f) : Runs P (getObj r) w o w := by
  unfold Runs
  simp only [Go.getObj, Sem.run, h]
theorem Runs.setObj {r : Nat} {o o' : Obj} (h : w.heap[r]? = some o) (hc : ∀ c e f, o ≠ .cells c e f) : Runs P (setObj r o') w () { w with heap := w.heap.setIfInBounds r o' } := by
  unfold Runs
  simp only [Go.setObj, Sem.run, h]
theorem Runs.mark (m : Mark) : Runs P (mark m) w () w := rfl
theorem Runs.askRoom (n : Nat) : Runs P (askRoom n) w () w := by
  unfold Go.askRoom
  split
  · exact Runs.mark _
  · exact Runs.pure _

theorem cell_of {B o : Nat} {c : Array Value} {T : TypeId} {fr : Nat × Nat} (h : w.heap[B]? = some (.cells c T fr)) : w.cell? ⟨B, o, none⟩ = c[o]? := by
  simp [World.cell?, h]
theorem frozen_of {B o : Nat} {c : Array Value} {T : TypeId} (h : w.heap[B]? = some (.cells c T (0, 0))) : w.frozen? ⟨B, o, none⟩ = false := by
  simp [World.frozen?, h]

theorem addr_add (B o n : Nat) : (⟨B, o, none⟩ : Addr).add n = ⟨B, o + n, none⟩ := by
  unfold Addr.add
  split
  · simp [*]
  · rfl

/-- cells are loaded one by one -/
theorem Runs.loadCellsFrom (B o : Nat) : ∀ (vs : List Value) (i : Nat) (acc : Array Value), (∀ j v, vs[j]? = some v → w.cell? ⟨B, o + i + j, none⟩ = some v) →
    Runs P (loadCellsFrom ⟨B, o, none⟩ i vs.length acc) w (acc ++ vs.toArray) w
  | [], i, acc, _ => by simp [Go.loadCellsFrom]; exact Runs.pure _
  | v :: vs, i, acc, h => by
    simp only [List.length_cons, Go.loadCellsFrom]
    refine Runs.bind (a := v) (w' := w) ?_ ?_
    · rw [addr_add]; exact Runs.load (by simpa using h 0 v (by simp))
    · have := Runs.loadCellsFrom B o vs (i + 1) (acc.push v) (fun j u hj => by
        have := h (j + 1) u (by simpa using hj)
        rw [show o + (i + 1) + j = o + i + (j + 1) from by omega]; exact this)
      have e : acc ++ (v :: vs).toArray = acc.push v ++ vs.toArray := by
        apply Array.ext'; simp
      rw [e]; exact this

theorem Runs.loadCells {B o : Nat} {vs : List Value} (h : ∀ j v, vs[j]? = some v → w.cell? ⟨B, o + j, none⟩ = some v) : Runs P (loadCells ⟨B, o, none⟩ vs.length) w vs.toArray w := by
  have := Runs.loadCellsFrom (P := P) (w := w) B o vs 0 #[] (by simpa using h)
  rw [show (#[] : Array Value) ++ vs.toArray = vs.toArray from by simp] at this
  exact this

theorem Runs.loadCells0 (a : Addr) (w : World) : Runs P (Go.loadCells a 0) w (#[] : Array Value) w := by
  unfold Go.loadCells Go.loadCellsFrom
  exact Runs.pure _

/-- a row written over from a place on -/
def splice {α : Type} : List α → Nat → List α → List α
  | cs, _, [] => cs
  | cs, o, v :: vs => splice (cs.set o v) (o + 1) vs

theorem splice_length {α : Type} : ∀ (vs cs : List α) (o : Nat), (splice cs o vs).length = cs.length
  | [], cs, o => rfl
  | v :: vs, cs, o => by simp [splice, splice_length vs]

/-- the world with a block's cells turned -/
def World.cellsAt (w : World) (B : Nat) (vs : List Value) (T : TypeId) : World := { w with heap := w.heap.setIfInBounds B (.cells vs.toArray T (0, 0)) }

theorem setCell_eq {B o : Nat} {vs : List Value} {T : TypeId} (h : w.heap[B]? = some (.cells vs.toArray T (0, 0))) (v : Value) :
    w.setCell ⟨B, o, none⟩ v = World.cellsAt w B (vs.set o v) T := by
  have hB : B < w.heap.size := by
    rcases Nat.lt_or_ge B w.heap.size with h1 | h1
    · exact h1
    · rw [Array.getElem?_eq_none h1] at h; cases h
  unfold World.setCell World.cellsAt
  congr 1
  apply Array.ext_getElem?
  intro i
  rw [Array.getElem?_modify]
  by_cases hi : B = i
  · subst hi
    rw [if_pos rfl, h, Array.getElem?_setIfInBounds_self, if_pos hB]
    simp
  · rw [if_neg hi, Array.getElem?_setIfInBounds_ne hi]

theorem cellsAt_get {B : Nat} {vs : List Value} {T : TypeId} (hB : B < w.heap.size) : (World.cellsAt w B vs T).heap[B]? = some (.cells vs.toArray T (0, 0)) := by
  simp [World.cellsAt, hB]

theorem cellsAt_twice (B : Nat) (vs us : List Value) (T : TypeId) : World.cellsAt (World.cellsAt w B vs T) B us T = World.cellsAt w B us T := by
  unfold World.cellsAt
  simp

theorem Runs.storeCells {B : Nat} {T : TypeId} (o : Nat) : ∀ (vs : List Value) (i : Nat) (cs : List Value) (w : World), w.heap[B]? = some (.cells cs.toArray T (0, 0)) → o + i + vs.length ≤ cs.length →
    (∀ v, v ∈ vs → v.one1 = true) → vs ≠ [] → Runs P (storeCells ⟨B, o, none⟩ vs i) w () (World.cellsAt w B (splice cs (o + i) vs) T)
  | [], i, cs, w, _, _, _, h0 => absurd rfl h0
  | v :: vs, i, cs, w, h, hl, h1, _ => by
    simp only [Go.storeCells]
    have hB : B < w.heap.size := by
      rcases Nat.lt_or_ge B w.heap.size with h1 | h1
      · exact h1
      · rw [Array.getElem?_eq_none h1] at h; cases h
    simp only [List.length_cons] at hl
    have hs : Runs P (Go.store ((⟨B, o, none⟩ : Addr).add i) v) w () (World.cellsAt w B (cs.set (o + i) v) T) := by
      rw [addr_add, ← setCell_eq h]
      have hc : w.cell? ⟨B, o + i, none⟩ = some cs[o + i] := by
        rw [cell_of h]; simp [List.getElem?_eq_getElem (by omega : o + i < cs.length)]
      exact Runs.store hc (frozen_of h) (h1 v (by simp))
    refine hs.bind ?_
    cases vs with
    | nil => simp only [Go.storeCells, splice]; exact Runs.pure _
    | cons u us =>
      have := Runs.storeCells o (u :: us) (i + 1) (cs.set (o + i) v) (World.cellsAt w B (cs.set (o + i) v) T) (cellsAt_get hB)
        (by simp at hl ⊢; omega) (fun x hx => h1 x (by simp [hx])) (by simp)
      rw [cellsAt_twice] at this
      exact this

end
end Go.Abs
