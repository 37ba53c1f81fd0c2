/- The operations of the walk: each abstract operation, the check that it stands for the program's own, what it does to the abstract state, and that this is true of every real state that is stood for. -/
import Derived.Test.YtkgomampbengjaaGreatDoorAbs3
set_option linter.unusedVariables false
set_option linter.unusedSimpArgs false
namespace Go.Abs

def Same (w w' : World) : Prop := w'.os = w.os ∧ w'.tape = w.tape ∧ w'.output = w.output
theorem Same.refl (w : World) : Same w w := ⟨rfl, rfl, rfl⟩
theorem Same.trans {a b c : World} (h : Same a b) (k : Same b c) : Same a c := ⟨k.1.trans h.1, k.2.1.trans h.2.1, k.2.2.trans h.2.2⟩

def wrs : Hp → List (Nat × Blk) → Hp
  | m, [] => m
  | m, (b, x) :: l => wrs (upd m b x) l

/-- a byte that parts words: 1, or 0 -/
def spN (c : Nat) : Int := if 9 ≤ c ∧ c ≤ 13 ∨ c = 32 then 1 else 0
/-- the library's table of such bytes stands among what stays -/
def Gnd (P : Program) (h : PH) : Prop := ∀ g, P.globalNamed "strings.asciiSpace" = some g → ∃ o, h g = some o ∧ ∀ w : World, w.heap[g]? = some o → ∀ c, c < 256 → w.cell? ⟨g, c, none⟩ = some (.int .u8 (spN c))
theorem Gnd.mono {P : Program} {h h' : PH} (k : Gnd P h) (le : h.le h') : Gnd P h' := fun g e => by
  obtain ⟨o, h1, h2⟩ := k g e
  exact ⟨o, le g o h1, h2⟩

/-- what an operation does, wherever the blocks that it reads and writes are as here -/
def OpSem (P : Program) (o : Oper) (get : Nat → AV) (m : Hp) (rd : List Nat) (wr : List (Nat × Blk)) (v : AV) : Prop :=
  ∀ m' : Hp, (∀ b, b ∈ rd → m' b = m b) → (∀ x, x ∈ wr → m' x.1 = m x.1) → ∀ (h : PH) (ρ : RM) (w : World) (a : Act), HRel h ρ m' w.heap → Gnd P h →
    (∀ k, Operand.tmp k ∈ o.op.operands → RepV h ρ (get k) (a.tmps.getD k undef)) →
    ∀ (next : Act → World → Prop) (Q : Exit → Act → World → Prop),
      (∀ (h' : PH) (ρ' : RM) (w' : World) (vC : Value), Step h ρ m' w.heap h' ρ' (wrs m' wr) w'.heap → HRel h' ρ' (wrs m' wr) w'.heap → Same w w' → RepV h' ρ' v vC → next (a.put o.dst vC) w') →
      o.wp P a w next Q

section
variable {P : Program} {o : Oper} {get : Nat → AV} {m : Hp} {rd : List Nat} {wr : List (Nat × Blk)} {v : AV}

theorem OpSem.of_value (H : ∀ m' : Hp, (∀ b, b ∈ rd → m' b = m b) → (∀ x, x ∈ wr → m' x.1 = m x.1) → ∀ (h : PH) (ρ : RM) (w : World) (a : Act), HRel h ρ m' w.heap →
    (∀ k, Operand.tmp k ∈ o.op.operands → RepV h ρ (get k) (a.tmps.getD k undef)) →
    ∃ (h' : PH) (ρ' : RM) (w' : World) (vC : Value), Runs P (execOp a.eval o) w (.value vC) w' ∧ Step h ρ m' w.heap h' ρ' (wrs m' wr) w'.heap ∧ HRel h' ρ' (wrs m' wr) w'.heap ∧ Same w w' ∧ RepV h' ρ' v vC) :
    OpSem P o get m rd wr v := by
  intro m' h1 h2 h ρ w a hr _ hg next Q hn
  obtain ⟨h', ρ', w', vC, r, s, k, e, p⟩ := H m' h1 h2 h ρ w a hr hg
  unfold Oper.wp
  rw [show (execOp a.eval o).run P w = .ok (.value vC) w' from r]
  exact hn h' ρ' w' vC s k e p

theorem OpSem.of_skip (H : ∀ m' : Hp, (∀ b, b ∈ rd → m' b = m b) → (∀ x, x ∈ wr → m' x.1 = m x.1) → ∀ (h : PH) (ρ : RM) (w : World) (a : Act), HRel h ρ m' w.heap →
    (∀ k, Operand.tmp k ∈ o.op.operands → RepV h ρ (get k) (a.tmps.getD k undef)) →
    ∃ (h' : PH) (ρ' : RM) (w' : World), Runs P (execOp a.eval o) w .skip w' ∧ Step h ρ m' w.heap h' ρ' (wrs m' wr) w'.heap ∧ HRel h' ρ' (wrs m' wr) w'.heap ∧ Same w w') :
    OpSem P o get m rd wr (.c (.d .any)) := by
  intro m' h1 h2 h ρ w a hr _ hg next Q hn
  obtain ⟨h', ρ', w', r, s, k, e⟩ := H m' h1 h2 h ρ w a hr hg
  unfold Oper.wp
  rw [show (execOp a.eval o).run P w = .ok .skip w' from r]
  exact hn h' ρ' w' undef s k e trivial

/-- of an operation that turns nothing in memory -/
theorem OpSem.of_pure (H : ∀ m' : Hp, (∀ b, b ∈ rd → m' b = m b) → ∀ (h : PH) (ρ : RM) (w : World) (a : Act), HRel h ρ m' w.heap →
    (∀ k, Operand.tmp k ∈ o.op.operands → RepV h ρ (get k) (a.tmps.getD k undef)) → ∃ vC, Runs P (execOp a.eval o) w (.value vC) w ∧ RepV h ρ v vC) : OpSem P o get m rd [] v :=
  OpSem.of_value fun m' h1 h2 h ρ w a hr hg =>
    let ⟨vC, r, p⟩ := H m' h1 h ρ w a hr hg
    ⟨h, ρ, w, vC, r, Step.refl _ _ _ _, hr, Same.refl w, p⟩
end

/-! ### operands -/

inductive MX where
  | t (k : Nat)
  | k (x : D)

def X (get : Nat → AV) : MX → AV
  | .t k => get k
  | .k x => .c (.d x)

def constD : D → Value → Bool
  | .int k n, .int k' n' => decide (k = k') && decide (n = n') && decide (k.min ≤ n) && decide (n ≤ k.max)
  | .bool b, .bool b' => b == b'
  | .str s, .string s' => decide (s = s') && decide (s.size ≤ lenMax)
  | .sl _ _ [], .slice none 0 0 => true
  | .sc (.pointer none), .pointer none => true
  | .sc .nilFunc, .nilFunc => true
  | .sc .nilIface, .nilIface => true
  | .sc (.map none), .map none => true
  | _, _ => false

theorem constD_ok {x : D} {v : Value} (h : constD x v = true) (ph : PH) : RepD ph x v := by
  unfold constD at h
  split at h
  · simp only [Bool.and_eq_true, decide_eq_true_eq] at h
    obtain ⟨⟨⟨rfl, rfl⟩, h1⟩, h2⟩ := h
    simp [RepD, h1, h2]
  · simp at h; simp [RepD, h]
  · simp at h; simp [RepD, h.1]; rw [← h.1]; exact h.2
  · unfold RepD; exact ⟨none, 0, rfl, Nat.le_refl _, fun _ => rfl, by simp, fun _ => ⟨rfl, rfl⟩, fun p hp => (by cases hp), (by simp [RepE])⟩
  · simp [RepD]
  · simp [RepD]
  · simp [RepD]
  · simp [RepD]
  · cases h

def chkX : MX → Operand → Bool
  | .t k, .tmp k' => k == k'
  | .k x, .const v => constD x v
  | .k (.fn (.func f) []), .func f' => f == f'
  | _, _ => false

theorem chkX_ok {x : MX} {o : Operand} (h : chkX x o = true) {ph : PH} {ρ : RM} {get : Nat → AV} {a : Act} (hg : ∀ k, o = .tmp k → RepV ph ρ (get k) (a.tmps.getD k undef)) :
    RepV ph ρ (X get x) (a.eval o) := by
  unfold chkX at h
  split at h
  · simp at h; subst h; exact hg _ rfl
  · simp only [X, RepV, RepC, Act.eval]; exact constD_ok h ph
  · simp at h; subst h; simp [X, RepV, RepC, RepD, RepL, Act.eval]
  · cases h

def chkXs : List MX → List Operand → Bool
  | [], [] => true
  | x :: xs, o :: os => chkX x o && chkXs xs os
  | _, _ => false

theorem chkXs_ok {ph : PH} {ρ : RM} {get : Nat → AV} {a : Act} : ∀ {xs : List MX} {os : List Operand}, chkXs xs os = true → (∀ k, Operand.tmp k ∈ os → RepV ph ρ (get k) (a.tmps.getD k undef)) →
    RepVL ph ρ (xs.map (X get)) (os.map a.eval)
  | [], [], _, _ => rfl
  | x :: xs, o :: os, h, hg => by
    simp only [chkXs, Bool.and_eq_true] at h
    simp only [List.map_cons, RepVL]
    exact ⟨chkX_ok h.1 (fun k hk => hg k (by simp [hk])), chkXs_ok h.2 (fun k hk => hg k (by simp [hk]))⟩
  | [], _ :: _, h, _ => by simp [chkXs] at h
  | _ :: _, [], h, _ => by simp [chkXs] at h

/-! ### cells of values -/

/-- is it sure to be a value of one cell? -/
def D.one : D → Bool
  | .any => false
  | .sc v => v.one1
  | _ => true
def AC.one : AC → Bool
  | .d x => x.one
  | .op _ => false
  | _ => true

def cellsC : AV → Option (List AC)
  | .c x => if x.one then some [x] else none
  | .ag cs => some cs
  | .tup _ => none

def allD : List AC → Option (List D)
  | [] => some []
  | .d x :: cs => (allD cs).map (x :: ·)
  | _ :: _ => none

@[simp] theorem allD_map (ds : List D) : allD (ds.map .d) = some ds := by
  induction ds with
  | nil => rfl
  | cons d ds ih => simp [allD, ih]

theorem allD_ok : ∀ {cs : List AC} {ds : List D}, allD cs = some ds → cs = ds.map .d
  | [], ds, h => by simp [allD] at h; simp [← h]
  | .d x :: cs, ds, h => by
    simp only [allD, Option.map_eq_some_iff] at h
    obtain ⟨l, h1, h2⟩ := h
    rw [← h2, allD_ok h1]; rfl
  | .ptr .. :: _, _, h => by simp [allD] at h
  | .ept .. :: _, _, h => by simp [allD] at h
  | .msl .. :: _, _, h => by simp [allD] at h
  | .map .. :: _, _, h => by simp [allD] at h
  | .fn .. :: _, _, h => by simp [allD] at h
  | .op .. :: _, _, h => by simp [allD] at h

def cellsD (v : AV) : Option (List D) := (cellsC v).bind allD

theorem D.one_ok {h : PH} {x : D} {v : Value} (r : RepD h x v) (h1 : x.one = true) : v.one1 = true := by
  cases x <;> simp only [D.one] at h1
  case any => cases h1
  case int => simp only [RepD] at r; rw [r.1]; rfl
  case bool => simp only [RepD] at r; rw [r]; rfl
  case str => simp only [RepD] at r; rw [r.1]; rfl
  case sc u => simp only [RepD] at r; rw [r]; exact h1
  case sl => simp only [RepD] at r; obtain ⟨a, cap, e, _⟩ := r; rw [e]; rfl
  case rp => simp only [RepD] at r; obtain ⟨a, cap, e, _⟩ := r; rw [e]; rfl
  case fn => simp only [RepD] at r; obtain ⟨a, e, _⟩ := r; rw [e]; rfl
  case ifc => simp only [RepD] at r; obtain ⟨a, e, _⟩ := r; rw [e]; rfl

theorem AC.one_ok {h : PH} {ρ : RM} {x : AC} {v : Value} (r : RepC h ρ x v) (h1 : x.one = true) : v.one1 = true := by
  cases x <;> simp only [AC.one] at h1
  case d => simp only [RepC] at r; exact D.one_ok r h1
  case ptr => simp only [RepC] at r; obtain ⟨a, _, e⟩ := r; rw [e]; rfl
  case ept => simp only [RepC] at r; obtain ⟨a, _, e⟩ := r; rw [e]; rfl
  case msl => simp only [RepC] at r; obtain ⟨p, a, _, e, _⟩ := r; rw [e]; rfl
  case map => simp only [RepC] at r; obtain ⟨a, _, e⟩ := r; rw [e]; rfl
  case fn => simp only [RepC] at r; obtain ⟨a, e, _⟩ := r; rw [e]; rfl
  case op => cases h1

theorem one1_cells {v : Value} (h : v.one1 = true) : v.cells = #[v] := by cases v <;> simp_all [Value.one1, Value.cells]

theorem RepCL.one {h : PH} {ρ : RM} : ∀ {cs : List AC} {vs : List Value}, RepCL h ρ cs vs → vs.length = cs.length → ∀ v, v ∈ vs → v.one1 = true
  | [], [], _, _, v, hv => by cases hv
  | [], _ :: _, _, e, _, _ => by simp at e
  | _ :: _, [], r, _, _, _ => by simp [RepCL] at r
  | c :: cs, u :: vs, r, e, v, hv => by
    simp only [RepCL] at r
    cases List.mem_cons.1 hv with
    | inl e1 => rw [e1]; exact r.1.1
    | inr e1 => exact RepCL.one r.2 (by simpa using e) v e1

theorem cellsC_ok {h : PH} {ρ : RM} {v : AV} {x : Value} {cs : List AC} (r : RepV h ρ v x) (e : cellsC v = some cs) : ∃ vs : List Value, x.cells = vs.toArray ∧ vs.length = cs.length ∧ RepCL h ρ cs vs := by
  cases v with
  | c y =>
    simp only [cellsC] at e
    split at e
    · rename_i h1
      cases e
      simp only [RepV] at r
      have hx := AC.one_ok r h1
      exact ⟨[x], by rw [one1_cells hx], rfl, by simp [RepCL, hx, r]⟩
    · cases e
  | ag ds =>
    simp only [cellsC] at e
    cases e
    simp only [RepV] at r
    obtain ⟨vs, e1, e2, e3⟩ := r
    exact ⟨vs, by rw [e1]; rfl, e2, e3⟩
  | tup _ => cases e

theorem cellsD_ok {h : PH} {ρ : RM} {v : AV} {x : Value} {ds : List D} (r : RepV h ρ v x) (e : cellsD v = some ds) : ∃ vs : List Value, x.cells = vs.toArray ∧ vs.length = ds.length ∧ RepL h ds vs := by
  unfold cellsD at e
  cases hc : cellsC v with
  | none => rw [hc] at e; cases e
  | some cs =>
    rw [hc] at e
    obtain ⟨vs, e1, e2, e3⟩ := cellsC_ok r hc
    have := allD_ok e
    subst this
    exact ⟨vs, e1, by simpa using e2, RepCL.to_D e3⟩

/-! ### types -/

def isAg : TypeDesc → Bool
  | .struct _ | .array _ _ => true
  | _ => false

/-- is the type one of parts, and of how many cells? -/
def tyA (P : Program) (T : TypeId) : Option (Bool × Nat) :=
  match P.underlying T, P.info? T with
  | some d, some i => some (isAg d, i.size)
  | _, _ => none

theorem tyA_ok {P : Program} {T : TypeId} {b : Bool} {n : Nat} (h : tyA P T = some (b, n)) : ∃ d i, P.underlying T = some d ∧ P.info? T = some i ∧ isAg d = b ∧ i.size = n := by
  unfold tyA at h
  split at h
  · rename_i d i h1 h2
    cases h
    exact ⟨d, i, h1, h2, rfl, rfl⟩
  · cases h

theorem Runs.isAgg {P : Program} {w : World} {T : TypeId} {d : TypeDesc} (h : P.underlying T = some d) : Runs P (isAgg T) w (isAg d) w := by
  unfold Go.isAgg
  refine (Runs.underlying h).bind ?_
  cases d <;> exact Runs.pure _

end Go.Abs
