/- Regions: in the order of the text, and in whatever order. -/
import Derived.Test.YtkgomampbengjaaGreatDoorAbs14
set_option linter.unusedVariables false
set_option linter.unusedSimpArgs false
namespace Go.Abs

def look : List (Nat × AV) → Nat → AV
  | [], _ => .c (.d .any)
  | (k, v) :: l, j => if j = k then v else look l j

structure St where
  t : List (Nat × AV)
  m : Hp
  n : Nat

def St.get (S : St) (k : Nat) : AV := look S.t k

/-- an operation of a region: its guard (a temporary, and what it must hold), where its value goes, what it is -/
structure MO where
  g : Option (Nat × Bool)
  dst : Option Nat
  op : MOp

def St.put (S : St) (dst : Option Nat) (v : AV) (wr : List (Nat × Blk)) (n : Nat) : St :=
  ⟨match dst with | some d => (d, v) :: S.t | none => S.t, wrs S.m wr, n⟩

def undefV : AV := .c (.d (.sc undef))

/-- the same, a temporary known to hold that -/
def St.know (S : St) (t : Nat) (b : Bool) : St := ⟨(t, .c (.d (.bool b))) :: S.t, S.m, S.n⟩

theorem St.know_get {S : St} {t : Nat} {b : Bool} (h : S.get t = .c (.d (.bool b))) : (S.know t b).get = S.get := by
  funext k
  unfold St.get St.know at *
  simp only [look]
  split
  · rename_i e; rw [e, h]
  · rfl

/-- a region's operations in the order of the text -/
def runO (P : Program) : List MO → St → (St → Prop) → Prop
  | [], S, K => K S
  | o :: os, S, K => match o.g with
    | none => ev P S.get S.m S.n (fun v _ wr n => runO P os (S.put o.dst v wr n) K) o.op
    | some (t, want) => match S.get t with
      | .c (.d (.bool b)) => (b = want → ev P (S.know t want).get S.m S.n (fun v _ wr n => runO P os ((S.know t want).put o.dst v wr n) K) o.op) ∧ (b = (!want) → runO P os ((S.know t (!want)).put o.dst undefV [] S.n) K)
      | .c (.d (.sc (.tuple _))) => runO P os (S.put o.dst undefV [] S.n) K
      | _ => False

structure Ctx where
  h : PH
  ρ : RM
  m : Hp
  w : World
  N : Nat

structure Rel (P : Program) (c : Ctx) (get : Nat → AV) (m : Hp) (a : Act) (w : World) : Prop where
  gnd : Gnd P c.h
  defers : a.defers = []
  size : a.tmps.size = c.N
  ex : ∃ (h : PH) (ρ : RM), HRel h ρ m w.heap ∧ StepW c.h c.ρ c.m c.w.heap h ρ m w.heap ∧ Same c.w w ∧ ∀ k, RepV h ρ (get k) (a.tmps.getD k undef)

def chkG (ops : Array Oper) : Option (Nat × Bool) → Option (Nat × Bool) → Bool
  | none, none => true
  | some (t, b), some (j, b') => b == b' && ((ops[j]?).bind (·.dst)) == some t
  | _, _ => false

def chkMO (P : Program) (N : Nat) (ops : Array Oper) (mo : MO) (o : Oper) : Bool :=
  chkOp P mo.op o.op && mo.dst == o.dst && (match mo.dst with | some d => decide (d < N) | none => true) && chkG ops mo.g o.guard

def chkMOs (P : Program) (N : Nat) (ops : Array Oper) : List MO → List Oper → Bool
  | [], [] => true
  | mo :: mos, o :: os => chkMO P N ops mo o && chkMOs P N ops mos os
  | _, _ => false

section
variable {P : Program} {c : Ctx}

theorem put_getD {a : Act} {dst : Option Nat} {v : Value} {k : Nat} (h : ∀ d, dst = some d → d < a.tmps.size) :
    (a.put dst v).tmps.getD k undef = if dst = some k then v else a.tmps.getD k undef := by
  cases dst with
  | none => simp [Act.put]
  | some d =>
    have hd := h d rfl
    simp only [Act.put, Option.some.injEq]
    by_cases hk : d = k
    · subst hk; simp [Array.getD_eq_getD_getElem?, hd]
    · rw [if_neg hk]
      simp [Array.getD_eq_getD_getElem?, Array.getElem?_setIfInBounds_ne hk]

theorem put_size {a : Act} {dst : Option Nat} {v : Value} : (a.put dst v).tmps.size = a.tmps.size := by
  cases dst <;> simp [Act.put]
theorem put_defers {a : Act} {dst : Option Nat} {v : Value} : (a.put dst v).defers = a.defers := by
  cases dst <;> rfl

def updO (g : Nat → AV) (dst : Option Nat) (v : AV) : Nat → AV := fun k => if dst = some k then v else g k

theorem St.put_get (S : St) (dst : Option Nat) (v : AV) (wr : List (Nat × Blk)) (n : Nat) : (S.put dst v wr n).get = updO S.get dst v := by
  funext k
  unfold St.get St.put updO
  cases dst with
  | none => simp
  | some d =>
    simp only [look, Option.some.injEq]
    by_cases h : k = d
    · subst h; simp
    · rw [if_neg h, if_neg (Ne.symm h)]

/-- one operation is carried out -/
theorem rel_step {get : Nat → AV} {m m' : Hp} {a : Act} {w w' : World} {h h' : PH} {ρ ρ' : RM} {dst : Option Nat} {v : AV} {vC : Value} (hG : Gnd P c.h) (hdef : a.defers = []) (hsz : a.tmps.size = c.N) (hd : ∀ d, dst = some d → d < c.N)
    (S0 : StepW c.h c.ρ c.m c.w.heap h ρ m w.heap) (e0 : Same c.w w) (hg : ∀ k, RepV h ρ (get k) (a.tmps.getD k undef)) (S : Step h ρ m w.heap h' ρ' m' w'.heap) (H : HRel h' ρ' m' w'.heap) (e : Same w w') (rv : RepV h' ρ' v vC) :
    Rel P c (updO get dst v) m' (a.put dst vC) w' where
  gnd := hG
  defers := by rw [Go.Abs.put_defers]; exact hdef
  size := by rw [put_size]; exact hsz
  ex := by
    refine ⟨h', ρ', H, S0.trans S, e0.trans e, fun k => ?_⟩
    rw [put_getD (fun d h => by rw [hsz]; exact hd d h)]
    unfold updO
    split
    · exact rv
    · exact RepV.mono S.hle S.rle _ _ (hg k)

/-- one operation is passed over -/
theorem rel_skip {get : Nat → AV} {m : Hp} {a : Act} {w : World} {dst : Option Nat} (r : Rel P c get m a w) (hd : ∀ d, dst = some d → d < c.N) : Rel P c (updO get dst undefV) m (a.put dst undef) w where
  gnd := r.gnd
  defers := by rw [Go.Abs.put_defers]; exact r.defers
  size := by rw [put_size]; exact r.size
  ex := by
    obtain ⟨h, ρ, H, S0, e0, hg⟩ := r.ex
    refine ⟨h, ρ, H, S0, e0, fun k => ?_⟩
    rw [put_getD (fun d h => by rw [r.size]; exact hd d h)]
    unfold updO
    split
    · simp [undefV, RepV, RepC, RepD]
    · exact hg k

theorem yielded_bool {ops : Array Oper} {a : Act} {j t : Nat} {b : Bool} (h : ((ops[j]?).bind (·.dst)) = some t) (e : a.tmps.getD t undef = .bool b) : yielded ops a.tmps j = some b := by
  unfold yielded
  rw [h]
  simp only [Option.bind_some]
  rw [Array.getD_eq_getD_getElem?] at e
  cases ht : a.tmps[t]? with
  | none => rw [ht] at e; cases e
  | some v => rw [ht] at e; simp only [Option.getD_some] at e; rw [e]

theorem yielded_tuple {ops : Array Oper} {a : Act} {j t : Nat} {x : Array Value} (h : ((ops[j]?).bind (·.dst)) = some t) (e : a.tmps.getD t undef = .tuple x) : yielded ops a.tmps j = none := by
  unfold yielded
  rw [h]
  simp only [Option.bind_some]
  rw [Array.getD_eq_getD_getElem?] at e
  cases ht : a.tmps[t]? with
  | none => rfl
  | some v => rw [ht] at e; simp only [Option.getD_some] at e; rw [e]

/-- is the operation carried out, or not? -/
theorem wanted_yes {ops : Array Oper} {a : Act} {o : Oper} {g : Option (Nat × Bool)} (h : chkG ops g o.guard = true) (hy : ∀ t b, g = some (t, b) → a.tmps.getD t undef = .bool b) : Region.wanted o (yielded ops a.tmps) = true := by
  unfold Region.wanted
  unfold chkG at h
  split at h
  · rename_i hg; rw [hg]
  · rename_i t b j b' hg
    simp only [Bool.and_eq_true, beq_iff_eq] at h
    rw [hg]
    simp only [yielded_bool h.2 (hy t b rfl), beq_iff_eq]
    rw [h.1]
  · cases h

theorem wanted_no {ops : Array Oper} {a : Act} {o : Oper} {t : Nat} {b : Bool} (h : chkG ops (some (t, b)) o.guard = true) (hy : (a.tmps.getD t undef = .bool (!b)) ∨ ∃ x, a.tmps.getD t undef = .tuple x) : Region.wanted o (yielded ops a.tmps) = false := by
  unfold Region.wanted
  unfold chkG at h
  split at h
  · rename_i e _; cases e
  · rename_i t' b' j b'' e hg
    cases e
    simp only [Bool.and_eq_true, beq_iff_eq] at h
    obtain ⟨h1, h2⟩ := h
    subst h1
    rw [hg]
    dsimp only
    rcases hy with hy | ⟨x, hy⟩
    · rw [yielded_bool h2 hy]; cases b <;> rfl
    · rw [yielded_tuple h2 hy]; rfl
  · cases h

/-- a region in the order of the text -/
theorem runO_ok {ops : Array Oper} {Q : Exit → Act → World → Prop} {K : St → Prop} (hQ : ∀ S a w, Rel P c S.get S.m a w → K S → Q .normal a w) : ∀ {mos : List MO} {os : List Oper} {i : Nat} {S : St} {a : Act} {w : World}, chkMOs P c.N ops mos os = true →
    (∀ j o, os[j]? = some o → ops[i + j]? = some o) → runO P mos S K → Rel P c S.get S.m a w → wpOps P ops Q (List.range' i os.length) a w
  | [], [], i, S, a, w, _, _, h, r => by simp only [List.length_nil, List.range'_zero, wpOps]; exact hQ S a w r h
  | [], _ :: _, _, _, _, _, h, _, _, _ => by simp [chkMOs] at h
  | _ :: _, [], _, _, _, _, h, _, _, _ => by simp [chkMOs] at h
  | mo :: mos, o :: os, i, S, a, w, hc, hi, h, r => by
    simp only [chkMOs, Bool.and_eq_true] at hc
    obtain ⟨hc0, hcs⟩ := hc
    simp only [chkMO, Bool.and_eq_true, beq_iff_eq] at hc0
    obtain ⟨⟨⟨c1, c2⟩, c3⟩, c4⟩ := hc0
    have hd : ∀ d, mo.dst = some d → d < c.N := fun d hd => by rw [hd] at c3; simpa using c3
    have ho := hi 0 o (by simp)
    simp only [Nat.add_zero] at ho
    have hi' : ∀ j o', os[j]? = some o' → ops[i + 1 + j]? = some o' := fun j o' hj => by
      have := hi (j + 1) o' (by simpa using hj)
      rwa [show i + (j + 1) = i + 1 + j from by omega] at this
    simp only [List.length_cons, List.range'_succ, wpOps, ho]
    have run : ∀ S₁ : St, S₁.get = S.get → S₁.m = S.m → ev P S.get S.m S.n (fun v _ wr n => runO P mos (S₁.put mo.dst v wr n) K) mo.op → o.wp P a w (wpOps P ops Q (List.range' (i + 1) os.length)) Q := by
      intro S₁ eg em he
      obtain ⟨v, rd, wr, n', hs, hk⟩ := ev_ok c1 he
      obtain ⟨ph, ρ, H, S0, e0, hg⟩ := r.ex
      refine hs S.m (fun _ _ => rfl) (fun _ _ => rfl) ph ρ w a H (r.gnd.mono S0.hle) (fun k _ => hg k) _ _ fun h' ρ' w' vC st K' e rv => ?_
      rw [← c2]
      refine runO_ok hQ hcs hi' hk ?_
      rw [St.put_get, eg]
      have e2 : (S₁.put mo.dst v wr n').m = wrs S.m wr := by rw [← em]; rfl
      rw [e2]
      exact rel_step r.gnd r.defers r.size hd S0 e0 hg st K' e rv
    have skip : ∀ S₁ : St, S₁.get = S.get → S₁.m = S.m → runO P mos (S₁.put mo.dst undefV [] S.n) K → wpOps P ops Q (List.range' (i + 1) os.length) (a.put o.dst undef) w := by
      intro S₁ eg em hk
      rw [← c2]
      refine runO_ok hQ hcs hi' hk ?_
      rw [St.put_get, eg]
      have e2 : (S₁.put mo.dst undefV [] S.n).m = S.m := by rw [← em]; rfl
      rw [e2]
      exact rel_skip r hd
    obtain ⟨ph, ρ, H, S0, e0, hg⟩ := r.ex
    simp only [runO] at h
    split at h
    · rename_i hgm
      rw [hgm] at c4
      rw [if_pos (wanted_yes c4 (fun t b hh => by cases hh))]
      exact .inl (run S rfl rfl h)
    · rename_i t want hgm
      rw [hgm] at c4
      have rt := hg t
      split at h
      · rename_i b et
        rw [et] at rt
        simp only [RepV, RepC, RepD] at rt
        by_cases hb : b = want
        · subst hb
          rw [if_pos (wanted_yes c4 (fun t' b' hh => by cases hh; exact rt))]
          have h1 := h.1 rfl
          rw [St.know_get et] at h1
          exact .inl (run _ (St.know_get et) rfl h1)
        · have hb' : b = (!want) := by cases b <;> cases want <;> simp_all
          rw [if_neg (by rw [wanted_no c4 (.inl (by rw [rt, hb']))]; simp)]
          exact skip _ (St.know_get (by rw [et, hb'])) rfl (h.2 hb')
      · rename_i x et
        rw [et] at rt
        simp only [RepV, RepC, RepD] at rt
        rw [if_neg (by rw [wanted_no c4 (.inr ⟨x, rt⟩)]; simp)]
        exact skip S rfl rfl h
      · exact h.elim

end
end Go.Abs
