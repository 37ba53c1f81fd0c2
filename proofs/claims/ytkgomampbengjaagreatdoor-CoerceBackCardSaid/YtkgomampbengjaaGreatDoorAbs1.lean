/- The abstract values of the walks: pure data (D), cells and values that may name blocks of the call's own (AC, AV), how concrete values in a world stand for them, and how worlds grow. -/
import Derived.Orders
namespace Go
/-- a value of one cell -/
def Value.one1 : Value → Bool
  | .agg _ | .tuple _ => false
  | _ => true
end Go
namespace Go.Abs

/-- what is kept for good: blocks of memory that nobody writes any more -/
abbrev PH := Nat → Option Obj
/-- where a block of the call's own lies, and its capacity in elements -/
abbrev RM := Nat → Option (Nat × Nat)

inductive D where
  | any
  | int (k : IntKind) (n : Int)
  | bool (b : Bool)
  | str (s : ByteArray)
  | sc (v : Value)
  | sl (x : Bool) (s : Nat) (es : List (List D))
  | rp (cs : List D) (off : Nat)
  | fn (f : Fn) (caps : List D)
  | ifc (t : TypeId) (ag : Bool) (cs : List D)

inductive DV where
  | one (x : D)
  | agg (cs : List D)
  | tup (vs : List DV)

inductive AC where
  | d (x : D)
  | ptr (b off : Nat)
  | ept (s b i off : Nat)
  | msl (s b off len : Nat)
  | map (b : Nat)
  | fn (f : Fn) (caps : List AC)
  | op (r : Value → Prop)

inductive AV where
  | c (x : AC)
  | ag (cs : List AC)
  | tup (vs : List AV)

inductive Blk where
  | non
  | dead
  | box (cs : List AC)
  | arr (s : Nat) (es : List (List AC))
  | map (es : List (D × AV))
  | pin (t : Nat × Nat) (b : Nat)

abbrev Hp := Nat → Blk

def hcells (h : PH) (B : Nat) : List Value :=
  match h B with
  | some (.cells c _ _) => c.toList
  | _ => []

def cellsAt (h : PH) : Option Addr → List Value
  | some p => (hcells h p.block).drop p.off
  | none => []

/-- the most that a length may be -/
def lenMax : Nat := 4611686018427387904

mutual
def RepD (h : PH) : D → Value → Prop
  | .any, _ => True
  | .int k n, v => v = .int k n ∧ k.min ≤ n ∧ n ≤ k.max
  | .bool b, v => v = .bool b
  | .str s, v => v = .string s ∧ s.size ≤ lenMax
  | .sc u, v => v = u
  | .sl x s es, v => ∃ a cap, v = .slice a es.length cap ∧ es.length ≤ cap ∧ (x = true → cap = es.length) ∧ es.length ≤ lenMax ∧
      (a = none → es = [] ∧ cap = 0) ∧ (∀ p, a = some p → 0 < cap → p.spot = none) ∧ RepE h s es (cellsAt h a)
  | .rp cs off, v => ∃ B o, v = .pointer (some ⟨B, o + off, none⟩) ∧ RepL h cs ((hcells h B).drop o)
  | .fn f caps, v => ∃ vs : List Value, v = .func f #[] vs.toArray ∧ vs.length = caps.length ∧ RepL h caps vs
  | .ifc t ag cs, v => ∃ vs : List Value, v = .iface t (if ag then .agg vs.toArray else vs.headD undef) ∧ vs.length = cs.length ∧ (ag = false → cs.length = 1) ∧ RepL h cs vs
def RepL (h : PH) : List D → List Value → Prop
  | [], _ => True
  | _ :: _, [] => False
  | d :: ds, v :: vs => (v.one1 = true ∧ RepD h d v) ∧ RepL h ds vs
def RepE (h : PH) (s : Nat) : List (List D) → List Value → Prop
  | [], _ => True
  | e :: es, vs => e.length = s ∧ RepL h e vs ∧ RepE h s es (vs.drop s)
end

/-- a kept heap that keeps more -/
def PH.le (h h' : PH) : Prop := ∀ B o, h B = some o → h' B = some o

theorem PH.le_refl (h : PH) : h.le h := fun _ _ e => e
theorem PH.le_trans {a b c : PH} (h : a.le b) (k : b.le c) : a.le c := fun B o e => k B o (h B o e)

theorem hcells_le {h h' : PH} (hle : h.le h') (B : Nat) : ∃ t, hcells h' B = hcells h B ++ t := by
  unfold hcells
  cases e : h B with
  | none => exact ⟨_, by simp; rfl⟩
  | some o => rw [hle B o e]; exact ⟨[], by simp⟩

theorem hcells_drop_le {h h' : PH} (hle : h.le h') (B n : Nat) : ∃ t, (hcells h' B).drop n = (hcells h B).drop n ++ t := by
  obtain ⟨t, ht⟩ := hcells_le hle B
  rw [ht, List.drop_append]
  exact ⟨_, rfl⟩

theorem cellsAt_le {h h' : PH} (hle : h.le h') (a : Option Addr) : ∃ t, cellsAt h' a = cellsAt h a ++ t := by
  cases a with
  | none => exact ⟨[], rfl⟩
  | some p => exact hcells_drop_le hle _ _

mutual
theorem RepD.mono {h h' : PH} (hle : h.le h') : ∀ (d : D) (v : Value), RepD h d v → RepD h' d v
  | .any, _, _ => by simp [RepD]
  | .int k n, _, r => by simpa [RepD] using r
  | .bool b, _, r => by simpa [RepD] using r
  | .str s, _, r => by simpa [RepD] using r
  | .sc u, _, r => by simpa [RepD] using r
  | .sl x s es, v, r => by
    simp only [RepD] at r ⊢
    obtain ⟨a, cap, h1, h2, h3, h4, h5, h6, h7⟩ := r
    refine ⟨a, cap, h1, h2, h3, h4, h5, h6, ?_⟩
    obtain ⟨t, ht⟩ := cellsAt_le hle a
    rw [ht]
    exact RepE.mono hle es _ t h7
  | .rp cs off, v, r => by
    simp only [RepD] at r ⊢
    obtain ⟨B, o, h1, h2⟩ := r
    refine ⟨B, o, h1, ?_⟩
    obtain ⟨t, ht⟩ := hcells_drop_le hle B o
    rw [ht]
    exact RepL.mono hle cs _ t h2
  | .fn f caps, v, r => by
    simp only [RepD] at r ⊢
    obtain ⟨vs, h1, h2, h3⟩ := r
    refine ⟨vs, h1, h2, ?_⟩
    simpa using RepL.mono hle caps vs [] h3
  | .ifc t ag cs, v, r => by
    simp only [RepD] at r ⊢
    obtain ⟨vs, h1, h2, h3, h4⟩ := r
    refine ⟨vs, h1, h2, h3, ?_⟩
    simpa using RepL.mono hle cs vs [] h4
theorem RepL.mono {h h' : PH} (hle : h.le h') : ∀ (ds : List D) (vs t : List Value), RepL h ds vs → RepL h' ds (vs ++ t)
  | [], _, _, _ => by simp [RepL]
  | d :: ds, [], _, r => by simp [RepL] at r
  | d :: ds, v :: vs, t, r => by
    simp only [RepL, List.cons_append] at r ⊢
    exact ⟨⟨r.1.1, RepD.mono hle d v r.1.2⟩, RepL.mono hle ds vs t r.2⟩
theorem RepE.mono {h h' : PH} (hle : h.le h') {s : Nat} : ∀ (es : List (List D)) (vs t : List Value), RepE h s es vs → RepE h' s es (vs ++ t)
  | [], _, _, _ => by simp [RepE]
  | e :: es, vs, t, r => by
    simp only [RepE] at r ⊢
    refine ⟨r.1, RepL.mono hle e vs t r.2.1, ?_⟩
    rw [List.drop_append]
    exact RepE.mono hle es _ _ r.2.2
end

theorem RepL.mono' {h h' : PH} (hle : h.le h') {ds : List D} {vs : List Value} (r : RepL h ds vs) : RepL h' ds vs := by
  simpa using RepL.mono hle ds vs [] r

theorem RepL.length {h : PH} : ∀ {ds : List D} {vs : List Value}, RepL h ds vs → ds.length ≤ vs.length
  | [], _, _ => by simp
  | _ :: _, [], r => by simp [RepL] at r
  | d :: ds, v :: vs, r => by
    simp only [RepL] at r
    have := RepL.length r.2
    simpa using this

theorem RepL.get {h : PH} : ∀ {ds : List D} {vs : List Value} {j : Nat} {x : D}, RepL h ds vs → ds[j]? = some x → ∃ v, vs[j]? = some v ∧ v.one1 = true ∧ RepD h x v
  | [], _, j, x, _, e => by simp at e
  | _ :: _, [], _, _, r, _ => by simp [RepL] at r
  | d :: ds, v :: vs, 0, x, r, e => by
    simp only [RepL] at r
    simp at e
    subst e
    exact ⟨v, by simp, r.1.1, r.1.2⟩
  | d :: ds, v :: vs, j + 1, x, r, e => by
    simp only [RepL] at r
    simp only [List.getElem?_cons_succ] at e ⊢
    exact RepL.get r.2 e

theorem RepL.take {h : PH} : ∀ {ds : List D} {vs : List Value}, RepL h ds vs → RepL h ds (vs.take ds.length)
  | [], _, _ => by simp [RepL]
  | _ :: _, [], r => by simp [RepL] at r
  | d :: ds, v :: vs, r => by
    simp only [RepL, List.length_cons, List.take_succ_cons] at r ⊢
    exact ⟨r.1, RepL.take r.2⟩

theorem RepL.drop {h : PH} : ∀ {ds : List D} {vs : List Value} (n : Nat), RepL h ds vs → RepL h (ds.drop n) (vs.drop n)
  | [], _, n, _ => by simp [RepL]
  | _ :: _, [], _, r => by simp [RepL] at r
  | d :: ds, v :: vs, 0, r => by simpa using r
  | d :: ds, v :: vs, n + 1, r => by
    simp only [RepL] at r
    simpa using RepL.drop n r.2

theorem RepL.takeDs {h : PH} : ∀ {ds : List D} {vs : List Value} (n : Nat), RepL h ds vs → RepL h (ds.take n) vs
  | [], _, n, _ => by simp [RepL]
  | _ :: _, [], _, r => by simp [RepL] at r
  | d :: ds, v :: vs, 0, r => by simp [RepL]
  | d :: ds, v :: vs, n + 1, r => by
    simp only [RepL, List.take_succ_cons] at r ⊢
    exact ⟨r.1, RepL.takeDs n r.2⟩

theorem RepE.get {h : PH} {s : Nat} : ∀ {es : List (List D)} {vs : List Value} {i : Nat} {e : List D}, RepE h s es vs → es[i]? = some e → e.length = s ∧ RepL h e (vs.drop (i * s))
  | [], _, i, e, _, hi => by simp at hi
  | e0 :: es, vs, 0, e, r, hi => by
    simp only [RepE] at r
    simp at hi
    subst hi
    exact ⟨r.1, by simpa using r.2.1⟩
  | e0 :: es, vs, i + 1, e, r, hi => by
    simp only [RepE] at r
    simp only [List.getElem?_cons_succ] at hi
    have := RepE.get r.2.2 hi
    refine ⟨this.1, ?_⟩
    rw [List.drop_drop] at this
    have e1 : s + i * s = (i + 1) * s := by rw [Nat.add_mul, Nat.one_mul, Nat.add_comm]
    rw [← e1]
    exact this.2

theorem RepE.len {h : PH} {s : Nat} : ∀ {es : List (List D)} {vs : List Value}, RepE h s es vs → ∀ e, e ∈ es → e.length = s
  | [], _, _, e, he => by cases he
  | e0 :: es, vs, r, e, he => by
    simp only [RepE] at r
    cases List.mem_cons.1 he with
    | inl e1 => rw [e1]; exact r.1
    | inr e1 => exact RepE.len r.2.2 e e1

theorem RepE.drop {h : PH} {s : Nat} : ∀ {es : List (List D)} {vs : List Value} (n : Nat), RepE h s es vs → RepE h s (es.drop n) (vs.drop (n * s))
  | [], _, n, _ => by simp [RepE]
  | e0 :: es, vs, 0, r => by simpa using r
  | e0 :: es, vs, n + 1, r => by
    simp only [RepE] at r
    have := RepE.drop n r.2.2
    rw [List.drop_drop] at this
    have e1 : s + n * s = (n + 1) * s := by rw [Nat.add_mul, Nat.one_mul, Nat.add_comm]
    rw [← e1]
    simpa using this

theorem RepE.take {h : PH} {s : Nat} : ∀ {es : List (List D)} {vs : List Value} (n : Nat), RepE h s es vs → RepE h s (es.take n) vs
  | [], _, n, _ => by simp [RepE]
  | e0 :: es, vs, 0, r => by simp [RepE]
  | e0 :: es, vs, n + 1, r => by
    simp only [RepE, List.take_succ_cons] at r ⊢
    exact ⟨r.1, r.2.1, RepE.take n r.2.2⟩

/-- all the cells of a row of elements, as many as there are, are there -/
theorem RepE.total {h : PH} {s : Nat} : ∀ {es : List (List D)} {vs : List Value}, RepE h s es vs → es.length * s ≤ vs.length
  | [], _, _ => by simp
  | e0 :: es, vs, r => by
    simp only [RepE] at r
    have h1 := RepL.length r.2.1
    have h2 := RepE.total r.2.2
    simp only [List.length_drop] at h2
    simp only [List.length_cons, Nat.add_mul, Nat.one_mul]
    by_cases hs : s ≤ vs.length
    · omega
    · omega

theorem RepL.append {h : PH} : ∀ {ds : List D} {vs : List Value} {ds' : List D} {vs' : List Value}, RepL h ds vs → vs.length = ds.length → RepL h ds' vs' → RepL h (ds ++ ds') (vs ++ vs')
  | [], [], _, _, _, _, r => by simpa using r
  | [], _ :: _, _, _, _, e, _ => by simp at e
  | _ :: _, [], _, _, r, _, _ => by simp [RepL] at r
  | d :: ds, v :: vs, ds', vs', r, e, r' => by
    simp only [RepL, List.cons_append] at r ⊢
    exact ⟨r.1, RepL.append r.2 (by simpa using e) r'⟩

theorem RepE.append {h : PH} {s : Nat} : ∀ {es : List (List D)} {vs : List Value} {es' : List (List D)} {vs' : List Value}, RepE h s es vs → vs.length = es.length * s → RepE h s es' vs' → RepE h s (es ++ es') (vs ++ vs')
  | [], vs, _, _, _, e, r => by
    have : vs = [] := by simpa using e
    subst this
    simpa using r
  | e0 :: es, vs, es', vs', r, e, r' => by
    simp only [RepE, List.cons_append] at r ⊢
    have hl : vs.length = s + es.length * s := by simpa [Nat.add_mul, Nat.add_comm] using e
    refine ⟨r.1, ?_, ?_⟩
    · exact (by simpa using RepL.mono (PH.le_refl h) e0 vs vs' r.2.1)
    · rw [List.drop_append_of_le_length (by omega)]
      exact RepE.append r.2.2 (by simp; omega) r'

/-! ### cells and values that may name blocks of the call's own -/

mutual
def RepC (h : PH) (ρ : RM) : AC → Value → Prop
  | .d x, v => RepD h x v
  | .ptr b off, v => ∃ p, ρ b = some p ∧ v = .pointer (some ⟨p.1, off, none⟩)
  | .ept s b i off, v => ∃ p, ρ b = some p ∧ v = .pointer (some ⟨p.1, i * s + off, none⟩)
  | .msl s b off len, v => ∃ p a, ρ b = some p ∧ v = .slice a len (p.2 - off) ∧ off + len ≤ p.2 ∧ (off < p.2 → a = some ⟨p.1, off * s, none⟩) ∧ (∀ q, a = some q → 0 < p.2 - off → q.spot = none)
  | .map b, v => ∃ p, ρ b = some p ∧ v = .map (some p.1)
  | .fn f caps, v => ∃ vs : List Value, v = .func f #[] vs.toArray ∧ vs.length = caps.length ∧ RepCL h ρ caps vs
  | .op r, v => r v
def RepCL (h : PH) (ρ : RM) : List AC → List Value → Prop
  | [], _ => True
  | _ :: _, [] => False
  | c :: cs, v :: vs => (v.one1 = true ∧ RepC h ρ c v) ∧ RepCL h ρ cs vs
end

mutual
def RepV (h : PH) (ρ : RM) : AV → Value → Prop
  | .c x, v => RepC h ρ x v
  | .ag cs, v => ∃ vs : List Value, v = .agg vs.toArray ∧ vs.length = cs.length ∧ RepCL h ρ cs vs
  | .tup xs, v => ∃ vs : List Value, v = .tuple vs.toArray ∧ RepVL h ρ xs vs
def RepVL (h : PH) (ρ : RM) : List AV → List Value → Prop
  | [], vs => vs = []
  | _ :: _, [] => False
  | x :: xs, v :: vs => RepV h ρ x v ∧ RepVL h ρ xs vs
end

def RepCE (h : PH) (ρ : RM) (s : Nat) : List (List AC) → List Value → Prop
  | [], _ => True
  | e :: es, vs => e.length = s ∧ RepCL h ρ e vs ∧ RepCE h ρ s es (vs.drop s)

mutual
def RepDV (h : PH) : DV → Value → Prop
  | .one x, v => RepD h x v
  | .agg cs, v => ∃ vs : List Value, v = .agg vs.toArray ∧ vs.length = cs.length ∧ RepL h cs vs
  | .tup xs, v => ∃ vs : List Value, v = .tuple vs.toArray ∧ RepDVL h xs vs
def RepDVL (h : PH) : List DV → List Value → Prop
  | [], vs => vs = []
  | _ :: _, [] => False
  | x :: xs, v :: vs => RepDV h x v ∧ RepDVL h xs vs
end

/-- more is known of where blocks lie -/
def RM.le (ρ ρ' : RM) : Prop := ∀ b p, ρ b = some p → ρ' b = some p
theorem RM.le_refl (ρ : RM) : ρ.le ρ := fun _ _ e => e
theorem RM.le_trans {a b c : RM} (h : a.le b) (k : b.le c) : a.le c := fun x p e => k x p (h x p e)

section
variable {h h' : PH} {ρ ρ' : RM}

mutual
theorem RepC.mono (hle : h.le h') (rle : ρ.le ρ') : ∀ (c : AC) (v : Value), RepC h ρ c v → RepC h' ρ' c v
  | .d x, v, r => by simp only [RepC] at r ⊢; exact RepD.mono hle x v r
  | .ptr b off, v, r => by simp only [RepC] at r ⊢; obtain ⟨p, h1, h2⟩ := r; exact ⟨p, rle _ _ h1, h2⟩
  | .ept s b i off, v, r => by simp only [RepC] at r ⊢; obtain ⟨p, h1, h2⟩ := r; exact ⟨p, rle _ _ h1, h2⟩
  | .msl s b off len, v, r => by simp only [RepC] at r ⊢; obtain ⟨p, a, h1, h2⟩ := r; exact ⟨p, a, rle _ _ h1, h2⟩
  | .map b, v, r => by simp only [RepC] at r ⊢; obtain ⟨p, h1, h2⟩ := r; exact ⟨p, rle _ _ h1, h2⟩
  | .fn f caps, v, r => by
    simp only [RepC] at r ⊢
    obtain ⟨vs, h1, h2, h3⟩ := r
    exact ⟨vs, h1, h2, RepCL.mono hle rle caps vs h3⟩
  | .op q, v, r => by simpa only [RepC] using r
theorem RepCL.mono (hle : h.le h') (rle : ρ.le ρ') : ∀ (cs : List AC) (vs : List Value), RepCL h ρ cs vs → RepCL h' ρ' cs vs
  | [], _, _ => by simp [RepCL]
  | _ :: _, [], r => by simp [RepCL] at r
  | c :: cs, v :: vs, r => by
    simp only [RepCL] at r ⊢
    exact ⟨⟨r.1.1, RepC.mono hle rle c v r.1.2⟩, RepCL.mono hle rle cs vs r.2⟩
end

mutual
theorem RepV.mono (hle : h.le h') (rle : ρ.le ρ') : ∀ (x : AV) (v : Value), RepV h ρ x v → RepV h' ρ' x v
  | .c x, v, r => by simp only [RepV] at r ⊢; exact RepC.mono hle rle x v r
  | .ag cs, v, r => by
    simp only [RepV] at r ⊢
    obtain ⟨vs, h1, h2, h3⟩ := r
    exact ⟨vs, h1, h2, RepCL.mono hle rle cs vs h3⟩
  | .tup xs, v, r => by
    simp only [RepV] at r ⊢
    obtain ⟨vs, h1, h2⟩ := r
    exact ⟨vs, h1, RepVL.mono hle rle xs vs h2⟩
theorem RepVL.mono (hle : h.le h') (rle : ρ.le ρ') : ∀ (xs : List AV) (vs : List Value), RepVL h ρ xs vs → RepVL h' ρ' xs vs
  | [], _, r => by simpa [RepVL] using r
  | _ :: _, [], r => by simp [RepVL] at r
  | x :: xs, v :: vs, r => by
    simp only [RepVL] at r ⊢
    exact ⟨RepV.mono hle rle x v r.1, RepVL.mono hle rle xs vs r.2⟩
end

theorem RepCE.mono (hle : h.le h') (rle : ρ.le ρ') {s : Nat} : ∀ (es : List (List AC)) (vs : List Value), RepCE h ρ s es vs → RepCE h' ρ' s es vs
  | [], _, _ => by simp [RepCE]
  | e :: es, vs, r => by
    simp only [RepCE] at r ⊢
    exact ⟨r.1, RepCL.mono hle rle e vs r.2.1, RepCE.mono hle rle es _ r.2.2⟩

mutual
theorem RepDV.mono (hle : h.le h') : ∀ (x : DV) (v : Value), RepDV h x v → RepDV h' x v
  | .one x, v, r => by simp only [RepDV] at r ⊢; exact RepD.mono hle x v r
  | .agg cs, v, r => by
    simp only [RepDV] at r ⊢
    obtain ⟨vs, h1, h2, h3⟩ := r
    exact ⟨vs, h1, h2, RepL.mono' hle h3⟩
  | .tup xs, v, r => by
    simp only [RepDV] at r ⊢
    obtain ⟨vs, h1, h2⟩ := r
    exact ⟨vs, h1, RepDVL.mono hle xs vs h2⟩
theorem RepDVL.mono (hle : h.le h') : ∀ (xs : List DV) (vs : List Value), RepDVL h xs vs → RepDVL h' xs vs
  | [], _, r => by simpa [RepDVL] using r
  | _ :: _, [], r => by simp [RepDVL] at r
  | x :: xs, v :: vs, r => by
    simp only [RepDVL] at r ⊢
    exact ⟨RepDV.mono hle x v r.1, RepDVL.mono hle xs vs r.2⟩
end

theorem RepCL.get : ∀ {ds : List AC} {vs : List Value} {j : Nat} {x : AC}, RepCL h ρ ds vs → ds[j]? = some x → ∃ v, vs[j]? = some v ∧ v.one1 = true ∧ RepC h ρ x v
  | [], _, j, x, _, e => by simp at e
  | _ :: _, [], _, _, r, _ => by simp [RepCL] at r
  | d :: ds, v :: vs, 0, x, r, e => by
    simp only [RepCL] at r
    simp at e
    subst e
    exact ⟨v, by simp, r.1.1, r.1.2⟩
  | d :: ds, v :: vs, j + 1, x, r, e => by
    simp only [RepCL] at r
    simp only [List.getElem?_cons_succ] at e ⊢
    exact RepCL.get r.2 e

theorem RepCL.length : ∀ {ds : List AC} {vs : List Value}, RepCL h ρ ds vs → ds.length ≤ vs.length
  | [], _, _ => by simp
  | _ :: _, [], r => by simp [RepCL] at r
  | d :: ds, v :: vs, r => by
    simp only [RepCL] at r
    have := RepCL.length r.2
    simpa using this

theorem RepCL.take : ∀ {ds : List AC} {vs : List Value}, RepCL h ρ ds vs → RepCL h ρ ds (vs.take ds.length)
  | [], _, _ => by simp [RepCL]
  | _ :: _, [], r => by simp [RepCL] at r
  | d :: ds, v :: vs, r => by
    simp only [RepCL, List.length_cons, List.take_succ_cons] at r ⊢
    exact ⟨r.1, RepCL.take r.2⟩

theorem RepCL.drop : ∀ {ds : List AC} {vs : List Value} (n : Nat), RepCL h ρ ds vs → RepCL h ρ (ds.drop n) (vs.drop n)
  | [], _, n, _ => by simp [RepCL]
  | _ :: _, [], _, r => by simp [RepCL] at r
  | d :: ds, v :: vs, 0, r => by simpa using r
  | d :: ds, v :: vs, n + 1, r => by
    simp only [RepCL] at r
    simpa using RepCL.drop n r.2

theorem RepCL.takeDs : ∀ {ds : List AC} {vs : List Value} (n : Nat), RepCL h ρ ds vs → RepCL h ρ (ds.take n) vs
  | [], _, n, _ => by simp [RepCL]
  | _ :: _, [], _, r => by simp [RepCL] at r
  | d :: ds, v :: vs, 0, r => by simp [RepCL]
  | d :: ds, v :: vs, n + 1, r => by
    simp only [RepCL, List.take_succ_cons] at r ⊢
    exact ⟨r.1, RepCL.takeDs n r.2⟩

theorem RepCL.more : ∀ {ds : List AC} {vs : List Value} (t : List Value), RepCL h ρ ds vs → RepCL h ρ ds (vs ++ t)
  | [], _, t, _ => by simp [RepCL]
  | _ :: _, [], _, r => by simp [RepCL] at r
  | d :: ds, v :: vs, t, r => by
    simp only [RepCL, List.cons_append] at r ⊢
    exact ⟨r.1, RepCL.more t r.2⟩

theorem RepCL.append : ∀ {ds : List AC} {vs : List Value} {ds' : List AC} {vs' : List Value}, RepCL h ρ ds vs → vs.length = ds.length → RepCL h ρ ds' vs' → RepCL h ρ (ds ++ ds') (vs ++ vs')
  | [], [], _, _, _, _, r => by simpa using r
  | [], _ :: _, _, _, _, e, _ => by simp at e
  | _ :: _, [], _, _, r, _, _ => by simp [RepCL] at r
  | d :: ds, v :: vs, ds', vs', r, e, r' => by
    simp only [RepCL, List.cons_append] at r ⊢
    exact ⟨r.1, RepCL.append r.2 (by simpa using e) r'⟩

theorem RepCL.set : ∀ {ds : List AC} {vs : List Value} {j : Nat} {x : AC} {v : Value}, RepCL h ρ ds vs → v.one1 = true → RepC h ρ x v → RepCL h ρ (ds.set j x) (vs.set j v)
  | [], _, _, _, _, _, _, _ => by simp [RepCL]
  | _ :: _, [], _, _, _, r, _, _ => by simp [RepCL] at r
  | d :: ds, v :: vs, 0, x, u, r, e, q => by
    simp only [RepCL, List.set_cons_zero] at r ⊢
    exact ⟨⟨e, q⟩, r.2⟩
  | d :: ds, v :: vs, j + 1, x, u, r, e, q => by
    simp only [RepCL, List.set_cons_succ] at r ⊢
    exact ⟨r.1, RepCL.set r.2 e q⟩

theorem RepCL.of_D : ∀ {ds : List D} {vs : List Value}, RepL h ds vs → RepCL h ρ (ds.map .d) vs
  | [], _, _ => by simp [RepCL]
  | _ :: _, [], r => by simp [RepL] at r
  | d :: ds, v :: vs, r => by
    simp only [RepL] at r
    simp only [List.map_cons, RepCL, RepC]
    exact ⟨r.1, RepCL.of_D r.2⟩

theorem RepCL.to_D : ∀ {ds : List D} {vs : List Value}, RepCL h ρ (ds.map .d) vs → RepL h ds vs
  | [], _, _ => by simp [RepL]
  | _ :: _, [], r => by simp [RepCL] at r
  | d :: ds, v :: vs, r => by
    simp only [List.map_cons, RepCL, RepC] at r
    simp only [RepL]
    exact ⟨r.1, RepCL.to_D r.2⟩

theorem RepCE.get {s : Nat} : ∀ {es : List (List AC)} {vs : List Value} {i : Nat} {e : List AC}, RepCE h ρ s es vs → es[i]? = some e → e.length = s ∧ RepCL h ρ e (vs.drop (i * s))
  | [], _, i, e, _, hi => by simp at hi
  | e0 :: es, vs, 0, e, r, hi => by
    simp only [RepCE] at r
    simp at hi
    subst hi
    exact ⟨r.1, by simpa using r.2.1⟩
  | e0 :: es, vs, i + 1, e, r, hi => by
    simp only [RepCE] at r
    simp only [List.getElem?_cons_succ] at hi
    have := RepCE.get r.2.2 hi
    refine ⟨this.1, ?_⟩
    rw [List.drop_drop] at this
    have e1 : s + i * s = (i + 1) * s := by rw [Nat.add_mul, Nat.one_mul, Nat.add_comm]
    rw [← e1]
    exact this.2

theorem RepCE.total {s : Nat} : ∀ {es : List (List AC)} {vs : List Value}, RepCE h ρ s es vs → es.length * s ≤ vs.length
  | [], _, _ => by simp
  | e0 :: es, vs, r => by
    simp only [RepCE] at r
    have h1 := RepCL.length r.2.1
    have h2 := RepCE.total r.2.2
    simp only [List.length_drop] at h2
    simp only [List.length_cons, Nat.add_mul, Nat.one_mul]
    by_cases hs : s ≤ vs.length
    · omega
    · omega

theorem RepCE.more {s : Nat} : ∀ {es : List (List AC)} {vs : List Value} (t : List Value), RepCE h ρ s es vs → RepCE h ρ s es (vs ++ t)
  | [], _, t, _ => by simp [RepCE]
  | e :: es, vs, t, r => by
    simp only [RepCE] at r ⊢
    refine ⟨r.1, r.2.1.more t, ?_⟩
    rw [List.drop_append]
    exact RepCE.more _ r.2.2

theorem RepCE.append {s : Nat} : ∀ {es : List (List AC)} {vs : List Value} {es' : List (List AC)} {vs' : List Value}, RepCE h ρ s es vs → vs.length = es.length * s → RepCE h ρ s es' vs' → RepCE h ρ s (es ++ es') (vs ++ vs')
  | [], vs, _, _, _, e, r => by
    have : vs = [] := by simpa using e
    subst this
    simpa using r
  | e0 :: es, vs, es', vs', r, e, r' => by
    simp only [RepCE, List.cons_append] at r ⊢
    have hl : vs.length = s + es.length * s := by simpa [Nat.add_mul, Nat.add_comm] using e
    refine ⟨r.1, r.2.1.more vs', ?_⟩
    rw [List.drop_append_of_le_length (by omega)]
    exact RepCE.append r.2.2 (by simp; omega) r'

theorem RepCE.of_E {s : Nat} : ∀ {es : List (List D)} {vs : List Value}, RepE h s es vs → RepCE h ρ s (es.map (·.map .d)) vs
  | [], _, _ => by simp [RepCE]
  | e :: es, vs, r => by
    simp only [RepE] at r
    simp only [List.map_cons, RepCE, List.length_map]
    exact ⟨r.1, RepCL.of_D r.2.1, RepCE.of_E r.2.2⟩

theorem RepCE.to_E {s : Nat} : ∀ {es : List (List D)} {vs : List Value}, RepCE h ρ s (es.map (·.map .d)) vs → RepE h s es vs
  | [], _, _ => by simp [RepE]
  | e :: es, vs, r => by
    simp only [List.map_cons, RepCE, List.length_map] at r
    simp only [RepE]
    exact ⟨r.1, RepCL.to_D r.2.1, RepCE.to_E r.2.2⟩

theorem RepCE.takeEs {s : Nat} : ∀ {es : List (List AC)} {vs : List Value} (n : Nat), RepCE h ρ s es vs → RepCE h ρ s (es.take n) vs
  | [], _, n, _ => by simp [RepCE]
  | e0 :: es, vs, 0, r => by simp [RepCE]
  | e0 :: es, vs, n + 1, r => by
    simp only [RepCE, List.take_succ_cons] at r ⊢
    exact ⟨r.1, r.2.1, RepCE.takeEs n r.2.2⟩

theorem RepCE.drop {s : Nat} : ∀ {es : List (List AC)} {vs : List Value} (n : Nat), RepCE h ρ s es vs → RepCE h ρ s (es.drop n) (vs.drop (n * s))
  | [], _, n, _ => by simp [RepCE]
  | e0 :: es, vs, 0, r => by simpa using r
  | e0 :: es, vs, n + 1, r => by
    simp only [RepCE] at r
    have := RepCE.drop n r.2.2
    rw [List.drop_drop] at this
    have e1 : s + n * s = (n + 1) * s := by rw [Nat.add_mul, Nat.one_mul, Nat.add_comm]
    rw [← e1]
    simpa using this
end

end Go.Abs
