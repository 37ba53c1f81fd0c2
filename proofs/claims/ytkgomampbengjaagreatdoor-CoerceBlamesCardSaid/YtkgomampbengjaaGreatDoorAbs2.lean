/- How an abstract heap stands for a real one, and how both go on together. -/
import Derived.Test.YtkgomampbengjaaGreatDoorAbs1
set_option linter.unusedVariables false
set_option linter.unusedSimpArgs false
namespace Go.Abs

def upd {α : Type} (f : Nat → α) (k : Nat) (v : α) : Nat → α := fun j => if j = k then v else f j
theorem upd_same {α : Type} (f : Nat → α) (k : Nat) (v : α) : upd f k v k = v := by simp [upd]
theorem upd_ne {α : Type} (f : Nat → α) {k j : Nat} (v : α) (h : j ≠ k) : upd f k v j = f j := by simp [upd, h]

def Real : Blk → Nat × Nat → Prop
  | .non, _ | .dead, _ | .pin _ _, _ => False
  | .arr _ _, p => 0 < p.2
  | _, _ => True

def RepM (h : PH) (ρ : RM) : List (D × AV) → List MapEntry → Prop
  | [], ms => ms = []
  | _ :: _, [] => False
  | e :: es, x :: ms => (RepD h e.1 x.key ∧ RepV h ρ e.2 x.val) ∧ RepM h ρ es ms

theorem RepM.mono {h h' : PH} {ρ ρ' : RM} (hle : h.le h') (rle : ρ.le ρ') : ∀ (es : List (D × AV)) (ms : List MapEntry), RepM h ρ es ms → RepM h' ρ' es ms
  | [], _, r => by simpa [RepM] using r
  | _ :: _, [], r => by simp [RepM] at r
  | e :: es, x :: ms, r => by
    simp only [RepM] at r ⊢
    exact ⟨⟨RepD.mono hle _ _ r.1.1, RepV.mono hle rle _ _ r.1.2⟩, RepM.mono hle rle es ms r.2⟩

abbrev Heap := Array Obj

def BlkRep (h : PH) (ρ : RM) (p : Nat × Nat) : Blk → Heap → Prop
  | .non, _ => True
  | .dead, _ => True
  | .pin t b, _ => p = t ∧ ρ b = some t
  | .box cs, w => ∃ (vs : List Value) (T : TypeId), w[p.1]? = some (.cells vs.toArray T (0, 0)) ∧ vs.length = cs.length ∧ RepCL h ρ cs vs
  | .arr s es, w => (p.2 = 0 ∧ es = []) ∨ ∃ (vs : List Value) (T : TypeId), w[p.1]? = some (.cells vs.toArray T (0, 0)) ∧ vs.length = p.2 * s ∧ es.length ≤ p.2 ∧ es.length ≤ lenMax ∧ RepCE h ρ s es vs
  | .map es, w => ∃ (ms : List MapEntry) (clock : Nat), w[p.1]? = some (.map ms.toArray clock) ∧ RepM h ρ es ms ∧ (∀ e, e ∈ ms → e.born < clock) ∧ (ms.map (·.born)).Nodup

structure HRel (h : PH) (ρ : RM) (m : Hp) (w : Heap) : Prop where
  pers : ∀ B o, h B = some o → w[B]? = some o
  dom : ∀ b, m b = .non ↔ ρ b = none
  own : ∀ b p, ρ b = some p → BlkRep h ρ p (m b) w
  inj : ∀ b c p q, ρ b = some p → ρ c = some q → Real (m b) p → Real (m c) q → p.1 = q.1 → b = c
  sep : ∀ b p, ρ b = some p → Real (m b) p → h p.1 = none

/-- no block of the call's own lies there -/
def Free (ρ : RM) (m : Hp) (B : Nat) : Prop := ∀ b p, ρ b = some p → Real (m b) p → p.1 ≠ B

structure Step (h : PH) (ρ : RM) (m : Hp) (w : Heap) (h' : PH) (ρ' : RM) (m' : Hp) (w' : Heap) : Prop where
  hle : h.le h'
  hlow : ∀ B, B < w.size → Free ρ m B → h' B = h B
  rle : ρ.le ρ'
  size : w.size ≤ w'.size
  frame : ∀ B, B < w.size → Free ρ m B → w'[B]? = w[B]?
  own : ∀ b p, ρ' b = some p → Real (m' b) p → w.size ≤ p.1 ∨ ∃ c q, ρ c = some q ∧ Real (m c) q ∧ q.1 = p.1

theorem Step.free {h h' : PH} {ρ ρ' : RM} {m m' : Hp} {w w' : Heap} (s : Step h ρ m w h' ρ' m' w') {B : Nat} (hB : B < w.size) (hf : Free ρ m B) : Free ρ' m' B := by
  intro b p hp hr e
  rcases s.own b p hp hr with h1 | ⟨c, q, hc, hq, e1⟩
  · omega
  · exact hf c q hc hq (e1.trans e)

theorem Step.trans {h h' h'' : PH} {ρ ρ' ρ'' : RM} {m m' m'' : Hp} {w w' w'' : Heap} (s : Step h ρ m w h' ρ' m' w') (t : Step h' ρ' m' w' h'' ρ'' m'' w'') :
    Step h ρ m w h'' ρ'' m'' w'' where
  hle := PH.le_trans s.hle t.hle
  hlow B hB hf := (t.hlow B (Nat.lt_of_lt_of_le hB s.size) (s.free hB hf)).trans (s.hlow B hB hf)
  rle := RM.le_trans s.rle t.rle
  size := Nat.le_trans s.size t.size
  frame B hB hf := (t.frame B (Nat.lt_of_lt_of_le hB s.size) (s.free hB hf)).trans (s.frame B hB hf)
  own b p hp hr := by
    rcases t.own b p hp hr with h1 | ⟨c, q, hc, hq, e1⟩
    · exact .inl (Nat.le_trans s.size h1)
    · rcases s.own c q hc hq with h2 | ⟨d, r, hd, hr', e2⟩
      · exact .inl (by omega)
      · exact .inr ⟨d, r, hd, hr', e2.trans e1⟩

/-- the same, nothing said of the numbers -/
structure StepW (h : PH) (ρ : RM) (m : Hp) (w : Heap) (h' : PH) (ρ' : RM) (m' : Hp) (w' : Heap) : Prop where
  hle : h.le h'
  hlow : ∀ B, B < w.size → Free ρ m B → h' B = h B
  size : w.size ≤ w'.size
  frame : ∀ B, B < w.size → Free ρ m B → w'[B]? = w[B]?
  own : ∀ b p, ρ' b = some p → Real (m' b) p → w.size ≤ p.1 ∨ ∃ c q, ρ c = some q ∧ Real (m c) q ∧ q.1 = p.1

theorem Step.wk {h h' : PH} {ρ ρ' : RM} {m m' : Hp} {w w' : Heap} (s : Step h ρ m w h' ρ' m' w') : StepW h ρ m w h' ρ' m' w' := ⟨s.hle, s.hlow, s.size, s.frame, s.own⟩
theorem StepW.free {h h' : PH} {ρ ρ' : RM} {m m' : Hp} {w w' : Heap} (s : StepW h ρ m w h' ρ' m' w') {B : Nat} (hB : B < w.size) (hf : Free ρ m B) : Free ρ' m' B := by
  intro b p hp hr e
  rcases s.own b p hp hr with h1 | ⟨c, q, hc, hq, e1⟩
  · omega
  · exact hf c q hc hq (e1.trans e)
theorem StepW.trans {h h' h'' : PH} {ρ ρ' ρ'' : RM} {m m' m'' : Hp} {w w' w'' : Heap} (s : StepW h ρ m w h' ρ' m' w') (t : Step h' ρ' m' w' h'' ρ'' m'' w'') :
    StepW h ρ m w h'' ρ'' m'' w'' where
  hle := PH.le_trans s.hle t.hle
  hlow B hB hf := (t.hlow B (Nat.lt_of_lt_of_le hB s.size) (s.free hB hf)).trans (s.hlow B hB hf)
  size := Nat.le_trans s.size t.size
  frame B hB hf := (t.frame B (Nat.lt_of_lt_of_le hB s.size) (s.free hB hf)).trans (s.frame B hB hf)
  own b p hp hr := by
    rcases t.own b p hp hr with h1 | ⟨c, q, hc, hq, e1⟩
    · exact .inl (Nat.le_trans s.size h1)
    · rcases s.own c q hc hq with h2 | ⟨d, r, hd, hr', e2⟩
      · exact .inl (by omega)
      · exact .inr ⟨d, r, hd, hr', e2.trans e1⟩

theorem Step.refl (h : PH) (ρ : RM) (m : Hp) (w : Heap) : Step h ρ m w h ρ m w where
  hle := PH.le_refl h
  hlow _ _ _ := rfl
  rle := RM.le_refl ρ
  size := Nat.le_refl _
  frame _ _ _ := rfl
  own b p hp hr := .inr ⟨b, p, hp, hr, rfl⟩

section
variable {h h' : PH} {ρ ρ' : RM} {m m' : Hp} {w w' : Heap}

theorem HRel.lt (H : HRel h ρ m w) {B : Nat} {o : Obj} (e : h B = some o) : B < w.size := by
  have := H.pers B o e
  rcases Nat.lt_or_ge B w.size with h1 | h1
  · exact h1
  · rw [Array.getElem?_eq_none h1] at this; cases this

theorem BlkRep.congr {p : Nat × Nat} {blk : Blk} (hle : h.le h') (rle : ρ.le ρ') (e : w'[p.1]? = w[p.1]?) (r : BlkRep h ρ p blk w) : BlkRep h' ρ' p blk w' := by
  cases blk with
  | non => trivial
  | dead => trivial
  | box cs =>
    obtain ⟨vs, T, h1, h2, h3⟩ := r
    exact ⟨vs, T, e.trans h1, h2, RepCL.mono hle rle _ _ h3⟩
  | arr s es =>
    rcases r with r | ⟨vs, T, h1, h2, h3, h5, h4⟩
    · exact .inl r
    · exact .inr ⟨vs, T, e.trans h1, h2, h3, h5, RepCE.mono hle rle _ _ h4⟩
  | map es =>
    obtain ⟨ms, ck, h1, h2, h3, h4⟩ := r
    exact ⟨ms, ck, e.trans h1, RepM.mono hle rle _ _ h2, h3, h4⟩
  | pin t b => exact ⟨r.1, rle _ _ r.2⟩

theorem BlkRep.notReal {p : Nat × Nat} {blk : Blk} (hn : ¬ Real blk p) (r : BlkRep h ρ p blk w) (h' : PH) {ρ' : RM} (rle : ρ.le ρ') (w' : Heap) : BlkRep h' ρ' p blk w' := by
  cases blk with
  | non => trivial
  | dead => trivial
  | box cs => exact absurd trivial hn
  | arr s es =>
    have h0 : p.2 = 0 := by simp only [Real] at hn; omega
    rcases r with r | ⟨vs, T, h1, h2, h3, h5, h4⟩
    · exact .inl r
    · exact .inl ⟨h0, List.length_eq_zero_iff.1 (by omega)⟩
  | map es => exact absurd trivial hn
  | pin t b => exact ⟨r.1, rle _ _ r.2⟩

theorem BlkRep.lt {p : Nat × Nat} {blk : Blk} (hn : Real blk p) (r : BlkRep h ρ p blk w) : p.1 < w.size := by
  have key : ∀ o, w[p.1]? = some o → p.1 < w.size := fun o e => by
    rcases Nat.lt_or_ge p.1 w.size with h1 | h1
    · exact h1
    · rw [Array.getElem?_eq_none h1] at e; cases e
  cases blk with
  | non => exact hn.elim
  | dead => exact hn.elim
  | pin t b => exact hn.elim
  | box cs => obtain ⟨vs, T, h1, _⟩ := r; exact key _ h1
  | arr s es =>
    rcases r with r | ⟨vs, T, h1, _⟩
    · simp only [Real] at hn; omega
    · exact key _ h1
  | map es => obtain ⟨vs, T, h1, _⟩ := r; exact key _ h1

theorem HRel.real_lt (H : HRel h ρ m w) {b : Nat} {p : Nat × Nat} (e : ρ b = some p) (hr : Real (m b) p) : p.1 < w.size := BlkRep.lt hr (H.own b p e)

theorem HRel.free_new (H : HRel h ρ m w) : Free ρ m w.size := fun b p hp hr e => by
  have := H.real_lt hp hr
  omega

/-- the heap goes on, none of the own blocks turning -/
theorem HRel.grow (H : HRel h ρ m w) (hle : h.le h') (hp : ∀ B o, h' B = some o → w'[B]? = some o)
    (hf : ∀ B, B < w.size → ¬ Free ρ m B → w'[B]? = w[B]? ∧ h' B = h B) : HRel h' ρ m w' where
  pers := hp
  dom := H.dom
  own b p e := by
    by_cases hr : Real (m b) p
    · exact BlkRep.congr hle (RM.le_refl _) (hf p.1 (H.real_lt e hr) (fun hh => hh b p e hr rfl)).1 (H.own b p e)
    · exact BlkRep.notReal hr (H.own b p e) _ (RM.le_refl _) _
  inj := H.inj
  sep b p e hr := by
    rw [(hf p.1 (H.real_lt e hr) (fun hh => hh b p e hr rfl)).2]
    exact H.sep b p e hr

theorem push_get_lt (w : Heap) (o : Obj) {B : Nat} (hB : B < w.size) : (w.push o)[B]? = w[B]? := by
  rw [Array.getElem?_push, if_neg (by omega)]
theorem push_get_size (w : Heap) (o : Obj) : (w.push o)[w.size]? = some o := by simp

/-- a new block that nobody will write -/
theorem HRel.pushP (H : HRel h ρ m w) (o : Obj) : HRel (upd h w.size (some o)) ρ m (w.push o) ∧ Step h ρ m w (upd h w.size (some o)) ρ m (w.push o) := by
  have hle : h.le (upd h w.size (some o)) := fun B q e => by
    have := H.lt e
    rw [upd_ne _ _ (by omega)]; exact e
  refine ⟨H.grow hle ?_ ?_, ⟨hle, fun B hB _ => upd_ne _ _ (by omega), RM.le_refl _, by simp, fun B hB _ => push_get_lt _ _ hB, fun b p e hr => .inr ⟨b, p, e, hr, rfl⟩⟩⟩
  · intro B q e
    by_cases hB : B = w.size
    · subst hB; rw [upd_same] at e; rw [push_get_size]; exact e
    · rw [upd_ne _ _ hB] at e
      rw [push_get_lt _ _ (H.lt e)]; exact H.pers B q e
  · intro B hB _
    exact ⟨push_get_lt _ _ hB, upd_ne _ _ (by omega)⟩

/-- a new block that is let lie -/
theorem HRel.pushG (H : HRel h ρ m w) (o : Obj) : HRel h ρ m (w.push o) ∧ Step h ρ m w h ρ m (w.push o) := by
  refine ⟨H.grow (PH.le_refl h) ?_ ?_, ⟨PH.le_refl h, fun B hB _ => rfl, RM.le_refl _, by simp, fun B hB _ => push_get_lt _ _ hB, fun b p e hr => .inr ⟨b, p, e, hr, rfl⟩⟩⟩
  · intro B q e
    rw [push_get_lt _ _ (H.lt e)]; exact H.pers B q e
  · intro B hB _
    exact ⟨push_get_lt _ _ hB, rfl⟩

theorem rle_upd {b : Nat} {p : Nat × Nat} (e : ρ b = none) : ρ.le (upd ρ b (some p)) := fun c q hc => by
  by_cases hcb : c = b
  · subst hcb; rw [e] at hc; cases hc
  · rw [upd_ne _ _ hcb]; exact hc

/-- a new block of the call's own, under a number that is not in use -/
theorem HRel.pushO (H : HRel h ρ m w) (o : Obj) {b : Nat} (hb : m b = .non) (cap : Nat) {blk : Blk} (hlive : blk ≠ .non)
    (hrep : BlkRep h (upd ρ b (some (w.size, cap))) (w.size, cap) blk (w.push o)) :
    HRel h (upd ρ b (some (w.size, cap))) (upd m b blk) (w.push o) ∧ Step h ρ m w h (upd ρ b (some (w.size, cap))) (upd m b blk) (w.push o) := by
  have e0 : ρ b = none := (H.dom b).1 hb
  have rle := rle_upd (p := (w.size, cap)) e0
  refine ⟨⟨?_, ?_, ?_, ?_, ?_⟩, ⟨PH.le_refl h, fun B hB _ => rfl, rle, by simp, fun B hB _ => push_get_lt _ _ hB, ?_⟩⟩
  · intro B q e
    rw [push_get_lt _ _ (H.lt e)]; exact H.pers B q e
  · intro c
    by_cases hc : c = b
    · subst hc; simp [upd_same, hlive]
    · rw [upd_ne _ _ hc, upd_ne _ _ hc]; exact H.dom c
  · intro c p e
    by_cases hc : c = b
    · subst hc; rw [upd_same] at e ⊢; cases e; exact hrep
    · rw [upd_ne _ _ hc] at e ⊢
      by_cases hr : Real (m c) p
      · exact BlkRep.congr (PH.le_refl h) rle (push_get_lt _ _ (H.real_lt e hr)) (H.own c p e)
      · exact BlkRep.notReal hr (H.own c p e) _ rle _
  · intro c d p q hc hd hr hs e
    by_cases h1 : c = b <;> by_cases h2 : d = b
    · rw [h1, h2]
    · subst h1; rw [upd_same] at hc; cases hc
      rw [upd_ne _ _ h2] at hd hs
      have := H.real_lt hd hs; simp at e; omega
    · subst h2; rw [upd_same] at hd; cases hd
      rw [upd_ne _ _ h1] at hc hr
      have := H.real_lt hc hr; simp at e; omega
    · rw [upd_ne _ _ h1] at hc hr; rw [upd_ne _ _ h2] at hd hs
      exact H.inj c d p q hc hd hr hs e
  · intro c p e hr
    by_cases hc : c = b
    · subst hc; rw [upd_same] at e; cases e
      cases hh : h w.size with
      | none => rfl
      | some q => have := H.lt hh; omega
    · rw [upd_ne _ _ hc] at e hr; exact H.sep c p e hr
  · intro c p e hr
    by_cases hc : c = b
    · subst hc; rw [upd_same] at e; cases e; exact .inl (Nat.le_refl _)
    · rw [upd_ne _ _ hc] at e hr; exact .inr ⟨c, p, e, hr, rfl⟩

theorem set_get_ne (w : Heap) (i : Nat) (o : Obj) {B : Nat} (hB : B ≠ i) : (w.setIfInBounds i o)[B]? = w[B]? := by
  rw [Array.getElem?_setIfInBounds_ne (Ne.symm hB)]
theorem set_get_same (w : Heap) {i : Nat} (o : Obj) (hi : i < w.size) : (w.setIfInBounds i o)[i]? = some o := by
  simp [Array.getElem?_setIfInBounds_self, hi]

/-- an own block turns; perhaps it goes on under another number -/
theorem HRel.set (H : HRel h ρ m w) (o : Obj) {b : Nat} {p : Nat × Nat} (e : ρ b = some p) (hr : Real (m b) p) {blk : Blk} (hlive : blk ≠ .non)
    (hrep : BlkRep h ρ p blk (w.setIfInBounds p.1 o)) :
    HRel h ρ (upd m b blk) (w.setIfInBounds p.1 o) ∧ Step h ρ m w h ρ (upd m b blk) (w.setIfInBounds p.1 o) := by
  refine ⟨⟨?_, ?_, ?_, ?_, ?_⟩, ⟨PH.le_refl h, fun B hB _ => rfl, RM.le_refl _, by simp, ?_, ?_⟩⟩
  · intro B q hq
    rw [set_get_ne _ _ _ (fun hh => by subst hh; rw [H.sep b p e hr] at hq; cases hq)]
    exact H.pers B q hq
  · intro c
    by_cases hc : c = b
    · subst hc; rw [upd_same, e]; simp [hlive]
    · rw [upd_ne _ _ hc]; exact H.dom c
  · intro c q hq
    by_cases hc : c = b
    · subst hc; rw [upd_same]; rw [e] at hq; cases hq; exact hrep
    · rw [upd_ne _ _ hc]
      by_cases hs : Real (m c) q
      · exact BlkRep.congr (PH.le_refl h) (RM.le_refl ρ) (set_get_ne _ _ _ (fun hh => hc (H.inj c b q p hq e hs hr hh))) (H.own c q hq)
      · exact BlkRep.notReal hs (H.own c q hq) _ (RM.le_refl _) _
  · intro c d q r hc hd hs ht heq
    by_cases h1 : c = b <;> by_cases h2 : d = b
    · rw [h1, h2]
    · subst h1; rw [upd_ne _ _ h2] at ht; rw [e] at hc; cases hc
      exact H.inj _ _ _ _ e hd hr ht heq
    · subst h2; rw [upd_ne _ _ h1] at hs; rw [e] at hd; cases hd
      exact H.inj _ _ _ _ hc e hs hr heq
    · rw [upd_ne _ _ h1] at hs; rw [upd_ne _ _ h2] at ht
      exact H.inj c d q r hc hd hs ht heq
  · intro c q hq hs
    by_cases hc : c = b
    · subst hc; rw [e] at hq; cases hq; exact H.sep _ _ e hr
    · rw [upd_ne _ _ hc] at hs; exact H.sep c q hq hs
  · intro B hB hf
    exact set_get_ne _ _ _ (fun hh => hf b p e hr hh.symm)
  · intro c q hq hs
    by_cases hc : c = b
    · subst hc; rw [e] at hq; cases hq; exact .inr ⟨_, _, e, hr, rfl⟩
    · rw [upd_ne _ _ hc] at hs; exact .inr ⟨c, q, hq, hs, rfl⟩

/-- an own block is let go -/
theorem HRel.kill (H : HRel h ρ m w) {b : Nat} (hb : m b ≠ .non) : HRel h ρ (upd m b .dead) w ∧ Step h ρ m w h ρ (upd m b .dead) w := by
  refine ⟨⟨H.pers, ?_, ?_, ?_, ?_⟩, ⟨PH.le_refl h, fun B hB _ => rfl, RM.le_refl _, Nat.le_refl _, fun B hB _ => rfl, ?_⟩⟩
  · intro c
    by_cases hc : c = b
    · subst hc; rw [upd_same]
      constructor
      · intro h; cases h
      · intro h; exact absurd ((H.dom _).2 h) hb
    · rw [upd_ne _ _ hc]; exact H.dom c
  · intro c q hq
    by_cases hc : c = b
    · subst hc; rw [upd_same]; trivial
    · rw [upd_ne _ _ hc]; exact H.own c q hq
  · intro c d q r hc hd hs ht heq
    by_cases h1 : c = b
    · subst h1; rw [upd_same] at hs; exact hs.elim
    by_cases h2 : d = b
    · subst h2; rw [upd_same] at ht; exact ht.elim
    rw [upd_ne _ _ h1] at hs; rw [upd_ne _ _ h2] at ht
    exact H.inj c d q r hc hd hs ht heq
  · intro c q hq hs
    by_cases hc : c = b
    · subst hc; rw [upd_same] at hs; exact hs.elim
    · rw [upd_ne _ _ hc] at hs; exact H.sep c q hq hs
  · intro c q hq hs
    by_cases hc : c = b
    · subst hc; rw [upd_same] at hs; exact hs.elim
    · rw [upd_ne _ _ hc] at hs; exact .inr ⟨c, q, hq, hs, rfl⟩

/-- an own block gets a second number, the first one being dead -/
theorem HRel.rename (H : HRel h ρ m w) {b c : Nat} {p : Nat × Nat} (e : ρ b = some p) (hb : m b = .dead) (hc : m c = .non) (q : Nat × Nat) {blk : Blk} (hlive : blk ≠ .non)
    (hq : q.1 < w.size) (hfree : Free ρ m q.1) (hh : h q.1 = none) (hrep : BlkRep h (upd ρ c (some q)) q blk w) :
    HRel h (upd ρ c (some q)) (upd m c blk) w := by
  have e0 : ρ c = none := (H.dom c).1 hc
  have rle := rle_upd (p := q) e0
  refine ⟨H.pers, ?_, ?_, ?_, ?_⟩
  · intro d
    by_cases hd : d = c
    · subst hd; simp [upd_same, hlive]
    · rw [upd_ne _ _ hd, upd_ne _ _ hd]; exact H.dom d
  · intro d r hr
    by_cases hd : d = c
    · subst hd; rw [upd_same] at hr ⊢; cases hr; exact hrep
    · rw [upd_ne _ _ hd] at hr ⊢; exact BlkRep.congr (PH.le_refl h) rle rfl (H.own d r hr)
  · intro d d' r r' hd hd' hs hs' heq
    by_cases h1 : d = c <;> by_cases h2 : d' = c
    · rw [h1, h2]
    · subst h1; rw [upd_same] at hd; cases hd; rw [upd_ne _ _ h2] at hd' hs'
      exact absurd heq.symm (hfree d' r' hd' hs')
    · subst h2; rw [upd_same] at hd'; cases hd'; rw [upd_ne _ _ h1] at hd hs
      exact absurd heq (hfree d r hd hs)
    · rw [upd_ne _ _ h1] at hd hs; rw [upd_ne _ _ h2] at hd' hs'
      exact H.inj d d' r r' hd hd' hs hs' heq
  · intro d r hr hs
    by_cases hd : d = c
    · subst hd; rw [upd_same] at hr; cases hr; exact hh
    · rw [upd_ne _ _ hd] at hr hs; exact H.sep d r hr hs

/-- an own block turns and goes on under another number -/
theorem HRel.move (H : HRel h ρ m w) (o : Obj) {b c : Nat} {p : Nat × Nat} (e : ρ b = some p) (hr : Real (m b) p) (hc : m c = .non) {blk : Blk} (hlive : blk ≠ .non)
    (hrep : BlkRep h (upd ρ c (some p)) p blk (w.setIfInBounds p.1 o)) :
    HRel h (upd ρ c (some p)) (upd (upd m b .dead) c blk) (w.setIfInBounds p.1 o) ∧ Step h ρ m w h (upd ρ c (some p)) (upd (upd m b .dead) c blk) (w.setIfInBounds p.1 o) := by
  have hbn : m b ≠ .non := fun hh => by rw [hh] at hr; exact hr
  have hcb : c ≠ b := fun hh => by subst hh; exact hbn hc
  have e0 : ρ c = Option.none := (H.dom c).1 hc
  have rle := rle_upd (p := p) e0
  refine ⟨⟨?_, ?_, ?_, ?_, ?_⟩, ⟨PH.le_refl h, fun B hB _ => rfl, rle, by simp, ?_, ?_⟩⟩
  · intro B q hq
    rw [set_get_ne _ _ _ (fun hh => by subst hh; rw [H.sep b p e hr] at hq; cases hq)]
    exact H.pers B q hq
  · intro d
    by_cases hd : d = c
    · subst hd; simp [upd_same, hlive]
    · rw [upd_ne _ _ hd, upd_ne _ _ hd]
      by_cases hb : d = b
      · subst hb; rw [upd_same, e]; simp
      · rw [upd_ne _ _ hb]; exact H.dom d
  · intro d q hq
    by_cases hd : d = c
    · subst hd; rw [upd_same] at hq ⊢; cases hq; exact hrep
    · rw [upd_ne _ _ hd] at hq ⊢
      by_cases hb : d = b
      · subst hb; rw [upd_same]; trivial
      · rw [upd_ne _ _ hb]
        by_cases hs : Real (m d) q
        · exact BlkRep.congr (PH.le_refl h) rle (set_get_ne _ _ _ (fun hh => hb (H.inj d b q p hq e hs hr hh))) (H.own d q hq)
        · exact BlkRep.notReal hs (H.own d q hq) _ rle _
  · intro d d' q q' hd hd' hs hs' heq
    have hdb : d ≠ b := fun hh => by subst hh; rw [upd_ne _ _ (Ne.symm hcb), upd_same] at hs; exact hs
    have hdb' : d' ≠ b := fun hh => by subst hh; rw [upd_ne _ _ (Ne.symm hcb), upd_same] at hs'; exact hs'
    by_cases h1 : d = c <;> by_cases h2 : d' = c
    · rw [h1, h2]
    · subst h1; rw [upd_same] at hd; cases hd
      rw [upd_ne _ _ h2] at hd' hs'
      rw [upd_ne _ _ hdb'] at hs'
      exact absurd (H.inj d' b q' p hd' e hs' hr heq.symm) hdb'
    · subst h2; rw [upd_same] at hd'; cases hd'
      rw [upd_ne _ _ h1] at hd hs
      rw [upd_ne _ _ hdb] at hs
      exact absurd (H.inj d b q p hd e hs hr heq) hdb
    · rw [upd_ne _ _ h1] at hd hs; rw [upd_ne _ _ h2] at hd' hs'
      rw [upd_ne _ _ hdb] at hs; rw [upd_ne _ _ hdb'] at hs'
      exact H.inj d d' q q' hd hd' hs hs' heq
  · intro d q hq hs
    by_cases hd : d = c
    · subst hd; rw [upd_same] at hq; cases hq; exact H.sep b p e hr
    · rw [upd_ne _ _ hd] at hq hs
      have hdb : d ≠ b := fun hh => by subst hh; rw [upd_same] at hs; exact hs
      rw [upd_ne _ _ hdb] at hs
      exact H.sep d q hq hs
  · intro B hB hf
    exact set_get_ne _ _ _ (fun hh => hf b p e hr hh.symm)
  · intro d q hq hs
    by_cases hd : d = c
    · subst hd; rw [upd_same] at hq; cases hq; exact .inr ⟨b, p, e, hr, rfl⟩
    · rw [upd_ne _ _ hd] at hq hs
      have hdb : d ≠ b := fun hh => by subst hh; rw [upd_same] at hs; exact hs
      rw [upd_ne _ _ hdb] at hs
      exact .inr ⟨d, q, hq, hs, rfl⟩

/-- an own array of no place at all: a nil slice, taken for the call's own -/
theorem HRel.none (H : HRel h ρ m w) {b : Nat} (hb : m b = .non) (s : Nat) :
    HRel h (upd ρ b (some (0, 0))) (upd m b (.arr s [])) w ∧ Step h ρ m w h (upd ρ b (some (0, 0))) (upd m b (.arr s [])) w := by
  have e0 : ρ b = Option.none := (H.dom b).1 hb
  have rle := rle_upd (p := (0, 0)) e0
  refine ⟨⟨H.pers, ?_, ?_, ?_, ?_⟩, ⟨PH.le_refl h, fun B hB _ => rfl, rle, Nat.le_refl _, fun B hB _ => rfl, ?_⟩⟩
  · intro d
    by_cases hd : d = b
    · subst hd; simp [upd_same]
    · rw [upd_ne _ _ hd, upd_ne _ _ hd]; exact H.dom d
  · intro d r hr
    by_cases hd : d = b
    · subst hd; rw [upd_same] at hr ⊢; cases hr; exact .inl ⟨rfl, rfl⟩
    · rw [upd_ne _ _ hd] at hr ⊢; exact BlkRep.congr (PH.le_refl h) rle rfl (H.own d r hr)
  · intro d d' r r' hd hd' hs hs' heq
    by_cases h1 : d = b
    · subst h1; rw [upd_same] at hd hs; cases hd; simp [Real] at hs
    by_cases h2 : d' = b
    · subst h2; rw [upd_same] at hd' hs'; cases hd'; simp [Real] at hs'
    rw [upd_ne _ _ h1] at hd hs; rw [upd_ne _ _ h2] at hd' hs'
    exact H.inj d d' r r' hd hd' hs hs' heq
  · intro d r hr hs
    by_cases hd : d = b
    · subst hd; rw [upd_same] at hr hs; cases hr; simp [Real] at hs
    · rw [upd_ne _ _ hd] at hr hs; exact H.sep d r hr hs
  · intro d r hr hs
    by_cases hd : d = b
    · subst hd; rw [upd_same] at hr hs; cases hr; simp [Real] at hs
    · rw [upd_ne _ _ hd] at hr hs; exact .inr ⟨d, r, hr, hs, rfl⟩

/-- an own block is kept for good -/
theorem HRel.freeze (H : HRel h ρ m w) {b : Nat} {p : Nat × Nat} (e : ρ b = some p) (hr : Real (m b) p) :
    HRel (upd h p.1 w[p.1]?) ρ (upd m b .dead) w ∧ Step h ρ m w (upd h p.1 w[p.1]?) ρ (upd m b .dead) w := by
  have hlt := H.real_lt e hr
  have hle : h.le (upd h p.1 w[p.1]?) := fun B q hq => by
    by_cases hB : B = p.1
    · subst hB; rw [H.sep b p e hr] at hq; cases hq
    · rw [upd_ne _ _ hB]; exact hq
  obtain ⟨K, S⟩ := H.kill (b := b) (fun hh => by rw [hh] at hr; exact hr)
  refine ⟨⟨?_, K.dom, ?_, K.inj, ?_⟩, ⟨hle, ?_, RM.le_refl _, Nat.le_refl _, fun B hB _ => rfl, S.own⟩⟩
  · intro B q hq
    by_cases hB : B = p.1
    · subst hB; rw [upd_same] at hq; exact hq
    · rw [upd_ne _ _ hB] at hq; exact H.pers B q hq
  · intro c q hq
    exact BlkRep.congr hle (RM.le_refl _) rfl (K.own c q hq)
  · intro c q hq hs
    have hcb : c ≠ b := fun hh => by subst hh; rw [upd_same] at hs; exact hs
    rw [upd_ne _ _ hcb] at hs
    rw [upd_ne _ _ (fun hh => hcb (H.inj c b q p hq e hs hr hh))]
    exact H.sep c q hq hs
  · intro B hB hf
    rw [upd_ne _ _ (fun hh => hf b p e hr hh.symm)]

end
end Go.Abs
