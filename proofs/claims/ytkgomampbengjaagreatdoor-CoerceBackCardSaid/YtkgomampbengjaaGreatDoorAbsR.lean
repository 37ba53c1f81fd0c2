/- Blocks of the call's own under other numbers. -/
import Derived.Test.YtkgomampbengjaaGreatDoorAbs5
set_option linter.unusedVariables false
set_option linter.unusedSimpArgs false
namespace Go.Abs

mutual
def AC.ren (f : Nat → Nat) : AC → AC
  | .d x => .d x
  | .ptr b off => .ptr (f b) off
  | .ept s b i off => .ept s (f b) i off
  | .msl s b off len => .msl s (f b) off len
  | .map b => .map (f b)
  | .fn g caps => .fn g (AC.rens f caps)
  | .op r => .op r
def AC.rens (f : Nat → Nat) : List AC → List AC
  | [] => []
  | c :: cs => c.ren f :: AC.rens f cs
end
mutual
def AC.lt (n : Nat) : AC → Bool
  | .d _ => true
  | .ptr b _ => decide (b < n)
  | .ept _ b _ _ => decide (b < n)
  | .msl _ b _ _ => decide (b < n)
  | .map b => decide (b < n)
  | .fn _ caps => AC.lts n caps
  | .op _ => true
def AC.lts (n : Nat) : List AC → Bool
  | [] => true
  | c :: cs => c.lt n && AC.lts n cs
end
mutual
def AV.ren (f : Nat → Nat) : AV → AV
  | .c x => .c (x.ren f)
  | .ag cs => .ag (AC.rens f cs)
  | .tup vs => .tup (AV.rens f vs)
def AV.rens (f : Nat → Nat) : List AV → List AV
  | [] => []
  | v :: vs => v.ren f :: AV.rens f vs
end
mutual
def AV.lt (n : Nat) : AV → Bool
  | .c x => x.lt n
  | .ag cs => AC.lts n cs
  | .tup vs => AV.lts n vs
def AV.lts (n : Nat) : List AV → Bool
  | [] => true
  | v :: vs => v.lt n && AV.lts n vs
end
def Blk.ren (f : Nat → Nat) : Blk → Blk
  | .non => .non
  | .dead => .dead
  | .box cs => .box (AC.rens f cs)
  | .arr s es => .arr s (es.map (AC.rens f))
  | .map es => .map (es.map fun e => (e.1, e.2.ren f))
  | .pin t b => .pin t (f b)
def Blk.lt (n : Nat) : Blk → Bool
  | .non => true
  | .dead => true
  | .box cs => AC.lts n cs
  | .arr _ es => es.all (AC.lts n)
  | .map es => es.all fun e => e.2.lt n
  | .pin _ b => decide (b < n)

@[simp] theorem AC.rens_D (f : Nat → Nat) (ds : List D) : AC.rens f (ds.map .d) = ds.map .d := by
  induction ds with
  | nil => rfl
  | cons d ds ih => simp [AC.rens, AC.ren, ih]
@[simp] theorem AC.lts_D (n : Nat) (ds : List D) : AC.lts n (ds.map .d) = true := by
  induction ds with
  | nil => rfl
  | cons d ds ih => simp [AC.lts, AC.lt, ih]

def rmR (f : Nat → Nat) (n : Nat) (ρ : RM) : RM := fun b => if b < n then ρ (f b) else none

theorem rmR_some {f : Nat → Nat} {n : Nat} {ρ : RM} {b : Nat} {p : Nat × Nat} (hb : b < n) (h : ρ (f b) = some p) : rmR f n ρ b = some p := by
  unfold rmR; rw [if_pos hb]; exact h

section
variable {h : PH} {ρ : RM} {f : Nat → Nat} {n : Nat}
mutual
theorem RepC.ren : ∀ (x : AC) (v : Value), x.lt n = true → RepC h ρ (x.ren f) v → RepC h (rmR f n ρ) x v
  | .d x, v, _, r => by simpa only [AC.ren, RepC] using r
  | .ptr b off, v, hl, r => by
    simp only [AC.lt, decide_eq_true_eq] at hl
    simp only [AC.ren, RepC] at r ⊢
    obtain ⟨p, h1, h2⟩ := r
    exact ⟨p, rmR_some hl h1, h2⟩
  | .ept s b i off, v, hl, r => by
    simp only [AC.lt, decide_eq_true_eq] at hl
    simp only [AC.ren, RepC] at r ⊢
    obtain ⟨p, h1, h2⟩ := r
    exact ⟨p, rmR_some hl h1, h2⟩
  | .msl s b off len, v, hl, r => by
    simp only [AC.lt, decide_eq_true_eq] at hl
    simp only [AC.ren, RepC] at r ⊢
    obtain ⟨p, a, h1, h2⟩ := r
    exact ⟨p, a, rmR_some hl h1, h2⟩
  | .map b, v, hl, r => by
    simp only [AC.lt, decide_eq_true_eq] at hl
    simp only [AC.ren, RepC] at r ⊢
    obtain ⟨p, h1, h2⟩ := r
    exact ⟨p, rmR_some hl h1, h2⟩
  | .fn g caps, v, hl, r => by
    simp only [AC.lt] at hl
    simp only [AC.ren, RepC] at r ⊢
    obtain ⟨vs, h1, h2, h3⟩ := r
    have e : (AC.rens f caps).length = caps.length := by
      have : ∀ (cs : List AC), (AC.rens f cs).length = cs.length := by
        intro cs; induction cs with
        | nil => rfl
        | cons c cs ih => simp [AC.rens, ih]
      exact this caps
    exact ⟨vs, h1, by rw [h2, e], RepCL.ren caps vs hl h3⟩
  | .op q, v, _, r => by simpa only [AC.ren, RepC] using r
theorem RepCL.ren : ∀ (cs : List AC) (vs : List Value), AC.lts n cs = true → RepCL h ρ (AC.rens f cs) vs → RepCL h (rmR f n ρ) cs vs
  | [], _, _, _ => by simp [RepCL]
  | _ :: _, [], _, r => by simp [AC.rens, RepCL] at r
  | c :: cs, v :: vs, hl, r => by
    simp only [AC.lts, Bool.and_eq_true] at hl
    simp only [AC.rens, RepCL] at r ⊢
    exact ⟨⟨r.1.1, RepC.ren c v hl.1 r.1.2⟩, RepCL.ren cs vs hl.2 r.2⟩
end

theorem AC.rens_length (cs : List AC) : (AC.rens f cs).length = cs.length := by
  induction cs with
  | nil => rfl
  | cons c cs ih => simp [AC.rens, ih]

mutual
theorem RepV.ren : ∀ (x : AV) (v : Value), x.lt n = true → RepV h ρ (x.ren f) v → RepV h (rmR f n ρ) x v
  | .c x, v, hl, r => by
    simp only [AV.lt] at hl
    simp only [AV.ren, RepV] at r ⊢
    exact RepC.ren x v hl r
  | .ag cs, v, hl, r => by
    simp only [AV.lt] at hl
    simp only [AV.ren, RepV] at r ⊢
    obtain ⟨vs, h1, h2, h3⟩ := r
    exact ⟨vs, h1, by rw [h2, AC.rens_length], RepCL.ren cs vs hl h3⟩
  | .tup xs, v, hl, r => by
    simp only [AV.lt] at hl
    simp only [AV.ren, RepV] at r ⊢
    obtain ⟨vs, h1, h2⟩ := r
    exact ⟨vs, h1, RepVL.ren xs vs hl h2⟩
theorem RepVL.ren : ∀ (xs : List AV) (vs : List Value), AV.lts n xs = true → RepVL h ρ (AV.rens f xs) vs → RepVL h (rmR f n ρ) xs vs
  | [], vs, _, r => by simpa [AV.rens, RepVL] using r
  | _ :: _, [], _, r => by simp [AV.rens, RepVL] at r
  | x :: xs, v :: vs, hl, r => by
    simp only [AV.lts, Bool.and_eq_true] at hl
    simp only [AV.rens, RepVL] at r ⊢
    exact ⟨RepV.ren x v hl.1 r.1, RepVL.ren xs vs hl.2 r.2⟩
end

theorem RepCE.ren {s : Nat} : ∀ (es : List (List AC)) (vs : List Value), es.all (AC.lts n) = true → RepCE h ρ s (es.map (AC.rens f)) vs → RepCE h (rmR f n ρ) s es vs
  | [], _, _, _ => by simp [RepCE]
  | e :: es, vs, hl, r => by
    simp only [List.all_cons, Bool.and_eq_true] at hl
    simp only [List.map_cons, RepCE, AC.rens_length] at r ⊢
    exact ⟨r.1, RepCL.ren e vs hl.1 r.2.1, RepCE.ren es _ hl.2 r.2.2⟩

theorem RepM.ren : ∀ (es : List (D × AV)) (ms : List MapEntry), (es.all fun e => e.2.lt n) = true → RepM h ρ (es.map fun e => (e.1, e.2.ren f)) ms → RepM h (rmR f n ρ) es ms
  | [], ms, _, r => by simpa [RepM] using r
  | _ :: _, [], _, r => by simp [RepM] at r
  | e :: es, x :: ms, hl, r => by
    simp only [List.all_cons, Bool.and_eq_true] at hl
    simp only [List.map_cons, RepM] at r ⊢
    exact ⟨⟨r.1.1, RepV.ren _ _ hl.1 r.1.2⟩, RepM.ren es ms hl.2 r.2⟩

theorem BlkRep.ren {p : Nat × Nat} {blk : Blk} {w : Heap} (hl : blk.lt n = true) (r : BlkRep h ρ p (blk.ren f) w) : BlkRep h (rmR f n ρ) p blk w := by
  cases blk with
  | non => trivial
  | dead => trivial
  | box cs =>
    obtain ⟨vs, T, h1, h2, h3⟩ := r
    exact ⟨vs, T, h1, by rw [h2, AC.rens_length], RepCL.ren cs vs hl h3⟩
  | arr s es =>
    rcases r with ⟨h1, h2⟩ | ⟨vs, T, h1, h2, h3, h4, h5⟩
    · exact .inl ⟨h1, by simpa using h2⟩
    · exact .inr ⟨vs, T, h1, h2, by simpa using h3, by simpa using h4, RepCE.ren es vs hl h5⟩
  | map es =>
    obtain ⟨ms, ck, h1, h2, h3, h4⟩ := r
    exact ⟨ms, ck, h1, RepM.ren es ms hl h2, h3, h4⟩
  | pin t b =>
    simp only [Blk.lt, decide_eq_true_eq] at hl
    exact ⟨r.1, rmR_some hl r.2⟩
end

theorem Real.ren {f : Nat → Nat} {blk : Blk} {p : Nat × Nat} : Real (blk.ren f) p ↔ Real blk p := by cases blk <;> simp [Blk.ren, Real]

/-- a heap of so many blocks -/
def hpOf (bs : List Blk) : Hp := fun b => bs.getD b .non

/-- the numbers in S of the blocks of the new view -/
def fOf (l : List Nat) : Nat → Nat := fun b => l.getD b 0


mutual
/-- all numbers in it are such -/
def AC.lv (p : Nat → Bool) : AC → Bool
  | .d _ => true
  | .ptr b _ => p b
  | .ept _ b _ _ => p b
  | .msl _ b _ _ => p b
  | .map b => p b
  | .fn _ caps => AC.lvs p caps
  | .op _ => true
def AC.lvs (p : Nat → Bool) : List AC → Bool
  | [] => true
  | c :: cs => c.lv p && AC.lvs p cs
end
mutual
def AV.lv (p : Nat → Bool) : AV → Bool
  | .c x => x.lv p
  | .ag cs => AC.lvs p cs
  | .tup vs => AV.lvs p vs
def AV.lvs (p : Nat → Bool) : List AV → Bool
  | [] => true
  | v :: vs => v.lv p && AV.lvs p vs
end
def Blk.lv (p : Nat → Bool) : Blk → Bool
  | .non => true
  | .dead => true
  | .box cs => AC.lvs p cs
  | .arr _ es => es.all (AC.lvs p)
  | .map es => es.all fun e => e.2.lv p
  | .pin _ _ => false

theorem AC.lvs_D (p : Nat → Bool) (ds : List D) : AC.lvs p (ds.map .d) = true := by
  induction ds with
  | nil => rfl
  | cons d ds ih => simp [AC.lvs, AC.lv, ih]

section
variable {h : PH} {ρ ρ2 : RM} {f f2 : Nat → Nat} {p : Nat → Bool}
theorem AC.rens_len (f : Nat → Nat) (cs : List AC) : (AC.rens f cs).length = cs.length := by
  induction cs with
  | nil => rfl
  | cons c cs ih => simp [AC.rens, ih]
mutual
theorem RepC.mv (H : ∀ b q, p b = true → ρ (f b) = some q → ρ2 (f2 b) = some q) : ∀ (x : AC) (v : Value), x.lv p = true → RepC h ρ (x.ren f) v → RepC h ρ2 (x.ren f2) v
  | .d x, v, _, r => by simpa only [AC.ren, RepC] using r
  | .ptr b off, v, hl, r => by
    simp only [AC.lv] at hl
    simp only [AC.ren, RepC] at r ⊢
    obtain ⟨q, h1, h2⟩ := r
    exact ⟨q, H b q hl h1, h2⟩
  | .ept s b i off, v, hl, r => by
    simp only [AC.lv] at hl
    simp only [AC.ren, RepC] at r ⊢
    obtain ⟨q, h1, h2⟩ := r
    exact ⟨q, H b q hl h1, h2⟩
  | .msl s b off len, v, hl, r => by
    simp only [AC.lv] at hl
    simp only [AC.ren, RepC] at r ⊢
    obtain ⟨q, a, h1, h2⟩ := r
    exact ⟨q, a, H b q hl h1, h2⟩
  | .map b, v, hl, r => by
    simp only [AC.lv] at hl
    simp only [AC.ren, RepC] at r ⊢
    obtain ⟨q, h1, h2⟩ := r
    exact ⟨q, H b q hl h1, h2⟩
  | .fn g caps, v, hl, r => by
    simp only [AC.lv] at hl
    simp only [AC.ren, RepC] at r ⊢
    obtain ⟨vs, h1, h2, h3⟩ := r
    exact ⟨vs, h1, by rw [h2, AC.rens_len, AC.rens_len], RepCL.mv H caps vs hl h3⟩
  | .op q, v, _, r => by simpa only [AC.ren, RepC] using r
theorem RepCL.mv (H : ∀ b q, p b = true → ρ (f b) = some q → ρ2 (f2 b) = some q) : ∀ (cs : List AC) (vs : List Value), AC.lvs p cs = true → RepCL h ρ (AC.rens f cs) vs → RepCL h ρ2 (AC.rens f2 cs) vs
  | [], _, _, _ => by simp [AC.rens, RepCL]
  | _ :: _, [], _, r => by simp [AC.rens, RepCL] at r
  | c :: cs, v :: vs, hl, r => by
    simp only [AC.lvs, Bool.and_eq_true] at hl
    simp only [AC.rens, RepCL] at r ⊢
    exact ⟨⟨r.1.1, RepC.mv H c v hl.1 r.1.2⟩, RepCL.mv H cs vs hl.2 r.2⟩
end
mutual
theorem RepV.mv (H : ∀ b q, p b = true → ρ (f b) = some q → ρ2 (f2 b) = some q) : ∀ (x : AV) (v : Value), x.lv p = true → RepV h ρ (x.ren f) v → RepV h ρ2 (x.ren f2) v
  | .c x, v, hl, r => by
    simp only [AV.lv] at hl
    simp only [AV.ren, RepV] at r ⊢
    exact RepC.mv H x v hl r
  | .ag cs, v, hl, r => by
    simp only [AV.lv] at hl
    simp only [AV.ren, RepV] at r ⊢
    obtain ⟨vs, h1, h2, h3⟩ := r
    exact ⟨vs, h1, by rw [h2, AC.rens_len, AC.rens_len], RepCL.mv H cs vs hl h3⟩
  | .tup xs, v, hl, r => by
    simp only [AV.lv] at hl
    simp only [AV.ren, RepV] at r ⊢
    obtain ⟨vs, h1, h2⟩ := r
    exact ⟨vs, h1, RepVL.mv H xs vs hl h2⟩
theorem RepVL.mv (H : ∀ b q, p b = true → ρ (f b) = some q → ρ2 (f2 b) = some q) : ∀ (xs : List AV) (vs : List Value), AV.lvs p xs = true → RepVL h ρ (AV.rens f xs) vs → RepVL h ρ2 (AV.rens f2 xs) vs
  | [], vs, _, r => by simpa [AV.rens, RepVL] using r
  | _ :: _, [], _, r => by simp [AV.rens, RepVL] at r
  | x :: xs, v :: vs, hl, r => by
    simp only [AV.lvs, Bool.and_eq_true] at hl
    simp only [AV.rens, RepVL] at r ⊢
    exact ⟨RepV.mv H x v hl.1 r.1, RepVL.mv H xs vs hl.2 r.2⟩
end
theorem RepCE.mv (H : ∀ b q, p b = true → ρ (f b) = some q → ρ2 (f2 b) = some q) {s : Nat} : ∀ (es : List (List AC)) (vs : List Value), es.all (AC.lvs p) = true → RepCE h ρ s (es.map (AC.rens f)) vs → RepCE h ρ2 s (es.map (AC.rens f2)) vs
  | [], _, _, _ => by simp [RepCE]
  | e :: es, vs, hl, r => by
    simp only [List.all_cons, Bool.and_eq_true] at hl
    simp only [List.map_cons, RepCE, AC.rens_len] at r ⊢
    exact ⟨r.1, RepCL.mv H e vs hl.1 r.2.1, RepCE.mv H es _ hl.2 r.2.2⟩
theorem RepM.mv (H : ∀ b q, p b = true → ρ (f b) = some q → ρ2 (f2 b) = some q) : ∀ (es : List (D × AV)) (ms : List MapEntry), (es.all fun e => e.2.lv p) = true → RepM h ρ (es.map fun e => (e.1, e.2.ren f)) ms → RepM h ρ2 (es.map fun e => (e.1, e.2.ren f2)) ms
  | [], ms, _, r => by simpa [RepM] using r
  | _ :: _, [], _, r => by simp [RepM] at r
  | e :: es, x :: ms, hl, r => by
    simp only [List.all_cons, Bool.and_eq_true] at hl
    simp only [List.map_cons, RepM] at r ⊢
    exact ⟨⟨r.1.1, RepV.mv H _ _ hl.1 r.1.2⟩, RepM.mv H es ms hl.2 r.2⟩
theorem BlkRep.mv (H : ∀ b q, p b = true → ρ (f b) = some q → ρ2 (f2 b) = some q) {q : Nat × Nat} {blk : Blk} {w : Heap} (hl : blk.lv p = true) (r : BlkRep h ρ q (blk.ren f) w) : BlkRep h ρ2 q (blk.ren f2) w := by
  cases blk with
  | non => trivial
  | dead => trivial
  | box cs =>
    obtain ⟨vs, T, h1, h2, h3⟩ := r
    exact ⟨vs, T, h1, by rw [h2, AC.rens_len, AC.rens_len], RepCL.mv H cs vs hl h3⟩
  | arr s es =>
    rcases r with ⟨h1, h2⟩ | ⟨vs, T, h1, h2, h3, h4, h5⟩
    · exact .inl ⟨h1, by simpa using h2⟩
    · exact .inr ⟨vs, T, h1, h2, by simpa using h3, by simpa using h4, RepCE.mv H es vs hl h5⟩
  | map es =>
    obtain ⟨ms, ck, h1, h2, h3, h4⟩ := r
    exact ⟨ms, ck, h1, RepM.mv H es ms hl h2, h3, h4⟩
  | pin t b => cases hl
end

mutual
theorem AC.ren_id : ∀ x : AC, x.ren id = x
  | .d _ => rfl
  | .ptr _ _ => rfl
  | .ept _ _ _ _ => rfl
  | .msl _ _ _ _ => rfl
  | .map _ => rfl
  | .fn g caps => by simp [AC.ren, AC.rens_id caps]
  | .op _ => rfl
theorem AC.rens_id : ∀ x : List AC, AC.rens id x = x
  | [] => rfl
  | c :: cs => by simp [AC.rens, AC.ren_id c, AC.rens_id cs]
end
mutual
theorem AV.ren_id : ∀ x : AV, x.ren id = x
  | .c x => by simp [AV.ren, AC.ren_id]
  | .ag cs => by simp [AV.ren, AC.rens_id]
  | .tup vs => by simp [AV.ren, AV.rens_id vs]
theorem AV.rens_id : ∀ x : List AV, AV.rens id x = x
  | [] => rfl
  | x :: xs => by simp [AV.rens, AV.ren_id x, AV.rens_id xs]
end
theorem Blk.ren_id (x : Blk) : x.ren id = x := by
  cases x with
  | non => rfl
  | dead => rfl
  | box cs => simp [Blk.ren, AC.rens_id]
  | arr s es =>
    have : (AC.rens id) = id := funext fun x => AC.rens_id x
    simp [Blk.ren, this]
  | map es =>
    have : (fun e : D × AV => (e.1, e.2.ren id)) = id := funext fun x => by simp [AV.ren_id]
    simp [Blk.ren, this]
  | pin t b => rfl

/-! ### calls that are handed blocks -/
def newN : Nat → Nat → List Nat
  | _, 0 => []
  | n, d + 1 => n :: newN (n + 1) d
def freshB (m : Hp) : Nat → Nat → Prop
  | _, 0 => True
  | n, d + 1 => m n = .non ∧ freshB m (n + 1) d
def wrL (f : Nat → Nat) : List Nat → List Blk → List (Nat × Blk)
  | j :: js, b :: bs => (j, b.ren f) :: wrL f js bs
  | _, _ => []
/-- the blocks with these numbers are these -/
def atL (m : Hp) (f : Nat → Nat) : List Nat → List Blk → Prop
  | [], [] => True
  | j :: js, b :: bs => m j = b.ren f ∧ atL m f js bs
  | _, _ => False
def live (bs : List Blk) (b : Nat) : Bool := match bs[b]? with
  | some .dead | some .non | none => false
  | some _ => true

end Go.Abs
