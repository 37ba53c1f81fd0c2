/- Texts of ours, joined and written short by a program of ours. -/
import Derived.Test.YtnefbdgcccgodaaGreatJ00
set_option linter.unusedVariables false
set_option linter.unusedSimpArgs false
namespace Go.Abs
mutual
def AC.ren (f : Nat -> Nat) : AC -> AC
 | .d x => .d x
 | .ptr b off => .ptr (f b) off
 | .ept s b i off => .ept s (f b) i off
 | .msl s b off len => .msl s (f b) off len
 | .map b => .map (f b)
 | .fn g caps => .fn g (AC.rens f caps)
 | .op r => .op r
def AC.rens (f : Nat -> Nat) : List AC -> List AC
 | [] => []
 | c :: cs => c.ren f :: AC.rens f cs
end
mutual
def AC.lt (n : Nat) : AC -> Bool
 | .d _ => true
 | .ptr b _ => decide (b < n)
 | .ept _ b _ _ => decide (b < n)
 | .msl _ b _ _ => decide (b < n)
 | .map b => decide (b < n)
 | .fn _ caps => AC.lts n caps
 | .op _ => true
def AC.lts (n : Nat) : List AC -> Bool
 | [] => true
 | c :: cs => c.lt n && AC.lts n cs
end
mutual
def AV.ren (f : Nat -> Nat) : AV -> AV
 | .c x => .c (x.ren f)
 | .ag cs => .ag (AC.rens f cs)
 | .tup vs => .tup (AV.rens f vs)
def AV.rens (f : Nat -> Nat) : List AV -> List AV
 | [] => []
 | v :: vs => v.ren f :: AV.rens f vs
end
mutual
def AV.lt (n : Nat) : AV -> Bool
 | .c x => x.lt n
 | .ag cs => AC.lts n cs
 | .tup vs => AV.lts n vs
def AV.lts (n : Nat) : List AV -> Bool
 | [] => true
 | v :: vs => v.lt n && AV.lts n vs
end
def Blk.ren (f : Nat -> Nat) : Blk -> Blk
 | .non => .non
 | .dead => .dead
 | .box cs => .box (AC.rens f cs)
 | .arr s es => .arr s (es.map (AC.rens f))
 | .map es => .map (es.map fun e => (e.1, e.2.ren f))
 | .pin t b => .pin t (f b)
def Blk.lt (n : Nat) : Blk -> Bool
 | .non => true
 | .dead => true
 | .box cs => AC.lts n cs
 | .arr _ es => es.all (AC.lts n)
 | .map es => es.all fun e => e.2.lt n
 | .pin _ b => decide (b < n)
@[simp] theorem AC.rens_D (f : Nat -> Nat) (ds : List D) : AC.rens f (ds.map .d) = ds.map .d := by
 induction ds with
 | nil => rfl
 | cons d ds ih => simp [AC.rens, AC.ren, ih]
@[simp] theorem AC.lts_D (n : Nat) (ds : List D) : AC.lts n (ds.map .d) = true := by
 induction ds with
 | nil => rfl
 | cons d ds ih => simp [AC.lts, AC.lt, ih]
def rmR (f : Nat -> Nat) (n : Nat) (ρ : RM) : RM := fun b => if b < n then ρ (f b) else none
theorem ze0 {f : Nat -> Nat} {n : Nat} {ρ : RM} {b : Nat} {p : Nat × Nat} (hb : b < n) (h : ρ (f b) = some p) : rmR f n ρ b = some p := by
 unfold rmR; rw [if_pos hb]; exact h
section
variable {h : PH} {ρ : RM} {f : Nat -> Nat} {n : Nat}
mutual
theorem RepC.ren : ∀ (x : AC) (v : Value), x.lt n = true -> RepC h ρ (x.ren f) v -> RepC h (rmR f n ρ) x v
 | .d x, v, _, r => by simpa only [AC.ren, RepC] using r
 | .ptr b off, v, hl, r => by
  simp only [AC.lt, decide_eq_true_eq] at hl
  simp only [AC.ren, RepC] at r ⊢
  obtain ⟨p, h1, h2⟩ := r
  exact ⟨p, ze0 hl h1, h2⟩
 | .ept s b i off, v, hl, r => by
  simp only [AC.lt, decide_eq_true_eq] at hl
  simp only [AC.ren, RepC] at r ⊢
  obtain ⟨p, h1, h2⟩ := r
  exact ⟨p, ze0 hl h1, h2⟩
 | .msl s b off len, v, hl, r => by
  simp only [AC.lt, decide_eq_true_eq] at hl
  simp only [AC.ren, RepC] at r ⊢
  obtain ⟨p, a, h1, h2⟩ := r
  exact ⟨p, a, ze0 hl h1, h2⟩
 | .map b, v, hl, r => by
  simp only [AC.lt, decide_eq_true_eq] at hl
  simp only [AC.ren, RepC] at r ⊢
  obtain ⟨p, h1, h2⟩ := r
  exact ⟨p, ze0 hl h1, h2⟩
 | .fn g caps, v, hl, r => by
  simp only [AC.lt] at hl
  simp only [AC.ren, RepC] at r ⊢
  obtain ⟨vs, h1, h2, h3⟩ := r
  have e : (AC.rens f caps).length = caps.length := by
   have : ∀ (cs : List AC), (AC.rens f cs).length = cs.length := by
    intro cs; induction cs with
    | nil => rfl
    | cons c cs ih => simp [AC.rens, ih]
   exact this caps
  exact ⟨vs, h1, by rw [h2, e], zad.ren caps vs hl h3⟩
 | .op q, v, _, r => by simpa only [AC.ren, RepC] using r
theorem zad.ren : ∀ (cs : List AC) (vs : List Value), AC.lts n cs = true -> zad h ρ (AC.rens f cs) vs -> zad h (rmR f n ρ) cs vs
 | [], _, _, _ => by simp [zad]
 | _ :: _, [], _, r => by simp [AC.rens, zad] at r
 | c :: cs, v :: vs, hl, r => by
  simp only [AC.lts, Bool.and_eq_true] at hl
  simp only [AC.rens, zad] at r ⊢
  exact ⟨⟨r.1.1, RepC.ren c v hl.1 r.1.2⟩, zad.ren cs vs hl.2 r.2⟩
end
theorem AC.rens_length (cs : List AC) : (AC.rens f cs).length = cs.length := by
 induction cs with
 | nil => rfl
 | cons c cs ih => simp [AC.rens, ih]
mutual
theorem RepV.ren : ∀ (x : AV) (v : Value), x.lt n = true -> RepV h ρ (x.ren f) v -> RepV h (rmR f n ρ) x v
 | .c x, v, hl, r => by
  simp only [AV.lt] at hl
  simp only [AV.ren, RepV] at r ⊢
  exact RepC.ren x v hl r
 | .ag cs, v, hl, r => by
  simp only [AV.lt] at hl
  simp only [AV.ren, RepV] at r ⊢
  obtain ⟨vs, h1, h2, h3⟩ := r
  exact ⟨vs, h1, by rw [h2, AC.rens_length], zad.ren cs vs hl h3⟩
 | .tup xs, v, hl, r => by
  simp only [AV.lt] at hl
  simp only [AV.ren, RepV] at r ⊢
  obtain ⟨vs, h1, h2⟩ := r
  exact ⟨vs, h1, zar.ren xs vs hl h2⟩
theorem zar.ren : ∀ (xs : List AV) (vs : List Value), AV.lts n xs = true -> zar h ρ (AV.rens f xs) vs -> zar h (rmR f n ρ) xs vs
 | [], vs, _, r => by simpa [AV.rens, zar] using r
 | _ :: _, [], _, r => by simp [AV.rens, zar] at r
 | x :: xs, v :: vs, hl, r => by
  simp only [AV.lts, Bool.and_eq_true] at hl
  simp only [AV.rens, zar] at r ⊢
  exact ⟨RepV.ren x v hl.1 r.1, zar.ren xs vs hl.2 r.2⟩
end
theorem zai.ren {s : Nat} : ∀ (es : List (List AC)) (vs : List Value), es.all (AC.lts n) = true -> zai h ρ s (es.map (AC.rens f)) vs -> zai h (rmR f n ρ) s es vs
 | [], _, _, _ => by simp [zai]
 | e :: es, vs, hl, r => by
  simp only [List.all_cons, Bool.and_eq_true] at hl
  simp only [List.map_cons, zai, AC.rens_length] at r ⊢
  exact ⟨r.1, zad.ren e vs hl.1 r.2.1, zai.ren es _ hl.2 r.2.2⟩
theorem RepM.ren : ∀ (es : List (D × AV)) (ms : List MapEntry), (es.all fun e => e.2.lt n) = true -> RepM h ρ (es.map fun e => (e.1, e.2.ren f)) ms -> RepM h (rmR f n ρ) es ms
 | [], ms, _, r => by simpa [RepM] using r
 | _ :: _, [], _, r => by simp [RepM] at r
 | e :: es, x :: ms, hl, r => by
  simp only [List.all_cons, Bool.and_eq_true] at hl
  simp only [List.map_cons, RepM] at r ⊢
  exact ⟨⟨r.1.1, RepV.ren _ _ hl.1 r.1.2⟩, RepM.ren es ms hl.2 r.2⟩
theorem zaC.ren {p : Nat × Nat} {blk : Blk} {w : Heap} (hl : blk.lt n = true) (r : zaC h ρ p (blk.ren f) w) : zaC h (rmR f n ρ) p blk w := by
 cases blk with
 | non => trivial
 | dead => trivial
 | box cs =>
  obtain ⟨vs, T, h1, h2, h3⟩ := r
  exact ⟨vs, T, h1, by rw [h2, AC.rens_length], zad.ren cs vs hl h3⟩
 | arr s es =>
  rcases r with ⟨h1, h2⟩ | ⟨vs, T, h1, h2, h3, h4, h5⟩
  ·exact .inl ⟨h1, by simpa using h2⟩
  ·exact .inr ⟨vs, T, h1, h2, by simpa using h3, by simpa using h4, zai.ren es vs hl h5⟩
 | map es =>
  obtain ⟨ms, ck, h1, h2, h3, h4⟩ := r
  exact ⟨ms, ck, h1, RepM.ren es ms hl h2, h3, h4⟩
 | pin t b =>
  simp only [Blk.lt, decide_eq_true_eq] at hl
  exact ⟨r.1, ze0 hl r.2⟩
end
theorem Real.ren {f : Nat -> Nat} {blk : Blk} {p : Nat × Nat} : Real (blk.ren f) p ↔ Real blk p := by cases blk <;> simp [Blk.ren, Real]
def hpOf (bs : List Blk) : Hp := fun b => bs.getD b .non
def fOf (l : List Nat) : Nat -> Nat := fun b => l.getD b 0
mutual
def AC.lv (p : Nat -> Bool) : AC -> Bool
 | .d _ => true
 | .ptr b _ => p b
 | .ept _ b _ _ => p b
 | .msl _ b _ _ => p b
 | .map b => p b
 | .fn _ caps => AC.lvs p caps
 | .op _ => true
def AC.lvs (p : Nat -> Bool) : List AC -> Bool
 | [] => true
 | c :: cs => c.lv p && AC.lvs p cs
end
mutual
def AV.lv (p : Nat -> Bool) : AV -> Bool
 | .c x => x.lv p
 | .ag cs => AC.lvs p cs
 | .tup vs => AV.lvs p vs
def AV.lvs (p : Nat -> Bool) : List AV -> Bool
 | [] => true
 | v :: vs => v.lv p && AV.lvs p vs
end
def Blk.lv (p : Nat -> Bool) : Blk -> Bool
 | .non => true
 | .dead => true
 | .box cs => AC.lvs p cs
 | .arr _ es => es.all (AC.lvs p)
 | .map es => es.all fun e => e.2.lv p
 | .pin _ _ => false
theorem AC.lvs_D (p : Nat -> Bool) (ds : List D) : AC.lvs p (ds.map .d) = true := by
 induction ds with
 | nil => rfl
 | cons d ds ih => simp [AC.lvs, AC.lv, ih]
section
variable {h : PH} {ρ ρ2 : RM} {f f2 : Nat -> Nat} {p : Nat -> Bool}
theorem AC.rens_len (f : Nat -> Nat) (cs : List AC) : (AC.rens f cs).length = cs.length := by
 induction cs with
 | nil => rfl
 | cons c cs ih => simp [AC.rens, ih]
mutual
theorem RepC.mv (H : ∀ b q, p b = true -> ρ (f b) = some q -> ρ2 (f2 b) = some q) : ∀ (x : AC) (v : Value), x.lv p = true -> RepC h ρ (x.ren f) v -> RepC h ρ2 (x.ren f2) v
 | .d x, v, _, r => by simpa only [AC.ren, RepC] using r
 | .ptr b off, v, hl, r => by
  simp only [AC.lv] at hl
  simp only [AC.ren, RepC] at r ⊢
  obtain ⟨q, h1, h2⟩ := r
  exact ⟨q, H b q hl h1, h2⟩
 | .ept s b i off, v, hl, r => by
  simp only [AC.lv] at hl
  simp only [AC.ren, RepC] at r ⊢
  obtain ⟨q, h1, h2⟩ := r
  exact ⟨q, H b q hl h1, h2⟩
 | .msl s b off len, v, hl, r => by
  simp only [AC.lv] at hl
  simp only [AC.ren, RepC] at r ⊢
  obtain ⟨q, a, h1, h2⟩ := r
  exact ⟨q, a, H b q hl h1, h2⟩
 | .map b, v, hl, r => by
  simp only [AC.lv] at hl
  simp only [AC.ren, RepC] at r ⊢
  obtain ⟨q, h1, h2⟩ := r
  exact ⟨q, H b q hl h1, h2⟩
 | .fn g caps, v, hl, r => by
  simp only [AC.lv] at hl
  simp only [AC.ren, RepC] at r ⊢
  obtain ⟨vs, h1, h2, h3⟩ := r
  exact ⟨vs, h1, by rw [h2, AC.rens_len, AC.rens_len], zad.mv H caps vs hl h3⟩
 | .op q, v, _, r => by simpa only [AC.ren, RepC] using r
theorem zad.mv (H : ∀ b q, p b = true -> ρ (f b) = some q -> ρ2 (f2 b) = some q) : ∀ (cs : List AC) (vs : List Value), AC.lvs p cs = true -> zad h ρ (AC.rens f cs) vs -> zad h ρ2 (AC.rens f2 cs) vs
 | [], _, _, _ => by simp [AC.rens, zad]
 | _ :: _, [], _, r => by simp [AC.rens, zad] at r
 | c :: cs, v :: vs, hl, r => by
  simp only [AC.lvs, Bool.and_eq_true] at hl
  simp only [AC.rens, zad] at r ⊢
  exact ⟨⟨r.1.1, RepC.mv H c v hl.1 r.1.2⟩, zad.mv H cs vs hl.2 r.2⟩
end
mutual
theorem RepV.mv (H : ∀ b q, p b = true -> ρ (f b) = some q -> ρ2 (f2 b) = some q) : ∀ (x : AV) (v : Value), x.lv p = true -> RepV h ρ (x.ren f) v -> RepV h ρ2 (x.ren f2) v
 | .c x, v, hl, r => by
  simp only [AV.lv] at hl
  simp only [AV.ren, RepV] at r ⊢
  exact RepC.mv H x v hl r
 | .ag cs, v, hl, r => by
  simp only [AV.lv] at hl
  simp only [AV.ren, RepV] at r ⊢
  obtain ⟨vs, h1, h2, h3⟩ := r
  exact ⟨vs, h1, by rw [h2, AC.rens_len, AC.rens_len], zad.mv H cs vs hl h3⟩
 | .tup xs, v, hl, r => by
  simp only [AV.lv] at hl
  simp only [AV.ren, RepV] at r ⊢
  obtain ⟨vs, h1, h2⟩ := r
  exact ⟨vs, h1, zar.mv H xs vs hl h2⟩
theorem zar.mv (H : ∀ b q, p b = true -> ρ (f b) = some q -> ρ2 (f2 b) = some q) : ∀ (xs : List AV) (vs : List Value), AV.lvs p xs = true -> zar h ρ (AV.rens f xs) vs -> zar h ρ2 (AV.rens f2 xs) vs
 | [], vs, _, r => by simpa [AV.rens, zar] using r
 | _ :: _, [], _, r => by simp [AV.rens, zar] at r
 | x :: xs, v :: vs, hl, r => by
  simp only [AV.lvs, Bool.and_eq_true] at hl
  simp only [AV.rens, zar] at r ⊢
  exact ⟨RepV.mv H x v hl.1 r.1, zar.mv H xs vs hl.2 r.2⟩
end
theorem zai.mv (H : ∀ b q, p b = true -> ρ (f b) = some q -> ρ2 (f2 b) = some q) {s : Nat} : ∀ (es : List (List AC)) (vs : List Value), es.all (AC.lvs p) = true -> zai h ρ s (es.map (AC.rens f)) vs -> zai h ρ2 s (es.map (AC.rens f2)) vs
 | [], _, _, _ => by simp [zai]
 | e :: es, vs, hl, r => by
  simp only [List.all_cons, Bool.and_eq_true] at hl
  simp only [List.map_cons, zai, AC.rens_len] at r ⊢
  exact ⟨r.1, zad.mv H e vs hl.1 r.2.1, zai.mv H es _ hl.2 r.2.2⟩
theorem RepM.mv (H : ∀ b q, p b = true -> ρ (f b) = some q -> ρ2 (f2 b) = some q) : ∀ (es : List (D × AV)) (ms : List MapEntry), (es.all fun e => e.2.lv p) = true -> RepM h ρ (es.map fun e => (e.1, e.2.ren f)) ms -> RepM h ρ2 (es.map fun e => (e.1, e.2.ren f2)) ms
 | [], ms, _, r => by simpa [RepM] using r
 | _ :: _, [], _, r => by simp [RepM] at r
 | e :: es, x :: ms, hl, r => by
  simp only [List.all_cons, Bool.and_eq_true] at hl
  simp only [List.map_cons, RepM] at r ⊢
  exact ⟨⟨r.1.1, RepV.mv H _ _ hl.1 r.1.2⟩, RepM.mv H es ms hl.2 r.2⟩
theorem zaC.mv (H : ∀ b q, p b = true -> ρ (f b) = some q -> ρ2 (f2 b) = some q) {q : Nat × Nat} {blk : Blk} {w : Heap} (hl : blk.lv p = true) (r : zaC h ρ q (blk.ren f) w) : zaC h ρ2 q (blk.ren f2) w := by
 cases blk with
 | non => trivial
 | dead => trivial
 | box cs =>
  obtain ⟨vs, T, h1, h2, h3⟩ := r
  exact ⟨vs, T, h1, by rw [h2, AC.rens_len, AC.rens_len], zad.mv H cs vs hl h3⟩
 | arr s es =>
  rcases r with ⟨h1, h2⟩ | ⟨vs, T, h1, h2, h3, h4, h5⟩
  ·exact .inl ⟨h1, by simpa using h2⟩
  ·exact .inr ⟨vs, T, h1, h2, by simpa using h3, by simpa using h4, zai.mv H es vs hl h5⟩
 | map es =>
  obtain ⟨ms, ck, h1, h2, h3, h4⟩ := r
  exact ⟨ms, ck, h1, RepM.mv H es ms hl h2, h3, h4⟩
 | pin t b => cases hl
end
mutual
theorem AC.ren_id : ∀ x : AC, x.ren id = x
 | .d _ => rfl
 | .ptr _ _ => rfl
 | .ept _ _ _ _ => rfl
 | .msl _ _ _ _ => rfl
 | .map _ => rfl
 | .fn g caps => by simp [AC.ren, AC.rens_id caps]
 | .op _ => rfl
theorem AC.rens_id : ∀ x : List AC, AC.rens id x = x
 | [] => rfl
 | c :: cs => by simp [AC.rens, AC.ren_id c, AC.rens_id cs]
end
mutual
theorem AV.ren_id : ∀ x : AV, x.ren id = x
 | .c x => by simp [AV.ren, AC.ren_id]
 | .ag cs => by simp [AV.ren, AC.rens_id]
 | .tup vs => by simp [AV.ren, AV.rens_id vs]
theorem AV.rens_id : ∀ x : List AV, AV.rens id x = x
 | [] => rfl
 | x :: xs => by simp [AV.rens, AV.ren_id x, AV.rens_id xs]
end
theorem Blk.ren_id (x : Blk) : x.ren id = x := by
 cases x with
 | non => rfl
 | dead => rfl
 | box cs => simp [Blk.ren, AC.rens_id]
 | arr s es =>
  have : (AC.rens id) = id := funext fun x => AC.rens_id x
  simp [Blk.ren, this]
 | map es =>
  have : (fun e : D × AV => (e.1, e.2.ren id)) = id := funext fun x => by simp [AV.ren_id]
  simp [Blk.ren, this]
 | pin t b => rfl
def newN : Nat -> Nat -> List Nat
 | _, 0 => []
 | n, d + 1 => n :: newN (n + 1) d
def zf4 (m : Hp) : Nat -> Nat -> Prop
 | _, 0 => True
 | n, d + 1 => m n = .non /\ zf4 m (n + 1) d
def wrL (f : Nat -> Nat) : List Nat -> List Blk -> List (Nat × Blk)
 | j :: js, b :: bs => (j, b.ren f) :: wrL f js bs
 | _, _ => []
def atL (m : Hp) (f : Nat -> Nat) : List Nat -> List Blk -> Prop
 | [], [] => True
 | j :: js, b :: bs => m j = b.ren f /\ atL m f js bs
 | _, _ => False
def live (bs : List Blk) (b : Nat) : Bool := match bs[b]? with
 | some .dead | some .non | none => false
 | some _ => true
end Go.Abs
namespace Go.Abs
inductive MOp where
 | mv (x : MX)
 | pick (c a b : MX)
 | binI (op : BinOp) (x y : MX)
 | divI (op : BinOp) (x y : MX)
 | binS (op : BinOp) (x y : MX)
 | cat (x y : MX)
 | binB (op : BinOp) (x y : MX)
 | not (x : MX)
 | neg (x : MX)
 | convI (k : IntKind) (x : MX)
 | boxP (x : MX)
 | boxM (x : MX)
 | alloc (z : List D)
 | build (z : List D) (ps : List (Nat × Nat × MX))
 | buildSl (s : Nat) (xs : List MX)
 | buildSlM (s : Nat) (xs : List MX)
 | load (ag : Bool) (sz : Nat) (x : MX)
 | store (sz : Nat) (a v : MX)
 | faddr (off : Nat) (x : MX)
 | field (ag : Bool) (off sz : Nat) (x : MX)
 | iaddrS (s : Nat) (x i : MX)
 | iaddrA (len s : Nat) (x i : MX)
 | idxA (ag : Bool) (len s : Nat) (x i : MX)
 | idxS (x i : MX)
 | len (x : MX)
 | lenS (x : MX)
 | nilck (x : MX)
 | extract (x : MX) (i : Nat)
 | slice (s : Nat) (x : MX) (lo hi : Option MX)
 | slice00 (s : Nat) (x : MX)
 | sliceS (x : MX) (lo hi : Option MX)
 | append (s bytes : Nat) (x y : MX)
 | mkfn (f : FuncId) (caps : List MX)
 | call (f : FuncId) (xs : List MX)
 | calld (x : MX) (xs : List MX)
 | cmpS (f : FuncId) (x y : MX)
 | mkmap
 | mlook (kk : Nat) (ok ag : Bool) (z : List D) (x k : MX)
 | mset (kk : Nat) (x k v : MX)
 | mdel (kk : Nat) (x k : MX)
 | mlen (x : MX)
 | mksl (z : List D) (bytes : Nat) (x : MX)
 | mkslM (z : List D) (bytes : Nat) (x y : MX)
 | eqAg (ne : Bool) (ks : List Nat) (x y : MX)
 | callM (f : FuncId) (xs : List MX)
 | calldM (x : MX) (xs : List MX)
 | isNil (ne : Bool) (x : MX)
 | isNilP (ne : Bool) (x : MX)
 | minI (mx : Bool) (x y : MX)
def mmI (mx : Bool) (a b : Int) : Int := if mx = true then (if b > a then b else a) else (if b < a then b else a)
def zeJ (v : Value) : Prop := ∃ t, v = .bool t
def kEq : Nat -> D -> D -> Option Bool
 | 0, .int k a, .int k' b => if k = k' then some (decide (a = b)) else none
 | 1, .str a, .str b => some (decide (a = b))
 | 2, .bool a, .bool b => some (a == b)
 | _, _, _ => none
def mfind (kk : Nat) (d : D) : List (D × AV) -> Nat -> Option (Option (Nat × AV))
 | [], _ => some none
 | e :: es, i => match kEq kk d e.1 with
  | some true => some (some (i, e.2))
  | some false => mfind kk d es (i + 1)
  | none => none
def aval (ag : Bool) (z : List D) : AV := match ag with
 | true => .ag (z.map .d)
 | false => .c (.d (z.headD .any))
def eqL : List Nat -> List D -> List D -> Option Bool
 | [], [], [] => some true
 | k :: ks, a :: as, b :: bs => match kEq k a b, eqL ks as bs with
  | some x, some y => some (x && y)
  | _, _ => none
 | _, _, _ => none
def zfQ : String := (Extern.BytealgCompare.rows.map (·.1)).getLastD default
def callee (P : Program) (f : FuncId) : Bool := match P.funcs[f]? with | some fn => fn.name != "runtime.NumGoroutine" && fn.body.isSome | none => false
def PCall (P : Program) (f : FuncId) (args : List DV) (v : DV) : Prop :=
 callee P f = true /\ ∀ (h : PH) (w : World) (argsC : List Value), (∀ B o, h B = some o -> w.heap[B]? = some o) -> Gnd P h -> zav h args argsC ->
  Calls P f argsC.toArray w fun e w' => ∃ (vC : Value) (h' : PH), e = .returned vC /\ h.le h' /\ (∀ B, B < w.heap.size -> h' B = h B) /\ (∀ B o, h' B = some o -> w'.heap[B]? = some o) /\
   w.heap.size <= w'.heap.size /\ (∀ B, B < w.heap.size -> w'.heap[B]? = w.heap[B]?) /\ Same w w' /\ zaH h' v vC
def MCall (P : Program) (f : FuncId) (args : List AV) (bs : List Blk) (v : AV) (bs' : List Blk) : Prop :=
 callee P f = true /\ bs.length <= bs'.length /\ (∀ i, i < bs'.length -> hpOf bs' i ≠ .non) /\ v.lv (live bs') = true /\ (∀ b, b ∈ bs' -> b.lv (live bs') = true) /\
 ∀ (h : PH) (ρ : RM) (w : World) (argsC : List Value), HRel h ρ (hpOf bs) w.heap -> Gnd P h -> zar h ρ args argsC ->
  Calls P f argsC.toArray w fun e w' => ∃ (vC : Value) (h' : PH) (ρ' : RM), e = .returned vC /\ zdD h ρ (hpOf bs) w.heap h' ρ' (hpOf bs') w'.heap /\ HRel h' ρ' (hpOf bs') w'.heap /\ Same w w' /\ RepV h' ρ' v vC /\ ∀ i, i < bs.length -> ρ' i = ρ i
def mcallB (P : Program) (f : FuncId) (vs : List AV) (m : Hp) (n : Nat) (K : AV -> List Nat -> List (Nat × Blk) -> Nat -> Prop) : Prop :=
 ∃ (l : List Nat) (args : List AV) (bs : List Blk) (v : AV) (bs' : List Blk), MCall P f args bs v bs' /\ l.Nodup /\ (∀ i, i ∈ l -> i < n) /\ vs = AV.rens (fOf l) args /\ AV.lts l.length args = true /\ (∀ b, b ∈ bs -> b.lt l.length = true) /\ atL m (fOf l) l bs /\ zf4 m n (bs'.length - bs.length) /\
  K (v.ren (fOf (l ++ newN n (bs'.length - bs.length)))) [] (wrL (fOf (l ++ newN n (bs'.length - bs.length))) (l ++ newN n (bs'.length - bs.length)) bs') (n + (bs'.length - bs.length))
mutual
def DV.av : DV -> AV
 | .one x => .c (.d x)
 | .agg cs => .ag (cs.map .d)
 | .tup vs => .tup (DV.avs vs)
def DV.avs : List DV -> List AV
 | [] => []
 | v :: vs => DV.av v :: DV.avs vs
end
mutual
theorem zaH.av {h : PH} {ρ : RM} : ∀ {x : DV} {v : Value}, zaH h x v -> RepV h ρ x.av v
 | .one x, v, r => by simp only [zaH] at r; simp only [DV.av, RepV, RepC]; exact r
 | .agg cs, v, r => by
  simp only [zaH] at r
  obtain ⟨vs, h1, h2, h3⟩ := r
  simp only [DV.av, RepV]
  exact ⟨vs, h1, by simpa using h2, zad.of_D h3⟩
 | .tup xs, v, r => by
  simp only [zaH] at r
  obtain ⟨vs, h1, h2⟩ := r
  simp only [DV.av, RepV]
  exact ⟨vs, h1, zav.avs h2⟩
theorem zav.avs {h : PH} {ρ : RM} : ∀ {xs : List DV} {vs : List Value}, zav h xs vs -> zar h ρ (DV.avs xs) vs
 | [], vs, r => by simpa [zav, DV.avs, zar] using r
 | _ :: _, [], r => by simp [zav] at r
 | x :: xs, v :: vs, r => by
  simp only [zav] at r
  simp only [DV.avs, zar]
  exact ⟨zaH.av r.1, zav.avs r.2⟩
end
def toDV : AV -> Option DV
 | .c (.d x) => some (.one x)
 | .ag cs => (allD cs).map .agg
 | _ => none
def toDVs : List AV -> Option (List DV)
 | [] => some []
 | v :: vs => match toDV v, toDVs vs with
  | some x, some xs => some (x :: xs)
  | _, _ => none
theorem zux {h : PH} {ρ : RM} {v : AV} {x : DV} {u : Value} (e : toDV v = some x) (r : RepV h ρ v u) : zaH h x u := by
 unfold toDV at e
 split at e
 ·cases e; simpa only [RepV, RepC, zaH] using r
 ·rename_i cs
  simp only [Option.map_eq_some_iff] at e
  obtain ⟨ds, h1, h2⟩ := e
  subst h2
  have := zeL h1
  subst this
  simp only [RepV] at r
  obtain ⟨vs, e1, e2, e3⟩ := r
  simp only [zaH]
  exact ⟨vs, e1, by simpa using e2, zad.to_D e3⟩
 ·cases e
theorem zjs {h : PH} {ρ : RM} : ∀ {vs : List AV} {xs : List DV} {us : List Value}, toDVs vs = some xs -> zar h ρ vs us -> zav h xs us
 | [], xs, us, e, r => by simp [toDVs] at e; subst e; simpa [zar, zav] using r
 | v :: vs, xs, [], e, r => by simp [zar] at r
 | v :: vs, xs, u :: us, e, r => by
  simp only [zar] at r
  simp only [toDVs] at e
  split at e
  ·rename_i x xs' h1 h2
   cases e
   simp only [zav]
   exact ⟨zux h1 r.1, zjs h2 r.2⟩
  ·cases e
def cut {α : Type} (cs : List α) (off sz : Nat) : List α := if off = 0 /\ cs.length = sz then cs else (cs.drop off).take sz
def put {α : Type} (cs : List α) (off : Nat) (l : List α) : List α := if off = 0 /\ l.length = cs.length then l else splice cs off l
def ldC (ag : Bool) (sz : Nat) (cs : List AC) (off : Nat) (K : AV -> Prop) : Prop :=
 match ag with
 | true => off + sz <= cs.length /\ K (.ag (cut cs off sz))
 | false => match cs[off]? with
  | some c => K (.c c)
  | none => False
def ldD (ag : Bool) (sz : Nat) (cs : List D) (off : Nat) (K : AV -> Prop) : Prop :=
 match ag with
 | true => off + sz <= cs.length /\ K (.ag ((cut cs off sz).map .d))
 | false => match cs[off]? with
  | some c => K (.c (.d c))
  | none => False
def zfi (get : Nat -> AV) : List AC -> List (Nat × Nat × MX) -> Option (List AC)
 | cs, [] => some cs
 | cs, (off, sz, x) :: ps => match zbP (X get x) with
  | some l => if l.length = sz /\ off + sz <= cs.length then zfi get (put cs off l) ps else none
  | none => none
def rowD (get : Nat -> AV) (s : Nat) : List MX -> Option (List (List D))
 | [] => some []
 | x :: xs => match zec (X get x), rowD get s xs with
  | some l, some r => if l.length = s then some (l :: r) else none
  | _, _ => none
def rowC (get : Nat -> AV) (s : Nat) : List MX -> Option (List (List AC))
 | [] => some []
 | x :: xs => match zbP (X get x), rowC get s xs with
  | some l, some r => if l.length = s then some (l :: r) else none
  | _, _ => none
def zfj (get : Nat -> AV) : List MX -> Option (List AC)
 | [] => some []
 | x :: xs => match X get x, zfj get xs with
  | .c c, some r => if c.one then some (c :: r) else none
  | _, _ => none
def bnd (get : Nat -> AV) (d : Nat) (K : Nat -> Prop) : Option MX -> Prop
 | none => K d
 | some x => match X get x with
  | .c (.d (.int _ j)) => 0 <= j /\ K j.toNat
  | _ => False
def srcs (get : Nat -> AV) (m : Hp) (s : Nat) (K : List (List AC) -> List Nat -> Prop) (y : MX) : Prop :=
 match X get y with
 | .c (.d (.sl _ s' ys)) => s = s' /\ K (ys.map (·.map .d)) []
 | .c (.msl s' b off len) => match m b with
  | .arr s'' es => s = s' /\ s = s'' /\ off + len <= es.length /\ K ((es.drop off).take len) [b]
  | _ => False
 | _ => False
def ev (P : Program) (get : Nat -> AV) (m : Hp) (n : Nat) (K : AV -> List Nat -> List (Nat × Blk) -> Nat -> Prop) : MOp -> Prop
 | .mv x => K (X get x) [] [] n
 | .pick c a b => match X get c with
  | .c (.d (.bool t)) => (t = true -> K (X get a) [] [] n) /\ (t = false -> K (X get b) [] [] n)
  | _ => False
 | .binI op x y => match X get x, X get y with
  | .c (.d (.int k a)), .c (.d (.int k' b)) => k = k' /\ (match evI op k a b with | some d => K (.c (.d d)) [] [] n | none => False)
  | _, _ => False
 | .divI op x y => match X get x, X get y with
  | .c (.d (.int k a)), .c (.d (.int k' b)) => k = k' /\ b ≠ 0 /\ (match op with | .quo => K (.c (.d (.int k (k.wrap (a.tdiv b))))) [] [] n | .rem => K (.c (.d (.int k (a.tmod b)))) [] [] n | _ => False)
  | _, _ => False
 | .binS op x y => match X get x, X get y with
  | .c (.d (.str a)), .c (.d (.str b)) => (match evS op a b with | some d => K (.c (.d d)) [] [] n | none => False)
  | _, _ => False
 | .cat x y => match X get x, X get y with
  | .c (.d (.str a)), .c (.d (.str b)) => a.size + b.size <= zak /\ K (.c (.d (.str (a ++ b)))) [] [] n
  | _, _ => False
 | .binB op x y => match X get x, X get y with
  | .c (.d (.bool a)), .c (.d (.bool b)) => (match evB op a b with | some d => K (.c (.d d)) [] [] n | none => False)
  | _, _ => False
 | .not x => match X get x with
  | .c (.d (.bool a)) => K (.c (.d (.bool (!a)))) [] [] n
  | _ => False
 | .neg x => match X get x with
  | .c (.d (.int k a)) => K (.c (.d (.int k (k.wrap (0 - a))))) [] [] n
  | _ => False
 | .convI k x => match X get x with
  | .c (.d (.int _ a)) => K (.c (.d (.int k (k.wrap a)))) [] [] n
  | _ => False
 | .boxP x => match zec (X get x) with
  | some ds => K (.c (.d (.rp ds 0))) [] [] n
  | none => False
 | .boxM x => match zbP (X get x) with
  | some cs => m n = .non /\ K (.c (.ptr n 0)) [] [(n, .box cs)] (n + 1)
  | none => False
 | .alloc z => m n = .non /\ K (.c (.ptr n 0)) [] [(n, .box (z.map .d))] (n + 1)
 | .build z ps => match zfi get (z.map .d) ps with
  | some cs => K (.ag cs) [] [] n
  | none => False
 | .buildSl s xs => match rowD get s xs with
  | some es => K (.c (.d (.sl true s es))) [] [] n
  | none => False
 | .buildSlM s xs => match rowC get s xs with
  | some es => m n = .non /\ K (.c (.msl s n 0 xs.length)) [] [(n, .arr s es)] (n + 1)
  | none => False
 | .load ag sz x => match X get x with
  | .c (.d (.rp cs off)) => ldD ag sz cs off fun v => K v [] [] n
  | .c (.ptr b off) => match m b with
   | .box cs => ldC ag sz cs off fun v => K v [b] [] n
   | _ => False
  | .c (.ept s b i off) => match m b with
   | .arr s' es => s = s' /\ (match es[i]? with | some e => ldC ag sz e off fun v => K v [b] [] n | none => False)
   | _ => False
  | _ => False
 | .store sz a v => match X get a, zbP (X get v) with
  | .c (.ptr b off), some l => match m b with
   | .box cs => l.length = sz /\ off + sz <= cs.length /\ K (.c (.d .any)) [] [(b, .box (put cs off l))] n
   | _ => False
  | .c (.ept s b i off), some l => match m b with
   | .arr s' es => s = s' /\ l.length = sz /\ off + sz <= s /\ (match es[i]? with | some e => K (.c (.d .any)) [] [(b, .arr s (es.set i (put e off l)))] n | none => False)
   | _ => False
  | _, _ => False
 | .faddr off x => match X get x with
  | .c (.ptr b o) => K (.c (.ptr b (o + off))) [] [] n
  | .c (.ept s b i o) => K (.c (.ept s b i (o + off))) [] [] n
  | .c (.d (.rp cs o)) => K (.c (.d (.rp cs (o + off)))) [] [] n
  | _ => False
 | .field ag off sz x => match X get x with
  | .ag cs => ldC ag sz cs off fun v => K v [] [] n
  | _ => False
 | .iaddrS s x i => match X get x, X get i with
  | .c (.d (.sl _ s' es)), .c (.d (.int _ j)) => s = s' /\ 0 <= j /\ (match es[j.toNat]? with | some e => K (.c (.d (.rp e 0))) [] [] n | none => False)
  | .c (.msl s' b off len), .c (.d (.int _ j)) => s = s' /\ 0 <= j /\ j < len /\ K (.c (.ept s b (off + j.toNat) 0)) [] [] n
  | _, _ => False
 | .iaddrA len s x i => match X get x, X get i with
  | .c (.ptr b o), .c (.d (.int _ j)) => 0 <= j /\ j < len /\ K (.c (.ptr b (o + j.toNat * s))) [] [] n
  | .c (.ept s' b i' o), .c (.d (.int _ j)) => 0 <= j /\ j < len /\ K (.c (.ept s' b i' (o + j.toNat * s))) [] [] n
  | .c (.d (.rp cs o)), .c (.d (.int _ j)) => 0 <= j /\ j < len /\ K (.c (.d (.rp cs (o + j.toNat * s)))) [] [] n
  | _, _ => False
 | .idxA ag len s x i => match X get x, X get i with
  | .ag cs, .c (.d (.int _ j)) => 0 <= j /\ j < len /\ ldC ag s cs (j.toNat * s) fun v => K v [] [] n
  | _, _ => False
 | .idxS x i => match X get x, X get i with
  | .c (.d (.str t)), .c (.d (.int _ j)) => 0 <= j /\ (match t.data.toList[j.toNat]? with | some b => K (.c (.d (.int .u8 b.toNat))) [] [] n | none => False)
  | _, _ => False
 | .len x => match X get x with
  | .c (.d (.sl _ _ es)) => K (.c (.d (.int .i64 es.length))) [] [] n
  | .c (.msl _ b off l) => match m b with
   | .arr _ es => off + l <= es.length /\ K (.c (.d (.int .i64 l))) [b] [] n
   | _ => False
  | _ => False
 | .lenS x => match X get x with
  | .c (.d (.str t)) => K (.c (.d (.int .i64 t.size))) [] [] n
  | _ => False
 | .nilck x => match X get x with
  | .c (.ptr b o) => K (.c (.ptr b o)) [] [] n
  | .c (.ept s b i o) => K (.c (.ept s b i o)) [] [] n
  | .c (.d (.rp cs o)) => K (.c (.d (.rp cs o))) [] [] n
  | _ => False
 | .extract x i => match X get x with
  | .tup vs => match vs[i]? with
   | some v => K v [] [] n
   | none => False
  | _ => False
 | .slice s x lo hi => match X get x with
  | .c (.d (.sl e s' es)) => s = s' /\ bnd get es.length (fun h => bnd get 0 (fun l => l <= h /\ h <= es.length /\ K (.c (.d (.sl (e && hi.isNone) s ((es.take h).drop l)))) [] [] n) lo) hi
  | .c (.msl s' b off len) => s = s' /\ bnd get len (fun h => bnd get 0 (fun l => l <= h /\ h <= len /\ K (.c (.msl s b (off + l) (h - l))) [] [] n) lo) hi
  | _ => False
 | .slice00 s x => match X get x with
  | .c (.d (.sl e s' es)) => K (.c (.d (.sl true s []))) [] [] n
  | _ => False
 | .sliceS x lo hi => match X get x with
  | .c (.d (.str t)) => bnd get t.size (fun h => bnd get 0 (fun l => l <= h /\ h <= t.size /\ K (.c (.d (.str (t.extract l h)))) [] [] n) lo) hi
  | _ => False
 | .append s bytes x y => match X get x with
  | .c (.msl s' b off len) => match m b with
   | .arr s'' es => s = s' /\ s = s'' /\ off = 0 /\ len <= es.length /\ m n = .non /\ srcs get m s (fun ys rd => (len + ys.length) * bytes <= 70368744177664 /\ (rd = [] \/ rd = [b] \/ b ∉ rd) /\
     K (.c (.msl s n 0 (len + ys.length))) rd [(b, .dead), (n, .arr s (es.take len ++ ys))] (n + 1)) y
   | _ => False
  | .c (.d (.sl true s' [])) => m n = .non /\ srcs get m s (fun ys rd => ys.length * bytes <= 70368744177664 /\ K (.c (.msl s n 0 ys.length)) rd [(n, .arr s ys)] (n + 1)) y
  | .c (.d (.sl true s' (e :: es))) => s = s' /\ m n = .non /\ srcs get m s (fun ys rd => (ys = [] -> K (.c (.d (.sl true s (e :: es)))) rd [] (n + 1)) /\ (ys ≠ [] -> ((e :: es).length + ys.length) * bytes <= 70368744177664 /\ K (.c (.msl s n 0 ((e :: es).length + ys.length))) rd [(n, .arr s ((e :: es).map (·.map .d) ++ ys))] (n + 1))) y
  | _ => False
 | .mkfn f caps => match zfj get caps with
  | some cs => match allD cs with
   | some ds => K (.c (.d (.fn (.func f) ds))) [] [] n
   | none => K (.c (.fn (.func f) cs)) [] [] n
  | none => False
 | .call f xs => match toDVs (xs.map (X get)) with
  | some ds => ∃ v, PCall P f ds v /\ K v.av [] [] n
  | none => False
 | .calld x xs => match X get x, toDVs (xs.map (X get)) with
  | .c (.d (.fn (.func f) caps)), some ds => ∃ v, PCall P f (ds ++ caps.map .one) v /\ K v.av [] [] n
  | _, _ => False
 | .callM f xs => mcallB P f (xs.map (X get)) m n K
 | .calldM x xs => match X get x with
  | .c (.fn (.func f) caps) => mcallB P f (xs.map (X get) ++ caps.map .c) m n K
  | .c (.d (.fn (.func f) caps)) => mcallB P f (xs.map (X get) ++ caps.map fun c => .c (.d c)) m n K
  | _ => False
 | .minI mx x y => match X get x, X get y with
  | .c (.d (.int k a)), .c (.d (.int k' b)) => k = k' /\ K (.c (.d (.int k (mmI mx a b)))) [] [] n
  | _, _ => False
 | .isNilP ne x => match X get x with
  | .c (.d (.sc (.pointer none))) => K (.c (.d (.bool !ne))) [] [] n
  | .c (.d (.rp _ _)) => K (.c (.d (.bool ne))) [] [] n
  | _ => False
 | .isNil ne x => match X get x with
  | .c (.d (.sl _ _ (_ :: _))) => K (.c (.d (.bool ne))) [] [] n
  | .c (.d (.sl _ _ [])) => K (.c (.op zeJ)) [] [] n
  | _ => False
 | .cmpS f x y => match X get x, X get y with
  | .c (.d (.str a)), .c (.d (.str b)) => K (.c (.d (.int .i64 (Lib.compareBytes a.data.toList b.data.toList)))) [] [] n
  | _, _ => False
 | .mkmap => m n = .non /\ K (.c (.map n)) [] [(n, .map [])] (n + 1)
 | .mlook kk ok ag z x k => match X get x, X get k with
  | .c (.map b), .c (.d d) => match m b with
   | .map es => match mfind kk d es 0 with
    | some (some (_, v)) => K (if ok then .tup [v, .c (.d (.bool true))] else v) [b] [] n
    | some none => K (if ok then .tup [aval ag z, .c (.d (.bool false))] else aval ag z) [b] [] n
    | none => False
   | _ => False
  | _, _ => False
 | .mset kk x k v => match X get x, X get k with
  | .c (.map b), .c (.d d) => match m b with
   | .map es => match mfind kk d es 0 with
    | some (some (i, _)) => K (.c (.d .any)) [] [(b, .map (es.set i (d, X get v)))] n
    | some none => K (.c (.d .any)) [] [(b, .map (es ++ [(d, X get v)]))] n
    | none => False
   | _ => False
  | _, _ => False
 | .mdel kk x k => match X get x, X get k with
  | .c (.map b), .c (.d d) => match m b with
   | .map es => match mfind kk d es 0 with
    | some (some (i, _)) => K (.tup []) [] [(b, .map (es.eraseIdx i))] n
    | some none => K (.tup []) [] [(b, .map es)] n
    | none => False
   | _ => False
  | _, _ => False
 | .mlen x => match X get x with
  | .c (.map b) => match m b with
   | .map es => es.length <= zak /\ K (.c (.d (.int .i64 es.length))) [b] [] n
   | _ => False
  | _ => False
 | .mksl z bytes x => match X get x with
  | .c (.d (.int .i64 j)) => 0 <= j /\ j * bytes <= 70368744177664 /\ K (.c (.d (.sl true z.length (List.replicate j.toNat z)))) [] [] n
  | _ => False
 | .mkslM z bytes x y => match X get x, X get y with
  | .c (.d (.int .i64 j)), .c (.d (.int .i64 l)) => 0 <= j /\ j <= l /\ l * bytes <= 70368744177664 /\ m n = .non /\ K (.c (.msl z.length n 0 j.toNat)) [] [(n, .arr z.length ((List.replicate j.toNat z).map (·.map .d)))] (n + 1)
  | _, _ => False
 | .eqAg ne ks x y => match X get x, X get y with
  | .ag cs, .ag cs' => match allD cs, allD cs' with
   | some a, some b => match eqL ks a b with
    | some t => K (.c (.d (.bool (t ^^ ne)))) [] [] n
    | none => False
   | _, _ => False
  | _, _ => False
def zbV : List D -> List Value -> Bool
 | [], [] => true
 | d :: ds, v :: vs => zkD d v && v.one1 && zbV ds vs
 | _, _ => false
theorem zcK : ∀ {ds : List D} {vs : List Value}, zbV ds vs = true -> vs.length = ds.length /\ ∀ ph, RepL ph ds vs
 | [], [], _ => ⟨rfl, fun _ => by simp [RepL]⟩
 | d :: ds, v :: vs, h => by
  simp only [zbV, Bool.and_eq_true] at h
  obtain ⟨h1, h2⟩ := zcK h.2
  refine ⟨by simp [h1], fun ph => ?_⟩
  simp only [RepL]
  exact ⟨⟨h.1.2, zmh h.1.1 ph⟩, h2 ph⟩
 | [], _ :: _, h => by simp [zbV] at h
 | _ :: _, [], h => by simp [zbV] at h
def isInt (P : Program) (T : TypeId) : Bool := match P.underlying T with | some (.int _) => true | _ => false
def zcA (P : Program) (T : TypeId) : Option TypeInfo := match P.underlying T with | some (.slice e) => P.info? e | _ => none
def zld (P : Program) (T : TypeId) : Option (Nat × TypeInfo) := match P.underlying T with | some (.array n e) => (P.info? e).map fun i => (n, i) | _ => none
def zii (P : Program) (T : TypeId) (f : Nat) : Option (Nat × TypeId × TypeInfo) :=
 match P.underlying T with
 | some (.struct fs) => match fs[f]? with
  | some x => (P.info? x.type).map fun i => (x.offset, x.type, i)
  | none => none
 | _ => none
def zcj : Option MX -> Option Operand -> Bool
 | none, none => true
 | some x, some o => chkX x o
 | _, _ => false
def zeroOf (i : TypeInfo) : List Value := match i.zero with | some z => z.cells.toList | none => []
def zgz (P : Program) (pl : Nat -> Option (Nat × Nat)) : List (Nat × Nat × MX) -> List (Nat × Operand) -> Bool
 | [], [] => true
 | (off, sz, x) :: ps, (i, o) :: os => (pl i == some (off, sz)) && chkX x o && zgz P pl ps os
 | _, _ => false
def zeU : List MX -> Nat -> List (Nat × Operand) -> Bool
 | [], _, [] => true
 | x :: xs, k, (i, o) :: os => (i == k) && chkX x o && zeU xs (k + 1) os
 | _, _, _ => false
def zfk (P : Program) (T : TypeId) (kk : Nat) : Bool := match P.underlying T with
 | some (.map k _) => (match P.underlying k with | some (.int _) => kk == 0 | some .string => kk == 1 | some .bool => kk == 2 | _ => false)
 | _ => false
def zj4 (P : Program) (T : TypeId) : Option TypeId := match P.underlying T with | some (.map _ e) => some e | _ => none
def zmS (P : Program) (T : TypeId) (z : List D) (bytes : Nat) : Bool := match zcA P T with
 | some i => i.size == z.length && i.bytes == bytes && decide (0 < bytes) && decide (0 < z.length) && i.zero.isSome && zbV z (zeroOf i)
 | none => false
def zeV (P : Program) : List Nat -> Nat -> List Field -> Bool
 | [], _, [] => true
 | k :: ks, i, f :: fs => f.offset == i && f.name != "_" && (match P.underlying f.type with | some (.int _) => k == 0 | some .string => k == 1 | some .bool => k == 2 | _ => false) && zeV P ks (i + 1) fs
 | _, _, _ => false
def zm4 (P : Program) (T : TypeId) (ks : List Nat) : Bool := match P.underlying T with
 | some (.struct fs) => zeV P ks 0 fs.toList
 | _ => false
theorem zrr {P : Program} {T : TypeId} {ks : List Nat} (h : zm4 P T ks = true) : ∃ fs, P.underlying T = some (.struct fs) /\ zeV P ks 0 fs.toList = true := by
 unfold zm4 at h
 split at h
 ·rename_i fs hu; exact ⟨fs, hu, h⟩
 ·cases h
def zde (P : Program) (fs : Array Field) (i : Nat) : Option (Nat × Nat) := match fs[i]? with | some f => (P.info? f.type).map fun t => (f.offset, t.size) | none => none
def zm5 (P : Program) (c : Call) (kk : Nat) (x k : MX) : Bool := match c.callee with
 | .builtin .delete => (match c.args.toList with
  | [o, o'] => (match c.argTypes.toList with
   | T :: _ => chkX x o && chkX k o' && zfk P T kk
   | _ => false)
  | _ => false)
 | _ => false
def zle (P : Program) (c : Call) (x : MX) : Bool := match c.callee with
 | .builtin .len => (match c.args.toList with
  | [o] => (match c.argTypes.toList with
   | [T] => chkX x o && (zj4 P T).isSome
   | _ => false)
  | _ => false)
 | _ => false
theorem zrs {P : Program} {c : Call} {kk : Nat} {x k : MX} (h : zm5 P c kk x k = true) : ∃ o o' T tl, c.callee = .builtin .delete /\ c.args.toList = [o, o'] /\ c.argTypes.toList = T :: tl /\ (chkX x o = true /\ chkX k o' = true) /\ zfk P T kk = true := by
 unfold zm5 at h
 split at h
 ·rename_i hb
  split at h
  ·rename_i o o' ha
   split at h
   ·rename_i T tl ht
    simp only [Bool.and_eq_true] at h
    exact ⟨o, o', T, tl, hb, ha, ht, h⟩
   ·cases h
  ·cases h
 ·cases h
theorem zp4 {P : Program} {c : Call} {x : MX} (h : zle P c x = true) : ∃ o T k e, c.callee = .builtin .len /\ c.args.toList = [o] /\ c.argTypes.toList = [T] /\ chkX x o = true /\ P.underlying T = some (.map k e) := by
 unfold zle at h
 split at h
 ·rename_i hb
  split at h
  ·rename_i o ha
   split at h
   ·rename_i T ht
    simp only [Bool.and_eq_true] at h
    obtain ⟨h1, h2⟩ := h
    unfold zj4 at h2
    split at h2
    ·rename_i k e hu
     exact ⟨o, T, k, e, hb, ha, ht, h1, hu⟩
    ·cases h2
   ·cases h
  ·cases h
 ·cases h
def zaf (P : Program) : MOp -> Op -> Bool
 | .mv x, .move o => chkX x o
 | .mv x, .assign o => chkX x o
 | .pick c a b, .pick c' a' b' => chkX c c' && chkX a a' && chkX b b'
 | .binI op x y, .binOp op' _ x' y' _ => decide (op = op') && chkX x x' && chkX y y'
 | .divI op x y, .binOp op' _ x' y' _ => decide (op = op') && (decide (op = .quo) || decide (op = .rem)) && chkX x x' && chkX y y'
 | .binS op x y, .binOp op' _ x' y' _ => decide (op = op') && chkX x x' && chkX y y'
 | .cat x y, .binOp op' _ x' y' _ => decide (op' = .add) && chkX x x' && chkX y y'
 | .binB op x y, .binOp op' T x' y' _ => decide (op = op') && (match P.underlying T with | some .bool => true | _ => false) && chkX x x' && chkX y y'
 | .not x, .unOp op _ o => decide (op = .not) && chkX x o
 | .neg x, .unOp op _ o => decide (op = .neg) && chkX x o
 | .convI k x, .convert s d o => (match P.underlying d with | some (.int k') => decide (k = k') | _ => false) && (match P.underlying s with | some _ => true | none => false) && chkX x o
 | .boxP x, .box T o => chkX x o
 | .boxM x, .box T o => chkX x o
 | .alloc z, .alloc T => (match P.info? T with | some i => i.zero.isSome && zbV z (zeroOf i) | none => false)
 | .build z ps, .build T os => (match P.info? T, P.underlying T with
   | some i, some (.struct fs) => i.zero.isSome && zbV z (zeroOf i) && fs.toList.all (fun f => (P.info? f.type).isSome) && zgz P (zde P fs) ps os.toList
   | some i, some (.array _ e) => (match P.info? e with | some j => i.zero.isSome && zbV z (zeroOf i) && zgz P (fun k => some (k * j.size, j.size)) ps os.toList | none => false)
   | _, _ => false)
 | .buildSl s xs, .buildSlice T n os => (match zcA P T with | some i => i.size == s && i.zero.isSome && (zeroOf i).length == s && xs.length == n && decide (n * s <= 16777216) && decide (n <= 16777216) && zeU xs 0 os.toList | none => false)
 | .buildSlM s xs, .buildSlice T n os => (match zcA P T with | some i => i.size == s && i.zero.isSome && (zeroOf i).length == s && xs.length == n && decide (n * s <= 16777216) && decide (n <= 16777216) && zeU xs 0 os.toList | none => false)
 | .load ag sz x, .load T o => tyA P T == some (ag, sz) && chkX x o
 | .store sz a v, .store T a' v' => (match P.info? T with | some i => i.size == sz && decide (0 < sz) | none => false) && chkX a a' && chkX v v'
 | .faddr off x, .fieldAddr T o f => (match zii P T f with | some (off', _, i) => off == off' && i.size != 0 | none => false) && chkX x o
 | .field ag off sz x, .field T o f => (match zii P T f with | some (off', U, _) => off == off' && tyA P U == some (ag, sz) | none => false) && chkX x o
 | .iaddrS s x i, .indexAddr T x' i' => (match zcA P T with | some e => e.size == s | none => false) && chkX x x' && chkX i i'
 | .iaddrA len s x i, .indexAddr T x' i' => (match zld P T with | some (n, e) => n == len && e.size == s | none => false) && chkX x x' && chkX i i'
 | .idxA ag len s x i, .index T x' i' => (match P.underlying T with | some (.array n e) => n == len && tyA P e == some (ag, s) | _ => false) && chkX x x' && chkX i i'
 | .idxS x i, .index T x' i' => (match P.underlying T with | some .string => true | _ => false) && chkX x x' && chkX i i'
 | .len x, .call c => (match c.callee, c.args.toList, c.argTypes.toList with
   | .builtin .len, [o], [T] => chkX x o && (match P.underlying T with | some (.slice _) => true | _ => false)
   | _, _, _ => false)
 | .lenS x, .call c => (match c.callee, c.args.toList, c.argTypes.toList with
   | .builtin .len, [o], [T] => chkX x o && (match P.underlying T with | some .string => true | _ => false)
   | _, _, _ => false)
 | .nilck x, .nilCheck o => chkX x o
 | .extract x i, .extract o j => i == j && chkX x o
 | .slice s x lo hi, .slice T o l h mx => (match zcA P T with | some e => e.size == s | none => false) && mx.isNone && chkX x o && zcj lo l && zcj hi h
 | .slice00 s x, .slice T o l h mx => (match zcA P T with | some e => e.size == s | none => false) && chkX x o && l.isNone && zcj (some (.k (.int .i64 0))) h && zcj (some (.k (.int .i64 0))) mx
 | .sliceS x lo hi, .slice T o l h mx => (match P.underlying T with | some .string => true | _ => false) && mx.isNone && chkX x o && zcj lo l && zcj hi h
 | .append s bytes x y, .call c => (match c.callee, c.args.toList, c.argTypes.toList with
   | .builtin .append, [o, o'], [T, T'] => chkX x o && chkX y o' && !isInt P T' && (P.underlying T').isSome && (match zcA P T with | some e => e.size == s && e.bytes == bytes && decide (0 < bytes) && decide (bytes <= 1073741824) && decide (0 < s) && e.zero.isSome && (zeroOf e).length == s | none => false)
   | _, _, _ => false)
 | .mkfn f caps, .makeFunc fn first captured => (match fn with | .func g => f == g | _ => false) && first.isEmpty && zct caps captured.toList
 | .call f xs, .call c => (match c.callee with | .value (.func g) => f == g | _ => false) && zct xs c.args.toList
 | .calld x xs, .call c => (match c.callee with | .value o => chkX x o | _ => false) && zct xs c.args.toList
 | .callM f xs, .call c => (match c.callee with | .value (.func g) => f == g | _ => false) && zct xs c.args.toList
 | .calldM x xs, .call c => (match c.callee with | .value o => chkX x o | _ => false) && zct xs c.args.toList
 | .cmpS f x y, .call c => (match c.callee, c.args.toList with
   | .value (.func g), [o, o'] => f == g && (match P.funcs[f]? with | some fn => fn.name == zfQ && fn.body.isNone && (Extern.findNext fn).isNone | none => false) && chkX x o && chkX y o'
   | _, _ => false)
 | .mkmap, .makeMap _ r => r.isNone
 | .mlook kk ok ag z x k, .lookup T x' k' ok' => ok == ok' && chkX x x' && chkX k k' && zfk P T kk && (match zj4 P T with
   | some e => (match P.info? e with | some i => i.zero.isSome && zbV z (zeroOf i) && tyA P e == some (ag, z.length) && (match i.zero with | some (.agg _) => ag | some (.tuple _) => false | some _ => !ag | none => false) | none => false)
   | none => false)
 | .mset kk x k v, .mapUpdate T x' k' v' => chkX x x' && chkX k k' && chkX v v' && zfk P T kk
 | .mset kk x k v, .insert T x' k' v' => chkX x x' && chkX k k' && chkX v v' && zfk P T kk
 | .mdel kk x k, .call c => zm5 P c kk x k
 | .mlen x, .call c => zle P c x
 | .mksl z bytes x, .makeSlice T l c => chkX x l && chkX x c && zmS P T z bytes
 | .mkslM z bytes x y, .makeSlice T l c => chkX x l && chkX y c && zmS P T z bytes
 | .minI mx x y, .call c => (match c.callee, c.args.toList with
   | .builtin .min, [o, o'] => !mx && chkX x o && chkX y o'
   | .builtin .max, [o, o'] => mx && chkX x o && chkX y o'
   | _, _ => false)
 | .isNilP ne x, .binOp op T x' y' _ => decide (op = if ne then .neq else .eql) && chkX x x' && (match y' with | .const (.pointer none) => true | _ => false) && (match P.underlying T with | some (.pointer _) => true | _ => false)
 | .isNil ne x, .binOp op T x' y' _ => decide (op = if ne then .neq else .eql) && chkX x x' && (match y' with | .const (.slice none 0 0) => true | _ => false) && (match P.underlying T with | some (.slice _) => true | _ => false)
 | .eqAg ne ks x y, .binOp op T x' y' _ => decide (op = if ne then .neq else .eql) && chkX x x' && chkX y y' && !P.stoodInHeld T && !P.eqGuardType P.depth T && zm4 P T ks
 | _, _ => false
end Go.Abs
namespace Go.Abs
section
variable {P : Program} {get : Nat -> AV} {m : Hp} {n : Nat}
theorem zsj {o : Oper} {x : MX} {ox : Operand} (ho : o.op = .move ox \/ o.op = .assign ox) (h : chkX x ox = true) : zam P o get m [] [] (X get x) := by
 refine zam.of_pure fun m' h1 ph ρ w a hr hg => ⟨a.eval ox, ?_, zan h fun k hk => hg k ?_⟩
 ·rcases ho with ho | ho <;> (unfold execOp; rw [ho]; exact Runs.pure _)
 ·rcases ho with ho | ho <;> (rw [ho]; simp [Op.operands, hk])
theorem ztR {o : Oper} {c x y : MX} {oc ox oy : Operand} (ho : o.op = .pick oc ox oy) (hc : chkX c oc = true) (hx : chkX x ox = true) (hy : chkX y oy = true) {t : Bool} (et : X get c = .c (.d (.bool t))) :
  zam P o get m [] [] (if t then X get x else X get y) := by
 refine zam.of_pure fun m' h1 ph ρ w a hr hg => ⟨if t then a.eval ox else a.eval oy, ?_, ?_⟩
 ·have rc := zan hc (ph := ph) (ρ := ρ) (get := get) (a := a) fun k hk => hg k (by rw [ho]; simp [Op.operands, hk])
  rw [et] at rc
  simp only [RepV, RepC, RepD] at rc
  unfold execOp; rw [ho]
  simp only [rc, asBool]
  refine Runs.bind (a := t) (Runs.pure _) ?_
  cases t <;> exact Runs.pure _
 ·cases t
  ·exact zan hy fun k hk => hg k (by rw [ho]; simp [Op.operands, hk])
  ·exact zan hx fun k hk => hg k (by rw [ho]; simp [Op.operands, hk])
theorem zgi {o : Oper} {op : BinOp} {T U : TypeId} {x y : MX} {ox oy : Operand} (ho : o.op = .binOp op T ox oy U) (hx : chkX x ox = true) (hy : chkX y oy = true) {d : D}
  (H : ∀ (ph : PH) (ρ : RM) (a b : Value) (w : World), RepV ph ρ (X get x) a -> RepV ph ρ (X get y) b -> ¬ (a = .nilIface /\ b = .nilIface) /\ (∀ c d, ¬ (a = .agg c /\ b = .agg d)) /\ ∃ v, Runs P (binOp op T a b) w v w /\ RepD ph d v) :
  zam P o get m [] [] (.c (.d d)) := by
 refine zam.of_pure fun m' h1 ph ρ w a hr hg => ?_
 have r1 := zan hx (ph := ph) (ρ := ρ) (get := get) (a := a) fun k hk => hg k (by rw [ho]; simp [Op.operands, hk])
 have r2 := zan hy (ph := ph) (ρ := ρ) (get := get) (a := a) fun k hk => hg k (by rw [ho]; simp [Op.operands, hk])
 obtain ⟨g1, g2, v, hv, rv⟩ := H ph ρ _ _ w r1 r2
 refine ⟨v, ?_, by simpa only [RepV, RepC] using rv⟩
 unfold execOp; rw [ho]
 refine Runs.bind (a := v) ?_ (Runs.pure _)
 exact (znq op T ox oy _ _ g1 g2).bind hv
theorem zsk {o : Oper} {op : UnOp} {T : TypeId} {x : MX} {ox : Operand} (ho : o.op = .unOp op T ox) (hx : chkX x ox = true) {d : D}
  (H : ∀ (ph : PH) (ρ : RM) (a : Value) (w : World), RepV ph ρ (X get x) a -> ∃ v, Runs P (Op.unary op a) w v w /\ RepD ph d v) : zam P o get m [] [] (.c (.d d)) := by
 refine zam.of_pure fun m' h1 ph ρ w a hr hg => ?_
 have r1 := zan hx (ph := ph) (ρ := ρ) (get := get) (a := a) fun k hk => hg k (by rw [ho]; simp [Op.operands, hk])
 obtain ⟨v, hv, rv⟩ := H ph ρ _ w r1
 refine ⟨v, ?_, by simpa only [RepV, RepC] using rv⟩
 unfold execOp; rw [ho]
 exact hv.bind (Runs.pure _)
theorem Runs.convert_int {T U : TypeId} {d : TypeDesc} {k k' : IntKind} {j : Int} {w : World} (hT : P.underlying T = some d) (hU : P.underlying U = some (.int k)) :
  Runs P (convert T U (.int k' j)) w (.int k (k.wrap j)) w := by
 unfold convert
 refine (Runs.underlying hT).bind ((Runs.underlying hU).bind ?_)
 exact Runs.pure _
theorem zkP {ph : PH} {ρ : RM} {m : Hp} {w : World} (H : HRel ph ρ m w.heap) {B o : Nat} {cs : List D} (r : RepL ph cs ((hcells ph B).drop o)) {j : Nat} {x : D} (e : cs[j]? = some x) :
  ∃ v, w.cell? ⟨B, o + j, none⟩ = some v /\ v.one1 = true /\ RepD ph x v := by
 obtain ⟨v, h1, h2, h3⟩ := r.get e
 refine ⟨v, ?_, h2, h3⟩
 rw [List.getElem?_drop] at h1
 unfold hcells at h1
 cases hB : ph B with
 | none => rw [hB] at h1; simp at h1
 | some ob =>
  rw [hB] at h1
  cases ob with
  | cells c T fr =>
   rw [cell_of (H.pers B _ hB)]
   simpa using h1
  | _ => simp at h1
theorem zdX {α : Type} {l : List α} {n j : Nat} {v : α} (h : (l.take n)[j]? = some v) : l[j]? = some v := by
 rw [List.getElem?_take] at h
 split at h
 ·exact h
 ·cases h
theorem zfd {T : TypeId} {B o sz : Nat} {w : World} {vs : List Value} (hT : tyA P T = some (true, sz)) (hl : vs.length = sz) (h : ∀ j v, vs[j]? = some v -> w.cell? ⟨B, o + j, none⟩ = some v) :
  Runs P (loadVar T ⟨B, o, none⟩) w (.agg vs.toArray) w := by
 obtain ⟨d, i, h1, h2, h3, h4⟩ := zkE hT
 unfold loadVar
 refine (Runs.isAgg h1).bind ?_
 rw [h3, if_pos rfl]
 refine (Runs.sizeOf h2).bind ?_
 rw [h4, <- hl]
 exact (Runs.loadCells h).bind (Runs.pure _)
theorem zfe {T : TypeId} {B o sz : Nat} {w : World} {v : Value} (hT : tyA P T = some (false, sz)) (h : w.cell? ⟨B, o, none⟩ = some v) : Runs P (loadVar T ⟨B, o, none⟩) w v w := by
 obtain ⟨d, i, h1, h2, h3, h4⟩ := zkE hT
 unfold loadVar
 refine (Runs.isAgg h1).bind ?_
 rw [h3]
 exact Runs.load h
theorem zkQ {α : Type} (cs : List α) (off sz : Nat) (h : off + sz <= cs.length) : cut cs off sz = (cs.drop off).take sz := by
 unfold cut
 split
 ·rename_i hh; obtain ⟨h1, h2⟩ := hh; subst h1; subst h2; simp
 ·rfl
theorem zgS {α : Type} (cs : List α) (off sz : Nat) (h : off + sz <= cs.length) : (cut cs off sz).length = sz := by
 rw [zkQ cs off sz h]; simp; omega
theorem zsl {T : TypeId} {ag : Bool} {sz : Nat} {cs : List D} {off : Nat} {K : AV -> Prop} (hT : tyA P T = some (ag, sz)) (hK : ldD ag sz cs off K) :
  ∃ v, K v /\ ∀ {ph : PH} {ρ : RM} {m : Hp} {w : World} (H : HRel ph ρ m w.heap) {B o : Nat} (r : RepL ph cs ((hcells ph B).drop o)), ∃ vC, Runs P (loadVar T ⟨B, o + off, none⟩) w vC w /\ RepV ph ρ v vC := by
 unfold ldD at hK
 cases ag with
 | true =>
  obtain ⟨h1, h2⟩ := hK
  refine ⟨_, h2, fun {ph ρ m w} H {B o} r => ?_⟩
  have r' : RepL ph (cut cs off sz) (((hcells ph B).drop o).drop off) := by
   rw [zkQ cs off sz h1]; exact (r.drop off).takeDs sz
  have hlen := zgS cs off sz h1
  have hle := r'.length
  refine ⟨.agg ((((hcells ph B).drop o).drop off).take sz).toArray, zfd hT (by simp [hlen] at hle ⊢; omega) ?_, ?_⟩
  ·intro j v hj
   have hj' := zdX hj
   have hjl : j < (cut cs off sz).length := by
    rw [hlen]
    rcases Nat.lt_or_ge j sz with h | h
    ·exact h
    ·rw [List.getElem?_eq_none (by simp; omega)] at hj; cases hj
   obtain ⟨u, e1, e2, e3⟩ := zkP (w := w) H (B := B) (o := o + off) (cs := cut cs off sz) (by rw [<- List.drop_drop]; exact r') (j := j) (List.getElem?_eq_getElem hjl)
   obtain ⟨u', e1', e2', e3'⟩ := r'.get (List.getElem?_eq_getElem hjl)
   rw [hj'] at e1'
   cases e1'
   rw [e1]
   have := e1
   -- the same cell
   unfold hcells at hj'
   cases hB : ph B with
   | none => rw [hB] at hj'; simp at hj'
   | some ob =>
    rw [hB] at hj'
    cases ob with
    | cells c T' fr =>
     rw [cell_of (H.pers B _ hB)] at this
     simp only [List.getElem?_drop, Array.getElem?_toList] at hj'
     rw [show o + (off + j) = o + off + j from by omega] at hj'
     rw [hj'] at this; exact this.symm
    | _ => simp at hj'
  ·simp only [RepV]
   refine ⟨_, rfl, by simp [hlen] at hle ⊢; omega, zad.of_D ?_⟩
   have := r'.take
   rw [hlen] at this
   exact this
 | false =>
  simp only at hK
  split at hK
  ·rename_i c hc
   refine ⟨_, hK, fun {ph ρ m w} H {B o} r => ?_⟩
   obtain ⟨v, e1, e2, e3⟩ := zkP (w := w) H r hc
   exact ⟨v, zfe hT e1, by simpa only [RepV, RepC] using e3⟩
  ·exact hK.elim
theorem zn9 {T : TypeId} {ag : Bool} {sz : Nat} {cs : List AC} {off : Nat} {K : AV -> Prop} (hT : tyA P T = some (ag, sz)) (hK : ldC ag sz cs off K) :
  ∃ v, K v /\ ∀ {ph : PH} {ρ : RM} {w : World} {B o : Nat} {vs : List Value} {U : TypeId} {fr : Nat × Nat} (hB : w.heap[B]? = some (.cells vs.toArray U fr)) (r : zad ph ρ cs (vs.drop o)),
   ∃ vC, Runs P (loadVar T ⟨B, o + off, none⟩) w vC w /\ RepV ph ρ v vC := by
 unfold ldC at hK
 cases ag with
 | true =>
  obtain ⟨h1, h2⟩ := hK
  refine ⟨_, h2, fun {ph ρ w B o vs U fr} hB r => ?_⟩
  have r' : zad ph ρ (cut cs off sz) ((vs.drop o).drop off) := by
   rw [zkQ cs off sz h1]; exact (r.drop off).takeDs sz
  have hlen := zgS cs off sz h1
  have hle := r'.length
  refine ⟨.agg (((vs.drop o).drop off).take sz).toArray, zfd hT (by simp [hlen] at hle ⊢; omega) ?_, ?_⟩
  ·intro j v hj
   have hj' := zdX hj
   rw [cell_of hB]
   simp only [List.getElem?_drop] at hj'
   rw [show o + off + j = o + (off + j) from by omega]
   simpa using hj'
  ·simp only [RepV]
   refine ⟨_, rfl, by simp [hlen] at hle ⊢; omega, ?_⟩
   have := r'.take
   rw [hlen] at this
   exact this
 | false =>
  simp only at hK
  split at hK
  ·rename_i c hc
   refine ⟨_, hK, fun {ph ρ w B o vs U fr} hB r => ?_⟩
   obtain ⟨v, e1, e2, e3⟩ := r.get hc
   refine ⟨v, zfe hT ?_, by simpa only [RepV] using e3⟩
   rw [cell_of hB]
   simpa [List.getElem?_drop] using e1
  ·exact hK.elim
theorem zdR {T : TypeId} {ag : Bool} {sz : Nat} {cs : List AC} {off : Nat} {K : AV -> Prop} (hT : tyA P T = some (ag, sz)) (hK : ldC ag sz cs off K) :
  ∃ v, K v /\ ∀ {ph : PH} {ρ : RM} {w : World} {vs : List Value} (hl : vs.length = cs.length) (r : zad ph ρ cs vs), ∃ vC, Runs P (part T vs.toArray off) w vC w /\ RepV ph ρ v vC := by
 obtain ⟨d, i, h1, h2, h3, h4⟩ := zkE hT
 unfold ldC at hK
 cases ag with
 | true =>
  obtain ⟨g1, g2⟩ := hK
  refine ⟨_, g2, fun {ph ρ w vs} hl r => ?_⟩
  have r' : zad ph ρ (cut cs off sz) (vs.drop off) := by
   rw [zkQ cs off sz g1]; exact (r.drop off).takeDs sz
  have hlen := zgS cs off sz g1
  refine ⟨.agg ((vs.drop off).take sz).toArray, ?_, ?_⟩
  ·unfold part
   refine (Runs.isAgg h1).bind ?_
   rw [h3]
   refine (Runs.sizeOf h2).bind ?_
   rw [h4]
   have e : vs.toArray.extract off (off + sz) = ((vs.drop off).take sz).toArray := by
    apply Array.ext'
    simp [List.extract_eq_take_drop]
   rw [e]
   exact Runs.pure _
  ·simp only [RepV]
   refine ⟨_, rfl, by simp [hlen]; omega, ?_⟩
   have := r'.take
   rw [hlen] at this
   exact this
 | false =>
  simp only at hK
  split at hK
  ·rename_i c hc
   refine ⟨_, hK, fun {ph ρ w vs} hl r => ?_⟩
   obtain ⟨v, e1, e2, e3⟩ := r.get hc
   refine ⟨v, ?_, by simpa only [RepV] using e3⟩
   unfold part
   refine (Runs.isAgg h1).bind ?_
   rw [h3]
   simp only [Bool.false_eq_true, if_false]
   rw [show vs.toArray[off]? = some v from by simpa using e1]
   exact Runs.pure _
  ·exact hK.elim
end
end Go.Abs
namespace Go.Abs
section
variable {P : Program} {get : Nat -> AV} {m : Hp} {n : Nat}
theorem zt3 {o : Oper} {T : TypeId} {ag : Bool} {sz : Nat} {x : MX} {ox : Operand} (ho : o.op = .load T ox) (hT : tyA P T = some (ag, sz)) (hx : chkX x ox = true) {K : AV -> List Nat -> Prop}
  (hK : match X get x with
  | .c (.d (.rp cs off)) => ldD ag sz cs off fun v => K v []
  | .c (.ptr b off) => match m b with
   | .box cs => ldC ag sz cs off fun v => K v [b]
   | _ => False
  | .c (.ept s b i off) => match m b with
   | .arr s' es => s = s' /\ (match es[i]? with | some e => ldC ag sz e off fun v => K v [b] | none => False)
   | _ => False
  | _ => False) : ∃ v rd, zam P o get m rd [] v /\ K v rd := by
 have base : ∀ (rd : List Nat) (v : AV) (H : ∀ m' : Hp, (∀ b, b ∈ rd -> m' b = m b) -> ∀ (h : PH) (ρ : RM) (w : World) (p : Value), HRel h ρ m' w.heap -> RepV h ρ (X get x) p ->
   ∃ B off vC, p = .pointer (some ⟨B, off, none⟩) /\ Runs P (loadVar T ⟨B, off, none⟩) w vC w /\ RepV h ρ v vC), zam P o get m rd [] v := by
  intro rd v H
  refine zam.of_pure fun m' h1 ph ρ w a hr hg => ?_
  have r1 := zan hx (ph := ph) (ρ := ρ) (get := get) (a := a) fun k hk => hg k (by rw [ho]; simp [Op.operands, hk])
  obtain ⟨B, off, vC, e, hrun, rv⟩ := H m' h1 ph ρ w _ hr r1
  refine ⟨vC, ?_, rv⟩
  unfold execOp; rw [ho]
  refine Runs.bind (a := vC) ?_ (Runs.pure _)
  show Runs P (Instr.loadAt T (a.eval ox)) w vC w
  rw [e]
  exact (Runs.pure (⟨B, off, none⟩ : Addr)).bind hrun
 split at hK
 ·rename_i cs off ex
  obtain ⟨v, kv, H⟩ := zsl hT hK
  refine ⟨v, [], base [] v fun m' h1 ph ρ w p hr rp => ?_, kv⟩
  rw [ex] at rp
  simp only [RepV, RepC, RepD] at rp
  obtain ⟨B, o', e, rl⟩ := rp
  obtain ⟨vC, h2, h3⟩ := H (ρ := ρ) hr rl
  exact ⟨B, _, vC, e, h2, h3⟩
 ·rename_i b off ex
  split at hK
  ·rename_i cs eb
   obtain ⟨v, kv, H⟩ := zn9 hT hK
   refine ⟨v, [b], base [b] v fun m' h1 ph ρ w p hr rp => ?_, kv⟩
   rw [ex] at rp
   simp only [RepV, RepC] at rp
   obtain ⟨q, hq, e⟩ := rp
   have ho := hr.own b q hq
   rw [h1 b (by simp), eb] at ho
   obtain ⟨vs, U, g1, g2, g3⟩ := ho
   obtain ⟨vC, h2, h3⟩ := H (o := 0) g1 (by simpa using g3)
   exact ⟨q.1, off, vC, e, by simpa using h2, h3⟩
  ·exact hK.elim
 ·rename_i s b i off ex
  split at hK
  ·rename_i s' es eb
   obtain ⟨es', hK⟩ := hK
   subst es'
   split at hK
   ·rename_i e he
    obtain ⟨v, kv, H⟩ := zn9 hT hK
    refine ⟨v, [b], base [b] v fun m' h1 ph ρ w p hr rp => ?_, kv⟩
    rw [ex] at rp
    simp only [RepV, RepC] at rp
    obtain ⟨q, hq, e⟩ := rp
    have ho := hr.own b q hq
    rw [h1 b (by simp), eb] at ho
    rcases ho with ho | ⟨vs, U, g1, g2, g3, g5, g4⟩
    ·rw [ho.2] at he; simp at he
    ·have := g4.get he
     obtain ⟨vC, h2, h3⟩ := H (o := i * s) g1 this.2
     exact ⟨q.1, _, vC, e, h2, h3⟩
   ·exact hK.elim
  ·exact hK.elim
 ·exact hK.elim
theorem zu5 {o : Oper} {T : TypeId} {x : MX} {ox : Operand} (ho : o.op = .box T ox) (hx : chkX x ox = true) {ds : List D} (e : zec (X get x) = some ds) : zam P o get m [] [] (.c (.d (.rp ds 0))) := by
 refine zam.of_value fun m' h1 h2 ph ρ w a hr hg => ?_
 have r1 := zan hx (ph := ph) (ρ := ρ) (get := get) (a := a) fun k hk => hg k (by rw [ho]; simp [Op.operands, hk])
 obtain ⟨vs, e1, e2, e3⟩ := zhU r1 e
 obtain ⟨H, S⟩ := hr.pushP (.cells vs.toArray T)
 refine ⟨_, ρ, { w with heap := w.heap.push (.cells vs.toArray T) }, .pointer (some ⟨w.heap.size, 0, none⟩), ?_, S, H, Same.refl w, ?_⟩
 ·unfold execOp; rw [ho]
  refine Runs.bind (a := .pointer (some ⟨w.heap.size, 0, none⟩)) ?_ (Runs.pure _)
  show Runs P (Instr.box T (a.eval ox)) w _ _
  unfold Instr.box newVar newRow
  rw [e1]
  exact ((Runs.newObj _).bind (Runs.pure _)).bind (Runs.pure _)
 ·simp only [RepV, RepC, RepD]
  refine ⟨w.heap.size, 0, rfl, ?_⟩
  have : hcells (upd ph w.heap.size (some (.cells vs.toArray T))) w.heap.size = vs := by simp [hcells, zaq]
  rw [this]
  exact RepL.mono' S.hle e3
theorem zt4 {o : Oper} {T : TypeId} {x : MX} {ox : Operand} (ho : o.op = .box T ox) (hx : chkX x ox = true) {cs : List AC} (e : zbP (X get x) = some cs) (hn : m n = .non) :
  zam P o get m [] [(n, .box cs)] (.c (.ptr n 0)) := by
 refine zam.of_value fun m' h1 h2 ph ρ w a hr hg => ?_
 have r1 := zan hx (ph := ph) (ρ := ρ) (get := get) (a := a) fun k hk => hg k (by rw [ho]; simp [Op.operands, hk])
 obtain ⟨vs, e1, e2, e3⟩ := zdn r1 e
 have hn' : m' n = .non := (h2 (n, .box cs) (by simp)).trans hn
 obtain ⟨H, S⟩ := hr.pushO (.cells vs.toArray T) hn' vs.length (blk := .box cs) (by simp)
  ⟨vs, T, zbY _ _, e2, zad.mono (PH.le_refl ph) (zdZ ((hr.dom n).1 hn')) _ _ e3⟩
 refine ⟨_, _, { w with heap := w.heap.push (.cells vs.toArray T) }, .pointer (some ⟨w.heap.size, 0, none⟩), ?_, S, H, Same.refl w, ?_⟩
 ·unfold execOp; rw [ho]
  refine Runs.bind (a := .pointer (some ⟨w.heap.size, 0, none⟩)) ?_ (Runs.pure _)
  show Runs P (Instr.box T (a.eval ox)) w _ _
  unfold Instr.box newVar newRow
  rw [e1]
  exact ((Runs.newObj _).bind (Runs.pure _)).bind (Runs.pure _)
 ·simp only [RepV, RepC]
  exact ⟨_, zaq _ _ _, rfl⟩
theorem zsz {o : Oper} {T : TypeId} {i : TypeInfo} {z : List D} (ho : o.op = .alloc T) (hi : P.info? T = some i) (hz : i.zero.isSome = true) (hc : zbV z (zeroOf i) = true) (hn : m n = .non) :
  zam P o get m [] [(n, .box (z.map .d))] (.c (.ptr n 0)) := by
 refine zam.of_value fun m' h1 h2 ph ρ w a hr hg => ?_
 obtain ⟨zv, ez⟩ := Option.isSome_iff_exists.1 hz
 have e0 : zeroOf i = zv.cells.toList := by simp [zeroOf, ez]
 obtain ⟨c1, c2⟩ := zcK hc
 have hn' : m' n = .non := (h2 (n, .box (z.map .d)) (by simp)).trans hn
 obtain ⟨H, S⟩ := hr.pushO (.cells zv.cells T) hn' zv.cells.size (blk := .box (z.map .d)) (by simp)
  ⟨zv.cells.toList, T, by simp, by rw [<- e0]; simpa using c1, zad.of_D (by rw [<- e0]; exact c2 _)⟩
 refine ⟨_, _, { w with heap := w.heap.push (.cells zv.cells T) }, .pointer (some ⟨w.heap.size, 0, none⟩), ?_, S, H, Same.refl w, ?_⟩
 ·unfold execOp; rw [ho]
  refine Runs.bind (a := .pointer (some ⟨w.heap.size, 0, none⟩)) ?_ (Runs.pure _)
  show Runs P (Instr.alloc T true (.tuple #[])) w _ _
  unfold Instr.alloc newVar newRow
  refine (Runs.zeroValue hi ez).bind ?_
  exact ((Runs.newObj _).bind (Runs.pure _)).bind (Runs.pure _)
 ·simp only [RepV, RepC]
  exact ⟨_, zaq _ _ _, rfl⟩
theorem zcS {α : Type} : ∀ (vs cs : List α) (o j : Nat), o + vs.length <= cs.length -> (splice cs o vs)[j]? = if o <= j /\ j < o + vs.length then vs[j - o]? else cs[j]?
 | [], cs, o, j, h => by simp only [splice, List.length_nil]; rw [if_neg (by omega)]
 | v :: vs, cs, o, j, h => by
  simp only [List.length_cons] at h
  simp only [splice, List.length_cons]
  rw [zcS vs (cs.set o v) (o + 1) j (by simp; omega)]
  by_cases hj : j = o
  ·subst hj
   rw [if_neg (by omega), if_pos (by omega)]
   simp [List.getElem?_set]
   omega
  ·by_cases h1 : o + 1 <= j /\ j < o + 1 + vs.length
   ·rw [if_pos h1, if_pos (by omega)]
    rw [show j - o = (j - (o + 1)) + 1 from by omega, List.getElem?_cons_succ]
   ·rw [if_neg h1, if_neg (by omega), List.getElem?_set_ne (Ne.symm hj)]
theorem zid {α : Type} (cs vs : List α) (o : Nat) (h : o + vs.length <= cs.length) : splice cs o vs = cs.take o ++ vs ++ cs.drop (o + vs.length) := by
 apply List.ext_getElem?
 intro j
 rw [zcS vs cs o j h]
 by_cases h1 : j < o
 ·rw [if_neg (by omega), List.append_assoc, List.getElem?_append_left (by simp; omega), List.getElem?_take, if_pos h1]
 ·by_cases h2 : j < o + vs.length
  ·rw [if_pos ⟨by omega, h2⟩, List.append_assoc, List.getElem?_append_right (by simp; omega), List.getElem?_append_left (by simp; omega)]
   congr 1
   simp; omega
  ·rw [if_neg (by omega), List.getElem?_append_right (by simp; omega), List.getElem?_drop]
   congr 1
   simp; omega
theorem put_eq {α : Type} (cs l : List α) (o : Nat) (h : o + l.length <= cs.length) : put cs o l = splice cs o l := by
 unfold put
 split
 ·rename_i hh
  obtain ⟨h1, h2⟩ := hh
  subst h1
  rw [zid cs l 0 h]
  simp [h2]
 ·rfl
theorem zgW {α : Type} (cs l : List α) (o : Nat) (h : o + l.length <= cs.length) : (put cs o l).length = cs.length := by
 rw [put_eq cs l o h, zbg]
theorem zad.splice {ph : PH} {ρ : RM} : ∀ {l : List AC} {vs : List Value} {cs : List AC} {us : List Value} {o : Nat}, zad ph ρ cs us -> zad ph ρ l vs -> vs.length = l.length ->
  zad ph ρ (splice cs o l) (splice us o vs)
 | [], [], _, _, _, r, _, _ => by simpa [Abs.splice] using r
 | [], _ :: _, _, _, _, _, _, e => by simp at e
 | _ :: _, [], _, _, _, _, r, _ => by simp [zad] at r
 | c :: l, v :: vs, cs, us, o, r, r', e => by
  simp only [zad] at r'
  simp only [Abs.splice]
  exact zad.splice (r.set r'.1.1 r'.1.2) r'.2 (by simpa using e)
theorem zq7 {T : TypeId} {i : TypeInfo} {B o : Nat} {us : List Value} {U : TypeId} {w : World} {v : Value} {vs : List Value} (hT : P.info? T = some i) (hv : v.cells = vs.toArray) (hl : vs.length = i.size)
  (hB : w.heap[B]? = some (.cells us.toArray U (0, 0))) (hle : o + vs.length <= us.length) (h1 : ∀ x, x ∈ vs -> x.one1 = true) (h0 : vs ≠ []) :
  Runs P (storeVar T ⟨B, o, none⟩ v) w () (World.cellsAt w B (Abs.splice us o vs) U) := by
 unfold storeVar
 refine (Runs.sizeOf hT).bind ?_
 rw [hv]
 simp only [List.size_toArray]
 rw [if_neg (by simp [hl])]
 have := Runs.storeCells (P := P) o vs 0 us w hB (by simpa using hle) h1 h0
 simpa using this
theorem zsA {o : Oper} {T : TypeId} {i : TypeInfo} {sz : Nat} {x y : MX} {ox oy : Operand} (ho : o.op = .store T ox oy) (hT : P.info? T = some i) (hs : i.size = sz) (h0 : 0 < sz) (hx : chkX x ox = true) (hy : chkX y oy = true)
  {K : List (Nat × Blk) -> Prop} (hK : match X get x, zbP (X get y) with
  | .c (.ptr b off), some l => match m b with
   | .box cs => l.length = sz /\ off + sz <= cs.length /\ K [(b, .box (put cs off l))]
   | _ => False
  | .c (.ept s b i off), some l => match m b with
   | .arr s' es => s = s' /\ l.length = sz /\ off + sz <= s /\ (match es[i]? with | some e => K [(b, .arr s (es.set i (put e off l)))] | none => False)
   | _ => False
  | _, _ => False) : ∃ wr, zam P o get m [] wr (.c (.d .any)) /\ K wr := by
 have base : ∀ (b : Nat) (blk : Blk) (hl : blk ≠ .non) (H : ∀ m' : Hp, m' b = m b -> ∀ (h : PH) (ρ : RM) (w : World) (p v : Value), HRel h ρ m' w.heap -> RepV h ρ (X get x) p -> RepV h ρ (X get y) v ->
   ∃ q off us U vs, ρ b = some q /\ Real (m' b) q /\ p = .pointer (some ⟨q.1, off, none⟩) /\ w.heap[q.1]? = some (.cells us.toArray U (0, 0)) /\ v.cells = vs.toArray /\ vs.length = sz /\ off + sz <= us.length /\ (∀ x, x ∈ vs -> x.one1 = true) /\
    zaC h ρ q blk (w.heap.setIfInBounds q.1 (.cells (Abs.splice us off vs).toArray U (0, 0)))), zam P o get m [] [(b, blk)] (.c (.d .any)) := by
  intro b blk hl H
  refine zam.of_skip fun m' h1 h2 ph ρ w a hr hg => ?_
  have r1 := zan hx (ph := ph) (ρ := ρ) (get := get) (a := a) fun k hk => hg k (by rw [ho]; simp [Op.operands, hk])
  have r2 := zan hy (ph := ph) (ρ := ρ) (get := get) (a := a) fun k hk => hg k (by rw [ho]; simp [Op.operands, hk])
  obtain ⟨q, off, us, U, vs, e1, e2, e3, e4, e5, e6, e7, e8, e9⟩ := H m' (h2 (b, blk) (by simp)) ph ρ w _ _ hr r1 r2
  obtain ⟨K, S⟩ := hr.set (.cells (Abs.splice us off vs).toArray U (0, 0)) e1 e2 hl e9
  refine ⟨ph, ρ, World.cellsAt w q.1 (Abs.splice us off vs) U, ?_, S, K, Same.refl w⟩
  unfold execOp; rw [ho]
  refine Runs.bind (a := ()) ?_ (Runs.pure _)
  show Runs P (Instr.storeAt T (a.eval ox) (a.eval oy)) w () _
  rw [e3]
  refine (Runs.pure (⟨q.1, off, none⟩ : Addr)).bind ?_
  exact zq7 hT e5 (by rw [e6, hs]) e4 (by omega) e8 (by intro h; rw [h] at e6; simp at e6; omega)
 split at hK
 ·rename_i b off l ex ey
  split at hK
  ·rename_i cs eb
   obtain ⟨k1, k2, kk⟩ := hK
   refine ⟨_, base b (.box (put cs off l)) (by simp) fun m' h1 ph ρ w p v hr rp rv => ?_, kk⟩
   rw [ex] at rp
   simp only [RepV, RepC] at rp
   obtain ⟨q, hq, e⟩ := rp
   obtain ⟨vs, c1, c2, c3⟩ := zdn rv ey
   have how := hr.own b q hq
   rw [h1, eb] at how
   have hreal : Real (m' b) q := by rw [h1, eb]; trivial
   have hlt := hr.real_lt hq hreal
   obtain ⟨us, U, g1, g2, g3⟩ := how
   refine ⟨q, off, us, U, vs, hq, hreal, e, g1, c1, by omega, by omega, zad.one c3 c2, _, U, zdE _ _ hlt, ?_, ?_⟩
   ·rw [zbg, zgW _ _ _ (by omega)]; exact g2
   ·rw [put_eq _ _ _ (by omega)]; exact zad.splice g3 c3 c2
  ·exact hK.elim
 ·rename_i s b i off l ex ey
  split at hK
  ·rename_i s' es eb
   obtain ⟨k0, k1, k2, hK⟩ := hK
   subst k0
   split at hK
   ·rename_i e he
    refine ⟨_, base b (.arr s (es.set i (put e off l))) (by simp) fun m' h1 ph ρ w p v hr rp rv => ?_, hK⟩
    rw [ex] at rp
    simp only [RepV, RepC] at rp
    obtain ⟨q, hq, e'⟩ := rp
    obtain ⟨vs, c1, c2, c3⟩ := zdn rv ey
    have how := hr.own b q hq
    rw [h1, eb] at how
    rcases how with how | ⟨us, U, g1, g2, g3, g5, g4⟩
    ·rw [how.2] at he; simp at he
    have hil : i < es.length := by
     rcases Nat.lt_or_ge i es.length with h | h
     ·exact h
     ·rw [List.getElem?_eq_none h] at he; cases he
    have hreal : Real (m' b) q := by rw [h1, eb]; show 0 < q.2; omega
    have hlt := hr.real_lt hq hreal
    have hge := g4.get he
    have htot : (i + 1) * s <= q.2 * s := Nat.mul_le_mul_right s (by omega)
    have e1 : (i + 1) * s = i * s + s := by rw [Nat.add_mul, Nat.one_mul]
    refine ⟨q, i * s + off, us, U, vs, hq, hreal, e', g1, c1, by omega, by omega, zad.one c3 c2, .inr ⟨_, U, zdE _ _ hlt, ?_, ?_, ?_, ?_⟩⟩
    ·rw [zbg]; exact g2
    ·simpa using g3
    ·simpa using g5
    ·-- the row of elements with one turned
     have key : ∀ (es : List (List AC)) (us : List Value) (i : Nat) (e : List AC), zai ph ρ s es us -> es[i]? = some e -> zai ph ρ s (es.set i (put e off l)) (Abs.splice us (i * s + off) vs) := by
      intro es
      induction es with
      | nil => intro us i e _ h; simp at h
      | cons f es ih =>
       intro us i e r h
       simp only [zai] at r
       cases i with
       | zero =>
        simp at h; subst h
        simp only [List.set_cons_zero, zai]
        have hle := r.2.1.length
        have hpe : off + l.length <= f.length := by omega
        refine ⟨by rw [zgW _ _ _ hpe]; exact r.1, ?_, ?_⟩
        ·rw [put_eq _ _ _ hpe]
         have := zad.splice (o := off) r.2.1 c3 c2
         simpa using this
        ·have : (Abs.splice us (0 * s + off) vs).drop s = us.drop s := by
          apply List.ext_getElem?
          intro j
          rw [List.getElem?_drop, List.getElem?_drop, zcS _ _ _ _ (by omega), if_neg (by omega)]
         rw [this]; exact r.2.2
       | succ i =>
        simp only [List.getElem?_cons_succ] at h
        simp only [List.set_cons_succ, zai]
        have hle := r.2.1.length
        have htot := r.2.2.total
        simp only [List.length_drop] at htot
        have hil : i < es.length := by
         rcases Nat.lt_or_ge i es.length with h' | h'
         ·exact h'
         ·rw [List.getElem?_eq_none h'] at h; cases h
        have hm : (i + 1) * s <= es.length * s := Nat.mul_le_mul_right s (by omega)
        have e1 : (i + 1) * s = i * s + s := by rw [Nat.add_mul, Nat.one_mul]
        have hin : (i + 1) * s + off + vs.length <= us.length := by omega
        refine ⟨r.1, ?_, ?_⟩
        ·have h2 := r.2.1.take
         have : (Abs.splice us ((i + 1) * s + off) vs).take f.length = us.take f.length := by
          apply List.ext_getElem?
          intro j
          rw [List.getElem?_take, List.getElem?_take]
          by_cases hj : j < f.length
          ·rw [if_pos hj, if_pos hj, zcS _ _ _ _ hin, if_neg (by omega)]
          ·rw [if_neg hj, if_neg hj]
         rw [<- this] at h2
         have h3 := h2.more ((Abs.splice us ((i + 1) * s + off) vs).drop f.length)
         rwa [List.take_append_drop] at h3
        ·have : (Abs.splice us ((i + 1) * s + off) vs).drop s = Abs.splice (us.drop s) (i * s + off) vs := by
          apply List.ext_getElem?
          intro j
          rw [List.getElem?_drop, zcS _ _ _ _ hin, zcS _ _ _ _ (by simp; omega), List.getElem?_drop]
          by_cases hj : i * s + off <= j /\ j < i * s + off + vs.length
          ·rw [if_pos (by omega), if_pos hj]; congr 1; omega
          ·rw [if_neg (by omega), if_neg hj]
         rw [this]
         exact ih _ _ _ r.2.2 h
     exact key es us i e g4 he
   ·exact hK.elim
  ·exact hK.elim
 ·exact hK.elim
end
end Go.Abs
