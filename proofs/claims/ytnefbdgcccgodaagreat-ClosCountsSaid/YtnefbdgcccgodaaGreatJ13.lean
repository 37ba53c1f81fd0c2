/- Texts of ours, joined and written short by a program of ours. -/
import Derived.Test.YtnefbdgcccgodaaGreatCoeD
import Derived.Test.YtnefbdgcccgodaaGreatJ11
set_option linter.unusedVariables false
set_option linter.unusedSimpArgs false
namespace Go.Gr
open Go.Abs Go.Proofs
theorem zgf {t : Typ} (o : DV.ok (.agg t.enc)) : t.names.length <= zak /\ t.kids.length <= zak := by
 rw [Typ.enc_eq] at o
 simp only [DV.ok, D.okL, D.ok, zi8, List.length_map] at o
 exact ⟨o.2.2.1.1, o.2.2.2.1.1⟩
@[simp] theorem Typ.enc_g1 (t : Typ) (h : 1 < t.enc.length) : t.enc[1] = .str t.name := by have := t.enc_1; rw [List.getElem?_eq_getElem h] at this; exact Option.some.inj this
mutual
theorem zgM : ∀ (t : Typ) (m : Int), 1 <= za5 t m /\ za5 t m <= max 1 m
 | .mk _ _ _ l, m => by have := zfy l m 1 (by omega); rw [za5]; omega
theorem zfy : ∀ (l : List Typ) (m n : Int), 1 <= n -> n <= zbb l m n /\ zbb l m n <= max n m
 | [], m, n, h => by rw [zbb]; omega
 | t :: l, m, n, h => by
  rw [zbb]
  split
  ·have h1 := zgM t (m - n)
   have h2 := zfy l m (n + za5 t (m - n)) (by omega)
   omega
  ·omega
end
theorem zo5 {l : List Typ} {m n : Int} (h : ¬ n < m) : zbb l m n = n := by
 cases l with
 | nil => rw [zbb]
 | cons d l => rw [zbb, if_neg h]
theorem ztD (t : Typ) (ih : ∀ e, e ∈ t.kids -> ∀ m : Int, 1 <= m -> m <= 1000 -> PCall Pg F.g03_many [.agg e.enc, .one (.int .i64 m)] (.one (.int .i64 (za5 e m)))) (m : Int) (h1 : 1 <= m) (h2 : m <= 1000) :
  PCall Pg F.g03_many [.agg t.enc, .one (.int .i64 m)] (.one (.int .i64 (za5 t m))) := by
 refine zp6 (by simp) fun o c hN hp => ?_
 have hf := zgf o.1
 unfold zak at hf
 have e : za5 t m = zbb t.kids m 1 := by cases t; rw [za5]; try rfl
 rw [e]
 unfold ziU
 simp
 refine W.loop Pg_mixed hp (fun x : Nat × Int => x.1 <= t.kids.length /\ (1 <= x.2 /\ x.2 <= 1000) /\ zbb (t.kids.drop x.1) m x.2 = zbb t.kids m 1) (fun x => [(6, .c (.d (.int .i64 x.1))), (5, .c (.d (.int .i64 x.2))), (2, .c (.d (.rp t.enc 0))), (1, .c (.d (.int .i64 m)))]) (fun _ => []) (fun x => t.kids.length - x.1) (0, 1) [] ⟨by simp, by simp, by simp⟩ (by simp) fun ⟨j, n⟩ ⟨hx1, hx3, hx2⟩ => ?_
 unfold zg4
 simp only at hx1 hx2 hx3
 simp
 refine gd.mk (fun h => ?_) (fun h => ?_)
 ·have hj : j < t.kids.length := by simpa using h
  rw [List.drop_eq_getElem_cons hj] at hx2
  refine gd.mk (fun h => ?_) (fun h => ?_)
  ·simp at h
   rw [zbb, if_pos h] at hx2
   have hw : IntKind.i64.wrap (m - n) = m - n := wrap_i64 (by omega) (by omega)
   simp [List.getElem?_eq_getElem hj, hw]
   refine zac.mk (ih _ (List.getElem_mem hj) (m - n) (by omega) (by omega)) ?_
   have hle := zgM t.kids[j] (m - n)
   simp
   refine Abs.Next.mk (j + 1, n + za5 t.kids[j] (m - n)) [] ⟨by simp; omega, by simp only; omega, hx2⟩ (by simp; omega) ?_
   simp
   exact ⟨wrap_i64 (by omega) (by omega), wrap_i64 (by omega) (by omega)⟩
  ·simp at h
   rw [zo5 (by omega)] at hx2
   simp [hx2]
 ·have hj : j = t.kids.length := by simp at h; omega
  subst hj
  rw [List.drop_length, zbb] at hx2
  simp [hx2]
mutual
theorem zpL : ∀ (t : Typ) (m : Int), 1 <= m -> m <= 1000 -> PCall Pg F.g03_many [.agg t.enc, .one (.int .i64 m)] (.one (.int .i64 (za5 t m)))
 | .mk k n s l, m, h1, h2 => ztD (.mk k n s l) (fun e h => znX l e h) m h1 h2
theorem znX : ∀ (l : List Typ) (e : Typ), e ∈ l -> ∀ m : Int, 1 <= m -> m <= 1000 -> PCall Pg F.g03_many [.agg e.enc, .one (.int .i64 m)] (.one (.int .i64 (za5 e m)))
 | [], e, h => by cases h
 | d :: l, e, h => by
  cases h with
  | head => exact zpL d
  | tail _ h => exact znX l e h
end
theorem zlw (t : Typ) : PCall Pg F.g03_Size [.agg t.enc] (.one (.int .i64 (za5 t 201))) := by
 refine zp7 (by simp) fun o c hN hp => ?_
 unfold ziV
 simp
 refine zac.mk (zpL t 201 (by omega) (by omega)) ?_
 simp
theorem znY (f : Typ -> Int) (B : Int) : ∀ (l : List Typ) (a : Int), 0 <= a -> a <= B -> (∀ x, x ∈ l -> f x <= B) -> 0 <= l.foldl (fun h k => if h < f k then f k else h) a /\ l.foldl (fun h k => if h < f k then f k else h) a <= B
 | [], a, h0, h, _ => ⟨h0, h⟩
 | x :: l, a, h0, h, hl => by
  have hx := hl x (by simp)
  rw [List.foldl_cons]
  split
  ·exact znY f B l _ (by omega) hx fun y hy => hl y (by simp [hy])
  ·exact znY f B l _ h0 h fun y hy => hl y (by simp [hy])
theorem znZ : ∀ (n : Nat) (t : Typ), 1 <= za7 n t /\ za7 n t <= max 1 n
 | 0, t => by rw [za7]; omega
 | 1, t => by rw [za7]; omega
 | n + 2, t => by
  rw [za7]
  have := znY (za7 (n + 1)) (n + 1) t.kids 0 (by omega) (by omega) fun x _ => by have := znZ (n + 1) x; omega
  omega
theorem zpM : ∀ (n : Nat) (t : Typ), n <= 100 -> PCall Pg F.g03_high [.agg t.enc, .one (.int .i64 n)] (.one (.int .i64 (za7 n t)))
 | 0, t, hn => by
  refine zgA (by simp) fun o c hN hp => ?_
  unfold zd2
  simp [za7]
 | 1, t, hn => by
  refine zgA (by simp) fun o c hN hp => ?_
  unfold zd2
  simp [za7]
 | n + 2, t, hn => by
  refine zgA (by simp) fun o c hN hp => ?_
  have hf := zgf o.1
  unfold zak at hf
  have e : za7 (n + 2) t = t.kids.foldl (fun h k => if h < za7 (n + 1) k then za7 (n + 1) k else h) 0 + 1 := by rw [za7]
  rw [e]
  obtain ⟨R, hR⟩ : ∃ R, t.kids.foldl (fun h k => if h < za7 (n + 1) k then za7 (n + 1) k else h) 0 = R := ⟨_, rfl⟩
  rw [hR]
  unfold zd2
  have hne : ¬ (((n + 2 : Nat) : Int) <= 1) := by omega
  have hne' : ¬ ((n : Int) + 2 <= 1) := by omega
  have hw : IntKind.i64.wrap ((n : Int) + 2 - 1) = ((n + 1 : Nat) : Int) := by rw [wrap_i64 (by omega) (by omega)]; omega
  simp [hne, hne']
  refine W.loop Pg_mixed hp (fun x : Nat × Int => x.1 <= t.kids.length /\ (0 <= x.2 /\ x.2 <= n + 1) /\ (t.kids.drop x.1).foldl (fun h k => if h < za7 (n + 1) k then za7 (n + 1) k else h) x.2 = R) (fun x => [(6, .c (.d (.int .i64 x.1))), (5, .c (.d (.int .i64 x.2))), (1, .c (.d (.int .i64 (n + 2 : Nat)))), (2, .c (.d (.rp t.enc 0)))]) (fun _ => []) (fun x => t.kids.length - x.1) (0, 0) [] ⟨by simp, ⟨by simp, by simp only; omega⟩, by simpa using hR⟩ (by simp) fun ⟨j, r⟩ ⟨hx1, hx3, hx2⟩ => ?_
  unfold zg6
  simp only at hx1 hx2 hx3
  simp
  refine gd.mk (fun h => ?_) (fun h => ?_)
  ·have hj : j < t.kids.length := by simpa using h
   rw [List.drop_eq_getElem_cons hj, List.foldl_cons] at hx2
   simp [List.getElem?_eq_getElem hj, hw]
   refine zac.mk (zpM (n + 1) t.kids[j] (by omega)) ?_
   have hle := znZ (n + 1) t.kids[j]
   generalize za7 (n + 1) t.kids[j] = q at *
   by_cases hq : r < q
   ·rw [if_pos hq] at hx2
    simp [hq]
    refine Abs.Next.mk (j + 1, q) [] ⟨by simp; omega, by simp only; omega, hx2⟩ (by simp; omega) ?_
    simp
    exact wrap_i64 (by omega) (by omega)
   ·rw [if_neg hq] at hx2
    simp [hq]
    refine Abs.Next.mk (j + 1, r) [] ⟨by simp; omega, by simp only; omega, hx2⟩ (by simp; omega) ?_
    simp
    exact wrap_i64 (by omega) (by omega)
  ·have hj : j = t.kids.length := by simp at h; omega
   subst hj
   rw [List.drop_length, List.foldl_nil] at hx2
   subst hx2
   exact wrap_i64 (by omega) (by omega)
theorem zhX (t : Typ) : PCall Pg F.g03_Height [.agg t.enc] (.one (.int .i64 (za7 17 t))) := by
 refine zm9 (by simp) fun o c hN hp => ?_
 unfold zg5
 simp
 refine zac.mk (zpM 17 t (by omega)) ?_
 simp
theorem zkM (t : Typ) : PCall Pg F.g03_Tag [.agg t.enc] (.one (.int .i64 (za6 t))) := by
 refine zrx (by simp) fun o c hN hp => ?_
 unfold zj8 za6
 by_cases h1 : t.kind = 1
 ·simp [h1]
  exact wrap_i64 (by omega) (by omega)
 by_cases h2 : t.kind = 2
 ·simp [h2]
  exact wrap_i64 (by omega) (by omega)
 by_cases h3 : t.kind = 3
 ·simp [h3]
  exact wrap_i64 (by omega) (by omega)
 by_cases h4 : t.kind = 4
 ·simp [h4]
  exact wrap_i64 (by omega) (by omega)
 by_cases h5 : t.kind = 5
 ·simp [h5]
  exact wrap_i64 (by omega) (by omega)
 by_cases h6 : t.kind = 6
 ·simp [h6]
  exact wrap_i64 (by omega) (by omega)
 rw [if_pos (by omega)]
 simp [h1, h2, h3, h4, h5, h6]
theorem zmq : ∀ (a b : List Typ), zcF a b = eqF za0 a b
 | [], [] => rfl
 | [], _ :: _ => rfl
 | _ :: _, [] => rfl
 | x :: a, y :: b => by rw [zcF, eqF, zmq a b]
theorem ztE (a b : Typ) : za0 a b = (decide (a.kind = b.kind) && (decide (a.name = b.name) && (decide (a.names = b.names) && eqF za0 a.kids b.kids))) := by
 cases a; rw [za0, zmq]; try rfl
theorem zlx {α : Type} {q : α -> α -> Bool} : ∀ {a b : List α}, eqF q a b = true -> a.length = b.length
 | [], [], _ => rfl
 | [], _ :: _, h => by cases h
 | _ :: _, [], h => by cases h
 | x :: a, y :: b, h => by
  rw [eqF, Bool.and_eq_true] at h
  simp [zlx h.2]
theorem ztF {α : Type} {a b : List α} {j : Nat} (h1 : j < a.length) (h2 : j < b.length) (h : a.take j = b.take j) (e : a[j] = b[j]) : a.take (j + 1) = b.take (j + 1) := by
 rw [List.take_succ_eq_append_getElem h1, List.take_succ_eq_append_getElem h2, h, e]
set_option maxRecDepth 20000 in
theorem ztG (a b : Typ) (ih : ∀ x, x ∈ a.kids -> ∀ y, PCall Pg F.g03_Same [.agg x.enc, .agg y.enc] (.one (.bool (za0 x y)))) : PCall Pg F.g03_Same [.agg a.enc, .agg b.enc] (.one (.bool (za0 a b))) := by
 have e := ztE a b
 refine zp8 (by simp) fun o c hN hp => ?_
 have hf := zgf o.1
 unfold zak at hf
 generalize za0 a b = R at *
 have k2 : ∀ {Q : Exit -> St -> Prop} {S : St} {g} {ms : List Nat} (hl : a.kids.length = b.kids.length) (h0 : Match ms S [(6, .c (.d (.int .i64 0))), (3, .c (.d (.rp b.enc 0))), (2, .c (.d (.rp a.enc 0)))] []),
   (eqF za0 a.kids b.kids = false -> ∀ T M n, Abs.look T 4 = .c (.d (.bool false)) -> Q .ret ⟨T, M, n⟩) -> (eqF za0 a.kids b.kids = true -> ∀ T M n, Q (.exit 2) ⟨T, M, n⟩) -> lw_ Pg c zeo Q g S := by
  intro Q S g ms hl h0 hn hy
  refine W.loop Pg_mixed hp (fun j : Nat => j <= a.kids.length /\ eqF za0 (a.kids.drop j) (b.kids.drop j) = eqF za0 a.kids b.kids) (fun j => [(6, .c (.d (.int .i64 j))), (3, .c (.d (.rp b.enc 0))), (2, .c (.d (.rp a.enc 0)))]) (fun _ => []) (fun j => a.kids.length - j) 0 ms ⟨by simp, by simp⟩ h0 fun j ⟨h1, h2⟩ => ?_
  unfold zeo
  simp
  refine gd.mk (fun h => ?_) (fun h => ?_)
  ·have hj : j < a.kids.length := by simpa using h
   have hj2 : j < b.kids.length := by omega
   rw [List.drop_eq_getElem_cons hj, List.drop_eq_getElem_cons hj2, eqF] at h2
   simp [List.getElem?_eq_getElem hj, List.getElem?_eq_getElem hj2]
   refine zac.mk (ih _ (List.getElem_mem hj) _) ?_
   generalize za0 a.kids[j] b.kids[j] = q at *
   cases q with
   | true =>
    simp at h2
    simp
    refine ⟨by decide, ?_⟩
    refine Abs.Next.mk (j + 1) [] ⟨by omega, h2⟩ (by omega) ?_
    simp
    exact wrap_i64 (by omega) (by omega)
   | false =>
    simp at h2
    simp
    exact ⟨by decide, hn h2 _ _ _ (by simp)⟩
  ·have hj : j = a.kids.length := by simp at h; omega
   subst hj
   rw [List.drop_length, hl, List.drop_length] at h2
   exact hy h2.symm _ _ _
 have k1 : ∀ {Q : Exit -> St -> Prop} {S : St} {g} {ms : List Nat} (hl : a.names.length = b.names.length) (h0 : Match ms S [(5, .c (.d (.int .i64 0))), (3, .c (.d (.rp b.enc 0))), (2, .c (.d (.rp a.enc 0)))] []),
   (a.names ≠ b.names -> ∀ T M n, Abs.look T 4 = .c (.d (.bool false)) -> Q .ret ⟨T, M, n⟩) -> (a.names = b.names -> ∀ T M n, Abs.look T 2 = .c (.d (.rp a.enc 0)) -> Abs.look T 3 = .c (.d (.rp b.enc 0)) -> Q (.exit 0) ⟨T, M, n⟩) -> lw_ Pg c zen Q g S := by
  intro Q S g ms hl h0 hn hy
  refine W.loop Pg_mixed hp (fun j : Nat => j <= a.names.length /\ a.names.take j = b.names.take j) (fun j => [(5, .c (.d (.int .i64 j))), (3, .c (.d (.rp b.enc 0))), (2, .c (.d (.rp a.enc 0)))]) (fun _ => []) (fun j => a.names.length - j) 0 ms ⟨by simp, by simp⟩ h0 fun j ⟨h1, h2⟩ => ?_
  unfold zen
  simp
  refine gd.mk (fun h => ?_) (fun h => ?_)
  ·have hj : j < a.names.length := by simpa using h
   have hj2 : j < b.names.length := by omega
   simp [List.getElem?_eq_getElem hj, List.getElem?_eq_getElem hj2]
   by_cases q : a.names[j] = b.names[j]
   ·simp [q]
    refine ⟨by decide, ?_⟩
    refine Abs.Next.mk (j + 1) [] ⟨by omega, ztF hj hj2 h2 q⟩ (by omega) ?_
    simp
    exact wrap_i64 (by omega) (by omega)
   ·simp [q]
    exact ⟨by decide, hn (fun z => q (by simp [z])) _ _ _ (by simp)⟩
  ·have hj : j = a.names.length := by simp at h; omega
   subst hj
   rw [List.take_length, hl, List.take_length] at h2
   exact hy h2 _ _ _ (by simp) (by simp)
 unfold ziW
 by_cases q1 : a.kind = b.kind
 rotate_left
 ·simp [q1] at e
  simp [q1, e]
 by_cases q2 : a.name = b.name
 rotate_left
 ·simp [q2] at e
  simp [q1, q2, e]
 by_cases q3 : a.names.length = b.names.length
 rotate_left
 ·have : ¬ a.names = b.names := fun z => q3 (by rw [z])
  have q3' : ¬ (a.names.length : Int) = b.names.length := by omega
  simp [this] at e
  simp [q1, q2, q3, q3', e]
 by_cases q4 : a.kids.length = b.kids.length
 rotate_left
 ·have : eqF za0 a.kids b.kids = false := by
   cases h : eqF za0 a.kids b.kids with
   | false => rfl
   | true => exact absurd (zlx h) q4
  have q4' : ¬ (a.kids.length : Int) = b.kids.length := by omega
  simp [this] at e
  simp [q1, q2, q3, q4, q4', e]
 simp [q1, q2, q3, q4]
 refine k1 q3 (ms := []) (by simp) (fun hn T M n t4 => ?_) (fun hy T M n t2 t3 => ?_)
 ·simp [hn] at e
  simp [t4, e]
 ·simp [q1, q2, hy] at e
  simp
  refine k2 q4 (ms := []) (by simp [t2, t3]) (fun hn T M n t4 => ?_) (fun hy T M n => ?_)
  ·rw [hn] at e
   simp [t4, e]
  ·rw [hy] at e
   simp [e]
mutual
theorem zeN : ∀ (a b : Typ), PCall Pg F.g03_Same [.agg a.enc, .agg b.enc] (.one (.bool (za0 a b)))
 | .mk k n s l, b => ztG _ b fun x hx y => zn0 l x hx y
theorem zn0 : ∀ (l : List Typ) (x : Typ), x ∈ l -> ∀ y, PCall Pg F.g03_Same [.agg x.enc, .agg y.enc] (.one (.bool (za0 x y)))
 | c :: l, x, h, y => by
  cases List.mem_cons.1 h with
  | inl e => rw [e]; exact zeN c y
  | inr e => exact zn0 l x e y
end
end Go.Gr
namespace Go.Gr
open Go.Abs Go.Proofs
theorem zlq (s : ByteArray) : ∀ l, posR s l <= l.length
 | [] => Nat.le_refl _
 | n :: l => by have := zlq s l; unfold posR; split <;> simp <;> omega
abbrev bx4 : Blk := .box [.d (.int .i64 0), .d (.str (bs [])), .d (.sl true 1 []), .d (.sl true 4 [])]
abbrev recT (ns : List ByteArray) (ts : List Typ) (i : Nat) : List (Nat × AV) := [(7, .c (.d (.int .i64 i))), (6, .c (.ptr 1 0)), (4, .c (.ptr 0 0)), (1, .c (.d (.sl false 4 (ts.map Typ.enc)))), (0, .c (.d (.sl false 1 (encS ns))))]
abbrev recB (ns : List ByteArray) (ks : List Typ) : List Blk := [bx4, .box [.d (.int .i64 5), .d (.str (bs [])), .msl 1 2 0 ns.length, .msl 4 3 0 ks.length], .arr 1 ((encS ns).map (·.map .d)), .arr 4 ((ks.map Typ.enc).map (·.map .d))]
set_option maxRecDepth 20000 in
theorem zuK {c : Ctx} (hp : c.pure) (ns : List ByteArray) (ts : List Typ) (i : Nat) (hi : i < ns.length) (ok : Bool) (ms : List ByteArray) (ks : List Typ) (hms : ms.length <= 100) {Q : Exit -> St -> Prop} {S : St} {g} {l : List Nat}
  (h0 : Match l S ((9, .c (.d (.int .i64 0))) :: (8, .c (.d (.bool ok))) :: recT ns ts i) (recB ms ks))
  (hQ : ∀ T, Abs.look T 9 = .c (.d (.int .i64 (posR ns[i] ms))) -> Abs.look T 8 = .c (.d (.bool ok)) -> Abs.look T 7 = .c (.d (.int .i64 i)) -> Abs.look T 6 = .c (.ptr 1 0) -> Abs.look T 4 = .c (.ptr 0 0) -> Abs.look T 1 = .c (.d (.sl false 4 (ts.map Typ.enc))) -> Abs.look T 0 = .c (.d (.sl false 1 (encS ns))) -> Q (.exit 2) ⟨T, hpOf (recB ms ks), 4⟩) : lw_ Pg c zdt Q g S := by
 refine W.loop Pg_mixed hp (fun k : Nat => k <= ms.length /\ k + posR ns[i] (ms.drop k) = posR ns[i] ms) (fun k => (9, .c (.d (.int .i64 k))) :: (8, .c (.d (.bool ok))) :: recT ns ts i) (fun _ => recB ms ks) (fun k => ms.length - k) 0 l ⟨by simp, by simp⟩ h0 fun k ⟨h1, h2⟩ => ?_
 unfold zdt
 simp
 refine gd.mk (fun h => ?_) (fun h => ?_)
 ·have hk : k < ms.length := by simpa using h
  rw [List.drop_eq_getElem_cons hk, posR] at h2
  simp [List.getElem?_eq_getElem hk, List.getElem?_eq_getElem hi]
  refine ⟨hk, by decide, ?_⟩
  refine gd.mk (fun h => ?_) (fun h => ?_)
  ·rw [if_pos (by unfold ltS; exact h)] at h2
   refine Abs.Next.mk (k + 1) [0, 1, 2, 3] ⟨by omega, by omega⟩ (by omega) ?_
   simp
   exact wrap_i64 (by omega) (by omega)
  ·rw [if_neg (by unfold ltS; simpa using h)] at h2
   exact hQ _ (by simp; omega) (by simp) (by simp) (by simp) (by simp) (by simp) (by simp)
 ·have hk : k = ms.length := by simp at h; omega
  subst hk
  rw [List.drop_length, posR] at h2
  simp
  exact ⟨by decide, hQ _ (by simp; omega) (by simp) (by simp) (by simp) (by simp) (by simp) (by simp)⟩
theorem zlr (ms : List ByteArray) (ks : List Typ) : Typ.enc (.mk 5 (bs []) ms ks) = [.int .i64 5, .str (bs []), .sl false 1 (encS ms), .sl false 4 (ks.map Typ.enc)] := by rw [Typ.enc_eq]; try rfl
theorem zbx (ks : List Typ) : List.take ks.length (List.map ((fun x => List.map AC.d x) ∘ Typ.enc) ks) = List.map ((fun x => List.map AC.d x) ∘ Typ.enc) ks := List.take_of_length_le (by simp)
theorem zuL (ms : List ByteArray) : List.take ms.length (List.map (fun x => List.map AC.d x) (encS ms)) = List.map (fun x => List.map AC.d x) (encS ms) := List.take_of_length_le (by simp)
theorem mid {α : Type} {l : List α} {k n : Nat} (hn : n = l.length) (hk : k <= l.length) (x : α) : List.take (k + 1) (List.take k (List.take k l) ++ [x]) ++ List.take (n - k) (List.drop k l) = List.take k l ++ x :: List.drop k l := by
 subst hn
 rw [List.take_of_length_le (l := List.take k (List.take k l) ++ [x]) (by simp; omega), List.take_of_length_le (l := List.drop k l) (by simp), List.take_take, Nat.min_self, List.append_assoc]; rfl
theorem zir {ks : List Typ} {L : List (List AC)} (h : ∀ x, x ∈ L -> x ∈ List.map ((fun x => List.map AC.d x) ∘ Typ.enc) ks) (n : Nat) : ∀ x, x ∈ L -> AC.lts n x = true := fun x hx => by
 obtain ⟨t, _, rfl⟩ := List.mem_map.1 (h x hx)
 simp
set_option maxRecDepth 20000 in
set_option maxHeartbeats 1000000 in
theorem zrX (ns : List ByteArray) (ts : List Typ) : PCall Pg F.g03_record [.one (.sl false 1 (encS ns)), .one (.sl false 4 (ts.map Typ.enc))] (.tup [.agg (zdp ns ts).1.enc, .one (.bool (zdp ns ts).2)]) := by
 refine zna (by simp) fun o c hN hp => ?_
 have hb : Typ.enc (.mk 5 (bs []) [] []) = [.int .i64 5, .str (bs []), .sl false 1 [], .sl false 4 []] := rfl
 obtain ⟨R, hR⟩ : ∃ R, zdp ns ts = R := ⟨_, rfl⟩
 rw [hR]
 unfold zdp at hR
 unfold zg7
 by_cases h1 : ns.length = ts.length
 rotate_left
 ·have h1' : ¬ (ns.length : Int) = ts.length := by omega
  rw [if_pos (.inl h1)] at hR
  subst hR
  simp [h1, h1', hb]
 by_cases h2 : 16 < ns.length
 ·have h2' : (16 : Int) < ns.length := by omega
  have h2'' : (16 : Int) < ts.length := by omega
  rw [if_pos (.inr h2)] at hR
  subst hR
  simp [h1, h2', h2'', hb]
 have h2' : ¬ (16 : Int) < ns.length := by omega
 have h2'' : ¬ (16 : Int) < ts.length := by omega
 rw [if_neg (by omega)] at hR
 simp [h1, h2', h2'']
 refine owK.mk [.c 1 2, .c 1 3] ?_
 simp
 refine W.loop Pg_mixed hp (fun x : Nat × List ByteArray × List Typ => x.1 <= ns.length /\ x.2.1.length = x.2.2.length /\ x.2.1.length <= x.1 /\ recR (ns.drop x.1) (ts.drop x.1) x.2.1 x.2.2 = recR ns ts [] []) (fun x => recT ns ts x.1) (fun x => recB x.2.1 x.2.2) (fun x => ns.length - x.1) (0, [], []) [0, 1, 2, 3] ⟨by simp, rfl, by simp, by simp⟩ (by simp [encS]) fun ⟨i, ms, ks⟩ ⟨i1, i2, i3, i4⟩ => ?_
 unfold zfn
 simp only at i1 i2 i3 i4
 simp
 refine gd.mk (fun h => ?_) (fun h => ?_)
 ·have hi : i < ns.length := by simpa using h
  have ht : i < ts.length := by omega
  rw [List.drop_eq_getElem_cons hi, List.drop_eq_getElem_cons ht, recR] at i4
  simp [List.getElem?_eq_getElem hi]
  refine zac.mk (zpS _) ?_
  simp
  refine zuK hp ns ts i hi (zbm ns[i]) ms ks (by omega) (l := [0, 1, 2, 3]) (by simp) fun T t9 t8 t7 t6 t4 t1 t0 => ?_
  have hpl := zlq ns[i] ms
  generalize posR ns[i] ms = k at *
  simp [t9, t8, t7, t6]
  by_cases hn : zbm ns[i] = true
  rotate_left
  ·rw [if_pos (.inl (by simpa using hn))] at i4
   rw [<- i4] at hR
   subst hR
   have z1 : List.take ms.length (encS ms) = encS ms := List.take_of_length_le (by simp)
   have z2 : List.take ks.length (List.map Typ.enc ks) = List.map Typ.enc ks := List.take_of_length_le (by simp)
   simp [hn, t4]
   refine ⟨by decide, ?_⟩
   simp [z1, z2, zlr]
  have hks : k <= ks.length := by omega
  have hmin : min k ms.length = k := by omega
  have hmin2 : min k ks.length = k := by omega
  by_cases hk : k < ms.length
  ·by_cases he : ms[k] = ns[i]
   ·rw [if_pos (.inr (by rw [List.getElem?_eq_getElem hk, he]))] at i4
    rw [<- i4] at hR
    subst hR
    have z1 : List.take ms.length (encS ms) = encS ms := List.take_of_length_le (by simp)
    have z2 : List.take ks.length (List.map Typ.enc ks) = List.map Typ.enc ks := List.take_of_length_le (by simp)
    simp [hn, t4, t0, hk, List.getElem?_eq_getElem hk, List.getElem?_eq_getElem hi, he]
    refine ⟨by decide, ?_⟩
    simp [z1, z2, zlr]
   ·rw [if_neg (by rw [List.getElem?_eq_getElem hk]; simp [hn, he])] at i4
    simp [hn, t4, t0, t1, hk, List.getElem?_eq_getElem hk, List.getElem?_eq_getElem hi, List.getElem?_eq_getElem ht, he, hmin, hmin2, hpl, hks]
    refine ⟨by decide, by omega, by omega, by omega, by omega, by omega, by omega, ?_⟩
    refine Abs.Next.mk (i + 1, ms.take k ++ ns[i] :: ms.drop k, ks.take k ++ ts[i] :: ks.drop k) [0, 1, 6, 9] ⟨by simp only; omega, by simp; omega, by simp; omega, i4⟩ (by simp only; omega) ?_
    simp [t0, t1, t4, t6, t7]
    refine ⟨wrap_i64 (by omega) (by omega), ⟨by omega, by omega⟩, ?_, mid (by simp) (by simp; omega) _, zir (fun x hx => List.mem_of_mem_take hx) 4, zir (fun x hx => List.mem_of_mem_drop hx) 4⟩
    rw [mid (l := List.map (fun x => List.map AC.d x) (encS ms)) (by simp) (by simp; omega)]
    simp [encS, List.map_take, List.map_drop]
  ·have hk2 : k = ms.length := by omega
   rw [if_neg (by rw [List.getElem?_eq_none (by omega)]; simp [hn])] at i4
   simp [hn, t4, t0, t1, hk, List.getElem?_eq_getElem hi, List.getElem?_eq_getElem ht, hmin, hmin2, hpl, hks]
   refine ⟨by decide, by omega, by omega, by omega, by omega, by omega, by omega, ?_⟩
   refine Abs.Next.mk (i + 1, ms.take k ++ ns[i] :: ms.drop k, ks.take k ++ ts[i] :: ks.drop k) [0, 1, 6, 9] ⟨by simp only; omega, by simp; omega, by simp; omega, i4⟩ (by simp only; omega) ?_
   simp [t0, t1, t4, t6, t7]
   refine ⟨wrap_i64 (by omega) (by omega), ⟨by omega, by omega⟩, ?_, mid (by simp) (by simp; omega) _, zir (fun x hx => List.mem_of_mem_take hx) 4, zir (fun x hx => List.mem_of_mem_drop hx) 4⟩
   rw [mid (l := List.map (fun x => List.map AC.d x) (encS ms)) (by simp) (by simp; omega)]
   simp [encS, List.map_take, List.map_drop]
 ·have hi : i = ns.length := by simp at h; omega
  subst hi
  rw [List.drop_length, recR] at i4
  rotate_left
  ·intros; contradiction
  rw [<- i4] at hR
  subst hR
  have z1 : List.take ms.length (List.map (fun x => List.map AC.d x) (encS ms)) = List.map (fun x => List.map AC.d x) (encS ms) := zuL ms
  have z3 : List.take ms.length (encS ms) = encS ms := List.take_of_length_le (by simp)
  have z4 : List.take ks.length (List.map Typ.enc ks) = List.map Typ.enc ks := List.take_of_length_le (by simp)
  simp [z1, zbx, zlr, z3, z4]
end Go.Gr
namespace Go.Gr
open Go.Abs Go.Proofs
theorem zeK (ks : List Typ) : Typ.enc (.mk 7 (bs []) [] ks) = [.int .i64 7, .str (bs []), .sl false 1 [], .sl false 4 (ks.map Typ.enc)] := by rw [Typ.enc_eq]; try rfl
mutual
theorem zj5 : ∀ t : Typ, za0 t t = true
 | .mk k n s l => by rw [za0]; simp [Typ.kind, Typ.name, Typ.names, Typ.kids, ziS l]
theorem ziS : ∀ l : List Typ, zcF l l = true
 | [] => rfl
 | t :: l => by rw [zcF, zj5 t, ziS l]; try rfl
end
abbrev arrT (l : List Typ) : Blk := .arr 4 ((l.map Typ.enc).map (·.map .d))
abbrev uniB (all ks : List Typ) : List Blk := [bx4, arrT all, .box [.d (.int .i64 7), .d (.str (bs [])), .d (.sl true 1 []), .msl 4 3 0 ks.length], arrT ks]
abbrev uniT (all : List Typ) (tag : Nat) : List (Nat × AV) := [(7, .c (.d (.int .i64 tag))), (6, .c (.ptr 2 0)), (4, .c (.msl 4 1 0 all.length)), (2, .c (.ptr 0 0))]
theorem zju (tag : Int) : ∀ (l : List Typ) (had : Bool) (ks : List Typ), (tagR tag l had ks).1.2.length <= ks.length + l.length
 | [], had, ks => by simp [tagR]
 | x :: l, had, ks => by
  have h : (if had = true then ks else ks ++ [x]).length <= ks.length + 1 := by split <;> simp
  rw [tagR]
  by_cases h0 : x.kind = 0
  ·rw [if_pos h0]; simp
  rw [if_neg h0]
  by_cases h1 : za6 x ≠ tag
  ·rw [if_pos h1]
   have := zju tag l had ks; rw [List.length_cons]; omega
  rw [if_neg h1]
  simp only
  generalize (if had = true then ks else ks ++ [x]) = k2 at *
  split
  ·have := zju tag l true k2
   rw [List.length_cons]; omega
  ·rw [List.length_cons]; simp only; omega
set_option maxRecDepth 20000 in
set_option maxHeartbeats 1000000 in
theorem zvj {c : Ctx} (hp : c.pure) (all : List Typ) (hall : all.length <= 1000000) (tag : Nat) (htag : tag < 6) (ks : List Typ) (hks : ks.length <= 10000000) (F0 : (Bool × List Typ) × Bool) (hF : tagR tag all false ks = F0) {Q : Exit -> St -> Prop} {S : St} {g} {ms : List Nat}
  (h0 : Match ms S ((9, .c (.d (.int .i64 0))) :: (8, .c (.d (.bool false))) :: uniT all tag) (uniB all ks))
  (hN : F0.2 = false -> ∀ T M n, Abs.look T 2 = .c (.ptr 0 0) -> Abs.look T 3 = .c (.d (.bool false)) -> M 0 = .box [.d (.int .i64 7), .d (.str (bs [])), .d (.sl true 1 []), .msl 4 3 0 F0.1.2.length] -> M 3 = arrT F0.1.2 -> Q .ret ⟨T, M, n⟩)
  (hQ : F0.2 = true -> ∀ T, Abs.look T 7 = .c (.d (.int .i64 tag)) -> Abs.look T 6 = .c (.ptr 2 0) -> Abs.look T 4 = .c (.msl 4 1 0 all.length) -> Abs.look T 2 = .c (.ptr 0 0) -> Q (.exit 4) ⟨T, hpOf (uniB all F0.1.2), 4⟩) : lw_ Pg c zdM Q g S := by
 refine W.loop Pg_mixed hp (fun x : Nat × Bool × List Typ => x.1 <= all.length /\ x.2.2.length <= ks.length + x.1 /\ (x.2.1 = true -> x.2.2 ≠ []) /\ tagR tag (all.drop x.1) x.2.1 x.2.2 = F0) (fun x => (9, .c (.d (.int .i64 x.1))) :: (8, .c (.d (.bool x.2.1))) :: uniT all tag) (fun x => uniB all x.2.2) (fun x => all.length - x.1) (0, false, ks) ms ⟨by simp, by simp, by simp, by simpa using hF⟩ h0 fun ⟨i, had, l⟩ ⟨h1, h2, h3, h4⟩ => ?_
 unfold zdM
 simp only at h1 h2 h3 h4
 simp
 refine gd.mk (fun h => ?_) (fun h => ?_)
 ·have hi : i < all.length := by simpa using h
  rw [List.drop_eq_getElem_cons hi, tagR] at h4
  obtain ⟨x, hx⟩ : ∃ x, all[i] = x := ⟨_, rfl⟩
  have hg : all[i]? = some x := by rw [List.getElem?_eq_getElem hi, hx]
  rw [hx] at h4
  simp [hi, hx, hg]
  by_cases k0 : x.kind = 0
  ·rw [if_pos k0] at h4
   subst h4
   simp [k0]
   exact hN rfl _ _ _ (by simp) (by simp) (by simp) (by simp)
  rw [if_neg k0] at h4
  simp [k0, hi, hx, hg]
  refine zac.mk (zkM x) ?_
  by_cases kt : za6 x = tag
  rotate_left
  ·rw [if_pos kt] at h4
   simp [kt]
   refine Abs.Next.mk (i + 1, had, l) [0, 1, 2, 3] ⟨by simp only; omega, by simp only; omega, h3, h4⟩ (by simp only; omega) ?_
   simp
   exact wrap_i64 (by omega) (by omega)
  rw [if_neg (fun z => z kt)] at h4
  cases had with
  | false =>
   simp only [Bool.false_eq_true, if_false, List.getLastD_concat] at h4
   have hw : IntKind.i64.wrap ((l.length : Int) + 1 - 1) = (l.length : Int) := by rw [wrap_i64 (by omega) (by omega)]; omega
   have z : List.take l.length (List.map ((fun x => List.map AC.d x) ∘ Typ.enc) l) = List.map ((fun x => List.map AC.d x) ∘ Typ.enc) l := zbx l
   have hwl : IntKind.i64.wrap (l.length : Int) = (l.length : Int) := wrap_i64 (by omega) (by omega)
   have g : (List.map ((fun x => List.map AC.d x) ∘ Typ.enc) l ++ [List.map AC.d x.enc])[l.length]? = some (List.map AC.d x.enc) := by simp
   simp [kt, hi, hx, hg, hwl, z, g]
   refine ⟨by omega, by decide, by omega, ?_⟩
   refine zac.mk (zeN _ _) ?_
   have hs := zj5 x
   rw [if_pos hs] at h4
   simp [hs]
   refine ⟨by decide, ?_⟩
   refine Abs.Next.mk (i + 1, true, l ++ [x]) [0, 1, 2, 4] ⟨by simp only; omega, by simp; omega, by simp, h4⟩ (by simp only; omega) ?_
   simp
   exact wrap_i64 (by omega) (by omega)
  | true =>
   have hne := h3 rfl
   simp only [if_true] at h4
   have hlp : 0 < l.length := List.length_pos_iff.2 hne
   have hw : IntKind.i64.wrap ((l.length : Int) - 1) = ((l.length - 1 : Nat) : Int) := by rw [wrap_i64 (by omega) (by omega)]; omega
   have hlast : l.getLastD noT = l[l.length - 1] := by
    rw [List.getLastD_eq_getLast?, List.getLast?_eq_getElem?, List.getElem?_eq_getElem (by omega)]; try rfl
   rw [hlast] at h4
   have hlt : l.length - 1 < l.length := by omega
   simp [kt, hi, hx, hg, hw, List.getElem?_eq_getElem hlt, hlt]
   refine zac.mk (zeN _ _) ?_
   by_cases hs : za0 x l[l.length - 1] = true
   ·rw [if_pos hs] at h4
    simp [hs]
    refine ⟨by decide, ?_⟩
    refine Abs.Next.mk (i + 1, true, l) [0, 1, 2, 3] ⟨by simp only; omega, by simp only; omega, fun _ => hne, h4⟩ (by simp only; omega) ?_
    simp
    exact wrap_i64 (by omega) (by omega)
   ·rw [if_neg hs] at h4
    subst h4
    simp [hs]
    refine ⟨by decide, ?_⟩
    exact hN rfl _ _ _ (by simp) (by simp) (by simp) (by simp)
 ·have hi : i = all.length := by simp at h; omega
  subst hi
  rw [List.drop_length, tagR] at h4
  subst h4
  exact hQ rfl _ (by simp) (by simp) (by simp) (by simp)
def zfl (i : Nat) : List Int := [0, 1, 2, 3, 4, 5].drop i
theorem zm6 {i : Nat} (h : i < 6) : zfl i = (i : Int) :: zfl (i + 1) := by
 have : ∀ i : Fin 6, zfl i.val = ((i.val : Nat) : Int) :: zfl (i.val + 1) := by decide
 exact this ⟨i, h⟩
set_option maxRecDepth 20000 in
set_option maxHeartbeats 1000000 in
theorem zs1 (kids : List Typ) (hk : (kids.flatMap mems).length <= 1000000) (hkl : kids.length <= 1000000) : PCall Pg F.g03_union [.one (.sl false 4 (kids.map Typ.enc))] (.tup [.agg (zef kids).1.enc, .one (.bool (zef kids).2)]) := by
 refine zoL (by simp) fun o c hN hp => ?_
 obtain ⟨R, hR⟩ : ∃ R, zef kids = R := ⟨_, rfl⟩
 rw [hR]
 unfold zef at hR
 simp only at hR
 obtain ⟨all, hal⟩ : ∃ all, kids.flatMap mems = all := ⟨_, rfl⟩
 rw [hal] at hR hk
 unfold zht
 simp
 refine owK.mk [.t 4] ?_
 simp
 refine W.loop Pg_mixed hp (fun x : Nat × List Typ => x.1 <= kids.length /\ x.2 ++ (kids.drop x.1).flatMap mems = all) (fun x => [(5, .c (.d (.int .i64 x.1))), (4, .c (.msl 4 1 0 x.2.length)), (2, .c (.ptr 0 0)), (0, .c (.d (.sl false 4 (kids.map Typ.enc))))]) (fun x => [bx4, arrT x.2]) (fun x => kids.length - x.1) (0, []) [0, 1] ⟨by simp, by simpa using hal⟩ (by simp) fun ⟨j, l⟩ ⟨h1, h2⟩ => ?_
 unfold zfT
 simp only at h1 h2
 simp
 refine gd.mk (fun h => ?_) (fun h => ?_)
 ·have hj : j < kids.length := by simpa using h
  obtain ⟨x, hx⟩ : ∃ x, kids[j] = x := ⟨_, rfl⟩
  have hg : kids[j]? = some x := by rw [List.getElem?_eq_getElem hj, hx]
  rw [List.drop_eq_getElem_cons hj, hx, List.flatMap_cons, <- List.append_assoc] at h2
  have hll := congrArg List.length h2
  rw [List.length_append, List.length_append] at hll
  by_cases k7 : x.kind = 7
  ·have hm : mems x = x.kids := by unfold mems; rw [if_pos k7]
   rw [hm] at h2 hll
   simp [hj, hx, hg, k7]
   refine ⟨by omega, ?_⟩
   refine Abs.Next.mk (j + 1, l ++ x.kids) [0, 2] ⟨by simp only; omega, h2⟩ (by simp only; omega) ?_
   simp
   exact ⟨wrap_i64 (by omega) (by omega), zbx l⟩
  ·have hm : mems x = [x] := by unfold mems; rw [if_neg k7]
   rw [hm] at h2 hll
   simp only [List.length_singleton] at hll
   simp [hj, hx, hg, k7]
   refine ⟨by omega, ?_⟩
   refine Abs.Next.mk (j + 1, l ++ [x]) [0, 2] ⟨by simp only; omega, h2⟩ (by simp only; omega) ?_
   simp
   exact ⟨wrap_i64 (by omega) (by omega), zbx l⟩
 ·have hj : j = kids.length := by simp at h; omega
  subst hj
  rw [List.drop_length, List.flatMap_nil, List.append_nil] at h2
  subst h2
  simp
  refine owK.mk [.c 2 3] ?_
  simp
  refine W.loop Pg_mixed hp (fun x : Nat × List Typ => x.1 <= 6 /\ x.2.length <= x.1 * l.length /\ zcw l (zfl x.1) x.2 = zcw l [0, 1, 2, 3, 4, 5] []) (fun x => uniT l x.1) (fun x => uniB l x.2) (fun x => 6 - x.1) (0, []) [0, 1, 2, 3] ⟨by simp, by simp, rfl⟩ (by simp) fun ⟨t, ks⟩ ⟨i1, i2, i3⟩ => ?_
  unfold zfU
  simp only at i1 i2 i3
  simp
  have hmul : t * l.length <= 6 * 1000000 := Nat.mul_le_mul i1 hk
  have htl := zju t l false ks
  refine gd.mk (fun h => ?_) (fun h => ?_)
  ·have ht : t < 6 := by simp at h; omega
   rw [zm6 ht, zcw] at i3
   refine zvj hp l hk t ht ks (by omega) _ rfl (ms := [0, 1, 2, 3]) (by simp) (fun hf T M n t2 t3 m0 m3 => ?_) (fun hf T t7 t6 t4 t2 => ?_)
   ·rw [if_neg (by rw [hf]; simp)] at i3
    rw [<- i3] at hR
    simp at hR
    subst hR
    simp [t2, t3, m0, m3, zeK]
    exact List.take_of_length_le (by simp)
   ·rw [if_pos hf] at i3
    simp [t7]
    refine Abs.Next.mk (t + 1, (tagR t l false ks).1.2) [0, 1, 2, 3] ⟨by simp only; omega, by simp only; rw [Nat.add_mul]; omega, i3⟩ (by simp only; omega) ?_
    simp [t7, t6, t4, t2]
    exact wrap_i64 (by omega) (by omega)
  ·have ht : t = 6 := by simp at h; omega
   subst ht
   rw [show zfl 6 = [] from rfl, zcw] at i3
   rw [<- i3] at hR
   simp only [if_true] at hR
   have z4 : List.take ks.length (List.map Typ.enc ks) = List.map Typ.enc ks := List.take_of_length_le (by simp)
   match ks, i2, hR, z4 with
   | [], i2, hR, z4 =>
    simp at hR
    subst hR
    simp
    exact ⟨by decide, by rw [zeK]; rfl⟩
   | [x], i2, hR, z4 =>
    simp at hR
    subst hR
    simp
    rw [Typ.enc_eq]; try rfl
   | x :: y :: l2, i2, hR, z4 =>
    simp at hR
    subst hR
    have h1 : ¬ ((l2.length : Int) + 1 + 1 = 1) := by omega
    have h2 : ¬ (l2.length + 1 + 1 = 1) := by omega
    have h3 : (0 : Int) < (l2.length : Int) + 1 + 1 := by omega
    simp [h1, h2, h3]
    exact ⟨by decide, by rw [zeK, List.take_of_length_le (by simp)]; rfl⟩
end Go.Gr
namespace Go.Gr
open Go.Abs Go.Proofs
mutual
def fewT : Typ -> Prop
 | .mk _ _ _ l => l.length <= 200 /\ zda l
def zda : List Typ -> Prop
 | [] => True
 | t :: l => fewT t /\ zda l
end
mutual
theorem ze4 : ∀ (t : Typ) (m : Int), m <= 201 -> za5 t m < m -> fewT t
 | .mk k n s l, m, h1, h2 => by
  rw [za5] at h2
  have := zl8 l m 1 h1 (by omega) h2
  rw [fewT]
  exact ⟨by omega, this.2⟩
theorem zl8 : ∀ (l : List Typ) (m n : Int), m <= 201 -> 1 <= n -> zbb l m n < m -> n + l.length <= zbb l m n /\ zda l
 | [], m, n, _, _, h => by rw [zbb] at *; exact ⟨by simp, trivial⟩
 | t :: l, m, n, h1, h2, h3 => by
  have hle := zgM t (m - n)
  rw [zbb] at h3 ⊢
  split
  ·rename_i q
   rw [if_pos q] at h3
   have i := zl8 l m (n + za5 t (m - n)) h1 (by omega) h3
   have hle2 := zfy l m (n + za5 t (m - n)) (by omega)
   rw [List.length_cons]
   exact ⟨by omega, ze4 t (m - n) (by omega) (by omega), i.2⟩
  ·rename_i q
   rw [if_neg q] at h3; omega
end
theorem zrQ : ∀ l : List Typ, zda l ↔ ∀ x, x ∈ l -> fewT x
 | [] => by simp [zda]
 | t :: l => by simp [zda, zrQ l]
theorem zjE (tag : Int) : ∀ (l : List Typ) (had : Bool) (ks : List Typ), (tagR tag l had ks).1.2.length <= ks.length + (if had = true then 0 else 1)
 | [], had, ks => by simp [tagR]
 | x :: l, had, ks => by
  have h : (if had = true then ks else ks ++ [x]).length <= ks.length + (if had = true then 0 else 1) := by cases had <;> simp
  rw [tagR]
  by_cases h0 : x.kind = 0
  ·rw [if_pos h0]; simp
  rw [if_neg h0]
  by_cases h1 : za6 x ≠ tag
  ·rw [if_pos h1]
   exact zjE tag l had ks
  rw [if_neg h1]
  simp only
  generalize (if had = true then ks else ks ++ [x]) = k2 at *
  split
  ·have := zjE tag l true k2
   simp only [if_true] at this
   omega
  ·exact h
theorem zjF (tag : Int) : ∀ (l : List Typ) (had : Bool) (ks : List Typ) (y : Typ), y ∈ (tagR tag l had ks).1.2 -> y ∈ ks \/ (y ∈ l /\ za6 y = tag)
 | [], had, ks, y, h => by simp [tagR] at h; exact .inl h
 | x :: l, had, ks, y, h => by
  have h2 : ∀ z, z ∈ (if had = true then ks else ks ++ [x]) -> z ∈ ks \/ z = x := fun z hz => by cases had <;> simp at hz <;> simp [hz]
  rw [tagR] at h
  by_cases h0 : x.kind = 0
  ·rw [if_pos h0] at h; exact .inl h
  rw [if_neg h0] at h
  by_cases h1 : za6 x ≠ tag
  ·rw [if_pos h1] at h
   rcases zjF tag l had ks y h with q | ⟨q, r⟩
   ·exact .inl q
   ·exact .inr ⟨by simp [q], r⟩
  rw [if_neg h1] at h
  have hx : za6 x = tag := Classical.byContradiction h1
  simp only at h
  generalize (if had = true then ks else ks ++ [x]) = k2 at *
  have fin : y ∈ k2 -> y ∈ ks \/ (y ∈ x :: l /\ za6 y = tag) := fun hy => by
   rcases h2 y hy with q | rfl
   ·exact .inl q
   ·exact .inr ⟨by simp, hx⟩
  split at h
  ·rcases zjF tag l true k2 y h with q | ⟨q, r⟩
   ·exact fin q
   ·exact .inr ⟨by simp [q], r⟩
  ·exact fin h
theorem zhE (all : List Typ) : ∀ (l : List Int) (ks : List Typ), (zcw all l ks).1.length <= ks.length + l.length
 | [], ks => by simp [zcw]
 | t :: l, ks => by
  have h1 := zjE t all false ks
  simp only [Bool.false_eq_true, if_false] at h1
  rw [zcw, List.length_cons]
  split
  ·have := zhE all l (tagR t all false ks).1.2
   omega
  ·simp only; omega
theorem zhF (all : List Typ) : ∀ (l : List Int) (ks : List Typ) (y : Typ), y ∈ (zcw all l ks).1 -> y ∈ ks \/ (y ∈ all /\ za6 y ∈ l)
 | [], ks, y, h => by simp [zcw] at h; exact .inl h
 | t :: l, ks, y, h => by
  rw [zcw] at h
  have fin : y ∈ (tagR t all false ks).1.2 -> y ∈ ks \/ (y ∈ all /\ za6 y ∈ t :: l) := fun hy => by
   rcases zjF t all false ks y hy with q | ⟨q, r⟩
   ·exact .inl q
   ·exact .inr ⟨q, by simp [r]⟩
  split at h
  ·rcases zhF all l _ y h with q | ⟨q, r⟩
   ·exact fin q
   ·exact .inr ⟨q, by simp [r]⟩
  ·exact fin h
theorem zrR (t : Typ) : (mems (zaX t).1).length <= 6 := by
 have one : ∀ x : Typ, x.kind ≠ 7 -> (mems x).length <= 6 := fun x h => by unfold mems; rw [if_neg h]; simp
 cases t with
 | mk k n s l =>
 rw [zaX]
 split
 ·split
  ·unfold finR
   split
   ·refine one _ ?_
    unfold zdp
    split <;> simp [Typ.kind]
   split
   ·exact one _ (by simp [Typ.kind])
   ·unfold zef
    have hl := zhE ((zaJ l).1.flatMap mems) [0, 1, 2, 3, 4, 5] []
    have hm := zhF ((zaJ l).1.flatMap mems) [0, 1, 2, 3, 4, 5] []
    simp only
    generalize zcw ((zaJ l).1.flatMap mems) [0, 1, 2, 3, 4, 5] [] = r at *
    have seven : ∀ l : List Typ, l.length <= 6 -> (mems (.mk 7 (bs []) [] l)).length <= 6 := fun l h => by unfold mems; exact h
    split
    ·split
     ·rename_i x e
      have := hm x (by rw [e]; simp)
      refine one _ fun h7 => ?_
      have h7 : x.kind = 7 := h7
      have hb : za6 x = -1 := by unfold za6; rw [if_pos (by omega)]
      rw [hb] at this
      simp at this
     ·rename_i e
      exact seven _ (by simpa using hl)
    ·exact seven _ (by simpa using hl)
  ·exact one _ (by simp [noT, Typ.kind])
 ·split
  ·refine one _ ?_
   show k ≠ 7
   omega
  ·exact one _ (by simp [noT, Typ.kind])
theorem zl9 : ∀ l : List Typ, (zaJ l).1.length <= l.length
 | [] => by simp [zaJ]
 | t :: l => by
  have := zl9 l
  rw [zaJ]
  split <;> simp; omega
theorem zkk : ∀ l : List Typ, ((zaJ l).1.flatMap mems).length <= 6 * l.length
 | [] => by simp [zaJ]
 | t :: l => by
  have h1 := zkk l
  have h2 := zrR t
  rw [zaJ]
  split
  ·rw [List.flatMap_cons, List.length_append, List.length_cons]; omega
  ·simp
theorem ztq (t : Typ) : zaX t = if 5 <= t.kind /\ t.kind <= 7 then (if (zaJ t.kids).2 = true then finR t.kind t.names (zaJ t.kids).1 else (noT, false)) else if 0 <= t.kind /\ t.kind <= 4 then (bT t.kind, true) else (noT, false) := by
 cases t; rw [zaX]; try rfl
def accN (a : List Typ) (l : List Typ) : List Typ × Bool := if (zaJ l).2 = true then (a ++ (zaJ l).1, true) else ([], false)
theorem zrS (a : List Typ) (t : Typ) (l : List Typ) : accN a (t :: l) = if (zaX t).2 = true then accN (a ++ [(zaX t).1]) l else ([], false) := by
 unfold accN
 rw [zaJ]
 by_cases h : (zaX t).2 = true
 ·rw [if_pos h, if_pos h]
  by_cases h2 : (zaJ l).2 = true
  ·simp [h2]
  ·simp [h2]
 ·rw [if_neg h, if_neg h]; simp
@[simp] theorem Typ.er_map (t : Typ) : t.enc.map D.er = t.enc := by rw [Typ.enc_eq]; try rfl
theorem zal (k : Int) : (bT k).enc = [.int .i64 k, .str (bs []), .sl false 1 [], .sl false 4 []] := by rw [Typ.enc_eq]; try rfl
theorem zae : noT.enc = [.int .i64 0, .str (bs []), .sl false 1 [], .sl false 4 []] := rfl
abbrev nrmT (t : Typ) (j n : Nat) : List (Nat × AV) := [(5, .c (.d (.int .i64 j))), (4, .c (.msl 4 1 0 n)), (2, .c (.ptr 0 0)), (1, .c (.d (.rp t.enc 0)))]
set_option maxRecDepth 20000 in
set_option maxHeartbeats 1000000 in
theorem znE {c : Ctx} (hp : c.pure) (t : Typ) (hl : t.kids.length <= 200) (ih : ∀ e, e ∈ t.kids -> PCall Pg F.g03_norm [.agg e.enc] (.tup [.agg (zaX e).1.enc, .one (.bool (zaX e).2)])) {Q : Exit -> St -> Prop} {S : St} {g} {ms : List Nat}
  (h0 : Match ms S (nrmT t 0 0) [bx4, arrT []])
  (hN : (zaJ t.kids).2 = false -> ∀ T M n, Abs.look T 2 = .c (.ptr 0 0) -> Abs.look T 3 = .c (.d (.bool false)) -> M 0 = bx4 -> Q .ret ⟨T, M, n⟩)
  (hQ : (zaJ t.kids).2 = true -> ∀ T, Abs.look T 4 = .c (.msl 4 1 0 (zaJ t.kids).1.length) -> Abs.look T 2 = .c (.ptr 0 0) -> Abs.look T 1 = .c (.d (.rp t.enc 0)) -> Q (.exit 1) ⟨T, hpOf [bx4, arrT (zaJ t.kids).1], 2⟩) : lw_ Pg c zep Q g S := by
 have hA : accN [] t.kids = if (zaJ t.kids).2 = true then ((zaJ t.kids).1, true) else ([], false) := rfl
 have hN : (accN [] t.kids).2 = false -> ∀ T M n, Abs.look T 2 = .c (.ptr 0 0) -> Abs.look T 3 = .c (.d (.bool false)) -> M 0 = bx4 -> Q .ret ⟨T, M, n⟩ := fun h => hN (by
  rw [hA] at h
  cases e : (zaJ t.kids).2 with
  | false => rfl
  | true => rw [if_pos e] at h; cases h)
 have hQ : (accN [] t.kids).2 = true -> ∀ T, Abs.look T 4 = .c (.msl 4 1 0 (accN [] t.kids).1.length) -> Abs.look T 2 = .c (.ptr 0 0) -> Abs.look T 1 = .c (.d (.rp t.enc 0)) -> Q (.exit 1) ⟨T, hpOf [bx4, arrT (accN [] t.kids).1], 2⟩ := fun h => by
  rw [hA] at h ⊢
  cases e : (zaJ t.kids).2 with
  | false => rw [e] at h; cases h
  | true => rw [if_pos rfl]; exact hQ e
 obtain ⟨F0, hF⟩ : ∃ F0, accN [] t.kids = F0 := ⟨_, rfl⟩
 rw [hF] at hN hQ
 refine W.loop Pg_mixed hp (fun x : Nat × List Typ => x.1 <= t.kids.length /\ x.2.length <= x.1 /\ accN x.2 (t.kids.drop x.1) = F0) (fun x => nrmT t x.1 x.2.length) (fun x => [bx4, arrT x.2]) (fun x => t.kids.length - x.1) (0, []) ms ⟨by simp, by simp, by simpa using hF⟩ h0 fun ⟨j, a⟩ ⟨h1, h2, h3⟩ => ?_
 unfold zep
 simp only at h1 h2 h3
 simp
 refine gd.mk (fun h => ?_) (fun h => ?_)
 ·have hj : j < t.kids.length := by simpa using h
  rw [List.drop_eq_getElem_cons hj, zrS] at h3
  obtain ⟨x, hx⟩ : ∃ x, t.kids[j] = x := ⟨_, rfl⟩
  have hm := List.getElem_mem hj
  rw [hx] at h3 hm
  simp [hj, hx]
  refine zac.mk (ih x hm) ?_
  simp
  by_cases q : (zaX x).2 = true
  ·rw [if_pos q] at h3
   simp [q]
   refine ⟨by omega, ?_⟩
   refine Abs.Next.mk (j + 1, a ++ [(zaX x).1]) [0, 3] ⟨by simp only; omega, by simp; omega, h3⟩ (by simp only; omega) ?_
   simp
   exact ⟨wrap_i64 (by omega) (by omega), zbx a⟩
  ·rw [if_neg q] at h3
   subst h3
   simp [q]
   exact hN rfl _ _ _ (by simp) (by simp) (by simp)
 ·have hj : j = t.kids.length := by simp at h; omega
  subst hj
  rw [List.drop_length] at h3
  have e : accN a [] = (a, true) := by unfold accN; simp [zaJ]
  rw [e] at h3
  subst h3
  exact hQ rfl _ (by simp) (by simp) (by simp)
set_option maxRecDepth 20000 in
set_option maxHeartbeats 1000000 in
theorem ztr (t : Typ) (hl : t.kids.length <= 200) (ih : ∀ e, e ∈ t.kids -> PCall Pg F.g03_norm [.agg e.enc] (.tup [.agg (zaX e).1.enc, .one (.bool (zaX e).2)])) :
  PCall Pg F.g03_norm [.agg t.enc] (.tup [.agg (zaX t).1.enc, .one (.bool (zaX t).2)]) := by
 refine zqa (by simp) fun o c hN hp => ?_
 obtain ⟨R, hR⟩ : ∃ R, zaX t = R := ⟨_, rfl⟩
 rw [hR]
 rw [ztq] at hR
 unfold ziY
 by_cases k1 : 0 <= t.kind /\ t.kind <= 4
 ·rw [if_neg (by omega), if_pos k1] at hR
  subst hR
  have hc : t.kind = 0 \/ t.kind = 1 \/ t.kind = 2 \/ t.kind = 3 \/ t.kind = 4 := by omega
  rcases hc with k | k | k | k | k <;> simp [k, zal]
 by_cases k2 : 5 <= t.kind /\ t.kind <= 7
 rotate_left
 ·rw [if_neg k2, if_neg k1] at hR
  subst hR
  have a0 : ¬ t.kind = 0 := by omega
  have a1 : ¬ t.kind = 1 := by omega
  have a2 : ¬ t.kind = 2 := by omega
  have a3 : ¬ t.kind = 3 := by omega
  have a4 : ¬ t.kind = 4 := by omega
  have a5 : ¬ t.kind = 5 := by omega
  have a6 : ¬ t.kind = 6 := by omega
  have a7 : ¬ t.kind = 7 := by omega
  simp [a0, a1, a2, a3, a4, a5, a6, a7, zae]
 rw [if_pos k2] at hR
 have hnl := zl9 t.kids
 have hnm := zkk t.kids
 have hk : ∀ K : Int, t.kind = K -> (if (zaJ t.kids).2 = true then finR K t.names (zaJ t.kids).1 else (noT, false)) = R := fun K e => by rw [<- e]; exact hR
 have a0 : ¬ t.kind = 0 := by omega
 have a1 : ¬ t.kind = 1 := by omega
 have a2 : ¬ t.kind = 2 := by omega
 have a3 : ¬ t.kind = 3 := by omega
 have a4 : ¬ t.kind = 4 := by omega
 have hc : t.kind = 5 \/ t.kind = 6 \/ t.kind = 7 := by omega
 rcases hc with k | k | k
 ·have hR := hk 5 k
  simp [k]
  refine owK.mk [.t 4] ?_
  simp
  refine znE hp t hl ih (ms := [0, 1]) (by simp) (fun hf T M n t2 t3 m0 => ?_) (fun hf T t4 t2 t1 => ?_)
  ·rw [if_neg (by rw [hf]; simp)] at hR
   subst hR
   simp [t2, t3, m0, zae]
  ·rw [if_pos hf] at hR
   generalize (zaJ t.kids).1 = l at *
   simp [t1, k]
   refine fzK.mk [1] ?_
   have z : List.take l.length (List.map Typ.enc l) = List.map Typ.enc l := List.take_of_length_le (by simp)
   simp [zas, t4, t1, zbx, z]
   refine zac.mk (zrX _ _) ?_
   rw [show zdp t.names l = R by rw [<- hR]; rfl]
   simp [zas, t2]
 ·have hR := hk 6 k
  simp [k]
  refine owK.mk [.t 4] ?_
  simp
  refine znE hp t hl ih (ms := [0, 1]) (by simp) (fun hf T M n t2 t3 m0 => ?_) (fun hf T t4 t2 t1 => ?_)
  ·rw [if_neg (by rw [hf]; simp)] at hR
   subst hR
   simp [t2, t3, m0, zae]
  ·rw [if_pos hf] at hR
   generalize (zaJ t.kids).1 = l at *
   have hR : (Typ.mk 6 (bs []) [] l, decide (l.length = 2)) = R := by rw [<- hR]; try rfl
   subst hR
   have z : List.take l.length (List.map Typ.enc l) = List.map Typ.enc l := List.take_of_length_le (by simp)
   have hd : decide ((l.length : Int) = 2) = decide (l.length = 2) := by
    by_cases h : l.length = 2
    ·simp [h]
    ·have h' : ¬ (l.length : Int) = 2 := by omega
     simp [h, h']
   simp [t1, k, t4, t2]
   exact ⟨by rw [z, Typ.enc_eq]; rfl, by omega⟩
 ·have hR := hk 7 k
  simp [k]
  refine owK.mk [.t 4] ?_
  simp
  refine znE hp t hl ih (ms := [0, 1]) (by simp) (fun hf T M n t2 t3 m0 => ?_) (fun hf T t4 t2 t1 => ?_)
  ·rw [if_neg (by rw [hf]; simp)] at hR
   subst hR
   simp [t2, t3, m0, zae]
  ·rw [if_pos hf] at hR
   have hu := zs1 (zaJ t.kids).1 (by omega) (by omega)
   generalize (zaJ t.kids).1 = l at *
   have z : List.take l.length (List.map Typ.enc l) = List.map Typ.enc l := List.take_of_length_le (by simp)
   simp [t1, k]
   refine fzK.mk [1] ?_
   simp [zas, t4, t1, zbx, z]
   refine zac.mk hu ?_
   rw [show zef l = R by rw [<- hR]; rfl]
   simp [zas, t2]
mutual
theorem zpA : ∀ t : Typ, fewT t -> PCall Pg F.g03_norm [.agg t.enc] (.tup [.agg (zaX t).1.enc, .one (.bool (zaX t).2)])
 | .mk k n s l, h => by
  rw [fewT] at h
  exact ztr (.mk k n s l) h.1 (fun e he => znF l h.2 e he)
theorem znF : ∀ l : List Typ, zda l -> ∀ e, e ∈ l -> PCall Pg F.g03_norm [.agg e.enc] (.tup [.agg (zaX e).1.enc, .one (.bool (zaX e).2)])
 | [], _, e, h => by cases h
 | d :: l, hf, e, h => by
  rw [zda] at hf
  cases h with
  | head => exact zpA d hf.1
  | tail _ h => exact znF l hf.2 e h
end
theorem zdS (t : Typ) : PCall Pg F.g03_Norm [.agg t.enc] (.tup [.agg (zaY t).1.enc, .one (.int .i64 (zaY t).2)]) := by
 refine zp9 (by simp) fun o c hN hp => ?_
 obtain ⟨R, hR⟩ : ∃ R, zaY t = R := ⟨_, rfl⟩
 rw [hR]
 unfold zaY at hR
 unfold ziX
 simp
 refine zac.mk (zhX t) ?_
 by_cases h1 : 16 < za7 17 t
 ·rw [if_pos (.inl h1)] at hR
  subst hR
  simp [h1, zae]
 simp [h1]
 refine zac.mk (zlw t) ?_
 by_cases h2 : 200 < za5 t 201
 ·rw [if_pos (.inr h2)] at hR
  subst hR
  simp [h2, zae]
 rw [if_neg (by omega)] at hR
 have hf := ze4 t 201 (by omega) (by omega)
 simp [h2]
 refine zac.mk (zpA t hf) ?_
 by_cases h3 : (zaX t).2 = true
 ·rw [if_pos h3] at hR
  subst hR
  simp [h3]
 ·rw [if_neg h3] at hR
  subst hR
  simp [h3, zae]
theorem zb2 (t : Typ) : PCall Pg F.g06_Normal [.agg t.enc] (.one (.bool (isNR t))) := by
 refine znb (by simp) fun o c hN hp => ?_
 unfold zg8 isNR
 simp
 refine zac.mk (zdS t) ?_
 generalize zaY t = R
 simp
 refine zac.mk (zeN _ _) ?_
 by_cases h : R.2 = 0
 ·simp [h]
 ·simp [h]
end Go.Gr
namespace Go.Gr
open Go.Abs Go.Proofs
mutual
theorem zl4 : ∀ (a b : Typ), za0 a b = true ↔ a = b
 | .mk k n s l, .mk k' n' s' l' => by
  rw [za0, Bool.and_eq_true, Bool.and_eq_true, Bool.and_eq_true, decide_eq_true_eq, decide_eq_true_eq, decide_eq_true_eq, zke, Typ.mk.injEq]
  exact Iff.rfl
theorem zke : ∀ (a b : List Typ), zcF a b = true ↔ a = b
 | [], [] => by simp [zcF]
 | [], _ :: _ => by simp [zcF]
 | _ :: _, [] => by simp [zcF]
 | a :: l, b :: k => by
  simp only [zcF, Bool.and_eq_true, List.cons.injEq]
  rw [zl4 a b, zke l k]
end
mutual
def wfT : Typ -> Prop
 | .mk k n s l => n = bs [] /\ wfTs l /\ ((0 <= k /\ k <= 4 /\ s = [] /\ l = []) \/ (k = 5 /\ s.length = l.length /\ s.length <= 16 /\ ∀ x, x ∈ s -> zbm x = true) \/ (k = 6 /\ s = [] /\ l.length = 2) \/ (k = 7 /\ s = [] /\ l.length <= 6 /\ ∀ x, x ∈ l -> 1 <= x.kind /\ x.kind <= 6))
def wfTs : List Typ -> Prop
 | [] => True
 | t :: l => wfT t /\ wfTs l
end
theorem zdi : ∀ l : List Typ, wfTs l ↔ ∀ x, x ∈ l -> wfT x
 | [] => by simp [wfTs]
 | t :: l => by simp [wfTs, zdi l]
theorem zbr (t : Typ) : wfT t ↔ t.name = bs [] /\ (∀ x, x ∈ t.kids -> wfT x) /\ ((0 <= t.kind /\ t.kind <= 4 /\ t.names = [] /\ t.kids = []) \/ (t.kind = 5 /\ t.names.length = t.kids.length /\ t.names.length <= 16 /\ ∀ x, x ∈ t.names -> zbm x = true) \/ (t.kind = 6 /\ t.names = [] /\ t.kids.length = 2) \/ (t.kind = 7 /\ t.names = [] /\ t.kids.length <= 6 /\ ∀ x, x ∈ t.kids -> 1 <= x.kind /\ x.kind <= 6)) := by
 cases t; rw [wfT, zdi]; try rfl
theorem zbG (k : Int) (h0 : 0 <= k) (h4 : k <= 4) : wfT (bT k) := (zbr _).2 ⟨rfl, fun x h => (by cases h), .inl ⟨h0, h4, rfl, rfl⟩⟩
theorem zbf : wfT noT := zbG 0 (by omega) (by omega)
theorem zpw : ∀ (ss : List ByteArray) (ts : List Typ) (ns : List ByteArray) (ks : List Typ), ss.length = ts.length -> ns.length = ks.length -> (∀ x, x ∈ ns -> zbm x = true) -> (recR ss ts ns ks).2 = true ->
  (recR ss ts ns ks).1.1.length = (recR ss ts ns ks).1.2.length /\ (recR ss ts ns ks).1.1.length = ns.length + ss.length /\ (∀ x, x ∈ (recR ss ts ns ks).1.1 -> zbm x = true) /\ ∀ x, x ∈ (recR ss ts ns ks).1.2 -> x ∈ ks \/ x ∈ ts
 | [], ts, ns, ks, h0, h1, h2, h => by
  cases ts with
  | nil => rw [recR]; exact ⟨h1, rfl, h2, fun x hx => .inl hx⟩; all_goals (intros; contradiction)
  | cons _ _ => simp at h0
 | s :: ss, [], ns, ks, h0, h1, h2, h => by simp at h0
 | s :: ss, t :: ts, ns, ks, h0, h1, h2, h => by
  have hp := zlq s ns
  rw [recR] at h ⊢
  by_cases q : zbm s = false \/ ns[posR s ns]? = some s
  ·rw [if_pos q] at h; cases h
  rw [if_neg q] at h ⊢
  have hs : zbm s = true := by
   cases e : zbm s with
   | true => rfl
   | false => exact absurd (.inl e) q
  have i := zpw ss ts (ns.take (posR s ns) ++ s :: ns.drop (posR s ns)) (ks.take (posR s ns) ++ t :: ks.drop (posR s ns)) (by simpa using h0) (by simp; omega) (fun x hx => by
   rcases List.mem_append.1 hx with hx | hx
   ·exact h2 x (List.mem_of_mem_take hx)
   ·rcases List.mem_cons.1 hx with rfl | hx
    ·exact hs
    ·exact h2 x (List.mem_of_mem_drop hx)) h
  refine ⟨i.1, ?_, i.2.2.1, fun x hx => ?_⟩
  ·rw [i.2.1]; simp; omega
  ·rcases i.2.2.2 x hx with hx | hx
   ·rcases List.mem_append.1 hx with hx | hx
    ·exact .inl (List.mem_of_mem_take hx)
    ·rcases List.mem_cons.1 hx with rfl | hx
     ·exact .inr (by simp)
     ·exact .inl (List.mem_of_mem_drop hx)
   ·exact .inr (by simp [hx])
theorem zuH {l : List Typ} (h : ∀ x, x ∈ l -> wfT x) : ∀ y, y ∈ l.flatMap mems -> wfT y := fun y hy => by
 obtain ⟨x, hx, hy⟩ := List.mem_flatMap.1 hy
 unfold mems at hy
 split at hy
 ·exact ((zbr x).1 (h x hx)).2.1 y hy
 ·simp at hy; subst hy; exact h y hx
theorem zth {y : Typ} (h : za6 y ∈ ([0, 1, 2, 3, 4, 5] : List Int)) : 1 <= y.kind /\ y.kind <= 6 := by
 unfold za6 at h
 split at h
 ·simp at h
 ·omega
theorem zvr (k : Int) (s : List ByteArray) (l : List Typ) (hl : ∀ x, x ∈ l -> wfT x) (hk : 5 <= k /\ k <= 7) (h : (finR k s l).2 = true) : wfT (finR k s l).1 := by
 unfold finR at h ⊢
 by_cases k5 : k = 5
 ·rw [if_pos k5] at h ⊢
  unfold zdp at h ⊢
  by_cases q : s.length ≠ l.length \/ 16 < s.length
  ·rw [if_pos q] at h; cases h
  rw [if_neg q] at h ⊢
  have i := zpw s l [] [] (by omega) rfl (by simp) h
  refine (zbr _).2 ⟨rfl, fun x hx => ?_, .inr (.inl ⟨rfl, i.1, ?_, i.2.2.1⟩)⟩
  ·rcases i.2.2.2 x hx with hx | hx
   ·cases hx
   ·exact hl x hx
  ·show (recR s l [] []).1.1.length <= 16
   rw [i.2.1]; simp; omega
 rw [if_neg k5] at h ⊢
 by_cases k6 : k = 6
 ·rw [if_pos k6] at h ⊢
  simp only [decide_eq_true_eq] at h
  exact (zbr _).2 ⟨rfl, hl, .inr (.inr (.inl ⟨rfl, rfl, h⟩))⟩
 rw [if_neg k6] at h ⊢
 unfold zef at h ⊢
 have hm := zhF (l.flatMap mems) [0, 1, 2, 3, 4, 5] []
 have hlen := zhE (l.flatMap mems) [0, 1, 2, 3, 4, 5] []
 simp only at h ⊢
 generalize zcw (l.flatMap mems) [0, 1, 2, 3, 4, 5] [] = r at *
 have hw : ∀ y, y ∈ r.1 -> wfT y /\ 1 <= y.kind /\ y.kind <= 6 := fun y hy => by
  rcases hm y hy with q | ⟨q1, q2⟩
  ·cases q
  ·exact ⟨zuH hl y q1, zth q2⟩
 have seven : ∀ L : List Typ, L.length <= 6 -> (∀ y, y ∈ L -> wfT y /\ 1 <= y.kind /\ y.kind <= 6) -> wfT (.mk 7 (bs []) [] L) := fun L hn hL => (zbr _).2 ⟨rfl, fun x hx => (hL x hx).1, .inr (.inr (.inr ⟨rfl, rfl, hn, fun x hx => (hL x hx).2⟩))⟩
 by_cases q : r.2 = true
 ·rw [if_pos q] at h ⊢
  split
  ·rename_i x e
   exact (hw x (by rw [e]; simp)).1
  ·exact seven _ (by simpa using hlen) hw
 ·rw [if_neg q] at h; cases h
mutual
theorem zpx : ∀ t : Typ, (zaX t).2 = true -> wfT (zaX t).1
 | .mk k n s l, h => by
  rw [zaX] at h ⊢
  by_cases q : 5 <= k /\ k <= 7
  ·rw [if_pos q] at h ⊢
   by_cases q2 : (zaJ l).2 = true
   ·rw [if_pos q2] at h ⊢
    exact zvr k s _ (zns l q2) q h
   ·rw [if_neg q2] at h; cases h
  ·rw [if_neg q] at h ⊢
   by_cases q2 : 0 <= k /\ k <= 4
   ·rw [if_pos q2]; exact zbG k q2.1 q2.2
   ·rw [if_neg q2] at h; cases h
theorem zns : ∀ l : List Typ, (zaJ l).2 = true -> ∀ x, x ∈ (zaJ l).1 -> wfT x
 | [], _, x, hx => by rw [zaJ] at hx; cases hx
 | t :: l, h, x, hx => by
  rw [zaJ] at h hx
  by_cases q : (zaX t).2 = true
  ·rw [if_pos q] at h hx
   rcases List.mem_cons.1 hx with rfl | hx
   ·exact zpx t q
   ·exact zns l h x hx
  ·rw [if_neg q] at h; cases h
end
theorem zf7 (t : Typ) : wfT (zaY t).1 := by
 unfold zaY
 split
 ·exact zbf
 split
 ·rename_i h; exact zpx t h
 ·exact zbf
theorem zqk {t : Typ} (h : (zaY t).2 = 0) : (zaX t).2 = true /\ za5 t 201 <= 200 /\ za7 17 t <= 16 /\ (zaY t).1 = (zaX t).1 := by
 unfold zaY at h ⊢
 by_cases q : 16 < za7 17 t \/ 200 < za5 t 201
 ·rw [if_pos q] at h; cases h
 rw [if_neg q] at h ⊢
 by_cases q2 : (zaX t).2 = true
 ·rw [if_pos q2]; exact ⟨q2, by omega, by omega, rfl⟩
 ·rw [if_neg q2] at h; cases h
theorem znt {t : Typ} : isNR t = true ↔ (zaY t).2 = 0 /\ (zaY t).1 = t := by
 unfold isNR; rw [Bool.and_eq_true, decide_eq_true_eq, zl4]
theorem zcN {t : Typ} (h : isNR t = true) : wfT t := by
 have h := znt.1 h
 rw [<- h.2]; exact zf7 t
theorem zti {t : Typ} (h : isNR t = true) : fewT t /\ za5 t 201 <= 200 := by
 have h := zqk (znt.1 h).1
 exact ⟨ze4 t 201 (by omega) (by omega), h.2.1⟩
mutual
def cntT : Typ -> Nat
 | .mk _ _ _ l => zbl l + 1
def zbl : List Typ -> Nat
 | [] => 0
 | t :: l => cntT t + zbl l
end
mutual
theorem znu : ∀ (t : Typ) (m : Int), za5 t m < m -> za5 t m = cntT t
 | .mk k n s l, m, h => by
  rw [za5] at h ⊢
  have := zl5 l m 1 (by omega) h
  rw [cntT]; omega
theorem zl5 : ∀ (l : List Typ) (m n : Int), 1 <= n -> zbb l m n < m -> zbb l m n = n + zbl l
 | [], m, n, h1, h => by rw [zbb, zbl]; omega
 | t :: l, m, n, h1, h => by
  have hle := zgM t (m - n)
  rw [zbb] at h ⊢
  by_cases q : n < m
  ·rw [if_pos q] at h ⊢
   have hle2 := zfy l m (n + za5 t (m - n)) (by omega)
   have i1 := zl5 l m (n + za5 t (m - n)) (by omega) h
   have i2 := znu t (m - n) (by omega)
   rw [zbl]; omega
  ·rw [if_neg q] at h; omega
end
theorem zuI (t : Typ) : 1 <= cntT t := by cases t; rw [cntT]; omega
theorem znv {t : Typ} (h : isNR t = true) : cntT t <= 200 := by
 have h := (zti h).2
 have := znu t 201 (by omega)
 omega
end Go.Gr
namespace Go.Gr
open Go.Abs Go.Proofs
theorem zhB {s : ByteArray} (h : zbm s = true) : s.size <= 32 := by
 unfold zbm at h
 split at h
 ·cases h
 ·simp at h; exact h.1
@[simp] theorem zcM (l : List Nat) : (bs l).size = l.length := by
 show (bs l).data.size = _
 simp [bs]
theorem zl2 (k : Int) (n : ByteArray) (s : List ByteArray) (l : List Typ) (br : Bool) : zbH (.mk k n s l) br =
  if k = 0 then bs [97, 110, 121] else if k = 1 then bs [110, 117, 108, 108] else if k = 2 then bs [98, 111, 111, 108] else if k = 3 then bs [105, 110, 116] else if k = 4 then bs [115, 116, 114]
  else if k = 5 then bs [123] ++ zbW s l (bs []) 0 ++ bs [125]
  else if k = 6 then (match l with
   | a :: b :: _ => if br = true then bs [40] ++ (zbH a true ++ bs [32, 45, 62, 32] ++ zbH b false) ++ bs [41] else zbH a true ++ bs [32, 45, 62, 32] ++ zbH b false
   | _ => bs [])
  else zd4 l (bs []) 0 := by rw [zbH.eq_def]; try rfl
mutual
theorem zb1 : ∀ (t : Typ) (br : Bool), wfT t -> (zbH t br).size + 60 <= 100 * cntT t
 | .mk k n s l, br, h => by
  have hw := h
  rw [wfT, zdi] at h
  obtain ⟨_, hl, hc⟩ := h
  have hl' := (zdi l).2 hl
  rw [zl2, cntT]
  split
  ·simp; omega
  split
  ·simp; omega
  split
  ·simp; omega
  split
  ·simp; omega
  split
  ·simp; omega
  split
  ·rename_i k5
   subst k5
   have hc : s.length = l.length /\ s.length <= 16 /\ ∀ x, x ∈ s -> zbm x = true := by
    rcases hc with ⟨_, q, _⟩ | ⟨_, q⟩ | ⟨q, _⟩ | ⟨q, _⟩
    ·omega
    ·exact q
    ·omega
    ·omega
   have := zfJ s l (bs []) 0 hl' hc.2.2
   simp at this ⊢
   omega
  split
  ·rename_i k6
   subst k6
   have hc : l.length = 2 := by
    rcases hc with ⟨_, q, _⟩ | ⟨q, _⟩ | ⟨_, _, q⟩ | ⟨q, _⟩
    ·omega
    ·omega
    ·exact q
    ·omega
   match l, hc, hl' with
   | [a, b], _, hl' =>
    rw [wfTs, wfTs] at hl'
    have ha := zb1 a true hl'.1
    have hb := zb1 b false hl'.2.1
    simp only [zbl]
    split
    ·simp; omega
    ·simp; omega
  ·have := zl3 l (bs []) 0 hl'
   simp at this
   omega
theorem zfJ : ∀ (s : List ByteArray) (l : List Typ) (out : ByteArray) (i : Nat), wfTs l -> (∀ x, x ∈ s -> zbm x = true) -> (zbW s l out i).size <= out.size + 100 * zbl l
 | [], l, out, i, h, hn => by rw [zbW]; omega; all_goals (intros; contradiction)
 | _ :: _, [], out, i, h, hn => by rw [zbW]; omega; all_goals (intros; contradiction)
 | s :: ss, t :: ts, out, i, h, hn => by
  rw [wfTs] at h
  have h1 := zb1 t false h.1
  have h3 := zhB (hn s (by simp))
  rw [zbW, zbl]
  have h2 := zfJ ss ts ((if 0 < i then out ++ bs [44, 32] else out) ++ s ++ bs [58, 32] ++ zbH t false) (i + 1) h.2 (fun x hx => hn x (by simp [hx]))
  refine Nat.le_trans h2 ?_
  split <;> simp <;> omega
theorem zl3 : ∀ (l : List Typ) (out : ByteArray) (i : Nat), wfTs l -> (zd4 l out i).size <= out.size + 100 * zbl l
 | [], out, i, h => by rw [zd4]; omega
 | t :: ts, out, i, h => by
  rw [wfTs] at h
  have h1 := zb1 t true h.1
  rw [zd4, zbl]
  have h2 := zl3 ts ((if 0 < i then out ++ bs [32, 124, 32] else out) ++ zbH t true) (i + 1) h.2
  refine Nat.le_trans h2 ?_
  split <;> simp <;> omega
end
abbrev zeZ (e : Typ) : Prop := ∀ br : Bool, PCall Pg F.g03_show [.agg e.enc, .one (.bool br)] (.one (.str (zbH e br)))
set_option maxRecDepth 20000 in
theorem ztb {c : Ctx} (hp : c.pure) (t : Typ) (hw : wfTs t.kids) (hn : t.names.length = t.kids.length) (hnm : ∀ x, x ∈ t.names -> zbm x = true) (hc : zbl t.kids <= 1000) (hl : t.names.length <= 1000) (ih : ∀ e, e ∈ t.kids -> zeZ e) (R : ByteArray) (hR : zbW t.names t.kids (bs []) 0 = R) {Q : Exit -> St -> Prop} {S : St} {g} {ms : List Nat}
  (h0 : Match ms S [(6, .c (.d (.int .i64 0))), (5, .c (.d (.str (bs [])))), (2, .c (.d (.rp t.enc 0)))] [])
  (hQ : ∀ T M n, Abs.look T 5 = .c (.d (.str R)) -> Q (.exit 1) ⟨T, M, n⟩) : lw_ Pg c zeq Q g S := by
 refine W.loop Pg_mixed hp (fun x : Nat × ByteArray => x.1 <= t.names.length /\ x.2.size + 100 * zbl (t.kids.drop x.1) <= 100 * zbl t.kids /\ zbW (t.names.drop x.1) (t.kids.drop x.1) x.2 x.1 = R) (fun x => [(6, .c (.d (.int .i64 x.1))), (5, .c (.d (.str x.2))), (2, .c (.d (.rp t.enc 0)))]) (fun _ => []) (fun x => t.names.length - x.1) (0, bs []) ms ⟨by simp, by simp, by simpa using hR⟩ h0 fun ⟨j, out⟩ ⟨h1, h2, h3⟩ => ?_
 unfold zeq
 simp only at h1 h2 h3
 simp
 refine gd.mk (fun h => ?_) (fun h => ?_)
 ·have hj : j < t.names.length := by simpa using h
  have hj2 : j < t.kids.length := by omega
  rw [List.drop_eq_getElem_cons hj, List.drop_eq_getElem_cons hj2, zbW] at h3
  rw [List.drop_eq_getElem_cons hj2, zbl] at h2
  have hnx := zhB (hnm _ (List.getElem_mem hj))
  have hsx := zb1 t.kids[j] false ((zdi _).1 hw _ (List.getElem_mem hj2))
  have hix := ih _ (List.getElem_mem hj2) false
  by_cases h0 : j = 0
  ·subst h0
   simp only [Nat.lt_irrefl, if_false] at h3
   simp [hj, hj2, zak]
   refine ⟨by omega, by omega, ?_⟩
   refine zac.mk hix ?_
   simp [zak]
   refine ⟨by omega, by decide, ?_⟩
   refine Abs.Next.mk (0 + 1, _) [] ⟨by simp only; omega, ?_, h3⟩ (by simp only; omega) ?_
   ·simp only [ByteArray.size_append, zcM, List.length_cons, List.length_nil]; omega
   ·simp
    decide
  ·have h0' : (0 : Int) < j := by omega
   have h0'' : 0 < j := by omega
   rw [if_pos h0''] at h3
   simp [h0', h0'', hj, hj2, zak]
   refine ⟨by omega, by omega, by omega, ?_⟩
   refine zac.mk hix ?_
   simp [zak]
   refine ⟨by omega, by decide, ?_⟩
   refine Abs.Next.mk (j + 1, _) [] ⟨by simp only; omega, ?_, h3⟩ (by simp only; omega) ?_
   ·simp; omega
   ·simp
    exact wrap_i64 (by omega) (by omega)
 ·have hj : j = t.names.length := by simp at h; omega
  subst hj
  rw [List.drop_length, zbW] at h3
  ·subst h3
   exact hQ _ _ _ (by simp)
  ·intros; contradiction
set_option maxRecDepth 20000 in
theorem ztc {c : Ctx} (hp : c.pure) (t : Typ) (hw : wfTs t.kids) (hc : zbl t.kids <= 1000) (hl : t.kids.length <= 1000) (ih : ∀ e, e ∈ t.kids -> zeZ e) (R : ByteArray) (hR : zd4 t.kids (bs []) 0 = R) {Q : Exit -> St -> Prop} {S : St} {g} {ms : List Nat}
  (h0 : Match ms S [(7, .c (.d (.int .i64 0))), (5, .c (.d (.str (bs [])))), (2, .c (.d (.rp t.enc 0)))] [])
  (hQ : ∀ T M n, Abs.look T 5 = .c (.d (.str R)) -> Q (.exit 3) ⟨T, M, n⟩) : lw_ Pg c zer Q g S := by
 refine W.loop Pg_mixed hp (fun x : Nat × ByteArray => x.1 <= t.kids.length /\ x.2.size + 100 * zbl (t.kids.drop x.1) <= 100 * zbl t.kids /\ zd4 (t.kids.drop x.1) x.2 x.1 = R) (fun x => [(7, .c (.d (.int .i64 x.1))), (5, .c (.d (.str x.2))), (2, .c (.d (.rp t.enc 0)))]) (fun _ => []) (fun x => t.kids.length - x.1) (0, bs []) ms ⟨by simp, by simp, by simpa using hR⟩ h0 fun ⟨j, out⟩ ⟨h1, h2, h3⟩ => ?_
 unfold zer
 simp only at h1 h2 h3
 simp
 refine gd.mk (fun h => ?_) (fun h => ?_)
 ·have hj2 : j < t.kids.length := by simpa using h
  rw [List.drop_eq_getElem_cons hj2, zd4] at h3
  rw [List.drop_eq_getElem_cons hj2, zbl] at h2
  have hsx := zb1 t.kids[j] true ((zdi _).1 hw _ (List.getElem_mem hj2))
  have hix := ih _ (List.getElem_mem hj2) true
  by_cases h0 : j = 0
  ·subst h0
   simp only [Nat.lt_irrefl, if_false] at h3
   simp [hj2, zak]
   refine zac.mk hix ?_
   simp [zak]
   refine ⟨by omega, ?_⟩
   refine Abs.Next.mk (0 + 1, _) [] ⟨by simp only; omega, ?_, h3⟩ (by simp only; omega) ?_
   ·simp only [ByteArray.size_append, zcM, List.length_cons, List.length_nil]; omega
   ·simp
    decide
  ·have h0' : (0 : Int) < j := by omega
   have h0'' : 0 < j := by omega
   rw [if_pos h0''] at h3
   simp [h0', h0'', hj2, zak]
   refine ⟨by omega, ?_⟩
   refine zac.mk hix ?_
   simp [zak]
   refine ⟨by omega, ?_⟩
   refine Abs.Next.mk (j + 1, _) [] ⟨by simp only; omega, ?_, h3⟩ (by simp only; omega) ?_
   ·simp; omega
   ·simp
    exact wrap_i64 (by omega) (by omega)
 ·have hj : j = t.kids.length := by simp at h; omega
  subst hj
  rw [List.drop_length, zd4] at h3
  subst h3
  exact hQ _ _ _ (by simp)
set_option maxRecDepth 20000 in
theorem ztd (t : Typ) (hw : wfT t) (hc : cntT t <= 1000) (ih : ∀ e, e ∈ t.kids -> zeZ e) : zeZ t := by
 intro br
 refine zqc (by simp) fun o c hN hp => ?_
 obtain ⟨R, hR⟩ : ∃ R, zbH t br = R := ⟨_, rfl⟩
 rw [hR]
 have hwf := (zbr t).1 hw
 have hws := (zdi t.kids).2 hwf.2.1
 have hcs : cntT t = zbl t.kids + 1 := by cases t; rw [cntT]; try rfl
 have hd := zl2 t.kind t.name t.names t.kids br
 rw [show Typ.mk t.kind t.name t.names t.kids = t by cases t; rfl, hR] at hd
 have hll : ∀ l : List Typ, l.length <= zbl l := by
  intro l
  induction l with
  | nil => simp
  | cons x l ih => have := zuI x; simp [zbl]; omega
 have hkl := hll t.kids
 unfold zi0
 by_cases k0 : t.kind = 0
 ·simp [k0] at hd
  simp [k0, hd]
 by_cases k1 : t.kind = 1
 ·simp [k1] at hd
  simp [k1, hd]
 by_cases k2 : t.kind = 2
 ·simp [k2] at hd
  simp [k2, hd]
 by_cases k3 : t.kind = 3
 ·simp [k3] at hd
  simp [k3, hd]
 by_cases k4 : t.kind = 4
 ·simp [k4] at hd
  simp [k4, hd]
 by_cases k5 : t.kind = 5
 ·simp [k5] at hd
  have hn : t.names.length = t.kids.length /\ t.names.length <= 16 /\ ∀ x, x ∈ t.names -> zbm x = true := by
   rcases hwf.2.2 with ⟨_, q, _⟩ | ⟨_, q⟩ | ⟨q, _⟩ | ⟨q, _⟩
   ·omega
   ·exact q
   ·omega
   ·omega
  have hfs := zfJ t.names t.kids (bs []) 0 hws hn.2.2
  simp only [zcM, List.length_nil, Nat.zero_add] at hfs
  simp [k5]
  refine ztb hp t hws hn.1 hn.2.2 (by omega) (by omega) ih _ rfl (ms := []) (by simp) fun T M n t5 => ?_
  generalize zbW t.names t.kids (bs []) 0 = f at *
  simp [t5, zak]
  refine ⟨by omega, by omega, ?_⟩
  rw [hd]
 by_cases k6 : t.kind = 6
 ·have hn : t.kids.length = 2 := by
   rcases hwf.2.2 with ⟨_, q, _⟩ | ⟨q, _⟩ | ⟨_, _, q⟩ | ⟨q, _⟩
   ·omega
   ·omega
   ·exact q
   ·omega
  obtain ⟨a, b, hab⟩ : ∃ a b, t.kids = [a, b] := by
   match t.kids, hn with
   | [a, b], _ => exact ⟨a, b, rfl⟩
  have hia := ih a (by rw [hab]; simp) true
  have hib := ih b (by rw [hab]; simp) false
  have hsa := zb1 a true (hwf.2.1 a (by rw [hab]; simp))
  have hsb := zb1 b false (hwf.2.1 b (by rw [hab]; simp))
  rw [hab] at hcs hd
  simp only [zbl] at hcs
  simp [k6] at hd
  simp [k6, hab, zak]
  refine zac.mk hia ?_
  simp [hab, zak]
  refine ⟨by omega, ?_⟩
  refine zac.mk hib ?_
  generalize zbH a true = sa at *
  generalize zbH b false = sb at *
  simp [zak]
  refine ⟨by omega, by decide, ?_⟩
  cases br with
  | true =>
   simp at hd
   simp [zak]
   refine ⟨by omega, by omega, ?_⟩
   rw [hd]
  | false =>
   simp at hd
   simp [hd]
 ·simp [k0, k1, k2, k3, k4, k5, k6] at hd
  simp [k0, k1, k2, k3, k4, k5, k6]
  refine ztc hp t hws (by omega) (by omega) ih R hd.symm (ms := []) (by simp) fun T M n t5 => ?_
  simp [t5]
mutual
theorem zpq : ∀ t : Typ, wfT t -> cntT t <= 1000 -> zeZ t
 | .mk k n s l, hw, hc => by
  have hws := hw
  rw [wfT] at hws
  rw [cntT] at hc
  exact ztd (.mk k n s l) hw (by rw [cntT]; omega) (fun e he => zno l hws.2.1 (by omega) e he)
theorem zno : ∀ l : List Typ, wfTs l -> zbl l <= 1000 -> ∀ e, e ∈ l -> zeZ e
 | [], _, _, e, h => by cases h
 | d :: l, hw, hc, e, h => by
  rw [wfTs] at hw
  rw [zbl] at hc
  cases h with
  | head => exact zpq d hw.1 (by omega)
  | tail _ h => exact zno l hw.2 (by omega) e h
end
theorem zim (t : Typ) : PCall Pg F.g03_Show [.agg t.enc] (.one (.str (zdb t))) := by
 refine zqb (by simp) fun o c hN hp => ?_
 obtain ⟨R, hR⟩ : ∃ R, zdb t = R := ⟨_, rfl⟩
 rw [hR]
 unfold zdb at hR
 have hi : isNR t = (decide ((zaY t).2 = 0) && za0 (zaY t).1 t) := rfl
 have hsh : isNR t = true -> zeZ t := fun h => zpq t (zcN h) (by have := znv h; omega)
 unfold ziZ
 simp
 refine zac.mk (zdS t) ?_
 generalize zaY t = N at *
 simp
 refine zac.mk (zeN _ _) ?_
 by_cases h : N.2 = 0
 ·by_cases h2 : za0 N.1 t = true
  ·have hx : isNR t = true := by rw [hi]; simp [h, h2]
   rw [if_pos hx] at hR
   simp [h, h2]
   refine zac.mk (hsh hx false) ?_
   simp [hR]
  ·have hx : ¬ isNR t = true := by rw [hi]; simp [h, h2]
   rw [if_neg hx] at hR
   subst hR
   simp [h, h2]
 ·have hx : ¬ isNR t = true := by rw [hi]; simp [h]
  rw [if_neg hx] at hR
  subst hR
  simp [h]
end Go.Gr
