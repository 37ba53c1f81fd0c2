/- Texts of ours, joined and written short by a program of ours. -/
import Derived.Test.YtnefbdgcccgodaaGreatJ10
import Derived.Test.YtnefbdgcccgodaaGreatJ09
set_option linter.unusedVariables false
set_option linter.unusedSimpArgs false
namespace Go.Gr
open Go.Abs Go.Proofs
theorem zgg (num : Bool) : ∀ l : List UInt8, runL num l <= l.length
 | [] => Nat.le_refl _
 | b :: l => by have := zgg num l; unfold runL; split <;> simp <;> omega
theorem ziw : ∀ (r : Bool) (l : List UInt8), blkL r l <= l.length
 | _, [] => by cases ‹Bool› <;> simp [blkL]
 | true, c :: l => by have := ziw (decide (c ≠ 10)) l; rw [blkL, List.length_cons]; omega
 | false, c :: l => by
  have h1 := ziw true l
  have h2 := ziw false l
  rw [blkL]; split
  ·simp; omega
  ·split <;> simp <;> omega
theorem zix : ∀ (n : Nat) (l : List UInt8), l.length <= n -> ∀ t k, quoL l = some (t, k) -> 0 < k /\ k <= l.length
 | n, [], _, t, k, e => by simp [quoL] at e
 | 0, c :: l, h, _, _, _ => by simp at h
 | n + 1, c :: l, h, t, k, e => by
  rw [zl0] at e
  split at e
  ·simp at e; obtain ⟨_, rfl⟩ := e; simp
  split at e
  ·cases e
  split at e
  ·rw [Option.map_eq_some_iff] at e
   obtain ⟨⟨t', k'⟩, e1, e2⟩ := e
   simp only [Prod.mk.injEq] at e2
   have := zix n l (by simpa using h) t' k' e1
   simp; omega
  ·cases l with
   | nil => simp [quoE] at e
   | cons d l =>
    have H : ∀ t' k', quoL l = some (t', k') -> 0 < k' /\ k' <= l.length := fun t' k' e1 => zix n l (by simp at h; omega) t' k' e1
    rw [quoE] at e
    repeat' split at e
    all_goals first | (cases e; done) | skip
    all_goals
     rw [Option.map_eq_some_iff] at e
     obtain ⟨⟨t', k'⟩, e1, e2⟩ := e
     simp only [Prod.mk.injEq] at e2
     have := H t' k' e1
     simp; omega
theorem zn1 (l : List UInt8) : zd1 l <= l.length := by
 unfold zd1
 split
 ·rename_i h
  rw [List.any_eq_true] at h
  obtain ⟨t, ht, h⟩ := h
  have h2 : t.length = 2 := (by decide : ∀ t ∈ twoL, t.length = 2) t ht
  simp only [decide_eq_true_eq] at h
  have := congrArg List.length h
  rw [List.length_take] at this
  omega
 ·cases l with
  | nil => simp
  | cons c l => simp; split <;> omega
def TokR.enc (t : TokR) : List D := [.int .i64 t.kind, .str (bA t.text), .int .i64 0, .int .i64 0]
abbrev runT (s : ByteArray) (a b : Bool) (j : Nat) : List (Nat × AV) := [(7, .c (.d (.int .i64 j))), (6, .c (.d (.bool b))), (5, .c (.d (.bool a))), (2, .c (.ptr 0 0)), (0, .c (.d (.str s)))]
abbrev tkB : Blk := .box [.d (.int .i64 0), .d (.str (bs [])), .d (.int .i64 0), .d (.int .i64 0)]
set_option maxRecDepth 20000 in
theorem zsa {c : Ctx} (hp : c.pure) (s : ByteArray) (hs : s.size <= 4611686018427387904) (a num : Bool) (R : Nat) (hR : runL num s.data.toList = R) {Q : Exit -> St -> Prop} {S : St} {g} {ms : List Nat}
  (h0 : Match ms S (runT s a num 0) [tkB])
  (hQ : ∀ T M n, Abs.look T 7 = .c (.d (.int .i64 R)) -> Abs.look T 6 = .c (.d (.bool num)) -> Abs.look T 5 = .c (.d (.bool a)) -> Abs.look T 2 = .c (.ptr 0 0) -> Abs.look T 0 = .c (.d (.str s)) -> M 0 = tkB -> Q (.exit 0) ⟨T, M, n⟩) : lw_ Pg c zdV Q g S := by
 have hlen := zbk s
 refine W.loop Pg_mixed hp (fun j : Nat => j <= s.size /\ j + runL num (s.data.toList.drop j) = R) (fun j => runT s a num j) (fun _ => [tkB]) (fun j => s.size - j) 0 ms ⟨by simp, by simpa using hR⟩ h0 fun j ⟨h1, h2⟩ => ?_
 unfold zdV
 simp
 refine gd.mk (fun h => ?_) (fun h => ?_)
 ·have hj : j < s.size := by simpa using h
  have hj' : j < s.data.toList.length := by omega
  rw [List.drop_eq_getElem_cons hj', runL] at h2
  have hb := zcf hj'
  generalize s.data.toList[j] = b at h2 hb
  have hd : digU b = digV b.toNat := rfl
  have hle : letU b = letV b.toNat := rfl
  simp [hb]
  refine zac.mk (zic b.toNat) ?_
  rw [<- hle]
  simp [hb]
  refine zac.mk (zgV b.toNat) ?_
  rw [<- hd]
  generalize letU b = x1 at *
  generalize digU b = x2 at *
  cases x1 <;> cases x2 <;> cases num
  all_goals
   simp at h2
   simp
  ·exact hQ _ _ _ (by simp; omega) (by simp) (by simp) (by simp) (by simp) (by simp)
  ·exact hQ _ _ _ (by simp; omega) (by simp) (by simp) (by simp) (by simp) (by simp)
  ·refine Abs.Next.mk (j + 1) [0] ⟨by omega, by omega⟩ (by omega) ?_
   simp
   exact wrap_i64 (by omega) (by omega)
  ·refine Abs.Next.mk (j + 1) [0] ⟨by omega, by omega⟩ (by omega) ?_
   simp
   exact wrap_i64 (by omega) (by omega)
  ·refine Abs.Next.mk (j + 1) [0] ⟨by omega, by omega⟩ (by omega) ?_
   simp
   exact wrap_i64 (by omega) (by omega)
  ·exact hQ _ _ _ (by simp; omega) (by simp) (by simp) (by simp) (by simp) (by simp)
  ·refine Abs.Next.mk (j + 1) [0] ⟨by omega, by omega⟩ (by omega) ?_
   simp
   exact wrap_i64 (by omega) (by omega)
  ·refine Abs.Next.mk (j + 1) [0] ⟨by omega, by omega⟩ (by omega) ?_
   simp
   exact wrap_i64 (by omega) (by omega)
 ·have hj : j = s.size := by simp at h; omega
  subst hj
  rw [List.drop_of_length_le (by omega), runL] at h2
  exact hQ _ _ _ (by simp; omega) (by simp) (by simp) (by simp) (by simp) (by simp)
theorem ext0 (s : ByteArray) (i : Nat) : s.extract 0 i = bA (s.data.toList.take i) := by rw [ext_bA]; try rfl
abbrev tokV (t : TokR) : DV := .tup [.agg t.enc, .one (.int .i64 t.len), .one (.int .i64 t.e)]
set_option maxRecDepth 20000 in
theorem ztH (s : ByteArray) (hpos : 0 < s.size) : PCall Pg F.g02_token [.one (.str s)] (tokV (tokL s.data.toList)) := by
 refine zoX (by simp) fun o c' hN hp => ?_
 have hs : s.size <= zak := by have := o.1; simpa only [DV.ok, D.ok] using this
 unfold zak at hs
 have hlen := zbk s
 have hj0 : 0 < s.data.toList.length := by omega
 have hb0 := zcf hj0
 have cq := zrC s hpos
 have csg := zu3 s hpos
 have hql := zix (s.data.toList.drop 1).length (s.data.toList.drop 1) (Nat.le_refl _)
 obtain ⟨R, hR⟩ : ∃ R, tokL s.data.toList = R := ⟨_, rfl⟩
 rw [hR]
 have hrl := zgg false s.data.toList
 have hrd := zgg true s.data.toList
 have hsl := zn1 s.data.toList
 have hx : ∀ i, s.extract 0 i = bA (s.data.toList.take i) := ext0 s
 generalize hl : s.data.toList = l at *
 cases l with
 | nil => simp at hj0
 | cons c r =>
 simp only [List.getElem_cons_zero] at hb0
 simp only [List.drop_one, List.tail_cons] at cq hql
 rw [tokL] at hR
 have hd : digU c = digV c.toNat := rfl
 have hle : letU c = letV c.toNat := rfl
 unfold zhN
 simp [hb0]
 refine zac.mk (zic c.toNat) ?_
 rw [<- hle]
 simp [hb0]
 refine zac.mk (zgV c.toNat) ?_
 rw [<- hd]
 by_cases q1 : letU c = true
 ·rw [if_pos q1] at hR
  have q2 : digU c = false := by
   unfold letU letV at q1; unfold digU digV
   simp at q1 ⊢; omega
  simp [q1, q2]
  refine zsa hp s hs true false (runL false (c :: r)) (by rw [hl]) (ms := [0]) (by simp) fun T M n t7 t6 t5 t2 t0 m0 => ?_
  simp [t5, t7]
  by_cases q3 : 32 < runL false (c :: r)
  ·have q3' : (32 : Int) < (runL false (c :: r) : Nat) := by omega
   rw [if_pos q3] at hR
   subst hR
   simp [q3, q3', t2, m0]
   exact ⟨rfl, rfl, rfl⟩
  rw [if_neg q3] at hR
  have q3' : ¬ (32 : Int) < (runL false (c :: r) : Nat) := by omega
  have hxi := hx (runL false (c :: r))
  have hw := zlD (bA (List.take (runL false (c :: r)) (c :: r)))
  generalize runL false (c :: r) = i at *
  have hi2 : i <= s.size := by simp at hlen hrl; omega
  simp [q3, q3', t0, t7, hi2, hxi]
  refine zac.mk hw ?_
  generalize hu : bA (List.take i (c :: r)) = u at *
  by_cases q4 : zkV u = true
  ·rw [if_pos q4] at hR
   subst hR
   simp [q4, t0, t7, hi2, hxi, t2, m0, TokR.enc, hu]
  ·rw [if_neg q4] at hR
   subst hR
   simp [q4, t0, t7, hi2, hxi, t2, m0, TokR.enc, hu]
 rw [if_neg q1] at hR
 by_cases q2 : digU c = true
 ·rw [if_pos q2] at hR
  rw [Bool.not_eq_true] at q1
  simp [q1, q2]
  refine zsa hp s hs false true (runL true (c :: r)) (by rw [hl]) (ms := [0]) (by simp) fun T M n t7 t6 t5 t2 t0 m0 => ?_
  have hxi := hx (runL true (c :: r))
  have hpz := zn2 (bA (List.take (runL true (c :: r)) (c :: r)))
  have hpi : zce (bA (List.take (runL true (c :: r)) (c :: r))) = zd9 (List.take (runL true (c :: r)) (c :: r)) := by unfold zce; rfl
  rw [hpi] at hpz
  generalize runL true (c :: r) = i at *
  have hi2 : i <= s.size := by simp at hlen hrd; omega
  simp [t5, t6, t7, t0, hi2, hxi]
  refine zac.mk hpz ?_
  generalize hu : bA (List.take i (c :: r)) = u at *
  generalize zd9 (List.take i (c :: r)) = pz at *
  by_cases q4 : pz.2 = true
  ·rw [if_pos q4] at hR
   subst hR
   simp [q4, t0, t7, hi2, hxi, t2, m0, TokR.enc, hu]
  ·rw [if_neg q4] at hR
   subst hR
   simp [q4, t0, t7, hi2, hxi, t2, m0, TokR.enc, hu]
   exact ⟨⟨rfl, rfl⟩, rfl, rfl⟩
 rw [if_neg q2] at hR
 rw [Bool.not_eq_true] at q1 q2
 simp [q1, q2]
 by_cases q3 : c = 34
 ·subst q3
  rw [if_pos rfl] at hR
  simp [hb0]
  refine zac.mk cq ?_
  unfold quoR
  cases hq : quoL r with
  | none =>
   rw [hq] at hR
   simp only at hR
   subst hR
   simp
   exact ⟨rfl, rfl, rfl⟩
  | some x =>
   obtain ⟨t, k⟩ := x
   rw [hq] at hR
   have hk := hql t k hq
   have hsz : (bA t).size = t.length := by rw [<- zbk]; simp [bA]
   have hk0 : ¬ (1 : Int) + k = 0 := by omega
   by_cases q4 : 256 < t.length
   ·have q4' : (256 : Int) < t.length := by omega
    simp only [q4, if_true] at hR
    subst hR
    simp [hsz, q4, q4', hk0]
    exact ⟨rfl, rfl, rfl⟩
   ·have q4' : ¬ (256 : Int) < t.length := by omega
    simp only [q4, if_false] at hR
    subst hR
    simp [hsz, q4, q4', hk0, TokR.enc]
    omega
 rw [if_neg q3] at hR
 have q3' := un q3
 simp at q3'
 simp [hb0, q3, q3']
 refine zac.mk csg ?_
 have hxi := hx (zd1 (c :: r))
 generalize zd1 (c :: r) = i at *
 have hi2 : i <= s.size := by simp at hlen hsl; omega
 by_cases q4 : i = 0
 ·rw [if_pos q4] at hR
  subst hR
  simp [q4]
  exact ⟨rfl, rfl, rfl⟩
 ·rw [if_neg q4] at hR
  have q4' : ¬ (i : Int) = 0 := by omega
  subst hR
  simp [q4, q4', hi2, hxi, TokR.enc]
end Go.Gr
namespace Go.Gr
open Go.Abs Go.Proofs
theorem zpj {l : List UInt8} (h : (tokL l).e = 0) : 0 < (tokL l).len /\ (tokL l).len <= l.length := by
 cases l with
 | nil => simp [tokL, badR] at h
 | cons c r =>
  have hrl := zgg false (c :: r)
  have hrd := zgg true (c :: r)
  have hsl := zn1 (c :: r)
  have hql := zix r.length r (Nat.le_refl _)
  rw [tokL] at h ⊢
  split
  ·rename_i q
   rw [if_pos q] at h
   split
   ·rename_i p; rw [if_pos p] at h; simp [badR] at h
   ·refine ⟨?_, hrl⟩
    show 0 < runL false (c :: r)
    rw [runL, if_pos (by simp [q])]; omega
  rename_i q1
  rw [if_neg q1] at h
  split
  ·rename_i q
   rw [if_pos q] at h
   split
   ·refine ⟨?_, hrd⟩
    show 0 < runL true (c :: r)
    rw [runL, if_pos (by simp [q])]; omega
   ·rename_i p; rw [if_neg p] at h; simp [badR] at h
  rename_i q2
  rw [if_neg q2] at h
  split
  ·rename_i q
   rw [if_pos q] at h
   cases e : quoL r with
   | none => rw [e] at h; simp [badR] at h
   | some x =>
    obtain ⟨t, n⟩ := x
    rw [e] at h
    simp only at h ⊢
    have := hql t n e
    split
    ·rename_i p; rw [if_pos p] at h; simp [badR] at h
    ·simp; omega
  rename_i q3
  rw [if_neg q3] at h
  split
  ·rename_i p; rw [if_pos p] at h; simp [badR] at h
  ·simp only; omega
theorem zjt : ∀ (l : List UInt8) (a b : Int), 1 <= a -> 1 <= b -> 1 <= (zbd l a b).1 /\ 1 <= (zbd l a b).2 /\ (zbd l a b).1 <= a + l.length /\ (zbd l a b).2 <= b + l.length
 | [], a, b, h1, h2 => by simp [zbd]; omega
 | c :: l, a, b, h1, h2 => by
  rw [zbd]
  split
  ·have := zjt l (a + 1) 1 (by omega) (by omega)
   simp only [List.length_cons]; omega
  ·have := zjt l a (b + 1) (by omega) (by omega)
   simp only [List.length_cons]; omega
abbrev lexT (s : ByteArray) (line col : Int) (at' n : Nat) : List (Nat × AV) := [(6, .c (.d (.int .i64 col))), (5, .c (.d (.int .i64 line))), (7, .c (.d (.int .i64 at'))), (4, .c (.msl 4 1 0 n)), (3, .c (.ptr 0 0)), (0, .c (.d (.str s)))]
abbrev dB : Blk := .box [.d (.int .i64 0), .d (.int .i64 0), .d (.int .i64 0), .d (.int .i64 0)]
abbrev lexB (ts : List Tok) : List Blk := [dB, .arr 4 ((ts.map Tok.enc).map (·.map .d))]
set_option maxRecDepth 20000 in
theorem zuz {c : Ctx} (hp : c.pure) (s : ByteArray) (hs : s.size <= 65536) (ts : List Tok) (a k : Nat) (hk : a + k <= s.size) (l0 c0 : Int) (hl0 : 1 <= l0) (hc0 : 1 <= c0) (hl1 : l0 <= 100000) (hc1 : c0 <= 100000) (R : Int × Int) (hR : zbd ((s.data.toList.drop a).take k) l0 c0 = R) {Q : Exit -> St -> Prop} {S : St} {g} {ms : List Nat}
  (h0 : Match ms S ((9, .c (.d (.int .i64 a))) :: (8, .c (.d (.int .i64 k))) :: lexT s l0 c0 a ts.length) (lexB ts))
  (hQ : ∀ T, Abs.look T 6 = .c (.d (.int .i64 R.2)) -> Abs.look T 5 = .c (.d (.int .i64 R.1)) -> Abs.look T 7 = .c (.d (.int .i64 a)) -> Abs.look T 8 = .c (.d (.int .i64 k)) -> Abs.look T 4 = .c (.msl 4 1 0 ts.length) -> Abs.look T 3 = .c (.ptr 0 0) -> Abs.look T 0 = .c (.d (.str s)) -> Q (.exit 2) ⟨T, hpOf (lexB ts), 2⟩) : lw_ Pg c ze6 Q g S := by
 have hlen := zbk s
 obtain ⟨e, he⟩ : ∃ e, e = a + k := ⟨_, rfl⟩
 have hw2 : IntKind.i64.wrap ((a : Int) + k) = (e : Int) := by rw [wrap_i64 (by omega) (by omega)]; omega
 refine W.loop Pg_mixed hp (fun x : Nat × Int × Int => a <= x.1 /\ x.1 <= e /\ 1 <= x.2.1 /\ 1 <= x.2.2 /\ x.2.1 <= 100000 + x.1 /\ x.2.2 <= 100000 + x.1 /\ zbd ((s.data.toList.drop x.1).take (e - x.1)) x.2.1 x.2.2 = R)
  (fun x => (9, .c (.d (.int .i64 x.1))) :: (8, .c (.d (.int .i64 k))) :: lexT s x.2.1 x.2.2 a ts.length) (fun _ => lexB ts) (fun x => e - x.1) (a, l0, c0) ms ⟨Nat.le_refl _, by simp only; omega, hl0, hc0, by simp only; omega, by simp only; omega, by simp only; rw [he, Nat.add_sub_cancel_left]; exact hR⟩ h0 fun ⟨j, li, co⟩ ⟨h0', h1, h2, h3, h4, h5, h6⟩ => ?_
 unfold ze6
 simp only at h0' h1 h2 h3 h4 h5 h6
 have hw1 : IntKind.i64.wrap ((j : Int) + 1) = ((j + 1 : Nat) : Int) := by rw [wrap_i64 (by omega) (by omega)]; omega
 have hw3 : IntKind.i64.wrap (co + 1) = co + 1 := wrap_i64 (by omega) (by omega)
 have hw4 : IntKind.i64.wrap (li + 1) = li + 1 := wrap_i64 (by omega) (by omega)
 by_cases hj : j < e
 ·have hj' : j < s.data.toList.length := by omega
  rw [List.drop_eq_getElem_cons hj', show e - j = (e - (j + 1)) + 1 by omega, List.take_succ_cons, zbd] at h6
  have hb := zcf hj'
  generalize s.data.toList[j] = b at h6 hb
  by_cases q : b = 10
  ·rw [if_pos q] at h6
   subst q
   simp [hw2, hb, hj]
   refine Abs.Next.mk (j + 1, li + 1, 1) [0, 1] ⟨by simp only; omega, by simp only; omega, by simp only; omega, by simp, by simp only; omega, by simp only; omega, h6⟩ (by simp only; omega) ?_
   simp [hw1, hw4]
  ·rw [if_neg q] at h6
   have q' := un q
   simp at q'
   simp [hw2, hb, hj, q, q']
   refine Abs.Next.mk (j + 1, li, co + 1) [0, 1] ⟨by simp only; omega, by simp only; omega, by simp only; omega, by simp only; omega, by simp only; omega, by simp only; omega, h6⟩ (by simp only; omega) ?_
   simp [hw1, hw3]
 ·have : j = e := by omega
  subst this
  rw [Nat.sub_self, List.take_zero, zbd] at h6
  subst h6
  simp [hw2]
  exact hQ _ (by simp) (by simp) (by simp) (by simp) (by simp) (by simp) (by simp)
theorem zlf (l : List UInt8) : (bA l).data.toList = l := by simp [bA]
theorem zpk (l : List UInt8) : (bA l).size = l.length := by rw [<- zbk, zlf]
theorem zpl (s : ByteArray) (p : Nat) : s.extract p s.size = bA (s.data.toList.drop p) := by
 rw [ext_bA, List.take_of_length_le (by rw [List.length_drop, zbk]; omega)]
@[simp] theorem Dia.enc_length (d : Dia) : d.enc.length = 4 := rfl
theorem zpm (n : Nat) (l : List UInt8) (a b : Int) (ts : List Tok) : lexL (n + 1) l a b ts =
  if l.drop (blkL false l) = [] then (ts ++ [⟨0, bs [], (zbd (l.take (blkL false l)) a b).1, (zbd (l.take (blkL false l)) a b).2⟩], noD)
  else if (if (tokL (l.drop (blkL false l))).e = 0 /\ ts.length = 8192 then 19 else (tokL (l.drop (blkL false l))).e) ≠ 0 then ([], ⟨0, (zbd (l.take (blkL false l)) a b).1, (zbd (l.take (blkL false l)) a b).2, if (tokL (l.drop (blkL false l))).e = 0 /\ ts.length = 8192 then 19 else (tokL (l.drop (blkL false l))).e⟩)
  else lexL n ((l.drop (blkL false l)).drop (tokL (l.drop (blkL false l))).len) (zbd (l.take (blkL false l)) a b).1 ((zbd (l.take (blkL false l)) a b).2 + (tokL (l.drop (blkL false l))).len) (ts ++ [⟨(tokL (l.drop (blkL false l))).kind, bA (tokL (l.drop (blkL false l))).text, (zbd (l.take (blkL false l)) a b).1, (zbd (l.take (blkL false l)) a b).2⟩]) := rfl
set_option maxRecDepth 20000 in
set_option maxHeartbeats 2000000 in
theorem zvi (s : ByteArray) : PCall Pg F.g02_Lex [.one (.str s)] (.tup [.one (.sl false 4 ((lexP s).1.map Tok.enc)), .agg (lexP s).2.enc]) := by
 refine zrT (by simp) fun o c' hN hp => ?_
 have hs : s.size <= zak := by have := o.1; simpa only [DV.ok, D.ok] using this
 unfold zak at hs
 have hlen := zbk s
 obtain ⟨F0, hF0⟩ : ∃ F0, lexP s = F0 := ⟨_, rfl⟩
 rw [hF0]
 unfold lexP at hF0
 unfold zkp
 by_cases h6 : 65536 < s.size
 ·have h6' : (65536 : Int) < s.size := by omega
  rw [if_pos h6] at hF0
  subst hF0
  simp [h6, h6', Dia.enc]
 have h6' : ¬ (65536 : Int) < s.size := by omega
 rw [if_neg h6] at hF0
 simp [h6, h6']
 refine owK.mk [.t 4] ?_
 simp
 refine W.loop Pg_mixed hp (fun x : Nat × Nat × Int × Int × List Tok => lexL x.1 (s.data.toList.drop x.2.1) x.2.2.1 x.2.2.2.1 x.2.2.2.2 = F0 /\ x.2.1 <= s.size /\ s.size < x.1 + x.2.1 /\ x.2.2.2.2.length <= 8192 /\ 1 <= x.2.2.1 /\ 1 <= x.2.2.2.1 /\ x.2.2.1 <= 1 + x.2.1 /\ x.2.2.2.1 <= 1 + x.2.1)
  (fun x => lexT s x.2.2.1 x.2.2.2.1 x.2.1 x.2.2.2.2.length) (fun x => lexB x.2.2.2.2) (fun x => x.1) (s.size + 1, 0, 1, 1, []) [0, 1] ⟨by simpa using hF0, by simp, by simp only; omega, by simp, by simp, by simp, by simp, by simp⟩ (by simp) fun ⟨n, p, li, co, ts⟩ ⟨i1, i2, i3, i4, i5, i6, i7, i8⟩ => ?_
 unfold zhO
 simp only at i1 i2 i4 i5 i6 i7 i8
 have i3 : s.size < n + p := i3
 obtain ⟨n, rfl⟩ : ∃ m, n = m + 1 := ⟨n - 1, by omega⟩
 rw [zpm] at i1
 have hb := zs8 (bA (s.data.toList.drop p))
 rw [zlf] at hb
 have hbl := ziw false (s.data.toList.drop p)
 rw [List.length_drop, hlen] at hbl
 have hx := zpl s p
 simp [i2, hx]
 refine zac.mk hb ?_
 obtain ⟨k, hk⟩ : ∃ k, blkL false (s.data.toList.drop p) = k := ⟨_, rfl⟩
 rw [hk] at i1 hbl
 simp [hk]
 obtain ⟨q, hq⟩ : ∃ q, zbd ((s.data.toList.drop p).take k) li co = q := ⟨_, rfl⟩
 have hqb := zjt ((s.data.toList.drop p).take k) li co i5 i6
 rw [hq] at i1 hqb
 have htk : ((s.data.toList.drop p).take k).length = k := by rw [List.length_take, List.length_drop]; omega
 rw [htk] at hqb
 refine zuz hp s (by omega) ts p k (by omega) li co i5 i6 (by omega) (by omega) q hq (ms := [0, 1]) (by simp) fun T t6 t5 t7 t8 t4 t3 t0 => ?_
 have hw : IntKind.i64.wrap ((p : Int) + k) = ((p + k : Nat) : Int) := by rw [wrap_i64 (by omega) (by omega)]; omega
 rw [List.drop_drop] at i1
 have hx2 := zpl s (p + k)
 obtain ⟨p', hp'⟩ : ∃ p', p + k = p' := ⟨_, rfl⟩
 rw [hp'] at hw i1 hx2
 simp [t7, t8, hw, t0]
 by_cases he : s.size <= p'
 ·have he' : p' = s.size := by omega
  rw [if_pos (List.drop_of_length_le (by omega))] at i1
  subst i1
  have z : List.take ts.length (List.map ((fun x => List.map AC.d x) ∘ Tok.enc) ts) = List.map ((fun x => List.map AC.d x) ∘ Tok.enc) ts := List.take_of_length_le (by simp)
  have z2 : List.take (ts.length + 1) (List.map Tok.enc ts ++ [[.int .i64 0, .str (bs []), .int .i64 q.1, .int .i64 q.2]]) = List.map Tok.enc ts ++ [[.int .i64 0, .str (bs []), .int .i64 q.1, .int .i64 q.2]] := List.take_of_length_le (by simp)
  simp [he, t4, t5, t6, t3, z, z2]
  exact ⟨by omega, rfl, rfl⟩
 rw [if_neg (fun h => by have := congrArg List.length h; rw [List.length_drop] at this; simp at this; omega)] at i1
 have ht := ztH (bA (s.data.toList.drop p')) (by rw [zpk, List.length_drop]; omega)
 rw [zlf] at ht
 have htl := zpj (l := s.data.toList.drop p')
 rw [List.length_drop] at htl
 generalize tokL (s.data.toList.drop p') = t at *
 have hp2 : p' <= s.size := by omega
 simp [he, hp2, hx2, t7, t0]
 refine zac.mk ht ?_
 by_cases e0 : t.e = 0
 ·have htl := htl e0
  by_cases hm : ts.length = 8192
  ·rw [if_pos (by rw [if_pos ⟨e0, hm⟩]; decide), if_pos ⟨e0, hm⟩] at i1
   subst i1
   have hm' : ((ts.length : Nat) : Int) = 8192 := by omega
   simp [t4, t5, t6, t3, TokR.enc, e0, hm, hm', Dia.enc]
  ·have hm' : ¬ ((ts.length : Nat) : Int) = 8192 := by omega
   rw [if_neg (by rw [if_neg (fun h => hm h.2)]; simpa using e0), List.drop_drop] at i1
   have hw1 : IntKind.i64.wrap ((p' : Int) + t.len) = ((p' + t.len : Nat) : Int) := by rw [wrap_i64 (by omega) (by omega)]; omega
   have hw2 : IntKind.i64.wrap (q.2 + t.len) = q.2 + t.len := wrap_i64 (by omega) (by omega)
   simp [t4, t5, t6, t3, t7, TokR.enc, e0, hm, hm', hw1, hw2]
   refine ⟨by omega, ?_⟩
   refine Abs.Next.mk (n, p' + t.len, q.1, q.2 + t.len, ts ++ [⟨t.kind, bA t.text, q.1, q.2⟩]) [0, 3] ⟨i1, by simp only; omega, by simp only; omega, by simp; omega, by simp only; omega, by simp only; omega, by simp only; omega, by simp only; omega⟩ (by simp) ?_
   have z : List.take ts.length (List.map ((fun x => List.map AC.d x) ∘ Tok.enc) ts) = List.map ((fun x => List.map AC.d x) ∘ Tok.enc) ts := List.take_of_length_le (by simp)
   simp [t3, t0, t5, hw1, hw2, Tok.enc, z]
 ·rw [if_pos (by rw [if_neg (fun h => e0 h.1)]; exact e0), if_neg (fun h => e0 h.1)] at i1
  subst i1
  simp [t4, t5, t6, t3, TokR.enc, e0, Dia.enc]
end Go.Gr
namespace Go.Gr
open Go.Abs Go.Proofs
def noM : Mdl := ⟨[], []⟩
def ps0 : PS := ⟨0, 0, 0, 0, 0⟩
def endP (L : List Tok) (p : PS) : PS := if p.e = 0 /\ (curT L p).kind ≠ 0 then zcx L 7 p else p
def zba (s : ByteArray) : Mdl × Dia :=
 let x := lexP s
 if x.2.e ≠ 0 then (noM, x.2) else
  let m := zdr x.1 ps0
  let p := endP x.1 m.2
  if p.e ≠ 0 then (noM, ⟨0, p.line, p.col, p.e⟩) else (m.1, ⟨0, p.line, p.col, p.e⟩)
end Go.Gr
namespace Go.Gr
open Go.Abs Go.Proofs
def zwf (x : D) (l : List Typ) : Prop := (x = .sl false 4 (l.map Typ.enc) /\ l.length = 2) \/ ∃ row t, x = .sl true 4 [row] /\ D.erdL row = t.enc /\ row.length = 4 /\ l = [t]
theorem ztJ (a b c d e f g h i j k l m n o : AC) (N : Nod) : splice [a, b, c, d, e, f, g, h, i, j, k, l, m, n, o] 5 (N.enc.map AC.d) = a :: b :: c :: d :: e :: (N.enc.map .d ++ [n, o]) := by rw [N.enc_eq]; try rfl
theorem zwg (a b c d e n o : AC) (N : Nod) : cut (a :: b :: c :: d :: e :: (N.enc.map .d ++ [n, o])) 0 15 = a :: b :: c :: d :: e :: (N.enc.map .d ++ [n, o]) := by rw [N.enc_eq]; try rfl
theorem zvD (a b c d e n o : D) (N : Nod) : cut (a :: b :: c :: d :: e :: (N.enc ++ [n, o])) 0 15 = a :: b :: c :: d :: e :: (N.enc ++ [n, o]) := by rw [N.enc_eq]; try rfl
theorem zvE (N : Nod) (a b : D) : allD (N.enc.map AC.d ++ [.d a, .d b]) = some (N.enc ++ [a, b]) := by
 have e : N.enc.map AC.d ++ [.d a, .d b] = (N.enc ++ [a, b]).map .d := by simp
 rw [e]; exact znP _
theorem zvF (f : Nat -> Nat) (N : Nod) (a b : D) : AC.rens f (N.enc.map AC.d ++ [.d a, .d b]) = N.enc.map AC.d ++ [.d a, .d b] := by
 have e : N.enc.map AC.d ++ [.d a, .d b] = (N.enc ++ [a, b]).map .d := by simp
 rw [e]; exact AC.rens_D _ _
theorem zwh (n : Nat) (N : Nod) (a b : D) : AC.lts n (N.enc.map AC.d ++ [.d a, .d b]) = true := by
 have e : N.enc.map AC.d ++ [.d a, .d b] = (N.enc ++ [a, b]).map .d := by simp
 rw [e]; exact AC.lts_D _ _
theorem zjM {α β : Type} (f : α -> β) (v : List α) : List.take v.length (v.map f) = v.map f := List.take_of_length_le (by rw [List.length_map]; exact Nat.le_refl _)
attribute [simp] ztJ zwg zvD zvE zvF zwh
section
variable {L : List Tok}
set_option maxRecDepth 20000 in
set_option maxHeartbeats 2000000 in
theorem zsb (hL : OkL L) (hl : L.length <= 10000) {d : Nat} {ki : PS -> Typ × PS} (hk : Tame L ki) (Hk : KiOk L d ki) (p : PS) (h : p.at' < L.length) (hd : p.deep = d) :
  ∃ x, zwf x (zbD L ki p).1.2 /\ MCall Pg F.gp_head [.c (.ptr 0 0)] [psB L p] (.tup [.c (.d (.str (zbD L ki p).1.1)), .c (.d x)]) [psB L (zbD L ki p).2] := by
 have t1 := zap hL h (s := bs [40])
 have t2 := t1.trans (zaK hL t1.lt)
 have t3 := t2.trans (zdo hL hk _ t2.lt)
 have t4 := t3.trans (zap hL t3.lt (s := bs [41]))
 have c1 := zaI hL (bs [40]) p h hl
 have c2 := zbw _ t1.lt hl
 have c3 := zeT hL hl Hk _ t2.lt (by rw [t2.deep, hd])
 have c4 := zaI hL (bs [41]) _ t3.lt hl
 have c5 := zeT hL hl Hk _ t4.lt (by rw [t4.deep, hd])
 have n1 := zez (L := L) ki (zaz L (zax L (bs [40]) p)).2
 have n2 := zez (L := L) ki (zax L (bs [41]) (zbe L ki (zaz L (zax L (bs [40]) p)).2).2)
 unfold zbD
 simp only
 generalize zax L (bs [40]) p = p1 at *
 generalize (zaz L p1).1 = s1 at *
 generalize (zaz L p1).2 = p2 at *
 generalize (zbe L ki p2).1 = A at *
 generalize (zbe L ki p2).2 = p3 at *
 generalize zax L (bs [41]) p3 = p4 at *
 generalize (zbe L ki p4).1 = B at *
 generalize (zbe L ki p4).2 = p5 at *
 have hn : noT.enc = [.int .i64 0, .str (bs []), .sl false 1 [], .sl false 4 []] := rfl
 rcases n1 with rfl | ⟨T, rfl⟩ <;> rcases n2 with rfl | ⟨U, rfl⟩
 ·refine ⟨.sl true 4 [[.int .i64 0, .str (bs []), .sl true 1 [], .sl true 4 []]], .inr ⟨_, noT, rfl, rfl, rfl, rfl⟩, ?_⟩
  refine zdw ⟨by simp, by simp, by simp, by simp, by simp, by simp, by simp⟩ fun ts hts ok hb c hN hp => ?_
  obtain ⟨t, rfl⟩ := zaR hts
  unfold zcP
  simp
  refine zaa.mk [0] c1 (by simp) ?_
  simp
  refine zaa.mk [0] c2 (by simp) ?_
  simp
  refine zaa.mk [0] c3 (by simp) ?_
  simp
  refine zaa.mk [0] c4 (by simp) ?_
  simp
  refine zaa.mk [0] c5 (by simp) ?_
  simp
  refine fzK.mk [] ?_
  simp
  exact EndM.mk [0] [1] (by simp)
 ·refine ⟨.sl false 4 [noT.enc, U.enc], .inl ⟨rfl, rfl⟩, ?_⟩
  refine zdw ⟨by simp, by simp, by simp, by simp, by simp, by simp, by simp⟩ fun ts hts ok hb c hN hp => ?_
  obtain ⟨t, rfl⟩ := zaR hts
  unfold zcP
  simp
  refine zaa.mk [0] c1 (by simp) ?_
  simp
  refine zaa.mk [0] c2 (by simp) ?_
  simp
  refine zaa.mk [0] c3 (by simp) ?_
  simp
  refine zaa.mk [0] c4 (by simp) ?_
  simp
  refine zaa.mk [0] c5 (by simp) ?_
  simp
  refine fzK.mk [2] ?_
  simp [zas]
  exact EndM.mkE [0] [1] (by simp [hn, AV.erds])
 ·refine ⟨.sl true 4 [T.enc], .inr ⟨_, T, rfl, by simp, by simp, rfl⟩, ?_⟩
  refine zdw ⟨by simp, by simp, by simp, by simp, by simp, by simp, by simp⟩ fun ts hts ok hb c hN hp => ?_
  obtain ⟨t, rfl⟩ := zaR hts
  unfold zcP
  simp
  refine zaa.mk [0] c1 (by simp) ?_
  simp
  refine zaa.mk [0] c2 (by simp) ?_
  simp
  refine zaa.mk [0] c3 (by simp) ?_
  simp
  refine zaa.mk [0] c4 (by simp) ?_
  simp
  refine zaa.mk [0] c5 (by simp) ?_
  simp
  refine fzK.mk [] ?_
  simp
  exact EndM.mk [0] [1] (by simp)
 ·refine ⟨.sl false 4 [T.enc, U.enc], .inl ⟨rfl, rfl⟩, ?_⟩
  refine zdw ⟨by simp, by simp, by simp, by simp, by simp, by simp, by simp⟩ fun ts hts ok hb c hN hp => ?_
  obtain ⟨t, rfl⟩ := zaR hts
  unfold zcP
  simp
  refine zaa.mk [0] c1 (by simp) ?_
  simp
  refine zaa.mk [0] c2 (by simp) ?_
  simp
  refine zaa.mk [0] c3 (by simp) ?_
  simp
  refine zaa.mk [0] c4 (by simp) ?_
  simp
  refine zaa.mk [0] c5 (by simp) ?_
  simp
  refine fzK.mk [2] ?_
  simp [zas]
  exact EndM.mkE [0] [1] (by simp [hn, AV.erds])
abbrev mB (p : PS) (t : Nat × Nat) (b2 : Blk) (is : List Imp) (v : List (List D)) : List Blk := [psB L p, .pin t 0, b2, .box [.msl 4 4 0 is.length, .msl 15 5 0 v.length], .arr 4 ((is.map Imp.enc).map (·.map .d)), .arr 15 (v.map (·.map .d))]
abbrev mT : List (Nat × AV) := [(0, .c (.ptr 0 0)), (2, .c (.ptr 2 0)), (3, .c (.ptr 3 0))]
set_option maxRecDepth 20000 in
set_option maxHeartbeats 2000000 in
theorem zuS (hL : OkL L) (hl : L.length <= 10000) {c : Ctx} (hp : c.pure) (t : Nat × Nat) (b2 : Blk) (hb2 : b2 = .box [.d (.sl true 4 []), .d (.sl true 15 [])]) (is : List Imp) (p0 : PS) (hd0 : p0.deep = 0) (h : p0.at' < L.length) (F0 : List Dec × PS) (hF : zb8 L (L.length + 1) [] p0 = F0) {Q : Exit -> St -> Prop} {S : St} {g} {ms : List Nat}
  (h0 : Match ms S mT (mB (L := L) p0 t b2 is []))
  (hQ : ∀ T v, Abs.look T 0 = .c (.ptr 0 0) -> Abs.look T 2 = .c (.ptr 2 0) -> Abs.look T 3 = .c (.ptr 3 0) -> D.erdE v = F0.1.map Dec.enc -> Q (.exit 2) ⟨T, hpOf (mB (L := L) F0.2 t b2 is v), 6⟩) : lw_ Pg c zdW Q g S := by
 refine W.loop Pg_mixed hp (fun x : Nat × List Dec × List (List D) × PS => zb8 L x.1 x.2.1 x.2.2.2 = F0 /\ Tm L p0 x.2.2.2 /\ (0 < x.1 /\ (x.2.2.2.e ≠ 0 \/ L.length < x.1 + x.2.2.2.at')) /\ x.2.1.length + x.1 <= L.length + 1 /\ D.erdE x.2.2.1 = x.2.1.map Dec.enc)
  (fun x => mT) (fun x => mB (L := L) x.2.2.2 t b2 is x.2.2.1) (fun x => x.1) (L.length + 1, [], [], p0) ms ⟨hF, Tm.refl h, ⟨by simp, .inr (by simp only; omega)⟩, by simp, rfl⟩ h0 fun ⟨n, l, v, q⟩ ⟨i1, i2, i3, i4, i5⟩ => ?_
 subst hb2
 unfold zdW
 simp only at i1 i2 i4 i5
 have i3 : 0 < n /\ (q.e ≠ 0 \/ L.length < n + q.at') := i3
 have hvl : v.length = l.length := by rw [<- zjy, i5, List.length_map]
 have hlt := i2.lt
 obtain ⟨n, rfl⟩ : ∃ m, n = m + 1 := ⟨n - 1, by omega⟩
 have hg := zcr hlt
 rw [zb8] at i1
 by_cases x : q.e = 0
 ·by_cases k : (curT L q).kind = 0
  ·rw [if_neg (by simp [k])] at i1
   subst i1
   simp [hg, x, k]
   refine ⟨by decide, ?_⟩
   exact hQ _ v (by simp) (by simp) (by simp) i5
  ·rw [if_pos ⟨x, k⟩] at i1
   have e1 := zah hL hlt (s := zdq)
   have e2 := e1.trans (zap hL e1.lt (s := wFn))
   have e3 := e2.trans (zaK hL e2.lt)
   have e4 := e3.trans (zlh hL _ e3.lt)
   have e5 := e4.trans (zeM hL (zcL hL) _ e4.lt)
   have e6 := e5.trans (zap hL e5.lt (s := bs [61]))
   have e7 := e6.trans (zlg hL _ e6.lt)
   have e8 := e7.trans (zap hL e7.lt (s := bs [59]))
   have c1 := zaD zdq q hlt hl
   have c2 := zaI hL wFn _ e1.lt hl
   have c3 := zbw _ e2.lt hl
   have c4 := zs7 hL hl _ e3.lt (by rw [e3.deep, i2.deep, hd0])
   obtain ⟨hx, hxd, c5⟩ := zsb hL hl (zcL hL) (zui hL hl) _ e4.lt (by rw [e4.deep, i2.deep, hd0])
   have c6 := zaI hL (bs [61]) _ e5.lt hl
   have c7 := zv0 hL hl _ e6.lt (by rw [e6.deep, i2.deep, hd0])
   have c8 := zaI hL (bs [59]) _ e7.lt hl
   have hg1 := zcr e1.lt
   unfold decP at i1
   simp only at i1
   generalize (zab L zdq q).1 = ex at *
   generalize (zab L zdq q).2 = q1 at *
   generalize zax L wFn q1 = q2 at *
   generalize (zaz L q2).1 = nm at *
   generalize (zaz L q2).2 = q3 at *
   generalize (zdJ L q3).1 = vs at *
   generalize (zdJ L q3).2 = q4 at *
   generalize (zbD L (kiP L) q4).1.1 = pm at *
   generalize (zbD L (kiP L) q4).1.2 = ty at *
   generalize (zbD L (kiP L) q4).2 = q5 at *
   generalize zax L (bs [61]) q5 = q6 at *
   generalize (exP L q6).1 = bd at *
   generalize (exP L q6).2 = q7 at *
   have hlt8 := e8.lt
   have hon : (zax L (bs [59]) q7).e ≠ 0 \/ (zax L (bs [59]) q7).at' = q7.at' + 1 := zu8
   have hle7 := e7.le
   have hle8 := e8.le
   have hlen : L.length < n + 1 + q.at' := i3.2.resolve_left (by simp [x])
   have hn0 : 0 < n := by omega
   generalize zax L (bs [59]) q7 = q8 at *
   have hon' : q8.e ≠ 0 \/ L.length < n + q8.at' := by
    rcases hon with r | r
    ·exact .inl r
    ·exact .inr (by omega)
   simp [hg, x, k]
   refine ⟨by decide, ?_⟩
   refine zaa.mk [0] c1 (by simp [x]) ?_
   simp [hg1]
   refine ⟨by decide, ?_⟩
   refine zaa.mk [0] c2 (by simp) ?_
   simp
   refine zaa.mk [0] c3 (by simp) ?_
   simp
   refine zaa.mk [0] c4 (by simp) ?_
   simp
   refine zaa.mk [0] c5 (by simp) ?_
   rcases hxd with ⟨rfl, hty⟩ | ⟨row, T, rfl, hrow, hrl, rfl⟩
   ·simp [hty]
    refine fzK.mk [] ?_
    simp
    refine zaa.mk [0] c6 (by simp) ?_
    simp
    refine zaa.mk [0] c7 (by simp) ?_
    simp
    refine zaa.mk [0] c8 (by simp) ?_
    simp
    refine ⟨by omega, ?_⟩
    rw [if_neg (by omega)] at i1
    refine Abs.Next.mk (n, l ++ [⟨nm, ex, vs, pm, ty, bd, (curT L q1).line, (curT L q1).col⟩], v ++ [[.str nm, .bool ex, .sl false 5 (vs.map encV), .str pm, .sl false 4 (ty.map Typ.enc)] ++ bd.enc ++ [.int .i64 (curT L q1).line, .int .i64 (curT L q1).col]], q8) [0, 1, 2, 3, 4, 7] ⟨i1, i2.trans e8, ⟨hn0, hon'⟩, by simp; omega, by simp [i5, Dec.enc]⟩ (by simp) ?_
    simp
    exact zjM _ _
   ·simp
    refine fzK.mk [7] ?_
    simp [zas]
    refine zaa.mk [0] c6 (by simp) ?_
    simp [zas]
    refine zaa.mk [0] c7 (by simp) ?_
    simp [zas]
    refine zaa.mk [0] c8 (by simp) ?_
    simp [zas]
    refine ⟨by omega, ?_⟩
    rw [if_pos (by simp)] at i1
    have hn : noT.enc = [.int .i64 0, .str (bs []), .sl false 1 [], .sl false 4 []] := rfl
    refine Abs.Next.mk (n, l ++ [⟨nm, ex, vs, pm, [T] ++ [noT], bd, (curT L q1).line, (curT L q1).col⟩], v ++ [[.str nm, .bool ex, .sl false 5 (vs.map encV), .str pm, .sl false 4 [row, [.int .i64 0, .str (bs []), .sl true 1 [], .sl true 4 []]]] ++ bd.enc ++ [.int .i64 (curT L q1).line, .int .i64 (curT L q1).col]], q8) [0, 1, 2, 3, 4, 8] ⟨i1, i2.trans e8, ⟨hn0, hon'⟩, by simp; omega, by simp [i5, Dec.enc, hrow, hn]⟩ (by simp) ?_
    simp [zas]
    exact zjM _ _
 ·rw [if_neg (by simp [x])] at i1
  subst i1
  simp [hg, x]
  refine ⟨by decide, ?_⟩
  exact hQ _ v (by simp) (by simp) (by simp) i5
set_option maxRecDepth 20000 in
set_option maxHeartbeats 2000000 in
theorem zuT (hL : OkL L) (hl : L.length <= 10000) {c : Ctx} (hp : c.pure) (t : Nat × Nat) (b2 : Blk) (hb2 : b2 = .box [.d (.sl true 4 []), .d (.sl true 15 [])]) (p0 : PS) (h : p0.at' < L.length) (F0 : List Imp × PS) (hF : zcY L (L.length + 1) [] p0 = F0) {Q : Exit -> St -> Prop} {S : St} {g} {ms : List Nat}
  (h0 : Match ms S mT (mB (L := L) p0 t b2 [] []))
  (hQ : ∀ T M n, Abs.look T 0 = .c (.ptr 0 0) -> Abs.look T 2 = .c (.ptr 2 0) -> Abs.look T 3 = .c (.ptr 3 0) -> M 0 = psB L F0.2 -> M 1 = .pin t 0 -> M 2 = b2 -> M 3 = .box [.msl 4 4 0 F0.1.length, .msl 15 5 0 0] -> M 4 = .arr 4 ((F0.1.map Imp.enc).map (·.map .d)) -> M 5 = .arr 15 [] -> Q (.exit 0) ⟨T, M, n⟩) : lw_ Pg c lp_gp_module_0 Q g S := by
 refine W.loop Pg_mixed hp (fun x : Nat × List Imp × PS => zcY L x.1 x.2.1 x.2.2 = F0 /\ Tm L p0 x.2.2 /\ L.length < x.1 + x.2.2.at' /\ x.2.1.length <= x.2.2.at')
  (fun x => mT) (fun x => mB (L := L) x.2.2 t b2 x.2.1 []) (fun x => x.1) (L.length + 1, [], p0) ms ⟨hF, Tm.refl h, by simp only; omega, by simp⟩ h0 fun ⟨n, l, q⟩ ⟨i1, i2, i3, i4⟩ => ?_
 subst hb2
 unfold lp_gp_module_0
 simp only at i1 i2 i4
 have i3 : L.length < n + q.at' := i3
 have hlt := i2.lt
 obtain ⟨n, rfl⟩ : ∃ m, n = m + 1 := ⟨n - 1, by omega⟩
 have hg := zcr hlt
 rw [zcY] at i1
 have c1 := zaD zbN q hlt hl
 by_cases x : q.e = 0
 ·by_cases k : (zab L zbN q).1 = true
  ·rw [if_pos ⟨x, k⟩] at i1
   simp only at i1
   have e1 := zah hL hlt (s := zbN)
   have e2 := e1.trans (zaK hL e1.lt)
   have e3 := e2.trans (zap hL e2.lt (s := bs [58]))
   have e4 := e3.trans (zgB hL (L.length + 1) [] _ e3.lt)
   have e5 := e4.trans (zap hL e4.lt (s := bs [59]))
   have c2 := zbw _ e1.lt hl
   have c3 := zaI hL (bs [58]) _ e2.lt hl
   have c4 := zrB hL hl _ e3.lt
   have c5 := zaI hL (bs [59]) _ e4.lt hl
   have ha := (zaL k).1
   have hle : (zab L zbN q).2.at' <= (zax L (bs [59]) (zbE L (L.length + 1) [] (zax L (bs [58]) (zaz L (zab L zbN q).2).2)).2).at' := by
    have h1 := (zaK hL e1.lt).le
    have h2 := (zap hL e2.lt (s := bs [58])).le
    have h3 := (zgB hL (L.length + 1) [] _ e3.lt).le
    have h4 := (zap hL e4.lt (s := bs [59])).le
    omega
   generalize (zab L zbN q).2 = q1 at *
   generalize (zaz L q1).1 = nm at *
   generalize (zaz L q1).2 = q2 at *
   generalize zax L (bs [58]) q2 = q3 at *
   generalize (zbE L (L.length + 1) [] q3).1 = ns at *
   generalize (zbE L (L.length + 1) [] q3).2 = q4 at *
   generalize zax L (bs [59]) q4 = q5 at *
   simp [hg, x]
   refine ⟨by decide, ?_⟩
   refine zaa.mk [0] c1 (by simp [x]) ?_
   simp [k]
   refine zaa.mk [0] c2 (by simp) ?_
   simp
   refine zaa.mk [0] c3 (by simp) ?_
   simp
   refine zaa.mk [0] c4 (by simp) ?_
   simp
   refine zaa.mk [0] c5 (by simp) ?_
   simp
   refine ⟨by omega, ?_⟩
   refine Abs.Next.mk (n, l ++ [⟨nm, ns, (curT L q).line, (curT L q).col⟩], q5) [0, 1, 2, 3, 7, 5] ⟨i1, i2.trans e5, by simp only; omega, by simp; omega⟩ (by simp) ?_
   simp [Imp.enc]
   exact zjM _ _
  ·rw [if_neg (fun z => k z.2)] at i1
   subst i1
   rw [zaE k] at c1
   rw [Bool.not_eq_true] at k
   simp [hg, x]
   refine ⟨by decide, ?_⟩
   refine zaa.mk [0] c1 (by simp [x]) ?_
   simp [k]
   refine hQ _ _ _ (by simp) (by simp) (by simp) (by simp) (by simp) (by simp) (by simp) (by simp) (by simp)
 ·rw [if_neg (by simp [x])] at i1
  subst i1
  simp [hg, x]
  refine hQ _ _ _ (by simp) (by simp) (by simp) (by simp) (by simp) (by simp) (by simp) (by simp) (by simp)
set_option maxRecDepth 20000 in
set_option maxHeartbeats 2000000 in
theorem zqL (hL : OkL L) (hl : L.length <= 10000) (p : PS) (h : p.at' < L.length) (hd : p.deep = 0) :
  MCall Pg F.gp_module [.c (.ptr 0 0)] [psB L p] (.ag ((zdr L p).1.enc.map .d)) [psB L (zdr L p).2] := by
 refine znN ⟨by simp, by simp, by simp, by simp, by simp, by simp, by simp⟩ fun ts hts ok hb c hN hp => ?_
 obtain ⟨t, rfl⟩ := zaR hts
 have k1 := zil hL (L.length + 1) [] _ h
 have k2 := zli hL (L.length + 1) [] _ k1.lt
 obtain ⟨I0, hI0⟩ : ∃ F0, zcY L (L.length + 1) [] p = F0 := ⟨_, rfl⟩
 unfold zhR zdr
 simp only
 rw [hI0] at k1 k2 ⊢
 obtain ⟨D0, hD0⟩ : ∃ F0, zb8 L (L.length + 1) [] I0.2 = F0 := ⟨_, rfl⟩
 rw [hD0]
 simp
 refine owK.mk [.c 3 0, .c 3 1] ?_
 simp
 refine zuT hL hl hp t _ rfl p h I0 hI0 (ms := [0, 1, 2, 3, 4, 5]) (by simp) fun T M n t0 t2 t3 m0 m1 m2 m3 m4 m5 => ?_
 simp
 refine zuS hL hl hp t _ rfl I0.1 I0.2 (by rw [k1.deep, hd]) k1.lt D0 hD0 (ms := [0, 1, 2, 3, 4, 5]) (by simp [t0, t2, t3, m0, m1, m2, m3, m4, m5]) fun T v t0 t2 t3 hv => ?_
 simp [t0, t2, t3]
 refine fzK.mk [4, 5] ?_
 have z : List.take I0.1.length (List.map Imp.enc I0.1) = List.map Imp.enc I0.1 := List.take_of_length_le (by simp)
 simp [zas, t2, z, -List.map_map]
 exact EndM.mkE [0] [1] (by simp [zas, Mdl.enc, hv, -List.map_map])
end
end Go.Gr
namespace Go.Gr
open Go.Abs Go.Proofs
theorem zte {l : List UInt8} (h : (tokL l).e = 0) : (tokL l).kind ≠ 0 := by
 cases l with
 | nil => simp [tokL, badR] at h
 | cons c r =>
  rw [tokL] at h ⊢
  repeat' split
  all_goals simp_all [badR]
  all_goals (split <;> simp)
theorem zpu : ∀ (n : Nat) (l : List UInt8) (a b : Int) (ts : List Tok), l.length < n -> ts.length <= 8192 -> (∀ t, t ∈ ts -> t.kind ≠ 0) -> (lexL n l a b ts).2.e = 0 ->
  ∃ us x, (lexL n l a b ts).1 = us ++ [x] /\ x.kind = 0 /\ (∀ t, t ∈ us -> t.kind ≠ 0) /\ us.length <= 8192
 | 0, l, _, _, _, h, _, _, _ => by omega
 | n + 1, l, a, b, ts, h, hl, hk, he => by
  rw [zpm] at he ⊢
  by_cases q : l.drop (blkL false l) = []
  ·rw [if_pos q]
   exact ⟨ts, _, rfl, rfl, hk, hl⟩
  rw [if_neg q] at he ⊢
  by_cases q2 : (if (tokL (l.drop (blkL false l))).e = 0 /\ ts.length = 8192 then (19 : Int) else (tokL (l.drop (blkL false l))).e) ≠ 0
  ·rw [if_pos q2] at he
   exact absurd he q2
  rw [if_neg q2] at he ⊢
  have q3 : ¬ ((tokL (l.drop (blkL false l))).e = 0 /\ ts.length = 8192) := fun z => by rw [if_pos z] at q2; exact q2 (by decide)
  rw [if_neg q3] at q2
  have e0 : (tokL (l.drop (blkL false l))).e = 0 := Classical.byContradiction fun z => q2 z
  have htl := zpj e0
  refine zpu n _ _ _ _ ?_ ?_ ?_ he
  ·rw [List.length_drop, List.length_drop] at *; omega
  ·have : ts.length ≠ 8192 := fun z => q3 ⟨e0, z⟩
   simp; omega
  ·intro t ht
   rcases List.mem_append.1 ht with ht | ht
   ·exact hk t ht
   ·simp at ht
    subst ht
    exact zte e0
theorem zlm {s : ByteArray} (h : (lexP s).2.e = 0) : OkL (lexP s).1 /\ (lexP s).1.length <= 10000 := by
 unfold lexP at h ⊢
 split
 ·rename_i q; rw [if_pos q] at h; simp at h
 rename_i q
 rw [if_neg q] at h
 obtain ⟨us, x, e, hx, hu, hl⟩ := zpu (s.size + 1) s.data.toList 1 1 [] (by rw [zbk]; omega) (by simp) (by simp) h
 rw [e]
 refine ⟨⟨by simp, fun i hi hk => ?_⟩, by simp; omega⟩
 simp only [List.length_append, List.length_singleton] at hi ⊢
 rcases Nat.lt_or_ge i us.length with h | h
 ·omega
 ·have : i = us.length := by omega
  subst this
  exfalso; apply hk
  rw [List.getD_eq_getElem?_getD, List.getElem?_append_right (Nat.le_refl _)]
  simpa using hx
set_option maxRecDepth 20000 in
theorem ztf (s : ByteArray) : MCall Pg F.g05_begun [.c (.d (.str s))] [] (.tup [.c (.ptr 0 0), .ag ((lexP s).2.enc.map .d)]) [psB (lexP s).1 ps0] := by
 refine znO ⟨by simp, by simp, by simp, by simp, by simp, by simp [Dia.enc]; rfl, by simp⟩ fun ts hts ok hb c hN hp => ?_
 have hts : ts = [] := List.length_eq_zero_iff.1 hts
 subst hts
 unfold zhS
 simp
 refine zac.mk (zvi s) ?_
 simp
 exact ⟨by decide, EndM.mk [2] [] (by simp [ps0])⟩
theorem zuF {L : List Tok} (hL : OkL L) (hl : L.length <= 10000) (p : PS) (h : p.at' < L.length) : MCall Pg F.gp_end [.c (.ptr 0 0)] [psB L p] (.ag ((⟨0, (endP L p).line, (endP L p).col, (endP L p).e⟩ : Dia).enc.map .d)) [psB L (endP L p)] := by
 refine zrW ⟨by simp, by simp, by simp, by simp, by simp, by simp [Dia.enc], by simp⟩ fun ts hts ok hb c hN hp => ?_
 obtain ⟨t, rfl⟩ := zaR hts
 have hg := zcr h
 have hf := ze8 (L := L) 7 p h
 unfold zmg endP
 generalize curT L p = T at *
 by_cases h0 : p.e = 0 <;> by_cases h1 : T.kind = 0
 ·simp [hg, h0, h1]
  exact ⟨by decide, by decide, EndM.mk [0] [1] (by simp [Dia.enc, h0, h1])⟩
 ·simp [hg, h0, h1]
  refine ⟨by decide, ?_⟩
  refine zaa.mk [0] hf (by simp [h0]) ?_
  simp
  exact ⟨by decide, EndM.mk [0] [1] (by simp [Dia.enc, h0, h1])⟩
 all_goals
  simp [hg, h0, h1]
  exact ⟨by decide, by decide, EndM.mk [0] [1] (by simp [Dia.enc, h0, h1])⟩
@[simp] theorem zxt (d : Dia) : cut d.enc 0 4 = d.enc := rfl
@[simp] theorem zwY (d : Dia) : cut (d.enc.map AC.d) 0 4 = d.enc.map .d := rfl
@[simp] theorem Dia.enc_3 (d : Dia) : d.enc[3]? = some (.int .i64 d.e) := rfl
@[simp] theorem Dia.enc_g3 (d : Dia) (h : 3 < d.enc.length) : d.enc[3] = .int .i64 d.e := rfl
@[simp] theorem Dia.er_map (d : Dia) : d.enc.map D.er = d.enc := rfl
@[simp] theorem Mdl.er_map (d : Mdl) : d.enc.map D.er = d.enc := rfl
@[simp] theorem zxu (d : Mdl) : cut d.enc 0 2 = d.enc := rfl
@[simp] theorem zwZ (d : Mdl) : cut (d.enc.map AC.d) 0 2 = d.enc.map .d := rfl
set_option maxRecDepth 20000 in
theorem ztg (s : ByteArray) : PCall Pg F.g05_Parse [.one (.str s)] (.tup [.agg (zba s).1.enc, .agg (zba s).2.enc]) := by
 refine zo2 (by simp) fun o c' hN hp => ?_
 have hb := ztf s
 have hk := zlm (s := s)
 obtain ⟨F0, hF0⟩ : ∃ F0, zba s = F0 := ⟨_, rfl⟩
 rw [hF0]
 unfold zba at hF0
 simp only at hF0
 generalize (lexP s).1 = L at *
 generalize (lexP s).2 = d at *
 unfold zhT
 simp
 refine zaa.mk [] hb (by simp) ?_
 simp
 by_cases h0 : d.e = 0
 rotate_left
 ·rw [if_pos h0] at hF0
  subst hF0
  simp [h0]
  exact ⟨by decide, rfl⟩
 rw [if_neg (by simp [h0])] at hF0
 obtain ⟨hL, hl⟩ := hk h0
 have c1 := zqL hL hl ps0 hL.pos rfl
 have t1 := zrA hL ps0 hL.pos
 generalize (zdr L ps0).1 = M at *
 generalize (zdr L ps0).2 = p at *
 have c2 := zuF hL hl p t1.lt
 generalize endP L p = q at *
 simp [h0]
 refine zaa.mk [2] c1 (by simp [ps0]) ?_
 simp
 refine zaa.mk [2] c2 (by simp) ?_
 simp
 by_cases h1 : q.e = 0
 ·rw [if_neg (by simp [h1])] at hF0
  subst hF0
  simp [h1]
  decide
 ·rw [if_pos h1] at hF0
  subst hF0
  simp [h1]
  exact ⟨by decide, rfl⟩
end Go.Gr
namespace Go.Gr
open Go.Abs Go.Proofs
mutual
def za5 : Typ -> Int -> Int
 | .mk _ _ _ l, m => zbb l m 1
def zbb : List Typ -> Int -> Int -> Int
 | [], _, n => n
 | t :: l, m, n => if n < m then zbb l m (n + za5 t (m - n)) else n
end
def za7 : Nat -> Typ -> Int
 | 0, _ => 1
 | 1, _ => 1
 | n + 2, t => (t.kids.foldl (fun h k => if h < za7 (n + 1) k then za7 (n + 1) k else h) 0) + 1
def eqF {α : Type} (q : α -> α -> Bool) : List α -> List α -> Bool
 | [], [] => true
 | x :: a, y :: b => q x y && eqF q a b
 | _, _ => false
mutual
def za0 : Typ -> Typ -> Bool
 | .mk k n s l, u => decide (k = u.kind) && (decide (n = u.name) && (decide (s = u.names) && zcF l u.kids))
def zcF : List Typ -> List Typ -> Bool
 | [], [] => true
 | t :: l, u :: r => za0 t u && zcF l r
 | [], _ :: _ => false
 | _ :: _, [] => false
end
def bT (k : Int) : Typ := .mk k (bs []) [] []
def za6 (t : Typ) : Int := if t.kind < 1 \/ 6 < t.kind then -1 else t.kind - 1
def ltS (a b : ByteArray) : Bool := Op.bytesLess a.data.toList b.data.toList
def posR (s : ByteArray) : List ByteArray -> Nat
 | [] => 0
 | n :: l => if ltS n s = true then posR s l + 1 else 0
def recR : List ByteArray -> List Typ -> List ByteArray -> List Typ -> (List ByteArray × List Typ) × Bool
 | s :: ss, t :: ts, ns, ks =>
  if zbm s = false \/ ns[posR s ns]? = some s then ((ns, ks), false) else recR ss ts (ns.take (posR s ns) ++ s :: ns.drop (posR s ns)) (ks.take (posR s ns) ++ t :: ks.drop (posR s ns))
 | _, _, ns, ks => ((ns, ks), true)
def zdp (ns : List ByteArray) (ts : List Typ) : Typ × Bool :=
 if ns.length ≠ ts.length \/ 16 < ns.length then (.mk 5 (bs []) [] [], false) else (.mk 5 (bs []) (recR ns ts [] []).1.1 (recR ns ts [] []).1.2, (recR ns ts [] []).2)
def mems (k : Typ) : List Typ := if k.kind = 7 then k.kids else [k]
def tagR (tag : Int) : List Typ -> Bool -> List Typ -> (Bool × List Typ) × Bool
 | [], had, ks => ((had, ks), true)
 | x :: l, had, ks =>
  if x.kind = 0 then ((had, ks), false) else if za6 x ≠ tag then tagR tag l had ks else
   let ks' := if had then ks else ks ++ [x]
   if za0 x (ks'.getLastD noT) = true then tagR tag l true ks' else ((true, ks'), false)
def zcw (all : List Typ) : List Int -> List Typ -> List Typ × Bool
 | [], ks => (ks, true)
 | tag :: l, ks => if (tagR tag all false ks).2 = true then zcw all l (tagR tag all false ks).1.2 else ((tagR tag all false ks).1.2, false)
def zef (kids : List Typ) : Typ × Bool :=
 let r := zcw (kids.flatMap mems) [0, 1, 2, 3, 4, 5] []
 if r.2 = true then (match r.1 with
  | [t] => (t, true)
  | l => (.mk 7 (bs []) [] l, decide (0 < l.length)))
 else (.mk 7 (bs []) [] r.1, false)
def finR (k : Int) (s : List ByteArray) (l : List Typ) : Typ × Bool :=
 if k = 5 then zdp s l else if k = 6 then (.mk 6 (bs []) [] l, decide (l.length = 2)) else zef l
mutual
def zaX : Typ -> Typ × Bool
 | .mk k n s l => if 5 <= k /\ k <= 7 then (if (zaJ l).2 = true then finR k s (zaJ l).1 else (noT, false)) else if 0 <= k /\ k <= 4 then (bT k, true) else (noT, false)
def zaJ : List Typ -> List Typ × Bool
 | [] => ([], true)
 | t :: l => if (zaX t).2 = true then ((zaX t).1 :: (zaJ l).1, (zaJ l).2) else ([], false)
end
def zaY (t : Typ) : Typ × Int := if 16 < za7 17 t \/ 200 < za5 t 201 then (noT, 9) else if (zaX t).2 = true then ((zaX t).1, 0) else (noT, 9)
mutual
def zbH : Typ -> Bool -> ByteArray
 | .mk k n s l, br =>
  if k = 0 then bs [97, 110, 121] else if k = 1 then bs [110, 117, 108, 108] else if k = 2 then bs [98, 111, 111, 108] else if k = 3 then bs [105, 110, 116] else if k = 4 then bs [115, 116, 114]
  else if k = 5 then bs [123] ++ zbW s l (bs []) 0 ++ bs [125]
  else if k = 6 then (match l with
   | a :: b :: _ => if br = true then bs [40] ++ (zbH a true ++ bs [32, 45, 62, 32] ++ zbH b false) ++ bs [41] else zbH a true ++ bs [32, 45, 62, 32] ++ zbH b false
   | _ => bs [])
  else zd4 l (bs []) 0
def zbW : List ByteArray -> List Typ -> ByteArray -> Nat -> ByteArray
 | s :: ss, t :: ts, out, i => zbW ss ts ((if 0 < i then out ++ bs [44, 32] else out) ++ s ++ bs [58, 32] ++ zbH t false) (i + 1)
 | _, _, out, _ => out
def zd4 : List Typ -> ByteArray -> Nat -> ByteArray
 | t :: ts, out, i => zd4 ts ((if 0 < i then out ++ bs [32, 124, 32] else out) ++ zbH t true) (i + 1)
 | [], out, _ => out
end
def isNR (t : Typ) : Bool := decide ((zaY t).2 = 0) && za0 (zaY t).1 t
def zdb (t : Typ) : ByteArray := if isNR t = true then zbH t false else bs []
structure Prt where
 tag : Int
 opn : Bool
 t : Typ
def Prt.enc (p : Prt) : List D := .int .i64 p.tag :: .bool p.opn :: p.t.enc
def noP : Prt := ⟨0, false, noT⟩
def za4 (t : Typ) : List Prt :=
 if t.kind = 0 then [⟨0, false, bT 1⟩, ⟨1, false, bT 2⟩, ⟨2, false, bT 3⟩, ⟨3, false, bT 4⟩, ⟨4, true, bT 5⟩, ⟨5, false, .mk 6 (bs []) [] [noT, noT]⟩]
 else if t.kind ≠ 7 then [⟨za6 t, false, t⟩] else t.kids.map fun k => ⟨za6 k, false, k⟩
def za8 (l : List Prt) (tag : Int) : Prt × Bool := match l.find? fun p => decide (p.tag = tag) with
 | some p => (p, true)
 | none => (noP, false)
def zb4 : List ByteArray -> List Typ -> ByteArray -> Typ × Bool
 | n :: ns, k :: ks, s => if n = s then (k, true) else zb4 ns ks s
 | _, _, _ => (noT, false)
def zb5 (t : Typ) (s : ByteArray) : Typ × Bool := zb4 t.names t.kids s
def zcQ (rc : Typ -> Typ -> Bool) (m : Typ) : List ByteArray -> List Typ -> Bool
 | s :: ss, k :: ks => (zb5 m s).2 && (rc (zb5 m s).1 k && zcQ rc m ss ks)
 | _, _ => true
def kid0 (t : Typ) : Typ := t.kids.getD 0 noT
def kid1 (t : Typ) : Typ := t.kids.getD 1 noT
def zbR (loose : Bool) : Nat -> Typ -> Typ -> Bool
 | 0, _, _ => false
 | n + 1, a, b =>
  if a.kind = 0 \/ b.kind = 0 then loose || decide (a.kind = b.kind) else
   (za4 a).all fun p =>
    let q := za8 (za4 b) p.tag
    q.2 && (zcQ (zbR loose n) p.t q.1.t.names q.1.t.kids && (!decide (q.1.tag = 5) || (zbR loose n (kid0 q.1.t) (kid0 p.t) && zbR loose n (kid1 p.t) (kid1 q.1.t))))
mutual
def dpt : Typ -> Nat
 | .mk _ _ _ l => dpts l + 1
def dpts : List Typ -> Nat
 | [] => 0
 | t :: l => max (dpt t) (dpts l)
end
def belR (loose : Bool) (a b : Typ) : Bool := zbR loose (dpt a + dpt b) a b
def SubR (a b : Typ) : Bool := isNR a && (isNR b && belR false a b)
def zfA (a b : Typ) : Bool := isNR a && (isNR b && belR true a b)
def zd5 (a b : Typ) : List Int -> List Typ -> Option (List Typ)
 | [], l => some l
 | tag :: r, l =>
  let m := za8 (za4 a) tag
  let n := za8 (za4 b) tag
  if m.2 = true /\ n.2 = true then
   (if belR false m.1.t n.1.t = true then zd5 a b r (l ++ [n.1.t]) else if belR false n.1.t m.1.t = true then zd5 a b r (l ++ [m.1.t]) else none)
  else if m.2 = true then zd5 a b r (l ++ [m.1.t]) else if n.2 = true then zd5 a b r (l ++ [n.1.t]) else zd5 a b r l
def zeE (a b : Typ) : Typ :=
 if SubR a b = true then b else if SubR b a = true then a
 else if isNR a = false \/ isNR b = false \/ a.kind = 0 \/ b.kind = 0 then noT
 else match zd5 a b [0, 1, 2, 3, 4, 5] [] with
  | none => noT
  | some l => if (zaY (.mk 7 (bs []) [] l)).2 = 0 then (zaY (.mk 7 (bs []) [] l)).1 else noT
def zbX (t : Typ) (tag : Int) : Typ × Typ :=
 if isNR t = false \/ tag < 0 \/ 6 <= tag then (t, t)
 else if t.kind = 0 then (if tag = 5 then (t, t) else (bT (1 + tag), t))
 else if (za8 (za4 t) tag).2 = false then (t, t)
 else if t.kind ≠ 7 then (t, t)
 else match t.kids.filter fun k => decide (za6 k ≠ tag) with
  | [r] => ((za8 (za4 t) tag).1.t, r)
  | l => ((za8 (za4 t) tag).1.t, .mk 7 (bs []) [] l)
end Go.Gr
namespace Go.Gr
open Go.Abs Go.Proofs
def fi {α : Type} (q : α -> Bool) : Nat -> List α -> Int
 | _, [] => -1
 | j, x :: l => if q x = true then j else fi q (j + 1) l
def modZ (names : List ByteArray) (s : ByteArray) : Int := fi (fun n => decide (n = s)) 0 names
structure Ent where
 name : ByteArray
 module : Int
 decl : Int
def Ent.enc (e : Ent) : List D := [.str e.name, .int .i64 e.module, .int .i64 e.decl]
def noE : Ent := ⟨bs [], 0, 0⟩
structure Lnk where
 names : List ByteArray
 mods : List Mdl
 scopes : List (List Ent)
 main : Ent
def Lnk.enc (l : Lnk) : List D := [.sl false 1 (encS l.names), .sl false 2 (l.mods.map Mdl.enc), .sl false 1 (l.scopes.map fun s => [.sl false 3 (s.map Ent.enc)])] ++ l.main.enc
def noL : Lnk := ⟨[], [], [], noE⟩
def zbq : List (ByteArray × ByteArray) -> Nat -> List ByteArray -> List Mdl -> List Dia -> (List ByteArray × List Mdl) × List Dia
 | [], _, ns, ms, bad => ((ns, ms), bad)
 | s :: l, i, ns, ms, bad =>
  let m := zba s.2
  zbq l (i + 1) (ns ++ [s.1]) (ms ++ [m.1]) (if zbm s.1 = false then bad ++ [⟨i, 1, 1, 10⟩] else if 0 <= modZ ns s.1 then bad ++ [⟨i, 1, 1, 8⟩] else if m.2.e ≠ 0 then bad ++ [⟨i, m.2.line, m.2.col, m.2.e⟩] else bad)
def zbS (l : List (ByteArray × ByteArray)) : (List ByteArray × List Mdl) × List Dia :=
 if 16 < l.length then (([], []), [⟨16, 1, 1, 19⟩]) else zbq l 0 [] [] []
def zbv : List Ent -> ByteArray -> Ent × Bool
 | [], _ => (noE, false)
 | e :: l, s => if e.name = s then (e, true) else zbv l s
def zbU (m : Mdl) (s : ByteArray) : Int := fi (fun d : Dec => decide (d.name = s)) 0 m.decs
def zfD : Dec := ⟨bs [], false, [], bs [], [], noN, 0, 0⟩
def impN (M : Mdl) (m i : Int) (x : Imp) : List ByteArray -> List Ent -> List Dia -> List Ent × List Dia
 | [], sc, bad => (sc, bad)
 | s :: l, sc, bad =>
  if zbU M s < 0 \/ (M.decs.getD (zbU M s).toNat zfD).exp = false then impN M m i x l sc (bad ++ [⟨i, x.line, x.col, 12⟩])
  else if (zbv sc s).2 = true then impN M m i x l sc (bad ++ [⟨i, x.line, x.col, 8⟩])
  else impN M m i x l (sc ++ [⟨s, m, zbU M s⟩]) bad
def zbt (ns : List ByteArray) (ms : List Mdl) (i : Int) (x : Imp) (sc : List Ent) : List Ent × List Dia :=
 if modZ ns x.from_ < 0 then (sc, [⟨i, x.line, x.col, 11⟩]) else impN (ms.getD (modZ ns x.from_).toNat noM) (modZ ns x.from_) i x x.names sc []
def zd6 (ns : List ByteArray) (ms : List Mdl) (i : Int) : List Imp -> List Ent -> List Dia -> List Ent × List Dia
 | [], sc, bad => (sc, bad)
 | x :: l, sc, bad => zd6 ns ms i l (zbt ns ms i x sc).1 (bad ++ (zbt ns ms i x sc).2)
def zdF (i : Int) : List Dec -> Nat -> List Ent -> List Dia -> List Ent × List Dia
 | [], _, sc, bad => (sc, bad)
 | d :: l, k, sc, bad => if (zbv sc d.name).2 = true then zdF i l (k + 1) sc (bad ++ [⟨i, d.line, d.col, 8⟩]) else zdF i l (k + 1) (sc ++ [⟨d.name, i, k⟩]) bad
def zbs (ns : List ByteArray) (ms : List Mdl) : List Mdl -> Nat -> List (List Ent) -> List Dia -> List (List Ent) × List Dia
 | [], _, all, bad => (all, bad)
 | m :: l, i, all, bad =>
  let a := zd6 ns ms i m.imps [] bad
  let b := zdF i m.decs 0 a.1 a.2
  zbs ns ms l (i + 1) (all ++ [b.1]) b.2
def zd7 (ns : List ByteArray) : List Imp -> List Bool -> List Bool
 | [], seen => seen
 | x :: l, seen => zd7 ns l (if 0 <= modZ ns x.from_ then seen.set (modZ ns x.from_).toNat true else seen)
def zeG (ns : List ByteArray) : List Mdl -> Nat -> List Bool -> List Bool
 | [], _, seen => seen
 | m :: l, i, seen => zeG ns l (i + 1) (if seen.getD i false = true then zd7 ns m.imps seen else seen)
def zk5 (ns : List ByteArray) (ms : List Mdl) : Nat -> List Bool -> List Bool
 | 0, seen => seen
 | n + 1, seen => zk5 ns ms n (zeG ns ms 0 seen)
def zd0 (ns : List ByteArray) (ms : List Mdl) (f t : Nat) : Bool := (zk5 ns ms ms.length ((List.replicate ms.length false).set f true)).getD t false
def zc7 (ns : List ByteArray) (ms : List Mdl) (i : Nat) : List Imp -> List Dia -> List Dia
 | [], bad => bad
 | x :: l, bad => zc7 ns ms i l (if 0 <= modZ ns x.from_ /\ zd0 ns ms (modZ ns x.from_).toNat i = true then bad ++ [⟨i, x.line, x.col, 13⟩] else bad)
def zc8 (ns : List ByteArray) (ms : List Mdl) : List Mdl -> Nat -> List Dia -> List Dia
 | [], _, bad => bad
 | m :: l, i, bad => zc8 ns ms l (i + 1) (zc7 ns ms i m.imps bad)
abbrev zcn := bs [109, 97, 105, 110]
def zfE (l : List (ByteArray × ByteArray)) : Lnk × List Dia :=
 let f := zbS l
 if 0 < f.2.length then (noL, f.2) else
 let s := zbs f.1.1 f.1.2 f.1.2 0 [] []
 if 0 < s.2.length then (noL, s.2) else
 let t := zc8 f.1.1 f.1.2 f.1.2 0 []
 if 0 < t.length then (noL, t) else
 let i := modZ f.1.1 zcn
 if i < 0 then (noL, [⟨0, 1, 1, 14⟩]) else
 let k := zbU (f.1.2.getD i.toNat noM) zcn
 if k < 0 then (noL, [⟨i, 1, 1, 14⟩]) else
 let d := (f.1.2.getD i.toNat noM).decs.getD k.toNat zfD
 if 0 < d.vars.length then (noL, [⟨i, d.line, d.col, 14⟩]) else
 (⟨f.1.1, f.1.2, s.1, ⟨zcn, i, k⟩⟩, [])
def zdG : List ByteArray -> List Typ -> ByteArray -> Option Typ
 | v :: vs, t :: ts, s => if v = s then some t else zdG vs ts s
 | _, _, _ => none
mutual
def zbL (vars : List ByteArray) (wth : List Typ) : Typ -> Typ × Bool
 | .mk k n s l =>
  if k = 8 then (if 0 < s.length \/ 0 < l.length then (.mk k n s l, false) else match zdG vars wth n with
   | some t => (t, true)
   | none => (.mk k n s l, false))
  else if (zcI vars wth l).2 = true then (.mk k n s (zcI vars wth l).1, true) else (.mk k n s l, false)
def zcI (vars : List ByteArray) (wth : List Typ) : List Typ -> List Typ × Bool
 | [] => ([], true)
 | t :: l => if (zbL vars wth t).2 = true then ((zbL vars wth t).1 :: (zcI vars wth l).1, (zcI vars wth l).2) else ([], false)
end
def zaV (t : Typ) (vars : List ByteArray) (wth : List Typ) : Typ × Int :=
 if vars.length ≠ wth.length then (noT, 1) else if 200 < za5 t 201 \/ 16 < za7 17 t then (noT, 9)
 else if (zbL vars wth t).2 = true then zaY (zbL vars wth t).1 else (noT, 9)
def zk6 : List (ByteArray × Typ) -> List Typ -> List ByteArray -> List Typ -> Int
 | v :: vs, t :: ts, names, had =>
  if isNR t = false then 18
  else if v.2.kind ≠ 0 /\ ((zaV v.2 names had).2 ≠ 0 \/ SubR t (zaV v.2 names had).1 = false) then 18
  else zk6 vs ts (names ++ [v.1]) (had ++ [t])
 | _, _, _, _ => 0
def ziA (vars : List (ByteArray × Typ)) (l : List Typ) : Int := if vars.length ≠ l.length then 18 else zk6 vars l [] []
structure Ist where
 module : Int
 decl : Int
 types : List Typ
def Ist.enc (x : Ist) : List D := [.int .i64 x.module, .int .i64 x.decl, .sl false 4 (x.types.map Typ.enc)]
def zfF (a b : Ist) : Bool := decide (a.module = b.module) && (decide (a.decl = b.decl) && eqF za0 a.types b.types)
def addR (most : Int) (L : List Ist) (x : Ist) : (Int × Int) × List Ist :=
 if (x.types.all isNR) = false then ((0, 9), L)
 else if 0 <= fi (fun y => zfF y x) 0 L then ((fi (fun y => zfF y x) 0 L, 0), L)
 else if most <= L.length then ((0, 19), L) else ((L.length, 0), L ++ [x])
end Go.Gr
namespace Go.Gr
open Go.Abs Go.Proofs
inductive Cor where
  | mk (kind n : Int) (text : ByteArray) (ints : List Int) (names : List ByteArray) (types : List Typ) (cos : List Coe) (kids : List Cor)
mutual
def Cor.enc : Cor -> List D
  | .mk k n t is ns ts cs ks => [.int .i64 k, .int .i64 n, .str t, .sl false 1 (encI is), .sl false 1 (encS ns), .sl false 4 (ts.map Typ.enc), .sl false 5 (cs.map Coe.enc), .sl false 8 (Cor.encs ks)]
def Cor.encs : List Cor -> List (List D)
  | [] => []
  | c :: l => Cor.enc c :: Cor.encs l
end
theorem Cor.encs_map (l : List Cor) : Cor.encs l = l.map Cor.enc := by
  induction l with
  | nil => rfl
  | cons n l ih => simp [Cor.encs, ih]
def Cor.kind : Cor -> Int | .mk k _ _ _ _ _ _ _ => k
def Cor.n : Cor -> Int | .mk _ n _ _ _ _ _ _ => n
def Cor.text : Cor -> ByteArray | .mk _ _ t _ _ _ _ _ => t
def Cor.ints : Cor -> List Int | .mk _ _ _ i _ _ _ _ => i
def Cor.names : Cor -> List ByteArray | .mk _ _ _ _ n _ _ _ => n
def Cor.types : Cor -> List Typ | .mk _ _ _ _ _ t _ _ => t
def Cor.cos : Cor -> List Coe | .mk _ _ _ _ _ _ c _ => c
def Cor.kids : Cor -> List Cor | .mk _ _ _ _ _ _ _ l => l
theorem Cor.enc_eq (t : Cor) : t.enc = [.int .i64 t.kind, .int .i64 t.n, .str t.text, .sl false 1 (encI t.ints), .sl false 1 (encS t.names), .sl false 4 (t.types.map Typ.enc), .sl false 5 (t.cos.map Coe.enc), .sl false 8 (t.kids.map Cor.enc)] := by
  cases t; simp [Cor.enc, Cor.encs_map, Cor.kind, Cor.text, Cor.n, Cor.ints, Cor.cos, Cor.types, Cor.names, Cor.kids]
@[simp] theorem Cor.enc_length (t : Cor) : t.enc.length = 8 := by rw [t.enc_eq]; try rfl
structure Fun where
  name : ByteArray
  type : Typ
  body : Cor
def Fun.enc (f : Fun) : List D := .str f.name :: (f.type.enc ++ f.body.enc)
structure Site where
  module : Int
  line : Int
  col : Int
def Site.enc (s : Site) : List D := [.int .i64 s.module, .int .i64 s.line, .int .i64 s.col]
structure Prg where
  funs : List Fun
  main : Int
  sites : List Site
def Prg.enc (p : Prg) : List D := [.sl false 13 (p.funs.map Fun.enc), .int .i64 p.main, .sl false 3 (p.sites.map Site.enc)]
def noPrg : Prg := ⟨[], 0, []⟩
structure CS where
  tab : List Ist
  funs : List Fun
  main : Int
  sites : List Site
  bad : List Dia
  module : Int
  vars : List ByteArray
  wth : List Typ
  e : Int
  line : Int
  col : Int
abbrev Env := List (ByteArray × Typ)
abbrev Inf := Env -> CS -> (Cor × Typ) × CS
def cK (k : Int) (l : List Cor) : Cor := .mk k 0 (bs []) [] [] [] [] l
def cN (k n : Int) : Cor := .mk k n (bs []) [] [] [] [] []
def cT (k : Int) (t : ByteArray) (l : List Cor) : Cor := .mk k 0 t [] [] [] [] l
def noC : Cor := cN 0 0
def fnT (a b : Typ) : Typ := .mk 6 (bs []) [] [a, b]
def zaM (ln cl e : Int) (s : CS) : CS := if s.e = 0 then { s with e := e, line := ln, col := cl } else s
def zay (t : Typ) (ln cl : Int) (s : CS) : Typ × CS :=
  let r := zaV t s.vars s.wth
  (r.1, if r.2 ≠ 0 then zaM ln cl 9 s else s)
def zbo (t : Typ) (ln cl : Int) (s : CS) : Typ × CS := ((zaY t).1, if (zaY t).2 ≠ 0 then zaM ln cl 9 s else s)
def zaZ (x : Cor) (t u : Typ) (ln cl : Int) (s : CS) : Cor × CS :=
  if s.e ≠ 0 then (x, s) else (.mk 21 s.sites.length (bs []) [] [] [t, u] [] [x], { s with sites := s.sites ++ [⟨s.module, ln, cl⟩] })
def zaG (x : Cor) (t u : Typ) (ln cl : Int) (s : CS) : Cor × CS :=
  if s.e ≠ 0 then (x, s) else if SubR t u = true then (x, s) else if zfA t u = true then zaZ x t u ln cl s else (x, zaM ln cl 15 s)
section
variable (L : Lnk)
def decAt (m k : Int) : Dec := (L.mods.getD m.toNat noM).decs.getD k.toNat zfD
def sigR (e : Ent) (l : List Typ) : Typ × Bool :=
  let d := decAt L e.module e.decl
  let a := zaV (d.types.getD 0 noT) (d.vars.map (·.1)) l
  let b := zaV (d.types.getD 1 noT) (d.vars.map (·.1)) l
  let t := zaY (fnT a.1 b.1)
  (t.1, decide (a.2 = 0) && (decide (b.2 = 0) && decide (t.2 = 0)))
def zby (ln cl : Int) (e : Ent) (l : List Typ) (s : CS) : (Cor × Typ) × CS :=
  if (sigR L e l).2 = false then ((noC, noT), zaM ln cl 9 s) else
    let r := addR 256 s.tab ⟨e.module, e.decl, l⟩
    ((cN 6 r.1.1, (sigR L e l).1), if r.1.2 ≠ 0 then zaM ln cl r.1.2 { s with tab := r.2 } else { s with tab := r.2 })
def zbA (env : Env) (x : ByteArray) : Int := match fi (fun b : ByteArray × Typ => decide (b.1 = x)) 0 env.reverse with
  | i => if i < 0 then -1 else env.length - 1 - i
def zcl (ln cl : Int) : List Typ -> List Typ -> CS -> List Typ × CS
  | [], l, s => (l, s)
  | t :: ts, l, s => if s.e ≠ 0 then (l, s) else zcl ln cl ts (l ++ [(zay t ln cl s).1]) (zay t ln cl s).2
def zcG (n : Nod) (env : Env) (s : CS) : (Cor × Typ) × CS :=
  let k := zbA env n.text
  let e := zbv (L.scopes.getD s.module.toNat []) n.text
  if 0 <= k /\ n.kind = 4 then ((cN 4 k, (env.getD k.toNat (bs [], noT)).2), s)
  else if k < 0 /\ e.2 = false then ((noC, noT), zaM n.line n.col 10 s)
  else if 0 <= k then ((noC, noT), zaM n.line n.col 18 s)
  else
    let d := decAt L e.1.module e.1.decl
    if decide (0 < d.vars.length) ≠ decide (n.kind = 19) then ((noC, noT), zaM n.line n.col 18 s)
    else if n.kind = 4 then zby L n.line n.col e.1 [] s
    else
      let r := zcl n.line n.col n.types [] s
      if r.2.e ≠ 0 then ((noC, noT), r.2)
      else if ziA d.vars r.1 ≠ 0 then ((noC, noT), zaM n.line n.col (ziA d.vars r.1) r.2)
      else zby L n.line n.col e.1 r.1 r.2
end
def letC (n a : Nod) (ia ib : Inf) (env : Env) (s : CS) : (Cor × Typ) × CS :=
  let x := ia env s
  let y := if 0 < n.types.length /\ x.2.e = 0 then
      (let u := zay (n.types.getD 0 noT) n.line n.col x.2
       let z := zaG x.1.1 x.1.2 u.1 a.line a.col u.2
       ((z.1, u.1), z.2))
    else x
  let z := ib (env ++ [(n.text, y.1.2)]) y.2
  ((cK 18 [y.1.1, z.1.1], z.1.2), z.2)
def fnC (n a : Nod) (ia : Inf) (env : Env) (s : CS) : (Cor × Typ) × CS :=
  let p := zay (n.types.getD 0 noT) n.line n.col s
  let q := if 1 < n.types.length /\ p.2.e = 0 then zay (n.types.getD 1 noT) n.line n.col p.2 else (noT, p.2)
  let x := ia (env ++ [(n.text, p.1)]) q.2
  let y := if 1 < n.types.length then (let z := zaG x.1.1 x.1.2 q.1 a.line a.col x.2; ((z.1, q.1), z.2)) else x
  let u := zbo (fnT p.1 y.1.2) n.line n.col y.2
  ((cK 5 [y.1.1], u.1), u.2)
def anyC (u : Typ) (ln cl : Int) (x : (Cor × Typ) × CS) : (Cor × Typ) × CS :=
  if x.1.2.kind = 0 then (((zaZ x.1.1 x.1.2 u ln cl x.2).1, u), (zaZ x.1.1 x.1.2 u ln cl x.2).2) else x
def zdz (n b : Nod) (ia ib : Inf) (env : Env) (s : CS) : (Cor × Typ) × CS :=
  let x := anyC (fnT noT noT) n.line n.col (ia env s)
  if x.1.2.kind ≠ 6 then ((noC, noT), zaM n.line n.col 16 x.2) else
    let y := ib env x.2
    let z := zaG y.1.1 y.1.2 (kid0 x.1.2) b.line b.col y.2
    ((cK 7 [x.1.1, z.1], kid1 x.1.2), z.2)
def dupS : List ByteArray -> List ByteArray -> Bool
  | _, [] => false
  | had, n :: l => had.any (fun m => decide (m = n)) || dupS (had ++ [n]) l
def recC (n : Nod) (ks : Env -> CS -> (List Cor × List Typ) × CS) (env : Env) (s : CS) : (Cor × Typ) × CS :=
  let s1 := if dupS [] n.names = true then zaM n.line n.col 8 s else s
  let r := ks env s1
  let u := zbo (.mk 5 (bs []) n.names r.1.2) n.line n.col r.2
  ((.mk 8 0 (bs []) [] n.names [] [] r.1.1, u.1), u.2)
def selC (n : Nod) (ia : Inf) (env : Env) (s : CS) : (Cor × Typ) × CS :=
  let x := ia env s
  let f := zb5 x.1.2 n.text
  let y := if x.1.2.kind = 0 then zaZ x.1.1 x.1.2 (.mk 5 (bs []) [n.text] [noT]) n.line n.col x.2 else (x.1.1, x.2)
  ((cT 9 n.text [y.1], f.1), if f.2 = true \/ x.1.2.kind = 0 then y.2 else zaM n.line n.col 17 y.2)
def zbB (x : ByteArray) : List ByteArray -> List Typ -> List (ByteArray × Typ)
  | n :: ns, k :: ks => if n = x then zbB x ns ks else (n, k) :: zbB x ns ks
  | _, _ => []
def zdA (n : Nod) (ia ib : Inf) (env : Env) (s : CS) : (Cor × Typ) × CS :=
  let x := anyC (bT 5) n.line n.col (ia env s)
  if x.1.2.kind ≠ 5 then ((noC, noT), zaM n.line n.col 17 x.2) else
    let y := ib env x.2
    let r := (n.text, y.1.2) :: zbB n.text x.1.2.names x.1.2.kids
    let u := zbo (.mk 5 (bs []) (r.map (·.1)) (r.map (·.2))) n.line n.col y.2
    ((cT 10 n.text [x.1.1, y.1.1], u.1), u.2)
def zaU (q : Nod) (env : Env) : Env × Env :=
  if q.kind = 12 /\ (q.kids.getD 0 noN).kind = 4 /\ 0 <= zbA env (q.kids.getD 0 noN).text then
    let k := (zbA env (q.kids.getD 0 noN).text).toNat
    let b := env.getD k (bs [], noT)
    (env.set k (b.1, (zbX b.2 q.n).1), env.set k (b.1, (zbX b.2 q.n).2))
  else (env, env)
def ifC (q a b : Nod) (iq ia ib : Inf) (env : Env) (s : CS) : (Cor × Typ) × CS :=
  let x := iq env s
  let x' := zaG x.1.1 x.1.2 (bT 2) q.line q.col x.2
  let y := ia (zaU q env).1 x'.2
  let z := ib (zaU q env).2 y.2
  let j := zeE y.1.2 z.1.2
  let y' := zaG y.1.1 y.1.2 j a.line a.col z.2
  let z' := zaG z.1.1 z.1.2 j b.line b.col y'.2
  ((cK 11 [x'.1, y'.1, z'.1], j), z'.2)
def asC (n : Nod) (ia : Inf) (env : Env) (s : CS) : (Cor × Typ) × CS :=
  let x := ia env s
  if x.2.e ≠ 0 then x else
    let u := zay (n.types.getD 0 noT) n.line n.col x.2
    if u.2.e ≠ 0 \/ SubR x.1.2 u.1 = true then ((x.1.1, u.1), u.2) else
      let y := if x.1.2.kind ≠ 0 then zaZ x.1.1 x.1.2 noT n.line n.col u.2 else (x.1.1, u.2)
      if u.1.kind = 0 then ((y.1, u.1), y.2)
      else if x.1.2.kind = 0 then (((zaZ y.1 x.1.2 u.1 n.line n.col y.2).1, u.1), (zaZ y.1 x.1.2 u.1 n.line n.col y.2).2)
      else ((.mk 21 y.1.n (bs []) [] [] [noT, u.1] [] [y.1], u.1), y.2)
def za1 (n : Nod) (i : Inf) (t : Typ) (env : Env) (s : CS) : Cor × CS :=
  let x := i env s
  zaG x.1.1 x.1.2 t n.line n.col x.2
def zch : List ByteArray := [bs [43], bs [45], bs [42], bs [47], bs [37], bs [60, 60], bs [62, 62], bs [38], bs [94], bs [60], bs [60, 61]]
def opZ (s : ByteArray) : Int := max 0 (fi (fun x => decide (x = s)) 0 zch)
def opC (n a b : Nod) (ia ib : Inf) (env : Env) (s : CS) : (Cor × Typ) × CS :=
  if n.text = bs [111, 114] then
    let x := za1 a ia (bT 2) env s
    let y := za1 b ib (bT 2) env x.2
    ((cK 11 [x.1, cN 2 1, y.1], bT 2), y.2)
  else if n.text = bs [97, 110, 100] then
    let x := za1 a ia (bT 2) env s
    let y := za1 b ib (bT 2) env x.2
    ((cK 11 [x.1, y.1, cN 2 0], bT 2), y.2)
  else if n.text = bs [61, 61] then
    let x := ia env s
    let y := ib env x.2
    ((cK 14 [x.1.1, y.1.1], bT 2), y.2)
  else if n.text = bs [43, 43] then
    let x := za1 a ia (bT 4) env s
    let y := za1 b ib (bT 4) env x.2
    ((cK 15 [x.1, y.1], bT 4), y.2)
  else
    let x := za1 a ia (bT 3) env s
    let y := za1 b ib (bT 3) env x.2
    ((.mk 13 (opZ n.text) (bs []) [] [] [] [] [x.1, y.1], if 9 <= opZ n.text then bT 2 else bT 3), y.2)
def oneC (n a : Nod) (ia : Inf) (env : Env) (s : CS) : (Cor × Typ) × CS :=
  if n.kind = 15 then ((cK 16 [(za1 a ia (bT 2) env s).1], bT 2), (za1 a ia (bT 2) env s).2)
  else if n.kind = 16 then ((cK 17 [(za1 a ia (bT 3) env s).1], bT 3), (za1 a ia (bT 3) env s).2)
  else if n.kind = 12 then ((.mk 12 n.n (bs []) [] [] [] [] [(ia env s).1.1], bT 2), (ia env s).2)
  else ((cK 19 [(ia env s).1.1], bT 1), (ia env s).2)
mutual
def zao (L : Lnk) : Nod -> Inf
  | .mk k tx nn ln cl ts ns ks => fun env s =>
    if s.e ≠ 0 then ((noC, noT), s)
    else if k = 0 then ((cN 0 nn, bT 3), s)
    else if k = 1 then ((cT 1 tx [], bT 4), s)
    else if k = 2 then ((cN 2 nn, bT 2), s)
    else if k = 3 then ((cN 3 0, bT 1), s)
    else if k = 18 then ((cN 20 0, bT 3), s)
    else if k = 4 \/ k = 19 then zcG L (.mk k tx nn ln cl ts ns ks) env s
    else if k = 8 then recC (.mk k tx nn ln cl ts ns ks) (zaS L ks) env s
    else match ks with
      | [] => ((noC, noT), s)
      | a :: [] =>
        if k = 6 then fnC (.mk k tx nn ln cl ts ns ks) a (zao L a) env s
        else if k = 9 then selC (.mk k tx nn ln cl ts ns ks) (zao L a) env s
        else if k = 13 then asC (.mk k tx nn ln cl ts ns ks) (zao L a) env s
        else oneC (.mk k tx nn ln cl ts ns ks) a (zao L a) env s
      | a :: b :: [] =>
        if k = 5 then letC (.mk k tx nn ln cl ts ns ks) a (zao L a) (zao L b) env s
        else if k = 7 then zdz (.mk k tx nn ln cl ts ns ks) b (zao L a) (zao L b) env s
        else if k = 10 then zdA (.mk k tx nn ln cl ts ns ks) (zao L a) (zao L b) env s
        else opC (.mk k tx nn ln cl ts ns ks) a b (zao L a) (zao L b) env s
      | a :: b :: c :: _ => ifC a b c (zao L a) (zao L b) (zao L c) env s
def zaS (L : Lnk) : List Nod -> Env -> CS -> (List Cor × List Typ) × CS
  | [] => fun env s => (([], []), s)
  | n :: l => fun env s =>
    let x := zao L n env s
    let r := zaS L l env x.2
    ((x.1.1 :: r.1.1, x.1.2 :: r.1.2), r.2)
end
def zcm : List Typ -> Nat -> ByteArray -> ByteArray
  | [], _, s => s
  | t :: l, i, s => zcm l (i + 1) (s ++ (if i = 0 then bs [91] else bs [44, 32]) ++ zdb t)
def funC (L : Lnk) (x : Ist) (s0 : CS) : CS :=
  let d := decAt L x.module x.decl
  let s : CS := { s0 with module := x.module, vars := d.vars.map (·.1), wth := x.types, e := 0 }
  let a := zay (d.types.getD 0 noT) d.line d.col s
  let b := zay (d.types.getD 1 noT) d.line d.col a.2
  let t : Typ × CS := if b.2.e = 0 then zbo (fnT a.1 b.1) d.line d.col b.2 else (fnT a.1 b.1, b.2)
  let s2 : CS := if x.module = L.main.module /\ x.decl = L.main.decl /\ zfA (bT 1) a.1 = false then zaM d.line d.col 14 t.2 else t.2
  let y := zao L d.body [(d.param, a.1)] s2
  let z := zaG y.1.1 y.1.2 b.1 d.body.line d.body.col y.2
  let nm := zcm x.types 0 (L.names.getD x.module.toNat (bs []) ++ bs [46] ++ d.name)
  let nm := if 0 < x.types.length then nm ++ bs [93] else nm
  let s3 : CS := { z.2 with funs := z.2.funs ++ [⟨nm, t.1, z.1⟩] }
  if s3.e ≠ 0 then { s3 with bad := s3.bad ++ [⟨x.module, s3.line, s3.col, s3.e⟩] } else s3
def zcc (L : Lnk) (i : Nat) : List Dec -> Nat -> CS -> CS × List Dia
  | [], _, s => (s, [])
  | d :: l, k, s =>
    if 0 < d.vars.length then zcc L i l (k + 1) s else
      let r := addR 256 s.tab ⟨i, k, []⟩
      if r.1.2 ≠ 0 then ({ s with tab := r.2 }, [⟨i, d.line, d.col, r.1.2⟩])
      else zcc L i l (k + 1) { s with tab := r.2, main := if (i : Int) = L.main.module /\ (k : Int) = L.main.decl then r.1.1 else s.main }
def seedM (L : Lnk) : List Mdl -> Nat -> CS -> CS × List Dia
  | [], _, s => (s, [])
  | m :: l, i, s => if 0 < (zcc L i m.decs 0 s).2.length then zcc L i m.decs 0 s else seedM L l (i + 1) (zcc L i m.decs 0 s).1
def funsC (L : Lnk) : Nat -> Nat -> CS -> CS
  | 0, _, s => s
  | n + 1, i, s => if i < s.tab.length then funsC L n (i + 1) (funC L (s.tab.getD i ⟨0, 0, []⟩) s) else s
def cs0 : CS := ⟨[], [], 0, [], [], 0, [], [], 0, 0, 0⟩
def zeh (L : Lnk) : Prg × List Dia :=
  let a := seedM L L.mods 0 cs0
  if 0 < a.2.length then (noPrg, a.2) else
    let s := funsC L 257 0 a.1
    if 0 < s.bad.length then (noPrg, s.bad) else (⟨s.funs, s.main, s.sites⟩, [])
def fewL : List (ByteArray × ByteArray) -> Int -> Bool
  | [], _ => true
  | s :: l, n => if 70000 - n < s.2.size \/ 1000 < s.1.size then false else fewL l (n + s.2.size)
def sumL : List (ByteArray × ByteArray) -> Int
  | [] => 0
  | s :: l => s.2.size + sumL l
def programP (l : List (ByteArray × ByteArray)) : Prg × Bool :=
  if 20 < l.length \/ fewL l 0 = false \/ 5000 < sumL l then (noPrg, false) else
    let x := zfE l
    if 0 < x.2.length then (noPrg, false) else
      let r := zeh x.1
      (r.1, decide (r.2.length = 0))
end Go.Gr
