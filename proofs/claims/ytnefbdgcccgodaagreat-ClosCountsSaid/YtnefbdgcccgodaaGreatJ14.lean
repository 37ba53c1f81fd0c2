/- Texts of ours, joined and written short by a program of ours. -/
import Derived.Test.YtnefbdgcccgodaaGreatJ13
import Derived.Test.YtnefbdgcccgodaaGreatJ11
set_option linter.unusedVariables false
set_option linter.unusedSimpArgs false
namespace Go.Gr
open Go.Abs Go.Proofs
theorem PCall.erdV {P : Program} {f : FuncId} {args : List DV} {v v' : DV} (h : PCall P f args v) (e : v.erd = v') : PCall P f args v' := by
 subst e
 refine ⟨h.1, fun ph w us hp hG r => (h.2 ph w us hp hG r).mono fun e w' q => ?_⟩
 obtain ⟨vC, h', q1, q2, q3, q4, q5, q6, q7, q8⟩ := q
 exact ⟨vC, h', q1, q2, q3, q4, q5, q6, q7, zaH.erd q8⟩
@[simp] theorem Prt.enc_length (p : Prt) : p.enc.length = 6 := by simp [Prt.enc]
@[simp] theorem Prt.enc_0 (p : Prt) : p.enc[0]? = some (.int .i64 p.tag) := rfl
@[simp] theorem Prt.enc_g0 (p : Prt) (h : 0 < p.enc.length) : p.enc[0] = .int .i64 p.tag := rfl
@[simp] theorem Prt.cut_t (p : Prt) : cut p.enc 2 4 = p.t.enc := by unfold Prt.enc; rw [Typ.enc_eq]; try rfl
@[simp] theorem Prt.cut_tM (p : Prt) : cut (p.enc.map AC.d) 2 4 = p.t.enc.map .d := by unfold Prt.enc; rw [Typ.enc_eq]; try rfl
@[simp] theorem Prt.er_map (p : Prt) : p.enc.map D.er = p.enc := by unfold Prt.enc; rw [Typ.enc_eq]; try rfl
theorem zto (a b c d e f : AC) (T : Typ) : splice [a, b, c, d, e, f] 2 (T.enc.map AC.d) = a :: b :: T.enc.map .d := by rw [T.enc_eq]; try rfl
theorem zv7 (a b : AC) (T : Typ) : cut (a :: b :: T.enc.map AC.d) 0 6 = a :: b :: T.enc.map .d := by rw [T.enc_eq]; try rfl
attribute [simp] zto zv7
@[simp] theorem Prt.enc_4 (p : Prt) : p.enc[4]? = some (.sl false 1 (encS p.t.names)) := by unfold Prt.enc; rw [Typ.enc_eq]; try rfl
@[simp] theorem Prt.enc_5 (p : Prt) : p.enc[5]? = some (.sl false 4 (p.t.kids.map Typ.enc)) := by unfold Prt.enc; rw [Typ.enc_eq]; try rfl
@[simp] theorem Prt.enc_g4 (p : Prt) (h : 4 < p.enc.length) : p.enc[4] = .sl false 1 (encS p.t.names) := by have := p.enc_4; rw [List.getElem?_eq_getElem h] at this; exact Option.some.inj this
@[simp] theorem Prt.enc_g5 (p : Prt) (h : 5 < p.enc.length) : p.enc[5] = .sl false 4 (p.t.kids.map Typ.enc) := by have := p.enc_5; rw [List.getElem?_eq_getElem h] at this; exact Option.some.inj this
theorem zaF {α β : Type} (f : α -> β) (v : List α) : List.take v.length (v.map f) = v.map f := List.take_of_length_le (by rw [List.length_map]; exact Nat.le_refl _)
theorem zdR (l : List Prt) (tag : Int) : PCall Pg F.g06_part [.one (.sl false 6 (l.map Prt.enc)), .one (.int .i64 tag)] (.tup [.agg (za8 l tag).1.enc, .one (.bool (za8 l tag).2)]) := by
 refine zqd (by simp) fun o c hN hp => ?_
 have hl : l.length <= zak := by have := o.1; simp only [DV.ok, D.ok, List.length_map] at this; exact this.1
 unfold zak at hl
 obtain ⟨R, hR⟩ : ∃ R, za8 l tag = R := ⟨_, rfl⟩
 rw [hR]
 unfold za8 at hR
 unfold zi2
 simp
 refine W.loop Pg_mixed hp (fun j : Nat => j <= l.length /\ (l.drop j).find? (fun p => decide (p.tag = tag)) = l.find? fun p => decide (p.tag = tag)) (fun j => [(6, .c (.d (.int .i64 j))), (4, .c (.ptr 0 0)), (1, .c (.d (.int .i64 tag))), (0, .c (.d (.sl false 6 (l.map Prt.enc))))]) (fun _ => [.box [.d (.int .i64 0), .d (.bool false), .d (.int .i64 0), .d (.str (bs [])), .d (.sl true 1 []), .d (.sl true 4 [])]]) (fun j => l.length - j) 0 [0] ⟨by simp, by simp⟩ (by simp) fun j ⟨h1, h2⟩ => ?_
 unfold zg9
 simp
 refine gd.mk (fun h => ?_) (fun h => ?_)
 ·have hj : j < l.length := by simpa using h
  rw [List.drop_eq_getElem_cons hj, List.find?_cons] at h2
  obtain ⟨x, hx⟩ : ∃ x, l[j] = x := ⟨_, rfl⟩
  rw [hx] at h2
  by_cases q : x.tag = tag
  ·simp [q] at h2
   rw [<- h2] at hR
   subst hR
   simp [hj, hx, q]
  ·simp [q] at h2
   simp [hj, hx, q]
   refine Abs.Next.mk (j + 1) [0] ⟨by omega, by simpa using h2⟩ (by omega) ?_
   simp
   exact wrap_i64 (by omega) (by omega)
 ·have hj : j = l.length := by simp at h; omega
  subst hj
  rw [List.drop_length, List.find?_nil] at h2
  rw [<- h2] at hR
  subst hR
  simp
  rfl
theorem znB (t : Typ) (s : ByteArray) (hn : t.names.length <= t.kids.length) : PCall Pg F.g06_Field [.agg t.enc, .one (.str s)] (.tup [.agg (zb5 t s).1.enc, .one (.bool (zb5 t s).2)]) := by
 refine zoM (by simp) fun o c hN hp => ?_
 have hf := zgf o.1
 unfold zak at hf
 obtain ⟨R, hR⟩ : ∃ R, zb5 t s = R := ⟨_, rfl⟩
 rw [hR]
 unfold zb5 at hR
 unfold zhu
 simp
 refine W.loop Pg_mixed hp (fun j : Nat => j <= t.names.length /\ zb4 (t.names.drop j) (t.kids.drop j) s = R) (fun j => [(6, .c (.d (.int .i64 j))), (4, .c (.ptr 0 0)), (2, .c (.d (.rp t.enc 0))), (1, .c (.d (.str s)))]) (fun _ => [bx4]) (fun j => t.names.length - j) 0 [0] ⟨by simp, by simpa using hR⟩ (by simp) fun j ⟨h1, h2⟩ => ?_
 unfold zfX
 simp
 refine gd.mk (fun h => ?_) (fun h => ?_)
 ·have hj : j < t.names.length := by simpa using h
  have hj2 : j < t.kids.length := by omega
  rw [List.drop_eq_getElem_cons hj, List.drop_eq_getElem_cons hj2, zb4] at h2
  by_cases q : t.names[j] = s
  ·rw [if_pos q] at h2
   subst h2
   simp [hj, hj2, q]
  ·rw [if_neg q] at h2
   simp [hj, hj2, q]
   refine Abs.Next.mk (j + 1) [0] ⟨by omega, h2⟩ (by omega) ?_
   simp
   exact wrap_i64 (by omega) (by omega)
 ·have hj : j = t.names.length := by simp at h; omega
  subst hj
  rw [List.drop_length, zb4] at h2
  ·subst h2
   simp [zae]
  ·intros; contradiction
def rawT (k : Int) : List D := [.int .i64 k, .str (bs []), .sl true 1 [], .sl true 4 []]
def rawA : List (List D) := [
 .int .i64 0 :: .bool false :: rawT 1, .int .i64 1 :: .bool false :: rawT 2, .int .i64 2 :: .bool false :: rawT 3, .int .i64 3 :: .bool false :: rawT 4,
 .int .i64 4 :: .bool true :: rawT 5, [.int .i64 5, .bool false, .int .i64 6, .str (bs []), .sl true 1 [], .sl true 4 [rawT 0, rawT 0]]]
abbrev prtB (es : List (List D)) : Blk := .arr 6 (es.map (·.map .d))
set_option maxRecDepth 20000 in
theorem zrN (t : Typ) (h0 : t.kind = 0) : PCall Pg F.g06_Parts [.agg t.enc] (.one (.sl false 6 rawA)) := by
 refine zi1 (by simp) fun o c hN hp => ?_
 unfold zeX
 simp [h0]
 refine owK.mk [.t 3] ?_
 simp
 refine W.loop Pg_mixed hp (fun j : Nat => j <= 6) (fun j => [(4, .c (.d (.int .i64 j))), (3, .c (.msl 6 0 0 j))]) (fun j => [prtB (rawA.take j)]) (fun j => 6 - j) 0 [0] (by simp) (by simp [rawA]) fun j h1 => ?_
 unfold zfV
 have w1 : IntKind.i64.wrap 1 = 1 := by decide
 have w2 : IntKind.i64.wrap 2 = 2 := by decide
 have w3 : IntKind.i64.wrap 3 = 3 := by decide
 have w4 : IntKind.i64.wrap 4 = 4 := by decide
 have w5 : IntKind.i64.wrap 5 = 5 := by decide
 have w6 : IntKind.i64.wrap 6 = 6 := by decide
 have hc : j = 0 \/ j = 1 \/ j = 2 \/ j = 3 \/ j = 4 \/ j = 5 \/ j = 6 := by omega
 rcases hc with rfl | rfl | rfl | rfl | rfl | rfl | rfl
 ·simp [rawA, rawT, w1, w2, w3, w4, w5, w6]
  refine Abs.Next.mk 1 [2] (by omega) (by omega) ?_
  simp [rawA, rawT, w1, w2, w3, w4, w5, w6]
 ·simp [rawA, rawT, w1, w2, w3, w4, w5, w6]
  refine Abs.Next.mk 2 [2] (by omega) (by omega) ?_
  simp [rawA, rawT, w1, w2, w3, w4, w5, w6]
 ·simp [rawA, rawT, w1, w2, w3, w4, w5, w6]
  refine Abs.Next.mk 3 [2] (by omega) (by omega) ?_
  simp [rawA, rawT, w1, w2, w3, w4, w5, w6]
 ·simp [rawA, rawT, w1, w2, w3, w4, w5, w6]
  refine Abs.Next.mk 4 [2] (by omega) (by omega) ?_
  simp [rawA, rawT, w1, w2, w3, w4, w5, w6]
 ·simp [rawA, rawT, w1, w2, w3, w4, w5, w6]
  refine Abs.Next.mk 5 [2] (by omega) (by omega) ?_
  simp [rawA, rawT, w1, w2, w3, w4, w5, w6]
 ·simp [rawA, rawT, w1, w2, w3, w4, w5, w6]
  refine Abs.Next.mk 6 [2] (by omega) (by omega) ?_
  simp [rawA, rawT, w1, w2, w3, w4, w5, w6]
 ·simp [rawA, rawT]
set_option maxRecDepth 20000 in
theorem ze3 (t : Typ) (hk : t.kids.length <= 1000) : PCall Pg F.g06_Parts [.agg t.enc] (.one (.sl false 6 ((za4 t).map Prt.enc))) := by
 by_cases h0 : t.kind = 0
 ·refine PCall.erdV (zrN t h0) ?_
  unfold za4
  rw [if_pos h0]
  try rfl
 refine zi1 (by simp) fun o c hN hp => ?_
 have hf := zgf o.1
 unfold zak at hf
 obtain ⟨R, hR⟩ : ∃ R, za4 t = R := ⟨_, rfl⟩
 rw [hR]
 unfold za4 at hR
 rw [if_neg h0] at hR
 unfold zeX
 by_cases h7 : t.kind = 7
 rotate_left
 ·rw [if_pos h7] at hR
  subst hR
  simp [h0, h7]
  refine zac.mk (zkM t) ?_
  simp [Prt.enc]
  decide
 rw [if_neg (fun z => z h7)] at hR
 simp [h0, h7]
 refine owK.mk [.t 3] ?_
 simp
 subst hR
 refine W.loop Pg_mixed hp (fun j : Nat => j <= t.kids.length) (fun j => [(6, .c (.d (.int .i64 j))), (3, .c (.msl 6 0 0 j)), (1, .c (.d (.rp t.enc 0)))]) (fun j => [prtB (((t.kids.take j).map fun k => (⟨za6 k, false, k⟩ : Prt)).map Prt.enc)]) (fun j => t.kids.length - j) 0 [0] (by simp) (by simp) fun j h1 => ?_
 unfold zfW
 simp
 refine gd.mk (fun h => ?_) (fun h => ?_)
 ·have hj : j < t.kids.length := by simpa using h
  obtain ⟨x, hx⟩ : ∃ x, t.kids[j] = x := ⟨_, rfl⟩
  simp [hj, hx]
  refine zac.mk (zkM x) ?_
  have hmn : min j t.kids.length = j := by omega
  simp [Prt.enc, hj, hx, hmn]
  refine ⟨by omega, by decide, ?_⟩
  refine Abs.Next.mk (j + 1) [1] (by omega) (by omega) ?_
  rw [List.take_succ_eq_append_getElem hj, hx]
  simp [Prt.enc, hmn]
  refine ⟨wrap_i64 (by omega) (by omega), by rw [List.take_take, Nat.min_self], fun x hx => ?_⟩
  obtain ⟨y, _, rfl⟩ := List.mem_map.1 (List.mem_of_mem_take hx)
  simp
 ·have hj : j = t.kids.length := by simp at h; omega
  subst hj
  simp [zaF]
  try trace_state
theorem znC : ∀ {l : List Typ} {x : Typ}, x ∈ l -> dpt x <= dpts l
 | t :: l, x, h => by
  rw [dpts]
  rcases List.mem_cons.1 h with rfl | h
  ·omega
  ·have := znC h; omega
theorem zln {t x : Typ} (h : x ∈ t.kids) : dpt x < dpt t := by
 cases t with
 | mk k n s l => rw [dpt]; have := znC (l := l) h; omega
theorem zgG : ∀ (ns : List ByteArray) (ks : List Typ) (s : ByteArray), (zb4 ns ks s).2 = true -> (zb4 ns ks s).1 ∈ ks
 | [], ks, s, h => by rw [zb4] at h; cases h; all_goals (intros; contradiction)
 | _ :: _, [], s, h => by rw [zb4] at h; cases h; all_goals (intros; contradiction)
 | n :: ns, k :: ks, s, h => by
  rw [zb4] at h ⊢
  by_cases q : n = s
  ·rw [if_pos q]; simp
  ·rw [if_neg q] at h ⊢
   exact List.mem_cons_of_mem _ (zgG ns ks s h)
theorem zqm {t : Typ} (h : wfT t) : t.names.length <= t.kids.length := by
 rcases ((zbr t).1 h).2.2 with ⟨_, _, q, _⟩ | ⟨_, q, _⟩ | ⟨_, q, _⟩ | ⟨_, q, _⟩
 ·rw [q]; simp
 ·omega
 ·rw [q]; simp
 ·rw [q]; simp
theorem zcB {t x : Typ} (h : wfT t) (hx : x ∈ t.kids) : wfT x := ((zbr t).1 h).2.1 x hx
theorem zki {t : Typ} (h : wfT t) (hk : t.kind = 6) : t.kids.length = 2 := by
 rcases ((zbr t).1 h).2.2 with ⟨_, q, _⟩ | ⟨q, _⟩ | ⟨_, _, q⟩ | ⟨q, _⟩
 ·omega
 ·omega
 ·exact q
 ·omega
theorem tag5 {t : Typ} (h : za6 t = 5) : t.kind = 6 := by
 unfold za6 at h
 split at h
 ·omega
 ·omega
theorem zea {t : Typ} (h : wfT t) (h0 : t.kind ≠ 0) {p : Prt} (hp : p ∈ za4 t) : wfT p.t /\ p.tag = za6 p.t /\ (∀ x, x ∈ p.t.kids -> dpt x < dpt t) /\ p.opn = false := by
 unfold za4 at hp
 rw [if_neg h0] at hp
 split at hp
 ·simp at hp
  subst hp
  exact ⟨h, rfl, fun x hx => zln hx, rfl⟩
 ·obtain ⟨k, hk, rfl⟩ := List.mem_map.1 hp
  exact ⟨zcB h hk, rfl, fun x hx => Nat.lt_trans (zln hx) (zln hk), rfl⟩
theorem zft {l : List Prt} {tag : Int} (h : (za8 l tag).2 = true) : (za8 l tag).1 ∈ l /\ (za8 l tag).1.tag = tag := by
 unfold za8 at h ⊢
 cases e : l.find? fun p => decide (p.tag = tag) with
 | none => rw [e] at h; cases h
 | some p =>
  have h1 := List.mem_of_find?_eq_some e
  have h2 := List.find?_some e
  exact ⟨h1, by simpa using h2⟩
abbrev blwT (lo : Bool) (L R : List Prt) (i : Nat) : List (Nat × AV) := [(9, .c (.d (.int .i64 i))), (8, .c (.d (.sl false 6 (R.map Prt.enc)))), (7, .c (.d (.sl false 6 (L.map Prt.enc)))), (2, .c (.d (.bool lo)))]
abbrev zkj (lo : Bool) (rc : Typ -> Typ -> Bool) (a b : Typ) : Prop := PCall Pg F.g06_below [.agg a.enc, .agg b.enc, .one (.bool lo)] (.one (.bool (rc a b)))
set_option maxRecDepth 20000 in
theorem zrO {c : Ctx} (hp : c.pure) (lo : Bool) (L R : List Prt) (i : Nat) (q : Prt) (m : Typ) (rc : Typ -> Typ -> Bool) (hm : wfT m) (hq : wfT q.t) (hl : q.t.names.length <= 1000) (ih : ∀ x, x ∈ m.kids -> ∀ y, y ∈ q.t.kids -> zkj lo rc x y) {Q : Exit -> St -> Prop} {S : St} {g} {ms : List Nat}
  (h0 : Match ms S ((13, .c (.d (.int .i64 0))) :: (12, .c (.ptr 1 0)) :: (10, .c (.ptr 0 0)) :: blwT lo L R i) [.box (q.enc.map .d), .box (m.enc.map .d)])
  (hN : zcQ rc m q.t.names q.t.kids = false -> ∀ T M n, Abs.look T 6 = .c (.d (.bool false)) -> Q .ret ⟨T, M, n⟩)
  (hQ : zcQ rc m q.t.names q.t.kids = true -> ∀ T, Abs.look T 12 = .c (.ptr 1 0) -> Abs.look T 10 = .c (.ptr 0 0) -> Abs.look T 9 = .c (.d (.int .i64 i)) -> Abs.look T 8 = .c (.d (.sl false 6 (R.map Prt.enc))) -> Abs.look T 7 = .c (.d (.sl false 6 (L.map Prt.enc))) -> Abs.look T 2 = .c (.d (.bool lo)) -> Q (.exit 2) ⟨T, hpOf [.box (q.enc.map .d), .box (m.enc.map .d)], 2⟩) : lw_ Pg c zdN Q g S := by
 have hnk := zqm hq
 obtain ⟨F0, hF⟩ : ∃ F0, zcQ rc m q.t.names q.t.kids = F0 := ⟨_, rfl⟩
 rw [hF] at hN hQ
 refine W.loop Pg_mixed hp (fun j : Nat => j <= q.t.names.length /\ zcQ rc m (q.t.names.drop j) (q.t.kids.drop j) = F0) (fun j => (13, .c (.d (.int .i64 j))) :: (12, .c (.ptr 1 0)) :: (10, .c (.ptr 0 0)) :: blwT lo L R i) (fun _ => [.box (q.enc.map .d), .box (m.enc.map .d)]) (fun j => q.t.names.length - j) 0 ms ⟨by simp, by simpa using hF⟩ h0 fun j ⟨h1, h2⟩ => ?_
 unfold zdN
 simp
 refine gd.mk (fun h => ?_) (fun h => ?_)
 ·have hj : j < q.t.names.length := by simpa using h
  have hj2 : j < q.t.kids.length := by omega
  rw [List.drop_eq_getElem_cons hj, List.drop_eq_getElem_cons hj2, zcQ] at h2
  have hfm := zgG m.names m.kids q.t.names[j]
  have hff : zb4 m.names m.kids q.t.names[j] = zb5 m q.t.names[j] := rfl
  rw [hff] at hfm
  simp [hj, hj2]
  refine zac.mk (znB m _ (zqm hm)) ?_
  generalize zb5 m q.t.names[j] = f at *
  by_cases hf : f.2 = true
  ·have hix := ih _ (hfm hf) _ (List.getElem_mem hj2)
   simp only [hf, Bool.true_and] at h2
   simp [hf, hj, hj2]
   refine ⟨by decide, ?_⟩
   refine zac.mk hix ?_
   generalize rc f.1 q.t.kids[j] = z at *
   cases z with
   | true =>
    simp only [Bool.true_and] at h2
    simp
    refine ⟨by decide, ?_⟩
    refine Abs.Next.mk (j + 1) [0, 1] ⟨by omega, h2⟩ (by omega) ?_
    simp
    exact wrap_i64 (by omega) (by omega)
   | false =>
    simp only [Bool.false_and] at h2
    simp
    exact ⟨by decide, hN h2.symm _ _ _ (by simp)⟩
  ·simp only [hf, Bool.false_and] at h2
   simp [hf, hj, hj2]
   exact ⟨by decide, by decide, hN h2.symm _ _ _ (by simp)⟩
 ·have hj : j = q.t.names.length := by simp at h; omega
  subst hj
  rw [List.drop_length, zcQ] at h2
  ·exact hQ h2.symm _ (by simp) (by simp) (by simp) (by simp) (by simp) (by simp)
  ·intros; contradiction
theorem zuJ (t : Typ) : 1 <= dpt t := by cases t; rw [dpt]; omega
theorem ztp {t : Typ} (h : wfT t) : t.names.length <= 16 := by
 rcases ((zbr t).1 h).2.2 with ⟨_, _, q, _⟩ | ⟨_, _, q, _⟩ | ⟨_, q, _⟩ | ⟨_, q, _⟩
 ·rw [q]; simp
 ·omega
 ·rw [q]; simp
 ·rw [q]; simp
theorem zcO {t : Typ} (h : wfT t) : t.kids.length <= 16 := by
 rcases ((zbr t).1 h).2.2 with ⟨_, _, _, q⟩ | ⟨_, q, r, _⟩ | ⟨_, _, q⟩ | ⟨_, _, q, _⟩
 ·rw [q]; simp
 ·omega
 ·omega
 ·omega
theorem zrP (t : Typ) : (za4 t).length <= 6 + t.kids.length := by
 unfold za4
 split
 ·simp
 split
 ·simp; omega
 ·simp
theorem znD {t : Typ} (h : t.kids.length = 2) : kid0 t ∈ t.kids /\ t.kids[0]? = some (kid0 t) := by
 unfold kid0
 match t.kids, h with
 | [a, b], _ => simp
theorem zjD {t : Typ} (h : t.kids.length = 2) : kid1 t ∈ t.kids /\ t.kids[1]? = some (kid1 t) := by
 unfold kid1
 match t.kids, h with
 | [a, b], _ => simp
set_option maxRecDepth 20000 in
set_option maxHeartbeats 1000000 in
theorem zgH (lo : Bool) : ∀ (n : Nat) (a b : Typ), wfT a -> wfT b -> dpt a + dpt b <= n -> zkj lo (zbR lo n) a b
 | 0, a, b, _, _, h => by have := zuJ a; omega
 | n + 1, a, b, wa, wb, hn => by
  refine zoN (by simp) fun o c hN hp => ?_
  obtain ⟨F0, hF⟩ : ∃ F0, zbR lo (n + 1) a b = F0 := ⟨_, rfl⟩
  rw [hF]
  rw [zbR] at hF
  unfold zhv
  by_cases a0 : a.kind = 0
  ·rw [if_pos (.inl a0)] at hF
   cases lo with
   | true =>
    simp at hF
    simp [a0, hF]
   | false =>
    simp [a0] at hF
    simp [a0, hF]
  by_cases b0 : b.kind = 0
  ·rw [if_pos (.inr b0)] at hF
   cases lo with
   | true =>
    simp at hF
    simp [a0, b0, hF]
   | false =>
    rw [<- hF]
    simp [a0, b0]
  rw [if_neg (by omega)] at hF
  have hpa := fun p hp => zea (p := p) wa a0 hp
  have hpb := fun p hp => zea (p := p) wb b0 hp
  simp [a0, b0]
  refine zac.mk (ze3 a (by have := zcO wa; omega)) ?_
  simp
  refine zac.mk (ze3 b (by have := zcO wb; omega)) ?_
  have hL : (za4 a).length <= 1000 := by have := zcO wa; have := zrP a; omega
  generalize za4 a = L at *
  generalize za4 b = R at *
  simp
  refine W.loop Pg_mixed hp (fun i : Nat => i <= L.length /\ ((L.drop i).all fun p => (za8 R p.tag).2 && (zcQ (zbR lo n) p.t (za8 R p.tag).1.t.names (za8 R p.tag).1.t.kids && (!decide ((za8 R p.tag).1.tag = 5) || (zbR lo n (kid0 (za8 R p.tag).1.t) (kid0 p.t) && zbR lo n (kid1 p.t) (kid1 (za8 R p.tag).1.t))))) = F0) (fun i => blwT lo L R i) (fun _ => []) (fun i => L.length - i) 0 [] ⟨by simp, by simpa using hF⟩ (by simp) fun i ⟨i1, i2⟩ => ?_
  unfold zfY
  simp
  refine gd.mk (fun h => ?_) (fun h => ?_)
  ·have hi : i < L.length := by simpa using h
   rw [List.drop_eq_getElem_cons hi, List.all_cons] at i2
   obtain ⟨p, hx⟩ : ∃ p, L[i] = p := ⟨_, rfl⟩
   have hpm := hpa p (by rw [<- hx]; exact List.getElem_mem hi)
   rw [hx] at i2
   simp [hi, hx]
   refine zac.mk (zdR R p.tag) ?_
   have hq := fun h => zft (l := R) (tag := p.tag) h
   generalize za8 R p.tag = q at *
   by_cases q2 : q.2 = true
   rotate_left
   ·simp only [q2, Bool.false_and] at i2
    simp [q2]
    simpa using i2
   obtain ⟨qm, qt⟩ := hq q2
   have hqm := hpb q.1 qm
   simp only [q2, Bool.true_and] at i2
   simp [q2, hi, hx]
   refine zrO hp lo L R i q.1 p.t (zbR lo n) hpm.1 hqm.1 (by have := ztp hqm.1; omega) (fun x hx y hy => zgH lo n x y (zcB hpm.1 hx) (zcB hqm.1 hy) (by have := hpm.2.2.1 x hx; have := hqm.2.2.1 y hy; omega)) (ms := [0, 1]) (by simp) (fun hf T M n' t6 => ?_) (fun hf T t12 t10 t9 t8 t7 t2 => ?_)
   ·rw [hf] at i2
    simp only [Bool.false_and] at i2
    simp [t6, i2]
   ·rw [hf] at i2
    simp only [Bool.true_and] at i2
    by_cases g5 : q.1.tag = 5
    ·have hk1 := zki hqm.1 (tag5 (by rw [<- hqm.2.1]; exact g5))
     have hk2 := zki hpm.1 (tag5 (by rw [<- hpm.2.1, <- qt]; exact g5))
     have m0 := znD hk1
     have m1 := zjD hk1
     have n0 := znD hk2
     have n1 := zjD hk2
     have e1 : PCall Pg F.g06_below [.agg (kid0 q.1.t).enc, .agg (kid0 p.t).enc, .one (.bool lo)] (.one (.bool (zbR lo n (kid0 q.1.t) (kid0 p.t)))) := zgH lo n (kid0 q.1.t) (kid0 p.t) (zcB hqm.1 m0.1) (zcB hpm.1 n0.1) (by have := hpm.2.2.1 _ n0.1; have := hqm.2.2.1 _ m0.1; omega)
     have e2 : PCall Pg F.g06_below [.agg (kid1 p.t).enc, .agg (kid1 q.1.t).enc, .one (.bool lo)] (.one (.bool (zbR lo n (kid1 p.t) (kid1 q.1.t)))) := zgH lo n (kid1 p.t) (kid1 q.1.t) (zcB hpm.1 n1.1) (zcB hqm.1 m1.1) (by have := hpm.2.2.1 _ n1.1; have := hqm.2.2.1 _ m1.1; omega)
     simp only [g5, decide_true, Bool.not_true, Bool.false_or] at i2
     generalize zbR lo n (kid0 q.1.t) (kid0 p.t) = z1 at *
     generalize zbR lo n (kid1 p.t) (kid1 q.1.t) = z2 at *
     simp [t10, t12, t2, g5, m0.2, n0.2]
     refine zac.mk e1 ?_
     cases z1 with
     | false =>
      simp only [Bool.false_and] at i2
      simp
      exact ⟨by decide, i2.symm⟩
     | true =>
      simp only [Bool.true_and] at i2
      simp [t10, t12, t2, m1.2, n1.2, t9]
      refine zac.mk e2 ?_
      cases z2 with
      | false =>
       simp only [Bool.false_and] at i2
       simp
       exact ⟨by decide, i2.symm⟩
      | true =>
       simp only [Bool.true_and] at i2
       simp [t9]
       refine ⟨by decide, ?_⟩
       refine Abs.Next.mk (i + 1) [] ⟨by omega, i2⟩ (by omega) ?_
       simp [t9, t8, t7, t2]
       exact wrap_i64 (by omega) (by omega)
    ·simp only [g5, decide_false, Bool.not_false, Bool.true_or, Bool.true_and] at i2
     simp [t10, t12, t2, g5, t9]
     refine ⟨by decide, ?_⟩
     refine Abs.Next.mk (i + 1) [] ⟨by omega, i2⟩ (by omega) ?_
     simp [t9, t8, t7, t2]
     exact wrap_i64 (by omega) (by omega)
  ·have hi : i = L.length := by simp at h; omega
   subst hi
   rw [List.drop_length, List.all_nil] at i2
   simp [i2]
theorem zin (lo : Bool) (a b : Typ) (wa : wfT a) (wb : wfT b) : zkj lo (belR lo) a b := zgH lo (dpt a + dpt b) a b wa wb (Nat.le_refl _)
theorem zhD (a b : Typ) : PCall Pg F.g06_Sub [.agg a.enc, .agg b.enc] (.one (.bool (SubR a b))) := by
 refine zry (by simp) fun o c hN hp => ?_
 unfold zj9 SubR
 have H : isNR a = true -> isNR b = true -> zkj false (belR false) a b := fun h k => zin false a b (zcN h) (zcN k)
 simp
 refine zac.mk (zb2 a) ?_
 simp
 refine zac.mk (zb2 b) ?_
 generalize isNR a = x at *
 generalize isNR b = y at *
 cases x <;> cases y <;> simp
 refine zac.mk (H rfl rfl) ?_
 simp
theorem zpz (a b : Typ) : PCall Pg F.g06_Fits [.agg a.enc, .agg b.enc] (.one (.bool (zfA a b))) := by
 refine zqe (by simp) fun o c hN hp => ?_
 unfold zi3 zfA
 have H : isNR a = true -> isNR b = true -> zkj true (belR true) a b := fun h k => zin true a b (zcN h) (zcN k)
 simp
 refine zac.mk (zb2 a) ?_
 simp
 refine zac.mk (zb2 b) ?_
 generalize isNR a = x at *
 generalize isNR b = y at *
 cases x <;> cases y <;> simp
 refine zac.mk (H rfl rfl) ?_
 simp
end Go.Gr
namespace Go.Gr
open Go.Abs Go.Proofs
abbrev joiT (a b : Typ) (i : Nat) : List (Nat × AV) := [(9, .c (.d (.int .i64 i))), (8, .c (.ptr 2 0)), (7, .c (.ptr 1 0)), (4, .c (.ptr 0 0)), (3, .c (.d (.rp b.enc 0))), (2, .c (.d (.rp a.enc 0)))]
abbrev joiB (ks : List Typ) : List Blk := [bx4, bx4, .box [.d (.int .i64 7), .d (.str (bs [])), .d (.sl true 1 []), .msl 4 3 0 ks.length], arrT ks]
set_option maxRecDepth 20000 in
set_option maxHeartbeats 2000000 in
theorem zuy (a b : Typ) : PCall Pg F.g06_Join [.agg a.enc, .agg b.enc] (.agg (zeE a b).enc) := by
 refine zqf (by simp) fun o c hN hp => ?_
 obtain ⟨R, hR⟩ : ∃ R, zeE a b = R := ⟨_, rfl⟩
 rw [hR]
 unfold zeE at hR
 unfold zi4
 simp
 refine zac.mk (zhD a b) ?_
 by_cases s1 : SubR a b = true
 ·rw [if_pos s1] at hR
  subst hR
  simp [s1]
 rw [if_neg s1] at hR
 simp [s1]
 refine zac.mk (zhD b a) ?_
 by_cases s2 : SubR b a = true
 ·rw [if_pos s2] at hR
  subst hR
  simp [s2]
 rw [if_neg s2] at hR
 simp [s2]
 refine zac.mk (zb2 a) ?_
 simp
 refine zac.mk (zb2 b) ?_
 by_cases na : isNR a = true
 rotate_left
 ·rw [if_pos (.inl (by simpa using na))] at hR
  subst hR
  simp [na, zae]
 by_cases nb : isNR b = true
 rotate_left
 ·rw [if_pos (.inr (.inl (by simpa using nb)))] at hR
  subst hR
  simp [na, nb, zae]
 by_cases a0 : a.kind = 0
 ·rw [if_pos (.inr (.inr (.inl a0)))] at hR
  subst hR
  simp [na, nb, a0, zae]
 by_cases b0 : b.kind = 0
 ·rw [if_pos (.inr (.inr (.inr b0)))] at hR
  subst hR
  simp [na, nb, a0, b0, zae]
 rw [if_neg (by simp [na, nb, a0, b0])] at hR
 have wa := zcN na
 have wb := zcN nb
 simp [na, nb, a0, b0]
 refine owK.mk [.c 2 3] ?_
 simp
 obtain ⟨F0, hF⟩ : ∃ F0, zd5 a b [0, 1, 2, 3, 4, 5] [] = F0 := ⟨_, rfl⟩
 rw [hF] at hR
 refine W.loop Pg_mixed hp (fun x : Nat × List Typ => x.1 <= 6 /\ x.2.length <= x.1 /\ zd5 a b (zfl x.1) x.2 = F0) (fun x => joiT a b x.1) (fun x => joiB x.2) (fun x => 6 - x.1) (0, []) [0, 1, 2, 3] ⟨by simp, by simp, hF⟩ (by simp) fun ⟨t, ks⟩ ⟨i1, i2, i3⟩ => ?_
 unfold zha
 simp only at i1 i2 i3
 simp
 refine gd.mk (fun h => ?_) (fun h => ?_)
 ·have ht : t < 6 := by simp at h; omega
  rw [zm6 ht, zd5] at i3
  refine zac.mk (ze3 a (by have := zcO wa; omega)) ?_
  simp
  refine zac.mk (zdR _ _) ?_
  simp
  refine zac.mk (ze3 b (by have := zcO wb; omega)) ?_
  simp
  refine zac.mk (zdR _ _) ?_
  have hm := fun h => zea (p := (za8 (za4 a) t).1) wa a0 (zft h).1
  have hn := fun h => zea (p := (za8 (za4 b) t).1) wb b0 (zft h).1
  generalize za8 (za4 a) t = m at *
  generalize za8 (za4 b) t = n at *
  have hw := wrap_i64 (n := (t : Int) + 1) (by omega) (by omega)
  by_cases m2 : m.2 = true
  ·by_cases n2 : n.2 = true
   ·rw [if_pos ⟨m2, n2⟩] at i3
    have e1 : PCall Pg F.g06_below [.agg m.1.t.enc, .agg n.1.t.enc, .one (.bool false)] (.one (.bool (belR false m.1.t n.1.t))) := zin false _ _ (hm m2).1 (hn n2).1
    have e2 : PCall Pg F.g06_below [.agg n.1.t.enc, .agg m.1.t.enc, .one (.bool false)] (.one (.bool (belR false n.1.t m.1.t))) := zin false _ _ (hn n2).1 (hm m2).1
    simp [m2, n2]
    refine zac.mk e1 ?_
    by_cases z1 : belR false m.1.t n.1.t = true
    ·rw [if_pos z1] at i3
     simp [z1]
     refine ⟨by omega, ?_⟩
     refine Abs.Next.mk (t + 1, ks ++ [n.1.t]) [0, 1, 2, 6] ⟨by simp only; omega, by simp; omega, i3⟩ (by simp only; omega) ?_
     simp [hw]
     exact zbx ks
    rw [if_neg z1] at i3
    simp [z1, m2, n2]
    refine zac.mk e2 ?_
    by_cases z2 : belR false n.1.t m.1.t = true
    ·rw [if_pos z2] at i3
     simp [z2]
     refine ⟨by omega, ?_⟩
     refine Abs.Next.mk (t + 1, ks ++ [m.1.t]) [0, 1, 2, 6] ⟨by simp only; omega, by simp; omega, i3⟩ (by simp only; omega) ?_
     simp [hw]
     exact zbx ks
    rw [if_neg z2] at i3
    rw [<- i3] at hR
    simp only at hR
    subst hR
    simp [z2, m2, n2, zae]
   ·rw [if_neg (fun z => n2 z.2), if_pos m2] at i3
    simp [m2, n2]
    refine ⟨by omega, ?_⟩
    refine Abs.Next.mk (t + 1, ks ++ [m.1.t]) [0, 1, 2, 6] ⟨by simp only; omega, by simp; omega, i3⟩ (by simp only; omega) ?_
    simp [hw]
    exact zbx ks
  ·rw [if_neg (fun z => m2 z.1), if_neg m2] at i3
   by_cases n2 : n.2 = true
   ·rw [if_pos n2] at i3
    simp [m2, n2]
    refine ⟨by omega, ?_⟩
    refine Abs.Next.mk (t + 1, ks ++ [n.1.t]) [0, 1, 2, 6] ⟨by simp only; omega, by simp; omega, i3⟩ (by simp only; omega) ?_
    simp [hw]
    exact zbx ks
   ·rw [if_neg n2] at i3
    simp [m2, n2]
    refine Abs.Next.mk (t + 1, ks) [0, 1, 2, 3] ⟨by simp only; omega, by simp only; omega, i3⟩ (by simp only; omega) ?_
    simp [hw]
 ·have ht : t = 6 := by simp at h; omega
  subst ht
  rw [show zfl 6 = [] from rfl, zd5] at i3
  rw [<- i3] at hR
  simp only at hR
  have hNm : PCall Pg F.g03_Norm [.agg [.int .i64 7, .str (bs []), .sl true 1 [], .sl false 4 (ks.map Typ.enc)]] (.tup [.agg (zaY (.mk 7 (bs []) [] ks)).1.enc, .one (.int .i64 (zaY (.mk 7 (bs []) [] ks)).2)]) := PCall.erd (zdS (.mk 7 (bs []) [] ks)) (by simp [zeK, DV.erds, DV.erd, D.erdL, D.erd])
  have z : List.take ks.length (List.map Typ.enc ks) = List.map Typ.enc ks := List.take_of_length_le (by simp)
  simp
  refine fzK.mk [3] ?_
  simp [zas, zbx, z]
  refine zac.mk hNm ?_
  generalize zaY (.mk 7 (bs []) [] ks) = N at *
  by_cases n0 : N.2 = 0
  ·rw [if_pos n0] at hR
   subst hR
   simp [zas, n0]
  ·rw [if_neg n0] at hR
   subst hR
   simp [zas, n0, zae]
abbrev narT (t : Typ) (tag : Int) (i : Nat) : List (Nat × AV) := [(10, .c (.d (.int .i64 i))), (9, .c (.ptr 3 0)), (7, .c (.ptr 2 0)), (5, .c (.ptr 1 0)), (4, .c (.ptr 0 0)), (2, .c (.d (.rp t.enc 0))), (1, .c (.d (.int .i64 tag)))]
abbrev narB (p : Prt) (ks : List Typ) : List Blk := [bx4, bx4, .box (p.enc.map .d), .box [.d (.int .i64 7), .d (.str (bs [])), .d (.sl true 1 []), .msl 4 4 0 ks.length], arrT ks]
set_option maxRecDepth 20000 in
set_option maxHeartbeats 2000000 in
theorem zru (t : Typ) (tag : Int) : PCall Pg F.g06_Narrow [.agg t.enc, .one (.int .i64 tag)] (.tup [.agg (zbX t tag).1.enc, .agg (zbX t tag).2.enc]) := by
 refine znc (by simp) fun o c hN hp => ?_
 obtain ⟨R, hR⟩ : ∃ R, zbX t tag = R := ⟨_, rfl⟩
 rw [hR]
 unfold zbX at hR
 unfold zhb
 simp
 refine zac.mk (zb2 t) ?_
 by_cases na : isNR t = true
 rotate_left
 ·rw [if_pos (.inl (by simpa using na))] at hR
  subst hR
  simp [na]
  try decide
 by_cases t1 : tag < 0
 ·rw [if_pos (.inr (.inl t1))] at hR
  subst hR
  simp [na, t1]
  try decide
 by_cases t2 : 6 <= tag
 ·rw [if_pos (.inr (.inr t2))] at hR
  subst hR
  simp [na, t1, t2]
  try decide
 rw [if_neg (by simp [na]; omega)] at hR
 have wt := zcN na
 by_cases k0 : t.kind = 0
 ·rw [if_pos k0] at hR
  by_cases t5 : tag = 5
  ·rw [if_pos t5] at hR
   subst hR
   simp [na, t1, t2, k0, t5]
   try decide
  ·rw [if_neg t5] at hR
   subst hR
   have hw := wrap_i64 (n := 1 + tag) (by omega) (by omega)
   simp [na, t1, t2, k0, t5, hw]
   exact ⟨by decide, by rw [zal]⟩
 rw [if_neg k0] at hR
 simp [na, t1, t2, k0]
 refine zac.mk (ze3 t (by have := zcO wt; omega)) ?_
 simp
 refine zac.mk (zdR _ _) ?_
 generalize za8 (za4 t) tag = p at *
 by_cases p2 : p.2 = true
 rotate_left
 ·rw [if_pos (by simpa using p2)] at hR
  subst hR
  simp [p2]
  try decide
 rw [if_neg (by simp [p2])] at hR
 by_cases k7 : t.kind = 7
 rotate_left
 ·rw [if_pos k7] at hR
  subst hR
  simp [p2, k7]
  try decide
 rw [if_neg (fun z => z k7)] at hR
 simp [p2, k7]
 refine owK.mk [.c 3 3] ?_
 simp
 have hkl := zcO wt
 obtain ⟨F0, hF⟩ : ∃ F0, t.kids.filter (fun k => decide (za6 k ≠ tag)) = F0 := ⟨_, rfl⟩
 rw [hF] at hR
 refine W.loop Pg_mixed hp (fun x : Nat × List Typ => x.1 <= t.kids.length /\ x.2.length <= x.1 /\ x.2 ++ (t.kids.drop x.1).filter (fun k => decide (za6 k ≠ tag)) = F0) (fun x => narT t tag x.1) (fun x => narB p.1 x.2) (fun x => t.kids.length - x.1) (0, []) [0, 1, 2, 3, 4] ⟨by simp, by simp, by simpa using hF⟩ (by simp) fun ⟨j, ks⟩ ⟨i1, i2, i3⟩ => ?_
 unfold zfo
 simp only at i1 i2 i3
 simp
 refine gd.mk (fun h => ?_) (fun h => ?_)
 ·have hj : j < t.kids.length := by simpa using h
  rw [List.drop_eq_getElem_cons hj, List.filter_cons] at i3
  obtain ⟨x, hx⟩ : ∃ x, t.kids[j] = x := ⟨_, rfl⟩
  rw [hx] at i3
  have hw := wrap_i64 (n := (j : Int) + 1) (by omega) (by omega)
  simp [hj, hx]
  refine zac.mk (zkM x) ?_
  by_cases q : za6 x = tag
  ·rw [if_neg (by simp [q])] at i3
   simp [q]
   refine Abs.Next.mk (j + 1, ks) [0, 1, 2, 3, 4] ⟨by simp only; omega, by simp only; omega, i3⟩ (by simp only; omega) ?_
   simp [hw]
  ·rw [if_pos (by simp [q])] at i3
   simp [q, hj, hx]
   refine ⟨by omega, by decide, ?_⟩
   refine Abs.Next.mk (j + 1, ks ++ [x]) [0, 1, 2, 3, 5] ⟨by simp only; omega, by simp; omega, by simpa using i3⟩ (by simp only; omega) ?_
   simp [hw]
   exact zbx ks
 ·have hj : j = t.kids.length := by simp at h; omega
  subst hj
  rw [List.drop_length, List.filter_nil, List.append_nil] at i3
  subst i3
  have z : List.take ks.length (List.map Typ.enc ks) = List.map Typ.enc ks := List.take_of_length_le (by simp)
  match ks, i2, hR, z with
  | [x], i2, hR, z =>
   simp only at hR
   subst hR
   simp
   decide
  | [], i2, hR, z =>
   simp only at hR
   subst hR
   simp [zeK]
   decide
  | x :: y :: l2, i2, hR, z =>
   simp only at hR
   subst hR
   have h1 : ¬ ((l2.length : Int) + 1 + 1 = 1) := by omega
   simp [h1, zeK, zaF]
   decide
end Go.Gr
namespace Go.Abs
theorem MCall.frzV {P : Program} {f : FuncId} {args : List AV} {bs : List Blk} {ds : List DV} {V : DV} (hp : PCall P f ds V) (hd : ∀ (h h' : PH) (v : Value), zaH h V v -> zaH h' V v) (e : zeD (hpOf bs) args = some ds)
  (h1 : (bs.all fun b => b.tag != 0) = true) (h2 : (bs.all fun b => b.lv (live bs)) = true) (h3 : V.av.lv (live bs) = true) : MCall P f args bs V.av bs := by
 refine ⟨hp.1, Nat.le_refl _, zfN h1, h3, fun b hb => List.all_eq_true.1 h2 b hb, fun h ρ w argsC H hG r => ?_⟩
 have k := zgO (n := 0) H (fun _ _ _ _ => Nat.zero_le _) args ds argsC e r
 refine (hp.2 (zbj h 0 w.heap) w argsC (zfa H) (hG.mono (zdx H)) k).mono fun e w' hh => ?_
 obtain ⟨vC, h', e1, e2, e3, e4, e5, e6, e7, e8⟩ := hh
 have hx : ∀ B, B < w.heap.size -> w'.heap[B]? = w.heap[B]? := e6
 have hP : ∀ B o, h B = some o -> w'.heap[B]? = some o := fun B o he => by
  rw [e6 B (H.lt he)]; exact H.pers B o he
 exact ⟨vC, h, ρ, e1, ⟨fun _ _ he => he, fun B hB _ => rfl, e5, fun B hB _ => e6 B hB, fun b p hp hr => .inr ⟨b, p, hp, hr, rfl⟩⟩, H.grow (fun _ _ he => he) hP (fun B hB _ => ⟨e6 B hB, rfl⟩), e7, zaH.av (hd _ _ _ e8), fun _ _ => rfl⟩
end Go.Abs
namespace Go.Gr
open Go.Abs Go.Proofs
@[simp] theorem Ent.enc_length (e : Ent) : e.enc.length = 3 := rfl
@[simp] theorem Ent.enc_0 (e : Ent) : e.enc[0]? = some (.str e.name) := rfl
@[simp] theorem Ent.enc_1 (e : Ent) : e.enc[1]? = some (.int .i64 e.module) := rfl
@[simp] theorem Ent.enc_2 (e : Ent) : e.enc[2]? = some (.int .i64 e.decl) := rfl
@[simp] theorem Ent.enc_g0 (e : Ent) (h : 0 < e.enc.length) : e.enc[0] = .str e.name := rfl
@[simp] theorem Ent.cut_enc (e : Ent) : cut e.enc 0 3 = e.enc := rfl
@[simp] theorem Ent.cut_map (e : Ent) : cut (e.enc.map AC.d) 0 3 = e.enc.map .d := rfl
@[simp] theorem Ent.er_map (e : Ent) : e.enc.map D.er = e.enc := rfl
@[simp] theorem Mdl.enc_0 (m : Mdl) : m.enc[0]? = some (.sl false 4 (m.imps.map Imp.enc)) := rfl
@[simp] theorem Mdl.enc_1 (m : Mdl) : m.enc[1]? = some (.sl false 15 (m.decs.map Dec.enc)) := rfl
@[simp] theorem Mdl.enc_g0 (m : Mdl) (h : 0 < m.enc.length) : m.enc[0] = .sl false 4 (m.imps.map Imp.enc) := rfl
@[simp] theorem Mdl.enc_g1 (m : Mdl) (h : 1 < m.enc.length) : m.enc[1] = .sl false 15 (m.decs.map Dec.enc) := rfl
@[simp] theorem Dec.enc_0 (d : Dec) : d.enc[0]? = some (.str d.name) := rfl
@[simp] theorem Dec.enc_1 (d : Dec) : d.enc[1]? = some (.bool d.exp) := rfl
@[simp] theorem Dec.enc_2 (d : Dec) : d.enc[2]? = some (.sl false 5 (d.vars.map encV)) := rfl
@[simp] theorem Dec.enc_3 (d : Dec) : d.enc[3]? = some (.str d.param) := rfl
@[simp] theorem Dec.enc_4 (d : Dec) : d.enc[4]? = some (.sl false 4 (d.types.map Typ.enc)) := rfl
theorem Dec.enc_13 (d : Dec) : d.enc[13]? = some (.int .i64 d.line) := by unfold Dec.enc; rw [Nod.enc_eq]; try rfl
theorem Dec.enc_14 (d : Dec) : d.enc[14]? = some (.int .i64 d.col) := by unfold Dec.enc; rw [Nod.enc_eq]; try rfl
attribute [simp] Dec.enc_13 Dec.enc_14
@[simp] theorem Dec.enc_g0 (d : Dec) (h : 0 < d.enc.length) : d.enc[0] = .str d.name := rfl
@[simp] theorem Dec.enc_g1 (d : Dec) (h : 1 < d.enc.length) : d.enc[1] = .bool d.exp := rfl
@[simp] theorem Dec.enc_g2 (d : Dec) (h : 2 < d.enc.length) : d.enc[2] = .sl false 5 (d.vars.map encV) := rfl
@[simp] theorem Dec.enc_g13 (d : Dec) (h : 13 < d.enc.length) : d.enc[13] = .int .i64 d.line := by have := d.enc_13; rw [List.getElem?_eq_getElem h] at this; exact Option.some.inj this
@[simp] theorem Dec.enc_g14 (d : Dec) (h : 14 < d.enc.length) : d.enc[14] = .int .i64 d.col := by have := d.enc_14; rw [List.getElem?_eq_getElem h] at this; exact Option.some.inj this
@[simp] theorem Imp.enc_0 (x : Imp) : x.enc[0]? = some (.str x.from_) := rfl
@[simp] theorem Imp.enc_1 (x : Imp) : x.enc[1]? = some (.sl false 1 (encS x.names)) := rfl
@[simp] theorem Imp.enc_2 (x : Imp) : x.enc[2]? = some (.int .i64 x.line) := rfl
@[simp] theorem Imp.enc_3 (x : Imp) : x.enc[3]? = some (.int .i64 x.col) := rfl
@[simp] theorem Imp.enc_g0 (x : Imp) (h : 0 < x.enc.length) : x.enc[0] = .str x.from_ := rfl
@[simp] theorem Imp.enc_g1 (x : Imp) (h : 1 < x.enc.length) : x.enc[1] = .sl false 1 (encS x.names) := rfl
@[simp] theorem Imp.enc_g2 (x : Imp) (h : 2 < x.enc.length) : x.enc[2] = .int .i64 x.line := rfl
@[simp] theorem Imp.enc_g3 (x : Imp) (h : 3 < x.enc.length) : x.enc[3] = .int .i64 x.col := rfl
@[simp] theorem Imp.cut_enc (x : Imp) : cut x.enc 0 4 = x.enc := rfl
@[simp] theorem Imp.cut_map (x : Imp) : cut (x.enc.map AC.d) 0 4 = x.enc.map .d := rfl
def scpE (s : List Ent) : List D := [.sl false 3 (s.map Ent.enc)]
theorem Lnk.enc_eq (l : Lnk) : l.enc = [.sl false 1 (encS l.names), .sl false 2 (l.mods.map Mdl.enc), .sl false 1 (l.scopes.map scpE), .str l.main.name, .int .i64 l.main.module, .int .i64 l.main.decl] := rfl
@[simp] theorem Lnk.enc_length (l : Lnk) : l.enc.length = 6 := rfl
@[simp] theorem Lnk.enc_0 (l : Lnk) : l.enc[0]? = some (.sl false 1 (encS l.names)) := rfl
@[simp] theorem Lnk.enc_1 (l : Lnk) : l.enc[1]? = some (.sl false 2 (l.mods.map Mdl.enc)) := rfl
@[simp] theorem Lnk.enc_2 (l : Lnk) : l.enc[2]? = some (.sl false 1 (l.scopes.map scpE)) := rfl
@[simp] theorem Lnk.enc_g0 (l : Lnk) (h : 0 < l.enc.length) : l.enc[0] = .sl false 1 (encS l.names) := rfl
@[simp] theorem Lnk.enc_g1 (l : Lnk) (h : 1 < l.enc.length) : l.enc[1] = .sl false 2 (l.mods.map Mdl.enc) := rfl
@[simp] theorem Lnk.enc_g2 (l : Lnk) (h : 2 < l.enc.length) : l.enc[2] = .sl false 1 (l.scopes.map scpE) := rfl
@[simp] theorem Lnk.cut_enc (l : Lnk) : cut l.enc 0 6 = l.enc := rfl
@[simp] theorem Lnk.cut_map (l : Lnk) : cut (l.enc.map AC.d) 0 6 = l.enc.map .d := rfl
@[simp] theorem Lnk.er_map (l : Lnk) : l.enc.map D.er = l.enc := rfl
theorem zk3 {α : Type} (q : α -> Bool) : ∀ (j : Nat) (l : List α), fi q j l = -1 \/ ((j : Int) <= fi q j l /\ fi q j l < j + l.length)
 | j, [] => .inl rfl
 | j, x :: l => by
  unfold fi
  split
  ·exact .inr ⟨Int.le_refl _, by simp; omega⟩
  ·rcases zk3 q (j + 1) l with h | h
   ·exact .inl h
   ·exact .inr ⟨by omega, by simp; omega⟩
theorem zek (names : List ByteArray) (s : ByteArray) : PCall Pg F.g07_module [.one (.sl false 1 (encS names)), .one (.str s)] (.one (.int .i64 (modZ names s))) := by
 refine znd (by simp) fun o c hN hp => ?_
 have hl : names.length <= zak := by have := o.1; simp only [DV.ok, D.ok, zi8] at this; exact this.1
 unfold zak at hl
 unfold zhc modZ
 obtain ⟨R, hR⟩ : ∃ R, fi (fun n => decide (n = s)) 0 names = R := ⟨_, rfl⟩
 rw [hR]
 simp
 refine W.loop Pg_mixed hp (fun j : Nat => j <= names.length /\ fi (fun n => decide (n = s)) j (names.drop j) = R) (fun j => [(5, .c (.d (.int .i64 j))), (1, .c (.d (.str s))), (0, .c (.d (.sl false 1 (encS names))))]) (fun _ => []) (fun j => names.length - j) 0 [] ⟨by simp, by simpa using hR⟩ (by simp) fun j ⟨h1, h2⟩ => ?_
 unfold zfp
 simp
 refine gd.mk (fun h => ?_) (fun h => ?_)
 ·have hj : j < names.length := by simpa using h
  rw [List.drop_eq_getElem_cons hj, fi] at h2
  by_cases q : names[j] = s
  ·rw [if_pos (by simpa using q)] at h2
   subst h2
   simp [hj, q]
  ·rw [if_neg (by simpa using q)] at h2
   simp [hj, q]
   refine Abs.Next.mk (j + 1) [] ⟨by omega, h2⟩ (by omega) ?_
   simp
   exact wrap_i64 (by omega) (by omega)
 ·have hj : j = names.length := by simp at h; omega
  subst hj
  rw [List.drop_length, fi] at h2
  subst h2
  simp
theorem zpT (m : Mdl) (s : ByteArray) (hm : m.decs.length <= 100000) : PCall Pg F.g07_decl [.agg m.enc, .one (.str s)] (.one (.int .i64 (zbU m s))) := by
 refine zqh (by simp) fun o c hN hp => ?_
 unfold zi6 zbU
 obtain ⟨R, hR⟩ : ∃ R, fi (fun d : Dec => decide (d.name = s)) 0 m.decs = R := ⟨_, rfl⟩
 rw [hR]
 simp
 refine W.loop Pg_mixed hp (fun j : Nat => j <= m.decs.length /\ fi (fun d : Dec => decide (d.name = s)) j (m.decs.drop j) = R) (fun j => [(5, .c (.d (.int .i64 j))), (2, .c (.d (.rp m.enc 0))), (1, .c (.d (.str s)))]) (fun _ => []) (fun j => m.decs.length - j) 0 [] ⟨by simp, by simpa using hR⟩ (by simp) fun j ⟨h1, h2⟩ => ?_
 unfold zhe
 simp
 refine gd.mk (fun h => ?_) (fun h => ?_)
 ·have hj : j < m.decs.length := by simpa using h
  rw [List.drop_eq_getElem_cons hj, fi] at h2
  by_cases q : m.decs[j].name = s
  ·rw [if_pos (by simpa using q)] at h2
   subst h2
   simp [hj, q]
  ·rw [if_neg (by simpa using q)] at h2
   simp [hj, q]
   refine Abs.Next.mk (j + 1) [] ⟨by omega, h2⟩ (by omega) ?_
   simp
   exact wrap_i64 (by omega) (by omega)
 ·have hj : j = m.decs.length := by simp at h; omega
  subst hj
  rw [List.drop_length, fi] at h2
  subst h2
  simp
abbrev entV (r : Ent × Bool) : DV := .tup [.agg r.1.enc, .one (.bool r.2)]
theorem zpU (l : List Ent) (s : ByteArray) : PCall Pg F.g07_Find [.one (.sl false 3 (l.map Ent.enc)), .one (.str s)] (entV (zbv l s)) := by
 refine zqg (by simp) fun o c hN hp => ?_
 have hl : l.length <= zak := by have := o.1; simp only [DV.ok, D.ok, List.length_map] at this; exact this.1
 unfold zak at hl
 obtain ⟨R, hR⟩ : ∃ R, zbv l s = R := ⟨_, rfl⟩
 rw [hR]
 unfold zi5
 simp
 refine W.loop Pg_mixed hp (fun j : Nat => j <= l.length /\ zbv (l.drop j) s = R) (fun j => [(6, .c (.d (.int .i64 j))), (4, .c (.ptr 0 0)), (1, .c (.d (.str s))), (0, .c (.d (.sl false 3 (l.map Ent.enc))))]) (fun _ => [.box [.d (.str (bs [])), .d (.int .i64 0), .d (.int .i64 0)]]) (fun j => l.length - j) 0 [0] ⟨by simp, by simpa using hR⟩ (by simp) fun j ⟨h1, h2⟩ => ?_
 unfold zhd
 simp
 refine gd.mk (fun h => ?_) (fun h => ?_)
 ·have hj : j < l.length := by simpa using h
  rw [List.drop_eq_getElem_cons hj, zbv] at h2
  by_cases q : l[j].name = s
  ·rw [if_pos q] at h2
   subst h2
   simp [hj, q]
  ·rw [if_neg q] at h2
   simp [hj, q]
   refine Abs.Next.mk (j + 1) [0] ⟨by omega, h2⟩ (by omega) ?_
   simp
   exact wrap_i64 (by omega) (by omega)
 ·have hj : j = l.length := by simp at h; omega
  subst hj
  rw [List.drop_length, zbv] at h2
  subst h2
  simp
  rfl
theorem zsy (r : Ent × Bool) : ∀ (h h' : PH) (v : Value), zaH h (entV r) v -> zaH h' (entV r) v := fun h h' v q => by
 simp only [entV, zaH] at q ⊢
 obtain ⟨vs, e, r⟩ := q
 refine ⟨vs, e, ?_⟩
 rcases vs with _ | ⟨v1, _ | ⟨v2, vs⟩⟩
 ·simp [zav] at r
 ·simp [zav] at r
 ·simp only [zav] at r ⊢
  refine ⟨?_, by simpa [zaH, RepD] using r.2.1, r.2.2⟩
  have r1 := r.1
  simp only [zaH] at r1 ⊢
  obtain ⟨us, e1, e2, e3⟩ := r1
  refine ⟨us, e1, e2, ?_⟩
  rcases us with _ | ⟨u1, _ | ⟨u2, _ | ⟨u3, us⟩⟩⟩
  ·simp at e2
  ·simp at e2
  ·simp at e2
  ·simpa [Ent.enc, RepL, RepD] using e3
theorem zoq (l : List Ent) (s : ByteArray) : MCall Pg F.g07_Find [.c (.msl 3 0 0 l.length), .c (.d (.str s))] [.arr 3 ((l.map Ent.enc).map (·.map .d))] (.tup [.ag ((zbv l s).1.enc.map .d), .c (.d (.bool (zbv l s).2))]) [.arr 3 ((l.map Ent.enc).map (·.map .d))] := by
 have := MCall.frzV (bs := [.arr 3 ((l.map Ent.enc).map (·.map .d))]) (args := [.c (.msl 3 0 0 l.length), .c (.d (.str s))]) (zpU l s) (zsy _) (by simp [zaF]) (by simp) (by simp) (by simp [Ent.enc])
 simpa [entV, DV.av, DV.avs] using this
theorem zq6 (names : List ByteArray) (s : ByteArray) : MCall Pg F.g07_module [.c (.msl 1 0 0 names.length), .c (.d (.str s))] [.arr 1 ((encS names).map (·.map .d))] (.c (.d (.int .i64 (modZ names s)))) [.arr 1 ((encS names).map (·.map .d))] :=
 MCall.frzI (zek names s) (by simp [zaF, List.take_of_length_le]) (by simp) (by simp)
theorem zu4 (d : Dia) (i : Int) : put (d.enc.map AC.d) 0 [.d (.int .i64 i)] = (⟨i, d.line, d.col, d.e⟩ : Dia).enc.map .d := rfl
def srcE (s : ByteArray × ByteArray) : List D := [.str s.1, .str s.2]
@[simp] theorem zvU (s : ByteArray × ByteArray) : (srcE s).length = 2 := rfl
@[simp] theorem zxP (s : ByteArray × ByteArray) : (srcE s)[0]? = some (.str s.1) := rfl
@[simp] theorem zxQ (s : ByteArray × ByteArray) : (srcE s)[1]? = some (.str s.2) := rfl
@[simp] theorem zxz (s : ByteArray × ByteArray) (h : 0 < (srcE s).length) : (srcE s)[0] = .str s.1 := rfl
@[simp] theorem zxA (s : ByteArray × ByteArray) (h : 1 < (srcE s).length) : (srcE s)[1] = .str s.2 := rfl
def lnk1 (x : List ByteArray × List Mdl) : Lnk := ⟨x.1, x.2, [], noE⟩
abbrev lkZ : Blk := .box [.d (.sl true 1 []), .d (.sl true 2 []), .d (.sl true 1 []), .d (.str (bs [])), .d (.int .i64 0), .d (.int .i64 0)]
abbrev fstT (l : List (ByteArray × ByteArray)) (i nb : Nat) : List (Nat × AV) := [(6, .c (.d (.int .i64 i))), (5, .c (.msl 4 4 0 nb)), (4, .c (.ptr 1 0)), (2, .c (.ptr 0 0)), (0, .c (.d (.sl false 2 (l.map srcE))))]
abbrev diaA (bad : List Dia) : Blk := .arr 4 ((bad.map Dia.enc).map (·.map .d))
abbrev fstB (ns : List ByteArray) (ms : List Mdl) (bad : List Dia) : List Blk := [lkZ, .box [.msl 1 2 0 ns.length, .msl 2 3 0 ms.length, .d (.sl true 1 []), .d (.str (bs [])), .d (.int .i64 0), .d (.int .i64 0)], .arr 1 ((encS ns).map (·.map .d)), .arr 2 ((ms.map Mdl.enc).map (·.map .d)), diaA bad]
set_option maxRecDepth 20000 in
set_option maxHeartbeats 2000000 in
theorem zt2 (l : List (ByteArray × ByteArray)) : PCall Pg F.g07_first [.one (.sl false 2 (l.map srcE))] (.tup [.agg (lnk1 (zbS l).1).enc, .one (.sl false 4 ((zbS l).2.map Dia.enc))]) := by
 refine zoO (by simp) fun o c hN hp => ?_
 obtain ⟨R, hR⟩ : ∃ R, zbS l = R := ⟨_, rfl⟩
 rw [hR]
 unfold zbS at hR
 unfold zhw
 by_cases h16 : 16 < l.length
 ·have h16' : (16 : Int) < l.length := by omega
  rw [if_pos h16] at hR
  subst hR
  simp [h16']
  exact ⟨rfl, rfl⟩
 have h16' : ¬ (16 : Int) < l.length := by omega
 rw [if_neg h16] at hR
 simp [h16, h16']
 refine owK.mk [.c 1 0, .c 1 1, .t 5] ?_
 simp
 refine W.loop Pg_mixed hp (fun x : Nat × List ByteArray × List Mdl × List Dia => x.1 <= l.length /\ x.2.1.length = x.1 /\ x.2.2.1.length = x.1 /\ x.2.2.2.length <= x.1 /\ zbq (l.drop x.1) x.1 x.2.1 x.2.2.1 x.2.2.2 = R) (fun x => fstT l x.1 x.2.2.2.length) (fun x => fstB x.2.1 x.2.2.1 x.2.2.2) (fun x => l.length - x.1) (0, [], [], []) [0, 1, 2, 3, 4] ⟨by simp, rfl, rfl, by simp, by simpa using hR⟩ (by simp [encS]) fun ⟨i, ns, ms, bad⟩ ⟨i1, i2, i3, i4, i5⟩ => ?_
 unfold zfZ
 simp only at i1 i2 i3 i4 i5
 simp
 refine gd.mk (fun h => ?_) (fun h => ?_)
 ·have hi : i < l.length := by simpa using h
  obtain ⟨s, hs⟩ : ∃ s, l[i] = s := ⟨_, rfl⟩
  rw [List.drop_eq_getElem_cons hi, hs, zbq] at i5
  have hw := wrap_i64 (n := (i : Int) + 1) (by omega) (by omega)
  have hmz := zq6 ns s.1
  simp [hi, hs]
  refine zac.mk (zpS s.1) ?_
  simp [hi, hs]
  refine zac.mk (ztg s.2) ?_
  generalize zba s.2 = m at *
  simp [hi, hs]
  refine zaa.mk [2] hmz (by simp) ?_
  generalize modZ ns s.1 = z at *
  simp [hi, hs]
  refine ⟨by decide, by omega, by decide, by omega, ?_⟩
  by_cases n1 : zbm s.1 = true
  rotate_left
  ·rw [if_pos (by simpa using n1)] at i5
   simp [n1]
   refine ⟨by omega, ?_⟩
   refine Abs.Next.mk (i + 1, ns ++ [s.1], ms ++ [m.1], bad ++ [⟨i, 1, 1, 10⟩]) [0, 1, 7, 8, 9] ⟨by simp only; omega, by simp [i2], by simp [i3], by simp; omega, i5⟩ (by simp only; omega) ?_
   simp [hw, Dia.enc]
   exact ⟨List.take_of_length_le (by simp), zaF _ _, zaF _ _⟩
  rw [if_neg (by simpa using n1)] at i5
  by_cases z1 : 0 <= z
  ·rw [if_pos z1] at i5
   simp [n1, z1]
   refine ⟨by omega, ?_⟩
   refine Abs.Next.mk (i + 1, ns ++ [s.1], ms ++ [m.1], bad ++ [⟨i, 1, 1, 8⟩]) [0, 1, 7, 8, 9] ⟨by simp only; omega, by simp [i2], by simp [i3], by simp; omega, i5⟩ (by simp only; omega) ?_
   simp [hw, Dia.enc]
   exact ⟨List.take_of_length_le (by simp), zaF _ _, zaF _ _⟩
  rw [if_neg z1] at i5
  by_cases e0 : m.2.e = 0
  ·rw [if_neg (by simp [e0])] at i5
   simp [n1, z1, e0]
   refine Abs.Next.mk (i + 1, ns ++ [s.1], ms ++ [m.1], bad) [0, 1, 7, 8, 4] ⟨by simp only; omega, by simp [i2], by simp [i3], by simp only; omega, i5⟩ (by simp only; omega) ?_
   simp [hw, Dia.enc]
   exact ⟨List.take_of_length_le (by simp), zaF _ _⟩
  ·rw [if_pos e0] at i5
   simp [n1, z1, e0, zu4]
   refine ⟨by omega, ?_⟩
   refine Abs.Next.mk (i + 1, ns ++ [s.1], ms ++ [m.1], bad ++ [⟨i, m.2.line, m.2.col, m.2.e⟩]) [0, 1, 7, 8, 9] ⟨by simp only; omega, by simp [i2], by simp [i3], by simp; omega, i5⟩ (by simp only; omega) ?_
   simp [hw]
   exact ⟨List.take_of_length_le (by simp), zaF _ _, zaF _ _⟩
 ·have hi : i = l.length := by simp at h; omega
  subst hi
  rw [List.drop_length, zbq] at i5
  subst i5
  simp [zaF, lnk1, Lnk.enc_eq]
  exact ⟨List.take_of_length_le (by simp), rfl, rfl, rfl⟩
end Go.Gr
namespace Go.Gr
open Go.Abs Go.Proofs
@[simp] theorem zxB (l : List ByteArray) (j : Nat) (h : j < (encS l).length) : (encS l)[j] = [.str (l[j]'(by simpa using h))] := by simp [encS]
structure SmallM (m : Mdl) : Prop where
 imps : m.imps.length <= 10001
 names : ∀ x, x ∈ m.imps -> x.names.length <= 10001
 decs : m.decs.length <= 10001
def zdK (p : Lnk) : Prop := p.mods.length <= 16 /\ p.names.length = p.mods.length /\ ∀ m, m ∈ p.mods -> SmallM m
abbrev entA (sc : List Ent) : Blk := .arr 3 ((sc.map Ent.enc).map (·.map .d))
theorem zoy (m : Mdl) (s : ByteArray) : zbU m s = -1 \/ (0 <= zbU m s /\ zbU m s < m.decs.length) := by
 have := zk3 (fun d : Dec => decide (d.name = s)) 0 m.decs
 unfold zbU; omega
theorem ziM (ns : List ByteArray) (s : ByteArray) : modZ ns s = -1 \/ (0 <= modZ ns s /\ modZ ns s < ns.length) := by
 have := zk3 (fun n => decide (n = s)) 0 ns
 unfold modZ; omega
theorem zeP {α : Type} (l : List α) (d : α) {z : Int} {n : Int} (hn : n = l.length) (h0 : 0 <= z) (h1 : z < n) : l[z.toNat]? = some (l.getD z.toNat d) /\ l.getD z.toNat d ∈ l := by
 have h : z.toNat < l.length := by omega
 rw [List.getD_eq_getElem?_getD, List.getElem?_eq_getElem h]
 exact ⟨rfl, List.getElem_mem h⟩
theorem zg0 (M : Mdl) (m i : Int) (x : Imp) : ∀ (l : List ByteArray) (sc : List Ent) (bad : List Dia), (impN M m i x l sc bad).1.length <= sc.length + l.length /\ (impN M m i x l sc bad).2.length <= bad.length + l.length
 | [], sc, bad => by simp [impN]
 | s :: l, sc, bad => by
  rw [impN]
  split
  ·have := zg0 M m i x l sc (bad ++ [⟨i, x.line, x.col, 12⟩]); simp at this ⊢; omega
  split
  ·have := zg0 M m i x l sc (bad ++ [⟨i, x.line, x.col, 8⟩]); simp at this ⊢; omega
  ·have := zg0 M m i x l (sc ++ [⟨s, m, zbU M s⟩]) bad; simp at this ⊢; omega
theorem zoz (ns : List ByteArray) (ms : List Mdl) (i : Int) (x : Imp) (sc : List Ent) : (zbt ns ms i x sc).1.length <= sc.length + x.names.length /\ (zbt ns ms i x sc).2.length <= 1 + x.names.length := by
 unfold zbt
 split
 ·simp
 ·have := zg0 (ms.getD (modZ ns x.from_).toNat noM) (modZ ns x.from_) i x x.names sc []
  simp only [List.length_nil, Nat.zero_add] at this
  exact ⟨this.1, by omega⟩
abbrev impT (p : Lnk) (x : Imp) (m j n nb : Nat) : List (Nat × AV) := [(13, .c (.d (.int .i64 j))), (12, .c (.d (.int .i64 m))), (11, .c (.ptr 1 0)), (10, .c (.msl 4 2 0 nb)), (6, .c (.d (.rp x.enc 0))), (4, .c (.d (.rp p.enc 0))), (3, .c (.msl 3 0 0 n))]
abbrev dBx (i : Int) (x : Imp) (e : Int) : Blk := .box [.d (.int .i64 i), .d (.int .i64 x.line), .d (.int .i64 x.col), .d (.int .i64 e)]
set_option maxRecDepth 20000 in
set_option maxHeartbeats 4000000 in
theorem zpd (p : Lnk) (hp' : zdK p) (i : Int) (x : Imp) (hx : x.names.length <= 10001) (sc : List Ent) (hsc : sc.length <= 1000000000) :
  MCall Pg F.g07_imported [.ag (p.enc.map .d), .c (.d (.int .i64 i)), .ag (x.enc.map .d), .c (.msl 3 0 0 sc.length)] [entA sc]
   (.tup [.c (.msl 3 1 0 (zbt p.names p.mods i x sc).1.length), .c (.d (.sl false 4 ((zbt p.names p.mods i x sc).2.map Dia.enc)))]) [.dead, entA (zbt p.names p.mods i x sc).1] := by
 refine zka ⟨by simp, by simp, by simp, by simp, by simp, by simp; rfl, by simp⟩ fun ts hts ok hb c hN hp => ?_
 obtain ⟨t, rfl⟩ := zaR hts
 obtain ⟨R, hR⟩ : ∃ R, zbt p.names p.mods i x sc = R := ⟨_, rfl⟩
 rw [hR]
 unfold zbt at hR
 have hmz := zek p.names x.from_
 have hml := ziM p.names x.from_
 unfold zfq
 simp
 refine zac.mk hmz ?_
 generalize modZ p.names x.from_ = z at *
 by_cases z0 : z < 0
 ·rw [if_pos z0] at hR
  subst hR
  simp [z0]
  refine ⟨by decide, ?_⟩
  refine fzK.mk [] ?_
  simp
  exact EndM.mkE [1, 0] [1] (by simp [Dia.enc, AV.erds, AV.erd])
 rw [if_neg z0] at hR
 obtain ⟨g1, g2⟩ := zeP p.mods noM (z := z) (n := p.names.length) (by rw [hp'.2.1]) (by omega) (by omega)
 generalize p.mods.getD z.toNat noM = M at *
 have hM := hp'.2.2 M g2
 have h16 := hp'.1
 have hnm := hp'.2.1
 obtain ⟨zn, rfl⟩ : ∃ zn : Nat, z = zn := ⟨z.toNat, by omega⟩
 simp only [Int.toNat_natCast] at g1
 simp [z0]
 refine owK.mk [.t 10] ?_
 simp
 refine W.loop Pg_mixed hp (fun y : Nat × List Ent × List Dia × Int => y.1 <= x.names.length /\ y.2.1.length <= sc.length + y.1 /\ y.2.2.1.length <= y.1 /\ impN M zn i x (x.names.drop y.1) y.2.1 y.2.2.1 = R) (fun y => impT p x zn y.1 y.2.1.length y.2.2.1.length) (fun y => [entA y.2.1, dBx i x y.2.2.2, diaA y.2.2.1]) (fun y => x.names.length - y.1) (0, sc, [], 11) [0, 2, 3] ⟨by simp, by simp, by simp, by simpa using hR⟩ (by simp) fun ⟨j, s, bad, e⟩ ⟨i1, i2, i3, i4⟩ => ?_
 unfold zev
 simp only at i1 i2 i3 i4
 simp
 refine gd.mk (fun h => ?_) (fun h => ?_)
 ·have hj : j < x.names.length := by simpa using h
  obtain ⟨n, hn⟩ : ∃ n, x.names[j] = n := ⟨_, rfl⟩
  rw [List.drop_eq_getElem_cons hj, hn, impN] at i4
  have hw := wrap_i64 (n := (j : Int) + 1) (by omega) (by omega)
  have hdl := zoy M n
  have hfm := zoq s n
  simp [hj, hn, g1]
  refine zac.mk (zpT M n (by have := hM.decs; omega)) ?_
  simp [hj, hn]
  refine ⟨by decide, ?_⟩
  refine zaa.mk [0] hfm (by simp) ?_
  generalize zbv s n = f at *
  generalize zbU M n = k at *
  simp
  by_cases k0 : k < 0
  ·rw [if_pos (.inl k0)] at i4
   simp [k0]
   refine ⟨by omega, ?_⟩
   refine Abs.Next.mk (j + 1, s, bad ++ [⟨i, x.line, x.col, 12⟩], 12) [0, 1, 4] ⟨by simp only; omega, by simp only; omega, by simp; omega, i4⟩ (by simp only; omega) ?_
   simp [hw, Dia.enc]
   exact zaF _ _
  obtain ⟨g3, g4⟩ := zeP M.decs zfD (z := k) (n := M.decs.length) rfl (by omega) (by omega)
  generalize M.decs.getD k.toNat zfD = d at *
  obtain ⟨kn, rfl⟩ : ∃ kn : Nat, k = kn := ⟨k.toNat, by omega⟩
  simp only [Int.toNat_natCast] at g3
  by_cases ex : d.exp = true
  rotate_left
  ·rw [if_pos (.inr (by simpa using ex))] at i4
   simp [k0, g1, g3, ex]
   refine ⟨by omega, ?_⟩
   refine Abs.Next.mk (j + 1, s, bad ++ [⟨i, x.line, x.col, 12⟩], 12) [0, 1, 4] ⟨by simp only; omega, by simp only; omega, by simp; omega, i4⟩ (by simp only; omega) ?_
   simp [hw, Dia.enc]
   exact zaF _ _
  by_cases f2 : f.2 = true
  ·rw [if_neg (by simp [k0, ex]), if_pos f2] at i4
   simp [k0, g1, g3, ex, f2]
   refine ⟨by omega, ?_⟩
   refine Abs.Next.mk (j + 1, s, bad ++ [⟨i, x.line, x.col, 8⟩], 8) [0, 1, 4] ⟨by simp only; omega, by simp only; omega, by simp; omega, i4⟩ (by simp only; omega) ?_
   simp [hw, Dia.enc]
   exact zaF _ _
  ·rw [if_neg (by simp [k0, ex]), if_neg f2] at i4
   simp [k0, g1, g3, ex, f2, hj, hn]
   refine ⟨by omega, ?_⟩
   refine Abs.Next.mk (j + 1, s ++ [⟨n, zn, kn⟩], bad, e) [4, 1, 2] ⟨by simp only; omega, by simp; omega, by simp only; omega, i4⟩ (by simp only; omega) ?_
   simp [hw, Ent.enc]
   exact zaF _ _
 ·have hj : j = x.names.length := by simp at h; omega
  subst hj
  rw [List.drop_length, impN] at i4
  subst i4
  simp
  refine fzK.mk [2] ?_
  simp [zas, zaF]
  exact EndM.mk [1, 0] [1] (by simp [zas])
end Go.Gr
namespace Go.Gr
open Go.Abs Go.Proofs
abbrev allA (all : List (List Ent)) : Blk := .arr 1 ((all.map scpE).map (·.map .d))
abbrev secT (p : Lnk) (i na nb n : Nat) : List (Nat × AV) := [(8, .c (.ptr 2 0)), (7, .c (.msl 3 3 0 n)), (6, .c (.d (.int .i64 i))), (5, .c (.msl 4 1 0 nb)), (4, .c (.msl 1 0 0 na)), (1, .c (.d (.rp p.enc 0)))]
abbrev secB (all : List (List Ent)) (bad : List Dia) (m : Mdl) (sc : List Ent) : List Blk := [allA all, diaA bad, .box (m.enc.map .d), entA sc]
set_option maxRecDepth 20000 in
set_option maxHeartbeats 2000000 in
theorem zqF {c : Ctx} (hp : c.pure) (p : Lnk) (hp' : zdK p) (i : Nat) (m : Mdl) (hm : SmallM m) (all : List (List Ent)) (b0 : List Dia) (hb0 : b0.length <= 10000000000) (F0 : List Ent × List Dia) (hF : zd6 p.names p.mods i m.imps [] b0 = F0) {Q : Exit -> St -> Prop} {S : St} {g} {ms : List Nat}
  (h0 : Match ms S ((9, .c (.d (.int .i64 0))) :: secT p i all.length b0.length 0) (secB all b0 m []))
  (hQ : F0.1.length <= 100020001 -> F0.2.length <= b0.length + 100030002 -> ∀ T, Abs.look T 8 = .c (.ptr 2 0) -> Abs.look T 7 = .c (.msl 3 3 0 F0.1.length) -> Abs.look T 6 = .c (.d (.int .i64 i)) -> Abs.look T 5 = .c (.msl 4 1 0 F0.2.length) -> Abs.look T 4 = .c (.msl 1 0 0 all.length) -> Abs.look T 1 = .c (.d (.rp p.enc 0)) -> Q (.exit 2) ⟨T, hpOf (secB all F0.2 m F0.1), 4⟩) : lw_ Pg c lp_g07_second_2 Q g S := by
 have hmi := hm.imps
 refine W.loop Pg_mixed hp (fun y : Nat × List Ent × List Dia => y.1 <= m.imps.length /\ y.2.1.length <= y.1 * 10001 /\ y.2.2.length <= b0.length + y.1 * 10002 /\ zd6 p.names p.mods i (m.imps.drop y.1) y.2.1 y.2.2 = F0) (fun y => (9, .c (.d (.int .i64 y.1))) :: secT p i all.length y.2.2.length y.2.1.length) (fun y => secB all y.2.2 m y.2.1) (fun y => m.imps.length - y.1) (0, [], b0) ms ⟨by simp, by simp, by simp, by simpa using hF⟩ h0 fun ⟨k, sc, bad⟩ ⟨i1, i2, i3, i4⟩ => ?_
 unfold lp_g07_second_2
 simp only at i1 i2 i3 i4
 simp
 have hk1 : k * 10001 <= 10001 * 10001 := Nat.mul_le_mul (by omega) (Nat.le_refl _)
 have hk2 : k * 10002 <= 10001 * 10002 := Nat.mul_le_mul (by omega) (Nat.le_refl _)
 refine gd.mk (fun h => ?_) (fun h => ?_)
 ·have hk : k < m.imps.length := by simpa using h
  obtain ⟨x, hx⟩ : ∃ x, m.imps[k] = x := ⟨_, rfl⟩
  have hxm := hm.names x (by rw [<- hx]; exact List.getElem_mem hk)
  rw [List.drop_eq_getElem_cons hk, hx, zd6] at i4
  have hw := wrap_i64 (n := (k : Int) + 1) (by omega) (by omega)
  have him := zpd p hp' i x hxm sc (by omega)
  have hil := zoz p.names p.mods i x sc
  generalize zbt p.names p.mods i x sc = r at *
  simp [hk, hx]
  refine zaa.mk [3] him (by simp) ?_
  simp
  refine ⟨by decide, by omega, ?_⟩
  refine Abs.Next.mk (k + 1, r.1, bad ++ r.2) [0, 5, 2, 4] ⟨by simp only; omega, by simp only; omega, by simp; omega, i4⟩ (by simp only; omega) ?_
  simp [hw]
  exact zaF _ _
 ·have hk : k = m.imps.length := by simp at h; omega
  subst hk
  rw [List.drop_length, zd6] at i4
  subst i4
  exact hQ (by simp only; omega) (by simp only; omega) _ (by simp) (by simp) (by simp) (by simp) (by simp) (by simp)
set_option maxRecDepth 20000 in
set_option maxHeartbeats 2000000 in
theorem zqG {c : Ctx} (hp : c.pure) (p : Lnk) (i : Nat) (m : Mdl) (hm : SmallM m) (all : List (List Ent)) (s0 : List Ent) (hs0 : s0.length <= 100020001) (b0 : List Dia) (hb0 : b0.length <= 100000000000) (F0 : List Ent × List Dia) (hF : zdF i m.decs 0 s0 b0 = F0) {Q : Exit -> St -> Prop} {S : St} {g} {ms : List Nat}
  (h0 : Match ms S ((12, .c (.d (.int .i64 0))) :: secT p i all.length b0.length s0.length) (secB all b0 m s0))
  (hQ : F0.2.length <= b0.length + 10001 -> ∀ T, Abs.look T 7 = .c (.msl 3 3 0 F0.1.length) -> Abs.look T 6 = .c (.d (.int .i64 i)) -> Abs.look T 5 = .c (.msl 4 1 0 F0.2.length) -> Abs.look T 4 = .c (.msl 1 0 0 all.length) -> Abs.look T 1 = .c (.d (.rp p.enc 0)) -> Q (.exit 4) ⟨T, hpOf (secB all F0.2 m F0.1), 4⟩) : lw_ Pg c zdu Q g S := by
 have hmd := hm.decs
 refine W.loop Pg_mixed hp (fun y : Nat × List Ent × List Dia => y.1 <= m.decs.length /\ y.2.1.length <= s0.length + y.1 /\ y.2.2.length <= b0.length + y.1 /\ zdF i (m.decs.drop y.1) y.1 y.2.1 y.2.2 = F0) (fun y => (12, .c (.d (.int .i64 y.1))) :: secT p i all.length y.2.2.length y.2.1.length) (fun y => secB all y.2.2 m y.2.1) (fun y => m.decs.length - y.1) (0, s0, b0) ms ⟨by simp, by simp, by simp, by simpa using hF⟩ h0 fun ⟨k, sc, bad⟩ ⟨i1, i2, i3, i4⟩ => ?_
 unfold zdu
 simp only at i1 i2 i3 i4
 simp
 refine gd.mk (fun h => ?_) (fun h => ?_)
 ·have hk : k < m.decs.length := by simpa using h
  obtain ⟨d, hd⟩ : ∃ d, m.decs[k] = d := ⟨_, rfl⟩
  rw [List.drop_eq_getElem_cons hk, hd, zdF] at i4
  have hw := wrap_i64 (n := (k : Int) + 1) (by omega) (by omega)
  have hfm := zoq sc d.name
  simp [hk, hd]
  refine zaa.mk [3] hfm (by simp) ?_
  generalize zbv sc d.name = f at *
  simp
  by_cases f2 : f.2 = true
  ·rw [if_pos f2] at i4
   simp [f2, hk, hd]
   refine ⟨by omega, by decide, ?_⟩
   refine Abs.Next.mk (k + 1, sc, bad ++ [⟨i, d.line, d.col, 8⟩]) [0, 5, 2, 3] ⟨by simp only; omega, by simp only; omega, by simp; omega, i4⟩ (by simp only; omega) ?_
   simp [hw, Dia.enc]
   exact zaF _ _
  ·rw [if_neg f2] at i4
   simp [f2, hk, hd]
   refine ⟨by omega, ?_⟩
   refine Abs.Next.mk (k + 1, sc ++ [⟨d.name, i, k⟩], bad) [0, 1, 2, 5] ⟨by simp only; omega, by simp; omega, by simp only; omega, i4⟩ (by simp only; omega) ?_
   simp [hw, Ent.enc]
   exact zaF _ _
 ·have hk : k = m.decs.length := by simp at h; omega
  subst hk
  rw [List.drop_length, zdF] at i4
  subst i4
  exact hQ (by simp only; omega) _ (by simp) (by simp) (by simp) (by simp) (by simp)
set_option maxRecDepth 20000 in
set_option maxHeartbeats 2000000 in
theorem zr3 (p : Lnk) (hp' : zdK p) : PCall Pg F.g07_second [.agg p.enc] (.tup [.one (.sl false 1 ((zbs p.names p.mods p.mods 0 [] []).1.map scpE)), .one (.sl false 4 ((zbs p.names p.mods p.mods 0 [] []).2.map Dia.enc))]) := by
 refine zne (by simp) fun o c hN hp => ?_
 obtain ⟨R, hR⟩ : ∃ R, zbs p.names p.mods p.mods 0 [] [] = R := ⟨_, rfl⟩
 rw [hR]
 have h16 := hp'.1
 unfold zhf
 simp
 refine owK.mk [.t 4, .t 5] ?_
 simp
 refine W.loop Pg_mixed hp (fun y : Nat × List (List Ent) × List Dia => y.1 <= p.mods.length /\ y.2.1.length = y.1 /\ y.2.2.length <= y.1 * 200000000 /\ zbs p.names p.mods (p.mods.drop y.1) y.1 y.2.1 y.2.2 = R) (fun y => [(6, .c (.d (.int .i64 y.1))), (5, .c (.msl 4 1 0 y.2.2.length)), (4, .c (.msl 1 0 0 y.2.1.length)), (1, .c (.d (.rp p.enc 0)))]) (fun y => [allA y.2.1, diaA y.2.2]) (fun y => p.mods.length - y.1) (0, [], []) [0, 1] ⟨by simp, rfl, by simp, by simpa using hR⟩ (by simp) fun ⟨i, all, bad⟩ ⟨i1, i2, i3, i4⟩ => ?_
 unfold zfr
 simp only at i1 i2 i3 i4
 simp
 refine gd.mk (fun h => ?_) (fun h => ?_)
 ·have hi : i < p.mods.length := by simpa using h
  obtain ⟨m, hm⟩ : ∃ m, p.mods[i] = m := ⟨_, rfl⟩
  have hsm := hp'.2.2 m (by rw [<- hm]; exact List.getElem_mem hi)
  rw [List.drop_eq_getElem_cons hi, hm, zbs] at i4
  have hw := wrap_i64 (n := (i : Int) + 1) (by omega) (by omega)
  simp [hi, hm]
  refine owK.mk [.t 7] ?_
  simp
  refine zqF hp p hp' i m hsm all bad (by omega) _ rfl (ms := [0, 1, 2, 3]) (by simp) fun q1 q2 T t8 t7 t6 t5 t4 t1 => ?_
  generalize zd6 p.names p.mods i m.imps [] bad = a at *
  simp
  refine zqG hp p i m hsm all a.1 q1 a.2 (by omega) _ rfl (ms := [0, 1, 2, 3]) (by simp [t8, t7, t6, t5, t4, t1]) fun q3 T t7 t6 t5 t4 t1 => ?_
  generalize zdF i m.decs 0 a.1 a.2 = b at *
  simp
  refine fzK.mk [3] ?_
  simp [zas, t7, t6, t5, t4, t1, zaF]
  refine ⟨by omega, ?_⟩
  refine Abs.Next.mk (i + 1, all ++ [b.1], b.2) [4, 1] ⟨by simp only; omega, by simp [i2], by simp only; omega, i4⟩ (by simp only; omega) ?_
  simp [zas, t7, t6, t5, t4, t1, zaF, hw, scpE]
  try trace_state
 ·have hi : i = p.mods.length := by simp at h; omega
  subst hi
  rw [List.drop_length, zbs] at i4
  subst i4
  simp [zaF]
  try trace_state
end Go.Gr
