/- Texts of ours, joined and written short by a program of ours. -/
import Derived.Test.YtnefbdgcccgodaaGreatJ17
set_option linter.unusedVariables false
set_option linter.unusedSimpArgs false
namespace Go.Gr
open Go.Abs Go.Proofs
section
variable (L : Lnk)
theorem as_p (n a : Nod) (hk : n.kids = [a]) (ia : Inf) (ha : PInf L a ia) : PInf L n (asC n ia) := fun env s k he hs => by
 have hn : nsz n = nsz a + 1 := by rw [za2, hk]; simp [nszs]
 have h1 := ha env s (2 + k) (he.less (by omega)) (hs.less (by omega))
 unfold asC
 simp only
 generalize ia env s = r at *
 by_cases q1 : r.2.e ≠ 0
 ·rw [if_pos q1]; exact ⟨h1.1.less (by omega), h1.2⟩
 rw [if_neg q1]
 have h2 := zaW h1.1 (n.types.getD 0 noT) n.line n.col
 generalize zay (n.types.getD 0 noT) n.line n.col r.2 = u at *
 by_cases q2 : u.2.e ≠ 0 \/ SubR r.1.2 u.1 = true
 ·rw [if_pos q2]; exact ⟨h2.1.less (by omega), h2.2⟩
 rw [if_neg q2]
 have h3 : SOk L (if r.1.2.kind ≠ 0 then zaZ r.1.1 r.1.2 noT n.line n.col u.2 else (r.1.1, u.2)).2 (1 + k) := by
  split
  ·exact zdQ (h2.1.less (by omega)) _ _ _ _ _
  ·exact h2.1.less (by omega)
 generalize (if r.1.2.kind ≠ 0 then zaZ r.1.1 r.1.2 noT n.line n.col u.2 else (r.1.1, u.2)) = y at *
 split
 ·exact ⟨h3.less (by omega), h2.2⟩
 split
 ·exact ⟨zdQ (h3.less (by omega)) _ _ _ _ _, h2.2⟩
 ·exact ⟨h3.less (by omega), h2.2⟩
@[simp] theorem Cor.enc_0 (c : Cor) : c.enc[0]? = some (.int .i64 c.kind) := by rw [c.enc_eq]; try rfl
@[simp] theorem Cor.enc_1 (c : Cor) : c.enc[1]? = some (.int .i64 c.n) := by rw [c.enc_eq]; try rfl
@[simp] theorem Cor.enc_g0 (c : Cor) (h : 0 < c.enc.length) : c.enc[0] = .int .i64 c.kind := zc3 c.enc_0 h
@[simp] theorem Cor.enc_g1 (c : Cor) (h : 1 < c.enc.length) : c.enc[1] = .int .i64 c.n := zc3 c.enc_1 h
set_option maxRecDepth 20000 in
set_option maxHeartbeats 4000000 in
theorem zvw (n a : Nod) (hk : n.kids = [a]) (hty0 : 1 <= n.types.length) (ia : Inf) (ha : zbu L a ia) : MInf L F.gc_as n (asC n ia) := fun env s k he hs => by
 refine ztZ ⟨by simp, by simp, by simp, by simp, by simp, by simp, by simp [live]⟩ fun ts hts ok hbk c hN hp => ?_
 obtain ⟨t, u, v, w, x, y, rfl⟩ := zaO hts
 have hn : nsz n = nsz a + 1 := by rw [za2, hk]; simp [nszs]
 have hb0 := zaB 0
 obtain ⟨ta, tr, hty⟩ : ∃ ta tr, n.types = ta :: tr := by
  match h : n.types, hty0 with
  | ta :: tr, _ => exact ⟨ta, tr, rfl⟩
 have e3 : n.types.getD 0 noT = ta := by rw [hty]; try rfl
 have m1 := ha.1 env s (2 + k) (he.less (by omega)) (hs.less (by omega))
 have p1 := ha.2 env s (2 + k) (he.less (by omega)) (hs.less (by omega))
 unfold asC
 simp only
 rw [e3]
 generalize ia env s = r1 at *
 unfold zoo
 by_cases q1 : r1.2.e = 0
 rotate_left
 ·rw [if_pos q1]
  simp [hk]
  refine zaa.mk [0, 1, 2, 3, 4, 5] m1 (by simp) ?_
  simp [q1]
  refine ⟨by decide, ?_⟩
  exact EndM.mkE [0, 1, 2, 9, 4, 11, 14, 15] [6, 7, 8, 9, 10, 11] (by simp [cK, cN, cT, zag, zaj, fnT, zal, zae, noC, encI, encS, AV.erds, AV.erd, D.erdL, D.erd, D.erdE, kid0, kid1])
 rw [if_neg (by simp [q1])]
 have m2 := zca L ta n.line n.col r1.2 p1.1.wth
 have p2 := zaW p1.1 ta n.line n.col
 generalize zay ta n.line n.col r1.2 = r2 at *
 have hsb := zhD r1.1.2 r2.1
 by_cases q2 : r2.2.e = 0
 rotate_left
 ·rw [if_pos (.inl q2)]
  simp [hk]
  refine zaa.mk [0, 1, 2, 3, 4, 5] m1 (by simp) ?_
  simp [q1, hty]
  refine zaa.mk [0, 1, 2, 14, 4, 15] m2 (by simp [q1]) ?_
  simp [q2]
  refine ⟨by decide, by decide, ?_⟩
  exact EndM.mkE [0, 1, 2, 9, 4, 11, 14, 15] [6, 7, 8, 9, 10, 11] (by simp [cK, cN, cT, zag, zaj, fnT, zal, zae, noC, encI, encS, AV.erds, AV.erd, D.erdL, D.erd, D.erdE, kid0, kid1])
 by_cases q3 : SubR r1.1.2 r2.1 = true
 ·rw [if_pos (.inr q3)]
  simp [hk]
  refine zaa.mk [0, 1, 2, 3, 4, 5] m1 (by simp) ?_
  simp [q1, hty]
  refine zaa.mk [0, 1, 2, 14, 4, 15] m2 (by simp [q1]) ?_
  simp [q2]
  refine ⟨by decide, ?_⟩
  refine zac.mk hsb ?_
  simp [q3]
  refine ⟨by decide, ?_⟩
  exact EndM.mkE [0, 1, 2, 9, 4, 11, 14, 15] [6, 7, 8, 9, 10, 11] (by simp [q2, cK, cN, cT, zag, zaj, fnT, zal, zae, noC, encI, encS, AV.erds, AV.erd, D.erdL, D.erd, D.erdE, kid0, kid1])
 rw [if_neg (by simp [q2, q3])]
 by_cases t0 : r1.1.2.kind = 0
 ·have ty0 : (if r1.1.2.kind ≠ 0 then zaZ r1.1.1 r1.1.2 noT n.line n.col r2.2 else (r1.1.1, r2.2)) = (r1.1.1, r2.2) := if_neg (fun z => z t0)
  rw [ty0]
  by_cases u0 : r2.1.kind = 0
  ·rw [if_pos u0]
   simp [hk]
   refine zaa.mk [0, 1, 2, 3, 4, 5] m1 (by simp) ?_
   simp [q1, hty]
   refine zaa.mk [0, 1, 2, 14, 4, 15] m2 (by simp [q1]) ?_
   simp [q2]
   refine ⟨by decide, ?_⟩
   refine zac.mk hsb ?_
   simp [q3, t0, u0]
   refine ⟨by decide, ?_⟩
   exact EndM.mkE [0, 1, 2, 9, 4, 11, 14, 15] [6, 7, 8, 9, 10, 11] (by simp [q2, cK, cN, cT, zag, zaj, fnT, zal, zae, noC, encI, encS, AV.erds, AV.erd, D.erdL, D.erd, D.erdE, kid0, kid1])
  ·rw [if_neg u0, if_pos t0]
   have m3 := zdP L r1.1.1 r1.1.2 r2.1 n r2.2 (by have := p2.1.sites; omega)
   simp only
   generalize zaZ r1.1.1 r1.1.2 r2.1 n.line n.col r2.2 = r3 at *
   simp [hk]
   refine zaa.mk [0, 1, 2, 3, 4, 5] m1 (by simp) ?_
   simp [q1, hty]
   refine zaa.mk [0, 1, 2, 14, 4, 15] m2 (by simp [q1]) ?_
   simp [q2]
   refine ⟨by decide, ?_⟩
   refine zac.mk hsb ?_
   simp [q3, t0, u0]
   refine zaa.mk [0, 1, 2, 14, 4, 15] m3 (by simp [q2, t0]) ?_
   simp
   refine ⟨by decide, ?_⟩
   exact EndM.mkE [0, 1, 2, 9, 4, 11, 20, 15] [6, 7, 8, 9, 10, 11] (by simp [cK, cN, cT, zag, zaj, fnT, zal, zae, noC, encI, encS, AV.erds, AV.erd, D.erdL, D.erd, D.erdE, kid0, kid1])
 ·have ty0 : (if r1.1.2.kind ≠ 0 then zaZ r1.1.1 r1.1.2 noT n.line n.col r2.2 else (r1.1.1, r2.2)) = zaZ r1.1.1 r1.1.2 noT n.line n.col r2.2 := if_pos t0
  rw [ty0]
  have m3 := zdP L r1.1.1 r1.1.2 noT n r2.2 (by have := p2.1.sites; omega)
  generalize zaZ r1.1.1 r1.1.2 noT n.line n.col r2.2 = r3 at *
  by_cases u0 : r2.1.kind = 0
  ·rw [if_pos u0]
   simp [hk]
   refine zaa.mk [0, 1, 2, 3, 4, 5] m1 (by simp) ?_
   simp [q1, hty]
   refine zaa.mk [0, 1, 2, 14, 4, 15] m2 (by simp [q1]) ?_
   simp [q2]
   refine ⟨by decide, ?_⟩
   refine zac.mk hsb ?_
   simp [q3, t0]
   refine zac.mk hb0 ?_
   simp
   refine zaa.mk [0, 1, 2, 14, 4, 15] m3 (by simp [q2, noT, bT]) ?_
   simp [u0]
   refine ⟨by decide, by decide, ?_⟩
   exact EndM.mkE [0, 1, 2, 9, 4, 11, 20, 15] [6, 7, 8, 9, 10, 11] (by simp [cK, cN, cT, zag, zaj, fnT, zal, zae, noC, encI, encS, AV.erds, AV.erd, D.erdL, D.erd, D.erdE, kid0, kid1])
  ·rw [if_neg u0, if_neg t0]
   simp [hk]
   refine zaa.mk [0, 1, 2, 3, 4, 5] m1 (by simp) ?_
   simp [q1, hty]
   refine zaa.mk [0, 1, 2, 14, 4, 15] m2 (by simp [q1]) ?_
   simp [q2]
   refine ⟨by decide, ?_⟩
   refine zac.mk hsb ?_
   simp [q3, t0]
   refine zac.mk hb0 ?_
   simp
   refine zaa.mk [0, 1, 2, 14, 4, 15] m3 (by simp [q2, noT, bT]) ?_
   simp [u0, t0]
   refine ⟨by decide, by decide, ?_⟩
   exact EndM.mkE [0, 1, 2, 9, 4, 11, 20, 15] [6, 7, 8, 9, 10, 11] (by simp [cK, cN, cT, zag, zaj, fnT, zal, zae, noC, encI, encS, AV.erds, AV.erd, D.erdL, D.erd, D.erdE, kid0, kid1])
theorem zv8 (n a : Nod) (hk : n.kids = [a]) (ia : Inf) (ha : PInf L a ia) : PInf L n (oneC n a ia) := fun env s k he hs => by
 have hn : nsz n = nsz a + 1 := by rw [za2, hk]; simp [nszs]
 have h1 := ha env s k (he.less (by omega)) (hs.less (by omega))
 have hw := fun t0 => zff L a ia ha t0 env s k (he.less (by omega)) (hs.less (by omega))
 unfold oneC
 split
 ·exact ⟨hw _, zbG 2 (by omega) (by omega)⟩
 split
 ·exact ⟨hw _, zbG 3 (by omega) (by omega)⟩
 split
 ·exact ⟨h1.1, zbG 2 (by omega) (by omega)⟩
 ·exact ⟨h1.1, zbG 1 (by omega) (by omega)⟩
set_option maxRecDepth 20000 in
set_option maxHeartbeats 4000000 in
theorem zuM (n a : Nod) (hk : n.kids = [a]) (ia : Inf) (ha : zbu L a ia) : MInf L F.gc_one n (oneC n a ia) := fun env s k he hs => by
 refine zsv ⟨by simp, by simp, by simp, by simp, by simp, by simp, by simp [live]⟩ fun ts hts ok hbk c hN hp => ?_
 obtain ⟨t, u, v, w, x, y, rfl⟩ := zaO hts
 have hn : nsz n = nsz a + 1 := by rw [za2, hk]; simp [nszs]
 unfold oneC
 unfold zmC
 by_cases k15 : n.kind = 15
 ·rw [if_pos k15]
  have m1 := zcb L a ia ha (bT 2) env s k (he.less (by omega)) (hs.less (by omega))
  simp only
  generalize za1 a ia (bT 2) env s = r1 at *
  simp [k15, hk]
  refine zac.mk (zaB 2) ?_
  simp
  refine zaa.mk [0, 1, 2, 3, 4, 5] m1 (by simp) ?_
  simp
  refine ⟨by decide, ?_⟩
  refine zac.mk (zaB 2) ?_
  simp
  refine ⟨by decide, ?_⟩
  exact EndM.mkE [0, 1, 2, 9, 4, 11, 14, 15] [6, 7, 8, 9, 10, 11] (by simp [cK, cN, cT, zag, zaj, fnT, zal, zae, noC, encI, encS, AV.erds, AV.erd, D.erdL, D.erd, D.erdE, kid0, kid1])
 rw [if_neg k15]
 by_cases k16 : n.kind = 16
 ·rw [if_pos k16]
  have m1 := zcb L a ia ha (bT 3) env s k (he.less (by omega)) (hs.less (by omega))
  simp only
  generalize za1 a ia (bT 3) env s = r1 at *
  simp [k16, hk]
  refine zac.mk (zaB 3) ?_
  simp
  refine zaa.mk [0, 1, 2, 3, 4, 5] m1 (by simp) ?_
  simp
  refine ⟨by decide, ?_⟩
  refine zac.mk (zaB 3) ?_
  simp
  refine ⟨by decide, ?_⟩
  exact EndM.mkE [0, 1, 2, 9, 4, 11, 14, 15] [6, 7, 8, 9, 10, 11] (by simp [cK, cN, cT, zag, zaj, fnT, zal, zae, noC, encI, encS, AV.erds, AV.erd, D.erdL, D.erd, D.erdE, kid0, kid1])
 rw [if_neg k16]
 have m1 := ha.1 env s k (he.less (by omega)) (hs.less (by omega))
 generalize ia env s = r1 at *
 by_cases k12 : n.kind = 12
 ·rw [if_pos k12]
  simp [k12, hk]
  refine zaa.mk [0, 1, 2, 3, 4, 5] m1 (by simp) ?_
  simp
  refine zac.mk (zaB 2) ?_
  simp
  refine ⟨by decide, ?_⟩
  exact EndM.mkE [0, 1, 2, 9, 4, 11, 14, 15] [6, 7, 8, 9, 10, 11] (by simp [cK, cN, cT, zag, zaj, fnT, zal, zae, noC, encI, encS, AV.erds, AV.erd, D.erdL, D.erd, D.erdE, kid0, kid1])
 ·rw [if_neg k12]
  simp [k15, k16, k12, hk]
  refine zaa.mk [0, 1, 2, 3, 4, 5] m1 (by simp) ?_
  simp
  refine zac.mk (zaB 1) ?_
  simp
  refine ⟨by decide, ?_⟩
  exact EndM.mkE [0, 1, 2, 9, 4, 11, 14, 15] [6, 7, 8, 9, 10, 11] (by simp [cK, cN, cT, zag, zaj, fnT, zal, zae, noC, encI, encS, AV.erds, AV.erd, D.erdL, D.erd, D.erdE, kid0, kid1])
end
end Go.Gr
namespace Go.Gr
open Go.Abs Go.Proofs
section
variable (L : Lnk)
def opAt (s : ByteArray) : Nat -> Int
 | 0 => 0
 | i + 1 => if zch[i]? = some s then (i : Int) else opAt s i
theorem zsS (s : ByteArray) : opAt s 11 = opZ s := by
 by_cases h : s ∈ zch
 ·simp only [zch, List.mem_cons, List.not_mem_nil, or_false] at h
  rcases h with h | h | h | h | h | h | h | h | h | h | h <;> subst h <;> decide
 ·have h2 : ∀ i, zch[i]? ≠ some s := fun i z => h (List.mem_of_getElem? z)
  have h3 : ∀ i, opAt s i = 0 := fun i => by
   induction i with
   | zero => rfl
   | succ i ih => rw [opAt, if_neg (h2 i), ih]
  have h4 : ∀ (l : List ByteArray) (j : Nat), s ∉ l -> fi (fun x => decide (x = s)) j l = -1 := fun l => by
   induction l with
   | nil => intro j _; rfl
   | cons x l ih =>
    intro j hx
    have q : ¬ x = s := fun z => hx (by simp [z])
    rw [fi, if_neg (by simp [q]), ih _ (fun z => hx (by simp [z]))]
  rw [h3, opZ, h4 _ _ h]; try rfl
theorem op_p (n a b : Nod) (hk : n.kids = [a, b]) (ia ib : Inf) (ha : PInf L a ia) (hb : PInf L b ib) : PInf L n (opC n a b ia ib) := fun env s k he hs => by
 have hn : nsz n = nsz a + (nsz b + 1) := by rw [za2, hk]; simp [nszs]; omega
 have w2 := fun t0 t1 => zff L b ib hb t1 env (za1 a ia t0 env s).2 k (he.less (by omega)) (zff L a ia ha t0 env s (8 * nsz b + 1 + k) (he.less (by omega)) (hs.less (by omega)))
 have i1 := ha env s (8 * nsz b + k) (he.less (by omega)) (hs.less (by omega))
 have i2 := hb env (ia env s).2 k (he.less (by omega)) i1.1
 unfold opC
 split
 ·exact ⟨w2 _ _, zbG 2 (by omega) (by omega)⟩
 split
 ·exact ⟨w2 _ _, zbG 2 (by omega) (by omega)⟩
 split
 ·exact ⟨i2.1, zbG 2 (by omega) (by omega)⟩
 split
 ·exact ⟨w2 _ _, zbG 4 (by omega) (by omega)⟩
 ·refine ⟨w2 _ _, ?_⟩
  simp only
  split
  ·exact zbG 2 (by omega) (by omega)
  ·exact zbG 3 (by omega) (by omega)
set_option maxRecDepth 20000 in
set_option maxHeartbeats 4000000 in
theorem zvf (n a b : Nod) (hk : n.kids = [a, b]) (ia ib : Inf) (ha : zbu L a ia) (hb : zbu L b ib) : MInf L F.gc_op n (opC n a b ia ib) := fun env s k he hs => by
 refine zt0 ⟨by simp, by simp, by simp, by simp, by simp, by simp, by simp [live]⟩ fun ts hts ok hbk c hN hp => ?_
 obtain ⟨t, u, v, w, x, y, rfl⟩ := zaO hts
 have hn : nsz n = nsz a + (nsz b + 1) := by rw [za2, hk]; simp [nszs]; omega
 have d21 : ¬ bs [97, 110, 100] = bs [111, 114] := by decide
 have d31 : ¬ bs [61, 61] = bs [111, 114] := by decide
 have d32 : ¬ bs [61, 61] = bs [97, 110, 100] := by decide
 have d41 : ¬ bs [43, 43] = bs [111, 114] := by decide
 have d42 : ¬ bs [43, 43] = bs [97, 110, 100] := by decide
 have d43 : ¬ bs [43, 43] = bs [61, 61] := by decide
 unfold opC
 unfold zop
 by_cases c1 : n.text = bs [111, 114]
 ·rw [if_pos c1]
  have m1 := zcb L a ia ha (bT 2) env s (8 * nsz b + 1 + k) (he.less (by omega)) (hs.less (by omega))
  have p1 := zff L a ia ha.2 (bT 2) env s (8 * nsz b + 1 + k) (he.less (by omega)) (hs.less (by omega))
  simp only
  generalize za1 a ia (bT 2) env s = r1 at *
  have m2 := zcb L b ib hb (bT 2) env r1.2 k (he.less (by omega)) (p1.less (by omega))
  generalize za1 b ib (bT 2) env r1.2 = r2 at *
  simp [c1, hk]
  refine zac.mk (zaB 2) ?_
  simp [c1, hk]
  refine zaa.mk [0, 1, 2, 3, 4, 5] m1 (by simp) ?_
  simp [hk]
  refine ⟨by decide, ?_⟩
  refine zaa.mk [0, 1, 2, 15, 4, 16] m2 (by simp) ?_
  simp
  refine ⟨by decide, by decide, ?_⟩
  exact EndM.mkE [0, 1, 2, 9, 4, 11, 18, 19] [6, 7, 8, 9, 10, 11] (by simp [cK, cN, cT, zag, zaj, fnT, zal, zae, noC, encI, encS, AV.erds, AV.erd, D.erdL, D.erd, D.erdE, kid0, kid1])
 rw [if_neg c1]
 by_cases c2 : n.text = bs [97, 110, 100]
 ·rw [if_pos c2]
  have m1 := zcb L a ia ha (bT 2) env s (8 * nsz b + 1 + k) (he.less (by omega)) (hs.less (by omega))
  have p1 := zff L a ia ha.2 (bT 2) env s (8 * nsz b + 1 + k) (he.less (by omega)) (hs.less (by omega))
  simp only
  generalize za1 a ia (bT 2) env s = r1 at *
  have m2 := zcb L b ib hb (bT 2) env r1.2 k (he.less (by omega)) (p1.less (by omega))
  generalize za1 b ib (bT 2) env r1.2 = r2 at *
  simp [c2, d21, hk]
  refine zac.mk (zaB 2) ?_
  simp [c2, d21, hk]
  refine zaa.mk [0, 1, 2, 3, 4, 5] m1 (by simp) ?_
  simp [hk]
  refine ⟨by decide, ?_⟩
  refine zaa.mk [0, 1, 2, 15, 4, 16] m2 (by simp) ?_
  simp
  refine ⟨by decide, by decide, ?_⟩
  exact EndM.mkE [0, 1, 2, 9, 4, 11, 18, 19] [6, 7, 8, 9, 10, 11] (by simp [cK, cN, cT, zag, zaj, fnT, zal, zae, noC, encI, encS, AV.erds, AV.erd, D.erdL, D.erd, D.erdE, kid0, kid1])
 rw [if_neg c2]
 by_cases c3 : n.text = bs [61, 61]
 ·rw [if_pos c3]
  have m1 := ha.1 env s (8 * nsz b + k) (he.less (by omega)) (hs.less (by omega))
  have p1 := ha.2 env s (8 * nsz b + k) (he.less (by omega)) (hs.less (by omega))
  simp only
  generalize ia env s = r1 at *
  have m2 := hb.1 env r1.2 k (he.less (by omega)) (p1.1.less (by omega))
  generalize ib env r1.2 = r2 at *
  simp [c3, d31, d32, hk]
  refine zac.mk (zaB 2) ?_
  simp [c3, d31, d32, hk]
  refine zaa.mk [0, 1, 2, 3, 4, 5] m1 (by simp) ?_
  simp [hk]
  refine zaa.mk [0, 1, 2, 15, 4, 16] m2 (by simp) ?_
  simp
  refine ⟨by decide, ?_⟩
  exact EndM.mkE [0, 1, 2, 9, 4, 11, 19, 20] [6, 7, 8, 9, 10, 11] (by simp [cK, cN, cT, zag, zaj, fnT, zal, zae, noC, encI, encS, AV.erds, AV.erd, D.erdL, D.erd, D.erdE, kid0, kid1])
 rw [if_neg c3]
 by_cases c4 : n.text = bs [43, 43]
 ·rw [if_pos c4]
  have m1 := zcb L a ia ha (bT 4) env s (8 * nsz b + 1 + k) (he.less (by omega)) (hs.less (by omega))
  have p1 := zff L a ia ha.2 (bT 4) env s (8 * nsz b + 1 + k) (he.less (by omega)) (hs.less (by omega))
  simp only
  generalize za1 a ia (bT 4) env s = r1 at *
  have m2 := zcb L b ib hb (bT 4) env r1.2 k (he.less (by omega)) (p1.less (by omega))
  generalize za1 b ib (bT 4) env r1.2 = r2 at *
  simp [c4, d41, d42, d43, hk]
  refine zac.mk (zaB 2) ?_
  simp [c4, d41, d42, d43, hk]
  refine zac.mk (zaB 4) ?_
  simp [hk]
  refine zaa.mk [0, 1, 2, 3, 4, 5] m1 (by simp) ?_
  simp [hk]
  refine ⟨by decide, ?_⟩
  refine zac.mk (zaB 4) ?_
  simp [hk]
  refine zaa.mk [0, 1, 2, 15, 4, 16] m2 (by simp) ?_
  simp
  refine ⟨by decide, ?_⟩
  refine zac.mk (zaB 4) ?_
  simp [hk]
  refine ⟨by decide, ?_⟩
  exact EndM.mkE [0, 1, 2, 9, 4, 11, 18, 19] [6, 7, 8, 9, 10, 11] (by simp [cK, cN, cT, zag, zaj, fnT, zal, zae, noC, encI, encS, AV.erds, AV.erd, D.erdL, D.erd, D.erdE, kid0, kid1])
 rw [if_neg c4]
 have m1 := zcb L a ia ha (bT 3) env s (8 * nsz b + 1 + k) (he.less (by omega)) (hs.less (by omega))
 have p1 := zff L a ia ha.2 (bT 3) env s (8 * nsz b + 1 + k) (he.less (by omega)) (hs.less (by omega))
 simp only
 generalize za1 a ia (bT 3) env s = r1 at *
 have m2 := zcb L b ib hb (bT 3) env r1.2 k (he.less (by omega)) (p1.less (by omega))
 generalize za1 b ib (bT 3) env r1.2 = r2 at *
 obtain ⟨R, hR⟩ : ∃ R, opZ n.text = R := ⟨_, rfl⟩
 have hR2 := zsS n.text
 rw [hR] at hR2 ⊢
 simp [c1, c2, c3, c4, hk]
 refine zac.mk (zaB 2) ?_
 simp [c1, c2, c3, c4, hk]
 refine W.loop Pg_mixed hp (fun j : Nat => j <= 11) (fun j => [(21, .c (.d (.int .i64 j))), (20, .c (.d (.int .i64 (opAt n.text j)))), (19, .c (.d (.sl true 1 (encS zch)))), (8, .c (.ptr 14 0)), (7, .c (.ptr 13 0)), (6, .c (.ptr 12 0)), (4, .c (.d (.rp n.enc 0))), (2, .c (.d (.sl false 5 (env.map encV)))), (0, .c (.ptr 0 0))]) (fun _ => [ckBx L s 2 3 4, tbB 256 s.tab.length 5, funA s.funs, sitA s.sites, diaA s.bad, tabA s.tab, .pin t 0, .pin u 1, .pin v 2, .pin w 3, .pin x 4, .pin y 5, .box [.d (.int .i64 0), .d (.int .i64 0), .d (.str (bs [])), .d (.sl true 1 []), .d (.sl true 1 []), .d (.sl true 4 []), .d (.sl true 5 []), .d (.sl true 8 [])], .box [.d (.int .i64 0), .d (.str (bs [])), .d (.sl true 1 []), .d (.sl true 4 [])], .box ((bT 2).enc.map .d)]) (fun j => 11 - j) 0 [0, 1, 2, 3, 4, 5, 6, 7, 8, 9, 10, 11, 12, 13, 14] (by simp) (by simp [encS, zch, opAt]) fun j h1 => ?_
 unfold lp_gc_op_1
 simp
 refine gd.mk (fun h => ?_) (fun h => ?_)
 ·have hj : j < 11 := by simpa [zch] using h
  have hj2 : j < zch.length := by simpa [zch] using hj
  obtain ⟨z, hz⟩ : ∃ z, zch[j] = z := ⟨_, rfl⟩
  have hz2 : zch[j]? = some z := by rw [List.getElem?_eq_getElem hj2, hz]
  have hw := wrap_i64 (n := (j : Int) + 1) (by omega) (by omega)
  simp [hj2, hz]
  refine ⟨by decide, ?_⟩
  refine gd.mk (fun h => ?_) (fun h => ?_)
  ·have e : opAt n.text (j + 1) = (j : Int) := by rw [opAt, hz2]; simp at h; rw [if_pos (by rw [h])]
   try simp
   refine Abs.Next.mk (j + 1) [0, 1, 2, 3, 4, 5, 6, 7, 8, 9, 10, 11, 12, 13, 14] (by omega) (by omega) ?_
   simp [hw, e]
  ·have e : opAt n.text (j + 1) = opAt n.text j := by rw [opAt, hz2]; simp at h; rw [if_neg (fun q => h (by simpa using q))]
   try simp
   refine Abs.Next.mk (j + 1) [0, 1, 2, 3, 4, 5, 6, 7, 8, 9, 10, 11, 12, 13, 14] (by omega) (by omega) ?_
   simp [hw, e]
 have hj : j = 11 := by simp [zch] at h; omega
 subst hj
 rw [hR2]
 simp [hk]
 refine zac.mk (zaB 3) ?_
 simp [hk]
 refine zaa.mk [0, 1, 2, 3, 4, 5] m1 (by simp) ?_
 simp [hk]
 refine ⟨by decide, ?_⟩
 refine zac.mk (zaB 3) ?_
 simp [hk]
 refine zaa.mk [0, 1, 2, 15, 4, 16] m2 (by simp) ?_
 simp
 refine ⟨by decide, ?_⟩
 refine zac.mk (zaB 3) ?_
 simp
 by_cases c9 : 9 <= R
 ·rw [if_pos c9]
  simp [c9]
  refine ⟨by decide, ?_⟩
  exact EndM.mkE [0, 1, 2, 9, 4, 11, 18, 19] [6, 7, 8, 9, 10, 11] (by simp [cK, cN, cT, zag, zaj, fnT, zal, zae, noC, encI, encS, AV.erds, AV.erd, D.erdL, D.erd, D.erdE, kid0, kid1])
 ·rw [if_neg c9]
  simp [c9]
  refine ⟨by decide, ?_⟩
  exact EndM.mkE [0, 1, 2, 9, 4, 11, 18, 19] [6, 7, 8, 9, 10, 11] (by simp [cK, cN, cT, zag, zaj, fnT, zal, zae, noC, encI, encS, AV.erds, AV.erd, D.erdL, D.erd, D.erdE, kid0, kid1])
end
end Go.Gr
namespace Go.Gr
open Go.Abs Go.Proofs
section
variable (L : Lnk)
theorem zgU (x a : ByteArray) (b : Typ) : ∀ (l : List ByteArray) (m : List Typ), l.length = m.length -> zbB x (l ++ [a]) (m ++ [b]) = zbB x l m ++ (if a = x then [] else [(a, b)])
 | [], [], _ => by simp only [List.nil_append, zbB]
 | n :: l, k :: m, h => by
  simp only [List.cons_append, zbB]
  rw [zgU x a b l m (by simpa using h)]
  split <;> simp
theorem zh4 (x : ByteArray) : ∀ (l : List ByteArray) (m : List Typ), (zbB x l m).length <= l.length
 | [], _ => by simp [zbB]
 | _ :: _, [] => by simp [zbB]
 | n :: l, k :: m => by
  have := zh4 x l m
  rw [zbB]
  split <;> simp <;> omega
theorem zqS : wfT (bT 5) := by
 refine (zbr _).2 ⟨rfl, fun x h => (by cases h), .inr (.inl ⟨rfl, rfl, by decide, fun x h => (by cases h)⟩)⟩
theorem zvM (n a b : Nod) (hk : n.kids = [a, b]) (ia ib : Inf) (ha : PInf L a ia) (hb : PInf L b ib) : PInf L n (zdA n ia ib) := fun env s k he hs => by
 have hn : nsz n = nsz a + nsz b + 1 := by rw [za2, hk]; simp [nszs]
 have h1 := ha env s (2 + 8 * nsz b + k) (he.less (by omega)) (hs.less (by omega))
 have h2 := zly (b := 8 * nsz b + 1 + k) (bT 5) (zqS) n.line n.col (ia env s) (h1.1.less (by omega)) h1.2
 unfold zdA
 simp only
 generalize anyC (bT 5) n.line n.col (ia env s) = r at *
 by_cases q : r.1.2.kind ≠ 5
 ·rw [if_pos q]
  exact ⟨zbi (h2.1.less (by omega)) _ _ _, zbf⟩
 ·rw [if_neg q]
  have h3 := hb env r.2 k (he.less (by omega)) (h2.1.less (by omega))
  exact ze2 h3.1 _ _ _
theorem zsr {t : Typ} (h : wfT t) (k : t.kind = 5) : t.names.length = t.kids.length := by
 rcases ((zbr t).1 h).2.2 with ⟨_, q, _, _⟩ | ⟨_, q, _⟩ | ⟨q, _, _⟩ | ⟨q, _, _⟩ <;> omega
abbrev fldT (n : Nod) (j : Nat) : List (Nat × AV) := [(14, .c (.d (.int .i64 j))), (13, .c (.ptr 19 0)), (11, .c (.ptr 18 0)), (9, .c (.ptr 17 0)), (8, .c (.ptr 16 0)), (7, .c (.ptr 13 0)), (6, .c (.ptr 12 0)), (4, .c (.d (.rp n.enc 0))), (0, .c (.ptr 0 0))]
abbrev fldB (s : CS) (P : List Blk) (x y : Cor) (xt : Typ) (A : List (ByteArray × Typ)) : List Blk := [ckBx L s 2 14 4, tbB 256 s.tab.length 15, funA s.funs, .dead, diaA s.bad, .dead] ++ (P ++ [.box [.d (.int .i64 0), .d (.int .i64 0), .d (.str (bs [])), .d (.sl true 1 []), .d (.sl true 1 []), .d (.sl true 4 []), .d (.sl true 5 []), .d (.sl true 8 [])], .box [.d (.int .i64 0), .d (.str (bs [])), .d (.sl true 1 []), .d (.sl true 4 [])], sitA s.sites, tabA s.tab, .box (x.enc.map .d), .box (xt.enc.map .d), .box (y.enc.map .d), .box [.d (.int .i64 5), .d (.str (bs [])), .msl 1 20 0 A.length, .msl 4 21 0 A.length], strA (A.map (·.1)), arrT (A.map (·.2))])
theorem zbc {α : Type} (l : List α) (n : Nat) (h : l.length = n) : List.take n l = l := List.take_of_length_le (by omega)
set_option maxRecDepth 20000 in
set_option maxHeartbeats 4000000 in
theorem zss (n a b : Nod) (hk : n.kids = [a, b]) (ia ib : Inf) (ha : zbu L a ia) (hb : zbu L b ib) : MInf L F.gc_field n (zdA n ia ib) := fun env s k he hs => by
 refine zpb ⟨by simp, by simp, by simp, by simp, by simp, by simp, by simp [live]⟩ fun ts hts ok hbk c hN hp => ?_
 obtain ⟨t, u, v, w, x, y, rfl⟩ := zaO hts
 have hn : nsz n = nsz a + nsz b + 1 := by rw [za2, hk]; simp [nszs]
 have hb0 := zaB 0
 have hb5 := zaB 5
 have m1 := ha.1 env s (2 + 8 * nsz b + k) (he.less (by omega)) (hs.less (by omega))
 have p1 := ha.2 env s (2 + 8 * nsz b + k) (he.less (by omega)) (hs.less (by omega))
 unfold zdA
 simp only
 generalize ia env s = r1 at *
 unfold zjo
 by_cases t0 : r1.1.2.kind = 0
 ·obtain ⟨X, eX⟩ : ∃ X, anyC (bT 5) n.line n.col r1 = X := ⟨_, rfl⟩
  have p2 := zly (b := 8 * nsz b + 1 + k) (bT 5) (zqS) n.line n.col r1 (p1.1.less (by omega)) p1.2
  rw [eX] at p2 ⊢
  have m2 := zdP L r1.1.1 r1.1.2 (bT 5) n r1.2 (by have := p1.1.sites; omega)
  unfold anyC at eX
  rw [if_pos t0] at eX
  have eX1 : (zaZ r1.1.1 r1.1.2 (bT 5) n.line n.col r1.2).1 = X.1.1 := by rw [<- eX]
  have eX2 : (zaZ r1.1.1 r1.1.2 (bT 5) n.line n.col r1.2).2 = X.2 := by rw [<- eX]
  have eX3 : X.1.2 = bT 5 := by rw [<- eX]
  rw [eX1, eX2] at m2
  clear eX eX1 eX2
  have k5 : ¬ X.1.2.kind ≠ 5 := by rw [eX3]; decide
  rw [if_neg k5]
  have m3 := hb.1 env X.2 k (he.less (by omega)) (p2.1.less (by omega))
  have p3 := hb.2 env X.2 k (he.less (by omega)) (p2.1.less (by omega))
  generalize ib env X.2 = r3 at *
  rw [<- eX3] at hb5
  rw [<- eX3] at m2
  have k5 : X.1.2.kind = 5 := by rw [eX3]; try rfl
  have hl := zsr p2.2 k5
  have hl2 := zcO p2.2
  simp [hk]
  refine zaa.mk [0, 1, 2, 3, 4, 5] m1 (by simp) ?_
  simp [t0]
  refine zac.mk hb5 ?_
  simp
  refine zaa.mk [0, 1, 2, 14, 4, 15] m2 (by simp) ?_
  simp [k5, hk]
  refine zaa.mk [0, 1, 2, 19, 4, 15] m3 (by simp) ?_
  simp [hk]
  have e0 : zbB n.text (X.1.2.names.take 0) (X.1.2.kids.take 0) = [] := rfl
  refine W.loop Pg_mixed hp (fun j : Nat => j <= X.1.2.names.length) (fldT n) (fun j => fldB L r3.2 [.pin t 0, .pin u 1, .pin v 2, .pin w 3, .pin x 4, .pin y 5] X.1.1 r3.1.1 X.1.2 ((n.text, r3.1.2) :: zbB n.text (X.1.2.names.take j) (X.1.2.kids.take j))) (fun j => X.1.2.names.length - j) 0 [0, 1, 2, 3, 4, 5, 6, 7, 8, 9, 10, 11, 12, 13, 20, 21, 16, 17, 22, 26, 24, 25] (by simp) (by simp [encS, zbB]) fun j h1 => ?_
  unfold lp_gc_field_0
  simp
  refine gd.mk (fun h => ?_) (fun h => ?_)
  ·have hj : j < X.1.2.names.length := by simpa using h
   have hj2 : j < X.1.2.kids.length := by omega
   obtain ⟨z, hz⟩ : ∃ z, X.1.2.names[j] = z := ⟨_, rfl⟩
   obtain ⟨q, hq⟩ : ∃ q, X.1.2.kids[j] = q := ⟨_, rfl⟩
   have tk1 : X.1.2.names.take (j + 1) = X.1.2.names.take j ++ [z] := by rw [List.take_succ_eq_append_getElem hj, hz]
   have tk2 : X.1.2.kids.take (j + 1) = X.1.2.kids.take j ++ [q] := by rw [List.take_succ_eq_append_getElem hj2, hq]
   have rs := zgU n.text z q (X.1.2.names.take j) (X.1.2.kids.take j) (by rw [List.length_take, List.length_take]; omega)
   rw [<- tk1, <- tk2] at rs
   have rl := zh4 n.text (X.1.2.names.take j) (X.1.2.kids.take j)
   rw [List.length_take] at rl
   have hw := wrap_i64 (n := (j : Int) + 1) (by omega) (by omega)
   simp [hj, hz]
   refine ⟨by decide, ?_⟩
   by_cases e : z = n.text
   ·rw [if_pos e, List.append_nil] at rs
    simp [e]
    refine Abs.Next.mk (j + 1) [0, 1, 2, 3, 4, 5, 6, 7, 8, 9, 10, 11, 12, 13, 14, 15, 16, 17, 18, 19, 20, 21] (by omega) (by omega) ?_
    simp only [fldB, rs]
    simp [hw]
   ·rw [if_neg e] at rs
    generalize hA : zbB n.text (X.1.2.names.take j) (X.1.2.kids.take j) = A at *
    simp [e, hj, hz, hj2, hq]
    refine ⟨by omega, by decide, by omega, by decide, ?_⟩
    refine Abs.Next.mk (j + 1) [0, 1, 2, 3, 4, 5, 6, 7, 8, 9, 10, 11, 12, 13, 14, 15, 16, 17, 18, 19, 22, 23] (by omega) (by omega) ?_
    simp [hw, rs]
    refine ⟨?_, ?_⟩
    ·rw [zbc _ _ (by simp [encS])]; simp [encS]
    ·rw [zbc _ _ (by simp)]
  have hj : j = X.1.2.names.length := by simp at h; omega
  subst hj
  rw [List.take_length, hl, List.take_length]
  generalize zbB n.text X.1.2.names X.1.2.kids = B at *
  have z1 : List.take (B.length + 1) (encS (n.text :: List.map (fun x => x.1) B)) = encS (n.text :: List.map (fun x => x.1) B) := zbc _ _ (by simp [encS])
  have z2 : List.take B.length (List.map (Typ.enc ∘ fun x => x.2) B) = List.map (Typ.enc ∘ fun x => x.2) B := zbc _ _ (by simp)
  have m4 := zdh L (.mk 5 (bs []) (((n.text, r3.1.2) :: B).map (·.1)) (((n.text, r3.1.2) :: B).map (·.2))) n r3.2
  generalize zbo (.mk 5 (bs []) (((n.text, r3.1.2) :: B).map (·.1)) (((n.text, r3.1.2) :: B).map (·.2))) n.line n.col r3.2 = r4 at *
  simp [hk]
  refine fzK.mk [20, 21] ?_
  simp [zas, z1, z2]
  refine zaa.mk [0, 1, 2, 14, 4, 15] m4 (by simp [zaj]) ?_
  simp
  refine ⟨by decide, ?_⟩
  exact EndM.mkE [0, 1, 2, 9, 4, 11, 14, 15] [6, 7, 8, 9, 10, 11] (by simp [cK, cN, cT, zag, zaj, fnT, zal, zae, noC, encI, encS, AV.erds, AV.erd, D.erdL, D.erd, D.erdE, kid0, kid1])
 have eX : anyC (bT 5) n.line n.col r1 = r1 := by unfold anyC; rw [if_neg t0]
 have p2 : SOk L r1.2 (8 * nsz b + 1 + k) /\ wfT r1.1.2 := ⟨p1.1.less (by omega), p1.2⟩
 rw [eX]
 by_cases k5 : r1.1.2.kind = 5
 rotate_left
 ·rw [if_pos k5]
  have m2 := zbO L n 17 r1.2
  generalize zaM n.line n.col 17 r1.2 = r2 at *
  simp [hk]
  refine zaa.mk [0, 1, 2, 3, 4, 5] m1 (by simp) ?_
  simp [t0, k5]
  refine zaa.mk [0, 1, 2, 14, 4, 15] m2 (by simp) ?_
  simp
  refine zac.mk hb0 ?_
  simp
  exact EndM.mkE [0, 1, 2, 9, 4, 11, 14, 15] [6, 7, 8, 9, 10, 11] (by simp [cK, cN, cT, zag, zaj, fnT, zal, zae, noC, encI, encS, AV.erds, AV.erd, D.erdL, D.erd, D.erdE, kid0, kid1])
 rw [if_neg (fun z => z k5)]
 obtain ⟨X, hX⟩ : ∃ X, X = r1 := ⟨_, rfl⟩
 subst hX
 have m3 := hb.1 env X.2 k (he.less (by omega)) (p2.1.less (by omega))
 have p3 := hb.2 env X.2 k (he.less (by omega)) (p2.1.less (by omega))
 generalize ib env X.2 = r3 at *
 have hl := zsr p2.2 k5
 have hl2 := zcO p2.2
 simp [hk]
 refine zaa.mk [0, 1, 2, 3, 4, 5] m1 (by simp) ?_
 simp [t0, k5, hk]
 refine zaa.mk [0, 1, 2, 14, 4, 15] m3 (by simp) ?_
 simp [hk]
 have e0 : zbB n.text (X.1.2.names.take 0) (X.1.2.kids.take 0) = [] := rfl
 refine W.loop Pg_mixed hp (fun j : Nat => j <= X.1.2.names.length) (fldT n) (fun j => fldB L r3.2 [.pin t 0, .pin u 1, .pin v 2, .pin w 3, .pin x 4, .pin y 5] X.1.1 r3.1.1 X.1.2 ((n.text, r3.1.2) :: zbB n.text (X.1.2.names.take j) (X.1.2.kids.take j))) (fun j => X.1.2.names.length - j) 0 [0, 1, 2, 3, 4, 5, 6, 7, 8, 9, 10, 11, 12, 13, 18, 19, 16, 17, 20, 24, 22, 23] (by simp) (by simp [encS, zbB]) fun j h1 => ?_
 unfold lp_gc_field_0
 simp
 refine gd.mk (fun h => ?_) (fun h => ?_)
 ·have hj : j < X.1.2.names.length := by simpa using h
  have hj2 : j < X.1.2.kids.length := by omega
  obtain ⟨z, hz⟩ : ∃ z, X.1.2.names[j] = z := ⟨_, rfl⟩
  obtain ⟨q, hq⟩ : ∃ q, X.1.2.kids[j] = q := ⟨_, rfl⟩
  have tk1 : X.1.2.names.take (j + 1) = X.1.2.names.take j ++ [z] := by rw [List.take_succ_eq_append_getElem hj, hz]
  have tk2 : X.1.2.kids.take (j + 1) = X.1.2.kids.take j ++ [q] := by rw [List.take_succ_eq_append_getElem hj2, hq]
  have rs := zgU n.text z q (X.1.2.names.take j) (X.1.2.kids.take j) (by rw [List.length_take, List.length_take]; omega)
  rw [<- tk1, <- tk2] at rs
  have rl := zh4 n.text (X.1.2.names.take j) (X.1.2.kids.take j)
  rw [List.length_take] at rl
  have hw := wrap_i64 (n := (j : Int) + 1) (by omega) (by omega)
  simp [hj, hz]
  refine ⟨by decide, ?_⟩
  by_cases e : z = n.text
  ·rw [if_pos e, List.append_nil] at rs
   simp [e]
   refine Abs.Next.mk (j + 1) [0, 1, 2, 3, 4, 5, 6, 7, 8, 9, 10, 11, 12, 13, 14, 15, 16, 17, 18, 19, 20, 21] (by omega) (by omega) ?_
   simp only [fldB, rs]
   simp [hw]
  ·rw [if_neg e] at rs
   generalize hA : zbB n.text (X.1.2.names.take j) (X.1.2.kids.take j) = A at *
   simp [e, hj, hz, hj2, hq]
   refine ⟨by omega, by decide, by omega, by decide, ?_⟩
   refine Abs.Next.mk (j + 1) [0, 1, 2, 3, 4, 5, 6, 7, 8, 9, 10, 11, 12, 13, 14, 15, 16, 17, 18, 19, 22, 23] (by omega) (by omega) ?_
   simp [hw, rs]
   refine ⟨?_, ?_⟩
   ·rw [zbc _ _ (by simp [encS])]; simp [encS]
   ·rw [zbc _ _ (by simp)]
 have hj : j = X.1.2.names.length := by simp at h; omega
 subst hj
 rw [List.take_length, hl, List.take_length]
 generalize zbB n.text X.1.2.names X.1.2.kids = B at *
 have z1 : List.take (B.length + 1) (encS (n.text :: List.map (fun x => x.1) B)) = encS (n.text :: List.map (fun x => x.1) B) := zbc _ _ (by simp [encS])
 have z2 : List.take B.length (List.map (Typ.enc ∘ fun x => x.2) B) = List.map (Typ.enc ∘ fun x => x.2) B := zbc _ _ (by simp)
 have m4 := zdh L (.mk 5 (bs []) (((n.text, r3.1.2) :: B).map (·.1)) (((n.text, r3.1.2) :: B).map (·.2))) n r3.2
 generalize zbo (.mk 5 (bs []) (((n.text, r3.1.2) :: B).map (·.1)) (((n.text, r3.1.2) :: B).map (·.2))) n.line n.col r3.2 = r4 at *
 simp [hk]
 refine fzK.mk [20, 21] ?_
 simp [zas, z1, z2]
 refine zaa.mk [0, 1, 2, 14, 4, 15] m4 (by simp [zaj]) ?_
 simp
 refine ⟨by decide, ?_⟩
 exact EndM.mkE [0, 1, 2, 9, 4, 11, 14, 15] [6, 7, 8, 9, 10, 11] (by simp [cK, cN, cT, zag, zaj, fnT, zal, zae, noC, encI, encS, AV.erds, AV.erd, D.erdL, D.erd, D.erdE, kid0, kid1])
end
end Go.Gr
namespace Go.Gr
open Go.Abs Go.Proofs
section
variable (L : Lnk)
def zeC (l : List ByteArray) : Nat -> Bool
 | 0 => false
 | i + 1 => zeC l i || (l.take i).any (fun m => decide (some m = l[i]?))
def zd3 (l : List ByteArray) (i j : Nat) : Bool := zeC l i || (l.take j).any (fun m => decide (some m = l[i]?))
theorem zpH (l : List ByteArray) : ∀ i, i <= l.length -> (zeC l i || dupS (l.take i) (l.drop i)) = dupS [] l
 | 0, _ => by simp [zeC]
 | i + 1, h => by
  have hi : i < l.length := by omega
  rw [<- zpH l i (by omega), List.drop_eq_getElem_cons hi, dupS, zeC, List.take_succ_eq_append_getElem hi]
  simp [Bool.or_assoc, hi]
theorem zr6 (l : List ByteArray) : zeC l l.length = dupS [] l := by
 have := zpH l l.length (by omega)
 rw [List.drop_length] at this
 simpa [dupS] using this
def dupC (n : Nod) (s : CS) (q : Bool) : CS := if q = true then zaM n.line n.col 8 s else s
theorem zr7 (n : Nod) (s : CS) (q : Bool) : zaM n.line n.col 8 (dupC n s q) = dupC n s true := by
 unfold dupC
 cases q with
 | false => simp
 | true =>
  simp only [if_pos]
  unfold zaM
  by_cases h : s.e = 0
  ·rw [if_pos h]; try rfl
  ·rw [if_neg h, if_neg h]
theorem zpI {L : Lnk} {n : Nod} {s : CS} {b : Nat} (h : SOk L s b) (q : Bool) : SOk L (dupC n s q) b := by
 unfold dupC
 split
 ·exact zbi h _ _ _
 ·exact h
theorem zpJ (n : Nod) (ks : Env -> CS -> (List Cor × List Typ) × CS) (env : Env) (s : CS) : recC n ks env s = ((.mk 8 0 (bs []) [] n.names [] [] (ks env (dupC n s (dupS [] n.names))).1.1, (zbo (.mk 5 (bs []) n.names (ks env (dupC n s (dupS [] n.names))).1.2) n.line n.col (ks env (dupC n s (dupS [] n.names))).2).1), (zbo (.mk 5 (bs []) n.names (ks env (dupC n s (dupS [] n.names))).1.2) n.line n.col (ks env (dupC n s (dupS [] n.names))).2).2) := rfl
theorem znV : ∀ l : List Nod, l.length <= nszs l
 | [] => by simp
 | n :: l => by
  have := znV l
  have := za2 n
  rw [nszs, List.length_cons]; omega
theorem zmn : ∀ (l : List Nod) (j : Nat), nszs (l.drop j) <= nszs l
 | [], j => by simp
 | n :: l, 0 => by simp
 | n :: l, j + 1 => by
  have := zmn l j
  rw [List.drop_succ_cons, nszs]; omega
theorem znW (env : Env) : ∀ (l : List Nod), (∀ x, x ∈ l -> PInf L x (zao L x)) -> EOk env (nszs l) -> ∀ (s : CS) (b : Nat), SOk L s (8 * nszs l + b) -> SOk L (zaS L l env s).2 b
 | [], _, _, s, b, h => by rw [zaS]; exact h.less (by omega)
 | n :: l, hl, he, s, b, h => by
  rw [nszs] at he h
  have h1 := hl n (by simp) env s (8 * nszs l + b) (he.less (by omega)) (h.less (by omega))
  rw [zaS]
  exact znW env l (fun x hx => hl x (by simp [hx])) (he.less (by omega)) _ b h1.1
theorem zwd (n : Nod) (hks : ∀ x, x ∈ n.kids -> PInf L x (zao L x)) : PInf L n (recC n (zaS L n.kids)) := fun env s k he hs => by
 rw [za2] at he hs
 have h1 := znW L env n.kids hks (he.less (by omega)) (dupC n s (dupS [] n.names)) k (zpI (hs.less (by omega)) _)
 rw [zpJ]
 exact ze2 h1 _ _ _
abbrev arrC (l : List Cor) : Blk := .arr 8 ((l.map Cor.enc).map (·.map .d))
abbrev rcT0 (n : Nod) (env : Env) (i : Nat) : List (Nat × AV) := [(8, .c (.d (.int .i64 i))), (7, .c (.ptr 13 0)), (6, .c (.ptr 12 0)), (4, .c (.d (.rp n.enc 0))), (2, .c (.d (.sl false 5 (env.map encV)))), (0, .c (.ptr 0 0))]
abbrev rcB0 (P : List Blk) (S : CS) : List Blk := ck6 L S ++ (P ++ [.box [.d (.int .i64 0), .d (.int .i64 0), .d (.str (bs [])), .d (.sl true 1 []), .d (.sl true 1 []), .d (.sl true 4 []), .d (.sl true 5 []), .d (.sl true 8 [])], .box [.d (.int .i64 0), .d (.str (bs [])), .d (.sl true 1 []), .d (.sl true 4 [])]])
abbrev rcT (n : Nod) (env : Env) (j : Nat) : List (Nat × AV) := [(12, .c (.d (.int .i64 j))), (11, .c (.ptr 11 0)), (10, .c (.ptr 10 0)), (7, .c (.ptr 9 0)), (6, .c (.ptr 8 0)), (4, .c (.d (.rp n.enc 0))), (2, .c (.d (.sl false 5 (env.map encV)))), (0, .c (.ptr 0 0))]
abbrev rcB (n : Nod) (P : List Blk) (S : CS) (cs : List Cor) (ts : List Typ) : List Blk := [ckBx L S 2 12 3, tbB 256 S.tab.length 13, funA S.funs, diaA S.bad] ++ (P ++ [.box [.d (.int .i64 0), .d (.int .i64 0), .d (.str (bs [])), .d (.sl true 1 []), .d (.sl true 1 []), .d (.sl true 4 []), .d (.sl true 5 []), .d (.sl true 8 [])], .box [.d (.int .i64 0), .d (.str (bs [])), .d (.sl true 1 []), .d (.sl true 4 [])], .box [.d (.int .i64 8), .d (.int .i64 0), .d (.str (bs [])), .d (.sl true 1 []), .d (.sl false 1 (encS n.names)), .d (.sl true 4 []), .d (.sl true 5 []), .msl 8 14 0 cs.length], .box [.d (.int .i64 5), .d (.str (bs [])), .d (.sl false 1 (encS n.names)), .msl 4 15 0 ts.length], sitA S.sites, tabA S.tab, arrC cs, arrT ts])
set_option maxRecDepth 20000 in
set_option maxHeartbeats 4000000 in
theorem zqH (n : Nod) (hnm : n.names.length <= 1000000) (hks : ∀ x, x ∈ n.kids -> zbu L x (zao L x)) : MInf L F.gc_record n (recC n (zaS L n.kids)) := fun env s k he hs => by
 refine zom ⟨by simp, by simp, by simp, by simp, by simp, by simp, by simp [live]⟩ fun ts hts ok hbk c hN hp => ?_
 obtain ⟨t, u, v, w, x, y, rfl⟩ := zaO hts
 have hn := za2 n
 rw [zpJ]
 unfold zh8
 simp
 refine W.loop Pg_mixed hp (fun i : Nat => i <= n.names.length) (rcT0 n env) (fun i => rcB0 L [.pin t 0, .pin u 1, .pin v 2, .pin w 3, .pin x 4, .pin y 5] (dupC n s (zeC n.names i))) (fun i => n.names.length - i) 0 [0, 1, 2, 3, 4, 5, 6, 7, 8, 9, 10, 11, 12, 13] (by simp) (by simp [zeC, dupC]) fun i h1 => ?_
 unfold zgl
 simp
 refine gd.mk (fun h => ?_) (fun h => ?_)
 ·have hi : i < n.names.length := by simpa using h
  obtain ⟨z, hz⟩ : ∃ z, n.names[i] = z := ⟨_, rfl⟩
  have hz2 : n.names[i]? = some z := by rw [List.getElem?_eq_getElem hi, hz]
  try simp
  refine W.loop Pg_mixed hp (fun j : Nat => j <= i) (fun j => (9, .c (.d (.int .i64 j))) :: rcT0 n env i) (fun j => rcB0 L [.pin t 0, .pin u 1, .pin v 2, .pin w 3, .pin x 4, .pin y 5] (dupC n s (zd3 n.names i j))) (fun j => i - j) 0 [0, 1, 2, 3, 4, 5, 6, 7, 8, 9, 10, 11, 12, 13] (by simp) (by simp [zd3]) fun j h2 => ?_
  unfold lp_gc_record_2
  simp
  refine gd.mk (fun h => ?_) (fun h => ?_)
  ·have hj : j < i := by simpa using h
   have hj2 : j < n.names.length := by omega
   obtain ⟨q, hq⟩ : ∃ q, n.names[j] = q := ⟨_, rfl⟩
   have hw := wrap_i64 (n := (j : Int) + 1) (by omega) (by omega)
   have m := zbO L n 8 (dupC n s (zd3 n.names i j))
   rw [zr7] at m
   have e : zd3 n.names i (j + 1) = (zd3 n.names i j || decide (q = z)) := by
    unfold zd3
    rw [List.take_succ_eq_append_getElem hj2, hz2, hq]
    simp [Bool.or_assoc]
   by_cases c0 : q = z
   ·have e2 : zd3 n.names i (j + 1) = true := by rw [e]; simp [c0]
    simp [hj2, hq, hz, hi, c0]
    refine ⟨by decide, ?_⟩
    refine zaa.mk [0, 1, 2, 3, 4, 5] m (by simp) ?_
    simp
    refine Abs.Next.mk (j + 1) [0, 1, 2, 3, 4, 5, 6, 7, 8, 9, 10, 11, 12, 13] (by omega) (by omega) ?_
    simp [hw, e2]
   ·have e2 : zd3 n.names i (j + 1) = zd3 n.names i j := by rw [e]; simp [c0]
    simp [hj2, hq, hz, hi, c0]
    refine ⟨by decide, ?_⟩
    refine Abs.Next.mk (j + 1) [0, 1, 2, 3, 4, 5, 6, 7, 8, 9, 10, 11, 12, 13] (by omega) (by omega) ?_
    simp [hw, e2]
  ·have hj : j = i := by simp at h; omega
   subst hj
   have hw := wrap_i64 (n := (j : Int) + 1) (by omega) (by omega)
   have e : zd3 n.names j j = zeC n.names (j + 1) := rfl
   simp
   refine Abs.Next.mk (j + 1) [0, 1, 2, 3, 4, 5, 6, 7, 8, 9, 10, 11, 12, 13] (by omega) (by omega) ?_
   simp [hw, e]
 have hi : i = n.names.length := by simp at h; omega
 subst hi
 rw [zr6]
 have s1 := zpI (n := n) (b := 8 * nszs n.kids + k) (hs.less (by omega)) (dupS [] n.names)
 generalize dupC n s (dupS [] n.names) = s1' at *
 obtain ⟨R, hR⟩ : ∃ R, zaS L n.kids env s1' = R := ⟨_, rfl⟩
 rw [hR]
 have hkl := znV n.kids
 have hel := he.len
 simp
 refine owK.mk [.c 14 7, .c 15 3] ?_
 simp
 refine W.loop Pg_mixed hp (fun Y : Nat × CS × List Cor × List Typ => Y.1 <= n.kids.length /\ SOk L Y.2.1 (8 * nszs (n.kids.drop Y.1) + k) /\ Y.2.2.1.length = Y.1 /\ Y.2.2.2.length = Y.1 /\ ((Y.2.2.1 ++ (zaS L (n.kids.drop Y.1) env Y.2.1).1.1, Y.2.2.2 ++ (zaS L (n.kids.drop Y.1) env Y.2.1).1.2), (zaS L (n.kids.drop Y.1) env Y.2.1).2) = R) (fun Y => rcT n env Y.1) (fun Y => rcB L n [.pin t 0, .pin u 1, .pin v 2, .pin x 3] Y.2.1 Y.2.2.1 Y.2.2.2) (fun Y => n.kids.length - Y.1) (0, s1', [], []) [0, 1, 2, 4, 6, 7, 8, 10, 12, 13, 14, 15, 3, 5, 16, 17] ⟨by simp, by simpa using s1, by simp, by simp, by simpa using hR⟩ (by simp) fun ⟨j, S, cs, ts⟩ ⟨i1, i2, i3, i4, i5⟩ => ?_
 unfold zgm
 simp only at i1 i2 i3 i4 i5
 simp
 refine gd.mk (fun h => ?_) (fun h => ?_)
 ·have hj : j < n.kids.length := by simpa using h
  obtain ⟨q, hq⟩ : ∃ q, n.kids[j] = q := ⟨_, rfl⟩
  have hqm : q ∈ n.kids := by rw [<- hq]; exact List.getElem_mem hj
  have hd := zmn n.kids j
  rw [List.drop_eq_getElem_cons hj, hq] at i2 i5 hd
  rw [zaS] at i5
  rw [nszs] at i2 hd
  have m := (hks q hqm).1 env S (8 * nszs (n.kids.drop (j + 1)) + k) (he.less (by omega)) (i2.less (by omega))
  have p := (hks q hqm).2 env S (8 * nszs (n.kids.drop (j + 1)) + k) (he.less (by omega)) (i2.less (by omega))
  simp only at i5
  generalize zao L q env S = r at *
  have hw := wrap_i64 (n := (j : Int) + 1) (by omega) (by omega)
  simp [hj, hq]
  refine zaa.mk [0, 1, 2, 12, 3, 13] m (by simp) ?_
  simp
  refine ⟨by omega, by omega, ?_⟩
  refine Abs.Next.mk (j + 1, r.2, cs ++ [r.1.1], ts ++ [r.1.2]) [0, 1, 2, 3, 4, 5, 6, 7, 8, 9, 10, 11, 16, 17, 20, 21] ⟨by simp only; omega, p.1, by simp; omega, by simp; omega, by simpa using i5⟩ (by simp only; omega) ?_
  simp [hw]
  refine ⟨?_, ?_⟩
  ·rw [zbc _ _ (by simp)]
  ·rw [zbc _ _ (by simp)]
 have hj : j = n.kids.length := by simp at h; omega
 subst hj
 rw [List.drop_length, zaS] at i5
 simp only [List.append_nil] at i5
 subst i5
 simp only
 have m4 := zdh L (.mk 5 (bs []) n.names ts) n S
 generalize zbo (.mk 5 (bs []) n.names ts) n.line n.col S = r4 at *
 simp
 refine fzK.mk [14, 15] ?_
 have z1 := zbc (cs.map Cor.enc) cs.length (by simp)
 have z2 := zbc (ts.map Typ.enc) ts.length (by simp)
 simp [zas, z1, z2]
 refine zaa.mk [0, 1, 2, 12, 3, 13] m4 (by simp [zaj]) ?_
 simp
 refine ⟨by decide, ?_⟩
 exact EndM.mkE [0, 1, 2, 8, 3, 9, 12, 13] [4, 5, 6, 4, 7, 4] (by simp [z1, zf5, zag, zaj, encI, AV.erds, AV.erd, D.erdL, D.erd, D.erdE, kid0, kid1])
end
end Go.Gr
namespace Go.Gr
open Go.Abs Go.Proofs
section
variable (L : Lnk)
theorem zjG {L : Lnk} (ln cl : Int) : ∀ (ts l : List Typ) (s : CS) (b : Nat), SOk L s b -> SOk L (zcl ln cl ts l s).2 b
 | [], _, _, _, h => h
 | t :: ts, l, s, b, h => by
  rw [zcl]
  split
  ·exact h
  ·exact zjG ln cl ts _ _ b (zaW h t ln cl).1
theorem zhW (x : ByteArray) : ∀ l : List Ent, (zbv l x).2 = true -> (zbv l x).1 ∈ l
 | [], h => by simp [zbv] at h
 | e :: l, h => by
  rw [zbv] at h ⊢
  split at h
  ·rename_i q; rw [if_pos q]; simp
  ·rename_i q; rw [if_neg q]; exact List.mem_cons_of_mem _ (zhW x l h)
theorem zpD {env : Env} {b : Nat} (he : EOk env b) (k : Nat) : wfT (env.getD k (bs [], noT)).2 := by
 rw [List.getD_eq_getElem?_getD]
 cases h : env[k]? with
 | none => exact zbf
 | some v => exact he.wf v (List.mem_of_getElem? h)
theorem zmj (ln cl : Int) : ∀ (ts l : List Typ) (s : CS), (zcl ln cl ts l s).1.length <= l.length + ts.length
 | [], l, _ => by rw [zcl]; simp
 | t :: ts, l, s => by
  rw [zcl]
  split
  ·simp only [List.length_cons]; omega
  ·refine Nat.le_trans (zmj ln cl ts _ _) ?_
   simp only [List.length_append, List.length_cons, List.length_nil]; omega
theorem zvx {L : Lnk} (hL : GoodL L) (i : Nat) (x : ByteArray) (h : (zbv (L.scopes.getD i []) x).2 = true) : EntOk L ⟨bs [], (zbv (L.scopes.getD i []) x).1.module, (zbv (L.scopes.getD i []) x).1.decl⟩ := by
 have hm := zhW x _ h
 have : L.scopes.getD i [] ∈ L.scopes := by
  rw [List.getD_eq_getElem?_getD] at hm ⊢
  cases q : L.scopes[i]? with
  | none => rw [q] at hm; simp at hm
  | some sc => exact List.mem_of_getElem? q
 have r := hL.ents _ this _ hm
 exact ⟨r.m0, r.m1, r.d0, r.d1⟩
theorem zuN (hL : GoodL L) (n : Nod) (hty : n.types.length <= 1000000) : PInf L n (zcG L n) := fun env s k he hs => by
 have hs := hs.less (c := k) (by omega)
 have ent := zvx hL s.module.toNat n.text
 unfold zcG
 simp only
 split
 ·exact ⟨hs, zpD he _⟩
 rename_i c1
 split
 ·exact ⟨zbi hs _ _ _, zbf⟩
 rename_i c2
 split
 ·exact ⟨zbi hs _ _ _, zbf⟩
 rename_i c3
 have ent := ent (by
  by_cases q : (zbv (L.scopes.getD s.module.toNat []) n.text).2 = true
  ·exact q
  ·exact absurd ⟨by omega, by simpa using q⟩ c2)
 split
 ·exact ⟨zbi hs _ _ _, zbf⟩
 split
 ·exact zkf hs _ _ _ _ ent (by simp)
 have h2 := zjG n.line n.col n.types [] s k hs
 have h3 := zmj n.line n.col n.types [] s
 split
 ·exact ⟨h2, zbf⟩
 split
 ·exact ⟨zbi h2 _ _ _, zbf⟩
 ·exact zkf h2 _ _ _ _ ent (by simp at h3; omega)
abbrev nmT (n : Nod) (j m : Nat) : List (Nat × AV) := [(14, .c (.d (.int .i64 j))), (13, .c (.msl 4 17 0 m)), (12, .c (.ptr 16 0)), (11, .c (.ptr 15 0)), (9, .c (.ptr 14 0)), (7, .c (.ptr 13 0)), (6, .c (.ptr 12 0)), (4, .c (.d (.rp n.enc 0))), (0, .c (.ptr 0 0))]
abbrev nmB (P : List Blk) (e : Ent) (d : Dec) (S : CS) (ts : List Typ) : List Blk := ck6 L S ++ (P ++ [.box [.d (.int .i64 0), .d (.int .i64 0), .d (.str (bs [])), .d (.sl true 1 []), .d (.sl true 1 []), .d (.sl true 4 []), .d (.sl true 5 []), .d (.sl true 8 [])], .box [.d (.int .i64 0), .d (.str (bs [])), .d (.sl true 1 []), .d (.sl true 4 [])], .box (e.enc.map .d), .box [.d (.int .i64 0), .d (.int .i64 0), .d (.str (bs [])), .d (.sl true 1 []), .d (.sl true 1 []), .d (.sl true 4 []), .d (.sl true 5 []), .d (.sl true 8 [])], .box (d.enc.map .d), arrT ts])
set_option maxRecDepth 20000 in
set_option maxHeartbeats 4000000 in
theorem zrZ (hL : GoodL L) (n : Nod) (hty : n.types.length <= 1000000) : MInf L F.gc_named n (zcG L n) := fun env s k he hs => by
 refine zpa ⟨by simp, by simp, by simp, by simp, by simp, by simp, by simp [live]⟩ fun ts hts ok hbk c hN hp => ?_
 obtain ⟨t, u, v, w, x, y, rfl⟩ := zaO hts
 have hb0 := zaB 0
 have hel := he.len
 have hfi := zpZ env (by omega) n.text
 have hfl := zjR env n.text
 obtain ⟨sc, hsc⟩ : ∃ sc, L.scopes.getD s.module.toNat [] = sc := ⟨_, rfl⟩
 obtain ⟨mn, hmn⟩ : ∃ mn : Nat, s.module = mn := ⟨s.module.toNat, by have := hs.m0; omega⟩
 have hml : mn < L.scopes.length := by have := hs.m1; have := hL.scopes; omega
 have hsc2 : L.scopes[mn]? = some sc := by rw [hmn] at hsc; simp only [Int.toNat_natCast] at hsc; rw [<- hsc, List.getD_eq_getElem?_getD, List.getElem?_eq_getElem hml]; try rfl
 have hfe := zpU sc n.text
 have hem := zhW n.text sc
 unfold zcG
 simp only
 rw [hsc]
 generalize zbv sc n.text = e at *
 generalize zbA env n.text = z at *
 have hse : ∀ q : e.2 = true, EntOk L e.1 := fun q => hL.ents sc (List.mem_of_getElem? hsc2) _ (hem q)
 unfold zjn
 simp [hmn, hsc2]
 refine zac.mk hfi ?_
 simp [hmn, hsc2]
 refine zac.mk hfe ?_
 have ge1 : ∀ h, e.1.enc[1]'h = D.int .i64 e.1.module := fun _ => rfl
 have ge2 : ∀ h, e.1.enc[2]'h = D.int .i64 e.1.decl := fun _ => rfl
 by_cases z0 : 0 <= z
 ·obtain ⟨zn, hzn⟩ : ∃ zn : Nat, z = zn := ⟨z.toNat, by omega⟩
  have hzl : zn < env.length := by omega
  obtain ⟨v, hv⟩ : ∃ v, env[zn] = v := ⟨_, rfl⟩
  have hv2 : env.getD z.toNat (bs [], noT) = v := by rw [hzn]; simp only [Int.toNat_natCast]; rw [List.getD_eq_getElem?_getD, List.getElem?_eq_getElem hzl, hv]; try rfl
  by_cases k4 : n.kind = 4
  ·rw [if_pos ⟨z0, k4⟩, hv2]
   subst hzn
   simp [k4, hzl, hv]
   refine ⟨by decide, by decide, ?_⟩
   exact EndM.mkE [0, 1, 2, 9, 4, 11, 3, 5] [6, 7, 8, 9, 10, 11] (by simp [cK, cN, cT, zag, zaj, fnT, zal, zae, noC, encI, encS, AV.erds, AV.erd, D.erdL, D.erd, D.erdE, kid0, kid1])
  ·rw [if_neg (fun q => k4 q.2), if_neg (fun q => by omega), if_pos z0]
   have m := zbO L n 18 s
   generalize zaM n.line n.col 18 s = s2 at *
   have z1 : ¬ z < 0 := by omega
   simp [k4, z0, z1]
   refine ⟨by decide, ?_⟩
   refine zaa.mk [0, 1, 2, 3, 4, 5] m (by simp) ?_
   simp
   refine zac.mk hb0 ?_
   simp
   refine ⟨by decide, ?_⟩
   exact EndM.mkE [0, 1, 2, 9, 4, 11, 3, 5] [6, 7, 8, 9, 10, 11] (by simp [cK, cN, cT, zag, zaj, fnT, zal, zae, noC, encI, encS, AV.erds, AV.erd, D.erdL, D.erd, D.erdE, kid0, kid1])
 have z1 : z < 0 := by omega
 rw [if_neg (fun q => z0 q.1)]
 by_cases e2 : e.2 = true
 rotate_left
 ·rw [if_pos ⟨z1, by simpa using e2⟩]
  have m := zbO L n 10 s
  generalize zaM n.line n.col 10 s = s2 at *
  simp [z0, z1, e2]
  refine ⟨by decide, ?_⟩
  refine zaa.mk [0, 1, 2, 3, 4, 5] m (by simp) ?_
  simp
  refine zac.mk hb0 ?_
  simp
  refine ⟨by decide, ?_⟩
  exact EndM.mkE [0, 1, 2, 9, 4, 11, 3, 5] [6, 7, 8, 9, 10, 11] (by simp [cK, cN, cT, zag, zaj, fnT, zal, zae, noC, encI, encS, AV.erds, AV.erd, D.erdL, D.erd, D.erdE, kid0, kid1])
 rw [if_neg (fun q => by simp [e2] at q), if_neg z0]
 have hen := hse e2
 have hen2 : EntOk L ⟨bs [], e.1.module, e.1.decl⟩ := ⟨hen.m0, hen.m1, hen.d0, hen.d1⟩
 obtain ⟨mn2, kn, M, e1, e3, g1, g2, hd⟩ := zfH hL hen2
 generalize hdd : decAt L e.1.module e.1.decl = d at *
 by_cases c9 : decide (0 < d.vars.length) = decide (n.kind = 19)
 rotate_left
 ·rw [if_pos c9]
  have m := zbO L n 18 s
  generalize zaM n.line n.col 18 s = s2 at *
  simp [z0, z1, e2, ge1, ge2, e1, e3, g1, g2]
  refine ⟨by decide, by decide, ?_⟩
  by_cases c0 : 0 < d.vars.length
  ·have c1 : ¬ n.kind = 19 := fun q => c9 (by simp [c0, q])
   simp [c0, c1]
   refine zaa.mk [0, 1, 2, 3, 4, 5] m (by simp) ?_
   simp
   refine zac.mk hb0 ?_
   simp
   refine ⟨by decide, ?_⟩
   exact EndM.mkE [0, 1, 2, 9, 4, 11, 3, 5] [6, 7, 8, 9, 10, 11] (by simp [cK, cN, cT, zag, zaj, fnT, zal, zae, noC, encI, encS, AV.erds, AV.erd, D.erdL, D.erd, D.erdE, kid0, kid1])
  ·have c1 : n.kind = 19 := by
    by_cases q : n.kind = 19
    ·exact q
    ·exact absurd (by simp [c0, q]) c9
   simp [c0, c1]
   refine zaa.mk [0, 1, 2, 3, 4, 5] m (by simp) ?_
   simp
   refine zac.mk hb0 ?_
   simp
   refine ⟨by decide, ?_⟩
   exact EndM.mkE [0, 1, 2, 9, 4, 11, 3, 5] [6, 7, 8, 9, 10, 11] (by simp [cK, cN, cT, zag, zaj, fnT, zal, zae, noC, encI, encS, AV.erds, AV.erd, D.erdL, D.erd, D.erdE, kid0, kid1])
 rw [if_neg (fun q => q c9)]
 by_cases k4 : n.kind = 4
 ·rw [if_pos k4]
  have c0 : ¬ 0 < d.vars.length := fun q => by simp [q, k4] at c9
  have m := MCall.erd (args := [.c (.ptr 0 0), .ag (n.enc.map .d), .ag (e.1.enc.map .d), .c (.d (.sl true 4 []))]) (zkg L hL n e.1 hen2 [] (by simp) s hs.tab) (by simp [AV.erds, AV.erd, AC.erd, D.erd, D.erdL, D.erdE, Ent.enc])
  generalize zby L n.line n.col e.1 [] s = r at *
  simp [z0, z1, e2, ge1, ge2, e1, e3, g1, g2]
  refine ⟨by decide, by decide, ?_⟩
  simp [c0, k4]
  refine zaa.mk [0, 1, 2, 3, 4, 5] m (by simp) ?_
  simp
  exact EndM.mkE [0, 1, 2, 9, 4, 11, 17, 18] [6, 7, 8, 9, 10, 11] (by simp [cK, cN, cT, zag, zaj, fnT, zal, zae, noC, encI, encS, AV.erds, AV.erd, D.erdL, D.erd, D.erdE, kid0, kid1])
 rw [if_neg k4]
 obtain ⟨R, hR⟩ : ∃ R, zcl n.line n.col n.types [] s = R := ⟨_, rfl⟩
 have pR := zjG n.line n.col n.types [] s k (hs.less (by omega))
 rw [hR] at pR ⊢
 simp [z0, z1, e2, ge1, ge2, e1, e3, g1, g2]
 refine ⟨by decide, by decide, ?_⟩
 have c9' : (decide (0 < d.vars.length) != decide (n.kind = 19)) = false := by rw [c9]; simp
 refine gd.mk (fun h => ?_) (fun h => ?_)
 ·exfalso
  simp_all
 simp [k4]
 refine owK.mk [.t 13] ?_
 simp
 refine W.loop Pg_mixed hp (fun Y : Nat × CS × List Typ => Y.1 <= n.types.length /\ SOk L Y.2.1 k /\ Y.2.2.length = Y.1 /\ zcl n.line n.col (n.types.drop Y.1) Y.2.2 Y.2.1 = R) (fun Y => nmT n Y.1 Y.2.2.length) (fun Y => nmB L [.pin t 0, .pin u 1, .pin v 2, .pin w 3, .pin x 4, .pin y 5] e.1 d Y.2.1 Y.2.2) (fun Y => n.types.length - Y.1) (0, s, []) [0, 1, 2, 3, 4, 5, 6, 7, 8, 9, 10, 11, 12, 13, 14, 15, 16, 17] ⟨by simp, hs.less (by omega), by simp, by simpa using hR⟩ (by simp) fun ⟨j, S, ts⟩ ⟨i1, i2, i3, i4⟩ => ?_
 unfold lp_gc_named_0
 simp only at i1 i2 i3 i4
 simp
 by_cases hj : j < n.types.length
 ·by_cases q0 : S.e = 0
  ·obtain ⟨q, hq⟩ : ∃ q, n.types[j] = q := ⟨_, rfl⟩
   rw [List.drop_eq_getElem_cons hj, hq, zcl, if_neg (fun z => z q0)] at i4
   have m := zca L q n.line n.col S i2.wth
   have p := zaW i2 q n.line n.col
   generalize zay q n.line n.col S = r at *
   have hw := wrap_i64 (n := (j : Int) + 1) (by omega) (by omega)
   simp [hj, q0, hq]
   refine zaa.mk [0, 1, 2, 3, 4, 5] m (by simp) ?_
   simp
   refine ⟨by decide, by omega, ?_⟩
   refine Abs.Next.mk (j + 1, r.2, ts ++ [r.1]) [0, 1, 2, 3, 4, 5, 6, 7, 8, 9, 10, 11, 12, 13, 14, 15, 16, 19] ⟨by simp only; omega, p.1, by simp; omega, i4⟩ (by simp only; omega) ?_
   simp [hw]
   rw [zbc _ _ (by simp)]
  ·have i5 : (ts, S) = R := by rw [List.drop_eq_getElem_cons hj, zcl, if_pos q0] at i4; exact i4
   subst i5
   rw [if_pos q0]
   simp [hj, q0]
   refine zac.mk hb0 ?_
   simp
   refine ⟨by decide, ?_⟩
   exact EndM.mkE [0, 1, 2, 9, 4, 11, 3, 5] [6, 7, 8, 9, 10, 11] (by simp [cK, cN, cT, zag, zaj, fnT, zal, zae, noC, encI, encS, AV.erds, AV.erd, D.erdL, D.erd, D.erdE, kid0, kid1])
 have hj2 : j = n.types.length := by omega
 rw [hj2, List.drop_length, zcl] at i4
 subst i4
 by_cases q0 : S.e = 0
 rotate_left
 ·rw [if_pos q0]
  simp [hj, q0]
  refine zac.mk hb0 ?_
  simp
  refine ⟨by decide, ?_⟩
  exact EndM.mkE [0, 1, 2, 9, 4, 11, 3, 5] [6, 7, 8, 9, 10, 11] (by simp [cK, cN, cT, zag, zaj, fnT, zal, zae, noC, encI, encS, AV.erds, AV.erd, D.erdL, D.erd, D.erdE, kid0, kid1])
 rw [if_neg (fun z => z q0)]
 have hbi := zuP d.vars ts (by omega)
 simp only
 generalize ziA d.vars ts = B at *
 have z3 := zbc (ts.map Typ.enc) ts.length (by simp)
 simp [hj, q0]
 refine fzK.mk [17] ?_
 simp [zas, z3]
 refine zac.mk hbi ?_
 by_cases b0 : B = 0
 rotate_left
 ·rw [if_pos b0]
  have m := zbO L n B S
  generalize zaM n.line n.col B S = s2 at *
  simp [b0]
  refine zaa.mk [0, 1, 2, 3, 4, 5] m (by simp) ?_
  simp
  refine zac.mk hb0 ?_
  simp
  refine ⟨by decide, ?_⟩
  exact EndM.mkE [0, 1, 2, 9, 4, 11, 3, 5] [6, 7, 8, 9, 10, 11] (by simp [cK, cN, cT, zag, zaj, fnT, zal, zae, noC, encI, encS, AV.erds, AV.erd, D.erdL, D.erd, D.erdE, kid0, kid1])
 rw [if_neg (fun z => z b0)]
 have m := zkg L hL n e.1 hen2 ts (by omega) S i2.tab
 generalize zby L n.line n.col e.1 ts S = r at *
 simp [b0, zas, z3]
 refine zaa.mk [0, 1, 2, 3, 4, 5] m (by simp) ?_
 simp
 exact EndM.mkE [0, 1, 2, 9, 4, 11, 18, 19] [6, 7, 8, 9, 10, 11] (by simp [cK, cN, cT, zag, zaj, fnT, zal, zae, noC, encI, encS, AV.erds, AV.erd, D.erdL, D.erd, D.erdE, kid0, kid1])
end
end Go.Gr
namespace Go.Gr
open Go.Abs Go.Proofs
section
variable (L : Lnk)
theorem zu0 (v : ByteArray × Typ) (t : Typ) : put ((encV v).map AC.d) 1 (t.enc.map AC.d) = (encV (v.1, t)).map AC.d := by
 obtain ⟨x, k⟩ := v
 cases k; cases t; rfl
theorem ztW {a b : Typ} (ha : wfT a) (hb : wfT b) : wfT (zeE a b) := by
 unfold zeE
 split
 ·exact hb
 split
 ·exact ha
 split
 ·exact zbf
 split
 ·exact zbf
 split
 ·exact zf7 _
 ·exact zbf
theorem zqT {t : Typ} (ht : wfT t) (tag : Int) : wfT (zbX t tag).1 /\ wfT (zbX t tag).2 := by
 unfold zbX
 split
 ·exact ⟨ht, ht⟩
 split
 ·split
  ·exact ⟨ht, ht⟩
  ·rename_i q1 q2 q3
   refine ⟨?_, ht⟩
   by_cases h : tag = 4
   ·rw [h]; exact zqS
   ·exact zbG _ (by omega) (by omega)
 split
 ·exact ⟨ht, ht⟩
 split
 ·exact ⟨ht, ht⟩
 rename_i q1 q2 q3 q4
 have p2 : (za8 (za4 t) tag).2 = true := by simpa using q3
 have k7 : t.kind = 7 := by simpa using q4
 have h1 : wfT (za8 (za4 t) tag).1.t := (zea ht q2 (zft p2).1).1
 have hm : ∀ x, x ∈ (t.kids.filter fun k => decide (za6 k ≠ tag)) -> x ∈ t.kids := fun x hx => (List.mem_filter.1 hx).1
 have hl : (t.kids.filter fun k => decide (za6 k ≠ tag)).length <= t.kids.length := List.length_filter_le _ _
 have h7 : t.kids.length <= 6 /\ ∀ x, x ∈ t.kids -> 1 <= x.kind /\ x.kind <= 6 := by
  rcases ((zbr t).1 ht).2.2 with ⟨_, q, _, _⟩ | ⟨q, _⟩ | ⟨q, _, _⟩ | ⟨_, _, q, r⟩
  ·omega
  ·omega
  ·omega
  ·exact ⟨q, r⟩
 generalize (t.kids.filter fun k => decide (za6 k ≠ tag)) = F at *
 split
 ·rename_i r
  exact ⟨h1, zcB ht (hm r (by simp))⟩
 ·exact ⟨h1, (zbr _).2 ⟨rfl, fun x hx => zcB ht (hm x hx), .inr (.inr (.inr ⟨rfl, rfl, by show F.length <= 6; omega, fun x hx => h7.2 x (hm x hx)⟩))⟩⟩
theorem EOk.set {env : Env} {b : Nat} (h : EOk env b) (k : Nat) (x : ByteArray) {t : Typ} (ht : wfT t) : EOk (env.set k (x, t)) b := ⟨by simpa using h.len, fun v hv => by
 rcases List.mem_or_eq_of_mem_set hv with hv | hv
 ·exact h.wf v hv
 ·subst hv; exact ht⟩
theorem zkU {env : Env} {b : Nat} (h : EOk env b) (q : Nod) : EOk (zaU q env).1 b /\ EOk (zaU q env).2 b := by
 unfold zaU
 split
 ·have hw := zqT (zpD h (zbA env (q.kids.getD 0 noN).text).toNat) q.n
  exact ⟨h.set _ _ hw.1, h.set _ _ hw.2⟩
 ·exact ⟨h, h⟩
theorem if_p (n q a b : Nod) (hk : n.kids = [q, a, b]) (iq ia ib : Inf) (hq : PInf L q iq) (ha : PInf L a ia) (hb : PInf L b ib) : PInf L n (ifC q a b iq ia ib) := fun env s k he hs => by
 have hn : nsz n = nsz q + (nsz a + nsz b) + 1 := by rw [za2, hk]; simp [nszs]
 have h1 := hq env s (3 + 8 * nsz a + 8 * nsz b + k) (he.less (by omega)) (hs.less (by omega))
 have hne := zkU he q
 unfold ifC
 simp only
 generalize iq env s = r1 at *
 have h2 := coerceC_ok (b := 2 + 8 * nsz a + 8 * nsz b + k) (h1.1.less (by omega)) r1.1.1 r1.1.2 (bT 2) q.line q.col
 generalize zaG r1.1.1 r1.1.2 (bT 2) q.line q.col r1.2 = r2 at *
 have h3 := ha (zaU q env).1 r2.2 (2 + 8 * nsz b + k) (hne.1.less (by omega)) (h2.less (by omega))
 generalize ia (zaU q env).1 r2.2 = r3 at *
 have h4 := hb (zaU q env).2 r3.2 (2 + k) (hne.2.less (by omega)) (h3.1.less (by omega))
 generalize ib (zaU q env).2 r3.2 = r4 at *
 have h5 := coerceC_ok (b := 1 + k) (h4.1.less (by omega)) r3.1.1 r3.1.2 (zeE r3.1.2 r4.1.2) a.line a.col
 generalize zaG r3.1.1 r3.1.2 (zeE r3.1.2 r4.1.2) a.line a.col r4.2 = r5 at *
 exact ⟨coerceC_ok (h5.less (by omega)) _ _ _ _ _, ztW h3.2 h4.2⟩
set_option maxRecDepth 20000 in
set_option maxHeartbeats 4000000 in
theorem zqU (n q a b : Nod) (hk : n.kids = [q, a, b]) (hqk : q.kind = 12 -> ∃ w, q.kids = [w]) (iq ia ib : Inf) (hq : zbu L q iq) (ha : zbu L a ia) (hb : zbu L b ib) : MInf L F.gc_branch n (ifC q a b iq ia ib) := fun env s k he hs => by
 refine zon ⟨by simp, by simp, by simp, by simp, by simp, by simp, by simp [live]⟩ fun ts hts ok hbk c hN hp => ?_
 obtain ⟨t, u, v, w, x, y, rfl⟩ := zaO hts
 have hn : nsz n = nsz q + (nsz a + nsz b) + 1 := by rw [za2, hk]; simp [nszs]
 have hel := he.len
 have hb2 := zaB 2
 have m1 := hq.1 env s (3 + 8 * nsz a + 8 * nsz b + k) (he.less (by omega)) (hs.less (by omega))
 have h1 := hq.2 env s (3 + 8 * nsz a + 8 * nsz b + k) (he.less (by omega)) (hs.less (by omega))
 have hne := zkU he q
 unfold ifC
 simp only
 generalize iq env s = r1 at *
 have m2 := zbn L r1.1.1 r1.1.2 (bT 2) q r1.2 (by have := h1.1.sites; omega)
 have h2 := coerceC_ok (b := 2 + 8 * nsz a + 8 * nsz b + k) (h1.1.less (by omega)) r1.1.1 r1.1.2 (bT 2) q.line q.col
 generalize zaG r1.1.1 r1.1.2 (bT 2) q.line q.col r1.2 = r2 at *
 obtain ⟨ea, hea⟩ : ∃ ea, (zaU q env).1 = ea := ⟨_, rfl⟩
 obtain ⟨eb, heb⟩ : ∃ eb, (zaU q env).2 = eb := ⟨_, rfl⟩
 rw [hea, heb] at hne ⊢
 have m3 := ha.1 ea r2.2 (2 + 8 * nsz b + k) (hne.1.less (by omega)) (h2.less (by omega))
 have h3 := ha.2 ea r2.2 (2 + 8 * nsz b + k) (hne.1.less (by omega)) (h2.less (by omega))
 generalize ia ea r2.2 = r3 at *
 have m4 := hb.1 eb r3.2 (2 + k) (hne.2.less (by omega)) (h3.1.less (by omega))
 have h4 := hb.2 eb r3.2 (2 + k) (hne.2.less (by omega)) (h3.1.less (by omega))
 generalize ib eb r3.2 = r4 at *
 have hj := zuy r3.1.2 r4.1.2
 generalize zeE r3.1.2 r4.1.2 = J at *
 have m5 := zbn L r3.1.1 r3.1.2 J a r4.2 (by have := h4.1.sites; omega)
 have h5 := coerceC_ok (b := 1 + k) (h4.1.less (by omega)) r3.1.1 r3.1.2 J a.line a.col
 generalize zaG r3.1.1 r3.1.2 J a.line a.col r4.2 = r5 at *
 have m6 := zbn L r4.1.1 r4.1.2 J b r5.2 (by have := h5.sites; omega)
 generalize zaG r4.1.1 r4.1.2 J b.line b.col r5.2 = r6 at *
 have zA := zbc (ea.map encV) env.length
 have zB := zbc (eb.map encV) env.length
 unfold zh9
 simp [hk]
 refine zaa.mk [0, 1, 2, 3, 4, 5] m1 (by simp) ?_
 simp
 refine zac.mk hb2 ?_
 simp
 refine zaa.mk [0, 1, 2, 15, 4, 16] m2 (by simp) ?_
 simp
 refine ⟨by decide, by omega, ?_⟩
 by_cases c12 : q.kind = 12
 rotate_left
 ·have e : zaU q env = (env, env) := by unfold zaU; rw [if_neg (fun z => c12 z.1)]
  rw [e] at hea heb
  simp only at hea heb
  subst hea
  subst heb
  have zA := zA (by simp)
  have zB := zA
  simp [c12]
  refine fzK.mk [20, 21] ?_
  simp [zas, hk, zA, zB, -List.map_set]
  refine zaa.mk [0, 1, 2, 19, 4, 16] m3 (by simp) ?_
  simp [zas, hk, zA, zB, -List.map_set]
  refine zaa.mk [0, 1, 2, 22, 4, 23] m4 (by simp) ?_
  simp [hk]
  refine zac.mk hj ?_
  simp [hk]
  refine zaa.mk [0, 1, 2, 26, 4, 27] m5 (by simp) ?_
  simp [hk]
  refine ⟨by decide, ?_⟩
  refine zaa.mk [0, 1, 2, 31, 4, 27] m6 (by simp) ?_
  simp
  refine ⟨by decide, by decide, ?_⟩
  exact EndM.mkE [0, 1, 2, 9, 4, 11, 32, 27] [6, 7, 8, 9, 10, 11] (by simp [cK, cN, cT, zag, zaj, fnT, zal, zae, noC, encI, encS, AV.erds, AV.erd, D.erdL, D.erd, D.erdE, kid0, kid1])
 obtain ⟨w', hw'⟩ := hqk c12
 have g0 : q.kids.getD 0 noN = w' := by rw [hw']; try rfl
 by_cases c4 : w'.kind = 4
 rotate_left
 ·have e : zaU q env = (env, env) := by unfold zaU; rw [g0, if_neg (fun z => c4 z.2.1)]
  rw [e] at hea heb
  simp only at hea heb
  subst hea
  subst heb
  have zA := zA (by simp)
  have zB := zA
  simp [c12, hw', c4]
  refine fzK.mk [20, 21] ?_
  simp [zas, hk, zA, zB, -List.map_set]
  refine zaa.mk [0, 1, 2, 19, 4, 16] m3 (by simp) ?_
  simp [zas, hk, zA, zB, -List.map_set]
  refine zaa.mk [0, 1, 2, 22, 4, 23] m4 (by simp) ?_
  simp [hk]
  refine zac.mk hj ?_
  simp [hk]
  refine zaa.mk [0, 1, 2, 26, 4, 27] m5 (by simp) ?_
  simp [hk]
  refine ⟨by decide, ?_⟩
  refine zaa.mk [0, 1, 2, 31, 4, 27] m6 (by simp) ?_
  simp
  refine ⟨by decide, by decide, ?_⟩
  exact EndM.mkE [0, 1, 2, 9, 4, 11, 32, 27] [6, 7, 8, 9, 10, 11] (by simp [cK, cN, cT, zag, zaj, fnT, zal, zae, noC, encI, encS, AV.erds, AV.erd, D.erdL, D.erd, D.erdE, kid0, kid1])
 have hfi := zpZ env (by omega) w'.text
 have hfl := zjR env w'.text
 have e : zaU q env = if 0 <= zbA env w'.text then (env.set (zbA env w'.text).toNat ((env.getD (zbA env w'.text).toNat (bs [], noT)).1, (zbX (env.getD (zbA env w'.text).toNat (bs [], noT)).2 q.n).1), env.set (zbA env w'.text).toNat ((env.getD (zbA env w'.text).toNat (bs [], noT)).1, (zbX (env.getD (zbA env w'.text).toNat (bs [], noT)).2 q.n).2)) else (env, env) := by
  unfold zaU
  rw [g0]
  by_cases z : 0 <= zbA env w'.text
  ·rw [if_pos ⟨c12, c4, z⟩, if_pos z]
  ·rw [if_neg (fun p => z p.2.2), if_neg z]
 generalize zbA env w'.text = z at *
 by_cases z0 : 0 <= z
 rotate_left
 ·rw [if_neg z0] at e
  rw [e] at hea heb
  simp only at hea heb
  subst hea
  subst heb
  have zA := zA (by simp)
  have zB := zA
  simp [c12, hw', c4]
  refine zac.mk hfi ?_
  simp [z0]
  refine fzK.mk [20, 21] ?_
  simp [zas, hk, zA, zB, -List.map_set]
  refine zaa.mk [0, 1, 2, 19, 4, 16] m3 (by simp) ?_
  simp [zas, hk, zA, zB, -List.map_set]
  refine zaa.mk [0, 1, 2, 22, 4, 23] m4 (by simp) ?_
  simp [hk]
  refine zac.mk hj ?_
  simp [hk]
  refine zaa.mk [0, 1, 2, 26, 4, 27] m5 (by simp) ?_
  simp [hk]
  refine ⟨by decide, ?_⟩
  refine zaa.mk [0, 1, 2, 31, 4, 27] m6 (by simp) ?_
  simp
  refine ⟨by decide, by decide, ?_⟩
  exact EndM.mkE [0, 1, 2, 9, 4, 11, 32, 27] [6, 7, 8, 9, 10, 11] (by simp [cK, cN, cT, zag, zaj, fnT, zal, zae, noC, encI, encS, AV.erds, AV.erd, D.erdL, D.erd, D.erdE, kid0, kid1])
 rw [if_pos z0] at e
 obtain ⟨zn, hzn⟩ : ∃ zn : Nat, z = zn := ⟨z.toNat, by omega⟩
 have hzl : zn < env.length := by omega
 obtain ⟨v', hv⟩ : ∃ v', env[zn] = v' := ⟨_, rfl⟩
 subst hzn
 have hv2 : env.getD (zn : Int).toNat (bs [], noT) = v' := by simp only [Int.toNat_natCast]; rw [List.getD_eq_getElem?_getD, List.getElem?_eq_getElem hzl, hv]; try rfl
 rw [hv2] at e
 simp only [Int.toNat_natCast] at e
 have hnr := zru v'.2 q.n
 generalize zbX v'.2 q.n = N at *
 rw [e] at hea heb
 simp only at hea heb
 subst hea
 subst heb
 have zA := zA (by simp)
 have zB := zB (by simp)
 simp [c12, hw', c4]
 refine zac.mk hfi ?_
 simp [z0, hzl, hv]
 refine zac.mk hnr ?_
 simp [hzl, hv]
 refine ⟨by decide, ?_⟩
 have ps : ∀ t1 : Typ, (List.map ((fun x => List.map AC.d x) ∘ encV) env).set zn (put (List.map AC.d (encV v')) 1 (List.map AC.d t1.enc)) = List.map ((fun x => List.map AC.d x) ∘ encV) (env.set zn (v'.1, t1)) := fun t1 => by
  rw [zu0, List.map_set]; try rfl
 simp only [ps]
 refine fzK.mk [20, 21] ?_
 simp [zas, hk, zA, zB, -List.map_set]
 refine zaa.mk [0, 1, 2, 19, 4, 16] m3 (by simp) ?_
 simp [zas, hk, zA, zB, -List.map_set]
 refine zaa.mk [0, 1, 2, 24, 4, 25] m4 (by simp) ?_
 simp [hk]
 refine zac.mk hj ?_
 simp [hk]
 refine zaa.mk [0, 1, 2, 28, 4, 29] m5 (by simp) ?_
 simp [hk]
 refine ⟨by decide, ?_⟩
 refine zaa.mk [0, 1, 2, 33, 4, 29] m6 (by simp) ?_
 simp
 refine ⟨by decide, by decide, ?_⟩
 exact EndM.mkE [0, 1, 2, 9, 4, 11, 34, 29] [6, 7, 8, 9, 10, 11] (by simp [cK, cN, cT, zag, zaj, fnT, zal, zae, noC, encI, encS, AV.erds, AV.erd, D.erdL, D.erd, D.erdE, kid0, kid1])
end
end Go.Gr
