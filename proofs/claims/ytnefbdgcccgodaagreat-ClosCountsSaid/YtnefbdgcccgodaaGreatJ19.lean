/- Texts of ours, joined and written short by a program of ours. -/
import Derived.Test.YtnefbdgcccgodaaGreatJ18
import Derived.Test.YtnefbdgcccgodaaGreatJ09
set_option linter.unusedVariables false
set_option linter.unusedSimpArgs false
namespace Go.Gr
open Go.Abs Go.Proofs
def shN (k : Int) (ts : List Typ) (ns : List ByteArray) (ks : List Nod) : Prop :=
 (k = 0 \/ k = 1 \/ k = 2 \/ k = 3 \/ k = 18) \/ ((k = 4 \/ k = 19) /\ ts.length <= 1000000) \/ (k = 8 /\ ns.length <= 1000000) \/ (k = 6 /\ ks.length = 1 /\ 1 <= ts.length) \/ (k = 13 /\ ks.length = 1 /\ 1 <= ts.length) \/ (k = 9 /\ ks.length = 1) \/ ((k = 12 \/ k = 15 \/ k = 16 \/ k = 17) /\ ks.length = 1) \/ (k = 5 /\ ks.length = 2) \/ (k = 7 /\ ks.length = 2) \/ (k = 10 /\ ks.length = 2) \/ (k = 14 /\ ks.length = 2) \/ (k = 11 /\ ks.length = 3)
mutual
def wfN : Nod -> Prop
 | .mk k _ _ _ _ ts ns ks => wfNs ks /\ shN k ts ns ks
def wfNs : List Nod -> Prop
 | [] => True
 | n :: l => wfN n /\ wfNs l
end
theorem zeQ : ∀ l : List Nod, wfNs l ↔ ∀ x, x ∈ l -> wfN x
 | [] => by simp [wfNs]
 | n :: l => by simp [wfNs, zeQ l]
theorem zph (n : Nod) : wfN n ↔ (∀ x, x ∈ n.kids -> wfN x) /\ shN n.kind n.types n.names n.kids := by
 cases n; rw [wfN, zeQ]; try rfl
def stopC (j : Inf) : Inf := fun env s => if s.e ≠ 0 then ((noC, noT), s) else j env s
section
variable (L : Lnk)
theorem zcp {n : Nod} {j : Inf} (h : PInf L n j) : PInf L n (stopC j) := fun env s k he hs => by
 unfold stopC
 split
 ·exact ⟨hs.less (by omega), zbf⟩
 ·exact h env s k he hs
set_option maxRecDepth 20000 in
set_option maxHeartbeats 4000000 in
theorem zrf (n : Nod) (K : n.kind = 4 \/ n.kind = 19) (j : Inf) (h : MInf L F.gc_named n j) : MInf L F.gc_Infer n (stopC j) := fun env s k he hs => by
 refine zaQ ⟨by simp, by simp, by simp, by simp, by simp, by simp, by simp [live]⟩ fun ts hts ok hbk c hN hp => ?_
 obtain ⟨t, u, v, w, x, y, rfl⟩ := zaO hts
 have hb0 := zaB 0
 have m := h env s k he hs
 unfold stopC
 by_cases q0 : s.e = 0
 rotate_left
 ·rw [if_pos q0]
  unfold zaA
  simp [q0]
  refine zac.mk hb0 ?_
  simp
  exact EndM.mkE [0, 1, 2, 9, 4, 11, 3, 5] [6, 7, 8, 9, 10, 11] (by simp [cK, cN, cT, zag, zaj, fnT, zal, zae, noC, encI, encS, AV.erds, AV.erd, D.erdL, D.erd, D.erdE, kid0, kid1])
 rw [if_neg (fun z => z q0)]
 generalize j env s = r at *
 unfold zaA
 rcases K with K | K
 ·simp [q0, K]
  refine zaa.mk [0, 1, 2, 3, 4, 5] m (by simp) ?_
  simp
  exact EndM.mkE [0, 1, 2, 9, 4, 11, 14, 15] [6, 7, 8, 9, 10, 11] (by simp [cK, cN, cT, zag, zaj, fnT, zal, zae, noC, encI, encS, AV.erds, AV.erd, D.erdL, D.erd, D.erdE, kid0, kid1])
 ·simp [q0, K]
  refine zaa.mk [0, 1, 2, 3, 4, 5] m (by simp) ?_
  simp
  exact EndM.mkE [0, 1, 2, 9, 4, 11, 14, 15] [6, 7, 8, 9, 10, 11] (by simp [cK, cN, cT, zag, zaj, fnT, zal, zae, noC, encI, encS, AV.erds, AV.erd, D.erdL, D.erd, D.erdE, kid0, kid1])
set_option maxRecDepth 20000 in
set_option maxHeartbeats 4000000 in
theorem zun (n : Nod) (K : n.kind = 5) (j : Inf) (h : MInf L F.gc_let n j) : MInf L F.gc_Infer n (stopC j) := fun env s k he hs => by
 refine zaQ ⟨by simp, by simp, by simp, by simp, by simp, by simp, by simp [live]⟩ fun ts hts ok hbk c hN hp => ?_
 obtain ⟨t, u, v, w, x, y, rfl⟩ := zaO hts
 have hb0 := zaB 0
 have m := h env s k he hs
 unfold stopC
 by_cases q0 : s.e = 0
 rotate_left
 ·rw [if_pos q0]
  unfold zaA
  simp [q0]
  refine zac.mk hb0 ?_
  simp
  exact EndM.mkE [0, 1, 2, 9, 4, 11, 3, 5] [6, 7, 8, 9, 10, 11] (by simp [cK, cN, cT, zag, zaj, fnT, zal, zae, noC, encI, encS, AV.erds, AV.erd, D.erdL, D.erd, D.erdE, kid0, kid1])
 rw [if_neg (fun z => z q0)]
 generalize j env s = r at *
 unfold zaA
 skip
 ·simp [q0, K]
  refine zaa.mk [0, 1, 2, 3, 4, 5] m (by simp) ?_
  simp
  exact EndM.mkE [0, 1, 2, 9, 4, 11, 14, 15] [6, 7, 8, 9, 10, 11] (by simp [cK, cN, cT, zag, zaj, fnT, zal, zae, noC, encI, encS, AV.erds, AV.erd, D.erdL, D.erd, D.erdE, kid0, kid1])
set_option maxRecDepth 20000 in
set_option maxHeartbeats 4000000 in
theorem zvc (n : Nod) (K : n.kind = 6) (j : Inf) (h : MInf L F.gc_fn n j) : MInf L F.gc_Infer n (stopC j) := fun env s k he hs => by
 refine zaQ ⟨by simp, by simp, by simp, by simp, by simp, by simp, by simp [live]⟩ fun ts hts ok hbk c hN hp => ?_
 obtain ⟨t, u, v, w, x, y, rfl⟩ := zaO hts
 have hb0 := zaB 0
 have m := h env s k he hs
 unfold stopC
 by_cases q0 : s.e = 0
 rotate_left
 ·rw [if_pos q0]
  unfold zaA
  simp [q0]
  refine zac.mk hb0 ?_
  simp
  exact EndM.mkE [0, 1, 2, 9, 4, 11, 3, 5] [6, 7, 8, 9, 10, 11] (by simp [cK, cN, cT, zag, zaj, fnT, zal, zae, noC, encI, encS, AV.erds, AV.erd, D.erdL, D.erd, D.erdE, kid0, kid1])
 rw [if_neg (fun z => z q0)]
 generalize j env s = r at *
 unfold zaA
 skip
 ·simp [q0, K]
  refine zaa.mk [0, 1, 2, 3, 4, 5] m (by simp) ?_
  simp
  exact EndM.mkE [0, 1, 2, 9, 4, 11, 14, 15] [6, 7, 8, 9, 10, 11] (by simp [cK, cN, cT, zag, zaj, fnT, zal, zae, noC, encI, encS, AV.erds, AV.erd, D.erdL, D.erd, D.erdE, kid0, kid1])
set_option maxRecDepth 20000 in
set_option maxHeartbeats 4000000 in
theorem zsO (n : Nod) (K : n.kind = 7) (j : Inf) (h : MInf L F.gc_call n j) : MInf L F.gc_Infer n (stopC j) := fun env s k he hs => by
 refine zaQ ⟨by simp, by simp, by simp, by simp, by simp, by simp, by simp [live]⟩ fun ts hts ok hbk c hN hp => ?_
 obtain ⟨t, u, v, w, x, y, rfl⟩ := zaO hts
 have hb0 := zaB 0
 have m := h env s k he hs
 unfold stopC
 by_cases q0 : s.e = 0
 rotate_left
 ·rw [if_pos q0]
  unfold zaA
  simp [q0]
  refine zac.mk hb0 ?_
  simp
  exact EndM.mkE [0, 1, 2, 9, 4, 11, 3, 5] [6, 7, 8, 9, 10, 11] (by simp [cK, cN, cT, zag, zaj, fnT, zal, zae, noC, encI, encS, AV.erds, AV.erd, D.erdL, D.erd, D.erdE, kid0, kid1])
 rw [if_neg (fun z => z q0)]
 generalize j env s = r at *
 unfold zaA
 skip
 ·simp [q0, K]
  refine zaa.mk [0, 1, 2, 3, 4, 5] m (by simp) ?_
  simp
  exact EndM.mkE [0, 1, 2, 9, 4, 11, 14, 15] [6, 7, 8, 9, 10, 11] (by simp [cK, cN, cT, zag, zaj, fnT, zal, zae, noC, encI, encS, AV.erds, AV.erd, D.erdL, D.erd, D.erdE, kid0, kid1])
set_option maxRecDepth 20000 in
set_option maxHeartbeats 4000000 in
theorem zp0 (n : Nod) (K : n.kind = 8) (j : Inf) (h : MInf L F.gc_record n j) : MInf L F.gc_Infer n (stopC j) := fun env s k he hs => by
 refine zaQ ⟨by simp, by simp, by simp, by simp, by simp, by simp, by simp [live]⟩ fun ts hts ok hbk c hN hp => ?_
 obtain ⟨t, u, v, w, x, y, rfl⟩ := zaO hts
 have hb0 := zaB 0
 have m := h env s k he hs
 unfold stopC
 by_cases q0 : s.e = 0
 rotate_left
 ·rw [if_pos q0]
  unfold zaA
  simp [q0]
  refine zac.mk hb0 ?_
  simp
  exact EndM.mkE [0, 1, 2, 9, 4, 11, 3, 5] [6, 7, 8, 9, 10, 11] (by simp [cK, cN, cT, zag, zaj, fnT, zal, zae, noC, encI, encS, AV.erds, AV.erd, D.erdL, D.erd, D.erdE, kid0, kid1])
 rw [if_neg (fun z => z q0)]
 generalize j env s = r at *
 unfold zaA
 skip
 ·simp [q0, K]
  refine zaa.mk [0, 1, 2, 3, 4, 5] m (by simp) ?_
  simp
  exact EndM.mkE [0, 1, 2, 9, 4, 11, 14, 15] [6, 7, 8, 9, 10, 11] (by simp [cK, cN, cT, zag, zaj, fnT, zal, zae, noC, encI, encS, AV.erds, AV.erd, D.erdL, D.erd, D.erdE, kid0, kid1])
set_option maxRecDepth 20000 in
set_option maxHeartbeats 4000000 in
theorem zuo (n : Nod) (K : n.kind = 9) (j : Inf) (h : MInf L F.gc_sel n j) : MInf L F.gc_Infer n (stopC j) := fun env s k he hs => by
 refine zaQ ⟨by simp, by simp, by simp, by simp, by simp, by simp, by simp [live]⟩ fun ts hts ok hbk c hN hp => ?_
 obtain ⟨t, u, v, w, x, y, rfl⟩ := zaO hts
 have hb0 := zaB 0
 have m := h env s k he hs
 unfold stopC
 by_cases q0 : s.e = 0
 rotate_left
 ·rw [if_pos q0]
  unfold zaA
  simp [q0]
  refine zac.mk hb0 ?_
  simp
  exact EndM.mkE [0, 1, 2, 9, 4, 11, 3, 5] [6, 7, 8, 9, 10, 11] (by simp [cK, cN, cT, zag, zaj, fnT, zal, zae, noC, encI, encS, AV.erds, AV.erd, D.erdL, D.erd, D.erdE, kid0, kid1])
 rw [if_neg (fun z => z q0)]
 generalize j env s = r at *
 unfold zaA
 skip
 ·simp [q0, K]
  refine zaa.mk [0, 1, 2, 3, 4, 5] m (by simp) ?_
  simp
  exact EndM.mkE [0, 1, 2, 9, 4, 11, 14, 15] [6, 7, 8, 9, 10, 11] (by simp [cK, cN, cT, zag, zaj, fnT, zal, zae, noC, encI, encS, AV.erds, AV.erd, D.erdL, D.erd, D.erdE, kid0, kid1])
set_option maxRecDepth 20000 in
set_option maxHeartbeats 4000000 in
theorem zrg (n : Nod) (K : n.kind = 10) (j : Inf) (h : MInf L F.gc_field n j) : MInf L F.gc_Infer n (stopC j) := fun env s k he hs => by
 refine zaQ ⟨by simp, by simp, by simp, by simp, by simp, by simp, by simp [live]⟩ fun ts hts ok hbk c hN hp => ?_
 obtain ⟨t, u, v, w, x, y, rfl⟩ := zaO hts
 have hb0 := zaB 0
 have m := h env s k he hs
 unfold stopC
 by_cases q0 : s.e = 0
 rotate_left
 ·rw [if_pos q0]
  unfold zaA
  simp [q0]
  refine zac.mk hb0 ?_
  simp
  exact EndM.mkE [0, 1, 2, 9, 4, 11, 3, 5] [6, 7, 8, 9, 10, 11] (by simp [cK, cN, cT, zag, zaj, fnT, zal, zae, noC, encI, encS, AV.erds, AV.erd, D.erdL, D.erd, D.erdE, kid0, kid1])
 rw [if_neg (fun z => z q0)]
 generalize j env s = r at *
 unfold zaA
 skip
 ·simp [q0, K]
  refine zaa.mk [0, 1, 2, 3, 4, 5] m (by simp) ?_
  simp
  exact EndM.mkE [0, 1, 2, 9, 4, 11, 14, 15] [6, 7, 8, 9, 10, 11] (by simp [cK, cN, cT, zag, zaj, fnT, zal, zae, noC, encI, encS, AV.erds, AV.erd, D.erdL, D.erd, D.erdE, kid0, kid1])
set_option maxRecDepth 20000 in
set_option maxHeartbeats 4000000 in
theorem zp1 (n : Nod) (K : n.kind = 11) (j : Inf) (h : MInf L F.gc_branch n j) : MInf L F.gc_Infer n (stopC j) := fun env s k he hs => by
 refine zaQ ⟨by simp, by simp, by simp, by simp, by simp, by simp, by simp [live]⟩ fun ts hts ok hbk c hN hp => ?_
 obtain ⟨t, u, v, w, x, y, rfl⟩ := zaO hts
 have hb0 := zaB 0
 have m := h env s k he hs
 unfold stopC
 by_cases q0 : s.e = 0
 rotate_left
 ·rw [if_pos q0]
  unfold zaA
  simp [q0]
  refine zac.mk hb0 ?_
  simp
  exact EndM.mkE [0, 1, 2, 9, 4, 11, 3, 5] [6, 7, 8, 9, 10, 11] (by simp [cK, cN, cT, zag, zaj, fnT, zal, zae, noC, encI, encS, AV.erds, AV.erd, D.erdL, D.erd, D.erdE, kid0, kid1])
 rw [if_neg (fun z => z q0)]
 generalize j env s = r at *
 unfold zaA
 skip
 ·simp [q0, K]
  refine zaa.mk [0, 1, 2, 3, 4, 5] m (by simp) ?_
  simp
  exact EndM.mkE [0, 1, 2, 9, 4, 11, 14, 15] [6, 7, 8, 9, 10, 11] (by simp [cK, cN, cT, zag, zaj, fnT, zal, zae, noC, encI, encS, AV.erds, AV.erd, D.erdL, D.erd, D.erdE, kid0, kid1])
set_option maxRecDepth 20000 in
set_option maxHeartbeats 4000000 in
theorem zvd (n : Nod) (K : n.kind = 13) (j : Inf) (h : MInf L F.gc_as n j) : MInf L F.gc_Infer n (stopC j) := fun env s k he hs => by
 refine zaQ ⟨by simp, by simp, by simp, by simp, by simp, by simp, by simp [live]⟩ fun ts hts ok hbk c hN hp => ?_
 obtain ⟨t, u, v, w, x, y, rfl⟩ := zaO hts
 have hb0 := zaB 0
 have m := h env s k he hs
 unfold stopC
 by_cases q0 : s.e = 0
 rotate_left
 ·rw [if_pos q0]
  unfold zaA
  simp [q0]
  refine zac.mk hb0 ?_
  simp
  exact EndM.mkE [0, 1, 2, 9, 4, 11, 3, 5] [6, 7, 8, 9, 10, 11] (by simp [cK, cN, cT, zag, zaj, fnT, zal, zae, noC, encI, encS, AV.erds, AV.erd, D.erdL, D.erd, D.erdE, kid0, kid1])
 rw [if_neg (fun z => z q0)]
 generalize j env s = r at *
 unfold zaA
 skip
 ·simp [q0, K]
  refine zaa.mk [0, 1, 2, 3, 4, 5] m (by simp) ?_
  simp
  exact EndM.mkE [0, 1, 2, 9, 4, 11, 14, 15] [6, 7, 8, 9, 10, 11] (by simp [cK, cN, cT, zag, zaj, fnT, zal, zae, noC, encI, encS, AV.erds, AV.erd, D.erdL, D.erd, D.erdE, kid0, kid1])
set_option maxRecDepth 20000 in
set_option maxHeartbeats 4000000 in
theorem zve (n : Nod) (K : n.kind = 14) (j : Inf) (h : MInf L F.gc_op n j) : MInf L F.gc_Infer n (stopC j) := fun env s k he hs => by
 refine zaQ ⟨by simp, by simp, by simp, by simp, by simp, by simp, by simp [live]⟩ fun ts hts ok hbk c hN hp => ?_
 obtain ⟨t, u, v, w, x, y, rfl⟩ := zaO hts
 have hb0 := zaB 0
 have m := h env s k he hs
 unfold stopC
 by_cases q0 : s.e = 0
 rotate_left
 ·rw [if_pos q0]
  unfold zaA
  simp [q0]
  refine zac.mk hb0 ?_
  simp
  exact EndM.mkE [0, 1, 2, 9, 4, 11, 3, 5] [6, 7, 8, 9, 10, 11] (by simp [cK, cN, cT, zag, zaj, fnT, zal, zae, noC, encI, encS, AV.erds, AV.erd, D.erdL, D.erd, D.erdE, kid0, kid1])
 rw [if_neg (fun z => z q0)]
 generalize j env s = r at *
 unfold zaA
 skip
 ·simp [q0, K]
  refine zaa.mk [0, 1, 2, 3, 4, 5] m (by simp) ?_
  simp
  exact EndM.mkE [0, 1, 2, 9, 4, 11, 14, 15] [6, 7, 8, 9, 10, 11] (by simp [cK, cN, cT, zag, zaj, fnT, zal, zae, noC, encI, encS, AV.erds, AV.erd, D.erdL, D.erd, D.erdE, kid0, kid1])
set_option maxRecDepth 20000 in
set_option maxHeartbeats 4000000 in
theorem zup (n : Nod) (K : n.kind = 12 \/ n.kind = 15 \/ n.kind = 16 \/ n.kind = 17) (j : Inf) (h : MInf L F.gc_one n j) : MInf L F.gc_Infer n (stopC j) := fun env s k he hs => by
 refine zaQ ⟨by simp, by simp, by simp, by simp, by simp, by simp, by simp [live]⟩ fun ts hts ok hbk c hN hp => ?_
 obtain ⟨t, u, v, w, x, y, rfl⟩ := zaO hts
 have hb0 := zaB 0
 have m := h env s k he hs
 unfold stopC
 by_cases q0 : s.e = 0
 rotate_left
 ·rw [if_pos q0]
  unfold zaA
  simp [q0]
  refine zac.mk hb0 ?_
  simp
  exact EndM.mkE [0, 1, 2, 9, 4, 11, 3, 5] [6, 7, 8, 9, 10, 11] (by simp [cK, cN, cT, zag, zaj, fnT, zal, zae, noC, encI, encS, AV.erds, AV.erd, D.erdL, D.erd, D.erdE, kid0, kid1])
 rw [if_neg (fun z => z q0)]
 generalize j env s = r at *
 unfold zaA
 rcases K with K | K | K | K
 ·simp [q0, K]
  refine zaa.mk [0, 1, 2, 3, 4, 5] m (by simp) ?_
  simp
  exact EndM.mkE [0, 1, 2, 9, 4, 11, 14, 15] [6, 7, 8, 9, 10, 11] (by simp [cK, cN, cT, zag, zaj, fnT, zal, zae, noC, encI, encS, AV.erds, AV.erd, D.erdL, D.erd, D.erdE, kid0, kid1])
 ·simp [q0, K]
  refine zaa.mk [0, 1, 2, 3, 4, 5] m (by simp) ?_
  simp
  exact EndM.mkE [0, 1, 2, 9, 4, 11, 14, 15] [6, 7, 8, 9, 10, 11] (by simp [cK, cN, cT, zag, zaj, fnT, zal, zae, noC, encI, encS, AV.erds, AV.erd, D.erdL, D.erd, D.erdE, kid0, kid1])
 ·simp [q0, K]
  refine zaa.mk [0, 1, 2, 3, 4, 5] m (by simp) ?_
  simp
  exact EndM.mkE [0, 1, 2, 9, 4, 11, 14, 15] [6, 7, 8, 9, 10, 11] (by simp [cK, cN, cT, zag, zaj, fnT, zal, zae, noC, encI, encS, AV.erds, AV.erd, D.erdL, D.erd, D.erdE, kid0, kid1])
 ·simp [q0, K]
  refine zaa.mk [0, 1, 2, 3, 4, 5] m (by simp) ?_
  simp
  exact EndM.mkE [0, 1, 2, 9, 4, 11, 14, 15] [6, 7, 8, 9, 10, 11] (by simp [cK, cN, cT, zag, zaj, fnT, zal, zae, noC, encI, encS, AV.erds, AV.erd, D.erdL, D.erd, D.erdE, kid0, kid1])
set_option maxRecDepth 20000 in
set_option maxHeartbeats 4000000 in
theorem zuq (n : Nod) (K : n.kind = 0) : MInf L F.gc_Infer n (stopC fun env s => ((cN 0 n.n, bT 3), s)) := fun env s k he hs => by
 refine zaQ ⟨by simp, by simp, by simp, by simp, by simp, by simp, by simp [live]⟩ fun ts hts ok hbk c hN hp => ?_
 obtain ⟨t, u, v, w, x, y, rfl⟩ := zaO hts
 have hb0 := zaB 0
 have hbK := zaB 3
 unfold stopC
 by_cases q0 : s.e = 0
 rotate_left
 ·rw [if_pos q0]
  unfold zaA
  simp [q0]
  refine zac.mk hb0 ?_
  simp
  exact EndM.mkE [0, 1, 2, 9, 4, 11, 3, 5] [6, 7, 8, 9, 10, 11] (by simp [cK, cN, cT, zag, zaj, fnT, zal, zae, noC, encI, encS, AV.erds, AV.erd, D.erdL, D.erd, D.erdE, kid0, kid1])
 rw [if_neg (fun z => z q0)]
 unfold zaA
 simp [q0, K]
 refine zac.mk hbK ?_
 simp
 refine ⟨by decide, ?_⟩
 exact EndM.mkE [0, 1, 2, 9, 4, 11, 3, 5] [6, 7, 8, 9, 10, 11] (by simp [cK, cN, cT, zag, zaj, fnT, zal, zae, noC, encI, encS, AV.erds, AV.erd, D.erdL, D.erd, D.erdE, kid0, kid1])
set_option maxRecDepth 20000 in
set_option maxHeartbeats 4000000 in
theorem zur (n : Nod) (K : n.kind = 1) : MInf L F.gc_Infer n (stopC fun env s => ((cT 1 n.text [], bT 4), s)) := fun env s k he hs => by
 refine zaQ ⟨by simp, by simp, by simp, by simp, by simp, by simp, by simp [live]⟩ fun ts hts ok hbk c hN hp => ?_
 obtain ⟨t, u, v, w, x, y, rfl⟩ := zaO hts
 have hb0 := zaB 0
 have hbK := zaB 4
 unfold stopC
 by_cases q0 : s.e = 0
 rotate_left
 ·rw [if_pos q0]
  unfold zaA
  simp [q0]
  refine zac.mk hb0 ?_
  simp
  exact EndM.mkE [0, 1, 2, 9, 4, 11, 3, 5] [6, 7, 8, 9, 10, 11] (by simp [cK, cN, cT, zag, zaj, fnT, zal, zae, noC, encI, encS, AV.erds, AV.erd, D.erdL, D.erd, D.erdE, kid0, kid1])
 rw [if_neg (fun z => z q0)]
 unfold zaA
 simp [q0, K]
 refine zac.mk hbK ?_
 simp
 refine ⟨by decide, ?_⟩
 exact EndM.mkE [0, 1, 2, 9, 4, 11, 3, 5] [6, 7, 8, 9, 10, 11] (by simp [cK, cN, cT, zag, zaj, fnT, zal, zae, noC, encI, encS, AV.erds, AV.erd, D.erdL, D.erd, D.erdE, kid0, kid1])
set_option maxRecDepth 20000 in
set_option maxHeartbeats 4000000 in
theorem zsP (n : Nod) (K : n.kind = 2) : MInf L F.gc_Infer n (stopC fun env s => ((cN 2 n.n, bT 2), s)) := fun env s k he hs => by
 refine zaQ ⟨by simp, by simp, by simp, by simp, by simp, by simp, by simp [live]⟩ fun ts hts ok hbk c hN hp => ?_
 obtain ⟨t, u, v, w, x, y, rfl⟩ := zaO hts
 have hb0 := zaB 0
 have hbK := zaB 2
 unfold stopC
 by_cases q0 : s.e = 0
 rotate_left
 ·rw [if_pos q0]
  unfold zaA
  simp [q0]
  refine zac.mk hb0 ?_
  simp
  exact EndM.mkE [0, 1, 2, 9, 4, 11, 3, 5] [6, 7, 8, 9, 10, 11] (by simp [cK, cN, cT, zag, zaj, fnT, zal, zae, noC, encI, encS, AV.erds, AV.erd, D.erdL, D.erd, D.erdE, kid0, kid1])
 rw [if_neg (fun z => z q0)]
 unfold zaA
 simp [q0, K]
 refine zac.mk hbK ?_
 simp
 refine ⟨by decide, ?_⟩
 exact EndM.mkE [0, 1, 2, 9, 4, 11, 3, 5] [6, 7, 8, 9, 10, 11] (by simp [cK, cN, cT, zag, zaj, fnT, zal, zae, noC, encI, encS, AV.erds, AV.erd, D.erdL, D.erd, D.erdE, kid0, kid1])
set_option maxRecDepth 20000 in
set_option maxHeartbeats 4000000 in
theorem zus (n : Nod) (K : n.kind = 3) : MInf L F.gc_Infer n (stopC fun env s => ((cN 3 0, bT 1), s)) := fun env s k he hs => by
 refine zaQ ⟨by simp, by simp, by simp, by simp, by simp, by simp, by simp [live]⟩ fun ts hts ok hbk c hN hp => ?_
 obtain ⟨t, u, v, w, x, y, rfl⟩ := zaO hts
 have hb0 := zaB 0
 have hbK := zaB 1
 unfold stopC
 by_cases q0 : s.e = 0
 rotate_left
 ·rw [if_pos q0]
  unfold zaA
  simp [q0]
  refine zac.mk hb0 ?_
  simp
  exact EndM.mkE [0, 1, 2, 9, 4, 11, 3, 5] [6, 7, 8, 9, 10, 11] (by simp [cK, cN, cT, zag, zaj, fnT, zal, zae, noC, encI, encS, AV.erds, AV.erd, D.erdL, D.erd, D.erdE, kid0, kid1])
 rw [if_neg (fun z => z q0)]
 unfold zaA
 simp [q0, K]
 refine zac.mk hbK ?_
 simp
 exact EndM.mkE [0, 1, 2, 9, 4, 11, 3, 5] [6, 7, 8, 9, 10, 11] (by simp [cK, cN, cT, zag, zaj, fnT, zal, zae, noC, encI, encS, AV.erds, AV.erd, D.erdL, D.erd, D.erdE, kid0, kid1])
set_option maxRecDepth 20000 in
set_option maxHeartbeats 4000000 in
theorem zsQ (n : Nod) (K : n.kind = 18) : MInf L F.gc_Infer n (stopC fun env s => ((cN 20 0, bT 3), s)) := fun env s k he hs => by
 refine zaQ ⟨by simp, by simp, by simp, by simp, by simp, by simp, by simp [live]⟩ fun ts hts ok hbk c hN hp => ?_
 obtain ⟨t, u, v, w, x, y, rfl⟩ := zaO hts
 have hb0 := zaB 0
 have hbK := zaB 3
 unfold stopC
 by_cases q0 : s.e = 0
 rotate_left
 ·rw [if_pos q0]
  unfold zaA
  simp [q0]
  refine zac.mk hb0 ?_
  simp
  exact EndM.mkE [0, 1, 2, 9, 4, 11, 3, 5] [6, 7, 8, 9, 10, 11] (by simp [cK, cN, cT, zag, zaj, fnT, zal, zae, noC, encI, encS, AV.erds, AV.erd, D.erdL, D.erd, D.erdE, kid0, kid1])
 rw [if_neg (fun z => z q0)]
 unfold zaA
 simp [q0, K]
 refine zac.mk hbK ?_
 simp
 exact EndM.mkE [0, 1, 2, 9, 4, 11, 3, 5] [6, 7, 8, 9, 10, 11] (by simp [cK, cN, cT, zag, zaj, fnT, zal, zae, noC, encI, encS, AV.erds, AV.erd, D.erdL, D.erd, D.erdE, kid0, kid1])
theorem zhp {n : Nod} {c : Env -> CS -> Cor} {b : Int} (h0 : 0 <= b) (h4 : b <= 4) : PInf L n (stopC fun env s => ((c env s, bT b), s)) := zcp L fun env s k he hs => ⟨hs.less (by omega), zbG b h0 h4⟩
theorem zeR {l : List Nod} (h : l.length = 1) : ∃ a, l = [a] := by
 match l, h with
 | [a], _ => exact ⟨a, rfl⟩
theorem zfh {l : List Nod} (h : l.length = 2) : ∃ a b, l = [a, b] := by
 match l, h with
 | [a, b], _ => exact ⟨a, b, rfl⟩
theorem zoI {l : List Nod} (h : l.length = 3) : ∃ a b c, l = [a, b, c] := by
 match l, h with
 | [a, b, c], _ => exact ⟨a, b, c, rfl⟩
def headC (n : Nod) (rest : Inf) : Inf := fun env s =>
 if n.kind = 0 then ((cN 0 n.n, bT 3), s)
 else if n.kind = 1 then ((cT 1 n.text [], bT 4), s)
 else if n.kind = 2 then ((cN 2 n.n, bT 2), s)
 else if n.kind = 3 then ((cN 3 0, bT 1), s)
 else if n.kind = 18 then ((cN 20 0, bT 3), s)
 else if n.kind = 4 \/ n.kind = 19 then zcG L n env s
 else if n.kind = 8 then recC n (zaS L n.kids) env s
 else rest env s
def zgs (n a : Nod) : Inf := fun env s =>
 if n.kind = 6 then fnC n a (zao L a) env s
 else if n.kind = 9 then selC n (zao L a) env s
 else if n.kind = 13 then asC n (zao L a) env s
 else oneC n a (zao L a) env s
def zgt (n a b : Nod) : Inf := fun env s =>
 if n.kind = 5 then letC n a (zao L a) (zao L b) env s
 else if n.kind = 7 then zdz n b (zao L a) (zao L b) env s
 else if n.kind = 10 then zdA n (zao L a) (zao L b) env s
 else opC n a b (zao L a) (zao L b) env s
theorem eq0 (k : Int) (tx : ByteArray) (nn ln cl : Int) (ts : List Typ) (ns : List ByteArray) : zao L (.mk k tx nn ln cl ts ns []) = stopC (headC L (.mk k tx nn ln cl ts ns []) fun env s => ((noC, noT), s)) := by with_unfolding_all rfl
theorem eq1 (k : Int) (tx : ByteArray) (nn ln cl : Int) (ts : List Typ) (ns : List ByteArray) (a : Nod) : zao L (.mk k tx nn ln cl ts ns [a]) = stopC (headC L (.mk k tx nn ln cl ts ns [a]) (zgs L (.mk k tx nn ln cl ts ns [a]) a)) := by with_unfolding_all rfl
theorem eq2 (k : Int) (tx : ByteArray) (nn ln cl : Int) (ts : List Typ) (ns : List ByteArray) (a b : Nod) : zao L (.mk k tx nn ln cl ts ns [a, b]) = stopC (headC L (.mk k tx nn ln cl ts ns [a, b]) (zgt L (.mk k tx nn ln cl ts ns [a, b]) a b)) := by with_unfolding_all rfl
theorem eq3 (k : Int) (tx : ByteArray) (nn ln cl : Int) (ts : List Typ) (ns : List ByteArray) (a b c : Nod) (l : List Nod) : zao L (.mk k tx nn ln cl ts ns (a :: b :: c :: l)) = stopC (headC L (.mk k tx nn ln cl ts ns (a :: b :: c :: l)) (ifC a b c (zao L a) (zao L b) (zao L c))) := by with_unfolding_all rfl
theorem zci (n : Nod) (j : Inf) (h : ∀ rest, headC L n rest = j) : zao L n = stopC j := by
 obtain ⟨k, tx, nn, ln, cl, ts, ns, ks⟩ := n
 match ks, h with
 | [], h => rw [eq0, h]
 | [a], h => rw [eq1, h]
 | [a, b], h => rw [eq2, h]
 | a :: b :: c :: l, h => rw [eq3, h]
theorem zrh (hL : GoodL L) (n : Nod) (hw : wfN n) (ih : ∀ x, x ∈ n.kids -> zbu L x (zao L x)) : zbu L n (zao L n) := by
 obtain ⟨hws, hs⟩ := (zph n).1 hw
 obtain ⟨k, tx, nn, ln, cl, ts, ns, ks⟩ := n
 simp only [Nod.kind, Nod.kids, Nod.types, Nod.names] at hws hs ih
 have go : ∀ j : Inf, zao L (.mk k tx nn ln cl ts ns ks) = stopC j -> MInf L F.gc_Infer (.mk k tx nn ln cl ts ns ks) (stopC j) -> PInf L (.mk k tx nn ln cl ts ns ks) (stopC j) -> zbu L (.mk k tx nn ln cl ts ns ks) (zao L (.mk k tx nn ln cl ts ns ks)) := fun j e m p => by rw [e]; exact ⟨m, p⟩
 rcases hs with (K | K | K | K | K) | ⟨K, t1⟩ | ⟨K, t1⟩ | ⟨K, l1, t1⟩ | ⟨K, l1, t1⟩ | ⟨K, l1⟩ | ⟨K, l1⟩ | ⟨K, l1⟩ | ⟨K, l1⟩ | ⟨K, l1⟩ | ⟨K, l1⟩ | ⟨K, l1⟩
 ·exact go _ (zci L _ _ fun rest => by funext env s; simp [headC, Nod.kind, Nod.n, Nod.text, K]) (zuq L _ (by exact K)) (zhp L (by omega) (by omega))
 ·exact go _ (zci L _ _ fun rest => by funext env s; simp [headC, Nod.kind, Nod.n, Nod.text, K]) (zur L _ (by exact K)) (zhp L (by omega) (by omega))
 ·exact go _ (zci L _ _ fun rest => by funext env s; simp [headC, Nod.kind, Nod.n, Nod.text, K]) (zsP L _ (by exact K)) (zhp L (by omega) (by omega))
 ·exact go _ (zci L _ _ fun rest => by funext env s; simp [headC, Nod.kind, Nod.n, Nod.text, K]) (zus L _ (by exact K)) (zhp L (by omega) (by omega))
 ·exact go _ (zci L _ _ fun rest => by funext env s; simp [headC, Nod.kind, Nod.n, Nod.text, K]) (zsQ L _ (by exact K)) (zhp L (by omega) (by omega))
 ·exact go (zcG L (.mk k tx nn ln cl ts ns ks)) (zci L _ _ fun rest => by funext env s; rcases K with K | K <;> simp [headC, Nod.kind, K]) (zrf L _ (by exact K) _ (zrZ L hL _ (by exact t1))) (zcp L (zuN L hL _ (by exact t1)))
 ·exact go (recC (.mk k tx nn ln cl ts ns ks) (zaS L ks)) (zci L _ _ fun rest => by funext env s; simp [headC, Nod.kind, Nod.kids, K]) (zp0 L _ (by exact K) _ (zqH L _ (by exact t1) (by exact ih))) (zcp L (zwd L _ fun x hx => (ih x hx).2))
 ·obtain ⟨a, rfl⟩ := zeR l1
  have ia := ih a (by simp)
  exact go (fnC (.mk k tx nn ln cl ts ns [a]) a (zao L a)) (by rw [eq1]; funext env s; simp [stopC, headC, zgs, Nod.kind, K]) (zvc L _ (by exact K) _ (zvH L _ a rfl (by exact t1) _ ia)) (zcp L (fn_p L _ a rfl _ ia.2))
 ·obtain ⟨a, rfl⟩ := zeR l1
  have ia := ih a (by simp)
  exact go (asC (.mk k tx nn ln cl ts ns [a]) (zao L a)) (by rw [eq1]; funext env s; simp [stopC, headC, zgs, Nod.kind, K]) (zvd L _ (by exact K) _ (zvw L _ a rfl (by exact t1) _ ia)) (zcp L (as_p L _ a rfl _ ia.2))
 ·obtain ⟨a, rfl⟩ := zeR l1
  have ia := ih a (by simp)
  exact go (selC (.mk k tx nn ln cl ts ns [a]) (zao L a)) (by rw [eq1]; funext env s; simp [stopC, headC, zgs, Nod.kind, K]) (zuo L _ (by exact K) _ (zuX L _ a rfl _ ia)) (zcp L (zwj L _ a rfl _ ia.2))
 ·obtain ⟨a, rfl⟩ := zeR l1
  have ia := ih a (by simp)
  exact go (oneC (.mk k tx nn ln cl ts ns [a]) a (zao L a)) (by rw [eq1]; funext env s; rcases K with K | K | K | K <;> simp [stopC, headC, zgs, Nod.kind, K]) (zup L _ (by exact K) _ (zuM L _ a rfl _ ia)) (zcp L (zv8 L _ a rfl _ ia.2))
 ·obtain ⟨a, b, rfl⟩ := zfh l1
  have ia := ih a (by simp)
  have ib := ih b (by simp)
  exact go (letC (.mk k tx nn ln cl ts ns [a, b]) a (zao L a) (zao L b)) (by rw [eq2]; funext env s; simp [stopC, headC, zgt, Nod.kind, K]) (zun L _ (by exact K) _ (zuU L _ a b rfl _ _ ia ib)) (zcp L (zwi L _ a b rfl _ _ ia.2 ib.2))
 ·obtain ⟨a, b, rfl⟩ := zfh l1
  have ia := ih a (by simp)
  have ib := ih b (by simp)
  exact go (zdz (.mk k tx nn ln cl ts ns [a, b]) b (zao L a) (zao L b)) (by rw [eq2]; funext env s; simp [stopC, headC, zgt, Nod.kind, K]) (zsO L _ (by exact K) _ (ztU L _ a b rfl _ _ ia ib)) (zcp L (zvJ L _ a b rfl _ _ ia.2 ib.2))
 ·obtain ⟨a, b, rfl⟩ := zfh l1
  have ia := ih a (by simp)
  have ib := ih b (by simp)
  exact go (zdA (.mk k tx nn ln cl ts ns [a, b]) (zao L a) (zao L b)) (by rw [eq2]; funext env s; simp [stopC, headC, zgt, Nod.kind, K]) (zrg L _ (by exact K) _ (zss L _ a b rfl _ _ ia ib)) (zcp L (zvM L _ a b rfl _ _ ia.2 ib.2))
 ·obtain ⟨a, b, rfl⟩ := zfh l1
  have ia := ih a (by simp)
  have ib := ih b (by simp)
  exact go (opC (.mk k tx nn ln cl ts ns [a, b]) a b (zao L a) (zao L b)) (by rw [eq2]; funext env s; simp [stopC, headC, zgt, Nod.kind, K]) (zve L _ (by exact K) _ (zvf L _ a b rfl _ _ ia ib)) (zcp L (op_p L _ a b rfl _ _ ia.2 ib.2))
 ·obtain ⟨q, a, b, rfl⟩ := zoI l1
  have iq := ih q (by simp)
  have ia := ih a (by simp)
  have ib := ih b (by simp)
  have hq : q.kind = 12 -> ∃ w, q.kids = [w] := fun k12 => by
   have := ((zph q).1 (hws q (by simp))).2
   unfold shN at this
   rw [k12] at this
   exact zeR (by omega)
  exact go (ifC q a b (zao L q) (zao L a) (zao L b)) (by rw [eq3]; funext env s; simp [stopC, headC, Nod.kind, K]) (zp1 L _ (by exact K) _ (zqU L _ q a b rfl hq _ _ _ iq ia ib)) (zcp L (if_p L _ q a b rfl _ _ _ iq.2 ia.2 ib.2))
mutual
theorem zjq (hL : GoodL L) : ∀ n : Nod, wfN n -> zbu L n (zao L n)
 | .mk k tx nn ln cl ts ns ks, hw => zrh L hL _ hw (zlJ hL ks (by rw [wfN] at hw; exact hw.1))
theorem zlJ (hL : GoodL L) : ∀ l : List Nod, wfNs l -> ∀ x, x ∈ l -> zbu L x (zao L x)
 | [], _, x, hx => by cases hx
 | n :: l, hw, x, hx => by
  rw [wfNs] at hw
  rcases List.mem_cons.1 hx with e | hx
  ·rw [e]; exact zjq hL n hw.1
  ·exact zlJ hL l hw.2 x hx
end
end
end Go.Gr
namespace Go.Gr
open Go.Abs Go.Proofs
theorem zjU : ∀ l m : List Nod, nszs (l ++ m) = nszs l + nszs m
 | [], m => by simp [nszs]
 | n :: l, m => by rw [List.cons_append, nszs, nszs, zjU l m]; omega
theorem zt8 {l m : List Nod} (h : wfNs l) (k : wfNs m) : wfNs (l ++ m) := (zeQ _).2 fun x hx => by
 rcases List.mem_append.1 hx with hx | hx
 ·exact (zeQ _).1 h x hx
 ·exact (zeQ _).1 k x hx
section
variable {L : List Tok}
theorem zbF (p : PS) (k : Int) (t : ByteArray) (n : Int) (ts : List Typ) (ns : List ByteArray) (ks : List Nod) : nsz (mkN L p k t n ts ns ks) = nszs ks + 1 := by unfold mkN; rw [nsz]
theorem zb9 (p : PS) (k : Int) (t : ByteArray) (n : Int) (ts : List Typ) (ns : List ByteArray) (ks : List Nod) (h : wfNs ks) (s : shN k ts ns ks) : wfN (mkN L p k t n ts ns ks) := by unfold mkN; rw [wfN]; exact ⟨h, s⟩
theorem ks1 {a : Nod} (h : wfN a) : wfNs [a] := ⟨h, trivial⟩
theorem ks2 {a b : Nod} (h : wfN a) (k : wfN b) : wfNs [a, b] := ⟨h, k, trivial⟩
theorem ks3 {a b c : Nod} (h : wfN a) (k : wfN b) (l : wfN c) : wfNs [a, b, c] := ⟨h, k, l, trivial⟩
theorem z1 (a : Nod) : nszs [a] = nsz a := by simp [nszs]
theorem z2 (a b : Nod) : nszs [a, b] = nsz a + nsz b := by simp [nszs]
theorem z3 (a b c : Nod) : nszs [a, b, c] = nsz a + nsz b + nsz c := by simp [nszs]; omega
def Nice (L : List Tok) (f : PS -> Nod × PS) : Prop := ∀ p, p.at' < L.length -> wfN (f p).1 /\ nsz (f p).1 + 3 * p.at' <= 3 * (f p).2.at' + 1
theorem zoB {ki : PS -> Typ × PS} (p : PS) : (zbe L ki p).1.length <= 1 := by
 unfold zbe
 split <;> simp
theorem zoC {ki : PS -> Typ × PS} (p : PS) : 1 <= (zbD L ki p).1.2.length /\ (zbD L ki p).1.2.length <= 2 := by
 unfold zbD
 simp only
 have a := zoB (L := L) (ki := ki) (zaz L (zax L (bs [40]) p)).2
 have b := zoB (L := L) (ki := ki) (zax L (bs [41]) (zbe L ki (zaz L (zax L (bs [40]) p)).2).2)
 rw [List.length_append]
 split
 ·simp only [List.length_cons, List.length_nil]; omega
 ·omega
theorem zoD : wfN noN := ⟨trivial, .inl (.inl rfl)⟩
theorem zsF (hL : OkL L) {ki : PS -> Typ × PS} {ex rk : PS -> Nod × PS} (hk : Tame L ki) (he : Tame L ex) (ne : Nice L ex) (nr : Nice L rk) : Nice L (zfG L ki ex rk) := fun p hp => by
 unfold zfG
 split
 ·rename_i c
  have h1 := zah hL hp (s := wLet)
  have h2 := h1.trans (zaK hL h1.lt)
  have h3 := h2.trans (zdo hL hk _ h2.lt)
  have h4 := (zaK hL h1.lt).trans ((zdo hL hk _ h2.lt).trans (zap hL h3.lt (s := bs [61])))
  have n5 := ne _ h4.lt
  have h5 := he _ h4.lt
  have h6 := zap hL h5.lt (s := bs [59])
  have n7 := ne _ h6.lt
  have t := (zaL c).1
  refine ⟨zb9 _ _ _ _ _ _ _ (ks2 n5.1 n7.1) (by simp [shN]), ?_⟩
  rw [zbF, z2]
  have := h4.le
  have := h6.le
  simp only at *
  omega
 split
 ·rename_i c
  have h1 := zah hL hp (s := wIf)
  have n2 := ne _ h1.lt
  have h2 := he _ h1.lt
  have h3 := zap hL h2.lt (s := ziC)
  have n4 := ne _ h3.lt
  have h4 := he _ h3.lt
  have h5 := zap hL h4.lt (s := ziD)
  have n6 := ne _ h5.lt
  have t := (zaL c).1
  refine ⟨zb9 _ _ _ _ _ _ _ (ks3 n2.1 n4.1 n6.1) (by simp [shN]), ?_⟩
  rw [zbF, z3]
  have := h3.le
  have := h5.le
  simp only at *
  omega
 split
 ·rename_i c
  have h1 := zah hL hp (s := wFn)
  have h2 := zeM hL hk _ h1.lt
  have h3 := h2.trans (zap hL h2.lt (s := bs [61, 62]))
  have n4 := ne _ h3.lt
  have t := (zaL c).1
  have hh := (zoC (L := L) (ki := ki) (zab L wFn p).2).1
  refine ⟨zb9 _ _ _ _ _ _ _ (ks1 n4.1) (by simp [shN]; simpa using hh), ?_⟩
  rw [zbF, z1]
  have := h3.le
  simp only at *
  omega
 ·exact nr p hp
theorem zoE (hL : OkL L) {rk : PS -> Nod × PS} (hr : Tame L rk) (nr : Nice L rk) (signs : List ByteArray) : ∀ (n : Nat) (a : Nod) (p : PS), p.at' < L.length -> wfN a -> wfN (opsP L rk signs n a p).1 /\ nsz (opsP L rk signs n a p).1 + 3 * p.at' <= 3 * (opsP L rk signs n a p).2.at' + nsz a
 | 0, a, p, hp, ha => by rw [opsP]; exact ⟨ha, by show nsz a + 3 * p.at' <= 3 * p.at' + nsz a; omega⟩
 | n + 1, a, p, hp, ha => by
  rw [opsP]
  split
  ·exact ⟨ha, by show nsz a + 3 * p.at' <= 3 * p.at' + nsz a; omega⟩
  ·rename_i s q h
   have h1 := zgc hL _ hp h
   have h2 := hr _ h1.1.lt
   have n2 := nr _ h1.1.lt
   have r := zoE hL hr nr signs n (mkN L p 14 s 0 [] [] [a, (rk q).1]) (rk q).2 h2.lt (zb9 _ _ _ _ _ _ _ (ks2 ha n2.1) (by simp [shN]))
   rw [zbF, z2] at r
   refine ⟨r.1, ?_⟩
   have := h1.2.1
   omega
theorem zt9 (hL : OkL L) {ki : PS -> Typ × PS} {rk : PS -> Nod × PS} (hk : Tame L ki) (hr : Tame L rk) (nr : Nice L rk) : Nice L (cmpP L ki rk) := fun p hp => by
 have h1 := hr p hp
 have n1 := nr p hp
 unfold cmpP
 simp only
 split
 ·rename_i s q h
  have h2 := zgc hL _ h1.lt h
  have n3 := nr _ h2.1.lt
  refine ⟨zb9 _ _ _ _ _ _ _ (ks2 n1.1 n3.1) (by simp [shN]), ?_⟩
  rw [zbF, z2]
  have := h2.2.1
  simp only at *
  omega
 split
 ·rename_i c
  have t := (zaL c).1
  have h2 := zah hL h1.lt (s := bs [97, 115])
  have h3 := hk _ h2.lt
  refine ⟨zb9 _ _ _ _ _ _ _ (ks1 n1.1) (by simp [shN]), ?_⟩
  rw [zbF, z1]
  have := h3.le
  simp only at *
  omega
 split
 ·rename_i c
  have t := (zaL c).1
  have h2 := zah hL h1.lt (s := bs [105, 115])
  split
  ·rename_i i q h
   have h3 := zis hL _ _ h2.lt h
   refine ⟨zb9 _ _ _ _ _ _ _ (ks1 n1.1) (by simp [shN]), ?_⟩
   rw [zbF, z1]
   have := h3.2.1
   simp only at *
   omega
  ·have h3 := zeO (L := L) (e := 7) h2.lt
   refine ⟨zb9 _ _ _ _ _ _ _ (ks1 n1.1) (by simp [shN]), ?_⟩
   rw [zbF, z1]
   have := h3.le
   simp only at *
   omega
 ·exact n1
theorem zsG (hL : OkL L) {ki : PS -> Typ × PS} {un : PS -> Nod × PS} (hk : Tame L ki) (hu : Tame L un) (nu : Nice L un) : Nice L (zmY L ki un) := by
 obtain ⟨t5, t4, t3, t2, t1, t0⟩ := zit hL hk hu
 have op : ∀ (f : PS -> Nod × PS) (signs : List ByteArray), Tame L f -> Nice L f -> Nice L (fun p => opsP L f signs (L.length + 1) (f p).1 (f p).2) := fun f signs tf nf p hp => by
  have a := nf p hp
  have r := zoE hL tf nf signs (L.length + 1) (f p).1 (f p).2 (tf p hp).lt a.1
  exact ⟨r.1, by simp only; omega⟩
 have n5 : Nice L (ziE L un) := op un (zbK 5) hu nu
 have n4 : Nice L (ziF L un) := op _ (zbK 4) t5 n5
 have n3 : Nice L (zmX L un) := op _ (zbK 3) t4 n4
 have n2 : Nice L (ziG L ki un) := zt9 hL hk t3 n3
 have n1 : Nice L (ziH L ki un) := op _ (zbK 1) t2 n2
 exact op _ (zbK 0) t1 n1
theorem zmF {ki : PS -> Typ × PS} : ∀ (n : Nat) (l : List Typ) (p : PS), (zb7 L ki n l p).1.length <= l.length + n
 | 0, l, p => by rw [zb7]; exact Nat.le_refl _
 | n + 1, l, p => by
  rw [zb7]
  split
  ·have := zmF (ki := ki) n (l ++ [(ki p).1]) (zab L (bs [44]) (ki p).2).2
   rw [List.length_append] at this
   simp only [List.length_cons, List.length_nil] at this
   omega
  ·simp only [List.length_append, List.length_cons, List.length_nil]; omega
theorem zmG (hL : OkL L) {ex : PS -> Nod × PS} (he : Tame L ex) (ne : Nice L ex) : ∀ (n : Nat) (ns : List ByteArray) (ks : List Nod) (p : PS), p.at' < L.length -> wfNs ks -> wfNs (zcX L ex n ns ks p).1.2 /\ nszs (zcX L ex n ns ks p).1.2 + 3 * p.at' <= 3 * (zcX L ex n ns ks p).2.at' + nszs ks + 1 /\ (zcX L ex n ns ks p).1.1.length <= ns.length + n
 | 0, ns, ks, p, hp, hk => by rw [zcX]; exact ⟨hk, by simp only; omega, by simp⟩
 | n + 1, ns, ks, p, hp, hk => by
  have h1 := zaK hL hp
  have h2 := h1.trans (zap hL h1.lt (s := bs [58]))
  have h3 := he _ h2.lt
  have n3 := ne _ h2.lt
  have h4 := zah hL h3.lt (s := bs [44])
  have e2 := h2.le
  have w := zt8 hk (ks1 n3.1)
  rw [zcX]
  split
  ·rename_i c
   have t := (zaL c).1
   have r := zmG hL he ne n (ns ++ [(zaz L p).1]) (ks ++ [(ex (zax L (bs [58]) (zaz L p).2)).1]) _ h4.lt w
   rw [zjU, z1, List.length_append] at r
   simp only [List.length_cons, List.length_nil] at r
   refine ⟨r.1, ?_, by omega⟩
   omega
  ·refine ⟨w, ?_, by simp only [List.length_append, List.length_cons, List.length_nil]; omega⟩
   rw [zjU, z1]
   have := h4.le
   have := n3.2
   try simp only at *
   omega
theorem zpf (hL : OkL L) (hl : L.length <= 10000) {ex : PS -> Nod × PS} (he : Tame L ex) (ne : Nice L ex) (q p : PS) (hp : p.at' < L.length) : wfN (zbZ L ex q p).1 /\ nsz (zbZ L ex q p).1 + 3 * p.at' <= 3 * (zbZ L ex q p).2.at' + 4 := by
 unfold zbZ
 split
 ·have h1 := zah hL hp (s := bs [125])
  refine ⟨zb9 _ _ _ _ _ _ _ trivial (by simp [shN]), ?_⟩
  rw [zbF]
  have := h1.le
  simp only [nszs]
  omega
 split
 ·have h1 := he p hp
  have n1 := ne p hp
  have h2 := zap hL h1.lt (s := ziI)
  have h3 := h2.trans (zaK hL h2.lt)
  have h4 := h3.trans (zap hL h3.lt (s := bs [58]))
  have h5 := he _ h4.lt
  have n5 := ne _ h4.lt
  have h6 := zap hL h5.lt (s := bs [125])
  refine ⟨zb9 _ _ _ _ _ _ _ (ks2 n1.1 n5.1) (by simp [shN]), ?_⟩
  rw [zbF, z2]
  have := h4.le
  have := h6.le
  simp only at *
  omega
 ·have h1 := zlu hL he (L.length + 1) [] [] p hp
  have n1 := zmG hL he ne (L.length + 1) [] [] p hp trivial
  have h2 := zap hL h1.lt (s := bs [125])
  have e0 : nszs [] = 0 := rfl
  rw [e0] at n1
  refine ⟨zb9 _ _ _ _ _ _ _ n1.1 (by have := n1.2.2; simp only [List.length_nil] at this; simp [shN]; omega), ?_⟩
  rw [zbF]
  have := h2.le
  have := n1.2.1
  simp only at *
  omega
theorem zem {p q : PS} {k : Int} {t : ByteArray} {n : Int} {ts : List Typ} {ns : List ByteArray} (hs : shN k ts ns []) (h : p.at' <= q.at') : wfN (mkN L p k t n ts ns []) /\ nsz (mkN L p k t n ts ns []) + 3 * p.at' <= 3 * q.at' + 1 := by
 refine ⟨zb9 _ _ _ _ _ _ _ trivial hs, ?_⟩
 rw [zbF]
 simp only [nszs]
 omega
theorem zsH (hL : OkL L) (hl : L.length <= 10000) {ki : PS -> Typ × PS} {ex : PS -> Nod × PS} (hk : Tame L ki) (he : Tame L ex) (ne : Nice L ex) : Nice L (zeH L ki ex) := fun p hp => by
 unfold zeH
 by_cases c1 : p.e = 0 /\ (curT L p).kind = 3
 ·rw [if_pos c1]; exact zem (by simp [shN]) (by simp only; omega)
 rw [if_neg c1]
 by_cases c2 : p.e = 0 /\ (curT L p).kind = 4
 ·rw [if_pos c2]; exact zem (by simp [shN]) (by simp only; omega)
 rw [if_neg c2]
 by_cases c3 : (zab L ziJ p).1 = true
 ·rw [if_pos c3]; exact zem (by simp [shN]) (zah hL hp).le
 rw [if_neg c3]
 by_cases c4 : (zab L zgq p).1 = true
 ·rw [if_pos c4]; exact zem (by simp [shN]) (zah hL hp).le
 rw [if_neg c4]
 by_cases c5 : (zab L ziK p).1 = true
 ·rw [if_pos c5]; exact zem (by simp [shN]) (zah hL hp).le
 rw [if_neg c5]
 by_cases c6 : (zab L zd8 p).1 = true
 ·rw [if_pos c6]
  have h1 := zah hL hp (s := zd8)
  have h2 := h1.trans (zap hL h1.lt (s := bs [40]))
  exact zem (by simp [shN]) (h2.trans (zap hL h2.lt)).le
 rw [if_neg c6]
 by_cases c7 : (zab L zc9 p).1 = true
 ·rw [if_pos c7]
  have h1 := zah hL hp (s := zc9)
  have h2 := zap hL h1.lt (s := bs [40])
  have h3 := he _ h2.lt
  have n3 := ne _ h2.lt
  have h4 := zap hL h3.lt (s := bs [41])
  have t := (zaL c7).1
  refine ⟨zb9 _ _ _ _ _ _ _ (ks1 n3.1) (by simp [shN]), ?_⟩
  rw [zbF, z1]
  have := h2.le
  have := h4.le
  simp only at *
  omega
 rw [if_neg c7]
 by_cases c8 : (zab L (bs [40]) p).1 = true
 ·rw [if_pos c8]
  have h1 := zah hL hp (s := bs [40])
  have h2 := he _ h1.lt
  have n2 := ne _ h1.lt
  have h3 := zap hL h2.lt (s := bs [41])
  have t := (zaL c8).1
  refine ⟨n2.1, ?_⟩
  have := n2.2
  have := h3.le
  show nsz (ex (zab L (bs [40]) p).2).1 + 3 * p.at' <= 3 * (zax L (bs [41]) (ex (zab L (bs [40]) p).2).2).at' + 1
  omega
 rw [if_neg c8]
 by_cases c9 : (zab L (bs [123]) p).1 = true
 ·rw [if_pos c9]
  have h1 := zah hL hp (s := bs [123])
  have r := zpf hL hl he ne p _ h1.lt
  have t := (zaL c9).1
  exact ⟨r.1, by omega⟩
 rw [if_neg c9]
 have h1 := zaK hL hp
 by_cases c10 : (zab L (bs [91]) (zaz L p).2).1 = true
 ·have h2 := h1.trans (zah hL h1.lt (s := bs [91]))
  have h3 := h2.trans (zjI hL hk (L.length + 1) [] _ h2.lt)
  have tl := zmF (L := L) (ki := ki) (L.length + 1) [] (zab L (bs [91]) (zaz L p).2).2
  show wfN (if (zab L (bs [91]) (zaz L p).2).1 = true then _ else _ : Nod × PS).1 /\ nsz (if (zab L (bs [91]) (zaz L p).2).1 = true then _ else _ : Nod × PS).1 + 3 * p.at' <= 3 * (if (zab L (bs [91]) (zaz L p).2).1 = true then _ else _ : Nod × PS).2.at' + 1
  rw [if_pos c10]
  exact zem (by simp only [List.length_nil] at tl; simp [shN]; omega) h3.le
 ·show wfN (if (zab L (bs [91]) (zaz L p).2).1 = true then _ else _ : Nod × PS).1 /\ nsz (if (zab L (bs [91]) (zaz L p).2).1 = true then _ else _ : Nod × PS).1 + 3 * p.at' <= 3 * (if (zab L (bs [91]) (zaz L p).2).1 = true then _ else _ : Nod × PS).2.at' + 1
  rw [if_neg c10]
  exact zem (by simp [shN]) h1.le
theorem zg1 (hL : OkL L) {ex : PS -> Nod × PS} (he : Tame L ex) (ne : Nice L ex) : ∀ (n : Nat) (a : Nod) (p : PS), p.at' < L.length -> wfN a -> wfN (zcz L ex n a p).1 /\ nsz (zcz L ex n a p).1 + 3 * p.at' <= 3 * (zcz L ex n a p).2.at' + nsz a
 | 0, a, p, hp, ha => by rw [zcz]; exact ⟨ha, by show nsz a + 3 * p.at' <= 3 * p.at' + nsz a; omega⟩
 | n + 1, a, p, hp, ha => by
  rw [zcz]
  split
  ·rename_i c
   have t := (zaL c).1
   have h1 := zah hL hp (s := bs [40])
   have h2 := he _ h1.lt
   have n2 := ne _ h1.lt
   have h3 := zap hL h2.lt (s := bs [41])
   have r := zg1 hL he ne n (mkN L p 7 (bs []) 0 [] [] [a, (ex (zab L (bs [40]) p).2).1]) _ h3.lt (zb9 _ _ _ _ _ _ _ (ks2 ha n2.1) (by simp [shN]))
   rw [zbF, z2] at r
   refine ⟨r.1, ?_⟩
   have := h3.le
   have := n2.2
   have := r.2
   simp only at *
   omega
  split
  ·rename_i c
   have t := (zaL c).1
   have h1 := zah hL hp (s := bs [46])
   have h2 := zaK hL h1.lt
   have r := zg1 hL he ne n (mkN L p 9 (zaz L (zab L (bs [46]) p).2).1 0 [] [] [a]) _ h2.lt (zb9 _ _ _ _ _ _ _ (ks1 ha) (by simp [shN]))
   rw [zbF, z1] at r
   refine ⟨r.1, ?_⟩
   have := h2.le
   have := r.2
   simp only at *
   omega
  ·exact ⟨ha, by show nsz a + 3 * p.at' <= 3 * p.at' + nsz a; omega⟩
theorem zrc (hL : OkL L) (hl : L.length <= 10000) {ki : PS -> Typ × PS} {ex un : PS -> Nod × PS} (hk : Tame L ki) (he : Tame L ex) (ne : Nice L ex) (nu : Nice L un) : Nice L (zel L ki ex un) := fun p hp => by
 unfold zel
 split
 ·rename_i c
  have t := (zaL c).1
  have h1 := zah hL hp (s := bs [45])
  have n2 := nu _ h1.lt
  refine ⟨zb9 _ _ _ _ _ _ _ (ks1 n2.1) (by simp [shN]), ?_⟩
  rw [zbF, z1]
  have := n2.2
  simp only at *
  omega
 split
 ·rename_i c
  have t := (zaL c).1
  have h1 := zah hL hp (s := wNot)
  have n2 := nu _ h1.lt
  refine ⟨zb9 _ _ _ _ _ _ _ (ks1 n2.1) (by simp [shN]), ?_⟩
  rw [zbF, z1]
  have := n2.2
  simp only at *
  omega
 ·have a := zsH hL hl hk he ne p hp
  have ta := zlv hL hk he p hp
  have r := zg1 hL he ne (L.length + 1) (zeH L ki ex p).1 (zeH L ki ex p).2 ta.lt a.1
  unfold zgZ
  exact ⟨r.1, by simp only; omega⟩
theorem zva (hL : OkL L) (hl : L.length <= 10000) {ki : PS -> Typ × PS} (hk : Tame L ki) (d : Nat) : Nice L (euP L ki d).1 /\ Nice L (euP L ki d).2 := by
 induction d with
 | zero => exact ⟨fun p hp => ⟨zoD, by show 1 + 3 * p.at' <= 3 * p.at' + 1; omega⟩, fun p hp => ⟨zoD, by show 1 + 3 * p.at' <= 3 * p.at' + 1; omega⟩⟩
 | succ d ih =>
  have tm := zmW hL hk d
  have dn : ∀ p : PS, p.at' < L.length -> ¬ (zau L p).1 = true -> wfN noN /\ nsz noN + 3 * p.at' <= 3 * (zau L p).2.at' + 1 := fun p hp c => by
   have := (ziL (L := L) hp).le
   rw [zgK c]
   exact ⟨zoD, by show 1 + 3 * p.at' <= 3 * (zdH L p).at' + 1; omega⟩
  have up : ∀ (f : PS -> Nod × PS), Nice L f -> ∀ p : PS, p.at' < L.length -> (zau L p).1 = true -> wfN (zcd (f (zau L p).2)).1 /\ nsz (zcd (f (zau L p).2)).1 + 3 * p.at' <= 3 * (zcd (f (zau L p).2)).2.at' + 1 := fun f nf p hp c => by
   have hp' : (zau L p).2.at' < L.length := by rw [(zb3 c).1]; exact hp
   have r := nf _ hp'
   have e : (zau L p).2.at' = p.at' := by rw [(zb3 c).1]
   rw [e] at r
   exact r
  rw [euP]
  refine ⟨fun p hp => ?_, fun p hp => ?_⟩
  ·show wfN (if (zau L p).1 = true then _ else _ : Nod × PS).1 /\ nsz (if (zau L p).1 = true then _ else _ : Nod × PS).1 + 3 * p.at' <= 3 * (if (zau L p).1 = true then _ else _ : Nod × PS).2.at' + 1
   by_cases c : (zau L p).1 = true
   ·rw [if_pos c]
    exact up _ (zsF hL hk tm.1 ih.1 (zsG hL hk tm.2 ih.2)) p hp c
   ·rw [if_neg c]; exact dn p hp c
  ·show wfN (if (zau L p).1 = true then _ else _ : Nod × PS).1 /\ nsz (if (zau L p).1 = true then _ else _ : Nod × PS).1 + 3 * p.at' <= 3 * (if (zau L p).1 = true then _ else _ : Nod × PS).2.at' + 1
   by_cases c : (zau L p).1 = true
   ·rw [if_pos c]
    exact up _ (zrc hL hl hk tm.1 ih.1 ih.2) p hp c
   ·rw [if_neg c]; exact dn p hp c
structure DecG (d : Dec) : Prop where
 types : d.types.length = 2
 vars : d.vars.length <= 10001
 body : wfN d.body
 size : nsz d.body <= 30001
theorem zmH : ∀ (n : Nat) (l : List (ByteArray × Typ)) (p : PS), (zdI L n l p).1.length <= l.length + n
 | 0, l, p => by rw [zdI]; exact Nat.le_refl _
 | n + 1, l, p => by
  rw [zdI]
  split <;> split <;> first
   | (refine Nat.le_trans (zmH n _ _) ?_; simp only [List.length_append, List.length_cons, List.length_nil]; omega)
   | (simp only [List.length_append, List.length_cons, List.length_nil]; omega)
theorem zua (hl : L.length <= 10000) (p : PS) : (zdJ L p).1.length <= 10001 := by
 unfold zdJ
 split
 ·have := zmH (L := L) (L.length + 1) [] (zab L (bs [91]) p).2
  simp only [List.length_nil] at this
  omega
 ·simp
theorem zub (hL : OkL L) (hl : L.length <= 10000) (p : PS) (hp : p.at' < L.length) : DecG (decP L p).1 := by
 have h1 := zah hL hp (s := zdq)
 have h2 := h1.trans (zap hL h1.lt (s := wFn))
 have h3 := h2.trans (zaK hL h2.lt)
 have h4 := h3.trans (zlh hL _ h3.lt)
 have h5 := h4.trans (zeM hL (zcL hL) _ h4.lt)
 have h6 := h5.trans (zap hL h5.lt (s := bs [61]))
 have n7 := (zva hL hl (zcL hL) 102).1 _ h6.lt
 have h7 := zlg hL _ h6.lt
 have hh := zoC (L := L) (ki := kiP L) (zdJ L (zaz L (zax L wFn (zab L zdq p).2)).2).2
 unfold decP
 refine ⟨?_, zua hl _, n7.1, ?_⟩
 ·simp only
  split
  ·simp only [List.length_append, List.length_cons, List.length_nil]; omega
  ·omega
 ·have := n7.2
  have := h7.lt
  simp only [exP] at *
  omega
theorem zmI (hL : OkL L) (hl : L.length <= 10000) : ∀ (n : Nat) (l : List Dec) (p : PS), p.at' < L.length -> (∀ d, d ∈ l -> DecG d) -> ∀ d, d ∈ (zb8 L n l p).1 -> DecG d
 | 0, l, p, hp, h, d, hd => by rw [zb8] at hd; exact h d hd
 | n + 1, l, p, hp, h, d, hd => by
  rw [zb8] at hd
  split at hd
  ·refine zmI hL hl n _ _ (zrz hL p hp).lt (fun x hx => ?_) d hd
   rcases List.mem_append.1 hx with hx | hx
   ·exact h x hx
   ·simp only [List.mem_singleton] at hx; subst hx; exact zub hL hl p hp
  ·exact h d hd
end
theorem zrd (s : ByteArray) : ∀ d, d ∈ (zba s).1.decs -> DecG d := fun d hd => by
 unfold zba at hd
 simp only at hd
 by_cases q1 : (lexP s).2.e = 0
 ·obtain ⟨hL, hl⟩ := zlm q1
  rw [if_neg (fun z => z q1)] at hd
  split at hd
  ·cases hd
  ·have h0 : ps0.at' < (lexP s).1.length := hL.pos
   exact zmI hL hl _ _ _ (zil hL _ _ _ h0).lt (fun x hx => by cases hx) d hd
 ·rw [if_pos q1] at hd; cases hd
end Go.Gr
namespace Go.Gr
open Go.Abs Go.Proofs
theorem zgx (t : Typ) : (zdb t).size <= 20000 := by
 unfold zdb
 split
 ·rename_i h
  have a := zb1 t false (zcN h)
  have b := znv h
  omega
 ·simp
def TokN (l : List Tok) : Prop := ∀ t, t ∈ l -> t.kind = 1 -> t.text.size <= 32
theorem zsT (l : List UInt8) (h : (tokL l).e = 0) (k : (tokL l).kind = 1) : (tokL l).text.length <= 32 := by
 match l with
 | [] => simp [tokL, badR] at h
 | c :: r =>
  rw [tokL] at h k ⊢
  split at h
  ·rename_i c1
   rw [if_pos c1] at k ⊢
   split at h
   ·simp [badR] at h
   ·rename_i c2
    rw [if_neg c2]
    simp only [List.length_take]
    omega
  ·rename_i c1
   rw [if_neg c1] at k
   split at k
   ·split at k
    ·simp at k
    ·simp [badR] at k
   split at k
   ·split at k
    ·simp [badR] at k
    ·split at k
     ·simp [badR] at k
     ·simp at k
   split at k
   ·simp [badR] at k
   ·simp at k
theorem zm2 : ∀ (n : Nat) (l : List UInt8) (a b : Int) (ts : List Tok), TokN ts -> TokN (lexL n l a b ts).1
 | 0, l, a, b, ts, h => by rw [lexL]; exact h
 | n + 1, l, a, b, ts, h => by
  rw [lexL]
  simp only
  split
  ·intro t ht k
   rcases List.mem_append.1 ht with ht | ht
   ·exact h t ht k
   ·simp only [List.mem_singleton] at ht; subst ht; simp at k
  generalize l.drop (blkL false l) = l' at *
  have go : (tokL l').e = 0 -> TokN (lexL n (l'.drop (tokL l').len) (zbd (l.take (blkL false l)) a b).1 ((zbd (l.take (blkL false l)) a b).2 + (tokL l').len) (ts ++ [⟨(tokL l').kind, bA (tokL l').text, (zbd (l.take (blkL false l)) a b).1, (zbd (l.take (blkL false l)) a b).2⟩])).1 := fun e0 => by
   refine zm2 n _ _ _ _ ?_
   intro t ht k
   rcases List.mem_append.1 ht with ht | ht
   ·exact h t ht k
   ·simp only [List.mem_singleton] at ht
    subst ht
    simp only at k ⊢
    have := zsT l' e0 k
    show (bA (tokL l').text).size <= 32
    rw [zpk]; exact this
  have nil : ∀ d : Dia, TokN (([] : List Tok), d).1 := fun d t ht => by cases ht
  by_cases q : (tokL l').e = 0 /\ ts.length = 8192
  ·rw [if_pos q, if_pos (by decide)]
   exact nil _
  ·rw [if_neg q]
   by_cases e0 : (tokL l').e = 0
   ·rw [if_neg (fun z => z e0)]
    exact go e0
   ·rw [if_pos e0]
    exact nil _
theorem zsU (s : ByteArray) : TokN (lexP s).1 := by
 unfold lexP
 split
 ·intro t ht; cases ht
 ·exact zm2 _ _ _ _ _ (fun t ht => by cases ht)
theorem zsV {L : List Tok} (h : TokN L) (p : PS) : (zaz L p).1.size <= 32 := by
 unfold zaz
 split
 ·rename_i c
  have : curT L p ∈ L := by
   unfold curT at c ⊢
   rw [List.getD_eq_getElem?_getD] at c ⊢
   cases q : L[p.at']? with
   | none => rw [q] at c; simp [zgL] at c
   | some t => exact List.mem_of_getElem? q
  exact h _ this c.2
 ·simp
theorem zlQ {L : List Tok} (h : TokN L) : ∀ (n : Nat) (l : List Dec) (p : PS), (∀ d, d ∈ l -> d.name.size <= 32) -> ∀ d, d ∈ (zb8 L n l p).1 -> d.name.size <= 32
 | 0, l, p, hl, d, hd => by rw [zb8] at hd; exact hl d hd
 | n + 1, l, p, hl, d, hd => by
  rw [zb8] at hd
  split at hd
  ·refine zlQ h n _ _ (fun x hx => ?_) d hd
   rcases List.mem_append.1 hx with hx | hx
   ·exact hl x hx
   ·simp only [List.mem_singleton] at hx; subst hx; unfold decP; exact zsV h _
  ·exact hl d hd
theorem zp2 (s : ByteArray) : ∀ d, d ∈ (zba s).1.decs -> d.name.size <= 32 := fun d hd => by
 unfold zba at hd
 simp only at hd
 split at hd
 ·cases hd
 split at hd
 ·cases hd
 ·exact zlQ (zsU s) _ _ _ (fun x hx => by cases hx) d hd
theorem ziQ : ∀ (l : List (ByteArray × ByteArray)) (i : Nat) (ns : List ByteArray) (ms : List Mdl) (bad : List Dia), (∀ m, m ∈ ms -> ∀ d, d ∈ m.decs -> DecG d /\ d.name.size <= 32) ->
  (∀ m, m ∈ (zbq l i ns ms bad).1.2 -> ∀ d, d ∈ m.decs -> DecG d /\ d.name.size <= 32)
 | [], i, ns, ms, bad, h => by rw [zbq]; exact h
 | s :: l, i, ns, ms, bad, h => by
  rw [zbq]
  refine ziQ l _ _ _ _ fun m hm => ?_
  rcases List.mem_append.1 hm with hm | hm
  ·exact h m hm
  ·simp only [List.mem_singleton] at hm
   subst hm
   exact fun d hd => ⟨zrd s.2 d hd, zp2 s.2 d hd⟩
theorem zj0 : ∀ (l : List (ByteArray × ByteArray)) (i : Nat) (ns : List ByteArray) (ms : List Mdl) (bad : List Dia), bad.length <= (zbq l i ns ms bad).2.length /\ ((zbq l i ns ms bad).2.length = 0 -> (∀ n, n ∈ ns -> n.size <= 32) -> ∀ n, n ∈ (zbq l i ns ms bad).1.1 -> n.size <= 32)
 | [], i, ns, ms, bad => by rw [zbq]; exact ⟨Nat.le_refl _, fun _ h => h⟩
 | s :: l, i, ns, ms, bad => by
  rw [zbq]
  have r := zj0 l (i + 1) (ns ++ [s.1]) (ms ++ [(zba s.2).1]) (if zbm s.1 = false then bad ++ [⟨i, 1, 1, 10⟩] else if 0 <= modZ ns s.1 then bad ++ [⟨i, 1, 1, 8⟩] else if (zba s.2).2.e ≠ 0 then bad ++ [⟨i, (zba s.2).2.line, (zba s.2).2.col, (zba s.2).2.e⟩] else bad)
  by_cases c : zbm s.1 = false
  ·rw [if_pos c] at r ⊢
   have := r.1
   rw [List.length_append] at this
   simp only [List.length_cons, List.length_nil] at this
   exact ⟨by omega, fun q => by omega⟩
  ·refine ⟨Nat.le_trans ?_ r.1, fun q h => r.2 q fun n hn => ?_⟩
   ·rw [if_neg c]
    split
    ·simp
    split
    ·simp
    ·exact Nat.le_refl _
   ·rcases List.mem_append.1 hn with hn | hn
    ·exact h n hn
    ·simp only [List.mem_singleton] at hn; subst hn; exact zhB (by simpa using c)
def EntM (ms : List Mdl) (e : Ent) : Prop := 0 <= e.module /\ e.module < ms.length /\ 0 <= e.decl /\ e.decl < (ms.getD e.module.toNat noM).decs.length
theorem zmR {α : Type} (q : α -> Bool) (l : List α) : fi q 0 l = -1 \/ (0 <= fi q 0 l /\ fi q 0 l < l.length) := by
 have := zk3 q 0 l
 omega
theorem zih (ms : List Mdl) (m i : Int) (h0 : 0 <= m) (h1 : m < ms.length) (x : Imp) : ∀ (l : List ByteArray) (sc : List Ent) (bad : List Dia), (∀ e, e ∈ sc -> EntM ms e) -> ∀ e, e ∈ (impN (ms.getD m.toNat noM) m i x l sc bad).1 -> EntM ms e
 | [], sc, bad, h => by rw [impN]; exact h
 | s :: l, sc, bad, h => by
  rw [impN]
  split
  ·exact zih ms m i h0 h1 x l _ _ h
  rename_i c
  split
  ·exact zih ms m i h0 h1 x l _ _ h
  refine zih ms m i h0 h1 x l _ _ fun e he => ?_
  rcases List.mem_append.1 he with he | he
  ·exact h e he
  ·simp only [List.mem_singleton] at he
   subst he
   have a := zmR (fun d : Dec => decide (d.name = s)) (ms.getD m.toNat noM).decs
   have b : ¬ zbU (ms.getD m.toNat noM) s < 0 := fun z => c (.inl z)
   unfold zbU at b
   unfold EntM zbU
   simp only
   omega
theorem zm3 (ns : List ByteArray) (ms : List Mdl) (hn : ns.length = ms.length) (i : Int) : ∀ (l : List Imp) (sc : List Ent) (bad : List Dia), (∀ e, e ∈ sc -> EntM ms e) -> ∀ e, e ∈ (zd6 ns ms i l sc bad).1 -> EntM ms e
 | [], sc, bad, h => by rw [zd6]; exact h
 | x :: l, sc, bad, h => by
  rw [zd6]
  refine zm3 ns ms hn i l _ _ ?_
  unfold zbt
  split
  ·exact h
  ·rename_i c
   have a := zmR (fun n => decide (n = x.from_)) ns
   unfold modZ at c ⊢
   exact zih ms _ i (by omega) (by omega) x _ _ _ h
theorem zjr (ms : List Mdl) (i : Nat) (hi : i < ms.length) : ∀ (l : List Dec) (k : Nat) (sc : List Ent) (bad : List Dia), k + l.length <= (ms.getD i noM).decs.length -> (∀ e, e ∈ sc -> EntM ms e) -> ∀ e, e ∈ (zdF i l k sc bad).1 -> EntM ms e
 | [], k, sc, bad, hk, h => by rw [zdF]; exact h
 | d :: l, k, sc, bad, hk, h => by
  rw [zdF]
  simp only [List.length_cons] at hk
  split
  ·exact zjr ms i hi l (k + 1) _ _ (by omega) h
  refine zjr ms i hi l (k + 1) _ _ (by omega) fun e he => ?_
  rcases List.mem_append.1 he with he | he
  ·exact h e he
  ·simp only [List.mem_singleton] at he
   subst he
   unfold EntM
   simp only [Int.toNat_natCast]
   omega
theorem zj1 (ns : List ByteArray) (ms : List Mdl) (hn : ns.length = ms.length) : ∀ (l : List Mdl) (i : Nat) (all : List (List Ent)) (bad : List Dia), l = ms.drop i -> all.length = i -> i <= ms.length -> (∀ sc, sc ∈ all -> ∀ e, e ∈ sc -> EntM ms e) ->
  (zbs ns ms l i all bad).1.length = ms.length /\ ∀ sc, sc ∈ (zbs ns ms l i all bad).1 -> ∀ e, e ∈ sc -> EntM ms e
 | [], i, all, bad, hl, ha, hi, h => by
  rw [zbs]
  have : (ms.drop i).length = 0 := by rw [<- hl]; try rfl
  rw [List.length_drop] at this
  exact ⟨by simp only; omega, h⟩
 | m :: l, i, all, bad, hl, ha, hi, h => by
  have hlt : i < ms.length := by
   by_cases q : i < ms.length
   ·exact q
   ·rw [List.drop_eq_nil_of_le (by omega)] at hl; cases hl
  rw [List.drop_eq_getElem_cons hlt] at hl
  have h1 := (List.cons.inj hl).1
  have h2 := (List.cons.inj hl).2
  have hm : ms.getD i noM = m := by rw [List.getD_eq_getElem?_getD, List.getElem?_eq_getElem hlt, h1]; try rfl
  rw [zbs]
  refine zj1 ns ms hn l (i + 1) _ _ h2 (by simp; omega) (by omega) fun sc hsc => ?_
  rcases List.mem_append.1 hsc with hsc | hsc
  ·exact h sc hsc
  ·simp only [List.mem_singleton] at hsc
   subst hsc
   exact zjr ms i hlt m.decs 0 _ _ (by rw [hm]; omega) (zm3 ns ms hn i m.imps [] bad fun e he => by cases he)
structure LinkG (L : Lnk) : Prop where
 good : GoodL L
 decs : ∀ m, m ∈ L.mods -> ∀ d, d ∈ m.decs -> DecG d
 decNames : ∀ m, m ∈ L.mods -> ∀ d, d ∈ m.decs -> d.name.size <= 32
 modNames : ∀ n, n ∈ L.names -> n.size <= 32
 small : ∀ m, m ∈ L.mods -> SmallM m
 main : EntOk L ⟨bs [], L.main.module, L.main.decl⟩
theorem zlR (l : List (ByteArray × ByteArray)) (h : (zfE l).2.length = 0) : LinkG (zfE l).1 := by
 have hs := ziR l []
 have hg : ∀ m, m ∈ (zbS l).1.2 -> ∀ d, d ∈ m.decs -> DecG d /\ d.name.size <= 32 := by
  unfold zbS
  split
  ·intro m hm; cases hm
  ·exact ziQ l 0 [] [] [] fun m hm => by cases hm
 have hb : (zbS l).2.length = 0 -> ∀ n, n ∈ (zbS l).1.1 -> n.size <= 32 := by
  unfold zbS
  split
  ·intro q; simp at q
  ·exact fun q => (zj0 l 0 [] [] []).2 q fun n hn => by cases hn
 unfold zfE at h ⊢
 simp only at h ⊢
 generalize zbS l = f at *
 have hn : f.1.1.length = f.1.2.length := hs.2.1
 have s1 := zj1 f.1.1 f.1.2 hn f.1.2 0 [] [] (by simp) rfl (by omega) (fun sc hsc => by cases hsc)
 generalize zbs f.1.1 f.1.2 f.1.2 0 [] [] = s at *
 generalize zc8 f.1.1 f.1.2 f.1.2 0 [] = t at *
 by_cases c1 : 0 < f.2.length
 ·rw [if_pos c1] at h; simp only at h; omega
 rw [if_neg c1] at h ⊢
 by_cases c2 : 0 < s.2.length
 ·rw [if_pos c2] at h; simp only at h; omega
 rw [if_neg c2] at h ⊢
 by_cases c3 : 0 < t.length
 ·rw [if_pos c3] at h; simp only at h; omega
 rw [if_neg c3] at h ⊢
 by_cases c4 : modZ f.1.1 zcn < 0
 ·rw [if_pos c4] at h; simp at h
 rw [if_neg c4] at h ⊢
 by_cases c5 : zbU (f.1.2.getD (modZ f.1.1 zcn).toNat noM) zcn < 0
 ·rw [if_pos c5] at h; simp at h
 rw [if_neg c5] at h ⊢
 split
 ·rename_i c6; rw [if_pos c6] at h; simp at h
 have a := zmR (fun n => decide (n = zcn)) f.1.1
 have b := zmR (fun d : Dec => decide (d.name = zcn)) (f.1.2.getD (modZ f.1.1 zcn).toNat noM).decs
 refine ⟨⟨hs.1, hn, s1.1, fun m hm d hd => ⟨(hg m hm d hd).1.types, by have := (hg m hm d hd).1.vars; omega⟩, fun sc hsc e he => ?_⟩, fun m hm d hd => (hg m hm d hd).1, fun m hm d hd => (hg m hm d hd).2, hb (by omega), hs.2.2, ?_⟩
 ·have := s1.2 sc hsc e he
  exact ⟨this.1, this.2.1, this.2.2.1, this.2.2.2⟩
 ·unfold modZ at c4 c5 b ⊢
  unfold zbU at c5 ⊢
  refine ⟨?_, ?_, ?_, ?_⟩ <;> simp only <;> omega
end Go.Gr
namespace Go.Gr
open Go.Abs Go.Proofs
set_option maxRecDepth 20000 in
theorem zvm (l : List (ByteArray × ByteArray)) : PCall Pg F.w07_Few [.one (.sl false 2 (l.map srcE))] (.one (.bool (decide (l.length <= 20) && fewL l 0))) := by
 refine zsw (by simp) fun o c hN hp => ?_
 obtain ⟨R, hR⟩ : ∃ R, (decide (l.length <= 20) && fewL l 0) = R := ⟨_, rfl⟩
 rw [hR]
 unfold zk2
 simp
 refine gd.mk (fun h => ?_) (fun h => ?_)
 ·have h : ¬ l.length <= 20 := by simp at h; omega
  simp [h] at hR
  simp [hR]
 have h : l.length <= 20 := by simp at h; omega
 simp [h] at hR
 refine W.loop Pg_mixed hp (fun Y : Nat × Nat => Y.1 <= l.length /\ Y.2 <= 70000 /\ fewL (l.drop Y.1) Y.2 = R) (fun Y => [(4, .c (.d (.int .i64 Y.1))), (3, .c (.d (.int .i64 Y.2))), (0, .c (.d (.sl false 2 (l.map srcE))))]) (fun _ => []) (fun Y => l.length - Y.1) (0, 0) [] ⟨by simp, by simp, by simpa using hR⟩ (by simp) fun ⟨j, n⟩ ⟨i1, i2, i3⟩ => ?_
 unfold zib
 simp only at i1 i2 i3
 simp
 refine gd.mk (fun h => ?_) (fun h => ?_)
 ·have hj : j < l.length := by simpa using h
  obtain ⟨s, hs⟩ : ∃ s, l[j] = s := ⟨_, rfl⟩
  rw [List.drop_eq_getElem_cons hj, hs, fewL] at i3
  have hw := wrap_i64 (n := (j : Int) + 1) (by omega) (by omega)
  have hw2 := wrap_i64 (n := (70000 : Int) - n) (by omega) (by omega)
  by_cases c1 : (70000 : Int) - n < s.2.size
  ·rw [if_pos (.inl c1)] at i3
   simp [hj, hs, hw2, c1, <- i3]
  by_cases c2 : (1000 : Int) < s.1.size
  ·rw [if_pos (.inr (by omega))] at i3
   simp [hj, hs, hw2, c1, c2, <- i3]
  rw [if_neg (fun z => z.elim c1 (fun z => c2 (by omega)))] at i3
  have hw3 := wrap_i64 (n := (n : Int) + s.2.size) (by omega) (by omega)
  simp [hj, hs, hw2, c1, c2]
  refine Abs.Next.mk (j + 1, n + s.2.size) [] ⟨by simp only; omega, by simp only; omega, by simpa using i3⟩ (by simp only; omega) ?_
  simp [hw, hw3]
 ·have hj : j = l.length := by simp at h; omega
  subst hj
  rw [List.drop_length, fewL] at i3
  simp [<- i3]
end Go.Gr
namespace Go.Gr
open Go.Abs Go.Proofs
def fb (s : CS) : List Fun × List Dia := (s.funs, s.bad)
@[simp] theorem zpR (a b e : Int) (s : CS) : fb (zaM a b e s) = fb s := by unfold zaM; split <;> rfl
@[simp] theorem zeF (t : Typ) (a b : Int) (s : CS) : fb (zay t a b s).2 = fb s := by unfold zay; simp only; split <;> simp
@[simp] theorem zlA (t : Typ) (a b : Int) (s : CS) : fb (zbo t a b s).2 = fb s := by unfold zbo; simp only; split <;> simp
@[simp] theorem zxy (x : Cor) (t u : Typ) (a b : Int) (s : CS) : fb (zaZ x t u a b s).2 = fb s := by unfold zaZ; split <;> rfl
@[simp] theorem zmz (x : Cor) (t u : Typ) (a b : Int) (s : CS) : fb (zaG x t u a b s).2 = fb s := by
 unfold zaG
 split
 ·rfl
 split
 ·rfl
 split <;> simp
@[simp] theorem zxN (u : Typ) (a b : Int) (x : (Cor × Typ) × CS) : fb (anyC u a b x).2 = fb x.2 := by unfold anyC; split <;> simp
@[simp] theorem zuY (a b : Int) : ∀ (ts l : List Typ) (s : CS), fb (zcl a b ts l s).2 = fb s
 | [], l, s => by rw [zcl]
 | t :: ts, l, s => by
  rw [zcl]
  split
  ·rfl
  ·rw [zuY a b ts]; simp
@[simp] theorem zxO (s : CS) (t : List Ist) : fb { s with tab := t } = fb s := rfl
section
variable (L : Lnk)
@[simp] theorem zwz (a b : Int) (e : Ent) (l : List Typ) (s : CS) : fb (zby L a b e l s).2 = fb s := by
 unfold zby
 split
 ·simp
 ·simp only
  split <;> simp
def KInf (i : Inf) : Prop := ∀ env s, fb (i env s).2 = fb s
theorem zof (n : Nod) {i : Inf} (h : KInf i) (t : Typ) (env : Env) (s : CS) : fb (za1 n i t env s).2 = fb s := by unfold za1; simp [h env s]
theorem zuZ (n : Nod) : KInf (zcG L n) := fun env s => by
 unfold zcG
 simp only
 repeat' split
 all_goals simp
theorem zwk (n a : Nod) {ia ib : Inf} (ha : KInf ia) (hb : KInf ib) : KInf (letC n a ia ib) := fun env s => by
 unfold letC
 simp only
 split <;> simp [ha _ _, hb _ _]
theorem k_fn (n a : Nod) {ia : Inf} (ha : KInf ia) : KInf (fnC n a ia) := fun env s => by
 unfold fnC
 simp only
 repeat' split
 all_goals simp [ha _ _]
theorem zvK (n b : Nod) {ia ib : Inf} (ha : KInf ia) (hb : KInf ib) : KInf (zdz n b ia ib) := fun env s => by
 unfold zdz
 simp only
 repeat' split
 all_goals simp [ha _ _, hb _ _]
theorem zwl (n : Nod) {ia : Inf} (ha : KInf ia) : KInf (selC n ia) := fun env s => by
 unfold selC
 simp only
 repeat' split
 all_goals simp [ha _ _]
theorem zvL (n : Nod) {ia ib : Inf} (ha : KInf ia) (hb : KInf ib) : KInf (zdA n ia ib) := fun env s => by
 unfold zdA
 simp only
 repeat' split
 all_goals simp [ha _ _, hb _ _]
theorem k_if (q a b : Nod) {iq ia ib : Inf} (hq : KInf iq) (ha : KInf ia) (hb : KInf ib) : KInf (ifC q a b iq ia ib) := fun env s => by
 unfold ifC
 simp [hq _ _, ha _ _, hb _ _]
theorem k_as (n : Nod) {ia : Inf} (ha : KInf ia) : KInf (asC n ia) := fun env s => by
 unfold asC
 simp only
 repeat' split
 all_goals simp [ha _ _]
theorem k_op (n a b : Nod) {ia ib : Inf} (ha : KInf ia) (hb : KInf ib) : KInf (opC n a b ia ib) := fun env s => by
 unfold opC
 simp only
 repeat' split
 all_goals simp [zof _ ha, zof _ hb, ha _ _, hb _ _]
theorem zwm (n a : Nod) {ia : Inf} (ha : KInf ia) : KInf (oneC n a ia) := fun env s => by
 unfold oneC
 repeat' split
 all_goals simp [zof _ ha, ha _ _]
theorem zog : ∀ (l : List Nod), (∀ x, x ∈ l -> KInf (zao L x)) -> ∀ env s, fb (zaS L l env s).2 = fb s
 | [], _, env, s => by rw [zaS]
 | n :: l, h, env, s => by
  rw [zaS]
  simp only
  rw [zog l (fun x hx => h x (by simp [hx])), h n (by simp) env s]
theorem zwn (n : Nod) (h : ∀ x, x ∈ n.kids -> KInf (zao L x)) : KInf (recC n (zaS L n.kids)) := fun env s => by
 unfold recC
 simp only
 rw [zlA, zog L n.kids h]
 split <;> simp
theorem zkS {j : Inf} (h : KInf j) : KInf (stopC j) := fun env s => by
 unfold stopC
 split
 ·rfl
 ·exact h env s
theorem zkT (n : Nod) {rest : Inf} (hr : KInf rest) (h : ∀ x, x ∈ n.kids -> KInf (zao L x)) : KInf (headC L n rest) := fun env s => by
 unfold headC
 split
 ·rfl
 split
 ·rfl
 split
 ·rfl
 split
 ·rfl
 split
 ·rfl
 split
 ·exact zuZ L n env s
 split
 ·exact zwn L n h env s
 ·exact hr env s
theorem ztV (n : Nod) (h : ∀ x, x ∈ n.kids -> KInf (zao L x)) : KInf (zao L n) := by
 obtain ⟨k, tx, nn, ln, cl, ts, ns, ks⟩ := n
 match ks, h with
 | [], h => rw [eq0]; exact zkS (zkT L _ (fun env s => rfl) h)
 | [a], h =>
  have ha := h a (by simp [Nod.kids])
  rw [eq1]
  refine zkS (zkT L _ (fun env s => ?_) h)
  unfold zgs
  split
  ·exact k_fn _ _ ha env s
  split
  ·exact zwl _ ha env s
  split
  ·exact k_as _ ha env s
  ·exact zwm _ _ ha env s
 | [a, b], h =>
  have ha := h a (by simp [Nod.kids])
  have hb := h b (by simp [Nod.kids])
  rw [eq2]
  refine zkS (zkT L _ (fun env s => ?_) h)
  unfold zgt
  split
  ·exact zwk _ _ ha hb env s
  split
  ·exact zvK _ _ ha hb env s
  split
  ·exact zvL _ ha hb env s
  ·exact k_op _ _ _ ha hb env s
 | a :: b :: c :: l, h =>
  rw [eq3]
  exact zkS (zkT L _ (k_if a b c (h a (by simp [Nod.kids])) (h b (by simp [Nod.kids])) (h c (by simp [Nod.kids]))) h)
mutual
theorem zlB : ∀ n : Nod, KInf (zao L n)
 | .mk k tx nn ln cl ts ns ks => ztV L _ (zoh ks)
theorem zoh : ∀ l : List Nod, ∀ x, x ∈ l -> KInf (zao L x)
 | [], x, hx => by cases hx
 | n :: l, x, hx => by
  rcases List.mem_cons.1 hx with e | hx
  ·rw [e]; exact zlB n
  ·exact zoh l x hx
end
end
end Go.Gr
namespace Go.Gr
open Go.Abs Go.Proofs
theorem zdC {L : Lnk} (hG : LinkG L) {m k : Int} (h : EntOk L ⟨bs [], m, k⟩) : DecG (decAt L m k) /\ (decAt L m k).name.size <= 32 := by
 obtain ⟨mn, kn, M, e1, e2, g1, g2, _⟩ := zfH hG.good h
 exact ⟨hG.decs M (List.mem_of_getElem? g1) _ (List.mem_of_getElem? g2), hG.decNames M (List.mem_of_getElem? g1) _ (List.mem_of_getElem? g2)⟩
structure TOk (L : Lnk) (s : CS) (i : Nat) : Prop where
 tab : s.tab.length <= 256
 ist : ∀ x, x ∈ s.tab -> EntOk L ⟨bs [], x.module, x.decl⟩ /\ x.types.length <= 1000000
 sites : s.sites.length + (257 - i) * 240009 <= 1000000000
 funs : s.funs.length <= i
 bad : s.bad.length <= i
def startC (L : Lnk) (x : Ist) (s0 : CS) : CS := { s0 with module := x.module, vars := (decAt L x.module x.decl).vars.map (·.1), wth := x.types, e := 0 }
theorem start_ok {L : Lnk} {x : Ist} (hx : EntOk L ⟨bs [], x.module, x.decl⟩) (hxt : x.types.length <= 1000000) {s : CS} {i : Nat} (hi : i < 257) (h : TOk L s i) : SOk L (startC L x s) (8 * 30001 + 1 + (257 - (i + 1)) * 240009) := by
 have a := h.sites
 have b := h.funs
 have c := h.bad
 refine ⟨hxt, ?_, h.tab, hx.m0, hx.m1, ⟨?_, ?_⟩, h.ist⟩
 ·have e : (startC L x s).sites = s.sites := rfl
  have q : s.sites.length + (8 * 30001 + 1 + (257 - (i + 1)) * 240009) <= 1000000000 := by
   obtain ⟨k, hk⟩ : ∃ k, 257 - i = k + 1 := ⟨256 - i, by omega⟩
   have hk2 : 257 - (i + 1) = k := by omega
   rw [hk] at a
   rw [hk2, show 8 * 30001 + 1 = 240009 from rfl]
   clear h hx hxt
   generalize s.sites.length = n at *
   omega
  simp only [e]
  exact q
 ·have e : (startC L x s).funs = s.funs := rfl
  simp only [e]
  omega
 ·have e : (startC L x s).bad = s.bad := rfl
  simp only [e]
  omega
theorem fun_keep {L : Lnk} (hG : LinkG L) {x : Ist} (hx : EntOk L ⟨bs [], x.module, x.decl⟩) (hxt : x.types.length <= 1000000) {s : CS} {i : Nat} (hi : i < 257) (h : TOk L s i) : TOk L (funC L x s) (i + 1) := by
 have hd := (zdC hG hx).1
 have p0 := start_ok hx hxt hi h
 have f0 : fb (startC L x s) = fb s := rfl
 have hf := h.funs
 have hb := h.bad
 unfold funC
 unfold startC at p0 f0
 simp only
 generalize decAt L x.module x.decl = d at *
 generalize ({ s with module := x.module, vars := d.vars.map (·.1), wth := x.types, e := 0 } : CS) = s0 at *
 have p1 := zaW p0 (d.types.getD 0 noT) d.line d.col
 have f1 := zeF (d.types.getD 0 noT) d.line d.col s0
 generalize zay (d.types.getD 0 noT) d.line d.col s0 = r1 at *
 have p2 := zaW p1.1 (d.types.getD 1 noT) d.line d.col
 have f2 := zeF (d.types.getD 1 noT) d.line d.col r1.2
 generalize zay (d.types.getD 1 noT) d.line d.col r1.2 = r2 at *
 obtain ⟨T, hT⟩ : ∃ T, (if r2.2.e = 0 then zbo (fnT r1.1 r2.1) d.line d.col r2.2 else (fnT r1.1 r2.1, r2.2)) = T := ⟨_, rfl⟩
 have p3 : SOk L T.2 (8 * 30001 + 1 + (257 - (i + 1)) * 240009) /\ fb T.2 = fb r2.2 := by
  rw [<- hT]
  split
  ·exact ⟨(ze2 p2.1 _ _ _).1, zlA _ _ _ _⟩
  ·exact ⟨p2.1, rfl⟩
 rw [hT]
 clear hT
 obtain ⟨S, hS⟩ : ∃ S, (if x.module = L.main.module /\ x.decl = L.main.decl /\ zfA (bT 1) r1.1 = false then zaM d.line d.col 14 T.2 else T.2) = S := ⟨_, rfl⟩
 have p4 : SOk L S (8 * 30001 + 1 + (257 - (i + 1)) * 240009) /\ fb S = fb T.2 := by
  rw [<- hS]
  split
  ·exact ⟨zbi p3.1 _ _ _, zpR _ _ _ _⟩
  ·exact ⟨p3.1, rfl⟩
 rw [hS]
 clear hS
 have hne : EOk [(d.param, r1.1)] (nsz d.body) := ⟨by have := hd.size; simp only [List.length_cons, List.length_nil]; omega, fun v hv => by simp only [List.mem_singleton] at hv; subst hv; exact p1.2⟩
 have p5 := (zjq L hG.good d.body hd.body).2 [(d.param, r1.1)] S (1 + (257 - (i + 1)) * 240009) hne (p4.1.less (by have := hd.size; omega))
 have f5 := zlB L d.body [(d.param, r1.1)] S
 generalize zao L d.body [(d.param, r1.1)] S = y at *
 have p6 := coerceC_ok (b := (257 - (i + 1)) * 240009) (p5.1.less (by omega)) y.1.1 y.1.2 r2.1 d.body.line d.body.col
 have f6 := zmz y.1.1 y.1.2 r2.1 d.body.line d.body.col y.2
 generalize zaG y.1.1 y.1.2 r2.1 d.body.line d.body.col y.2 = z at *
 have f : fb z.2 = fb s := by rw [f6, f5, p4.2, p3.2, f2, f1, f0]
 have g1 : z.2.funs = s.funs := congrArg (·.1) f
 have g2 : z.2.bad = s.bad := congrArg (·.2) f
 split
 ·exact ⟨p6.tab, p6.ist, p6.sites, by simp [g1]; omega, by simp [g2]; omega⟩
 ·exact ⟨p6.tab, p6.ist, p6.sites, by simp [g1]; omega, by show z.2.bad.length <= _; rw [g2]; omega⟩
theorem zjQ {L : Lnk} (i : Nat) (hi : i < L.mods.length) : ∀ (l : List Dec) (k : Nat) (s : CS), k + l.length <= (L.mods.getD i noM).decs.length -> TOk L s 0 -> TOk L (zcc L i l k s).1 0
 | [], k, s, hk, h => by rw [zcc]; exact h
 | d :: l, k, s, hk, h => by
  simp only [List.length_cons] at hk
  rw [zcc]
  split
  ·exact zjQ i hi l (k + 1) s (by omega) h
  have hx : ∀ x, x ∈ (addR 256 s.tab ⟨i, k, []⟩).2 -> EntOk L ⟨bs [], x.module, x.decl⟩ /\ x.types.length <= 1000000 := fun x hx => by
   rcases zjB hx with hx | hx
   ·exact h.ist x hx
   ·subst hx
    exact ⟨⟨by simp only; omega, by simp only; omega, by simp only; omega, by simp only [Int.toNat_natCast]; omega⟩, by simp⟩
  simp only
  split
  ·exact ⟨zgF h.tab _, hx, h.sites, h.funs, h.bad⟩
  ·exact zjQ i hi l (k + 1) _ (by omega) ⟨zgF h.tab _, hx, h.sites, h.funs, h.bad⟩
theorem zor {L : Lnk} : ∀ (l : List Mdl) (i : Nat) (s : CS), l = L.mods.drop i -> TOk L s 0 -> TOk L (seedM L l i s).1 0
 | [], i, s, hl, h => by rw [seedM]; exact h
 | m :: l, i, s, hl, h => by
  have hlt : i < L.mods.length := by
   by_cases q : i < L.mods.length
   ·exact q
   ·rw [List.drop_eq_nil_of_le (by omega)] at hl; cases hl
  rw [List.drop_eq_getElem_cons hlt] at hl
  have h1 := (List.cons.inj hl).1
  have hm : L.mods.getD i noM = m := by rw [List.getD_eq_getElem?_getD, List.getElem?_eq_getElem hlt, h1]; try rfl
  have r := zjQ i hlt m.decs 0 s (by rw [hm]; omega) h
  rw [seedM]
  split
  ·exact r
  ·exact zor l (i + 1) _ (List.cons.inj hl).2 r
end Go.Gr
