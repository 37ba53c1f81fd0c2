import Derived.Test.YtaonnnlgceillaaVerT
/- The law of a code's registers. -/
set_option linter.unusedVariables false
set_option linter.unusedSimpArgs false
namespace Go.Gr
open Go.Abs Go.Proofs

theorem rinstr_uses {c : Cod} {p : Prc} {i : Ins} (h : rinstrOf c p i = true) (k : Nat) (hk : k < (usesOf c i).length) : 0 ≤ (usesOf c i)[k] ∧ (usesOf c i)[k] < p.regs := by
  unfold rinstrOf touchOf at h
  simp only [Bool.and_eq_true, List.all_eq_true, List.mem_append] at h
  exact hasB_true.1 (h.2 _ (.inl (by rw [← uses_eq]; exact List.getElem_mem hk)))

theorem rinstr_sets {c : Cod} {p : Prc} {i : Ins} (hp : 0 ≤ p.regs) (h : rinstrOf c p i = true) : setsOf i < p.regs := by
  unfold rinstrOf touchOf at h
  simp only [Bool.and_eq_true, List.all_eq_true, List.mem_append] at h
  rw [sets_eq]
  by_cases w : writes i = true
  · exact (hasB_true.1 (h.2 _ (.inr (by rw [if_pos w]; simp)))).2
  · have : rsetsOf i = -1 := by
      unfold writes at w; simp at w; unfold rsetsOf
      by_cases h1 : i.op = 23
      · rw [if_pos (by omega)]
      · by_cases h2 : i.op = 24
        · rw [if_pos (by omega)]
        · rw [if_pos (by have := w h1 h2; omega)]
    omega

theorem rverify_parts {c : Cod} (h : rverifyOf c = true) : (0 ≤ c.main ∧ c.main < c.procs.length) ∧ (∀ p, p ∈ c.procs → capOk p = true ∧ rprocOf c p = true) ∧ (∀ d, d ∈ c.cos → mayC d = true) ∧ c.procs.length ≤ 4096 := by
  unfold rverifyOf mainOk at h
  simp only [Bool.and_eq_true, List.all_eq_true, Bool.not_eq_true', decide_eq_false_iff_not, decide_eq_true_eq] at h
  exact ⟨hasB_true.1 h.2.1.1, fun p hp => ⟨h.2.2.1 p hp, h.2.2.2.1 p hp⟩, h.2.2.2.2.1, by omega⟩

theorem rproc_parts {c : Cod} {p : Prc} (h : rprocOf c p = true) : 0 ≤ p.caps ∧ p.caps < p.regs ∧ p.regs ≤ 256 ∧ 0 < p.code.length ∧ p.code.length ≤ 65536 ∧ ∀ i, i ∈ p.code → rinstrOf c p i = true := by
  unfold rprocOf at h
  simp only [Bool.and_eq_true, List.all_eq_true, Bool.not_eq_true', decide_eq_false_iff_not] at h
  exact ⟨by omega, by omega, by omega, by omega, by omega, h.2.2⟩

@[simp] theorem Prc.enc_g0 (p : Prc) (h : 0 < p.enc.length) : p.enc[0] = .int .i64 p.caps := rfl
@[simp] theorem Prc.enc_g1 (p : Prc) (h : 1 < p.enc.length) : p.enc[1] = .int .i64 p.regs := rfl
@[simp] theorem Prc.enc_g2 (p : Prc) (h : 2 < p.enc.length) : p.enc[2] = .sl false 4 (p.code.map Ins.enc) := rfl
@[simp] theorem Prc.enc_h0 (p : Prc) (h : 0 < (p.enc.map AC.d).length) : (p.enc.map AC.d)[0] = .d (.int .i64 p.caps) := rfl
@[simp] theorem Prc.enc_h1 (p : Prc) (h : 1 < (p.enc.map AC.d).length) : (p.enc.map AC.d)[1] = .d (.int .i64 p.regs) := rfl
@[simp] theorem Prc.enc_h2 (p : Prc) (h : 2 < (p.enc.map AC.d).length) : (p.enc.map AC.d)[2] = .d (.sl false 4 (p.code.map Ins.enc)) := rfl

set_option maxRecDepth 20000 in
set_option maxHeartbeats 4000000 in
theorem VerifyRegs_ok (c : Cod) : PCall Pg F.graduslaw18_VerifyRegs [.agg c.enc] (.one (.bool true)) := by
  refine w_graduslaw18_VerifyRegs (by simp) fun o c' hN hp => ?_
  have hl : c.cos.length ≤ lenMax := by
    have := o.1
    simp only [DV.ok, Cod.enc, D.okL, D.ok] at this
    simpa using this.2.2.2.1.1
  unfold lenMax at hl
  unfold mc_graduslaw18_VerifyRegs
  simp
  refine callK.mk awake_ok ?_
  simp
  refine callK.mk (Sized_ok c) ?_
  simp
  refine gd.mk (fun h => ?_) (fun h => trivial)
  refine callK.mk (vVerify_ok' c) ?_
  cases hv : rverifyOf c with
  | false => simp
  | true =>
    obtain ⟨v1, v2, v3, v4⟩ := rverify_parts hv
    simp
    refine W.loopL Pg_mixed hp lv_graduslaw18_VerifyRegs_0 [5] (fun j : Nat => j ≤ c.cos.length) (fun j => [.c (.d (.int .i64 j))]) (fun _ => []) (fun j => c.cos.length - j) 0 [] (by simp) (by simp [lv_graduslaw18_VerifyRegs_0]) fun j g1 => ?_
    unfold lp_graduslaw18_VerifyRegs_0 lv_graduslaw18_VerifyRegs_0
    simp
    refine gd.mk (fun h => ?_) (fun h => ?_)
    · simp at h
      have hj : j < c.cos.length := by omega
      simp [List.getElem?_eq_getElem hj]
      refine callK.mk (rMay_ok _) ?_
      rw [v3 _ (List.getElem_mem hj)]
      simp
      exact Abs.Next.mk (j + 1) [] (by omega) (by omega) (by simp; exact wrap_i64 (by omega) (by omega))
    clear h g1
    try simp
    refine W.loopL Pg_mixed hp lv_graduslaw18_VerifyRegs_2 [7] (fun j : Nat => j ≤ c.procs.length) (fun j => [.c (.d (.int .i64 j))]) (fun _ => []) (fun j => c.procs.length - j) 0 [] (by simp) (by simp [lv_graduslaw18_VerifyRegs_2]) fun j g1 => ?_
    unfold lp_graduslaw18_VerifyRegs_2 lv_graduslaw18_VerifyRegs_2
    simp
    refine gd.mk (fun h => ?_) (fun h => ?_)
    · simp at h
      have hj : j < c.procs.length := by omega
      simp [List.getElem?_eq_getElem hj]
      obtain ⟨p, hpp⟩ : ∃ p, p = c.procs[j] := ⟨_, rfl⟩
      have hpv := rproc_parts (v2 _ (List.getElem_mem hj)).2
      rw [← hpp] at hpv ⊢
      obtain ⟨p1, p2, p3, p4, p5, p6⟩ := hpv
      refine W.loopL Pg_mixed hp lv_graduslaw18_VerifyRegs_4 [9] (fun k : Nat => k ≤ p.code.length) (fun k => [.c (.d (.int .i64 k))]) (fun _ => [.box (p.enc.map .d)]) (fun k => p.code.length - k) 0 [0] (by simp) (by simp [lv_graduslaw18_VerifyRegs_4]) fun k g2 => ?_
      unfold lp_graduslaw18_VerifyRegs_4 lv_graduslaw18_VerifyRegs_4
      simp
      refine gd.mk (fun h => ?_) (fun h => ?_)
      · simp at h
        have hk : k < p.code.length := by omega
        simp [List.getElem?_eq_getElem hk]
        obtain ⟨i, hi⟩ : ∃ i, i = p.code[k] := ⟨_, rfl⟩
        have hri := p6 _ (List.getElem_mem hk)
        rw [← hi] at hri ⊢
        refine callK.mk (Uses_ok c i) ?_
        simp [List.getElem?_eq_getElem hk, ← hi]
        refine ⟨by decide, callK.mk (Sets_ok i) ?_⟩
        have hs : setsOf i < p.regs := rinstr_sets (by omega) hri
        have hu := fun n hn => rinstr_uses hri n hn
        have hlen : (usesOf c i).length ≤ 768 := upTo_len c i 3
        generalize usesOf c i = L at *
        generalize setsOf i = s at *
        simp

        refine gd.mk (fun h => by simp at h; omega) (fun _ => ?_)
        refine W.loopL Pg_mixed hp lv_graduslaw18_VerifyRegs_6 [12] (fun n : Nat => n ≤ L.length) (fun n => [.c (.d (.int .i64 n))]) (fun _ => [.box (p.enc.map .d)]) (fun n => L.length - n) 0 [0] (by simp) (by simp [lv_graduslaw18_VerifyRegs_6]) fun n g3 => ?_
        unfold lp_graduslaw18_VerifyRegs_6 lv_graduslaw18_VerifyRegs_6
        simp
        refine gd.mk (fun h => ?_) (fun h => ?_)
        · simp at h
          have hn : n < L.length := by omega
          have hb := hu n hn
          simp [List.getElem?_eq_getElem hn]
          refine gd.mk (fun _ => ⟨by decide, gd.mk (fun h => by simp at h; omega) (fun _ => ?_)⟩) (fun h => by simp at h; omega)
          exact Abs.Next.mk (n + 1) [0] (by omega) (by omega) (by simp; exact wrap_i64 (by omega) (by omega))
        · simp at h
          try simp
          exact Abs.Next.mk (k + 1) [0] (by omega) (by omega) (by simp; exact wrap_i64 (by omega) (by omega))
      · simp at h
        try simp
        exact Abs.Next.mk (j + 1) [] (by omega) (by omega) (by simp; exact wrap_i64 (by omega) (by omega))
    · simp [v1]
end Go.Gr

/- The law of more behind what there is. -/
set_option linter.unusedVariables false
set_option linter.unusedSimpArgs false
namespace Go.Gr
open Go.Abs Go.Proofs

def newP : Prc := ⟨0, 1, [⟨23, 0, 0, 0⟩]⟩
def moreC (c : Cod) (n : Int) (s : ByteArray) : Cod := ⟨c.ints ++ [n], c.strs ++ [s], c.shapes, c.cos, c.procs ++ [newP], c.main, c.merge⟩

theorem hasB_mono {a : Int} {m n : Nat} (h : hasB a m = true) (hm : m ≤ n) : hasB a n = true := by
  rw [hasB_true] at h ⊢; omega

theorem caps_more {c : Cod} {n : Int} {s : ByteArray} {b : Int} (h : hasB b c.procs.length = true) : capsOf (moreC c n s) b = capsOf c b := by
  have := hasB_true.1 h
  unfold capsOf
  rw [if_pos this.1, if_pos this.1]
  simp only [moreC]
  rw [List.getElem?_append_left (by omega)]

theorem caps_pos {c : Cod} {b : Int} (h : capsOf c b ≠ -1) : hasB b c.procs.length = true := by
  cases e : hasB b c.procs.length with
  | true => rfl
  | false => exact (h (caps_in e)).elim

theorem ruses_more {c : Cod} {n : Int} {s : ByteArray} {i : Ins} (h : i.op = 17 → hasB i.b c.procs.length = true) : rusesOf (moreC c n s) i = rusesOf c i := by
  unfold rusesOf
  by_cases h17 : i.op = 17
  · rw [caps_more (h h17)]; rfl
  · rw [if_neg h17, if_neg h17]; rfl

theorem consts_more {c : Cod} {p : Prc} {i : Ins} {n : Int} {s : ByteArray} (h : constsOf c p i = true) : constsOf (moreC c n s) p i = true ∧ (i.op = 17 → hasB i.b c.procs.length = true) := by
  refine ⟨?_, fun e => by unfold constsOf at h; rw [if_neg (by omega), if_neg (by omega), if_neg (by omega), if_neg (by omega), if_pos e] at h; simp only [Bool.and_eq_true] at h; exact h.1⟩
  unfold constsOf at h ⊢
  have l1 : c.ints.length ≤ (moreC c n s).ints.length := by simp [moreC]
  have l2 : c.strs.length ≤ (moreC c n s).strs.length := by simp [moreC]
  have l3 : c.procs.length ≤ (moreC c n s).procs.length := by simp [moreC]
  by_cases h1 : i.op = 11
  · rw [if_pos h1] at h ⊢; exact hasB_mono h l1
  rw [if_neg h1] at h ⊢
  by_cases h2 : i.op = 12
  · rw [if_pos h2] at h ⊢; exact hasB_mono h l2
  rw [if_neg h2] at h ⊢
  by_cases h3 : i.op = 13
  · rw [if_pos h3] at h ⊢; exact h
  rw [if_neg h3] at h ⊢
  by_cases h4 : i.op = 16
  · rw [if_pos h4] at h ⊢
    have : capsOf c i.b = 0 := by simpa using h
    rw [caps_more (caps_pos (by omega))]; exact h
  rw [if_neg h4] at h ⊢
  by_cases h5 : i.op = 17
  · rw [if_pos h5] at h ⊢
    simp only [Bool.and_eq_true] at h
    rw [caps_more h.1, hasB_mono h.1 l3, h.2.1, h.2.2]; rfl
  rw [if_neg h5] at h ⊢
  by_cases h6 : i.op = 18
  · rw [if_pos h6] at h ⊢; exact h
  rw [if_neg h6] at h ⊢
  by_cases h7 : i.op = 19 ∨ i.op = 20
  · rw [if_pos h7] at h ⊢; exact hasB_mono h l2
  rw [if_neg h7] at h ⊢
  exact h

theorem rinstr_more {c : Cod} {p : Prc} {i : Ins} {n : Int} {s : ByteArray} (h : rinstrOf c p i = true) : rinstrOf (moreC c n s) p i = true := by
  unfold rinstrOf at h ⊢
  simp only [Bool.and_eq_true] at h ⊢
  have := consts_more (n := n) (s := s) h.1
  refine ⟨this.1, ?_⟩
  unfold touchOf at h ⊢
  rw [ruses_more this.2]; exact h.2

theorem rproc_more {c : Cod} {p : Prc} {n : Int} {s : ByteArray} (h : rprocOf c p = true) : rprocOf (moreC c n s) p = true := by
  unfold rprocOf at h ⊢
  simp only [Bool.and_eq_true, List.all_eq_true] at h ⊢
  exact ⟨h.1, h.2.1, fun i hi => rinstr_more (h.2.2 i hi)⟩

theorem rproc_new (c : Cod) : capOk newP = true ∧ rprocOf c newP = true := by
  refine ⟨by decide, ?_⟩
  simp [rprocOf, newP, rinstrOf, constsOf, touchOf, writes, rusesOf, hasB]

theorem more_ok {c : Cod} {n : Int} {s : ByteArray} (h : rverifyOf c = true) (hl : c.procs.length < 4000) : rverifyOf (moreC c n s) = true := by
  unfold rverifyOf mainOk at h ⊢
  simp only [Bool.and_eq_true, List.all_eq_true, Bool.not_eq_true', decide_eq_false_iff_not, decide_eq_true_eq] at h ⊢
  obtain ⟨h1, ⟨h2, h3⟩, h4, h5, h6, h7⟩ := h
  have el : (moreC c n s).procs.length = c.procs.length + 1 := by simp [moreC]
  refine ⟨by rw [el]; omega, ⟨hasB_mono h2 (by omega), by rw [show (moreC c n s).main = c.main from rfl, caps_more h2]; exact h3⟩, fun p hp => ?_, fun p hp => ?_, h6, h7⟩
  · rcases List.mem_append.1 (show p ∈ c.procs ++ [newP] from hp) with hp | hp
    · exact h4 p hp
    · rw [List.mem_singleton.1 hp]; exact (rproc_new c).1
  · rcases List.mem_append.1 (show p ∈ c.procs ++ [newP] from hp) with hp | hp
    · exact rproc_more (h5 p hp)
    · rw [List.mem_singleton.1 hp]; exact (rproc_new _).2

theorem erdE_app : ∀ (a b : List (List D)), D.erdE (a ++ b) = D.erdE a ++ D.erdE b
  | [], b => by simp [D.erdE]
  | x :: a, b => by simp [D.erdE, erdE_app a b]
theorem erdE_map {α : Type} (f : α → List D) (h : ∀ x, D.erdL (f x) = f x) : ∀ l : List α, D.erdE (l.map f) = l.map f
  | [] => by simp [D.erdE]
  | x :: l => by simp [D.erdE, h x, erdE_map f h l]
theorem erdE_I (l : List Int) : D.erdE (encI l) = encI l := erdE_map _ (fun x => by simp [D.erdL, D.erd]) l
theorem erdE_S (l : List ByteArray) : D.erdE (encS l) = encS l := erdE_map _ (fun x => by simp [D.erdL, D.erd]) l
theorem erdE_N (l : List (ByteArray × Int)) : D.erdE (encN l) = encN l := erdE_map _ (fun x => by simp [D.erdL, D.erd]) l
theorem erdL_ins (i : Ins) : D.erdL i.enc = i.enc := by simp [Ins.enc, D.erdL, D.erd]
theorem erdL_prc (p : Prc) : D.erdL p.enc = p.enc := by simp [Prc.enc, D.erdL, D.erd, erdE_map _ erdL_ins]
mutual
theorem erdL_co : ∀ d : Coe, D.erdL d.enc = d.enc
  | .mk t n s f g => by simp [Coe.enc, D.erdL, D.erd, erdE_I, erdE_N, erdE_S, erdE_cos f, erdE_cos g]
theorem erdE_cos : ∀ l : List Coe, D.erdE (Coe.encs l) = Coe.encs l
  | [] => by simp [Coe.encs, D.erdE]
  | d :: l => by simp [Coe.encs, D.erdE, erdL_co d, erdE_cos l]
end
theorem Cod.put014 (c : Cod) (x y z : AC) : put (put (put (c.enc.map AC.d) 0 [x]) 1 [y]) 4 [z] = [x, y, .d (.sl false 1 (c.shapes.map fun l => [.sl false 1 (encS l)])), .d (.sl false 5 (c.cos.map Coe.enc)), z, .d (.int .i64 c.main), .d (.bool c.merge)] := rfl
theorem cut7 {α : Type} (a b c d e f g : α) : cut [a, b, c, d, e, f, g] 0 7 = [a, b, c, d, e, f, g] := rfl
theorem moreC_enc (c : Cod) (n : Int) (s : ByteArray) : [D.sl false 1 (encI c.ints ++ [[.int .i64 n]]), .sl false 1 (encS c.strs ++ [[.str s]]), .sl false 1 (c.shapes.map fun l => [.sl false 1 (encS l)]), .sl false 5 (c.cos.map Coe.enc), .sl false 3 (c.procs.map Prc.enc ++ [newP.enc]), .int .i64 c.main, .bool c.merge] = (moreC c n s).enc := by
  simp [moreC, Cod.enc, encI, encS]

set_option maxRecDepth 20000 in
set_option maxHeartbeats 4000000 in
theorem VerifyAdds_ok (c : Cod) (n : Int) (s : ByteArray) : PCall Pg F.graduslaw18_VerifyAdds [.agg c.enc, .one (.int .i64 n), .one (.str s)] (.one (.bool true)) := by
  refine w_graduslaw18_VerifyAdds (by simp) fun o c' hN hp => ?_
  unfold mc_graduslaw18_VerifyAdds
  simp
  refine callK.mk awake_ok ?_
  simp
  refine callK.mk (Sized_ok c) ?_
  simp
  refine gd.mk (fun h => ?_) (fun h => trivial)
  refine callK.mk (vVerify_ok' c) ?_
  cases hv : rverifyOf c with
  | false => simp
  | true =>
    simp
    have hs : sizedOf c = true := by simpa using h
    have hb : c.ints.length ≤ 10000 ∧ c.strs.length ≤ 10000 ∧ c.procs.length ≤ 50 := by
      unfold sizedOf at hs
      simp only [Bool.and_eq_true, decide_eq_true_eq] at hs
      have := hs.1
      omega
    obtain ⟨b1, b2, b3⟩ := hb
    refine gd.mk (fun h => trivial) (fun h4 => ?_)
    simp at h4
    have hm := more_ok (n := n) (s := s) hv (by omega)
    refine ⟨by omega, by omega, by omega, by omega, by simp [put], by omega, ?_⟩
    refine ⟨by omega, by simp [put], fzK.mk [2, 4, 6] ?_⟩
    simp [List.take_of_length_le, Cod.put014, allD, cut7, allDD]
    refine callK.mk (PCall.erd (vVerify_ok' (moreC c n s)) ?_) ?_
    · simp [DV.erds, DV.erd, D.erdL, D.erd, erdE_app, erdE_I, erdE_S, erdE_map _ erdL_prc, erdE_map _ erdL_co, D.erdE]
      rw [erdE_map _ (fun l => by simp [D.erdL, D.erd, erdE_S])]
      simp [moreC, Cod.enc, encI, encS, newP, Prc.enc, Ins.enc]
    · rw [hm]; simp
end Go.Gr
