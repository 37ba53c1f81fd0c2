import Derived.Test.YtaonnnlgceillaaVerU
/- The law of one instruction more. -/
set_option linter.unusedVariables false
set_option linter.unusedSimpArgs false
namespace Go.Abs
theorem allDD_set_map {α : Type} (f : α → List D) (row : List AC) : ∀ (l : List α) (k : Nat), k < l.length → allDD ((l.map ((fun x => List.map AC.d x) ∘ f)).set k row) = (allD row).map fun d => (l.map f).set k d
  | x :: l, 0, _ => by
    simp only [List.map_cons, List.set_cons_zero, Function.comp, allDD]
    rw [allDD_comp]
    cases allD row <;> simp
  | x :: l, k + 1, h => by
    have ih := allDD_set_map f row l k (by simpa using h)
    simp only [List.map_cons, List.set_cons_succ, allDD, Function.comp, allD_map]
    rw [ih]
    cases allD row <;> simp
  | [], _, h => by simp at h
theorem fz_comp {α : Type} (b s : Nat) (ds : List (List D)) (f : α → List D) : (fun x => List.map (AC.fz b s ds) x) ∘ ((fun x => List.map AC.d x) ∘ f) = (fun x => List.map AC.d x) ∘ f := by
  funext x
  simp [Function.comp]
end Go.Abs
namespace Go.Gr
open Go.Abs Go.Proofs

def oneP (p : Prc) (ys : List Ins) (i z : Ins) : Prc := ⟨p.caps, p.regs, ys ++ [i, z]⟩
def oneC (c : Cod) (k : Nat) (q : Prc) : Cod := ⟨c.ints, c.strs, c.shapes, c.cos, c.procs.set k q, c.main, c.merge⟩

theorem Prc.put2 (p : Prc) (x : AC) : put (p.enc.map AC.d) 2 [x] = [.d (.int .i64 p.caps), .d (.int .i64 p.regs), x] := rfl
theorem Prc.put0 (p : Prc) (x y z : AC) : put (p.enc.map AC.d) 0 [x, y, z] = [x, y, z] := rfl
theorem put2l (a b c x : AC) : put [a, b, c] 2 [x] = [a, b, x] := rfl
theorem cut3 {α : Type} (a b c : α) : cut [a, b, c] 0 3 = [a, b, c] := rfl
theorem Cod.put4 (c : Cod) (z : AC) : put (c.enc.map AC.d) 4 [z] = [.d (.sl false 1 (encI c.ints)), .d (.sl false 1 (encS c.strs)), .d (.sl false 1 (c.shapes.map fun l => [.sl false 1 (encS l)])), .d (.sl false 5 (c.cos.map Coe.enc)), z, .d (.int .i64 c.main), .d (.bool c.merge)] := rfl

set_option maxRecDepth 20000 in
set_option maxHeartbeats 4000000 in
theorem VerifyOne_ok (c : Cod) (i : Ins) : PCall Pg F.graduslaw18_VerifyOne [.agg c.enc, .agg i.enc] (.one (.bool true)) := by
  refine w_graduslaw18_VerifyOne (by simp) fun o c' hN hp => ?_
  unfold mc_graduslaw18_VerifyOne
  simp
  refine callK.mk awake_ok ?_
  simp
  refine callK.mk (Sized_ok c) ?_
  simp
  refine gd.mk (fun h => ?_) (fun h => trivial)
  refine callK.mk (vVerify_ok' c) ?_
  cases hv : rverifyOf c with
  | false => simp
  | true =>
    have hs : sizedOf c = true := by simpa using h
    have hb : c.procs.length ≤ 50 := by
      unfold sizedOf at hs
      simp only [Bool.and_eq_true, decide_eq_true_eq] at hs
      have := hs.1
      omega
    obtain ⟨v1, v2, v3, v4⟩ := rverify_parts hv
    have hm : c.main.toNat < c.procs.length := by omega
    obtain ⟨p, hpp⟩ : ∃ p, p = c.procs[c.main.toNat] := ⟨_, rfl⟩
    have hpv := rproc_parts (v2 _ (List.getElem_mem hm)).2
    rw [← hpp] at hpv
    obtain ⟨p1, p2, p3, p4, p5, p6⟩ := hpv
    simp [List.getElem?_eq_getElem hm, ← hpp]
    have hne : p.code ≠ [] := fun e => by rw [e] at p4; simp at p4
    obtain ⟨ys, z, hc⟩ : ∃ ys z, p.code = ys ++ [z] := ⟨p.code.dropLast, p.code.getLast hne, (List.dropLast_concat_getLast hne).symm⟩
    have hlen : p.code.length = ys.length + 1 := by rw [hc]; simp
    have hw : IntKind.i64.wrap ((p.code.length : Int) - 1) = (ys.length : Nat) := by
      rw [wrap_i64 (by omega) (by omega)]; omega
    have hmin : min ys.length p.code.length = ys.length := by omega
    have hz : p.code[ys.length]? = some z := by rw [hc]; simp
    have htk : p.code.take ys.length = ys := by rw [hc]; simp
    simp [hw, hmin, hz, Prc.put2, put2l, cut3, Cod.put4, htk]
    refine ⟨v1.1, by omega, by omega, by omega, by decide, by omega, ?_⟩
    refine ⟨by decide, by omega, v1.1, v1.2, ?_⟩
    have htk' : ∀ f : Ins → List AC, List.take ys.length (List.map f p.code) = List.map f ys := fun f => by rw [← List.map_take, htk]
    simp [List.getElem?_eq_getElem hm, ← hpp, Prc.put0, htk', List.take_of_length_le]
    refine fzK.mk [4, 6] ?_
    simp [allDD, allD, allDD_set_map, fz_comp, hm, List.map_set, cut7]
    obtain ⟨q, hq⟩ : ∃ q, q = oneP p ys i z := ⟨_, rfl⟩
    obtain ⟨d, hd⟩ : ∃ d, d = oneC c c.main.toNat q := ⟨_, rfl⟩
    have hde : [D.sl false 1 (encI c.ints), .sl false 1 (encS c.strs), .sl false 1 (c.shapes.map fun l => [.sl false 1 (encS l)]), .sl false 5 (c.cos.map Coe.enc), .sl false 3 (List.take c.procs.length ((c.procs.map Prc.enc).set c.main.toNat [.int .i64 p.caps, .int .i64 p.regs, .sl false 4 (List.take (ys.length + 1 + 1) (ys.map Ins.enc ++ [i.enc, z.enc]))])), .int .i64 c.main, .bool c.merge] = d.enc := by
      rw [List.take_of_length_le (by simp), List.take_of_length_le (by simp)]
      simp [hd, hq, oneC, oneP, Cod.enc, Prc.enc, List.map_set]
    rw [hde]
    have hqr : q.regs = p.regs := by rw [hq]; rfl
    refine callK.mk (vVerify_ok' d) ?_
    generalize hmay : rverifyOf d = may
    simp [hde]
    refine callK.mk (Uses_ok d i) ?_
    simp
    refine callK.mk (Sets_ok i) ?_
    have hlenU : (usesOf d i).length ≤ 768 := upTo_len d i 3
    simp
    have hfact : may = true → setsOf i < p.regs ∧ ∀ n (hn : n < (usesOf d i).length), 0 ≤ (usesOf d i)[n] ∧ (usesOf d i)[n] < p.regs := by
      intro hm1
      rw [hm1] at hmay
      have hmem : q ∈ d.procs := by rw [hd]; simp only [oneC]; exact List.mem_set hm q
      have hp2 := rproc_parts ((rverify_parts hmay).2.1 q hmem).2
      have hri := hp2.2.2.2.2.2 i (by rw [hq]; simp [oneP])
      rw [hqr] at hp2
      refine ⟨by rw [← hqr]; exact rinstr_sets (by rw [hqr]; omega) hri, fun n hn => by rw [← hqr]; exact rinstr_uses hri n hn⟩
    generalize usesOf d i = L at *
    generalize setsOf i = s at *
    refine W.loopL Pg_mixed hp lv_graduslaw18_VerifyOne_0 [15, 14, 9] (fun x : Nat × Bool => x.1 ≤ L.length ∧ (may = true → x.2 = true)) (fun x => [.c (.d (.int .i64 x.1)), .c (.d (.bool x.2)), .c (.ptr 0 0)]) (fun _ => [.box [.d (.int .i64 p.caps), .d (.int .i64 p.regs), .d (.sl false 4 (List.take (ys.length + 1 + 1) (ys.map Ins.enc ++ [i.enc, z.enc])))]]) (fun x => L.length - x.1) (0, decide (s < p.regs)) [1] ⟨by simp, fun hm1 => by simpa using (hfact hm1).1⟩ (by simp [lv_graduslaw18_VerifyOne_0]) fun ⟨j, b⟩ ⟨g1, g2⟩ => ?_
    unfold lp_graduslaw18_VerifyOne_0 lv_graduslaw18_VerifyOne_0
    simp
    refine gd.mk (fun h => ?_) (fun h => ?_)
    · simp at h
      have hj : j < L.length := by omega
      have hL := fun e => (hfact e).2 j hj
      simp [List.getElem?_eq_getElem hj]
      refine gd.mk (fun h1 => gd.mk (fun h2 => ?_) (fun h2 => ?_)) (fun h1 => ?_)
      · refine ⟨by decide, Abs.Next.mk (j + 1, decide (L[j] < p.regs)) [0] ⟨hj, fun e => by simpa using (hL e).2⟩ (by simp; omega) ?_⟩
        simp
        exact wrap_i64 (by omega) (by omega)
      · simp at h2
        refine ⟨by decide, Abs.Next.mk (j + 1, false) [0] ⟨hj, fun e => by have := (hL e).1; omega⟩ (by simp; omega) ?_⟩
        simp
        exact wrap_i64 (by omega) (by omega)
      · simp at h1
        refine ⟨by decide, Abs.Next.mk (j + 1, false) [0] ⟨hj, fun e => by have := g2 e; simp only at this; rw [h1] at this; cases this⟩ (by simp; omega) ?_⟩
        simp
        exact wrap_i64 (by omega) (by omega)
    · simp only at g2
      cases may with
      | false => simp
      | true => rw [g2 rfl]; simp
end Go.Gr
