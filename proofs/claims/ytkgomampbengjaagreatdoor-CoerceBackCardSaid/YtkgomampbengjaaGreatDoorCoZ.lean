import Derived.Test.YtkgomampbengjaaGreatDoorCoY
import Derived.Test.YtkgomampbengjaaGreatDoorCoW
/- types.record. -/
set_option linter.unusedVariables false
set_option linter.unusedSimpArgs false
namespace Go.Gr
open Go.Abs Go.Proofs

def noT : Typ := .mk 0 (bs []) [] []
def srtT (xs : List (ByteArray × Typ)) : List (ByteArray × Typ) := (srtN (xs.map (·.1))).toList.map fun i => xs.getD i (⟨#[]⟩, noT)
theorem srtT_perm (xs : List (ByteArray × Typ)) : (srtT xs).Perm xs := by
  have h := (srtN_perm (xs.map (·.1))).map fun i => xs.getD i (⟨#[]⟩, noT)
  refine h.trans ?_
  have : (List.range (xs.map (·.1)).length).map (fun i => xs.getD i (⟨#[]⟩, noT)) = xs := by
    apply List.ext_getElem
    · simp
    · intro i h1 h2
      simp [List.getD, h2]
  rw [this]
def rowT (x : ByteArray × Typ) : ByteArray × List D := (x.1, x.2.enc)
theorem getD_rows (xs : List (ByteArray × Typ)) {i : Nat} (hi : i < xs.length) : (xs.map rowT).getD i (⟨#[]⟩, []) = rowT (xs.getD i (⟨#[]⟩, noT)) := by
  simp [List.getD, hi]
attribute [local irreducible] srtN in
theorem srtT_rows (xs : List (ByteArray × Typ)) : srtL (xs.map rowT) = (srtT xs).map rowT := by
  have e : (xs.map rowT).map (·.1) = xs.map (·.1) := by simp [rowT]
  have hp := srtN_perm (xs.map (·.1))
  unfold srtL srtT
  rw [e]
  generalize (srtN (xs.map (·.1))).toList = l at hp ⊢
  rw [List.map_map]
  refine List.map_congr_left fun i hi => ?_
  have hi' := hp.mem_iff.1 hi
  simp only [List.mem_range, List.length_map] at hi'
  exact getD_rows xs hi'
/-- the row's j-th name is unlike the one ahead of it -/
def unlk (l : List ByteArray) (j : Nat) : Bool := decide (j = 0) || !decide (l.getD (j - 1) ⟨#[]⟩ = l.getD j ⟨#[]⟩)
/-- no two beside one another alike -/
def adjB (l : List ByteArray) : Bool := (List.range l.length).all (unlk l)
def recP (ns : List ByteArray) (ts : List Typ) : Typ × Bool :=
  if ns.length ≠ ts.length ∨ 16 < ns.length then (noT, false)
  else if ns.all nameB = true ∧ adjB ((srtT (ns.zip ts)).map (·.1)) = true then (.mk 5 (bs []) ((srtT (ns.zip ts)).map (·.1)) ((srtT (ns.zip ts)).map (·.2)), true)
  else (noT, false)

abbrev recT (ns : List ByteArray) (ts : List Typ) (j : Nat) : List (Nat × AV) := [(1, .c (.d (.sl false 4 (ts.map Typ.enc)))), (4, .c (.ptr 0 0)), (6, .c (.msl 5 1 0 j)), (23, .c (.d (.sl false 1 (encS ns)))), (24, .c (.d (.int .i64 ns.length))), (25, .c (.d (.int .i64 j)))]
def rowD (x : ByteArray × Typ) : List D := .str x.1 :: x.2.enc
abbrev recB (xs : List (ByteArray × Typ)) : Blk := .arr 5 ((xs.map rowD).map (·.map .d))
theorem recB_eq (xs : List (ByteArray × Typ)) : (xs.map rowT).map rowA = (xs.map rowD).map (·.map .d) := by
  rw [List.map_map, List.map_map]; rfl
theorem spl (n : ByteArray) (t : Typ) : splice [AC.d (D.str n), AC.d (D.int IntKind.i64 0), AC.d (D.str (bs [])), AC.d (D.sl true 1 []), AC.d (D.sl true 4 [])] 1 (List.map AC.d t.enc) = (rowD (n, t)).map .d := by
  obtain ⟨k, m, s, l⟩ := t
  simp [splice, Typ.enc, rowD]
theorem rowD_len (x : ByteArray × Typ) : (rowD x).length = 5 := by
  obtain ⟨n, ⟨k, m, s, l⟩⟩ := x
  simp [Typ.enc, rowD]
set_option maxRecDepth 20000 in
theorem rec_in {c : Ctx} (hp : c.pure) (ns : List ByteArray) (ts : List Typ) (hn : ns.length = ts.length) (h16 : ns.length ≤ 16) {Q : Exit → St → Prop} {S : St} {g} {ms : List Nat}
    (h0 : Match ms S (recT ns ts 0) [box4, recB []])
    (hF : ns.all nameB = false → ∀ T M n, Abs.look T 4 = .c (.ptr 0 0) → Abs.look T 5 = .c (.d (.bool false)) → M 0 = box4 → Q .ret ⟨T, M, n⟩)
    (hQ : ns.all nameB = true → ∀ T, Abs.look T 4 = .c (.ptr 0 0) → Abs.look T 6 = .c (.msl 5 1 0 ns.length) →
      Q (.exit 0) ⟨T, hpOf [box4, recB (ns.zip ts)], 2⟩) : lw_ Pg c lp_types_record_0 Q g S := by
  refine W.loop Pg_mixed hp (fun j : Nat => j ≤ ns.length ∧ (ns.take j).all nameB = true) (fun j => recT ns ts j)
    (fun j => [box4, recB ((ns.zip ts).take j)]) (fun j => ns.length - j) 0 ms ⟨by simp, by simp⟩ (by simpa using h0) fun j ⟨h1, h2⟩ => ?_
  unfold lp_types_record_0
  simp
  refine gd.mk (fun h => ?_) (fun h => ?_)
  · have hj : j < ns.length := by simpa using h
    have ht : j < ts.length := by omega
    simp [List.getElem?_eq_getElem hj, encS]
    refine callK.mk (Name_ok ns[j]) ?_
    simp
    refine gd.mk (fun hb => ?_) (fun hb => ?_)
    · simp at hb
      refine hF ?_ _ _ _ (by simp) (by simp) (by simp)
      rw [List.all_eq_false]
      exact ⟨ns[j], List.getElem_mem hj, by simp [hb]⟩
    · simp at hb
      have hz : j < (ns.zip ts).length := by simp [List.length_zip]; omega
      have htk : (ns.zip ts).take (j + 1) = (ns.zip ts).take j ++ [(ns[j], ts[j])] := by
        rw [List.take_succ_eq_append_getElem hz, List.getElem_zip]
      have hall : (ns.take (j + 1)).all nameB = true := by
        rw [List.take_succ_eq_append_getElem hj, List.all_append, h2]; simp [hb]
      simp [List.getElem?_eq_getElem ht, spl, rowD_len]
      refine ⟨by omega, by omega, ?_⟩
      refine Abs.Next.mk (j + 1) [0, 2] ⟨by omega, hall⟩ (by omega) ?_
      rw [htk]
      simp
      refine ⟨wrap_i64 (by omega) (by omega), by rw [List.take_take, Nat.min_self], fun x hx => ?_⟩
      obtain ⟨y, _, rfl⟩ := List.mem_map.1 (List.mem_of_mem_take hx)
      simp
  · have hj : j = ns.length := by simp at h; omega
    subst hj
    simp only [List.take_length] at h2
    have hz : (ns.zip ts).take ns.length = ns.zip ts := List.take_of_length_le (by simp [List.length_zip]; omega)
    rw [hz]
    exact hQ h2 _ (by simp) (by simp)
abbrev rec2T (xs : List (ByteArray × Typ)) (j : Nat) : List (Nat × AV) := [(4, .c (.ptr 0 0)), (6, .c (.d (.sl false 5 (xs.map rowD)))), (9, .c (.ptr 2 0)), (47, .c (.d (.sl false 5 (xs.map rowD)))), (48, .c (.d (.int .i64 xs.length))), (49, .c (.d (.int .i64 j)))]
abbrev rec2B (xs : List (ByteArray × Typ)) (j : Nat) : List Blk := [box4, .dead, .box [.d (.int .i64 5), .d (.str (bs [])), .msl 1 3 0 j, .msl 4 4 0 j], .arr 1 (((xs.take j).map fun x => [D.str x.1]).map (·.map .d)), .arr 4 (((xs.take j).map fun x => x.2.enc).map (·.map .d))]
set_option maxRecDepth 20000 in
theorem rec_in2 {c : Ctx} (hp : c.pure) (xs : List (ByteArray × Typ)) (h16 : xs.length ≤ 16) {Q : Exit → St → Prop} {S : St} {g} {ms : List Nat}
    (h0 : Match ms S (rec2T xs 0) (rec2B xs 0))
    (hF : adjB (xs.map (·.1)) = false → ∀ T M n, Abs.look T 4 = .c (.ptr 0 0) → Abs.look T 5 = .c (.d (.bool false)) → M 0 = box4 → Q .ret ⟨T, M, n⟩)
    (hQ : adjB (xs.map (·.1)) = true → ∀ T, Abs.look T 4 = .c (.ptr 0 0) → Abs.look T 9 = .c (.ptr 2 0) →
      Q (.exit 2) ⟨T, hpOf (rec2B xs xs.length), 5⟩) : lw_ Pg c lp_types_record_2 Q g S := by
  refine W.loop Pg_mixed hp (fun j : Nat => j ≤ xs.length ∧ (List.range j).all (unlk (xs.map (·.1))) = true) (fun j => rec2T xs j)
    (fun j => rec2B xs j) (fun j => xs.length - j) 0 ms ⟨by simp, by simp⟩ (by simpa using h0) fun j ⟨h1, h2⟩ => ?_
  unfold lp_types_record_2
  simp
  refine gd.mk (fun h => ?_) (fun h => ?_)
  · have hj : j < xs.length := by simpa using h
    have hadj : unlk (xs.map (·.1)) j = false → adjB (xs.map (·.1)) = false := fun e => by
      unfold adjB
      rw [List.all_eq_false]
      exact ⟨j, by simpa using hj, by simp [e]⟩
    have hnext : unlk (xs.map (·.1)) j = true → (List.range (j + 1)).all (unlk (xs.map (·.1))) = true := fun e => by
      rw [List.range_succ, List.all_append, h2]; simp [e]
    have htk : xs.take (j + 1) = xs.take j ++ [xs[j]] := List.take_succ_eq_append_getElem hj
    rcases hx : xs[j] with ⟨nm, ⟨k, m, s, l⟩⟩
    rw [hx] at htk
    rcases Nat.eq_zero_or_pos j with h0j | h0j
    · subst h0j
      have hu : unlk (xs.map (·.1)) 0 = true := by simp [unlk]
      simp [List.getElem?_eq_getElem hj, hx, rowD, Typ.enc, cut]
      refine ⟨by decide, by decide, Abs.Next.mk 1 [0, 1, 2, 6, 7] ⟨by omega, hnext hu⟩ (by omega) ?_⟩
      have htk' : xs.take 1 = [(nm, .mk k m s l)] := by simpa using htk
      unfold rec2B
      simp only [htk']
      simp [Typ.enc]
      decide
    · have hi : j - 1 < xs.length := by omega
      have hwr : IntKind.i64.wrap ((j : Int) - 1) = ((j - 1 : Nat) : Int) := by rw [show ((j : Int) - 1) = ((j - 1 : Nat) : Int) by omega]; exact wrap_i64 (by omega) (by omega)
      rcases hy : xs[j - 1] with ⟨nm2, ⟨k2, m2, s2, l2⟩⟩
      have hu : unlk (xs.map (·.1)) j = !decide (nm2 = nm) := by
        simp [unlk, List.getD, hj, hi, hx, hy]; omega
      simp [List.getElem?_eq_getElem hj, List.getElem?_eq_getElem hi, hx, hy, hwr, h0j, rowD, Typ.enc, cut]
      refine ⟨by decide, gd.mk (fun hb => ?_) (fun hb => ?_)⟩
      · exact hF (hadj (by rw [hu]; simpa using hb)) _ _ _ (by simp) (by simp) (by simp)
      · refine ⟨by omega, by omega, by omega, by omega, by decide, ?_⟩
        refine Abs.Next.mk (j + 1) [0, 1, 2, 6, 7] ⟨by omega, hnext (by rw [hu]; simpa using hb)⟩ (by omega) ?_
        unfold rec2B
        simp only [htk]
        simp [Typ.enc]
        refine ⟨wrap_i64 (by omega) (by omega), ⟨by rw [List.take_take, Nat.min_self], fun x hx => ?_⟩, by rw [List.take_take, Nat.min_self], fun x hx => ?_⟩
        · obtain ⟨y, _, rfl⟩ := List.mem_map.1 (List.mem_of_mem_take hx)
          simp
        · obtain ⟨y, _, rfl⟩ := List.mem_map.1 (List.mem_of_mem_take hx)
          simp
  · have hj : j = xs.length := by simp at h; omega
    subst hj
    exact hQ (by unfold adjB; rw [List.length_map]; exact h2) _ (by simp) (by simp)
set_option maxRecDepth 20000 in
theorem record_ok (ns : List ByteArray) (ts : List Typ) : PCall Pg F.types_record [.one (.sl false 1 (encS ns)), .one (.sl false 4 (ts.map Typ.enc))] (.tup [.agg (recP ns ts).1.enc, .one (.bool (recP ns ts).2)]) := by
  refine w_types_record (by simp) fun o c hN hp => ?_
  have hl1 : ns.length ≤ lenMax := by
    have := o.1; simp only [DV.ok, D.ok, encS, List.length_map] at this; exact this.1
  have hl2 : ts.length ≤ lenMax := by
    have := o.2.1; simp only [DV.ok, D.ok, List.length_map] at this; exact this.1
  unfold lenMax at hl1 hl2
  unfold mc_types_record
  simp
  refine gd.mk (fun h => ?_) (fun h => ?_)
  · have hn : ns.length = ts.length := by simp at h; omega
    refine gd.mk (fun h2 => ?_) (fun h2 => ?_)
    · have e : recP ns ts = (noT, false) := by
        unfold recP; rw [if_pos (.inr (by simp at h2; omega))]
      rw [e]
      simp [noT, Typ.enc, Typ.encs, encS]
    · have h16 : ns.length ≤ 16 := by simp at h2; omega
      refine owK.mk [.t 6] ?_
      simp
      refine rec_in hp ns ts hn h16 (ms := [0, 1]) (by simp) (fun hf T M n e4 e5 m0 => ?_) fun ht T e4 e6 => ?_
      · have e : recP ns ts = (noT, false) := by
          unfold recP; rw [if_neg (by omega), if_neg (by simp [hf])]
        rw [e]
        simp [e4, e5, m0, noT, Typ.enc, Typ.encs, encS]
      · simp [e4, e6]
        have hs := sortRow_ok ((ns.zip ts).map rowT) (fun x hx => by
          obtain ⟨y, _, rfl⟩ := List.mem_map.1 hx
          obtain ⟨_, ⟨k, n, s, l⟩⟩ := y
          simp [rowT, Typ.enc]) (by simp [List.length_zip]; omega)
        rw [List.length_map, List.length_zip, ← hn, Nat.min_self, srtT_rows, recB_eq, recB_eq] at hs
        refine callKM.mk [1] hs (by simp) ?_
        have hrec : recP ns ts = if adjB ((srtT (ns.zip ts)).map (·.1)) = true then (.mk 5 (bs []) ((srtT (ns.zip ts)).map (·.1)) ((srtT (ns.zip ts)).map (·.2)), true) else (noT, false) := by
          unfold recP; rw [if_neg (by omega)]; simp only [ht, true_and]
        have hxl : (srtT (ns.zip ts)).length = ns.length := by rw [(srtT_perm _).length_eq, List.length_zip]; omega
        clear hs
        rw [hrec]
        generalize srtT (ns.zip ts) = xs at *
        have h16' : xs.length ≤ 16 := by omega
        rw [← hxl] at e6 ⊢
        simp
        refine fzK.mk [1] ?_
        simp [look_fz, e4, e6]
        refine owK.mk [.c 2 2, .c 2 3] ?_
        have htl : List.take xs.length (xs.map rowD) = xs.map rowD := List.take_of_length_le (by simp)
        simp [look_fz, e4, e6, htl]
        refine rec_in2 hp xs h16' (ms := [0, 1, 2, 3, 4]) (by simp [look_fz, e4, e6, htl]) (fun hf T M n e4 e5 m0 => ?_) fun ha T e4 e9 => ?_
        · rw [if_neg (by simp [hf])]
          simp [e4, e5, m0, noT, Typ.enc, Typ.encs, encS]
        · rw [if_pos ha]
          simp [e4, e9, Typ.enc, Typ.encs, encS]
          refine ⟨?_, ?_⟩
          · rw [List.take_of_length_le (by simp)]; rfl
          · rw [List.take_of_length_le (by simp), Typ.encs_map, List.map_map]; rfl
  · have e : recP ns ts = (noT, false) := by
      unfold recP; rw [if_pos (.inl (by simp at h; omega))]
    rw [e]
    simp [noT, Typ.enc, Typ.encs, encS]
end Go.Gr

/- types.norm. -/
set_option linter.unusedVariables false
set_option linter.unusedSimpArgs false
namespace Go.Gr
open Go.Abs Go.Proofs

def finP (k : Int) (s : List ByteArray) (l : List Typ) : Typ × Bool :=
  if k = 5 then recP s l else if k = 6 then (.mk 6 (bs []) [] l, decide (l.length = 2)) else unionP l
mutual
def normP : Typ → Typ × Bool
  | .mk k _ s l => if 5 ≤ k ∧ k ≤ 7 then (if (normsP l).2 = true then finP k s (normsP l).1 else (noT, false)) else if 0 ≤ k ∧ k ≤ 4 then (.mk k (bs []) [] [], true) else (noT, false)
def normsP : List Typ → List Typ × Bool
  | [] => ([], true)
  | t :: l => if (normP t).2 = true then ((normP t).1 :: (normsP l).1, (normsP l).2) else ([], false)
end
theorem normP_eq (t : Typ) : normP t = if 5 ≤ t.kind ∧ t.kind ≤ 7 then (if (normsP t.kids).2 = true then finP t.kind t.names (normsP t.kids).1 else (noT, false)) else if 0 ≤ t.kind ∧ t.kind ≤ 4 then (.mk t.kind (bs []) [] [], true) else (noT, false) := by
  cases t; rw [normP]; rfl

abbrev nrmT (t : Typ) (j : Nat) : List (Nat × AV) := [(1, .c (.d (.rp t.enc 0))), (2, .c (.ptr 0 0)), (4, .c (.msl 4 1 0 j)), (18, .c (.d (.sl false 4 (t.kids.map Typ.enc)))), (19, .c (.d (.int .i64 t.kids.length))), (20, .c (.d (.int .i64 j)))]
abbrev nrmB (l : List Typ) : List Blk := [box4, .arr 4 ((l.map Typ.enc).map (·.map .d))]
theorem nrm_in {c : Ctx} (hp : c.pure) (t : Typ) (hl : t.kids.length ≤ 1000) (ih : ∀ e, e ∈ t.kids → PCall Pg F.types_norm [.agg e.enc] (.tup [.agg (normP e).1.enc, .one (.bool (normP e).2)])) {Q : Exit → St → Prop} {S : St} {g} {ms : List Nat}
    (h0 : Match ms S (nrmT t 0) (nrmB []))
    (hF : (normsP t.kids).2 = false → ∀ T M n, Abs.look T 2 = .c (.ptr 0 0) → Abs.look T 3 = .c (.d (.bool false)) → M 0 = box4 → Q .ret ⟨T, M, n⟩)
    (hQ : (normsP t.kids).2 = true → ∀ T, Abs.look T 1 = .c (.d (.rp t.enc 0)) → Abs.look T 2 = .c (.ptr 0 0) → Abs.look T 4 = .c (.msl 4 1 0 (normsP t.kids).1.length) →
      Q (.exit 0) ⟨T, hpOf (nrmB (normsP t.kids).1), 2⟩) : lw_ Pg c lp_types_norm_0 Q g S := by
  refine W.loop Pg_mixed hp (fun x : Nat × List Typ => x.1 ≤ t.kids.length ∧ x.2.length = x.1 ∧ normsP t.kids = (x.2 ++ (normsP (t.kids.drop x.1)).1, (normsP (t.kids.drop x.1)).2)) (fun x => nrmT t x.1)
    (fun x => nrmB x.2) (fun x => t.kids.length - x.1) (0, []) ms ⟨by simp, rfl, by simp⟩ h0 fun ⟨j, acc⟩ ⟨h1, h3, h2⟩ => ?_
  unfold lp_types_norm_0
  simp only at h1 h2 h3
  simp
  refine gd.mk (fun h => ?_) (fun h => ?_)
  · have hj : j < t.kids.length := by simpa using h
    rw [List.drop_eq_getElem_cons hj, normsP] at h2
    have hc : ∀ e : Typ, cut e.enc 0 4 = e.enc := fun e => by unfold cut; simp
    have hc2 : ∀ e : Typ, cut (e.enc.map AC.d) 0 4 = e.enc.map AC.d := fun e => by unfold cut; simp
    simp [List.getElem?_eq_getElem hj, hc, hc2]
    refine callK.mk (ih _ (List.getElem_mem hj)) ?_
    simp [hc, hc2]
    refine gd.mk (fun hb => ?_) (fun hb => ?_)
    · simp at hb
      rw [if_neg (by simp [hb])] at h2
      refine hF (by rw [h2]) _ _ _ (by simp) (by simp) (by simp)
    · simp at hb
      rw [if_pos hb] at h2
      refine ⟨by omega, by omega, ?_⟩
      refine Abs.Next.mk (j + 1, acc ++ [(normP t.kids[j]).1]) [0, 4] ⟨by simp only; omega, by simp [h3], by rw [h2]; simp⟩ (by simp; omega) ?_
      simp
      exact ⟨wrap_i64 (by omega) (by omega), List.take_of_length_le (by simp; omega)⟩
  · have hj : j = t.kids.length := by simp at h; omega
    subst hj
    rw [List.drop_length, normsP] at h2
    simp only [List.append_nil] at h2
    rw [h2] at hQ
    have := hQ rfl
    simp only [h3] at this
    exact this _ (by simp) (by simp) (by simp)
end Go.Gr

/- types.norm at the kinds 5, 6, 7. -/
set_option linter.unusedVariables false
set_option linter.unusedSimpArgs false
namespace Go.Gr
open Go.Abs Go.Proofs
set_option maxHeartbeats 1000000 in
set_option maxRecDepth 20000 in
theorem norm_5 (t : Typ) (hk : t.kind = 5) (hl : t.kids.length ≤ 1000) (ih : ∀ e, e ∈ t.kids → PCall Pg F.types_norm [.agg e.enc] (.tup [.agg (normP e).1.enc, .one (.bool (normP e).2)])) :
    PCall Pg F.types_norm [.agg t.enc] (.tup [.agg (if (normsP t.kids).2 = true then recP t.names (normsP t.kids).1 else (noT, false)).1.enc, .one (.bool (if (normsP t.kids).2 = true then recP t.names (normsP t.kids).1 else (noT, false)).2)]) := by
  refine w_types_norm (by simp) fun o c hN hp => ?_
  unfold mc_types_norm
  simp [hk]
  refine owK.mk [.t 4] ?_
  simp [hk]
  refine nrm_in hp t hl ih (ms := [0, 1]) (by simp) (fun hf T M n e2 e3 m0 => ?_) fun ha T e1 e2 e4 => ?_
  · rw [if_neg (by simp [hf])]
    simp [e2, e3, m0, noT, Typ.enc, Typ.encs, encS]
  · rw [if_pos ha]
    simp [e1, e2, e4, hk]
    generalize (normsP t.kids).1 = l at *
    refine fzK.mk [1] ?_
    have htl : List.take l.length (l.map Typ.enc) = l.map Typ.enc := List.take_of_length_le (by simp)
    simp [look_fz, e1, e2, e4, htl]
    refine callK.mk (record_ok t.names l) ?_
    have hc : ∀ e : Typ, cut e.enc 0 4 = e.enc := fun e => by unfold cut; simp
    simp [look_fz, e1, e2, e4, htl, hc]
    rw [Typ.enc_eq]
    simp [D.er]
set_option maxHeartbeats 1000000 in
set_option maxRecDepth 20000 in
theorem norm_7 (t : Typ) (hk : t.kind = 7) (hl : t.kids.length ≤ 1000) (ih : ∀ e, e ∈ t.kids → PCall Pg F.types_norm [.agg e.enc] (.tup [.agg (normP e).1.enc, .one (.bool (normP e).2)])) :
    PCall Pg F.types_norm [.agg t.enc] (.tup [.agg (if (normsP t.kids).2 = true then unionP (normsP t.kids).1 else (noT, false)).1.enc, .one (.bool (if (normsP t.kids).2 = true then unionP (normsP t.kids).1 else (noT, false)).2)]) := by
  refine w_types_norm (by simp) fun o c hN hp => ?_
  unfold mc_types_norm
  simp [hk]
  refine owK.mk [.t 4] ?_
  simp [hk]
  refine nrm_in hp t hl ih (ms := [0, 1]) (by simp) (fun hf T M n e2 e3 m0 => ?_) fun ha T e1 e2 e4 => ?_
  · rw [if_neg (by simp [hf])]
    simp [e2, e3, m0, noT, Typ.enc, Typ.encs, encS]
  · rw [if_pos ha]
    simp [e1, e2, e4, hk]
    generalize (normsP t.kids).1 = l at *
    refine fzK.mk [1] ?_
    have htl : List.take l.length (l.map Typ.enc) = l.map Typ.enc := List.take_of_length_le (by simp)
    simp [look_fz, e1, e2, e4, htl]
    refine callK.mk (union_ok l) ?_
    have hc : ∀ e : Typ, cut e.enc 0 4 = e.enc := fun e => by unfold cut; simp
    simp [look_fz, e1, e2, e4, htl, hc]
    rw [Typ.enc_eq]
    simp [D.er]
set_option maxHeartbeats 1000000 in
set_option maxRecDepth 20000 in
theorem norm_6 (t : Typ) (hk : t.kind = 6) (hl : t.kids.length ≤ 1000) (ih : ∀ e, e ∈ t.kids → PCall Pg F.types_norm [.agg e.enc] (.tup [.agg (normP e).1.enc, .one (.bool (normP e).2)])) :
    PCall Pg F.types_norm [.agg t.enc] (.tup [.agg (if (normsP t.kids).2 = true then (Typ.mk 6 (bs []) [] (normsP t.kids).1, decide ((normsP t.kids).1.length = 2)) else (noT, false)).1.enc, .one (.bool (if (normsP t.kids).2 = true then (Typ.mk 6 (bs []) [] (normsP t.kids).1, decide ((normsP t.kids).1.length = 2)) else (noT, false)).2)]) := by
  refine w_types_norm (by simp) fun o c hN hp => ?_
  unfold mc_types_norm
  simp [hk]
  refine owK.mk [.t 4] ?_
  simp [hk]
  refine nrm_in hp t hl ih (ms := [0, 1]) (by simp) (fun hf T M n e2 e3 m0 => ?_) fun ha T e1 e2 e4 => ?_
  · rw [if_neg (by simp [hf])]
    simp [e2, e3, m0, noT, Typ.enc, Typ.encs, encS]
  · rw [if_pos ha]
    simp [e1, e2, e4, hk]
    generalize (normsP t.kids).1 = l at *
    refine fzK.mk [1] ?_
    have htl : List.take l.length (l.map Typ.enc) = l.map Typ.enc := List.take_of_length_le (by simp)
    simp [look_fz, e1, e2, e4, htl]
    simp [Typ.enc, Typ.encs_map, encS, D.er]
    omega
end Go.Gr

/- Plain: few types stand in one. -/
set_option linter.unusedVariables false
set_option linter.unusedSimpArgs false
namespace Go.Gr
open Go.Abs Go.Proofs

/-! ### few types stand in one -/
mutual
def fewT : Typ → Prop
  | .mk _ _ _ l => l.length ≤ 200 ∧ fewTs l
def fewTs : List Typ → Prop
  | [] => True
  | t :: l => fewT t ∧ fewTs l
end
theorem fewTs_iff : ∀ l : List Typ, fewTs l ↔ ∀ x, x ∈ l → fewT x
  | [] => by simp [fewTs]
  | t :: l => by simp [fewTs, fewTs_iff l]
theorem fewT_iff (t : Typ) : fewT t ↔ t.kids.length ≤ 200 ∧ ∀ x, x ∈ t.kids → fewT x := by
  cases t; simp only [fewT, fewTs_iff, Typ.kids]
theorem tsz_pos (t : Typ) : 1 ≤ tsz t := by
  have key : ∀ (l : List Typ) (n : Nat), n ≤ tszs l n := fun l => by
    induction l with
    | nil => intro n; rw [tszs]; omega
    | cons t l ih => intro n; rw [tszs]; split; omega; have := ih (n + tsz t); omega
  rw [tsz_eq]; have := key t.kids 1; omega
theorem tszs_few : ∀ (l : List Typ) (n : Nat), n ≤ 200 → tszs l n ≤ 200 → n + l.length ≤ 200 ∧ ∀ x, x ∈ l → tsz x ≤ 200
  | [], n, hn, _ => ⟨by simpa using hn, fun x hx => by cases hx⟩
  | t :: l, n, hn, h => by
    rw [tszs, if_neg (by omega)] at h
    have h1 := tsz_pos t
    by_cases q : n + tsz t ≤ 200
    · obtain ⟨p1, p2⟩ := tszs_few l (n + tsz t) q h
      refine ⟨by simp only [List.length_cons]; omega, fun x hx => ?_⟩
      rcases List.mem_cons.1 hx with rfl | hx
      · omega
      · exact p2 x hx
    · rw [tszs_stop (by omega)] at h; omega
mutual
theorem few_tsz : ∀ t : Typ, tsz t ≤ 200 → fewT t
  | .mk k n s l, h => by
    rw [tsz_eq] at h
    simp only [Typ.kids] at h
    obtain ⟨p1, p2⟩ := tszs_few l 1 (by omega) (by omega)
    rw [fewT]
    exact ⟨by omega, few_tszs l p2⟩
theorem few_tszs : ∀ l : List Typ, (∀ x, x ∈ l → tsz x ≤ 200) → fewTs l
  | [], _ => by rw [fewTs]; trivial
  | t :: l, h => by
    rw [fewTs]
    exact ⟨few_tsz t (h t (by simp)), few_tszs l fun x hx => h x (by simp [hx])⟩
end
end Go.Gr

/- types.norm at any type; Norm; which types are normal. -/
set_option linter.unusedVariables false
set_option linter.unusedSimpArgs false
namespace Go.Gr
open Go.Abs Go.Proofs

/-! ### types.norm -/
theorem norm_0 (t : Typ) (h5 : ¬ (5 ≤ t.kind ∧ t.kind ≤ 7)) :
    PCall Pg F.types_norm [.agg t.enc] (.tup [.agg (if 0 ≤ t.kind ∧ t.kind ≤ 4 then (Typ.mk t.kind (bs []) [] [], true) else (noT, false)).1.enc, .one (.bool (if 0 ≤ t.kind ∧ t.kind ≤ 4 then (Typ.mk t.kind (bs []) [] [], true) else (noT, false)).2)]) := by
  refine w_types_norm (by simp) fun o c hN hp => ?_
  have hw := t.enc_eq
  unfold mc_types_norm
  by_cases hk : 0 ≤ t.kind ∧ t.kind ≤ 4
  · rw [if_pos hk]
    have hk : t.kind = 0 ∨ t.kind = 1 ∨ t.kind = 2 ∨ t.kind = 3 ∨ t.kind = 4 := by omega
    rcases hk with hk | hk | hk | hk | hk <;> simp [hk, Typ.enc, Typ.encs, encS]
  · rw [if_neg hk]
    have n0 : ¬ t.kind = 0 := by omega
    have n1 : ¬ t.kind = 1 := by omega
    have n2 : ¬ t.kind = 2 := by omega
    have n3 : ¬ t.kind = 3 := by omega
    have n4 : ¬ t.kind = 4 := by omega
    have n5 : ¬ t.kind = 5 := by omega
    have n6 : ¬ t.kind = 6 := by omega
    have n7 : ¬ t.kind = 7 := by omega
    by_cases g : 5 ≤ t.kind
    · have g' : ¬ t.kind ≤ 7 := by omega
      simp [g, g', n0, n1, n2, n3, n4, n5, n6, n7, noT, Typ.enc, Typ.encs, encS]
    · simp [g, n0, n1, n2, n3, n4, n5, n6, n7, noT, Typ.enc, Typ.encs, encS]
theorem norm_one (t : Typ) (hl : t.kids.length ≤ 1000) (ih : ∀ e, e ∈ t.kids → PCall Pg F.types_norm [.agg e.enc] (.tup [.agg (normP e).1.enc, .one (.bool (normP e).2)])) :
    PCall Pg F.types_norm [.agg t.enc] (.tup [.agg (normP t).1.enc, .one (.bool (normP t).2)]) := by
  rw [normP_eq]
  by_cases h5 : 5 ≤ t.kind ∧ t.kind ≤ 7
  · rw [if_pos h5]
    unfold finP
    by_cases k5 : t.kind = 5
    · rw [if_pos k5]; exact norm_5 t k5 hl ih
    · by_cases k6 : t.kind = 6
      · rw [if_neg k5, if_pos k6]; exact norm_6 t k6 hl ih
      · rw [if_neg k5, if_neg k6]; exact norm_7 t (by omega) hl ih
  · rw [if_neg h5]; exact norm_0 t h5
mutual
theorem norm_ok : ∀ t : Typ, fewT t → PCall Pg F.types_norm [.agg t.enc] (.tup [.agg (normP t).1.enc, .one (.bool (normP t).2)])
  | .mk k n s l, h => by
    rw [fewT] at h
    exact norm_one (.mk k n s l) (by simp only [Typ.kids]; omega) (fun e he => norms_ok l h.2 e he)
theorem norms_ok : ∀ l : List Typ, fewTs l → ∀ e, e ∈ l → PCall Pg F.types_norm [.agg e.enc] (.tup [.agg (normP e).1.enc, .one (.bool (normP e).2)])
  | [], _, e, he => by cases he
  | t :: l, h, e, he => by
    rw [fewTs] at h
    cases he with
    | head => exact norm_ok t h.1
    | tail _ he => exact norms_ok l h.2 e he
end

/-! ### Norm -/
def NormP (t : Typ) : Typ × Int := if 16 < hgt 16 t ∨ 200 < tsz t then (noT, 9) else if (normP t).2 = true then ((normP t).1, 0) else (noT, 9)
theorem Norm_ok (t : Typ) : PCall Pg F.types_Norm [.agg t.enc] (.tup [.agg (NormP t).1.enc, .one (.int .i64 (NormP t).2)]) := by
  refine w_types_Norm (by simp) fun o c hN hp => ?_
  unfold mc_types_Norm NormP
  have he : noT.enc = [.int .i64 0, .str (bs []), .sl false 1 [], .sl false 4 []] := rfl
  simp
  refine callK.mk (Height_ok t) ?_
  simp
  refine gd.mk (fun h1 => ?_) (fun h1 => ?_)
  · simp at h1
    refine callK.mk (tSize_ok t) ?_
    simp
    refine gd.mk (fun h2 => ?_) (fun h2 => ?_)
    · simp at h2
      rw [if_pos (by omega)]
      simp [he]
    · simp at h2
      rw [if_neg (by omega)]
      refine callK.mk (norm_ok t (few_tsz t (by omega))) ?_
      simp
      refine gd.mk (fun h3 => ?_) (fun h3 => ?_)
      · simp at h3
        simp [h3, he]
      · simp at h3
        simp [h3]
        rw [Typ.enc_eq]
        simp [D.er]
  · simp at h1
    rw [if_pos (by omega)]
    simp [he]

/-! ### which types are normal -/
def isN (t : Typ) : Bool := decide ((NormP t).2 = 0) && sameT (NormP t).1 t
theorem normal_ok (t : Typ) : PCall Pg F.coerce_normal [.agg t.enc] (.one (.bool (isN t))) := by
  refine w_coerce_normal (by simp) fun o c hN hp => ?_
  unfold mc_coerce_normal isN
  simp
  refine callK.mk (Norm_ok t) ?_
  simp
  refine gd.mk (fun h => ?_) (fun h => ?_)
  · simp at h
    refine callK.mk (SameT_ok _ t) ?_
    simp [h]
  · simp at h
    simp [h]
theorem rnormal_ok (tr : Bool) (l : List Typ) : PCall Pg F.rel_normal [.one (.sl tr 4 (l.map Typ.enc))] (.one (.bool (l.all isN))) := by
  obtain ⟨R, hR⟩ : ∃ R, l.all isN = R := ⟨_, rfl⟩
  rw [hR]
  refine w_rel_normal (by simp) fun o c hN hp => ?_
  have hl : l.length ≤ lenMax := by
    have := o.1; simp only [DV.ok, D.ok, List.length_map] at this; exact this.1
  unfold lenMax at hl
  unfold mc_rel_normal
  simp
  refine W.loop Pg_mixed hp (fun j : Nat => j ≤ l.length ∧ (l.drop j).all isN = R) (fun j => [(9, .c (.d (.int .i64 j))), (7, .c (.d (.sl tr 4 (l.map Typ.enc)))), (8, .c (.d (.int .i64 l.length)))]) (fun _ => []) (fun j => l.length - j) 0 [] ⟨by simp, by simpa using hR⟩ (by simp) fun j ⟨h1, h2⟩ => ?_
  unfold lp_rel_normal_0
  simp
  refine gd.mk (fun h => ?_) (fun h => ?_)
  · have hj : j < l.length := by simpa using h
    rw [List.drop_eq_getElem_cons hj, List.all_cons] at h2
    simp [List.getElem?_eq_getElem hj]
    refine callK.mk (Norm_ok l[j]) ?_
    simp
    refine gd.mk (fun h => ?_) (fun h => ?_)
    · simp at h
      refine callK.mk (SameT_ok _ l[j]) ?_
      simp
      refine gd.mk (fun h3 => ?_) (fun h3 => ?_)
      · simp at h3
        rw [← h2]; simp [isN, h, h3]
      · simp at h3
        refine Abs.Next.mk (j + 1) [] ⟨by omega, by rw [← h2]; simp [isN, h, h3]⟩ (by omega) ?_
        simp
        exact wrap_i64 (by omega) (by omega)
    · simp at h
      rw [← h2]; simp [isN, h]
  · have hj : j = l.length := by simp at h; omega
    subst hj
    rw [List.drop_length] at h2
    rw [← h2]; rfl

/-! ### rel.Sub: what it tells of normal types -/
theorem Sub_ok (a b : Typ) (R : Bool) (H : isN a = true → isN b = true → PCall Pg F.rel_below [.agg a.enc, .agg b.enc, .one (.bool false)] (.one (.bool R))) :
    PCall Pg F.rel_Sub [.agg a.enc, .agg b.enc] (.one (.bool (isN a && isN b && R))) := by
  refine w_rel_Sub (by simp) fun o c hN hp => ?_
  have hn := rnormal_ok true [a, b]
  unfold mc_rel_Sub
  simp
  refine callK.mk hn ?_
  simp
  refine gd.mk (fun h => ?_) (fun h => ?_)
  · have h : isN a = true ∧ isN b = true := by simpa using h
    refine callK.mk (H h.1 h.2) ?_
    simp [h.1, h.2]
  · have h : ¬ (isN a = true ∧ isN b = true) := by simpa using h
    exact fun h1 h2 => absurd ⟨h1, h2⟩ h
end Go.Gr
