/- The abstract operations: calls that are handed blocks. -/
import Derived.Test.YtkgomampbengjaaGreatDoorAbsM
set_option linter.unusedVariables false
set_option linter.unusedSimpArgs false
namespace Go.Abs

theorem newN_len : ∀ (n d : Nat), (newN n d).length = d
  | _, 0 => rfl
  | n, d + 1 => by simp [newN, newN_len (n + 1) d]
theorem newN_get : ∀ (n d j : Nat), j < d → (newN n d)[j]? = some (n + j)
  | n, d + 1, 0, _ => by simp [newN]
  | n, d + 1, j + 1, h => by
    simp only [newN, List.getElem?_cons_succ]
    rw [newN_get (n + 1) d j (by omega)]
    congr 1; omega
theorem newN_mem {n d x : Nat} (h : x ∈ newN n d) : n ≤ x ∧ x < n + d := by
  obtain ⟨j, hj, rfl⟩ := List.getElem_of_mem h
  rw [newN_len] at hj
  have := newN_get n d j hj
  rw [List.getElem?_eq_getElem (by rw [newN_len]; exact hj)] at this
  simp only [Option.some.injEq] at this
  omega
theorem newN_nodup : ∀ (n d : Nat), (newN n d).Nodup
  | _, 0 => by simp [newN]
  | n, d + 1 => by
    simp only [newN, List.nodup_cons]
    exact ⟨fun h => by have := newN_mem h; omega, newN_nodup (n + 1) d⟩
theorem freshB_at {m : Hp} : ∀ {n d : Nat}, freshB m n d → ∀ j, j < d → m (n + j) = .non
  | n, d + 1, h, 0, _ => h.1
  | n, d + 1, h, j + 1, hj => by
    have := freshB_at h.2 j (by omega)
    rwa [show n + 1 + j = n + (j + 1) by omega] at this
theorem atL_at {m : Hp} {f : Nat → Nat} : ∀ {js : List Nat} {bs : List Blk}, atL m f js bs → js.length = bs.length ∧ ∀ i, i < js.length → m (js.getD i 0) = (hpOf bs i).ren f
  | [], [], _ => ⟨rfl, fun i hi => by simp at hi⟩
  | [], _ :: _, h => by simp [atL] at h
  | _ :: _, [], h => by simp [atL] at h
  | j :: js, b :: bs, h => by
    simp only [atL] at h
    obtain ⟨h1, h2⟩ := atL_at h.2
    refine ⟨by simp [h1], fun i hi => ?_⟩
    cases i with
    | zero => simpa [hpOf] using h.1
    | succ i => simpa [hpOf] using h2 i (by simpa using hi)
theorem wrs_not {f : Nat → Nat} : ∀ {js : List Nat} {bs : List Blk} {m : Hp} {b : Nat}, b ∉ js → wrs m (wrL f js bs) b = m b
  | [], _, m, b, _ => by simp [wrL, wrs]
  | _ :: _, [], m, b, _ => by simp [wrL, wrs]
  | j :: js, x :: bs, m, b, h => by
    simp only [List.mem_cons, not_or] at h
    simp only [wrL, wrs]
    have := wrs_not (f := f) (js := js) (bs := bs) (m := upd m j (x.ren f)) h.2
    rw [this, upd_ne _ _ h.1]
theorem wrs_is {f : Nat → Nat} : ∀ {js : List Nat} {bs : List Blk} {m : Hp}, js.Nodup → js.length = bs.length → ∀ i, i < js.length → wrs m (wrL f js bs) (js.getD i 0) = (hpOf bs i).ren f
  | [], _, m, _, _, i, hi => by simp at hi
  | _ :: _, [], m, _, h, _, _ => by simp at h
  | j :: js, x :: bs, m, hn, h, 0, hi => by
    simp only [List.nodup_cons] at hn
    simp only [wrL, wrs, List.getD_cons_zero]
    rw [wrs_not hn.1, upd_same]
    simp [hpOf]
  | j :: js, x :: bs, m, hn, h, i + 1, hi => by
    simp only [List.nodup_cons] at hn
    simp only [wrL, wrs, List.getD_cons_succ]
    rw [wrs_is hn.2 (by simpa using h) i (by simpa using hi)]
    simp [hpOf]
theorem wrL_keys {f : Nat → Nat} : ∀ {js : List Nat} {bs : List Blk}, js.length = bs.length → ∀ j, j ∈ js → ∃ b, (j, b) ∈ wrL f js bs
  | j :: js, x :: bs, h, k, hk => by
    cases List.mem_cons.1 hk with
    | inl e => subst e; exact ⟨x.ren f, by simp [wrL]⟩
    | inr e =>
      obtain ⟨b, hb⟩ := wrL_keys (f := f) (js := js) (bs := bs) (by simpa using h) k e
      exact ⟨b, by simp [wrL, hb]⟩

section
variable {P : Program} {get : Nat → AV} {m : Hp} {n : Nat}

theorem HRel.sub {h : PH} {ρ : RM} {m : Hp} {w : Heap} {l : List Nat} {bs : List Blk} (H : HRel h ρ m w) (hnd : l.Nodup) (hlt : ∀ b, b ∈ bs → b.lt l.length = true) (hat : atL m (fOf l) l bs) : HRel h (rmR (fOf l) l.length ρ) (hpOf bs) w := by
  obtain ⟨hlen, hb⟩ := atL_at hat
  have at_ : ∀ b, b < l.length → m (fOf l b) = (hpOf bs b).ren (fOf l) := fun b hbl => hb b hbl
  have inj : ∀ b c, b < l.length → c < l.length → fOf l b = fOf l c → b = c := by
    intro b c h1 h2 e
    unfold fOf at e
    rw [List.getD_eq_getElem?_getD, List.getD_eq_getElem?_getD, List.getElem?_eq_getElem h1, List.getElem?_eq_getElem h2] at e
    simp only [Option.getD_some] at e
    exact (List.getElem?_inj h1 hnd).1 (by rw [List.getElem?_eq_getElem h1, List.getElem?_eq_getElem h2, e])
  have beyond : ∀ b, ¬ b < l.length → hpOf bs b = .non := by
    intro b hb'
    unfold hpOf
    rw [List.getD_eq_getElem?_getD, List.getElem?_eq_none (by omega)]
    rfl
  have rs : ∀ {b : Nat} {p : Nat × Nat}, rmR (fOf l) l.length ρ b = some p → b < l.length ∧ ρ (fOf l b) = some p := by
    intro b p h
    unfold rmR at h
    split at h
    · exact ⟨by assumption, h⟩
    · cases h
  have mem : ∀ b, b < l.length → (hpOf bs b).lt l.length = true := by
    intro b hb'
    unfold hpOf
    rw [List.getD_eq_getElem?_getD, List.getElem?_eq_getElem (by omega)]
    exact hlt _ (List.getElem_mem _)
  refine ⟨H.pers, ?_, ?_, ?_, ?_⟩
  · intro b
    unfold rmR
    by_cases hbl : b < l.length
    · rw [if_pos hbl, ← H.dom, at_ b hbl]
      cases hpOf bs b <;> simp [Blk.ren]
    · rw [if_neg hbl]; simp [beyond b hbl]
  · intro b p hp'
    obtain ⟨h1, h2⟩ := rs hp'
    have := H.own _ p h2
    rw [at_ b h1] at this
    exact BlkRep.ren (mem b h1) this
  · intro b c' p q h1 h2 hr hs e
    obtain ⟨g1, g2⟩ := rs h1
    obtain ⟨g3, g4⟩ := rs h2
    refine inj b c' g1 g3 (H.inj _ _ p q g2 g4 ?_ ?_ e)
    · rw [at_ b g1]; exact Real.ren.2 hr
    · rw [at_ c' g3]; exact Real.ren.2 hs
  · intro b p h1 hr
    obtain ⟨g1, g2⟩ := rs h1
    exact H.sep _ p g2 (by rw [at_ b g1]; exact Real.ren.2 hr)

/-- a call that is handed blocks -/
theorem sem_mcall {o : Oper} {f : FuncId} {l : List Nat} {args : List AV} {bs : List Blk} {v : AV} {bs' : List Blk} (hp : MCall P f args bs v bs') (hnd : l.Nodup) (hln : ∀ i, i ∈ l → i < n) (hal : AV.lts l.length args = true)
    (hlt : ∀ b, b ∈ bs → b.lt l.length = true) (hat : atL m (fOf l) l bs) (hfr : freshB m n (bs'.length - bs.length))
    (H : ∀ (ph : PH) (ρ : RM) (w : World) (a : Act), (∀ k, Operand.tmp k ∈ o.op.operands → RepV ph ρ (get k) (a.tmps.getD k undef)) →
      ∃ argsC : List Value, RepVL ph ρ (AV.rens (fOf l) args) argsC ∧ Runs P (execOp a.eval o) w (.enter f argsC.toArray) w) :
    OpSem P o get m [] (wrL (fOf (l ++ newN n (bs'.length - bs.length))) (l ++ newN n (bs'.length - bs.length)) bs') (v.ren (fOf (l ++ newN n (bs'.length - bs.length)))) := by
  intro m' h1 h2 ph ρ w a hr hG hg next Q hn
  obtain ⟨hcal, hle, hnon, hvl, hbl, hp⟩ := hp
  obtain ⟨hk, hat'⟩ := atL_at hat
  generalize hd : bs'.length - bs.length = d at *
  have hlen' : (l ++ newN n d).length = bs'.length := by rw [List.length_append, newN_len]; omega
  have hnd' : (l ++ newN n d).Nodup := by
    rw [List.nodup_append]
    refine ⟨hnd, newN_nodup n d, fun a ha b hb e => ?_⟩
    have := hln a ha
    have := newN_mem hb
    omega
  have agree : ∀ j, j ∈ l ++ newN n d → m' j = m j := fun j hj => by
    obtain ⟨b, hb⟩ := wrL_keys (f := fOf (l ++ newN n d)) hlen' j hj
    exact h2 (j, b) hb
  have hatm : atL m' (fOf l) l bs := by
    have : ∀ (js : List Nat) (bs : List Blk), (∀ j, j ∈ js → m' j = m j) → atL m (fOf l) js bs → atL m' (fOf l) js bs := by
      intro js
      induction js with
      | nil => intro bs _ h; cases bs <;> first | exact h | exact h.elim
      | cons j js ih =>
        intro bs hj h
        cases bs with
        | nil => exact h.elim
        | cons b bs =>
          simp only [atL] at h ⊢
          exact ⟨(hj j (by simp)).trans h.1, ih bs (fun k hk => hj k (by simp [hk])) h.2⟩
    exact this l bs (fun j hj => agree j (by simp [hj])) hat
  have hfrm : ∀ j, j < d → m' (n + j) = .non := fun j hj => by
    rw [agree (n + j) (by
      rw [List.mem_append]
      exact .inr (List.mem_of_getElem? (newN_get n d j hj)))]
    exact freshB_at hfr j hj
  obtain ⟨argsC, ra, hrun⟩ := H ph ρ w a hg
  have hc := hr.sub hnd hlt hatm
  have hra := RepVL.ren args argsC hal ra
  unfold Oper.wp
  rw [show (execOp a.eval o).run P w = .ok (.enter f argsC.toArray) w from hrun]
  rw [Oper.upon_enter]
  refine (hp ph _ w argsC hc hG hra).mono fun e w' hh => ?_
  obtain ⟨vC, h', ρ', e1, st, hr', e7, rv, pins⟩ := hh
  subst e1
  -- the caller's own numbers
  have inl : ∀ i, i < l.length → fOf (l ++ newN n d) i = fOf l i := by
    intro i hi
    unfold fOf
    rw [List.getD_eq_getElem?_getD, List.getD_eq_getElem?_getD, List.getElem?_append_left hi]
  have inr : ∀ j, j < d → fOf (l ++ newN n d) (l.length + j) = n + j := by
    intro j hj
    unfold fOf
    rw [List.getD_eq_getElem?_getD, List.getElem?_append_right (by omega), Nat.add_sub_cancel_left, newN_get n d j hj]
    rfl
  have lmem : ∀ i, i < l.length → fOf l i ∈ l := by
    intro i hi
    unfold fOf
    rw [List.getD_eq_getElem?_getD, List.getElem?_eq_getElem hi]
    exact List.getElem_mem hi
  let ρ2 : RM := fun b => if n ≤ b ∧ b < n + d then ρ' (l.length + (b - n)) else ρ b
  let m2 : Hp := wrs m' (wrL (fOf (l ++ newN n d)) (l ++ newN n d) bs')
  have m2in : ∀ i, i < bs'.length → m2 (fOf (l ++ newN n d) i) = (hpOf bs' i).ren (fOf (l ++ newN n d)) := fun i hi => wrs_is hnd' hlen' i (by omega)
  have m2out : ∀ b, b ∉ l ++ newN n d → m2 b = m' b := fun b hb => wrs_not hb
  have r2 : ∀ i, i < bs'.length → ρ2 (fOf (l ++ newN n d) i) = ρ' i := by
    intro i hi
    by_cases hil : i < l.length
    · rw [inl i hil]
      have hlt := hln _ (lmem i hil)
      show (if n ≤ fOf l i ∧ fOf l i < n + d then _ else ρ (fOf l i)) = _
      rw [if_neg (by omega), pins i (by omega)]
      unfold rmR; rw [if_pos hil]
    · obtain ⟨j, rfl⟩ : ∃ j, i = l.length + j := ⟨i - l.length, by omega⟩
      rw [inr j (by omega)]
      show (if n ≤ n + j ∧ n + j < n + d then ρ' (l.length + (n + j - n)) else _) = _
      rw [if_pos (by omega), Nat.add_sub_cancel_left]
  have r2out : ∀ b, b ∉ l ++ newN n d → ρ2 b = ρ b := by
    intro b hb
    show (if n ≤ b ∧ b < n + d then _ else ρ b) = _
    rw [if_neg]
    intro hh
    refine hb (List.mem_append.2 (.inr ?_))
    have := newN_get n d (b - n) (by omega)
    rw [show n + (b - n) = b by omega] at this
    exact List.mem_of_getElem? this
  have cases_ : ∀ b, b ∉ l ++ newN n d ∨ ∃ i, i < bs'.length ∧ b = fOf (l ++ newN n d) i := by
    intro b
    by_cases hb : b ∈ l ++ newN n d
    · obtain ⟨i, hi, e⟩ := List.getElem_of_mem hb
      refine .inr ⟨i, by omega, ?_⟩
      unfold fOf
      rw [List.getD_eq_getElem?_getD, List.getElem?_eq_getElem hi]
      exact e.symm
    · exact .inl hb
  have rle : ρ.le ρ2 := by
    intro b p hb
    rcases cases_ b with h | ⟨i, hi, rfl⟩
    · rw [r2out b h]; exact hb
    · rw [r2 i hi]
      by_cases hil : i < l.length
      · rw [pins i (by omega)]
        unfold rmR; rw [if_pos hil]
        rwa [inl i hil] at hb
      · obtain ⟨j, rfl⟩ : ∃ j, i = l.length + j := ⟨i - l.length, by omega⟩
        rw [inr j (by omega), (hr.dom _).1 (hfrm j (by omega))] at hb
        cases hb
  have mvH : ∀ b q, live bs' b = true → ρ' (id b) = some q → ρ2 (fOf (l ++ newN n d) b) = some q := by
    intro b q hb hq
    have : b < bs'.length := by
      unfold live at hb
      rcases Nat.lt_or_ge b bs'.length with h | h
      · exact h
      · rw [List.getElem?_eq_none h] at hb; cases hb
    rw [r2 b this]; exact hq
  -- what lies outside is not touched
  have freeOut : ∀ b p, b ∉ l ++ newN n d → ρ b = some p → Real (m' b) p → Free (rmR (fOf l) l.length ρ) (hpOf bs) p.1 := by
    intro b p hb hp' hreal c q hcq hrq he
    unfold rmR at hcq
    split at hcq
    · rename_i hcl
      have hmc : m' (fOf l c) = (hpOf bs c).ren (fOf l) := (atL_at hatm).2 c hcl
      have := hr.inj (fOf l c) b q p hcq hp' (by rw [hmc]; exact Real.ren.2 hrq) hreal he
      exact hb (this ▸ List.mem_append.2 (.inl (lmem c hcl)))
    · cases hcq
  have freeSub : ∀ B, Free ρ m' B → Free (rmR (fOf l) l.length ρ) (hpOf bs) B := by
    intro B hB c q hcq hrq he
    unfold rmR at hcq
    split at hcq
    · rename_i hcl
      have hmc : m' (fOf l c) = (hpOf bs c).ren (fOf l) := (atL_at hatm).2 c hcl
      exact hB (fOf l c) q hcq (by rw [hmc]; exact Real.ren.2 hrq) he
    · cases hcq
  have K2 : HRel h' ρ2 m2 w'.heap := by
    refine ⟨hr'.pers, ?_, ?_, ?_, ?_⟩
    · intro b
      rcases cases_ b with h | ⟨i, hi, rfl⟩
      · rw [m2out b h, r2out b h]; exact hr.dom b
      · rw [m2in i hi, r2 i hi, ← hr'.dom]
        cases hpOf bs' i <;> simp [Blk.ren]
    · intro b p hb
      rcases cases_ b with h | ⟨i, hi, rfl⟩
      · rw [r2out b h] at hb
        rw [m2out b h]
        by_cases hreal : Real (m' b) p
        · exact BlkRep.congr st.hle rle (st.frame p.1 (hr.real_lt hb hreal) (freeOut b p h hb hreal)) (hr.own b p hb)
        · exact BlkRep.notReal hreal (hr.own b p hb) _ rle _
      · rw [r2 i hi] at hb
        rw [m2in i hi]
        have := hr'.own i p hb
        have hmem : hpOf bs' i ∈ bs' := by
          unfold hpOf
          rw [List.getD_eq_getElem?_getD, List.getElem?_eq_getElem hi]
          exact List.getElem_mem hi
        refine BlkRep.mv (f := id) mvH (hbl _ hmem) ?_
        rw [Blk.ren_id]; exact this
    · intro b c p q hb hc' hrb hrc he
      rcases cases_ b with h | ⟨i, hi, rfl⟩ <;> rcases cases_ c with k | ⟨j, hj, rfl⟩
      · rw [r2out b h] at hb; rw [r2out c k] at hc'
        rw [m2out b h] at hrb; rw [m2out c k] at hrc
        exact hr.inj b c p q hb hc' hrb hrc he
      · exfalso
        rw [r2out b h] at hb; rw [m2out b h] at hrb
        rw [r2 j hj] at hc'; rw [m2in j hj] at hrc
        rcases st.own j q hc' (Real.ren.1 hrc) with h3 | ⟨c'', q'', h3, h4, h5⟩
        · have := hr.real_lt hb hrb; omega
        · exact freeOut b p h hb hrb c'' q'' h3 h4 (h5.trans he.symm)
      · exfalso
        rw [r2out c k] at hc'; rw [m2out c k] at hrc
        rw [r2 i hi] at hb; rw [m2in i hi] at hrb
        rcases st.own i p hb (Real.ren.1 hrb) with h3 | ⟨c'', q'', h3, h4, h5⟩
        · have := hr.real_lt hc' hrc; omega
        · exact freeOut c q k hc' hrc c'' q'' h3 h4 (h5.trans he)
      · rw [r2 i hi] at hb; rw [r2 j hj] at hc'
        rw [m2in i hi] at hrb; rw [m2in j hj] at hrc
        rw [hr'.inj i j p q hb hc' (Real.ren.1 hrb) (Real.ren.1 hrc) he]
    · intro b p hb hrb
      rcases cases_ b with h | ⟨i, hi, rfl⟩
      · rw [r2out b h] at hb; rw [m2out b h] at hrb
        rw [st.hlow p.1 (hr.real_lt hb hrb) (freeOut b p h hb hrb)]
        exact hr.sep b p hb hrb
      · rw [r2 i hi] at hb; rw [m2in i hi] at hrb
        exact hr'.sep i p hb (Real.ren.1 hrb)
  have S2 : Step ph ρ m' w.heap h' ρ2 m2 w'.heap := by
    refine ⟨st.hle, fun B hB hf => st.hlow B hB (freeSub B hf), rle, st.size, fun B hB hf => st.frame B hB (freeSub B hf), ?_⟩
    intro b p hb hrb
    rcases cases_ b with h | ⟨i, hi, rfl⟩
    · rw [r2out b h] at hb; rw [m2out b h] at hrb
      exact .inr ⟨b, p, hb, hrb, rfl⟩
    · rw [r2 i hi] at hb; rw [m2in i hi] at hrb
      rcases st.own i p hb (Real.ren.1 hrb) with h3 | ⟨c, q, h3, h4, h5⟩
      · exact .inl h3
      · unfold rmR at h3
        split at h3
        · rename_i hcl
          have hmc : m' (fOf l c) = (hpOf bs c).ren (fOf l) := (atL_at hatm).2 c hcl
          exact .inr ⟨fOf l c, q, h3, by rw [hmc]; exact Real.ren.2 h4, h5⟩
        · cases h3
  refine hn h' ρ2 w' vC S2 K2 e7 ?_
  refine RepV.mv (f := id) mvH v vC hvl ?_
  rw [AV.ren_id]; exact rv
end
end Go.Abs
