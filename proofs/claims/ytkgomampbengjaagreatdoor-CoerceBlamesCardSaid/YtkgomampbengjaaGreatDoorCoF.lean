import Derived.Test.YtkgomampbengjaaGreatDoorCoB
/- Plain: the labels of a cast, and whom it may blame. -/
set_option linter.unusedVariables false
set_option linter.unusedSimpArgs false
namespace Go.Gr
open Go.Abs Go.Proofs

theorem eachB_false (mis : Bool) (q : Nat → Bool) (la lb : List (Option (List D))) : ∀ (n i : Nat), eachB mis q la lb n i = false ↔ ∃ j, i ≤ j ∧ j < i + n ∧ eachA mis q la lb j = false
  | 0, i => by
    rw [eachB]
    constructor
    · intro h; cases h
    · rintro ⟨j, h1, h2, _⟩; omega
  | n + 1, i => by
    rw [eachB, Bool.and_eq_false_iff, eachB_false mis q la lb n (i + 1)]
    constructor
    · rintro (h | ⟨j, h1, h2, h3⟩)
      · exact ⟨i, by omega, by omega, h⟩
      · exact ⟨j, by omega, by omega, h3⟩
    · rintro ⟨j, h1, h2, h3⟩
      by_cases e : j = i
      · exact .inl (e ▸ h3)
      · exact .inr ⟨j, by omega, by omega, h3⟩
theorem blV_iff {v : Typ → Typ → Bool → Bool} {a b : Typ} {pos : Bool} (ga : goodT a) (gb : goodT b) (hne : ¬ (a.kind = 0 ∧ b.kind = 0)) : blamesV v a b pos = false ↔
    (pos = true ∧ ∃ i, i < 6 ∧ ∃ m, partO a i = some m ∧ partO b i = none) ∨ ∃ i, i < 6 ∧ ∃ m k, partO a i = some m ∧ partO b i = some k ∧ blQ v a b pos i = false := by
  unfold blamesV
  rw [if_neg hne, eachB_false]
  have key : ∀ i, i < 6 → (eachA (!pos) (blQ v a b pos) (prt a) (prt b) i = false ↔ (pos = true ∧ ∃ m, partO a i = some m ∧ partO b i = none) ∨ ∃ m k, partO a i = some m ∧ partO b i = some k ∧ blQ v a b pos i = false) := fun i hi => by
    unfold eachA
    rw [prt_getD ga hi, prt_getD gb hi]
    cases h1 : partO a i with
    | none => simp
    | some m =>
      cases h2 : partO b i with
      | none => simp
      | some k => simp
  constructor
  · rintro ⟨j, _, h2, h3⟩
    rcases (key j (by omega)).1 h3 with ⟨q, r⟩ | r
    · exact .inl ⟨q, j, by omega, r⟩
    · exact .inr ⟨j, by omega, r⟩
  · rintro (⟨q, j, h2, r⟩ | ⟨j, h2, r⟩)
    · exact ⟨j, by omega, by omega, (key j h2).2 (.inl ⟨q, r⟩)⟩
    · exact ⟨j, by omega, by omega, (key j h2).2 (.inr r)⟩

theorem any_names (i : Nat) : (anyP i).names = [] := rfl
theorem part_any {t : Typ} (h : t.kind = 0) {i : Nat} {k : Typ} (hk : partO t i = some k) : k = anyP i := by
  unfold partO at hk; rw [if_pos h] at hk
  simpa using hk.symm
theorem blQ4 {v : Typ → Typ → Bool → Bool} {a b m k : Typ} {pos : Bool} (hne : ¬ (a.kind = 0 ∧ b.kind = 0)) (h1 : partO a 4 = some m) (h2 : partO b 4 = some k) :
    blQ v a b pos 4 = false ↔ (pos = true ∧ ∃ s, s ∈ k.names ∧ s ∉ m.names) ∨ ∃ s, s ∈ recKeys (decide (a.kind = 0)) (decide (b.kind = 0)) m k ∧ v (kidO m s) (kidO k s) pos = false := by
  have e : blQ v a b pos 4 = (blNames (decide (b.kind = 0)) m k).all (blF v pos (decide (a.kind = 0)) m k) := by
    unfold blQ
    rw [h1, h2]
    have e1 : (decide (a.kind = 0) && decide ((4 : Nat) = 4)) = decide (a.kind = 0) := by simp
    have e2 : (decide (b.kind = 0) && decide ((4 : Nat) = 4)) = decide (b.kind = 0) := by simp
    show blamesP v pos (decide (a.kind = 0) && decide ((4 : Nat) = 4)) (decide (b.kind = 0) && decide ((4 : Nat) = 4)) m k 4 = _
    rw [e1, e2]
    unfold blamesP
    rw [if_neg (by decide)]
  rw [e, List.all_eq_false]
  have hF : ∀ s, (¬ blF v pos (decide (a.kind = 0)) m k s = true) ↔ (pos = true ∧ (¬ (a.kind = 0 ∨ s ∈ m.names) ∨ a.kind = 0)) ∨ ((a.kind = 0 ∨ s ∈ m.names) ∧ v (kidO m s) (kidO k s) pos = false) := fun s => by
    unfold blF
    rw [kidT_snd]
    generalize v (kidO m s) (kidO k s) pos = w
    by_cases q1 : a.kind = 0 <;> by_cases q2 : s ∈ m.names <;> cases pos <;> cases w <;> simp [q1, q2]
  unfold recKeys blNames
  by_cases hb : b.kind = 0
  · have ha : ¬ a.kind = 0 := fun q => hne ⟨q, hb⟩
    have hk := part_any hb h2
    subst hk
    rw [if_pos (by simpa using hb), if_pos (by simpa using hb), any_names]
    constructor
    · rintro ⟨s, hs, q⟩
      rcases (hF s).1 q with ⟨_, r⟩ | ⟨_, r⟩
      · rcases r with r | r
        · exact absurd (.inr hs) r
        · exact absurd r ha
      · exact .inr ⟨s, hs, r⟩
    · rintro (⟨_, s, hs, _⟩ | ⟨s, hs, r⟩)
      · cases hs
      · exact ⟨s, hs, (hF s).2 (.inr ⟨.inr hs, r⟩)⟩
  · rw [if_neg (by simpa using hb), if_neg (by simpa using hb)]
    by_cases ha : a.kind = 0
    · have hm := part_any ha h1
      subst hm
      rw [if_pos (by simpa using ha), any_names]
      constructor
      · rintro ⟨s, hs, q⟩
        rcases (hF s).1 q with ⟨r, _⟩ | ⟨_, r⟩
        · exact .inl ⟨r, s, hs, by simp⟩
        · exact .inr ⟨s, hs, r⟩
      · rintro (⟨r, s, hs, _⟩ | ⟨s, hs, r⟩)
        · exact ⟨s, hs, (hF s).2 (.inl ⟨r, .inr ha⟩)⟩
        · exact ⟨s, hs, (hF s).2 (.inr ⟨.inl ha, r⟩)⟩
    · rw [if_neg (by simpa using ha)]
      constructor
      · rintro ⟨s, hs, q⟩
        rcases (hF s).1 q with ⟨r, r'⟩ | ⟨r', r⟩
        · exact .inl ⟨r, s, hs, fun h => r'.elim (fun x => x (.inr h)) fun x => ha x⟩
        · refine .inr ⟨s, ?_, r⟩
          rw [List.mem_filter, decide_eq_true_eq]
          exact ⟨hs, r'.resolve_left ha⟩
      · rintro (⟨r, s, hs, hn⟩ | ⟨s, hs, r⟩)
        · exact ⟨s, hs, (hF s).2 (.inl ⟨r, .inl fun h => h.elim ha hn⟩)⟩
        · rw [List.mem_filter, decide_eq_true_eq] at hs
          exact ⟨s, hs.1, (hF s).2 (.inr ⟨.inr hs.2, r⟩)⟩
theorem blQ5 {v : Typ → Typ → Bool → Bool} {a b m k : Typ} {pos : Bool} (h1 : partO a 5 = some m) (h2 : partO b 5 = some k) :
    blQ v a b pos 5 = false ↔ v (kd k 0) (kd m 0) (!pos) = false ∨ v (kd m 1) (kd k 1) pos = false := by
  have e : blQ v a b pos 5 = (v (kd k 0) (kd m 0) (!pos) && v (kd m 1) (kd k 1) pos) := by
    unfold blQ
    rw [h1, h2]
    rfl
  rw [e, Bool.and_eq_false_iff]
theorem blQ_low {v : Typ → Typ → Bool → Bool} {a b m k : Typ} {pos : Bool} (gb : goodT b) {i : Nat} (hi : i < 6) (n4 : i ≠ 4) (n5 : i ≠ 5) (h1 : partO a i = some m) (h2 : partO b i = some k) : blQ v a b pos i = true := by
  obtain ⟨tk, gk, nk7, _⟩ := partO_is gb hi h2
  unfold blQ
  rw [h1, h2]
  simp only
  unfold blamesP blNames
  rw [if_neg n5, if_neg (by simp [n4]), low_names gk nk7 tk n4 n5 hi]
  rfl

theorem cst_has {v : Typ → Typ → Int → Coe} {a b : Typ} {p x : Int} (hne : ¬ (a.kind = 0 ∧ b.kind = 0)) (h0 : x ≠ 0) : x ∈ rawC (cstV v a b p) ↔
    (x = p ∧ ∃ i, i < 6 ∧ ∃ m, partO a i = some m ∧ partO b i = none) ∨
    (∃ m k, partO a 4 = some m ∧ partO b 4 = some k ∧ ((x = p ∧ ∃ s, s ∈ k.names ∧ s ∉ m.names) ∨ ∃ s, s ∈ recKeys (decide (a.kind = 0)) (decide (b.kind = 0)) m k ∧ x ∈ rawC (v (kidO m s) (kidO k s) p))) ∨
    ∃ m k, partO a 5 = some m ∧ partO b 5 = some k ∧ (x ∈ rawC (v (kd k 0) (kd m 0) (flp p)) ∨ x ∈ rawC (v (kd m 1) (kd k 1) p)) := by
  unfold cstV
  rw [if_neg hne, rawC_eq, rawCs_app]
  simp only [List.mem_append, Coe.tags, Coe.needs, Coe.fields, Coe.fn]
  have ht : x ∈ tgsP a b p ↔ x = p ∧ ∃ i, i < 6 ∧ ∃ m, partO a i = some m ∧ partO b i = none := by
    have key : ∀ i, x = tgP a b p i ↔ x = p ∧ ∃ m, partO a i = some m ∧ partO b i = none := fun i => by
      unfold tgP
      cases h1 : partO a i with
      | none => simp [h0]
      | some m =>
        cases h2 : partO b i with
        | none => simp
        | some k => simp [h0]
    simp only [tgsP, List.mem_cons, List.not_mem_nil, or_false]
    constructor
    · rintro (h | h | h | h | h | h) <;> obtain ⟨e, r⟩ := (key _).1 h
      · exact ⟨e, 0, by omega, r⟩
      · exact ⟨e, 1, by omega, r⟩
      · exact ⟨e, 2, by omega, r⟩
      · exact ⟨e, 3, by omega, r⟩
      · exact ⟨e, 4, by omega, r⟩
      · exact ⟨e, 5, by omega, r⟩
    · rintro ⟨e, i, hi, r⟩
      have := (key i).2 ⟨e, r⟩
      match i, hi with
      | 0, _ => exact .inl this
      | 1, _ => exact .inr (.inl this)
      | 2, _ => exact .inr (.inr (.inl this))
      | 3, _ => exact .inr (.inr (.inr (.inl this)))
      | 4, _ => exact .inr (.inr (.inr (.inr (.inl this))))
      | 5, _ => exact .inr (.inr (.inr (.inr (.inr this))))
  have hn : x ∈ (ndP a b p).map (·.2) ↔ ∃ m k, partO a 4 = some m ∧ partO b 4 = some k ∧ x = p ∧ ∃ s, s ∈ k.names ∧ s ∉ m.names := by
    unfold ndP
    cases h1 : partO a 4 with
    | none => simp
    | some m =>
      cases h2 : partO b 4 with
      | none => simp
      | some k =>
        simp only [ndsP, List.map_map, List.mem_map, List.mem_filter, Function.comp_apply, Bool.not_eq_true', decide_eq_false_iff_not, Option.some.injEq]
        constructor
        · rintro ⟨s, hs, rfl⟩
          exact ⟨m, k, rfl, rfl, rfl, s, hs⟩
        · rintro ⟨m', k', rfl, rfl, rfl, s, hs⟩
          exact ⟨s, hs, rfl⟩
  have hf : x ∈ rawCs ((fdP v a b p).map (·.2)) ↔ ∃ m k, partO a 4 = some m ∧ partO b 4 = some k ∧ ∃ s, s ∈ recKeys (decide (a.kind = 0)) (decide (b.kind = 0)) m k ∧ x ∈ rawC (v (kidO m s) (kidO k s) p) := by
    unfold fdP
    cases h1 : partO a 4 with
    | none => simp [rawCs]
    | some m =>
      cases h2 : partO b 4 with
      | none => simp [rawCs]
      | some k =>
        simp only [rawCs_mem, List.mem_map, Option.some.injEq]
        constructor
        · rintro ⟨c, ⟨y, hy, rfl⟩, hx⟩
          have := recF_mem hy
          exact ⟨m, k, rfl, rfl, y.1, this.1, by rw [← this.2.1]; exact hx⟩
        · rintro ⟨m', k', rfl, rfl, s, hs, hx⟩
          refine ⟨_, ⟨(s, v (kidO m s) (kidO k s) p), ?_, rfl⟩, hx⟩
          unfold recF busy
          rw [List.mem_filter, List.mem_map]
          refine ⟨⟨s, hs, rfl⟩, ?_⟩
          simp only [Bool.not_eq_true', sameC_no]
          intro e
          rw [e] at hx
          exact h0 (raw_id hx)
  have hg : x ∈ rawCs (fnP v a b p) ↔ ∃ m k, partO a 5 = some m ∧ partO b 5 = some k ∧ (x ∈ rawC (v (kd k 0) (kd m 0) (flp p)) ∨ x ∈ rawC (v (kd m 1) (kd k 1) p)) := by
    unfold fnP
    cases h1 : partO a 5 with
    | none => simp [rawCs]
    | some m =>
      cases h2 : partO b 5 with
      | none => simp [rawCs]
      | some k =>
        have hfun : ∀ f g : Coe, x ∈ rawCs (funC f g) ↔ x ∈ rawC f ∨ x ∈ rawC g := fun f g => by
          unfold funC
          split
          · rename_i e
            rw [Bool.and_eq_true, sameC_iff, sameC_iff] at e
            rw [e.1, e.2]
            constructor
            · intro h; cases h
            · rintro (h | h) <;> exact absurd (raw_id h) h0
          · simp [rawCs]
        simp only [hfun, Option.some.injEq]
        constructor
        · intro h
          exact ⟨m, k, rfl, rfl, h⟩
        · rintro ⟨m', k', rfl, rfl, h⟩
          exact h
  rw [ht, hn, hf, hg]
  constructor
  · rintro ((h | ⟨m, k, h1, h2, h⟩) | ⟨m, k, h1, h2, h⟩ | h)
    · exact .inl h
    · exact .inr (.inl ⟨m, k, h1, h2, .inl h⟩)
    · exact .inr (.inl ⟨m, k, h1, h2, .inr h⟩)
    · exact .inr (.inr h)
  · rintro (h | ⟨m, k, h1, h2, h | h⟩ | h)
    · exact .inl (.inl h)
    · exact .inl (.inr ⟨m, k, h1, h2, h⟩)
    · exact .inr (.inl ⟨m, k, h1, h2, h⟩)
    · exact .inr (.inr h)

/-- whose label stands in a cast: who may be blamed -/
theorem blame_iff : ∀ (n : Nat) (a b : Typ) (p : Int), goodT a → goodT b → 2 ≤ p → (p ∈ rawC (cstN n a b p) ↔ blamesN n a b true = false) ∧ (flp p ∈ rawC (cstN n a b p) ↔ blamesN n a b false = false)
  | 0, a, b, p, _, _, hp => by
    have hf := flp_ge hp
    refine ⟨⟨fun h => ?_, fun h => by cases h⟩, ⟨fun h => ?_, fun h => by cases h⟩⟩
    · have := raw_id h; omega
    · have := raw_id h; omega
  | n + 1, a, b, p, ga, gb, hp => by
    have hf := flp_ge hp
    have hne' := flp_ne p
    have hff := flp_flp p
    by_cases hd : a.kind = 0 ∧ b.kind = 0
    · have e1 : cstN (n + 1) a b p = idC := by rw [cstN]; unfold cstV; rw [if_pos hd]
      have e2 : ∀ pos, blamesN (n + 1) a b pos = true := fun pos => by rw [blamesN]; unfold blamesV; rw [if_pos hd]
      rw [e1, e2, e2]
      refine ⟨⟨fun h => ?_, fun h => by cases h⟩, ⟨fun h => ?_, fun h => by cases h⟩⟩
      · have := raw_id h; omega
      · have := raw_id h; omega
    · have main : ∀ (x : Int) (pos : Bool), x ≠ 0 → (x = p ↔ pos = true) → (∀ a b, goodT a → goodT b → (x ∈ rawC (cstN n a b p) ↔ blamesN n a b pos = false)) → (∀ a b, goodT a → goodT b → (x ∈ rawC (cstN n a b (flp p)) ↔ blamesN n a b (!pos) = false)) →
          (x ∈ rawC (cstN (n + 1) a b p) ↔ blamesN (n + 1) a b pos = false) := fun x pos x0 hx I1 I2 => by
        rw [cstN, blamesN, cst_has hd x0, blV_iff ga gb hd, hx]
        constructor
        · rintro (h | ⟨m, k, h1, h2, h⟩ | ⟨m, k, h1, h2, h⟩)
          · exact .inl h
          · refine .inr ⟨4, by omega, m, k, h1, h2, (blQ4 hd h1 h2).2 (h.imp id fun ⟨s, hs, q⟩ => ⟨s, hs, ?_⟩)⟩
            exact (I1 _ _ (good_kidO (partO_is ga (by omega) h1).2.1 s) (good_kidO (partO_is gb (by omega) h2).2.1 s)).1 q
          · refine .inr ⟨5, by omega, m, k, h1, h2, (blQ5 h1 h2).2 (h.imp (fun q => ?_) fun q => ?_)⟩
            · exact (I2 _ _ (good_kd (partO_is gb (by omega) h2).2.1 0) (good_kd (partO_is ga (by omega) h1).2.1 0)).1 q
            · exact (I1 _ _ (good_kd (partO_is ga (by omega) h1).2.1 1) (good_kd (partO_is gb (by omega) h2).2.1 1)).1 q
        · rintro (h | ⟨i, hi, m, k, h1, h2, h⟩)
          · exact .inl h
          · by_cases i4 : i = 4
            · subst i4
              refine .inr (.inl ⟨m, k, h1, h2, ((blQ4 hd h1 h2).1 h).imp id fun ⟨s, hs, q⟩ => ⟨s, hs, ?_⟩⟩)
              exact (I1 _ _ (good_kidO (partO_is ga (by omega) h1).2.1 s) (good_kidO (partO_is gb (by omega) h2).2.1 s)).2 q
            · by_cases i5 : i = 5
              · subst i5
                refine .inr (.inr ⟨m, k, h1, h2, ((blQ5 h1 h2).1 h).imp (fun q => ?_) fun q => ?_⟩)
                · exact (I2 _ _ (good_kd (partO_is gb (by omega) h2).2.1 0) (good_kd (partO_is ga (by omega) h1).2.1 0)).2 q
                · exact (I1 _ _ (good_kd (partO_is ga (by omega) h1).2.1 1) (good_kd (partO_is gb (by omega) h2).2.1 1)).2 q
              · rw [blQ_low gb hi i4 i5 h1 h2] at h; cases h
      refine ⟨main p true (by omega) (by simp) (fun a b g1 g2 => (blame_iff n a b p g1 g2 hp).1) fun a b g1 g2 => ?_, main (flp p) false (by omega) (by simp [hne']) (fun a b g1 g2 => (blame_iff n a b p g1 g2 hp).2) fun a b g1 g2 => ?_⟩
      · have := (blame_iff n a b (flp p) g1 g2 hf).2
        rw [hff] at this
        exact this
      · exact (blame_iff n a b (flp p) g1 g2 hf).1
end Go.Gr

/- rel.Pos and rel.Neg; CoerceBlames, walked. -/
set_option linter.unusedVariables false
set_option linter.unusedSimpArgs false
namespace Go.Gr
open Go.Abs Go.Proofs

theorem Pos_ok (a b : Typ) (R : Bool) (H : isN a = true → isN b = true → PCall Pg F.rel_blames [.agg a.enc, .agg b.enc, .one (.bool true)] (.one (.bool R))) :
    PCall Pg F.rel_Pos [.agg a.enc, .agg b.enc] (.one (.bool (isN a && isN b && R))) := by
  refine w_rel_Pos (by simp) fun o c hN hp => ?_
  have hn := rnormal_ok true [a, b]
  unfold mc_rel_Pos
  simp
  refine callK.mk hn ?_
  simp
  refine gd.mk (fun h => ?_) (fun h => ?_)
  · have h : isN a = true ∧ isN b = true := by simpa using h
    refine callK.mk (H h.1 h.2) ?_
    simp [h.1, h.2]
  · have h : ¬ (isN a = true ∧ isN b = true) := by simpa using h
    exact fun h1 h2 => absurd ⟨h1, h2⟩ h
theorem Neg_ok (a b : Typ) (R : Bool) (H : isN a = true → isN b = true → PCall Pg F.rel_blames [.agg a.enc, .agg b.enc, .one (.bool false)] (.one (.bool R))) :
    PCall Pg F.rel_Neg [.agg a.enc, .agg b.enc] (.one (.bool (isN a && isN b && R))) := by
  refine w_rel_Neg (by simp) fun o c hN hp => ?_
  have hn := rnormal_ok true [a, b]
  unfold mc_rel_Neg
  simp
  refine callK.mk hn ?_
  simp
  refine gd.mk (fun h => ?_) (fun h => ?_)
  · have h : isN a = true ∧ isN b = true := by simpa using h
    refine callK.mk (H h.1 h.2) ?_
    simp [h.1, h.2]
  · have h : ¬ (isN a = true ∧ isN b = true) := by simpa using h
    exact fun h1 h2 => absurd ⟨h1, h2⟩ h
theorem cst_tags (n : Nat) (a b : Typ) (p : Int) : (cstN n a b p).tags.length = 6 := by
  cases n with
  | zero => rfl
  | succ n =>
    rw [cstN, cstV]
    split <;> rfl
theorem self_Sub (a : Typ) : ∃ R, PCall Pg F.rel_Sub [.agg a.enc, .agg a.enc] (.one (.bool (isN a && R))) := by
  have h := Sub_ok a a (belowN false (dpt a) a a) fun h1 h2 => below_ok false (dpt a) a a (nrm_good h1).1 (nrm_good h1).1 (Nat.le_refl _) (Nat.le_refl _)
  rw [Bool.and_self] at h
  exact ⟨_, h⟩

set_option maxRecDepth 20000 in
theorem CoerceBlames_ok (a b : Typ) (lb : Int) : PCall Pg F.graduslaw10_CoerceBlames [.agg a.enc, .agg b.enc, .one (.int .i64 lb)] (.one (.bool true)) := by
  refine w_graduslaw10_CoerceBlames (by simp) fun o c hN hp => ?_
  have l1 : lb ≤ 9223372036854775807 := by
    have := o.2.2.1
    simp only [DV.ok, D.ok, i64_max] at this
    exact this.2
  unfold mc_graduslaw10_CoerceBlames
  simp
  refine callK.mk awake_ok ?_
  simp
  refine callK.mk (heavy_ok a 300) ?_
  simp
  refine gd.mk (fun h => ?_) (fun h => trivial)
  refine callK.mk (heavy_ok b 300) ?_
  simp
  refine gd.mk (fun h2 => ?_) (fun h2 => trivial)
  by_cases h3 : lb < 2
  · simp [h3]
  have n1 := dpt_pos a
  have hmk := Make_ok (dpt a + dpt b) a b lb (by omega) (by omega) l1
  have hlb : 2 ≤ lb := by omega
  have hx := xor_flp (lb := lb) (by omega) l1
  by_cases hn : isN a = true ∧ isN b = true
  · have ga := nrm_good hn.1
    have gb := nrm_good hn.2
    have hb := blame_iff (dpt a + dpt b) a b lb ga gb hlb
    have hPos := Pos_ok a b (blamesN (dpt a + dpt b) a b true) fun _ _ => blames_ok (dpt a + dpt b) a b true ga gb (by omega)
    have hNeg := Neg_ok a b (blamesN (dpt a + dpt b) a b false) fun _ _ => blames_ok (dpt a + dpt b) a b false ga gb (by omega)
    rw [hn.1, hn.2] at hPos hNeg
    simp only [Bool.true_and] at hPos hNeg
    generalize dpt a + dpt b = N at *
    have e1 : makeP N a b lb = cstN N a b lb := by
      unfold makeP
      rw [if_neg]
      rintro (q | q | q | q)
      · omega
      · omega
      · rw [hn.1] at q; cases q
      · rw [hn.2] at q; cases q
    rw [e1] at hmk
    have hi := cst_in N a b lb
    have hs := cst_sm N a b lb ga gb
    have hr : ∀ x, x ∈ rawC (cstN N a b lb) → x ∈ [0, lb, flp lb] := fun x hx => by
      rcases cst_raw N _ _ _ hx with r | r | r <;> simp [r]
    have ht := cst_tags N a b lb
    generalize cstN N a b lb = C at *
    have hl := LabelsD_ok N hi (smC_up (by omega) hs) [0, lb, flp lb] (by simp) hr
    have hf := flp_ge hlb
    have hL : ∀ x, x ∈ labS (rawC C) → x = lb ∨ x = flp lb := fun x hx => by
      obtain ⟨h1, h2⟩ := labS_mem.1 hx
      have := hr x h1
      simp only [List.mem_cons, List.not_mem_nil, or_false] at this
      exact this.resolve_left h2
    have hlen : (labS (rawC C)).length ≤ 3 := nodup_sub (k := [0, lb, flp lb]) ((labS_rises _).imp fun h e => by omega) fun x hx => hr x (labS_mem.1 hx).1
    have ho : blamesN N a b true = !decide (lb ∈ labS (rawC C)) := by
      have : lb ∈ labS (rawC C) ↔ blamesN N a b true = false := by
        rw [← hb.1, labS_mem]
        exact ⟨fun h => h.1, fun h => ⟨h, by omega⟩⟩
      cases hq : blamesN N a b true with
      | true => rw [hq] at this; simp at this; simp [this]
      | false => rw [hq] at this; simp at this; simp [this]
    have hw : blamesN N a b false = !decide (flp lb ∈ labS (rawC C)) := by
      have : flp lb ∈ labS (rawC C) ↔ blamesN N a b false = false := by
        rw [← hb.2, labS_mem]
        exact ⟨fun h => h.1, fun h => ⟨h, by omega⟩⟩
      cases hq : blamesN N a b false with
      | true => rw [hq] at this; simp at this; simp [this]
      | false => rw [hq] at this; simp at this; simp [this]
    rw [ho] at hPos
    rw [hw] at hNeg
    generalize labS (rawC C) = L at *
    simp [h3]
    refine callK.mk hmk ?_
    simp [ht]
    refine callK.mk hl ?_
    simp
    have hlen1 : L.length ≤ 1000 := by omega
    refine W.loop Pg_mixed hp (fun x : Nat × Bool × Bool => x.1 ≤ L.length ∧ x.2.1 = decide (lb ∈ L.take x.1) ∧ x.2.2 = decide (flp lb ∈ L.take x.1)) (fun x => [(12, .c (.d (.int .i64 x.1))), (9, .c (.d (.sl false 1 (encI L)))), (10, .c (.d (.bool x.2.1))), (11, .c (.d (.bool x.2.2))), (2, .c (.d (.int .i64 lb))), (3, .c (.d (.rp a.enc 0))), (4, .c (.d (.rp b.enc 0)))])
      (fun _ => []) (fun x => L.length - x.1) (0, false, false) [] ⟨by simp, by simp, by simp⟩ (by simp) fun ⟨j, ow, ot⟩ ⟨h1, h2, h3⟩ => ?_
    unfold lp_graduslaw10_CoerceBlames_0
    simp only at h1 h2 h3
    simp
    refine gd.mk (fun h => ?_) (fun h => ?_)
    · have hj : j < L.length := by simpa using h
      have hne : ¬ lb = flp lb := fun q => flp_ne lb q.symm
      have hne2 : ¬ flp lb = lb := flp_ne lb
      have m1 := mem_take hj (k := lb)
      have m2 := mem_take hj (k := flp lb)
      rcases hL _ (List.getElem_mem hj) with e | e
      · rw [e] at m1 m2
        have b1 : true = decide (lb ∈ L.take (j + 1)) := by simp [m1]
        have b2 : ot = decide (flp lb ∈ L.take (j + 1)) := by rw [h3]; simp [m2, hne2]
        clear h2 h3
        cases ow <;> cases ot <;> simp [List.getElem?_eq_getElem hj, e, hx, hne, hne2]
        · exact Abs.Next.mk (j + 1, true, false) [] ⟨by simp only; omega, b1, b2⟩ (by simp; omega) (by simp; exact wrap_i64 (by omega) (by omega))
        · exact Abs.Next.mk (j + 1, true, true) [] ⟨by simp only; omega, b1, b2⟩ (by simp; omega) (by simp; exact wrap_i64 (by omega) (by omega))
        · exact Abs.Next.mk (j + 1, true, false) [] ⟨by simp only; omega, b1, b2⟩ (by simp; omega) (by simp; exact wrap_i64 (by omega) (by omega))
        · exact Abs.Next.mk (j + 1, true, true) [] ⟨by simp only; omega, b1, b2⟩ (by simp; omega) (by simp; exact wrap_i64 (by omega) (by omega))
      · rw [e] at m1 m2
        have b1 : ow = decide (lb ∈ L.take (j + 1)) := by rw [h2]; simp [m1, hne]
        have b2 : true = decide (flp lb ∈ L.take (j + 1)) := by simp [m2]
        clear h2 h3
        cases ow <;> cases ot <;> simp [List.getElem?_eq_getElem hj, e, hx, hne, hne2]
        · exact Abs.Next.mk (j + 1, false, true) [] ⟨by simp only; omega, b1, b2⟩ (by simp; omega) (by simp; exact wrap_i64 (by omega) (by omega))
        · exact Abs.Next.mk (j + 1, false, true) [] ⟨by simp only; omega, b1, b2⟩ (by simp; omega) (by simp; exact wrap_i64 (by omega) (by omega))
        · exact Abs.Next.mk (j + 1, true, true) [] ⟨by simp only; omega, b1, b2⟩ (by simp; omega) (by simp; exact wrap_i64 (by omega) (by omega))
        · exact Abs.Next.mk (j + 1, true, true) [] ⟨by simp only; omega, b1, b2⟩ (by simp; omega) (by simp; exact wrap_i64 (by omega) (by omega))
    · have hj : j = L.length := by simp at h; omega
      subst hj
      rw [List.take_length] at h2 h3
      rw [← h2] at hPos
      rw [← h3] at hNeg
      refine callK.mk hPos ?_
      cases ow <;> simp
      all_goals
        refine callK.mk hNeg ?_
        cases ot <;> simp
  · obtain ⟨R1, s1⟩ := self_Sub a
    obtain ⟨R2, s2⟩ := self_Sub b
    have e1 : makeP (dpt a + dpt b) a b lb = noC := by
      unfold makeP
      rw [if_pos]
      by_cases q : isN a = true
      · exact .inr (.inr (.inr (by rw [← Bool.not_eq_true]; exact fun q' => hn ⟨q, q'⟩)))
      · exact .inr (.inr (.inl (by rw [← Bool.not_eq_true]; exact q)))
    rw [e1] at hmk
    simp [h3]
    refine callK.mk hmk ?_
    simp [noC_enc]
    refine callK.mk s1 ?_
    simp
    refine gd.mk (fun h => ?_) (fun h => ?_)
    · simp at h
      have hb : isN b = false := by rw [← Bool.not_eq_true]; exact fun q => hn ⟨h.1, q⟩
      refine callK.mk s2 ?_
      simp [hb]
    · simp
end Go.Gr
