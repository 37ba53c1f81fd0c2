import Derived.Test.YtkgomampbengjaaGreatDoorCoA
import Derived.Test.YtkgomampbengjaaGreatDoorCoX
import Derived.Test.YtkgomampbengjaaGreatDoorCoZ
/- Plain: what a cast is; one of a type to itself; that it is normal; its labels. -/
set_option linter.unusedVariables false
set_option linter.unusedSimpArgs false
namespace Go.Gr
open Go.Abs Go.Proofs

/-! ### a type's part of a tag -/
def anyP (i : Nat) : Typ := .mk (i + 1) (bs []) [] (if i = 5 then [bT0 0, bT0 0] else [])
def memO (t : Typ) (i : Nat) : Option Typ := (if t.kind = 7 then t.kids else [t]).find? fun x => decide (tagOf x = i)
def partO (t : Typ) (i : Nat) : Option Typ := if t.kind = 0 then some (anyP i) else memO t i
def kd (t : Typ) (j : Nat) : Typ := t.kids.getD j (bT0 0)
/-- the other side's label -/
def flp (p : Int) : Int := if p % 2 = 0 then p + 1 else p - 1
theorem flp_flp (p : Int) : flp (flp p) = p := by unfold flp; split <;> split <;> omega
theorem flp_ne (p : Int) : flp p ≠ p := by unfold flp; split <;> omega
theorem flp_ge {p : Int} (h : 2 ≤ p) : 2 ≤ flp p := by unfold flp; split <;> omega

/-! ### what a cast is -/
def recKeys (lo op : Bool) (m k : Typ) : List ByteArray := if op = true then m.names else if lo = true then k.names else k.names.filter fun s => decide (s ∈ m.names)
def kidO (t : Typ) (s : ByteArray) : Typ := (kidT false t s).1
def ndsP (lb : Int) (m k : Typ) : List (ByteArray × Int) := (k.names.filter fun s => !decide (s ∈ m.names)).map fun s => (s, lb)
def recF (v : Typ → Typ → Int → Coe) (lo op : Bool) (m k : Typ) (p : Int) : List (ByteArray × Coe) := busy ((recKeys lo op m k).map fun s => (s, v (kidO m s) (kidO k s) p))
def tgP (a b : Typ) (p : Int) (i : Nat) : Int := match partO a i, partO b i with
  | some _, none => p
  | _, _ => 0
def ndP (a b : Typ) (p : Int) : List (ByteArray × Int) := match partO a 4, partO b 4 with
  | some m, some k => ndsP p m k
  | _, _ => []
def fdP (v : Typ → Typ → Int → Coe) (a b : Typ) (p : Int) : List (ByteArray × Coe) := match partO a 4, partO b 4 with
  | some m, some k => recF v (decide (a.kind = 0)) (decide (b.kind = 0)) m k p
  | _, _ => []
def fnP (v : Typ → Typ → Int → Coe) (a b : Typ) (p : Int) : List Coe := match partO a 5, partO b 5 with
  | some m, some k => funC (v (kd k 0) (kd m 0) (flp p)) (v (kd m 1) (kd k 1) p)
  | _, _ => []
def tgsP (a b : Typ) (p : Int) : List Int := [tgP a b p 0, tgP a b p 1, tgP a b p 2, tgP a b p 3, tgP a b p 4, tgP a b p 5]
def cstV (v : Typ → Typ → Int → Coe) (a b : Typ) (p : Int) : Coe :=
  if a.kind = 0 ∧ b.kind = 0 then idC else .mk (tgsP a b p) (ndP a b p) ((fdP v a b p).map (·.1)) ((fdP v a b p).map (·.2)) (fnP v a b p)
def cstN : Nat → Typ → Typ → Int → Coe
  | 0, _, _, _ => idC
  | n + 1, a, b, p => cstV (cstN n) a b p

/-! ### of a type to itself -/
theorem busy_none {v : ByteArray → Coe} (h : ∀ s, v s = idC) (l : List ByteArray) : busy (l.map fun s => (s, v s)) = [] := by
  induction l with
  | nil => rfl
  | cons s l ih =>
    unfold busy at ih ⊢
    rw [List.map_cons, List.filter_cons, ih]
    simp [h s, sameC_rfl]
theorem cst_self : ∀ (n : Nat) (a : Typ) (p : Int), cstN n a a p = idC
  | 0, _, _ => rfl
  | n + 1, a, p => by
    rw [cstN, cstV]
    split
    · rfl
    · have h1 : tgsP a a p = [0, 0, 0, 0, 0, 0] := by
        have : ∀ i, tgP a a p i = 0 := fun i => by unfold tgP; cases partO a i <;> rfl
        unfold tgsP; simp only [this]
      have h2 : ndP a a p = [] := by
        unfold ndP; cases partO a 4 with
        | none => rfl
        | some m =>
          simp only [ndsP, List.map_eq_nil_iff, List.filter_eq_nil_iff]
          intro s hs; simp [hs]
      have h3 : fdP (cstN n) a a p = [] := by
        unfold fdP; cases partO a 4 with
        | none => rfl
        | some m => exact busy_none (fun s => cst_self n _ p) _
      have h4 : fnP (cstN n) a a p = [] := by
        unfold fnP; cases partO a 5 with
        | none => rfl
        | some m =>
          simp only [cst_self n]
          unfold funC; simp [sameC_rfl]
      rw [h1, h2, h3, h4]
      rfl

/-! ### parts of types that are well made -/
/-- a type that is well made, and not too great -/
def goodT (t : Typ) : Prop := wfT t ∧ fewT t
theorem good_any : goodT (bT0 0) := ⟨wf_bT0, by rw [fewT_iff]; exact ⟨by simp [bT0, Typ.kids], fun x hx => by cases hx⟩⟩
theorem good_kid {t x : Typ} (h : goodT t) (hx : x ∈ t.kids) : goodT x := ⟨((wfT_iff t).1 h.1).2.1 x hx, ((fewT_iff t).1 h.2).2 x hx⟩
theorem memO_is {t : Typ} (h : goodT t) {i : Nat} {k : Typ} (hk : memO t i = some k) : tagOf k = i ∧ goodT k ∧ k.kind ≠ 7 ∧ ∀ x, x ∈ k.kids → dpt x < dpt t := by
  unfold memO at hk
  have h1 := List.find?_some hk
  have h2 := List.mem_of_find?_eq_some hk
  simp only [decide_eq_true_eq] at h1
  have h7 : k.kind ≠ 7 := fun e => by
    unfold tagOf at h1; rw [if_pos (by omega)] at h1; omega
  split at h2
  · exact ⟨h1, good_kid h h2, h7, fun x hx => Nat.lt_trans (dpt_kid hx) (dpt_kid h2)⟩
  · rw [List.mem_singleton] at h2
    subst h2
    exact ⟨h1, h, h7, fun x hx => dpt_kid hx⟩
theorem anyP_wf {i : Nat} (hi : i < 6) : tagOf (anyP i) = i ∧ goodT (anyP i) ∧ (anyP i).kind ≠ 7 ∧ ∀ x, x ∈ (anyP i).kids → x = bT0 0 := by
  have hx : ∀ x, x ∈ (anyP i).kids → x = bT0 0 := fun x hx => by
    simp only [anyP, Typ.kids] at hx
    split at hx <;> simp at hx
    exact hx
  refine ⟨?_, ⟨?_, ?_⟩, ?_, hx⟩
  · show (if ((i : Int) + 1 < 1 ∨ 6 < (i : Int) + 1) then (-1 : Int) else (i : Int) + 1 - 1) = i
    rw [if_neg (by omega)]; omega
  · rw [wfT_iff]
    refine ⟨rfl, fun x h => by rw [hx x h]; exact wf_bT0, ?_⟩
    by_cases h5 : i = 5
    · subst h5
      exact .inr (.inr (.inl ⟨rfl, rfl, rfl⟩))
    · by_cases h4 : i = 4
      · subst h4
        exact .inr (.inl ⟨rfl, rfl, by simp [anyP, Typ.names]⟩)
      · refine .inl ⟨?_, ?_, rfl, ?_⟩
        · simp only [anyP, Typ.kind]; omega
        · simp only [anyP, Typ.kind]; omega
        · simp [anyP, Typ.kids, h5]
  · rw [fewT_iff]
    refine ⟨?_, fun x h => by rw [hx x h]; exact good_any.2⟩
    simp only [anyP, Typ.kids]; split <;> simp
  · simp only [anyP, Typ.kind]; omega
theorem dpt_any : dpt (bT0 0) = 1 := rfl
theorem partO_is {t : Typ} (h : goodT t) {i : Nat} (hi : i < 6) {k : Typ} (hk : partO t i = some k) : tagOf k = i ∧ goodT k ∧ k.kind ≠ 7 ∧ ∀ x, x ∈ k.kids → (t.kind = 0 ∧ x = bT0 0) ∨ (t.kind ≠ 0 ∧ dpt x < dpt t) := by
  unfold partO at hk
  split at hk
  · rename_i h0
    simp only [Option.some.injEq] at hk
    subst hk
    obtain ⟨a1, a2, a3, a4⟩ := anyP_wf hi
    exact ⟨a1, a2, a3, fun x hx => .inl ⟨h0, a4 x hx⟩⟩
  · rename_i h0
    obtain ⟨a1, a2, a3, a4⟩ := memO_is h hk
    exact ⟨a1, a2, a3, fun x hx => .inr ⟨h0, a4 x hx⟩⟩
theorem kidO_mem {k : Typ} (s : ByteArray) : kidO k s ∈ k.kids ∨ kidO k s = bT0 0 := by
  unfold kidO kidT
  split
  · simp only
    by_cases q : (fi (fun x => decide (s = x)) 0 k.names).toNat < k.kids.length
    · rw [List.getD_eq_getElem?_getD, List.getElem?_eq_getElem q]
      exact .inl (List.getElem_mem q)
    · rw [List.getD_eq_getElem?_getD, List.getElem?_eq_none (by omega)]
      exact .inr rfl
  · exact .inr rfl
theorem kd_mem (k : Typ) (j : Nat) : kd k j ∈ k.kids ∨ kd k j = bT0 0 := by
  unfold kd
  by_cases q : j < k.kids.length
  · exact .inl (getD_mem q)
  · rw [List.getD_eq_getElem?_getD, List.getElem?_eq_none (by omega)]
    exact .inr rfl
theorem good_kidO {k : Typ} (h : goodT k) (s : ByteArray) : goodT (kidO k s) := by
  rcases kidO_mem (k := k) s with q | q
  · exact good_kid h q
  · rw [q]; exact good_any
theorem good_kd {k : Typ} (h : goodT k) (j : Nat) : goodT (kd k j) := by
  rcases kd_mem k j with q | q
  · exact good_kid h q
  · rw [q]; exact good_any
theorem good_names {k : Typ} (h : goodT k) : k.names.Pairwise ltB ∧ k.names.length ≤ k.kids.length ∧ k.names.length ≤ 200 := by
  have h2 := ((fewT_iff k).1 h.2).1
  rcases ((wfT_iff k).1 h.1).2.2 with q | q | q | q
  · rw [q.2.2.1]; simp
  · exact ⟨q.2.2, by omega, by omega⟩
  · rw [q.2.1]; simp
  · rw [q.2.1]; simp
theorem recKeys_sub {lo op : Bool} {m k : Typ} : (recKeys lo op m k).Sublist m.names ∨ (recKeys lo op m k).Sublist k.names := by
  unfold recKeys
  split
  · exact .inl (List.Sublist.refl _)
  · split
    · exact .inr (List.Sublist.refl _)
    · exact .inr List.filter_sublist
theorem recKeys_rises {lo op : Bool} {m k : Typ} (hm : goodT m) (hk : goodT k) : (recKeys lo op m k).Pairwise ltB ∧ (recKeys lo op m k).length ≤ 200 := by
  rcases recKeys_sub (lo := lo) (op := op) (m := m) (k := k) with q | q
  · exact ⟨(good_names hm).1.sublist q, Nat.le_trans q.length_le (good_names hm).2.2⟩
  · exact ⟨(good_names hk).1.sublist q, Nat.le_trans q.length_le (good_names hk).2.2⟩
theorem busy_sub (l : List (ByteArray × Coe)) : (busy l).Sublist l := List.filter_sublist
theorem recF_names {v : Typ → Typ → Int → Coe} {lo op : Bool} {m k : Typ} {p : Int} : ((recF v lo op m k p).map (·.1)).Sublist (recKeys lo op m k) := by
  unfold recF
  have h := (busy_sub ((recKeys lo op m k).map fun s => (s, v (kidO m s) (kidO k s) p))).map (·.1)
  simpa [List.map_map, Function.comp_def] using h
theorem recF_mem {v : Typ → Typ → Int → Coe} {lo op : Bool} {m k : Typ} {p : Int} {x : ByteArray × Coe} (h : x ∈ recF v lo op m k p) : x.1 ∈ recKeys lo op m k ∧ x.2 = v (kidO m x.1) (kidO k x.1) p ∧ x.2 ≠ idC := by
  unfold recF busy at h
  rw [List.mem_filter, List.mem_map] at h
  obtain ⟨⟨s, hs, rfl⟩, h2⟩ := h
  simp only [Bool.not_eq_true', sameC_no] at h2
  exact ⟨hs, rfl, h2⟩

/-! ### how deep, how long -/
theorem cst_in : ∀ (n : Nat) (a b : Typ) (p : Int), inN n (cstN n a b p)
  | 0, _, _, _ => rfl
  | n + 1, a, b, p => by
    rw [cstN, cstV]
    split
    · exact inN_id _
    · refine ⟨fun x hx => ?_, fun x hx => ?_⟩
      · simp only [Coe.fields, fdP] at hx
        split at hx
        · obtain ⟨y, hy, rfl⟩ := List.mem_map.1 hx
          rw [(recF_mem hy).2.1]; exact cst_in n _ _ _
        · cases hx
      · simp only [Coe.fn, fnP] at hx
        split at hx
        · unfold funC at hx
          split at hx
          · cases hx
          · simp only [List.mem_cons, List.not_mem_nil, or_false] at hx
            rcases hx with rfl | rfl <;> exact cst_in n _ _ _
        · cases hx
theorem cst_sm : ∀ (n : Nat) (a b : Typ) (p : Int), goodT a → goodT b → smC 1000 (cstN n a b p)
  | 0, _, _, _, _, _ => smC_id _
  | n + 1, a, b, p, ga, gb => by
    rw [cstN, cstV]
    split
    · exact smC_id _
    · rw [smC_iff]
      refine ⟨?_, ?_, ?_, fun x hx => ?_, fun x hx => ?_⟩
      · simp only [Coe.needs, ndP]
        split
        · rename_i m k h1 h2
          have := (good_names (partO_is gb (by omega) h2).2.1).2.2
          unfold ndsP
          have := List.length_filter_le (fun s => !decide (s ∈ m.names)) k.names
          simp only [List.length_map]; omega
        · simp
      · simp only [Coe.fields, fdP, List.length_map]
        split
        · rename_i m k h1 h2
          have h3 := recF_names (v := cstN n) (lo := decide (a.kind = 0)) (op := decide (b.kind = 0)) (m := m) (k := k) (p := p)
          have h4 := h3.length_le
          have h5 := (recKeys_rises (lo := decide (a.kind = 0)) (op := decide (b.kind = 0)) (partO_is ga (by omega) h1).2.1 (partO_is gb (by omega) h2).2.1).2
          simp only [List.length_map] at h4; omega
        · simp
      · simp only [Coe.fn, fnP]
        split
        · unfold funC; split <;> simp
        · simp
      · simp only [Coe.fields, fdP] at hx
        split at hx
        · rename_i m k h1 h2
          obtain ⟨y, hy, rfl⟩ := List.mem_map.1 hx
          rw [(recF_mem hy).2.1]
          exact cst_sm n _ _ _ (good_kidO (partO_is ga (by omega) h1).2.1 _) (good_kidO (partO_is gb (by omega) h2).2.1 _)
        · cases hx
      · simp only [Coe.fn, fnP] at hx
        split at hx
        · rename_i m k h1 h2
          have gm := (partO_is ga (by omega) h1).2.1
          have gk := (partO_is gb (by omega) h2).2.1
          unfold funC at hx
          split at hx
          · cases hx
          · simp only [List.mem_cons, List.not_mem_nil, or_false] at hx
            rcases hx with rfl | rfl
            · exact cst_sm n _ _ _ (good_kd gk _) (good_kd gm _)
            · exact cst_sm n _ _ _ (good_kd gm _) (good_kd gk _)
        · cases hx

/-! ### it is normal -/
theorem cst_may : ∀ (n : Nat) (a b : Typ) (p : Int), goodT a → goodT b → 2 ≤ p → mayC (cstN n a b p) = true
  | 0, _, _, _, _, _, _ => may_id
  | n + 1, a, b, p, ga, gb, hp => by
    rw [cstN, cstV]
    split
    · exact may_id
    · rw [mayC_iff]
      have hfp := flp_ge hp
      refine ⟨rfl, by simp [Coe.names, Coe.fields], ?_, fun h => ?_, fun h => ?_, ⟨fun x hx => ?_, ?_⟩, ?_, fun x hx => ?_⟩
      · simp only [Coe.fn, fnP]
        split
        · rename_i m k h1 h2
          have gm := (partO_is ga (by omega) h1).2.1
          have gk := (partO_is gb (by omega) h2).2.1
          unfold funC
          split
          · exact .inl rfl
          · rename_i hi
            refine .inr ⟨_, _, rfl, cst_may n _ _ _ (good_kd gk _) (good_kd gm _) hfp, cst_may n _ _ _ (good_kd gm _) (good_kd gk _) hp, fun e => hi ?_⟩
            rw [e.1, e.2]; simp [sameC_rfl]
        · exact .inl rfl
      · have ht : tgP a b p 4 ≠ 0 := h
        simp only [Coe.names, fdP]
        unfold tgP at ht
        split
        · rename_i m k h1 h2
          rw [h1, h2] at ht; exact absurd rfl ht
        · rfl
      · have ht : tgP a b p 5 ≠ 0 := h
        simp only [Coe.fn, fnP]
        unfold tgP at ht
        split
        · rename_i m k h1 h2
          rw [h1, h2] at ht; exact absurd rfl ht
        · rfl
      · simp only [Coe.needs, ndP] at hx
        split at hx
        · unfold ndsP at hx
          obtain ⟨s, _, rfl⟩ := List.mem_map.1 hx
          simp only; omega
        · cases hx
      · simp only [Coe.needs, ndP]
        split
        · rename_i m k h1 h2
          have hn := ltB_nodup (good_names (partO_is gb (by omega) h2).2.1).1
          have : (ndsP p m k).map (·.1) = k.names.filter fun s => !decide (s ∈ m.names) := by
            unfold ndsP; rw [List.map_map]; simp [Function.comp_def]
          rw [this]
          exact hn.filter _
        · simp
      · simp only [Coe.names, fdP]
        split
        · rename_i m k h1 h2
          exact (recKeys_rises (partO_is ga (by omega) h1).2.1 (partO_is gb (by omega) h2).2.1).1.sublist recF_names
        · simp
      · simp only [Coe.fields, fdP] at hx
        split at hx
        · rename_i m k h1 h2
          obtain ⟨y, hy, rfl⟩ := List.mem_map.1 hx
          have hy := recF_mem hy
          refine ⟨?_, hy.2.2⟩
          rw [hy.2.1]
          exact cst_may n _ _ _ (good_kidO (partO_is ga (by omega) h1).2.1 _) (good_kidO (partO_is gb (by omega) h2).2.1 _) hp
        · cases hx

/-! ### its labels -/
theorem cst_raw : ∀ (n : Nat) (a b : Typ) (p : Int) {x : Int}, x ∈ rawC (cstN n a b p) → x = 0 ∨ x = p ∨ x = flp p
  | 0, _, _, _, x, h => .inl (raw_id h)
  | n + 1, a, b, p, x, h => by
    rw [cstN, cstV] at h
    split at h
    · exact .inl (raw_id h)
    · rw [rawC_eq, rawCs_app] at h
      simp only [List.mem_append, Coe.tags, Coe.needs, Coe.fields, Coe.fn] at h
      rcases h with (h | h) | h | h
      · have key : ∀ i, tgP a b p i = 0 ∨ tgP a b p i = p := fun i => by
          unfold tgP; split
          · exact .inr rfl
          · exact .inl rfl
        have : ∃ i, x = tgP a b p i := by
          simp only [tgsP, List.mem_cons, List.not_mem_nil, or_false] at h
          rcases h with h | h | h | h | h | h <;> exact ⟨_, h⟩
        obtain ⟨i, rfl⟩ := this
        rcases key i with q | q
        · exact .inl q
        · exact .inr (.inl q)
      · simp only [ndP] at h
        split at h
        · unfold ndsP at h
          rw [List.map_map] at h
          obtain ⟨s, _, rfl⟩ := List.mem_map.1 h
          exact .inr (.inl rfl)
        · cases h
      · obtain ⟨c, hc, hx⟩ := rawCs_mem.1 h
        simp only [fdP] at hc
        split at hc
        · obtain ⟨y, hy, rfl⟩ := List.mem_map.1 hc
          rw [(recF_mem hy).2.1] at hx
          exact cst_raw n _ _ _ hx
        · cases hc
      · obtain ⟨c, hc, hx⟩ := rawCs_mem.1 h
        simp only [fnP] at hc
        split at hc
        · unfold funC at hc
          split at hc
          · cases hc
          · simp only [List.mem_cons, List.not_mem_nil, or_false] at hc
            rcases hc with rfl | rfl
            · rcases cst_raw n _ _ _ hx with q | q | q
              · exact .inl q
              · exact .inr (.inr q)
              · exact .inr (.inl (by rw [q, flp_flp]))
            · exact cst_raw n _ _ _ hx
        · cases hc

/-! ### names and kids -/
theorem fi_first {α : Type} (q : α → Bool) : ∀ (l : List α) (i : Nat) {j : Nat} (hj : j < l.length), q l[j] = true → (∀ j' (h : j' < l.length), j' < j → q l[j'] = false) → fi q i l = (i + j : Nat)
  | x :: l, i, 0, _, h, _ => by
    rw [fi, if_pos (by simpa using h)]; rfl
  | x :: l, i, j + 1, hj, h, hb => by
    have h0 := hb 0 (by simp) (by omega)
    simp only [List.getElem_cons_zero] at h0
    rw [fi, if_neg (by simp [h0]), fi_first q l (i + 1) (j := j) (by simpa using hj) (by simpa using h) fun j' h' hlt => by have := hb (j' + 1) (by simpa using h') (by omega); simpa only [List.getElem_cons_succ] using this]
    omega
theorem fi_get {l : List ByteArray} (hn : l.Nodup) {j : Nat} (hj : j < l.length) : fi (fun x => decide (l[j] = x)) 0 l = (j : Nat) := by
  have := fi_first (fun x => decide (l[j] = x)) l 0 hj (by simp) fun j' h' hlt => by
    simp only [decide_eq_false_iff_not]
    intro e
    exact (List.pairwise_iff_getElem.1 hn) j' j h' hj hlt e.symm
  simpa using this
theorem kidO_get {k : Typ} (hn : k.names.Nodup) {j : Nat} (hj : j < k.names.length) (hj' : j < k.kids.length) : kidO k k.names[j] = k.kids[j] := by
  unfold kidO kidT
  rw [fi_get hn hj, if_pos (by omega)]
  simp [List.getD_eq_getElem?_getD, hj']
theorem fi_mem {l : List ByteArray} {s : ByteArray} : 0 ≤ fi (fun x => decide (s = x)) 0 l ↔ s ∈ l := by
  rw [← decide_eq_true_iff (p := 0 ≤ fi (fun x => decide (s = x)) 0 l), fi_any, List.any_eq_true]
  constructor
  · rintro ⟨x, hx, e⟩
    simp only [decide_eq_true_eq] at e
    rw [e]; exact hx
  · intro h
    exact ⟨s, h, by simp⟩
theorem kidO_not {k : Typ} {s : ByteArray} (h : s ∉ k.names) : kidO k s = bT0 0 := by
  unfold kidO kidT
  rw [if_neg (fun e => h (fi_mem.1 e))]
theorem kidO_nil {k : Typ} (h : k.names = []) (s : ByteArray) : kidO k s = bT0 0 := kidO_not (by rw [h]; simp)
end Go.Gr

/- rel.blames: whom a cast may blame. -/
set_option linter.unusedVariables false
set_option linter.unusedSimpArgs false
namespace Go.Gr
open Go.Abs Go.Proofs

theorem kidT_fst (op : Bool) (k : Typ) (s : ByteArray) : (kidT op k s).1 = kidO k s := by
  unfold kidO kidT; split <;> rfl
def blNames (ko : Bool) (m k : Typ) : List ByteArray := if ko = true then m.names else k.names
/-- is a field's cast free of blame -/
def blF (v : Typ → Typ → Bool → Bool) (pos mo : Bool) (m k : Typ) (s : ByteArray) : Bool := !((pos && (!(kidT mo m s).2 || mo)) || ((kidT mo m s).2 && !v (kidO m s) (kidO k s) pos))
def blamesP (v : Typ → Typ → Bool → Bool) (pos mo ko : Bool) (m k : Typ) (i : Nat) : Bool :=
  if i = 5 then v (kd k 0) (kd m 0) (!pos) && v (kd m 1) (kd k 1) pos else (blNames ko m k).all (blF v pos mo m k)
theorem dec_eq (i : Nat) : decide ((i : Int) = 5) = decide (i = 5) := by rw [decide_eq_decide]; omega

set_option maxRecDepth 20000 in
theorem blames1_ok (v : Typ → Typ → Bool → Bool) (m k : Typ) (i : Nat) (hi : i < 6) (pos mo ko : Bool) (hm : m.names.length ≤ m.kids.length) (hk : k.names.length ≤ k.kids.length)
    (h5 : i = 5 → m.kids.length = 2 ∧ k.kids.length = 2)
    (H1 : i ≠ 5 → ∀ s, s ∈ blNames ko m k → (kidT mo m s).2 = true → PCall Pg F.rel_blames [.agg (kidO m s).enc, .agg (kidO k s).enc, .one (.bool pos)] (.one (.bool (v (kidO m s) (kidO k s) pos))))
    (H2 : i = 5 → PCall Pg F.rel_blames [.agg (kd k 0).enc, .agg (kd m 0).enc, .one (.bool (!pos))] (.one (.bool (v (kd k 0) (kd m 0) (!pos)))))
    (H3 : i = 5 → PCall Pg F.rel_blames [.agg (kd m 1).enc, .agg (kd k 1).enc, .one (.bool pos)] (.one (.bool (v (kd m 1) (kd k 1) pos)))) :
    PCall Pg F.rel_blames_1 [.one (.rp (.int .i64 i :: .bool mo :: m.enc) 0), .one (.rp (.int .i64 i :: .bool ko :: k.enc) 0), .one (.rp [.bool pos] 0)] (.one (.bool (blamesP v pos mo ko m k i))) := by
  refine w_rel_blames_1 (by simp) fun o c hN hp => ?_
  have hl : m.names.length ≤ lenMax ∧ k.names.length ≤ lenMax := by
    have h1 := o.1
    have h2 := o.2.1
    rw [m.enc_eq] at h1
    rw [k.enc_eq] at h2
    simp only [DV.ok, D.ok, D.okL, encS_length] at h1 h2
    exact ⟨h1.2.2.2.2.1.1, h2.2.2.2.2.1.1⟩
  unfold lenMax at hl
  have hkm := fun s => kid_ok i mo m hm s
  have hkk := fun s => kid_ok i ko k hk s
  simp only [kidT_fst] at hkm hkk
  have cm : cut (D.int IntKind.i64 i :: D.bool mo :: m.enc) 0 6 = D.int IntKind.i64 i :: D.bool mo :: m.enc := by unfold cut; simp
  have ck : cut (D.int IntKind.i64 i :: D.bool ko :: k.enc) 0 6 = D.int IntKind.i64 i :: D.bool ko :: k.enc := by unfold cut; simp
  by_cases h5i : i = 5
  · subst h5i
    obtain ⟨l1, l2⟩ := h5 rfl
    have g0 : ∀ {t : Typ}, t.kids.length = 2 → t.kids[0]? = some (kd t 0) ∧ t.kids[1]? = some (kd t 1) := fun {t} hl => by
      unfold kd
      match t.kids, hl with
      | [a, b], _ => exact ⟨rfl, rfl⟩
    have H2 := H2 rfl
    have H3 := H3 rfl
    obtain ⟨m0, m1⟩ := g0 l1
    obtain ⟨k0, k1⟩ := g0 l2
    have hb : blamesP v pos mo ko m k 5 = (v (kd k 0) (kd m 0) (!pos) && v (kd m 1) (kd k 1) pos) := rfl
    rw [hb]
    have ek := k.enc_eq
    have em := m.enc_eq
    unfold mc_rel_blames_1
    rw [ek, em]
    generalize kd m 0 = M0 at *
    generalize kd m 1 = M1 at *
    generalize kd k 0 = K0 at *
    generalize kd k 1 = K1 at *
    simp [k0, k1, m0, m1]
    refine callK.mk H2 ?_
    cases hv : v K0 M0 (!pos) with
    | false =>
      simp
      decide
    | true =>
      simp [k0, k1, m0, m1]
      refine callK.mk H3 ?_
      simp
      decide
  · have H1 := H1 h5i
    have h5' : ¬ ((i : Int) = 5) := by omega
    have hb : blamesP v pos mo ko m k i = (blNames ko m k).all (blF v pos mo m k) := by unfold blamesP; rw [if_neg h5i]
    have hnl : (blNames ko m k).length ≤ 4611686018427387904 := by unfold blNames; split; exact hl.1; exact hl.2
    have hns : blNames ko m k = if ko = true then m.names else k.names := rfl
    obtain ⟨R, hR⟩ : ∃ R, (blNames ko m k).all (blF v pos mo m k) = R := ⟨_, rfl⟩
    rw [hb, hR]
    have key : ∀ {Q : Exit → St → Prop} {S : St} {g}, Match [] S ([(69, .c (.d (.int .i64 0))), (67, .c (.d (.sl false 1 (encS (blNames ko m k))))), (68, .c (.d (.int .i64 (blNames ko m k).length))), (0, .c (.d (.rp (.int .i64 i :: .bool mo :: m.enc) 0))), (1, .c (.d (.rp (.int .i64 i :: .bool ko :: k.enc) 0))), (2, .c (.d (.rp [.bool pos] 0)))]) [] →
        (R = false → ∀ T M n, Abs.look T 5 = .c (.d (.bool false)) → Q .ret ⟨T, M, n⟩) → (R = true → ∀ T M n, Q (.exit 0) ⟨T, M, n⟩) → lw_ Pg c lp_rel_blames_1_0 Q g S := by
      intro Q S g h0 hF hQ
      refine W.loop Pg_mixed hp (fun j : Nat => j ≤ (blNames ko m k).length ∧ ((blNames ko m k).drop j).all (blF v pos mo m k) = R) (fun j => [(69, .c (.d (.int .i64 j))), (67, .c (.d (.sl false 1 (encS (blNames ko m k))))), (68, .c (.d (.int .i64 (blNames ko m k).length))), (0, .c (.d (.rp (.int .i64 i :: .bool mo :: m.enc) 0))), (1, .c (.d (.rp (.int .i64 i :: .bool ko :: k.enc) 0))), (2, .c (.d (.rp [.bool pos] 0)))])
        (fun j => []) (fun j => (blNames ko m k).length - j) 0 [] ⟨by simp, by simpa using hR⟩ h0 fun j ⟨h1, h2⟩ => ?_
      unfold lp_rel_blames_1_0
      simp
      refine gd.mk (fun h => ?_) (fun h => ?_)
      · have hj : j < (blNames ko m k).length := by simpa using h
        rw [List.drop_eq_getElem_cons hj, List.all_cons] at h2
        have H1j := H1 _ (List.getElem_mem hj)
        generalize hs : (blNames ko m k)[j] = s at *
        unfold blF at h2
        simp [List.getElem?_eq_getElem hj, hs, cm, ck]
        refine callK.mk (hkm s) ?_
        simp [cm, ck]
        refine callK.mk (hkk s) ?_
        simp [cm, ck]
        have hcall : (kidT mo m s).2 = true → PCall Pg F.rel_blames [.agg (kidO m s).enc, .agg (kidO k s).enc, .one (.bool pos)] (.one (.bool (v (kidO m s) (kidO k s) pos))) := H1j
        clear hkm hkk H1 H1j hR
        generalize (kidT mo m s).2 = has at *
        generalize v (kidO m s) (kidO k s) pos = w at *
        cases pos with
        | false =>
          cases has with
          | false =>
            simp only [Bool.false_and, Bool.or_self, Bool.not_false, Bool.true_and] at h2
            simp
            refine Abs.Next.mk (j + 1) [] ⟨by omega, h2⟩ (by omega) ?_
            simp
            exact wrap_i64 (by omega) (by omega)
          | true =>
            simp only [Bool.false_and, Bool.true_and, Bool.false_or, Bool.not_not] at h2
            simp
            refine callK.mk (hcall rfl) ?_
            cases w with
            | false =>
              simp
              exact hF (by rw [← h2]; rfl) _ _ _ (by simp)
            | true =>
              simp
              refine Abs.Next.mk (j + 1) [] ⟨by omega, by rw [← h2]; rfl⟩ (by omega) ?_
              simp
              exact wrap_i64 (by omega) (by omega)
        | true =>
          cases has with
          | false =>
            simp
            exact hF (by rw [← h2]; rfl) _ _ _ (by simp)
          | true =>
            cases mo with
            | true =>
              simp
              exact hF (by rw [← h2]; rfl) _ _ _ (by simp)
            | false =>
              simp
              refine callK.mk (hcall rfl) ?_
              cases w with
              | false =>
                simp
                exact hF (by rw [← h2]; rfl) _ _ _ (by simp)
              | true =>
                simp
                refine Abs.Next.mk (j + 1) [] ⟨by omega, by rw [← h2]; rfl⟩ (by omega) ?_
                simp
                exact wrap_i64 (by omega) (by omega)
      · have hj : j = (blNames ko m k).length := by simp at h; omega
        subst hj
        rw [List.drop_length] at h2
        exact hQ h2.symm _ _ _
    unfold mc_rel_blames_1
    simp [h5']
    cases ko with
    | true =>
      simp
      refine key (by simp [hns]) (fun hf T M n e5 => ?_) fun ht T M n => ?_
      · simp [e5, hf]
      · simp [ht]
    | false =>
      simp
      refine key (by simp [hns]) (fun hf T M n e5 => ?_) fun ht T M n => ?_
      · simp [e5, hf]
      · simp [ht]

/-! ### the parts are those that coerce has -/
theorem setT_len : ∀ (l : List (Nat × Typ)) (of : List (Option Typ)), (setT l of).length = of.length
  | [], of => rfl
  | k :: l, of => by rw [setT, setT_len l, List.length_set]
theorem setT_get : ∀ (L : List Typ) (of : List (Option Typ)) (i : Nat), (L.map tagOf).Pairwise (· ≠ ·) → (∀ x, x ∈ L → 0 ≤ tagOf x) → i < of.length →
    (setT (L.map fun k => ((tagOf k).toNat, k)) of)[i]? = match L.find? (fun x => decide (tagOf x = i)) with | some k => some (some k) | none => of[i]?
  | [], of, i, _, _, _ => rfl
  | k :: L, of, i, hp, h0, hi => by
    rw [List.map_cons] at hp
    have hp' := List.pairwise_cons.1 hp
    have hk := h0 k (by simp)
    have ih := setT_get L (of.set (tagOf k).toNat (some k)) i hp'.2 (fun x hx => h0 x (by simp [hx])) (by simpa using hi)
    rw [List.map_cons, setT]
    simp only
    rw [ih, List.find?_cons]
    by_cases e : tagOf k = i
    · have hn : L.find? (fun x => decide (tagOf x = i)) = none := by
        rw [List.find?_eq_none]
        intro x hx
        have := hp'.1 (tagOf x) (List.mem_map.2 ⟨x, hx, rfl⟩)
        simp only [decide_eq_true_eq]
        omega
      rw [hn, decide_eq_true e]
      simp only
      rw [show (tagOf k).toNat = i by omega, List.getElem?_set_self hi]
    · rw [decide_eq_false e]
      simp only
      cases L.find? (fun x => decide (tagOf x = i)) with
      | some x => rfl
      | none =>
        simp only
        rw [List.getElem?_set_ne (by omega)]
theorem prtT_partO {t : Typ} (g : goodT t) {i : Nat} (hi : i < 6) : (prtT t)[i]? = some (partO t i) := by
  unfold prtT partO partsT
  by_cases h0 : t.kind = 0
  · rw [if_pos h0, if_pos h0]
    match i, hi with
    | 0, _ | 1, _ | 2, _ | 3, _ | 4, _ | 5, _ => rfl
  · rw [if_neg h0, if_neg h0]
    have ht := wf_tags g.1 h0
    have hw := ((wfT_iff t).1 g.1).2.2
    have hp : ((if t.kind = 7 then t.kids else [t]).map tagOf).Pairwise (· ≠ ·) := by
      split
      · rename_i h7
        rcases hw with q | q | q | q
        · omega
        · omega
        · omega
        · exact q.2.2.2.1.imp fun h e => by omega
      · simp
    rw [setT_get _ noU i hp ht hi]
    unfold memO
    cases (if t.kind = 7 then t.kids else [t]).find? (fun x => decide (tagOf x = i)) with
    | some x => rfl
    | none =>
      match i, hi with
      | 0, _ | 1, _ | 2, _ | 3, _ | 4, _ | 5, _ => rfl
theorem prt_partO {t : Typ} (g : goodT t) {i : Nat} (hi : i < 6) : (prt t)[i]? = some ((partO t i).map Typ.enc) := by
  rw [prt_eq, List.getElem?_map, prtT_partO g hi]; rfl
theorem prt_getD {t : Typ} (g : goodT t) {i : Nat} (hi : i < 6) : (prt t).getD i none = (partO t i).map Typ.enc := by
  rw [List.getD_eq_getElem?_getD, prt_partO g hi]; rfl

/-! ### blames -/
/-- what a tag says -/
def blQ (v : Typ → Typ → Bool → Bool) (a b : Typ) (pos : Bool) (i : Nat) : Bool := match partO a i, partO b i with
  | some m, some k => blamesP v pos (decide (a.kind = 0) && decide (i = 4)) (decide (b.kind = 0) && decide (i = 4)) m k i
  | _, _ => true
def blamesV (v : Typ → Typ → Bool → Bool) (a b : Typ) (pos : Bool) : Bool :=
  if a.kind = 0 ∧ b.kind = 0 then true else eachB (!pos) (blQ v a b pos) (prt a) (prt b) 6 0
def blamesN : Nat → Typ → Typ → Bool → Bool
  | 0, _, _, _ => true
  | n + 1, a, b, pos => blamesV (blamesN n) a b pos
theorem blames_one (v : Typ → Typ → Bool → Bool) (a b : Typ) (pos : Bool) (ga : goodT a) (gb : goodT b)
    (H : ¬ (a.kind = 0 ∧ b.kind = 0) → ∀ (i : Nat), i < 6 → ∀ m k, partO a i = some m → partO b i = some k → PCall Pg F.rel_blames_1 [.one (.rp (.int .i64 i :: .bool (decide (a.kind = 0) && decide (i = 4)) :: m.enc) 0), .one (.rp (.int .i64 i :: .bool (decide (b.kind = 0) && decide (i = 4)) :: k.enc) 0), .one (.rp [.bool pos] 0)] (.one (.bool (blQ v a b pos i)))) :
    PCall Pg F.rel_blames [.agg a.enc, .agg b.enc, .one (.bool pos)] (.one (.bool (blamesV v a b pos))) := by
  have hra := rdyn_ok a
  have hrb := rdyn_ok b
  by_cases hd : a.kind = 0 ∧ b.kind = 0
  · refine w_rel_blames (by simp) fun o c hN hp => ?_
    have e : blamesV v a b pos = true := by unfold blamesV; rw [if_pos hd]
    rw [e]
    unfold mc_rel_blames
    simp
    refine callK.mk hra ?_
    simp [hd.1]
    refine callK.mk hrb ?_
    simp [hd.2]
  · have hq := each_ok a b (wf_tags ga.1) (wf_tags gb.1) (!pos) F.rel_blames_1 [.rp [.bool pos] 0] (blQ v a b pos) fun i mr kr h1 h2 => by
      have hi : i < 6 := by
        have := prt_len a
        rcases Nat.lt_or_ge i 6 with q | q
        · exact q
        · rw [List.getElem?_eq_none (by omega)] at h1; cases h1
      rw [prt_partO ga hi] at h1
      rw [prt_partO gb hi] at h2
      cases ha : partO a i with
      | none => rw [ha] at h1; cases h1
      | some m =>
        cases hb : partO b i with
        | none => rw [hb] at h2; cases h2
        | some k =>
          rw [ha] at h1
          rw [hb] at h2
          simp only [Option.map_some, Option.some.injEq] at h1 h2
          rw [← h1, ← h2]
          exact H hd i hi m k ha hb
    refine w_rel_blames (by simp) fun o c hN hp => ?_
    have e : blamesV v a b pos = eachB (!pos) (blQ v a b pos) (prt a) (prt b) 6 0 := by unfold blamesV; rw [if_neg hd]
    rw [← e] at hq
    generalize blamesV v a b pos = R at *
    unfold mc_rel_blames
    simp
    refine callK.mk hra ?_
    simp
    refine gd.mk (fun h => ?_) (fun h => ?_)
    · have hm : ¬ b.kind = 0 := fun e => hd ⟨of_decide_eq_true h, e⟩
      refine callK.mk hrb ?_
      simp [hm]
      refine callK.mk hq ?_
      simp
    · refine callK.mk hq ?_
      simp

/-! ### how deep -/
theorem kidO_in {k : Typ} (g : goodT k) {s : ByteArray} (h : s ∈ k.names) : kidO k s ∈ k.kids := by
  have h0 := fi_mem.2 h
  have h1 := fi_lt (fun x => decide (s = x)) k.names 0
  have h2 := (good_names g).2.1
  unfold kidO kidT
  rw [if_pos h0]
  simp only
  exact getD_mem (by omega)
theorem rec_dpt {a b m k : Typ} (ga : goodT a) (gb : goodT b) (hne : ¬ (a.kind = 0 ∧ b.kind = 0)) (h1 : partO a 4 = some m) (h2 : partO b 4 = some k) {s : ByteArray} (hs : s ∈ recKeys (decide (a.kind = 0)) (decide (b.kind = 0)) m k) : dpt (kidO m s) + dpt (kidO k s) < dpt a + dpt b := by
  have ha1 := dpt_pos a
  have hb1 := dpt_pos b
  obtain ⟨_, gm, _, dm⟩ := partO_is ga (by omega) h1
  obtain ⟨_, gk, _, dk⟩ := partO_is gb (by omega) h2
  have hm : s ∈ m.names → (a.kind = 0 ∧ dpt (kidO m s) = 1) ∨ (a.kind ≠ 0 ∧ dpt (kidO m s) < dpt a) := fun h => (dm _ (kidO_in gm h)).imp (fun q => ⟨q.1, by rw [q.2]; rfl⟩) fun q => q
  have hk : s ∈ k.names → (b.kind = 0 ∧ dpt (kidO k s) = 1) ∨ (b.kind ≠ 0 ∧ dpt (kidO k s) < dpt b) := fun h => (dk _ (kidO_in gk h)).imp (fun q => ⟨q.1, by rw [q.2]; rfl⟩) fun q => q
  have am : a.kind = 0 → dpt (kidO m s) = 1 := fun e => by
    by_cases q : s ∈ m.names
    · rcases hm q with r | r
      · exact r.2
      · exact absurd e r.1
    · rw [kidO_not q]; rfl
  have bk : b.kind = 0 → dpt (kidO k s) = 1 := fun e => by
    by_cases q : s ∈ k.names
    · rcases hk q with r | r
      · exact r.2
      · exact absurd e r.1
    · rw [kidO_not q]; rfl
  unfold recKeys at hs
  split at hs
  · rename_i e
    simp only [decide_eq_true_eq] at e
    have := bk e
    have ha0 : a.kind ≠ 0 := fun q => hne ⟨q, e⟩
    rcases hm hs with r | r
    · exact absurd r.1 ha0
    · omega
  · rename_i e
    simp only [decide_eq_true_eq] at e
    split at hs
    · rename_i e'
      simp only [decide_eq_true_eq] at e'
      have := am e'
      rcases hk hs with r | r
      · exact absurd r.1 e
      · omega
    · rename_i e'
      simp only [decide_eq_true_eq] at e'
      rw [List.mem_filter, decide_eq_true_eq] at hs
      rcases hm hs.2 with r | r
      · exact absurd r.1 e'
      · rcases hk hs.1 with r' | r'
        · exact absurd r'.1 e
        · omega
theorem fun_dpt {a b m k : Typ} (ga : goodT a) (gb : goodT b) (hne : ¬ (a.kind = 0 ∧ b.kind = 0)) (h1 : partO a 5 = some m) (h2 : partO b 5 = some k) {i j : Nat} (hi : i < 2) (hj : j < 2) : dpt (kd m i) + dpt (kd k j) < dpt a + dpt b := by
  have ha1 := dpt_pos a
  have hb1 := dpt_pos b
  obtain ⟨tm, gm, nm7, dm⟩ := partO_is ga (by omega) h1
  obtain ⟨tk, gk, nk7, dk⟩ := partO_is gb (by omega) h2
  have lm := (wf_names gm.1 nm7).2.2 (by omega)
  have lk := (wf_names gk.1 nk7).2.2 (by omega)
  have hm : ∀ j, j < 2 → (a.kind = 0 ∧ dpt (kd m j) = 1) ∨ (a.kind ≠ 0 ∧ dpt (kd m j) < dpt a) := fun j hj => (dm _ (getD_mem (by omega))).imp (fun q => ⟨q.1, by unfold kd; rw [q.2]; rfl⟩) fun q => q
  have hk : ∀ j, j < 2 → (b.kind = 0 ∧ dpt (kd k j) = 1) ∨ (b.kind ≠ 0 ∧ dpt (kd k j) < dpt b) := fun j hj => (dk _ (getD_mem (by omega))).imp (fun q => ⟨q.1, by unfold kd; rw [q.2]; rfl⟩) fun q => q
  rcases hm i hi with r | r <;> rcases hk j hj with r' | r'
  · exact absurd ⟨r.1, r'.1⟩ hne
  · omega
  · omega
  · omega
theorem kidT_snd (op : Bool) (m : Typ) (s : ByteArray) : (kidT op m s).2 = (op || decide (s ∈ m.names)) := by
  unfold kidT
  by_cases h : s ∈ m.names
  · rw [if_pos (fi_mem.2 h)]; simp [h]
  · rw [if_neg (fun e => h (fi_mem.1 e))]; simp [h]
theorem low_names {k : Typ} (g : goodT k) (n7 : k.kind ≠ 7) {i : Nat} (t : tagOf k = i) (h4 : i ≠ 4) (h5 : i ≠ 5) (hi : i < 6) : k.names = [] := by
  unfold tagOf at t
  rcases ((wfT_iff k).1 g.1).2.2 with q | q | q | q
  · exact q.2.2.1
  · rw [if_neg (by omega)] at t; omega
  · exact q.2.1
  · exact q.2.1
theorem blK_rec {a b m k : Typ} {s : ByteArray} (hs : s ∈ blNames (decide (b.kind = 0)) m k) (hk : (kidT (decide (a.kind = 0)) m s).2 = true) : s ∈ recKeys (decide (a.kind = 0)) (decide (b.kind = 0)) m k := by
  unfold blNames at hs
  unfold recKeys
  split at hs
  · rename_i e
    rw [if_pos e]; exact hs
  · rename_i e
    rw [if_neg e]
    rw [kidT_snd, Bool.or_eq_true] at hk
    split
    · exact hs
    · rename_i e'
      rw [List.mem_filter]
      exact ⟨hs, hk.resolve_left e'⟩
theorem blames_ok : ∀ (n : Nat) (a b : Typ) (pos : Bool), goodT a → goodT b → dpt a + dpt b ≤ n + 1 → PCall Pg F.rel_blames [.agg a.enc, .agg b.enc, .one (.bool pos)] (.one (.bool (blamesN n a b pos)))
  | 0, a, b, pos, ga, gb, hd => by have := dpt_pos a; have := dpt_pos b; omega
  | n + 1, a, b, pos, ga, gb, hd => by
    rw [blamesN]
    refine blames_one (blamesN n) a b pos ga gb fun hne i hi m k h1 h2 => ?_
    obtain ⟨tm, gm, nm7, dm⟩ := partO_is ga hi h1
    obtain ⟨tk, gk, nk7, dk⟩ := partO_is gb hi h2
    have hq : blQ (blamesN n) a b pos i = blamesP (blamesN n) pos (decide (a.kind = 0) && decide (i = 4)) (decide (b.kind = 0) && decide (i = 4)) m k i := by unfold blQ; rw [h1, h2]
    rw [hq]
    have hmn := wf_names gm.1 nm7
    have hkn := wf_names gk.1 nk7
    refine blames1_ok (blamesN n) m k i hi pos _ _ hmn.2.1 hkn.2.1 (fun e => ⟨hmn.2.2 (by omega), hkn.2.2 (by omega)⟩) (fun h5 s hs hk => ?_) (fun e => ?_) fun e => ?_
    · by_cases h4 : i = 4
      · subst h4
        have e1 : (decide (a.kind = 0) && decide ((4 : Nat) = 4)) = decide (a.kind = 0) := by simp
        have e2 : (decide (b.kind = 0) && decide ((4 : Nat) = 4)) = decide (b.kind = 0) := by simp
        rw [e1] at hk
        rw [e2] at hs
        have := rec_dpt ga gb hne h1 h2 (blK_rec hs hk)
        exact blames_ok n _ _ _ (good_kidO gm s) (good_kidO gk s) (by omega)
      · have e2 : (decide (b.kind = 0) && decide (i = 4)) = false := by simp [h4]
        rw [e2] at hs
        have : k.names = [] := low_names gk nk7 tk h4 h5 hi
        unfold blNames at hs
        rw [this] at hs
        cases hs
    · subst e
      have := fun_dpt ga gb hne h1 h2 (i := 0) (j := 0) (by omega) (by omega)
      exact blames_ok n _ _ _ (good_kd gk 0) (good_kd gm 0) (by omega)
    · subst e
      have := fun_dpt ga gb hne h1 h2 (i := 1) (j := 1) (by omega) (by omega)
      exact blames_ok n _ _ _ (good_kd gm 1) (good_kd gk 1) (by omega)
end Go.Gr

/- coerce.record: what a cast does to records. -/
set_option linter.unusedVariables false
set_option linter.unusedSimpArgs false
namespace Go.Gr
open Go.Abs Go.Proofs

/-! ### fields, of a coercion whose numbers may still be written -/
abbrev tagB6 (T : List Int) : Blk := .arr 1 ((encI T).map (·.map .d))
set_option maxRecDepth 20000 in
theorem fieldsT_ok (b f : D) (T : List Int) (hT : T.length = 6) (l : List (ByteArray × Coe)) (hn : (l.map (·.1)).Nodup) (hl : l.length ≤ 1073741824) :
    MCall Pg F.coerce_fields [.c (.ptr 0 0), .c (.map 1)] [.box [.msl 1 2 0 6, .d b, .d (.sl true 1 []), .d (.sl true 5 []), .d f], .map (mapC l), tagB6 T] (.tup [])
      [.box [.msl 1 2 0 6, .d b, .msl 1 3 0 (outC l (sortS (l.map (·.1)))).length, .msl 5 4 0 (outC l (sortS (l.map (·.1)))).length, .d f], .map (mapC l), tagB6 T,
       .arr 1 ((encS ((outC l (sortS (l.map (·.1)))).map (·.1))).map (·.map .d)), .arr 5 (((outC l (sortS (l.map (·.1)))).map (·.2.enc)).map (·.map .d))] := by
  refine wm_coerce_fields ⟨by simp, by simp, by simp, by simp, by simp, by simp, by simp [live]; exact mapC_lv'⟩ fun ts hts ok hb c hN hp => ?_
  obtain ⟨t0, t1, t2, rfl⟩ : ∃ t u v, ts = [t, u, v] := by
    match ts, hts with
    | [t, u, v], _ => exact ⟨t, u, v, rfl⟩
  unfold mc_coerce_fields
  simp
  refine owK.mk [.c 0 2, .c 0 3] ?_
  simp
  refine callKM.mk [1] (keysC_ok l) (by simp; exact fun a b h => mapC_lt h) ?_
  simp
  refine callKM.mk [1, 8] (sortedC_ok l hn hl) (by simp; exact fun a b h => mapC_lt h) ?_
  simp
  have hks : (sortS (l.map (·.1))).length ≤ 1073741824 := by simpa [sortS] using hl
  have hmem : ∀ k, k ∈ sortS (l.map (·.1)) → k ∈ l.map (·.1) := fun k hk => sortS_mem.1 hk
  generalize sortS (l.map (·.1)) = ks at *
  refine W.loopL Pg_mixed hp lv_coerce_fields_0 [11] (fun j : Nat => j ≤ ks.length) (fun j => [.c (.d (.int .i64 j))])
    (fun j => [.box [.msl 1 2 0 6, .d b, .msl 1 3 0 (outC l (ks.take j)).length, .msl 5 4 0 (outC l (ks.take j)).length, .d f], .map (mapC l), tagB6 T, .arr 1 ((encS ((outC l (ks.take j)).map (·.1))).map (·.map .d)), .arr 5 (((outC l (ks.take j)).map (·.2.enc)).map (·.map .d)), .pin t0 0, .pin t1 1, .pin t2 2])
    (fun j => ks.length - j) 0 [0, 1, 2, 6, 7, 3, 4, 5] (by simp) (by simp [lv_coerce_fields_0, outC, encS]; exact fun a b h => mapC_lt h) fun j h1 => ?_
  unfold lp_coerce_fields_0 lv_coerce_fields_0
  simp
  refine gd.mk (fun h => ?_) (fun h => ?_)
  · have hj : j < ks.length := by simpa using h
    simp [List.getElem?_eq_getElem hj]
    obtain ⟨i, hi⟩ := mfindC_is (l := l) 0 (hmem _ (List.getElem_mem hj))
    simp [hi]
    refine callK.mk (idle_ok _) ?_
    have hs := outC_succ (l := l) hj
    have hlen := outC_len l (ks.take j)
    rw [List.length_take] at hlen
    generalize atC l ks[j] = d at hs ⊢
    simp
    refine gd.mk (fun h => ?_) (fun h => ?_)
    · simp at h
      rw [h] at hs
      simp at hs
      refine ⟨by omega, by omega, by decide, ?_⟩
      refine Abs.Next.mk (j + 1) [0, 1, 2, 9, 10, 5, 6, 7] (by omega) (by omega) ?_
      simp [hs]
      refine ⟨wrap_i64 (by omega) (by omega), fun a b h => mapC_lt h, ?_, ?_⟩
      · rw [List.take_of_length_le (by simp)]; simp [encS]
      · rw [List.take_of_length_le (by simp)]
    · simp at h
      rw [h] at hs
      simp at hs
      refine Abs.Next.mk (j + 1) [0, 1, 2, 3, 4, 5, 6, 7] (by omega) (by omega) ?_
      simp [hs]
      exact ⟨wrap_i64 (by omega) (by omega), fun a b h => mapC_lt h⟩
  · have hj : j = ks.length := by simp at h; omega
    subst hj
    simp
    exact EndM.mk [0, 1, 2, 3, 4] [5, 6, 7] (by simp)
theorem funT_ok (b s x : D) (T : List Int) (hT : T.length = 6) (f g : Coe) : MCall Pg F.coerce_fun [.c (.ptr 0 0), .ag (f.enc.map .d), .ag (g.enc.map .d)] [.box [.msl 1 1 0 6, .d b, .d s, .d x, .d (.sl true 5 [])], tagB6 T] (.tup []) [.box [.msl 1 1 0 6, .d b, .d s, .d x, .d (.sl true 5 ((funC f g).map Coe.enc))], tagB6 T] := by
  refine wm_coerce_fun ⟨by simp, by simp, by simp, by simp, by simp, by simp, by simp [live]⟩ fun ts hts ok hb c hN hp => ?_
  obtain ⟨t, u, rfl⟩ := twoTs hts
  unfold mc_coerce_fun
  simp
  refine callK.mk (idle_ok f) ?_
  simp
  refine gd.mk (fun h2 => ?_) (fun h2 => ?_)
  · simp at h2
    refine callK.mk (idle_ok g) ?_
    simp
    refine gd.mk (fun h3 => ?_) (fun h3 => ?_)
    · simp at h3
      exact EndM.mk [0, 1] [2, 3] (by simp [funC, h2, h3])
    · simp at h3
      exact EndM.mk [0, 1] [2, 3] (by simp [funC, h2, h3])
  · simp at h2
    exact EndM.mk [0, 1] [2, 3] (by simp [funC, h2])

/-! ### the loops -/
/-- rows of a map -/
def rowsC (v : ByteArray → Coe) (ks : List ByteArray) : List (ByteArray × Coe) := ks.map fun s => (s, v s)
theorem rows_keys (v : ByteArray → Coe) (ks : List ByteArray) : (rowsC v ks).map (·.1) = ks := by simp [rowsC, Function.comp_def]
theorem rows_app (v : ByteArray → Coe) (a b : List ByteArray) : rowsC v (a ++ b) = rowsC v a ++ rowsC v b := by simp [rowsC]
theorem rows_at {v : ByteArray → Coe} : ∀ {ks : List ByteArray} {s : ByteArray}, s ∈ ks → atC (rowsC v ks) s = v s
  | x :: ks, s, h => by
    simp only [rowsC, List.map_cons, atC]
    split
    · rename_i e; rw [e]
    · rename_i e
      exact rows_at (v := v) ((List.mem_cons.1 h).resolve_left e)
theorem rows_out {v : ByteArray → Coe} {ks : List ByteArray} (h : ks.Pairwise ltB) : outC (rowsC v ks) (sortS ((rowsC v ks).map (·.1))) = busy (rowsC v ks) := by
  rw [rows_keys]
  have e : sortS ks = ks := rises_ext (sortS_rises (ltB_nodup h)) h fun x => sortS_mem
  rw [e]
  unfold outC busy
  congr 1
  exact List.map_congr_left fun s hs => by rw [rows_at hs]
theorem mapC_app (a b : List (ByteArray × Coe)) : mapC (a ++ b) = mapC a ++ mapC b := by simp [mapC]
/-- any, as it is written -/
def anyL : List D := [.int .i64 0, .str (bs []), .sl true 1 [], .sl true 4 []]
theorem any_call {t : Typ} {lb : Int} {d : Coe} (h : PCall Pg F.coerce_cast [.agg t.enc, .agg (bT0 0).enc, .one (.int .i64 lb)] (.agg d.enc)) : PCall Pg F.coerce_cast [.agg t.enc, .agg [.int .i64 0, .str (bs []), .sl true 1 [], .sl true 4 []], .one (.int .i64 lb)] (.agg d.enc) :=
  PCall.erd h (by simp [DV.erds, DV.erd, Typ.erdL, D.erdL, D.erd, D.erdE, bT0, Typ.enc, Typ.encs, encS])
theorem call_any {t : Typ} {lb : Int} {d : Coe} (h : PCall Pg F.coerce_cast [.agg (bT0 0).enc, .agg t.enc, .one (.int .i64 lb)] (.agg d.enc)) : PCall Pg F.coerce_cast [.agg [.int .i64 0, .str (bs []), .sl true 1 [], .sl true 4 []], .agg t.enc, .one (.int .i64 lb)] (.agg d.enc) :=
  PCall.erd h (by simp [DV.erds, DV.erd, Typ.erdL, D.erdL, D.erd, D.erdE, bT0, Typ.enc, Typ.encs, encS])

abbrev cbT (m k : Typ) (lo : Bool) (p : Int) : List (Nat × AV) := [(0, .c (.ptr 0 0)), (3, .c (.d (.bool lo))), (5, .c (.d (.int .i64 p))), (7, .c (.d (.rp m.enc 0))), (8, .c (.d (.rp k.enc 0))), (12, .c (.map 4))]
abbrev cbB (nd : AC) : Blk := .box [.msl 1 1 0 6, nd, .d (.sl true 1 []), .d (.sl true 5 []), .d (.sl true 5 [])]
set_option maxRecDepth 20000 in
theorem rec0 {c : Ctx} (hp : c.pure) (V : ByteArray → Coe) (m k : Typ) (hm : goodT m) (lo : Bool) (lb : Int) (T : List Int) (hT : T.length = 6) (t0 t1 : Nat × Nat)
    (H : ∀ s, s ∈ m.names → PCall Pg F.coerce_cast [.agg (kidO m s).enc, .agg (bT0 0).enc, .one (.int .i64 lb)] (.agg (V s).enc)) {Q : Exit → St → Prop} {S : St} {g} {ms : List Nat}
    (h0 : Match ms S ((23, .c (.d (.int .i64 0))) :: (21, .c (.d (.sl false 1 (encS m.names)))) :: (22, .c (.d (.int .i64 m.names.length))) :: cbT m k lo lb) [cbB (.d (.sl true 2 [])), tagB6 T, .pin t0 0, .pin t1 1, .map (mapC [])])
    (hQ : ∀ T', Abs.look T' 0 = .c (.ptr 0 0) → Abs.look T' 3 = .c (.d (.bool lo)) → Abs.look T' 5 = .c (.d (.int .i64 lb)) → Abs.look T' 7 = .c (.d (.rp m.enc 0)) → Abs.look T' 8 = .c (.d (.rp k.enc 0)) → Abs.look T' 12 = .c (.map 4) →
      Q (.exit 0) ⟨T', hpOf [cbB (.d (.sl true 2 [])), tagB6 T, .pin t0 0, .pin t1 1, .map (mapC (rowsC V m.names))], 5⟩) : lw_ Pg c lp_coerce_record_0 Q g S := by
  have hnm := good_names hm
  have hnd := ltB_nodup hnm.1
  refine W.loop Pg_mixed hp (fun j : Nat => j ≤ m.names.length) (fun j => (23, .c (.d (.int .i64 j))) :: (21, .c (.d (.sl false 1 (encS m.names)))) :: (22, .c (.d (.int .i64 m.names.length))) :: cbT m k lo lb)
    (fun j => [cbB (.d (.sl true 2 [])), tagB6 T, .pin t0 0, .pin t1 1, .map (mapC (rowsC V (m.names.take j)))])
    (fun j => m.names.length - j) 0 ms (by simp) (by simpa [rowsC] using h0) fun j h1 => ?_
  unfold lp_coerce_record_0
  simp
  refine gd.mk (fun h => ?_) (fun h => ?_)
  · have hj : j < m.names.length := by simpa using h
    have hj' : j < m.kids.length := by omega
    have hc := H _ (List.getElem_mem hj)
    rw [kidO_get hnd hj hj'] at hc
    simp [List.getElem?_eq_getElem hj, List.getElem?_eq_getElem hj']
    refine callK.mk (any_call hc) ?_
    have hk : m.names[j] ∉ (rowsC V (m.names.take j)).map (·.1) := by rw [rows_keys]; exact not_take hnd hj
    simp [mfindC_not 0 hk]
    refine Abs.Next.mk (j + 1) [0, 1, 2, 3, 4] (by omega) (by omega) ?_
    simp
    refine ⟨wrap_i64 (by omega) (by omega), ?_, fun a b h => mapC_lt h⟩
    rw [List.take_succ_eq_append_getElem hj, rows_app, mapC_app]
    simp [rowsC, mapC]
  · have hj : j = m.names.length := by simp at h; omega
    subst hj
    rw [List.take_length]
    exact hQ _ (by simp) (by simp) (by simp) (by simp) (by simp) (by simp)

/-- the names behind the first loop that the map gets -/
def inK (lo : Bool) (m : Typ) (ks : List ByteArray) : List ByteArray := ks.filter fun s => lo || decide (s ∈ m.names)
def outK (m : Typ) (ks : List ByteArray) : List ByteArray := ks.filter fun s => !decide (s ∈ m.names)
theorem encN_map (lb : Int) (ks : List ByteArray) : encN (ks.map fun s => (s, lb)) = ks.map fun s => [D.str s, D.int .i64 lb] := by simp [encN]
set_option maxRecDepth 20000 in
theorem rec2 {c : Ctx} (hp : c.pure) (V : ByteArray → Coe) (m k : Typ) (hm : goodT m) (hk : goodT k) (lo : Bool) (hlo : lo = true → m.names = []) (lb : Int) (T : List Int) (hT : T.length = 6) (t0 t1 : Nat × Nat) (l0 : List (ByteArray × Coe)) (hl0 : k.names ≠ [] → l0 = [])
    (H : ∀ s, s ∈ inK lo m k.names → PCall Pg F.coerce_cast [.agg (kidO m s).enc, .agg (kidO k s).enc, .one (.int .i64 lb)] (.agg (V s).enc)) {Q : Exit → St → Prop} {S : St} {g} {ms : List Nat}
    (h0 : Match ms S ((42, .c (.d (.int .i64 0))) :: (40, .c (.d (.sl false 1 (encS k.names)))) :: (41, .c (.d (.int .i64 k.names.length))) :: cbT m k lo lb) [cbB (.msl 2 5 0 0), tagB6 T, .pin t0 0, .pin t1 1, .map (mapC l0), .arr 2 []])
    (hQ : ∀ T', Abs.look T' 0 = .c (.ptr 0 0) → Abs.look T' 12 = .c (.map 4) →
      Q (.exit 2) ⟨T', hpOf [cbB (.msl 2 5 0 (outK m k.names).length), tagB6 T, .pin t0 0, .pin t1 1, .map (mapC (l0 ++ rowsC V (inK lo m k.names))), .arr 2 ((encN ((outK m k.names).map fun s => (s, lb))).map (·.map .d))], 6⟩) : lw_ Pg c lp_coerce_record_2 Q g S := by
  have hnm := good_names hm
  have hnk := good_names hk
  have hnd := ltB_nodup hnk.1
  refine W.loop Pg_mixed hp (fun j : Nat => j ≤ k.names.length) (fun j => (42, .c (.d (.int .i64 j))) :: (40, .c (.d (.sl false 1 (encS k.names)))) :: (41, .c (.d (.int .i64 k.names.length))) :: cbT m k lo lb)
    (fun j => [cbB (.msl 2 5 0 (outK m (k.names.take j)).length), tagB6 T, .pin t0 0, .pin t1 1, .map (mapC (l0 ++ rowsC V (inK lo m (k.names.take j)))), .arr 2 ((encN ((outK m (k.names.take j)).map fun s => (s, lb))).map (·.map .d))])
    (fun j => k.names.length - j) 0 ms (by simp) (by simpa [rowsC, inK, outK, encN] using h0) fun j h1 => ?_
  unfold lp_coerce_record_2
  simp
  refine gd.mk (fun h => ?_) (fun h => ?_)
  · have hj : j < k.names.length := by simpa using h
    have hj' : j < k.kids.length := by omega
    have e0 : l0 = [] := hl0 fun e => by rw [e] at hj; simp at hj
    subst e0
    have hc := H k.names[j]
    rw [kidO_get hnd hj hj'] at hc
    have hidx := indexS_ok m.names k.names[j]
    have hmem := fi_mem (l := m.names) (s := k.names[j])
    have hlt := fi_lt (fun x => decide (k.names[j] = x)) m.names 0
    have hkid : ∀ (n : Nat), fi (fun x => decide (k.names[j] = x)) 0 m.names = n → n < m.kids.length → kidO m k.names[j] = m.kids.getD n (bT0 0) := fun n e hn => by
      unfold kidO kidT; rw [e, if_pos (by omega)]; rfl
    have hnk : k.names[j] ∉ (rowsC V (inK lo m (k.names.take j))).map (·.1) := by
      rw [rows_keys]; exact fun h => not_take hnd hj (List.mem_filter.1 h).1
    have htk : k.names.take (j + 1) = k.names.take j ++ [k.names[j]] := List.take_succ_eq_append_getElem hj
    have hin : k.names[j] ∈ inK lo m k.names ↔ lo = true ∨ k.names[j] ∈ m.names := by
      unfold inK; rw [List.mem_filter]; simp [List.getElem_mem hj]
    have hol : (outK m (k.names.take j)).length ≤ 200 := by
      unfold outK
      have := List.length_filter_le (fun s => !decide (s ∈ m.names)) (k.names.take j)
      simp only [List.length_take] at this; omega
    simp [List.getElem?_eq_getElem hj, List.getElem?_eq_getElem hj']
    refine callK.mk hidx ?_
    generalize hz : fi (fun x => decide (k.names[j] = x)) 0 m.names = z at *
    by_cases hs : k.names[j] ∈ m.names
    · have hz0 := hmem.2 hs
      obtain ⟨n, rfl⟩ : ∃ n : Nat, z = n := ⟨z.toNat, by omega⟩
      have hn : n < m.kids.length := by omega
      have hc := hc (hin.2 (.inr hs))
      rw [hkid n rfl hn, List.getD_eq_getElem?_getD, List.getElem?_eq_getElem hn] at hc
      simp only [Option.getD_some] at hc
      have ho : outK m (k.names.take (j + 1)) = outK m (k.names.take j) := by unfold outK; rw [htk, List.filter_append]; simp [hs]
      have hi : inK lo m (k.names.take (j + 1)) = inK lo m (k.names.take j) ++ [k.names[j]] := by unfold inK; rw [htk, List.filter_append]; simp [hs]
      have hneg : ¬ ((n : Int) < 0) := by omega
      simp [hneg, List.getElem?_eq_getElem hn, List.getElem?_eq_getElem hj']
      refine callK.mk hc ?_
      simp [mfindC_not 0 hnk]
      refine ⟨by decide, ?_⟩
      refine Abs.Next.mk (j + 1) [0, 1, 2, 3, 4, 5] (by omega) (by omega) ?_
      rw [ho, hi, rows_app, mapC_app]
      simp
      exact ⟨wrap_i64 (by omega) (by omega), by simp [rowsC, mapC], fun a b h => mapC_lt h, fun a b h => mapC_lt h⟩
    · have hz0 : ¬ 0 ≤ z := fun e => hs (hmem.1 e)
      have hneg : z < 0 := by omega
      have hge : ¬ z ≥ 0 := hz0
      have ho : outK m (k.names.take (j + 1)) = outK m (k.names.take j) ++ [k.names[j]] := by unfold outK; rw [htk, List.filter_append]; simp [hs]
      cases lo with
      | true =>
        have hc := hc (hin.2 (.inl rfl))
        rw [kidO_not hs] at hc
        have hi : inK true m (k.names.take (j + 1)) = inK true m (k.names.take j) ++ [k.names[j]] := by unfold inK; rw [htk, List.filter_append]; simp
        simp [hneg, hge, List.getElem?_eq_getElem hj']
        refine ⟨by omega, ?_⟩
        refine callK.mk (call_any hc) ?_
        simp [mfindC_not 0 hnk]
        refine Abs.Next.mk (j + 1) [0, 1, 2, 3, 4, 6] (by omega) (by omega) ?_
        rw [ho, hi, rows_app, mapC_app]
        simp
        refine ⟨wrap_i64 (by omega) (by omega), ⟨by simp [rowsC, mapC], fun a b h => mapC_lt h, fun a b h => mapC_lt h⟩, ?_⟩
        rw [List.take_of_length_le (by simp [encN])]
        simp [encN]
      | false =>
        have hi : inK false m (k.names.take (j + 1)) = inK false m (k.names.take j) := by unfold inK; rw [htk, List.filter_append]; simp [hs]
        simp [hneg, hge]
        refine ⟨by omega, ?_⟩
        refine Abs.Next.mk (j + 1) [0, 1, 2, 3, 4, 6] (by omega) (by omega) ?_
        rw [ho, hi]
        simp
        refine ⟨wrap_i64 (by omega) (by omega), fun a b h => mapC_lt h, ?_⟩
        rw [List.take_of_length_le (by simp [encN])]
        simp [encN]
  · have hj : j = k.names.length := by simp at h; omega
    subst hj
    rw [List.take_length]
    exact hQ _ (by simp) (by simp)

/-- a record's rows, as the map has them -/
theorem recF_rows (v : Typ → Typ → Int → Coe) (lo op : Bool) (m k : Typ) (p : Int) : recF v lo op m k p = busy (rowsC (fun s => v (kidO m s) (kidO k s) p) (recKeys lo op m k)) := rfl
set_option maxRecDepth 20000 in
theorem crec_end {c : Ctx} (V : ByteArray → Coe) (m k : Typ) (ks : List ByteArray) (hks : ks.Pairwise ltB) (hkl : ks.length ≤ 200) (nd : List (ByteArray × Int)) (hnd : nd.length ≤ 200) (T : List Int) (hT : T.length = 6) (t0 t1 : Nat × Nat) (T' : List (Nat × AV)) (e0 : Abs.look T' 0 = .c (.ptr 0 0)) (e12 : Abs.look T' 12 = .c (.map 4)) :
    w_ Pg c (.fzq (.reg [⟨none, some 95, .mv (.t 0)⟩, ⟨none, some 96, .mv (.t 12)⟩, ⟨none, some 97, .callM 55 [(.t 95), (.t 96)]⟩]))
      (endM [] (.tup []) [.box [.msl 1 1 0 6, .d (.sl false 2 (encN nd)), .msl 1 2 0 (busy (rowsC V ks)).length, .msl 5 3 0 (busy (rowsC V ks)).length, .d (.sl true 5 [])], tagB6 T, .arr 1 ((encS ((busy (rowsC V ks)).map (·.1))).map (·.map .d)), .arr 5 (((busy (rowsC V ks)).map (·.2.enc)).map (·.map .d))] [t0, t1]) ⟨⟩
      ⟨T', hpOf [cbB (.msl 2 5 0 nd.length), tagB6 T, .pin t0 0, .pin t1 1, .map (mapC (rowsC V ks)), .arr 2 ((encN nd).map (·.map .d))], 6⟩ := by
  have hf := fieldsT_ok (.sl false 2 (encN nd)) (.sl true 5 []) T hT (rowsC V ks) (by rw [rows_keys]; exact ltB_nodup hks) (by simp [rowsC]; omega)
  rw [rows_out hks] at hf
  have htl : (encN nd).take nd.length = encN nd := List.take_of_length_le (by simp [encN])
  simp
  refine fzK.mk [5] ?_
  simp [look_fz, e0, e12, htl]
  refine callKM.mk [0, 4, 1] hf (by simp; exact ⟨fun a b h => mapC_lt h, htl⟩) ?_
  simp
  exact EndM.mk [0, 1, 6, 7] [2, 3] (by simp)
set_option maxRecDepth 20000 in
theorem crec_ok (v : Typ → Typ → Int → Coe) (m k : Typ) (hm : goodT m) (hk : goodT k) (lo op : Bool) (hop : op = true → k.names = []) (hlo : lo = true → m.names = []) (lb : Int) (T : List Int) (hT : T.length = 6)
    (H : ∀ s, s ∈ recKeys lo op m k → PCall Pg F.coerce_cast [.agg (kidO m s).enc, .agg (kidO k s).enc, .one (.int .i64 lb)] (.agg (v (kidO m s) (kidO k s) lb).enc)) :
    MCall Pg F.coerce_record [.c (.ptr 0 0), .ag (m.enc.map .d), .ag (k.enc.map .d), .c (.d (.bool lo)), .c (.d (.bool op)), .c (.d (.int .i64 lb))] [.box [.msl 1 1 0 6, .d (.sl true 2 []), .d (.sl true 1 []), .d (.sl true 5 []), .d (.sl true 5 [])], tagB6 T] (.tup [])
      [.box [.msl 1 1 0 6, .d (.sl false 2 (encN (ndsP lb m k))), .msl 1 2 0 (recF v lo op m k lb).length, .msl 5 3 0 (recF v lo op m k lb).length, .d (.sl true 5 [])], tagB6 T, .arr 1 ((encS ((recF v lo op m k lb).map (·.1))).map (·.map .d)), .arr 5 (((recF v lo op m k lb).map (·.2.enc)).map (·.map .d))] := by
  refine wm_coerce_record ⟨by simp, by simp, by simp, by simp, by simp, by simp, by simp [live]⟩ fun ts hts ok hb c hN hp => ?_
  obtain ⟨t0, t1, rfl⟩ := twoTs hts
  have hr := recKeys_rises (lo := lo) (op := op) hm hk
  have hnk := good_names hk
  have hns : ndsP lb m k = (outK m k.names).map fun s => (s, lb) := rfl
  have hol : (outK m k.names).length ≤ 200 := by
    unfold outK
    have := List.length_filter_le (fun s => !decide (s ∈ m.names)) k.names
    omega
  rw [hns, recF_rows]
  unfold mc_coerce_record
  simp
  cases op with
  | true =>
    have hk0 := hop rfl
    have hkid : ∀ s, kidO k s = bT0 0 := fun s => kidO_nil hk0 s
    have hkeys : recKeys lo true m k = m.names := rfl
    have hin : inK lo m k.names = [] := by rw [hk0]; rfl
    have hou : outK m k.names = [] := by rw [hk0]; rfl
    rw [hkeys] at H hr ⊢
    simp
    refine rec0 hp (fun s => v (kidO m s) (kidO k s) lb) m k hm lo lb T hT t0 t1 (fun s hs => by have := H s hs; rw [hkid s] at this; rw [hkid s]; exact this) (ms := [0, 1, 2, 3, 4]) (by simp [mapC]) fun T' e0 e3 e5 e7 e8 e12 => ?_
    simp [e0, e3, e5, e7, e8, e12]
    refine owK.mk [.c 0 1] ?_
    simp [e0, e3, e5, e7, e8, e12]
    refine rec2 hp (fun s => v (kidO m s) (kidO k s) lb) m k hm hk lo hlo lb T hT t0 t1 (rowsC (fun s => v (kidO m s) (kidO k s) lb) m.names) (fun e => absurd hk0 e) (fun s hs => by rw [hin] at hs; cases hs) (ms := [0, 1, 2, 3, 4, 5]) (by simp [e0, e3, e5, e7, e8, e12]; exact fun a b h => mapC_lt h) fun T2 f0 f12 => ?_
    rw [hin]
    have e : rowsC (fun s => v (kidO m s) (kidO k s) lb) m.names ++ rowsC (fun s => v (kidO m s) (kidO k s) lb) [] = rowsC (fun s => v (kidO m s) (kidO k s) lb) m.names := by simp [rowsC]
    rw [e]
    have := crec_end (c := c) (fun s => v (kidO m s) (kidO k s) lb) m k m.names hr.1 hr.2 ((outK m k.names).map fun s => (s, lb)) (by simpa using hol) T hT t0 t1 T2 f0 f12
    simpa using this
  | false =>
    have hin : inK lo m k.names = recKeys lo false m k := by
      unfold inK recKeys
      cases lo <;> simp
    simp
    refine owK.mk [.c 0 1] ?_
    simp
    refine rec2 hp (fun s => v (kidO m s) (kidO k s) lb) m k hm hk lo hlo lb T hT t0 t1 [] (fun _ => rfl) (fun s hs => by rw [hin] at hs; exact H s hs) (ms := [0, 1, 2, 3, 4, 5]) (by simp [mapC]) fun T2 f0 f12 => ?_
    rw [hin, List.nil_append]
    have := crec_end (c := c) (fun s => v (kidO m s) (kidO k s) lb) m k _ hr.1 hr.2 ((outK m k.names).map fun s => (s, lb)) (by simpa using hol) T hT t0 t1 T2 f0 f12
    simpa using this
end Go.Gr

/- coerce: a type's part; casts, of types that are well made; Make. -/
set_option linter.unusedVariables false
set_option linter.unusedSimpArgs false
namespace Go.Gr
open Go.Abs Go.Proofs

theorem fi_find {α : Type} (q : α → Bool) : ∀ (l : List α) (i : Nat), (l.find? q = none ∧ fi q i l = -1) ∨ ∃ (n : Nat) (h : n < l.length), l.find? q = some l[n] ∧ fi q i l = (i + n : Nat)
  | [], i => .inl ⟨rfl, rfl⟩
  | x :: l, i => by
    rw [List.find?_cons, fi]
    cases hq : q x with
    | true => exact .inr ⟨0, by simp, by simp, by simp⟩
    | false =>
      simp only
      rcases fi_find q l (i + 1) with ⟨h1, h2⟩ | ⟨n, hn, h1, h2⟩
      · exact .inl ⟨h1, by simpa using h2⟩
      · refine .inr ⟨n + 1, by simpa using hn, by simpa using h1, ?_⟩
        simp only [Bool.false_eq_true, if_false, h2]; omega
theorem Member_ok (t : Typ) (i : Nat) : PCall Pg F.types_Member [.agg t.enc, .one (.int .i64 i)] (.tup [.agg ((memO t i).getD (bT0 0)).enc, .one (.bool (memO t i).isSome)]) := by
  refine w_types_Member (by simp) fun o c hN hp => ?_
  have he : (bT0 0).enc = [.int .i64 0, .str (bs []), .sl false 1 [], .sl false 4 []] := rfl
  have hi0 : ¬ ((i : Int) < 0) := by omega
  have hi := fun l => indexT_ok l F.types_Member_1 [.rp [.int .i64 i] 0] (fun x => decide (tagOf x = i)) fun x _ => Member1_ok x i
  by_cases h7 : t.kind = 7
  · have hm : memO t i = t.kids.find? fun x => decide (tagOf x = i) := by unfold memO; rw [if_pos h7]
    have hi := hi t.kids
    rcases fi_find (fun x => decide (tagOf x = i)) t.kids 0 with ⟨h1, h2⟩ | ⟨n, hn, h1, h2⟩
    · rw [hm, h1]
      rw [h2] at hi
      unfold mc_types_Member
      simp [h7]
      refine callK.mk hi ?_
      simp [he]
    · rw [hm, h1]
      rw [h2] at hi
      have hn0 : ¬ ((n : Int) < 0) := by omega
      unfold mc_types_Member
      simp [h7]
      simp at hi
      refine callK.mk hi ?_
      simp [hn0, hi0, List.getElem?_eq_getElem hn]
  · have hm : memO t i = [t].find? fun x => decide (tagOf x = i) := by unfold memO; rw [if_neg h7]
    have hl : PCall Pg F.slices_IndexFunc_api_Type_api_Type [.one (.sl true 4 [t.enc]), .one (.fn (.func F.types_Member_1) [.rp [.int .i64 i] 0])] (.one (.int .i64 (fi (fun x => decide (tagOf x = i)) 0 [t]))) := PCall.erd (hi [t]) (by simp [DV.erds, DV.erd, D.erd, D.erdE, D.erdL, Typ.erdL])
    rcases fi_find (fun x => decide (tagOf x = i)) [t] 0 with ⟨h1, h2⟩ | ⟨n, hn, h1, h2⟩
    · rw [hm, h1]
      rw [h2] at hl
      unfold mc_types_Member
      simp [h7]
      refine callK.mk hl ?_
      simp [he]
    · have hn' : n = 0 := by simpa using hn
      subst hn'
      rw [hm, h1]
      rw [h2] at hl
      unfold mc_types_Member
      simp [h7]
      refine callK.mk hl ?_
      simp [hi0]
theorem part_ok (t : Typ) (i : Nat) (h6 : i < 6) : PCall Pg F.coerce_part [.agg t.enc, .one (.int .i64 i)] (.tup [.agg ((partO t i).getD (bT0 0)).enc, .one (.bool (decide (t.kind = 0 ∧ i = 4))), .one (.bool (partO t i).isSome)]) := by
  by_cases q : t.kind = 0
  · have hw : IntKind.i64.wrap (1 + (i : Int)) = i + 1 := by rw [wrap_i64 (by omega) (by omega)]; omega
    have hp : partO t i = some (anyP i) := by unfold partO; rw [if_pos q]
    rw [hp]
    have h4 : decide ((i : Int) = 4) = decide (i = 4) := by rw [decide_eq_decide]; omega
    by_cases q5 : i = 5
    · subst q5
      refine PCall.erdV (v := .tup [.agg [.int .i64 6, .str (bs []), .sl false 1 [], .sl false 4 [[.int .i64 0, .str (bs []), .sl true 1 [], .sl true 4 []], [.int .i64 0, .str (bs []), .sl true 1 [], .sl true 4 []]]], .one (.bool false), .one (.bool true)]) ?_ (by simp [DV.erd, DV.erds, D.erd, D.erdL, D.erdE, anyP, bT0, Typ.enc, Typ.encs, encS])
      refine w_coerce_part (by simp) fun o c hN hp => ?_
      unfold mc_coerce_part
      simp
      refine callK.mk (dynamic_ok t) ?_
      simp at hw
      simp [q, hw]
    · have hi5 : ¬ ((i : Int) = 5) := by omega
      have he : (anyP i).enc = [.int .i64 (i + 1), .str (bs []), .sl false 1 [], .sl false 4 []] := by simp [anyP, q5, Typ.enc, Typ.encs, encS]
      refine w_coerce_part (by simp) fun o c hN hp => ?_
      unfold mc_coerce_part
      simp
      refine callK.mk (dynamic_ok t) ?_
      rw [he]
      simp [q, hw, hi5, h4]
  · have hp : partO t i = memO t i := by unfold partO; rw [if_neg q]
    rw [hp]
    refine w_coerce_part (by simp) fun o c hN hp => ?_
    unfold mc_coerce_part
    simp
    refine callK.mk (dynamic_ok t) ?_
    simp [q]
    refine callK.mk (Member_ok t i) ?_
    simp [q]

/-! ### the other label -/
theorem xor_one (n : Nat) : ((n ^^^ 1 : Nat) : Int) = flp n := by
  have h1 : (n ^^^ 1) / 2 = n / 2 := by rw [Nat.xor_div_two]; simp
  have h2 : (n ^^^ 1) % 2 = (n + 1) % 2 := by
    have := Nat.xor_mod_two_pow (a := n) (b := 1) (n := 1)
    simp only [Nat.pow_one] at this
    rw [this]
    have h : n % 2 = 0 ∨ n % 2 = 1 := by omega
    rcases h with h | h <;> rw [h] <;> simp <;> omega
  unfold flp
  split <;> omega
theorem xor_flp {lb : Int} (h0 : 0 ≤ lb) (h1 : lb ≤ 9223372036854775807) : IntKind.i64.wrap (((lb % 2 ^ IntKind.i64.bits).toNat ^^^ 1 % 2 ^ IntKind.i64.bits : Nat) : Int) = flp lb := by
  obtain ⟨n, rfl⟩ : ∃ n : Nat, lb = n := ⟨lb.toNat, by omega⟩
  have e1 : (((n : Int) % 2 ^ IntKind.i64.bits).toNat) = n := by
    show ((n : Int) % 18446744073709551616).toNat = n
    omega
  have e2 : 1 % 2 ^ IntKind.i64.bits = 1 := rfl
  rw [e1, e2, xor_one]
  have h2 : flp (n : Int) ≤ 9223372036854775807 ∧ 0 ≤ flp (n : Int) := by unfold flp; split <;> omega
  exact wrap_i64 (by omega) (by omega)
theorem flp_range {lb : Int} (h0 : 0 ≤ lb) (h1 : lb ≤ 9223372036854775807) : 0 ≤ flp lb ∧ flp lb ≤ 9223372036854775807 := by unfold flp; split <;> omega

/-! ### cast -/
def bothP (a b : Typ) (i : Nat) : Prop := (partO a i).isSome = true ∧ (partO b i).isSome = true
instance (a b : Typ) (i : Nat) : Decidable (bothP a b i) := inferInstanceAs (Decidable (_ ∧ _))
/-- a cell that is written when a tag's turn is over -/
def onD (i : Nat) (a b : Typ) (j : Nat) (x y : D) : D := if i < j ∧ bothP a b i then x else y
theorem onD_same {i : Nat} {a b : Typ} {j : Nat} (h : j ≠ i ∨ ¬ bothP a b i) (x y : D) : onD i a b (j + 1) x y = onD i a b j x y := by
  unfold onD
  by_cases q : bothP a b i
  · have hj := h.resolve_right (fun n => n q)
    by_cases r : i < j
    · rw [if_pos ⟨by omega, q⟩, if_pos ⟨r, q⟩]
    · rw [if_neg (fun e => by omega), if_neg (fun e => by omega)]
  · rw [if_neg (fun e => q e.2), if_neg (fun e => q e.2)]
theorem onD_no {i : Nat} {a b : Typ} {j : Nat} (h : j ≤ i) (x y : D) : onD i a b j x y = y := by
  unfold onD; rw [if_neg (fun e => by omega)]
theorem onD_yes {i : Nat} {a b : Typ} {j : Nat} (h : i < j) (q : bothP a b i) (x y : D) : onD i a b j x y = x := by
  unfold onD; rw [if_pos ⟨h, q⟩]

section
variable (v : Typ → Typ → Int → Coe) (a b : Typ) (lb : Int)
abbrev ndD (j : Nat) : D := onD 4 a b j (.sl false 2 (encN (ndP a b lb))) (.sl true 2 [])
abbrev nmD (j : Nat) : D := onD 4 a b j (.sl false 1 (encS ((fdP v a b lb).map (·.1)))) (.sl true 1 [])
abbrev fdD (j : Nat) : D := onD 4 a b j (.sl false 5 ((fdP v a b lb).map (·.2.enc))) (.sl true 5 [])
abbrev fnD (j : Nat) : D := onD 5 a b j (.sl true 5 ((fnP v a b lb).map Coe.enc)) (.sl true 5 [])
abbrev boxJ (j : Nat) : Blk := .box [.msl 1 1 0 6, .d (ndD a b lb j), .d (nmD v a b lb j), .d (fdD v a b lb j), .d (fnD v a b lb j)]
end
theorem tgsP_get (a b : Typ) (lb : Int) {j : Nat} (h : j < 6) : (tgsP a b lb)[j]'(by simpa [tgsP] using h) = tgP a b lb j := by
  match j, h with
  | 0, _ | 1, _ | 2, _ | 3, _ | 4, _ | 5, _ => rfl
theorem upT_same {L : List Int} (hL : L.length = 6) {j : Nat} (h : j < 6) (h0 : L[j] = 0) : upT L (j + 1) = upT L j := by
  obtain ⟨a, b, c, d, e, f, rfl⟩ := six hL
  match j, h with
  | 0, _ | 1, _ | 2, _ | 3, _ | 4, _ | 5, _ => simp at h0; subst h0; rfl
abbrev cstT (a b : Typ) (lb : Int) : List (Nat × AV) := [(2, .c (.d (.int .i64 lb))), (3, .c (.d (.rp a.enc 0))), (4, .c (.d (.rp b.enc 0))), (6, .c (.ptr 0 0)), (7, .c (.ptr 2 0))]
set_option maxRecDepth 20000 in
set_option maxHeartbeats 1000000 in
theorem castG {c : Ctx} (hp : c.pure) (v : Typ → Typ → Int → Coe) (a b : Typ) (lb : Int) (ga : goodT a) (gb : goodT b) (hne : ¬ (a.kind = 0 ∧ b.kind = 0)) (l0 : 0 ≤ lb) (l1 : lb ≤ 9223372036854775807)
    (H4 : ∀ m k, partO a 4 = some m → partO b 4 = some k → ∀ s, s ∈ recKeys (decide (a.kind = 0)) (decide (b.kind = 0)) m k → PCall Pg F.coerce_cast [.agg (kidO m s).enc, .agg (kidO k s).enc, .one (.int .i64 lb)] (.agg (v (kidO m s) (kidO k s) lb).enc))
    (H5 : ∀ m k, partO a 5 = some m → partO b 5 = some k → PCall Pg F.coerce_cast [.agg (kd k 0).enc, .agg (kd m 0).enc, .one (.int .i64 (flp lb))] (.agg (v (kd k 0) (kd m 0) (flp lb)).enc) ∧ PCall Pg F.coerce_cast [.agg (kd m 1).enc, .agg (kd k 1).enc, .one (.int .i64 lb)] (.agg (v (kd m 1) (kd k 1) lb).enc))
    {Q : Exit → St → Prop} {S : St} {g}
    (h0 : Match [0, 1, 2] S ((23, .c (.d (.int .i64 0))) :: cstT a b lb) [box5, tagB6 six0, boxI])
    (hQ : ∀ T, Abs.look T 6 = .c (.ptr 0 0) → Abs.look T 7 = .c (.ptr 2 0) → Q (.exit 0) ⟨T, hpOf [box5, tagB6 (tgsP a b lb), boxJ v a b lb 6], 3⟩) : lw_ Pg c lp_coerce_cast_0 Q g S := by
  have hL : (tgsP a b lb).length = 6 := rfl
  refine W.loop Pg_mixed hp (fun j : Nat => j ≤ 6) (fun j => (23, .c (.d (.int .i64 j))) :: cstT a b lb) (fun j => [box5, tagB6 (upT (tgsP a b lb) j), boxJ v a b lb j]) (fun j => 6 - j) 0 [0, 1, 2] (by simp)
    (by simpa [onD_no, upT, six0] using h0) fun j h1 => ?_
  unfold lp_coerce_cast_0
  simp
  refine gd.mk (fun h => ?_) (fun h => ?_)
  · have hj : j < 6 := by simp at h; omega
    have hup : (upT (tgsP a b lb) j).length = 6 := by simp [upT, hL]; omega
    have hju : j < (upT (tgsP a b lb) j).length := by omega
    have hset : ∀ x, x = tgP a b lb j → (encI (upT (tgsP a b lb) j)).set j [.int .i64 x] = encI (upT (tgsP a b lb) (j + 1)) := fun x e => by
      rw [e, ← encI_set, ← tgsP_get a b lb hj, upT_set hL hj]
    have hsame : tgP a b lb j = 0 → upT (tgsP a b lb) (j + 1) = upT (tgsP a b lb) j := fun e => upT_same hL hj (by rw [tgsP_get a b lb hj, e])
    refine callK.mk (part_ok a j hj) ?_
    simp
    refine callK.mk (part_ok b j hj) ?_
    simp
    cases ha : partO a j with
    | none =>
      have ht : tgP a b lb j = 0 := by unfold tgP; rw [ha]
      have hb : ¬ bothP a b j := fun e => by have := e.1; rw [ha] at this; cases this
      have hs4 : ∀ x y, onD 4 a b (j + 1) x y = onD 4 a b j x y := fun x y => onD_same (by by_cases q : j = 4; exact .inr (q ▸ hb); exact .inl q) x y
      have hs5 : ∀ x y, onD 5 a b (j + 1) x y = onD 5 a b j x y := fun x y => onD_same (by by_cases q : j = 5; exact .inr (q ▸ hb); exact .inl q) x y
      simp
      refine fzK.mk [] ?_
      simp only [fzG_nil]
      simp
      refine Abs.Next.mk (j + 1) [0, 1, 2] (by omega) (by omega) ?_
      simp [hsame ht, hs4, hs5]
      exact wrap_i64 (by omega) (by omega)
    | some m =>
      cases hbk : partO b j with
      | none =>
        have ht : tgP a b lb j = lb := by unfold tgP; rw [ha, hbk]
        have hb : ¬ bothP a b j := fun e => by have := e.2; rw [hbk] at this; cases this
        have hs4 : ∀ x y, onD 4 a b (j + 1) x y = onD 4 a b j x y := fun x y => onD_same (by by_cases q : j = 4; exact .inr (q ▸ hb); exact .inl q) x y
        have hs5 : ∀ x y, onD 5 a b (j + 1) x y = onD 5 a b j x y := fun x y => onD_same (by by_cases q : j = 5; exact .inr (q ▸ hb); exact .inl q) x y
        simp [List.getElem?_eq_getElem hju]
        refine ⟨by omega, ?_⟩
        refine fzK.mk [] ?_
        simp only [fzG_nil]
        simp
        refine Abs.Next.mk (j + 1) [0, 1, 2] (by omega) (by omega) ?_
        simp [hs4, hs5]
        refine ⟨wrap_i64 (by omega) (by omega), ?_⟩
        rw [← hset lb ht.symm]
        simp [List.map_set]
      | some k =>
        have ht : tgP a b lb j = 0 := by unfold tgP; rw [ha, hbk]
        have hb : bothP a b j := ⟨by rw [ha]; rfl, by rw [hbk]; rfl⟩
        by_cases j5 : j = 5
        · subst j5
          obtain ⟨tm, gm, nm7, _⟩ := partO_is ga (by omega) ha
          obtain ⟨tk, gk, nk7, _⟩ := partO_is gb (by omega) hbk
          have lm := (wf_names gm.1 nm7).2.2 (by omega)
          have lk := (wf_names gk.1 nk7).2.2 (by omega)
          have g0 : ∀ {t : Typ}, t.kids.length = 2 → t.kids[0]? = some (kd t 0) ∧ t.kids[1]? = some (kd t 1) := fun {t} hl => by
            unfold kd
            match t.kids, hl with
            | [a, b], _ => exact ⟨rfl, rfl⟩
          obtain ⟨m0, m1⟩ := g0 lm
          obtain ⟨k0, k1⟩ := g0 lk
          obtain ⟨c0, c1⟩ := H5 m k ha hbk
          have hfn : fnP v a b lb = funC (v (kd k 0) (kd m 0) (flp lb)) (v (kd m 1) (kd k 1) lb) := by unfold fnP; rw [ha, hbk]
          have hx := xor_flp l0 l1
          have e4 : ∀ x y, onD 4 a b 6 x y = onD 4 a b 5 x y := fun x y => onD_same (.inl (by decide)) x y
          have f5 : fnD v a b lb 5 = .sl true 5 [] := onD_no (by omega) _ _
          have f6 : fnD v a b lb 6 = .sl true 5 ((funC (v (kd k 0) (kd m 0) (flp lb)) (v (kd m 1) (kd k 1) lb)).map Coe.enc) := by rw [← hfn]; exact onD_yes (by omega) hb _ _
          have g2 : ndD a b lb 6 = ndD a b lb 5 := e4 _ _
          have g3 : nmD v a b lb 6 = nmD v a b lb 5 := e4 _ _
          have g4 : fdD v a b lb 6 = fdD v a b lb 5 := e4 _ _
          have hf := funT_ok (ndD a b lb 5) (nmD v a b lb 5) (fdD v a b lb 5) (upT (tgsP a b lb) 5) hup (v (kd k 0) (kd m 0) (flp lb)) (v (kd m 1) (kd k 1) lb)
          clear hfn e4
          generalize kd m 0 = M0 at *
          generalize kd m 1 = M1 at *
          generalize kd k 0 = K0 at *
          generalize kd k 1 = K1 at *
          simp [m0, m1, k0, k1]
          rw [hx]
          refine callK.mk c0 ?_
          simp [m0, m1, k0, k1]
          refine callK.mk c1 ?_
          simp
          refine callKM.mk [2, 1] hf (by simp [f5]) ?_
          simp
          refine ⟨by decide, ?_⟩
          refine fzK.mk [] ?_
          simp only [fzG_nil]
          simp
          refine Abs.Next.mk 6 [0, 1, 2] (by omega) (by omega) ?_
          simp [hsame ht, f6, g2, g3, g4]
          exact wrap_i64 (by omega) (by omega)
        · by_cases j4 : j = 4
          · subst j4
            obtain ⟨tm, gm, nm7, _⟩ := partO_is ga (by omega) ha
            obtain ⟨tk, gk, nk7, _⟩ := partO_is gb (by omega) hbk
            have hc := crec_ok v m k gm gk (decide (a.kind = 0)) (decide (b.kind = 0)) (fun e => by
              simp only [decide_eq_true_eq] at e
              unfold partO at hbk; rw [if_pos e] at hbk
              simp only [Option.some.injEq] at hbk; rw [← hbk]; rfl) (fun e => by
              simp only [decide_eq_true_eq] at e
              unfold partO at ha; rw [if_pos e] at ha
              simp only [Option.some.injEq] at ha; rw [← ha]; rfl) lb (upT (tgsP a b lb) 4) hup (H4 m k ha hbk)
            have hnd : ndP a b lb = ndsP lb m k := by unfold ndP; rw [ha, hbk]
            have hfd : fdP v a b lb = recF v (decide (a.kind = 0)) (decide (b.kind = 0)) m k lb := by unfold fdP; rw [ha, hbk]
            rw [← hnd, ← hfd] at hc
            have g4 : ndD a b lb 4 = .sl true 2 [] ∧ nmD v a b lb 4 = .sl true 1 [] ∧ fdD v a b lb 4 = .sl true 5 [] ∧ fnD v a b lb 4 = .sl true 5 [] := ⟨onD_no (by omega) _ _, onD_no (by omega) _ _, onD_no (by omega) _ _, onD_no (by omega) _ _⟩
            have g5 : ndD a b lb 5 = .sl false 2 (encN (ndP a b lb)) ∧ nmD v a b lb 5 = .sl false 1 (encS ((fdP v a b lb).map (·.1))) ∧ fdD v a b lb 5 = .sl false 5 ((fdP v a b lb).map (·.2.enc)) ∧ fnD v a b lb 5 = .sl true 5 [] := ⟨onD_yes (by omega) hb _ _, onD_yes (by omega) hb _ _, onD_yes (by omega) hb _ _, onD_no (by omega) _ _⟩
            clear hnd hfd
            generalize fdP v a b lb = L at *
            generalize ndP a b lb = N at *
            have ht1 : (encS (L.map (·.1))).take L.length = encS (L.map (·.1)) := List.take_of_length_le (by simp)
            have ht2 : (L.map fun x => x.2.enc).take L.length = L.map fun x => x.2.enc := List.take_of_length_le (by simp)
            simp
            refine callKM.mk [2, 1] hc (by simp [g4]) ?_
            simp
            refine fzK.mk [5, 6] ?_
            simp [look_fz, ht1, ht2]
            refine Abs.Next.mk 5 [0, 1, 2] (by omega) (by omega) ?_
            simp [hsame ht, g5, look_fz, ht1, ht2]
            exact wrap_i64 (by omega) (by omega)
          · have j5' : ¬ ((j : Int) = 5) := by omega
            have j4' : ¬ ((j : Int) = 4) := by omega
            have hs4 : ∀ x y, onD 4 a b (j + 1) x y = onD 4 a b j x y := fun x y => onD_same (.inl j4) x y
            have hs5 : ∀ x y, onD 5 a b (j + 1) x y = onD 5 a b j x y := fun x y => onD_same (.inl j5) x y
            simp [j5', j4']
            refine fzK.mk [] ?_
            simp only [fzG_nil]
            simp
            refine Abs.Next.mk (j + 1) [0, 1, 2] (by omega) (by omega) ?_
            simp [hsame ht, hs4, hs5]
            exact wrap_i64 (by omega) (by omega)
  · have hj : j = 6 := by simp at h; omega
    subst hj
    have hup : upT (tgsP a b lb) 6 = tgsP a b lb := by unfold upT; rw [List.take_of_length_le (by omega)]; simp
    rw [hup]
    exact hQ _ (by simp) (by simp)

set_option maxRecDepth 20000 in
theorem cast_one (v : Typ → Typ → Int → Coe) (a b : Typ) (lb : Int) (ga : goodT a) (gb : goodT b) (l0 : 0 ≤ lb) (l1 : lb ≤ 9223372036854775807)
    (H4 : ¬ (a.kind = 0 ∧ b.kind = 0) → ∀ m k, partO a 4 = some m → partO b 4 = some k → ∀ s, s ∈ recKeys (decide (a.kind = 0)) (decide (b.kind = 0)) m k → PCall Pg F.coerce_cast [.agg (kidO m s).enc, .agg (kidO k s).enc, .one (.int .i64 lb)] (.agg (v (kidO m s) (kidO k s) lb).enc))
    (H5 : ¬ (a.kind = 0 ∧ b.kind = 0) → ∀ m k, partO a 5 = some m → partO b 5 = some k → PCall Pg F.coerce_cast [.agg (kd k 0).enc, .agg (kd m 0).enc, .one (.int .i64 (flp lb))] (.agg (v (kd k 0) (kd m 0) (flp lb)).enc) ∧ PCall Pg F.coerce_cast [.agg (kd m 1).enc, .agg (kd k 1).enc, .one (.int .i64 lb)] (.agg (v (kd m 1) (kd k 1) lb).enc)) :
    PCall Pg F.coerce_cast [.agg a.enc, .agg b.enc, .one (.int .i64 lb)] (.agg (cstV v a b lb).enc) := by
  refine w_coerce_cast (by simp) fun o c hN hp => ?_
  by_cases hd : a.kind = 0 ∧ b.kind = 0
  · have e : cstV v a b lb = idC := by unfold cstV; rw [if_pos hd]
    have hE : idC.enc = [.sl false 1 (encI six0), .sl false 2 [], .sl false 1 [], .sl false 5 [], .sl false 5 []] := rfl
    have htk : (encI six0).take 6 = encI six0 := rfl
    have hl6 : six0.length = 6 := rfl
    rw [e, hE]
    unfold mc_coerce_cast
    simp
    refine callKM.mk [] IdM (by simp) ?_
    simp
    refine callK.mk (dynamic_ok a) ?_
    simp [hd.1]
    refine callK.mk (dynamic_ok b) ?_
    simp [hd.2, htk, hl6]
  · have e : cstV v a b lb = .mk (tgsP a b lb) (ndP a b lb) ((fdP v a b lb).map (·.1)) ((fdP v a b lb).map (·.2)) (fnP v a b lb) := by unfold cstV; rw [if_neg hd]
    have hE : (cstV v a b lb).enc = [.sl false 1 (encI (tgsP a b lb)), .sl false 2 (encN (ndP a b lb)), .sl false 1 (encS ((fdP v a b lb).map (·.1))), .sl false 5 ((fdP v a b lb).map (·.2.enc)), .sl false 5 ((fnP v a b lb).map Coe.enc)] := by
      rw [e, Coe.enc_eq]
      simp only [Coe.tags, Coe.needs, Coe.names, Coe.fields, Coe.fn, List.map_map, Function.comp_def]
    have htk : (encI (tgsP a b lb)).take 6 = encI (tgsP a b lb) := rfl
    have hl6 : (tgsP a b lb).length = 6 := rfl
    have e2 : (ndD a b lb 6).er = .sl false 2 (encN (ndP a b lb)) := by
      unfold ndD onD
      split
      · rfl
      · rename_i q
        have : ndP a b lb = [] := by
          unfold ndP
          cases h1 : partO a 4 with
          | none => rfl
          | some m =>
            cases h2 : partO b 4 with
            | none => rfl
            | some k => exact absurd ⟨by omega, by rw [h1]; rfl, by rw [h2]; rfl⟩ q
        rw [this]; rfl
    have e34 : bothP a b 4 ∨ fdP v a b lb = [] := by
      unfold fdP
      cases h1 : partO a 4 with
      | none => exact .inr rfl
      | some m =>
        cases h2 : partO b 4 with
        | none => exact .inr rfl
        | some k => exact .inl ⟨by rw [h1]; rfl, by rw [h2]; rfl⟩
    have e3 : (nmD v a b lb 6).er = .sl false 1 (encS ((fdP v a b lb).map (·.1))) := by
      unfold nmD onD
      split
      · rfl
      · rename_i q
        rw [e34.resolve_left fun h => q ⟨by omega, h⟩]; rfl
    have e4 : (fdD v a b lb 6).er = .sl false 5 ((fdP v a b lb).map (·.2.enc)) := by
      unfold fdD onD
      split
      · rfl
      · rename_i q
        rw [e34.resolve_left fun h => q ⟨by omega, h⟩]; rfl
    have e5 : (fnD v a b lb 6).er = .sl false 5 ((fnP v a b lb).map Coe.enc) := by
      unfold fnD onD
      split
      · rfl
      · rename_i q
        have : fnP v a b lb = [] := by
          unfold fnP
          cases h1 : partO a 5 with
          | none => rfl
          | some m =>
            cases h2 : partO b 5 with
            | none => rfl
            | some k => exact absurd ⟨by omega, by rw [h1]; rfl, by rw [h2]; rfl⟩ q
        rw [this]; rfl
    rw [hE]
    unfold mc_coerce_cast
    simp
    refine callKM.mk [] IdM (by simp) ?_
    simp
    refine callK.mk (dynamic_ok a) ?_
    simp
    refine gd.mk (fun h => ?_) (fun h => ?_)
    · refine callK.mk (dynamic_ok b) ?_
      have hm : ¬ b.kind = 0 := fun e => hd ⟨of_decide_eq_true h, e⟩
      simp [hm]
      refine castG hp v a b lb ga gb hd l0 l1 (H4 hd) (H5 hd) (by simp) fun T e6 e7 => ?_
      simp [e6, e7, htk, hl6, e2, e3, e4, e5]
    · refine castG hp v a b lb ga gb hd l0 l1 (H4 hd) (H5 hd) (by simp) fun T e6 e7 => ?_
      simp [e6, e7, htk, hl6, e2, e3, e4, e5]

theorem cast_ok : ∀ (n : Nat) (a b : Typ) (lb : Int), goodT a → goodT b → dpt a + dpt b ≤ n + 1 → 0 ≤ lb → lb ≤ 9223372036854775807 → PCall Pg F.coerce_cast [.agg a.enc, .agg b.enc, .one (.int .i64 lb)] (.agg (cstN n a b lb).enc)
  | 0, a, b, lb, ga, gb, hd, _, _ => by have := dpt_pos a; have := dpt_pos b; omega
  | n + 1, a, b, lb, ga, gb, hd, l0, l1 => by
    rw [cstN]
    have hfl := flp_range l0 l1
    have ha1 := dpt_pos a
    have hb1 := dpt_pos b
    refine cast_one (cstN n) a b lb ga gb l0 l1 (fun hne m k h1 h2 s hs => ?_) fun hne m k h1 h2 => ?_
    · obtain ⟨_, gm, _, dm⟩ := partO_is ga (by omega) h1
      obtain ⟨_, gk, _, dk⟩ := partO_is gb (by omega) h2
      have hm : s ∈ m.names → (a.kind = 0 ∧ dpt (kidO m s) = 1) ∨ (a.kind ≠ 0 ∧ dpt (kidO m s) < dpt a) := fun h => (dm _ (kidO_in gm h)).imp (fun q => ⟨q.1, by rw [q.2]; rfl⟩) fun q => q
      have hk : s ∈ k.names → (b.kind = 0 ∧ dpt (kidO k s) = 1) ∨ (b.kind ≠ 0 ∧ dpt (kidO k s) < dpt b) := fun h => (dk _ (kidO_in gk h)).imp (fun q => ⟨q.1, by rw [q.2]; rfl⟩) fun q => q
      have am : a.kind = 0 → dpt (kidO m s) = 1 := fun e => by
        by_cases q : s ∈ m.names
        · rcases hm q with r | r
          · exact r.2
          · exact absurd e r.1
        · rw [kidO_not q]; rfl
      have bk : b.kind = 0 → dpt (kidO k s) = 1 := fun e => by
        by_cases q : s ∈ k.names
        · rcases hk q with r | r
          · exact r.2
          · exact absurd e r.1
        · rw [kidO_not q]; rfl
      refine cast_ok n _ _ lb (good_kidO gm s) (good_kidO gk s) ?_ l0 l1
      unfold recKeys at hs
      split at hs
      · rename_i e
        simp only [decide_eq_true_eq] at e
        have := bk e
        have ha0 : a.kind ≠ 0 := fun q => hne ⟨q, e⟩
        rcases hm hs with r | r
        · exact absurd r.1 ha0
        · omega
      · rename_i e
        simp only [decide_eq_true_eq] at e
        split at hs
        · rename_i e'
          simp only [decide_eq_true_eq] at e'
          have := am e'
          rcases hk hs with r | r
          · exact absurd r.1 e
          · omega
        · rename_i e'
          simp only [decide_eq_true_eq] at e'
          rw [List.mem_filter, decide_eq_true_eq] at hs
          rcases hm hs.2 with r | r
          · exact absurd r.1 e'
          · rcases hk hs.1 with r' | r'
            · exact absurd r'.1 e
            · omega
    · obtain ⟨tm, gm, nm7, dm⟩ := partO_is ga (by omega) h1
      obtain ⟨tk, gk, nk7, dk⟩ := partO_is gb (by omega) h2
      have lm := (wf_names gm.1 nm7).2.2 (by omega)
      have lk := (wf_names gk.1 nk7).2.2 (by omega)
      have hm : ∀ j, j < 2 → (a.kind = 0 ∧ dpt (kd m j) = 1) ∨ (a.kind ≠ 0 ∧ dpt (kd m j) < dpt a) := fun j hj => (dm _ (getD_mem (by omega))).imp (fun q => ⟨q.1, by unfold kd; rw [q.2]; rfl⟩) fun q => q
      have hk : ∀ j, j < 2 → (b.kind = 0 ∧ dpt (kd k j) = 1) ∨ (b.kind ≠ 0 ∧ dpt (kd k j) < dpt b) := fun j hj => (dk _ (getD_mem (by omega))).imp (fun q => ⟨q.1, by unfold kd; rw [q.2]; rfl⟩) fun q => q
      have hsum : ∀ i j, i < 2 → j < 2 → dpt (kd m i) + dpt (kd k j) ≤ n + 1 := fun i j hi hj => by
        rcases hm i hi with r | r <;> rcases hk j hj with r' | r'
        · exact absurd ⟨r.1, r'.1⟩ hne
        · omega
        · omega
        · omega
      refine ⟨cast_ok n _ _ _ (good_kd gk 0) (good_kd gm 0) ?_ hfl.1 hfl.2, cast_ok n _ _ _ (good_kd gm 1) (good_kd gk 1) (hsum 1 1 (by omega) (by omega)) l0 l1⟩
      have := hsum 0 0 (by omega) (by omega)
      omega

/-! ### Make -/
theorem noC_enc : noC.enc = [.sl false 1 [], .sl false 2 [], .sl false 1 [], .sl false 5 [], .sl false 5 []] := rfl
end Go.Gr

/- Plain: a type that is normal is well made. -/
set_option linter.unusedVariables false
set_option linter.unusedSimpArgs false
namespace Go.Gr
open Go.Abs Go.Proofs Go.Sort

mutual
theorem sameT_iff : ∀ (a b : Typ), sameT a b = true ↔ a = b
  | .mk k n s l, .mk k' n' s' l' => by
    simp only [sameT, Bool.and_eq_true, decide_eq_true_eq, Typ.mk.injEq]
    rw [sameTs_iff l l']
theorem sameTs_iff : ∀ (a b : List Typ), sameTs a b = true ↔ a = b
  | [], [] => by simp [sameTs]
  | [], _ :: _ => by simp [sameTs]
  | _ :: _, [] => by simp [sameTs]
  | a :: l, b :: k => by
    simp only [sameTs, Bool.and_eq_true, List.cons.injEq]
    rw [sameT_iff a b, sameTs_iff l k]
end

/-! ### records -/
theorem srt_names (xs : List (ByteArray × Typ)) : (srtT xs).map (·.1) = (srtN (xs.map (·.1))).toList.map fun i => (xs.map (·.1)).getD i ⟨#[]⟩ := by
  unfold srtT
  rw [List.map_map]
  refine List.map_congr_left fun i _ => ?_
  simp only [Function.comp_apply, List.getD_eq_getElem?_getD, List.getElem?_map]
  cases xs[i]? <;> rfl
theorem srt_sorted (xs : List (ByteArray × Typ)) : ((srtT xs).map (·.1)).Pairwise fun a b => ¬ ltB b a := by
  rw [srt_names, List.pairwise_map]
  obtain ⟨⟨h1, _⟩, h2⟩ := srtN_sorts (xs.map (·.1))
  generalize xs.map (·.1) = ns at *
  simp only [Array.size_range] at h1 h2
  rw [List.pairwise_iff_getElem]
  intro i j hi hj hij
  have := h2 i j (Nat.zero_le _) hij (by simpa [h1] using hj)
  rw [cfN_ltB] at this
  have hi' : i < (srtN ns).size := by simpa using hi
  have hj' : j < (srtN ns).size := by simpa using hj
  rw [getElem!_pos (srtN ns) i hi', getElem!_pos (srtN ns) j hj'] at this
  simpa using this
theorem chain_lt : ∀ l : List ByteArray, (∀ i (h : i + 1 < l.length), ltB l[i] l[i + 1]) → l.Pairwise ltB
  | [], _ => by simp
  | [a], _ => by simp
  | a :: b :: l, h => by
    have ih := chain_lt (b :: l) fun i hi => h (i + 1) (by simp only [List.length_cons] at hi ⊢; omega)
    have hab : ltB a b := h 0 (by simp)
    refine List.Pairwise.cons (fun c hc => ?_) ih
    rcases List.mem_cons.1 hc with rfl | hc
    · exact hab
    · exact ltB_trans hab (List.rel_of_pairwise_cons ih hc)
theorem adj_ne {l : List ByteArray} (h : adjB l = true) {i : Nat} (hi : i + 1 < l.length) : l[i] ≠ l[i + 1] := by
  unfold adjB at h
  rw [List.all_eq_true] at h
  have := h (i + 1) (by simpa using hi)
  unfold unlk at this
  intro e
  have hi' : i < l.length := by omega
  simp [List.getD_eq_getElem?_getD, List.getElem?_eq_getElem hi, List.getElem?_eq_getElem hi', e] at this
theorem rec_wf (s : List ByteArray) (l : List Typ) (hl : ∀ x, x ∈ l → wfT x) (h : (recP s l).2 = true) : wfT (recP s l).1 := by
  unfold recP at h ⊢
  split at h
  · cases h
  · rename_i hc
    rw [if_neg hc]
    split at h
    · rename_i hd
      rw [if_pos hd]
      rw [wfT_iff]
      refine ⟨rfl, fun x hx => ?_, .inr (.inl ⟨rfl, by simp [Typ.names, Typ.kids], ?_⟩)⟩
      · simp only [Typ.kids, List.mem_map] at hx
        obtain ⟨y, hy, rfl⟩ := hx
        have := (srtT_perm _).mem_iff.1 hy
        exact hl _ (List.of_mem_zip (a := y.1) (b := y.2) this).2
      · simp only [Typ.names]
        refine chain_lt _ fun i hi => ?_
        have h1 := adj_ne hd.2 hi
        have h2 := (List.pairwise_iff_getElem.1 (srt_sorted (s.zip l))) i (i + 1) (by omega) hi (by omega)
        exact (ltB_total h1).resolve_right h2
    · cases h

/-! ### unions -/
def ofW (of : List (Option Typ)) : Prop := ∀ (i : Nat) (k : Typ), of[i]? = some (some k) → tagOf k = i ∧ wfT k
theorem putU_wf {of : List (Option Typ)} (h : ofW of) {k : Typ} (hk : wfT k) : ofW (putU of k).2 := by
  unfold putU
  split
  · exact h
  · rename_i h0
    split
    · intro i m hm
      simp only at hm
      rw [List.getElem?_set] at hm
      split at hm
      · rename_i e
        split at hm
        · simp only [Option.some.injEq] at hm
          subst hm
          exact ⟨by omega, hk⟩
        · cases hm
      · exact h i m hm
    · exact h
theorem putAll_wf : ∀ (l : List Typ) {of : List (Option Typ)}, ofW of → (∀ k, k ∈ l → wfT k) → ofW (putAll l of).2
  | [], of, h, _ => h
  | m :: l, of, h, hl => by
    rw [putAll]
    split
    · exact putAll_wf l (putU_wf h (hl m (by simp))) fun k hk => hl k (by simp [hk])
    · exact h
theorem filt_tags : ∀ (of : List (Option Typ)) (n : Nat), (∀ (i : Nat) (k : Typ), of[i]? = some (some k) → tagOf k = (n + i : Nat)) → ((of.filterMap id).map tagOf).Pairwise (· < ·) ∧ ∀ x, x ∈ of.filterMap id → (n : Int) ≤ tagOf x
  | [], n, _ => by simp
  | o :: of, n, h => by
    have ih := filt_tags of (n + 1) fun i k hk => by rw [h (i + 1) k (by simpa using hk)]; omega
    cases o with
    | none =>
      simp only [List.filterMap_cons, id]
      exact ⟨ih.1, fun x hx => by have := ih.2 x hx; omega⟩
    | some t =>
      have h0 := h 0 t (by simp)
      simp only [List.filterMap_cons, id]
      refine ⟨List.Pairwise.cons (fun y hy => ?_) ih.1, fun x hx => ?_⟩
      · obtain ⟨x, hx, rfl⟩ := List.mem_map.1 hy
        have := ih.2 x hx; omega
      · rcases List.mem_cons.1 hx with rfl | hx
        · omega
        · have := ih.2 x hx; omega
theorem mem_filt {of : List (Option Typ)} {x : Typ} (h : x ∈ of.filterMap id) : ∃ i : Nat, of[i]? = some (some x) := by
  rw [List.mem_filterMap] at h
  obtain ⟨o, ho, e⟩ := h
  simp only [id] at e
  subst e
  exact List.mem_iff_getElem?.1 ho
theorem union_wf (l : List Typ) (hl : ∀ x, x ∈ l → wfT x) (h : (unionP l).2 = true) : wfT (unionP l).1 := by
  have hm : ∀ m, m ∈ l.flatMap mems → wfT m := fun m hm => by
    obtain ⟨k, hk, hmk⟩ := List.mem_flatMap.1 hm
    have hw := hl k hk
    unfold mems at hmk
    split at hmk
    · exact ((wfT_iff k).1 hw).2.1 m hmk
    · rw [List.mem_singleton] at hmk; rw [hmk]; exact hw
  have h0 : ofW noU := fun i k hk => by
    exfalso
    unfold noU at hk
    match i, hk with
    | 0, q | 1, q | 2, q | 3, q | 4, q | 5, q => simp at q
    | i + 6, q => simp at q
  have hw := putAll_wf _ h0 hm
  unfold unionP at h ⊢
  generalize putAll (l.flatMap mems) noU = p at *
  obtain ⟨b, of⟩ := p
  cases b with
  | false => cases h
  | true =>
    simp only at h hw ⊢
    have ht := filt_tags of 0 fun i k hk => by rw [(hw i k hk).1]; omega
    have hmem : ∀ x, x ∈ of.filterMap id → wfT x := fun x hx => by
      obtain ⟨i, hi⟩ := mem_filt hx
      exact (hw i x hi).2
    generalize of.filterMap id = L at *
    rcases L with _ | ⟨t, _ | ⟨t', L⟩⟩
    · simp at h
    · exact hmem t (by simp)
    · simp only
      rw [wfT_iff]
      exact ⟨rfl, hmem, .inr (.inr (.inr ⟨rfl, rfl, by simp [Typ.kids], ht.1, fun x hx => by have := ht.2 x hx; omega⟩))⟩

/-! ### all -/
mutual
theorem wf_norm : ∀ t : Typ, (normP t).2 = true → wfT (normP t).1
  | .mk k n s l, h => by
    rw [normP] at h ⊢
    by_cases h5 : 5 ≤ k ∧ k ≤ 7
    · rw [if_pos h5] at h ⊢
      by_cases hs : (normsP l).2 = true
      · rw [if_pos hs] at h ⊢
        have ih := wf_norms l hs
        unfold finP at h ⊢
        by_cases k5 : k = 5
        · rw [if_pos k5] at h ⊢; exact rec_wf s _ ih h
        · by_cases k6 : k = 6
          · rw [if_neg k5, if_pos k6] at h ⊢
            rw [wfT_iff]
            exact ⟨rfl, ih, .inr (.inr (.inl ⟨rfl, rfl, by simp only [decide_eq_true_eq] at h; exact h⟩))⟩
          · rw [if_neg k5, if_neg k6] at h ⊢; exact union_wf _ ih h
      · rw [if_neg hs] at h; cases h
    · rw [if_neg h5] at h ⊢
      by_cases h0 : 0 ≤ k ∧ k ≤ 4
      · rw [if_pos h0]
        rw [wfT_iff]
        exact ⟨rfl, (fun x hx => by cases hx), .inl ⟨h0.1, h0.2, rfl, rfl⟩⟩
      · rw [if_neg h0] at h; cases h
theorem wf_norms : ∀ l : List Typ, (normsP l).2 = true → ∀ x, x ∈ (normsP l).1 → wfT x
  | [], _, x, hx => by rw [normsP] at hx; cases hx
  | t :: l, h, x, hx => by
    rw [normsP] at h hx
    by_cases ht : (normP t).2 = true
    · rw [if_pos ht] at h hx
      rcases List.mem_cons.1 hx with rfl | hx
      · exact wf_norm t ht
      · exact wf_norms l h x hx
    · rw [if_neg ht] at h; cases h
end
theorem nrm_good {t : Typ} (h : isN t = true) : wfT t ∧ fewT t := by
  unfold isN NormP at h
  split at h
  · simp at h
  · rename_i hs
    split at h
    · rename_i hn
      simp only [decide_true, Bool.true_and, sameT_iff] at h
      have := wf_norm t hn
      rw [h] at this
      exact ⟨this, few_tsz t (by omega)⟩
    · simp at h
end Go.Gr

/- coerce.Make; coerce.Labels of coercions with few labels. -/
set_option linter.unusedVariables false
set_option linter.unusedSimpArgs false
namespace Go.Gr
open Go.Abs Go.Proofs

def makeP (N : Nat) (a b : Typ) (lb : Int) : Coe := if lb = 0 ∨ lb = 1 ∨ isN a = false ∨ isN b = false then noC else cstN N a b lb
theorem Make_ok (N : Nat) (a b : Typ) (lb : Int) (hd : dpt a + dpt b ≤ N + 1) (l0 : 0 ≤ lb) (l1 : lb ≤ 9223372036854775807) :
    PCall Pg F.coerce_Make [.agg a.enc, .agg b.enc, .one (.int .i64 lb)] (.agg (makeP N a b lb).enc) := by
  refine w_coerce_Make (by simp) fun o c hN hp => ?_
  unfold mc_coerce_Make makeP
  by_cases e0 : lb = 0
  · rw [if_pos (.inl e0), noC_enc]
    simp [e0]
  by_cases e1 : lb = 1
  · rw [if_pos (.inr (.inl e1)), noC_enc]
    simp [e1]
  simp [e0, e1]
  refine callK.mk (normal_ok a) ?_
  cases ha : isN a with
  | false =>
    simp [noC_enc]
  | true =>
    simp
    refine callK.mk (normal_ok b) ?_
    cases hb : isN b with
    | false =>
      simp [noC_enc]
    | true =>
      simp
      refine callK.mk (cast_ok N a b lb (nrm_good ha) (nrm_good hb) hd l0 l1) ?_
      simp [e0, e1]

theorem nodup_sub {α : Type} [DecidableEq α] : ∀ {l k : List α}, l.Nodup → (∀ x, x ∈ l → x ∈ k) → l.length ≤ k.length
  | [], _, _, _ => by simp
  | x :: l, k, hn, h => by
    have hx := h x (by simp)
    have h1 := List.nodup_cons.1 hn
    have := nodup_sub (l := l) (k := k.erase x) h1.2 fun y hy => by
      have hne : y ≠ x := fun e => h1.1 (by rw [← e]; exact hy)
      exact (List.mem_erase_of_ne hne).2 (h y (by simp [hy]))
    rw [List.length_erase_of_mem hx] at this
    have hk : 0 < k.length := List.length_pos_of_mem hx
    simp only [List.length_cons]; omega
set_option maxRecDepth 20000 in
theorem LabelsD_ok (n : Nat) {d : Coe} (hi : inN n d) (sd : smC 536870912 d) (ks : List Int) (hk : ks.length ≤ 1073741824) (hl : ∀ x, x ∈ rawC d → x ∈ ks) : PCall Pg F.coerce_Labels [.agg d.enc] (.one (.sl false 1 (encI (labS (rawC d))))) := by
  refine w_coerce_Labels (by simp) fun o c hN hp => ?_
  unfold mc_coerce_Labels
  simp
  refine callKM.mk [0] (labels_ok n hi sd []) (by simp [mapL]) ?_
  simp
  have hnd := addL_nodup (r := rawC d) (l := []) (by simp)
  have hle : (addL [] (rawC d)).length ≤ 1073741824 := Nat.le_trans (nodup_sub hnd fun x hx => hl x (by simpa using addL_mem.1 hx)) hk
  have hnf := hnd.filter fun x => !decide (x = 0)
  have hlf := List.length_filter_le (fun x => !decide (x = 0)) (addL [] (rawC d))
  have hS : labS (rawC d) = sortI ((addL [] (rawC d)).filter fun x => !decide (x = 0)) := rfl
  rw [hS]
  rcases mapL_erase hnd with ⟨j, w, m1, m2⟩ | ⟨m1, m2⟩ <;> generalize (addL [] (rawC d)).filter (fun x => !decide (x = 0)) = L at *
  · simp [m1, m2]
    refine callKM.mk [0] (keysL_ok L) (by simp; exact fun a b h => mapL_lt h) ?_
    simp
    refine callKM.mk [0, 1] (sortedL_ok L hnf (by omega)) (by simp; exact fun a b h => mapL_lt h) ?_
    simp
  · simp [m1]
    rw [m2]
    refine callKM.mk [0] (keysL_ok L) (by simp; exact fun a b h => mapL_lt h) ?_
    simp
    refine callKM.mk [0, 1] (sortedL_ok L hnf (by omega)) (by simp; exact fun a b h => mapL_lt h) ?_
    simp
end Go.Gr
