/- Plain: sizes and labels of one coercion behind another one. -/
import Derived.Test.YtkgomampbengjaaGreatDoorLbr
import Derived.Test.YtkgomampbengjaaGreatDoorWg2
set_option linter.unusedVariables false
set_option linter.unusedSimpArgs false
namespace Go.Gr
open Go.Abs Go.Proofs

theorem sizCs_sum : ∀ l : List Coe, sizCs l = (l.map sizC).sum
  | [] => rfl
  | c :: l => by simp [sizCs, sizCs_sum l]
theorem sum_le {α : Type} {f g : α → Nat} : ∀ {l : List α}, (∀ x, x ∈ l → f x ≤ g x) → (l.map f).sum ≤ (l.map g).sum
  | [], _ => Nat.le_refl _
  | x :: l, h => by
    have h1 := h x (by simp)
    have h2 := sum_le (f := f) (g := g) (l := l) fun y hy => h y (by simp [hy])
    simp only [List.map_cons, List.sum_cons]; omega
theorem sum_filter {α : Type} (p : α → Bool) (f : α → Nat) : ∀ l : List α, ((l.filter p).map f).sum + ((l.filter fun x => !p x).map f).sum = (l.map f).sum
  | [] => rfl
  | x :: l => by
    have ih := sum_filter p f l
    cases q : p x <;> simp [q] <;> omega
theorem sum_filter_le {α : Type} (p : α → Bool) (f : α → Nat) (l : List α) : ((l.filter p).map f).sum ≤ (l.map f).sum := by
  have := sum_filter p f l; omega
theorem sum_add {α : Type} (f g : α → Nat) : ∀ l : List α, (l.map fun x => f x + g x).sum = (l.map f).sum + (l.map g).sum
  | [] => rfl
  | x :: l => by
    have ih := sum_add f g l
    simp only [List.map_cons, List.sum_cons, ih]; omega
theorem fields_at {c : Coe} (M : May c) : c.names.map (fieldC c) = c.fields := by
  refine List.ext_getElem (by simp [M.len]) fun i h1 h2 => ?_
  simp only [List.getElem_map]
  exact atN_get (by simpa using h1) h2 (ltB_nodup M.names)
theorem sortS_perm (l : List ByteArray) : (sortS l).Perm l := by
  unfold sortS
  have h1 := (List.mergeSort_perm (l.map fun s => s.data.toList) fun x y => decide (x ≤ y)).map fun x : List UInt8 => (⟨x.toArray⟩ : ByteArray)
  refine h1.trans ?_
  rw [List.map_map]
  have : ((fun x : List UInt8 => (⟨x.toArray⟩ : ByteArray)) ∘ fun s : ByteArray => s.data.toList) = id := by funext s; simp
  rw [this, List.map_id]

/-- what is in the fields of a coercion behind another one -/
theorem fs_sum {v : Coe → Coe → Coe} {a b : Coe} (Ma : May a) (Mb : May b) (hu : ∀ k, v (fieldC a k) idC = fieldC a k ∧ v idC (fieldC b k) = fieldC b k)
    (H : ∀ k, k ∈ a.names → k ∈ b.names → sizC (v (fieldC a k) (fieldC b k)) ≤ sizC (fieldC a k) + sizC (fieldC b k)) : sizCs ((fsC v a b).map (·.2)) ≤ sizCs a.fields + sizCs b.fields := by
  have key : ∀ k, k ∈ keysU a b → sizC (v (fieldC a k) (fieldC b k)) ≤ (if k ∈ a.names then sizC (fieldC a k) else 0) + (if k ∈ b.names then sizC (fieldC b k) else 0) := fun k hk => by
    by_cases h1 : k ∈ a.names
    · by_cases h2 : k ∈ b.names
      · rw [if_pos h1, if_pos h2]; exact H k h1 h2
      · rw [if_pos h1, if_neg h2]
        have e : fieldC b k = idC := atN_not h2
        rw [e, (hu k).1]; exact Nat.le_refl _
    · have h2 : k ∈ b.names := (keysU_mem.1 hk).resolve_left h1
      rw [if_neg h1, if_pos h2]
      have e : fieldC a k = idC := atN_not h1
      rw [e, (hu k).2]; omega
  have e0 : sizCs ((fsC v a b).map (·.2)) ≤ ((keysU a b).map fun k => sizC (v (fieldC a k) (fieldC b k))).sum := by
    rw [sizCs_sum]
    unfold fsC busy
    rw [List.map_map]
    refine Nat.le_trans (sum_filter_le _ _ _) ?_
    rw [List.map_map]
    exact Nat.le_refl _
  refine Nat.le_trans e0 (Nat.le_trans (sum_le key) ?_)
  have hp : (keysU a b).Perm (a.names ++ b.names.filter fun k => !decide (k ∈ a.names)) := sortS_perm _
  rw [(hp.map _).sum_nat, List.map_append, List.sum_append_nat]
  have na := ltB_nodup Ma.names
  have nb := ltB_nodup Mb.names
  have p1 : (a.names.filter fun k => decide (k ∈ b.names)).Perm (b.names.filter fun k => decide (k ∈ a.names)) := by
    refine (List.perm_ext_iff_of_nodup (na.filter _) (nb.filter _)).2 fun x => ?_
    simp only [List.mem_filter, decide_eq_true_eq]
    exact And.comm
  have s1 := sum_filter (fun k => decide (k ∈ a.names)) (fun k => sizC (fieldC b k)) b.names
  have s2 : (a.names.map fun k => (if k ∈ a.names then sizC (fieldC a k) else 0) + (if k ∈ b.names then sizC (fieldC b k) else 0)).sum = (a.names.map fun k => sizC (fieldC a k)).sum + ((a.names.filter fun k => decide (k ∈ b.names)).map fun k => sizC (fieldC b k)).sum := by
    rw [sum_add]
    congr 1
    · congr 1
      refine List.map_congr_left fun k hk => ?_
      rw [if_pos hk]
    · generalize a.names = l
      induction l with
      | nil => rfl
      | cons x l ih => by_cases q : x ∈ b.names <;> simp [q, ih]
  have s3 : ((b.names.filter fun k => !decide (k ∈ a.names)).map fun k => (if k ∈ a.names then sizC (fieldC a k) else 0) + (if k ∈ b.names then sizC (fieldC b k) else 0)).sum = ((b.names.filter fun k => !decide (k ∈ a.names)).map fun k => sizC (fieldC b k)).sum := by
    congr 1
    refine List.map_congr_left fun k hk => ?_
    simp only [List.mem_filter, Bool.not_eq_true', decide_eq_false_iff_not] at hk
    rw [if_neg hk.2, if_pos hk.1]; omega
  have s4 : (a.names.map fun k => sizC (fieldC a k)).sum = sizCs a.fields := by
    rw [sizCs_sum, ← fields_at Ma, List.map_map]; rfl
  have s5 : (b.names.map fun k => sizC (fieldC b k)).sum = sizCs b.fields := by
    rw [sizCs_sum]; conv => rhs; rw [← fields_at Mb, List.map_map]
    rfl
  rw [s2, s3, s4, (p1.map _).sum_nat]
  omega

theorem siz_pos (c : Coe) : 1 ≤ sizC c := by rw [sizC_eq]; omega
theorem May.fields_in {n : Nat} {c : Coe} (M : May c) (k : ByteArray) : mayC (fieldC c k) = true := M.field k
theorem pair_siz {c : Coe} (M : May c) : (c.fn = [] ∧ pairC c = (idC, idC)) ∨ (∃ x y, c.fn = [x, y] ∧ pairC c = (x, y)) := by
  rcases M.fn with e | ⟨f, g, e, _⟩
  · exact .inl ⟨e, by unfold pairC; rw [e]⟩
  · exact .inr ⟨f, g, e, by unfold pairC; rw [e]⟩
theorem fun_siz (f g : Coe) : sizCs (funC f g) ≤ sizC f + sizC g := by
  unfold funC
  split
  · simp [sizCs]
  · simp [sizCs]
theorem comp_siz : ∀ (n : Nat) {a b : Coe}, inN n a → inN n b → mayC a = true → mayC b = true → sizC (compN n a b) + 1 ≤ sizC a + sizC b
  | 0, a, b, _, _, _, _ => by
    have h1 := siz_pos a
    have h2 := siz_pos b
    have : sizC (compN 0 a b) = 1 := by rfl
    omega
  | n + 1, a, b, ia, ib, ma, mb => by
    have Ma := (mayC_iff _).1 ma
    have Mb := (mayC_iff _).1 mb
    have hf := fs_sum (v := compN n) Ma Mb (fun k => ⟨(comp_unit n _ (inN_field ia Ma.len k) (Ma.field k)).1, (comp_unit n _ (inN_field ib Mb.len k) (Mb.field k)).2⟩) fun k _ _ => by
      have := comp_siz n (inN_field ia Ma.len k) (inN_field ib Mb.len k) (Ma.field k) (Mb.field k)
      omega
    have hg : sizCs (funC (compN n (pairC b).1 (pairC a).1) (compN n (pairC a).2 (pairC b).2)) ≤ sizCs a.fn + sizCs b.fn := by
      rcases pair_siz Ma with ⟨ea, pa⟩ | ⟨x, y, ea, pa⟩ <;> rcases pair_siz Mb with ⟨eb, pb⟩ | ⟨x', y', eb, pb⟩
      · rw [pa, pb]
        simp only [comp_id]
        unfold funC
        simp [sameC_rfl, sizCs]
      · have hb := inN_pair ib
        have hm := Mb.pair
        rw [pb] at hb hm
        rw [pa, pb]
        simp only
        rw [(comp_unit n _ hb.1 hm.1).1, (comp_unit n _ hb.2 hm.2).2]
        have := fun_siz x' y'
        rw [ea, eb]; simp [sizCs]; omega
      · have hb := inN_pair ia
        have hm := Ma.pair
        rw [pa] at hb hm
        rw [pa, pb]
        simp only
        rw [(comp_unit n _ hb.1 hm.1).2, (comp_unit n _ hb.2 hm.2).1]
        have := fun_siz x y
        rw [ea, eb]; simp [sizCs]; omega
      · have h1 := comp_siz n (inN_pair ib).1 (inN_pair ia).1 Mb.pair.1 Ma.pair.1
        have h2 := comp_siz n (inN_pair ia).2 (inN_pair ib).2 Ma.pair.2 Mb.pair.2
        rw [pa, pb] at h1 h2 ⊢
        have := fun_siz (compN n x' x) (compN n y y')
        rw [ea, eb]; simp [sizCs] at h1 h2 ⊢; omega
    rw [compN_succ, sizC_eq, sizC_eq a, sizC_eq b, sizCs_app, sizCs_app, sizCs_app]
    have e1 : sizCs (nodeC (compN n) a b).fields ≤ sizCs ((fsC (compN n) a b).map (·.2)) := by
      have : (nodeC (compN n) a b).fields = if tagZ (nodeC (compN n) a b) 4 = 0 then (fsC (compN n) a b).map (·.2) else [] := rfl
      rw [this]; split
      · exact Nat.le_refl _
      · simp [sizCs]
    have e2 : sizCs (nodeC (compN n) a b).fn ≤ sizCs (funC (compN n (pairC b).1 (pairC a).1) (compN n (pairC a).2 (pairC b).2)) := by
      have : (nodeC (compN n) a b).fn = if tagZ (nodeC (compN n) a b) 5 = 0 then funC (compN n (pairC b).1 (pairC a).1) (compN n (pairC a).2 (pairC b).2) else [] := rfl
      rw [this]; split
      · exact Nat.le_refl _
      · simp [sizCs]
    omega

/-! ### labels -/
theorem raw_id {x : Int} (h : x ∈ rawC idC) : x = 0 := by
  have : rawC idC = [0, 0, 0, 0, 0, 0] := rfl
  rw [this] at h; simp at h; exact h
theorem raw_field {c : Coe} (M : May c) {k : ByteArray} {x : Int} (h0 : x ≠ 0) (h : x ∈ rawC (fieldC c k)) : x ∈ rawC c := by
  unfold fieldC at h
  by_cases q : k ∈ c.names
  · have hm := atN_mem M.len q
    rw [rawC_eq, rawCs_app]
    simp only [List.mem_append]
    exact .inr (.inl (rawCs_mem.2 ⟨_, hm, h⟩))
  · rw [atN_not q] at h; exact absurd (raw_id h) h0
theorem raw_pair {c : Coe} (M : May c) {x : Int} (h0 : x ≠ 0) (h : x ∈ rawC (pairC c).1 ∨ x ∈ rawC (pairC c).2) : x ∈ rawC c := by
  rcases pair_siz M with ⟨e, p⟩ | ⟨f, g, e, p⟩ <;> rw [p] at h
  · rcases h with h | h <;> exact absurd (raw_id h) h0
  · rw [rawC_eq, rawCs_app]
    simp only [List.mem_append]
    refine .inr (.inr (rawCs_mem.2 ?_))
    rw [e]
    rcases h with h | h
    · exact ⟨f, by simp, h⟩
    · exact ⟨g, by simp, h⟩
theorem comp_raw : ∀ (n : Nat) {a b : Coe}, mayC a = true → mayC b = true → ∀ {x : Int}, x ≠ 0 → x ∈ rawC (compN n a b) → x ∈ rawC a ∨ x ∈ rawC b
  | 0, _, _, _, _, x, h0, h => absurd (raw_id h) h0
  | n + 1, a, b, ma, mb, x, h0, h => by
    have Ma := (mayC_iff _).1 ma
    have Mb := (mayC_iff _).1 mb
    have ia : ∀ {c : Coe}, x ∈ c.tags → x ∈ rawC c := fun h => by rw [rawC_eq]; simp [h]
    have iN : ∀ {c : Coe}, x ∈ c.needs.map (·.2) → x ∈ rawC c := fun h => by rw [rawC_eq]; simp only [List.mem_append]; exact .inl (.inr h)
    rw [compN_succ, rawC_eq, rawCs_app] at h
    simp only [List.mem_append] at h
    rcases h with (h | h) | h | h
    · have ht : x ∈ tagsC a.tags b.tags := h
      obtain ⟨i, hi, e⟩ := List.getElem_of_mem ht
      have hL := tagsC_len Ma.tags Mb.tags
      have hia : i < a.tags.length := by have := Ma.tags; omega
      have hib : i < b.tags.length := by have := Mb.tags; omega
      have hval : (tagsC a.tags b.tags)[i] = if a.tags[i] = 0 then b.tags[i] else a.tags[i] := by simp [tagsC]
      rw [hval] at e
      split at e
      · exact .inr (ia (e ▸ List.getElem_mem hib))
      · exact .inl (ia (e ▸ List.getElem_mem hia))
    · have ht : x ∈ (needC a b).map (·.2) := h
      obtain ⟨y, hy, rfl⟩ := List.mem_map.1 ht
      unfold needC at hy
      split at hy
      · unfold needsC at hy
        rcases List.mem_append.1 hy with q | q
        · exact .inl (iN (List.mem_map.2 ⟨y, q, rfl⟩))
        · exact .inr (iN (List.mem_map.2 ⟨y, (List.mem_filter.1 q).1, rfl⟩))
      · exact .inl (iN (List.mem_map.2 ⟨y, hy, rfl⟩))
    · have ht : x ∈ rawCs (if tagZ (nodeC (compN n) a b) 4 = 0 then (fsC (compN n) a b).map (·.2) else []) := h
      split at ht
      · obtain ⟨c, hc, hx⟩ := rawCs_mem.1 ht
        unfold fsC busy at hc
        simp only [List.mem_map, List.mem_filter] at hc
        obtain ⟨y, ⟨⟨k, _, rfl⟩, _⟩, rfl⟩ := hc
        rcases comp_raw n (Ma.field k) (Mb.field k) h0 hx with q | q
        · exact .inl (raw_field Ma h0 q)
        · exact .inr (raw_field Mb h0 q)
      · cases ht
    · have ht : x ∈ rawCs (if tagZ (nodeC (compN n) a b) 5 = 0 then funC (compN n (pairC b).1 (pairC a).1) (compN n (pairC a).2 (pairC b).2) else []) := h
      split at ht
      · unfold funC at ht
        split at ht
        · cases ht
        · simp only [rawCs, List.append_nil, List.mem_append] at ht
          rcases ht with ht | ht
          · rcases comp_raw n Mb.pair.1 Ma.pair.1 h0 ht with q | q
            · exact .inr (raw_pair Mb h0 (.inl q))
            · exact .inl (raw_pair Ma h0 (.inl q))
          · rcases comp_raw n Ma.pair.2 Mb.pair.2 h0 ht with q | q
            · exact .inl (raw_pair Ma h0 (.inr q))
            · exact .inr (raw_pair Mb h0 (.inr q))
      · cases ht

/-- how many labels, at most -/
theorem raw_len {B : Nat} : ∀ (n : Nat) {c : Coe}, inN n c → mayC c = true → smC B c → (rawC c).length ≤ (6 + B) * sizC c
  | 0, c, ic, _, _ => by
    have : c = idC := ic
    subst this
    have : (rawC idC).length = 6 := rfl
    have h2 : sizC idC = 1 := rfl
    rw [this, h2]; omega
  | n + 1, c, ic, mc, sc => by
    have M := (mayC_iff _).1 mc
    have s := (smC_iff _ _).1 sc
    have key : ∀ l : List Coe, (∀ x, x ∈ l → (rawC x).length ≤ (6 + B) * sizC x) → (rawCs l).length ≤ (6 + B) * sizCs l := fun l => by
      induction l with
      | nil => intro _; simp [rawCs]
      | cons x l ih =>
        intro h
        have h1 := h x (by simp)
        have h2 := ih fun y hy => h y (by simp [hy])
        simp only [rawCs, sizCs, List.length_append, Nat.mul_add]; omega
    have hfn : ∀ x, x ∈ c.fn → mayC x = true := fun x hx => by
      rcases M.fn with e | ⟨f, g, e, hf, hg, _⟩
      · rw [e] at hx; cases hx
      · rw [e] at hx
        simp only [List.mem_cons, List.not_mem_nil, or_false] at hx
        rcases hx with rfl | rfl
        · exact hf
        · exact hg
    have k1 := key (c.fields ++ c.fn) fun x hx => by
      rcases List.mem_append.1 hx with h | h
      · exact raw_len n (ic.1 x h) (M.fields x h).1 (s.2.2.2.1 x h)
      · exact raw_len n (ic.2 x h) (hfn x h) (s.2.2.2.2 x h)
    rw [rawC_eq, sizC_eq]
    have h6 := M.tags
    simp only [List.length_append, List.length_map, Nat.mul_add]
    omega
mutual
theorem wgt_raw : ∀ (d : Coe) (m : Int), 0 < wgt d m → m ≤ 1000 → (rawC d).length + 200 * wgt d m ≤ 200 * m
  | .mk t n s f g, m, h, hm => by
    rw [wgt] at h ⊢
    split at h
    · omega
    · rename_i q
      rw [if_neg q]
      have q' : n.length ≤ 100 ∧ t.length ≤ 100 ∧ (f.length : Int) ≤ m ∧ (g.length : Int) ≤ m := by omega
      have hw : IntKind.i64.wrap (m - 1) = m - 1 := wrap_i64 (by omega) (by omega)
      rw [hw] at h ⊢
      have g1 := wgts_raw g _ h (by
        have := wgts_le f (m - 1) (by omega)
        omega)
      have hf : 0 < wgts f (m - 1) := by
        rcases Int.lt_or_le 0 (wgts f (m - 1)) with q | q
        · exact q
        · rw [wgts_stop q] at h; omega
      have f1 := wgts_raw f _ hf (by omega)
      simp only [rawC, List.length_append, List.length_map]
      omega
theorem wgts_raw : ∀ (l : List Coe) (m : Int), 0 < wgts l m → m ≤ 1000 → (rawCs l).length + 200 * wgts l m ≤ 200 * m
  | [], m, h, hm => by simp [wgts, rawCs]
  | d :: ds, m, h, hm => by
    rw [wgts] at h ⊢
    split at h
    · rename_i q
      rw [if_pos q]
      have hd : 0 < wgt d m := by
        rcases Int.lt_or_le 0 (wgt d m) with q | q
        · exact q
        · rw [wgts_stop q] at h; omega
      have d1 := wgt_raw d m hd hm
      have d2 := wgt_le d m hm
      have l1 := wgts_raw ds _ h (by omega)
      simp only [rawCs, List.length_append]; omega
    · omega
end
theorem raw_small {d : Coe} {m : Int} (h1 : 1 ≤ m) (hm : m ≤ 1000) (h : ¬ wgt d m = 0) : (rawC d).length ≤ 200000 := by
  have h2 := wgt_nn d m h1 hm
  have := wgt_raw d m (by omega) hm
  omega
end Go.Gr
