import Derived.Test.YtkgomampbengjaaGreatDoorCoS
/- Plain: names in order; coercions that are the same are one; what a normal one is. -/
set_option linter.unusedVariables false
set_option linter.unusedSimpArgs false
namespace Go.Gr
open Go.Abs

/-! ### texts in order -/
def ltB (a b : ByteArray) : Prop := a.data.toList < b.data.toList
instance ltBDec (a b : ByteArray) : Decidable (ltB a b) := inferInstanceAs (Decidable (a.data.toList < b.data.toList))
theorem bytes_less : ∀ (x y : List UInt8), Op.bytesLess x y = decide (x < y)
  | [], [] => by simp [Op.bytesLess]
  | _ :: _, [] => by simp [Op.bytesLess]
  | [], _ :: _ => by simp [Op.bytesLess]
  | a :: x, b :: y => by
    rw [Op.bytesLess, bytes_less x y]
    by_cases h1 : a < b
    · simp [h1, List.cons_lt_cons_iff]
    · by_cases h2 : b < a
      · have : ¬ a = b := fun e => by rw [e] at h2; exact UInt8.lt_irrefl _ h2
        simp [h1, h2, this, List.cons_lt_cons_iff]
      · have : a = b := UInt8.le_antisymm (UInt8.not_lt.1 h2) (UInt8.not_lt.1 h1)
        simp [this, List.cons_lt_cons_iff, UInt8.lt_irrefl]
theorem ltB_irrefl (a : ByteArray) : ¬ ltB a a := List.lt_irrefl _
theorem ltB_trans {a b c : ByteArray} (h : ltB a b) (k : ltB b c) : ltB a c := List.lt_trans h k
theorem ltB_total {a b : ByteArray} (h : a ≠ b) : ltB a b ∨ ltB b a := by
  by_cases h1 : ltB a b
  · exact .inl h1
  · by_cases h2 : ltB b a
    · exact .inr h2
    · have : a.data.toList = b.data.toList := List.le_antisymm h2 h1
      exact absurd (Go.WideShapes.bytes_inj this) h
theorem leS_lt (a b : ByteArray) : (!leS b a) = decide (ltB a b) := by
  unfold leS ltB
  rw [bytes_less]
  by_cases h : a = b
  · subst h; simp [List.lt_irrefl]
  · have h' : ¬ b = a := fun e => h e.symm
    rcases ltB_total h with q | q
    · have : ¬ ltB b a := fun e => ltB_irrefl _ (ltB_trans q e)
      unfold ltB at q this
      simp [h', q, this]
    · have : ¬ ltB a b := fun e => ltB_irrefl _ (ltB_trans q e)
      unfold ltB at q this
      simp [h', q, this]
theorem risesB_iff : ∀ {l : List ByteArray}, risesB l = true ↔ l.Pairwise ltB
  | [] => by simp [risesB]
  | [a] => by simp [risesB]
  | a :: b :: l => by
    rw [risesB, leS_lt, Bool.and_eq_true, decide_eq_true_eq, risesB_iff (l := b :: l)]
    constructor
    · rintro ⟨h1, h2⟩
      refine List.Pairwise.cons (fun c hc => ?_) h2
      cases List.mem_cons.1 hc with
      | inl e => rw [e]; exact h1
      | inr e => exact ltB_trans h1 (List.rel_of_pairwise_cons h2 e)
    · intro h
      exact ⟨List.rel_of_pairwise_cons h (by simp), h.of_cons⟩
theorem ltB_nodup {l : List ByteArray} (h : l.Pairwise ltB) : l.Nodup := h.imp fun h e => by rw [e] at h; exact ltB_irrefl _ h
/-- two rows in order with the same members are one -/
theorem rises_ext {l k : List ByteArray} (h1 : l.Pairwise ltB) (h2 : k.Pairwise ltB) (h : ∀ x, x ∈ l ↔ x ∈ k) : l = k :=
  List.Perm.eq_of_pairwise (le := ltB) (fun a b _ _ p q => absurd (ltB_trans p q) (ltB_irrefl _)) h1 h2 ((List.perm_ext_iff_of_nodup (ltB_nodup h1) (ltB_nodup h2)).2 h)

theorem sortS_rises {l : List ByteArray} (hn : l.Nodup) : (sortS l).Pairwise ltB := by
  have tr : ∀ a b c : List UInt8, decide (a ≤ b) = true → decide (b ≤ c) = true → decide (a ≤ c) = true := fun a b c h1 h2 => by simp only [decide_eq_true_eq] at *; exact List.le_trans h1 h2
  have to : ∀ a b : List UInt8, (decide (a ≤ b) || decide (b ≤ a)) = true := fun a b => by simp only [Bool.or_eq_true, decide_eq_true_eq]; exact List.le_total a b
  have h1 := List.pairwise_mergeSort tr to (l.map fun s => s.data.toList)
  have h2 : ((l.map fun s => s.data.toList).mergeSort fun x y => decide (x ≤ y)).Nodup := by
    refine (List.mergeSort_perm _ _).nodup_iff.2 ?_
    refine List.pairwise_map.2 (hn.imp fun h e => h (Go.WideShapes.bytes_inj e))
  unfold sortS
  rw [List.pairwise_map]
  refine (h1.and h2).imp fun {a b} ⟨p, q⟩ => ?_
  simp only [decide_eq_true_eq] at p
  unfold ltB
  simp only
  rcases ltB_total (a := ⟨a.toArray⟩) (b := ⟨b.toArray⟩) (fun e => q (by simpa using congrArg (fun x : ByteArray => x.data.toList) e)) with r | r
  · exact r
  · exact absurd r p

/-! ### coercions -/
mutual
theorem sameC_iff : ∀ (a b : Coe), sameC a b = true ↔ a = b
  | .mk t n s f g, .mk t' n' s' f' g' => by
    simp only [sameC, Bool.and_eq_true, decide_eq_true_eq, Coe.mk.injEq]
    rw [sameCs_iff f f', sameCs_iff g g']
theorem sameCs_iff : ∀ (a b : List Coe), sameCs a b = true ↔ a = b
  | [], [] => by simp [sameCs]
  | [], _ :: _ => by simp [sameCs]
  | _ :: _, [] => by simp [sameCs]
  | a :: l, b :: k => by
    simp only [sameCs, Bool.and_eq_true, List.cons.injEq]
    rw [sameC_iff a b, sameCs_iff l k]
end
theorem sameC_no {a b : Coe} : sameC a b = false ↔ a ≠ b := by
  rw [← Bool.not_eq_true, sameC_iff]
theorem sameC_rfl (a : Coe) : sameC a a = true := (sameC_iff a a).2 rfl

theorem needsOk_eq (l : List (ByteArray × Int)) : needsOk [] l = true ↔ (∀ x, x ∈ l → x.2 ≠ 0) ∧ (l.map (·.1)).Nodup := by
  have key : ∀ (l : List (ByteArray × Int)) (seen : List ByteArray), needsOk seen l = true ↔ (∀ x, x ∈ l → x.2 ≠ 0 ∧ x.1 ∉ seen) ∧ (l.map (·.1)).Nodup := by
    intro l
    induction l with
    | nil => intro seen; simp [needsOk]
    | cons x l ih =>
      intro seen
      have hm : (!(seen.any fun y => decide (y = x.1))) = true ↔ x.1 ∉ seen := by
        simp
        exact ⟨fun h hx => h _ hx rfl, fun h y hy e => h (e ▸ hy)⟩
      simp only [needsOk, Bool.and_eq_true, decide_eq_true_eq]
      rw [ih, hm]
      simp only [List.map_cons, List.nodup_cons, List.mem_cons, not_or]
      constructor
      · rintro ⟨h1, h2, h3, h4⟩
        refine ⟨fun y hy => ?_, fun h => ?_, h4⟩
        · rcases hy with rfl | hy
          · exact ⟨h1, h2⟩
          · exact ⟨(h3 y hy).1, (h3 y hy).2.2⟩
        · obtain ⟨y, hy, e⟩ := List.mem_map.1 h
          exact (h3 y hy).2.1 e
      · rintro ⟨h1, h2, h3⟩
        refine ⟨(h1 x (.inl rfl)).1, (h1 x (.inl rfl)).2, fun y hy => ⟨(h1 y (.inr hy)).1, fun e => h2 ?_, (h1 y (.inr hy)).2⟩, h3⟩
        exact List.mem_map.2 ⟨y, hy, e⟩
  rw [key]
  simp

theorem Coe.ext' {a b : Coe} (h1 : a.tags = b.tags) (h2 : a.needs = b.needs) (h3 : a.names = b.names) (h4 : a.fields = b.fields) (h5 : a.fn = b.fn) : a = b := by
  cases a; cases b
  simp only [Coe.tags, Coe.needs, Coe.names, Coe.fields, Coe.fn] at *
  subst h1 h2 h3 h4 h5
  rfl

/-- a normal coercion -/
structure May (d : Coe) : Prop where
  tags : d.tags.length = 6
  len : d.names.length = d.fields.length
  fn : d.fn = [] ∨ ∃ f g, d.fn = [f, g] ∧ mayC f = true ∧ mayC g = true ∧ ¬ (f = idC ∧ g = idC)
  t4 : tagZ d 4 ≠ 0 → d.names = []
  t5 : tagZ d 5 ≠ 0 → d.fn = []
  needs : (∀ x, x ∈ d.needs → x.2 ≠ 0) ∧ (d.needs.map (·.1)).Nodup
  names : d.names.Pairwise ltB
  fields : ∀ x, x ∈ d.fields → mayC x = true ∧ x ≠ idC
theorem mayC_iff (d : Coe) : mayC d = true ↔ May d := by
  rw [mayC_eq]
  unfold ownC
  simp only [Bool.and_eq_true, decide_eq_true_eq]
  rw [needsOk_eq, risesB_iff, List.all_eq_true]
  constructor
  · rintro ⟨⟨⟨h1, h2, h3⟩, h4, h5, h6⟩, h7, h8⟩
    refine ⟨h1, h2, ?_, fun h => ?_, fun h => ?_, h5, h6, fun x hx => ?_⟩
    · rcases h3 with h3 | h3
      · exact .inl (List.length_eq_zero_iff.1 h3)
      · obtain ⟨x, y, hxy⟩ : ∃ x y, d.fn = [x, y] := by
          match d.fn, h3 with
          | [x, y], _ => exact ⟨x, y, rfl⟩
        rw [hxy, mayGs] at h8
        simp only [Bool.and_eq_true, Bool.not_eq_true', Bool.and_eq_false_iff, sameC_no] at h8
        exact .inr ⟨x, y, hxy, h8.1, h8.2.1, fun ⟨e1, e2⟩ => h8.2.2.elim (fun q => q e1) (fun q => q e2)⟩
    · refine List.length_eq_zero_iff.1 ?_
      omega
    · refine List.length_eq_zero_iff.1 ?_
      omega
    · have := h7 x hx
      simp only [Bool.and_eq_true, Bool.not_eq_true', sameC_no] at this
      exact this
  · rintro ⟨h1, h2, h3, h4, h5, h6, h7, h8⟩
    refine ⟨⟨⟨h1, h2, ?_⟩, ?_, h6, h7⟩, fun x hx => ?_, ?_⟩
    · rcases h3 with h3 | ⟨f, g, h3, _⟩ <;> rw [h3] <;> simp
    · rintro (⟨q, r⟩ | ⟨q, r⟩)
      · rw [h4 q] at r; simp at r
      · rw [h5 q] at r; simp at r
    · simp only [Bool.and_eq_true, Bool.not_eq_true', sameC_no]
      exact h8 x hx
    · rcases h3 with h3 | ⟨f, g, h3, q1, q2, q3⟩
      · rw [h3]; rfl
      · rw [h3, mayGs]
        simp only [Bool.and_eq_true, Bool.not_eq_true', Bool.and_eq_false_iff, sameC_no]
        refine ⟨q1, q2, ?_⟩
        by_cases e : f = idC
        · exact .inr fun e' => q3 ⟨e, e'⟩
        · exact .inl e
end Go.Gr

/- Plain: one coercion behind another one. -/
set_option linter.unusedVariables false
set_option linter.unusedSimpArgs false
namespace Go.Gr
open Go.Abs

instance memBDec (k : ByteArray) (l : List ByteArray) : Decidable (k ∈ l) := decidable_of_iff (l.any (fun x => decide (x = k)) = true) (by simp)

/-! ### parts of a coercion -/
def atN : List ByteArray → List Coe → ByteArray → Coe
  | n :: ns, f :: fs, k => if k = n then f else atN ns fs k
  | _, _, _ => idC
/-- what is done to a field -/
def fieldC (c : Coe) (k : ByteArray) : Coe := atN c.names c.fields k

theorem atN_not : ∀ {ns : List ByteArray} {fs : List Coe} {k : ByteArray}, k ∉ ns → atN ns fs k = idC
  | [], fs, k, h => by simp [atN]
  | n :: ns, [], k, h => by simp [atN]
  | n :: ns, f :: fs, k, h => by
    simp only [List.mem_cons, not_or] at h
    rw [atN, if_neg h.1, atN_not h.2]
theorem atN_mem : ∀ {ns : List ByteArray} {fs : List Coe} {k : ByteArray}, ns.length = fs.length → k ∈ ns → atN ns fs k ∈ fs
  | n :: ns, f :: fs, k, e, h => by
    rw [atN]
    split
    · simp
    · rename_i q
      have := atN_mem (ns := ns) (fs := fs) (k := k) (by simpa using e) ((List.mem_cons.1 h).resolve_left q)
      simp [this]
  | _ :: _, [], _, e, _ => by simp at e
theorem atN_get : ∀ {ns : List ByteArray} {fs : List Coe} {j : Nat} (h : j < ns.length) (h' : j < fs.length), ns.Nodup → atN ns fs ns[j] = fs[j]
  | n :: ns, f :: fs, 0, _, _, _ => by simp [atN]
  | n :: ns, f :: fs, j + 1, h, h', hn => by
    simp only [List.nodup_cons] at hn
    simp only [List.getElem_cons_succ]
    have hj : j < ns.length := by simpa using h
    have hne : ¬ ns[j] = n := fun e => hn.1 (e ▸ List.getElem_mem hj)
    rw [atN, if_neg hne]
    exact atN_get _ _ hn.2
theorem atN_ext : ∀ {ns : List ByteArray} {fs gs : List Coe}, ns.length = fs.length → ns.length = gs.length → ns.Nodup → (∀ k, atN ns fs k = atN ns gs k) → fs = gs
  | [], [], [], _, _, _, _ => rfl
  | n :: ns, f :: fs, g :: gs, h1, h2, hn, h => by
    have h0 := h n
    simp only [List.nodup_cons] at hn
    simp only [atN, if_true] at h0
    rw [h0, atN_ext (ns := ns) (fs := fs) (gs := gs) (by simpa using h1) (by simpa using h2) hn.2 fun k => by
      by_cases q : k = n
      · rw [q, atN_not hn.1, atN_not hn.1]
      · have := h k
        simpa only [atN, if_neg q] using this]
  | [], f :: fs, _, h1, _, _, _ => by simp at h1
  | [], [], g :: gs, _, h2, _, _ => by simp at h2
  | n :: ns, [], _, h1, _, _, _ => by simp at h1
  | n :: ns, f :: fs, [], _, h2, _, _ => by simp at h2

theorem may_id : mayC idC = true := by decide
theorem May.idC : May idC := (mayC_iff _).1 may_id
theorem May.field {c : Coe} (h : May c) (k : ByteArray) : mayC (fieldC c k) = true := by
  unfold fieldC
  by_cases q : k ∈ c.names
  · exact (h.fields _ (atN_mem h.len q)).1
  · rw [atN_not q]; exact may_id
theorem May.field_ne {c : Coe} (h : May c) {k : ByteArray} : fieldC c k ≠ Go.Gr.idC ↔ k ∈ c.names := by
  unfold fieldC
  constructor
  · intro q
    exact Decidable.byContradiction fun e => q (atN_not e)
  · intro q
    exact (h.fields _ (atN_mem h.len q)).2
theorem May.pair {c : Coe} (h : May c) : mayC (pairC c).1 = true ∧ mayC (pairC c).2 = true := by
  unfold pairC
  rcases h.fn with e | ⟨f, g, e, h1, h2, _⟩ <;> rw [e]
  · exact ⟨may_id, may_id⟩
  · exact ⟨h1, h2⟩
theorem May.pair_fn {c : Coe} (h : May c) : c.fn = funC (pairC c).1 (pairC c).2 := by
  unfold pairC funC
  rcases h.fn with e | ⟨f, g, e, h1, h2, h3⟩ <;> rw [e]
  · simp [sameC_rfl]
  · rw [if_neg]
    simp only [Bool.and_eq_true, sameC_iff]
    exact h3
theorem pair_funC {c : Coe} {f g : Coe} (h : c.fn = funC f g) : pairC c = (f, g) := by
  unfold pairC
  rw [h]
  unfold funC
  split
  · rename_i x y l e
    split at e
    · cases e
    · cases e; rfl
  · rename_i e
    split at e
    · rename_i q
      simp only [Bool.and_eq_true, sameC_iff] at q
      rw [q.1, q.2]
    · exact absurd rfl (e _ _ _)

/-- normal ones are what they do -/
theorem May.ext {a b : Coe} (ha : May a) (hb : May b) (h1 : a.tags = b.tags) (h2 : a.needs = b.needs) (h3 : ∀ k, fieldC a k = fieldC b k) (h4 : pairC a = pairC b) : a = b := by
  have hn : a.names = b.names := rises_ext ha.names hb.names fun k => by
    rw [← ha.field_ne, ← hb.field_ne, h3]
  refine Coe.ext' h1 h2 hn ?_ ?_
  · refine atN_ext ha.len (by rw [hn]; exact hb.len) (ltB_nodup ha.names) fun k => ?_
    have := h3 k
    unfold fieldC at this
    rw [this, hn]
  · rw [ha.pair_fn, hb.pair_fn, h4]

/-! ### composed -/
def tagsC (a b : List Int) : List Int := List.zipWith (fun x y => if x = 0 then y else x) a b
def needC (a b : Coe) : List (ByteArray × Int) := if tagZ a 4 = 0 then needsC a.needs b.needs else a.needs
def keysU (a b : Coe) : List ByteArray := sortS (a.names ++ b.names.filter fun k => !decide (k ∈ a.names))
def busy (l : List (ByteArray × Coe)) : List (ByteArray × Coe) := l.filter fun x => !sameC x.2 idC
def fsC (v : Coe → Coe → Coe) (a b : Coe) : List (ByteArray × Coe) := busy ((keysU a b).map fun k => (k, v (fieldC a k) (fieldC b k)))
def nodeC (v : Coe → Coe → Coe) (a b : Coe) : Coe :=
  .mk (tagsC a.tags b.tags) (needC a b) (if (tagsC a.tags b.tags).getD 4 0 = 0 then (fsC v a b).map (·.1) else []) (if (tagsC a.tags b.tags).getD 4 0 = 0 then (fsC v a b).map (·.2) else [])
    (if (tagsC a.tags b.tags).getD 5 0 = 0 then funC (v (pairC b).1 (pairC a).1) (v (pairC a).2 (pairC b).2) else [])
def compN : Nat → Coe → Coe → Coe
  | 0, _, _ => idC
  | n + 1, a, b => nodeC (compN n) a b

theorem tagsC_get {a b : List Int} (ha : a.length = 6) (hb : b.length = 6) (i : Nat) : (tagsC a b).getD i 0 = if a.getD i 0 = 0 then b.getD i 0 else a.getD i 0 := by
  unfold tagsC
  simp only [List.getD_eq_getElem?_getD, List.getElem?_zipWith]
  by_cases h : i < 6
  · rw [List.getElem?_eq_getElem (by omega), List.getElem?_eq_getElem (by omega)]
    simp
  · rw [List.getElem?_eq_none (by omega), List.getElem?_eq_none (by omega)]
    simp
theorem tagsC_len {a b : List Int} (ha : a.length = 6) (hb : b.length = 6) : (tagsC a b).length = 6 := by simp [tagsC, ha, hb]
theorem six_ext {a b : List Int} (ha : a.length = 6) (hb : b.length = 6) (h : ∀ i, a.getD i 0 = b.getD i 0) : a = b := by
  refine List.ext_getElem (by omega) fun i h1 h2 => ?_
  have := h i
  simpa [List.getD_eq_getElem?_getD, List.getElem?_eq_getElem h1, List.getElem?_eq_getElem h2] using this

theorem busy_at {w : ByteArray → Coe} : ∀ {ks : List ByteArray}, ks.Nodup → ∀ k, atN ((busy (ks.map fun k => (k, w k))).map (·.1)) ((busy (ks.map fun k => (k, w k))).map (·.2)) k = if k ∈ ks then w k else idC
  | [], _, k => by simp [busy, atN]
  | x :: ks, hn, k => by
    simp only [List.nodup_cons] at hn
    have ih := busy_at (w := w) hn.2 k
    by_cases q : sameC (w x) idC = true
    · have e : busy ((x :: ks).map fun k => (k, w k)) = busy (ks.map fun k => (k, w k)) := by simp [busy, q]
      rw [e, ih]
      by_cases qk : k = x
      · subst qk
        rw [if_neg hn.1, if_pos (by simp), (sameC_iff _ _).1 q]
      · simp [qk]
    · have e : busy ((x :: ks).map fun k => (k, w k)) = (x, w x) :: busy (ks.map fun k => (k, w k)) := by simp [busy, q]
      rw [e]
      simp only [List.map_cons, atN]
      by_cases qk : k = x
      · subst qk; simp
      · rw [if_neg qk, ih]; simp [qk]

theorem keysU_mem {a b : Coe} {k : ByteArray} : k ∈ keysU a b ↔ k ∈ a.names ∨ k ∈ b.names := by
  unfold keysU
  rw [sortS_mem]
  simp only [List.mem_append, List.mem_filter, Bool.not_eq_true', decide_eq_false_iff_not]
  by_cases h : k ∈ a.names <;> simp [h]
theorem keysU_nodup {a b : Coe} (ha : a.names.Nodup) (hb : b.names.Nodup) : (a.names ++ b.names.filter fun k => !decide (k ∈ a.names)).Nodup := by
  refine List.nodup_append.2 ⟨ha, hb.filter _, fun x hx y hy e => ?_⟩
  simp only [List.mem_filter, Bool.not_eq_true', decide_eq_false_iff_not] at hy
  exact hy.2 (e ▸ hx)
theorem keysU_rises {a b : Coe} (ha : May a) (hb : May b) : (keysU a b).Pairwise ltB := sortS_rises (keysU_nodup (ltB_nodup ha.names) (ltB_nodup hb.names))

section
variable {v : Coe → Coe → Coe} {a b : Coe}
theorem node_tag (ha : May a) (hb : May b) (i : Nat) : tagZ (nodeC v a b) i = if tagZ a i = 0 then tagZ b i else tagZ a i := tagsC_get ha.tags hb.tags i
theorem node_field (ha : May a) (hb : May b) (v0 : v idC idC = idC) (k : ByteArray) : fieldC (nodeC v a b) k = if tagZ (nodeC v a b) 4 = 0 then v (fieldC a k) (fieldC b k) else idC := by
  have ht : tagZ (nodeC v a b) 4 = (tagsC a.tags b.tags).getD 4 0 := rfl
  have hN : (nodeC v a b).names = if (tagsC a.tags b.tags).getD 4 0 = 0 then (fsC v a b).map (·.1) else [] := rfl
  have hF : (nodeC v a b).fields = if (tagsC a.tags b.tags).getD 4 0 = 0 then (fsC v a b).map (·.2) else [] := rfl
  have hf : fieldC (nodeC v a b) k = atN (nodeC v a b).names (nodeC v a b).fields k := rfl
  rw [ht, hf, hN, hF]
  split
  · rename_i h
    unfold fsC
    rw [busy_at (w := fun k => v (fieldC a k) (fieldC b k)) (ltB_nodup (keysU_rises ha hb))]
    by_cases q : k ∈ keysU a b
    · rw [if_pos q]
    · rw [if_neg q]
      rw [keysU_mem, not_or] at q
      have e1 : fieldC a k = idC := atN_not q.1
      have e2 : fieldC b k = idC := atN_not q.2
      rw [e1, e2, v0]
  · rename_i h
    rfl
theorem node_pair (v0 : v idC idC = idC) : pairC (nodeC v a b) = if tagZ (nodeC v a b) 5 = 0 then (v (pairC b).1 (pairC a).1, v (pairC a).2 (pairC b).2) else (idC, idC) := by
  have ht : tagZ (nodeC v a b) 5 = (tagsC a.tags b.tags).getD 5 0 := rfl
  rw [ht]
  split
  · rename_i h
    refine pair_funC ?_
    unfold nodeC
    simp only [Coe.fn, h, if_true]
  · rename_i h
    unfold pairC nodeC
    simp only [Coe.fn, h, if_false]
theorem needs_names {a b : List (ByteArray × Int)} {k : ByteArray} : k ∈ (needsC a b).map (·.1) ↔ k ∈ a.map (·.1) ∨ k ∈ b.map (·.1) := by
  unfold needsC
  simp only [List.map_append, List.mem_append, List.mem_map, List.mem_filter, Bool.not_eq_true', List.any_eq_false, decide_eq_true_eq]
  constructor
  · rintro (h | ⟨x, ⟨h1, h2⟩, rfl⟩)
    · exact .inl h
    · exact .inr ⟨x, h1, rfl⟩
  · rintro (h | ⟨x, h1, rfl⟩)
    · exact .inl h
    · by_cases q : ∃ y, y ∈ a ∧ y.1 = x.1
      · exact .inl q
      · exact .inr ⟨x, ⟨h1, fun y hy e => q ⟨y, hy, e⟩⟩, rfl⟩
theorem needs_nodup {a b : List (ByteArray × Int)} (ha : (a.map (·.1)).Nodup) (hb : (b.map (·.1)).Nodup) : ((needsC a b).map (·.1)).Nodup := by
  unfold needsC
  rw [List.map_append]
  refine List.nodup_append.2 ⟨ha, ?_, fun x hx y hy e => ?_⟩
  · exact List.Sublist.nodup (List.filter_sublist.map _) hb
  · obtain ⟨z, hz, rfl⟩ := List.mem_map.1 hy
    simp only [List.mem_filter, Bool.not_eq_true', List.any_eq_false, decide_eq_true_eq] at hz
    obtain ⟨u, hu, rfl⟩ := List.mem_map.1 hx
    exact hz.2 u hu e
theorem node_may (ha : May a) (hb : May b) (hv : ∀ x y, mayC x = true → mayC y = true → mayC (v x y) = true) : May (nodeC v a b) where
  tags := tagsC_len ha.tags hb.tags
  len := by
    unfold nodeC; simp only [Coe.names, Coe.fields]
    split <;> simp
  fn := by
    unfold nodeC; simp only [Coe.fn]
    split
    · unfold funC
      split
      · exact .inl rfl
      · rename_i q
        simp only [Bool.and_eq_true, sameC_iff] at q
        exact .inr ⟨_, _, rfl, hv _ _ hb.pair.1 ha.pair.1, hv _ _ ha.pair.2 hb.pair.2, q⟩
    · exact .inl rfl
  t4 := fun h => by
    have ht : tagZ (nodeC v a b) 4 = (tagsC a.tags b.tags).getD 4 0 := rfl
    rw [ht] at h
    unfold nodeC; simp only [Coe.names, h, if_false]
  t5 := fun h => by
    have ht : tagZ (nodeC v a b) 5 = (tagsC a.tags b.tags).getD 5 0 := rfl
    rw [ht] at h
    unfold nodeC; simp only [Coe.fn, h, if_false]
  needs := by
    show (∀ x, x ∈ needC a b → x.2 ≠ 0) ∧ ((needC a b).map (·.1)).Nodup
    unfold needC
    split
    · refine ⟨fun x hx => ?_, needs_nodup ha.needs.2 hb.needs.2⟩
      unfold needsC at hx
      simp only [List.mem_append, List.mem_filter] at hx
      exact hx.elim (ha.needs.1 x) (fun h => hb.needs.1 x h.1)
    · exact ha.needs
  names := by
    unfold nodeC; simp only [Coe.names]
    split
    · unfold fsC busy
      refine List.Pairwise.sublist (List.filter_sublist.map _) ?_
      rw [List.map_map]
      have : ((fun x : ByteArray × Coe => x.1) ∘ fun k => (k, v (fieldC a k) (fieldC b k))) = id := rfl
      rw [this, List.map_id]
      exact keysU_rises ha hb
    · exact List.Pairwise.nil
  fields := by
    unfold nodeC; simp only [Coe.fields]
    split
    · intro x hx
      unfold fsC busy at hx
      simp only [List.mem_map, List.mem_filter, Bool.not_eq_true', sameC_no] at hx
      obtain ⟨y, ⟨⟨k, _, rfl⟩, h2⟩, rfl⟩ := hx
      exact ⟨hv _ _ (ha.field k) (hb.field k), h2⟩
    · intro x hx; cases hx
end
end Go.Gr

/- Plain: the laws of composing. -/
set_option linter.unusedVariables false
set_option linter.unusedSimpArgs false
namespace Go.Gr
open Go.Abs

/-- how deep a coercion is, at most -/
def inN : Nat → Coe → Prop
  | 0, c => c = idC
  | n + 1, c => (∀ x, x ∈ c.fields → inN n x) ∧ ∀ x, x ∈ c.fn → inN n x
theorem inN_id : ∀ n, inN n idC
  | 0 => rfl
  | n + 1 => ⟨(fun x hx => by cases hx), (fun x hx => by cases hx)⟩
theorem inN_succ : ∀ {n : Nat} {c : Coe}, inN n c → inN (n + 1) c
  | 0, c, h => by
    have : c = idC := h
    rw [this]; exact inN_id 1
  | n + 1, c, h => ⟨fun x hx => inN_succ (h.1 x hx), fun x hx => inN_succ (h.2 x hx)⟩
theorem inN_le {n m : Nat} (hnm : n ≤ m) {c : Coe} (h : inN n c) : inN m c := by
  induction hnm with
  | refl => exact h
  | step _ ih => exact inN_succ ih
mutual
theorem inN_ex : ∀ c : Coe, ∃ n, inN n c
  | .mk t n s f g => by
    obtain ⟨i, hi⟩ := inN_exs f
    obtain ⟨j, hj⟩ := inN_exs g
    exact ⟨max i j + 1, fun x hx => inN_le (by omega) (hi x hx), fun x hx => inN_le (by omega) (hj x hx)⟩
theorem inN_exs : ∀ l : List Coe, ∃ n, ∀ x, x ∈ l → inN n x
  | [] => ⟨0, fun x hx => by cases hx⟩
  | c :: l => by
    obtain ⟨i, hi⟩ := inN_ex c
    obtain ⟨j, hj⟩ := inN_exs l
    refine ⟨max i j, fun x hx => ?_⟩
    cases List.mem_cons.1 hx with
    | inl e => rw [e]; exact inN_le (by omega) hi
    | inr e => exact inN_le (by omega) (hj x e)
end
theorem inN_field {n : Nat} {c : Coe} (h : inN (n + 1) c) (hl : c.names.length = c.fields.length) (k : ByteArray) : inN n (fieldC c k) := by
  unfold fieldC
  by_cases q : k ∈ c.names
  · exact h.1 _ (atN_mem hl q)
  · rw [atN_not q]; exact inN_id n
theorem inN_pair {n : Nat} {c : Coe} (h : inN (n + 1) c) : inN n (pairC c).1 ∧ inN n (pairC c).2 := by
  unfold pairC
  split
  · rename_i f g l e
    exact ⟨h.2 f (by rw [e]; simp), h.2 g (by rw [e]; simp)⟩
  · exact ⟨inN_id n, inN_id n⟩

theorem compN_succ (n : Nat) (a b : Coe) : compN (n + 1) a b = nodeC (compN n) a b := rfl
theorem comp_id : ∀ n, compN n idC idC = idC
  | 0 => rfl
  | n + 1 => by
    have ih := comp_id n
    simp [compN, nodeC, tagsC, needC, needsC, fsC, busy, keysU, sortS, pairC, idC, Coe.tags, Coe.needs, Coe.names, Coe.fields, Coe.fn, tagZ, funC] at ih ⊢
    rw [ih]
    simp [sameC_rfl]
theorem comp_may : ∀ (n : Nat) (a b : Coe), mayC a = true → mayC b = true → mayC (compN n a b) = true
  | 0, _, _, _, _ => may_id
  | n + 1, a, b, ha, hb => (mayC_iff _).2 (node_may ((mayC_iff _).1 ha) ((mayC_iff _).1 hb) (comp_may n))
theorem comp_in : ∀ (n : Nat) {a b : Coe}, mayC a = true → mayC b = true → inN n a → inN n b → inN n (compN n a b)
  | 0, _, _, _, _, _, _ => rfl
  | n + 1, a, b, ma, mb, ha, hb => by
    have Ma := (mayC_iff _).1 ma
    have Mb := (mayC_iff _).1 mb
    refine ⟨fun x hx => ?_, fun x hx => ?_⟩
    · unfold compN nodeC at hx
      simp only [Coe.fields] at hx
      split at hx
      · unfold fsC busy at hx
        simp only [List.mem_map, List.mem_filter] at hx
        obtain ⟨y, ⟨⟨k, _, rfl⟩, h2⟩, rfl⟩ := hx
        exact comp_in n (Ma.field k) (Mb.field k) (inN_field ha Ma.len k) (inN_field hb Mb.len k)
      · cases hx
    · unfold compN nodeC at hx
      simp only [Coe.fn] at hx
      split at hx
      · unfold funC at hx
        split at hx
        · cases hx
        · simp only [List.mem_cons, List.not_mem_nil, or_false] at hx
          rcases hx with rfl | rfl
          · exact comp_in n Mb.pair.1 Ma.pair.1 (inN_pair hb).1 (inN_pair ha).1
          · exact comp_in n Ma.pair.2 Mb.pair.2 (inN_pair ha).2 (inN_pair hb).2
      · cases hx

section
variable {a b c : Coe}
theorem May.field4 (h : May a) (q : tagZ a 4 ≠ 0) (k : ByteArray) : fieldC a k = Go.Gr.idC := by
  unfold fieldC
  rw [h.t4 q]; exact atN_not (by simp)
theorem May.pair5 (h : May a) (q : tagZ a 5 ≠ 0) : pairC a = (Go.Gr.idC, Go.Gr.idC) := by
  unfold pairC
  rw [h.t5 q]
end
theorem id_tag (i : Nat) : tagZ idC i = 0 := by
  unfold tagZ idC
  simp only [Coe.tags, List.getD_eq_getElem?_getD]
  match i with
  | 0 | 1 | 2 | 3 | 4 | 5 => rfl
  | i + 6 => simp
theorem id_field (k : ByteArray) : fieldC idC k = idC := rfl
theorem id_pair : pairC idC = (idC, idC) := rfl

theorem comp_unit : ∀ (n : Nat) (a : Coe), inN n a → mayC a = true → compN n a idC = a ∧ compN n idC a = a
  | 0, a, h, _ => by
    have : a = idC := h
    rw [this]; exact ⟨rfl, rfl⟩
  | n + 1, a, h, ma => by
    have Ma := (mayC_iff _).1 ma
    have v0 := comp_id n
    have M1 : May (nodeC (compN n) a idC) := node_may Ma May.idC (comp_may n)
    have M2 : May (nodeC (compN n) idC a) := node_may May.idC Ma (comp_may n)
    constructor
    · rw [compN_succ]
      refine May.ext M1 Ma (six_ext M1.tags Ma.tags fun i => ?_) ?_ (fun k => ?_) ?_
      · have := node_tag (v := compN n) Ma May.idC i
        rw [id_tag] at this
        refine this.trans ?_
        split
        · rename_i q; exact q.symm
        · rfl
      · show needC a idC = a.needs
        unfold needC
        split
        · show needsC a.needs [] = a.needs
          simp [needsC]
        · rfl
      · rw [node_field Ma May.idC v0, node_tag Ma May.idC, id_tag, id_field]
        by_cases q : tagZ a 4 = 0
        · rw [if_pos (by rw [if_pos q])]
          exact (comp_unit n _ (inN_field h Ma.len k) (Ma.field k)).1
        · rw [if_neg (by rw [if_neg q]; exact q)]
          exact (Ma.field4 q k).symm
      · rw [node_pair v0, node_tag Ma May.idC, id_tag, id_pair]
        by_cases q : tagZ a 5 = 0
        · rw [if_pos (by rw [if_pos q])]
          rw [(comp_unit n _ (inN_pair h).1 Ma.pair.1).2, (comp_unit n _ (inN_pair h).2 Ma.pair.2).1]
        · rw [if_neg (by rw [if_neg q]; exact q)]
          exact (Ma.pair5 q).symm
    · rw [compN_succ]
      refine May.ext M2 Ma (six_ext M2.tags Ma.tags fun i => ?_) ?_ (fun k => ?_) ?_
      · have := node_tag (v := compN n) May.idC Ma i
        rw [id_tag, if_pos rfl] at this
        exact this
      · show needC idC a = a.needs
        unfold needC
        rw [id_tag, if_pos rfl]
        show needsC [] a.needs = a.needs
        unfold needsC
        simp
      · rw [node_field May.idC Ma v0, node_tag May.idC Ma, id_tag, id_field, if_pos rfl]
        by_cases q : tagZ a 4 = 0
        · rw [if_pos q]
          exact (comp_unit n _ (inN_field h Ma.len k) (Ma.field k)).2
        · rw [if_neg q]
          exact (Ma.field4 q k).symm
      · rw [node_pair v0, node_tag May.idC Ma, id_tag, id_pair, if_pos rfl]
        by_cases q : tagZ a 5 = 0
        · rw [if_pos q]
          rw [(comp_unit n _ (inN_pair h).1 Ma.pair.1).1, (comp_unit n _ (inN_pair h).2 Ma.pair.2).2]
        · rw [if_neg q]
          exact (Ma.pair5 q).symm

theorem comp_idem : ∀ (n : Nat) (a : Coe), inN n a → mayC a = true → compN n a a = a
  | 0, a, h, _ => (show a = idC from h).symm
  | n + 1, a, h, ma => by
    have Ma := (mayC_iff _).1 ma
    have v0 := comp_id n
    have M1 : May (nodeC (compN n) a a) := node_may Ma Ma (comp_may n)
    have ht : ∀ i, tagZ (nodeC (compN n) a a) i = tagZ a i := fun i => by rw [node_tag Ma Ma]; split <;> rfl
    rw [compN_succ]
    refine May.ext M1 Ma (six_ext M1.tags Ma.tags ht) ?_ (fun k => ?_) ?_
    · show needC a a = a.needs
      unfold needC
      split
      · unfold needsC
        have : a.needs.filter (fun n => !a.needs.any fun m => decide (m.1 = n.1)) = [] := by
          rw [List.filter_eq_nil_iff]
          intro x hx
          simp
          exact ⟨x.2, hx⟩
        rw [this, List.append_nil]
      · rfl
    · rw [node_field Ma Ma v0, ht]
      by_cases q : tagZ a 4 = 0
      · rw [if_pos q]
        exact comp_idem n _ (inN_field h Ma.len k) (Ma.field k)
      · rw [if_neg q]
        exact (Ma.field4 q k).symm
    · rw [node_pair v0, ht]
      by_cases q : tagZ a 5 = 0
      · rw [if_pos q, comp_idem n _ (inN_pair h).1 Ma.pair.1, comp_idem n _ (inN_pair h).2 Ma.pair.2]
      · rw [if_neg q]
        exact (Ma.pair5 q).symm

theorem needs_assoc (a b c : List (ByteArray × Int)) : needsC (needsC a b) c = needsC a (needsC b c) := by
  have key : ∀ x : ByteArray × Int, (!(needsC a b).any fun m => decide (m.1 = x.1)) = ((!b.any fun m => decide (m.1 = x.1)) && !a.any fun m => decide (m.1 = x.1)) := fun x => by
    have h1 : ((needsC a b).any fun m => decide (m.1 = x.1)) = true ↔ x.1 ∈ (needsC a b).map (·.1) := by
      simp [List.any_eq_true]
    have h2 : ∀ l : List (ByteArray × Int), (l.any fun m => decide (m.1 = x.1)) = true ↔ x.1 ∈ l.map (·.1) := fun l => by
      simp [List.any_eq_true]
    rw [needs_names, ← h2 a, ← h2 b] at h1
    cases q : (needsC a b).any fun m => decide (m.1 = x.1) <;> cases q1 : b.any (fun m => decide (m.1 = x.1)) <;> cases q2 : a.any (fun m => decide (m.1 = x.1)) <;> simp [q, q1, q2] at h1 ⊢
  unfold needsC at *
  rw [List.filter_append, List.append_assoc, List.filter_filter]
  congr 2
  refine List.filter_congr fun x _ => ?_
  rw [key x, Bool.and_comm]

theorem comp_assoc : ∀ (n : Nat) (a b c : Coe), inN n a → inN n b → inN n c → mayC a = true → mayC b = true → mayC c = true → compN n (compN n a b) c = compN n a (compN n b c)
  | 0, _, _, _, _, _, _, _, _, _ => rfl
  | n + 1, a, b, c, ia, ib, ic, ma, mb, mc => by
    have Ma := (mayC_iff _).1 ma
    have Mb := (mayC_iff _).1 mb
    have Mc := (mayC_iff _).1 mc
    have v0 := comp_id n
    have Mab : May (nodeC (compN n) a b) := node_may Ma Mb (comp_may n)
    have Mbc : May (nodeC (compN n) b c) := node_may Mb Mc (comp_may n)
    have Ml : May (nodeC (compN n) (nodeC (compN n) a b) c) := node_may Mab Mc (comp_may n)
    have Mr : May (nodeC (compN n) a (nodeC (compN n) b c)) := node_may Ma Mbc (comp_may n)
    have hl : ∀ i, tagZ (nodeC (compN n) (nodeC (compN n) a b) c) i = if tagZ a i = 0 then (if tagZ b i = 0 then tagZ c i else tagZ b i) else tagZ a i := fun i => by
      rw [node_tag Mab Mc, node_tag Ma Mb]
      by_cases q : tagZ a i = 0 <;> simp [q]
    have hr : ∀ i, tagZ (nodeC (compN n) a (nodeC (compN n) b c)) i = if tagZ a i = 0 then (if tagZ b i = 0 then tagZ c i else tagZ b i) else tagZ a i := fun i => by
      rw [node_tag Ma Mbc, node_tag Mb Mc]
    simp only [compN_succ]
    refine May.ext Ml Mr (six_ext Ml.tags Mr.tags fun i => (hl i).trans (hr i).symm) ?_ (fun k => ?_) ?_
    · show needC (nodeC (compN n) a b) c = needC a (nodeC (compN n) b c)
      have e1 : (nodeC (compN n) a b).needs = needC a b := rfl
      have e2 : (nodeC (compN n) b c).needs = needC b c := rfl
      unfold needC
      rw [e1, e2, node_tag Ma Mb]
      unfold needC
      by_cases q : tagZ a 4 = 0 <;> by_cases r : tagZ b 4 = 0 <;> simp [q, r]
      exact needs_assoc _ _ _
    · rw [node_field Mab Mc v0, node_field Ma Mbc v0, hl, hr, node_field Ma Mb v0, node_field Mb Mc v0, node_tag Ma Mb, node_tag Mb Mc]
      have ih := comp_assoc n _ _ _ (inN_field ia Ma.len k) (inN_field ib Mb.len k) (inN_field ic Mc.len k) (Ma.field k) (Mb.field k) (Mc.field k)
      by_cases qa : tagZ a 4 = 0 <;> by_cases qb : tagZ b 4 = 0 <;> by_cases qc : tagZ c 4 = 0 <;> simp [qa, qb, qc, ih]
    · have e1 := node_pair (v := compN n) (a := nodeC (compN n) a b) (b := c) v0
      have e2 := node_pair (v := compN n) (a := a) (b := nodeC (compN n) b c) v0
      rw [e1, e2, hl, hr, node_pair (a := a) (b := b) v0, node_pair (a := b) (b := c) v0, node_tag Ma Mb, node_tag Mb Mc]
      have i1 := comp_assoc n _ _ _ (inN_pair ic).1 (inN_pair ib).1 (inN_pair ia).1 Mc.pair.1 Mb.pair.1 Ma.pair.1
      have i2 := comp_assoc n _ _ _ (inN_pair ia).2 (inN_pair ib).2 (inN_pair ic).2 Ma.pair.2 Mb.pair.2 Mc.pair.2
      by_cases qa : tagZ a 5 = 0 <;> by_cases qb : tagZ b 5 = 0 <;> by_cases qc : tagZ c 5 = 0 <;> simp [qa, qb, qc, i1, i2]
end Go.Gr
