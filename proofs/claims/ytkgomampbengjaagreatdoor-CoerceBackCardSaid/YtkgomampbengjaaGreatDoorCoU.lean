import Derived.Test.YtkgomampbengjaaGreatDoorCoT
/- The program's composing. -/
set_option linter.unusedVariables false
set_option linter.unusedSimpArgs false
namespace Go.Gr
open Go.Abs Go.Proofs

theorem CloneN_p (l : List (ByteArray × Int)) (hl : l.length ≤ 1073741824) : PCall Pg F.slices_Clone_api_Need_api_Need [.one (.sl false 2 (encN l))] (.one (.sl false 2 (encN l))) := by
  refine w_slices_Clone_api_Need_api_Need (by simp) fun o c hN hp => ?_
  unfold mc_slices_Clone_api_Need_api_Need
  cases l with
  | nil =>
    simp [encN]
    refine ⟨owK.mk [] ?_, owK.mk [] ?_⟩ <;> simp
  | cons x l =>
    simp [encN]
    refine ⟨by simp at hl; omega, ?_⟩
    refine owK.mk [] ?_
    simp
    rw [List.take_of_length_le (by simp)]

@[simp] theorem rens_comp2 {α : Type} (f : Nat → Nat) (g : α → List D) : AC.rens f ∘ ((fun x => List.map AC.d x) ∘ g) = (fun x => List.map AC.d x) ∘ g := by funext x; simp

/-! ### a map, written -/
def setC : List (ByteArray × Coe) → ByteArray → Coe → List (ByteArray × Coe)
  | [], k, d => [(k, d)]
  | x :: l, k, d => if k = x.1 then (k, d) :: l else x :: setC l k d
theorem mfind_set (k : ByteArray) (d : Coe) : ∀ (l : List (ByteArray × Coe)) (i : Nat), (∃ j w, mfind 1 (.str k) (mapC l) i = some (some (i + j, w)) ∧ (mapC l).set j (.str k, .ag (d.enc.map .d)) = mapC (setC l k d)) ∨
    (mfind 1 (.str k) (mapC l) i = some none ∧ mapC l ++ [(.str k, .ag (d.enc.map .d))] = mapC (setC l k d))
  | [], i => .inr ⟨rfl, rfl⟩
  | x :: l, i => by
    by_cases e : k = x.1
    · refine .inl ⟨0, .ag (x.2.enc.map .d), ?_, ?_⟩
      · simp [mapC, e]
      · simp [mapC, setC, e]
    · have ih := mfind_set k d l (i + 1)
      simp only [mapC] at ih
      rcases ih with ⟨j, w, h1, h2⟩ | ⟨h1, h2⟩
      · refine .inl ⟨j + 1, w, ?_, ?_⟩
        · simp [mapC, e, h1]; omega
        · simp [mapC, setC, e, h2]
      · refine .inr ⟨?_, ?_⟩
        · simp [mapC, e, h1]
        · simpa [mapC, setC, e] using h2
theorem setC_keys {k : ByteArray} {d : Coe} : ∀ {l : List (ByteArray × Coe)}, (setC l k d).map (·.1) = if k ∈ l.map (·.1) then l.map (·.1) else l.map (·.1) ++ [k]
  | [] => by simp [setC]
  | x :: l => by
    by_cases e : k = x.1
    · simp [setC, e]
    · have hh : setC (x :: l) k d = x :: setC l k d := by simp [setC, e]
      have ih := setC_keys (k := k) (d := d) (l := l)
      rw [hh, List.map_cons, ih]
      by_cases q : k ∈ l.map (·.1)
      · rw [if_pos q, if_pos (by simp only [List.map_cons, List.mem_cons]; exact .inr q), List.map_cons]
      · rw [if_neg q, if_neg (by simp only [List.map_cons, List.mem_cons, not_or]; exact ⟨e, q⟩), List.map_cons, List.cons_append]
theorem setC_at {k : ByteArray} {d : Coe} : ∀ {l : List (ByteArray × Coe)} {q : ByteArray}, atC (setC l k d) q = if q = k then d else atC l q
  | [], q => by simp [setC, atC]
  | x :: l, q => by
    by_cases e : k = x.1
    · subst e
      simp only [setC, if_true, atC]
      by_cases e' : q = x.1 <;> simp [e']
    · simp only [setC, if_neg e, atC, setC_at (l := l)]
      by_cases e' : q = x.1
      · subst e'
        have : ¬ x.1 = k := fun h => e h.symm
        simp [this]
      · simp [e']
theorem setC_set {k : ByteArray} {d f : Coe} : ∀ {l : List (ByteArray × Coe)}, setC (setC l k f) k d = setC l k d
  | [] => by simp [setC]
  | x :: l => by
    by_cases e : k = x.1
    · simp [setC, e]
    · simp [setC, e, setC_set (l := l)]
theorem setC_new {k : ByteArray} {d : Coe} : ∀ {l : List (ByteArray × Coe)}, k ∉ l.map (·.1) → setC l k d = l ++ [(k, d)]
  | [], _ => rfl
  | x :: l, h => by
    simp only [List.map_cons, List.mem_cons, not_or] at h
    simp [setC, h.1, setC_new (l := l) h.2]
theorem mfindC_not {k : ByteArray} : ∀ {l : List (ByteArray × Coe)} (i : Nat), k ∉ l.map (·.1) → mfind 1 (.str k) (mapC l) i = some none
  | [], i, _ => rfl
  | x :: l, i, h => by
    simp only [List.map_cons, List.mem_cons, not_or] at h
    have ih := mfindC_not (l := l) (i + 1) h.2
    simp only [mapC] at ih
    simp [mapC, h.1, ih]

theorem six {l : List Int} (h : l.length = 6) : ∃ a b c d e f, l = [a, b, c, d, e, f] := by
  match l, h with
  | [a, b, c, d, e, f], _ => exact ⟨a, b, c, d, e, f, rfl⟩

/-- the numbers of the first so many, then noughts -/
def upT (L : List Int) (j : Nat) : List Int := L.take j ++ List.replicate (6 - j) 0
theorem upT_set {L : List Int} (hL : L.length = 6) {j : Nat} (h : j < 6) : (upT L j).set j L[j] = upT L (j + 1) := by
  obtain ⟨a, b, c, d, e, f, rfl⟩ := six hL
  match j, h with
  | 0, _ | 1, _ | 2, _ | 3, _ | 4, _ | 5, _ => rfl
theorem encI_set (l : List Int) (j : Nat) (x : Int) : encI (l.set j x) = (encI l).set j [.int .i64 x] := by simp [encI, List.map_set]

/-- what the map has behind so many of the second's fields -/
def mapAt (v : Coe → Coe → Coe) (a b : Coe) (j : Nat) (l : List (ByteArray × Coe)) : Prop :=
  l.map (·.1) = a.names ++ (b.names.take j).filter (fun k => !decide (k ∈ a.names)) ∧ ∀ k, k ∈ l.map (·.1) → atC l k = if k ∈ b.names.take j then v (fieldC a k) (fieldC b k) else fieldC a k

end Go.Gr

/- The program's composing, walked. -/
set_option linter.unusedVariables false
set_option linter.unusedSimpArgs false
namespace Go.Gr
open Go.Abs Go.Proofs

/-- no list in it is longer -/
structure Small1 (B : Nat) (d : Coe) : Prop where
  needs : d.needs.length ≤ B
  fields : d.fields.length ≤ B
  fn : d.fn.length ≤ B

theorem tag_get {l : List Int} (h : l.length = 6) {i : Nat} (hi : i < 6) : l[i]? = some (l.getD i 0) := by
  rw [List.getD_eq_getElem?_getD, List.getElem?_eq_getElem (by omega)]; rfl
theorem not_take {α : Type} {l : List α} (h : l.Nodup) {j : Nat} (hj : j < l.length) : l[j] ∉ l.take j := fun hm => by
  obtain ⟨i, hi, e⟩ := List.getElem_of_mem hm
  rw [List.getElem_take] at e
  have hi' : i < j := by simp at hi; omega
  exact (List.pairwise_iff_getElem.1 h) i j (by omega) hj hi' e
theorem mem_take {α : Type} {l : List α} {j : Nat} (hj : j < l.length) {k : α} : k ∈ l.take (j + 1) ↔ k ∈ l.take j ∨ k = l[j] := by
  rw [List.take_succ_eq_append_getElem hj, List.mem_append, List.mem_singleton]
theorem zip_keys {l : List ByteArray} {f : List Coe} (h : l.length = f.length) : (l.zip f).map (·.1) = l := by
  rw [List.map_fst_zip (by omega)]
theorem zip_take_keys {l : List ByteArray} {f : List Coe} (h : l.length = f.length) {j : Nat} : ((l.zip f).take j).map (·.1) = l.take j := by
  rw [List.map_take, zip_keys h]
theorem zip_at : ∀ {l : List ByteArray} {f : List Coe} {k : ByteArray}, l.length = f.length → k ∈ l → atC (l.zip f) k = atN l f k
  | n :: l, x :: f, k, h, hk => by
    simp only [List.zip_cons_cons, atC, atN]
    split
    · rfl
    · rename_i q
      exact zip_at (by simpa using h) ((List.mem_cons.1 hk).resolve_left q)
  | _ :: _, [], _, h, _ => by simp at h
theorem mapAt_0 {v : Coe → Coe → Coe} {a b : Coe} (Ma : May a) : mapAt v a b 0 (a.names.zip a.fields) := by
  refine ⟨by rw [zip_keys Ma.len]; simp, fun k hk => ?_⟩
  rw [zip_keys Ma.len] at hk
  simp
  exact zip_at Ma.len hk
/-- one more of the second's fields -/
theorem mapAt_1 {v : Coe → Coe → Coe} {a b : Coe} {j : Nat} {l : List (ByteArray × Coe)} (Ma : May a) (Mb : May b) (hj : j < b.names.length) (h : mapAt v a b j l) {d : Coe} (hd : d = v (fieldC a b.names[j]) (fieldC b b.names[j])) :
    mapAt v a b (j + 1) (setC l b.names[j] d) := by
  obtain ⟨h1, h2⟩ := h
  have hnd := ltB_nodup Mb.names
  have hnot : b.names[j] ∉ b.names.take j := not_take hnd hj
  constructor
  · rw [setC_keys, h1, List.take_succ_eq_append_getElem hj, List.filter_append]
    by_cases q : b.names[j] ∈ a.names
    · rw [if_pos (by simp [q])]; simp [q]
    · rw [if_neg (by simp only [List.mem_append, List.mem_filter, not_or]; exact ⟨q, fun h => hnot h.1⟩)]; simp [q]
  · intro k hk
    rw [setC_at]
    simp only [mem_take hj]
    by_cases q : k = b.names[j]
    · subst q; simp [hd]
    · rw [if_neg q]
      have hk' : k ∈ l.map (·.1) := by
        rw [setC_keys] at hk
        split at hk
        · exact hk
        · simp only [List.mem_append, List.mem_singleton] at hk
          exact hk.resolve_right q
      rw [h2 k hk']
      simp [q]


abbrev box5 : Blk := .box [.d (.sl true 1 []), .d (.sl true 2 []), .d (.sl true 1 []), .d (.sl true 5 []), .d (.sl true 5 [])]
abbrev boxT (T : List Int) (N : List (ByteArray × Int)) : Blk := .box [.d (.sl false 1 (encI T)), .d (.sl false 2 (encN N)), .d (.sl true 1 []), .d (.sl true 5 []), .d (.sl true 5 [])]
abbrev baseT (a b : Coe) : List (Nat × AV) := [(2, .c (.d (.rp a.enc 0))), (3, .c (.d (.rp b.enc 0))), (4, .c (.ptr 0 0)), (5, .c (.ptr 2 0))]

theorem cmp0 {c : Ctx} (hp : c.pure) {a b : Coe} (Ma : May a) (Mb : May b) {Q : Exit → St → Prop} {S : St} {g}
    (h0 : Match [0, 1, 2] S ((23, .c (.d (.int .i64 0))) :: (21, .c (.d (.sl false 1 (encI a.tags)))) :: (22, .c (.d (.int .i64 a.tags.length))) :: baseT a b) [box5, .arr 1 ((encI six0).map (·.map .d)), .box [.msl 1 1 0 6, .d (.sl true 2 []), .d (.sl true 1 []), .d (.sl true 5 []), .d (.sl true 5 [])]])
    (hQ : ∀ T, Abs.look T 2 = .c (.d (.rp a.enc 0)) → Abs.look T 3 = .c (.d (.rp b.enc 0)) → Abs.look T 4 = .c (.ptr 0 0) → Abs.look T 5 = .c (.ptr 2 0) →
      Q (.exit 0) ⟨T, hpOf [box5, .arr 1 ((encI (tagsC a.tags b.tags)).map (·.map .d)), .box [.msl 1 1 0 6, .d (.sl true 2 []), .d (.sl true 1 []), .d (.sl true 5 []), .d (.sl true 5 [])]], 3⟩) : lw_ Pg c lp_coerce_compose_0 Q g S := by
  have hL : (tagsC a.tags b.tags).length = 6 := tagsC_len Ma.tags Mb.tags
  refine W.loop Pg_mixed hp (fun j : Nat => j ≤ 6) (fun j => (23, .c (.d (.int .i64 j))) :: (21, .c (.d (.sl false 1 (encI a.tags)))) :: (22, .c (.d (.int .i64 a.tags.length))) :: baseT a b)
    (fun j => [box5, .arr 1 ((encI (upT (tagsC a.tags b.tags) j)).map (·.map .d)), .box [.msl 1 1 0 6, .d (.sl true 2 []), .d (.sl true 1 []), .d (.sl true 5 []), .d (.sl true 5 [])]])
    (fun j => 6 - j) 0 [0, 1, 2] (by simp) h0 fun j h1 => ?_
  unfold lp_coerce_compose_0
  simp
  refine gd.mk (fun h => ?_) (fun h => ?_)
  · have hj : j < 6 := by have := Ma.tags; simp at h; omega
    have hja : j < a.tags.length := by rw [Ma.tags]; exact hj
    have hjb : j < b.tags.length := by rw [Mb.tags]; exact hj
    have hup : (upT (tagsC a.tags b.tags) j).length = 6 := by simp [upT, hL]; omega
    have hju : j < (upT (tagsC a.tags b.tags) j).length := by omega
    have hset : ∀ x, x = (tagsC a.tags b.tags)[j]'(by omega) → (encI (upT (tagsC a.tags b.tags) j)).set j [.int .i64 x] = encI (upT (tagsC a.tags b.tags) (j + 1)) := fun x e => by
      rw [e, ← encI_set, upT_set hL hj]
    have hval : (tagsC a.tags b.tags)[j]'(by omega) = if a.tags[j] = 0 then b.tags[j] else a.tags[j] := by simp [tagsC]
    simp [List.getElem?_eq_getElem hja, List.getElem?_eq_getElem hjb, List.getElem?_eq_getElem hju]
    refine gd.mk (fun h => ?_) (fun h => ?_)
    · simp at h
      refine ⟨by omega, ?_⟩
      refine Abs.Next.mk (j + 1) [0, 1, 2] (by omega) (by omega) ?_
      simp
      refine ⟨wrap_i64 (by omega) (by omega), ?_⟩
      rw [← hset b.tags[j] (by rw [hval, if_pos h])]
      simp [List.map_set]
    · simp at h
      refine ⟨by omega, ?_⟩
      refine Abs.Next.mk (j + 1) [0, 1, 2] (by omega) (by omega) ?_
      simp
      refine ⟨wrap_i64 (by omega) (by omega), ?_⟩
      rw [← hset a.tags[j] (by rw [hval, if_neg h])]
      simp [List.map_set]
  · have hj : j = 6 := by have := Ma.tags; simp at h; omega
    subst hj
    have hup : upT (tagsC a.tags b.tags) 6 = tagsC a.tags b.tags := by
      unfold upT; rw [List.take_of_length_le (by omega)]; simp
    rw [hup]
    exact hQ _ (by simp) (by simp) (by simp) (by simp)

theorem cmp2 {c : Ctx} (hp : c.pure) {a b : Coe} (Ma : May a) (hal : a.names.length ≤ 1073741824) (Tg : List Int) (N : List (ByteArray × Int)) {Q : Exit → St → Prop} {S : St} {g}
    (h0 : Match [0, 1, 2, 3] S ((65, .c (.d (.int .i64 0))) :: (63, .c (.d (.sl false 1 (encS a.names)))) :: (64, .c (.d (.int .i64 a.names.length))) :: (8, .c (.map 3)) :: baseT a b) [box5, .dead, boxT Tg N, .map []])
    (hQ : ∀ T, Abs.look T 2 = .c (.d (.rp a.enc 0)) → Abs.look T 3 = .c (.d (.rp b.enc 0)) → Abs.look T 4 = .c (.ptr 0 0) → Abs.look T 5 = .c (.ptr 2 0) → Abs.look T 8 = .c (.map 3) →
      Q (.exit 2) ⟨T, hpOf [box5, .dead, boxT Tg N, .map (mapC (a.names.zip a.fields))], 4⟩) : lw_ Pg c lp_coerce_compose_2 Q g S := by
  refine W.loop Pg_mixed hp (fun j : Nat => j ≤ a.names.length) (fun j => (65, .c (.d (.int .i64 j))) :: (63, .c (.d (.sl false 1 (encS a.names)))) :: (64, .c (.d (.int .i64 a.names.length))) :: (8, .c (.map 3)) :: baseT a b)
    (fun j => [box5, .dead, boxT Tg N, .map (mapC ((a.names.zip a.fields).take j))])
    (fun j => a.names.length - j) 0 [0, 1, 2, 3] (by simp) (by simpa [mapC] using h0) fun j h1 => ?_
  unfold lp_coerce_compose_2
  simp
  refine gd.mk (fun h => ?_) (fun h => ?_)
  · simp at h
    have hj : j < a.names.length := by omega
    have hj' : j < a.fields.length := by have := Ma.len; omega
    simp [List.getElem?_eq_getElem hj, List.getElem?_eq_getElem hj']
    have hz : j < (a.names.zip a.fields).length := by simp; omega
    have hk : a.names[j] ∉ ((a.names.zip a.fields).take j).map (·.1) := by
      rw [zip_take_keys Ma.len]
      exact not_take (ltB_nodup Ma.names) hj
    simp [mfindC_not 0 hk]
    refine Abs.Next.mk (j + 1) [0, 1, 2, 3] (by omega) (by omega) ?_
    simp
    refine ⟨wrap_i64 (by omega) (by omega), ?_, fun a b h => mapC_lt h⟩
    rw [List.take_succ_eq_append_getElem hz]
    simp [mapC]
  · have hj : j = a.names.length := by simp at h; omega
    subst hj
    have hz : (a.names.zip a.fields).take a.names.length = a.names.zip a.fields := List.take_of_length_le (by simp; omega)
    rw [hz]
    exact hQ _ (by simp) (by simp) (by simp) (by simp) (by simp)

theorem cmp4 {c : Ctx} (hp : c.pure) {v : Coe → Coe → Coe} {a b : Coe} (Ma : May a) (Mb : May b) (hbl : b.names.length ≤ 1073741824) (hu : ∀ k, v idC (fieldC b k) = fieldC b k)
    (H1 : ∀ k, k ∈ a.names → k ∈ b.names → PCall Pg F.coerce_compose [.agg (fieldC a k).enc, .agg (fieldC b k).enc] (.agg (v (fieldC a k) (fieldC b k)).enc))
    (Tg : List Int) (N : List (ByteArray × Int)) {Q : Exit → St → Prop} {S : St} {g}
    (h0 : Match [0, 1, 2, 3] S ((81, .c (.d (.int .i64 0))) :: (79, .c (.d (.sl false 1 (encS b.names)))) :: (80, .c (.d (.int .i64 b.names.length))) :: (8, .c (.map 3)) :: baseT a b) [box5, .dead, boxT Tg N, .map (mapC (a.names.zip a.fields))])
    (hQ : ∀ T l, mapAt v a b b.names.length l → Abs.look T 2 = .c (.d (.rp a.enc 0)) → Abs.look T 3 = .c (.d (.rp b.enc 0)) → Abs.look T 4 = .c (.ptr 0 0) → Abs.look T 5 = .c (.ptr 2 0) → Abs.look T 8 = .c (.map 3) →
      Q (.exit 4) ⟨T, hpOf [box5, .dead, boxT Tg N, .map (mapC l)], 4⟩) : lw_ Pg c lp_coerce_compose_4 Q g S := by
  refine W.loop Pg_mixed hp (fun x : Nat × List (ByteArray × Coe) => x.1 ≤ b.names.length ∧ mapAt v a b x.1 x.2) (fun x => (81, .c (.d (.int .i64 x.1))) :: (79, .c (.d (.sl false 1 (encS b.names)))) :: (80, .c (.d (.int .i64 b.names.length))) :: (8, .c (.map 3)) :: baseT a b)
    (fun x => [box5, .dead, boxT Tg N, .map (mapC x.2)])
    (fun x => b.names.length - x.1) (0, a.names.zip a.fields) [0, 1, 2, 3] ⟨by simp, mapAt_0 Ma⟩ h0 fun ⟨j, l⟩ ⟨h1, hI⟩ => ?_
  unfold lp_coerce_compose_4
  simp only at h1 hI
  simp
  refine gd.mk (fun h => ?_) (fun h => ?_)
  · have hj : j < b.names.length := by simpa using h
    have hj' : j < b.fields.length := by have := Mb.len; omega
    have hf : fieldC b b.names[j] = b.fields[j] := atN_get hj hj' (ltB_nodup Mb.names)
    have hcon : b.names[j] ∈ l.map (·.1) ↔ b.names[j] ∈ a.names := by
      rw [hI.1]
      simp only [List.mem_append, List.mem_filter]
      exact ⟨fun h => h.elim id fun h => absurd h.1 (not_take (ltB_nodup Mb.names) hj), .inl⟩
    have hnext := fun d hd => mapAt_1 (d := d) Ma Mb hj hI hd
    rw [hf] at hnext
    simp [List.getElem?_eq_getElem hj, List.getElem?_eq_getElem hj']
    by_cases hk : b.names[j] ∈ l.map (·.1)
    · have hka := hcon.1 hk
      have hat : atC l b.names[j] = fieldC a b.names[j] := by
        rw [hI.2 _ hk, if_neg (not_take (ltB_nodup Mb.names) hj)]
      obtain ⟨i', hi⟩ := mfindC_is (l := l) 0 hk
      rcases mfind_set b.names[j] b.fields[j] l 0 with ⟨i, w, m1, m2⟩ | ⟨m1, m2⟩
      rotate_left
      · rw [hi] at m1; cases m1
      rw [hi] at m1
      simp only [Option.some.injEq, Prod.mk.injEq] at m1
      obtain ⟨rfl, rfl⟩ := m1
      rw [hat] at hi
      simp [hi, m2]
      have hk2 : b.names[j] ∈ (setC l b.names[j] b.fields[j]).map (·.1) := by rw [setC_keys, if_pos hk]; exact hk
      have hcall := H1 _ hka (List.getElem_mem hj)
      rw [hf] at hcall
      refine callK.mk hcall ?_
      simp
      rcases mfind_set b.names[j] (v (fieldC a b.names[j]) b.fields[j]) (setC l b.names[j] b.fields[j]) 0 with ⟨i2, w, m3, m4⟩ | ⟨m3, m4⟩
      rotate_left
      · obtain ⟨i3, hi3⟩ := mfindC_is (l := setC l b.names[j] b.fields[j]) 0 hk2
        rw [hi3] at m3; cases m3
      simp [m2, m3, m4, setC_set]
      refine ⟨by decide, ?_⟩
      refine Abs.Next.mk (j + 1, setC l b.names[j] (v (fieldC a b.names[j]) b.fields[j])) [0, 1, 2, 3] ⟨by simp; omega, hnext _ rfl⟩ (by simp; omega) ?_
      simp
      exact ⟨wrap_i64 (by omega) (by omega), fun a b h => mapC_lt h⟩
    · have hka : b.names[j] ∉ a.names := fun h => hk (hcon.2 h)
      rcases mfind_set b.names[j] b.fields[j] l 0 with ⟨i, w, m1, m2⟩ | ⟨m1, m2⟩
      · rw [mfindC_not 0 hk] at m1; cases m1
      simp [m1, m2]
      have hz0 : fieldC a b.names[j] = idC := atN_not hka
      have hu' := hu b.names[j]
      rw [hf] at hu'
      refine Abs.Next.mk (j + 1, setC l b.names[j] b.fields[j]) [0, 1, 2, 3] ⟨by simp; omega, hnext _ (by rw [hz0, hu'])⟩ (by simp; omega) ?_
      simp
      exact ⟨wrap_i64 (by omega) (by omega), fun a b h => mapC_lt h⟩
  · have hj : j = b.names.length := by simp at h; omega
    subst hj
    exact hQ _ l hI (by simp) (by simp) (by simp) (by simp) (by simp)
end Go.Gr

/- The program's composing, walked as a whole. -/
set_option linter.unusedVariables false
set_option linter.unusedSimpArgs false
namespace Go.Gr
open Go.Abs Go.Proofs

@[simp] theorem encS_nil : encS [] = [] := rfl
@[simp] theorem encN_nil : encN [] = [] := rfl
@[simp] theorem encI_nil : encI [] = [] := rfl
/-- a state, of which some things alone are said -/
theorem St.forget {F : St → Prop} {t : List (Nat × AV)} {m : Hp} {n : Nat} (R : List (Nat × AV) → Hp → Prop) (hr : R t m) (h : ∀ T M, R T M → F ⟨T, M, n⟩) : F ⟨t, m, n⟩ := h t m hr

/-- what a walk through composing is told -/
structure CmpH (v : Coe → Coe → Coe) (a b : Coe) : Prop where
  Ma : May a
  Mb : May b
  v0 : v idC idC = idC
  hu : ∀ k, v (fieldC a k) idC = fieldC a k ∧ v idC (fieldC b k) = fieldC b k
  sa : Small1 536870912 a
  sb : Small1 536870912 b
  H1 : ∀ k, k ∈ a.names → k ∈ b.names → PCall Pg F.coerce_compose [.agg (fieldC a k).enc, .agg (fieldC b k).enc] (.agg (v (fieldC a k) (fieldC b k)).enc)
  H2 : 0 < a.fn.length + b.fn.length → PCall Pg F.coerce_compose [.agg (pairC b).1.enc, .agg (pairC a).1.enc] (.agg (v (pairC b).1 (pairC a).1).enc)
  H3 : 0 < a.fn.length + b.fn.length → PCall Pg F.coerce_compose [.agg (pairC a).2.enc, .agg (pairC b).2.enc] (.agg (v (pairC a).2 (pairC b).2).enc)

theorem May.fn_len {c : Coe} (h : May c) : c.fn.length = 0 ∨ c.fn.length = 2 := by
  rcases h.fn with e | ⟨f, g, e, _⟩ <;> rw [e] <;> simp
theorem node_fn {v : Coe → Coe → Coe} {a b : Coe} (H : CmpH v a b) : (nodeC v a b).fn = if tagZ (nodeC v a b) 5 = 0 ∧ 0 < a.fn.length + b.fn.length then funC (v (pairC b).1 (pairC a).1) (v (pairC a).2 (pairC b).2) else [] := by
  have h0 : (nodeC v a b).fn = if tagZ (nodeC v a b) 5 = 0 then funC (v (pairC b).1 (pairC a).1) (v (pairC a).2 (pairC b).2) else [] := rfl
  rw [h0]
  by_cases q : tagZ (nodeC v a b) 5 = 0
  · by_cases r : 0 < a.fn.length + b.fn.length
    · rw [if_pos q, if_pos ⟨q, r⟩]
    · have ea : a.fn = [] := List.length_eq_zero_iff.1 (by omega)
      have eb : b.fn = [] := List.length_eq_zero_iff.1 (by omega)
      have pa : pairC a = (idC, idC) := by unfold pairC; rw [ea]
      have pb : pairC b = (idC, idC) := by unfold pairC; rw [eb]
      rw [if_pos q, if_neg (fun h => r h.2), pa, pb]
      unfold funC
      simp [H.v0, sameC_rfl]
  · rw [if_neg q, if_neg (fun h => q h.1)]

set_option maxRecDepth 20000 in
set_option maxHeartbeats 1000000 in
theorem compose_A {v : Coe → Coe → Coe} {a b : Coe} (H : CmpH v a b) (q4 : tagZ a 4 = 0) (r4 : tagZ (nodeC v a b) 4 = 0) : PCall Pg F.coerce_compose [.agg a.enc, .agg b.enc] (.agg (nodeC v a b).enc) := by
  have Ma := H.Ma
  have Mb := H.Mb
  have sa := H.sa
  have sb := H.sb
  refine w_coerce_compose (by simp) fun o c hN hp => ?_
  have hL : (tagsC a.tags b.tags).length = 6 := tagsC_len Ma.tags Mb.tags
  unfold mc_coerce_compose
  simp
  refine callKM.mk [] IdM (by simp) ?_
  simp
  refine cmp0 hp Ma Mb (by simp) fun S0 e2 e3 e4 e5 => ?_
  have ha4 : a.tags[4]? = some (tagZ a 4) := tag_get Ma.tags (by omega)
  have hc4 : (tagsC a.tags b.tags)[4]? = some (tagZ (nodeC v a b) 4) := tag_get hL (by omega)
  have hc5 : (tagsC a.tags b.tags)[5]? = some (tagZ (nodeC v a b) 5) := tag_get hL (by omega)
  have hE : (nodeC v a b).enc = [.sl false 1 (encI (tagsC a.tags b.tags)), .sl false 2 (encN (nodeC v a b).needs), .sl false 1 (encS (nodeC v a b).names), .sl false 5 ((nodeC v a b).fields.map Coe.enc), .sl false 5 ((nodeC v a b).fn.map Coe.enc)] := Coe.enc_eq _
  have hneeds : (nodeC v a b).needs = needC a b := rfl
  have hnames : (nodeC v a b).names = if tagZ (nodeC v a b) 4 = 0 then (fsC v a b).map (·.1) else [] := rfl
  have hfields : (nodeC v a b).fields = if tagZ (nodeC v a b) 4 = 0 then (fsC v a b).map (·.2) else [] := rfl
  have hfn := node_fn H
  rw [hE, hneeds, hnames, hfields, hfn]
  unfold needC
  clear hE hneeds hnames hfields hfn
  have h6 : 6 ≤ (tagsC a.tags b.tags).length := by omega
  have hnn : a.needs.length ≤ 1073741824 ∧ b.needs.length ≤ 1073741824 := ⟨by have := sa.needs; omega, by have := sb.needs; omega⟩
  have hfl : a.fn.length ≤ 2 ∧ b.fn.length ≤ 2 := ⟨by have := Ma.fn_len; omega, by have := Mb.fn_len; omega⟩
  generalize tagsC a.tags b.tags = T at *
  have htk : (encI T).take 6 = encI T := List.take_of_length_le (by simp [hL])
  simp
  refine fzK.mk [1] ?_
  simp [look_fz, h6, htk, e2, e3, e4, e5]
  refine callK.mk (CloneN_p a.needs hnn.1) ?_
  rw [if_pos q4, if_pos r4, if_pos r4]
  simp [look_fz, ha4, q4, e2, e3, e4, e5]
  refine callK.mk (needs_ok a.needs b.needs hnn.1 hnn.2) ?_
  simp [look_fz, hc4, h6, htk, r4, e2, e3, e4, e5]
  have hal : a.names.length ≤ 1073741824 := by have := sa.fields; have := Ma.len; omega
  have hbl : b.names.length ≤ 1073741824 := by have := sb.fields; have := Mb.len; omega
  refine cmp2 hp (a := a) (b := b) Ma hal T (needsC a.needs b.needs) (by simp [look_fz, e2, e3, e4, e5, h6, htk]) fun S1 e2 e3 e4 e5 e8 => ?_
  simp [e2, e3, e4, e5, e8]
  refine cmp4 hp Ma Mb hbl (fun k => (H.hu k).2) H.H1 T (needsC a.needs b.needs) (by simp [e2, e3, e4, e5, e8]; exact fun a b h => mapC_lt h) fun S2 l hI e2 e3 e4 e5 e8 => ?_
  have hk1 := hI.1
  rw [List.take_length] at hk1
  have hnd : (l.map (·.1)).Nodup := by rw [hk1]; exact keysU_nodup (ltB_nodup Ma.names) (ltB_nodup Mb.names)
  have hlen : l.length ≤ 1073741824 := by
    have e1 : l.length = (l.map (·.1)).length := by simp
    have e2 := List.length_filter_le (fun k => !decide (k ∈ a.names)) b.names
    have := sa.fields; have := sb.fields; have := Ma.len; have := Mb.len
    rw [e1, hk1, List.length_append]; omega
  have hsort : sortS (l.map (·.1)) = keysU a b := by rw [hk1]; rfl
  have hout : outC l (sortS (l.map (·.1))) = fsC v a b := by
    rw [hsort]
    unfold outC fsC busy
    congr 1
    refine List.map_congr_left fun k hk => ?_
    have hk' := keysU_mem.1 hk
    have hkl : k ∈ l.map (·.1) := by
      rw [hk1]; simp only [List.mem_append, List.mem_filter]
      by_cases q : k ∈ a.names
      · exact .inl q
      · exact .inr ⟨hk'.resolve_left q, by simp [q]⟩
    rw [hI.2 k hkl, List.take_length]
    split
    · rfl
    · rename_i q
      have : fieldC b k = idC := atN_not q
      rw [this, (H.hu k).1]
  have hfk := fields_ok (.sl false 1 (encI T)) (.sl false 2 (encN (needsC a.needs b.needs))) (.sl true 5 []) l hnd hlen
  rw [hout] at hfk
  generalize fsC v a b = L at *
  have ht1 : (encS ((L).map (·.1))).take (L).length = encS ((L).map (·.1)) := List.take_of_length_le (by simp)
  have ht2 : ((L).map fun x => x.2.enc).take (L).length = (L).map fun x => x.2.enc := List.take_of_length_le (by simp)
  simp [e2, e3, e4, e5, e8]
  refine callKM.mk [2, 3] hfk (by simp; exact fun a b h => mapC_lt h) ?_
  simp
  refine fzK.mk [4, 5] ?_
  simp only [fzG_cons, upd_at, if_pos, if_neg, reduceIte, Nat.reduceEqDiff, allDD_map, fzM_at, Blk.fz_arr, allDD_comp, fzG_nil]
  refine St.forget (F := w_ Pg c _ _ _) (fun T' M => Abs.look T' 2 = .c (.d (.rp a.enc 0)) ∧ Abs.look T' 3 = .c (.d (.rp b.enc 0)) ∧ Abs.look T' 4 = .c (.ptr 0 0) ∧ Abs.look T' 5 = .c (.ptr 2 0) ∧
    M 0 = box5 ∧ M 2 = .box [.d (.sl false 1 (encI T)), .d (.sl false 2 (encN (needsC a.needs b.needs))), .d (.sl false 1 (encS (L.map (·.1)))), .d (.sl false 5 (L.map fun x => x.2.enc)), .d (.sl true 5 [])] ∧ ∀ i, 6 ≤ i → M i = .non) ?_ fun T' M ⟨e2, e3, e4, e5, m0, m2, mn⟩ => ?_
  · refine ⟨?_, ?_, ?_, ?_, ?_, ?_, fun i hi => ?_⟩
    · simp only [look_fz, look_cons, if_neg, reduceIte, Nat.reduceEqDiff, e2, AV.fz_c, AC.fz_d]
    · simp only [look_fz, look_cons, if_neg, reduceIte, Nat.reduceEqDiff, e3, AV.fz_c, AC.fz_d]
    · simp only [look_fz, look_cons, if_neg, reduceIte, Nat.reduceEqDiff, e4, AV.fz_c, AC.fz_ptr]
    · simp only [look_fz, look_cons, if_neg, reduceIte, Nat.reduceEqDiff, e5, AV.fz_c, AC.fz_ptr]
    · simp [fzM_at]
    · simp [fzM_at, ht1, ht2]
    · have h1 : i ≠ 4 := by omega
      have h2 : i ≠ 5 := by omega
      have h3 : i ≠ 2 := by omega
      have h4 : i ≠ 3 := by omega
      have h5 : hpOf [box5, Blk.dead, boxT T (needsC a.needs b.needs), Blk.map (mapC l)] i = .non := hpOf_out (by simp; omega)
      simp [fzM_at, h1, h2, h3, h4, h5]
  simp [hc5, e2, e3, e4, e5, m0, m2, mn]
  refine gd.mk (fun r5 => gd.mk (fun q5 => ?_) (fun q5 => ?_)) (fun r5 => ?_)
  · simp at r5
    have hw : IntKind.i64.wrap ((a.fn.length : Int) + b.fn.length) = (a.fn.length : Int) + b.fn.length := wrap_i64 (by omega) (by omega)
    have q5' : 0 < a.fn.length + b.fn.length := by
      rw [hw] at q5; simp at q5; omega
    refine callK.mk (pair_ok a Ma.fn_len) ?_
    simp [e2, e3, e4, e5, m0, m2, mn]
    refine callK.mk (pair_ok b Mb.fn_len) ?_
    simp [m0, m2, mn, e2, e3, e4, e5]
    refine callK.mk (H.H2 q5') ?_
    simp [m0, m2, mn, e2, e3, e4, e5]
    refine callK.mk (H.H3 q5') ?_
    simp [m0, m2, mn, e2, e3, e4, e5]
    refine callKM.mk [2] (fun_ok (.sl false 1 (encI T)) (.sl false 2 (encN (needsC a.needs b.needs))) (.sl false 1 (encS ((L).map (·.1)))) (.sl false 5 ((L).map fun x => x.2.enc)) rfl (v (pairC b).1 (pairC a).1) (v (pairC a).2 (pairC b).2)) (by simp [m2]) ?_
    simp [m0, m2, mn, e2, e3, e4, e5]
    refine ⟨by decide, ?_⟩
    simp [r5, q5', e2, e3, e4, e5, m0, m2, mn]
  · simp at r5
    have hw : IntKind.i64.wrap ((a.fn.length : Int) + b.fn.length) = (a.fn.length : Int) + b.fn.length := wrap_i64 (by omega) (by omega)
    have q5' : ¬ 0 < a.fn.length + b.fn.length := by
      rw [hw] at q5; simp at q5; omega
    simp [r5, q5', e2, e3, e4, e5, m0, m2, mn]
  · simp at r5
    simp [r5, e2, e3, e4, e5, m0, m2, mn]
set_option maxRecDepth 20000 in
set_option maxHeartbeats 1000000 in
theorem compose_B {v : Coe → Coe → Coe} {a b : Coe} (H : CmpH v a b) (q4 : tagZ a 4 = 0) (r4 : tagZ (nodeC v a b) 4 ≠ 0) : PCall Pg F.coerce_compose [.agg a.enc, .agg b.enc] (.agg (nodeC v a b).enc) := by
  have Ma := H.Ma
  have Mb := H.Mb
  have sa := H.sa
  have sb := H.sb
  refine w_coerce_compose (by simp) fun o c hN hp => ?_
  have hL : (tagsC a.tags b.tags).length = 6 := tagsC_len Ma.tags Mb.tags
  unfold mc_coerce_compose
  simp
  refine callKM.mk [] IdM (by simp) ?_
  simp
  refine cmp0 hp Ma Mb (by simp) fun S0 e2 e3 e4 e5 => ?_
  have ha4 : a.tags[4]? = some (tagZ a 4) := tag_get Ma.tags (by omega)
  have hc4 : (tagsC a.tags b.tags)[4]? = some (tagZ (nodeC v a b) 4) := tag_get hL (by omega)
  have hc5 : (tagsC a.tags b.tags)[5]? = some (tagZ (nodeC v a b) 5) := tag_get hL (by omega)
  have hE : (nodeC v a b).enc = [.sl false 1 (encI (tagsC a.tags b.tags)), .sl false 2 (encN (nodeC v a b).needs), .sl false 1 (encS (nodeC v a b).names), .sl false 5 ((nodeC v a b).fields.map Coe.enc), .sl false 5 ((nodeC v a b).fn.map Coe.enc)] := Coe.enc_eq _
  have hneeds : (nodeC v a b).needs = needC a b := rfl
  have hnames : (nodeC v a b).names = if tagZ (nodeC v a b) 4 = 0 then (fsC v a b).map (·.1) else [] := rfl
  have hfields : (nodeC v a b).fields = if tagZ (nodeC v a b) 4 = 0 then (fsC v a b).map (·.2) else [] := rfl
  have hfn := node_fn H
  rw [hE, hneeds, hnames, hfields, hfn]
  unfold needC
  clear hE hneeds hnames hfields hfn
  have h6 : 6 ≤ (tagsC a.tags b.tags).length := by omega
  have hnn : a.needs.length ≤ 1073741824 ∧ b.needs.length ≤ 1073741824 := ⟨by have := sa.needs; omega, by have := sb.needs; omega⟩
  have hfl : a.fn.length ≤ 2 ∧ b.fn.length ≤ 2 := ⟨by have := Ma.fn_len; omega, by have := Mb.fn_len; omega⟩
  generalize tagsC a.tags b.tags = T at *
  have htk : (encI T).take 6 = encI T := List.take_of_length_le (by simp [hL])
  simp
  refine fzK.mk [1] ?_
  simp [look_fz, h6, htk, e2, e3, e4, e5]
  refine callK.mk (CloneN_p a.needs hnn.1) ?_
  rw [if_pos q4, if_neg r4, if_neg r4]
  simp [look_fz, ha4, q4, e2, e3, e4, e5]
  refine callK.mk (needs_ok a.needs b.needs hnn.1 hnn.2) ?_
  simp [look_fz, hc4, h6, htk, r4, e2, e3, e4, e5]
  refine fzK.mk [] ?_
  simp only [fzG_nil]
  refine St.forget (F := w_ Pg c _ _ _) (fun T' M => Abs.look T' 2 = .c (.d (.rp a.enc 0)) ∧ Abs.look T' 3 = .c (.d (.rp b.enc 0)) ∧ Abs.look T' 4 = .c (.ptr 0 0) ∧ Abs.look T' 5 = .c (.ptr 2 0) ∧
    M 0 = box5 ∧ M 2 = .box [.d (.sl false 1 (encI T)), .d (.sl false 2 (encN (needsC a.needs b.needs))), .d (.sl true 1 []), .d (.sl true 5 []), .d (.sl true 5 [])] ∧ ∀ i, 3 ≤ i → M i = .non) ?_ fun T' M ⟨e2, e3, e4, e5, m0, m2, mn⟩ => ?_
  · refine ⟨?_, ?_, ?_, ?_, ?_, ?_, fun i hi => ?_⟩
    · simp only [look_fz, look_cons, if_neg, reduceIte, Nat.reduceEqDiff, e2, AV.fz_c, AC.fz_d]
    · simp only [look_fz, look_cons, if_neg, reduceIte, Nat.reduceEqDiff, e3, AV.fz_c, AC.fz_d]
    · simp only [look_fz, look_cons, if_neg, reduceIte, Nat.reduceEqDiff, e4, AV.fz_c, AC.fz_ptr]
    · simp only [look_fz, look_cons, if_neg, reduceIte, Nat.reduceEqDiff, e5, AV.fz_c, AC.fz_ptr]
    · simp [fzM_at]
    · simp [fzM_at, h6, htk]
    · have h1 : i ≠ 1 := by omega
      have h2 : i ≠ 2 := by omega
      have h5 : hpOf [box5, Blk.arr 1 (List.map (fun x => List.map AC.d x) (encI T)), Blk.box [AC.msl 1 1 0 6, AC.d (D.sl true 2 []), AC.d (D.sl true 1 []), AC.d (D.sl true 5 []), AC.d (D.sl true 5 [])]] i = .non := hpOf_out (by simp; omega)
      simp [fzM_at, h1, h2, h5]
  simp [hc5, e2, e3, e4, e5, m0, m2, mn]
  refine gd.mk (fun r5 => gd.mk (fun q5 => ?_) (fun q5 => ?_)) (fun r5 => ?_)
  · simp at r5
    have hw : IntKind.i64.wrap ((a.fn.length : Int) + b.fn.length) = (a.fn.length : Int) + b.fn.length := wrap_i64 (by omega) (by omega)
    have q5' : 0 < a.fn.length + b.fn.length := by
      rw [hw] at q5; simp at q5; omega
    refine callK.mk (pair_ok a Ma.fn_len) ?_
    simp [e2, e3, e4, e5, m0, m2, mn]
    refine callK.mk (pair_ok b Mb.fn_len) ?_
    simp [m0, m2, mn, e2, e3, e4, e5]
    refine callK.mk (H.H2 q5') ?_
    simp [m0, m2, mn, e2, e3, e4, e5]
    refine callK.mk (H.H3 q5') ?_
    simp [m0, m2, mn, e2, e3, e4, e5]
    refine callKM.mk [2] (fun_ok (.sl false 1 (encI T)) (.sl false 2 (encN (needsC a.needs b.needs))) (.sl true 1 []) (.sl true 5 []) rfl (v (pairC b).1 (pairC a).1) (v (pairC a).2 (pairC b).2)) (by simp [m2]) ?_
    simp [m0, m2, mn, e2, e3, e4, e5]
    refine ⟨by decide, ?_⟩
    simp [r5, q5', e2, e3, e4, e5, m0, m2, mn]
  · simp at r5
    have hw : IntKind.i64.wrap ((a.fn.length : Int) + b.fn.length) = (a.fn.length : Int) + b.fn.length := wrap_i64 (by omega) (by omega)
    have q5' : ¬ 0 < a.fn.length + b.fn.length := by
      rw [hw] at q5; simp at q5; omega
    simp [r5, q5', e2, e3, e4, e5, m0, m2, mn]
  · simp at r5
    simp [r5, e2, e3, e4, e5, m0, m2, mn]
set_option maxRecDepth 20000 in
set_option maxHeartbeats 1000000 in
theorem compose_C {v : Coe → Coe → Coe} {a b : Coe} (H : CmpH v a b) (q4 : tagZ a 4 ≠ 0) (r4 : tagZ (nodeC v a b) 4 ≠ 0) : PCall Pg F.coerce_compose [.agg a.enc, .agg b.enc] (.agg (nodeC v a b).enc) := by
  have Ma := H.Ma
  have Mb := H.Mb
  have sa := H.sa
  have sb := H.sb
  refine w_coerce_compose (by simp) fun o c hN hp => ?_
  have hL : (tagsC a.tags b.tags).length = 6 := tagsC_len Ma.tags Mb.tags
  unfold mc_coerce_compose
  simp
  refine callKM.mk [] IdM (by simp) ?_
  simp
  refine cmp0 hp Ma Mb (by simp) fun S0 e2 e3 e4 e5 => ?_
  have ha4 : a.tags[4]? = some (tagZ a 4) := tag_get Ma.tags (by omega)
  have hc4 : (tagsC a.tags b.tags)[4]? = some (tagZ (nodeC v a b) 4) := tag_get hL (by omega)
  have hc5 : (tagsC a.tags b.tags)[5]? = some (tagZ (nodeC v a b) 5) := tag_get hL (by omega)
  have hE : (nodeC v a b).enc = [.sl false 1 (encI (tagsC a.tags b.tags)), .sl false 2 (encN (nodeC v a b).needs), .sl false 1 (encS (nodeC v a b).names), .sl false 5 ((nodeC v a b).fields.map Coe.enc), .sl false 5 ((nodeC v a b).fn.map Coe.enc)] := Coe.enc_eq _
  have hneeds : (nodeC v a b).needs = needC a b := rfl
  have hnames : (nodeC v a b).names = if tagZ (nodeC v a b) 4 = 0 then (fsC v a b).map (·.1) else [] := rfl
  have hfields : (nodeC v a b).fields = if tagZ (nodeC v a b) 4 = 0 then (fsC v a b).map (·.2) else [] := rfl
  have hfn := node_fn H
  rw [hE, hneeds, hnames, hfields, hfn]
  unfold needC
  clear hE hneeds hnames hfields hfn
  have h6 : 6 ≤ (tagsC a.tags b.tags).length := by omega
  have hnn : a.needs.length ≤ 1073741824 ∧ b.needs.length ≤ 1073741824 := ⟨by have := sa.needs; omega, by have := sb.needs; omega⟩
  have hfl : a.fn.length ≤ 2 ∧ b.fn.length ≤ 2 := ⟨by have := Ma.fn_len; omega, by have := Mb.fn_len; omega⟩
  generalize tagsC a.tags b.tags = T at *
  have htk : (encI T).take 6 = encI T := List.take_of_length_le (by simp [hL])
  simp
  refine fzK.mk [1] ?_
  simp [look_fz, h6, htk, e2, e3, e4, e5]
  refine callK.mk (CloneN_p a.needs hnn.1) ?_
  rw [if_neg q4, if_neg r4, if_neg r4]
  simp [look_fz, ha4, hc4, h6, htk, r4, q4, e2, e3, e4, e5]
  refine fzK.mk [] ?_
  simp only [fzG_nil]
  refine St.forget (F := w_ Pg c _ _ _) (fun T' M => Abs.look T' 2 = .c (.d (.rp a.enc 0)) ∧ Abs.look T' 3 = .c (.d (.rp b.enc 0)) ∧ Abs.look T' 4 = .c (.ptr 0 0) ∧ Abs.look T' 5 = .c (.ptr 2 0) ∧
    M 0 = box5 ∧ M 2 = .box [.d (.sl false 1 (encI T)), .d (.sl false 2 (encN a.needs)), .d (.sl true 1 []), .d (.sl true 5 []), .d (.sl true 5 [])] ∧ ∀ i, 3 ≤ i → M i = .non) ?_ fun T' M ⟨e2, e3, e4, e5, m0, m2, mn⟩ => ?_
  · refine ⟨?_, ?_, ?_, ?_, ?_, ?_, fun i hi => ?_⟩
    · simp only [look_fz, look_cons, if_neg, reduceIte, Nat.reduceEqDiff, e2, AV.fz_c, AC.fz_d]
    · simp only [look_fz, look_cons, if_neg, reduceIte, Nat.reduceEqDiff, e3, AV.fz_c, AC.fz_d]
    · simp only [look_fz, look_cons, if_neg, reduceIte, Nat.reduceEqDiff, e4, AV.fz_c, AC.fz_ptr]
    · simp only [look_fz, look_cons, if_neg, reduceIte, Nat.reduceEqDiff, e5, AV.fz_c, AC.fz_ptr]
    · simp [fzM_at]
    · simp [fzM_at, h6, htk]
    · have h1 : i ≠ 1 := by omega
      have h2 : i ≠ 2 := by omega
      have h5 : hpOf [box5, Blk.arr 1 (List.map (fun x => List.map AC.d x) (encI T)), Blk.box [AC.msl 1 1 0 6, AC.d (D.sl true 2 []), AC.d (D.sl true 1 []), AC.d (D.sl true 5 []), AC.d (D.sl true 5 [])]] i = .non := hpOf_out (by simp; omega)
      simp [fzM_at, h1, h2, h5]
  simp [hc5, e2, e3, e4, e5, m0, m2, mn]
  refine gd.mk (fun r5 => gd.mk (fun q5 => ?_) (fun q5 => ?_)) (fun r5 => ?_)
  · simp at r5
    have hw : IntKind.i64.wrap ((a.fn.length : Int) + b.fn.length) = (a.fn.length : Int) + b.fn.length := wrap_i64 (by omega) (by omega)
    have q5' : 0 < a.fn.length + b.fn.length := by
      rw [hw] at q5; simp at q5; omega
    refine callK.mk (pair_ok a Ma.fn_len) ?_
    simp [e2, e3, e4, e5, m0, m2, mn]
    refine callK.mk (pair_ok b Mb.fn_len) ?_
    simp [m0, m2, mn, e2, e3, e4, e5]
    refine callK.mk (H.H2 q5') ?_
    simp [m0, m2, mn, e2, e3, e4, e5]
    refine callK.mk (H.H3 q5') ?_
    simp [m0, m2, mn, e2, e3, e4, e5]
    refine callKM.mk [2] (fun_ok (.sl false 1 (encI T)) (.sl false 2 (encN a.needs)) (.sl true 1 []) (.sl true 5 []) rfl (v (pairC b).1 (pairC a).1) (v (pairC a).2 (pairC b).2)) (by simp [m2]) ?_
    simp [m0, m2, mn, e2, e3, e4, e5]
    refine ⟨by decide, ?_⟩
    simp [r5, q5', e2, e3, e4, e5, m0, m2, mn]
  · simp at r5
    have hw : IntKind.i64.wrap ((a.fn.length : Int) + b.fn.length) = (a.fn.length : Int) + b.fn.length := wrap_i64 (by omega) (by omega)
    have q5' : ¬ 0 < a.fn.length + b.fn.length := by
      rw [hw] at q5; simp at q5; omega
    simp [r5, q5', e2, e3, e4, e5, m0, m2, mn]
  · simp at r5
    simp [r5, e2, e3, e4, e5, m0, m2, mn]

theorem compose_one {v : Coe → Coe → Coe} {a b : Coe} (H : CmpH v a b) : PCall Pg F.coerce_compose [.agg a.enc, .agg b.enc] (.agg (nodeC v a b).enc) := by
  by_cases q4 : tagZ a 4 = 0
  · by_cases r4 : tagZ (nodeC v a b) 4 = 0
    · exact compose_A H q4 r4
    · exact compose_B H q4 r4
  · exact compose_C H q4 (by rw [node_tag H.Ma H.Mb, if_neg q4]; exact q4)
end Go.Gr

/- Compose, to any depth. -/
set_option linter.unusedVariables false
set_option linter.unusedSimpArgs false
namespace Go.Gr
open Go.Abs Go.Proofs

mutual
/-- no list within is longer -/
def smC (B : Nat) : Coe → Prop
  | .mk t n s f g => n.length ≤ B ∧ f.length ≤ B ∧ g.length ≤ B ∧ smCs B f ∧ smCs B g
def smCs (B : Nat) : List Coe → Prop
  | [] => True
  | c :: l => smC B c ∧ smCs B l
end
theorem smCs_iff (B : Nat) : ∀ l : List Coe, smCs B l ↔ ∀ x, x ∈ l → smC B x
  | [] => by simp [smCs]
  | c :: l => by simp [smCs, smCs_iff B l]
theorem smC_iff (B : Nat) (d : Coe) : smC B d ↔ d.needs.length ≤ B ∧ d.fields.length ≤ B ∧ d.fn.length ≤ B ∧ (∀ x, x ∈ d.fields → smC B x) ∧ ∀ x, x ∈ d.fn → smC B x := by
  cases d
  simp only [smC, smCs_iff, Coe.needs, Coe.fields, Coe.fn]
theorem smC_id (B : Nat) : smC B idC := by simp [smC, idC, smCs]
theorem smC_field {B : Nat} {c : Coe} (h : smC B c) (hl : c.names.length = c.fields.length) (k : ByteArray) : smC B (fieldC c k) := by
  unfold fieldC
  by_cases q : k ∈ c.names
  · exact ((smC_iff B c).1 h).2.2.2.1 _ (atN_mem hl q)
  · rw [atN_not q]; exact smC_id B
theorem smC_pair {B : Nat} {c : Coe} (h : smC B c) : smC B (pairC c).1 ∧ smC B (pairC c).2 := by
  have h' := ((smC_iff B c).1 h).2.2.2.2
  unfold pairC
  split
  · rename_i f g l e
    rw [e] at h'
    exact ⟨h' f (by simp), h' g (by simp)⟩
  · exact ⟨smC_id B, smC_id B⟩
theorem smC_small {B : Nat} {c : Coe} (h : smC B c) : Small1 B c := by
  have := (smC_iff B c).1 h
  exact ⟨this.1, this.2.1, this.2.2.1⟩
theorem smC_le {B B' : Nat} (hB : B ≤ B') : ∀ (n : Nat) {c : Coe}, inN n c → smC B c → smC B' c
  | 0, c, hn, h => by
    have : c = idC := hn
    rw [this]; exact smC_id B'
  | n + 1, c, hn, h => by
    rw [smC_iff] at h ⊢
    exact ⟨by omega, by omega, by omega, fun x hx => smC_le hB n (hn.1 x hx) (h.2.2.2.1 x hx), fun x hx => smC_le hB n (hn.2 x hx) (h.2.2.2.2 x hx)⟩
theorem needsC_len (a b : List (ByteArray × Int)) : (needsC a b).length ≤ a.length + b.length := by
  unfold needsC
  have := List.length_filter_le (fun n : ByteArray × Int => !a.any fun m => decide (m.1 = n.1)) b
  rw [List.length_append]; omega
theorem keysU_len (a b : Coe) : (keysU a b).length ≤ a.names.length + b.names.length := by
  unfold keysU sortS
  have := List.length_filter_le (fun k => !decide (k ∈ a.names)) b.names
  simp only [List.length_map, List.length_mergeSort, List.length_append]; omega
theorem smC_comp {A B : Nat} (hAB : 2 ≤ A + B) : ∀ (n : Nat) {a b : Coe}, inN n a → inN n b → mayC a = true → mayC b = true → smC A a → smC B b → smC (A + B) (compN n a b) ∧ smC (A + B) (compN n b a)
  | 0, _, _, _, _, _, _, _, _ => ⟨smC_id _, smC_id _⟩
  | n + 1, a, b, ia, ib, ma, mb, sa, sb => by
    have Ma := (mayC_iff _).1 ma
    have Mb := (mayC_iff _).1 mb
    have ta := (smC_iff A a).1 sa
    have tb := (smC_iff B b).1 sb
    have la := Ma.len
    have lb := Mb.len
    have ihf := fun k => smC_comp hAB n (inN_field ia Ma.len k) (inN_field ib Mb.len k) (Ma.field k) (Mb.field k) (smC_field sa Ma.len k) (smC_field sb Mb.len k)
    have ih1 := smC_comp hAB n (inN_pair ia).1 (inN_pair ib).1 Ma.pair.1 Mb.pair.1 (smC_pair sa).1 (smC_pair sb).1
    have ih2 := smC_comp hAB n (inN_pair ia).2 (inN_pair ib).2 Ma.pair.2 Mb.pair.2 (smC_pair sa).2 (smC_pair sb).2
    have key : ∀ (c d : Coe), c.needs.length + d.needs.length ≤ A + B → c.names.length + d.names.length ≤ A + B → (∀ k, smC (A + B) (compN n (fieldC c k) (fieldC d k))) → smC (A + B) (compN n (pairC d).1 (pairC c).1) → smC (A + B) (compN n (pairC c).2 (pairC d).2) → smC (A + B) (nodeC (compN n) c d) := fun c d h1 h2 h3 h4 h5 => by
      rw [smC_iff]
      have hb : (fsC (compN n) c d).length ≤ A + B := by
        unfold fsC busy
        refine Nat.le_trans (List.length_filter_le _ _) ?_
        rw [List.length_map]
        exact Nat.le_trans (keysU_len c d) h2
      refine ⟨?_, ?_, ?_, ?_, ?_⟩
      · show (needC c d).length ≤ A + B
        unfold needC
        split
        · exact Nat.le_trans (needsC_len _ _) h1
        · omega
      · unfold nodeC; simp only [Coe.fields]
        split
        · rw [List.length_map]; exact hb
        · simp
      · unfold nodeC; simp only [Coe.fn]
        split
        · unfold funC; split
          · simp
          · simpa using hAB
        · simp
      · intro x hx
        unfold nodeC at hx; simp only [Coe.fields] at hx
        split at hx
        · unfold fsC busy at hx
          simp only [List.mem_map, List.mem_filter] at hx
          obtain ⟨y, ⟨⟨k, _, rfl⟩, _⟩, rfl⟩ := hx
          exact h3 k
        · cases hx
      · intro x hx
        unfold nodeC at hx; simp only [Coe.fn] at hx
        split at hx
        · unfold funC at hx
          split at hx
          · cases hx
          · simp only [List.mem_cons, List.not_mem_nil, or_false] at hx
            rcases hx with rfl | rfl
            · exact h4
            · exact h5
        · cases hx
    exact ⟨key a b (by omega) (by omega) (fun k => (ihf k).1) ih1.2 ih2.1, key b a (by omega) (by omega) (fun k => (ihf k).2) ih1.1 ih2.2⟩

theorem compose_ok : ∀ (n : Nat) {a b : Coe}, inN n a → inN n b → mayC a = true → mayC b = true → smC 536870912 a → smC 536870912 b → PCall Pg F.coerce_compose [.agg a.enc, .agg b.enc] (.agg (compN n a b).enc)
  | 0, a, b, ia, ib, ma, mb, sa, sb => by
    have ea : a = idC := ia
    have eb : b = idC := ib
    have e : compN 0 a b = nodeC (compN 0) a b := by rw [ea, eb]; exact (comp_id 1).symm
    rw [e]
    refine compose_one ⟨(mayC_iff _).1 ma, (mayC_iff _).1 mb, rfl, fun k => ?_, smC_small sa, smC_small sb, fun k hk => ?_, fun h => ?_, fun h => ?_⟩
    · rw [ea, eb]; exact ⟨rfl, rfl⟩
    · rw [ea] at hk; cases hk
    · rw [ea, eb] at h; simp [idC, Coe.fn] at h
    · rw [ea, eb] at h; simp [idC, Coe.fn] at h
  | n + 1, a, b, ia, ib, ma, mb, sa, sb => by
    have Ma := (mayC_iff _).1 ma
    have Mb := (mayC_iff _).1 mb
    refine compose_one ⟨Ma, Mb, comp_id n, fun k => ⟨(comp_unit n _ (inN_field ia Ma.len k) (Ma.field k)).1, (comp_unit n _ (inN_field ib Mb.len k) (Mb.field k)).2⟩, smC_small sa, smC_small sb, fun k _ _ => ?_, fun _ => ?_, fun _ => ?_⟩
    · exact compose_ok n (inN_field ia Ma.len k) (inN_field ib Mb.len k) (Ma.field k) (Mb.field k) (smC_field sa Ma.len k) (smC_field sb Mb.len k)
    · exact compose_ok n (inN_pair ib).1 (inN_pair ia).1 Mb.pair.1 Ma.pair.1 (smC_pair sb).1 (smC_pair sa).1
    · exact compose_ok n (inN_pair ia).2 (inN_pair ib).2 Ma.pair.2 Mb.pair.2 (smC_pair sa).2 (smC_pair sb).2

/-- Compose -/
def compC (n : Nat) (a b : Coe) : Coe := if (mayC a && mayC b) = true then compN n a b else noC
theorem Compose_ok (n : Nat) {a b : Coe} (ia : inN n a) (ib : inN n b) (sa : smC 536870912 a) (sb : smC 536870912 b) : PCall Pg F.coerce_Compose [.agg a.enc, .agg b.enc] (.agg (compC n a b).enc) := by
  refine w_coerce_Compose (by simp) fun o c hN hp => ?_
  unfold mc_coerce_Compose compC
  simp
  refine callK.mk (cMay_ok a) ?_
  simp
  refine gd.mk (fun h1 => ?_) (fun h1 => ?_)
  · simp at h1
    refine callK.mk (cMay_ok b) ?_
    simp
    refine gd.mk (fun h2 => ?_) (fun h2 => ?_)
    · simp at h2
      simp [h2, noC, Coe.enc, Coe.encs]
    · simp at h2
      refine callK.mk (compose_ok n ia ib h1 h2 sa sb) ?_
      simp [h1, h2]
  · simp at h1
    simp [h1, noC, Coe.enc, Coe.encs]
end Go.Gr

/- How many coercions stand in one. -/
set_option linter.unusedVariables false
set_option linter.unusedSimpArgs false
namespace Go.Gr
open Go.Abs Go.Proofs

mutual
def sizC : Coe → Nat
  | .mk t n s f g => 1 + (sizCs f + sizCs g)
def sizCs : List Coe → Nat
  | [] => 0
  | c :: l => sizC c + sizCs l
end
theorem sizCs_app : ∀ a b : List Coe, sizCs (a ++ b) = sizCs a + sizCs b
  | [], b => by simp [sizCs]
  | x :: a, b => by simp [sizCs, sizCs_app a b]; omega
theorem sizC_eq (c : Coe) : sizC c = 1 + sizCs (c.fields ++ c.fn) := by
  cases c; simp [sizC, Coe.fields, Coe.fn, sizCs_app]
theorem sizCs_mem : ∀ {l : List Coe} {x : Coe}, x ∈ l → sizC x ≤ sizCs l
  | c :: l, x, h => by
    rcases List.mem_cons.1 h with rfl | h
    · simp [sizCs]
    · have := sizCs_mem h; simp [sizCs]; omega

theorem Size_one (d : Coe) (hs : sizC d ≤ 1073741824) (sd : Small1 536870912 d) (ih : ∀ x, x ∈ d.fields ++ d.fn → PCall Pg F.coerce_Size [.agg x.enc] (.one (.int .i64 (sizC x)))) : PCall Pg F.coerce_Size [.agg d.enc] (.one (.int .i64 (sizC d))) := by
  have hf := sd.fields
  have hg := sd.fn
  refine w_coerce_Size (by simp) fun o c hN hp => ?_
  unfold mc_coerce_Size
  simp
  refine callKM.mk [] (CloneC_ok d.fields (by omega)) (by simp) ?_
  simp
  refine ⟨by omega, by decide, ?_⟩
  have hL : (List.map ((fun x => List.map AC.d x) ∘ Coe.enc) d.fields).take d.fields.length ++ List.map ((fun x => List.map AC.d x) ∘ Coe.enc) d.fn = ((d.fields ++ d.fn).map Coe.enc).map (·.map .d) := by
    rw [List.take_of_length_le (by simp)]; simp
  have hlen : d.fields.length + d.fn.length = (d.fields ++ d.fn).length := by simp
  have hlenI : (d.fields.length : Int) + d.fn.length = ((d.fields ++ d.fn).length : Nat) := by simp
  rw [hL, hlen, hlenI, sizC_eq]
  have hs' := hs
  rw [sizC_eq] at hs'
  generalize d.fields ++ d.fn = L at *
  have hle : L.length ≤ 1073741824 := by omega
  refine W.loopL Pg_mixed hp lv_coerce_Size_0 [13, 3] (fun j : Nat => j ≤ L.length) (fun j => [.c (.d (.int .i64 j)), .c (.d (.int .i64 (1 + sizCs (L.take j) : Nat)))])
    (fun j => [.dead, .arr 5 ((L.map Coe.enc).map (·.map .d))]) (fun j => L.length - j) 0 [0, 1] (by simp) (by simp [lv_coerce_Size_0, sizCs]) fun j h1 => ?_
  unfold lp_coerce_Size_0 lv_coerce_Size_0
  simp
  refine gd.mk (fun h => ?_) (fun h => ?_)
  · have hj : j < L.length := by simpa using h
    simp [List.getElem?_eq_getElem hj]
    refine ⟨hj, callK.mk (ih _ (List.getElem_mem hj)) ?_⟩
    simp
    have hsum : sizCs (L.take (j + 1)) = sizCs (L.take j) + sizC L[j] := by
      rw [List.take_succ_eq_append_getElem hj, sizCs_app]; simp [sizCs]
    have hb : sizCs (L.take (j + 1)) ≤ sizCs L := by
      have := sizCs_app (L.take (j + 1)) (L.drop (j + 1))
      rw [List.take_append_drop] at this; omega
    refine Abs.Next.mk (j + 1) [0, 1] (by omega) (by omega) ?_
    simp [hsum]
    exact ⟨wrap_i64 (by omega) (by omega), by rw [wrap_i64 (by omega) (by omega)]; omega⟩
  · have hj : j = L.length := by simp at h; omega
    subst hj
    simp

theorem Size_ok : ∀ (n : Nat) {d : Coe}, inN n d → sizC d ≤ 1073741824 → smC 536870912 d → PCall Pg F.coerce_Size [.agg d.enc] (.one (.int .i64 (sizC d)))
  | 0, d, hi, hs, sd => Size_one d hs (smC_small sd) fun x hx => by
      have : d = idC := hi
      rw [this] at hx; cases hx
  | n + 1, d, hi, hs, sd => Size_one d hs (smC_small sd) fun x hx => by
      have sd' := (smC_iff _ _).1 sd
      have hm := sizCs_mem hx
      rw [sizC_eq] at hs
      rcases List.mem_append.1 hx with h | h
      · exact Size_ok n (hi.1 x h) (by omega) (sd'.2.2.2.1 x h)
      · exact Size_ok n (hi.2 x h) (by omega) (sd'.2.2.2.2 x h)
end Go.Gr
