/- The reference's field, pair, put. -/
import Derived.Test.YtkgomampbengjaaGreatDoorRn
import Derived.Test.YtkgomampbengjaaGreatDoorCoV
set_option linter.unusedVariables false
set_option linter.unusedSimpArgs false
namespace Go.Gr
open Go.Abs Go.Proofs

theorem rfield_ok (d : Coe) (k : ByteArray) (hn : d.names.length = d.fields.length) (hl : d.names.length ≤ 536870912) : PCall Pg F.gradusref10_field [.agg d.enc, .one (.str k)] (.agg (fieldC d k).enc) := by
  refine w_gradusref10_field (by simp) fun o c hN hp => ?_
  unfold mc_gradusref10_field
  simp
  refine W.loopL Pg_mixed hp lv_gradusref10_field_0 [5] (fun j : Nat => j ≤ d.names.length ∧ atN (d.names.drop j) (d.fields.drop j) k = fieldC d k) (fun j => [.c (.d (.int .i64 j))])
    (fun _ => [box5]) (fun j => d.names.length - j) 0 [0] ⟨by simp, by simp [fieldC]⟩ (by simp [lv_gradusref10_field_0]) fun j ⟨g1, g2⟩ => ?_
  unfold lp_gradusref10_field_0 lv_gradusref10_field_0
  simp
  refine gd.mk (fun h => ?_) (fun h => ?_)
  · have hj : j < d.names.length := by simpa using h
    have hj' : j < d.fields.length := by omega
    rw [List.drop_eq_getElem_cons hj, List.drop_eq_getElem_cons hj', atN] at g2
    simp [List.getElem?_eq_getElem hj, List.getElem?_eq_getElem hj']
    refine gd.mk (fun q => ?_) (fun q => ?_)
    · have q' : k = d.names[j] := (of_decide_eq_true q).symm
      rw [if_pos q'] at g2
      simp [g2]
    · have q' : ¬ k = d.names[j] := fun e => by rw [e] at q; simp at q
      rw [if_neg q'] at g2
      exact Abs.Next.mk (j + 1) [0] ⟨by omega, g2⟩ (by omega) (by simp; exact wrap_i64 (by omega) (by omega))
  · have hj : j = d.names.length := by simp at h; omega
    subst hj
    refine callK.mk rId_ok ?_
    rw [List.drop_length] at g2
    simp [atN] at g2
    simp [← g2]

theorem rpair_ok (a b : Coe) : PCall Pg F.gradusref10_pair [.agg a.enc, .agg b.enc] (.one (.sl false 5 ((funC a b).map Coe.enc))) := by
  refine w_gradusref10_pair (by simp) fun o c hN hp => ?_
  unfold mc_gradusref10_pair
  simp
  refine callK.mk (IsId_ok a) ?_
  simp
  refine callK.mk (IsId_ok b) ?_
  simp
  refine gd.mk (fun h1 => gd.mk (fun h2 => ?_) (fun h2 => ?_)) (fun h1 => ?_)
  · simp [funC, h1, h2]
  · simp at h2
    simp [funC, h2]
  · simp at h1
    simp [funC, h1]

theorem rput_no (a b f : D) (N : List ByteArray) (F' : List Coe) (k : ByteArray) (d : Coe) (hd : sameC d idC = true) :
    MCall Pg F.gradusref10_put [.ag [.d a, .d b, .msl 1 0 0 N.length, .msl 5 1 0 F'.length, .d f], .c (.d (.str k)), .ag (d.enc.map .d)] [.arr 1 ((encS N).map (·.map .d)), .arr 5 ((F'.map Coe.enc).map (·.map .d))]
      (.ag [.d a, .d b, .msl 1 0 0 N.length, .msl 5 1 0 F'.length, .d f]) [.arr 1 ((encS N).map (·.map .d)), .arr 5 ((F'.map Coe.enc).map (·.map .d))] := by
  refine wm_gradusref10_put ⟨by simp, by simp, by simp, by simp, by simp, by simp [live], by simp⟩ fun ts hts ok hb c hN hp => ?_
  obtain ⟨t0, t1, rfl⟩ := twoTs hts
  unfold mc_gradusref10_put
  simp
  refine callK.mk (IsId_ok d) ?_
  simp [hd]
  exact EndM.mk [0, 1] [2, 3] (by simp)
theorem rput_yes (a b f : D) (N : List ByteArray) (F' : List Coe) (k : ByteArray) (d : Coe) (hd : sameC d idC = false) (h1 : N.length ≤ 1073741824) (h2 : F'.length ≤ 1073741824) :
    MCall Pg F.gradusref10_put [.ag [.d a, .d b, .msl 1 0 0 N.length, .msl 5 1 0 F'.length, .d f], .c (.d (.str k)), .ag (d.enc.map .d)] [.arr 1 ((encS N).map (·.map .d)), .arr 5 ((F'.map Coe.enc).map (·.map .d))]
      (.ag [.d a, .d b, .msl 1 2 0 (N ++ [k]).length, .msl 5 3 0 (F' ++ [d]).length, .d f]) [.dead, .dead, .arr 1 ((encS (N ++ [k])).map (·.map .d)), .arr 5 (((F' ++ [d]).map Coe.enc).map (·.map .d))] := by
  refine wm_gradusref10_put ⟨by simp, by simp, by simp, by simp, by simp, by simp [live], by simp [live]⟩ fun ts hts ok hb c hN hp => ?_
  obtain ⟨t0, t1, rfl⟩ := twoTs hts
  unfold mc_gradusref10_put
  simp
  refine callK.mk (IsId_ok d) ?_
  simp [hd]
  refine ⟨by omega, by omega, EndM.mk [0, 1, 6, 7] [2, 3] ?_⟩
  simp [encS]
  exact ⟨List.take_of_length_le (by simp), List.take_of_length_le (by simp)⟩

/-! ### composed: its loops -/
theorem rcm0 {c : Ctx} (hp : c.pure) {a b : Coe} (Ma : May a) (Mb : May b) {Q : Exit → St → Prop} {S : St} {g}
    (h0 : Match [0, 1, 2] S ((6, .c (.d (.int .i64 0))) :: baseT a b) [box5, .arr 1 ((encI six0).map (·.map .d)), .box [.msl 1 1 0 6, .d (.sl true 2 []), .d (.sl true 1 []), .d (.sl true 5 []), .d (.sl true 5 [])]])
    (hQ : ∀ T, Abs.look T 2 = .c (.d (.rp a.enc 0)) → Abs.look T 3 = .c (.d (.rp b.enc 0)) → Abs.look T 4 = .c (.ptr 0 0) → Abs.look T 5 = .c (.ptr 2 0) →
      Q (.exit 0) ⟨T, hpOf [box5, .arr 1 ((encI (tagsC a.tags b.tags)).map (·.map .d)), .box [.msl 1 1 0 6, .d (.sl true 2 []), .d (.sl true 1 []), .d (.sl true 5 []), .d (.sl true 5 [])]], 3⟩) : lw_ Pg c lp_gradusref10_composed_0 Q g S := by
  have hL : (tagsC a.tags b.tags).length = 6 := tagsC_len Ma.tags Mb.tags
  refine W.loop Pg_mixed hp (fun j : Nat => j ≤ 6) (fun j => (6, .c (.d (.int .i64 j))) :: baseT a b)
    (fun j => [box5, .arr 1 ((encI (upT (tagsC a.tags b.tags) j)).map (·.map .d)), .box [.msl 1 1 0 6, .d (.sl true 2 []), .d (.sl true 1 []), .d (.sl true 5 []), .d (.sl true 5 [])]])
    (fun j => 6 - j) 0 [0, 1, 2] (by simp) h0 fun j h1 => ?_
  unfold lp_gradusref10_composed_0
  simp
  refine gd.mk (fun h => ?_) (fun h => ?_)
  · have hj : j < 6 := by simp at h; omega
    have hja : j < a.tags.length := by rw [Ma.tags]; exact hj
    have hjb : j < b.tags.length := by rw [Mb.tags]; exact hj
    have hup : (upT (tagsC a.tags b.tags) j).length = 6 := by simp [upT, hL]; omega
    have hju : j < (upT (tagsC a.tags b.tags) j).length := by omega
    have hset : ∀ x, x = (tagsC a.tags b.tags)[j]'(by omega) → (encI (upT (tagsC a.tags b.tags) j)).set j [.int .i64 x] = encI (upT (tagsC a.tags b.tags) (j + 1)) := fun x e => by
      rw [e, ← encI_set, upT_set hL hj]
    have hval : (tagsC a.tags b.tags)[j]'(by omega) = if a.tags[j] = 0 then b.tags[j] else a.tags[j] := by simp [tagsC]
    simp [List.getElem?_eq_getElem hja, List.getElem?_eq_getElem hjb, List.getElem?_eq_getElem hju]
    refine ⟨by omega, by decide, ?_⟩
    refine gd.mk (fun h => ?_) (fun h => ?_)
    · simp at h
      have hju2 : ((List.map (fun x => List.map AC.d x) (encI (upT (tagsC a.tags b.tags) j))).set j [AC.d (D.int IntKind.i64 a.tags[j])])[j]? = some [AC.d (D.int IntKind.i64 a.tags[j])] := by
        rw [List.getElem?_set_self (by simp [hup]; exact hj)]
      rw [hju2]
      refine ⟨by omega, ?_⟩
      refine ⟨by decide, ?_⟩
      refine Abs.Next.mk (j + 1) [0, 1, 2] (by omega) (by omega) ?_
      simp
      refine ⟨wrap_i64 (by omega) (by omega), ?_⟩
      rw [← hset b.tags[j] (by rw [hval, if_pos h])]
      simp [List.map_set]
    · simp at h
      refine Abs.Next.mk (j + 1) [0, 1, 2] (by omega) (by omega) ?_
      simp
      refine ⟨wrap_i64 (by omega) (by omega), ?_⟩
      rw [← hset a.tags[j] (by rw [hval, if_neg h])]
      simp [List.map_set]
  · have hj : j = 6 := by simp at h; omega
    subst hj
    have hup : upT (tagsC a.tags b.tags) 6 = tagsC a.tags b.tags := by
      unfold upT; rw [List.take_of_length_le (by omega)]; simp
    rw [hup]
    exact hQ _ (by simp) (by simp) (by simp) (by simp)

/-- the needs behind so many of the second's -/
def needJ (a b : Coe) (j : Nat) : List (ByteArray × Int) := needsC a.needs (b.needs.take j)
theorem needJ_succ {a b : Coe} {j : Nat} (h : j < b.needs.length) : needJ a b (j + 1) = if (a.needs.any fun m => decide (m.1 = b.needs[j].1)) = true then needJ a b j else needJ a b j ++ [b.needs[j]] := by
  unfold needJ needsC
  rw [List.take_succ_eq_append_getElem h, List.filter_append]
  by_cases q : (a.needs.any fun m => decide (m.1 = b.needs[j].1)) = true
  · rw [if_pos q]; simp [q]
  · rw [if_neg q]; simp [q]
theorem needJ_len (a b : Coe) (j : Nat) : (needJ a b j).length ≤ a.needs.length + b.needs.length := by
  have h1 := needsC_len a.needs (b.needs.take j)
  have h2 : (b.needs.take j).length ≤ b.needs.length := by rw [List.length_take]; omega
  unfold needJ; omega
abbrev boxN (n : Nat) : Blk := .box [.msl 1 1 0 6, .msl 2 3 0 n, .d (.sl true 1 []), .d (.sl true 5 []), .d (.sl true 5 [])]

theorem rcm2 {c : Ctx} (hp : c.pure) {a b : Coe} (Ma : May a) (Mb : May b) (T : List Int) (hal : a.needs.length ≤ 536870912) (hbl : b.needs.length ≤ 536870912) {Q : Exit → St → Prop} {S : St} {g} {ms : List Nat}
    (h0 : Match ms S ((7, .c (.d (.int .i64 0))) :: baseT a b) [box5, .arr 1 ((encI T).map (·.map .d)), boxN a.needs.length, .arr 2 ((encN a.needs).map (·.map .d))])
    (hQ : ∀ T', Abs.look T' 2 = .c (.d (.rp a.enc 0)) → Abs.look T' 3 = .c (.d (.rp b.enc 0)) → Abs.look T' 4 = .c (.ptr 0 0) → Abs.look T' 5 = .c (.ptr 2 0) →
      Q (.exit 2) ⟨T', hpOf [box5, .arr 1 ((encI T).map (·.map .d)), boxN (needC a b).length, .arr 2 ((encN (needC a b)).map (·.map .d))], 4⟩) : lw_ Pg c lp_gradusref10_composed_2 Q g S := by
  have ha4 : a.tags[4]? = some (tagZ a 4) := tag_get Ma.tags (by omega)
  by_cases q4 : tagZ a 4 = 0
  rotate_left
  · have hn : needC a b = a.needs := by unfold needC; rw [if_neg q4]
    rw [hn] at hQ
    refine W.loop Pg_mixed hp (fun j : Nat => j = 0) (fun j => (7, .c (.d (.int .i64 0))) :: baseT a b) (fun _ => [box5, .arr 1 ((encI T).map (·.map .d)), boxN a.needs.length, .arr 2 ((encN a.needs).map (·.map .d))])
      (fun j => 0) 0 ms rfl h0 fun j h1 => ?_
    unfold lp_gradusref10_composed_2
    simp
    refine gd.mk (fun h => ?_) (fun h => ?_)
    · simp [ha4, q4]
      exact hQ _ (by simp) (by simp) (by simp) (by simp)
    · exact hQ _ (by simp) (by simp) (by simp) (by simp)
  have hn : needC a b = needJ a b b.needs.length := by unfold needC needJ; rw [if_pos q4, List.take_length]
  have hn0 : needJ a b 0 = a.needs := by simp [needJ, needsC]
  rw [hn] at hQ
  refine W.loop Pg_mixed hp (fun j : Nat => j ≤ b.needs.length) (fun j => (7, .c (.d (.int .i64 j))) :: baseT a b) (fun j => [box5, .arr 1 ((encI T).map (·.map .d)), boxN (needJ a b j).length, .arr 2 ((encN (needJ a b j)).map (·.map .d))])
    (fun j => b.needs.length - j) 0 ms (by simp) (by simpa [hn0] using h0) fun j h1 => ?_
  unfold lp_gradusref10_composed_2
  simp
  refine gd.mk (fun h => ?_) (fun h => ?_)
  · have hj : j < b.needs.length := by simpa using h
    simp [ha4, q4]
    refine W.loop Pg_mixed hp (fun k : Nat => k ≤ a.needs.length) (fun k => (9, .c (.d (.int .i64 k))) :: (8, .c (.d (.bool ((a.needs.take k).any fun m => decide (m.1 = b.needs[j].1))))) :: (7, .c (.d (.int .i64 j))) :: baseT a b)
      (fun k => [box5, .arr 1 ((encI T).map (·.map .d)), boxN (needJ a b j).length, .arr 2 ((encN (needJ a b j)).map (·.map .d))])
      (fun k => a.needs.length - k) 0 [0, 1, 2, 3] (by simp) (by simp) fun k h2 => ?_
    unfold lp_gradusref10_composed_4
    simp
    refine gd.mk (fun h => ?_) (fun h => ?_)
    · have hk : k < a.needs.length := by simpa using h
      have hany : ((a.needs.take (k + 1)).any fun m => decide (m.1 = b.needs[j].1)) = (((a.needs.take k).any fun m => decide (m.1 = b.needs[j].1)) || decide (a.needs[k].1 = b.needs[j].1)) := by
        rw [List.take_succ_eq_append_getElem hk, List.any_append]; simp
      refine gd.mk (fun h => ?_) (fun h => ?_)
      · rw [h, Bool.false_or] at hany
        simp [List.getElem?_eq_getElem hk, List.getElem?_eq_getElem hj]
        refine ⟨by decide, ?_⟩
        refine Abs.Next.mk (k + 1) [0, 1, 2, 3] (by omega) (by omega) ?_
        rw [hany]
        simp
        exact wrap_i64 (by omega) (by omega)
      · simp only [Bool.not_false] at h
        rw [h, Bool.true_or] at hany
        refine ⟨by decide, ?_⟩
        refine Abs.Next.mk (k + 1) [0, 1, 2, 3] (by omega) (by omega) ?_
        rw [hany]
        simp
        exact wrap_i64 (by omega) (by omega)
    · have hk : k = a.needs.length := by simp at h; omega
      subst hk
      have hs := needJ_succ (a := a) hj
      have hlen := needJ_len a b j
      simp
      refine gd.mk (fun h => ?_) (fun h => ?_)
      · have hf : (a.needs.any fun m => decide (m.1 = b.needs[j].1)) = false := by simpa using h
        rw [if_neg (by simp [hf])] at hs
        simp [List.getElem?_eq_getElem hj]
        refine ⟨by omega, by decide, ?_⟩
        refine Abs.Next.mk (j + 1) [0, 1, 2, 4] (by omega) (by omega) ?_
        rw [hs]
        simp
        refine ⟨wrap_i64 (by omega) (by omega), ?_⟩
        rw [List.take_of_length_le (by simp)]
        simp [encN]
      · have hf : (a.needs.any fun m => decide (m.1 = b.needs[j].1)) = true := by simpa using h
        rw [if_pos hf] at hs
        refine Abs.Next.mk (j + 1) [0, 1, 2, 3] (by omega) (by omega) ?_
        rw [hs]
        simp
        exact wrap_i64 (by omega) (by omega)
  · have hj : j = b.needs.length := by simp at h; omega
    subst hj
    exact hQ _ (by simp) (by simp) (by simp) (by simp)

/-- the fields written behind so many names -/
def bzJ (V : ByteArray → Coe) (l : List ByteArray) (j : Nat) : List (ByteArray × Coe) := busy ((l.take j).map fun k => (k, V k))
theorem bzJ_succ {V : ByteArray → Coe} {l : List ByteArray} {j : Nat} (h : j < l.length) : bzJ V l (j + 1) = if sameC (V l[j]) idC = true then bzJ V l j else bzJ V l j ++ [(l[j], V l[j])] := by
  unfold bzJ busy
  rw [List.take_succ_eq_append_getElem h, List.map_append, List.filter_append]
  by_cases q : sameC (V l[j]) idC = true
  · rw [if_pos q]; simp [q]
  · rw [if_neg q]; simp [q]
theorem bzJ_len (V : ByteArray → Coe) (l : List ByteArray) (j : Nat) : (bzJ V l j).length ≤ l.length := by
  unfold bzJ busy
  refine Nat.le_trans (List.length_filter_le _ _) ?_
  rw [List.length_map, List.length_take]; omega
abbrev boxF (A B : D) (n : Nat) : Blk := .box [.d A, .d B, .msl 1 4 0 n, .msl 5 5 0 n, .d (.sl true 5 [])]
abbrev arrS (L : List (ByteArray × Coe)) : Blk := .arr 1 ((encS (L.map (·.1))).map (·.map .d))
abbrev arrF (L : List (ByteArray × Coe)) : Blk := .arr 5 (((L.map (·.2)).map Coe.enc).map (·.map .d))

set_option maxRecDepth 20000 in
theorem rcm6 {c : Ctx} (hp : c.pure) {a b : Coe} (Ma : May a) (Mb : May b) (V : ByteArray → Coe) (l : List ByteArray) (hl : l.length ≤ 1073741824) (sa : a.names.length ≤ 536870912) (sb : b.names.length ≤ 536870912)
    (H1 : ∀ k, k ∈ l → PCall Pg F.gradusref10_composed [.agg (fieldC a k).enc, .agg (fieldC b k).enc] (.agg (V k).enc))
    (T : List Int) (hT : T.length = 6) (B : D) {Q : Exit → St → Prop} {S : St} {g} {ms : List Nat}
    (h0 : Match ms S ((11, .c (.d (.int .i64 0))) :: (10, .c (.d (.sl false 1 (encS l)))) :: baseT a b) [box5, .dead, boxF (.sl false 1 (encI T)) B 0, .dead, .arr 1 [], .arr 5 []])
    (hQ : ∀ T' L, L = (if T.getD 4 0 = 0 then bzJ V l l.length else []) → Abs.look T' 2 = .c (.d (.rp a.enc 0)) → Abs.look T' 3 = .c (.d (.rp b.enc 0)) → Abs.look T' 4 = .c (.ptr 0 0) → Abs.look T' 5 = .c (.ptr 2 0) →
      Q (.exit 6) ⟨T', hpOf [box5, .dead, boxF (.sl false 1 (encI T)) B L.length, .dead, arrS L, arrF L], 6⟩) : lw_ Pg c lp_gradusref10_composed_6 Q g S := by
  have hT4 : T[4]? = some (T.getD 4 0) := tag_get hT (by omega)
  have hb0 : bzJ V l 0 = [] := by simp [bzJ, busy]
  generalize T.getD 4 0 = t4 at *
  by_cases q4 : t4 = 0
  rotate_left
  · rw [if_neg q4] at hQ
    refine W.loop Pg_mixed hp (fun j : Nat => j = 0) (fun j => (11, .c (.d (.int .i64 0))) :: (10, .c (.d (.sl false 1 (encS l)))) :: baseT a b) (fun _ => [box5, .dead, boxF (.sl false 1 (encI T)) B 0, .dead, .arr 1 [], .arr 5 []])
      (fun j => 0) 0 ms rfl h0 fun j h1 => ?_
    unfold lp_gradusref10_composed_6
    simp
    refine gd.mk (fun h => ?_) (fun h => ?_)
    · simp [hT4, q4]
      exact hQ _ [] rfl (by simp) (by simp) (by simp) (by simp)
    · exact hQ _ [] rfl (by simp) (by simp) (by simp) (by simp)
  rw [if_pos q4] at hQ
  refine W.loop Pg_mixed hp (fun j : Nat => j ≤ l.length) (fun j => (11, .c (.d (.int .i64 j))) :: (10, .c (.d (.sl false 1 (encS l)))) :: baseT a b)
    (fun j => [box5, .dead, boxF (.sl false 1 (encI T)) B (bzJ V l j).length, .dead, arrS (bzJ V l j), arrF (bzJ V l j)])
    (fun j => l.length - j) 0 ms (by simp) (by simp only [hb0]; exact h0) fun j h1 => ?_
  unfold lp_gradusref10_composed_6
  simp
  refine gd.mk (fun h => ?_) (fun h => ?_)
  · have hj : j < l.length := by simpa using h
    have hs := bzJ_succ (V := V) hj
    have hlen := bzJ_len V l j
    simp [hT4, q4, List.getElem?_eq_getElem hj]
    refine callK.mk (rfield_ok a l[j] Ma.len sa) ?_
    simp [List.getElem?_eq_getElem hj]
    refine callK.mk (rfield_ok b l[j] Mb.len sb) ?_
    simp [List.getElem?_eq_getElem hj]
    refine callK.mk (H1 l[j] (List.getElem_mem hj)) ?_
    simp
    generalize bzJ V l j = L at *
    by_cases q : sameC (V l[j]) idC = true
    · rw [if_pos q] at hs
      have hr := rput_no (.sl false 1 (encI T)) B (.sl true 5 []) (L.map (·.1)) (L.map (·.2)) l[j] (V l[j]) q
      simp only [List.length_map] at hr
      refine callKM.mk [4, 5] hr (by simp) ?_
      simp
      refine ⟨by decide, owK.mk [] ?_⟩
      simp
      refine Abs.Next.mk (j + 1) [0, 1, 2, 3, 4, 5] (by omega) (by omega) ?_
      rw [hs]
      simp
      exact wrap_i64 (by omega) (by omega)
    · rw [if_neg q] at hs
      have hr := rput_yes (.sl false 1 (encI T)) B (.sl true 5 []) (L.map (·.1)) (L.map (·.2)) l[j] (V l[j]) (by simpa using q) (by simp; omega) (by simp; omega)
      simp only [List.length_map] at hr
      refine callKM.mk [4, 5] hr (by simp) ?_
      simp
      refine ⟨by decide, owK.mk [] ?_⟩
      simp
      refine Abs.Next.mk (j + 1) [0, 1, 2, 3, 6, 7] (by omega) (by omega) ?_
      rw [hs]
      simp
      exact wrap_i64 (by omega) (by omega)
  · have hj : j = l.length := by simp at h; omega
    subst hj
    exact hQ _ _ rfl (by simp) (by simp) (by simp) (by simp)

/-- what a walk through composing is told -/
structure RcH (v : Coe → Coe → Coe) (a b : Coe) : Prop where
  Ma : May a
  Mb : May b
  v0 : v idC idC = idC
  sa : Small1 536870912 a
  sb : Small1 536870912 b
  H1 : ∀ k, k ∈ keysU a b → PCall Pg F.gradusref10_composed [.agg (fieldC a k).enc, .agg (fieldC b k).enc] (.agg (v (fieldC a k) (fieldC b k)).enc)
  H2 : 0 < a.fn.length + b.fn.length → PCall Pg F.gradusref10_composed [.agg (pairC b).1.enc, .agg (pairC a).1.enc] (.agg (v (pairC b).1 (pairC a).1).enc)
  H3 : 0 < a.fn.length + b.fn.length → PCall Pg F.gradusref10_composed [.agg (pairC a).2.enc, .agg (pairC b).2.enc] (.agg (v (pairC a).2 (pairC b).2).enc)

theorem rnode_fn {v : Coe → Coe → Coe} {a b : Coe} (H : RcH v a b) : (nodeC v a b).fn = if tagZ (nodeC v a b) 5 = 0 ∧ 0 < a.fn.length + b.fn.length then funC (v (pairC b).1 (pairC a).1) (v (pairC a).2 (pairC b).2) else [] := by
  have h0 : (nodeC v a b).fn = if tagZ (nodeC v a b) 5 = 0 then funC (v (pairC b).1 (pairC a).1) (v (pairC a).2 (pairC b).2) else [] := rfl
  rw [h0]
  by_cases q : tagZ (nodeC v a b) 5 = 0
  · by_cases r : 0 < a.fn.length + b.fn.length
    · rw [if_pos q, if_pos ⟨q, r⟩]
    · have ea : a.fn = [] := List.length_eq_zero_iff.1 (by omega)
      have eb : b.fn = [] := List.length_eq_zero_iff.1 (by omega)
      have pa : pairC a = (idC, idC) := by unfold pairC; rw [ea]
      have pb : pairC b = (idC, idC) := by unfold pairC; rw [eb]
      rw [if_pos q, if_neg (fun h => r h.2), pa, pb]
      unfold funC
      simp [H.v0, sameC_rfl]
  · rw [if_neg q, if_neg (fun h => q h.1)]

set_option maxRecDepth 20000 in
set_option maxHeartbeats 1000000 in
theorem rcomposed_one {v : Coe → Coe → Coe} {a b : Coe} (H : RcH v a b) : PCall Pg F.gradusref10_composed [.agg a.enc, .agg b.enc] (.agg (nodeC v a b).enc) := by
  have Ma := H.Ma
  have Mb := H.Mb
  have sa := H.sa
  have sb := H.sb
  refine w_gradusref10_composed (by simp) fun o c hN hp => ?_
  have hL : (tagsC a.tags b.tags).length = 6 := tagsC_len Ma.tags Mb.tags
  have hc5 : (tagsC a.tags b.tags)[5]? = some (tagZ (nodeC v a b) 5) := tag_get hL (by omega)
  have hc4 : (tagsC a.tags b.tags).getD 4 0 = tagZ (nodeC v a b) 4 := rfl
  have hE : (nodeC v a b).enc = [.sl false 1 (encI (tagsC a.tags b.tags)), .sl false 2 (encN (nodeC v a b).needs), .sl false 1 (encS (nodeC v a b).names), .sl false 5 ((nodeC v a b).fields.map Coe.enc), .sl false 5 ((nodeC v a b).fn.map Coe.enc)] := Coe.enc_eq _
  have hneeds : (nodeC v a b).needs = needC a b := rfl
  have hnames : (nodeC v a b).names = (if tagZ (nodeC v a b) 4 = 0 then fsC v a b else []).map (·.1) := by
    have : (nodeC v a b).names = if tagZ (nodeC v a b) 4 = 0 then (fsC v a b).map (·.1) else [] := rfl
    rw [this]; split <;> rfl
  have hfields : (nodeC v a b).fields = (if tagZ (nodeC v a b) 4 = 0 then fsC v a b else []).map (·.2) := by
    have : (nodeC v a b).fields = if tagZ (nodeC v a b) 4 = 0 then (fsC v a b).map (·.2) else [] := rfl
    rw [this]; split <;> rfl
  have hfn := rnode_fn H
  rw [hE, hneeds, hnames, hfields, hfn]
  clear hE hneeds hnames hfields hfn
  have hfs : fsC v a b = bzJ (fun k => v (fieldC a k) (fieldC b k)) (keysU a b) (keysU a b).length := by unfold bzJ fsC; rw [List.take_length]
  generalize hL0 : (if tagZ (nodeC v a b) 4 = 0 then fsC v a b else []) = L0
  generalize hG : (if tagZ (nodeC v a b) 5 = 0 ∧ 0 < a.fn.length + b.fn.length then funC (v (pairC b).1 (pairC a).1) (v (pairC a).2 (pairC b).2) else []) = G
  have h6 : 6 ≤ (tagsC a.tags b.tags).length := by omega
  have han : a.needs.length ≤ 536870912 := sa.needs
  have hbn : b.needs.length ≤ 536870912 := sb.needs
  have hfl : a.fn.length ≤ 2 ∧ b.fn.length ≤ 2 := ⟨by have := Ma.fn_len; omega, by have := Mb.fn_len; omega⟩
  have hal : a.names.length ≤ 536870912 := by have := sa.fields; have := Ma.len; omega
  have hbl : b.names.length ≤ 536870912 := by have := sb.fields; have := Mb.len; omega
  have hkl := keysU_len a b
  unfold mc_gradusref10_composed
  simp
  refine callKM.mk [] rIdM (by simp) ?_
  simp
  refine rcm0 hp Ma Mb (by simp) fun S0 e2 e3 e4 e5 => ?_
  generalize tagsC a.tags b.tags = T at *
  have htk : (encI T).take 6 = encI T := List.take_of_length_le (by simp [hL])
  simp
  refine owK.mk [.c 2 1] ?_
  simp only [owG_c, owG_nil]
  simp only [hpOf_succ, hpOf_zero, List.getElem?_cons_zero, List.getElem?_cons_succ]
  refine ⟨by simp, ?_⟩
  refine St.forget (F := w_ Pg c _ _ _) (fun T' M => Abs.look T' 2 = .c (.d (.rp a.enc 0)) ∧ Abs.look T' 3 = .c (.d (.rp b.enc 0)) ∧ Abs.look T' 4 = .c (.ptr 0 0) ∧ Abs.look T' 5 = .c (.ptr 2 0) ∧
    M 0 = box5 ∧ M 1 = .arr 1 ((encI T).map (·.map .d)) ∧ M 2 = boxN 0 ∧ M 3 = .arr 2 [] ∧ ∀ i, 4 ≤ i → M i = .non) ?_ fun T' M ⟨e2, e3, e4, e5, m0, m1, m2, m3, mn⟩ => ?_
  · refine ⟨e2, e3, e4, e5, by simp, by simp, by simp, by simp, fun i hi => ?_⟩
    have h1 : i ≠ 2 := by omega
    have h2 : i ≠ 3 := by omega
    simp only [upd_at, if_neg h1, if_neg h2]
    exact hpOf_out (by simp; omega)
  simp [e2, e3, e4, e5, m0, m1, m2, m3, mn]
  refine ⟨by omega, ?_⟩
  clear mn
  refine rcm2 hp Ma Mb T han hbn (ms := [0, 1, 2, 4]) (by simp [e2, e3, e4, e5, m0, m1, m2, m3]) fun S1 e2 e3 e4 e5 => ?_
  clear m0 m1 m2 m3
  generalize needC a b = Nd at *
  have hNd : (encN Nd).take Nd.length = encN Nd := List.take_of_length_le (by simp)
  simp
  refine fzK.mk [1, 3] ?_
  simp only [fzG_cons, upd_at, if_pos, if_neg, reduceIte, Nat.reduceEqDiff, allDD_map, fzM_at, Blk.fz_arr, allDD_comp, fzG_nil, hpOf_succ, hpOf_zero]
  refine St.forget (F := w_ Pg c _ _ _) (fun T' M => Abs.look T' 2 = .c (.d (.rp a.enc 0)) ∧ Abs.look T' 3 = .c (.d (.rp b.enc 0)) ∧ Abs.look T' 4 = .c (.ptr 0 0) ∧ Abs.look T' 5 = .c (.ptr 2 0) ∧
    M 0 = box5 ∧ M 1 = .dead ∧ M 2 = .box [.d (.sl false 1 (encI T)), .d (.sl false 2 (encN Nd)), .d (.sl true 1 []), .d (.sl true 5 []), .d (.sl true 5 [])] ∧ M 3 = .dead ∧ ∀ i, 4 ≤ i → M i = .non) ?_ fun T' M ⟨e2, e3, e4, e5, m0, m1, m2, m3, mn⟩ => ?_
  · refine ⟨?_, ?_, ?_, ?_, ?_, ?_, ?_, ?_, fun i hi => ?_⟩
    · simp only [look_fz, look_cons, if_neg, reduceIte, Nat.reduceEqDiff, e2, AV.fz_c, AC.fz_d]
    · simp only [look_fz, look_cons, if_neg, reduceIte, Nat.reduceEqDiff, e3, AV.fz_c, AC.fz_d]
    · simp only [look_fz, look_cons, if_neg, reduceIte, Nat.reduceEqDiff, e4, AV.fz_c, AC.fz_ptr]
    · simp only [look_fz, look_cons, if_neg, reduceIte, Nat.reduceEqDiff, e5, AV.fz_c, AC.fz_ptr]
    · simp [fzM_at]
    · simp [fzM_at]
    · simp [fzM_at, h6, htk, hNd]
    · simp [fzM_at]
    · have h1 : i ≠ 1 := by omega
      have h3 : i ≠ 3 := by omega
      simp [fzM_at, h1, h3]
      rw [hpOf_out (by simp; omega)]; rfl
  simp [e2, e3, e4, e5, m0, m1, m2, m3, mn]
  refine callK.mk (rnames_ok a.names b.names Ma.names Mb.names hal hbl) ?_
  have hku : sortS (a.names ++ b.names.filter fun k => !decide (k ∈ a.names)) = keysU a b := rfl
  rw [hku]
  have H1 := H.H1
  clear hku
  generalize keysU a b = K at *
  simp [e2, e3, e4, e5, m0, m1, m2, m3, mn]
  refine owK.mk [.c 2 2, .c 2 3] ?_
  simp [e2, e3, e4, e5, m0, m1, m2, m3, mn]
  refine rcm6 hp Ma Mb (fun k => v (fieldC a k) (fieldC b k)) K (by omega) hal hbl H1 T hL (.sl false 2 (encN Nd)) (ms := [0, 1, 2, 3, 4, 5]) (by simp [e2, e3, e4, e5, m0, m1, m2, m3]) fun S2 L hL2 e2 e3 e4 e5 => ?_
  clear m0 m1 m2 m3 mn
  rw [hc4, ← hfs, hL0] at hL2
  subst hL2
  clear hL0 hfs
  have ht1 : (encS (L.map (·.1))).take L.length = encS (L.map (·.1)) := List.take_of_length_le (by simp)
  have ht2 : ((L.map (·.2)).map Coe.enc).take L.length = (L.map (·.2)).map Coe.enc := List.take_of_length_le (by simp)
  simp
  refine fzK.mk [4, 5] ?_
  simp only [fzG_cons, upd_at, if_pos, if_neg, reduceIte, Nat.reduceEqDiff, allDD_map, fzM_at, Blk.fz_arr, allDD_comp, fzG_nil, hpOf_succ, hpOf_zero]
  refine St.forget (F := w_ Pg c _ _ _) (fun T' M => Abs.look T' 2 = .c (.d (.rp a.enc 0)) ∧ Abs.look T' 3 = .c (.d (.rp b.enc 0)) ∧ Abs.look T' 4 = .c (.ptr 0 0) ∧ Abs.look T' 5 = .c (.ptr 2 0) ∧
    M 0 = box5 ∧ M 2 = .box [.d (.sl false 1 (encI T)), .d (.sl false 2 (encN Nd)), .d (.sl false 1 (encS (L.map (·.1)))), .d (.sl false 5 ((L.map (·.2)).map Coe.enc)), .d (.sl true 5 [])] ∧ ∀ i, 6 ≤ i → M i = .non) ?_ fun T' M ⟨e2, e3, e4, e5, m0, m2, mn⟩ => ?_
  · refine ⟨?_, ?_, ?_, ?_, ?_, ?_, fun i hi => ?_⟩
    · simp only [look_fz, look_cons, if_neg, reduceIte, Nat.reduceEqDiff, e2, AV.fz_c, AC.fz_d]
    · simp only [look_fz, look_cons, if_neg, reduceIte, Nat.reduceEqDiff, e3, AV.fz_c, AC.fz_d]
    · simp only [look_fz, look_cons, if_neg, reduceIte, Nat.reduceEqDiff, e4, AV.fz_c, AC.fz_ptr]
    · simp only [look_fz, look_cons, if_neg, reduceIte, Nat.reduceEqDiff, e5, AV.fz_c, AC.fz_ptr]
    · simp [fzM_at]
    · simp only [List.map_map] at ht2
      simp [fzM_at, ht1, ht2]
    · have h1 : i ≠ 4 := by omega
      have h3 : i ≠ 5 := by omega
      simp [fzM_at, h1, h3]
      rw [hpOf_out (by simp; omega)]; rfl
  generalize (L.map (·.2)).map Coe.enc = F5 at *
  generalize encS (L.map (·.1)) = F4 at *
  have H2 := H.H2
  have H3 := H.H3
  generalize tagZ (nodeC v a b) 5 = t5 at *
  have ha : (a.fn = [] ∧ pairC a = (idC, idC)) ∨ ∃ x y, a.fn = [x, y] ∧ pairC a = (x, y) := by
    rcases Ma.fn with e | ⟨f, g, e, _⟩
    · exact .inl ⟨e, by unfold pairC; rw [e]⟩
    · exact .inr ⟨f, g, e, by unfold pairC; rw [e]⟩
  have hb : (b.fn = [] ∧ pairC b = (idC, idC)) ∨ ∃ x y, b.fn = [x, y] ∧ pairC b = (x, y) := by
    rcases Mb.fn with e | ⟨f, g, e, _⟩
    · exact .inl ⟨e, by unfold pairC; rw [e]⟩
    · exact .inr ⟨f, g, e, by unfold pairC; rw [e]⟩
  by_cases q5 : t5 = 0
  · rcases ha with ⟨ea, pa⟩ | ⟨x, y, ea, pa⟩ <;> rcases hb with ⟨eb, pb⟩ | ⟨x', y', eb, pb⟩
    · have q : ¬ (t5 = 0 ∧ 0 < a.fn.length + b.fn.length) := by simp [ea, eb]
      rw [if_neg q] at hG
      subst hG
      simp [hc5, e2, e3, e4, e5, m0, m2, mn, q5, ea, eb]
    · have q : 0 < a.fn.length + b.fn.length := by simp [ea, eb]
      have H2 := H2 q
      have H3 := H3 q
      rw [if_pos ⟨q5, q⟩] at hG
      rw [pa, pb] at H2 H3 hG
      simp only at H2 H3 hG
      subst hG
      simp [hc5, e2, e3, e4, e5, m0, m2, mn, q5, ea, eb]
      refine callK.mk rId_ok ?_
      simp
      refine callK.mk rId_ok ?_
      simp
      refine callK.mk rId_ok ?_
      simp
      refine callK.mk rId_ok ?_
      simp [e2, e3, e4, e5, m0, m2, mn, ea, eb]
      refine callK.mk H2 ?_
      simp [e2, e3, e4, e5, m0, m2, mn, ea, eb]
      refine callK.mk H3 ?_
      simp [e2, e3, e4, e5, m0, m2, mn, ea, eb]
      refine callK.mk (rpair_ok _ _) ?_
      simp [e2, e3, e4, e5, m0, m2, mn, ea, eb]
      decide
    · have q : 0 < a.fn.length + b.fn.length := by simp [ea, eb]
      have H2 := H2 q
      have H3 := H3 q
      rw [if_pos ⟨q5, q⟩] at hG
      rw [pa, pb] at H2 H3 hG
      simp only at H2 H3 hG
      subst hG
      simp [hc5, e2, e3, e4, e5, m0, m2, mn, q5, ea, eb]
      refine callK.mk rId_ok ?_
      simp
      refine callK.mk rId_ok ?_
      simp
      refine callK.mk rId_ok ?_
      simp
      refine callK.mk rId_ok ?_
      simp [e2, e3, e4, e5, m0, m2, mn, ea, eb]
      refine callK.mk H2 ?_
      simp [e2, e3, e4, e5, m0, m2, mn, ea, eb]
      refine callK.mk H3 ?_
      simp [e2, e3, e4, e5, m0, m2, mn, ea, eb]
      refine callK.mk (rpair_ok _ _) ?_
      simp [e2, e3, e4, e5, m0, m2, mn, ea, eb]
      decide
    · have q : 0 < a.fn.length + b.fn.length := by simp [ea, eb]
      have H2 := H2 q
      have H3 := H3 q
      rw [if_pos ⟨q5, q⟩] at hG
      rw [pa, pb] at H2 H3 hG
      simp only at H2 H3 hG
      subst hG
      simp [hc5, e2, e3, e4, e5, m0, m2, mn, q5, ea, eb]
      refine callK.mk rId_ok ?_
      simp
      refine callK.mk rId_ok ?_
      simp
      refine callK.mk rId_ok ?_
      simp
      refine callK.mk rId_ok ?_
      simp [e2, e3, e4, e5, m0, m2, mn, ea, eb]
      refine callK.mk H2 ?_
      simp [e2, e3, e4, e5, m0, m2, mn, ea, eb]
      refine callK.mk H3 ?_
      simp [e2, e3, e4, e5, m0, m2, mn, ea, eb]
      refine callK.mk (rpair_ok _ _) ?_
      simp [e2, e3, e4, e5, m0, m2, mn, ea, eb]
      decide
  · simp [q5] at hG
    subst hG
    simp [hc5, e2, e3, e4, e5, m0, m2, mn, q5]

theorem rcomposed_ok : ∀ (n : Nat) {a b : Coe}, inN n a → inN n b → mayC a = true → mayC b = true → smC 536870912 a → smC 536870912 b → PCall Pg F.gradusref10_composed [.agg a.enc, .agg b.enc] (.agg (compN n a b).enc)
  | 0, a, b, ia, ib, ma, mb, sa, sb => by
    have ea : a = idC := ia
    have eb : b = idC := ib
    have e : compN 0 a b = nodeC (compN 0) a b := by rw [ea, eb]; exact (comp_id 1).symm
    rw [e]
    refine rcomposed_one ⟨(mayC_iff _).1 ma, (mayC_iff _).1 mb, rfl, smC_small sa, smC_small sb, fun k hk => ?_, fun h => ?_, fun h => ?_⟩
    · rw [ea, eb] at hk
      rcases keysU_mem.1 hk with h | h <;> cases h
    · rw [ea, eb] at h; simp [idC, Coe.fn] at h
    · rw [ea, eb] at h; simp [idC, Coe.fn] at h
  | n + 1, a, b, ia, ib, ma, mb, sa, sb => by
    have Ma := (mayC_iff _).1 ma
    have Mb := (mayC_iff _).1 mb
    refine rcomposed_one ⟨Ma, Mb, comp_id n, smC_small sa, smC_small sb, fun k _ => ?_, fun _ => ?_, fun _ => ?_⟩
    · exact rcomposed_ok n (inN_field ia Ma.len k) (inN_field ib Mb.len k) (Ma.field k) (Mb.field k) (smC_field sa Ma.len k) (smC_field sb Mb.len k)
    · exact rcomposed_ok n (inN_pair ib).1 (inN_pair ia).1 Mb.pair.1 Ma.pair.1 (smC_pair sb).1 (smC_pair sa).1
    · exact rcomposed_ok n (inN_pair ia).2 (inN_pair ib).2 Ma.pair.2 Mb.pair.2 (smC_pair sa).2 (smC_pair sb).2

theorem rCompose_ok (n : Nat) {a b : Coe} (ia : inN n a) (ib : inN n b) (sa : smC 536870912 a) (sb : smC 536870912 b) : PCall Pg F.gradusref10_Compose [.agg a.enc, .agg b.enc] (.agg (compC n a b).enc) := by
  refine w_gradusref10_Compose (by simp) fun o c hN hp => ?_
  unfold mc_gradusref10_Compose compC
  simp
  refine callK.mk (rMay_ok a) ?_
  simp
  refine callK.mk (rMay_ok b) ?_
  simp
  by_cases h1 : mayC a = true
  · by_cases h2 : mayC b = true
    · simp [h1, h2]
      refine callK.mk (rcomposed_ok n ia ib h1 h2 sa sb) ?_
      simp [h1, h2]
    · simp at h2
      simp [h1, h2, noC, Coe.enc, Coe.encs]
  · simp at h1
    simp [h1, noC, Coe.enc, Coe.encs]
end Go.Gr
