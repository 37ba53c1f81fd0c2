/- Labels: the program's, walked. -/
import Derived.Test.YtkgomampbengjaaGreatDoorLab
set_option linter.unusedVariables false
set_option linter.unusedSimpArgs false
namespace Go.Gr
open Go.Abs Go.Proofs

theorem mfindL_not {k : Int} : ∀ {l : List Int} (i : Nat), k ∉ l → mfind 0 (.int .i64 k) (mapL l) i = some none
  | [], i, _ => rfl
  | x :: l, i, h => by
    simp only [List.mem_cons, not_or] at h
    have ih := mfindL_not (l := l) (i + 1) h.2
    simp only [mapL] at ih
    simp [mapL, h.1, ih]
theorem mfindL_is {k : Int} : ∀ {l : List Int} (i : Nat), k ∈ l → ∃ j, j < l.length ∧ l[j]? = some k ∧ mfind 0 (.int .i64 k) (mapL l) i = some (some (i + j, .c (.d (.bool true))))
  | [], i, h => by simp at h
  | x :: l, i, h => by
    by_cases e : k = x
    · exact ⟨0, by simp, by simp [e], by simp [mapL, e]⟩
    · have h' : k ∈ l := (List.mem_cons.1 h).resolve_left e
      obtain ⟨j, h1, h2, h3⟩ := mfindL_is (l := l) (i + 1) h'
      simp only [mapL] at h3
      refine ⟨j + 1, by simp; omega, by simpa using h2, ?_⟩
      simp [mapL, e, h3]; omega
theorem mapL_set {l : List Int} {j : Nat} {k : Int} (h : l[j]? = some k) : (mapL l).set j (.int .i64 k, .c (.d (.bool true))) = mapL l := by
  unfold mapL
  have : (l.map fun x => ((D.int .i64 x, AV.c (AC.d (D.bool true))) : D × AV)).set j (.int .i64 k, .c (.d (.bool true))) = (l.set j k).map fun x => (D.int .i64 x, AV.c (AC.d (D.bool true))) := by rw [List.map_set]
  rw [this]
  congr 1
  refine List.ext_getElem? fun i => ?_
  rw [List.getElem?_set]
  split
  · rename_i e
    subst e
    split
    · rw [h]
    · rename_i q
      rw [List.getElem?_eq_none (by omega)]
  · rfl
theorem mapL_put {l : List Int} {k : Int} : (∃ j w, mfind 0 (.int .i64 k) (mapL l) 0 = some (some (j, w)) ∧ (mapL l).set j (.int .i64 k, .c (.d (.bool true))) = mapL (insL l k)) ∨ (mfind 0 (.int .i64 k) (mapL l) 0 = some none ∧ mapL l ++ [(.int .i64 k, .c (.d (.bool true)))] = mapL (insL l k)) := by
  by_cases h : k ∈ l
  · obtain ⟨j, h1, h2, h3⟩ := mfindL_is 0 h
    refine .inl ⟨j, _, by simpa using h3, ?_⟩
    rw [mapL_set h2]; unfold insL; rw [if_pos h]
  · exact .inr ⟨mfindL_not 0 h, by unfold insL; rw [if_neg h]; simp [mapL]⟩

set_option maxRecDepth 20000 in
theorem labels_one (d : Coe) (sd : Small1 536870912 d) (ih : ∀ x, x ∈ d.fields ++ d.fn → ∀ l, MCall Pg F.coerce_labels [.ag (x.enc.map .d), .c (.map 0)] [.map (mapL l)] (.tup []) [.map (mapL (addL l (rawC x)))]) (l : List Int) :
    MCall Pg F.coerce_labels [.ag (d.enc.map .d), .c (.map 0)] [.map (mapL l)] (.tup []) [.map (mapL (addL l (rawC d)))] := by
  have hf := sd.fields
  have hg := sd.fn
  have hn := sd.needs
  refine wm_coerce_labels ⟨by simp, by simp, by simp, by simp, by simp, by simp [live], by simp [live]; exact mapL_lv'⟩ fun ts hts ok hb c hN hp => ?_
  obtain ⟨t0, rfl⟩ := oneTs hts
  have ht : d.tags.length ≤ lenMax := by
    have := ok.1
    rw [Coe.enc_eq] at this
    simp only [List.map_cons, List.map_nil, AV.ok, AC.okL, AC.ok, D.ok] at this
    simpa using this.1.1
  unfold lenMax at ht
  unfold mc_coerce_labels
  simp
  refine W.loop Pg_mixed hp (fun j : Nat => j ≤ d.tags.length) (fun j => [(13, .c (.d (.int .i64 j))), (1, .c (.map 0)), (2, .c (.d (.rp d.enc 0))), (11, .c (.d (.sl false 1 (encI d.tags)))), (12, .c (.d (.int .i64 d.tags.length)))])
    (fun j => [.map (mapL (addL l (d.tags.take j))), .pin t0 0]) (fun j => d.tags.length - j) 0 [0, 1] (by simp) (by simp; exact fun a b h => mapL_lt h) fun j h1 => ?_
  unfold lp_coerce_labels_0
  simp
  refine gd.mk (fun h => ?_) (fun h => ?_)
  · have hj : j < d.tags.length := by simpa using h
    simp [List.getElem?_eq_getElem hj]
    have ha := addL_take (l := l) hj
    rcases mapL_put (l := addL l (d.tags.take j)) (k := d.tags[j]) with ⟨i, w, m1, m2⟩ | ⟨m1, m2⟩ <;> simp [m1, m2] <;> rw [← ha]
    · refine Abs.Next.mk (j + 1) [0, 1] (by omega) (by omega) ?_
      simp
      exact ⟨wrap_i64 (by omega) (by omega), fun a b h => mapL_lt h⟩
    · refine Abs.Next.mk (j + 1) [0, 1] (by omega) (by omega) ?_
      simp
      exact ⟨wrap_i64 (by omega) (by omega), fun a b h => mapL_lt h⟩
  · have hj : j = d.tags.length := by simp at h; omega
    subst hj
    simp
    refine W.loop Pg_mixed hp (fun j : Nat => j ≤ d.needs.length) (fun j => [(23, .c (.d (.int .i64 j))), (1, .c (.map 0)), (2, .c (.d (.rp d.enc 0))), (21, .c (.d (.sl false 2 (encN d.needs)))), (22, .c (.d (.int .i64 d.needs.length)))])
      (fun j => [.map (mapL (addL (addL l d.tags) ((d.needs.map (·.2)).take j))), .pin t0 0]) (fun j => d.needs.length - j) 0 [0, 1] (by simp) (by simp; exact fun a b h => mapL_lt h) fun j h1 => ?_
    unfold lp_coerce_labels_2
    simp
    refine gd.mk (fun h => ?_) (fun h => ?_)
    · have hj : j < d.needs.length := by simpa using h
      have hj2 : j < (d.needs.map (·.2)).length := by simpa using hj
      have ha := addL_take (l := addL l d.tags) hj2
      simp only [List.getElem_map] at ha
      simp [List.getElem?_eq_getElem hj]
      rcases mapL_put (l := addL (addL l d.tags) ((d.needs.map (·.2)).take j)) (k := d.needs[j].2) with ⟨i, w, m1, m2⟩ | ⟨m1, m2⟩ <;> simp [m1, m2] <;> rw [← ha]
      · refine Abs.Next.mk (j + 1) [0, 1] (by omega) (by omega) ?_
        simp
        exact ⟨wrap_i64 (by omega) (by omega), fun a b h => mapL_lt h⟩
      · refine Abs.Next.mk (j + 1) [0, 1] (by omega) (by omega) ?_
        simp
        exact ⟨wrap_i64 (by omega) (by omega), fun a b h => mapL_lt h⟩
    · have hj : j = d.needs.length := by simp at h; omega
      subst hj
      have ha : addL (addL l d.tags) ((d.needs.map (·.2)).take d.needs.length) = addL l (d.tags ++ d.needs.map (·.2)) := by rw [addL_app, List.take_of_length_le (by simp)]
      rw [ha]
      simp
      refine fzK.mk [] ?_
      simp
      refine callKM.mk [] (CloneC_ok d.fields (by omega)) (by simp) ?_
      simp
      refine ⟨by omega, by decide, ?_⟩
      have hL : (List.map ((fun x => List.map AC.d x) ∘ Coe.enc) d.fields).take d.fields.length ++ List.map ((fun x => List.map AC.d x) ∘ Coe.enc) d.fn = ((d.fields ++ d.fn).map Coe.enc).map (·.map .d) := by
        rw [List.take_of_length_le (by simp)]; simp
      have hlen : d.fields.length + d.fn.length = (d.fields ++ d.fn).length := by simp
      have hlenI : (d.fields.length : Int) + d.fn.length = ((d.fields ++ d.fn).length : Nat) := by simp
      have hLl : (d.fields ++ d.fn).length ≤ 1073741824 := by rw [← hlen]; omega
      rw [hL, hlen, hlenI, rawC_eq, addL_app]
      generalize addL l (d.tags ++ d.needs.map (·.2)) = R
      generalize d.fields ++ d.fn = L at *
      refine W.loop Pg_mixed hp (fun j : Nat => j ≤ L.length) (fun j => [(38, .c (.d (.int .i64 j))), (1, .c (.map 0)), (36, .c (.msl 5 3 0 L.length)), (37, .c (.d (.int .i64 L.length)))])
        (fun j => [.map (mapL (addL R (rawCs (L.take j)))), .pin t0 0, .dead, .arr 5 ((L.map Coe.enc).map (·.map .d))]) (fun j => L.length - j) 0 [0, 1, 2, 3] (by simp) (by simp [rawCs]; exact fun a b h => mapL_lt h) fun j h1 => ?_
      unfold lp_coerce_labels_4
      simp
      refine gd.mk (fun h => ?_) (fun h => ?_)
      · have hj : j < L.length := by simpa using h
        simp [List.getElem?_eq_getElem hj]
        have ha : addL (addL R (rawCs (L.take j))) (rawC L[j]) = addL R (rawCs (L.take (j + 1))) := by rw [rawCs_take hj, addL_app]
        have hc := ih _ (List.getElem_mem hj) (addL R (rawCs (L.take j)))
        rw [ha] at hc
        refine ⟨hj, callKM.mk [0] hc (by simp; exact fun a b h => mapL_lt h) ?_⟩
        simp
        refine Abs.Next.mk (j + 1) [0, 1, 2, 3] (by omega) (by omega) ?_
        simp
        exact ⟨wrap_i64 (by omega) (by omega), fun a b h => mapL_lt h⟩
      · have hj : j = L.length := by simp at h; omega
        subst hj
        simp
        exact EndM.mk [0] [1] (by simp)

theorem labels_ok : ∀ (n : Nat) {d : Coe}, inN n d → smC 536870912 d → ∀ l, MCall Pg F.coerce_labels [.ag (d.enc.map .d), .c (.map 0)] [.map (mapL l)] (.tup []) [.map (mapL (addL l (rawC d)))]
  | 0, d, hi, sd => labels_one d (smC_small sd) fun x hx => by
      have : d = idC := hi
      rw [this] at hx; cases hx
  | n + 1, d, hi, sd => labels_one d (smC_small sd) fun x hx => by
      have sd' := (smC_iff _ _).1 sd
      rcases List.mem_append.1 hx with h | h
      · exact labels_ok n (hi.1 x h) (sd'.2.2.2.1 x h)
      · exact labels_ok n (hi.2 x h) (sd'.2.2.2.2 x h)

theorem mapL_erase {l : List Int} (hn : l.Nodup) : (∃ j w, mfind 0 (.int .i64 0) (mapL l) 0 = some (some (j, w)) ∧ (mapL l).eraseIdx j = mapL (l.filter fun x => !decide (x = 0))) ∨ (mfind 0 (.int .i64 0) (mapL l) 0 = some none ∧ mapL l = mapL (l.filter fun x => !decide (x = 0))) := by
  by_cases h : (0 : Int) ∈ l
  · obtain ⟨j, h1, h2, h3⟩ := mfindL_is 0 h
    refine .inl ⟨j, _, by simpa using h3, ?_⟩
    have e : l.eraseIdx j = l.filter fun x => !decide (x = 0) := by
      have hj : l[j] = 0 := by rw [List.getElem?_eq_getElem h1] at h2; simpa using h2
      rw [List.eraseIdx_eq_take_drop_succ]
      have hd : l = l.take j ++ 0 :: l.drop (j + 1) := by
        conv => lhs; rw [← List.take_append_drop j l, List.drop_eq_getElem_cons h1, hj]
      have hnd := hn
      rw [hd] at hnd
      obtain ⟨n1, n2, n3⟩ := List.nodup_append.1 hnd
      have n4 := List.nodup_cons.1 n2
      have f1 : (l.take j).filter (fun x => !decide (x = 0)) = l.take j := List.filter_eq_self.2 fun a ha => by
        have := n3 a ha 0 (by simp)
        simpa using this
      have f2 : (l.drop (j + 1)).filter (fun x => !decide (x = 0)) = l.drop (j + 1) := List.filter_eq_self.2 fun a ha => by
        have : a ≠ 0 := fun e => n4.1 (e ▸ ha)
        simpa using this
      conv => rhs; rw [hd, List.filter_append, List.filter_cons_of_neg (by simp), f1, f2]
    rw [← e]
    unfold mapL
    rw [List.eraseIdx_eq_take_drop_succ, List.eraseIdx_eq_take_drop_succ, List.map_append, List.map_take, List.map_drop]
  · refine .inr ⟨mfindL_not 0 h, ?_⟩
    rw [List.filter_eq_self.2]
    intro a ha
    have : a ≠ 0 := fun e => h (e ▸ ha)
    simpa using this

set_option maxRecDepth 20000 in
theorem Labels_ok (n : Nat) {d : Coe} (hi : inN n d) (sd : smC 536870912 d) (hl : (rawC d).length ≤ 1073741824) : PCall Pg F.coerce_Labels [.agg d.enc] (.one (.sl false 1 (encI (labS (rawC d))))) := by
  refine w_coerce_Labels (by simp) fun o c hN hp => ?_
  unfold mc_coerce_Labels
  simp
  refine callKM.mk [0] (labels_ok n hi sd []) (by simp [mapL]) ?_
  simp
  have hnd := addL_nodup (r := rawC d) (l := []) (by simp)
  have hle := addL_len (rawC d) []
  have hnf := hnd.filter fun x => !decide (x = 0)
  have hlf := List.length_filter_le (fun x => !decide (x = 0)) (addL [] (rawC d))
  have hS : labS (rawC d) = sortI ((addL [] (rawC d)).filter fun x => !decide (x = 0)) := rfl
  rw [hS]
  simp only [List.length_nil, Nat.zero_add] at hle
  rcases mapL_erase hnd with ⟨j, w, m1, m2⟩ | ⟨m1, m2⟩ <;> generalize (addL [] (rawC d)).filter (fun x => !decide (x = 0)) = L at *
  · simp [m1, m2]
    refine callKM.mk [0] (keysL_ok L) (by simp; exact fun a b h => mapL_lt h) ?_
    simp
    refine callKM.mk [0, 1] (sortedL_ok L hnf (by omega)) (by simp; exact fun a b h => mapL_lt h) ?_
    simp
  · simp [m1]
    rw [m2]
    refine callKM.mk [0] (keysL_ok L) (by simp; exact fun a b h => mapL_lt h) ?_
    simp
    refine callKM.mk [0, 1] (sortedL_ok L hnf (by omega)) (by simp; exact fun a b h => mapL_lt h) ?_
    simp
end Go.Gr
