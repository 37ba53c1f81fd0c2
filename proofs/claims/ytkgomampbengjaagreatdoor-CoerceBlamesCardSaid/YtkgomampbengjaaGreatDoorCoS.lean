import Derived.Test.YtkgomampbengjaaGreatDoorCoQ
import Derived.Test.YtkgomampbengjaaGreatDoorSrt
import Derived.Test.YtkgomampbengjaaGreatDoorLay
/- A map's keys, sorted: the contracts at this program. -/
set_option linter.unusedVariables false
set_option linter.unusedSimpArgs false
namespace Go.Gr
open Go.Abs Go.Proofs Go.RowKit Go.Maps Go.Sort Go.Shelf

theorem sortsS (m : Nat) : AnyZ.SortsIn Tryz.prog Tryz.sorted78_ren Fence.wide m :=
  ⟨fun blk off cap ss W hH hblk hsz => callsIn_wide.2 (AnyM.slices_Sort_string Tryz.sort92 blk off cap ss W hH hblk hsz),
   fun p cap W => callsIn_wide.2 (AnyM.slices_Sort_string_none Tryz.sort92 p cap W)⟩
theorem sortsI (m : Nat) : AnyZI.SortsIn Tryz.prog Tryz.sorted42_ren Fence.wide m :=
  ⟨fun blk off cap ss W hH hblk hsz => callsIn_wide.2 (AnyM.slices_Sort_int Tryz.sort63 blk off cap ss W hH hblk hsz),
   fun p cap W => callsIn_wide.2 (AnyM.slices_Sort_int_none Tryz.sort63 p cap W)⟩

set_option maxHeartbeats 1000000 in
theorem sortedS_calls {H : Type} (Bm b nn : Nat) (D0 : DataW H) (R : Value → Option (DataW H × List MemPlace)) (w : World) (hB : Bm < w.heap.size) (hm : w.cell? ⟨Bm, 0, none⟩ = some (.map (some b))) (hown : w.ownsMap Tryz.prog 9 R b nn D0) (hmax : Maps.size D0 ≤ maxLen) (hbytes : Maps.size D0 * 16 ≤ 140737488355328) :
    Calls Tryz.prog 78 #[.func (.func 93) #[] #[.pointer (some ⟨Bm, 0, none⟩)]] w fun e w' => ∃ (v : Value) (ss : List (List UInt8)), e = .returned v ∧ ss.Perm (strKeys D0) ∧
      w'.ownsRow w.heap.size 9 1 v ss.length ((ss.mergeSort (fun x y => decide (x ≤ y))).map encStr) ∧ (v = .slice none 0 0 ↔ ss = []) ∧ Below w.heap.size w w' := by
  refine (callsIn_wide (n := 5)).1 ?_
  have hseq : SeqGives Fence.wide 2 Tryz.prog 93 #[.pointer (some ⟨Bm, 0, none⟩)] encStr (fun ss => ss.Perm (strKeys D0)) (Maps.size D0) w :=
    AnyZ.keys_gives (ρ := Tryz.keys79_ren) { Tryz.keys79 with } Fence.wide _ trivial rfl (by omega) Bm b nn D0 _ hB hm hown
  exact AnyZ.sorted_in Tryz.sorted78 Fence.wide 5 trivial trivial trivial trivial rfl (by omega) (sortsS _) (enters_of Tryz.func92 (by kernel_rfl) rfl) 93 #[.pointer (some ⟨Bm, 0, none⟩)] trivial (enters_of Tryz.func93 (by kernel_rfl) rfl) _ _ hmax hbytes _ hseq

set_option maxHeartbeats 1000000 in
theorem sortedI_calls {H : Type} (Bm b nn : Nat) (D0 : DataW H) (R : Value → Option (DataW H × List MemPlace)) (w : World) (hB : Bm < w.heap.size) (hm : w.cell? ⟨Bm, 0, none⟩ = some (.map (some b))) (hown : w.ownsMap Tryz.prog 3 R b nn D0) (hmax : Maps.size D0 ≤ maxLen) (hbytes : Maps.size D0 * 8 ≤ 140737488355328) :
    Calls Tryz.prog 42 #[.func (.func 64) #[] #[.pointer (some ⟨Bm, 0, none⟩)]] w fun e w' => ∃ (v : Value) (ss : List Int), e = .returned v ∧ ss.Perm (intKeys D0) ∧
      w'.ownsRow w.heap.size 3 1 v ss.length ((ss.mergeSort (fun x y => decide (x ≤ y))).map encZ) ∧ (v = .slice none 0 0 ↔ ss = []) ∧ Below w.heap.size w w' := by
  refine (callsIn_wide (n := 5)).1 ?_
  have hseq : SeqGives Fence.wide 2 Tryz.prog 64 #[.pointer (some ⟨Bm, 0, none⟩)] encZ (fun ss => ss.Perm (intKeys D0)) (Maps.size D0) w :=
    AnyZI.keys_gives (ρ := Tryz.keys43_ren) { Tryz.keys43 with } Fence.wide _ trivial rfl (by omega) Bm b nn D0 _ hB hm hown
  exact AnyZI.sorted_in Tryz.sorted42 Fence.wide 5 trivial trivial trivial trivial rfl (by omega) (sortsI _) (enters_of Tryz.func63 (by kernel_rfl) rfl) 64 #[.pointer (some ⟨Bm, 0, none⟩)] trivial (enters_of Tryz.func64 (by kernel_rfl) rfl) _ _ hmax hbytes _ hseq
end Go.Gr

/- A map's keys, sorted: contracts on the call's own blocks. -/
set_option linter.unusedVariables false
set_option linter.unusedSimpArgs false
namespace Go.Gr
open Go.Abs Go.Proofs Go.RowKit

def mapC (l : List (ByteArray × Coe)) : List (D × AV) := l.map fun x => (.str x.1, .ag (x.2.enc.map .d))
def mapL (l : List Int) : List (D × AV) := l.map fun x => (.int .i64 x, .c (.d (.bool true)))
@[simp] theorem mapC_ren (f : Nat → Nat) (l : List (ByteArray × Coe)) : (mapC l).map (fun e => (e.1, AV.ren f e.2)) = mapC l := by simp [mapC]
@[simp] theorem mapL_ren (f : Nat → Nat) (l : List Int) : (mapL l).map (fun e => (e.1, AV.ren f e.2)) = mapL l := by simp [mapL]
theorem mapC_lt {n : Nat} {l : List (ByteArray × Coe)} {a : D} {b : AV} (h : (a, b) ∈ mapC l) : AV.lt n b = true := by
  simp only [mapC, List.mem_map] at h
  obtain ⟨x, _, e⟩ := h
  cases e
  simp
theorem mapL_lt {n : Nat} {l : List Int} {a : D} {b : AV} (h : (a, b) ∈ mapL l) : AV.lt n b = true := by
  simp only [mapL, List.mem_map] at h
  obtain ⟨x, _, e⟩ := h
  cases e
  simp
theorem mapC_lv' {f : Nat → Bool} {l : List (ByteArray × Coe)} (a : D) (b : AV) (h : (a, b) ∈ mapC l) : AV.lv f b = true := by
  simp only [mapC, List.mem_map] at h
  obtain ⟨x, _, e⟩ := h
  cases e
  simp
theorem mapL_lv' {f : Nat → Bool} {l : List Int} (a : D) (b : AV) (h : (a, b) ∈ mapL l) : AV.lv f b = true := by
  simp only [mapL, List.mem_map] at h
  obtain ⟨x, _, e⟩ := h
  cases e
  simp
@[simp] theorem mapC_lv (f : Nat → Bool) (l : List (ByteArray × Coe)) : (Blk.map (mapC l)).lv f = true := by
  simp [Blk.lv, mapC]
@[simp] theorem mapL_lv (f : Nat → Bool) (l : List Int) : (Blk.map (mapL l)).lv f = true := by
  simp [Blk.lv, mapL]
@[simp] theorem mapC_fst (l : List (ByteArray × Coe)) : (mapC l).map (·.1) = (l.map (·.1)).map .str := by simp [mapC]
@[simp] theorem mapL_fst (l : List Int) : (mapL l).map (·.1) = l.map (.int .i64) := by simp [mapL]

theorem keysC_ok (l : List (ByteArray × Coe)) : MCall Pg F.maps_Keys_map_string_api_Co_string_api_Co [.c (.map 0)] [.map (mapC l)] (.c (.fn (.func 93) [.ptr 1 0])) [.map (mapC l), .box [.map 0]] := by
  refine wm_maps_Keys_map_string_api_Co_string_api_Co ⟨by simp, by simp, by simp, by simp, by simp, by simp [live], by simp [live]; exact mapC_lv'⟩ fun ts hts ok hb c hN hp => ?_
  obtain ⟨t, rfl⟩ := oneTs hts
  unfold mc_maps_Keys_map_string_api_Co_string_api_Co
  simp
  exact EndM.mk [0, 2] [1] (by simp)
theorem keysL_ok (l : List Int) : MCall Pg F.maps_Keys_map_int_bool_int_bool [.c (.map 0)] [.map (mapL l)] (.c (.fn (.func 64) [.ptr 1 0])) [.map (mapL l), .box [.map 0]] := by
  refine wm_maps_Keys_map_int_bool_int_bool ⟨by simp, by simp, by simp, by simp, by simp, by simp [live], by simp [live]; exact mapL_lv'⟩ fun ts hts ok hb c hN hp => ?_
  obtain ⟨t, rfl⟩ := oneTs hts
  unfold mc_maps_Keys_map_int_bool_int_bool
  simp
  exact EndM.mk [0, 2] [1] (by simp)

theorem seq_args {h : PH} {ρ : RM} {es : List (D × AV)} {w : World} {g : FuncId} {argsC : List Value} (K : HRel h ρ (hpOf [.map es, .box [.map 0]]) w.heap) (r : RepVL h ρ [.c (.fn (.func g) [.ptr 1 0])] argsC) :
    ∃ (p0 : Nat × Nat) (B : Nat), argsC = [.func (.func g) #[] #[.pointer (some ⟨B, 0, none⟩)]] ∧ B < w.heap.size ∧ w.cell? ⟨B, 0, none⟩ = some (.map (some p0.1)) ∧ BlkRep h ρ p0 (.map es) w.heap := by
  match argsC, r with
  | [v], r =>
    simp only [RepVL, RepV, RepC, and_true] at r
    obtain ⟨vs, e1, e2, e3⟩ := r
    match vs, e2, e3 with
    | [u], _, e3 =>
      simp only [RepCL, RepC, and_true] at e3
      obtain ⟨_, p1, q1, q2⟩ := e3
      have hb := K.own 1 p1 q1
      simp [hpOf, BlkRep] at hb
      obtain ⟨us, ⟨T, b1⟩, b2, b3⟩ := hb
      match us, b2, b3 with
      | [x], _, b3 =>
        simp only [RepCL, RepC, and_true] at b3
        obtain ⟨_, p0, c1, c2⟩ := b3
        have h0 := K.own 0 p0 c1
        refine ⟨p0, p1.1, by rw [e1, q2], ?_, ?_, by simpa [hpOf] using h0⟩
        · rcases Nat.lt_or_ge p1.1 w.heap.size with g | g
          · exact g
          · rw [Array.getElem?_eq_none g] at b1; cases b1
        · simp [World.cell?, b1, c2]

theorem sortedC_ok (l : List (ByteArray × Coe)) (hn : (l.map (·.1)).Nodup) (hl : l.length ≤ 1073741824) :
    MCall Pg F.slices_Sorted_string [.c (.fn (.func 93) [.ptr 1 0])] [.map (mapC l), .box [.map 0]] (.c (.d (.sl false 1 (encS (sortS (l.map (·.1))))))) [.map (mapC l), .box [.map 0]] := by
  have hlen : (sortS (l.map (·.1))).length = l.length := by simp [sortS]
  have hm : (140737488355328 : Nat) ≤ maxLen := by decide
  have e : encS (sortS (l.map (·.1))) = ((sortS (l.map (·.1))).map D.str).map fun d => [d] := by simp [encS]
  rw [e]
  refine MCall.row (by decide +kernel) (tag_non (by simp)) (by simp [live]; exact mapC_lv') (by simp [hlen, lenMax]; omega) fun h ρ w argsC K r => ?_
  obtain ⟨p0, B, rfl, hB, hc, hmap⟩ := seq_args K r
  obtain ⟨D0, o1, o2, o3⟩ := ownsS (P := Tryz.prog) (k := 9) Tryz.underlying9 (mapC_fst l) hn (by simpa using hl) hmap
  have o2' : Maps.size D0 = l.length := by rw [o2]; simp
  refine (sortedS_calls B p0.1 _ D0 anyElem w hB hc o1 (by omega) (by omega)).mono fun e w' q => ?_
  obtain ⟨v, ss, q1, q2, q3, _, q5⟩ := q
  have q6 : ss.Perm ((l.map (·.1)).map fun s => s.data.toList) := q2.trans o3
  have q7 : ss.mergeSort (fun x y => decide (x ≤ y)) = ((l.map (·.1)).map fun s => s.data.toList).mergeSort fun x y => decide (x ≤ y) := mergeSort_of_perm q6
  obtain ⟨ms, ck, _, g2, _⟩ := hmap
  obtain ⟨_, hsz⟩ := repM_keys (P := Tryz.prog) (k := 9) (mapC_fst l) g2
  have hss : ss.length = l.length := by simpa using q6.length_eq
  refine ⟨v, _, 9, q1, fun h => repL_str fun x hx => ?_, by simpa [hss, hlen, q7] using q3, q5⟩
  have hx' := (List.mergeSort_perm _ _).mem_iff.1 hx
  obtain ⟨s, hs, rfl⟩ := List.mem_map.1 hx'
  rw [Array.length_toList]
  exact hsz s hs

theorem sortedL_ok (l : List Int) (hn : l.Nodup) (hl : l.length ≤ 1073741824) :
    MCall Pg F.slices_Sorted_int [.c (.fn (.func 64) [.ptr 1 0])] [.map (mapL l), .box [.map 0]] (.c (.d (.sl false 1 (encI (sortI l))))) [.map (mapL l), .box [.map 0]] := by
  have hlen : (sortI l).length = l.length := by simp [sortI]
  have hm : (140737488355328 : Nat) ≤ maxLen := by decide
  have e : encI (sortI l) = ((sortI l).map (D.int .i64)).map fun d => [d] := by simp [encI]
  rw [e]
  refine MCall.row (by decide +kernel) (tag_non (by simp)) (by simp [live]; exact mapL_lv') (by simp [hlen, lenMax]; omega) fun h ρ w argsC K r => ?_
  obtain ⟨p0, B, rfl, hB, hc, hmap⟩ := seq_args K r
  obtain ⟨D0, o1, o2, o3⟩ := ownsI (P := Tryz.prog) (k := 3) Tryz.underlying3 (mapL_fst l) hn hl hmap
  refine (sortedI_calls B p0.1 _ D0 anyElem w hB hc o1 (by omega) (by omega)).mono fun e w' q => ?_
  obtain ⟨v, ss, q1, q2, q3, _, q5⟩ := q
  have q6 : ss.Perm l := q2.trans o3
  have q7 : ss.mergeSort (fun x y => decide (x ≤ y)) = l.mergeSort fun x y => decide (x ≤ y) := mergeSort_of_perm_i q6
  obtain ⟨ms, ck, _, g2, _⟩ := hmap
  obtain ⟨_, hsz⟩ := repM_keysI (mapL_fst l) g2
  have hss : ss.length = l.length := q6.length_eq
  refine ⟨v, _, 3, q1, fun h => repL_int fun x hx => ?_, by simpa [hss, hlen, q7, sortI] using q3, q5⟩
  exact hsz x ((List.mergeSort_perm _ _).mem_iff.1 hx)
end Go.Gr

/- Coercions: fields, out of a map of them. -/
set_option linter.unusedVariables false
set_option linter.unusedSimpArgs false
namespace Go.Gr
open Go.Abs Go.Proofs

def noC : Coe := .mk [] [] [] [] []
/-- what a map has at a key -/
def atC (l : List (ByteArray × Coe)) (k : ByteArray) : Coe := match l with
  | [] => noC
  | x :: l => if k = x.1 then x.2 else atC l k
theorem mfindC_is {k : ByteArray} : ∀ {l : List (ByteArray × Coe)} (i : Nat), k ∈ l.map (·.1) → ∃ j, mfind 1 (.str k) (mapC l) i = some (some (j, .ag ((atC l k).enc.map .d)))
  | [], i, h => by simp at h
  | x :: l, i, h => by
    by_cases e : k = x.1
    · exact ⟨i, by simp [mapC, atC, e]⟩
    · have : k ∈ l.map (·.1) := by
        simp only [List.map_cons, List.mem_cons] at h
        exact h.resolve_left e
      obtain ⟨j, hj⟩ := mfindC_is (i + 1) this
      simp only [mapC] at hj
      exact ⟨j, by simp [mapC, atC, e, hj]⟩

/-- those that do something, of these names -/
def outC (l : List (ByteArray × Coe)) (ks : List ByteArray) : List (ByteArray × Coe) := (ks.map fun k => (k, atC l k)).filter fun x => !sameC x.2 idC
theorem outC_succ {l : List (ByteArray × Coe)} {ks : List ByteArray} {j : Nat} (h : j < ks.length) : outC l (ks.take (j + 1)) = outC l (ks.take j) ++ if sameC (atC l ks[j]) idC = true then [] else [(ks[j], atC l ks[j])] := by
  unfold outC
  rw [List.take_succ_eq_append_getElem h, List.map_append, List.filter_append]
  by_cases q : sameC (atC l ks[j]) idC = true <;> simp [q]
theorem outC_len (l : List (ByteArray × Coe)) (ks : List ByteArray) : (outC l ks).length ≤ ks.length := by
  unfold outC
  exact Nat.le_trans (List.length_filter_le _ _) (by simp)

theorem sortS_mem {l : List ByteArray} {k : ByteArray} : k ∈ sortS l ↔ k ∈ l := by
  unfold sortS
  simp only [List.mem_map, List.mem_mergeSort]
  constructor
  · rintro ⟨x, ⟨s, hs, rfl⟩, rfl⟩
    simpa using hs
  · intro h
    exact ⟨_, ⟨k, h, rfl⟩, by simp⟩

set_option maxRecDepth 20000 in
theorem fields_ok (a b f : D) (l : List (ByteArray × Coe)) (hn : (l.map (·.1)).Nodup) (hl : l.length ≤ 1073741824) :
    MCall Pg F.coerce_fields [.c (.ptr 0 0), .c (.map 1)] [.box [.d a, .d b, .d (.sl true 1 []), .d (.sl true 5 []), .d f], .map (mapC l)] (.tup [])
      [.box [.d a, .d b, .msl 1 2 0 (outC l (sortS (l.map (·.1)))).length, .msl 5 3 0 (outC l (sortS (l.map (·.1)))).length, .d f], .map (mapC l),
       .arr 1 ((encS ((outC l (sortS (l.map (·.1)))).map (·.1))).map (·.map .d)), .arr 5 (((outC l (sortS (l.map (·.1)))).map (·.2.enc)).map (·.map .d))] := by
  refine wm_coerce_fields ⟨by simp, by simp, by simp, by simp, by simp, by simp, by simp [live]; exact mapC_lv'⟩ fun ts hts ok hb c hN hp => ?_
  obtain ⟨t0, t1, rfl⟩ := twoTs hts
  unfold mc_coerce_fields
  simp
  refine owK.mk [.c 0 2, .c 0 3] ?_
  simp
  refine callKM.mk [1] (keysC_ok l) (by simp; exact fun a b h => mapC_lt h) ?_
  simp
  refine callKM.mk [1, 6] (sortedC_ok l hn hl) (by simp; exact fun a b h => mapC_lt h) ?_
  simp
  have hks : (sortS (l.map (·.1))).length ≤ 1073741824 := by simpa [sortS] using hl
  have hmem : ∀ k, k ∈ sortS (l.map (·.1)) → k ∈ l.map (·.1) := fun k hk => sortS_mem.1 hk
  generalize sortS (l.map (·.1)) = ks at *
  refine W.loopL Pg_mixed hp lv_coerce_fields_0 [11] (fun j : Nat => j ≤ ks.length) (fun j => [.c (.d (.int .i64 j))])
    (fun j => [.box [.d a, .d b, .msl 1 2 0 (outC l (ks.take j)).length, .msl 5 3 0 (outC l (ks.take j)).length, .d f], .map (mapC l), .arr 1 ((encS ((outC l (ks.take j)).map (·.1))).map (·.map .d)), .arr 5 (((outC l (ks.take j)).map (·.2.enc)).map (·.map .d)), .pin t0 0, .pin t1 1])
    (fun j => ks.length - j) 0 [0, 1, 4, 5, 2, 3] (by simp) (by simp [lv_coerce_fields_0, outC, encS]; exact fun a b h => mapC_lt h) fun j h1 => ?_
  unfold lp_coerce_fields_0 lv_coerce_fields_0
  simp
  refine gd.mk (fun h => ?_) (fun h => ?_)
  · have hj : j < ks.length := by simpa using h
    simp [List.getElem?_eq_getElem hj]
    obtain ⟨i, hi⟩ := mfindC_is (l := l) 0 (hmem _ (List.getElem_mem hj))
    simp [hi]
    refine callK.mk (idle_ok _) ?_
    have hs := outC_succ (l := l) hj
    have hlen := outC_len l (ks.take j)
    rw [List.length_take] at hlen
    generalize atC l ks[j] = d at hs ⊢
    simp
    refine gd.mk (fun h => ?_) (fun h => ?_)
    · simp at h
      rw [h] at hs
      simp at hs
      refine ⟨by omega, by omega, by decide, ?_⟩
      refine Abs.Next.mk (j + 1) [0, 1, 7, 8, 4, 5] (by omega) (by omega) ?_
      simp [hs]
      refine ⟨wrap_i64 (by omega) (by omega), fun a b h => mapC_lt h, ?_, ?_⟩
      · rw [List.take_of_length_le (by simp)]; simp [encS]
      · rw [List.take_of_length_le (by simp)]
        simp [Function.comp_def]
    · simp at h
      rw [h] at hs
      simp at hs
      refine Abs.Next.mk (j + 1) [0, 1, 2, 3, 4, 5] (by omega) (by omega) ?_
      simp [hs]
      exact ⟨wrap_i64 (by omega) (by omega), fun a b h => mapC_lt h⟩
  · have hj : j = ks.length := by simp at h; omega
    subst hj
    simp
    exact EndM.mk [0, 1, 2, 3] [4, 5] (by simp)
end Go.Gr
