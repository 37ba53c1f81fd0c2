import Derived.Test.YtkgomampbengjaaGreatDoorCoU
/- Casts between types of one node: what the chapter's example asks. -/
set_option linter.unusedVariables false
set_option linter.unusedSimpArgs false
namespace Go.Gr
open Go.Abs Go.Proofs

/-- a type of a kind -/
def bT (k : Int) : Typ := .mk k (bs []) [] []
@[simp] theorem bT_kind (k : Int) : (bT k).kind = k := rfl
@[simp] theorem bT_name (k : Int) : (bT k).name = bs [] := rfl
@[simp] theorem bT_names (k : Int) : (bT k).names = [] := rfl
@[simp] theorem bT_kids (k : Int) : (bT k).kids = [] := rfl
theorem bT_enc (k : Int) : (bT k).enc = [.int .i64 k, .str (bs []), .sl false 1 [], .sl false 4 []] := by rw [Typ.enc_eq]; rfl
@[simp] theorem Typ.er_map (t : Typ) : t.enc.map D.er = t.enc := by rw [Typ.enc_eq]; rfl

theorem base_ok (k : Int) : PCall Pg F.graduslaw10_base [.one (.int .i64 k)] (.agg (bT k).enc) := by
  refine w_graduslaw10_base (by simp) fun o c hN hp => ?_
  unfold mc_graduslaw10_base
  simp [bT_enc]

theorem SizeB_ok (k : Int) : PCall Pg F.types_Size [.agg (bT k).enc] (.one (.int .i64 1)) := by
  refine w_types_Size (by simp) fun o c hN hp => ?_
  unfold mc_types_Size
  simp
  refine W.loopL Pg_mixed hp lv_types_Size_0 [9] (fun j : Nat => j = 0) (fun j => [.c (.d (.int .i64 0))]) (fun _ => []) (fun _ => 0) 0 [] rfl (by simp [lv_types_Size_0]) fun j h1 => ?_
  unfold lp_types_Size_0 lv_types_Size_0
  simp [mmI]

theorem heightB_ok (k : Int) : PCall Pg F.types_height [.agg (bT k).enc, .one (.int .i64 17)] (.one (.int .i64 1)) := by
  refine w_types_height (by simp) fun o c hN hp => ?_
  unfold mc_types_height
  simp
  refine W.loopL Pg_mixed hp lv_types_height_0 [13] (fun j : Nat => j = 0) (fun j => [.c (.d (.int .i64 0))]) (fun _ => []) (fun _ => 0) 0 [] rfl (by simp [lv_types_height_0]) fun j h1 => ?_
  unfold lp_types_height_0 lv_types_height_0
  simp
  decide

theorem HeightB_ok (k : Int) : PCall Pg F.types_Height [.agg (bT k).enc] (.one (.int .i64 1)) := by
  refine w_types_Height (by simp) fun o c hN hp => ?_
  unfold mc_types_Height
  simp
  refine callK.mk (heightB_ok k) ?_
  simp

theorem normB_ok (k : Int) (h0 : 0 ≤ k) (h1 : k ≤ 4) : PCall Pg F.types_norm [.agg (bT k).enc] (.tup [.agg (bT k).enc, .one (.bool true)]) := by
  refine w_types_norm (by simp) fun o c hN hp => ?_
  have hk : k = 0 ∨ k = 1 ∨ k = 2 ∨ k = 3 ∨ k = 4 := by omega
  unfold mc_types_norm
  rcases hk with rfl | rfl | rfl | rfl | rfl <;> simp [bT_enc]

theorem NormB_ok (k : Int) (h0 : 0 ≤ k) (h1 : k ≤ 4) : PCall Pg F.types_Norm [.agg (bT k).enc] (.tup [.agg (bT k).enc, .one (.int .i64 0)]) := by
  refine w_types_Norm (by simp) fun o c hN hp => ?_
  unfold mc_types_Norm
  simp
  refine callK.mk (HeightB_ok k) ?_
  simp
  refine callK.mk (SizeB_ok k) ?_
  simp
  refine callK.mk (normB_ok k h0 h1) ?_
  simp

theorem normalB_ok (k : Int) (h0 : 0 ≤ k) (h1 : k ≤ 4) : PCall Pg F.coerce_normal [.agg (bT k).enc] (.one (.bool true)) := by
  have hs : sameT (bT k) (bT k) = true := by simp [sameT, bT, sameTs]
  refine w_coerce_normal (by simp) fun o c hN hp => ?_
  unfold mc_coerce_normal
  simp
  refine callK.mk (NormB_ok k h0 h1) ?_
  simp
  refine callK.mk (SameT_ok (bT k) (bT k)) ?_
  simp [hs]

/-- has such a type the tag -/
def hasB (k t : Int) : Bool := decide (k = 0 ∨ k = t + 1)
/-- its part of that tag -/
def partB (k t : Int) : Typ := if k = 0 then .mk (t + 1) (bs []) [] (if t = 5 then [bT 0, bT 0] else []) else if k = t + 1 then bT k else bT 0
theorem MemberB_ok (k t : Int) (h0 : 1 ≤ k) (h1 : k ≤ 4) (t0 : 0 ≤ t) (t1 : t ≤ 5) : PCall Pg F.types_Member [.agg (bT k).enc, .one (.int .i64 t)] (.tup [.agg (partB k t).enc, .one (.bool (hasB k t))]) := by
  refine w_types_Member (by simp) fun o c hN hp => ?_
  unfold mc_types_Member
  have hk7 : ¬ k = 7 := by omega
  simp [hk7]
  have hi := indexT_ok [bT k] F.types_Member_1 [.rp [.int .i64 t] 0] (fun x => decide (tagOf x = t)) fun x _ => Member1_ok x t
  have he : PCall Pg F.slices_IndexFunc_api_Type_api_Type [.one (.sl true 4 [(bT k).enc]), .one (.fn (.func F.types_Member_1) [.rp [.int .i64 t] 0])] (.one (.int .i64 (fi (fun x => decide (tagOf x = t)) 0 [bT k]))) := PCall.erd hi (by rw [bT_enc]; simp [DV.erds, DV.erd, D.erd, D.erdE, D.erdL]; exact (bT_enc k).symm)
  refine callK.mk he ?_
  have ht : tagOf (bT k) = k - 1 := by unfold tagOf; simp; omega
  have hf : fi (fun x => decide (tagOf x = t)) 0 [bT k] = if k = t + 1 then 0 else -1 := by
    simp only [fi, ht]
    by_cases q : k = t + 1
    · rw [if_pos (by simp; omega), if_pos q]; rfl
    · rw [if_neg (by simp; omega), if_neg q]
  rw [hf]
  by_cases q : k = t + 1
  · simp [q, hasB, partB, show ¬ t < 0 by omega, show ¬ t + 1 = 0 by omega]
  · simp [q, hasB, partB, show ¬ k = 0 by omega, bT_enc]

theorem PCall.erdV {P : Program} {f : FuncId} {args : List DV} {v v' : DV} (h : PCall P f args v) (e : v.erd = v') : PCall P f args v' := by
  subst e
  refine ⟨h.1, fun ph w us hp hG r => (h.2 ph w us hp hG r).mono fun e w' q => ?_⟩
  obtain ⟨vC, h', q1, q2, q3, q4, q5, q6, q7, q8⟩ := q
  exact ⟨vC, h', q1, q2, q3, q4, q5, q6, q7, RepDV.erd q8⟩

theorem partB_ok (k t : Int) (h0 : 0 ≤ k) (h1 : k ≤ 4) (t0 : 0 ≤ t) (t1 : t ≤ 5) : PCall Pg F.coerce_part [.agg (bT k).enc, .one (.int .i64 t)] (.tup [.agg (partB k t).enc, .one (.bool (decide (k = 0 ∧ t = 4))), .one (.bool (hasB k t))]) := by
  by_cases q : k = 0
  · subst q
    have hw : IntKind.i64.wrap (1 + t) = t + 1 := by rw [wrap_i64 (by omega) (by omega)]; omega
    by_cases q5 : t = 5
    · subst q5
      refine PCall.erdV (v := .tup [.agg [.int .i64 6, .str (bs []), .sl false 1 [], .sl false 4 [[.int .i64 0, .str (bs []), .sl true 1 [], .sl true 4 []], [.int .i64 0, .str (bs []), .sl true 1 [], .sl true 4 []]]], .one (.bool false), .one (.bool true)]) ?_ (by simp [DV.erd, DV.erds, D.erd, D.erdL, D.erdE, partB, Typ.enc_eq, Typ.kind, Typ.name, Typ.names, Typ.kids, hasB]; simp [bT, Typ.kind, Typ.name, Typ.names, Typ.kids, encS])
      refine w_coerce_part (by simp) fun o c hN hp => ?_
      unfold mc_coerce_part
      simp
      refine callK.mk (dynamic_ok (bT 0)) ?_
      simp [hw]
      decide
    · refine w_coerce_part (by simp) fun o c hN hp => ?_
      unfold mc_coerce_part
      simp
      refine callK.mk (dynamic_ok (bT 0)) ?_
      have he : (partB 0 t).enc = [.int .i64 (t + 1), .str (bs []), .sl false 1 [], .sl false 4 []] := by
        rw [Typ.enc_eq]; simp [partB, q5, Typ.kind, Typ.name, Typ.names, Typ.kids, encS]
      rw [he]
      simp [hw, hasB, q5]
  · refine w_coerce_part (by simp) fun o c hN hp => ?_
    unfold mc_coerce_part
    simp
    refine callK.mk (dynamic_ok (bT k)) ?_
    simp [q]
    refine callK.mk (MemberB_ok k t (by omega) h1 t0 t1) ?_
    simp
    exact fun h => absurd h q

/-- what such a cast is -/
def tagB (k m label t : Int) : Int := if hasB k t = true ∧ hasB m t = false then label else 0
def castB (k m label : Int) : Coe := .mk [tagB k m label 0, tagB k m label 1, tagB k m label 2, tagB k m label 3, tagB k m label 4, tagB k m label 5] [] [] [] []
def upB (k m label : Int) (j : Nat) : List Int := upT [tagB k m label 0, tagB k m label 1, tagB k m label 2, tagB k m label 3, tagB k m label 4, tagB k m label 5] j

abbrev castT (k m label : Int) : List (Nat × AV) := [(2, .c (.d (.int .i64 label))), (3, .c (.d (.rp (bT k).enc 0))), (4, .c (.d (.rp (bT m).enc 0))), (6, .c (.ptr 0 0)), (7, .c (.ptr 2 0))]
abbrev boxI : Blk := .box [.msl 1 1 0 6, .d (.sl true 2 []), .d (.sl true 1 []), .d (.sl true 5 []), .d (.sl true 5 [])]
set_option maxRecDepth 20000 in
theorem castL {c : Ctx} (hp : c.pure) (k m label : Int) (k0 : 0 ≤ k) (k1 : k ≤ 4) (m0 : 0 ≤ m) (m1 : m ≤ 4) (hne : ¬ (k = 0 ∧ m = 0)) {Q : Exit → St → Prop} {S : St} {g}
    (h0 : Match [0, 1, 2] S ((23, .c (.d (.int .i64 0))) :: castT k m label) [box5, .arr 1 ((encI six0).map (·.map .d)), boxI])
    (hQ : ∀ T, Abs.look T 6 = .c (.ptr 0 0) → Abs.look T 7 = .c (.ptr 2 0) → Q (.exit 0) ⟨T, hpOf [box5, .arr 1 ((encI (upB k m label 6)).map (·.map .d)), boxI], 3⟩) : lw_ Pg c lp_coerce_cast_0 Q g S := by
  refine W.loop Pg_mixed hp (fun j : Nat => j ≤ 6) (fun j => (23, .c (.d (.int .i64 j))) :: castT k m label) (fun j => [box5, .arr 1 ((encI (upB k m label j)).map (·.map .d)), boxI]) (fun j => 6 - j) 0 [0, 1, 2] (by simp) h0 fun j h1 => ?_
  unfold lp_coerce_cast_0
  simp
  refine gd.mk (fun h => ?_) (fun h => ?_)
  · have hj : j < 6 := by simp at h; omega
    have hup : (upB k m label j).length = 6 := by simp [upB, upT]; omega
    have hju : j < (upB k m label j).length := by omega
    have hval : (upB k m label (j + 1)) = (upB k m label j).set j (tagB k m label j) := by
      have hj' : j = 0 ∨ j = 1 ∨ j = 2 ∨ j = 3 ∨ j = 4 ∨ j = 5 := by omega
      rcases hj' with rfl | rfl | rfl | rfl | rfl | rfl <;> rfl
    have hsame : tagB k m label j = 0 → (upB k m label (j + 1)) = upB k m label j := fun e => by
      rw [hval, e]
      have hj' : j = 0 ∨ j = 1 ∨ j = 2 ∨ j = 3 ∨ j = 4 ∨ j = 5 := by omega
      rcases hj' with rfl | rfl | rfl | rfl | rfl | rfl <;> rfl
    refine callK.mk (partB_ok k j k0 k1 (by omega) (by omega)) ?_
    simp
    refine callK.mk (partB_ok m j m0 m1 (by omega) (by omega)) ?_
    simp
    by_cases hk : hasB k j = true
    · by_cases hm : hasB m j = true
      · have ht : tagB k m label j = 0 := by simp [tagB, hm]
        have hj4 : ¬ (j : Int) = 5 ∧ ¬ (j : Int) = 4 := by
          unfold hasB at hk hm
          simp only [decide_eq_true_eq] at hk hm
          omega
        simp [hk, hm, hj4]
        refine fzK.mk [] ?_
        simp only [fzG_nil]
        simp
        refine Abs.Next.mk (j + 1) [0, 1, 2] (by omega) (by omega) ?_
        simp [hsame ht]
        exact wrap_i64 (by omega) (by omega)
      · simp at hm
        have ht : tagB k m label j = label := by simp [tagB, hk, hm]
        simp [hk, hm, List.getElem?_eq_getElem hju]
        refine ⟨by omega, ?_⟩
        refine fzK.mk [] ?_
        simp only [fzG_nil]
        simp
        refine Abs.Next.mk (j + 1) [0, 1, 2] (by omega) (by omega) ?_
        simp [hval, ht]
        exact ⟨wrap_i64 (by omega) (by omega), by simp [encI_set, List.map_set]⟩
    · simp at hk
      have ht : tagB k m label j = 0 := by simp [tagB, hk]
      simp [hk]
      refine fzK.mk [] ?_
      simp only [fzG_nil]
      simp
      refine Abs.Next.mk (j + 1) [0, 1, 2] (by omega) (by omega) ?_
      simp [hsame ht]
      exact wrap_i64 (by omega) (by omega)
  · have hj : j = 6 := by simp at h; omega
    subst hj
    exact hQ _ (by simp) (by simp)

set_option maxRecDepth 20000 in
theorem castB_ok (k m label : Int) (k0 : 0 ≤ k) (k1 : k ≤ 4) (m0 : 0 ≤ m) (m1 : m ≤ 4) (hne : ¬ (k = 0 ∧ m = 0)) : PCall Pg F.coerce_cast [.agg (bT k).enc, .agg (bT m).enc, .one (.int .i64 label)] (.agg (castB k m label).enc) := by
  have hE : (castB k m label).enc = [.sl false 1 (encI (upB k m label 6)), .sl false 2 [], .sl false 1 [], .sl false 5 [], .sl false 5 []] := by
    rw [Coe.enc_eq]; rfl
  have htk : (encI (upB k m label 6)).take 6 = encI (upB k m label 6) := rfl
  have hl6 : (upB k m label 6).length = 6 := rfl
  refine w_coerce_cast (by simp) fun o c hN hp => ?_
  unfold mc_coerce_cast
  rw [hE]
  generalize hU : upB k m label 6 = U at *
  simp
  refine callKM.mk [] IdM (by simp) ?_
  simp
  refine callK.mk (dynamic_ok (bT k)) ?_
  simp
  refine gd.mk (fun h => ?_) (fun h => ?_)
  · refine callK.mk (dynamic_ok (bT m)) ?_
    have hm : ¬ m = 0 := fun e => hne ⟨of_decide_eq_true h, e⟩
    simp [hm]
    refine castL hp k m label k0 k1 m0 m1 hne (by simp) fun T e6 e7 => ?_
    rw [hU]
    simp [e6, e7, htk, hl6]
  · refine castL hp k m label k0 k1 m0 m1 hne (by simp) fun T e6 e7 => ?_
    rw [hU]
    simp [e6, e7, htk, hl6]

theorem MakeB_ok (k m label : Int) (k0 : 0 ≤ k) (k1 : k ≤ 4) (m0 : 0 ≤ m) (m1 : m ≤ 4) (hne : ¬ (k = 0 ∧ m = 0)) (hl : 2 ≤ label) : PCall Pg F.coerce_Make [.agg (bT k).enc, .agg (bT m).enc, .one (.int .i64 label)] (.agg (castB k m label).enc) := by
  refine w_coerce_Make (by simp) fun o c hN hp => ?_
  unfold mc_coerce_Make
  have e1 : ¬ label = 0 := by omega
  have e2 : ¬ label = 1 := by omega
  simp [e1, e2]
  refine callK.mk (normalB_ok k k0 k1) ?_
  simp
  refine callK.mk (normalB_ok m m0 m1) ?_
  simp
  refine callK.mk (castB_ok k m label k0 k1 m0 m1 hne) ?_
  simp
end Go.Gr

/- The chapter's example. -/
set_option linter.unusedVariables false
set_option linter.unusedSimpArgs false
namespace Go.Gr
open Go.Abs Go.Proofs

@[simp] theorem Coe.enc_g0 (d : Coe) (h : 0 < d.enc.length) : d.enc[0] = .sl false 1 (encI d.tags) := by have := d.enc_0; rw [List.getElem?_eq_getElem h] at this; exact Option.some.inj this
def exB : Coe := .mk [2, 2, 0, 2, 2, 2] [] [] [] []
def exS : Coe := .mk [4, 4, 4, 0, 4, 4] [] [] [] []
def exC : Coe := .mk [2, 2, 4, 2, 2, 2] [] [] [] []
theorem cast_a : castB 3 0 2 = idC := (sameC_iff _ _).1 (by decide +kernel)
theorem cast_b : castB 0 3 2 = exB := (sameC_iff _ _).1 (by decide +kernel)
theorem cast_s : castB 0 4 4 = exS := (sameC_iff _ _).1 (by decide +kernel)
theorem comp_bs : compC 1 exB exS = exC := by
  have h1 : mayC exB = true := by decide
  have h2 : mayC exS = true := by decide
  unfold compC
  rw [h1, h2]
  simp [compN, nodeC, tagsC, needC, needsC, fsC, busy, keysU, sortS, pairC, exB, exS, exC, Coe.tags, Coe.needs, Coe.names, Coe.fields, Coe.fn, tagZ, funC, sameC_rfl]

set_option maxRecDepth 20000 in
theorem awake_ok : PCall Pg F.graduslaw10_awake [] (.one (.bool true)) := by
  refine w_graduslaw10_awake (by simp) fun o c hN hp => ?_
  unfold mc_graduslaw10_awake
  simp
  refine callK.mk (base_ok 3) ?_
  simp
  refine callK.mk (base_ok 4) ?_
  simp
  refine callK.mk (base_ok 0) ?_
  simp
  have m1 := MakeB_ok 3 0 2 (by omega) (by omega) (by omega) (by omega) (by omega) (by omega)
  have m2 := MakeB_ok 0 3 2 (by omega) (by omega) (by omega) (by omega) (by omega) (by omega)
  have m3 := MakeB_ok 0 4 4 (by omega) (by omega) (by omega) (by omega) (by omega) (by omega)
  rw [cast_a] at m1
  rw [cast_b] at m2
  rw [cast_s] at m3
  have i1 : inN 1 exB := ⟨fun x hx => (by cases hx), fun x hx => (by cases hx)⟩
  have i2 : inN 1 exS := ⟨fun x hx => (by cases hx), fun x hx => (by cases hx)⟩
  have s1 : smC 536870912 exB := by simp [smC, exB, smCs]
  have s2 : smC 536870912 exS := by simp [smC, exS, smCs]
  have m4 := Compose_ok 1 i1 i2 s1 s2
  rw [comp_bs] at m4
  have m5 := cMay_ok exC
  have h5 : mayC exC = true := by decide
  rw [h5] at m5
  have i3 : inN 1 exC := ⟨fun x hx => (by cases hx), fun x hx => (by cases hx)⟩
  have m6 := Size_ok 1 i3 (by decide) (by simp [smC, exC, smCs])
  have h6 : sizC exC = 1 := by decide
  rw [h6] at m6
  have m7 := Same_ok idC idC
  rw [sameC_rfl] at m7
  refine callK.mk m1 ?_
  simp
  refine callK.mk m2 ?_
  simp
  refine callK.mk m3 ?_
  simp
  refine callK.mk m4 ?_
  have e1 : exB.tags = [2, 2, 0, 2, 2, 2] := rfl
  have e2 : exC.tags = [2, 2, 4, 2, 2, 2] := rfl
  simp [e1, e2, encI]
  refine ⟨by decide, ?_⟩
  refine callK.mk Id_ok ?_
  simp
  refine callK.mk m7 ?_
  simp [e1, e2, encI]
  refine callK.mk m5 ?_
  simp
  refine callK.mk m6 ?_
  simp
  decide
end Go.Gr
