import Derived.Test.YtkgomampbengjaaGreatDoorCoV
import Derived.Test.YtkgomampbengjaaGreatDoorCoW
/- rel: the parts of a type, by their tags. -/
set_option linter.unusedVariables false
set_option linter.unusedSimpArgs false
namespace Go.Gr
open Go.Abs Go.Proofs

def bT0 (k : Int) : Typ := .mk k (bs []) [] []
/-- rows of types' cells, with their tags, put in their places -/
def setP : List (Nat × List D) → List (Option (List D)) → List (Option (List D))
  | [], of => of
  | k :: l, of => setP l (of.set k.1 (some k.2))
theorem setP_len : ∀ (l : List (Nat × List D)) (of : List (Option (List D))), (setP l of).length = of.length
  | [], of => rfl
  | k :: l, of => by rw [setP, setP_len, List.length_set]
def noP : List (Option (List D)) := [none, none, none, none, none, none]
/-- a part as it lies -/
def partD (dyn : Bool) (i : Nat) : Option (List D) → D
  | none => .sc (.pointer none)
  | some k => .rp (.int .i64 i :: .bool (dyn && decide (i = 4)) :: k) 0
def partsD (dyn : Bool) (of : List (Option (List D))) : List D := of.mapIdx (partD dyn)
@[simp] theorem partsD_length (dyn : Bool) (of : List (Option (List D))) : (partsD dyn of).length = of.length := by simp [partsD]
theorem partsD_get (dyn : Bool) (of : List (Option (List D))) (i : Nat) : (partsD dyn of)[i]? = (of[i]?).map (partD dyn i) := by simp [partsD]
theorem partsD_set (dyn : Bool) (of : List (Option (List D))) (i : Nat) (x : Option (List D)) : (partsD dyn of).set i (partD dyn i x) = partsD dyn (of.set i x) := by
  refine List.ext_getElem? fun j => ?_
  rw [List.getElem?_set, partsD_get, partsD_get, List.getElem?_set]
  by_cases e : i = j
  · subst e
    rw [if_pos rfl, if_pos rfl]
    simp only [partsD_length]
    split <;> rfl
  · rw [if_neg e, if_neg e]
theorem row4 {r : List D} (h : r.length = 4) : ∃ a b c d, r = [a, b, c, d] := by
  match r, h with
  | [a, b, c, d], _ => exact ⟨a, b, c, d, rfl⟩

theorem rdyn_ok (t : Typ) : PCall Pg F.rel_dynamic [.agg t.enc] (.one (.bool (decide (t.kind = 0)))) := by
  refine w_rel_dynamic (by simp) fun o c hN hp => ?_
  unfold mc_rel_dynamic
  simp

theorem noP_D (b : Bool) : (partsD b noP).map AC.d = [.d (.sc (.pointer none)), .d (.sc (.pointer none)), .d (.sc (.pointer none)), .d (.sc (.pointer none)), .d (.sc (.pointer none)), .d (.sc (.pointer none))] := rfl
abbrev boxQ : Blk := .box [.d (.sc (.pointer none)), .d (.sc (.pointer none)), .d (.sc (.pointer none)), .d (.sc (.pointer none)), .d (.sc (.pointer none)), .d (.sc (.pointer none))]
set_option maxRecDepth 20000 in
theorem parts_in {c : Ctx} (hp : c.pure) (t : Typ) (tr : Bool) (l : List (Nat × List D)) (hl : l.length ≤ 4611686018427387904) (ht : ∀ k, k ∈ l → k.1 < 6 ∧ k.2.length = 4 ∧ PCall Pg F.types_Tag [.agg k.2] (.one (.int .i64 k.1))) {Q : Exit → St → Prop} {S : St} {g} {ms : List Nat}
    (h0 : Match ms S [(30, .c (.d (.int .i64 0))), (28, .c (.d (.sl tr 4 (l.map (·.2))))), (29, .c (.d (.int .i64 l.length))), (1, .c (.d (.rp t.enc 0))), (2, .c (.ptr 0 0)), (3, .c (.ptr 1 0))] [boxQ, .box ((partsD (decide (t.kind = 0)) noP).map .d)])
    (hQ : ∀ T, Abs.look T 2 = .c (.ptr 0 0) → Abs.look T 3 = .c (.ptr 1 0) → Q (.exit 1) ⟨T, hpOf [boxQ, .box ((partsD (decide (t.kind = 0)) (setP l noP)).map .d)], 2⟩) : lw_ Pg c lp_rel_parts_1 Q g S := by
  refine W.loop Pg_mixed hp (fun x : Nat × List (Option (List D)) => x.1 ≤ l.length ∧ x.2.length = 6 ∧ setP (l.drop x.1) x.2 = setP l noP) (fun x => [(30, .c (.d (.int .i64 x.1))), (28, .c (.d (.sl tr 4 (l.map (·.2))))), (29, .c (.d (.int .i64 l.length))), (1, .c (.d (.rp t.enc 0))), (2, .c (.ptr 0 0)), (3, .c (.ptr 1 0))])
    (fun x => [boxQ, .box ((partsD (decide (t.kind = 0)) x.2).map .d)]) (fun x => l.length - x.1) (0, noP) ms ⟨by simp, rfl, by simp⟩ h0 fun ⟨j, o'⟩ ⟨h1, h3, h2⟩ => ?_
  unfold lp_rel_parts_1
  simp only at h1 h2 h3
  simp
  refine gd.mk (fun h => ?_) (fun h => ?_)
  · have hj : j < l.length := by simpa using h
    rw [List.drop_eq_getElem_cons hj, setP] at h2
    obtain ⟨hi, hr, hT⟩ := ht _ (List.getElem_mem hj)
    have hg : l[j]? = some l[j] := List.getElem?_eq_getElem hj
    generalize l[j] = k at *
    obtain ⟨i, r⟩ := k
    simp only at hi hr hT h2
    obtain ⟨a0, a1, a2, a3, rfl⟩ := row4 hr
    have hcut : cut [a0, a1, a2, a3] 0 4 = [a0, a1, a2, a3] := rfl
    simp [hg, hcut]
    refine callK.mk hT ?_
    simp
    refine callK.mk (rdyn_ok t) ?_
    have hi' : (i : Int) < 6 := by omega
    have hio : i < o'.length := by omega
    have hput : ∀ x, put ((partsD (decide (t.kind = 0)) o').map AC.d) i [AC.d (partD (decide (t.kind = 0)) i (some x))] = (partsD (decide (t.kind = 0)) (o'.set i (some x))).map AC.d := fun x => by
      rw [put_one (by simpa using hio), ← partsD_set, List.map_set]
    have hputk := hput [a0, a1, a2, a3]
    simp only [partD] at hputk
    simp
    have h4 : decide ((i : Int) = 4) = decide (i = 4) := by rw [decide_eq_decide]; omega
    refine gd.mk (fun hk => ?_) (fun hk => ?_)
    · rw [hk, Bool.true_and] at hputk
      refine ⟨hi', by omega, by decide, ?_⟩
      refine Abs.Next.mk (j + 1, o'.set i (some [a0, a1, a2, a3])) [0, 1] ⟨by simp only; omega, by simp [h3], h2⟩ (by simp; omega) ?_
      simp
      refine ⟨wrap_i64 (by omega) (by omega), ?_⟩
      rw [hk, h4, hputk]
    · simp only [Bool.not_true] at hk
      rw [hk, Bool.false_and] at hputk
      refine ⟨hi', by omega, by decide, ?_⟩
      refine Abs.Next.mk (j + 1, o'.set i (some [a0, a1, a2, a3])) [0, 1] ⟨by simp only; omega, by simp [h3], h2⟩ (by simp; omega) ?_
      simp
      refine ⟨wrap_i64 (by omega) (by omega), ?_⟩
      rw [hk, hputk]
  · have hj : j = l.length := by simp at h; omega
    subst hj
    rw [List.drop_length, setP] at h2
    rw [← h2] at hQ
    exact hQ _ (by simp) (by simp)

/-- what a type has of each tag: one after the other, as it lies -/
def partsR (t : Typ) : List (Nat × List D) :=
  if t.kind = 0 then [(0, (bT0 1).enc), (1, (bT0 2).enc), (2, (bT0 3).enc), (3, (bT0 4).enc), (4, (bT0 5).enc), (5, (Typ.mk 6 (bs []) [] [bT0 0, bT0 0]).enc)]
  else (if t.kind = 7 then t.kids else [t]).map fun k => ((tagOf k).toNat, k.enc)
/-- a type whose parts may be asked for -/
def hasTags (t : Typ) : Prop := t.kind ≠ 0 → ∀ k, k ∈ (if t.kind = 7 then t.kids else [t]) → 0 ≤ tagOf k
theorem partsD_er (dyn : Bool) (of : List (Option (List D))) : (partsD dyn of).map D.er = partsD dyn of := by
  refine List.ext_getElem? fun i => ?_
  rw [List.getElem?_map, partsD_get]
  cases of[i]? with
  | none => rfl
  | some x => cases x <;> rfl
theorem erdE_S : ∀ l : List ByteArray, D.erdE (encS l) = encS l
  | [] => rfl
  | s :: l => by
    have ih := erdE_S l
    simp only [encS, List.map_cons, D.erdE, D.erdL, D.erd] at ih ⊢
    rw [ih]
mutual
theorem Typ.erdL : ∀ t : Typ, D.erdL t.enc = t.enc
  | .mk k n s l => by
    simp only [Typ.enc, D.erdL, D.erd, erdE_S, Typ.erdE l]
theorem Typ.erdE : ∀ l : List Typ, D.erdE (Typ.encs l) = Typ.encs l
  | [] => rfl
  | t :: l => by simp only [Typ.encs, D.erdE, Typ.erdL t, Typ.erdE l]
end
/-- a type with nothing in it, as it is written -/
def lit (k : Int) (l : List (List D)) : List D := [.int .i64 k, .str (bs []), .sl true 1 [], .sl true 4 l]
def litR : List (Nat × List D) := [(0, lit 1 []), (1, lit 2 []), (2, lit 3 []), (3, lit 4 []), (4, lit 5 []), (5, lit 6 [lit 0 [], lit 0 []])]
set_option maxRecDepth 20000 in
theorem parts_ok (t : Typ) (ht : hasTags t) : PCall Pg F.rel_parts [.agg t.enc] (.agg (partsD (decide (t.kind = 0)) (setP (partsR t) noP))) := by
  by_cases h0 : t.kind = 0
  · have hk : decide (t.kind = 0) = true := decide_eq_true h0
    refine PCall.erdV (v := .agg (partsD (decide (t.kind = 0)) (setP litR noP))) ?_ ?_
    · have hrow : ∀ k, k ∈ litR → k.1 < 6 ∧ k.2.length = 4 ∧ PCall Pg F.types_Tag [.agg k.2] (.one (.int .i64 k.1)) := fun k hk => by
        have key : ∀ (n : Nat) (t : Typ) (r : List D), D.erdL r = D.erdL t.enc → tagOf t = n → PCall Pg F.types_Tag [.agg r] (.one (.int .i64 n)) := fun n t r e1 e2 => by
          have h := Tag_ok t
          rw [e2] at h
          have e3 : D.erdL t.enc = t.enc := Typ.erdL t
          exact PCall.erd h (by simp [DV.erds, DV.erd, e1, e3])
        simp only [litR, List.mem_cons, List.not_mem_nil, or_false] at hk
        rcases hk with rfl | rfl | rfl | rfl | rfl | rfl
        · exact ⟨by decide, rfl, key 0 (bT0 1) _ rfl rfl⟩
        · exact ⟨by decide, rfl, key 1 (bT0 2) _ rfl rfl⟩
        · exact ⟨by decide, rfl, key 2 (bT0 3) _ rfl rfl⟩
        · exact ⟨by decide, rfl, key 3 (bT0 4) _ rfl rfl⟩
        · exact ⟨by decide, rfl, key 4 (bT0 5) _ rfl rfl⟩
        · exact ⟨by decide, rfl, key 5 (.mk 6 (bs []) [] [bT0 0, bT0 0]) _ rfl rfl⟩
      refine w_rel_parts (by simp) fun o c hN hp => ?_
      have h6 : (partsD (decide (t.kind = 0)) (setP litR noP)).length = 6 := by rw [partsD_length, setP_len]; rfl
      have hcut : ∀ l : List D, l.length = 6 → cut (l.map AC.d) 0 6 = l.map AC.d := fun l hl => by unfold cut; simp [hl]
      have her := partsD_er (decide (t.kind = 0)) (setP litR noP)
      unfold mc_rel_parts
      simp [h0]
      refine parts_in hp t true litR (by decide) hrow (ms := [0, 1]) (by simp [noP_D, litR, lit]) fun T e2 e3 => ?_
      generalize partsD (decide (t.kind = 0)) (setP litR noP) = D6 at *
      simp [e2, e3, hcut _ h6, h6, her]
    · unfold partsR
      rw [if_pos h0, hk]
      rfl
  · have hrow : ∀ k, k ∈ partsR t → k.1 < 6 ∧ k.2.length = 4 ∧ PCall Pg F.types_Tag [.agg k.2] (.one (.int .i64 k.1)) := fun k hk => by
      unfold partsR at hk
      rw [if_neg h0] at hk
      obtain ⟨x, hx, rfl⟩ := List.mem_map.1 hk
      have h1 := ht h0 x hx
      have h2 := tagOf_le x
      have h3 := Tag_ok x
      refine ⟨by simp only; omega, by simp, ?_⟩
      rwa [show (((tagOf x).toNat : Nat) : Int) = tagOf x by omega]
    refine w_rel_parts (by simp) fun o c hN hp => ?_
    have hf := typ_len o.1
    unfold lenMax at hf
    have hrl : (partsR t).length ≤ 4611686018427387904 := by
      unfold partsR; rw [if_neg h0, List.length_map]; split
      · exact hf.2
      · simp
    have hp2 : (partsR t).map (·.2) = (if t.kind = 7 then t.kids else [t]).map Typ.enc := by
      unfold partsR; rw [if_neg h0, List.map_map]; rfl
    have hpl : (partsR t).length = (if t.kind = 7 then t.kids else [t]).length := by
      unfold partsR; rw [if_neg h0, List.length_map]
    have h6 : (partsD (decide (t.kind = 0)) (setP (partsR t) noP)).length = 6 := by rw [partsD_length, setP_len]; rfl
    have hcut : ∀ l : List D, l.length = 6 → cut (l.map AC.d) 0 6 = l.map AC.d := fun l hl => by unfold cut; simp [hl]
    have her := partsD_er (decide (t.kind = 0)) (setP (partsR t) noP)
    unfold mc_rel_parts
    simp [h0]
    by_cases h7 : t.kind = 7
    · rw [if_pos h7] at hp2 hpl
      generalize partsR t = R at *
      simp [h7]
      refine parts_in hp t false R hrl hrow (ms := [0, 1]) (by simp [hp2, hpl, noP_D]) fun T e2 e3 => ?_
      generalize partsD (decide (t.kind = 0)) (setP R noP) = D6 at *
      simp [e2, e3, hcut _ h6, h6, her]
    · rw [if_neg h7] at hp2 hpl
      generalize partsR t = R at *
      simp [h7]
      refine parts_in hp t true R hrl hrow (ms := [0, 1]) (by simp [hp2, hpl, noP_D]) fun T e2 e3 => ?_
      generalize partsD (decide (t.kind = 0)) (setP R noP) = D6 at *
      simp [e2, e3, hcut _ h6, h6, her]
end Go.Gr

/- rel: something asked of the parts of two types; a record's field. -/
set_option linter.unusedVariables false
set_option linter.unusedSimpArgs false
namespace Go.Gr
open Go.Abs Go.Proofs

def eachA (mis : Bool) (q : Nat → Bool) (la lb : List (Option (List D))) (i : Nat) : Bool := match la.getD i none, lb.getD i none with
  | none, _ => true
  | some _, none => mis
  | some _, some _ => q i
def eachB (mis : Bool) (q : Nat → Bool) (la lb : List (Option (List D))) : Nat → Nat → Bool
  | 0, _ => true
  | n + 1, i => eachA mis q la lb i && eachB mis q la lb n (i + 1)
/-- a part as it is handed -/
def partV (dyn : Bool) (i : Nat) (r : List D) : D := .rp (.int .i64 i :: .bool (dyn && decide (i = 4)) :: r) 0
def prt (t : Typ) : List (Option (List D)) := setP (partsR t) noP
theorem prt_len (t : Typ) : (prt t).length = 6 := by unfold prt; rw [setP_len]; rfl

set_option maxRecDepth 20000 in
theorem each_ok (a b : Typ) (ha : hasTags a) (hb : hasTags b) (mis : Bool) (g : FuncId) (caps : List D) (q : Nat → Bool)
    (H : ∀ i m n, (prt a)[i]? = some (some m) → (prt b)[i]? = some (some n) → PCall Pg g (.one (partV (decide (a.kind = 0)) i m) :: .one (partV (decide (b.kind = 0)) i n) :: caps.map .one) (.one (.bool (q i)))) :
    PCall Pg F.rel_each [.agg a.enc, .agg b.enc, .one (.bool mis), .one (.fn (.func g) caps)] (.one (.bool (eachB mis q (prt a) (prt b) 6 0))) := by
  refine w_rel_each (by simp) fun o c hN hp => ?_
  have hpa := parts_ok a ha
  have hpb := parts_ok b hb
  have hla := prt_len a
  have hlb := prt_len b
  have e1 : setP (partsR a) noP = prt a := rfl
  have e2 : setP (partsR b) noP = prt b := rfl
  rw [e1] at hpa
  rw [e2] at hpb
  generalize prt a = la at *
  generalize prt b = lb at *
  have hda : (partsD (decide (a.kind = 0)) la).length = 6 := by simp [hla]
  have hdb : (partsD (decide (b.kind = 0)) lb).length = 6 := by simp [hlb]
  have hga : ∀ i, i < 6 → (partsD (decide (a.kind = 0)) la)[i]? = some (partD (decide (a.kind = 0)) i (la.getD i none)) := fun i hi => by
    rw [partsD_get, List.getD_eq_getElem?_getD, List.getElem?_eq_getElem (by omega)]; rfl
  have hgb : ∀ i, i < 6 → (partsD (decide (b.kind = 0)) lb)[i]? = some (partD (decide (b.kind = 0)) i (lb.getD i none)) := fun i hi => by
    rw [partsD_get, List.getD_eq_getElem?_getD, List.getElem?_eq_getElem (by omega)]; rfl
  have hxa : ∀ i, i < 6 → la[i]? = some (la.getD i none) := fun i hi => by rw [List.getD_eq_getElem?_getD, List.getElem?_eq_getElem (by omega)]; rfl
  have hxb : ∀ i, i < 6 → lb[i]? = some (lb.getD i none) := fun i hi => by rw [List.getD_eq_getElem?_getD, List.getElem?_eq_getElem (by omega)]; rfl
  have hcut : ∀ l : List D, l.length = 6 → cut (l.map AC.d) 0 6 = l.map AC.d := fun l hl => by unfold cut; simp [hl]
  generalize partsD (decide (a.kind = 0)) la = Da at *
  generalize partsD (decide (b.kind = 0)) lb = Db at *
  unfold mc_rel_each
  simp
  refine callK.mk hpa ?_
  simp
  refine callK.mk hpb ?_
  simp [hda, hdb, hcut _ hda, hcut _ hdb]
  refine ⟨by decide, ?_⟩
  refine W.loop Pg_mixed hp (fun j : Nat => j ≤ 6 ∧ eachB mis q la lb (6 - j) j = eachB mis q la lb 6 0) (fun j => [(18, .c (.d (.int .i64 j))), (17, .ag (Da.map .d)), (10, .c (.ptr 1 0)), (2, .c (.d (.bool mis))), (3, .c (.d (.fn (.func g) caps)))])
    (fun j => [.box (Da.map .d), .box (Db.map .d)]) (fun j => 6 - j) 0 [0, 1] ⟨by simp, rfl⟩ (by simp) fun j ⟨h1, h2⟩ => ?_
  unfold lp_rel_each_0
  simp
  refine gd.mk (fun h => ?_) (fun h => ?_)
  · have hj : j < 6 := by simp at h; omega
    have hj' : (j : Int) < 6 := by omega
    have ga := hga j hj
    have gb := hgb j hj
    have xa := hxa j hj
    have xb := hxb j hj
    obtain ⟨r, hr⟩ : ∃ r, 6 - j = r + 1 := ⟨5 - j, by omega⟩
    have hr' : 6 - (j + 1) = r := by omega
    rw [hr, eachB] at h2
    unfold eachA at h2
    cases e3 : la.getD j none with
    | none =>
      rw [e3] at ga h2
      simp only [partD] at ga
      simp [ga, hj']
      refine Abs.Next.mk (j + 1) [0, 1] ⟨by omega, by rw [hr', ← h2]; simp⟩ (by omega) ?_
      simp
      exact wrap_i64 (by omega) (by omega)
    | some m =>
      rw [e3] at ga h2 xa
      simp only [partD] at ga
      cases e4 : lb.getD j none with
      | none =>
        rw [e4] at gb h2
        simp only [partD] at gb
        simp [ga, gb, hj', hdb]
        cases mis with
        | false => simpa using h2.symm
        | true =>
          simp
          refine Abs.Next.mk (j + 1) [0, 1] ⟨by omega, by rw [hr', ← h2]; simp⟩ (by omega) ?_
          simp
          exact wrap_i64 (by omega) (by omega)
      | some n =>
        rw [e4] at gb h2 xb
        simp only [partD] at gb
        have hc := H j m n xa xb
        unfold partV at hc
        simp [ga, gb, hj', hdb]
        refine callK.mk hc ?_
        simp
        cases hq : q j with
        | false =>
          rw [hq] at h2
          simp
          simpa using h2.symm
        | true =>
          rw [hq] at h2
          simp
          refine Abs.Next.mk (j + 1) [0, 1] ⟨by omega, by rw [hr', ← h2]; simp⟩ (by omega) ?_
          simp
          exact wrap_i64 (by omega) (by omega)
  · have hj : j = 6 := by simp at h; omega
    subst hj
    rw [Nat.sub_self, eachB] at h2
    rw [← h2]

/-- a record's field, of a name -/
def kidT (op : Bool) (k : Typ) (s : ByteArray) : Typ × Bool :=
  if 0 ≤ fi (fun x => decide (s = x)) 0 k.names then (k.kids.getD (fi (fun x => decide (s = x)) 0 k.names).toNat (bT0 0), true) else (bT0 0, op)
theorem fi_lt {α : Type} (q : α → Bool) : ∀ (l : List α) (j : Nat), fi q j l < (j + l.length : Nat)
  | [], j => by simp [fi]; omega
  | x :: l, j => by
    rw [fi]
    split
    · simp; omega
    · have := fi_lt q l (j + 1); simp at this ⊢; omega
set_option maxRecDepth 20000 in
theorem kid_ok (i : Int) (op : Bool) (k : Typ) (hk : k.names.length ≤ k.kids.length) (s : ByteArray) :
    PCall Pg F.rel_part_kid [.agg (.int .i64 i :: .bool op :: k.enc), .one (.str s)] (.tup [.agg (kidT op k s).1.enc, .one (.bool (kidT op k s).2)]) := by
  refine w_rel_part_kid (by simp) fun o c hN hp => ?_
  have e := k.enc_eq
  have hidx := indexS_ok k.names s
  have hlt := fi_lt (fun x => decide (s = x)) k.names 0
  unfold mc_rel_part_kid kidT
  rw [e]
  simp
  refine callK.mk hidx ?_
  generalize fi (fun x => decide (s = x)) 0 k.names = z at *
  simp
  by_cases h0 : z < 0
  · have h1 : ¬ 0 ≤ z := by omega
    simp [h0, h1]
    exact ⟨by decide, by simp [bT0, Typ.enc, Typ.encs, encS]⟩
  · have h1 : 0 ≤ z := by omega
    obtain ⟨n, rfl⟩ : ∃ n : Nat, z = n := ⟨z.toNat, by omega⟩
    have hn : n < k.kids.length := by omega
    simp [h0, List.getElem?_eq_getElem hn]
end Go.Gr

/- Plain: types that are well made; their parts. -/
set_option linter.unusedVariables false
set_option linter.unusedSimpArgs false
namespace Go.Gr
open Go.Abs Go.Proofs

mutual
/-- a type as it is kept -/
def wfT : Typ → Prop
  | .mk k nm s l => nm = bs [] ∧ wfTs l ∧ ((0 ≤ k ∧ k ≤ 4 ∧ s = [] ∧ l = []) ∨ (k = 5 ∧ s.length = l.length ∧ s.Pairwise ltB) ∨ (k = 6 ∧ s = [] ∧ l.length = 2) ∨ (k = 7 ∧ s = [] ∧ 2 ≤ l.length ∧ (l.map tagOf).Pairwise (· < ·) ∧ ∀ x, x ∈ l → 0 ≤ tagOf x))
def wfTs : List Typ → Prop
  | [] => True
  | t :: l => wfT t ∧ wfTs l
end
theorem wfTs_iff : ∀ l : List Typ, wfTs l ↔ ∀ x, x ∈ l → wfT x
  | [] => by simp [wfTs]
  | t :: l => by simp [wfTs, wfTs_iff l]
theorem wfT_iff (t : Typ) : wfT t ↔ t.name = bs [] ∧ (∀ x, x ∈ t.kids → wfT x) ∧ ((0 ≤ t.kind ∧ t.kind ≤ 4 ∧ t.names = [] ∧ t.kids = []) ∨ (t.kind = 5 ∧ t.names.length = t.kids.length ∧ t.names.Pairwise ltB) ∨ (t.kind = 6 ∧ t.names = [] ∧ t.kids.length = 2) ∨ (t.kind = 7 ∧ t.names = [] ∧ 2 ≤ t.kids.length ∧ (t.kids.map tagOf).Pairwise (· < ·) ∧ ∀ x, x ∈ t.kids → 0 ≤ tagOf x)) := by
  cases t
  simp only [wfT, wfTs_iff, Typ.kind, Typ.name, Typ.names, Typ.kids]
theorem wf_tags {t : Typ} (h : wfT t) : hasTags t := fun h0 k hk => by
  have h := (wfT_iff t).1 h
  split at hk
  · rename_i h7
    rcases h.2.2 with q | q | q | q
    · omega
    · omega
    · omega
    · exact q.2.2.2.2 k hk
  · rename_i h7
    rw [List.mem_singleton] at hk
    subst hk
    unfold tagOf
    rcases h.2.2 with q | q | q | q <;> (split <;> omega)

/-- the parts, as types -/
def setT : List (Nat × Typ) → List (Option Typ) → List (Option Typ)
  | [], of => of
  | k :: l, of => setT l (of.set k.1 (some k.2))
def partsT (t : Typ) : List (Nat × Typ) :=
  if t.kind = 0 then [(0, bT0 1), (1, bT0 2), (2, bT0 3), (3, bT0 4), (4, bT0 5), (5, Typ.mk 6 (bs []) [] [bT0 0, bT0 0])]
  else (if t.kind = 7 then t.kids else [t]).map fun k => ((tagOf k).toNat, k)
def prtT (t : Typ) : List (Option Typ) := setT (partsT t) noU
theorem setP_map : ∀ (l : List (Nat × Typ)) (of : List (Option Typ)), setP (l.map fun k => (k.1, k.2.enc)) (of.map (Option.map Typ.enc)) = (setT l of).map (Option.map Typ.enc)
  | [], of => rfl
  | k :: l, of => by
    rw [List.map_cons, setP, setT]
    have : (of.map (Option.map Typ.enc)).set k.1 (some k.2.enc) = (of.set k.1 (some k.2)).map (Option.map Typ.enc) := by rw [List.map_set]; rfl
    simp only
    rw [this, setP_map l]
theorem prt_eq (t : Typ) : prt t = (prtT t).map (Option.map Typ.enc) := by
  have e : partsR t = (partsT t).map fun k => (k.1, k.2.enc) := by
    unfold partsR partsT
    split
    · rfl
    · rw [List.map_map]; rfl
  unfold prt prtT
  rw [e]
  exact setP_map (partsT t) noU
theorem setT_mem : ∀ (l : List (Nat × Typ)) (of : List (Option Typ)) {i : Nat} {k : Typ}, (setT l of)[i]? = some (some k) → of[i]? = some (some k) ∨ (i, k) ∈ l
  | [], of, i, k, h => .inl h
  | x :: l, of, i, k, h => by
    rw [setT] at h
    rcases setT_mem l _ h with q | q
    · rw [List.getElem?_set] at q
      split at q
      · rename_i e
        subst e
        split at q
        · simp only [Option.some.injEq] at q
          exact .inr (by simp [← q])
        · cases q
      · exact .inl q
    · exact .inr (by simp [q])
theorem prtT_mem {t : Typ} {i : Nat} {k : Typ} (h : (prtT t)[i]? = some (some k)) : (i, k) ∈ partsT t := by
  rcases setT_mem _ _ h with q | q
  · exfalso
    unfold noU at q
    match i, q with
    | 0, q | 1, q | 2, q | 3, q | 4, q | 5, q => simp at q
    | i + 6, q => simp at q
  · exact q

mutual
/-- how deep -/
def dpt : Typ → Nat
  | .mk _ _ _ l => dpts l + 1
def dpts : List Typ → Nat
  | [] => 0
  | t :: l => max (dpt t) (dpts l)
end
theorem dpts_mem : ∀ {l : List Typ} {x : Typ}, x ∈ l → dpt x ≤ dpts l
  | t :: l, x, h => by
    rw [dpts]
    rcases List.mem_cons.1 h with rfl | h
    · omega
    · have := dpts_mem h; omega
theorem dpt_kid {t x : Typ} (h : x ∈ t.kids) : dpt x < dpt t := by
  cases t with
  | mk a b c l => have := dpts_mem (l := l) h; rw [dpt]; omega
/-- what a part of a type that is not any is -/
theorem part_is {t : Typ} (h : wfT t) (h0 : t.kind ≠ 0) {i : Nat} {k : Typ} (hk : (prtT t)[i]? = some (some k)) : tagOf k = i ∧ wfT k ∧ (∀ x, x ∈ k.kids → dpt x < dpt t) ∧ k.kind ≠ 7 ∧ k.kind ≠ 0 := by
  have hm := prtT_mem hk
  unfold partsT at hm
  rw [if_neg h0] at hm
  obtain ⟨x, hx, e⟩ := List.mem_map.1 hm
  simp only [Prod.mk.injEq] at e
  obtain ⟨e1, rfl⟩ := e
  have ht := wf_tags h h0 x hx
  have hkind : x.kind ≠ 7 ∧ x.kind ≠ 0 := by
    unfold tagOf at ht
    split at ht
    · omega
    · omega
  split at hx
  · have hw := ((wfT_iff t).1 h).2.1 x hx
    exact ⟨by omega, hw, fun y hy => Nat.lt_trans (dpt_kid hy) (dpt_kid hx), hkind⟩
  · rw [List.mem_singleton] at hx
    subst hx
    exact ⟨by omega, h, fun y hy => dpt_kid hy, hkind⟩
end Go.Gr

/- rel: is one type below another one. -/
set_option linter.unusedVariables false
set_option linter.unusedSimpArgs false
namespace Go.Gr
open Go.Abs Go.Proofs

def fieldsB (v : Typ → Typ → Bool) (m : Typ) : List ByteArray → List Typ → Bool
  | n :: ns, k :: ks => ((kidT false m n).2 && v (kidT false m n).1 k) && fieldsB v m ns ks
  | _, _ => true
def belowP (v : Typ → Typ → Bool) (m k : Typ) (i : Nat) : Bool :=
  fieldsB v m k.names k.kids && (!decide (i = 5) || (v (k.kids.getD 0 (bT0 0)) (m.kids.getD 0 (bT0 0)) && v (m.kids.getD 1 (bT0 0)) (k.kids.getD 1 (bT0 0))))

set_option maxRecDepth 20000 in
theorem below1_ok (v : Typ → Typ → Bool) (m k : Typ) (i : Nat) (hi : i < 6) (lo : Bool) (hm : m.names.length ≤ m.kids.length) (hk : k.names.length = k.kids.length ∨ k.names = [])
    (h5 : i = 5 → m.kids.length = 2 ∧ k.kids.length = 2)
    (H1 : ∀ (j : Nat) (h : j < k.names.length) (h' : j < k.kids.length), (kidT false m k.names[j]).2 = true → PCall Pg F.rel_below [.agg (kidT false m k.names[j]).1.enc, .agg k.kids[j].enc, .one (.bool lo)] (.one (.bool (v (kidT false m k.names[j]).1 k.kids[j]))))
    (H2 : i = 5 → PCall Pg F.rel_below [.agg (k.kids.getD 0 (bT0 0)).enc, .agg (m.kids.getD 0 (bT0 0)).enc, .one (.bool lo)] (.one (.bool (v (k.kids.getD 0 (bT0 0)) (m.kids.getD 0 (bT0 0))))))
    (H3 : i = 5 → PCall Pg F.rel_below [.agg (m.kids.getD 1 (bT0 0)).enc, .agg (k.kids.getD 1 (bT0 0)).enc, .one (.bool lo)] (.one (.bool (v (m.kids.getD 1 (bT0 0)) (k.kids.getD 1 (bT0 0)))))) :
    PCall Pg F.rel_below_1 [.one (partV false i m.enc), .one (partV false i k.enc), .one (.rp [.bool lo] 0)] (.one (.bool (belowP v m k i))) := by
  refine w_rel_below_1 (by simp) fun o c hN hp => ?_
  have hl : k.names.length ≤ lenMax := by
    have := o.2.1
    unfold partV at this
    rw [k.enc_eq] at this
    simp only [DV.ok, D.ok, D.okL, encS_length] at this
    exact this.2.2.2.2.1.1
  unfold lenMax at hl
  have hkid := fun s => kid_ok i false m hm s
  have ek := k.enc_eq
  have em := m.enc_eq
  unfold mc_rel_below_1 partV
  simp only [Bool.false_and]
  rw [ek]
  simp
  refine W.loop Pg_mixed hp (fun j : Nat => j ≤ k.names.length ∧ fieldsB v m (k.names.drop j) (k.kids.drop j) = fieldsB v m k.names k.kids) (fun j => [(16, .c (.d (.int .i64 j))), (14, .c (.d (.sl false 1 (encS k.names)))), (15, .c (.d (.int .i64 k.names.length))), (0, .c (.d (.rp (.int .i64 i :: .bool false :: m.enc) 0))), (1, .c (.d (.rp [.int .i64 i, .bool false, .int .i64 k.kind, .str k.name, .sl false 1 (encS k.names), .sl false 4 (k.kids.map Typ.enc)] 0))), (2, .c (.d (.rp [.bool lo] 0)))])
    (fun j => []) (fun j => k.names.length - j) 0 [] ⟨by simp, by simp⟩ (by simp) fun j ⟨h1, h2⟩ => ?_
  unfold lp_rel_below_1_0
  simp
  refine gd.mk (fun h => ?_) (fun h => ?_)
  · have hj : j < k.names.length := by simpa using h
    have hj' : j < k.kids.length := by
      rcases hk with q | q
      · omega
      · rw [q] at hj; simp at hj
    rw [List.drop_eq_getElem_cons hj, List.drop_eq_getElem_cons hj', fieldsB] at h2
    have H1j := H1 j hj hj'
    have hcutm : cut (D.int IntKind.i64 i :: D.bool false :: m.enc) 0 6 = D.int IntKind.i64 i :: D.bool false :: m.enc := by unfold cut; simp
    simp [List.getElem?_eq_getElem hj, hcutm]
    refine callK.mk (hkid k.names[j]) ?_
    simp
    have hbp : fieldsB v m k.names k.kids = false → belowP v m k i = false := fun q => by unfold belowP; rw [q]; rfl
    cases hx : (kidT false m k.names[j]).2 with
    | false =>
      rw [hx] at h2
      simp
      refine ⟨by decide, ?_⟩
      exact hbp (by rw [← h2]; rfl)
    | true =>
      rw [hx] at h2
      have hc := H1j hx
      simp [List.getElem?_eq_getElem hj']
      refine callK.mk hc ?_
      simp
      cases hv : v (kidT false m k.names[j]).1 k.kids[j] with
      | false =>
        rw [hv] at h2
        simp
        refine ⟨by decide, ?_⟩
        exact hbp (by rw [← h2]; rfl)
      | true =>
        rw [hv] at h2
        simp
        refine ⟨by decide, ?_⟩
        refine Abs.Next.mk (j + 1) [] ⟨by omega, by rw [← h2]; simp⟩ (by omega) ?_
        simp
        exact wrap_i64 (by omega) (by omega)
  · have hj : j = k.names.length := by simp at h; omega
    subst hj
    have hdr : fieldsB v m (k.names.drop k.names.length) (k.kids.drop k.names.length) = true := by rw [List.drop_length]; rfl
    rw [hdr] at h2
    unfold belowP
    rw [← h2, Bool.true_and]
    by_cases h5i : i = 5
    · subst h5i
      obtain ⟨l1, l2⟩ := h5 rfl
      have g0 : ∀ {l : List Typ}, l.length = 2 → l[0]? = some (l.getD 0 (bT0 0)) ∧ l[1]? = some (l.getD 1 (bT0 0)) := fun {l} hl => by
        match l, hl with
        | [a, b], _ => exact ⟨rfl, rfl⟩
      have H2 := H2 rfl
      have H3 := H3 rfl
      obtain ⟨m0, m1⟩ := g0 l1
      obtain ⟨k0, k1⟩ := g0 l2
      generalize m.kids.getD 0 (bT0 0) = M0 at *
      generalize m.kids.getD 1 (bT0 0) = M1 at *
      generalize k.kids.getD 0 (bT0 0) = K0 at *
      generalize k.kids.getD 1 (bT0 0) = K1 at *
      simp [k0, k1, m0, m1]
      refine callK.mk H2 ?_
      cases hv : v K0 M0 with
      | false =>
        simp
        decide
      | true =>
        simp [k0, k1, m0, m1]
        refine callK.mk H3 ?_
        simp
        decide
    · have h5i' : ¬ ((i : Int) = 5) := by omega
      simp [h5i, h5i']
      decide

/-- is one below another one, as far down as n -/
def belowN (lo : Bool) : Nat → Typ → Typ → Bool
  | 0, _, _ => false
  | n + 1, a, b => if a.kind = 0 ∨ b.kind = 0 then (lo || (decide (a.kind = 0) && decide (b.kind = 0))) else
    eachB false (fun i => match (prtT a).getD i none, (prtT b).getD i none with | some m, some k => belowP (belowN lo n) m k i | _, _ => true) (prt a) (prt b) 6 0
theorem belowN_succ (lo : Bool) (n : Nat) (a b : Typ) : belowN lo (n + 1) a b = if a.kind = 0 ∨ b.kind = 0 then (lo || (decide (a.kind = 0) && decide (b.kind = 0))) else
    eachB false (fun i => match (prtT a).getD i none, (prtT b).getD i none with | some m, some k => belowP (belowN lo n) m k i | _, _ => true) (prt a) (prt b) 6 0 := by
  conv => lhs; unfold belowN
theorem wf_names {k : Typ} (h : wfT k) (h7 : k.kind ≠ 7) : (k.names.length = k.kids.length ∨ k.names = []) ∧ k.names.length ≤ k.kids.length ∧ (tagOf k = 5 → k.kids.length = 2) := by
  have h := ((wfT_iff k).1 h).2.2
  rcases h with ⟨a, b, c, d⟩ | ⟨a, b, c⟩ | ⟨a, b, c⟩ | ⟨a, _⟩
  · refine ⟨.inr c, by rw [c]; simp, fun e => ?_⟩
    unfold tagOf at e; split at e <;> omega
  · refine ⟨.inl b, by omega, fun e => ?_⟩
    unfold tagOf at e; split at e <;> omega
  · exact ⟨.inr b, by rw [b]; simp, fun _ => c⟩
  · exact absurd a h7
theorem kidT_wf {k : Typ} (h : wfT k) (s : ByteArray) (hk : (kidT false k s).2 = true) : (kidT false k s).1 ∈ k.kids ∨ (kidT false k s).1 = bT0 0 := by
  unfold kidT at hk ⊢
  split at hk
  · rename_i h0
    rw [if_pos h0]
    simp only
    by_cases q : (fi (fun x => decide (s = x)) 0 k.names).toNat < k.kids.length
    · rw [List.getD_eq_getElem?_getD, List.getElem?_eq_getElem q]
      exact .inl (List.getElem_mem q)
    · rw [List.getD_eq_getElem?_getD, List.getElem?_eq_none (by omega)]
      exact .inr rfl
  · cases hk
theorem wf_bT0 : wfT (bT0 0) := by
  rw [wfT_iff]
  exact ⟨rfl, (fun x hx => by cases hx), .inl ⟨by decide, by decide, rfl, rfl⟩⟩
theorem dpt_pos (t : Typ) : 1 ≤ dpt t := by cases t; rw [dpt]; omega
theorem getD_mem {l : List Typ} {i : Nat} (h : i < l.length) : l.getD i (bT0 0) ∈ l := by
  rw [List.getD_eq_getElem?_getD, List.getElem?_eq_getElem h]; exact List.getElem_mem h

set_option maxRecDepth 20000 in
theorem below_ok (lo : Bool) : ∀ (n : Nat) (a b : Typ), wfT a → wfT b → dpt a ≤ n → dpt b ≤ n → PCall Pg F.rel_below [.agg a.enc, .agg b.enc, .one (.bool lo)] (.one (.bool (belowN lo n a b)))
  | 0, a, b, wa, wb, da, db => by have := dpt_pos a; omega
  | n + 1, a, b, wa, wb, da, db => by
    have hra := rdyn_ok a
    have hrb := rdyn_ok b
    by_cases hd : a.kind = 0 ∨ b.kind = 0
    · refine w_rel_below (by simp) fun o c hN hp => ?_
      rw [belowN_succ, if_pos hd]
      unfold mc_rel_below
      simp
      refine callK.mk hra ?_
      simp
      by_cases ka : a.kind = 0
      · simp [ka]
        cases lo with
        | true => simp
        | false =>
          simp
          refine callK.mk hra ?_
          simp [ka]
          refine callK.mk hrb ?_
          simp [ka]
      · have kb := hd.resolve_left ka
        simp [ka]
        refine callK.mk hrb ?_
        simp [kb]
        cases lo with
        | true => simp
        | false =>
          simp
          refine callK.mk hra ?_
          simp [ka]
    · have h0a : a.kind ≠ 0 := fun e => hd (.inl e)
      have h0b : b.kind ≠ 0 := fun e => hd (.inr e)
      have hq := each_ok a b (wf_tags wa) (wf_tags wb) false F.rel_below_1 [.rp [.bool lo] 0] (fun i => match (prtT a).getD i none, (prtT b).getD i none with | some m, some k => belowP (belowN lo n) m k i | _, _ => true) fun i mr kr h1 h2 => by
        rw [prt_eq, List.getElem?_map] at h1 h2
        have g : ∀ {t : Typ} {r : List D}, ((prtT t)[i]?).map (Option.map Typ.enc) = some (some r) → ∃ k, (prtT t)[i]? = some (some k) ∧ r = k.enc := fun {t r} h => by
          cases q : (prtT t)[i]? with
          | none => rw [q] at h; cases h
          | some x =>
            rw [q] at h
            cases x with
            | none => cases h
            | some k => exact ⟨k, rfl, by simpa using h.symm⟩
        obtain ⟨m, m1, rfl⟩ := g h1
        obtain ⟨k, k1, rfl⟩ := g h2
        have e1 : (prtT a).getD i none = some m := by rw [List.getD_eq_getElem?_getD, m1]; rfl
        have e2 : (prtT b).getD i none = some k := by rw [List.getD_eq_getElem?_getD, k1]; rfl
        rw [e1, e2, decide_eq_false h0a, decide_eq_false h0b]
        simp only [List.map_cons, List.map_nil]
        obtain ⟨t1, w1, d1, n1, _⟩ := part_is wa h0a m1
        obtain ⟨t2, w2, d2, n2, _⟩ := part_is wb h0b k1
        have hmn := wf_names w1 n1
        have hkn := wf_names w2 n2
        have hkw := ((wfT_iff k).1 w2).2.1
        have hmw := ((wfT_iff m).1 w1).2.1
        have hi6 : i < 6 := by have := tagOf_le m; omega
        refine below1_ok (belowN lo n) m k i hi6 lo hmn.2.1 hkn.1 (fun e => ⟨hmn.2.2 (by omega), hkn.2.2 (by omega)⟩) (fun j hj hj' hk => ?_) (fun e => ?_) fun e => ?_
        · have hkj := List.getElem_mem hj'
          have hdk := d2 _ hkj
          rcases kidT_wf w1 k.names[j] hk with q | q
          · have hdm := d1 _ q
            exact below_ok lo n _ _ (hmw _ q) (hkw _ hkj) (by omega) (by omega)
          · have hd0 : dpt (bT0 0) = 1 := rfl
            have hd1 := dpt_pos k.kids[j]
            rw [q]
            exact below_ok lo n _ _ wf_bT0 (hkw _ hkj) (by omega) (by omega)
        · have l1 := hmn.2.2 (by omega)
          have l2 := hkn.2.2 (by omega)
          have a1 := getD_mem (l := m.kids) (i := 0) (by omega)
          have a2 := getD_mem (l := k.kids) (i := 0) (by omega)
          have x1 := d1 _ a1
          have x2 := d2 _ a2
          exact below_ok lo n _ _ (hkw _ a2) (hmw _ a1) (by omega) (by omega)
        · have l1 := hmn.2.2 (by omega)
          have l2 := hkn.2.2 (by omega)
          have a1 := getD_mem (l := m.kids) (i := 1) (by omega)
          have a2 := getD_mem (l := k.kids) (i := 1) (by omega)
          have x1 := d1 _ a1
          have x2 := d2 _ a2
          exact below_ok lo n _ _ (hmw _ a1) (hkw _ a2) (by omega) (by omega)
      refine w_rel_below (by simp) fun o c hN hp => ?_
      rw [belowN_succ, if_neg hd]
      generalize eachB false (fun i => match (prtT a).getD i none, (prtT b).getD i none with | some m, some k => belowP (belowN lo n) m k i | _, _ => true) (prt a) (prt b) 6 0 = R at *
      unfold mc_rel_below
      simp
      refine callK.mk hra ?_
      simp [h0a]
      refine callK.mk hrb ?_
      simp [h0b]
      refine callK.mk hq ?_
      simp
end Go.Gr
