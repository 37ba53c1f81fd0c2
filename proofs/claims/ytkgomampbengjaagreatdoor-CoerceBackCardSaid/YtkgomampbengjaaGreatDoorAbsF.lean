/- Own blocks that are kept for good: from there on they are data. -/
import Derived.Test.YtkgomampbengjaaGreatDoorAbs18
set_option linter.unusedVariables false
set_option linter.unusedSimpArgs false
namespace Go.Abs

def AC.fz (b s : Nat) (ds : List (List D)) : AC → AC
  | .msl s' b' off len => if b' = b ∧ s' = s ∧ off + len ≤ ds.length then .d (.sl false s ((ds.drop off).take len)) else .msl s' b' off len
  | x => x
def AV.fz (b s : Nat) (ds : List (List D)) : AV → AV
  | .c x => .c (x.fz b s ds)
  | .ag cs => match allD cs with
    | some _ => .ag cs
    | none => .ag (cs.map (AC.fz b s ds))
  | .tup vs => .tup vs
def Blk.fz (b s : Nat) (ds : List (List D)) : Blk → Blk
  | .box cs => match allD cs with
    | some _ => .box cs
    | none => .box (cs.map (AC.fz b s ds))
  | .arr s' es => match allDD es with
    | some _ => .arr s' es
    | none => .arr s' (es.map (·.map (AC.fz b s ds)))
  | x => x
@[simp] theorem AC.fz_msl {b s : Nat} {ds : List (List D)} {s' b' off len : Nat} : (AC.msl s' b' off len).fz b s ds = if b' = b ∧ s' = s ∧ off + len ≤ ds.length then .d (.sl false s ((ds.drop off).take len)) else .msl s' b' off len := (Eq.refl _).trans rfl
@[simp] theorem AC.fz_d {b s : Nat} {ds : List (List D)} {x : D} : (AC.d x).fz b s ds = .d x := (Eq.refl _).trans rfl
@[simp] theorem AC.fz_ptr {b s : Nat} {ds : List (List D)} {i j : Nat} : (AC.ptr i j).fz b s ds = .ptr i j := (Eq.refl _).trans rfl
@[simp] theorem AC.fz_ept {b s : Nat} {ds : List (List D)} {i j k l : Nat} : (AC.ept i j k l).fz b s ds = .ept i j k l := (Eq.refl _).trans rfl
@[simp] theorem AC.fz_map {b s : Nat} {ds : List (List D)} {i : Nat} : (AC.map i).fz b s ds = .map i := (Eq.refl _).trans rfl
@[simp] theorem AC.fz_fn {b s : Nat} {ds : List (List D)} {f : Fn} {l : List AC} : (AC.fn f l).fz b s ds = .fn f l := (Eq.refl _).trans rfl
@[simp] theorem AC.fz_op {b s : Nat} {ds : List (List D)} {r : Value → Prop} : (AC.op r).fz b s ds = .op r := (Eq.refl _).trans rfl
@[simp] theorem AV.fz_c {b s : Nat} {ds : List (List D)} {x : AC} : (AV.c x).fz b s ds = .c (x.fz b s ds) := (Eq.refl _).trans rfl
@[simp] theorem AV.fz_ag {b s : Nat} {ds : List (List D)} {cs : List AC} : (AV.ag cs).fz b s ds = (match allD cs with
    | some _ => .ag cs
    | none => .ag (cs.map (AC.fz b s ds))) := (Eq.refl _).trans rfl
@[simp] theorem AV.fz_tup {b s : Nat} {ds : List (List D)} {vs : List AV} : (AV.tup vs).fz b s ds = .tup vs := (Eq.refl _).trans rfl
@[simp] theorem Blk.fz_box {b s : Nat} {ds : List (List D)} {cs : List AC} : (Blk.box cs).fz b s ds = (match allD cs with
    | some _ => .box cs
    | none => .box (cs.map (AC.fz b s ds))) := (Eq.refl _).trans rfl
@[simp] theorem Blk.fz_arr {b s : Nat} {ds : List (List D)} {s' : Nat} {es : List (List AC)} : (Blk.arr s' es).fz b s ds = (match allDD es with
    | some _ => .arr s' es
    | none => .arr s' (es.map (·.map (AC.fz b s ds)))) := (Eq.refl _).trans rfl
@[simp] theorem Blk.fz_dead {b s : Nat} {ds : List (List D)} : Blk.dead.fz b s ds = .dead := (Eq.refl _).trans rfl
@[simp] theorem Blk.fz_nonB {b s : Nat} {ds : List (List D)} : Blk.non.fz b s ds = .non := (Eq.refl _).trans rfl
@[simp] theorem Blk.fz_mapB {b s : Nat} {ds : List (List D)} {es : List (D × AV)} : (Blk.map es).fz b s ds = .map es := (Eq.refl _).trans rfl
@[simp] theorem Blk.fz_pin {b s : Nat} {ds : List (List D)} {t : Nat × Nat} {i : Nat} : (Blk.pin t i).fz b s ds = .pin t i := (Eq.refl _).trans rfl
@[simp] theorem allDD_comp {α : Type} (l : List α) (f : α → List D) : allDD (l.map ((fun x => List.map AC.d x) ∘ f)) = some (l.map f) := by
  rw [← List.map_map]; exact allDD_map _

section
variable {h : PH} {ρ : RM} {m : Hp} {w : Heap} {b s : Nat} {ds : List (List D)}

/-- what is kept, the block among it -/
noncomputable def fzH (h : PH) (p : Nat × Nat) (w : Heap) : PH := if 0 < p.2 then upd h p.1 w[p.1]? else h

theorem fz_all (H : HRel h ρ m w) {p : Nat × Nat} (e : ρ b = some p) (hb : m b = .arr s (ds.map (·.map .d))) :
    HRel (fzH h p w) ρ (upd m b .dead) w ∧ Step h ρ m w (fzH h p w) ρ (upd m b .dead) w ∧ h.le (fzH h p w) := by
  unfold fzH
  by_cases hp : 0 < p.2
  · rw [if_pos hp]
    obtain ⟨a, c⟩ := H.freeze e (show Real (m b) p by rw [hb]; exact hp)
    exact ⟨a, c, c.hle⟩
  · rw [if_neg hp]
    obtain ⟨a, c⟩ := H.kill (b := b) (by rw [hb]; intro h; cases h)
    exact ⟨a, c, c.hle⟩

theorem RepC.fz (H : HRel h ρ m w) {p : Nat × Nat} (e : ρ b = some p) (hb : m b = .arr s (ds.map (·.map .d))) {x : AC} {v : Value} (r : RepC h ρ x v) : RepC (fzH h p w) ρ (x.fz b s ds) v := by
  have hle := (fz_all H e hb).2.2
  cases x with
  | msl s' b' off len =>
    show RepC _ _ (if b' = b ∧ s' = s ∧ off + len ≤ ds.length then AC.d (.sl false s ((ds.drop off).take len)) else .msl s' b' off len) v
    by_cases hh : b' = b ∧ s' = s ∧ off + len ≤ ds.length
    · rw [if_pos hh]
      obtain ⟨rfl, rfl, h2⟩ := hh
      simp only [RepC] at r ⊢
      obtain ⟨p', a, r1, r2, r3, r4, r5⟩ := r
      rw [e] at r1; cases r1
      have hlen : ((ds.drop off).take len).length = len := by simp; omega
      have how := H.own b' p e
      rw [hb] at how
      unfold RepD
      rcases how with ⟨q1, q2⟩ | ⟨us, U, g1, g2, g3, g5, g4⟩
      · have hds : ds = [] := by simpa using q2
        subst hds
        have hl0 : len = 0 := by simp at h2; omega
        have ho0 : off = 0 := by simp at h2; omega
        subst hl0 ho0
        exact ⟨a, p.2 - 0, by rw [r2]; simp, by simp, (fun h => by cases h), by simp [lenMax], (fun ha => ⟨by simp, by omega⟩), r5, by simp [RepE]⟩
      · refine ⟨a, p.2 - off, by rw [r2, hlen], by omega, (fun h => by cases h), by simp at g5; omega, fun ha => ?_, r5, ?_⟩
        · have : ¬ off < p.2 := fun hlt => by rw [r4 hlt] at ha; cases ha
          have hl0 : len = 0 := by omega
          subst hl0
          exact ⟨by simp, by omega⟩
        · by_cases hlt : off < p.2
          · have ha := r4 hlt
            subst ha
            have e4 : cellsAt (fzH h p w) (some ⟨p.1, off * s', none⟩) = us.drop (off * s') := by
              unfold fzH
              rw [if_pos (by omega)]
              simp only [cellsAt, hcells, upd_same]
              rw [g1]
            rw [e4]
            have g6 := RepCE.to_E g4
            have := (g6.drop off).take len
            have key : ∀ (es : List (List D)) (vs : List Value), RepE h s' es vs → RepE (fzH h p w) s' es vs := fun es vs r => by
              simpa using RepE.mono hle es vs [] r
            exact key _ _ this
          · have hl0 : len = 0 := by omega
            subst hl0
            simp [RepE]
    · rw [if_neg hh]; exact RepC.mono hle (RM.le_refl _) _ _ r
  | _ => exact RepC.mono hle (RM.le_refl _) _ _ r

theorem RepCL.fz (H : HRel h ρ m w) {p : Nat × Nat} (e : ρ b = some p) (hb : m b = .arr s (ds.map (·.map .d))) : ∀ {cs : List AC} {vs : List Value}, RepCL h ρ cs vs → RepCL (fzH h p w) ρ (cs.map (AC.fz b s ds)) vs
  | [], _, _ => by simp [RepCL]
  | _ :: _, [], r => by simp [RepCL] at r
  | c :: cs, v :: vs, r => by
    simp only [RepCL, List.map_cons] at r ⊢
    exact ⟨⟨r.1.1, RepC.fz H e hb r.1.2⟩, RepCL.fz H e hb r.2⟩
theorem RepCE.fz (H : HRel h ρ m w) {p : Nat × Nat} (e : ρ b = some p) (hb : m b = .arr s (ds.map (·.map .d))) {t : Nat} : ∀ {es : List (List AC)} {vs : List Value}, RepCE h ρ t es vs → RepCE (fzH h p w) ρ t (es.map (·.map (AC.fz b s ds))) vs
  | [], _, _ => by simp [RepCE]
  | c :: cs, vs, r => by
    simp only [RepCE, List.map_cons, List.length_map] at r ⊢
    exact ⟨r.1, RepCL.fz H e hb r.2.1, RepCE.fz H e hb r.2.2⟩
theorem RepV.fz (H : HRel h ρ m w) {p : Nat × Nat} (e : ρ b = some p) (hb : m b = .arr s (ds.map (·.map .d))) {x : AV} {v : Value} (r : RepV h ρ x v) : RepV (fzH h p w) ρ (x.fz b s ds) v := by
  cases x with
  | c x => simp only [RepV, AV.fz] at r ⊢; exact RepC.fz H e hb r
  | ag cs =>
    rw [AV.fz_ag]
    split
    · exact RepV.mono (fz_all H e hb).2.2 (RM.le_refl _) _ _ r
    · simp only [RepV, List.length_map] at r ⊢
      obtain ⟨vs, r1, r2, r3⟩ := r
      exact ⟨vs, r1, r2, RepCL.fz H e hb r3⟩
  | tup vs => exact RepV.mono (fz_all H e hb).2.2 (RM.le_refl _) _ _ r

theorem Blk.fz_non {x : Blk} : x.fz b s ds = .non ↔ x = .non := by cases x <;> simp <;> split <;> simp
theorem Blk.fz_real {x : Blk} {p : Nat × Nat} : Real (x.fz b s ds) p ↔ Real x p := by cases x <;> simp <;> split <;> simp [Real]
theorem BlkRep.fz (H : HRel h ρ m w) {p q : Nat × Nat} (e : ρ b = some p) (hb : m b = .arr s (ds.map (·.map .d))) {x : Blk} (r : BlkRep h ρ q x w) : BlkRep (fzH h p w) ρ q (x.fz b s ds) w := by
  have hle := (fz_all H e hb).2.2
  cases x with
  | box cs =>
    rw [Blk.fz_box]
    split
    · exact BlkRep.congr hle (RM.le_refl _) rfl r
    · simp only [BlkRep, List.length_map] at r ⊢
      obtain ⟨vs, T, r1, r2, r3⟩ := r
      exact ⟨vs, T, r1, r2, RepCL.fz H e hb r3⟩
  | arr t es =>
    rw [Blk.fz_arr]
    split
    · exact BlkRep.congr hle (RM.le_refl _) rfl r
    · simp only [BlkRep, List.length_map, List.map_eq_nil_iff] at r ⊢
      rcases r with r | ⟨vs, T, r1, r2, r3, r4, r5⟩
      · exact .inl r
      · exact .inr ⟨vs, T, r1, r2, r3, r4, RepCE.fz H e hb r5⟩
  | _ => exact BlkRep.congr hle (RM.le_refl _) rfl r

def fzM (m : Hp) (b s : Nat) (ds : List (List D)) : Hp := fun i => if i = b then .dead else (m i).fz b s ds

@[simp] theorem fzM_at (m : Hp) (b s : Nat) (ds : List (List D)) (i : Nat) : fzM m b s ds i = if i = b then .dead else (m i).fz b s ds := (Eq.refl _).trans rfl

theorem HRel.fz (H : HRel h ρ m w) {p : Nat × Nat} (e : ρ b = some p) (hb : m b = .arr s (ds.map (·.map .d))) :
    HRel (fzH h p w) ρ (fzM m b s ds) w ∧ Step h ρ m w (fzH h p w) ρ (fzM m b s ds) w := by
  obtain ⟨K, S, hle⟩ := fz_all H e hb
  have hn : ∀ i, fzM m b s ds i = .non ↔ upd m b .dead i = .non := fun i => by
    unfold fzM
    by_cases hi : i = b
    · subst hi; rw [if_pos rfl, upd_same]
    · rw [if_neg hi, upd_ne _ _ hi]; exact Blk.fz_non
  have hr : ∀ i q, Real (fzM m b s ds i) q ↔ Real (upd m b .dead i) q := fun i q => by
    unfold fzM
    by_cases hi : i = b
    · subst hi; rw [if_pos rfl, upd_same]
    · rw [if_neg hi, upd_ne _ _ hi]; exact Blk.fz_real
  refine ⟨⟨K.pers, fun i => (hn i).trans (K.dom i), fun i q hq => ?_, fun i j q q' h1 h2 h3 h4 => K.inj i j q q' h1 h2 ((hr _ _).1 h3) ((hr _ _).1 h4), fun i q h1 h2 => K.sep i q h1 ((hr _ _).1 h2)⟩,
    ⟨S.hle, S.hlow, S.rle, S.size, S.frame, fun i q h1 h2 => S.own i q h1 ((hr _ _).1 h2)⟩⟩
  unfold fzM
  by_cases hi : i = b
  · subst hi; rw [if_pos rfl]; trivial
  · rw [if_neg hi]
    exact BlkRep.fz H e hb (H.own i q hq)
end

theorem Rel.fz {P : Program} {c : Ctx} {get : Nat → AV} {m : Hp} {a : Act} {w : World} {b s : Nat} {ds : List (List D)} (R : Rel P c get m a w) (hb : m b = .arr s (ds.map (·.map .d))) : Rel P c (fun k => (get k).fz b s ds) (fzM m b s ds) a w := by
  obtain ⟨h, ρ, H, S, sm, r⟩ := R.ex
  have hne : ρ b ≠ none := fun e => by have := (H.dom b).2 e; rw [hb] at this; cases this
  obtain ⟨p, e⟩ := Option.ne_none_iff_exists'.1 hne
  obtain ⟨K, T⟩ := H.fz e hb
  exact ⟨R.gnd, R.defers, R.size, ⟨_, ρ, K, S.trans T, sm, fun k => RepV.fz H e hb (r k)⟩⟩

/-- the blocks of these numbers, one after the other -/
def fzG (S : St) : List Nat → (St → Prop) → Prop
  | [], K => K S
  | b :: l, K => match S.m b with
    | .arr s es => match allDD es with
      | some ds => fzG ⟨S.t.map fun kv => (kv.1, kv.2.fz b s ds), fzM S.m b s ds, S.n⟩ l K
      | none => False
    | _ => False

@[simp] theorem fzG_nil {S : St} {K : St → Prop} : fzG S [] K = K S := (Eq.refl _).trans rfl
@[simp] theorem fzG_cons {S : St} {K : St → Prop} {b : Nat} {l : List Nat} : fzG S (b :: l) K = (match S.m b with
    | .arr s es => match allDD es with
      | some ds => fzG ⟨S.t.map fun kv => (kv.1, kv.2.fz b s ds), fzM S.m b s ds, S.n⟩ l K
      | none => False
    | _ => False) := (Eq.refl _).trans rfl
theorem fzG.mono {K K' : St → Prop} : ∀ (l : List Nat) {S : St}, fzG S l K → (∀ S', K S' → K' S') → fzG S l K'
  | [], S, h, k => k S h
  | b :: l, S, h, k => by
    unfold fzG at h ⊢
    split
    · rename_i s es eb
      rw [eb] at h
      simp only at h
      split
      · rename_i ds ed
        rw [ed] at h
        exact fzG.mono l h k
      · rename_i ed
        rw [ed] at h
        exact h
    · rename_i hn
      split at h
      · rename_i s es eb
        exact (hn s es eb).elim
      · exact h

theorem look_fz (t : List (Nat × AV)) (b s : Nat) (ds : List (List D)) (k : Nat) : look (t.map fun kv => (kv.1, kv.2.fz b s ds)) k = (look t k).fz b s ds := by
  induction t with
  | nil => rfl
  | cons x t ih =>
    obtain ⟨j, v⟩ := x
    simp only [List.map_cons, look]
    split
    · rfl
    · exact ih

theorem AW.fzq {P : Program} {c : Ctx} {mc : MC} {Q : Exit → St → Prop} : ∀ (l : List Nat) {S : St}, fzG S l (fun S' => AW P c mc Q S') → AW P c (.fzq mc) Q S
  | [], S, h => fun code hc a w r => h code (by simpa [chkC] using hc) a w r
  | b :: l, S, h => by
    unfold fzG at h
    split at h
    · rename_i s es eb
      split at h
      · rename_i ds ed
        have := allDD_ok ed
        subst this
        have k := AW.fzq l h
        intro code hc a w r
        refine k code hc a w ?_
        have := r.fz eb
        have eg : (St.get ⟨S.t.map fun kv => (kv.1, kv.2.fz b s ds), fzM S.m b s ds, S.n⟩) = fun k => (S.get k).fz b s ds := funext fun k => look_fz _ _ _ _ _
        rw [eg]
        exact this
      · exact h.elim
    · exact h.elim
end Go.Abs
