/- The contract of a call that is handed blocks, from a walk through its body. -/
import Derived.Test.YtkgomampbengjaaGreatDoorAbs21
set_option linter.unusedVariables false
set_option linter.unusedSimpArgs false
namespace Go.Abs

def argA : Nat → List AV → List (Nat × AV)
  | _, [] => []
  | i, v :: vs => (i, v) :: argA (i + 1) vs
def pinsL : Nat → List (Nat × Nat) → List Blk
  | _, [] => []
  | i, t :: ts => .pin t i :: pinsL (i + 1) ts
def AC.ok : AC → Prop
  | .d x => x.ok
  | _ => True
def AC.okL : List AC → Prop
  | [] => True
  | c :: cs => c.ok ∧ AC.okL cs
def AV.ok : AV → Prop
  | .c x => x.ok
  | .ag cs => AC.okL cs
  | _ => True
def AV.okL : List AV → Prop
  | [] => True
  | v :: vs => v.ok ∧ AV.okL vs
def AC.okE (s : Nat) : List (List AC) → Prop
  | [] => True
  | e :: es => (e.length = s ∧ AC.okL e) ∧ AC.okE s es
def Blk.ok : Blk → Prop
  | .box cs => AC.okL cs
  | .arr s es => es.length ≤ lenMax ∧ AC.okE s es
  | _ => True
def Blk.okL : List Blk → Prop
  | [] => True
  | b :: bs => b.ok ∧ Blk.okL bs

section
variable {h : PH} {ρ : RM}
theorem RepC.ok : ∀ {x : AC} {v : Value}, RepC h ρ x v → x.ok
  | .d x, v, r => by simp only [RepC] at r; exact RepD.ok _ _ r
  | .ptr _ _, _, _ => trivial
  | .ept _ _ _ _, _, _ => trivial
  | .msl _ _ _ _, _, _ => trivial
  | .map _, _, _ => trivial
  | .fn _ _, _, _ => trivial
  | .op _, _, _ => trivial
theorem RepCL.ok : ∀ {cs : List AC} {vs : List Value}, RepCL h ρ cs vs → AC.okL cs
  | [], _, _ => trivial
  | _ :: _, [], r => by simp [RepCL] at r
  | c :: cs, v :: vs, r => by
    simp only [RepCL] at r
    exact ⟨r.1.2.ok, r.2.ok⟩
theorem RepV.ok : ∀ {x : AV} {v : Value}, RepV h ρ x v → x.ok
  | .c x, v, r => by simp only [RepV] at r; exact RepC.ok r
  | .ag cs, v, r => by
    simp only [RepV] at r
    obtain ⟨vs, _, _, r⟩ := r
    exact r.ok
  | .tup _, _, _ => trivial
theorem RepVL.ok : ∀ {xs : List AV} {vs : List Value}, RepVL h ρ xs vs → AV.okL xs
  | [], _, _ => trivial
  | _ :: _, [], r => by simp [RepVL] at r
  | x :: xs, v :: vs, r => by
    simp only [RepVL] at r
    exact ⟨r.1.ok, r.2.ok⟩
theorem RepCE.ok {s : Nat} : ∀ {es : List (List AC)} {vs : List Value}, RepCE h ρ s es vs → AC.okE s es
  | [], _, _ => trivial
  | e :: es, vs, r => by
    simp only [RepCE] at r
    exact ⟨⟨r.1, r.2.1.ok⟩, r.2.2.ok⟩
theorem BlkRep.ok {p : Nat × Nat} {blk : Blk} {w : Heap} (r : BlkRep h ρ p blk w) : blk.ok := by
  cases blk with
  | box cs => obtain ⟨vs, T, _, _, r⟩ := r; exact r.ok
  | arr s es =>
    rcases r with ⟨_, rfl⟩ | ⟨vs, T, _, _, _, h4, r⟩
    · exact ⟨by simp, trivial⟩
    · exact ⟨h4, r.ok⟩
  | _ => trivial
theorem RepVL.len : ∀ {xs : List AV} {vs : List Value}, RepVL h ρ xs vs → vs.length = xs.length
  | [], vs, r => by simp only [RepVL] at r; subst r; rfl
  | _ :: _, [], r => by simp [RepVL] at r
  | x :: xs, v :: vs, r => by simp only [RepVL] at r; simp [r.2.len]
end

/-- a block at the end, seen by the caller -/
def finB (S : St) (l : List Nat) : List Nat → List Blk → Prop
  | [], [] => True
  | j :: js, b :: bs => (b = .dead ∨ S.m j = b.ren (fOf l)) ∧ finB S l js bs
  | _, _ => False
/-- the blocks that were handed lie where they lay -/
def pinB (S : St) (l : List Nat) : List Nat → List Nat → List (Nat × Nat) → List Blk → Prop
  | _, _, [], _ => True
  | j :: js, q :: qs, t :: ts, b :: bs => (b = .dead ∨ S.m q = .pin t j) ∧ pinB S l js qs ts bs
  | _, _, _, _ => False
def EndM (v : AV) (bs' : List Blk) (ts : List (Nat × Nat)) (vs : List AV) (S : St) : Prop :=
  ∃ l qs : List Nat, l.Nodup ∧ one? vs = v.ren (fOf l) ∧ finB S l l bs' ∧ pinB S l l qs ts bs'
theorem EndM.mk {v : AV} {bs' : List Blk} {ts : List (Nat × Nat)} {vs : List AV} {S : St} (l qs : List Nat) (h : l.Nodup ∧ one? vs = v.ren (fOf l) ∧ finB S l l bs' ∧ pinB S l l qs ts bs') : EndM v bs' ts vs S := ⟨l, qs, h⟩
def endM (rs : List MR) (v : AV) (bs' : List Blk) (ts : List (Nat × Nat)) : Exit → St → Prop
  | .ret, S | .normal, S => ressK S rs fun vs => EndM v bs' ts vs S
  | _, _ => False
@[simp] theorem endM_ret (rs : List MR) (v : AV) (bs' : List Blk) (ts : List (Nat × Nat)) (S : St) : endM rs v bs' ts .ret S = ressK_ S rs (fun vs => EndM v bs' ts vs S) ⟨⟩ := (Eq.refl _).trans rfl
@[simp] theorem endM_normal (rs : List MR) (v : AV) (bs' : List Blk) (ts : List (Nat × Nat)) (S : St) : endM rs v bs' ts .normal S = ressK_ S rs (fun vs => EndM v bs' ts vs S) ⟨⟩ := (Eq.refl _).trans rfl
@[simp] theorem endM_exit (rs : List MR) (v : AV) (bs' : List Blk) (ts : List (Nat × Nat)) (i : Nat) (S : St) : endM rs v bs' ts (.exit i) S = False := (Eq.refl _).trans rfl
attribute [simp] argA pinsL finB pinB AC.lv AC.lvs AV.lv AV.lvs Blk.lv AC.lvs_D newN freshB wrL atL

theorem pinsL_len : ∀ (i : Nat) (ts : List (Nat × Nat)), (pinsL i ts).length = ts.length
  | _, [] => rfl
  | i, t :: ts => by simp [pinsL, pinsL_len (i + 1) ts]
theorem pinsL_get : ∀ (i : Nat) (ts : List (Nat × Nat)) (j : Nat), (pinsL i ts)[j]? = (ts[j]?).map fun t => .pin t (i + j)
  | _, [], j => by simp [pinsL]
  | i, t :: ts, 0 => by simp [pinsL]
  | i, t :: ts, j + 1 => by
    simp only [pinsL, List.getElem?_cons_succ]
    rw [pinsL_get (i + 1) ts j, show i + 1 + j = i + (j + 1) by omega]
theorem argA_ok {h : PH} {ρ : RM} : ∀ {ds : List AV} {us : List Value} (i : Nat), RepVL h ρ ds us → ∀ k, RepV h ρ (look (argA i ds) k) (if i ≤ k then us.getD (k - i) undef else undef)
  | [], us, i, _, k => by simp [argA, look, RepV, RepC, RepD]
  | _ :: _, [], _, r, _ => by simp [RepVL] at r
  | d :: ds, u :: us, i, r, k => by
    simp only [RepVL] at r
    simp only [argA, look]
    by_cases hk : k = i
    · subst hk; simp; exact r.1
    · rw [if_neg hk]
      have := argA_ok (i + 1) r.2 k
      by_cases hle : i ≤ k
      · rw [if_pos hle]
        rw [if_pos (by omega)] at this
        rw [show k - i = (k - (i + 1)) + 1 from by omega]
        simpa using this
      · rw [if_neg hle]
        rw [if_neg (by omega)] at this
        exact this
theorem finB_at {S : St} {l : List Nat} : ∀ {js : List Nat} {bs : List Blk}, finB S l js bs → js.length = bs.length ∧ ∀ i, i < js.length → hpOf bs i = .dead ∨ S.m (js.getD i 0) = (hpOf bs i).ren (fOf l)
  | [], [], _ => ⟨rfl, fun i hi => by simp at hi⟩
  | [], _ :: _, h => by simp [finB] at h
  | _ :: _, [], h => by simp [finB] at h
  | j :: js, b :: bs, h => by
    simp only [finB] at h
    obtain ⟨h1, h2⟩ := finB_at h.2
    refine ⟨by simp [h1], fun i hi => ?_⟩
    cases i with
    | zero => simpa [hpOf] using h.1
    | succ i => simpa [hpOf] using h2 i (by simpa using hi)
theorem pinB_at {S : St} {l : List Nat} : ∀ {js qs : List Nat} {ts : List (Nat × Nat)} {bs : List Blk}, pinB S l js qs ts bs → ∀ i t, ts[i]? = some t → hpOf bs i = .dead ∨ ∃ q, S.m q = .pin t (js.getD i 0)
  | _, _, [], _, _, i, t, e => by simp at e
  | [], _, _ :: _, _, h, _, _, _ => by simp [pinB] at h
  | _ :: _, [], _ :: _, _, h, _, _, _ => by simp [pinB] at h
  | _ :: _, _ :: _, _ :: _, [], h, _, _, _ => by simp [pinB] at h
  | j :: js, q :: qs, t :: ts, b :: bs, h, 0, t', e => by
    simp only [pinB] at h
    simp at e; subst e
    rcases h.1 with h | h
    · exact .inl (by simpa [hpOf] using h)
    · exact .inr ⟨q, by simpa using h⟩
  | j :: js, q :: qs, t :: ts, b :: bs, h, i + 1, t', e => by
    simp only [pinB] at h
    have := pinB_at h.2 i t' (by simpa using e)
    simpa [hpOf] using this
theorem hpOf_get {bs : List Blk} {i : Nat} (h : i < bs.length) : bs[i]? = some (hpOf bs i) := by
  unfold hpOf; rw [List.getD_eq_getElem?_getD, List.getElem?_eq_getElem h]; rfl
theorem hpOf_out {bs : List Blk} {i : Nat} (h : bs.length ≤ i) : hpOf bs i = .non := by
  unfold hpOf; rw [List.getD_eq_getElem?_getD, List.getElem?_eq_none h]; rfl

section
variable {P : Program}

/-- THE CONTRACT OF A FUNCTION THAT IS HANDED BLOCKS, by a walk through its body -/
theorem MCall.of_walk {f : FuncId} {fn : Func} {code : Code} {mc : MC} {rs : List MR} {args : List AV} {bs : List Blk} {v : AV} {bs' : List Blk} (hf : P.funcs[f]? = some fn) (hb : fn.body = some code) (hname : (fn.name != "runtime.NumGoroutine") = true)
    (hc : chkC P fn.ntmps mc code = true) (hr : chkR P rs fn.results.toList = true) (hn : args.length ≤ fn.ntmps) (hbs : ∀ i, i < bs.length → hpOf bs i ≠ .non) (hle : bs.length ≤ bs'.length) (hnon : ∀ i, i < bs'.length → hpOf bs' i ≠ .non)
    (hnew : ∀ i, bs.length ≤ i → i < bs'.length → hpOf bs' i ≠ .dead) (hvl : v.lv (live bs') = true) (hbl : ∀ b, b ∈ bs' → b.lv (live bs') = true)
    (h : ∀ ts : List (Nat × Nat), ts.length = bs.length → AV.okL args → (∀ b, b ∈ bs → b.ok) → ∀ c : Ctx, c.N = fn.ntmps → c.pure → AW P c mc (endM rs v bs' ts) ⟨argA 0 args, hpOf (bs ++ pinsL 0 ts), bs.length + ts.length⟩) : MCall P f args bs v bs' := by
  refine ⟨by unfold callee; rw [hf]; simp only [hb]; simpa using hname, hle, hnon, hvl, hbl, fun ph ρ0 w us H0 hG ra => ?_⟩
  have hlen := ra.len
  have some0 : ∀ i, i < bs.length → ∃ p, ρ0 i = some p := fun i hi => by
    cases e : ρ0 i with
    | none => exact absurd ((H0.dom i).2 e) (hbs i hi)
    | some p => exact ⟨p, rfl⟩
  have none0 : ∀ i, bs.length ≤ i → ρ0 i = none := fun i hi => (H0.dom i).1 (hpOf_out hi)
  let ts : List (Nat × Nat) := (List.range bs.length).map fun i => (ρ0 i).getD (0, 0)
  have hts : ts.length = bs.length := by simp [ts]
  have tsget : ∀ i, i < bs.length → ∀ p, ρ0 i = some p → ts[i]? = some p := fun i hi p hp => by
    simp only [ts, List.getElem?_map, List.getElem?_range hi, Option.map_some, hp]; rfl
  let ρ1 : RM := fun b => if b < bs.length then ρ0 b else if b < bs.length + bs.length then ρ0 (b - bs.length) else none
  have m1a : ∀ b, b < bs.length → hpOf (bs ++ pinsL 0 ts) b = hpOf bs b := fun b hb => by
    unfold hpOf; rw [List.getD_eq_getElem?_getD, List.getD_eq_getElem?_getD, List.getElem?_append_left hb]
  have m1b : ∀ j, j < bs.length → ∀ p, ρ0 j = some p → hpOf (bs ++ pinsL 0 ts) (bs.length + j) = .pin p j := fun j hj p hp => by
    unfold hpOf; rw [List.getD_eq_getElem?_getD, List.getElem?_append_right (by omega), Nat.add_sub_cancel_left, pinsL_get, tsget j hj p hp]; simp
  have m1c : ∀ b, bs.length + bs.length ≤ b → hpOf (bs ++ pinsL 0 ts) b = .non := fun b hb => hpOf_out (by rw [List.length_append, pinsL_len, hts]; exact hb)
  have rle : ρ0.le ρ1 := fun b p hp => by
    have : b < bs.length := by
      rcases Nat.lt_or_ge b bs.length with h | h
      · exact h
      · rw [none0 b h] at hp; cases hp
    show (if b < bs.length then _ else _) = _
    rw [if_pos this]; exact hp
  have r1 : ∀ b p, ρ1 b = some p → (b < bs.length ∧ ρ0 b = some p) ∨ ∃ j, j < bs.length ∧ b = bs.length + j ∧ ρ0 j = some p := fun b p hp => by
    simp only [ρ1] at hp
    split at hp
    · exact .inl ⟨by assumption, hp⟩
    · split at hp
      · exact .inr ⟨b - bs.length, by omega, by omega, hp⟩
      · cases hp
  have H1 : HRel ph ρ1 (hpOf (bs ++ pinsL 0 ts)) w.heap := by
    refine ⟨H0.pers, ?_, ?_, ?_, ?_⟩
    · intro b
      by_cases h1 : b < bs.length
      · rw [m1a b h1, H0.dom]; show _ ↔ (if b < bs.length then _ else _) = _; rw [if_pos h1]
      · by_cases h2 : b < bs.length + bs.length
        · obtain ⟨j, rfl⟩ : ∃ j, b = bs.length + j := ⟨b - bs.length, by omega⟩
          obtain ⟨p, hp⟩ := some0 j (by omega)
          rw [m1b j (by omega) p hp]
          show _ ↔ (if _ then _ else if _ then ρ0 (bs.length + j - bs.length) else _) = _
          rw [if_neg h1, if_pos h2, Nat.add_sub_cancel_left, hp]; simp
        · rw [m1c b (by omega)]
          show _ ↔ (if _ then _ else if _ then _ else _) = _
          rw [if_neg h1, if_neg h2]; simp
    · intro b p hp
      rcases r1 b p hp with ⟨h1, h2⟩ | ⟨j, h1, rfl, h2⟩
      · rw [m1a b h1]; exact BlkRep.congr (PH.le_refl ph) rle rfl (H0.own b p h2)
      · rw [m1b j h1 p h2]; exact ⟨rfl, rle _ _ h2⟩
    · intro b c p q hb hc' hrb hrc he
      rcases r1 b p hb with ⟨h1, h2⟩ | ⟨j, h1, rfl, h2⟩
      · rcases r1 c q hc' with ⟨h3, h4⟩ | ⟨k, h3, rfl, h4⟩
        · rw [m1a b h1] at hrb; rw [m1a c h3] at hrc
          exact H0.inj b c p q h2 h4 hrb hrc he
        · rw [m1b k h3 q h4] at hrc; exact hrc.elim
      · rw [m1b j h1 p h2] at hrb; exact hrb.elim
    · intro b p hb hrb
      rcases r1 b p hb with ⟨h1, h2⟩ | ⟨j, h1, rfl, h2⟩
      · rw [m1a b h1] at hrb; exact H0.sep b p h2 hrb
      · rw [m1b j h1 p h2] at hrb; exact hrb.elim
  let c : Ctx := ⟨ph, ρ0, hpOf bs, w, fn.ntmps⟩
  have hpure : c.pure := trivial
  have hblk : ∀ b, b ∈ bs → b.ok := fun b hb => by
    obtain ⟨i, hi, rfl⟩ := List.getElem_of_mem hb
    obtain ⟨p, hp⟩ := some0 i hi
    have := (H0.own i p hp).ok
    rwa [show hpOf bs i = bs[i] by unfold hpOf; rw [List.getD_eq_getElem?_getD, List.getElem?_eq_getElem hi]; rfl] at this
  refine calls_of_wp hf hb (wp_mono (h ts hts ra.ok hblk c rfl hpure code hc _ w ?_) fun e a' w' ⟨S', r', q⟩ => ?_)
  · refine ⟨hG, rfl, ?_, ph, ρ1, H1, ⟨PH.le_refl ph, fun B _ _ => rfl, Nat.le_refl _, fun B _ _ => rfl, ?_⟩, Same.refl w, fun k => ?_⟩
    · simp [c]; omega
    · intro b p hb hrb
      rcases r1 b p hb with ⟨h1, h2⟩ | ⟨j, h1, rfl, h2⟩
      · have hrb : Real (hpOf (bs ++ pinsL 0 ts) b) p := hrb
        rw [m1a b h1] at hrb; exact .inr ⟨b, p, h2, hrb, rfl⟩
      · have hrb : Real (hpOf (bs ++ pinsL 0 ts) (bs.length + j)) p := hrb
        rw [m1b j h1 p h2] at hrb; exact hrb.elim
    · show RepV ph ρ1 (look (argA 0 args) k) _
      have ra1 : RepVL ph ρ1 args us := RepVL.mono (PH.le_refl ph) rle _ _ ra
      have := argA_ok 0 ra1 k
      simp only [Nat.zero_le, if_true, Nat.sub_zero] at this
      have e1 : (us.toArray ++ Array.replicate (fn.ntmps - us.toArray.size) undef).getD k undef = us.getD k undef := by
        rw [Array.getD_eq_getD_getElem?, List.getD_eq_getElem?_getD, Array.getElem?_append]
        split
        · simp
        · rename_i hh
          rw [List.getElem?_eq_none (by simpa using hh)]
          simp only [Array.getElem?_replicate]
          split <;> rfl
      rw [e1]
      exact this
  · obtain ⟨ph', ρS, H, S0, e0, hg⟩ := r'.ex
    have fin : ressK S' rs (fun vs => EndM v bs' ts vs S') → ∃ vC, (results fn a'.tmps).run P w' = .ok vC w' ∧ ∃ (vC' : Value) (h' : PH) (ρ' : RM), Ending.returned vC = .returned vC' ∧ StepW ph ρ0 (hpOf bs) w.heap h' ρ' (hpOf bs') w'.heap ∧ HRel h' ρ' (hpOf bs') w'.heap ∧ Same w w' ∧ RepV h' ρ' v vC' ∧
        ∀ i, i < bs.length → ρ' i = ρ0 i := by
      intro hk
      obtain ⟨vs, ⟨l, qs, lnd, kv, kf, kp⟩, F⟩ := ressK_ok hr hk
      obtain ⟨us', g1, g2⟩ := F (a := a') H hg
      have hres : Runs P (results fn a'.tmps) w' (oneV us') w' := by
        unfold results
        refine Runs.bind (a := us'.toArray) (w' := w') ?_ ?_
        · rw [Array.mapM_eq_mapM_toList]
          exact g1.map (f := List.toArray)
        · cases us' with
          | nil => exact Runs.pure _
          | cons u us' =>
            cases us' with
            | nil => exact Runs.pure _
            | cons u' us' => exact Runs.pure _
      have hrep : RepV ph' ρS (one? vs) (oneV us') := by
        cases vs with
        | nil =>
          simp only [RepVL] at g2; subst g2
          simp only [one?, RepV]
          exact ⟨[], rfl, rfl⟩
        | cons x xs =>
          cases us' with
          | nil => simp [RepVL] at g2
          | cons u us' =>
            cases xs with
            | nil =>
              simp only [RepVL] at g2
              rw [g2.2]
              exact g2.1
            | cons y ys =>
              cases us' with
              | nil => simp [RepVL] at g2
              | cons u' us' =>
                simp only [one?, RepV]
                exact ⟨_, rfl, g2⟩
      rw [kv] at hrep
      obtain ⟨kl, kf⟩ := finB_at kf
      -- which numbers are live
      have lv_ : ∀ i, live bs' i = true ↔ i < bs'.length ∧ hpOf bs' i ≠ .dead := by
        intro i
        unfold live
        rcases Nat.lt_or_ge i bs'.length with hi | hi
        · rw [hpOf_get hi]
          have := hnon i hi
          cases e : hpOf bs' i <;> simp_all
        · rw [List.getElem?_eq_none hi]; simp; omega
      let ρ2 : RM := fun i => if i < bs.length then ρ0 i else if i < bs'.length then ρS (fOf l i) else none
      have mS : ∀ i, live bs' i = true → S'.m (fOf l i) = (hpOf bs' i).ren (fOf l) := fun i hi => by
        obtain ⟨h1, h2⟩ := (lv_ i).1 hi
        exact (kf i (by omega)).resolve_left h2
      have rS : ∀ i, live bs' i = true → ρ2 i = ρS (fOf l i) := fun i hi => by
        obtain ⟨h1, h2⟩ := (lv_ i).1 hi
        show (if i < bs.length then _ else _) = _
        by_cases hib : i < bs.length
        · rw [if_pos hib]
          obtain ⟨p, hp⟩ := some0 i hib
          obtain ⟨q, hq⟩ := (pinB_at kp i p (tsget i hib p hp)).resolve_left h2
          cases e : ρS q with
          | none => rw [(H.dom q).2 e] at hq; cases hq
          | some t =>
            have := H.own q t e
            rw [hq] at this
            rw [hp]; exact this.2.symm
        · rw [if_neg hib, if_pos h1]
      have mvH : ∀ b q, live bs' b = true → ρS (fOf l b) = some q → ρ2 (id b) = some q := fun b q hb hq => by rw [← rS b hb] at hq; exact hq
      have linj : ∀ i j, i < bs'.length → j < bs'.length → fOf l i = fOf l j → i = j := by
        intro i j h1 h2 e
        unfold fOf at e
        rw [List.getD_eq_getElem?_getD, List.getD_eq_getElem?_getD, List.getElem?_eq_getElem (by omega), List.getElem?_eq_getElem (by omega)] at e
        simp only [Option.getD_some] at e
        exact (List.getElem?_inj (by omega) lnd).1 (by rw [List.getElem?_eq_getElem (by omega), List.getElem?_eq_getElem (by omega), e])
      have real_ : ∀ b p, ρ2 b = some p → Real (hpOf bs' b) p → live bs' b = true ∧ b < bs'.length := fun b p hp hr => by
        have hb : b < bs'.length := by
          rcases Nat.lt_or_ge b bs'.length with h | h
          · exact h
          · rw [hpOf_out h] at hr; exact hr.elim
        exact ⟨(lv_ b).2 ⟨hb, fun e => by rw [e] at hr; exact hr⟩, hb⟩
      have H2 : HRel ph' ρ2 (hpOf bs') w'.heap := by
        refine ⟨H.pers, ?_, ?_, ?_, ?_⟩
        · intro b
          by_cases h1 : b < bs.length
          · obtain ⟨p, hp⟩ := some0 b h1
            show _ ↔ (if b < bs.length then _ else _) = _
            rw [if_pos h1, hp]
            simp [hnon b (by omega)]
          · by_cases h2 : b < bs'.length
            · have hl := (lv_ b).2 ⟨h2, hnew b (by omega) h2⟩
              rw [rS b hl, ← H.dom, mS b hl]
              cases hpOf bs' b <;> simp [Blk.ren]
            · rw [hpOf_out (by omega)]
              show _ ↔ (if _ then _ else if _ then _ else _) = _
              rw [if_neg h1, if_neg h2]; simp
        · intro b p hp
          by_cases hd : hpOf bs' b = .dead
          · rw [hd]; trivial
          · have hb : b < bs'.length := by
              rcases Nat.lt_or_ge b bs'.length with h | h
              · exact h
              · have h1 : ¬ b < bs.length := by omega
                simp only [ρ2] at hp
                rw [if_neg h1, if_neg (by omega)] at hp; cases hp
            have hl := (lv_ b).2 ⟨hb, hd⟩
            rw [rS b hl] at hp
            have := H.own _ p hp
            rw [mS b hl] at this
            have h3 := BlkRep.mv (f2 := id) mvH (hbl _ (List.mem_of_getElem? (hpOf_get hb))) this
            rwa [Blk.ren_id] at h3
        · intro b c' p q hb hc' hrb hrc he
          obtain ⟨l1, b1⟩ := real_ b p hb hrb
          obtain ⟨l2, b2⟩ := real_ c' q hc' hrc
          rw [rS b l1] at hb; rw [rS c' l2] at hc'
          exact linj b c' b1 b2 (H.inj _ _ p q hb hc' (by rw [mS b l1]; exact Real.ren.2 hrb) (by rw [mS c' l2]; exact Real.ren.2 hrc) he)
        · intro b p hb hrb
          obtain ⟨l1, b1⟩ := real_ b p hb hrb
          rw [rS b l1] at hb
          exact H.sep _ p hb (by rw [mS b l1]; exact Real.ren.2 hrb)
      refine ⟨_, hres, _, ph', ρ2, rfl, ⟨S0.hle, S0.hlow, S0.size, S0.frame, ?_⟩, H2, e0, ?_, ?_⟩
      · intro b p hb hrb
        obtain ⟨l1, b1⟩ := real_ b p hb hrb
        rw [rS b l1] at hb
        exact S0.own _ p hb (by rw [mS b l1]; exact Real.ren.2 hrb)
      · have := RepV.mv (f2 := id) mvH v _ hvl hrep
        rwa [AV.ren_id] at this
      · intro i hi
        show (if i < bs.length then _ else _) = _
        rw [if_pos hi]
    cases e with
    | normal => exact ⟨r'.defers, fin q⟩
    | ret => exact ⟨r'.defers, fin q⟩
    | exit _ => exact q.elim
    | goto _ => exact q.elim
    | panic _ => exact q.elim
    | outgrown => exact q.elim

end
end Go.Abs
