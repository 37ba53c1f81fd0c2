import Derived.Test.YtkgomampbengjaaGreatDoorCoP
/- Coercions: which are normal, but for those within (the reference's own). -/
set_option linter.unusedVariables false
set_option linter.unusedSimpArgs false
namespace Go.Gr
open Go.Abs Go.Proofs

/-- is a text at most another one -/
def leS (a b : ByteArray) : Bool := Op.bytesLess a.data.toList b.data.toList || decide (a = b)
def risesB : List ByteArray → Bool
  | a :: b :: l => !leS b a && risesB (b :: l)
  | _ => true
theorem risesB_at : ∀ {l : List ByteArray} {i : Nat} (h : i + 1 < l.length), leS l[i + 1] l[i] = true → risesB l = false
  | a :: b :: l, 0, h, e => by
    simp only [List.getElem_cons_succ, List.getElem_cons_zero] at e
    simp [risesB, e]
  | a :: b :: l, i + 1, h, e => by
    have := risesB_at (l := b :: l) (i := i) (by simpa using h) (by simpa using e)
    simp [risesB, this]
  | [], _, h, _ => by simp at h
  | [_], _, h, _ => by simp at h
theorem risesB_all : ∀ {l : List ByteArray}, (∀ i (h : i + 1 < l.length), leS l[i + 1] l[i] = false) → risesB l = true
  | [], _ => rfl
  | [_], _ => rfl
  | a :: b :: l, H => by
    have h0 := H 0 (by simp)
    simp only [List.getElem_cons_succ, List.getElem_cons_zero] at h0
    have := risesB_all (l := b :: l) fun i h => by
      have := H (i + 1) (by simpa using h)
      simpa only [List.getElem_cons_succ] using this
    simp [risesB, h0, this]

/-- the needs of a normal coercion: none without a label, no name twice -/
def needsP (l : List (ByteArray × Int)) (j : Nat) : Prop := ∀ i (h : i < l.length), i < j → l[i].2 ≠ 0 ∧ ∀ k (hk : k < i), l[k].1 ≠ l[i].1
def needsOk : List ByteArray → List (ByteArray × Int) → Bool
  | _, [] => true
  | seen, x :: l => decide (x.2 ≠ 0) && (!(seen.any fun y => decide (y = x.1)) && needsOk (x.1 :: seen) l)
theorem needsOk_iff : ∀ (l : List (ByteArray × Int)) (seen : List ByteArray), needsOk seen l = true ↔ (∀ i (h : i < l.length), l[i].1 ∉ seen) ∧ needsP l l.length
  | [], seen => by simp [needsOk, needsP]
  | x :: l, seen => by
    have hm : (!(seen.any fun y => decide (y = x.1))) = true ↔ x.1 ∉ seen := by
      simp
      exact ⟨fun h hx => h _ hx rfl, fun h y hy e => h (e ▸ hy)⟩
    simp only [needsOk, Bool.and_eq_true, decide_eq_true_eq]
    rw [needsOk_iff l (x.1 :: seen), hm]
    constructor
    · rintro ⟨h1, h2, h3, h4⟩
      refine ⟨fun i h => ?_, fun i h hj => ?_⟩
      · cases i with
        | zero => exact h2
        | succ i => have := h3 i (by simpa using h); simp only [List.mem_cons, not_or] at this; exact this.2
      · cases i with
        | zero => exact ⟨h1, fun k hk => by omega⟩
        | succ i =>
          have h' : i < l.length := by simpa using h
          have := h4 i h' h'
          refine ⟨this.1, fun k hk => ?_⟩
          cases k with
          | zero => have := h3 i h'; simp only [List.mem_cons, not_or] at this; exact fun e => this.1 e.symm
          | succ k => exact this.2 k (by omega)
    · rintro ⟨h1, h2⟩
      refine ⟨(h2 0 (by simp) (by simp)).1, h1 0 (by simp), fun i h => ?_, fun i h hj => ?_⟩
      · simp only [List.mem_cons, not_or]
        exact ⟨fun e => (h2 (i + 1) (by simpa using h) (by simpa using h)).2 0 (by omega) e.symm, h1 (i + 1) (by simpa using h)⟩
      · have := h2 (i + 1) (by simpa using h) (by simpa using h)
        exact ⟨this.1, fun k hk => this.2 (k + 1) (by omega)⟩
theorem needsOk_true {l : List (ByteArray × Int)} (h : needsP l l.length) : needsOk [] l = true := (needsOk_iff l []).2 ⟨fun _ _ => by simp, h⟩
theorem needsOk_false {l : List (ByteArray × Int)} (h : ¬ needsP l l.length) : needsOk [] l = false := by
  cases e : needsOk [] l with
  | false => rfl
  | true => exact absurd ((needsOk_iff l []).1 e).2 h

def tagZ (d : Coe) (k : Nat) : Int := d.tags.getD k 0
def ownC (d : Coe) : Bool :=
  decide (d.tags.length = 6 ∧ d.names.length = d.fields.length ∧ (d.fn.length = 0 ∨ d.fn.length = 2)) &&
  (decide (¬ (tagZ d 4 ≠ 0 ∧ 0 < d.names.length ∨ tagZ d 5 ≠ 0 ∧ 0 < d.fn.length)) && (needsOk [] d.needs && risesB d.names))

theorem own2 {c : Ctx} (hp : c.pure) (d : Coe) {i : Nat} (hi : i < d.needs.length) (hl : d.needs.length ≤ lenMax) {Q : Exit → St → Prop} {S : St} {g}
    (h0 : Match [] S [(4, .c (.d (.int .i64 0))), (1, .c (.d (.rp d.enc 0))), (3, .c (.d (.int .i64 i)))] [])
    (hQ : ∀ T x, (∀ k (hk : k < i), d.needs[k].1 ≠ d.needs[i].1) → Abs.look T 1 = .c (.d (.rp d.enc 0)) → Abs.look T 3 = .c (.d (.int .i64 i)) → Q (.exit 2) ⟨T, hpOf [], x⟩)
    (hR : ∀ T x, ¬ (∀ k (hk : k < i), d.needs[k].1 ≠ d.needs[i].1) → Abs.look T 2 = .c (.d (.bool false)) → Q .ret ⟨T, hpOf [], x⟩) : lw_ Pg c lp_gradusref10_own_2 Q g S := by
  unfold lenMax at hl
  rw [Coe.enc_eq] at h0 hQ
  refine W.loop Pg_mixed hp (fun k : Nat => k ≤ i ∧ ∀ m (hm : m < i), m < k → d.needs[m].1 ≠ d.needs[i].1) (fun k => [(4, .c (.d (.int .i64 k))), (1, .c (.d (.rp _ 0))), (3, .c (.d (.int .i64 i)))]) (fun _ => []) (fun k => i - k) 0 [] (by simp) h0 fun k ⟨g1, g2⟩ => ?_
  unfold lp_gradusref10_own_2
  simp
  refine gd.mk (fun h => ?_) (fun h => ?_)
  · have hk : k < i := by simpa using h
    simp [List.getElem?_eq_getElem hi, List.getElem?_eq_getElem (show k < d.needs.length by omega)]
    refine ⟨by decide, gd.mk (fun h => ?_) (fun h => ?_)⟩
    · simp at h
      exact hR _ _ (fun H => H k hk h) (by simp)
    · simp at h
      refine Abs.Next.mk (k + 1) [] ⟨by omega, fun m hm hmk => ?_⟩ (by omega) (by simp; exact wrap_i64 (by omega) (by omega))
      by_cases e : m = k
      · subst e; exact h
      · exact g2 m hm (by omega)
  · have hk : k = i := by simp at h; omega
    exact hQ _ _ (fun m hm => g2 m hm (by omega)) (by simp) (by simp)

theorem own0 {c : Ctx} (hp : c.pure) (d : Coe) (hl : d.needs.length ≤ lenMax) {Q : Exit → St → Prop} {S : St} {g}
    (h0 : Match [] S [(3, .c (.d (.int .i64 0))), (1, .c (.d (.rp d.enc 0)))] [])
    (hQ : ∀ T x, needsOk [] d.needs = true → Abs.look T 1 = .c (.d (.rp d.enc 0)) → Q (.exit 0) ⟨T, hpOf [], x⟩)
    (hR : ∀ T x, needsOk [] d.needs = false → Abs.look T 2 = .c (.d (.bool false)) → Q .ret ⟨T, hpOf [], x⟩) : lw_ Pg c lp_gradusref10_own_0 Q g S := by
  have hl' := hl
  unfold lenMax at hl
  refine W.loop Pg_mixed hp (fun j : Nat => j ≤ d.needs.length ∧ needsP d.needs j) (fun j => [(3, .c (.d (.int .i64 j))), (1, .c (.d (.rp d.enc 0)))]) (fun _ => []) (fun j => d.needs.length - j) 0 [] ⟨by simp, fun i h hj => by omega⟩ h0 fun j ⟨g1, g2⟩ => ?_
  unfold lp_gradusref10_own_0
  have hd1 : d.enc[1]? = some (.sl false 2 (encN d.needs)) := by rw [Coe.enc_eq]; rfl
  simp [hd1]
  refine gd.mk (fun h => ?_) (fun h => ?_)
  · have hj : j < d.needs.length := by simpa using h
    simp [List.getElem?_eq_getElem hj]
    refine gd.mk (fun h => ?_) (fun h => ?_)
    · simp at h
      exact hR _ _ (needsOk_false fun H => (H j hj hj).1 h) (by simp)
    · simp at h
      refine own2 hp d hj hl' (by simp) (fun T x H e1 e3 => ?_) (fun T x H e2 => ?_)
      · simp
        simp [e3]
        refine Abs.Next.mk (j + 1) [] ⟨by omega, fun i hi hij => ?_⟩ (by omega) (by simp [e1]; exact wrap_i64 (by omega) (by omega))
        by_cases e : i = j
        · subst e; exact ⟨h, H⟩
        · exact g2 i hi (by omega)
      · exact hR _ _ (needsOk_false fun H' => H (H' j hj hj).2) e2
  · have hj : j = d.needs.length := by simp at h; omega
    subst hj
    exact hQ _ _ (needsOk_true g2) (by simp)

theorem own4 {c : Ctx} (hp : c.pure) (d : Coe) (hl : d.names.length ≤ lenMax) {Q : Exit → St → Prop} {S : St} {g}
    (h0 : Match [] S [(5, .c (.d (.int .i64 1))), (1, .c (.d (.rp d.enc 0)))] [])
    (hQ : ∀ T x, risesB d.names = true → Q (.exit 4) ⟨T, hpOf [], x⟩)
    (hR : ∀ T x, risesB d.names = false → Abs.look T 2 = .c (.d (.bool false)) → Q .ret ⟨T, hpOf [], x⟩) : lw_ Pg c lp_gradusref10_own_4 Q g S := by
  unfold lenMax at hl
  refine W.loop Pg_mixed hp (fun j : Nat => 1 ≤ j ∧ (j ≤ d.names.length ∨ j = 1) ∧ ∀ i (h : i + 1 < d.names.length), i + 1 < j → leS d.names[i + 1] d.names[i] = false) (fun j => [(5, .c (.d (.int .i64 j))), (1, .c (.d (.rp d.enc 0)))]) (fun _ => []) (fun j => d.names.length - j) 1 [] ⟨by simp, by simp, fun i h hj => by omega⟩ h0 fun j ⟨g0, g1, g2⟩ => ?_
  unfold lp_gradusref10_own_4
  have hd1 : d.enc[2]? = some (.sl false 1 (encS d.names)) := by rw [Coe.enc_eq]; rfl
  simp [hd1]
  refine gd.mk (fun h => ?_) (fun h => ?_)
  · have hj : j < d.names.length := by simpa using h
    obtain ⟨j, rfl⟩ : ∃ k, j = k + 1 := ⟨j - 1, by omega⟩
    have hw : IntKind.i64.wrap (j : Int) = j := wrap_i64 (by omega) (by omega)
    simp [List.getElem?_eq_getElem hj, hw, List.getElem?_eq_getElem (show j < d.names.length by omega)]
    refine ⟨by decide, gd.mk (fun h => ?_) (fun h => ?_)⟩
    · exact hR _ _ (risesB_at hj (by unfold leS; exact h)) (by simp)
    · refine Abs.Next.mk (j + 2) [] ⟨by omega, by omega, fun i hi hij => ?_⟩ (by omega) (by simp; rw [wrap_i64 (by omega) (by omega)]; omega)
      by_cases e : i = j
      · subst e; unfold leS; exact h
      · exact g2 i hi (by omega)
  · have hj : d.names.length ≤ j := by simp at h; omega
    exact hQ _ _ (risesB_all fun i hi => g2 i hi (by omega))

set_option maxRecDepth 20000 in
theorem own_ok (d : Coe) : PCall Pg F.gradusref10_own [.agg d.enc] (.one (.bool (ownC d))) := by
  refine w_gradusref10_own (by simp) fun o c hN hp => ?_
  have hl : d.needs.length ≤ lenMax ∧ d.names.length ≤ lenMax := by
    have := o.1; rw [Coe.enc_eq] at this; simp only [DV.ok, D.okL, D.ok, encI_length, encN_length, encS_length, List.length_map] at this; exact ⟨this.2.1.1, this.2.2.1.1⟩
  unfold mc_gradusref10_own
  have e0 : d.enc[0]? = some (.sl false 1 (encI d.tags)) := by rw [Coe.enc_eq]; rfl
  have e2 : d.enc[2]? = some (.sl false 1 (encS d.names)) := by rw [Coe.enc_eq]; rfl
  have e3 : d.enc[3]? = some (.sl false 5 (d.fields.map Coe.enc)) := by rw [Coe.enc_eq]; rfl
  have e4 : d.enc[4]? = some (.sl false 5 (d.fn.map Coe.enc)) := by rw [Coe.enc_eq]; rfl
  by_cases k1 : d.tags.length = 6
  rotate_left
  · simp [e0, show ¬ ((d.tags.length : Int) = 6) by omega, ownC, k1]
  by_cases k2 : d.names.length = d.fields.length
  rotate_left
  · simp [e0, e2, e3, k1, show ¬ ((d.names.length : Int) = (d.fields.length : Int)) by omega, ownC, k2]
  have k2i : ((d.names.length : Int) = (d.fields.length : Int)) = True := eq_true (by omega)
  have k1i : (d.tags.length : Int) = 6 := by omega
  have ht4 : d.tags[4]? = some (tagZ d 4) := by unfold tagZ; rw [List.getD, List.getElem?_eq_getElem (by omega)]; rfl
  have ht5 : d.tags[5]? = some (tagZ d 5) := by unfold tagZ; rw [List.getD, List.getElem?_eq_getElem (by omega)]; rfl
  have fin : (d.fn.length = 0 ∨ d.fn.length = 2) → ¬ (tagZ d 4 ≠ 0 ∧ 0 < d.names.length ∨ tagZ d 5 ≠ 0 ∧ 0 < d.fn.length) → ownC d = (needsOk [] d.needs && risesB d.names) := fun h h' => by
    unfold ownC; rw [decide_eq_true ⟨k1, k2, h⟩, decide_eq_true h']; simp
  have fon : ¬ (d.fn.length = 0 ∨ d.fn.length = 2) ∨ (tagZ d 4 ≠ 0 ∧ 0 < d.names.length ∨ tagZ d 5 ≠ 0 ∧ 0 < d.fn.length) → ownC d = false := fun h => by
    unfold ownC
    rcases h with h | h
    · rw [decide_eq_false (fun x => h x.2.2)]; rfl
    · rw [decide_eq_false (p := ¬ _) (fun x => x h)]; simp
  have kn : d.names.length = 0 ∨ 0 < d.names.length := by omega
  have kf : d.fn.length = 0 ∨ d.fn.length = 2 ∨ ¬ (d.fn.length = 0 ∨ d.fn.length = 2) := by omega
  rcases kf with k3 | k3 | k3
  rotate_right
  · have a1 : ¬ (d.fn.length : Int) = 0 := by omega
    have a2 : ¬ (d.fn.length : Int) = 2 := by omega
    have a3 : d.fn ≠ [] := fun e => a1 (by rw [e]; rfl)
    simp [e0, e2, e3, e4, k1i, k2i, a2, a3, fon (.inl k3)]
  all_goals
    have k3' : (d.fn.length : Int) = (d.fn.length : Int) := rfl
    rw [k3] at k3'
    by_cases k4 : tagZ d 4 = 0
    rotate_left
    · rcases kn with kn | kn
      rotate_left
      · simp [e0, e2, e3, e4, k1i, k2i, k3, ht4, ht5, k4, kn, show (0 : Int) < d.names.length by omega, fon (.inr (.inl ⟨k4, kn⟩))]
      · by_cases k5 : tagZ d 5 = 0
        all_goals
          first
            | (have hf := fin (by omega) (by omega)
               simp [e0, e2, e3, e4, k1i, k2i, k3, ht4, ht5, k4, kn, k5, show ((0 : Int) = d.fields.length) = True from eq_true (by omega)]
               refine own0 hp d hl.1 (by simp) (fun T x H e1 => ?_) (fun T x H e2 => ?_)
               · simp
                 refine own4 hp d hl.2 (by simp [e1]) (fun T x H' => ?_) (fun T x H' e2 => ?_)
                 · simp [hf, H, H']
                 · simp [e2, hf, H, H']
               · simp [e2, hf, H])
            | (have hf := fon (.inr (.inr ⟨k5, by omega⟩))
               simp [e0, e2, e3, e4, k1i, k2i, k3, ht4, ht5, k4, kn, k5, show ((0 : Int) = d.fields.length) = True from eq_true (by omega), hf])
    · by_cases k5 : tagZ d 5 = 0
      all_goals
        first
          | (have hf := fin (by omega) (by omega)
             simp [e0, e2, e3, e4, k1i, k2i, k3, ht4, ht5, k4, k5]
             refine own0 hp d hl.1 (by simp) (fun T x H e1 => ?_) (fun T x H e2 => ?_)
             · simp
               refine own4 hp d hl.2 (by simp [e1]) (fun T x H' => ?_) (fun T x H' e2 => ?_)
               · simp [hf, H, H']
               · simp [e2, hf, H, H']
             · simp [e2, hf, H])
          | (have hf := fon (.inr (.inr ⟨k5, by omega⟩))
             simp [e0, e2, e3, e4, k1i, k2i, k3, ht4, ht5, k4, k5, hf])
end Go.Gr

/- Coercions: which are normal. -/
set_option linter.unusedVariables false
set_option linter.unusedSimpArgs false
namespace Go.Gr
open Go.Abs Go.Proofs

mutual
def mayC : Coe → Bool
  | .mk t n s f g => ownC (.mk t n s f g) && (mayFs f && mayGs g)
def mayFs : List Coe → Bool
  | [] => true
  | c :: l => (mayC c && !sameC c idC) && mayFs l
def mayGs : List Coe → Bool
  | a :: b :: _ => mayC a && (mayC b && !(sameC a idC && sameC b idC))
  | _ => true
end
theorem mayFs_all : ∀ l : List Coe, mayFs l = l.all fun c => mayC c && !sameC c idC
  | [] => by simp [mayFs]
  | c :: l => by simp [mayFs, mayFs_all l]
theorem mayC_eq (d : Coe) : mayC d = (ownC d && ((d.fields.all fun c => mayC c && !sameC c idC) && mayGs d.fn)) := by
  cases d; simp only [mayC, mayFs_all, Coe.fields, Coe.fn]

theorem rMay_one (d : Coe) (ih : ∀ x, x ∈ d.fields ∨ x ∈ d.fn → PCall Pg F.gradusref10_May [.agg x.enc] (.one (.bool (mayC x)))) : PCall Pg F.gradusref10_May [.agg d.enc] (.one (.bool (mayC d))) := by
  have e := mayC_eq d
  refine w_gradusref10_May (by simp) fun o c hN hp => ?_
  have hl : d.fields.length ≤ lenMax := by
    have := o.1; rw [Coe.enc_eq] at this; simp only [DV.ok, D.okL, D.ok, encI_length, encN_length, encS_length, List.length_map] at this; exact this.2.2.2.1.1
  unfold lenMax at hl
  have e3 : d.enc[3]? = some (.sl false 5 (d.fields.map Coe.enc)) := by rw [Coe.enc_eq]; rfl
  have e4 : d.enc[4]? = some (.sl false 5 (d.fn.map Coe.enc)) := by rw [Coe.enc_eq]; rfl
  have e5 : ∀ x : Coe, x.enc.length = 5 := fun x => by rw [Coe.enc_eq]; rfl
  unfold mc_gradusref10_May
  simp [e5]
  refine callK.mk (own_ok d) ?_
  simp
  refine gd.mk (fun h => ?_) (fun h => ?_)
  · simp at h
    rw [e, h]; rfl
  · simp at h
    rw [h, Bool.true_and] at e
    refine W.loopL Pg_mixed hp lv_gradusref10_May_0 [4] (fun j : Nat => j ≤ d.fields.length ∧ ((d.fields.drop j).all fun c => mayC c && !sameC c idC) = d.fields.all fun c => mayC c && !sameC c idC) (fun j => [.c (.d (.int .i64 j))]) (fun _ => []) (fun j => d.fields.length - j) 0 [] (by simp) (by simp [lv_gradusref10_May_0]) fun j ⟨g1, g2⟩ => ?_
    unfold lp_gradusref10_May_0 lv_gradusref10_May_0
    simp [e3, e5]
    refine gd.mk (fun h => ?_) (fun h => ?_)
    · have hj : j < d.fields.length := by simpa using h
      rw [List.drop_eq_getElem_cons hj, List.all_cons] at g2
      simp [List.getElem?_eq_getElem hj, e5]
      refine callK.mk (ih _ (.inl (List.getElem_mem hj))) ?_
      simp [e3, List.getElem?_eq_getElem hj, e5]
      refine callK.mk (IsId_ok _) ?_
      simp
      refine gd.mk (fun h1 => ?_) (fun h1 => ?_)
      · simp at h1
        rw [h1] at g2
        refine gd.mk (fun h2 => ?_) (fun h2 => ?_)
        · rw [h2] at g2
          rw [e, ← g2]; rfl
        · simp at h2
          rw [h2] at g2
          exact Abs.Next.mk (j + 1) [] ⟨by omega, by simpa using g2⟩ (by omega) (by simp; exact wrap_i64 (by omega) (by omega))
      · simp at h1
        rw [h1] at g2
        rw [e, ← g2]; rfl
    · have hj : j = d.fields.length := by simp at h; omega
      have : (d.fields.all fun c => mayC c && !sameC c idC) = true := by rw [← g2, hj, List.drop_length]; rfl
      rw [this, Bool.true_and] at e
      refine gd.mk (fun h => ?_) (fun h => ?_)
      · have h0 : d.fn = [] := by simpa using h
        simp [e, h0, mayGs]
      · have h0 : d.fn ≠ [] := by simpa using h
        have h2 : d.fn.length = 2 := by
          have hown := ‹ownC d = true›
          simp only [ownC, Bool.and_eq_true, decide_eq_true_eq] at hown
          have := hown.1.2.2
          have : d.fn.length ≠ 0 := fun e => h0 (List.length_eq_zero_iff.1 e)
          omega
        obtain ⟨x, y, hxy⟩ : ∃ x y, d.fn = [x, y] := by
          match d.fn, h2 with
          | [x, y], _ => exact ⟨x, y, rfl⟩
        rw [hxy] at e4
        have hx := ih x (.inr (by rw [hxy]; simp))
        have hy := ih y (.inr (by rw [hxy]; simp))
        rw [hxy, mayGs] at e
        rw [hxy]
        simp [hxy]
        refine callK.mk hx ?_
        simp [hxy]
        refine callK.mk hy ?_
        simp [hxy]
        refine callK.mk (IsId_ok _) ?_
        simp [hxy]
        refine callK.mk (IsId_ok _) ?_
        simp
        cases m1 : mayC x <;> cases m2 : mayC y <;> cases m3 : sameC x idC <;> cases m4 : sameC y idC <;> simp [e, m1, m2, m3, m4]

mutual
theorem rMay_ok : ∀ (a : Coe), PCall Pg F.gradusref10_May [.agg a.enc] (.one (.bool (mayC a)))
  | .mk t n s f g => rMay_one _ fun x hx => hx.elim (fun h => rMay_oks f x h) (fun h => rMay_oks g x h)
theorem rMay_oks : ∀ (l : List Coe) (x : Coe), x ∈ l → PCall Pg F.gradusref10_May [.agg x.enc] (.one (.bool (mayC x)))
  | c :: l, x, h => by
    cases List.mem_cons.1 h with
    | inl e => rw [e]; exact rMay_ok c
    | inr e => exact rMay_oks l x e
end

theorem cmp_le : ∀ (x y : List UInt8), decide (0 ≤ Lib.compareBytes x y) = (Op.bytesLess y x || decide (y = x))
  | [], [] => by simp [Lib.compareBytes]
  | [], b :: y => by simp [Lib.compareBytes, Op.bytesLess]
  | a :: x, [] => by simp [Lib.compareBytes, Op.bytesLess]
  | a :: x, b :: y => by
    have ih := cmp_le x y
    simp only [Lib.compareBytes, Op.bytesLess]
    by_cases h1 : a < b
    · have h2 : ¬ b < a := fun h => absurd (UInt8.lt_trans h1 h) (UInt8.lt_irrefl _)
      have h3 : ¬ b = a := fun h => by rw [h] at h1; exact UInt8.lt_irrefl _ h1
      simp [h1, h2, h3]
    · by_cases h2 : b < a
      · simp [h1, h2]
      · have h3 : b = a := UInt8.le_antisymm (UInt8.not_lt.1 h1) (UInt8.not_lt.1 h2)
        subst h3
        simp only [h1, if_false, ih]
        simp
theorem leS_cmp (a b : ByteArray) : leS a b = decide (0 ≤ Lib.compareBytes b.data.toList a.data.toList) := by
  rw [cmp_le]
  unfold leS
  congr 1
  rw [Bool.eq_iff_iff]
  simp only [decide_eq_true_eq]
  constructor
  · intro h; rw [h]
  · intro h; exact Go.WideShapes.bytes_inj h

theorem Compare_ok (a b : ByteArray) : PCall Pg F.strings_Compare [.one (.str a), .one (.str b)] (.one (.int .i64 (Lib.compareBytes a.data.toList b.data.toList))) := by
  have h : PCall Pg F.internal_bytealg_CompareString [.one (.str a), .one (.str b)] (.one (.int .i64 (Lib.compareBytes a.data.toList b.data.toList))) := by
    refine w_internal_bytealg_CompareString (by simp) fun o c hN hp => ?_
    unfold mc_internal_bytealg_CompareString
    simp
  refine w_strings_Compare (by simp) fun o c hN hp => ?_
  unfold mc_strings_Compare
  simp
  refine callK.mk h ?_
  simp
end Go.Gr

/- Coercions: the program's May. -/
set_option linter.unusedVariables false
set_option linter.unusedSimpArgs false
namespace Go.Gr
open Go.Abs Go.Proofs

def hadM (l : List (ByteArray × Int)) : List (D × AV) := l.map fun x => (.str x.1, .c (.d (.bool true)))
theorem mfind_no (s : ByteArray) : ∀ (l : List (ByteArray × Int)) (i : Nat), (∀ x, x ∈ l → s ≠ x.1) → mfind 1 (.str s) (hadM l) i = some none
  | [], i, _ => rfl
  | x :: l, i, h => by
    have h0 := h x (by simp)
    have ih := mfind_no s l (i + 1) fun y hy => h y (by simp [hy])
    simp only [hadM] at ih
    simp [hadM, h0, ih]
theorem mfind_is (s : ByteArray) : ∀ (l : List (ByteArray × Int)) (i : Nat), (∃ x, x ∈ l ∧ s = x.1) → ∃ k, mfind 1 (.str s) (hadM l) i = some (some (k, .c (.d (.bool true))))
  | [], i, h => by obtain ⟨x, hx, _⟩ := h; cases hx
  | x :: l, i, h => by
    by_cases h0 : s = x.1
    · exact ⟨i, by simp [hadM, h0]⟩
    · obtain ⟨y, hy, e⟩ := h
      have : ∃ y, y ∈ l ∧ s = y.1 := by
        cases List.mem_cons.1 hy with
        | inl h => subst h; exact absurd e h0
        | inr h => exact ⟨y, h, e⟩
      obtain ⟨k, hk⟩ := mfind_is s l (i + 1) this
      simp only [hadM] at hk
      exact ⟨k, by simp [hadM, h0, hk]⟩

theorem hadM_ren (f : Nat → Nat) (l : List (ByteArray × Int)) : (hadM l).map (fun e => (e.1, AV.ren f e.2)) = hadM l := by simp [hadM]
theorem hadM_append (l : List (ByteArray × Int)) (x : ByteArray × Int) : hadM (l ++ [x]) = hadM l ++ [(.str x.1, .c (.d (.bool true)))] := by simp [hadM]
theorem hadM_lt {n : Nat} {l : List (ByteArray × Int)} {a : D} {b : AV} (h : (a, b) ∈ hadM l) : AV.lt n b = true := by
  simp only [hadM, List.mem_map] at h
  obtain ⟨x, _, e⟩ := h
  cases e
  simp

theorem cMay0 {c : Ctx} (hp : c.pure) (d : Coe) (hl : d.needs.length ≤ lenMax) {Q : Exit → St → Prop} {S : St} {g} (l0 : List Nat)
    (h0 : Match l0 S [(62, .c (.d (.int .i64 0))), (1, .c (.d (.rp d.enc 0))), (60, .c (.d (.sl false 2 (encN d.needs)))), (61, .c (.d (.int .i64 d.needs.length))), (3, .c (.map 0))] [.map []])
    (hQ : ∀ T b x, needsOk [] d.needs = true → Abs.look T 1 = .c (.d (.rp d.enc 0)) → Q (.exit 0) ⟨T, hpOf [b], x⟩)
    (hR : ∀ T m x, needsOk [] d.needs = false → Abs.look T 2 = .c (.d (.bool false)) → Q .ret ⟨T, m, x⟩) : lw_ Pg c lp_coerce_May_0 Q g S := by
  unfold lenMax at hl
  refine W.loop Pg_mixed hp (fun j : Nat => j ≤ d.needs.length ∧ needsP d.needs j) (fun j => [(62, .c (.d (.int .i64 j))), (1, .c (.d (.rp d.enc 0))), (60, .c (.d (.sl false 2 (encN d.needs)))), (61, .c (.d (.int .i64 d.needs.length))), (3, .c (.map 0))]) (fun j => [.map (hadM (d.needs.take j))]) (fun j => d.needs.length - j) 0 l0 ⟨by simp, fun i h hj => by omega⟩ h0 fun j ⟨g1, g2⟩ => ?_
  unfold lp_coerce_May_0
  simp
  refine gd.mk (fun h => ?_) (fun h => ?_)
  · have hj : j < d.needs.length := by simpa using h
    simp [List.getElem?_eq_getElem hj]
    refine gd.mk (fun h => ?_) (fun h => ?_)
    · simp at h
      by_cases hm : ∃ x, x ∈ d.needs.take j ∧ d.needs[j].1 = x.1
      · obtain ⟨k, hk⟩ := mfind_is _ _ 0 hm
        simp [hk]
        refine hR _ _ _ (needsOk_false fun H => ?_) (by simp)
        obtain ⟨x, hx, e⟩ := hm
        obtain ⟨i, hi, rfl⟩ := List.getElem_of_mem hx
        simp at hi
        rw [List.getElem_take] at e
        exact (H j hj hj).2 i (by omega) e.symm
      · have hk := mfind_no d.needs[j].1 (d.needs.take j) 0 fun x hx e => hm ⟨x, hx, e⟩
        simp [hk]
        refine Abs.Next.mk (j + 1) [0] ⟨by omega, fun i hi hij => ?_⟩ (by omega) ?_
        · by_cases e : i = j
          · subst e
            refine ⟨h, fun k hk e => hm ⟨d.needs[k], ?_, e.symm⟩⟩
            exact List.mem_iff_getElem.2 ⟨k, by simp; omega, by rw [List.getElem_take]⟩
          · exact g2 i hi (by omega)
        · simp
          exact ⟨wrap_i64 (by omega) (by omega), by rw [hadM_ren, List.take_succ_eq_append_getElem hj, hadM_append], fun a b hab => hadM_lt hab⟩
    · simp at h
      exact hR _ _ _ (needsOk_false fun H => (H j hj hj).1 h) (by simp)
  · have hj : j = d.needs.length := by simp at h; omega
    subst hj
    exact hQ _ _ _ (needsOk_true g2) (by simp)

theorem cMay2 {c : Ctx} (hp : c.pure) (d : Coe) (hn : d.names.length = d.fields.length) (hl : d.fields.length ≤ lenMax) {Q : Exit → St → Prop} {S : St} {g}
    (ih : ∀ x, x ∈ d.fields ∨ x ∈ d.fn → PCall Pg F.coerce_May [.agg x.enc] (.one (.bool (mayC x))))
    (h0 : Match [] S [(82, .c (.d (.int .i64 0))), (1, .c (.d (.rp d.enc 0))), (80, .c (.d (.sl false 5 (d.fields.map Coe.enc)))), (81, .c (.d (.int .i64 d.fields.length)))] [])
    (hQ : ∀ T m x, (risesB d.names && d.fields.all fun c => mayC c && !sameC c idC) = true → Abs.look T 1 = .c (.d (.rp d.enc 0)) → Q (.exit 2) ⟨T, m, x⟩)
    (hR : ∀ T m x, (risesB d.names && d.fields.all fun c => mayC c && !sameC c idC) = false → Abs.look T 2 = .c (.d (.bool false)) → Q .ret ⟨T, m, x⟩) : lw_ Pg c lp_coerce_May_2 Q g S := by
  unfold lenMax at hl
  refine W.loop Pg_mixed hp (fun j : Nat => j ≤ d.fields.length ∧ (∀ i (h : i + 1 < d.names.length), i + 1 < j → leS d.names[i + 1] d.names[i] = false) ∧ ((d.fields.drop j).all fun c => mayC c && !sameC c idC) = d.fields.all fun c => mayC c && !sameC c idC) (fun j => [(82, .c (.d (.int .i64 j))), (1, .c (.d (.rp d.enc 0))), (80, .c (.d (.sl false 5 (d.fields.map Coe.enc)))), (81, .c (.d (.int .i64 d.fields.length)))]) (fun j => []) (fun j => d.fields.length - j) 0 [] ⟨by simp, fun i h hj => by omega, by simp⟩ h0 fun j ⟨g1, g2, g3⟩ => ?_
  unfold lp_coerce_May_2
  simp
  refine gd.mk (fun h => ?_) (fun h => ?_)
  · have hj : j < d.fields.length := by simpa using h
    have hj' : j < d.names.length := by omega
    rw [List.drop_eq_getElem_cons hj, List.all_cons] at g3
    simp [List.getElem?_eq_getElem hj]
    cases j with
    | zero =>
      simp
      refine callK.mk (ih _ (.inl (List.getElem_mem hj))) ?_
      simp
      refine gd.mk (fun h1 => ?_) (fun h1 => ?_)
      · simp at h1
        refine callK.mk (idle_ok _) ?_
        simp
        refine ⟨by decide, gd.mk (fun h2 => ?_) (fun h2 => ?_)⟩
        · refine hR _ _ _ ?_ (by simp)
          rw [← g3, h1, h2]; simp
        · simp at h2
          rw [h1, h2] at g3
          exact Abs.Next.mk (0 + 1) [] ⟨by omega, fun i hi hij => by omega, by simpa using g3⟩ (by omega) (by simp; exact wrap_i64 (by omega) (by omega))
      · simp at h1
        refine ⟨by decide, hR _ _ _ ?_ (by simp)⟩
        rw [← g3, h1]; simp
    | succ k =>
      have hk : k < d.names.length := by omega
      have hw : IntKind.i64.wrap (k : Int) = k := wrap_i64 (by omega) (by omega)
      simp [hw, List.getElem?_eq_getElem hk, List.getElem?_eq_getElem hj', show (0 : Int) < (k : Int) + 1 by omega]
      refine callK.mk (Compare_ok _ _) ?_
      have hcmp := leS_cmp d.names[k + 1] d.names[k]
      simp
      rw [← hcmp]
      refine gd.mk (fun hle => ?_) (fun hle => ?_)
      · refine callK.mk (ih _ (.inl (List.getElem_mem hj))) ?_
        simp
        refine gd.mk (fun h1 => ?_) (fun h1 => ?_)
        · simp at h1
          refine callK.mk (idle_ok _) ?_
          simp
          refine ⟨by decide, gd.mk (fun h2 => ?_) (fun h2 => ?_)⟩
          · refine hR _ _ _ ?_ (by simp)
            rw [← g3, h1, h2]; simp
          · simp at h2
            rw [h1, h2] at g3
            exact Abs.Next.mk ((k + 1) + 1) [] ⟨by omega, fun i hi hij => by
              by_cases e : i = k
              · subst e; exact hle
              · exact g2 i hi (by omega), by simpa using g3⟩ (by omega) (by simp; exact wrap_i64 (by omega) (by omega))
        · simp at h1
          refine ⟨by decide, hR _ _ _ ?_ (by simp)⟩
          rw [← g3, h1]; simp
      · refine ⟨by decide, hR _ _ _ ?_ (by simp)⟩
        rw [risesB_at (by omega) hle]; rfl
  · have hj : j = d.fields.length := by simp at h; omega
    subst hj
    refine hQ _ _ _ ?_ (by simp)
    rw [risesB_all fun i h => g2 i h (by omega), ← g3, List.drop_length]; rfl

set_option maxRecDepth 20000 in
theorem cMay_one (d : Coe) (ih : ∀ x, x ∈ d.fields ∨ x ∈ d.fn → PCall Pg F.coerce_May [.agg x.enc] (.one (.bool (mayC x)))) : PCall Pg F.coerce_May [.agg d.enc] (.one (.bool (mayC d))) := by
  have e := mayC_eq d
  refine w_coerce_May (by simp) fun o c hN hp => ?_
  have hl : d.needs.length ≤ lenMax ∧ d.fields.length ≤ lenMax ∧ d.fn.length ≤ lenMax := by
    have := o.1; rw [Coe.enc_eq] at this; simp only [DV.ok, D.okL, D.ok, encI_length, encN_length, encS_length, List.length_map] at this; exact ⟨this.2.1.1, this.2.2.2.1.1, this.2.2.2.2.1.1⟩
  have hl3 := hl.2.2
  unfold lenMax at hl3
  unfold mc_coerce_May
  by_cases k1 : d.tags.length = 6
  rotate_left
  · simp [show ¬ ((d.tags.length : Int) = 6) by omega, e, ownC, k1]
  by_cases k2 : d.names.length = d.fields.length
  rotate_left
  · simp [k1, show ¬ ((d.names.length : Int) = (d.fields.length : Int)) by omega, e, ownC, k2]
  have k2i : ((d.names.length : Int) = (d.fields.length : Int)) = True := eq_true (by omega)
  have k1i : (d.tags.length : Int) = 6 := by omega
  have ht4 : d.tags[4]? = some (tagZ d 4) := by unfold tagZ; rw [List.getD, List.getElem?_eq_getElem (by omega)]; rfl
  have ht5 : d.tags[5]? = some (tagZ d 5) := by unfold tagZ; rw [List.getD, List.getElem?_eq_getElem (by omega)]; rfl
  have fin : (d.fn.length = 0 ∨ d.fn.length = 2) → ¬ (tagZ d 4 ≠ 0 ∧ 0 < d.names.length ∨ tagZ d 5 ≠ 0 ∧ 0 < d.fn.length) → mayC d = (needsOk [] d.needs && ((risesB d.names && d.fields.all fun c => mayC c && !sameC c idC) && mayGs d.fn)) := fun h h' => by
    rw [e]; unfold ownC; rw [decide_eq_true ⟨k1, k2, h⟩, decide_eq_true h']; simp [Bool.and_assoc]
  have fon : ¬ (d.fn.length = 0 ∨ d.fn.length = 2) ∨ (tagZ d 4 ≠ 0 ∧ 0 < d.names.length ∨ tagZ d 5 ≠ 0 ∧ 0 < d.fn.length) → mayC d = false := fun h => by
    rw [e]; unfold ownC
    rcases h with h | h
    · rw [decide_eq_false (fun x => h x.2.2)]; rfl
    · rw [decide_eq_false (p := ¬ _) (fun x => x h)]; simp
  have kn : d.names.length = 0 ∨ 0 < d.names.length := by omega
  have kf : (d.fn = [] ∨ ∃ x y, d.fn = [x, y]) ∨ ¬ (d.fn.length = 0 ∨ d.fn.length = 2) := by
    match d.fn with
    | [] => simp
    | [_] => simp
    | [x, y] => simp
    | _ :: _ :: _ :: _ => simp
  rcases kf with k3 | k3
  rotate_right
  · have hf := fon (.inl k3)
    have a2 : ((d.fn.length : Int).tmod 2 = 0) → (2 < (d.fn.length : Int)) := by
      intro h
      have h2 : ((d.fn.length : Int).tmod 2) = (d.fn.length : Int) % 2 := Int.tmod_eq_emod_of_nonneg (by omega)
      omega
    simp [k1i, k2i]
    refine gd.mk (fun h => ?_) (fun h => ?_)
    · have h3 := a2 (by simpa using h)
      simp [h3, hf]
    · simp [hf]
  rcases k3 with k3 | ⟨x0, y0, k3⟩
  · have k3l : d.fn.length = 0 := by rw [k3]; rfl
    by_cases k4 : tagZ d 4 = 0
    rotate_left
    · rcases kn with kn | kn
      rotate_left
      · have hf := fon (.inr (.inl ⟨k4, kn⟩))
        simp [k1i, k2i, k3, ht4, ht5, k4, kn, show (0 : Int) < d.names.length by omega, hf]
      · have kn' : ((0 : Int) = d.fields.length) = True := eq_true (by omega)
        by_cases k5 : tagZ d 5 = 0
        all_goals
          first
              | (have hf := fin (by omega) (by omega)
                 simp [k1i, k2i, k3, ht4, ht5, k4, kn, kn', k5]
                 refine cMay0 hp d hl.1 [0] (by simp) (fun T b x H e1 => ?_) (fun T m x H e2 => ?_)
                 · simp [e1]
                   refine cMay2 hp d k2 hl.2.1 ih (by simp [e1]) (fun T m x H' e1 => ?_) (fun T m x H' e2 => ?_)
                   · simp [e1, k3]
                     simp [hf, H, H', k3, mayGs]
                   · simp [e2, hf, H, H']
                 · simp [e2, hf, H])
              | (have hf := fon (.inr (.inr ⟨k5, by omega⟩))
                 simp [k1i, k2i, k3, ht4, ht5, k4, kn, kn', k5, hf])
    · by_cases k5 : tagZ d 5 = 0
      all_goals
        first
            | (have hf := fin (by omega) (by omega)
               simp [k1i, k2i, k3, ht4, ht5, k4, k5]
               refine cMay0 hp d hl.1 [0] (by simp) (fun T b x H e1 => ?_) (fun T m x H e2 => ?_)
               · simp [e1]
                 refine cMay2 hp d k2 hl.2.1 ih (by simp [e1]) (fun T m x H' e1 => ?_) (fun T m x H' e2 => ?_)
                 · simp [e1, k3]
                   simp [hf, H, H', k3, mayGs]
                 · simp [e2, hf, H, H']
               · simp [e2, hf, H])
            | (have hf := fon (.inr (.inr ⟨k5, by omega⟩))
               simp [k1i, k2i, k3, ht4, ht5, k4, k5, hf])
  · have k3l : d.fn.length = 2 := by rw [k3]; rfl
    by_cases k4 : tagZ d 4 = 0
    rotate_left
    · rcases kn with kn | kn
      rotate_left
      · have hf := fon (.inr (.inl ⟨k4, kn⟩))
        simp [k1i, k2i, k3, ht4, ht5, k4, kn, show (0 : Int) < d.names.length by omega, hf]
      · have kn' : ((0 : Int) = d.fields.length) = True := eq_true (by omega)
        by_cases k5 : tagZ d 5 = 0
        all_goals
          first
              | (have hf := fin (by omega) (by omega)
                 simp [k1i, k2i, k3, ht4, ht5, k4, kn, kn', k5]
                 refine cMay0 hp d hl.1 [0] (by simp) (fun T b x H e1 => ?_) (fun T m x H e2 => ?_)
                 · simp [e1]
                   refine cMay2 hp d k2 hl.2.1 ih (by simp [e1]) (fun T m x H' e1 => ?_) (fun T m x H' e2 => ?_)
                   · simp [e1, k3]
                     rw [H, H', k3, mayGs] at hf
                     refine callK.mk (ih x0 (.inr (by simp [k3]))) ?_
                     simp [e1, k3]
                     refine gd.mk (fun m1 => ?_) (fun m1 => ?_)
                     · refine callK.mk (ih y0 (.inr (by simp [k3]))) ?_
                       simp [e1, k3]
                       refine gd.mk (fun m2 => ?_) (fun m2 => ?_)
                       · refine callK.mk (idle_ok x0) ?_
                         simp [e1, k3]
                         refine gd.mk (fun m3 => ?_) (fun m3 => ?_)
                         · refine callK.mk (idle_ok y0) ?_
                           simp
                           rw [hf, m1, m2, m3]; simp
                         · simp at m3
                           rw [hf, m1, m2, m3]; simp
                       · simp at m2
                         rw [hf, m1, m2]; simp
                     · simp at m1
                       rw [hf, m1]; simp
                   · simp [e2, hf, H, H']
                 · simp [e2, hf, H])
              | (have hf := fon (.inr (.inr ⟨k5, by omega⟩))
                 simp [k1i, k2i, k3, ht4, ht5, k4, kn, kn', k5, hf])
    · by_cases k5 : tagZ d 5 = 0
      all_goals
        first
            | (have hf := fin (by omega) (by omega)
               simp [k1i, k2i, k3, ht4, ht5, k4, k5]
               refine cMay0 hp d hl.1 [0] (by simp) (fun T b x H e1 => ?_) (fun T m x H e2 => ?_)
               · simp [e1]
                 refine cMay2 hp d k2 hl.2.1 ih (by simp [e1]) (fun T m x H' e1 => ?_) (fun T m x H' e2 => ?_)
                 · simp [e1, k3]
                   rw [H, H', k3, mayGs] at hf
                   refine callK.mk (ih x0 (.inr (by simp [k3]))) ?_
                   simp [e1, k3]
                   refine gd.mk (fun m1 => ?_) (fun m1 => ?_)
                   · refine callK.mk (ih y0 (.inr (by simp [k3]))) ?_
                     simp [e1, k3]
                     refine gd.mk (fun m2 => ?_) (fun m2 => ?_)
                     · refine callK.mk (idle_ok x0) ?_
                       simp [e1, k3]
                       refine gd.mk (fun m3 => ?_) (fun m3 => ?_)
                       · refine callK.mk (idle_ok y0) ?_
                         simp
                         rw [hf, m1, m2, m3]; simp
                       · simp at m3
                         rw [hf, m1, m2, m3]; simp
                     · simp at m2
                       rw [hf, m1, m2]; simp
                   · simp at m1
                     rw [hf, m1]; simp
                 · simp [e2, hf, H, H']
               · simp [e2, hf, H])
            | (have hf := fon (.inr (.inr ⟨k5, by omega⟩))
               simp [k1i, k2i, k3, ht4, ht5, k4, k5, hf])

mutual
theorem cMay_ok : ∀ (a : Coe), PCall Pg F.coerce_May [.agg a.enc] (.one (.bool (mayC a)))
  | .mk t n s f g => cMay_one _ fun x hx => hx.elim (fun h => cMay_oks f x h) (fun h => cMay_oks g x h)
theorem cMay_oks : ∀ (l : List Coe) (x : Coe), x ∈ l → PCall Pg F.coerce_May [.agg x.enc] (.one (.bool (mayC x)))
  | c :: l, x, h => by
    cases List.mem_cons.1 h with
    | inl e => rw [e]; exact cMay_ok c
    | inr e => exact cMay_oks l x e
end
end Go.Gr

/- Types as data; the small functions on them. -/
set_option linter.unusedVariables false
set_option linter.unusedSimpArgs false
namespace Go.Gr
open Go.Abs Go.Proofs

inductive Typ where
  | mk (kind : Int) (name : ByteArray) (names : List ByteArray) (kids : List Typ)
mutual
def Typ.enc : Typ → List D
  | .mk k n s l => [.int .i64 k, .str n, .sl false 1 (encS s), .sl false 4 (Typ.encs l)]
def Typ.encs : List Typ → List (List D)
  | [] => []
  | t :: l => Typ.enc t :: Typ.encs l
end
theorem Typ.encs_map (l : List Typ) : Typ.encs l = l.map Typ.enc := by
  induction l with
  | nil => simp [Typ.encs]
  | cons c l ih => simp [Typ.encs, ih]
def Typ.kind : Typ → Int | .mk k _ _ _ => k
def Typ.name : Typ → ByteArray | .mk _ n _ _ => n
def Typ.names : Typ → List ByteArray | .mk _ _ s _ => s
def Typ.kids : Typ → List Typ | .mk _ _ _ l => l
theorem Typ.enc_eq (t : Typ) : t.enc = [.int .i64 t.kind, .str t.name, .sl false 1 (encS t.names), .sl false 4 (t.kids.map Typ.enc)] := by
  cases t; simp [Typ.enc, Typ.encs_map, Typ.kind, Typ.name, Typ.names, Typ.kids]
@[simp] theorem Typ.enc_length (t : Typ) : t.enc.length = 4 := by rw [t.enc_eq]; rfl
@[simp] theorem Typ.enc_0 (t : Typ) : t.enc[0]? = some (.int .i64 t.kind) := by rw [t.enc_eq]; rfl
@[simp] theorem Typ.enc_1 (t : Typ) : t.enc[1]? = some (.str t.name) := by rw [t.enc_eq]; rfl
@[simp] theorem Typ.enc_2 (t : Typ) : t.enc[2]? = some (.sl false 1 (encS t.names)) := by rw [t.enc_eq]; rfl
@[simp] theorem Typ.enc_3 (t : Typ) : t.enc[3]? = some (.sl false 4 (t.kids.map Typ.enc)) := by rw [t.enc_eq]; rfl
@[simp] theorem Typ.cut_enc (t : Typ) : cut t.enc 0 4 = t.enc := by rw [t.enc_eq]; rfl
@[simp] theorem Typ.cut_map (t : Typ) : cut (t.enc.map AC.d) 0 4 = t.enc.map .d := by rw [t.enc_eq]; rfl

@[simp] theorem Typ.enc_g0 (t : Typ) (h : 0 < t.enc.length) : t.enc[0] = .int .i64 t.kind := by have := t.enc_0; rw [List.getElem?_eq_getElem h] at this; exact Option.some.inj this
@[simp] theorem Typ.enc_g2 (t : Typ) (h : 2 < t.enc.length) : t.enc[2] = .sl false 1 (encS t.names) := by have := t.enc_2; rw [List.getElem?_eq_getElem h] at this; exact Option.some.inj this
@[simp] theorem Typ.enc_g3 (t : Typ) (h : 3 < t.enc.length) : t.enc[3] = .sl false 4 (t.kids.map Typ.enc) := by have := t.enc_3; rw [List.getElem?_eq_getElem h] at this; exact Option.some.inj this

theorem dynamic_ok (t : Typ) : PCall Pg F.coerce_dynamic [.agg t.enc] (.one (.bool (decide (t.kind = 0)))) := by
  refine w_coerce_dynamic (by simp) fun o c hN hp => ?_
  unfold mc_coerce_dynamic
  simp

def tagOf (t : Typ) : Int := if t.kind < 1 ∨ 6 < t.kind then -1 else t.kind - 1
theorem Tag_ok (t : Typ) : PCall Pg F.types_Tag [.agg t.enc] (.one (.int .i64 (tagOf t))) := by
  refine w_types_Tag (by simp) fun o c hN hp => ?_
  unfold mc_types_Tag
  simp
  refine gd.mk (fun h => gd.mk (fun h2 => ?_) (fun h2 => ?_)) (fun h => ?_)
  · simp at h h2
    unfold tagOf; rw [if_pos (by omega)]
  · simp at h h2
    unfold tagOf; rw [if_neg (by omega)]
    exact wrap_i64 (by omega) (by omega)
  · simp at h
    unfold tagOf; rw [if_pos (by omega)]
end Go.Gr

/- Which types are the same. -/
set_option linter.unusedVariables false
set_option linter.unusedSimpArgs false
namespace Go.Gr
open Go.Abs Go.Proofs

mutual
def sameT : Typ → Typ → Bool
  | .mk k n s l, .mk k' n' s' l' => decide (k = k') && (decide (n = n') && (decide (s = s') && sameTs l l'))
def sameTs : List Typ → List Typ → Bool
  | [], [] => true
  | a :: l, b :: k => sameT a b && sameTs l k
  | _, _ => false
end
theorem sameTs_eq : ∀ (a b : List Typ), sameTs a b = eqF sameT a b
  | [], [] => by simp [sameTs, eqF]
  | [], _ :: _ => by simp [sameTs, eqF]
  | _ :: _, [] => by simp [sameTs, eqF]
  | a :: l, b :: k => by simp [sameTs, eqF, sameTs_eq l k]
theorem sameT_eq (a b : Typ) : sameT a b = (decide (a.kind = b.kind) && (decide (a.name = b.name) && (decide (a.names = b.names) && eqF sameT a.kids b.kids))) := by
  cases a; cases b
  simp only [sameT, sameTs_eq]
  rfl

theorem EqualFuncT_ok (a b : List Typ) (g : FuncId) (caps : List D) (q : Typ → Typ → Bool) (H : ∀ x, x ∈ a → ∀ y, PCall Pg g (.agg x.enc :: .agg y.enc :: caps.map .one) (.one (.bool (q x y)))) :
    PCall Pg F.slices_EqualFunc_api_Type_api_Type_api_Type_api_Type [.one (.sl false 4 (a.map Typ.enc)), .one (.sl false 4 (b.map Typ.enc)), .one (.fn (.func g) caps)] (.one (.bool (eqF q a b))) := by
  refine w_slices_EqualFunc_api_Type_api_Type_api_Type_api_Type (by simp) fun o c hN hp => ?_
  have hl : a.length ≤ lenMax := by have := o.1; simp only [DV.ok, D.ok] at this; simpa using this.1
  unfold lenMax at hl
  unfold mc_slices_EqualFunc_api_Type_api_Type_api_Type_api_Type
  simp
  refine gd.mk (fun h => ?_) (fun h => ?_)
  · simp at h
    exact eqF_len q (by omega)
  · simp at h
    refine W.loopL Pg_mixed hp lv_slices_EqualFunc_api_Type_api_Type_api_Type_api_Type_0 [17] (fun j : Nat => j ≤ a.length ∧ eqF q (a.drop j) (b.drop j) = eqF q a b) (fun j => [.c (.d (.int .i64 j))]) (fun _ => []) (fun j => a.length - j) 0 [] (by simp) (by simp [lv_slices_EqualFunc_api_Type_api_Type_api_Type_api_Type_0]) fun j ⟨h1, h2⟩ => ?_
    unfold lp_slices_EqualFunc_api_Type_api_Type_api_Type_api_Type_0 lv_slices_EqualFunc_api_Type_api_Type_api_Type_api_Type_0
    simp
    refine gd.mk (fun h => ?_) (fun h => ?_)
    · have hj : j < a.length := by simpa using h
      have hj' : j < b.length := by omega
      rw [List.drop_eq_getElem_cons hj, List.drop_eq_getElem_cons hj', eqF] at h2
      simp [List.getElem?_eq_getElem hj, List.getElem?_eq_getElem hj']
      refine callK.mk (H _ (List.getElem_mem hj) _) ?_
      simp
      refine gd.mk (fun h => ?_) (fun h => ?_)
      · simp at h
        rw [h, Bool.false_and] at h2
        exact h2.symm
      · simp at h
        rw [h, Bool.true_and] at h2
        exact Abs.Next.mk (j + 1) [] ⟨by omega, h2⟩ (by omega) (by simp; exact wrap_i64 (by omega) (by omega))
    · have hj : j = a.length := by simp at h; omega
      subst hj
      rw [List.drop_length, List.drop_of_length_le (by omega)] at h2
      rw [← h2]; rfl

@[simp] theorem Typ.enc_g1 (t : Typ) (h : 1 < t.enc.length) : t.enc[1] = .str t.name := by have := t.enc_1; rw [List.getElem?_eq_getElem h] at this; exact Option.some.inj this

theorem SameT_one (a b : Typ) (ih : ∀ x, x ∈ a.kids → ∀ y, PCall Pg F.types_Same [.agg x.enc, .agg y.enc] (.one (.bool (sameT x y)))) : PCall Pg F.types_Same [.agg a.enc, .agg b.enc] (.one (.bool (sameT a b))) := by
  have e := sameT_eq a b
  refine w_types_Same (by simp) fun o c hN hp => ?_
  unfold mc_types_Same
  simp
  refine gd.mk (fun h1 => gd.mk (fun h2 => ?_) (fun h2 => ?_)) (fun h1 => ?_)
  · refine callK.mk (eqStrs_ok _ _) ?_
    generalize decide (a.names = b.names) = p3 at e ⊢
    simp
    refine gd.mk (fun h3 => ?_) (fun h3 => ?_)
    · refine callK.mk (EqualFuncT_ok _ _ F.types_Same [] sameT fun x hx y => ih x hx y) ?_
      simp at h1 h2
      simp [e, h1, h2, h3]
    · simp at h3
      simp [e, h3]
  · simp at h2
    simp [e, h2]
  · simp at h1
    simp [e, h1]
mutual
theorem SameT_ok : ∀ (a b : Typ), PCall Pg F.types_Same [.agg a.enc, .agg b.enc] (.one (.bool (sameT a b)))
  | .mk k n s l, b => SameT_one _ b fun x hx y => SameT_oks l x hx y
theorem SameT_oks : ∀ (l : List Typ) (x : Typ), x ∈ l → ∀ y, PCall Pg F.types_Same [.agg x.enc, .agg y.enc] (.one (.bool (sameT x y)))
  | c :: l, x, h, y => by
    cases List.mem_cons.1 h with
    | inl e => rw [e]; exact SameT_ok c y
    | inr e => exact SameT_oks l x e y
end
end Go.Gr

/- A union's member of a tag. -/
set_option linter.unusedVariables false
set_option linter.unusedSimpArgs false
namespace Go.Gr
open Go.Abs Go.Proofs

def fi {α : Type} (q : α → Bool) : Nat → List α → Int
  | _, [] => -1
  | j, x :: l => if q x = true then (j : Int) else fi q (j + 1) l
theorem fi_any {α : Type} (q : α → Bool) : ∀ (j : Nat) (l : List α), decide (0 ≤ fi q j l) = l.any q
  | _, [] => by simp [fi]
  | j, x :: l => by
    have ih := fi_any q (j + 1) l
    simp only [fi, List.any_cons]
    split
    · rename_i h; rw [h, Bool.true_or]; simp
    · rename_i h
      rw [Bool.not_eq_true] at h
      rw [h, Bool.false_or]; exact ih


theorem indexT_ok (l : List Typ) (g : FuncId) (caps : List D) (q : Typ → Bool) (H : ∀ x, x ∈ l → PCall Pg g (.agg x.enc :: caps.map .one) (.one (.bool (q x)))) :
    PCall Pg F.slices_IndexFunc_api_Type_api_Type [.one (.sl false 4 (l.map Typ.enc)), .one (.fn (.func g) caps)] (.one (.int .i64 (fi q 0 l))) := by
  refine w_slices_IndexFunc_api_Type_api_Type (by simp) fun o c' hN hp => ?_
  have hl : l.length ≤ lenMax := by
    have := o.1; simp only [DV.ok, D.ok] at this; simpa using this.1
  unfold lenMax at hl
  unfold mc_slices_IndexFunc_api_Type_api_Type
  simp
  refine W.loop Pg_mixed hp (fun j : Nat => j ≤ l.length ∧ fi q j (l.drop j) = fi q 0 l) (fun j => [(8, .c (.d (.int .i64 j))), (7, .c (.d (.int .i64 l.length))), (0, .c (.d (.sl false 4 (l.map Typ.enc)))), (1, .c (.d (.fn (.func g) caps)))]) (fun _ => []) (fun j => l.length - j) 0 [] ⟨by simp, by simp⟩ (by simp) fun j hj => ?_
  unfold lp_slices_IndexFunc_api_Type_api_Type_0
  obtain ⟨h1, h2⟩ := hj
  simp
  refine gd.mk (fun h => ?_) (fun h => ?_)
  · simp at h
    have hj : j < l.length := by omega
    simp [List.getElem?_eq_getElem hj]
    rw [List.drop_eq_getElem_cons hj, fi] at h2
    refine callK.mk (H _ (List.getElem_mem hj)) ?_
    simp
    refine gd.mk (fun h' => ?_) (fun h' => ?_)
    · rw [if_pos h'] at h2
      exact h2
    · rw [Bool.not_true] at h'
      rw [if_neg (by rw [h']; simp)] at h2
      refine Abs.Next.mk (j + 1) [] ⟨by omega, h2⟩ (by omega) ?_
      simp
      exact wrap_i64 (by omega) (by omega)
  · have hj : j = l.length := by simp at h; omega
    rw [← h2, hj]
    simp [fi]


theorem Member1_ok (t : Typ) (n : Int) : PCall Pg F.types_Member_1 [.agg t.enc, .one (.rp [.int .i64 n] 0)] (.one (.bool (decide (tagOf t = n)))) := by
  refine w_types_Member_1 (by simp) fun o c hN hp => ?_
  unfold mc_types_Member_1
  simp
  refine callK.mk (Tag_ok t) ?_
  simp
  decide
end Go.Gr

/- Coercions: the small functions on which composing stands. -/
set_option linter.unusedVariables false
set_option linter.unusedSimpArgs false
namespace Go.Gr
open Go.Abs Go.Proofs

@[simp] theorem Coe.er_map (d : Coe) : d.enc.map D.er = d.enc := by rw [Coe.enc_eq]; rfl
def six0 : List Int := [0, 0, 0, 0, 0, 0]
theorem noTs {ts : List (Nat × Nat)} (h : ts.length = ([] : List Blk).length) : ts = [] := by simpa using h
theorem oneTs {ts : List (Nat × Nat)} {b : Blk} (h : ts.length = [b].length) : ∃ t, ts = [t] := by
  match ts, h with
  | [t], _ => exact ⟨t, rfl⟩
theorem twoTs {ts : List (Nat × Nat)} {b c : Blk} (h : ts.length = [b, c].length) : ∃ t u, ts = [t, u] := by
  match ts, h with
  | [t, u], _ => exact ⟨t, u, rfl⟩

theorem IdM : MCall Pg F.coerce_Id [] [] (.ag [.msl 1 0 0 6, .d (.sl true 2 []), .d (.sl true 1 []), .d (.sl true 5 []), .d (.sl true 5 [])]) [.arr 1 ((encI six0).map (·.map .d))] := by
  refine wm_coerce_Id ⟨by simp, by simp, by simp, by simp, by simp, by simp [encI, six0, live], by simp [encI, six0]⟩ fun ts hts ok hb c hN hp => ?_
  obtain rfl := noTs hts
  unfold mc_coerce_Id
  simp
  exact EndM.mk [1] [] (by simp [encI, six0])
theorem rIdM : MCall Pg F.gradusref10_Id [] [] (.ag [.msl 1 0 0 6, .d (.sl true 2 []), .d (.sl true 1 []), .d (.sl true 5 []), .d (.sl true 5 [])]) [.arr 1 ((encI six0).map (·.map .d))] := by
  refine wm_gradusref10_Id ⟨by simp, by simp, by simp, by simp, by simp, by simp [encI, six0, live], by simp [encI, six0]⟩ fun ts hts ok hb c hN hp => ?_
  obtain rfl := noTs hts
  unfold mc_gradusref10_Id
  simp
  exact EndM.mk [1] [] (by simp [encI, six0])

/-- slices.Clone -/
theorem CloneN_ok (l : List (ByteArray × Int)) (hl : l.length ≤ 1073741824) : MCall Pg F.slices_Clone_api_Need_api_Need [.c (.d (.sl false 2 (encN l)))] [] (.c (.msl 2 0 0 l.length)) [.arr 2 ((encN l).map (·.map .d))] := by
  refine wm_slices_Clone_api_Need_api_Need ⟨by simp, by simp, by simp, by simp, by simp, by simp [encN, live], by simp [encN]⟩ fun ts hts ok hb c hN hp => ?_
  obtain rfl := noTs hts
  unfold mc_slices_Clone_api_Need_api_Need
  cases l with
  | nil =>
    simp [encN]
    refine ⟨owK.mk [.t 2] ?_, owK.mk [] ?_⟩
    · simp
      exact EndM.mk [0] [] (by simp)
    · simp
      exact EndM.mk [0] [] (by simp)
  | cons x l =>
    simp [encN]
    refine ⟨by simp at hl; omega, ?_⟩
    refine owK.mk [] ?_
    simp
    exact EndM.mk [0] [] (by simp)
theorem CloneC_ok (l : List Coe) (hl : l.length ≤ 1073741824) : MCall Pg F.slices_Clone_api_Co_api_Co [.c (.d (.sl false 5 (l.map Coe.enc)))] [] (.c (.msl 5 0 0 l.length)) [.arr 5 ((l.map Coe.enc).map (·.map .d))] := by
  refine wm_slices_Clone_api_Co_api_Co ⟨by simp, by simp, by simp, by simp, by simp, by simp [live], by simp⟩ fun ts hts ok hb c hN hp => ?_
  obtain rfl := noTs hts
  unfold mc_slices_Clone_api_Co_api_Co
  cases l with
  | nil =>
    simp
    refine ⟨owK.mk [.t 2] ?_, owK.mk [] ?_⟩
    · simp
      exact EndM.mk [0] [] (by simp)
    · simp
      exact EndM.mk [0] [] (by simp)
  | cons x l =>
    simp
    refine ⟨by simp at hl; omega, ?_⟩
    refine owK.mk [] ?_
    simp
    exact EndM.mk [0] [] (by simp)

/-! ### needs -/
def encN1 (x : ByteArray × Int) : List D := [.str x.1, .int .i64 x.2]
theorem encN_eq (l : List (ByteArray × Int)) : encN l = l.map encN1 := rfl
def ix {α : Type} (q : α → Bool) : Nat → List α → Int
  | _, [] => -1
  | j, x :: l => if q x = true then (j : Int) else ix q (j + 1) l
theorem ix_any {α : Type} (q : α → Bool) : ∀ (j : Nat) (l : List α), decide (0 ≤ ix q j l) = l.any q
  | _, [] => by simp [ix]
  | j, x :: l => by
    have ih := ix_any q (j + 1) l
    simp only [ix, List.any_cons]
    split
    · rename_i h; rw [h, Bool.true_or]; simp
    · rename_i h
      rw [Bool.not_eq_true] at h
      rw [h, Bool.false_or]; exact ih

theorem indexN_ok (l : List (ByteArray × Int)) (g : FuncId) (caps : List D) (q : ByteArray × Int → Bool) (H : ∀ x, x ∈ l → PCall Pg g (.agg (encN1 x) :: caps.map .one) (.one (.bool (q x)))) :
    PCall Pg F.slices_IndexFunc_api_Need_api_Need [.one (.sl false 2 (encN l)), .one (.fn (.func g) caps)] (.one (.int .i64 (ix q 0 l))) := by
  refine w_slices_IndexFunc_api_Need_api_Need (by simp) fun o c' hN hp => ?_
  have hl : l.length ≤ lenMax := by
    have := o.1; simp only [DV.ok, D.ok] at this; simpa using this.1
  unfold lenMax at hl
  unfold mc_slices_IndexFunc_api_Need_api_Need
  simp
  refine W.loopL Pg_mixed hp lv_slices_IndexFunc_api_Need_api_Need_0 [8] (fun j : Nat => j ≤ l.length ∧ ix q j (l.drop j) = ix q 0 l) (fun j => [.c (.d (.int .i64 j))]) (fun _ => []) (fun j => l.length - j) 0 [] ⟨by simp, by simp⟩ (by simp [lv_slices_IndexFunc_api_Need_api_Need_0]) fun j ⟨h1, h2⟩ => ?_
  unfold lp_slices_IndexFunc_api_Need_api_Need_0 lv_slices_IndexFunc_api_Need_api_Need_0
  simp
  refine gd.mk (fun h => ?_) (fun h => ?_)
  · simp at h
    have hj : j < l.length := by omega
    simp [List.getElem?_eq_getElem hj]
    rw [List.drop_eq_getElem_cons hj, ix] at h2
    refine callK.mk (H _ (List.getElem_mem hj)) ?_
    simp
    refine gd.mk (fun h' => ?_) (fun h' => ?_)
    · rw [if_pos h'] at h2
      exact h2
    · rw [Bool.not_true] at h'
      rw [if_neg (by rw [h']; simp)] at h2
      refine Abs.Next.mk (j + 1) [] ⟨by omega, h2⟩ (by omega) ?_
      simp
      exact wrap_i64 (by omega) (by omega)
  · have hj : j = l.length := by simp at h; omega
    rw [← h2, hj]
    simp [ix]

theorem containsN_ok (l : List (ByteArray × Int)) (g : FuncId) (caps : List D) (q : ByteArray × Int → Bool) (H : ∀ x, x ∈ l → PCall Pg g (.agg (encN1 x) :: caps.map .one) (.one (.bool (q x)))) :
    PCall Pg F.slices_ContainsFunc_api_Need_api_Need [.one (.sl false 2 (encN l)), .one (.fn (.func g) caps)] (.one (.bool (l.any q))) := by
  refine w_slices_ContainsFunc_api_Need_api_Need (by simp) fun o c' hN hp => ?_
  unfold mc_slices_ContainsFunc_api_Need_api_Need
  simp
  refine callK.mk (indexN_ok l g caps q H) ?_
  simp [ix_any]

theorem needs1_ok (m n : ByteArray × Int) : PCall Pg F.coerce_needs_1 [.agg (encN1 m), .one (.rp (encN1 n) 0)] (.one (.bool (decide (m.1 = n.1)))) := by
  refine w_coerce_needs_1 (by simp) fun o c' hN hp => ?_
  unfold mc_coerce_needs_1
  simp [encN1]

/-- those of two, each name once -/
def needsC (a b : List (ByteArray × Int)) : List (ByteArray × Int) := a ++ b.filter fun n => !a.any fun m => decide (m.1 = n.1)

theorem needs_ok (a b : List (ByteArray × Int)) (ha : a.length ≤ 1073741824) (hb : b.length ≤ 1073741824) : PCall Pg F.coerce_needs [.one (.sl false 2 (encN a)), .one (.sl false 2 (encN b))] (.one (.sl false 2 (encN (needsC a b)))) := by
  refine w_coerce_needs (by simp) fun o c' hN hp => ?_
  unfold mc_coerce_needs
  simp
  refine callKM.mk [] (CloneN_ok a ha) (by simp) ?_
  simp
  have K : ∀ j, (b.take j).length ≤ 1073741824 := fun j => by rw [List.length_take]; omega
  refine W.loopL Pg_mixed hp lv_coerce_needs_0 [12, 5] (fun j : Nat => j ≤ b.length) (fun j => [.c (.d (.int .i64 j)), .c (.msl 2 0 0 (needsC a (b.take j)).length)]) (fun j => [.arr 2 ((encN (needsC a (b.take j))).map (·.map .d))]) (fun j => b.length - j) 0 [0] (by simp) (by simp [lv_coerce_needs_0, needsC]) fun j h1 => ?_
  unfold lp_coerce_needs_0 lv_coerce_needs_0
  simp
  refine gd.mk (fun h => ?_) (fun h => ?_)
  · have hj : j < b.length := by simpa using h
    simp [List.getElem?_eq_getElem hj]
    have hc : PCall Pg F.slices_ContainsFunc_api_Need_api_Need [.one (.sl false 2 (encN a)), .one (.fn (.func F.coerce_needs_1) [.rp (encN1 b[j]) 0])] (.one (.bool (a.any fun m => decide (m.1 = b[j].1)))) := containsN_ok a F.coerce_needs_1 [.rp (encN1 b[j]) 0] (fun m => decide (m.1 = b[j].1)) fun m hm => needs1_ok m b[j]
    have hs : needsC a (b.take (j + 1)) = if (a.any fun m => decide (m.1 = b[j].1)) = true then needsC a (b.take j) else needsC a (b.take j) ++ [b[j]] := by
      unfold needsC
      rw [List.take_succ_eq_append_getElem hj, List.filter_append]
      by_cases hq : (a.any fun m => decide (m.1 = b[j].1)) = true <;> simp [hq]
    generalize (a.any fun m => decide (m.1 = b[j].1)) = t at hc hs
    refine callKM.mk [1] (MCall.frzB (bs := [.box ((encN1 b[j]).map .d)]) (args := [.c (.d (.sl false 2 (encN a))), .c (.fn (.func F.coerce_needs_1) [.ptr 0 0])]) hc (by simp) (by simp) (by simp)) (by simp [encN1]) ?_
    simp [encN1]
    have hlen : (needsC a (b.take j)).length ≤ 2147483648 := by
      unfold needsC
      have := List.length_filter_le (fun n : ByteArray × Int => !a.any fun m => decide (m.1 = n.1)) (b.take j)
      have := K j
      simp only [List.length_append]; omega
    refine gd.mk (fun h => ?_) (fun h => ?_)
    · simp at h
      refine ⟨by omega, ?_⟩
      rw [h] at hs
      simp at hs
      refine Abs.Next.mk (j + 1) [2] (by omega) (by omega) ?_
      simp [hs]
      exact ⟨wrap_i64 (by omega) (by omega), by rw [List.take_of_length_le (by simp)]; simp [encN]⟩
    · simp at h
      rw [h] at hs
      simp at hs
      refine Abs.Next.mk (j + 1) [0] (by omega) (by omega) ?_
      simp [hs]
      exact wrap_i64 (by omega) (by omega)
  · have hj : j = b.length := by simp at h; omega
    subst hj
    simp
    rw [List.take_of_length_le (by simp)]

/-! ### what is done to functions -/
def pairC (c : Coe) : Coe × Coe := match c.fn with
  | f :: g :: _ => (f, g)
  | _ => (idC, idC)
theorem pair_ok (c : Coe) (h : c.fn.length = 0 ∨ c.fn.length = 2) : PCall Pg F.coerce_pair [.agg c.enc] (.tup [.agg (pairC c).1.enc, .agg (pairC c).2.enc]) := by
  refine w_coerce_pair (by simp) fun o c' hN hp => ?_
  unfold mc_coerce_pair
  simp
  refine gd.mk (fun h1 => ?_) (fun h1 => ?_)
  · have h0 : c.fn = [] := by simpa using h1
    refine callK.mk Id_ok ?_
    simp
    refine callK.mk Id_ok ?_
    simp [pairC, h0]
  · have h0 : c.fn ≠ [] := by simpa using h1
    have h2 : c.fn.length = 2 := h.resolve_left fun e => h0 (List.length_eq_zero_iff.1 e)
    obtain ⟨x, y, hxy⟩ : ∃ x y, c.fn = [x, y] := by
      match c.fn, h2 with
      | [x, y], _ => exact ⟨x, y, rfl⟩
    simp [hxy, pairC]
    decide

def funC (f g : Coe) : List Coe := if (sameC f idC && sameC g idC) = true then [] else [f, g]
theorem fun_ok (a b s x : D) (h1 : a.one = true) (f g : Coe) : MCall Pg F.coerce_fun [.c (.ptr 0 0), .ag (f.enc.map .d), .ag (g.enc.map .d)] [.box [.d a, .d b, .d s, .d x, .d (.sl true 5 [])]] (.tup []) [.box [.d a, .d b, .d s, .d x, .d (.sl true 5 ((funC f g).map Coe.enc))]] := by
  refine wm_coerce_fun ⟨by simp, by simp, by simp, by simp, by simp, by simp, by simp⟩ fun ts hts ok hb c hN hp => ?_
  obtain ⟨t, rfl⟩ := oneTs hts
  unfold mc_coerce_fun
  simp
  refine callK.mk (idle_ok f) ?_
  simp
  refine gd.mk (fun h2 => ?_) (fun h2 => ?_)
  · simp at h2
    refine callK.mk (idle_ok g) ?_
    simp
    refine gd.mk (fun h3 => ?_) (fun h3 => ?_)
    · simp at h3
      exact EndM.mk [0] [1] (by simp [funC, h2, h3])
    · simp at h3
      exact EndM.mk [0] [1] (by simp [funC, h2, h3])
  · simp at h2
    exact EndM.mk [0] [1] (by simp [funC, h2])
end Go.Gr
