import Derived.Test.YtaonnnlgceillaaVerS
import Derived.Test.YtaonnnlgceillaaAbs20
/- Coercions: the program's May. -/
set_option linter.unusedVariables false
set_option linter.unusedSimpArgs false
namespace Go.Gr
open Go.Abs Go.Proofs

def hadM (l : List (ByteArray × Int)) : List (D × AV) := l.map fun x => (.str x.1, .c (.d (.bool true)))
theorem mfind_no (s : ByteArray) : ∀ (l : List (ByteArray × Int)) (i : Nat), (∀ x, x ∈ l → s ≠ x.1) → mfind 1 (.str s) (hadM l) i = some none
  | [], i, _ => rfl
  | x :: l, i, h => by
    have h0 := h x (by simp)
    have ih := mfind_no s l (i + 1) fun y hy => h y (by simp [hy])
    simp only [hadM] at ih
    simp [hadM, h0, ih]
theorem mfind_is (s : ByteArray) : ∀ (l : List (ByteArray × Int)) (i : Nat), (∃ x, x ∈ l ∧ s = x.1) → ∃ k, mfind 1 (.str s) (hadM l) i = some (some (k, .c (.d (.bool true))))
  | [], i, h => by obtain ⟨x, hx, _⟩ := h; cases hx
  | x :: l, i, h => by
    by_cases h0 : s = x.1
    · exact ⟨i, by simp [hadM, h0]⟩
    · obtain ⟨y, hy, e⟩ := h
      have : ∃ y, y ∈ l ∧ s = y.1 := by
        cases List.mem_cons.1 hy with
        | inl h => subst h; exact absurd e h0
        | inr h => exact ⟨y, h, e⟩
      obtain ⟨k, hk⟩ := mfind_is s l (i + 1) this
      simp only [hadM] at hk
      exact ⟨k, by simp [hadM, h0, hk]⟩

theorem hadM_ren (f : Nat → Nat) (l : List (ByteArray × Int)) : (hadM l).map (fun e => (e.1, AV.ren f e.2)) = hadM l := by simp [hadM]
theorem hadM_append (l : List (ByteArray × Int)) (x : ByteArray × Int) : hadM (l ++ [x]) = hadM l ++ [(.str x.1, .c (.d (.bool true)))] := by simp [hadM]
theorem hadM_lt {n : Nat} {l : List (ByteArray × Int)} {a : D} {b : AV} (h : (a, b) ∈ hadM l) : AV.lt n b = true := by
  simp only [hadM, List.mem_map] at h
  obtain ⟨x, _, e⟩ := h
  cases e
  simp

theorem cMay0 {c : Ctx} (hp : c.pure) (d : Coe) (hl : d.needs.length ≤ lenMax) {Q : Exit → St → Prop} {S : St} {g} (l0 : List Nat)
    (h0 : Match l0 S [(62, .c (.d (.int .i64 0))), (1, .c (.d (.rp d.enc 0))), (60, .c (.d (.sl false 2 (encN d.needs)))), (61, .c (.d (.int .i64 d.needs.length))), (3, .c (.map 0))] [.map []])
    (hQ : ∀ T b x, needsOk [] d.needs = true → Abs.look T 1 = .c (.d (.rp d.enc 0)) → Q (.exit 0) ⟨T, hpOf [b], x⟩)
    (hR : ∀ T m x, needsOk [] d.needs = false → Abs.look T 2 = .c (.d (.bool false)) → Q .ret ⟨T, m, x⟩) : lw_ Pg c lp_coerce_May_0 Q g S := by
  unfold lenMax at hl
  refine W.loop Pg_mixed hp (fun j : Nat => j ≤ d.needs.length ∧ needsP d.needs j) (fun j => [(62, .c (.d (.int .i64 j))), (1, .c (.d (.rp d.enc 0))), (60, .c (.d (.sl false 2 (encN d.needs)))), (61, .c (.d (.int .i64 d.needs.length))), (3, .c (.map 0))]) (fun j => [.map (hadM (d.needs.take j))]) (fun j => d.needs.length - j) 0 l0 ⟨by simp, fun i h hj => by omega⟩ h0 fun j ⟨g1, g2⟩ => ?_
  unfold lp_coerce_May_0
  simp
  refine gd.mk (fun h => ?_) (fun h => ?_)
  · have hj : j < d.needs.length := by simpa using h
    simp [List.getElem?_eq_getElem hj]
    refine gd.mk (fun h => ?_) (fun h => ?_)
    · simp at h
      by_cases hm : ∃ x, x ∈ d.needs.take j ∧ d.needs[j].1 = x.1
      · obtain ⟨k, hk⟩ := mfind_is _ _ 0 hm
        simp [hk]
        refine hR _ _ _ (needsOk_false fun H => ?_) (by simp)
        obtain ⟨x, hx, e⟩ := hm
        obtain ⟨i, hi, rfl⟩ := List.getElem_of_mem hx
        simp at hi
        rw [List.getElem_take] at e
        exact (H j hj hj).2 i (by omega) e.symm
      · have hk := mfind_no d.needs[j].1 (d.needs.take j) 0 fun x hx e => hm ⟨x, hx, e⟩
        simp [hk]
        refine Abs.Next.mk (j + 1) [0] ⟨by omega, fun i hi hij => ?_⟩ (by omega) ?_
        · by_cases e : i = j
          · subst e
            refine ⟨h, fun k hk e => hm ⟨d.needs[k], ?_, e.symm⟩⟩
            exact List.mem_iff_getElem.2 ⟨k, by simp; omega, by rw [List.getElem_take]⟩
          · exact g2 i hi (by omega)
        · simp
          exact ⟨wrap_i64 (by omega) (by omega), by rw [hadM_ren, List.take_succ_eq_append_getElem hj, hadM_append], fun a b hab => hadM_lt hab⟩
    · simp at h
      exact hR _ _ _ (needsOk_false fun H => (H j hj hj).1 h) (by simp)
  · have hj : j = d.needs.length := by simp at h; omega
    subst hj
    exact hQ _ _ _ (needsOk_true g2) (by simp)

theorem cMay2 {c : Ctx} (hp : c.pure) (d : Coe) (hn : d.names.length = d.fields.length) (hl : d.fields.length ≤ lenMax) {Q : Exit → St → Prop} {S : St} {g}
    (ih : ∀ x, x ∈ d.fields ∨ x ∈ d.fn → PCall Pg F.coerce_May [.agg x.enc] (.one (.bool (mayC x))))
    (h0 : Match [] S [(82, .c (.d (.int .i64 0))), (1, .c (.d (.rp d.enc 0))), (80, .c (.d (.sl false 5 (d.fields.map Coe.enc)))), (81, .c (.d (.int .i64 d.fields.length)))] [])
    (hQ : ∀ T m x, (risesB d.names && d.fields.all fun c => mayC c && !sameC c idC) = true → Abs.look T 1 = .c (.d (.rp d.enc 0)) → Q (.exit 2) ⟨T, m, x⟩)
    (hR : ∀ T m x, (risesB d.names && d.fields.all fun c => mayC c && !sameC c idC) = false → Abs.look T 2 = .c (.d (.bool false)) → Q .ret ⟨T, m, x⟩) : lw_ Pg c lp_coerce_May_2 Q g S := by
  unfold lenMax at hl
  refine W.loop Pg_mixed hp (fun j : Nat => j ≤ d.fields.length ∧ (∀ i (h : i + 1 < d.names.length), i + 1 < j → leS d.names[i + 1] d.names[i] = false) ∧ ((d.fields.drop j).all fun c => mayC c && !sameC c idC) = d.fields.all fun c => mayC c && !sameC c idC) (fun j => [(82, .c (.d (.int .i64 j))), (1, .c (.d (.rp d.enc 0))), (80, .c (.d (.sl false 5 (d.fields.map Coe.enc)))), (81, .c (.d (.int .i64 d.fields.length)))]) (fun j => []) (fun j => d.fields.length - j) 0 [] ⟨by simp, fun i h hj => by omega, by simp⟩ h0 fun j ⟨g1, g2, g3⟩ => ?_
  unfold lp_coerce_May_2
  simp
  refine gd.mk (fun h => ?_) (fun h => ?_)
  · have hj : j < d.fields.length := by simpa using h
    have hj' : j < d.names.length := by omega
    rw [List.drop_eq_getElem_cons hj, List.all_cons] at g3
    simp [List.getElem?_eq_getElem hj]
    cases j with
    | zero =>
      simp
      refine callK.mk (ih _ (.inl (List.getElem_mem hj))) ?_
      simp
      refine gd.mk (fun h1 => ?_) (fun h1 => ?_)
      · simp at h1
        refine callK.mk (idle_ok _) ?_
        simp
        refine ⟨by decide, gd.mk (fun h2 => ?_) (fun h2 => ?_)⟩
        · refine hR _ _ _ ?_ (by simp)
          rw [← g3, h1, h2]; simp
        · simp at h2
          rw [h1, h2] at g3
          exact Abs.Next.mk (0 + 1) [] ⟨by omega, fun i hi hij => by omega, by simpa using g3⟩ (by omega) (by simp; exact wrap_i64 (by omega) (by omega))
      · simp at h1
        refine ⟨by decide, hR _ _ _ ?_ (by simp)⟩
        rw [← g3, h1]; simp
    | succ k =>
      have hk : k < d.names.length := by omega
      have hw : IntKind.i64.wrap (k : Int) = k := wrap_i64 (by omega) (by omega)
      simp [hw, List.getElem?_eq_getElem hk, List.getElem?_eq_getElem hj', show (0 : Int) < (k : Int) + 1 by omega]
      refine callK.mk (Compare_ok _ _) ?_
      have hcmp := leS_cmp d.names[k + 1] d.names[k]
      simp
      rw [← hcmp]
      refine gd.mk (fun hle => ?_) (fun hle => ?_)
      · refine callK.mk (ih _ (.inl (List.getElem_mem hj))) ?_
        simp
        refine gd.mk (fun h1 => ?_) (fun h1 => ?_)
        · simp at h1
          refine callK.mk (idle_ok _) ?_
          simp
          refine ⟨by decide, gd.mk (fun h2 => ?_) (fun h2 => ?_)⟩
          · refine hR _ _ _ ?_ (by simp)
            rw [← g3, h1, h2]; simp
          · simp at h2
            rw [h1, h2] at g3
            exact Abs.Next.mk ((k + 1) + 1) [] ⟨by omega, fun i hi hij => by
              by_cases e : i = k
              · subst e; exact hle
              · exact g2 i hi (by omega), by simpa using g3⟩ (by omega) (by simp; exact wrap_i64 (by omega) (by omega))
        · simp at h1
          refine ⟨by decide, hR _ _ _ ?_ (by simp)⟩
          rw [← g3, h1]; simp
      · refine ⟨by decide, hR _ _ _ ?_ (by simp)⟩
        rw [risesB_at (by omega) hle]; rfl
  · have hj : j = d.fields.length := by simp at h; omega
    subst hj
    refine hQ _ _ _ ?_ (by simp)
    rw [risesB_all fun i h => g2 i h (by omega), ← g3, List.drop_length]; rfl

set_option maxRecDepth 20000 in
theorem cMay_one (d : Coe) (ih : ∀ x, x ∈ d.fields ∨ x ∈ d.fn → PCall Pg F.coerce_May [.agg x.enc] (.one (.bool (mayC x)))) : PCall Pg F.coerce_May [.agg d.enc] (.one (.bool (mayC d))) := by
  have e := mayC_eq d
  refine w_coerce_May (by simp) fun o c hN hp => ?_
  have hl : d.needs.length ≤ lenMax ∧ d.fields.length ≤ lenMax ∧ d.fn.length ≤ lenMax := by
    have := o.1; rw [Coe.enc_eq] at this; simp only [DV.ok, D.okL, D.ok, encI_length, encN_length, encS_length, List.length_map] at this; exact ⟨this.2.1.1, this.2.2.2.1.1, this.2.2.2.2.1.1⟩
  have hl3 := hl.2.2
  unfold lenMax at hl3
  unfold mc_coerce_May
  by_cases k1 : d.tags.length = 6
  rotate_left
  · simp [show ¬ ((d.tags.length : Int) = 6) by omega, e, ownC, k1]
  by_cases k2 : d.names.length = d.fields.length
  rotate_left
  · simp [k1, show ¬ ((d.names.length : Int) = (d.fields.length : Int)) by omega, e, ownC, k2]
  have k2i : ((d.names.length : Int) = (d.fields.length : Int)) = True := eq_true (by omega)
  have k1i : (d.tags.length : Int) = 6 := by omega
  have ht4 : d.tags[4]? = some (tagZ d 4) := by unfold tagZ; rw [List.getD, List.getElem?_eq_getElem (by omega)]; rfl
  have ht5 : d.tags[5]? = some (tagZ d 5) := by unfold tagZ; rw [List.getD, List.getElem?_eq_getElem (by omega)]; rfl
  have fin : (d.fn.length = 0 ∨ d.fn.length = 2) → ¬ (tagZ d 4 ≠ 0 ∧ 0 < d.names.length ∨ tagZ d 5 ≠ 0 ∧ 0 < d.fn.length) → mayC d = (needsOk [] d.needs && ((risesB d.names && d.fields.all fun c => mayC c && !sameC c idC) && mayGs d.fn)) := fun h h' => by
    rw [e]; unfold ownC; rw [decide_eq_true ⟨k1, k2, h⟩, decide_eq_true h']; simp [Bool.and_assoc]
  have fon : ¬ (d.fn.length = 0 ∨ d.fn.length = 2) ∨ (tagZ d 4 ≠ 0 ∧ 0 < d.names.length ∨ tagZ d 5 ≠ 0 ∧ 0 < d.fn.length) → mayC d = false := fun h => by
    rw [e]; unfold ownC
    rcases h with h | h
    · rw [decide_eq_false (fun x => h x.2.2)]; rfl
    · rw [decide_eq_false (p := ¬ _) (fun x => x h)]; simp
  have kn : d.names.length = 0 ∨ 0 < d.names.length := by omega
  have kf : (d.fn = [] ∨ ∃ x y, d.fn = [x, y]) ∨ ¬ (d.fn.length = 0 ∨ d.fn.length = 2) := by
    match d.fn with
    | [] => simp
    | [_] => simp
    | [x, y] => simp
    | _ :: _ :: _ :: _ => simp
  rcases kf with k3 | k3
  rotate_right
  · have hf := fon (.inl k3)
    have a2 : ((d.fn.length : Int).tmod 2 = 0) → (2 < (d.fn.length : Int)) := by
      intro h
      have h2 : ((d.fn.length : Int).tmod 2) = (d.fn.length : Int) % 2 := Int.tmod_eq_emod_of_nonneg (by omega)
      omega
    simp [k1i, k2i]
    refine gd.mk (fun h => ?_) (fun h => ?_)
    · have h3 := a2 (by simpa using h)
      simp [h3, hf]
    · simp [hf]
  rcases k3 with k3 | ⟨x0, y0, k3⟩
  · have k3l : d.fn.length = 0 := by rw [k3]; rfl
    by_cases k4 : tagZ d 4 = 0
    rotate_left
    · rcases kn with kn | kn
      rotate_left
      · have hf := fon (.inr (.inl ⟨k4, kn⟩))
        simp [k1i, k2i, k3, ht4, ht5, k4, kn, show (0 : Int) < d.names.length by omega, hf]
      · have kn' : ((0 : Int) = d.fields.length) = True := eq_true (by omega)
        by_cases k5 : tagZ d 5 = 0
        all_goals
          first
              | (have hf := fin (by omega) (by omega)
                 simp [k1i, k2i, k3, ht4, ht5, k4, kn, kn', k5]
                 refine cMay0 hp d hl.1 [0] (by simp) (fun T b x H e1 => ?_) (fun T m x H e2 => ?_)
                 · simp [e1]
                   refine cMay2 hp d k2 hl.2.1 ih (by simp [e1]) (fun T m x H' e1 => ?_) (fun T m x H' e2 => ?_)
                   · simp [e1, k3]
                     simp [hf, H, H', k3, mayGs]
                   · simp [e2, hf, H, H']
                 · simp [e2, hf, H])
              | (have hf := fon (.inr (.inr ⟨k5, by omega⟩))
                 simp [k1i, k2i, k3, ht4, ht5, k4, kn, kn', k5, hf])
    · by_cases k5 : tagZ d 5 = 0
      all_goals
        first
            | (have hf := fin (by omega) (by omega)
               simp [k1i, k2i, k3, ht4, ht5, k4, k5]
               refine cMay0 hp d hl.1 [0] (by simp) (fun T b x H e1 => ?_) (fun T m x H e2 => ?_)
               · simp [e1]
                 refine cMay2 hp d k2 hl.2.1 ih (by simp [e1]) (fun T m x H' e1 => ?_) (fun T m x H' e2 => ?_)
                 · simp [e1, k3]
                   simp [hf, H, H', k3, mayGs]
                 · simp [e2, hf, H, H']
               · simp [e2, hf, H])
            | (have hf := fon (.inr (.inr ⟨k5, by omega⟩))
               simp [k1i, k2i, k3, ht4, ht5, k4, k5, hf])
  · have k3l : d.fn.length = 2 := by rw [k3]; rfl
    by_cases k4 : tagZ d 4 = 0
    rotate_left
    · rcases kn with kn | kn
      rotate_left
      · have hf := fon (.inr (.inl ⟨k4, kn⟩))
        simp [k1i, k2i, k3, ht4, ht5, k4, kn, show (0 : Int) < d.names.length by omega, hf]
      · have kn' : ((0 : Int) = d.fields.length) = True := eq_true (by omega)
        by_cases k5 : tagZ d 5 = 0
        all_goals
          first
              | (have hf := fin (by omega) (by omega)
                 simp [k1i, k2i, k3, ht4, ht5, k4, kn, kn', k5]
                 refine cMay0 hp d hl.1 [0] (by simp) (fun T b x H e1 => ?_) (fun T m x H e2 => ?_)
                 · simp [e1]
                   refine cMay2 hp d k2 hl.2.1 ih (by simp [e1]) (fun T m x H' e1 => ?_) (fun T m x H' e2 => ?_)
                   · simp [e1, k3]
                     rw [H, H', k3, mayGs] at hf
                     refine callK.mk (ih x0 (.inr (by simp [k3]))) ?_
                     simp [e1, k3]
                     refine gd.mk (fun m1 => ?_) (fun m1 => ?_)
                     · refine callK.mk (ih y0 (.inr (by simp [k3]))) ?_
                       simp [e1, k3]
                       refine gd.mk (fun m2 => ?_) (fun m2 => ?_)
                       · refine callK.mk (idle_ok x0) ?_
                         simp [e1, k3]
                         refine gd.mk (fun m3 => ?_) (fun m3 => ?_)
                         · refine callK.mk (idle_ok y0) ?_
                           simp
                           rw [hf, m1, m2, m3]; simp
                         · simp at m3
                           rw [hf, m1, m2, m3]; simp
                       · simp at m2
                         rw [hf, m1, m2]; simp
                     · simp at m1
                       rw [hf, m1]; simp
                   · simp [e2, hf, H, H']
                 · simp [e2, hf, H])
              | (have hf := fon (.inr (.inr ⟨k5, by omega⟩))
                 simp [k1i, k2i, k3, ht4, ht5, k4, kn, kn', k5, hf])
    · by_cases k5 : tagZ d 5 = 0
      all_goals
        first
            | (have hf := fin (by omega) (by omega)
               simp [k1i, k2i, k3, ht4, ht5, k4, k5]
               refine cMay0 hp d hl.1 [0] (by simp) (fun T b x H e1 => ?_) (fun T m x H e2 => ?_)
               · simp [e1]
                 refine cMay2 hp d k2 hl.2.1 ih (by simp [e1]) (fun T m x H' e1 => ?_) (fun T m x H' e2 => ?_)
                 · simp [e1, k3]
                   rw [H, H', k3, mayGs] at hf
                   refine callK.mk (ih x0 (.inr (by simp [k3]))) ?_
                   simp [e1, k3]
                   refine gd.mk (fun m1 => ?_) (fun m1 => ?_)
                   · refine callK.mk (ih y0 (.inr (by simp [k3]))) ?_
                     simp [e1, k3]
                     refine gd.mk (fun m2 => ?_) (fun m2 => ?_)
                     · refine callK.mk (idle_ok x0) ?_
                       simp [e1, k3]
                       refine gd.mk (fun m3 => ?_) (fun m3 => ?_)
                       · refine callK.mk (idle_ok y0) ?_
                         simp
                         rw [hf, m1, m2, m3]; simp
                       · simp at m3
                         rw [hf, m1, m2, m3]; simp
                     · simp at m2
                       rw [hf, m1, m2]; simp
                   · simp at m1
                     rw [hf, m1]; simp
                 · simp [e2, hf, H, H']
               · simp [e2, hf, H])
            | (have hf := fon (.inr (.inr ⟨k5, by omega⟩))
               simp [k1i, k2i, k3, ht4, ht5, k4, k5, hf])

mutual
theorem cMay_ok : ∀ (a : Coe), PCall Pg F.coerce_May [.agg a.enc] (.one (.bool (mayC a)))
  | .mk t n s f g => cMay_one _ fun x hx => hx.elim (fun h => cMay_oks f x h) (fun h => cMay_oks g x h)
theorem cMay_oks : ∀ (l : List Coe) (x : Coe), x ∈ l → PCall Pg F.coerce_May [.agg x.enc] (.one (.bool (mayC x)))
  | c :: l, x, h => by
    cases List.mem_cons.1 h with
    | inl e => rw [e]; exact cMay_ok c
    | inr e => exact cMay_oks l x e
end
end Go.Gr

/- The checks of a code: names that rise; what is no register. -/
set_option linter.unusedVariables false
set_option linter.unusedSimpArgs false
namespace Go.Gr
open Go.Abs Go.Proofs

theorem V1_ok (d : Coe) : PCall Pg F.verify_Verify_1 [.agg d.enc] (.one (.bool (!mayC d))) := by
  refine w_verify_Verify_1 (by simp) fun o c hN hp => ?_
  unfold mc_verify_Verify_1
  simp
  refine callK.mk (cMay_ok d) ?_
  simp

theorem rising_ok (l : List ByteArray) : PCall Pg F.verify_rising [.one (.sl false 1 (encS l))] (.one (.bool (risesB l))) := by
  refine w_verify_rising (by simp) fun o c hN hp => ?_
  have hl : l.length ≤ lenMax := by have := o.1; simp only [DV.ok, D.ok] at this; simpa using this.1
  unfold lenMax at hl
  unfold mc_verify_rising
  simp
  refine W.loopL Pg_mixed hp lv_verify_rising_0 [6] (fun j : Nat => j ≤ l.length ∧ ∀ i (h : i + 1 < l.length), i + 1 < j → leS l[i + 1] l[i] = false) (fun j => [.c (.d (.int .i64 j))]) (fun _ => []) (fun j => l.length - j) 0 [] ⟨by simp, fun i h hj => by omega⟩ (by simp [lv_verify_rising_0]) fun j ⟨g1, g2⟩ => ?_
  unfold lp_verify_rising_0 lv_verify_rising_0
  simp
  refine gd.mk (fun h => ?_) (fun h => ?_)
  · have hj : j < l.length := by simpa using h
    cases j with
    | zero =>
      simp
      exact ⟨by decide, Abs.Next.mk 1 [] ⟨by omega, fun i hi hij => by omega⟩ (by omega) (by simp; exact wrap_i64 (by omega) (by omega))⟩
    | succ k =>
      have hk : k < l.length := by omega
      have hw : IntKind.i64.wrap (k : Int) = k := wrap_i64 (by omega) (by omega)
      simp [hw, List.getElem?_eq_getElem hj, List.getElem?_eq_getElem hk, show (0 : Int) < (k : Int) + 1 by omega]
      refine ⟨by decide, gd.mk (fun h => ?_) (fun h => ?_)⟩
      · exact risesB_at hj (by unfold leS; exact h)
      · refine Abs.Next.mk (k + 2) [] ⟨by omega, fun i hi hij => ?_⟩ (by omega) (by simp; rw [wrap_i64 (by omega) (by omega)]; omega)
        by_cases e : i = k
        · subst e; unfold leS; exact h
        · exact g2 i hi (by omega)
  · have hj : j = l.length := by simp at h; omega
    exact risesB_all fun i hi => g2 i hi (by omega)

theorem V2_ok (l : List ByteArray) : PCall Pg F.verify_Verify_2 [.one (.sl false 1 (encS l))] (.one (.bool (!risesB l))) := by
  refine w_verify_Verify_2 (by simp) fun o c hN hp => ?_
  unfold mc_verify_Verify_2
  simp
  refine callK.mk (rising_ok l) ?_
  simp

theorem vVerify_ok (c : Cod) : PCall Pg F.verify_Verify [.agg c.enc] (.one (.bool (verifyOf mayC risesB c))) :=
  Verify_ok c mayC risesB (fun d _ => V1_ok d) (fun l _ => V2_ok l)

theorem in_ok' (a b : Int) : PCall Pg F.gradusref18_in [.one (.int .i64 a), .one (.int .i64 b)] (.one (.bool (hasB a b))) := in_ok a b

def constsOf (c : Cod) (p : Prc) (i : Ins) : Bool :=
  if i.op = 11 then hasB i.b c.ints.length
  else if i.op = 12 then hasB i.b c.strs.length
  else if i.op = 13 then hasB i.b 2
  else if i.op = 16 then decide (capsOf c i.b = 0)
  else if i.op = 17 then hasB i.b c.procs.length && (hasB i.c (IntKind.i64.wrap (p.regs + 1)) && decide (capsOf c i.b ≤ IntKind.i64.wrap (p.regs - i.c)))
  else if i.op = 18 then hasB i.b c.shapes.length && (hasB i.c (IntKind.i64.wrap (p.regs + 1)) && decide (fieldsOf c i.b ≤ IntKind.i64.wrap (p.regs - i.c)))
  else if i.op = 19 ∨ i.op = 20 then hasB i.c c.strs.length
  else if i.op = 21 then hasB i.c c.cos.length
  else if i.op = 24 ∨ i.op = 25 then hasB i.b p.code.length
  else if i.op = 26 then hasB i.c 6
  else hasB i.op 33

set_option maxRecDepth 20000 in
set_option maxHeartbeats 1000000 in
theorem consts_ok (c : Cod) (p : Prc) (i : Ins) : PCall Pg F.gradusref18_consts [.agg c.enc, .agg p.enc, .agg i.enc] (.one (.bool (constsOf c p i))) := by
  refine w_gradusref18_consts (by simp) fun o c' hN hp => ?_
  unfold mc_gradusref18_consts
  simp
  repeat' (refine gd.mk (fun h => ?_) (fun h => ?_))
  all_goals (simp only [Bool.not_true, Bool.not_false, decide_eq_true_eq, decide_eq_false_iff_not] at *)
  all_goals (unfold constsOf)
  all_goals (repeat (first | rw [if_pos (by omega)] | rw [if_neg (by omega)]))
  all_goals (first | done | skip)
  all_goals (try (refine callK.mk (in_ok' _ _) ?_; simp; done))
  · refine callK.mk (caps_ok _ _) ?_
    simp
  · refine callK.mk (in_ok' _ _) ?_
    generalize hasB i.b _ = b1
    simp
    refine gd.mk (fun h1 => ?_) (fun h1 => ?_)
    · refine callK.mk (in_ok' _ _) ?_
      generalize hasB i.c _ = b2
      simp
      refine gd.mk (fun h2 => ?_) (fun h2 => ?_)
      · refine callK.mk (caps_ok _ _) ?_
        simp
        exact ⟨by decide, by simp [h1, h2]⟩
      · simp at h2
        exact ⟨by decide, by simp [h1, h2]⟩
    · simp at h1
      exact ⟨by decide, by simp [h1]⟩
  · refine callK.mk (in_ok' _ _) ?_
    generalize hasB i.b _ = b1
    simp
    refine gd.mk (fun h1 => ?_) (fun h1 => ?_)
    · refine callK.mk (in_ok' _ _) ?_
      generalize hasB i.c _ = b2
      simp
      refine gd.mk (fun h2 => ?_) (fun h2 => ?_)
      · refine callK.mk (fields_ok _ _) ?_
        simp
        exact ⟨by decide, by simp [h1, h2]⟩
      · simp at h2
        exact ⟨by decide, by simp [h1, h2]⟩
    · simp at h1
      exact ⟨by decide, by simp [h1]⟩
end Go.Gr

/- The reference's look at one instruction. -/
set_option linter.unusedVariables false
set_option linter.unusedSimpArgs false
namespace Go.Gr
open Go.Abs Go.Proofs

def writes (i : Ins) : Bool := decide (i.op ≠ 23 ∧ i.op ≠ 24 ∧ i.op ≠ 25)
def touchOf (c : Cod) (i : Ins) : List Int := rusesOf c i ++ (if writes i = true then [rsetsOf i] else [])
def rinstrOf (c : Cod) (p : Prc) (i : Ins) : Bool := constsOf c p i && (touchOf c i).all fun r => hasB r p.regs

theorem written_eq (i : Ins) : (if (if !decide (i.op = 23) then !decide (i.op = 24) else false) then !decide (i.op = 25) else false) = writes i := by
  unfold writes
  by_cases h1 : i.op = 23 <;> by_cases h2 : i.op = 24 <;> by_cases h3 : i.op = 25 <;> simp_all

theorem all_no {l : List Int} {q : Int → Bool} {j : Nat} (hj : j < l.length) (h : q l[j] = false) : l.all q = false := by
  rw [List.all_eq_false]; exact ⟨_, List.getElem_mem hj, by rw [h]; simp⟩
theorem all_yes {l : List Int} {q : Int → Bool} {j : Nat} (hj : l.length ≤ j) (h : ∀ k (hk : k < l.length), k < j → q l[k] = true) : l.all q = true := by
  rw [List.all_eq_true]
  intro x hx
  obtain ⟨k, hk, rfl⟩ := List.getElem_of_mem hx
  exact h k hk (by omega)

set_option maxRecDepth 20000 in
set_option maxHeartbeats 1000000 in
theorem rinstr_ok (c : Cod) (p : Prc) (i : Ins) : PCall Pg F.gradusref18_instr [.agg c.enc, .agg p.enc, .agg i.enc] (.one (.bool (rinstrOf c p i))) := by
  refine w_gradusref18_instr (by simp) fun o c' hN hp => ?_
  unfold mc_gradusref18_instr
  simp
  refine callK.mk (consts_ok _ _ _) ?_
  simp
  refine ⟨fun h => ?_, fun h => ?_⟩
  · unfold rinstrOf
    have h' : constsOf c p i = false := by simpa using h
    rw [h']; rfl
  · have h' : constsOf c p i = true := by simpa using h
    refine callK.mk (rSets_ok i) ?_
    simp
    have hm := rUses_ok c i
    have hlen : (rusesOf c i).length ≤ 768 := by rw [← uses_eq]; exact upTo_len c i 3
    have hr : rinstrOf c p i = (touchOf c i).all fun r => hasB r p.regs := by unfold rinstrOf; rw [h']; rfl
    obtain ⟨q, hq⟩ : ∃ q, q = touchOf c i := ⟨_, rfl⟩
    rw [hr, ← hq]
    unfold touchOf at hq
    clear hr
    have hw : (i.op = 23 ∧ writes i = false) ∨ (i.op = 24 ∧ writes i = false) ∨ (i.op = 25 ∧ writes i = false) ∨ ((i.op ≠ 23 ∧ i.op ≠ 24 ∧ i.op ≠ 25) ∧ writes i = true) := by
      unfold writes
      by_cases h1 : i.op = 23 <;> by_cases h2 : i.op = 24 <;> by_cases h3 : i.op = 25 <;> simp_all
    rcases use_cases c i with ⟨e1, e2⟩ | ⟨h0, e1, e2⟩
    all_goals
      rw [e1, e2] at hm
      generalize rusesOf c i = l at *
      generalize rsetsOf i = s at *
      rcases hw with ⟨w, w'⟩ | ⟨w, w'⟩ | ⟨w, w'⟩ | ⟨⟨w1, w2, w3⟩, w'⟩
    all_goals rw [w'] at hq
    all_goals (have hql : q.length ≤ 1000 := by rw [hq]; simp; omega)
    all_goals (first | simp [w] | simp [w1, w2, w3])
    all_goals (refine callKM.mk [] hm (by simp) ?_)
    · simp at hq
      subst hq
      simp
      refine W.loopL Pg_mixed hp lv_gradusref18_instr_0 [11] (fun j : Nat => j ≤ q.length ∧ ∀ k (hk : k < q.length), k < j → hasB q[k] p.regs = true) (fun j => [.c (.d (.int .i64 j))]) (fun _ => []) (fun j => q.length - j) 0 [] ⟨by simp, fun k _ h => by omega⟩ (by simp [lv_gradusref18_instr_0]) fun j ⟨g1, g2⟩ => ?_
      unfold lp_gradusref18_instr_0 lv_gradusref18_instr_0
      simp
      refine gd.mk (fun h => ?_) (fun h => ?_)
      · simp at h
        have hj : j < q.length := by omega
        simp [List.getElem?_eq_getElem hj]
        refine callK.mk (in_ok' _ _) ?_
        simp
        refine ⟨by decide, ?_⟩
        refine gd.mk (fun h => ?_) (fun h => ?_)
        · exact ⟨_, List.getElem_mem hj, by simpa using h⟩
        · refine Abs.Next.mk (j + 1) [] ⟨by omega, fun k hk hkj => ?_⟩ (by omega) (by simp; exact wrap_i64 (by omega) (by omega))
          by_cases e : k = j
          · subst e; simpa using h
          · exact g2 k hk (by omega)
      · simp at h
        first | exact all_yes (q := fun r => hasB r p.regs) (by omega) g2 | (intro x hx; obtain ⟨k, hk, rfl⟩ := List.getElem_of_mem hx; exact g2 k hk (by omega)) | (simp; intro x hx; obtain ⟨k, hk, rfl⟩ := List.getElem_of_mem hx; exact g2 k hk (by omega))
    · simp at hq
      subst hq
      simp
      refine W.loopL Pg_mixed hp lv_gradusref18_instr_0 [11] (fun j : Nat => j ≤ q.length ∧ ∀ k (hk : k < q.length), k < j → hasB q[k] p.regs = true) (fun j => [.c (.d (.int .i64 j))]) (fun _ => []) (fun j => q.length - j) 0 [] ⟨by simp, fun k _ h => by omega⟩ (by simp [lv_gradusref18_instr_0]) fun j ⟨g1, g2⟩ => ?_
      unfold lp_gradusref18_instr_0 lv_gradusref18_instr_0
      simp
      refine gd.mk (fun h => ?_) (fun h => ?_)
      · simp at h
        have hj : j < q.length := by omega
        simp [List.getElem?_eq_getElem hj]
        refine callK.mk (in_ok' _ _) ?_
        simp
        refine ⟨by decide, ?_⟩
        refine gd.mk (fun h => ?_) (fun h => ?_)
        · exact ⟨_, List.getElem_mem hj, by simpa using h⟩
        · refine Abs.Next.mk (j + 1) [] ⟨by omega, fun k hk hkj => ?_⟩ (by omega) (by simp; exact wrap_i64 (by omega) (by omega))
          by_cases e : k = j
          · subst e; simpa using h
          · exact g2 k hk (by omega)
      · simp at h
        first | exact all_yes (q := fun r => hasB r p.regs) (by omega) g2 | (intro x hx; obtain ⟨k, hk, rfl⟩ := List.getElem_of_mem hx; exact g2 k hk (by omega)) | (simp; intro x hx; obtain ⟨k, hk, rfl⟩ := List.getElem_of_mem hx; exact g2 k hk (by omega))
    · simp at hq
      subst hq
      simp [w]
      refine W.loopL Pg_mixed hp lv_gradusref18_instr_0 [11] (fun j : Nat => j ≤ q.length ∧ ∀ k (hk : k < q.length), k < j → hasB q[k] p.regs = true) (fun j => [.c (.d (.int .i64 j))]) (fun _ => []) (fun j => q.length - j) 0 [] ⟨by simp, fun k _ h => by omega⟩ (by simp [lv_gradusref18_instr_0]) fun j ⟨g1, g2⟩ => ?_
      unfold lp_gradusref18_instr_0 lv_gradusref18_instr_0
      simp
      refine gd.mk (fun h => ?_) (fun h => ?_)
      · simp at h
        have hj : j < q.length := by omega
        simp [List.getElem?_eq_getElem hj]
        refine callK.mk (in_ok' _ _) ?_
        simp
        refine ⟨by decide, ?_⟩
        refine gd.mk (fun h => ?_) (fun h => ?_)
        · exact ⟨_, List.getElem_mem hj, by simpa using h⟩
        · refine Abs.Next.mk (j + 1) [] ⟨by omega, fun k hk hkj => ?_⟩ (by omega) (by simp; exact wrap_i64 (by omega) (by omega))
          by_cases e : k = j
          · subst e; simpa using h
          · exact g2 k hk (by omega)
      · simp at h
        first | exact all_yes (q := fun r => hasB r p.regs) (by omega) g2 | (intro x hx; obtain ⟨k, hk, rfl⟩ := List.getElem_of_mem hx; exact g2 k hk (by omega)) | (simp; intro x hx; obtain ⟨k, hk, rfl⟩ := List.getElem_of_mem hx; exact g2 k hk (by omega))
    · cases l with
      | nil => 
        simp [w3, show encI ([] : List Int) = [] from rfl]
        refine W.loopL Pg_mixed hp lv_gradusref18_instr_0 [11, 10] (fun j : Nat => j ≤ q.length ∧ ∀ k (hk : k < q.length), k < j → hasB q[k] p.regs = true) (fun j => [.c (.d (.int .i64 j)), .c (.msl 1 0 0 q.length)]) (fun _ => [.arr 1 ((encI q).map (·.map .d))]) (fun j => q.length - j) 0 [0] ⟨by simp, fun k _ h => by omega⟩ (by subst hq; simp [lv_gradusref18_instr_0, encI, List.take_of_length_le]) fun j ⟨g1, g2⟩ => ?_
        unfold lp_gradusref18_instr_0 lv_gradusref18_instr_0
        simp
        refine gd.mk (fun h => ?_) (fun h => ?_)
        · simp at h
          have hj : j < q.length := by omega
          simp [List.getElem?_eq_getElem hj]
          refine ⟨hj, ?_⟩
          refine callK.mk (in_ok' _ _) ?_
          simp
          refine ⟨by decide, ?_⟩
          refine gd.mk (fun h => ?_) (fun h => ?_)
          · exact ⟨_, List.getElem_mem hj, by simpa using h⟩
          · refine Abs.Next.mk (j + 1) [0] ⟨by omega, fun k hk hkj => ?_⟩ (by omega) (by simp; exact wrap_i64 (by omega) (by omega))
            by_cases e : k = j
            · subst e; simpa using h
            · exact g2 k hk (by omega)
        · simp at h
          first | exact all_yes (q := fun r => hasB r p.regs) (by omega) g2 | (intro x hx; obtain ⟨k, hk, rfl⟩ := List.getElem_of_mem hx; exact g2 k hk (by omega)) | (simp; intro x hx; obtain ⟨k, hk, rfl⟩ := List.getElem_of_mem hx; exact g2 k hk (by omega))
      | cons x l =>
        simp [w3, show encI (x :: l) = [.int .i64 x] :: encI l from rfl]
        refine ⟨by simp at hlen ⊢; omega, ?_⟩
        refine W.loopL Pg_mixed hp lv_gradusref18_instr_0 [11, 10] (fun j : Nat => j ≤ q.length ∧ ∀ k (hk : k < q.length), k < j → hasB q[k] p.regs = true) (fun j => [.c (.d (.int .i64 j)), .c (.msl 1 0 0 q.length)]) (fun _ => [.arr 1 ((encI q).map (·.map .d))]) (fun j => q.length - j) 0 [0] ⟨by simp, fun k _ h => by omega⟩ (by subst hq; simp [lv_gradusref18_instr_0, encI, List.take_of_length_le]) fun j ⟨g1, g2⟩ => ?_
        unfold lp_gradusref18_instr_0 lv_gradusref18_instr_0
        simp
        refine gd.mk (fun h => ?_) (fun h => ?_)
        · simp at h
          have hj : j < q.length := by omega
          simp [List.getElem?_eq_getElem hj]
          refine ⟨hj, ?_⟩
          refine callK.mk (in_ok' _ _) ?_
          simp
          refine ⟨by decide, ?_⟩
          refine gd.mk (fun h => ?_) (fun h => ?_)
          · exact ⟨_, List.getElem_mem hj, by simpa using h⟩
          · refine Abs.Next.mk (j + 1) [0] ⟨by omega, fun k hk hkj => ?_⟩ (by omega) (by simp; exact wrap_i64 (by omega) (by omega))
            by_cases e : k = j
            · subst e; simpa using h
            · exact g2 k hk (by omega)
        · simp at h
          first | exact all_yes (q := fun r => hasB r p.regs) (by omega) g2 | (intro x hx; obtain ⟨k, hk, rfl⟩ := List.getElem_of_mem hx; exact g2 k hk (by omega)) | (simp; intro x hx; obtain ⟨k, hk, rfl⟩ := List.getElem_of_mem hx; exact g2 k hk (by omega))
    · simp
      refine W.loopL Pg_mixed hp lv_gradusref18_instr_0 [11, 10] (fun j : Nat => j ≤ q.length ∧ ∀ k (hk : k < q.length), k < j → hasB q[k] p.regs = true) (fun j => [.c (.d (.int .i64 j)), .c (.msl 1 0 0 q.length)]) (fun _ => [.arr 1 ((encI q).map (·.map .d))]) (fun j => q.length - j) 0 [0] ⟨by simp, fun k _ h => by omega⟩ (by subst hq; simp [lv_gradusref18_instr_0, encI, List.take_of_length_le]) fun j ⟨g1, g2⟩ => ?_
      unfold lp_gradusref18_instr_0 lv_gradusref18_instr_0
      simp
      refine gd.mk (fun h => ?_) (fun h => ?_)
      · simp at h
        have hj : j < q.length := by omega
        simp [List.getElem?_eq_getElem hj]
        refine ⟨hj, ?_⟩
        refine callK.mk (in_ok' _ _) ?_
        simp
        refine ⟨by decide, ?_⟩
        refine gd.mk (fun h => ?_) (fun h => ?_)
        · exact ⟨_, List.getElem_mem hj, by simpa using h⟩
        · refine Abs.Next.mk (j + 1) [0] ⟨by omega, fun k hk hkj => ?_⟩ (by omega) (by simp; exact wrap_i64 (by omega) (by omega))
          by_cases e : k = j
          · subst e; simpa using h
          · exact g2 k hk (by omega)
      · simp at h
        first | exact all_yes (q := fun r => hasB r p.regs) (by omega) g2 | (intro x hx; obtain ⟨k, hk, rfl⟩ := List.getElem_of_mem hx; exact g2 k hk (by omega)) | (simp; intro x hx; obtain ⟨k, hk, rfl⟩ := List.getElem_of_mem hx; exact g2 k hk (by omega))
    · simp
      refine W.loopL Pg_mixed hp lv_gradusref18_instr_0 [11, 10] (fun j : Nat => j ≤ q.length ∧ ∀ k (hk : k < q.length), k < j → hasB q[k] p.regs = true) (fun j => [.c (.d (.int .i64 j)), .c (.msl 1 0 0 q.length)]) (fun _ => [.arr 1 ((encI q).map (·.map .d))]) (fun j => q.length - j) 0 [0] ⟨by simp, fun k _ h => by omega⟩ (by subst hq; simp [lv_gradusref18_instr_0, encI, List.take_of_length_le]) fun j ⟨g1, g2⟩ => ?_
      unfold lp_gradusref18_instr_0 lv_gradusref18_instr_0
      simp
      refine gd.mk (fun h => ?_) (fun h => ?_)
      · simp at h
        have hj : j < q.length := by omega
        simp [List.getElem?_eq_getElem hj]
        refine ⟨hj, ?_⟩
        refine callK.mk (in_ok' _ _) ?_
        simp
        refine ⟨by decide, ?_⟩
        refine gd.mk (fun h => ?_) (fun h => ?_)
        · exact ⟨_, List.getElem_mem hj, by simpa using h⟩
        · refine Abs.Next.mk (j + 1) [0] ⟨by omega, fun k hk hkj => ?_⟩ (by omega) (by simp; exact wrap_i64 (by omega) (by omega))
          by_cases e : k = j
          · subst e; simpa using h
          · exact g2 k hk (by omega)
      · simp at h
        first | exact all_yes (q := fun r => hasB r p.regs) (by omega) g2 | (intro x hx; obtain ⟨k, hk, rfl⟩ := List.getElem_of_mem hx; exact g2 k hk (by omega)) | (simp; intro x hx; obtain ⟨k, hk, rfl⟩ := List.getElem_of_mem hx; exact g2 k hk (by omega))
    · simp [w]
      refine W.loopL Pg_mixed hp lv_gradusref18_instr_0 [11, 10] (fun j : Nat => j ≤ q.length ∧ ∀ k (hk : k < q.length), k < j → hasB q[k] p.regs = true) (fun j => [.c (.d (.int .i64 j)), .c (.msl 1 0 0 q.length)]) (fun _ => [.arr 1 ((encI q).map (·.map .d))]) (fun j => q.length - j) 0 [0] ⟨by simp, fun k _ h => by omega⟩ (by subst hq; simp [lv_gradusref18_instr_0, encI, List.take_of_length_le]) fun j ⟨g1, g2⟩ => ?_
      unfold lp_gradusref18_instr_0 lv_gradusref18_instr_0
      simp
      refine gd.mk (fun h => ?_) (fun h => ?_)
      · simp at h
        have hj : j < q.length := by omega
        simp [List.getElem?_eq_getElem hj]
        refine ⟨hj, ?_⟩
        refine callK.mk (in_ok' _ _) ?_
        simp
        refine ⟨by decide, ?_⟩
        refine gd.mk (fun h => ?_) (fun h => ?_)
        · exact ⟨_, List.getElem_mem hj, by simpa using h⟩
        · refine Abs.Next.mk (j + 1) [0] ⟨by omega, fun k hk hkj => ?_⟩ (by omega) (by simp; exact wrap_i64 (by omega) (by omega))
          by_cases e : k = j
          · subst e; simpa using h
          · exact g2 k hk (by omega)
      · simp at h
        first | exact all_yes (q := fun r => hasB r p.regs) (by omega) g2 | (intro x hx; obtain ⟨k, hk, rfl⟩ := List.getElem_of_mem hx; exact g2 k hk (by omega)) | (simp; intro x hx; obtain ⟨k, hk, rfl⟩ := List.getElem_of_mem hx; exact g2 k hk (by omega))
    · simp [w3]
      refine ⟨by omega, ?_⟩
      refine W.loopL Pg_mixed hp lv_gradusref18_instr_0 [11, 10] (fun j : Nat => j ≤ q.length ∧ ∀ k (hk : k < q.length), k < j → hasB q[k] p.regs = true) (fun j => [.c (.d (.int .i64 j)), .c (.msl 1 0 0 q.length)]) (fun _ => [.arr 1 ((encI q).map (·.map .d))]) (fun j => q.length - j) 0 [1] ⟨by simp, fun k _ h => by omega⟩ (by subst hq; simp [lv_gradusref18_instr_0, encI, List.take_of_length_le]) fun j ⟨g1, g2⟩ => ?_
      unfold lp_gradusref18_instr_0 lv_gradusref18_instr_0
      simp
      refine gd.mk (fun h => ?_) (fun h => ?_)
      · simp at h
        have hj : j < q.length := by omega
        simp [List.getElem?_eq_getElem hj]
        refine ⟨hj, ?_⟩
        refine callK.mk (in_ok' _ _) ?_
        simp
        refine ⟨by decide, ?_⟩
        refine gd.mk (fun h => ?_) (fun h => ?_)
        · exact ⟨_, List.getElem_mem hj, by simpa using h⟩
        · refine Abs.Next.mk (j + 1) [0] ⟨by omega, fun k hk hkj => ?_⟩ (by omega) (by simp; exact wrap_i64 (by omega) (by omega))
          by_cases e : k = j
          · subst e; simpa using h
          · exact g2 k hk (by omega)
      · simp at h
        first | exact all_yes (q := fun r => hasB r p.regs) (by omega) g2 | (intro x hx; obtain ⟨k, hk, rfl⟩ := List.getElem_of_mem hx; exact g2 k hk (by omega)) | (simp; intro x hx; obtain ⟨k, hk, rfl⟩ := List.getElem_of_mem hx; exact g2 k hk (by omega))
end Go.Gr

/- The reference's look at one process. -/
set_option linter.unusedVariables false
set_option linter.unusedSimpArgs false
namespace Go.Gr
open Go.Abs Go.Proofs

def rprocOf (c : Cod) (p : Prc) : Bool :=
  !(decide (p.caps < 0 ∨ p.regs ≤ p.caps ∨ 256 < p.regs ∨ p.code.length = 0 ∨ 65536 < p.code.length)) &&
  ((match p.code[p.code.length - 1]? with | some i => decide (i.op = 23 ∨ i.op = 24) | none => false) && p.code.all (rinstrOf c p))

theorem all_noI {α : Type} {l : List α} {q : α → Bool} {j : Nat} (hj : j < l.length) (h : q l[j] = false) : l.all q = false := by
  rw [List.all_eq_false]; exact ⟨_, List.getElem_mem hj, by rw [h]; simp⟩
theorem all_yesI {α : Type} {l : List α} {q : α → Bool} {j : Nat} (hj : l.length ≤ j) (h : ∀ k (hk : k < l.length), k < j → q l[k] = true) : l.all q = true := by
  rw [List.all_eq_true]
  intro x hx
  obtain ⟨k, hk, rfl⟩ := List.getElem_of_mem hx
  exact h k hk (by omega)

set_option maxRecDepth 20000 in
set_option maxHeartbeats 1000000 in
theorem rproc_ok (c : Cod) (p : Prc) : PCall Pg F.gradusref18_proc [.agg c.enc, .agg p.enc] (.one (.bool (rprocOf c p))) := by
  refine w_gradusref18_proc (by simp) fun o c' hN hp => ?_
  have hl : p.code.length ≤ lenMax := by
    have := o.2.1; simp only [DV.ok, Prc.enc, D.okL, D.ok] at this; simpa using this.2.2.1.1
  unfold lenMax at hl
  unfold mc_gradusref18_proc
  simp
  generalize hr : rprocOf c p = r at *
  by_cases hbad : p.caps < 0 ∨ p.regs ≤ p.caps ∨ 256 < p.regs ∨ p.code.length = 0 ∨ 65536 < p.code.length
  · have e : r = false := by rw [← hr]; unfold rprocOf; rw [decide_eq_true hbad]; rfl
    subst e
    repeat' (refine gd.mk (fun h => ?_) (fun h => ?_))
    all_goals (simp only [Bool.not_true, Bool.not_false, decide_eq_true_eq, decide_eq_false_iff_not] at *)
    all_goals (exfalso; omega)
  · have hne : p.code.length ≠ 0 := by omega
    have hw : IntKind.i64.wrap ((p.code.length : Int) - 1) = ((p.code.length - 1 : Nat) : Int) := by
      rw [wrap_i64 (by omega) (by omega)]; omega
    have hj : p.code.length - 1 < p.code.length := by omega
    have e : r = (decide (p.code[p.code.length - 1].op = 23 ∨ p.code[p.code.length - 1].op = 24) && p.code.all (rinstrOf c p)) := by
      rw [← hr]
      unfold rprocOf
      rw [decide_eq_false hbad, List.getElem?_eq_getElem hj]
      rfl
    rw [hw]
    repeat' (refine gd.mk (fun h => ?_) (fun h => ?_))
    all_goals (simp only [Bool.not_true, Bool.not_false, decide_eq_true_eq, decide_eq_false_iff_not] at *)
    all_goals (try (exfalso; omega))
    simp [List.getElem?_eq_getElem hj]
    generalize p.code[p.code.length - 1] = z at *
    refine gd.mk (fun h1 => gd.mk (fun h2 => ?_) (fun h2 => ?_)) (fun h1 => ?_)
    · simp at h1 h2
      rw [e, decide_eq_false (by omega)]; rfl
    · have er : r = p.code.all (rinstrOf c p) := by
        simp at h1 h2
        rw [e, decide_eq_true (by omega)]; rfl
      refine W.loopL Pg_mixed hp lv_gradusref18_proc_0 [7] (fun j : Nat => j ≤ p.code.length ∧ ∀ k (hk : k < p.code.length), k < j → rinstrOf c p p.code[k] = true) (fun j => [.c (.d (.int .i64 j))]) (fun _ => []) (fun j => p.code.length - j) 0 [] ⟨by simp, fun k _ h => by omega⟩ (by simp [lv_gradusref18_proc_0]) fun j ⟨g1, g2⟩ => ?_
      unfold lp_gradusref18_proc_0 lv_gradusref18_proc_0
      simp
      refine gd.mk (fun h => ?_) (fun h => ?_)
      · simp at h
        have hj : j < p.code.length := by omega
        simp [List.getElem?_eq_getElem hj]
        refine callK.mk (rinstr_ok _ _ _) ?_
        simp
        refine ⟨by decide, ?_⟩
        refine gd.mk (fun h => ?_) (fun h => ?_)
        · rw [er, all_noI hj (by simpa using h)]
        · refine Abs.Next.mk (j + 1) [] ⟨by omega, fun k hk hkj => ?_⟩ (by omega) (by simp; exact wrap_i64 (by omega) (by omega))
          by_cases e : k = j
          · subst e; simpa using h
          · exact g2 k hk (by omega)
      · simp at h
        rw [er, all_yesI (by omega) g2]
    · have er : r = p.code.all (rinstrOf c p) := by
        simp at h1
        rw [e, decide_eq_true (by omega)]; rfl
      refine W.loopL Pg_mixed hp lv_gradusref18_proc_0 [7] (fun j : Nat => j ≤ p.code.length ∧ ∀ k (hk : k < p.code.length), k < j → rinstrOf c p p.code[k] = true) (fun j => [.c (.d (.int .i64 j))]) (fun _ => []) (fun j => p.code.length - j) 0 [] ⟨by simp, fun k _ h => by omega⟩ (by simp [lv_gradusref18_proc_0]) fun j ⟨g1, g2⟩ => ?_
      unfold lp_gradusref18_proc_0 lv_gradusref18_proc_0
      simp
      refine gd.mk (fun h => ?_) (fun h => ?_)
      · simp at h
        have hj : j < p.code.length := by omega
        simp [List.getElem?_eq_getElem hj]
        refine callK.mk (rinstr_ok _ _ _) ?_
        simp
        refine ⟨by decide, ?_⟩
        refine gd.mk (fun h => ?_) (fun h => ?_)
        · rw [er, all_noI hj (by simpa using h)]
        · refine Abs.Next.mk (j + 1) [] ⟨by omega, fun k hk hkj => ?_⟩ (by omega) (by simp; exact wrap_i64 (by omega) (by omega))
          by_cases e : k = j
          · subst e; simpa using h
          · exact g2 k hk (by omega)
      · simp at h
        rw [er, all_yesI (by omega) g2]
end Go.Gr

/- The reference's look at a code. -/
set_option linter.unusedVariables false
set_option linter.unusedSimpArgs false
namespace Go.Gr
open Go.Abs Go.Proofs

def capOk (p : Prc) : Bool := decide (0 ≤ p.caps) && decide (p.caps < 256)
def rverifyOf (c : Cod) : Bool :=
  !decide (4096 < (c.procs.length : Int)) && (mainOk c && (c.procs.all capOk && (c.procs.all (rprocOf c) && (c.cos.all mayC && c.shapes.all risesB))))

theorem rises_take {l : List ByteArray} : risesB l = true ↔ ∀ i (h : i + 1 < l.length), leS l[i + 1] l[i] = false := by
  constructor
  · intro h i hi
    cases e : leS l[i + 1] l[i] with
    | false => rfl
    | true => rw [risesB_at hi e] at h; cases h
  · exact fun h => risesB_all h

theorem okE_rows : ∀ {l : List (List ByteArray)}, D.okE 1 (l.map fun x => [.sl false 1 (encS x)]) → ∀ x, x ∈ l → x.length ≤ lenMax
  | [], _, x, h => by cases h
  | y :: l, o, x, h => by
    simp only [List.map_cons, D.okE, D.okL, D.ok] at o
    rcases List.mem_cons.1 h with rfl | h
    · simpa using o.1.2.1.1
    · exact okE_rows o.2 x h

set_option maxRecDepth 20000 in
set_option maxHeartbeats 4000000 in
theorem rVerify_ok (c : Cod) : PCall Pg F.gradusref18_Verify [.agg c.enc] (.one (.bool (rverifyOf c))) := by
  refine w_gradusref18_Verify (by simp) fun o c' hN hp => ?_
  have hl : c.procs.length ≤ lenMax ∧ c.cos.length ≤ lenMax ∧ c.shapes.length ≤ lenMax ∧ ∀ x, x ∈ c.shapes → x.length ≤ lenMax := by
    have := o.1
    simp only [DV.ok, Cod.enc, D.okL, D.ok] at this
    exact ⟨by simpa using this.2.2.2.2.1.1, by simpa using this.2.2.2.1.1, by simpa using this.2.2.1.1, okE_rows this.2.2.1.2⟩
  unfold lenMax at hl
  obtain ⟨hl1, hl2, hl3, hl4⟩ := hl
  unfold mc_gradusref18_Verify
  simp
  generalize hr : rverifyOf c = r at *
  refine callK.mk (in_ok' _ _) ?_
  simp
  by_cases hbig : 4096 < (c.procs.length : Int)
  · have e : r = false := by rw [← hr]; unfold rverifyOf; rw [decide_eq_true hbig]; rfl
    simp [hbig, e]
  have e1 : r = (mainOk c && (c.procs.all capOk && (c.procs.all (rprocOf c) && (c.cos.all mayC && c.shapes.all risesB)))) := by
    rw [← hr]; unfold rverifyOf; rw [decide_eq_false hbig]; rfl
  cases hm : hasB c.main c.procs.length with
  | false =>
    have e : r = false := by rw [e1]; unfold mainOk; rw [hm]; rfl
    simp [hbig, e]
  | true =>
    have h2 := hasB_true.1 hm
    have hmm : c.main.toNat < c.procs.length := by omega
    have hcap : capsOf c c.main = c.procs[c.main.toNat].caps := by
      unfold capsOf; rw [if_pos h2.1, List.getElem?_eq_getElem hmm]
    simp [hbig, List.getElem?_eq_getElem hmm]
    refine ⟨h2.1, gd.mk (fun h3 => ?_) (fun h3 => ?_)⟩
    · simp at h3
      rw [e1, mainOk, hcap, decide_eq_false h3, Bool.and_false, Bool.false_and]
    simp at h3
    have e2 : r = (c.procs.all capOk && (c.procs.all (rprocOf c) && (c.cos.all mayC && c.shapes.all risesB))) := by
      rw [e1, mainOk, hcap, decide_eq_true h3, Bool.and_true, hm, Bool.true_and]
    clear hcap h3
    refine W.loopL Pg_mixed hp lv_gradusref18_Verify_0 [4] (fun j : Nat => j ≤ c.procs.length ∧ ∀ k (hk : k < c.procs.length), k < j → capOk c.procs[k] = true) (fun j => [.c (.d (.int .i64 j))]) (fun _ => []) (fun j => c.procs.length - j) 0 [] ⟨by simp, fun k _ h => by omega⟩ (by simp [lv_gradusref18_Verify_0]) fun j ⟨g1, g2⟩ => ?_
    unfold lp_gradusref18_Verify_0 lv_gradusref18_Verify_0
    try simp
    refine gd.mk (fun h => ?_) (fun h => ?_)
    · simp at h
      have hj : j < c.procs.length := by omega
      simp [List.getElem?_eq_getElem hj]
      have hc : capOk c.procs[j] = (decide (0 ≤ c.procs[j].caps) && decide (c.procs[j].caps < 256)) := rfl
      have next : capOk c.procs[j] = true → ∀ k (hk : k < c.procs.length), k < j + 1 → capOk c.procs[k] = true := by
        intro h k hk hkj
        by_cases e : k = j
        · subst e; exact h
        · exact g2 k hk (by omega)
      refine gd.mk (fun h1 => gd.mk (fun h2 => ?_) (fun h2 => ?_)) (fun h1 => ?_)
      · rw [e2, all_noI hj (by simp at h1 h2; rw [hc, decide_eq_true h1, decide_eq_false (by omega)]; rfl)]; rfl
      · refine Abs.Next.mk (j + 1) [] ⟨by omega, next (by simp at h1 h2; rw [hc, decide_eq_true h1, decide_eq_true (by omega)]; rfl)⟩ (by omega) (by simp; exact wrap_i64 (by omega) (by omega))
      · rw [e2, all_noI hj (by simp at h1; rw [hc, decide_eq_false (by omega)]; rfl)]; rfl
    simp at h
    have e3 : r = (c.procs.all (rprocOf c) && (c.cos.all mayC && c.shapes.all risesB)) := by
      rw [e2, all_yesI (by omega) g2]; rfl
    clear g2 e2 e1 h g1
    try simp
    refine W.loopL Pg_mixed hp lv_gradusref18_Verify_2 [6] (fun j : Nat => j ≤ c.procs.length ∧ ∀ k (hk : k < c.procs.length), k < j → rprocOf c c.procs[k] = true) (fun j => [.c (.d (.int .i64 j))]) (fun _ => []) (fun j => c.procs.length - j) 0 [] ⟨by simp, fun k _ h => by omega⟩ (by simp [lv_gradusref18_Verify_2]) fun j ⟨g1, g2⟩ => ?_
    unfold lp_gradusref18_Verify_2 lv_gradusref18_Verify_2
    try simp
    refine gd.mk (fun h => ?_) (fun h => ?_)
    · simp at h
      have hj : j < c.procs.length := by omega
      simp [List.getElem?_eq_getElem hj]
      refine callK.mk (rproc_ok _ _) ?_
      simp
      refine ⟨by decide, ?_⟩
      refine gd.mk (fun h => ?_) (fun h => ?_)
      · rw [e3, all_noI hj (by simpa using h)]; rfl
      · refine Abs.Next.mk (j + 1) [] ⟨by omega, fun k hk hkj => ?_⟩ (by omega) (by simp; exact wrap_i64 (by omega) (by omega))
        by_cases e : k = j
        · subst e; simpa using h
        · exact g2 k hk (by omega)
    simp at h
    have e4 : r = (c.cos.all mayC && c.shapes.all risesB) := by
      rw [e3, all_yesI (by omega) g2]; rfl
    clear g2 e3 h g1
    try simp
    refine W.loopL Pg_mixed hp lv_gradusref18_Verify_4 [8] (fun j : Nat => j ≤ c.cos.length ∧ ∀ k (hk : k < c.cos.length), k < j → mayC c.cos[k] = true) (fun j => [.c (.d (.int .i64 j))]) (fun _ => []) (fun j => c.cos.length - j) 0 [] ⟨by simp, fun k _ h => by omega⟩ (by simp [lv_gradusref18_Verify_4]) fun j ⟨g1, g2⟩ => ?_
    unfold lp_gradusref18_Verify_4 lv_gradusref18_Verify_4
    try simp
    refine gd.mk (fun h => ?_) (fun h => ?_)
    · simp at h
      have hj : j < c.cos.length := by omega
      simp [List.getElem?_eq_getElem hj]
      refine callK.mk (rMay_ok _) ?_
      simp
      refine gd.mk (fun h => ?_) (fun h => ?_)
      · rw [e4, all_noI hj (by simpa using h)]; rfl
      · refine Abs.Next.mk (j + 1) [] ⟨by omega, fun k hk hkj => ?_⟩ (by omega) (by simp; exact wrap_i64 (by omega) (by omega))
        by_cases e : k = j
        · subst e; simpa using h
        · exact g2 k hk (by omega)
    simp at h
    have e5 : r = c.shapes.all risesB := by
      rw [e4, all_yesI (by omega) g2]; rfl
    clear g2 e4 h g1
    try simp
    refine W.loopL Pg_mixed hp lv_gradusref18_Verify_6 [10] (fun j : Nat => j ≤ c.shapes.length ∧ ∀ k (hk : k < c.shapes.length), k < j → risesB c.shapes[k] = true) (fun j => [.c (.d (.int .i64 j))]) (fun _ => []) (fun j => c.shapes.length - j) 0 [] ⟨by simp, fun k _ h => by omega⟩ (by simp [lv_gradusref18_Verify_6]) fun j ⟨g1, g2⟩ => ?_
    unfold lp_gradusref18_Verify_6 lv_gradusref18_Verify_6
    try simp
    refine gd.mk (fun h => ?_) (fun h => ?_)
    · simp at h
      have hj : j < c.shapes.length := by omega
      have hn := hl4 _ (List.getElem_mem hj)
      obtain ⟨L, hL⟩ : ∃ L, L = c.shapes[j] := ⟨_, rfl⟩
      rw [← hL] at hn
      refine W.loopL Pg_mixed hp lv_gradusref18_Verify_8 [11] (fun i : Nat => ∀ k (hk : k + 1 < L.length), k < i → leS L[k + 1] L[k] = false) (fun i => [.c (.d (.int .i64 (i + 1 : Nat)))]) (fun _ => []) (fun i => L.length - i) 0 [] (fun k _ h => by omega) (by simp [lv_gradusref18_Verify_8]) fun i f2 => ?_
      unfold lp_gradusref18_Verify_8 lv_gradusref18_Verify_8
      simp [List.getElem?_eq_getElem hj, ← hL]
      refine gd.mk (fun h => ?_) (fun h => ?_)
      · simp at h
        have hi : i + 1 < L.length := by omega
        have hi' : i < L.length := by omega
        have hw : IntKind.i64.wrap (i : Int) = i := wrap_i64 (by omega) (by omega)
        simp [hw, List.getElem?_eq_getElem hi, List.getElem?_eq_getElem hi']
        refine ⟨by omega, by decide, gd.mk (fun h => ?_) (fun h => ?_)⟩
        · rw [e5, all_noI hj (by rw [← hL]; exact risesB_at hi (by unfold leS; exact h))]
        · refine Abs.Next.mk (i + 1) [] (fun k hk hki => ?_) (by omega) (by simp; rw [wrap_i64 (by omega) (by omega)])
          by_cases e : k = i
          · subst e; unfold leS; exact h
          · exact f2 k hk (by omega)
      · simp at h
        refine Abs.Next.mk (j + 1) [] ⟨by omega, fun k hk hkj => ?_⟩ (by omega) (by simp; exact wrap_i64 (by omega) (by omega))
        by_cases e : k = j
        · subst e; rw [← hL]; exact risesB_all fun k hk => f2 k hk (by omega)
        · exact g2 k hk (by omega)
    · simp at h
      rw [e5, all_yesI (by omega) g2]
end Go.Gr

/- Both looks at a code answer alike. -/
set_option linter.unusedVariables false
set_option linter.unusedSimpArgs false
namespace Go.Gr
open Go.Abs Go.Proofs

theorem row_all {a n r : Int} (h0 : 0 ≤ a) (h1 : a + n ≤ r) (h2 : r ≤ 256) (h3 : a ≤ r) : ((rowOf a n).all fun x => hasB x r) = true := by
  unfold rowOf
  split
  · rw [List.all_eq_true]
    intro x hx
    simp only [rowL, List.mem_map, List.mem_range] at hx
    obtain ⟨k, hk, rfl⟩ := hx
    rw [wrap_i64 (by omega) (by omega), hasB_true]
    omega
  · rfl

theorem span_eq {a n r : Int} (hr : 0 ≤ r) (h2 : r ≤ 256) (X : Bool) (hX : 0 ≤ a → a + n ≤ r → a ≤ r → X = true) :
    (hasB a (IntKind.i64.wrap (r + 1)) && decide (n ≤ IntKind.i64.wrap (r - a))) = ((hasB a (IntKind.i64.wrap (r + 1)) && decide (n ≤ IntKind.i64.wrap (r - a))) && X) := by
  rw [wrap_i64 (show _ ≤ r + 1 by omega) (by omega)]
  cases h : hasB a (r + 1) with
  | false => rfl
  | true =>
    have := hasB_true.1 h
    rw [wrap_i64 (by omega) (by omega)]
    by_cases hn : n ≤ r - a
    · rw [hX this.1 (by omega) (by omega)]; simp
    · rw [decide_eq_false hn]; rfl

theorem caps_in {c : Cod} {n : Int} (h : hasB n c.procs.length = false) : capsOf c n = -1 := capsOf_not (by simp [hasB] at h; omega)

theorem and_shape {A Z R : Bool} (h : Z = (Z && R)) : (A && (true && Z)) = (true && Z && (R && A)) := by
  revert h; cases A <;> cases Z <;> cases R <;> decide

set_option maxRecDepth 20000 in
set_option maxHeartbeats 2000000 in
theorem instr_eq (c : Cod) (p : Prc) (i : Ins) (hp : 0 ≤ p.regs ∧ p.regs ≤ 256) : instrOf c p i = rinstrOf c p i := by
  have m17 : i.op = 17 → hasB i.b c.procs.length = true → manyOf c i = capsOf c i.b := fun h1 h2 => by
    have := hasB_true.1 h2; unfold manyOf; rw [if_pos ⟨h1, this⟩]
  have m18 : i.op = 18 → hasB i.b c.shapes.length = true → manyOf c i = fieldsOf c i.b := fun h1 h2 => by
    have := hasB_true.1 h2; unfold manyOf; rw [if_neg (by omega), if_pos ⟨h1, this⟩]
  have r17 := fun X => @span_eq i.c (capsOf c i.b) p.regs hp.1 hp.2 X
  have r18 := fun X => @span_eq i.c (fieldsOf c i.b) p.regs hp.1 hp.2 X
  have x17 := r17 _ fun h1 h2 h3 => row_all h1 h2 hp.2 h3
  have x18 := r18 _ fun h1 h2 h3 => row_all h1 h2 hp.2 h3
  have c16 := @caps_in c i.b
  clear r17 r18
  obtain ⟨op, a, b, d⟩ := i
  by_cases h : 0 ≤ op ∧ op < 33
  · obtain ⟨h0, h1⟩ := h
    simp only at m17 m18 x17 x18 c16
    rcases op_cases h0 h1 with h | h | h | h | h | h | h | h | h | h | h | h | h | h | h | h | h | h | h | h | h | h | h | h | h | h | h | h | h | h | h | h | h <;> subst h
    case inr.inr.inr.inr.inr.inr.inr.inr.inr.inr.inr.inr.inr.inr.inr.inr.inl =>
      simp [instrOf, colOk, operandOf, colS, colN, sortOf, rowsT, rinstrOf, constsOf, touchOf, writes, rusesOf, rsetsOf]
      cases h : hasB b c.procs.length with
      | true => simp [Bool.and_comm]
      | false => simp [c16 h]
    case inr.inr.inr.inr.inr.inr.inr.inr.inr.inr.inr.inr.inr.inr.inr.inr.inr.inl =>
      simp only [instrOf, colOk, operandOf, colS, colN, sortOf, rowsT, rinstrOf, constsOf, touchOf, writes, rusesOf, rsetsOf]
      simp
      cases h : hasB b c.procs.length with
      | false => simp
      | true =>
        rw [m17 rfl h]
        exact and_shape x17
    case inr.inr.inr.inr.inr.inr.inr.inr.inr.inr.inr.inr.inr.inr.inr.inr.inr.inr.inl =>
      simp only [instrOf, colOk, operandOf, colS, colN, sortOf, rowsT, rinstrOf, constsOf, touchOf, writes, rusesOf, rsetsOf]
      simp
      cases h : hasB b c.shapes.length with
      | false => simp
      | true =>
        rw [m18 rfl h]
        exact and_shape x18
    all_goals
      simp [instrOf, colOk, operandOf, colS, colN, sortOf, rowsT, rinstrOf, constsOf, touchOf, writes, rusesOf, rsetsOf, show ∀ n, hasB n 33 = (decide (0 ≤ n) && decide (n < 33)) from fun _ => rfl]
      try simp [Bool.and_comm, Bool.and_left_comm, Bool.and_assoc]
  · unfold instrOf rinstrOf constsOf
    simp only
    rw [decide_eq_false h, Bool.false_and]
    repeat (rw [if_neg (by omega)])
    have e : hasB op 33 = false := by unfold hasB; simp; omega
    rw [e, Bool.false_and]
theorem any_not {α : Type} (l : List α) (q : α → Bool) : (!(l.any fun x => !q x)) = l.all q := by
  induction l with
  | nil => rfl
  | cons x l ih => simp only [List.any_cons, List.all_cons, Bool.not_or, Bool.not_not]; rw [ih]

theorem proc_eq (c : Cod) (p : Prc) : procOf c p = (capOk p && rprocOf c p) := by
  unfold procOf rprocOf
  by_cases h : p.caps < 0 ∨ p.regs ≤ p.caps ∨ 256 < p.regs ∨ p.code.length = 0 ∨ 65536 < p.code.length
  · rw [decide_eq_true h]; simp
  · rw [decide_eq_false h]
    have e : capOk p = true := by unfold capOk; rw [decide_eq_true (by omega), decide_eq_true (by omega)]; rfl
    rw [e, any_not, show instrOf c p = rinstrOf c p from funext fun i => instr_eq c p i (by omega)]
    rfl

theorem all_and {α : Type} (l : List α) (q r : α → Bool) : (l.all fun x => q x && r x) = (l.all q && l.all r) := by
  induction l with
  | nil => rfl
  | cons x l ih => simp only [List.all_cons]; rw [ih]; cases q x <;> cases r x <;> simp

theorem verify_eq (c : Cod) : verifyOf mayC risesB c = rverifyOf c := by
  unfold verifyOf rverifyOf
  rw [any_not, any_not, show procOf c = (fun p => capOk p && rprocOf c p) from funext fun p => proc_eq c p, all_and, Bool.and_assoc]
end Go.Gr

/- The law of any code. -/
set_option linter.unusedVariables false
set_option linter.unusedSimpArgs false
namespace Go.Gr
open Go.Abs Go.Proofs

theorem vVerify_ok' (c : Cod) : PCall Pg F.verify_Verify [.agg c.enc] (.one (.bool (rverifyOf c))) := by
  rw [← verify_eq]; exact vVerify_ok c

theorem VerifyCodes_ok (c : Cod) : PCall Pg F.graduslaw18_VerifyCodes [.agg c.enc] (.one (.bool true)) := by
  refine w_graduslaw18_VerifyCodes (by simp) fun o c' hN hp => ?_
  unfold mc_graduslaw18_VerifyCodes
  simp
  refine callK.mk awake_ok ?_
  simp
  refine callK.mk (Sized_ok c) ?_
  simp
  refine gd.mk (fun h => ?_) (fun h => ?_)
  · trivial
  · refine callK.mk (vVerify_ok' c) ?_
    simp
    refine callK.mk (rVerify_ok c) ?_
    simp
    decide
end Go.Gr

/- From the claims' readings to the data of the program's types. -/
set_option linter.unusedVariables false
set_option linter.unusedSimpArgs false
namespace Go.Gr
open Go.Abs Go.Proofs

theorem u3 : Try.prog.underlying 3 = some (.int .i64) := Try.underlying3
variable {n : Nat} {ds : List D}

theorem sh_ints (h : ShapeF Try.prog n 22 ds) : ∃ l : List Int, ds = [.sl false 1 (encI l)] :=
  shape_slice (enc := fun i : Int => [.int .i64 i]) Try.underlying22 (by kernel_rfl) (fun m _ x hx => shape_int Try.underlying3 hx) h
theorem sh_strs (h : ShapeF Try.prog n 23 ds) : ∃ l : List ByteArray, ds = [.sl false 1 (encS l)] :=
  shape_slice (enc := fun i : ByteArray => [.str i]) Try.underlying23 (by kernel_rfl) (fun m _ x hx => shape_str Try.underlying9 hx) h
theorem sh_shapes (h : ShapeF Try.prog n 24 ds) : ∃ l : List (List ByteArray), ds = [.sl false 1 (l.map fun l => [.sl false 1 (encS l)])] :=
  shape_slice (enc := fun l : List ByteArray => [.sl false 1 (encS l)]) Try.underlying24 (by kernel_rfl) (fun m _ x hx => sh_strs hx) h
theorem sh_need (h : ShapeF Try.prog n 66 ds) : ∃ x : ByteArray × Int, ds = [.str x.1, .int .i64 x.2] := by
  obtain ⟨m, _, h⟩ := shape_struct Try.underlying66 h
  obtain ⟨a, b, rfl, ha, h⟩ := shape_cons h
  obtain ⟨c, d, rfl, hc, h⟩ := shape_cons h
  obtain rfl := shape_nil h
  obtain ⟨s, rfl⟩ := shape_str Try.underlying9 ha
  obtain ⟨i, rfl⟩ := shape_int Try.underlying3 hc
  exact ⟨(s, i), rfl⟩
theorem sh_needs (h : ShapeF Try.prog n 41 ds) : ∃ l : List (ByteArray × Int), ds = [.sl false 2 (encN l)] :=
  shape_slice (enc := fun x : ByteArray × Int => [.str x.1, .int .i64 x.2]) Try.underlying41 (by kernel_rfl) (fun m _ x hx => sh_need hx) h
theorem sh_ins (h : ShapeF Try.prog n 32 ds) : ∃ i : Ins, ds = i.enc := by
  obtain ⟨m, _, h⟩ := shape_struct Try.underlying32 h
  obtain ⟨a, b, rfl, ha, h⟩ := shape_cons h
  obtain ⟨a1, b, rfl, ha1, h⟩ := shape_cons h
  obtain ⟨a2, b, rfl, ha2, h⟩ := shape_cons h
  obtain ⟨a3, b, rfl, ha3, h⟩ := shape_cons h
  obtain rfl := shape_nil h
  obtain ⟨i, rfl⟩ := shape_int Try.underlying3 ha
  obtain ⟨i1, rfl⟩ := shape_int Try.underlying3 ha1
  obtain ⟨i2, rfl⟩ := shape_int Try.underlying3 ha2
  obtain ⟨i3, rfl⟩ := shape_int Try.underlying3 ha3
  exact ⟨⟨i, i1, i2, i3⟩, rfl⟩
theorem sh_inss (h : ShapeF Try.prog n 33 ds) : ∃ l : List Ins, ds = [.sl false 4 (l.map Ins.enc)] :=
  shape_slice (enc := Ins.enc) Try.underlying33 (by kernel_rfl) (fun m _ x hx => sh_ins hx) h
theorem sh_proc (h : ShapeF Try.prog n 35 ds) : ∃ i : Prc, ds = i.enc := by
  obtain ⟨m, _, h⟩ := shape_struct Try.underlying35 h
  obtain ⟨a, b, rfl, ha, h⟩ := shape_cons h
  obtain ⟨a1, b, rfl, ha1, h⟩ := shape_cons h
  obtain ⟨a2, b, rfl, ha2, h⟩ := shape_cons h
  obtain rfl := shape_nil h
  obtain ⟨i, rfl⟩ := shape_int Try.underlying3 ha
  obtain ⟨i1, rfl⟩ := shape_int Try.underlying3 ha1
  obtain ⟨l, rfl⟩ := sh_inss ha2
  exact ⟨⟨i, i1, l⟩, rfl⟩
theorem sh_procs (h : ShapeF Try.prog n 26 ds) : ∃ l : List Prc, ds = [.sl false 3 (l.map Prc.enc)] :=
  shape_slice (enc := Prc.enc) Try.underlying26 (by kernel_rfl) (fun m _ x hx => sh_proc hx) h
theorem sh_co : ∀ (n : Nat) (ds : List D), ShapeF Try.prog n 43 ds → ∃ c : Coe, ds = c.enc := by
  intro n
  induction n using Nat.strongRecOn with
  | ind n ih =>
    intro ds h
    obtain ⟨m, hm, h⟩ := shape_struct Try.underlying43 h
    obtain ⟨a, b, rfl, ha, h⟩ := shape_cons h
    obtain ⟨a1, b, rfl, ha1, h⟩ := shape_cons h
    obtain ⟨a2, b, rfl, ha2, h⟩ := shape_cons h
    obtain ⟨a3, b, rfl, ha3, h⟩ := shape_cons h
    obtain ⟨a4, b, rfl, ha4, h⟩ := shape_cons h
    obtain rfl := shape_nil h
    obtain ⟨t, rfl⟩ := sh_ints ha
    obtain ⟨nn, rfl⟩ := sh_needs ha1
    obtain ⟨s, rfl⟩ := sh_strs ha2
    obtain ⟨f, rfl⟩ := shape_slice (enc := Coe.enc) Try.underlying25 (by kernel_rfl : Try.prog.cellsOf 43 = 5) (fun k hk x hx => ih k (by omega) x hx) ha3
    obtain ⟨g, rfl⟩ := shape_slice (enc := Coe.enc) Try.underlying25 (by kernel_rfl : Try.prog.cellsOf 43 = 5) (fun k hk x hx => ih k (by omega) x hx) ha4
    exact ⟨⟨t, nn, s, f, g⟩, by simp [Coe.enc, Coe.encs_map]⟩
theorem sh_cos (h : ShapeF Try.prog n 25 ds) : ∃ l : List Coe, ds = [.sl false 5 (l.map Coe.enc)] :=
  shape_slice (enc := Coe.enc) Try.underlying25 (by kernel_rfl) (fun m _ x hx => sh_co m x hx) h
theorem sh_code (h : ShapeF Try.prog n 28 ds) : ∃ c : Cod, ds = c.enc := by
  obtain ⟨m, _, h⟩ := shape_struct Try.underlying28 h
  obtain ⟨a, b, rfl, ha, h⟩ := shape_cons h
  obtain ⟨a1, b, rfl, ha1, h⟩ := shape_cons h
  obtain ⟨a2, b, rfl, ha2, h⟩ := shape_cons h
  obtain ⟨a3, b, rfl, ha3, h⟩ := shape_cons h
  obtain ⟨a4, b, rfl, ha4, h⟩ := shape_cons h
  obtain ⟨a5, b, rfl, ha5, h⟩ := shape_cons h
  obtain ⟨a6, b, rfl, ha6, h⟩ := shape_cons h
  obtain rfl := shape_nil h
  obtain ⟨i, rfl⟩ := sh_ints ha
  obtain ⟨s, rfl⟩ := sh_strs ha1
  obtain ⟨sh, rfl⟩ := sh_shapes ha2
  obtain ⟨co, rfl⟩ := sh_cos ha3
  obtain ⟨p, rfl⟩ := sh_procs ha4
  obtain ⟨mm, rfl⟩ := shape_int Try.underlying3 ha5
  obtain ⟨g, rfl⟩ := shape_bool Try.underlying4 ha6
  exact ⟨⟨i, s, sh, co, p, mm, g⟩, rfl⟩

def types : List TypeId := [3, 4, 9, 22, 23, 24, 25, 26, 28, 32, 33, 35, 41, 43, 66]
theorem own : ownKnob Try.prog.godebug = none := by kernel_rfl
theorem laidOut : laidOutB Try.prog = true := by kernel_rfl
theorem typesOk : (types.all fun t => goodT Try.prog types t && Try.prog.readableRec t && decide (t < Try.prog.types.size)) = true := by kernel_rfl
theorem agg28 : Abs.isAgg Try.prog 28 = true := by kernel_rfl
theorem agg32 : Abs.isAgg Try.prog 32 = true := by kernel_rfl
theorem agg3 : Abs.isAgg Try.prog 3 = false := by kernel_rfl
theorem agg9 : Abs.isAgg Try.prog 9 = false := by kernel_rfl
theorem args28_32 {dvs : List DV} (h : ShapeA Try.prog [28, 32] dvs) : ∃ (c : Cod) (i : Ins), dvs = [.agg c.enc, .agg i.enc] := by
  match dvs, h with
  | a :: b :: r, h =>
    simp only [ShapeA, agg28, agg32, dvOf] at h
    obtain ⟨⟨n, x, h1, rfl⟩, ⟨m, y, h2, rfl⟩, rfl⟩ := h
    obtain ⟨c, rfl⟩ := sh_code h1
    obtain ⟨i, rfl⟩ := sh_ins h2
    exact ⟨c, i, rfl⟩
  | [_], h => simp [ShapeA] at h
theorem args28 {dvs : List DV} (h : ShapeA Try.prog [28] dvs) : ∃ (c : Cod), dvs = [.agg c.enc] := by
  match dvs, h with
  | a :: r, h =>
    simp only [ShapeA, agg28, agg32, dvOf] at h
    obtain ⟨⟨n, x, h1, rfl⟩, rfl⟩ := h
    obtain ⟨c, rfl⟩ := sh_code h1
    exact ⟨c, rfl⟩
theorem args28_3_9 {dvs : List DV} (h : ShapeA Try.prog [28, 3, 9] dvs) : ∃ (c : Cod) (i : Int) (s : ByteArray), dvs = [.agg c.enc, .one (.int .i64 i), .one (.str s)] := by
  match dvs, h with
  | a :: b :: d :: r, h =>
    simp only [ShapeA, agg28, agg3, agg9, dvOf] at h
    obtain ⟨⟨n, x, h1, rfl⟩, ⟨m, y, h2, rfl⟩, ⟨k, z, h3, rfl⟩, rfl⟩ := h
    obtain ⟨c, rfl⟩ := sh_code h1
    obtain ⟨i, rfl⟩ := shape_int Try.underlying3 h2
    obtain ⟨s, rfl⟩ := shape_str Try.underlying9 h3
    exact ⟨c, i, s, rfl⟩
  | [_], h => simp [ShapeA] at h
  | [_, _], h => simp [ShapeA] at h
end Go.Gr
