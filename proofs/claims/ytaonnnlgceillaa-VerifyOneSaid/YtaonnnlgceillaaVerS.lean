import Derived.Test.YtaonnnlgceillaaVerQ
/- Slices that are compared. -/
set_option linter.unusedVariables false
set_option linter.unusedSimpArgs false
namespace Go.Gr
open Go.Abs Go.Proofs
@[simp] theorem encN_get (l : List (ByteArray × Int)) (k : Nat) : (encN l)[k]? = (l[k]?).map fun x => [.str x.1, .int .i64 x.2] := by simp [encN]

theorem eqInts_ok (a b : List Int) : PCall Pg F.slices_Equal_int_int [.one (.sl false 1 (encI a)), .one (.sl false 1 (encI b))] (.one (.bool (decide (a = b)))) := by
  refine w_slices_Equal_int_int (by simp) fun o c hN hp => ?_
  have hl : a.length ≤ lenMax := by have := o.1; simp only [DV.ok, D.ok] at this; simpa [encI] using this.1
  unfold lenMax at hl
  unfold mc_slices_Equal_int_int
  simp
  refine gd.mk (fun h => ?_) (fun h => ?_)
  · simp at h
    intro e; rw [e] at h; exact h rfl
  · simp at h
    refine W.loopL Pg_mixed hp lv_slices_Equal_int_int_0 [13] (fun j : Nat => j ≤ a.length ∧ a.take j = b.take j) (fun j => [.c (.d (.int .i64 j))]) (fun _ => []) (fun j => a.length - j) 0 [] (by simp) (by simp [lv_slices_Equal_int_int_0]) fun j ⟨h1, h2⟩ => ?_
    unfold lp_slices_Equal_int_int_0 lv_slices_Equal_int_int_0
    simp
    refine gd.mk (fun h => ?_) (fun h => ?_)
    · have hj : j < a.length := by simpa using h
      have hj' : j < b.length := by omega
      simp [List.getElem?_eq_getElem hj, List.getElem?_eq_getElem hj']
      refine ⟨by decide, gd.mk (fun h => ?_) (fun h => ?_)⟩
      · simp at h
        intro e
        subst e
        exact h rfl
      · simp at h
        refine Abs.Next.mk (j + 1) [] ⟨by omega, ?_⟩ (by omega) (by simp; exact wrap_i64 (by omega) (by omega))
        rw [List.take_succ_eq_append_getElem hj, List.take_succ_eq_append_getElem hj', h2, h]
    · have hj : j = a.length := by simp at h; omega
      subst hj
      rw [List.take_length, List.take_of_length_le (by omega)] at h2
      exact h2

theorem eqStrs_ok (a b : List ByteArray) : PCall Pg F.slices_Equal_string_string [.one (.sl false 1 (encS a)), .one (.sl false 1 (encS b))] (.one (.bool (decide (a = b)))) := by
  refine w_slices_Equal_string_string (by simp) fun o c hN hp => ?_
  have hl : a.length ≤ lenMax := by have := o.1; simp only [DV.ok, D.ok] at this; simpa [encS] using this.1
  unfold lenMax at hl
  unfold mc_slices_Equal_string_string
  simp
  refine gd.mk (fun h => ?_) (fun h => ?_)
  · simp at h
    intro e; rw [e] at h; exact h rfl
  · simp at h
    refine W.loopL Pg_mixed hp lv_slices_Equal_string_string_0 [13] (fun j : Nat => j ≤ a.length ∧ a.take j = b.take j) (fun j => [.c (.d (.int .i64 j))]) (fun _ => []) (fun j => a.length - j) 0 [] (by simp) (by simp [lv_slices_Equal_string_string_0]) fun j ⟨h1, h2⟩ => ?_
    unfold lp_slices_Equal_string_string_0 lv_slices_Equal_string_string_0
    simp
    refine gd.mk (fun h => ?_) (fun h => ?_)
    · have hj : j < a.length := by simpa using h
      have hj' : j < b.length := by omega
      simp [List.getElem?_eq_getElem hj, List.getElem?_eq_getElem hj']
      refine ⟨by decide, gd.mk (fun h => ?_) (fun h => ?_)⟩
      · simp at h
        intro e
        subst e
        exact h rfl
      · simp at h
        refine Abs.Next.mk (j + 1) [] ⟨by omega, ?_⟩ (by omega) (by simp; exact wrap_i64 (by omega) (by omega))
        rw [List.take_succ_eq_append_getElem hj, List.take_succ_eq_append_getElem hj', h2, h]
    · have hj : j = a.length := by simp at h; omega
      subst hj
      rw [List.take_length, List.take_of_length_le (by omega)] at h2
      exact h2

theorem eqNeeds_ok (a b : List (ByteArray × Int)) : PCall Pg F.slices_Equal_api_Need_api_Need [.one (.sl false 2 (encN a)), .one (.sl false 2 (encN b))] (.one (.bool (decide (a = b)))) := by
  refine w_slices_Equal_api_Need_api_Need (by simp) fun o c hN hp => ?_
  have hl : a.length ≤ lenMax := by have := o.1; simp only [DV.ok, D.ok] at this; simpa [encN] using this.1
  unfold lenMax at hl
  unfold mc_slices_Equal_api_Need_api_Need
  simp
  refine gd.mk (fun h => ?_) (fun h => ?_)
  · simp at h
    intro e; rw [e] at h; exact h rfl
  · simp at h
    refine W.loopL Pg_mixed hp lv_slices_Equal_api_Need_api_Need_0 [13] (fun j : Nat => j ≤ a.length ∧ a.take j = b.take j) (fun j => [.c (.d (.int .i64 j))]) (fun _ => []) (fun j => a.length - j) 0 [] (by simp) (by simp [lv_slices_Equal_api_Need_api_Need_0]) fun j ⟨h1, h2⟩ => ?_
    unfold lp_slices_Equal_api_Need_api_Need_0 lv_slices_Equal_api_Need_api_Need_0
    simp
    refine gd.mk (fun h => ?_) (fun h => ?_)
    · have hj : j < a.length := by simpa using h
      have hj' : j < b.length := by omega
      simp [List.getElem?_eq_getElem hj, List.getElem?_eq_getElem hj']
      refine ⟨by decide, gd.mk (fun h => ?_) (fun h => ?_)⟩
      · simp at h
        intro e
        subst e
        simp at h
      · simp at h
        refine Abs.Next.mk (j + 1) [] ⟨by omega, ?_⟩ (by omega) (by simp; exact wrap_i64 (by omega) (by omega))
        rw [List.take_succ_eq_append_getElem hj, List.take_succ_eq_append_getElem hj', h2, Prod.ext h.1 h.2]
    · have hj : j = a.length := by simp at h; omega
      subst hj
      rw [List.take_length, List.take_of_length_le (by omega)] at h2
      exact h2

end Go.Gr

/- Coercions: two are the same. -/
set_option linter.unusedVariables false
set_option linter.unusedSimpArgs false
namespace Go.Gr
open Go.Abs Go.Proofs

mutual
def sameC : Coe → Coe → Bool
  | .mk t n s f g, .mk t' n' s' f' g' => decide (t = t') && (decide (n = n') && (decide (s = s') && (sameCs f f' && sameCs g g')))
def sameCs : List Coe → List Coe → Bool
  | [], [] => true
  | a :: l, b :: k => sameC a b && sameCs l k
  | _, _ => false
end
def idC : Coe := .mk [0, 0, 0, 0, 0, 0] [] [] [] []

theorem Id_ok : PCall Pg F.coerce_Id [] (.agg idC.enc) := by
  refine w_coerce_Id (by simp) fun o c hN hp => ?_
  unfold mc_coerce_Id
  simp [idC, Coe.enc, encI, encN, encS, Coe.encs]

theorem rId_ok : PCall Pg F.gradusref10_Id [] (.agg idC.enc) := by
  refine w_gradusref10_Id (by simp) fun o c hN hp => ?_
  unfold mc_gradusref10_Id
  simp [idC, Coe.enc, encI, encN, encS, Coe.encs]

/-- two lists, one after the other -/
def eqF {α : Type} (q : α → α → Bool) : List α → List α → Bool
  | [], [] => true
  | a :: l, b :: k => q a b && eqF q l k
  | _, _ => false
theorem eqF_len {α : Type} (q : α → α → Bool) : ∀ {a b : List α}, a.length ≠ b.length → eqF q a b = false
  | [], [], h => by simp at h
  | [], _ :: _, h => rfl
  | _ :: _, [], h => rfl
  | a :: l, b :: k, h => by simp only [eqF]; rw [eqF_len q (a := l) (b := k) (by simpa using h)]; simp

theorem EqualFunc_ok (a b : List Coe) (g : FuncId) (caps : List D) (q : Coe → Coe → Bool) (H : ∀ x, x ∈ a → ∀ y, PCall Pg g (.agg x.enc :: .agg y.enc :: caps.map .one) (.one (.bool (q x y)))) :
    PCall Pg F.slices_EqualFunc_api_Co_api_Co_api_Co_api_Co [.one (.sl false 5 (a.map Coe.enc)), .one (.sl false 5 (b.map Coe.enc)), .one (.fn (.func g) caps)] (.one (.bool (eqF q a b))) := by
  refine w_slices_EqualFunc_api_Co_api_Co_api_Co_api_Co (by simp) fun o c hN hp => ?_
  have hl : a.length ≤ lenMax := by have := o.1; simp only [DV.ok, D.ok] at this; simpa using this.1
  unfold lenMax at hl
  unfold mc_slices_EqualFunc_api_Co_api_Co_api_Co_api_Co
  simp
  refine gd.mk (fun h => ?_) (fun h => ?_)
  · simp at h
    exact eqF_len q (by omega)
  · simp at h
    refine W.loopL Pg_mixed hp lv_slices_EqualFunc_api_Co_api_Co_api_Co_api_Co_0 [17] (fun j : Nat => j ≤ a.length ∧ eqF q (a.drop j) (b.drop j) = eqF q a b) (fun j => [.c (.d (.int .i64 j))]) (fun _ => []) (fun j => a.length - j) 0 [] (by simp) (by simp [lv_slices_EqualFunc_api_Co_api_Co_api_Co_api_Co_0]) fun j ⟨h1, h2⟩ => ?_
    unfold lp_slices_EqualFunc_api_Co_api_Co_api_Co_api_Co_0 lv_slices_EqualFunc_api_Co_api_Co_api_Co_api_Co_0
    simp
    refine gd.mk (fun h => ?_) (fun h => ?_)
    · have hj : j < a.length := by simpa using h
      have hj' : j < b.length := by omega
      rw [List.drop_eq_getElem_cons hj, List.drop_eq_getElem_cons hj', eqF] at h2
      simp [List.getElem?_eq_getElem hj, List.getElem?_eq_getElem hj']
      refine callK.mk (H _ (List.getElem_mem hj) _) ?_
      simp
      refine gd.mk (fun h => ?_) (fun h => ?_)
      · simp at h
        rw [h, Bool.false_and] at h2
        exact h2.symm
      · simp at h
        rw [h, Bool.true_and] at h2
        exact Abs.Next.mk (j + 1) [] ⟨by omega, h2⟩ (by omega) (by simp; exact wrap_i64 (by omega) (by omega))
    · have hj : j = a.length := by simp at h; omega
      subst hj
      rw [List.drop_length, List.drop_of_length_le (by omega)] at h2
      rw [← h2]; rfl

theorem sameCs_eq : ∀ (a b : List Coe), sameCs a b = eqF sameC a b
  | [], [] => by simp [sameCs, eqF]
  | [], _ :: _ => by simp [sameCs, eqF]
  | _ :: _, [] => by simp [sameCs, eqF]
  | a :: l, b :: k => by simp [sameCs, eqF, sameCs_eq l k]
theorem sameC_eq (a b : Coe) : sameC a b = (decide (a.tags = b.tags) && (decide (a.needs = b.needs) && (decide (a.names = b.names) && (eqF sameC a.fields b.fields && eqF sameC a.fn b.fn)))) := by
  cases a; cases b
  simp only [sameC, sameCs_eq]
  rfl

theorem Same_one (a b : Coe) (ih : ∀ x, x ∈ a.fields ∨ x ∈ a.fn → ∀ y, PCall Pg F.coerce_Same [.agg x.enc, .agg y.enc] (.one (.bool (sameC x y)))) : PCall Pg F.coerce_Same [.agg a.enc, .agg b.enc] (.one (.bool (sameC a b))) := by
  have e := sameC_eq a b
  rw [Coe.enc_eq a, Coe.enc_eq b]
  refine w_coerce_Same (by simp) fun o c hN hp => ?_
  unfold mc_coerce_Same
  simp
  refine callK.mk (eqInts_ok _ _) ?_
  generalize decide (a.tags = b.tags) = p1 at e ⊢
  simp
  refine gd.mk (fun h1 => ?_) (fun h1 => ?_)
  · refine callK.mk (eqNeeds_ok _ _) ?_
    generalize decide (a.needs = b.needs) = p2 at e ⊢
    simp
    refine gd.mk (fun h2 => ?_) (fun h2 => ?_)
    · refine callK.mk (eqStrs_ok _ _) ?_
      generalize decide (a.names = b.names) = p3 at e ⊢
      simp
      refine gd.mk (fun h3 => ?_) (fun h3 => ?_)
      · refine callK.mk (EqualFunc_ok _ _ F.coerce_Same [] sameC fun x hx y => ih x (.inl hx) y) ?_
        generalize eqF sameC a.fields b.fields = p4 at e ⊢
        simp
        refine gd.mk (fun h4 => ?_) (fun h4 => ?_)
        · refine callK.mk (EqualFunc_ok _ _ F.coerce_Same [] sameC fun x hx y => ih x (.inr hx) y) ?_
          simp [e, h1, h2, h3, h4]
        · simp at h4
          simp [e, h4]
      · simp at h3
        simp [e, h3]
    · simp at h2
      simp [e, h2]
  · simp at h1
    simp [e, h1]
mutual
theorem Same_ok : ∀ (a b : Coe), PCall Pg F.coerce_Same [.agg a.enc, .agg b.enc] (.one (.bool (sameC a b)))
  | .mk t n s f g, b => Same_one _ b fun x hx y => hx.elim (fun h => Same_oks f x h y) (fun h => Same_oks g x h y)
theorem Same_oks : ∀ (l : List Coe) (x : Coe), x ∈ l → ∀ y, PCall Pg F.coerce_Same [.agg x.enc, .agg y.enc] (.one (.bool (sameC x y)))
  | c :: l, x, h, y => by
    cases List.mem_cons.1 h with
    | inl e => rw [e]; exact Same_ok c y
    | inr e => exact Same_oks l x e y
end
end Go.Gr

/- Coercions: the reference's sameness. -/
set_option linter.unusedVariables false
set_option linter.unusedSimpArgs false
namespace Go.Gr
open Go.Abs Go.Proofs

theorem take_next {α : Type} {a b : List α} {j : Nat} (ha : j < a.length) (hb : j < b.length) (h : a.take j = b.take j) (e : a[j] = b[j]) : a.take (j + 1) = b.take (j + 1) := by
  rw [List.take_succ_eq_append_getElem ha, List.take_succ_eq_append_getElem hb, h, e]
theorem take_all {α : Type} {a b : List α} {j : Nat} (ha : j = a.length) (hb : a.length = b.length) (h : a.take j = b.take j) : a = b := by
  subst ha
  rw [List.take_length, List.take_of_length_le (by omega)] at h
  exact h
theorem eqF_all {α : Type} (q : α → α → Bool) : ∀ {a b : List α} {j : Nat}, a.length ≤ j → a.length = b.length → eqF q (a.drop j) (b.drop j) = true
  | a, b, j, h, e => by rw [List.drop_of_length_le h, List.drop_of_length_le (by omega)]; rfl

set_option maxRecDepth 20000 in
theorem rSame_one (a b : Coe) (ih : ∀ x, x ∈ a.fields ∨ x ∈ a.fn → ∀ y, PCall Pg F.gradusref10_Same [.agg x.enc, .agg y.enc] (.one (.bool (sameC x y)))) : PCall Pg F.gradusref10_Same [.agg a.enc, .agg b.enc] (.one (.bool (sameC a b))) := by
  have e := sameC_eq a b
  rw [Coe.enc_eq a, Coe.enc_eq b]
  refine w_gradusref10_Same (by simp) fun o c hN hp => ?_
  have hl : a.tags.length ≤ lenMax ∧ a.needs.length ≤ lenMax ∧ a.names.length ≤ lenMax ∧ a.fields.length ≤ lenMax ∧ a.fn.length ≤ lenMax := by
    have := o.1; simp only [DV.ok, D.okL, D.ok, encI_length, encN_length, encS_length, List.length_map] at this; exact ⟨this.1.1, this.2.1.1, this.2.2.1.1, this.2.2.2.1.1, this.2.2.2.2.1.1⟩
  unfold lenMax at hl
  obtain ⟨l1, l2, l3, l4, l5⟩ := hl
  unfold mc_gradusref10_Same
  simp
  have f1 : a.tags.length ≠ b.tags.length → decide (a.tags = b.tags) = false := fun h => decide_eq_false fun e => h (by rw [e])
  have f2 : a.needs.length ≠ b.needs.length → decide (a.needs = b.needs) = false := fun h => decide_eq_false fun e => h (by rw [e])
  have f3 : a.names.length ≠ b.names.length → decide (a.names = b.names) = false := fun h => decide_eq_false fun e => h (by rw [e])
  have f4 : a.fields.length ≠ b.fields.length → eqF sameC a.fields b.fields = false := eqF_len _
  have f5 : a.fn.length ≠ b.fn.length → eqF sameC a.fn b.fn = false := eqF_len _
  refine gd.mk (fun h1 => ?_) (fun h1 => ?_)
  rotate_left
  · have h1 : a.tags.length ≠ b.tags.length := by simp at h1; omega
    simp [e, f1 h1]
  have h1 : a.tags.length = b.tags.length := by simp at h1; omega
  refine gd.mk (fun h2 => ?_) (fun h2 => ?_)
  rotate_left
  · have h2 : a.needs.length ≠ b.needs.length := by simp at h2; omega
    simp [e, f2 h2]
  have h2 : a.needs.length = b.needs.length := by simp at h2; omega
  refine gd.mk (fun h3 => ?_) (fun h3 => ?_)
  rotate_left
  · have h3 : a.names.length ≠ b.names.length := by simp at h3; omega
    simp [e, f3 h3]
  have h3 : a.names.length = b.names.length := by simp at h3; omega
  refine gd.mk (fun h4 => ?_) (fun h4 => ?_)
  rotate_left
  · have h4 : a.fields.length ≠ b.fields.length := by simp at h4; omega
    simp [e, f4 h4]
  have h4 : a.fields.length = b.fields.length := by simp at h4; omega
  refine gd.mk (fun h5 => ?_) (fun h5 => ?_)
  · have h5 : a.fn.length ≠ b.fn.length := by simp at h5; omega
    simp [e, f5 h5]
  have h5 : a.fn.length = b.fn.length := by simp at h5; omega
  refine W.loopL Pg_mixed hp lv_gradusref10_Same_0 [5] (fun j : Nat => j ≤ a.tags.length ∧ a.tags.take j = b.tags.take j) (fun j => [.c (.d (.int .i64 j))]) (fun _ => []) (fun j => a.tags.length - j) 0 [] (by simp) (by simp [lv_gradusref10_Same_0]) fun j ⟨g1, g2⟩ => ?_
  unfold lp_gradusref10_Same_0 lv_gradusref10_Same_0
  simp
  refine gd.mk (fun h => ?_) (fun h => ?_)
  · have hj : j < a.tags.length := by simpa using h
    have hj' : j < b.tags.length := by omega
    simp [List.getElem?_eq_getElem hj, List.getElem?_eq_getElem hj']
    refine ⟨by decide, gd.mk (fun h => ?_) (fun h => ?_)⟩
    · simp at h
      have : decide (a.tags = b.tags) = false := decide_eq_false fun e => h (List.getElem_of_eq e _)
      rw [e, this]; rfl
    · simp at h
      exact Abs.Next.mk (j + 1) [] ⟨by omega, take_next hj hj' g2 h⟩ (by omega) (by simp; exact wrap_i64 (by omega) (by omega))
  have hj : j = a.tags.length := by simp at h; omega
  have d1 := take_all hj h1 g2
  refine W.loopL Pg_mixed hp lv_gradusref10_Same_2 [6] (fun j : Nat => j ≤ a.needs.length ∧ a.needs.take j = b.needs.take j) (fun j => [.c (.d (.int .i64 j))]) (fun _ => []) (fun j => a.needs.length - j) 0 [] (by simp) (by simp [lv_gradusref10_Same_2]) fun j ⟨g1, g2⟩ => ?_
  unfold lp_gradusref10_Same_2 lv_gradusref10_Same_2
  simp
  refine gd.mk (fun h => ?_) (fun h => ?_)
  · have hj : j < a.needs.length := by simpa using h
    have hj' : j < b.needs.length := by omega
    simp [List.getElem?_eq_getElem hj, List.getElem?_eq_getElem hj']
    refine ⟨by decide, gd.mk (fun h => ?_) (fun h => ?_)⟩
    · have : decide (a.needs = b.needs) = false := decide_eq_false fun e => by
        have := List.getElem_of_eq e hj
        rw [this] at h
        simp at h
      rw [e, this, Bool.false_and, Bool.and_false]
    · simp at h
      exact Abs.Next.mk (j + 1) [] ⟨by omega, take_next hj hj' g2 (Prod.ext h.1 h.2)⟩ (by omega) (by simp; exact wrap_i64 (by omega) (by omega))
  have hj : j = a.needs.length := by simp at h; omega
  have d2 := take_all hj h2 g2
  refine W.loopL Pg_mixed hp lv_gradusref10_Same_4 [7] (fun j : Nat => j ≤ a.names.length ∧ a.names.take j = b.names.take j) (fun j => [.c (.d (.int .i64 j))]) (fun _ => []) (fun j => a.names.length - j) 0 [] (by simp) (by simp [lv_gradusref10_Same_4]) fun j ⟨g1, g2⟩ => ?_
  unfold lp_gradusref10_Same_4 lv_gradusref10_Same_4
  simp
  refine gd.mk (fun h => ?_) (fun h => ?_)
  · have hj : j < a.names.length := by simpa using h
    have hj' : j < b.names.length := by omega
    simp [List.getElem?_eq_getElem hj, List.getElem?_eq_getElem hj']
    refine ⟨by decide, gd.mk (fun h => ?_) (fun h => ?_)⟩
    · simp at h
      have : decide (a.names = b.names) = false := decide_eq_false fun e => h (List.getElem_of_eq e _)
      rw [e, this, Bool.false_and, Bool.and_false, Bool.and_false]
    · simp at h
      exact Abs.Next.mk (j + 1) [] ⟨by omega, take_next hj hj' g2 h⟩ (by omega) (by simp; exact wrap_i64 (by omega) (by omega))
  have hj : j = a.names.length := by simp at h; omega
  have d3 := take_all hj h3 g2
  have e : sameC a b = (eqF sameC a.fields b.fields && eqF sameC a.fn b.fn) := by rw [e, decide_eq_true d1, decide_eq_true d2, decide_eq_true d3]; rfl
  refine W.loopL Pg_mixed hp lv_gradusref10_Same_6 [8] (fun j : Nat => j ≤ a.fields.length ∧ eqF sameC (a.fields.drop j) (b.fields.drop j) = eqF sameC a.fields b.fields) (fun j => [.c (.d (.int .i64 j))]) (fun _ => []) (fun j => a.fields.length - j) 0 [] (by simp) (by simp [lv_gradusref10_Same_6]) fun j ⟨g1, g2⟩ => ?_
  unfold lp_gradusref10_Same_6 lv_gradusref10_Same_6
  simp
  refine gd.mk (fun h => ?_) (fun h => ?_)
  · have hj : j < a.fields.length := by simpa using h
    have hj' : j < b.fields.length := by omega
    rw [List.drop_eq_getElem_cons hj, List.drop_eq_getElem_cons hj', eqF] at g2
    simp [List.getElem?_eq_getElem hj, List.getElem?_eq_getElem hj']
    refine callK.mk (ih _ (.inl (List.getElem_mem hj)) _) ?_
    simp
    refine ⟨by decide, gd.mk (fun h => ?_) (fun h => ?_)⟩
    · simp at h
      rw [h, Bool.false_and] at g2
      rw [e, ← g2]; rfl
    · simp at h
      rw [h, Bool.true_and] at g2
      exact Abs.Next.mk (j + 1) [] ⟨by omega, g2⟩ (by omega) (by simp; exact wrap_i64 (by omega) (by omega))
  have hj : j = a.fields.length := by simp at h; omega
  have e : sameC a b = eqF sameC a.fn b.fn := by rw [e, ← g2, eqF_all sameC (by omega) h4]; rfl
  refine W.loopL Pg_mixed hp lv_gradusref10_Same_8 [10] (fun j : Nat => j ≤ a.fn.length ∧ eqF sameC (a.fn.drop j) (b.fn.drop j) = eqF sameC a.fn b.fn) (fun j => [.c (.d (.int .i64 j))]) (fun _ => []) (fun j => a.fn.length - j) 0 [] (by simp) (by simp [lv_gradusref10_Same_8]) fun j ⟨g1, g2⟩ => ?_
  unfold lp_gradusref10_Same_8 lv_gradusref10_Same_8
  simp
  refine gd.mk (fun h => ?_) (fun h => ?_)
  · have hj : j < a.fn.length := by simpa using h
    have hj' : j < b.fn.length := by omega
    rw [List.drop_eq_getElem_cons hj, List.drop_eq_getElem_cons hj', eqF] at g2
    simp [List.getElem?_eq_getElem hj, List.getElem?_eq_getElem hj']
    refine callK.mk (ih _ (.inr (List.getElem_mem hj)) _) ?_
    simp
    refine ⟨by decide, gd.mk (fun h => ?_) (fun h => ?_)⟩
    · simp at h
      rw [h, Bool.false_and] at g2
      rw [e, ← g2]
    · simp at h
      rw [h, Bool.true_and] at g2
      exact Abs.Next.mk (j + 1) [] ⟨by omega, g2⟩ (by omega) (by simp; exact wrap_i64 (by omega) (by omega))
  have hj : j = a.fn.length := by simp at h; omega
  have e : sameC a b = true := by rw [e, ← g2, eqF_all sameC (by omega) h5]
  simp [e]

mutual
theorem rSame_ok : ∀ (a b : Coe), PCall Pg F.gradusref10_Same [.agg a.enc, .agg b.enc] (.one (.bool (sameC a b)))
  | .mk t n s f g, b => rSame_one _ b fun x hx y => hx.elim (fun h => rSame_oks f x h y) (fun h => rSame_oks g x h y)
theorem rSame_oks : ∀ (l : List Coe) (x : Coe), x ∈ l → ∀ y, PCall Pg F.gradusref10_Same [.agg x.enc, .agg y.enc] (.one (.bool (sameC x y)))
  | c :: l, x, h, y => by
    cases List.mem_cons.1 h with
    | inl e => rw [e]; exact rSame_ok c y
    | inr e => exact rSame_oks l x e y
end
theorem idle_ok (a : Coe) : PCall Pg F.coerce_idle [.agg a.enc] (.one (.bool (sameC a idC))) := by
  refine w_coerce_idle (by simp) fun o c hN hp => ?_
  unfold mc_coerce_idle
  simp
  refine callK.mk Id_ok ?_
  simp
  refine callK.mk (Same_ok a idC) ?_
  simp
  decide
theorem IsId_ok (a : Coe) : PCall Pg F.gradusref10_IsId [.agg a.enc] (.one (.bool (sameC a idC))) := by
  refine w_gradusref10_IsId (by simp) fun o c hN hp => ?_
  unfold mc_gradusref10_IsId
  simp
  refine callK.mk rId_ok ?_
  simp
  refine callK.mk (rSame_ok a idC) ?_
  simp
  decide
end Go.Gr

/- Coercions: which are normal, but for those within (the reference's own). -/
set_option linter.unusedVariables false
set_option linter.unusedSimpArgs false
namespace Go.Gr
open Go.Abs Go.Proofs

/-- is a text at most another one -/
def leS (a b : ByteArray) : Bool := Op.bytesLess a.data.toList b.data.toList || decide (a = b)
def risesB : List ByteArray → Bool
  | a :: b :: l => !leS b a && risesB (b :: l)
  | _ => true
theorem risesB_at : ∀ {l : List ByteArray} {i : Nat} (h : i + 1 < l.length), leS l[i + 1] l[i] = true → risesB l = false
  | a :: b :: l, 0, h, e => by
    simp only [List.getElem_cons_succ, List.getElem_cons_zero] at e
    simp [risesB, e]
  | a :: b :: l, i + 1, h, e => by
    have := risesB_at (l := b :: l) (i := i) (by simpa using h) (by simpa using e)
    simp [risesB, this]
  | [], _, h, _ => by simp at h
  | [_], _, h, _ => by simp at h
theorem risesB_all : ∀ {l : List ByteArray}, (∀ i (h : i + 1 < l.length), leS l[i + 1] l[i] = false) → risesB l = true
  | [], _ => rfl
  | [_], _ => rfl
  | a :: b :: l, H => by
    have h0 := H 0 (by simp)
    simp only [List.getElem_cons_succ, List.getElem_cons_zero] at h0
    have := risesB_all (l := b :: l) fun i h => by
      have := H (i + 1) (by simpa using h)
      simpa only [List.getElem_cons_succ] using this
    simp [risesB, h0, this]

/-- the needs of a normal coercion: none without a label, no name twice -/
def needsP (l : List (ByteArray × Int)) (j : Nat) : Prop := ∀ i (h : i < l.length), i < j → l[i].2 ≠ 0 ∧ ∀ k (hk : k < i), l[k].1 ≠ l[i].1
def needsOk : List ByteArray → List (ByteArray × Int) → Bool
  | _, [] => true
  | seen, x :: l => decide (x.2 ≠ 0) && (!(seen.any fun y => decide (y = x.1)) && needsOk (x.1 :: seen) l)
theorem needsOk_iff : ∀ (l : List (ByteArray × Int)) (seen : List ByteArray), needsOk seen l = true ↔ (∀ i (h : i < l.length), l[i].1 ∉ seen) ∧ needsP l l.length
  | [], seen => by simp [needsOk, needsP]
  | x :: l, seen => by
    have hm : (!(seen.any fun y => decide (y = x.1))) = true ↔ x.1 ∉ seen := by
      simp
      exact ⟨fun h hx => h _ hx rfl, fun h y hy e => h (e ▸ hy)⟩
    simp only [needsOk, Bool.and_eq_true, decide_eq_true_eq]
    rw [needsOk_iff l (x.1 :: seen), hm]
    constructor
    · rintro ⟨h1, h2, h3, h4⟩
      refine ⟨fun i h => ?_, fun i h hj => ?_⟩
      · cases i with
        | zero => exact h2
        | succ i => have := h3 i (by simpa using h); simp only [List.mem_cons, not_or] at this; exact this.2
      · cases i with
        | zero => exact ⟨h1, fun k hk => by omega⟩
        | succ i =>
          have h' : i < l.length := by simpa using h
          have := h4 i h' h'
          refine ⟨this.1, fun k hk => ?_⟩
          cases k with
          | zero => have := h3 i h'; simp only [List.mem_cons, not_or] at this; exact fun e => this.1 e.symm
          | succ k => exact this.2 k (by omega)
    · rintro ⟨h1, h2⟩
      refine ⟨(h2 0 (by simp) (by simp)).1, h1 0 (by simp), fun i h => ?_, fun i h hj => ?_⟩
      · simp only [List.mem_cons, not_or]
        exact ⟨fun e => (h2 (i + 1) (by simpa using h) (by simpa using h)).2 0 (by omega) e.symm, h1 (i + 1) (by simpa using h)⟩
      · have := h2 (i + 1) (by simpa using h) (by simpa using h)
        exact ⟨this.1, fun k hk => this.2 (k + 1) (by omega)⟩
theorem needsOk_true {l : List (ByteArray × Int)} (h : needsP l l.length) : needsOk [] l = true := (needsOk_iff l []).2 ⟨fun _ _ => by simp, h⟩
theorem needsOk_false {l : List (ByteArray × Int)} (h : ¬ needsP l l.length) : needsOk [] l = false := by
  cases e : needsOk [] l with
  | false => rfl
  | true => exact absurd ((needsOk_iff l []).1 e).2 h

def tagZ (d : Coe) (k : Nat) : Int := d.tags.getD k 0
def ownC (d : Coe) : Bool :=
  decide (d.tags.length = 6 ∧ d.names.length = d.fields.length ∧ (d.fn.length = 0 ∨ d.fn.length = 2)) &&
  (decide (¬ (tagZ d 4 ≠ 0 ∧ 0 < d.names.length ∨ tagZ d 5 ≠ 0 ∧ 0 < d.fn.length)) && (needsOk [] d.needs && risesB d.names))

theorem own2 {c : Ctx} (hp : c.pure) (d : Coe) {i : Nat} (hi : i < d.needs.length) (hl : d.needs.length ≤ lenMax) {Q : Exit → St → Prop} {S : St} {g}
    (h0 : Match [] S [(4, .c (.d (.int .i64 0))), (1, .c (.d (.rp d.enc 0))), (3, .c (.d (.int .i64 i)))] [])
    (hQ : ∀ T x, (∀ k (hk : k < i), d.needs[k].1 ≠ d.needs[i].1) → Abs.look T 1 = .c (.d (.rp d.enc 0)) → Abs.look T 3 = .c (.d (.int .i64 i)) → Q (.exit 2) ⟨T, hpOf [], x⟩)
    (hR : ∀ T x, ¬ (∀ k (hk : k < i), d.needs[k].1 ≠ d.needs[i].1) → Abs.look T 2 = .c (.d (.bool false)) → Q .ret ⟨T, hpOf [], x⟩) : lw_ Pg c lp_gradusref10_own_2 Q g S := by
  unfold lenMax at hl
  rw [Coe.enc_eq] at h0 hQ
  refine W.loop Pg_mixed hp (fun k : Nat => k ≤ i ∧ ∀ m (hm : m < i), m < k → d.needs[m].1 ≠ d.needs[i].1) (fun k => [(4, .c (.d (.int .i64 k))), (1, .c (.d (.rp _ 0))), (3, .c (.d (.int .i64 i)))]) (fun _ => []) (fun k => i - k) 0 [] (by simp) h0 fun k ⟨g1, g2⟩ => ?_
  unfold lp_gradusref10_own_2
  simp
  refine gd.mk (fun h => ?_) (fun h => ?_)
  · have hk : k < i := by simpa using h
    simp [List.getElem?_eq_getElem hi, List.getElem?_eq_getElem (show k < d.needs.length by omega)]
    refine ⟨by decide, gd.mk (fun h => ?_) (fun h => ?_)⟩
    · simp at h
      exact hR _ _ (fun H => H k hk h) (by simp)
    · simp at h
      refine Abs.Next.mk (k + 1) [] ⟨by omega, fun m hm hmk => ?_⟩ (by omega) (by simp; exact wrap_i64 (by omega) (by omega))
      by_cases e : m = k
      · subst e; exact h
      · exact g2 m hm (by omega)
  · have hk : k = i := by simp at h; omega
    exact hQ _ _ (fun m hm => g2 m hm (by omega)) (by simp) (by simp)

theorem own0 {c : Ctx} (hp : c.pure) (d : Coe) (hl : d.needs.length ≤ lenMax) {Q : Exit → St → Prop} {S : St} {g}
    (h0 : Match [] S [(3, .c (.d (.int .i64 0))), (1, .c (.d (.rp d.enc 0)))] [])
    (hQ : ∀ T x, needsOk [] d.needs = true → Abs.look T 1 = .c (.d (.rp d.enc 0)) → Q (.exit 0) ⟨T, hpOf [], x⟩)
    (hR : ∀ T x, needsOk [] d.needs = false → Abs.look T 2 = .c (.d (.bool false)) → Q .ret ⟨T, hpOf [], x⟩) : lw_ Pg c lp_gradusref10_own_0 Q g S := by
  have hl' := hl
  unfold lenMax at hl
  refine W.loop Pg_mixed hp (fun j : Nat => j ≤ d.needs.length ∧ needsP d.needs j) (fun j => [(3, .c (.d (.int .i64 j))), (1, .c (.d (.rp d.enc 0)))]) (fun _ => []) (fun j => d.needs.length - j) 0 [] ⟨by simp, fun i h hj => by omega⟩ h0 fun j ⟨g1, g2⟩ => ?_
  unfold lp_gradusref10_own_0
  have hd1 : d.enc[1]? = some (.sl false 2 (encN d.needs)) := by rw [Coe.enc_eq]; rfl
  simp [hd1]
  refine gd.mk (fun h => ?_) (fun h => ?_)
  · have hj : j < d.needs.length := by simpa using h
    simp [List.getElem?_eq_getElem hj]
    refine gd.mk (fun h => ?_) (fun h => ?_)
    · simp at h
      exact hR _ _ (needsOk_false fun H => (H j hj hj).1 h) (by simp)
    · simp at h
      refine own2 hp d hj hl' (by simp) (fun T x H e1 e3 => ?_) (fun T x H e2 => ?_)
      · simp
        simp [e3]
        refine Abs.Next.mk (j + 1) [] ⟨by omega, fun i hi hij => ?_⟩ (by omega) (by simp [e1]; exact wrap_i64 (by omega) (by omega))
        by_cases e : i = j
        · subst e; exact ⟨h, H⟩
        · exact g2 i hi (by omega)
      · exact hR _ _ (needsOk_false fun H' => H (H' j hj hj).2) e2
  · have hj : j = d.needs.length := by simp at h; omega
    subst hj
    exact hQ _ _ (needsOk_true g2) (by simp)

theorem own4 {c : Ctx} (hp : c.pure) (d : Coe) (hl : d.names.length ≤ lenMax) {Q : Exit → St → Prop} {S : St} {g}
    (h0 : Match [] S [(5, .c (.d (.int .i64 1))), (1, .c (.d (.rp d.enc 0)))] [])
    (hQ : ∀ T x, risesB d.names = true → Q (.exit 4) ⟨T, hpOf [], x⟩)
    (hR : ∀ T x, risesB d.names = false → Abs.look T 2 = .c (.d (.bool false)) → Q .ret ⟨T, hpOf [], x⟩) : lw_ Pg c lp_gradusref10_own_4 Q g S := by
  unfold lenMax at hl
  refine W.loop Pg_mixed hp (fun j : Nat => 1 ≤ j ∧ (j ≤ d.names.length ∨ j = 1) ∧ ∀ i (h : i + 1 < d.names.length), i + 1 < j → leS d.names[i + 1] d.names[i] = false) (fun j => [(5, .c (.d (.int .i64 j))), (1, .c (.d (.rp d.enc 0)))]) (fun _ => []) (fun j => d.names.length - j) 1 [] ⟨by simp, by simp, fun i h hj => by omega⟩ h0 fun j ⟨g0, g1, g2⟩ => ?_
  unfold lp_gradusref10_own_4
  have hd1 : d.enc[2]? = some (.sl false 1 (encS d.names)) := by rw [Coe.enc_eq]; rfl
  simp [hd1]
  refine gd.mk (fun h => ?_) (fun h => ?_)
  · have hj : j < d.names.length := by simpa using h
    obtain ⟨j, rfl⟩ : ∃ k, j = k + 1 := ⟨j - 1, by omega⟩
    have hw : IntKind.i64.wrap (j : Int) = j := wrap_i64 (by omega) (by omega)
    simp [List.getElem?_eq_getElem hj, hw, List.getElem?_eq_getElem (show j < d.names.length by omega)]
    refine ⟨by decide, gd.mk (fun h => ?_) (fun h => ?_)⟩
    · exact hR _ _ (risesB_at hj (by unfold leS; exact h)) (by simp)
    · refine Abs.Next.mk (j + 2) [] ⟨by omega, by omega, fun i hi hij => ?_⟩ (by omega) (by simp; rw [wrap_i64 (by omega) (by omega)]; omega)
      by_cases e : i = j
      · subst e; unfold leS; exact h
      · exact g2 i hi (by omega)
  · have hj : d.names.length ≤ j := by simp at h; omega
    exact hQ _ _ (risesB_all fun i hi => g2 i hi (by omega))

set_option maxRecDepth 20000 in
theorem own_ok (d : Coe) : PCall Pg F.gradusref10_own [.agg d.enc] (.one (.bool (ownC d))) := by
  refine w_gradusref10_own (by simp) fun o c hN hp => ?_
  have hl : d.needs.length ≤ lenMax ∧ d.names.length ≤ lenMax := by
    have := o.1; rw [Coe.enc_eq] at this; simp only [DV.ok, D.okL, D.ok, encI_length, encN_length, encS_length, List.length_map] at this; exact ⟨this.2.1.1, this.2.2.1.1⟩
  unfold mc_gradusref10_own
  have e0 : d.enc[0]? = some (.sl false 1 (encI d.tags)) := by rw [Coe.enc_eq]; rfl
  have e2 : d.enc[2]? = some (.sl false 1 (encS d.names)) := by rw [Coe.enc_eq]; rfl
  have e3 : d.enc[3]? = some (.sl false 5 (d.fields.map Coe.enc)) := by rw [Coe.enc_eq]; rfl
  have e4 : d.enc[4]? = some (.sl false 5 (d.fn.map Coe.enc)) := by rw [Coe.enc_eq]; rfl
  by_cases k1 : d.tags.length = 6
  rotate_left
  · simp [e0, show ¬ ((d.tags.length : Int) = 6) by omega, ownC, k1]
  by_cases k2 : d.names.length = d.fields.length
  rotate_left
  · simp [e0, e2, e3, k1, show ¬ ((d.names.length : Int) = (d.fields.length : Int)) by omega, ownC, k2]
  have k2i : ((d.names.length : Int) = (d.fields.length : Int)) = True := eq_true (by omega)
  have k1i : (d.tags.length : Int) = 6 := by omega
  have ht4 : d.tags[4]? = some (tagZ d 4) := by unfold tagZ; rw [List.getD, List.getElem?_eq_getElem (by omega)]; rfl
  have ht5 : d.tags[5]? = some (tagZ d 5) := by unfold tagZ; rw [List.getD, List.getElem?_eq_getElem (by omega)]; rfl
  have fin : (d.fn.length = 0 ∨ d.fn.length = 2) → ¬ (tagZ d 4 ≠ 0 ∧ 0 < d.names.length ∨ tagZ d 5 ≠ 0 ∧ 0 < d.fn.length) → ownC d = (needsOk [] d.needs && risesB d.names) := fun h h' => by
    unfold ownC; rw [decide_eq_true ⟨k1, k2, h⟩, decide_eq_true h']; simp
  have fon : ¬ (d.fn.length = 0 ∨ d.fn.length = 2) ∨ (tagZ d 4 ≠ 0 ∧ 0 < d.names.length ∨ tagZ d 5 ≠ 0 ∧ 0 < d.fn.length) → ownC d = false := fun h => by
    unfold ownC
    rcases h with h | h
    · rw [decide_eq_false (fun x => h x.2.2)]; rfl
    · rw [decide_eq_false (p := ¬ _) (fun x => x h)]; simp
  have kn : d.names.length = 0 ∨ 0 < d.names.length := by omega
  have kf : d.fn.length = 0 ∨ d.fn.length = 2 ∨ ¬ (d.fn.length = 0 ∨ d.fn.length = 2) := by omega
  rcases kf with k3 | k3 | k3
  rotate_right
  · have a1 : ¬ (d.fn.length : Int) = 0 := by omega
    have a2 : ¬ (d.fn.length : Int) = 2 := by omega
    have a3 : d.fn ≠ [] := fun e => a1 (by rw [e]; rfl)
    simp [e0, e2, e3, e4, k1i, k2i, a2, a3, fon (.inl k3)]
  all_goals
    have k3' : (d.fn.length : Int) = (d.fn.length : Int) := rfl
    rw [k3] at k3'
    by_cases k4 : tagZ d 4 = 0
    rotate_left
    · rcases kn with kn | kn
      rotate_left
      · simp [e0, e2, e3, e4, k1i, k2i, k3, ht4, ht5, k4, kn, show (0 : Int) < d.names.length by omega, fon (.inr (.inl ⟨k4, kn⟩))]
      · by_cases k5 : tagZ d 5 = 0
        all_goals
          first
            | (have hf := fin (by omega) (by omega)
               simp [e0, e2, e3, e4, k1i, k2i, k3, ht4, ht5, k4, kn, k5, show ((0 : Int) = d.fields.length) = True from eq_true (by omega)]
               refine own0 hp d hl.1 (by simp) (fun T x H e1 => ?_) (fun T x H e2 => ?_)
               · simp
                 refine own4 hp d hl.2 (by simp [e1]) (fun T x H' => ?_) (fun T x H' e2 => ?_)
                 · simp [hf, H, H']
                 · simp [e2, hf, H, H']
               · simp [e2, hf, H])
            | (have hf := fon (.inr (.inr ⟨k5, by omega⟩))
               simp [e0, e2, e3, e4, k1i, k2i, k3, ht4, ht5, k4, kn, k5, show ((0 : Int) = d.fields.length) = True from eq_true (by omega), hf])
    · by_cases k5 : tagZ d 5 = 0
      all_goals
        first
          | (have hf := fin (by omega) (by omega)
             simp [e0, e2, e3, e4, k1i, k2i, k3, ht4, ht5, k4, k5]
             refine own0 hp d hl.1 (by simp) (fun T x H e1 => ?_) (fun T x H e2 => ?_)
             · simp
               refine own4 hp d hl.2 (by simp [e1]) (fun T x H' => ?_) (fun T x H' e2 => ?_)
               · simp [hf, H, H']
               · simp [e2, hf, H, H']
             · simp [e2, hf, H])
          | (have hf := fon (.inr (.inr ⟨k5, by omega⟩))
             simp [e0, e2, e3, e4, k1i, k2i, k3, ht4, ht5, k4, k5, hf])
end Go.Gr

/- Coercions: which are normal. -/
set_option linter.unusedVariables false
set_option linter.unusedSimpArgs false
namespace Go.Gr
open Go.Abs Go.Proofs

mutual
def mayC : Coe → Bool
  | .mk t n s f g => ownC (.mk t n s f g) && (mayFs f && mayGs g)
def mayFs : List Coe → Bool
  | [] => true
  | c :: l => (mayC c && !sameC c idC) && mayFs l
def mayGs : List Coe → Bool
  | a :: b :: _ => mayC a && (mayC b && !(sameC a idC && sameC b idC))
  | _ => true
end
theorem mayFs_all : ∀ l : List Coe, mayFs l = l.all fun c => mayC c && !sameC c idC
  | [] => by simp [mayFs]
  | c :: l => by simp [mayFs, mayFs_all l]
theorem mayC_eq (d : Coe) : mayC d = (ownC d && ((d.fields.all fun c => mayC c && !sameC c idC) && mayGs d.fn)) := by
  cases d; simp only [mayC, mayFs_all, Coe.fields, Coe.fn]

theorem rMay_one (d : Coe) (ih : ∀ x, x ∈ d.fields ∨ x ∈ d.fn → PCall Pg F.gradusref10_May [.agg x.enc] (.one (.bool (mayC x)))) : PCall Pg F.gradusref10_May [.agg d.enc] (.one (.bool (mayC d))) := by
  have e := mayC_eq d
  refine w_gradusref10_May (by simp) fun o c hN hp => ?_
  have hl : d.fields.length ≤ lenMax := by
    have := o.1; rw [Coe.enc_eq] at this; simp only [DV.ok, D.okL, D.ok, encI_length, encN_length, encS_length, List.length_map] at this; exact this.2.2.2.1.1
  unfold lenMax at hl
  have e3 : d.enc[3]? = some (.sl false 5 (d.fields.map Coe.enc)) := by rw [Coe.enc_eq]; rfl
  have e4 : d.enc[4]? = some (.sl false 5 (d.fn.map Coe.enc)) := by rw [Coe.enc_eq]; rfl
  have e5 : ∀ x : Coe, x.enc.length = 5 := fun x => by rw [Coe.enc_eq]; rfl
  unfold mc_gradusref10_May
  simp [e5]
  refine callK.mk (own_ok d) ?_
  simp
  refine gd.mk (fun h => ?_) (fun h => ?_)
  · simp at h
    rw [e, h]; rfl
  · simp at h
    rw [h, Bool.true_and] at e
    refine W.loopL Pg_mixed hp lv_gradusref10_May_0 [4] (fun j : Nat => j ≤ d.fields.length ∧ ((d.fields.drop j).all fun c => mayC c && !sameC c idC) = d.fields.all fun c => mayC c && !sameC c idC) (fun j => [.c (.d (.int .i64 j))]) (fun _ => []) (fun j => d.fields.length - j) 0 [] (by simp) (by simp [lv_gradusref10_May_0]) fun j ⟨g1, g2⟩ => ?_
    unfold lp_gradusref10_May_0 lv_gradusref10_May_0
    simp [e3, e5]
    refine gd.mk (fun h => ?_) (fun h => ?_)
    · have hj : j < d.fields.length := by simpa using h
      rw [List.drop_eq_getElem_cons hj, List.all_cons] at g2
      simp [List.getElem?_eq_getElem hj, e5]
      refine callK.mk (ih _ (.inl (List.getElem_mem hj))) ?_
      simp [e3, List.getElem?_eq_getElem hj, e5]
      refine callK.mk (IsId_ok _) ?_
      simp
      refine gd.mk (fun h1 => ?_) (fun h1 => ?_)
      · simp at h1
        rw [h1] at g2
        refine gd.mk (fun h2 => ?_) (fun h2 => ?_)
        · rw [h2] at g2
          rw [e, ← g2]; rfl
        · simp at h2
          rw [h2] at g2
          exact Abs.Next.mk (j + 1) [] ⟨by omega, by simpa using g2⟩ (by omega) (by simp; exact wrap_i64 (by omega) (by omega))
      · simp at h1
        rw [h1] at g2
        rw [e, ← g2]; rfl
    · have hj : j = d.fields.length := by simp at h; omega
      have : (d.fields.all fun c => mayC c && !sameC c idC) = true := by rw [← g2, hj, List.drop_length]; rfl
      rw [this, Bool.true_and] at e
      refine gd.mk (fun h => ?_) (fun h => ?_)
      · have h0 : d.fn = [] := by simpa using h
        simp [e, h0, mayGs]
      · have h0 : d.fn ≠ [] := by simpa using h
        have h2 : d.fn.length = 2 := by
          have hown := ‹ownC d = true›
          simp only [ownC, Bool.and_eq_true, decide_eq_true_eq] at hown
          have := hown.1.2.2
          have : d.fn.length ≠ 0 := fun e => h0 (List.length_eq_zero_iff.1 e)
          omega
        obtain ⟨x, y, hxy⟩ : ∃ x y, d.fn = [x, y] := by
          match d.fn, h2 with
          | [x, y], _ => exact ⟨x, y, rfl⟩
        rw [hxy] at e4
        have hx := ih x (.inr (by rw [hxy]; simp))
        have hy := ih y (.inr (by rw [hxy]; simp))
        rw [hxy, mayGs] at e
        rw [hxy]
        simp [hxy]
        refine callK.mk hx ?_
        simp [hxy]
        refine callK.mk hy ?_
        simp [hxy]
        refine callK.mk (IsId_ok _) ?_
        simp [hxy]
        refine callK.mk (IsId_ok _) ?_
        simp
        cases m1 : mayC x <;> cases m2 : mayC y <;> cases m3 : sameC x idC <;> cases m4 : sameC y idC <;> simp [e, m1, m2, m3, m4]

mutual
theorem rMay_ok : ∀ (a : Coe), PCall Pg F.gradusref10_May [.agg a.enc] (.one (.bool (mayC a)))
  | .mk t n s f g => rMay_one _ fun x hx => hx.elim (fun h => rMay_oks f x h) (fun h => rMay_oks g x h)
theorem rMay_oks : ∀ (l : List Coe) (x : Coe), x ∈ l → PCall Pg F.gradusref10_May [.agg x.enc] (.one (.bool (mayC x)))
  | c :: l, x, h => by
    cases List.mem_cons.1 h with
    | inl e => rw [e]; exact rMay_ok c
    | inr e => exact rMay_oks l x e
end

theorem cmp_le : ∀ (x y : List UInt8), decide (0 ≤ Lib.compareBytes x y) = (Op.bytesLess y x || decide (y = x))
  | [], [] => by simp [Lib.compareBytes]
  | [], b :: y => by simp [Lib.compareBytes, Op.bytesLess]
  | a :: x, [] => by simp [Lib.compareBytes, Op.bytesLess]
  | a :: x, b :: y => by
    have ih := cmp_le x y
    simp only [Lib.compareBytes, Op.bytesLess]
    by_cases h1 : a < b
    · have h2 : ¬ b < a := fun h => absurd (UInt8.lt_trans h1 h) (UInt8.lt_irrefl _)
      have h3 : ¬ b = a := fun h => by rw [h] at h1; exact UInt8.lt_irrefl _ h1
      simp [h1, h2, h3]
    · by_cases h2 : b < a
      · simp [h1, h2]
      · have h3 : b = a := UInt8.le_antisymm (UInt8.not_lt.1 h1) (UInt8.not_lt.1 h2)
        subst h3
        simp only [h1, if_false, ih]
        simp
theorem leS_cmp (a b : ByteArray) : leS a b = decide (0 ≤ Lib.compareBytes b.data.toList a.data.toList) := by
  rw [cmp_le]
  unfold leS
  congr 1
  rw [Bool.eq_iff_iff]
  simp only [decide_eq_true_eq]
  constructor
  · intro h; rw [h]
  · intro h; exact Go.WideShapes.bytes_inj h

theorem Compare_ok (a b : ByteArray) : PCall Pg F.strings_Compare [.one (.str a), .one (.str b)] (.one (.int .i64 (Lib.compareBytes a.data.toList b.data.toList))) := by
  have h : PCall Pg F.internal_bytealg_CompareString [.one (.str a), .one (.str b)] (.one (.int .i64 (Lib.compareBytes a.data.toList b.data.toList))) := by
    refine w_internal_bytealg_CompareString (by simp) fun o c hN hp => ?_
    unfold mc_internal_bytealg_CompareString
    simp
  refine w_strings_Compare (by simp) fun o c hN hp => ?_
  unfold mc_strings_Compare
  simp
  refine callK.mk h ?_
  simp
end Go.Gr
