/- Regions whose order is drawn: the order of the text serves for all, where operations that are not ordered do not touch one another's places. -/
import Derived.Test.YtkgomampbengjaaGreatDoorAbs15
set_option linter.unusedVariables false
set_option linter.unusedSimpArgs false
namespace Go.Abs

/-- what an operation read and wrote: blocks -/
abbrev FP := List Nat × List Nat

def runD (P : Program) : List MO → St → List FP → (St → List FP → Prop) → Prop
  | [], S, fps, K => K S fps.reverse
  | o :: os, S, fps, K => match o.g with
    | none => ev P S.get S.m S.n (fun v rd wr n => runD P os (S.put o.dst v wr n) ((rd, wr.map (·.1)) :: fps) K) o.op
    | some (t, want) => match S.get t with
      | .c (.d (.bool b)) => (b = want → ev P (S.know t want).get S.m S.n (fun v rd wr n => runD P os ((S.know t want).put o.dst v wr n) ((rd, wr.map (·.1)) :: fps) K) o.op) ∧ (b = (!want) → runD P os ((S.know t (!want)).put o.dst undefV [] S.n) (([], []) :: fps) K)
      | .c (.d (.sc (.tuple _))) => runD P os (S.put o.dst undefV [] S.n) (([], []) :: fps) K
      | _ => False

def touch (a b : FP) : Bool := a.2.any (fun x => b.1.contains x || b.2.contains x) || b.2.any (fun x => a.1.contains x)

/-- 'bef': of each operation those (as bits) that must come before it -/
def okFps (bef : List Nat) (fps : List FP) : Bool :=
  (List.range fps.length).all fun j => (List.range j).all fun i => (bef.getD j 0).testBit i || !touch (fps.getD i ([], [])) (fps.getD j ([], []))

def okEdges (ops : Array Oper) (bef : List Nat) : Bool :=
  (List.range ops.size).all fun j => match ops[j]? with
    | some o => (o.after.all fun e => !Region.binds .any e || decide (e.on < j)) &&
      (List.range ops.size).all fun i => !(bef.getD j 0).testBit i || o.after.any fun e => Region.binds .any e && (e.on == i || (bef.getD e.on 0).testBit i)
    | none => false

def okTmps (ops : Array Oper) (bef : List Nat) : Bool :=
  (List.range ops.size).all fun j => (List.range j).all fun i => (bef.getD j 0).testBit i || match ops[i]?, ops[j]? with
    | some a, some b => a.apart ops b
    | _, _ => false

/-! ### rows of writes, some of them carried out -/

section
variable {α : Type}

def wra : (Nat → α) → List (Nat × α) → (Nat → α)
  | f, [] => f
  | f, (k, v) :: l => wra (upd f k v) l

theorem wra_ne : ∀ (l : List (Nat × α)) (f : Nat → α) (k : Nat), (∀ x, x ∈ l → x.1 ≠ k) → wra f l k = f k
  | [], _, _, _ => rfl
  | (j, v) :: l, f, k, h => by
    simp only [wra]
    rw [wra_ne l _ k (fun x hx => h x (by simp [hx]))]
    exact upd_ne _ _ (Ne.symm (h (j, v) (by simp)))

theorem wra_in : ∀ (l : List (Nat × α)) (f g : Nat → α) (k : Nat), (∃ x, x ∈ l ∧ x.1 = k) → wra f l k = wra g l k
  | [], _, _, _, h => by obtain ⟨x, hx, _⟩ := h; cases hx
  | (j, v) :: l, f, g, k, h => by
    simp only [wra]
    by_cases hk : ∃ x, x ∈ l ∧ x.1 = k
    · exact wra_in l _ _ k hk
    · have hne : ∀ x, x ∈ l → x.1 ≠ k := fun x hx e => hk ⟨x, hx, e⟩
      rw [wra_ne l _ k hne, wra_ne l _ k hne]
      obtain ⟨x, hx, e⟩ := h
      rcases List.mem_cons.1 hx with hx | hx
      · subst hx; simp only at e; subst e; simp [upd_same]
      · exact absurd e (hne x hx)

theorem wra_congr (l : List (Nat × α)) {f g : Nat → α} {k : Nat} (h : f k = g k) : wra f l k = wra g l k := by
  by_cases hk : ∃ x, x ∈ l ∧ x.1 = k
  · exact wra_in l f g k hk
  · have hne : ∀ x, x ∈ l → x.1 ≠ k := fun x hx e => hk ⟨x, hx, e⟩
    rw [wra_ne l f k hne, wra_ne l g k hne, h]

/-- those of the rows that are chosen, one behind the other -/
def selF (s : Nat → Bool) : Nat → (Nat → α) → List (List (Nat × α)) → (Nat → α)
  | _, f, [] => f
  | i, f, x :: l => selF s (i + 1) (if s i then wra f x else f) l

theorem selF_congr {k : Nat} : ∀ (l : List (List (Nat × α))) (i : Nat) (s t : Nat → Bool) (f g : Nat → α), (∀ q x, l[q]? = some x → (∃ y, y ∈ x ∧ y.1 = k) → s (i + q) = t (i + q)) → f k = g k → selF s i f l k = selF t i g l k
  | [], _, _, _, _, _, _, h => h
  | x :: l, i, s, t, f, g, hs, h => by
    simp only [selF]
    refine selF_congr l (i + 1) s t _ _ (fun q y hq hy => ?_) ?_
    · have := hs (q + 1) y (by simpa using hq) hy
      rwa [show i + 1 + q = i + (q + 1) from by omega]
    · by_cases hk : ∃ y, y ∈ x ∧ y.1 = k
      · have := hs 0 x (by simp) hk
        simp only [Nat.add_zero] at this
        rw [this]
        split
        · exact wra_congr x h
        · exact h
      · have hne : ∀ y, y ∈ x → y.1 ≠ k := fun y hy e => hk ⟨y, hy, e⟩
        have e1 : (if s i then wra f x else f) k = f k := by split <;> simp [wra_ne x f k hne]
        have e2 : (if t i then wra g x else g) k = g k := by split <;> simp [wra_ne x g k hne]
        rw [e1, e2, h]

/-- one more is chosen, behind which none that is chosen writes the same -/
theorem selF_insert {k : Nat} : ∀ (l : List (List (Nat × α))) (i j : Nat) (s t : Nat → Bool) (f : Nat → α) (x : List (Nat × α)), l[j]? = some x → (∀ q, s (i + q) = (t (i + q) || q == j)) → (t (i + j) = false) →
    (∀ q y, j < q → l[q]? = some y → t (i + q) = true → (∃ z, z ∈ x ∧ z.1 = k) → ∀ z, z ∈ y → z.1 ≠ k) → selF s i f l k = wra (selF t i f l) x k
  | [], _, _, _, _, _, _, h, _, _, _ => by simp at h
  | y :: l, i, 0, s, t, f, x, h, hs, ht, hn => by
    simp at h; subst h
    have h0 := hs 0
    simp only [Nat.add_zero, beq_self_eq_true, Bool.or_true] at h0 ht
    simp only [selF]
    rw [h0, ht]
    simp only [if_true, Bool.false_eq_true, if_false]
    have hst : ∀ q, s (i + 1 + q) = t (i + 1 + q) := fun q => by
      have := hs (q + 1)
      rw [show i + (q + 1) = i + 1 + q from by omega] at this
      simpa using this
    by_cases hk : ∃ z, z ∈ y ∧ z.1 = k
    · -- the later ones do not write it
      have later : ∀ (f : Nat → α), selF t (i + 1) f l k = f k := by
        intro f
        have : selF t (i + 1) f l k = selF (fun _ => false) (i + 1) f l k := by
          refine selF_congr l (i + 1) t (fun _ => false) f f (fun q x hq hx => ?_) rfl
          have h2 := hn (q + 1) x (by omega) (by simpa using hq)
          rw [show i + (q + 1) = i + 1 + q from by omega] at h2
          cases htq : t (i + 1 + q) with
          | false => rfl
          | true =>
            obtain ⟨z, hz, e⟩ := hx
            exact absurd e (h2 htq hk z hz)
        rw [this]
        have none : ∀ (l : List (List (Nat × α))) (i : Nat) (f : Nat → α), selF (fun _ => false) i f l = f := by
          intro l
          induction l with
          | nil => intro i f; rfl
          | cons x l ih => intro i f; simp only [selF]; exact ih _ _
        rw [none]
      have e1 : selF s (i + 1) (wra f y) l k = selF t (i + 1) (wra f y) l k := selF_congr l (i + 1) s t _ _ (fun q _ _ _ => hst q) rfl
      rw [e1, later]
      exact wra_in y _ _ k hk
    · have hne : ∀ z, z ∈ y → z.1 ≠ k := fun z hz e => hk ⟨z, hz, e⟩
      rw [wra_ne y _ k hne]
      exact selF_congr l (i + 1) s t _ _ (fun q _ _ _ => hst q) (wra_ne y f k hne)
  | y :: l, i, j + 1, s, t, f, x, h, hs, ht, hn => by
    have h0 := hs 0
    simp only [Nat.add_zero] at h0
    have h0' : s i = t i := by simpa using h0
    simp only [selF, h0']
    refine selF_insert l (i + 1) j s t _ x (by simpa using h) (fun q => ?_) ?_ (fun q z hq hz htq hx w hw => ?_)
    · have := hs (q + 1)
      rw [show i + (q + 1) = i + 1 + q from by omega] at this
      simpa using this
    · rwa [show i + 1 + j = i + (j + 1) from by omega]
    · exact hn (q + 1) z (by omega) (by simpa using hz) (by rwa [show i + (q + 1) = i + 1 + q from by omega]) hx w hw

end

/-! ### the course of the text -/

structure E where
  v : AV
  rd : List Nat
  wr : List (Nat × Blk)

def gYes (get : Nat → AV) : Option (Nat × Bool) → Prop
  | none => True
  | some (t, b) => get t = .c (.d (.bool b))
def gNo (get : Nat → AV) : Option (Nat × Bool) → Prop
  | none => False
  | some (t, b) => get t = .c (.d (.bool (!b))) ∨ ∃ x, get t = .c (.d (.sc (.tuple x)))

def StepOK (P : Program) (get : Nat → AV) (m : Hp) (mo : MO) (o : Oper) (e : E) : Prop :=
  (gYes get mo.g ∧ OpSem P o get m e.rd e.wr e.v) ∨ (gNo get mo.g ∧ e.v = undefV ∧ e.rd = [] ∧ e.wr = [])

def dw (mo : MO) (e : E) : List (Nat × AV) := match mo.dst with | some d => [(d, e.v)] | none => []

theorem wrs_eq : ∀ (l : List (Nat × Blk)) (m : Hp), wrs m l = wra m l
  | [], _ => rfl
  | (k, v) :: l, m => by simp only [wrs, wra]; exact wrs_eq l _

theorem updO_eq (get : Nat → AV) (mo : MO) (e : E) : updO get mo.dst e.v = wra get (dw mo e) := by
  unfold updO dw
  cases mo.dst with
  | none => funext k; simp [wra]
  | some d =>
    funext k
    simp only [wra, upd, Option.some.injEq]
    by_cases h : d = k
    · subst h; simp
    · rw [if_neg h, if_neg (Ne.symm h)]

def TrOK (P : Program) : (Nat → AV) → Hp → List MO → List Oper → List E → Prop
  | _, _, [], [], [] => True
  | get, m, mo :: mos, o :: os, e :: es => StepOK P get m mo o e ∧ TrOK P (updO get mo.dst e.v) (wrs m e.wr) mos os es
  | _, _, _, _, _ => False

theorem runD_tr {P : Program} {N : Nat} {ops : Array Oper} {K : St → List FP → Prop} : ∀ {mos : List MO} {os : List Oper} {S : St} {fps : List FP}, chkMOs P N ops mos os = true → runD P mos S fps K →
    ∃ (es : List E) (S' : St), TrOK P S.get S.m mos os es ∧ S'.get = selF (fun _ => true) 0 S.get ((mos.zip es).map fun x => dw x.1 x.2) ∧ S'.m = selF (fun _ => true) 0 S.m (es.map (·.wr)) ∧ K S' (fps.reverse ++ es.map fun e => (e.rd, e.wr.map (·.1)))
  | [], [], S, fps, _, h => ⟨[], S, trivial, rfl, rfl, by simpa [runD] using h⟩
  | [], _ :: _, _, _, h, _ => by simp [chkMOs] at h
  | _ :: _, [], _, _, h, _ => by simp [chkMOs] at h
  | mo :: mos, o :: os, S, fps, hc, h => by
    simp only [chkMOs, Bool.and_eq_true] at hc
    obtain ⟨hc0, hcs⟩ := hc
    simp only [chkMO, Bool.and_eq_true, beq_iff_eq] at hc0
    obtain ⟨⟨⟨c1, c2⟩, c3⟩, c4⟩ := hc0
    have shift : ∀ {β : Type} (l : List (List (Nat × β))) (i j : Nat) (f : Nat → β), selF (fun _ => true) i f l = selF (fun _ => true) j f l := by
      intro β l
      induction l with
      | nil => intro i j f; rfl
      | cons x l ih => intro i j f; simp only [selF]; exact ih _ _ _
    have fin : ∀ (S₁ : St) (e : E) (n : Nat), S₁.get = S.get → S₁.m = S.m → StepOK P S.get S.m mo o e → runD P mos (S₁.put mo.dst e.v e.wr n) ((e.rd, e.wr.map (·.1)) :: fps) K → ∃ (es : List E) (S' : St), TrOK P S.get S.m (mo :: mos) (o :: os) es ∧
        S'.get = selF (fun _ => true) 0 S.get (((mo :: mos).zip es).map fun x => dw x.1 x.2) ∧ S'.m = selF (fun _ => true) 0 S.m (es.map (·.wr)) ∧ K S' (fps.reverse ++ es.map fun e => (e.rd, e.wr.map (·.1))) := by
      intro S₁ e n eg em hs hr
      obtain ⟨es, S', t1, t2, t3, t4⟩ := runD_tr hcs hr
      have e1 : (S₁.put mo.dst e.v e.wr n).get = updO S.get mo.dst e.v := by rw [← eg]; exact St.put_get ..
      have e2 : (S₁.put mo.dst e.v e.wr n).m = wrs S.m e.wr := by rw [← em]; rfl
      refine ⟨e :: es, S', ⟨hs, by rw [← e1, ← e2]; exact t1⟩, ?_, ?_, by simpa using t4⟩
      · rw [t2, e1, updO_eq]
        simp only [List.zip_cons_cons, List.map_cons, selF, if_true]
        exact shift _ _ _ _
      · rw [t3, e2, wrs_eq]
        simp only [List.map_cons, selF, if_true]
        exact shift _ _ _ _
    have main : ∃ (S₁ : St) (e : E) (n : Nat), S₁.get = S.get ∧ S₁.m = S.m ∧ StepOK P S.get S.m mo o e ∧ runD P mos (S₁.put mo.dst e.v e.wr n) ((e.rd, e.wr.map (·.1)) :: fps) K := by
      have run : ∀ S₁ : St, S₁.get = S.get → S₁.m = S.m → gYes S.get mo.g → ev P S.get S.m S.n (fun v rd wr n => runD P mos (S₁.put mo.dst v wr n) ((rd, wr.map (·.1)) :: fps) K) mo.op →
          ∃ (S₁ : St) (e : E) (n : Nat), S₁.get = S.get ∧ S₁.m = S.m ∧ StepOK P S.get S.m mo o e ∧ runD P mos (S₁.put mo.dst e.v e.wr n) ((e.rd, e.wr.map (·.1)) :: fps) K := fun S₁ eg em hy he => by
        obtain ⟨v, rd, wr, n', hs, hk⟩ := ev_ok c1 he
        exact ⟨S₁, ⟨v, rd, wr⟩, n', eg, em, .inl ⟨hy, hs⟩, hk⟩
      have skip : ∀ S₁ : St, S₁.get = S.get → S₁.m = S.m → gNo S.get mo.g → runD P mos (S₁.put mo.dst undefV [] S.n) (([], []) :: fps) K →
          ∃ (S₁ : St) (e : E) (n : Nat), S₁.get = S.get ∧ S₁.m = S.m ∧ StepOK P S.get S.m mo o e ∧ runD P mos (S₁.put mo.dst e.v e.wr n) ((e.rd, e.wr.map (·.1)) :: fps) K := fun S₁ eg em hy hk =>
        ⟨S₁, ⟨undefV, [], []⟩, S.n, eg, em, .inr ⟨hy, rfl, rfl, rfl⟩, hk⟩
      simp only [runD] at h
      split at h
      · rename_i hg; exact run S rfl rfl (by rw [hg]; trivial) h
      · rename_i t want hg
        split at h
        · rename_i b et
          by_cases hb : b = want
          · subst hb
            have h1 := h.1 rfl
            rw [St.know_get et] at h1
            exact run _ (St.know_get et) rfl (by rw [hg]; exact et) h1
          · have hb' : b = (!want) := by cases b <;> cases want <;> simp_all
            exact skip _ (St.know_get (by rw [et, hb'])) rfl (by rw [hg]; exact .inl (by rw [et, hb'])) (h.2 hb')
        · rename_i x et
          exact skip S rfl rfl (by rw [hg]; exact .inr ⟨x, et⟩) h
        · exact h.elim
    obtain ⟨S₁, e, n, eg, em, h1, h2⟩ := main
    exact fin S₁ e n eg em h1 h2

theorem TrOK.nth {P : Program} : ∀ {mos : List MO} {os : List Oper} {es : List E} {get : Nat → AV} {m : Hp} {j : Nat} {o : Oper}, TrOK P get m mos os es → os[j]? = some o →
    ∃ mo e, mos[j]? = some mo ∧ es[j]? = some e ∧ StepOK P (selF (fun i => decide (i < j)) 0 get ((mos.zip es).map fun x => dw x.1 x.2)) (selF (fun i => decide (i < j)) 0 m (es.map (·.wr))) mo o e
  | [], [], [], _, _, j, o, _, h => by simp at h
  | [], [], _ :: _, _, _, _, _, h, _ => by simp [TrOK] at h
  | [], _ :: _, _, _, _, _, _, h, _ => by simp [TrOK] at h
  | _ :: _, [], _, _, _, _, _, h, _ => by simp [TrOK] at h
  | _ :: _, _ :: _, [], _, _, _, _, h, _ => by simp [TrOK] at h
  | mo :: mos, o' :: os, e :: es, get, m, 0, o, h, ho => by
    simp only [TrOK] at h
    simp at ho; subst ho
    have none : ∀ {β : Type} (l : List (List (Nat × β))) (i : Nat) (f : Nat → β), selF (fun i => decide (i < 0)) i f l = f := by
      intro β l
      induction l with
      | nil => intro i f; rfl
      | cons x l ih => intro i f; simp only [selF]; simpa using ih _ _
    refine ⟨mo, e, rfl, rfl, ?_⟩
    rw [none, none]
    exact h.1
  | mo :: mos, o' :: os, e :: es, get, m, j + 1, o, h, ho => by
    simp only [TrOK] at h
    obtain ⟨mo', e', h1, h2, h3⟩ := TrOK.nth h.2 (by simpa using ho)
    have shift : ∀ {β : Type} (l : List (List (Nat × β))) (i : Nat) (f : Nat → β), selF (fun i => decide (i < j + 1)) (i + 1) f l = selF (fun i => decide (i < j)) i f l := by
      intro β l
      induction l with
      | nil => intro i f; rfl
      | cons x l ih => intro i f; simp only [selF]; rw [ih]; simp
    refine ⟨mo', e', by simpa using h1, by simpa using h2, ?_⟩
    simp only [List.zip_cons_cons, List.map_cons, selF, Nat.zero_lt_succ, decide_true, if_true]
    rw [shift, shift, ← updO_eq, ← wrs_eq]
    exact h3


/-! ### whatever order -/

/-- which have come up, as a choice -/
def lst (l : Array Bool) : Nat → Bool := fun i => l.getD i false

theorem lst_set {l : Array Bool} {j q : Nat} (hj : j < l.size) : lst (l.setIfInBounds j true) q = (lst l q || q == j) := by
  unfold lst
  by_cases h : q = j
  · subst h; simp [Array.getD_eq_getD_getElem?, hj]
  · have : (q == j) = false := by simpa using h
    rw [this, Bool.or_false]
    simp [Array.getD_eq_getD_getElem?, Array.getElem?_setIfInBounds_ne (Ne.symm h)]

def cnt (l : Array Bool) : Nat := l.toList.countP (fun b => b)

theorem cnt_set {l : Array Bool} {j : Nat} (hj : j < l.size) (h : lst l j = false) : cnt (l.setIfInBounds j true) = cnt l + 1 := by
  unfold cnt
  have key : ∀ (l : List Bool) (j : Nat), j < l.length → l.getD j false = false → (l.set j true).countP (fun b => b) = l.countP (fun b => b) + 1 := by
    intro l
    induction l with
    | nil => intro j h; simp at h
    | cons b l ih =>
      intro j hj hb
      cases j with
      | zero => simp at hb; subst hb; simp
      | succ j =>
        simp only [List.set_cons_succ, List.countP_cons]
        rw [ih j (by simpa using hj) (by simpa using hb)]
        omega
  rw [Array.toList_setIfInBounds]
  refine key l.toList j (by simpa using hj) ?_
  unfold lst at h
  rw [Array.getD_eq_getD_getElem?] at h
  simpa [List.getD_eq_getElem?_getD] using h

theorem cnt_full {l : Array Bool} (h : cnt l = l.size) : ∀ i, i < l.size → lst l i = true := by
  intro i hi
  unfold cnt at h
  have h2 : l.toList.countP (fun b => b) = l.toList.length := by simpa using h
  have := List.countP_eq_length.1 h2
  have h3 := this l[i] (by simp)
  unfold lst
  simp [Array.getD_eq_getD_getElem?, hi, h3]

section
variable {P : Program} {c : Ctx}

theorem ready_iff {ops : Array Oper} {l : Array Bool} {i : Nat} : i ∈ Region.ready .any ops l → i < ops.size ∧ l.getD i true = false ∧ ∃ o, ops[i]? = some o ∧ ∀ e, e ∈ o.after → Region.binds .any e = true → lst l e.on = true := by
  intro h
  unfold Region.ready at h
  rw [List.mem_filter] at h
  obtain ⟨h1, h2⟩ := h
  have hi : i < ops.size := by simpa using h1
  simp only [Bool.and_eq_true, Bool.not_eq_true'] at h2
  refine ⟨hi, h2.1, ops[i], Array.getElem?_eq_getElem hi, fun e he hb => ?_⟩
  have h3 := h2.2
  rw [Array.getElem?_eq_getElem hi] at h3
  simp only [Option.map_some, Option.getD_some, Array.all_eq_true'] at h3
  have := h3 e he
  rw [hb] at this
  simpa [lst] using this

theorem ready_mk {ops : Array Oper} {l : Array Bool} {i : Nat} {o : Oper} (hi : ops[i]? = some o) (hl : l.getD i true = false) (h : ∀ e, e ∈ o.after → Region.binds .any e = true → lst l e.on = true) : i ∈ Region.ready .any ops l := by
  unfold Region.ready
  rw [List.mem_filter]
  have hlt : i < ops.size := by
    rcases Nat.lt_or_ge i ops.size with h1 | h1
    · exact h1
    · rw [Array.getElem?_eq_none h1] at hi; cases hi
  refine ⟨by simpa using hlt, ?_⟩
  simp only [hl, Bool.not_false, Bool.true_and, hi, Option.map_some, Option.getD_some, Array.all_eq_true']
  intro e he
  cases hb : Region.binds .any e with
  | false => rfl
  | true => simpa [lst] using h e he hb

theorem getD_lst {l : Array Bool} {i : Nat} (hi : i < l.size) : l.getD i true = lst l i := by
  unfold lst; simp [Array.getD_eq_getD_getElem?, hi]

theorem okEdges_at {ops : Array Oper} {bef : List Nat} (h : okEdges ops bef = true) {j : Nat} {o : Oper} (ho : ops[j]? = some o) :
    (∀ e, e ∈ o.after → Region.binds .any e = true → e.on < j) ∧ ∀ i, i < ops.size → (bef.getD j 0).testBit i = true → ∃ e, e ∈ o.after ∧ Region.binds .any e = true ∧ (e.on = i ∨ (bef.getD e.on 0).testBit i = true) := by
  have hlt : j < ops.size := by
    rcases Nat.lt_or_ge j ops.size with h1 | h1
    · exact h1
    · rw [Array.getElem?_eq_none h1] at ho; cases ho
  have := List.all_eq_true.1 h j (by simpa using hlt)
  rw [ho] at this
  simp only [Bool.and_eq_true, Array.all_eq_true', List.all_eq_true, List.mem_range] at this
  refine ⟨fun e he hb => ?_, fun i hi hb => ?_⟩
  · have h1 := this.1 e he
    rw [hb] at h1
    simpa using h1
  · have h2 := this.2 i hi
    rw [hb] at h2
    simp only [Bool.not_true, Bool.false_or, Array.any_eq_true', Bool.and_eq_true, Bool.or_eq_true, beq_iff_eq] at h2
    obtain ⟨e, he, h3, h4⟩ := h2
    exact ⟨e, he, h3, h4⟩

theorem okTmps_at {ops : Array Oper} {bef : List Nat} (h : okTmps ops bef = true) {i j : Nat} {a b : Oper} (hij : i < j) (ha : ops[i]? = some a) (hb : ops[j]? = some b) : (bef.getD j 0).testBit i = true ∨ a.apart ops b = true := by
  have hlt : j < ops.size := by
    rcases Nat.lt_or_ge j ops.size with h1 | h1
    · exact h1
    · rw [Array.getElem?_eq_none h1] at hb; cases hb
  have h1 := List.all_eq_true.1 h j (by simpa using hlt)
  have h2 := List.all_eq_true.1 h1 i (by simpa using hij)
  rw [ha, hb] at h2
  simpa using h2

theorem okFps_at {bef : List Nat} {fps : List FP} (h : okFps bef fps = true) {i j : Nat} {a b : FP} (hij : i < j) (ha : fps[i]? = some a) (hb : fps[j]? = some b) : (bef.getD j 0).testBit i = true ∨ touch a b = false := by
  have hlt : j < fps.length := by
    rcases Nat.lt_or_ge j fps.length with h1 | h1
    · exact h1
    · rw [List.getElem?_eq_none h1] at hb; cases hb
  have h1 := List.all_eq_true.1 h j (by simpa using hlt)
  have h2 := List.all_eq_true.1 h1 i (by simpa using hij)
  rw [List.getD_eq_getElem?_getD (l := fps), List.getD_eq_getElem?_getD (l := fps), ha, hb] at h2
  simpa using h2

theorem touch_no {a b : FP} (h : touch a b = false) {x : Nat} : (x ∈ a.2 → x ∉ b.1 ∧ x ∉ b.2) ∧ (x ∈ b.2 → x ∉ a.1) := by
  unfold touch at h
  simp only [Bool.or_eq_false_iff, List.any_eq_false, List.contains_iff_mem, Bool.or_eq_true, not_or] at h
  exact ⟨fun hx => h.1 x hx, fun hx => by simpa using h.2 x hx⟩

theorem chkMOs_at {N : Nat} {ops : Array Oper} : ∀ {mos : List MO} {os : List Oper} {j : Nat} {mo : MO} {o : Oper}, chkMOs P N ops mos os = true → mos[j]? = some mo → os[j]? = some o → chkMO P N ops mo o = true
  | [], _, _, _, _, _, h, _ => by simp at h
  | _ :: _, [], _, _, _, _, _, h => by simp at h
  | mo :: mos, o :: os, 0, mo', o', h, h1, h2 => by
    simp at h1 h2; subst h1 h2
    simp only [chkMOs, Bool.and_eq_true] at h
    exact h.1
  | mo :: mos, o :: os, j + 1, mo', o', h, h1, h2 => by
    simp only [chkMOs, Bool.and_eq_true] at h
    exact chkMOs_at h.2 (by simpa using h1) (by simpa using h2)

theorem chkMOs_len {N : Nat} {ops : Array Oper} : ∀ {mos : List MO} {os : List Oper}, chkMOs P N ops mos os = true → mos.length = os.length
  | [], [], _ => rfl
  | [], _ :: _, h => by simp [chkMOs] at h
  | _ :: _, [], h => by simp [chkMOs] at h
  | _ :: _, _ :: _, h => by
    simp only [chkMOs, Bool.and_eq_true] at h
    simp [chkMOs_len h.2]

theorem TrOK.len : ∀ {mos : List MO} {os : List Oper} {es : List E} {get : Nat → AV} {m : Hp}, TrOK P get m mos os es → es.length = os.length
  | [], [], [], _, _, _ => rfl
  | [], [], _ :: _, _, _, h => by simp [TrOK] at h
  | [], _ :: _, _, _, _, h => by simp [TrOK] at h
  | _ :: _, [], _, _, _, h => by simp [TrOK] at h
  | _ :: _, _ :: _, [], _, _, h => by simp [TrOK] at h
  | _ :: _, _ :: _, _ :: _, _, _, h => by simp only [TrOK] at h; simp [TrOK.len h.2]

/-- a region in whatever order -/
theorem drawn_any {ops : Array Oper} {bef : List Nat} {mos : List MO} {es : List E} {get : Nat → AV} {m : Hp} {Q : Exit → Act → World → Prop} (hc : chkMOs P c.N ops mos ops.toList = true) (ht : TrOK P get m mos ops.toList es)
    (hE : okEdges ops bef = true) (hT : okTmps ops bef = true) (hF : okFps bef (es.map fun e => (e.rd, e.wr.map (·.1))) = true)
    (hQ : ∀ a w, Rel P c (selF (fun _ => true) 0 get ((mos.zip es).map fun x => dw x.1 x.2)) (selF (fun _ => true) 0 m (es.map (·.wr))) a w → Q .normal a w) :
    ∀ (fuel : Nat) (l : Array Bool) (a : Act) (w : World), l.size = ops.size → cnt l + fuel = ops.size → (∀ j i, lst l j = true → (bef.getD j 0).testBit i = true → i < ops.size → lst l i = true) →
      Rel P c (selF (lst l) 0 get ((mos.zip es).map fun x => dw x.1 x.2)) (selF (lst l) 0 m (es.map (·.wr))) a w → wpAny P .any ops Q fuel l a w := by
  have len1 := chkMOs_len hc
  have len2 := ht.len
  have len3 : ops.toList.length = ops.size := by simp
  -- when all have come up
  have done : ∀ (l : Array Bool) (a : Act) (w : World), (∀ i, i < ops.size → lst l i = true) → Rel P c (selF (lst l) 0 get ((mos.zip es).map fun x => dw x.1 x.2)) (selF (lst l) 0 m (es.map (·.wr))) a w → Q .normal a w := by
    intro l a w hl r
    refine hQ a w ?_
    have e1 : selF (lst l) 0 get ((mos.zip es).map fun x => dw x.1 x.2) = selF (fun _ => true) 0 get ((mos.zip es).map fun x => dw x.1 x.2) := by
      funext k
      refine selF_congr _ 0 _ _ _ _ (fun q x hq _ => ?_) rfl
      have hlt : q < ((mos.zip es).map fun x => dw x.1 x.2).length := by
        rcases Nat.lt_or_ge q ((mos.zip es).map fun x => dw x.1 x.2).length with h | h
        · exact h
        · rw [List.getElem?_eq_none h] at hq; cases hq
      simp only [List.length_map, List.length_zip] at hlt
      rw [Nat.zero_add]
      exact hl q (by omega)
    have e2 : selF (lst l) 0 m (es.map (·.wr)) = selF (fun _ => true) 0 m (es.map (·.wr)) := by
      funext k
      refine selF_congr _ 0 _ _ _ _ (fun q x hq _ => ?_) rfl
      have hlt : q < (es.map (·.wr)).length := by
        rcases Nat.lt_or_ge q (es.map (·.wr)).length with h | h
        · exact h
        · rw [List.getElem?_eq_none h] at hq; cases hq
      simp only [List.length_map] at hlt
      rw [Nat.zero_add]
      exact hl q (by omega)
    rw [← e1, ← e2]
    exact r
  have allOf : ∀ (l : Array Bool), l.size = ops.size → Region.ready .any ops l = [] → ∀ i, i < ops.size → lst l i = true := by
    intro l hs hr i
    induction i using Nat.strongRecOn with
    | _ i ih =>
      intro hi
      cases hli : lst l i with
      | true => rfl
      | false =>
        have hmem : i ∈ Region.ready .any ops l := by
          refine ready_mk (Array.getElem?_eq_getElem hi) (by rw [getD_lst (by omega)]; exact hli) fun e he hb => ?_
          have h1 := (okEdges_at hE (Array.getElem?_eq_getElem hi)).1 e he hb
          exact ih e.on h1 (by omega)
        rw [hr] at hmem
        cases hmem
  intro fuel
  induction fuel with
  | zero =>
    intro l a w hs hcnt hcl r
    have hall := cnt_full (l := l) (by omega)
    refine ⟨?_, done l a w (fun i hi => hall i (by omega)) r⟩
    cases hr : Region.ready .any ops l with
    | nil => rfl
    | cons i t =>
      have := ready_iff (by rw [hr]; exact List.mem_cons_self : i ∈ Region.ready .any ops l)
      rw [getD_lst (by omega), hall i (by omega)] at this
      exact absurd this.2.1 (by simp)
  | succ fuel ih =>
    intro l a w hs hcnt hcl r
    refine ⟨fun hr => done l a w (allOf l hs hr) r, fun j hj => ?_⟩
    obtain ⟨hjs, hjl, o, ho, hedge⟩ := ready_iff hj
    rw [getD_lst (by omega)] at hjl
    have hot : ops.toList[j]? = some o := by simpa using ho
    obtain ⟨mo, e, hmo, he, hstep⟩ := ht.nth hot
    have hc0 := chkMOs_at hc hmo hot
    simp only [chkMO, Bool.and_eq_true, beq_iff_eq] at hc0
    obtain ⟨⟨⟨c1, c2⟩, c3⟩, c4⟩ := hc0
    have hd : ∀ d, mo.dst = some d → d < c.N := fun d hd => by rw [hd] at c3; simpa using c3
    -- what must come before has come
    have pre : ∀ i, i < ops.size → (bef.getD j 0).testBit i = true → lst l i = true := by
      intro i hi hb
      obtain ⟨ed, h1, h2, h3⟩ := (okEdges_at hE ho).2 i hi hb
      have h4 := hedge ed h1 h2
      rcases h3 with h3 | h3
      · rw [← h3]; exact h4
      · exact hcl ed.on i h4 h3 hi
    have post : ∀ i, (bef.getD i 0).testBit j = true → lst l i = false := by
      intro i hb
      cases hli : lst l i with
      | false => rfl
      | true => have := hcl i j hli hb hjs; rw [hjl] at this; cases this
    -- the row of temporaries that operation q writes
    have rowd : ∀ (q : Nat) (x : List (Nat × AV)), ((mos.zip es).map fun x => dw x.1 x.2)[q]? = some x → ∃ oq : Oper, ops[q]? = some oq ∧ ∀ k, (∃ y, y ∈ x ∧ y.1 = k) → oq.dst = some k := by
      intro q x hq
      simp only [List.getElem?_map, Option.map_eq_some_iff] at hq
      obtain ⟨z, hz, hx⟩ := hq
      have hlt : q < (mos.zip es).length := by
        rcases Nat.lt_or_ge q (mos.zip es).length with h | h
        · exact h
        · rw [List.getElem?_eq_none h] at hz; cases hz
      simp only [List.length_zip] at hlt
      have hqs : q < ops.size := by omega
      refine ⟨ops[q], Array.getElem?_eq_getElem hqs, fun k hk => ?_⟩
      have hzm : mos[q]? = some z.1 := by
        have := List.getElem?_zip_eq_some.1 hz
        exact this.1
      have hcq := chkMOs_at hc hzm (show ops.toList[q]? = some ops[q] by simp [hqs])
      simp only [chkMO, Bool.and_eq_true, beq_iff_eq] at hcq
      rw [← hcq.1.1.2]
      obtain ⟨y, hy, hk⟩ := hk
      rw [← hx] at hy
      unfold dw at hy
      split at hy
      · rename_i d hdz
        simp only [List.mem_singleton] at hy
        subst hy
        rw [hdz]; simp only at hk; rw [hk]
      · cases hy
    have rowb : ∀ (q : Nat) (x : List (Nat × Blk)), (es.map (·.wr))[q]? = some x → ∃ fq : FP, (es.map fun e => (e.rd, e.wr.map (·.1)))[q]? = some fq ∧ ∀ k, (∃ y, y ∈ x ∧ y.1 = k) → k ∈ fq.2 := by
      intro q x hq
      simp only [List.getElem?_map, Option.map_eq_some_iff] at hq
      obtain ⟨z, hz, hx⟩ := hq
      refine ⟨(z.rd, z.wr.map (·.1)), by simp [List.getElem?_map, hz], fun k hk => ?_⟩
      obtain ⟨y, hy, hk⟩ := hk
      rw [← hx] at hy
      exact List.mem_map.2 ⟨y, hy, hk⟩
    have hfj : (es.map fun e => (e.rd, e.wr.map (·.1)))[j]? = some (e.rd, e.wr.map (·.1)) := by simp [List.getElem?_map, he]
    -- temporaries that it reads are as in the text
    have agT : ∀ k, k ∈ o.looksAt ops → selF (lst l) 0 get ((mos.zip es).map fun x => dw x.1 x.2) k = selF (fun i => decide (i < j)) 0 get ((mos.zip es).map fun x => dw x.1 x.2) k := by
      intro k hk
      refine selF_congr _ 0 _ _ _ _ (fun q x hq hx => ?_) rfl
      rw [Nat.zero_add]
      obtain ⟨oq, hoq, hdq⟩ := rowd q x hq
      have hdk := hdq k hx
      have hqs : q < ops.size := by
        rcases Nat.lt_or_ge q ops.size with h1 | h1
        · exact h1
        · rw [Array.getElem?_eq_none h1] at hoq; cases hoq
      rcases Nat.lt_trichotomy q j with h | h | h
      · rw [decide_eq_true h]
        rcases okTmps_at hT h hoq ho with hb | hap
        · exact pre q hqs hb
        · exact absurd hk ((Oper.apart_spec hap).1 k hdk)
      · subst h; rw [hjl]; simp
      · rw [decide_eq_false (by omega)]
        rcases okTmps_at hT h ho hoq with hb | hap
        · exact post q hb
        · exact absurd hk ((Oper.apart_spec hap).2.2 k hdk)
    have agB : ∀ k, (k ∈ e.rd ∨ k ∈ e.wr.map (·.1)) → selF (lst l) 0 m (es.map (·.wr)) k = selF (fun i => decide (i < j)) 0 m (es.map (·.wr)) k := by
      intro k hk
      refine selF_congr _ 0 _ _ _ _ (fun q x hq hx => ?_) rfl
      rw [Nat.zero_add]
      obtain ⟨fq, hfq, hwq⟩ := rowb q x hq
      have hkq := hwq k hx
      have hqs : q < ops.size := by
        have : q < (es.map fun e => (e.rd, e.wr.map (·.1))).length := by
          rcases Nat.lt_or_ge q (es.map fun e => (e.rd, e.wr.map (·.1))).length with h1 | h1
          · exact h1
          · rw [List.getElem?_eq_none h1] at hfq; cases hfq
        simp only [List.length_map] at this
        omega
      rcases Nat.lt_trichotomy q j with h | h | h
      · rw [decide_eq_true h]
        rcases okFps_at hF h hfq hfj with hb | hap
        · exact pre q hqs hb
        · have := (touch_no hap (x := k)).1 hkq
          rcases hk with hk | hk
          · exact absurd hk this.1
          · exact absurd hk this.2
      · subst h; rw [hjl]; simp
      · rw [decide_eq_false (by omega)]
        rcases okFps_at hF h hfj hfq with hb | hap
        · exact post q hb
        · rcases hk with hk | hk
          · exact absurd hk ((touch_no hap (x := k)).2 hkq)
          · exact absurd hkq ((touch_no hap (x := k)).1 hk).2
    have hjsz : j < l.size := by omega
    -- what has come up with it
    have insT : selF (lst (l.setIfInBounds j true)) 0 get ((mos.zip es).map fun x => dw x.1 x.2) = updO (selF (lst l) 0 get ((mos.zip es).map fun x => dw x.1 x.2)) mo.dst e.v := by
      funext k
      rw [updO_eq]
      refine selF_insert _ 0 j _ _ _ (dw mo e) ?_ (fun q => by rw [Nat.zero_add]; exact lst_set hjsz) (by rw [Nat.zero_add]; exact hjl) (fun q y hq hy hlq hz z hz' => ?_)
      · simp only [List.getElem?_map, Option.map_eq_some_iff]
        exact ⟨(mo, e), List.getElem?_zip_eq_some.2 ⟨hmo, he⟩, rfl⟩
      · rw [Nat.zero_add] at hlq
        obtain ⟨oq, hoq, hdq⟩ := rowd q y hy
        intro hzk
        have h1 := hdq k ⟨z, hz', hzk⟩
        have h2 : o.dst = some k := by
          rw [← c2]
          obtain ⟨z0, hz0, hz0k⟩ := hz
          unfold dw at hz0
          split at hz0
          · rename_i d hdz
            simp only [List.mem_singleton] at hz0
            subst hz0
            rw [hdz]; simp only at hz0k; rw [hz0k]
          · cases hz0
        rcases okTmps_at hT hq ho hoq with hb | hap
        · rw [post q hb] at hlq; cases hlq
        · exact (Oper.apart_spec hap).2.1 k h2 h1
    have insB : selF (lst (l.setIfInBounds j true)) 0 m (es.map (·.wr)) = wrs (selF (lst l) 0 m (es.map (·.wr))) e.wr := by
      funext k
      rw [wrs_eq]
      refine selF_insert _ 0 j _ _ _ e.wr ?_ (fun q => by rw [Nat.zero_add]; exact lst_set hjsz) (by rw [Nat.zero_add]; exact hjl) (fun q y hq hy hlq hz z hz' => ?_)
      · simp [List.getElem?_map, he]
      · rw [Nat.zero_add] at hlq
        obtain ⟨fq, hfq, hwq⟩ := rowb q y hy
        intro hzk
        have h1 := hwq k ⟨z, hz', hzk⟩
        rcases okFps_at hF hq hfj hfq with hb | hap
        · rw [post q hb] at hlq; cases hlq
        · obtain ⟨z0, hz0, hz0k⟩ := hz
          exact ((touch_no hap (x := k)).1 (List.mem_map.2 ⟨z0, hz0, hz0k⟩)).2 h1
    have next : ∀ (a' : Act) (w' : World), Rel P c (updO (selF (lst l) 0 get ((mos.zip es).map fun x => dw x.1 x.2)) mo.dst e.v) (wrs (selF (lst l) 0 m (es.map (·.wr))) e.wr) a' w' → wpAny P .any ops Q fuel (l.setIfInBounds j true) a' w' := by
      intro a' w' r'
      refine ih _ a' w' (by simpa using hs) (by rw [cnt_set hjsz hjl]; omega) (fun q i hq hb hi => ?_) (by rw [insT, insB]; exact r')
      rw [lst_set hjsz] at hq ⊢
      simp only [Bool.or_eq_true, beq_iff_eq] at hq ⊢
      rcases hq with hq | hq
      · exact .inl (hcl q i hq hb hi)
      · subst hq; exact .inl (pre i hi hb)
    obtain ⟨ph, ρ, H, S0, e0, hg⟩ := r.ex
    have looks : ∀ k, Operand.tmp k ∈ o.op.operands → k ∈ o.looksAt ops := fun k hk => List.mem_append_left _ (List.mem_filterMap.2 ⟨.tmp k, by simpa using hk, rfl⟩)
    have guardT : ∀ t b, mo.g = some (t, b) → t ∈ o.looksAt ops := by
      intro t b hgm
      rw [hgm] at c4
      unfold chkG at c4
      split at c4
      · rename_i e' _; cases e'
      · rename_i t' b' j' b'' e' hgo
        cases e'
        simp only [Bool.and_eq_true, beq_iff_eq] at c4
        refine List.mem_append_right _ ?_
        rw [hgo]
        simp only [c4.2]
        simp
      · cases c4
    unfold wpOp
    rw [ho]
    dsimp only
    rcases hstep with ⟨hy, hsem⟩ | ⟨hn, hv, hrd, hwr⟩
    · rw [if_pos (wanted_yes c4 (fun t b hgm => by
        have := hg t
        rw [agT t (guardT t b hgm)] at this
        rw [hgm] at hy
        simp only [gYes] at hy
        rw [hy] at this
        simpa only [RepV, RepC, RepD] using this))]
      refine .inl (hsem (selF (lst l) 0 m (es.map (·.wr))) (fun b hb => agB b (.inl hb)) (fun x hx => agB x.1 (.inr (List.mem_map.2 ⟨x, hx, rfl⟩))) ph ρ w a H (r.gnd.mono S0.hle)
        (fun k hk => by rw [← agT k (looks k hk)]; exact hg k) _ _ fun h' ρ' w' vC st K' e1 rv => ?_)
      rw [← c2]
      exact next _ _ (rel_step r.gnd r.defers r.size hd S0 e0 hg st K' e1 rv)
    · cases hgm : mo.g with
      | none => rw [hgm] at hn; exact hn.elim
      | some p =>
        obtain ⟨t, b⟩ := p
        rw [hgm] at hn c4
        have := hg t
        rw [agT t (guardT t b hgm)] at this
        rw [if_neg (by
          rw [wanted_no c4 (by
            rcases hn with hn | ⟨x, hn⟩
            · rw [hn] at this; exact .inl (by simpa only [RepV, RepC, RepD] using this)
            · rw [hn] at this; exact .inr ⟨x, by simpa only [RepV, RepC, RepD] using this⟩)]
          simp)]
        rw [← c2]
        refine next _ _ ?_
        rw [hv, hwr]
        exact rel_skip r hd

end
end Go.Abs
