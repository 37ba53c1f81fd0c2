/- What a walk through a function's body gives: its contract. -/
import Derived.Test.YtkgomampbengjaaGreatDoorAbs17
set_option linter.unusedVariables false
set_option linter.unusedSimpArgs false
namespace Go.Abs

/-! ### own memory, kept for good as the call ends -/

def allDD : List (List AC) → Option (List (List D))
  | [] => some []
  | r :: rs => match allD r, allDD rs with
    | some x, some xs => some (x :: xs)
    | _, _ => none

@[simp] theorem allDD_map (es : List (List D)) : allDD (es.map (·.map .d)) = some es := by
  induction es with
  | nil => rfl
  | cons e es ih => simp [allDD, ih]

@[simp] theorem allDD_append (a b : List (List AC)) : allDD (a ++ b) = (allDD a).bind fun x => (allDD b).map fun y => x ++ y := by
  induction a with
  | nil => simp [allDD]
  | cons e a ih =>
    simp only [List.cons_append, allDD]
    cases allD e with
    | none => simp
    | some x =>
      rw [ih]
      cases allDD a with
      | none => simp
      | some y =>
        cases allDD b with
        | none => simp
        | some z => simp

theorem allDD_ok : ∀ {es : List (List AC)} {ds : List (List D)}, allDD es = some ds → es = ds.map (·.map .d)
  | [], ds, h => by simp [allDD] at h; simp [← h]
  | e :: es, ds, h => by
    simp only [allDD] at h
    split at h
    · rename_i x xs h1 h2
      cases h
      rw [allD_ok h1, allDD_ok h2]; rfl
    · cases h

mutual
def frzC (m : Hp) : Nat → AC → Option D
  | _, .d x => some x
  | _, .msl s b off len => match m b with
    | .arr s' es => if s = s' ∧ off + len ≤ es.length then (allDD es).map fun ds => .sl false s ((ds.drop off).take len) else none
    | _ => none
  | f + 1, .ptr b off => match m b with
    | .box cs => (frzCs m f cs).map fun ds => .rp ds off
    | _ => none
  | f + 1, .fn g caps => (frzCs m f caps).map fun ds => .fn g ds
  | _, _ => none
def frzCs (m : Hp) : Nat → List AC → Option (List D)
  | _, [] => some []
  | f, c :: cs => match frzC m f c, frzCs m f cs with
    | some x, some xs => some (x :: xs)
    | _, _ => none
end

mutual
def frzV (m : Hp) : AV → Option DV
  | .c x => (frzC m 4 x).map .one
  | .ag cs => (frzCs m 4 cs).map .agg
  | .tup vs => (frzVs m vs).map .tup
def frzVs (m : Hp) : List AV → Option (List DV)
  | [] => some []
  | v :: vs => match frzV m v, frzVs m vs with
    | some x, some xs => some (x :: xs)
    | _, _ => none
end

@[simp] theorem frzCs_D (m : Hp) (f : Nat) (ds : List D) : frzCs m f (ds.map .d) = some ds := by
  induction ds with
  | nil => unfold frzCs; rfl
  | cons d ds ih => simp [frzCs, ih, frzC]

theorem frzCs_len {m : Hp} : ∀ (f : Nat) (cs : List AC) (ds : List D), frzCs m f cs = some ds → ds.length = cs.length
  | f, [], ds, e => by unfold frzCs at e; cases e; rfl
  | f, c :: cs, ds, e => by
    unfold frzCs at e
    split at e
    · rename_i x xs h1 h2
      cases e
      simp [frzCs_len f cs xs h2]
    · cases e

/-- all that is new is kept -/
def keepAll (h : PH) (n : Nat) (w : Heap) : PH := fun B => if B < n then h B else w[B]?

section
variable {h : PH} {ρ : RM} {m : Hp} {w : Heap} {n : Nat}

theorem keepAll_le (H : HRel h ρ m w) : h.le (keepAll h n w) := fun B o e => by
  unfold keepAll
  split
  · exact e
  · exact H.pers B o e

theorem keepAll_pers (H : HRel h ρ m w) : ∀ B o, keepAll h n w B = some o → w[B]? = some o := fun B o e => by
  unfold keepAll at e
  split at e
  · exact H.pers B o e
  · exact e

mutual
theorem frzC_ok (H : HRel h ρ m w) (hnew : ∀ b p, ρ b = some p → Real (m b) p → n ≤ p.1) : ∀ (f : Nat) (x : AC) (d : D) (v : Value), frzC m f x = some d → RepC h ρ x v → RepD (keepAll h n w) d v
  | f, .d x, d, v, e, r => by
    unfold frzC at e; cases e
    simp only [RepC] at r
    exact RepD.mono (keepAll_le H) x v r
  | f, .msl s b off len, d, v, e, r => by
    unfold frzC at e
    split at e
    · rename_i s' es eb
      split at e
      · rename_i hh
        obtain ⟨h1, h2⟩ := hh
        subst h1
        simp only [Option.map_eq_some_iff] at e
        obtain ⟨ds, e1, e2⟩ := e
        subst e2
        have := allDD_ok e1
        subst this
        simp only [RepC] at r
        obtain ⟨p, a, r1, r2, r3, r4, r5⟩ := r
        simp only [List.length_map] at h2
        have hlen : ((ds.drop off).take len).length = len := by simp; omega
        have how := H.own b p r1
        rw [eb] at how
        unfold RepD
        rcases how with ⟨q1, q2⟩ | ⟨us, U, g1, g2, g3, g5, g4⟩
        · have hds : ds = [] := by simpa using q2
          subst hds
          have hl0 : len = 0 := by simp at h2; omega
          have ho0 : off = 0 := by simp at h2; omega
          subst hl0 ho0
          refine ⟨a, p.2 - 0, by rw [r2]; simp, by simp, (fun h => by cases h), by simp [lenMax], (fun ha => ⟨by simp, by omega⟩), r5, by simp [RepE]⟩
        · refine ⟨a, p.2 - off, by rw [r2, hlen], by omega, (fun h => by cases h), by simp at g5; omega, fun ha => ?_, r5, ?_⟩
          · have : ¬ off < p.2 := fun hlt => by rw [r4 hlt] at ha; cases ha
            have hl0 : len = 0 := by omega
            subst hl0
            exact ⟨by simp, by omega⟩
          · by_cases hlt : off < p.2
            · have ha := r4 hlt
              subst ha
              have hn : n ≤ p.1 := hnew b p r1 (by rw [eb]; show 0 < p.2; omega)
              have e4 : cellsAt (keepAll h n w) (some ⟨p.1, off * s, none⟩) = us.drop (off * s) := by
                simp only [cellsAt, hcells, keepAll]
                rw [if_neg (by omega), g1]
              rw [e4]
              have g6 := RepCE.to_E g4
              have := (g6.drop off).take len
              have key : ∀ (es : List (List D)) (vs : List Value), RepE h s es vs → RepE (keepAll h n w) s es vs := fun es vs r => by
                simpa using RepE.mono (keepAll_le H) es vs [] r
              exact key _ _ this
            · have hl0 : len = 0 := by omega
              subst hl0
              simp [RepE]
      · cases e
    · cases e
  | f + 1, .ptr b off, d, v, e, r => by
    unfold frzC at e
    split at e
    · rename_i cs eb
      simp only [Option.map_eq_some_iff] at e
      obtain ⟨ds, e1, e2⟩ := e
      subst e2
      simp only [RepC] at r
      obtain ⟨p, r1, r2⟩ := r
      have how := H.own b p r1
      rw [eb] at how
      obtain ⟨us, U, g1, g2, g3⟩ := how
      have hn : n ≤ p.1 := hnew b p r1 (by rw [eb]; trivial)
      unfold RepD
      refine ⟨p.1, 0, by rw [r2]; simp, ?_⟩
      have e4 : hcells (keepAll h n w) p.1 = us := by
        simp only [hcells, keepAll]
        rw [if_neg (by omega), g1]
      rw [e4]
      exact frzCs_ok H hnew f cs ds us e1 (by simpa using g3)
    · cases e
  | f + 1, .fn g caps, d, v, e, r => by
    unfold frzC at e
    simp only [Option.map_eq_some_iff] at e
    obtain ⟨ds, e1, e2⟩ := e
    subst e2
    simp only [RepC] at r
    obtain ⟨vs, r1, r2, r3⟩ := r
    unfold RepD
    have hl : ds.length = caps.length := frzCs_len f caps ds e1
    exact ⟨vs, r1, by rw [r2, hl], frzCs_ok H hnew f caps ds vs e1 r3⟩
  | 0, .ptr b off, d, v, e, r => by unfold frzC at e; cases e
  | 0, .fn g caps, d, v, e, r => by unfold frzC at e; cases e
  | 0, .ept s b i off, d, v, e, r => by unfold frzC at e; cases e
  | _ + 1, .ept s b i off, d, v, e, r => by unfold frzC at e; cases e
  | 0, .map b, d, v, e, r => by unfold frzC at e; cases e
  | _ + 1, .map b, d, v, e, r => by unfold frzC at e; cases e
  | 0, .op q, d, v, e, r => by unfold frzC at e; cases e
  | _ + 1, .op q, d, v, e, r => by unfold frzC at e; cases e
theorem frzCs_ok (H : HRel h ρ m w) (hnew : ∀ b p, ρ b = some p → Real (m b) p → n ≤ p.1) : ∀ (f : Nat) (cs : List AC) (ds : List D) (vs : List Value), frzCs m f cs = some ds → RepCL h ρ cs vs → RepL (keepAll h n w) ds vs
  | f, [], ds, vs, e, r => by unfold frzCs at e; cases e; simp [RepL]
  | f, _ :: _, ds, [], e, r => by simp [RepCL] at r
  | f, c :: cs, ds, v :: vs, e, r => by
    unfold frzCs at e
    split at e
    · rename_i x xs h1 h2
      cases e
      simp only [RepCL] at r
      simp only [RepL]
      exact ⟨⟨r.1.1, frzC_ok H hnew f c x v h1 r.1.2⟩, frzCs_ok H hnew f cs xs vs h2 r.2⟩
    · cases e
end

mutual
theorem frzV_ok (H : HRel h ρ m w) (hnew : ∀ b p, ρ b = some p → Real (m b) p → n ≤ p.1) : ∀ (x : AV) (d : DV) (v : Value), frzV m x = some d → RepV h ρ x v → RepDV (keepAll h n w) d v
  | .c x, d, v, e, r => by
    unfold frzV at e
    simp only [Option.map_eq_some_iff] at e
    obtain ⟨y, e1, e2⟩ := e
    subst e2
    simp only [RepV] at r
    simp only [RepDV]
    exact frzC_ok H hnew _ _ _ _ e1 r
  | .ag cs, d, v, e, r => by
    unfold frzV at e
    simp only [Option.map_eq_some_iff] at e
    obtain ⟨y, e1, e2⟩ := e
    subst e2
    simp only [RepV] at r
    obtain ⟨vs, r1, r2, r3⟩ := r
    simp only [RepDV]
    exact ⟨vs, r1, by rw [r2, frzCs_len _ _ _ e1], frzCs_ok H hnew _ _ _ _ e1 r3⟩
  | .tup xs, d, v, e, r => by
    unfold frzV at e
    simp only [Option.map_eq_some_iff] at e
    obtain ⟨y, e1, e2⟩ := e
    subst e2
    simp only [RepV] at r
    obtain ⟨vs, r1, r2⟩ := r
    simp only [RepDV]
    exact ⟨vs, r1, frzVs_ok H hnew _ _ _ e1 r2⟩
theorem frzVs_ok (H : HRel h ρ m w) (hnew : ∀ b p, ρ b = some p → Real (m b) p → n ≤ p.1) : ∀ (xs : List AV) (ds : List DV) (vs : List Value), frzVs m xs = some ds → RepVL h ρ xs vs → RepDVL (keepAll h n w) ds vs
  | [], ds, vs, e, r => by unfold frzVs at e; cases e; simpa [RepVL, RepDVL] using r
  | _ :: _, ds, [], e, r => by simp [RepVL] at r
  | x :: xs, ds, v :: vs, e, r => by
    unfold frzVs at e
    split at e
    · rename_i y ys h1 h2
      cases e
      simp only [RepVL] at r
      simp only [RepDVL]
      exact ⟨frzV_ok H hnew x y v h1 r.1, frzVs_ok H hnew xs ys vs h2 r.2⟩
    · cases e
end
end

/-! ### what holds of all data: numbers in their kinds' ranges, lengths within the machine's -/

mutual
def D.ok : D → Prop
  | .any => True
  | .int k n => k.min ≤ n ∧ n ≤ k.max
  | .bool _ => True
  | .str s => s.size ≤ lenMax
  | .sc _ => True
  | .sl _ s es => es.length ≤ lenMax ∧ D.okE s es
  | .rp cs _ => D.okL cs
  | .fn _ cs => D.okL cs
  | .ifc _ _ cs => D.okL cs
def D.okL : List D → Prop
  | [] => True
  | d :: ds => d.ok ∧ D.okL ds
def D.okE (s : Nat) : List (List D) → Prop
  | [] => True
  | e :: es => (e.length = s ∧ D.okL e) ∧ D.okE s es
end

mutual
theorem RepD.ok {h : PH} : ∀ (d : D) (v : Value), RepD h d v → d.ok
  | .any, _, _ => by simp [D.ok]
  | .int k n, v, r => by simp only [RepD] at r; simp only [D.ok]; exact r.2
  | .bool _, _, _ => by simp [D.ok]
  | .str s, v, r => by simp only [RepD] at r; simp only [D.ok]; exact r.2
  | .sc _, _, _ => by simp [D.ok]
  | .sl x s es, v, r => by
    simp only [RepD] at r
    obtain ⟨a, cap, r1, r2, r3, r4, r5, r6, r7⟩ := r
    simp only [D.ok]
    exact ⟨r4, RepE.ok s es _ r7⟩
  | .rp cs off, v, r => by
    simp only [RepD] at r
    obtain ⟨B, o, r1, r2⟩ := r
    simp only [D.ok]
    exact RepL.ok cs _ r2
  | .fn f caps, v, r => by
    simp only [RepD] at r
    obtain ⟨vs, r1, r2, r3⟩ := r
    simp only [D.ok]
    exact RepL.ok caps _ r3
  | .ifc t ag cs, v, r => by
    simp only [RepD] at r
    obtain ⟨vs, r1, r2, r3, r4⟩ := r
    simp only [D.ok]
    exact RepL.ok cs _ r4
theorem RepL.ok {h : PH} : ∀ (ds : List D) (vs : List Value), RepL h ds vs → D.okL ds
  | [], _, _ => by simp [D.okL]
  | _ :: _, [], r => by simp [RepL] at r
  | d :: ds, v :: vs, r => by
    simp only [RepL] at r
    simp only [D.okL]
    exact ⟨RepD.ok d v r.1.2, RepL.ok ds vs r.2⟩
theorem RepE.ok {h : PH} (s : Nat) : ∀ (es : List (List D)) (vs : List Value), RepE h s es vs → D.okE s es
  | [], _, _ => by simp [D.okE]
  | e :: es, vs, r => by
    simp only [RepE] at r
    simp only [D.okE]
    exact ⟨⟨r.1, RepL.ok e vs r.2.1⟩, RepE.ok s es _ r.2.2⟩
end

mutual
def DV.ok : DV → Prop
  | .one x => x.ok
  | .agg cs => D.okL cs
  | .tup vs => DV.okL vs
def DV.okL : List DV → Prop
  | [] => True
  | v :: vs => v.ok ∧ DV.okL vs
end
mutual
theorem RepDV.ok {h : PH} : ∀ (d : DV) (v : Value), RepDV h d v → d.ok
  | .one x, v, r => by simp only [RepDV] at r; simp only [DV.ok]; exact RepD.ok _ _ r
  | .agg cs, v, r => by
    simp only [RepDV] at r
    obtain ⟨vs, r1, r2, r3⟩ := r
    simp only [DV.ok]; exact RepL.ok _ _ r3
  | .tup xs, v, r => by
    simp only [RepDV] at r
    obtain ⟨vs, r1, r2⟩ := r
    simp only [DV.ok]; exact RepDVL.ok _ _ r2
theorem RepDVL.ok {h : PH} : ∀ (ds : List DV) (vs : List Value), RepDVL h ds vs → DV.okL ds
  | [], _, _ => by simp [DV.okL]
  | _ :: _, [], r => by simp [RepDVL] at r
  | d :: ds, v :: vs, r => by
    simp only [RepDVL] at r
    simp only [DV.okL]
    exact ⟨RepDV.ok d v r.1, RepDVL.ok ds vs r.2⟩
end

/-- a slice, no more being said of its spare places -/
def D.er : D → D
  | .sl _ s es => .sl false s es
  | d => d
theorem RepD.er {h : PH} {d : D} {v : Value} (r : RepD h d v) : RepD h d.er v := by
  cases d with
  | sl x s es =>
    simp only [D.er]
    simp only [RepD] at r ⊢
    obtain ⟨a, cap, r1, r2, r3, r4⟩ := r
    exact ⟨a, cap, r1, r2, (fun h => by cases h), r4⟩
  | _ => exact r
theorem RepL.er {h : PH} : ∀ {ds : List D} {vs : List Value}, RepL h ds vs → RepL h (ds.map D.er) vs
  | [], _, _ => by simp [RepL]
  | _ :: _, [], r => by simp [RepL] at r
  | d :: ds, v :: vs, r => by
    simp only [RepL] at r
    simp only [List.map_cons, RepL]
    exact ⟨⟨r.1.1, r.1.2.er⟩, r.2.er⟩
mutual
def DV.er : DV → DV
  | .one x => .one x.er
  | .agg cs => .agg (cs.map D.er)
  | .tup vs => .tup (DV.ers vs)
def DV.ers : List DV → List DV
  | [] => []
  | v :: vs => v.er :: DV.ers vs
end
mutual
theorem RepDV.er {h : PH} : ∀ {d : DV} {v : Value}, RepDV h d v → RepDV h d.er v
  | .one x, v, r => by simp only [RepDV, DV.er] at r ⊢; exact RepD.er r
  | .agg cs, v, r => by
    simp only [RepDV, DV.er] at r ⊢
    obtain ⟨vs, r1, r2, r3⟩ := r
    exact ⟨vs, r1, by simpa using r2, r3.er⟩
  | .tup xs, v, r => by
    simp only [RepDV, DV.er] at r ⊢
    obtain ⟨vs, r1, r2⟩ := r
    exact ⟨vs, r1, RepDVL.ers r2⟩
theorem RepDVL.ers {h : PH} : ∀ {ds : List DV} {vs : List Value}, RepDVL h ds vs → RepDVL h (DV.ers ds) vs
  | [], _, r => by simpa [RepDVL, DV.ers] using r
  | _ :: _, [], r => by simp [RepDVL] at r
  | d :: ds, v :: vs, r => by
    simp only [RepDVL] at r
    simp only [DV.ers, RepDVL]
    exact ⟨r.1.er, RepDVL.ers r.2⟩
end

/-- a call handed data of which less is said -/
theorem PCall.er {P : Program} {f : FuncId} {args : List DV} {v : DV} (h : PCall P f (DV.ers args) v) : PCall P f args v :=
  ⟨h.1, fun ph w us hp hG r => h.2 ph w us hp hG (RepDVL.ers r)⟩

/-! ### results -/

inductive MR where
  | tmp (t : Nat)
  | cell (t : Nat) (ag : Bool) (sz : Nat)

def chkR (P : Program) : List MR → List ResultVar → Bool
  | [], [] => true
  | .tmp t :: rs, .tmp t' :: vs => t == t' && chkR P rs vs
  | .cell t ag sz :: rs, .cell t' T :: vs => t == t' && tyA P T == some (ag, sz) && chkR P rs vs
  | _, _ => false

/-- a result, read as the call ends -/
def resK (S : St) (K : AV → Prop) : MR → Prop
  | .tmp t => K (S.get t)
  | .cell t ag sz => match S.get t with
    | .c (.d (.rp cs off)) => ldD ag sz cs off K
    | .c (.ptr b off) => match S.m b with
      | .box cs => ldC ag sz cs off K
      | _ => False
    | _ => False

def ressK (S : St) : List MR → (List AV → Prop) → Prop
  | [], K => K []
  | r :: rs, K => resK S (fun v => ressK S rs fun vs => K (v :: vs)) r

def oneV : List Value → Value
  | [v] => v
  | vs => .tuple vs.toArray

def one? : List AV → AV
  | [v] => v
  | vs => .tup vs

section
variable {P : Program} {c : Ctx}

theorem resK_ok {S : St} {K : AV → Prop} {r : MR} {rv : ResultVar} (hc : chkR P [r] [rv] = true) (hK : resK S K r) : ∃ v, K v ∧ ∀ {h : PH} {ρ : RM} {a : Act} {w : World}, HRel h ρ S.m w.heap → (∀ k, RepV h ρ (S.get k) (a.tmps.getD k undef)) →
    ∃ vC, Runs P (match rv with | .tmp t => (Pure.pure (a.tmps.getD t undef) : Sem Value) | .cell t T => do loadVar T (← asAddr (a.tmps.getD t undef))) w vC w ∧ RepV h ρ v vC := by
  cases r with
  | tmp t =>
    cases rv with
    | tmp t' =>
      simp only [chkR, Bool.and_true, beq_iff_eq] at hc
      subst hc
      exact ⟨_, hK, fun {h ρ a w} H hg => ⟨_, Runs.pure _, hg t⟩⟩
    | cell _ _ => simp [chkR] at hc
  | cell t ag sz =>
    cases rv with
    | tmp _ => simp [chkR] at hc
    | cell t' T =>
      simp only [chkR, Bool.and_true, Bool.and_eq_true, beq_iff_eq] at hc
      obtain ⟨h1, hT⟩ := hc
      subst h1
      simp only [resK] at hK
      split at hK
      · rename_i cs off ex
        obtain ⟨v, kv, F⟩ := ldD_ok hT hK
        refine ⟨v, kv, fun {h ρ a w} H hg => ?_⟩
        have r1 := hg t
        rw [ex] at r1
        simp only [RepV, RepC, RepD] at r1
        obtain ⟨B, o', e, rl⟩ := r1
        obtain ⟨vC, h2, h3⟩ := F (ρ := ρ) H rl
        refine ⟨vC, ?_, h3⟩
        show Runs P (do loadVar T (← asAddr (a.tmps.getD t undef))) w vC w
        rw [e]
        exact (Runs.pure (⟨B, o' + off, none⟩ : Addr)).bind h2
      · rename_i b off ex
        split at hK
        · rename_i cs eb
          obtain ⟨v, kv, F⟩ := ldC_ok hT hK
          refine ⟨v, kv, fun {h ρ a w} H hg => ?_⟩
          have r1 := hg t
          rw [ex] at r1
          simp only [RepV, RepC] at r1
          obtain ⟨q, hq, e⟩ := r1
          have how := H.own b q hq
          rw [eb] at how
          obtain ⟨vs, U, g1, g2, g3⟩ := how
          obtain ⟨vC, h2, h3⟩ := F (w := w) (o := 0) g1 (by simpa using g3)
          refine ⟨vC, ?_, h3⟩
          show Runs P (do loadVar T (← asAddr (a.tmps.getD t undef))) w vC w
          rw [e]
          simp only [Nat.zero_add] at h2
          exact (Runs.pure (⟨q.1, off, none⟩ : Addr)).bind h2
        · exact hK.elim
      · exact hK.elim

theorem ressK_ok {S : St} : ∀ {rs : List MR} {K : List AV → Prop} {rvs : List ResultVar}, chkR P rs rvs = true → ressK S rs K → ∃ vs, K vs ∧ ∀ {h : PH} {ρ : RM} {a : Act} {w : World}, HRel h ρ S.m w.heap → (∀ k, RepV h ρ (S.get k) (a.tmps.getD k undef)) →
    ∃ us : List Value, Runs P (rvs.mapM fun | .tmp t => (Pure.pure (a.tmps.getD t undef) : Sem Value) | .cell t T => do loadVar T (← asAddr (a.tmps.getD t undef))) w us w ∧ RepVL h ρ vs us
  | [], K, [], _, hK => ⟨[], hK, fun _ _ => ⟨[], Runs.pure _, rfl⟩⟩
  | [], _, _ :: _, h, _ => by simp [chkR] at h
  | r :: rs, _, [], h, _ => by cases r <;> simp [chkR] at h
  | r :: rs, K, rv :: rvs, hc, hK => by
    have h1 : chkR P [r] [rv] = true ∧ chkR P rs rvs = true := by
      cases r <;> cases rv <;> simp_all [chkR]
    simp only [ressK] at hK
    obtain ⟨v, kv, F⟩ := resK_ok h1.1 hK
    obtain ⟨vs, kvs, G⟩ := ressK_ok h1.2 kv
    refine ⟨v :: vs, kvs, fun {h ρ a w} H hg => ?_⟩
    obtain ⟨vC, f1, f2⟩ := F (a := a) H hg
    obtain ⟨us, g1, g2⟩ := G (a := a) H hg
    refine ⟨vC :: us, ?_, ⟨f2, g2⟩⟩
    rw [List.mapM_cons]
    exact f1.bind (g1.bind (Runs.pure _))

/-- the temporaries as the call begins -/
def argT : Nat → List DV → List (Nat × AV)
  | _, [] => []
  | i, v :: vs => (i, v.av) :: argT (i + 1) vs

def endQ (rs : List MR) (v : DV) : Exit → St → Prop
  | .ret, S | .normal, S => ressK S rs fun vs => (frzV S.m (one? vs)).map DV.er = some v
  | _, _ => False

theorem argT_ok {h : PH} {ρ : RM} : ∀ {ds : List DV} {us : List Value} (i : Nat), RepDVL h ds us → ∀ k, RepV h ρ (look (argT i ds) k) (if i ≤ k then us.getD (k - i) undef else undef)
  | [], us, i, _, k => by simp [argT, look, RepV, RepC, RepD]
  | _ :: _, [], _, r, _ => by simp [RepDVL] at r
  | d :: ds, u :: us, i, r, k => by
    simp only [RepDVL] at r
    simp only [argT, look]
    by_cases hk : k = i
    · subst hk; simp; exact RepDV.av r.1
    · rw [if_neg hk]
      have := argT_ok (ρ := ρ) (i + 1) r.2 k
      by_cases hle : i ≤ k
      · rw [if_pos hle]
        rw [if_pos (by omega)] at this
        rw [show k - i = (k - (i + 1)) + 1 from by omega]
        simpa using this
      · rw [if_neg hle]
        rw [if_neg (by omega)] at this
        exact this

/-- THE CONTRACT OF A FUNCTION, by a walk through its body -/
theorem PCall.of_walk {f : FuncId} {fn : Func} {code : Code} {mc : MC} {rs : List MR} {args : List DV} {v : DV} (hf : P.funcs[f]? = some fn) (hb : fn.body = some code) (hname : (fn.name != "runtime.NumGoroutine") = true)
    (hc : chkC P fn.ntmps mc code = true) (hr : chkR P rs fn.results.toList = true) (hn : args.length ≤ fn.ntmps) (h : DV.okL args → ∀ c : Ctx, c.N = fn.ntmps → c.pure → AW P c mc (endQ rs v) ⟨argT 0 args, fun _ => .non, 0⟩) : PCall P f args v := by
  refine ⟨by unfold callee; rw [hf]; simp only [hb]; simpa using hname, fun ph w us hp hG ra => ?_⟩
  have hlen := ra.length
  let c : Ctx := ⟨ph, fun _ => none, fun _ => .non, w, fn.ntmps⟩
  have hpure : c.pure := trivial
  refine calls_of_wp hf hb (wp_mono (h (RepDVL.ok _ _ ra) c rfl hpure code hc _ w ?_) fun e a' w' ⟨S', r', q⟩ => ?_)
  · refine ⟨hG, rfl, ?_, ph, fun _ => none, ⟨hp, fun b => by simp, (fun b p e => by cases e), (fun b c p q e => by cases e), (fun b p e => by cases e)⟩, (Step.refl _ _ _ _).wk, Same.refl w, fun k => ?_⟩
    · simp [c]; omega
    · show RepV ph (fun _ => none) (look (argT 0 args) k) _
      have := argT_ok (ρ := fun _ => none) 0 ra k
      simp only [Nat.zero_le, if_true, Nat.sub_zero] at this
      have e1 : (us.toArray ++ Array.replicate (fn.ntmps - us.toArray.size) undef).getD k undef = us.getD k undef := by
        rw [Array.getD_eq_getD_getElem?, List.getD_eq_getElem?_getD, Array.getElem?_append]
        split
        · simp
        · rename_i hh
          rw [List.getElem?_eq_none (by simpa using hh)]
          simp only [Array.getElem?_replicate]
          split <;> rfl
      rw [e1]
      exact this
  · obtain ⟨ph', ρ', H, S0, e0, hg⟩ := r'.ex
    have fin : ressK S' rs (fun vs => (frzV S'.m (one? vs)).map DV.er = some v) → ∃ vC, (results fn a'.tmps).run P w' = .ok vC w' ∧ ∃ (vC' : Value) (h' : PH), Ending.returned vC = .returned vC' ∧ ph.le h' ∧ (∀ B, B < w.heap.size → h' B = ph B) ∧ (∀ B o, h' B = some o → w'.heap[B]? = some o) ∧
        w.heap.size ≤ w'.heap.size ∧ (∀ B, B < w.heap.size → w'.heap[B]? = w.heap[B]?) ∧ Same w w' ∧ RepDV h' v vC' := by
      intro hk
      obtain ⟨vs, kv, F⟩ := ressK_ok hr hk
      simp only [Option.map_eq_some_iff] at kv
      obtain ⟨v', kv, ev⟩ := kv
      subst ev
      obtain ⟨us', g1, g2⟩ := F (a := a') H hg
      have hnew : ∀ b p, ρ' b = some p → Real (S'.m b) p → w.heap.size ≤ p.1 := by
        intro b p h1 h2
        rcases S0.own b p h1 h2 with h3 | ⟨c', q, h3, _⟩
        · exact h3
        · cases h3
      have free : ∀ B, Free c.ρ c.m B := fun B b p h1 => by cases h1
      have hres : Runs P (results fn a'.tmps) w' (oneV us') w' := by
        unfold results
        refine Runs.bind (a := us'.toArray) (w' := w') ?_ ?_
        · rw [Array.mapM_eq_mapM_toList]
          exact g1.map (f := List.toArray)
        · cases us' with
          | nil => exact Runs.pure _
          | cons u us' =>
            cases us' with
            | nil => exact Runs.pure _
            | cons u' us' => exact Runs.pure _
      have hrep : RepV ph' ρ' (one? vs) (oneV us') := by
        cases vs with
        | nil =>
          simp only [RepVL] at g2; subst g2
          simp only [one?, RepV]
          exact ⟨[], rfl, rfl⟩
        | cons x xs =>
          cases us' with
          | nil => simp [RepVL] at g2
          | cons u us' =>
            cases xs with
            | nil =>
              simp only [RepVL] at g2
              rw [g2.2]
              exact g2.1
            | cons y ys =>
              cases us' with
              | nil => simp [RepVL] at g2
              | cons u' us' =>
                simp only [one?, RepV]
                exact ⟨_, rfl, g2⟩
      refine ⟨_, hres, _, keepAll ph' w.heap.size w'.heap, rfl, PH.le_trans S0.hle (keepAll_le H), fun B hB => ?_, keepAll_pers H, S0.size, fun B hB => S0.frame B hB (free B), e0, (frzV_ok H hnew _ _ _ kv hrep).er⟩
      unfold keepAll
      rw [if_pos hB]
      exact S0.hlow B hB (free B)
    cases e with
    | normal => exact ⟨r'.defers, fin q⟩
    | ret => exact ⟨r'.defers, fin q⟩
    | exit _ => exact q.elim
    | goto _ => exact q.elim
    | panic _ => exact q.elim
    | outgrown => exact q.elim

end
end Go.Abs
