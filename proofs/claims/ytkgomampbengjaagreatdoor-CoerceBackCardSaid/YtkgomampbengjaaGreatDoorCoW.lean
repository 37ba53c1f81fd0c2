import Derived.Test.YtkgomampbengjaaGreatDoorCoQ
import Derived.Test.YtkgomampbengjaaGreatDoorSrt
import Derived.Test.YtkgomampbengjaaGreatDoorCoeD
import Derived.Test.YtkgomampbengjaaGreatDoorLay2
/- Types: how many, how high, and how heavy. -/
set_option linter.unusedVariables false
set_option linter.unusedSimpArgs false
namespace Go.Gr
open Go.Abs Go.Proofs

mutual
def hvy : Typ → Int → Int
  | .mk k n s l, m => if m < l.length ∨ 1000 < (s.length : Int) then 0 else hvys l (IntKind.i64.wrap (m - 1))
def hvys : List Typ → Int → Int
  | [], m => m
  | t :: ts, m => if 0 < m then hvys ts (hvy t m) else m
end
theorem hvy_eq (t : Typ) (m : Int) : hvy t m = if m < t.kids.length ∨ 1000 < (t.names.length : Int) then 0 else hvys t.kids (IntKind.i64.wrap (m - 1)) := by
  cases t; rw [hvy]; rfl
theorem hvys_stop {l : List Typ} {m : Int} (h : m ≤ 0) : hvys l m = m := by
  cases l with
  | nil => rw [hvys]
  | cons d l => rw [hvys, if_neg (by omega)]
theorem typ_len {t : Typ} (o : DV.ok (.agg t.enc)) : t.names.length ≤ lenMax ∧ t.kids.length ≤ lenMax := by
  rw [Typ.enc_eq] at o
  simp only [DV.ok, D.okL, D.ok, encS_length, List.length_map] at o
  exact ⟨o.2.2.1.1, o.2.2.2.1.1⟩

theorem heavy_one (t : Typ) (ih : ∀ e, e ∈ t.kids → ∀ m, PCall Pg F.graduslaw10_heavy [.agg e.enc, .one (.int .i64 m)] (.one (.int .i64 (hvy e m)))) (m : Int) :
    PCall Pg F.graduslaw10_heavy [.agg t.enc, .one (.int .i64 m)] (.one (.int .i64 (hvy t m))) := by
  refine w_graduslaw10_heavy (by simp) fun o c hN hp => ?_
  have hf := typ_len o.1
  unfold lenMax at hf
  unfold mc_graduslaw10_heavy
  simp
  rw [hvy_eq]
  by_cases h1 : m < t.kids.length
  · simp [h1]
  by_cases h2 : 1000 < (t.names.length : Int)
  · have h2' : 1000 < t.names.length := by omega
    simp [h1, h2, h2']
  have h2' : ¬ 1000 < t.names.length := by omega
  rw [if_neg (by omega)]
  simp [h1, h2, h2']
  refine W.loop Pg_mixed hp (fun x : Nat × Int => x.1 ≤ t.kids.length ∧ hvys (t.kids.drop x.1) x.2 = hvys t.kids (IntKind.i64.wrap (m - 1))) (fun x => [(5, .c (.d (.int .i64 x.1))), (1, .c (.d (.int .i64 x.2))), (2, .c (.d (.rp t.enc 0)))]) (fun _ => []) (fun x => t.kids.length - x.1) (0, IntKind.i64.wrap (m - 1)) [] ⟨by simp, by simp⟩ (by simp) fun ⟨j, r⟩ ⟨hx1, hx2⟩ => ?_
  unfold lp_graduslaw10_heavy_0
  simp only at hx1 hx2
  simp
  refine gd.mk (fun h => gd.mk (fun h' => ?_) (fun h' => ?_)) (fun h => ?_)
  · simp at h h'
    have hj : j < t.kids.length := by omega
    simp [List.getElem?_eq_getElem hj]
    refine callK.mk (ih _ (List.getElem_mem hj) _) ?_
    simp
    refine Abs.Next.mk (j + 1, hvy t.kids[j] r) [] ⟨by simp; omega, ?_⟩ (by simp; omega) ?_
    · rw [← hx2, List.drop_eq_getElem_cons hj, hvys, if_pos h']
    · simp
      exact wrap_i64 (by omega) (by omega)
  · simp at h'
    rw [← hx2, hvys_stop h']
  · have hj : j = t.kids.length := by simp at h; omega
    rw [← hx2, hj]; simp [hvys]
mutual
theorem heavy_ok : ∀ (t : Typ) (m : Int), PCall Pg F.graduslaw10_heavy [.agg t.enc, .one (.int .i64 m)] (.one (.int .i64 (hvy t m)))
  | .mk k n s l, m => heavy_one (.mk k n s l) (fun e h m => heavys_ok l e h m) m
theorem heavys_ok : ∀ (l : List Typ) (e : Typ), e ∈ l → ∀ m : Int, PCall Pg F.graduslaw10_heavy [.agg e.enc, .one (.int .i64 m)] (.one (.int .i64 (hvy e m)))
  | [], e, h, m => by cases h
  | d :: l, e, h, m => by
    cases h with
    | head => exact heavy_ok d m
    | tail _ h => exact heavys_ok l e h m
end

/-! ### size -/
mutual
def tsz : Typ → Nat
  | .mk _ _ _ l => min (tszs l 1) 201
def tszs : List Typ → Nat → Nat
  | [], n => n
  | t :: ts, n => if 200 < n then n else tszs ts (n + tsz t)
end
theorem tsz_eq (t : Typ) : tsz t = min (tszs t.kids 1) 201 := by cases t; rw [tsz]; rfl
theorem tsz_le (t : Typ) : tsz t ≤ 201 := by rw [tsz_eq]; omega
theorem tszs_stop {l : List Typ} {n : Nat} (h : 200 < n) : tszs l n = n := by
  cases l with
  | nil => rw [tszs]
  | cons d l => rw [tszs, if_pos h]

theorem tSize_one (t : Typ) (ih : ∀ e, e ∈ t.kids → PCall Pg F.types_Size [.agg e.enc] (.one (.int .i64 (tsz e)))) : PCall Pg F.types_Size [.agg t.enc] (.one (.int .i64 (tsz t))) := by
  refine w_types_Size (by simp) fun o c hN hp => ?_
  have hf := typ_len o.1
  unfold lenMax at hf
  unfold mc_types_Size
  simp
  have hmm : ∀ n : Nat, mmI false (n : Int) 201 = ((min n 201 : Nat) : Int) := fun n => by unfold mmI; simp; split <;> omega
  refine W.loop Pg_mixed hp (fun x : Nat × Nat => x.1 ≤ t.kids.length ∧ x.2 ≤ 401 ∧ tszs (t.kids.drop x.1) x.2 = tszs t.kids 1) (fun x => [(9, .c (.d (.int .i64 x.1))), (3, .c (.d (.int .i64 x.2))), (7, .c (.d (.sl false 4 (t.kids.map Typ.enc)))), (8, .c (.d (.int .i64 t.kids.length)))]) (fun _ => []) (fun x => t.kids.length - x.1) (0, 1) [] ⟨by simp, by simp, by simp⟩ (by simp) fun ⟨j, n⟩ ⟨hx1, hx3, hx2⟩ => ?_
  unfold lp_types_Size_0
  simp only at hx1 hx2 hx3
  simp
  refine gd.mk (fun h => ?_) (fun h => ?_)
  · have hj : j < t.kids.length := by simpa using h
    rw [List.drop_eq_getElem_cons hj, tszs] at hx2
    simp [List.getElem?_eq_getElem hj]
    refine gd.mk (fun h => ?_) (fun h => ?_)
    · simp at h
      rw [if_pos (by omega)] at hx2
      rw [tsz_eq, ← hx2, hmm]
    · simp at h
      rw [if_neg (by omega)] at hx2
      refine callK.mk (ih _ (List.getElem_mem hj)) ?_
      have hle := tsz_le t.kids[j]
      simp
      refine Abs.Next.mk (j + 1, n + tsz t.kids[j]) [] ⟨by simp; omega, by simp only; omega, hx2⟩ (by simp; omega) ?_
      simp
      exact ⟨wrap_i64 (by omega) (by omega), wrap_i64 (by omega) (by omega)⟩
  · have hj : j = t.kids.length := by simp at h; omega
    subst hj
    rw [List.drop_length, tszs] at hx2
    rw [tsz_eq, ← hx2, hmm]
mutual
theorem tSize_ok : ∀ t : Typ, PCall Pg F.types_Size [.agg t.enc] (.one (.int .i64 (tsz t)))
  | .mk k n s l => tSize_one (.mk k n s l) (fun e h => tSizes_ok l e h)
theorem tSizes_ok : ∀ (l : List Typ) (e : Typ), e ∈ l → PCall Pg F.types_Size [.agg e.enc] (.one (.int .i64 (tsz e)))
  | [], e, h => by cases h
  | d :: l, e, h => by
    cases h with
    | head => exact tSize_ok d
    | tail _ h => exact tSizes_ok l e h
end

/-! ### height -/
def hgt : Nat → Typ → Nat
  | 0, _ => 1
  | n + 1, t => t.kids.foldl (fun h k => max h (hgt n k)) 0 + 1
theorem fold_max {α : Type} (f : α → Nat) : ∀ (l : List α) (a B : Nat), a ≤ B → (∀ x, x ∈ l → f x ≤ B) → l.foldl (fun h k => max h (f k)) a ≤ B
  | [], a, B, h, _ => h
  | x :: l, a, B, h, hl => fold_max f l (max a (f x)) B (by have := hl x (by simp); omega) fun y hy => hl y (by simp [hy])
theorem hgt_le : ∀ (n : Nat) (t : Typ), hgt n t ≤ n + 1
  | 0, t => Nat.le_refl _
  | n + 1, t => by
    unfold hgt
    have := fold_max (hgt n) t.kids 0 (n + 1) (by omega) fun x _ => hgt_le n x
    omega
theorem height_ok : ∀ (n : Nat) (t : Typ), n ≤ 100 → PCall Pg F.types_height [.agg t.enc, .one (.int .i64 (n + 1 : Nat))] (.one (.int .i64 (hgt n t)))
  | 0, t, hn => by
    refine w_types_height (by simp) fun o c hN hp => ?_
    unfold mc_types_height
    simp [hgt]
  | n + 1, t, hn => by
    refine w_types_height (by simp) fun o c hN hp => ?_
    have hf := typ_len o.1
    unfold lenMax at hf
    unfold mc_types_height
    have hne : ¬ ((n : Int) + 1 + 1 = 1) := by omega
    simp [hne]
    refine W.loop Pg_mixed hp (fun x : Nat × Nat => x.1 ≤ t.kids.length ∧ x.2 ≤ n + 1 ∧ (t.kids.drop x.1).foldl (fun h k => max h (hgt n k)) x.2 = t.kids.foldl (fun h k => max h (hgt n k)) 0) (fun x => [(13, .c (.d (.int .i64 x.1))), (5, .c (.d (.int .i64 x.2))), (1, .c (.d (.int .i64 (n + 1 + 1 : Nat)))), (11, .c (.d (.sl false 4 (t.kids.map Typ.enc)))), (12, .c (.d (.int .i64 t.kids.length)))]) (fun _ => []) (fun x => t.kids.length - x.1) (0, 0) [] ⟨by simp, by simp, by simp⟩ (by simp) fun ⟨j, r⟩ ⟨hx1, hx3, hx2⟩ => ?_
    unfold lp_types_height_0
    simp only at hx1 hx2 hx3
    simp
    refine gd.mk (fun h => ?_) (fun h => ?_)
    · have hj : j < t.kids.length := by simpa using h
      rw [List.drop_eq_getElem_cons hj, List.foldl_cons] at hx2
      simp [List.getElem?_eq_getElem hj]
      have hw : IntKind.i64.wrap ((n : Int) + 1) = ((n + 1 : Nat) : Int) := by rw [wrap_i64 (by omega) (by omega)]; omega
      rw [hw]
      refine callK.mk (height_ok n t.kids[j] (by omega)) ?_
      have hle := hgt_le n t.kids[j]
      have hmm : mmI true (r : Int) (hgt n t.kids[j]) = ((max r (hgt n t.kids[j]) : Nat) : Int) := by unfold mmI; simp; split <;> omega
      simp
      refine Abs.Next.mk (j + 1, max r (hgt n t.kids[j])) [] ⟨by simp; omega, by simp only; omega, hx2⟩ (by simp; omega) ?_
      simp [hmm]
      exact wrap_i64 (by omega) (by omega)
    · have hj : j = t.kids.length := by simp at h; omega
      subst hj
      rw [List.drop_length, List.foldl_nil] at hx2
      simp only [hgt, ← hx2]
      simp
      rw [wrap_i64 (by omega) (by omega)]
theorem Height_ok (t : Typ) : PCall Pg F.types_Height [.agg t.enc] (.one (.int .i64 (hgt 16 t))) := by
  refine w_types_Height (by simp) fun o c hN hp => ?_
  unfold mc_types_Height
  simp
  refine callK.mk (height_ok 16 t (by omega)) ?_
  simp
end Go.Gr

/- The language's own words: strings.Fields of a text that is written in the program. -/
set_option linter.unusedVariables false
set_option linter.unusedSimpArgs false
namespace Go.Abs
open Go.RowKit

/-- a call that answers a new row of data -/
theorem PCall.row {P : Program} {f : FuncId} {args : List DV} {ds : List D} (hc : callee P f = true) (hl : ds.length ≤ lenMax)
    (H : ∀ (h : PH) (w : World) (argsC : List Value), (∀ B o, h B = some o → w.heap[B]? = some o) → Gnd P h → RepDVL h args argsC →
      Calls P f argsC.toArray w fun e w' => ∃ (v : Value) (xs : List Value) (t : TypeId), e = .returned v ∧ (∀ h, RepL h ds xs) ∧ w'.ownsRow w.heap.size t 1 v ds.length xs ∧ Below w.heap.size w w') :
    PCall P f args (.one (.sl false 1 (ds.map fun d => [d]))) := by
  refine ⟨hc, fun h w argsC K G r => ?_⟩
  refine (H h w argsC K G r).mono fun e w' q => ?_
  obtain ⟨v, xs, t, e1, e2, e3, e4⟩ := q
  have lt : ∀ B o, h B = some o → B < w.heap.size := fun B o e => by
    rcases Nat.lt_or_ge B w.heap.size with q | q
    · exact q
    · have := K B o e; rw [Array.getElem?_eq_none q] at this; cases this
  obtain ⟨h', q1, q2, q3, q4⟩ := row_rep e3 rfl hl e2 (h := h) fun B o e => ⟨lt B o e, by rw [e4.block B (lt B o e)]; exact K B o e⟩
  exact ⟨v, h', e1, q1, q2, q3, e4.size, fun B hB => e4.block B hB, ⟨e4.os, e4.tape, e4.output⟩, by simpa only [RepDV] using q4⟩
end Go.Abs
namespace Go.Gr
open Go.Abs Go.Proofs Go.RowKit

def wordsT : ByteArray := bs [97, 110, 100, 32, 97, 110, 121, 32, 97, 115, 32, 98, 111, 111, 108, 32, 101, 108, 115, 101, 32, 101, 120, 112, 111, 114, 116, 32, 102, 97, 108, 115, 101, 32, 102, 110, 32, 102, 117, 110, 99, 116, 105, 111, 110, 32, 105, 102, 32, 105, 109, 112, 111, 114, 116, 32, 105, 110, 32, 105, 110, 116, 32, 105, 115, 32, 108, 101, 116, 32, 110, 111, 116, 32, 110, 117, 108, 108, 32, 111, 114, 32, 112, 114, 105, 110, 116, 32, 114, 101, 97, 100, 32, 114, 101, 99, 111, 114, 100, 32, 115, 116, 114, 32, 116, 104, 101, 110, 32, 116, 114, 117, 101, 32, 119, 105, 116, 104]
def wordsL : List ByteArray := (Lib.fields wordsT.data.toList).map fun l => ⟨l.toArray⟩
theorem wordsT_size : wordsT.size ≤ 1000 := by decide
theorem wordsT_ascii : ∀ (j : Nat) b, wordsT.data.toList[j]? = some b → b.toNat < 128 := fun j b h => by
  have hm := List.mem_of_getElem? h
  have hall : (wordsT.data.toList.all fun b => decide (b.toNat < 128)) = true := by decide
  simpa using List.all_eq_true.1 hall b hm
set_option maxRecDepth 20000 in
theorem spN_eq : ∀ c, c < 256 → spN c = if Lib.isSp (UInt8.ofNat c) then 1 else 0 := by decide

theorem Fields_ok : PCall Pg 145 [.one (.str wordsT)] (.one (.sl false 1 (encS wordsL))) := by
  have e : encS wordsL = (wordsL.map D.str).map fun d => [d] := by simp [encS]
  rw [e]
  have hlen : wordsL.length ≤ 1000 := by decide +kernel
  refine PCall.row (by decide +kernel) (by simp [lenMax]; omega) fun h w argsC K G r => ?_
  match argsC, r with
  | [v], r =>
    simp only [RepDVL, RepDV, RepD, and_true] at r
    obtain ⟨rfl, _⟩ := r
    have hg : Tryz.prog.globalNamed "strings.asciiSpace" = some (Tryz.fields145_ren.g 0) := by kernel_rfl
    obtain ⟨o, g1, g2⟩ := G _ hg
    refine (Any.strings_Fields_core Tryz.fields145 (by kernel_rfl) wordsT w (by have := wordsT_size; omega) wordsT_ascii fun c hc => ?_).mono fun e w' q => ?_
    · rw [g2 w (K _ _ g1) c hc, spN_eq c hc]
    · obtain ⟨rfl, rfl⟩ := q
      have hk : (wordsL.map D.str).length = (Lib.fields wordsT.data.toList).length := by simp [wordsL]
      have hk2 : wordsL.length = (Lib.fields wordsT.data.toList).length := by simp [wordsL]
      have hb : (1000 : Nat) ≤ maxLen := by decide
      have hsz : (Lib.fields wordsT.data.toList).length ≤ maxLen := by omega
      have hmap : ((Lib.fields wordsT.data.toList).map fun l => Value.string ⟨l.toArray⟩) = (Lib.fields wordsT.data.toList).map encStr := rfl
      have hlens : ∀ x, x ∈ Lib.fields wordsT.data.toList → x.length ≤ lenMax := fun x hx => by
        have hw : ((Lib.fields wordsT.data.toList).all fun x => decide (x.length ≤ 1000)) = true := by decide +kernel
        have := List.all_eq_true.1 hw x hx
        simp at this; unfold lenMax; omega
      refine ⟨_, (Lib.fields wordsT.data.toList).map encStr, Tryz.fields145_ren.t 9, rfl, fun h => repL_str hlens, ?_, (Below.refl _ _).alloc (Nat.le_refl _) _⟩
      rw [hk]
      refine ⟨by simp, .inr ⟨w.heap.size, (Lib.fields wordsT.data.toList).length, _, rfl, Nat.le_refl _, Array.getElem?_push_size, Nat.le_refl _, hsz, by simp, ?_⟩⟩
      rw [hmap]
      exact List.take_of_length_le (by simp)
end Go.Gr

/- What may be a name. -/
set_option linter.unusedVariables false
set_option linter.unusedSimpArgs false
namespace Go.Gr
open Go.Abs Go.Proofs

def letterB (c : Int) : Bool := decide (97 ≤ c ∧ c ≤ 122 ∨ 65 ≤ c ∧ c ≤ 90 ∨ c = 95)
def innerB (c : Int) : Bool := letterB c || decide (48 ≤ c ∧ c ≤ 57)
theorem letter_ok (c : Int) : PCall Pg F.lex_letter [.one (.int .u8 c)] (.one (.bool (letterB c))) := by
  refine w_lex_letter (by simp) fun o c' hN hp => ?_
  unfold mc_lex_letter letterB
  by_cases h1 : 97 ≤ c <;> by_cases h2 : c ≤ 122 <;> by_cases h3 : 65 ≤ c <;> by_cases h4 : c ≤ 90 <;> simp [h1, h2, h3, h4] <;> (try (intros; omega)) <;> (try omega)
theorem digit_ok (c : Int) : PCall Pg F.lex_digit [.one (.int .u8 c)] (.one (.bool (decide (48 ≤ c ∧ c ≤ 57)))) := by
  refine w_lex_digit (by simp) fun o c' hN hp => ?_
  unfold mc_lex_digit
  by_cases h1 : 48 ≤ c <;> by_cases h2 : c ≤ 57 <;> simp [h1, h2] <;> (try omega)
theorem inner_ok (c : Int) : PCall Pg F.lex_inner [.one (.int .u8 c)] (.one (.bool (innerB c))) := by
  refine w_lex_inner (by simp) fun o c' hN hp => ?_
  unfold mc_lex_inner innerB
  simp
  refine callK.mk (letter_ok c) ?_
  simp
  refine gd.mk (fun h => ?_) (fun h => ?_)
  · refine callK.mk (digit_ok c) ?_
    rw [h]
    simp
  · rw [h]
    simp
/-- how many bytes at the beginning -/
def rowB (q : Int → Bool) : List UInt8 → Nat
  | [] => 0
  | b :: l => if q b.toNat = true then rowB q l + 1 else 0
theorem rowB_le (q : Int → Bool) : ∀ l, rowB q l ≤ l.length
  | [] => Nat.le_refl _
  | b :: l => by have := rowB_le q l; unfold rowB; split <;> simp <;> omega
theorem row_ok (s : ByteArray) : PCall Pg F.lex_row [.one (.str s), .one (.fn (.func F.lex_inner) [])] (.one (.int .i64 (rowB innerB s.data.toList))) := by
  refine w_lex_row (by simp) fun o c' hN hp => ?_
  have hs : s.size ≤ lenMax := by have := o.1; simpa only [DV.ok, D.ok] using this
  unfold lenMax at hs
  have hlen : s.data.toList.length = s.size := by rw [Array.length_toList]; rfl
  unfold mc_lex_row
  simp
  refine W.loop Pg_mixed hp (fun j : Nat => j ≤ s.size ∧ j + rowB innerB (s.data.toList.drop j) = rowB innerB s.data.toList) (fun j => [(8, .c (.d (.int .i64 j))), (7, .c (.d (.int .i64 s.size))), (0, .c (.d (.str s))), (1, .c (.d (.fn (.func F.lex_inner) [])))]) (fun _ => []) (fun j => s.size - j) 0 [] ⟨by simp, by simp⟩ (by simp) fun j ⟨h1, h2⟩ => ?_
  unfold lp_lex_row_0
  simp
  refine gd.mk (fun h => ?_) (fun h => ?_)
  · have hj : j < s.size := by simpa using h
    have hj' : j < s.data.toList.length := by omega
    rw [List.drop_eq_getElem_cons hj', rowB] at h2
    have hb : s.data.toList[j]? = some s.data.toList[j] := List.getElem?_eq_getElem hj'
    generalize s.data.toList[j] = b at h2 hb
    have hb' : s.data[j]? = some b := by simpa using hb
    simp [hb']
    refine callK.mk (inner_ok b.toNat) ?_
    simp
    refine gd.mk (fun h => ?_) (fun h => ?_)
    · simp at h
      rw [if_neg (by simp [h])] at h2
      simp [← h2]
    · simp at h
      rw [if_pos h] at h2
      refine Abs.Next.mk (j + 1) [] ⟨by omega, by omega⟩ (by omega) ?_
      simp
      exact wrap_i64 (by omega) (by omega)
  · have hj : j = s.size := by simp at h; omega
    subst hj
    rw [List.drop_of_length_le (by omega), rowB] at h2
    simp [← h2]

theorem indexS_ok (l : List ByteArray) (s : ByteArray) : PCall Pg F.slices_Index_string_string [.one (.sl false 1 (encS l)), .one (.str s)] (.one (.int .i64 (fi (fun x => decide (s = x)) 0 l))) := by
  refine w_slices_Index_string_string (by simp) fun o c' hN hp => ?_
  have hl : l.length ≤ lenMax := by
    have := o.1; simp only [DV.ok, D.ok, encS_length] at this; exact this.1
  unfold lenMax at hl
  unfold mc_slices_Index_string_string
  simp
  refine W.loop Pg_mixed hp (fun j : Nat => j ≤ l.length ∧ fi (fun x => decide (s = x)) j (l.drop j) = fi (fun x => decide (s = x)) 0 l) (fun j => [(8, .c (.d (.int .i64 j))), (7, .c (.d (.int .i64 l.length))), (0, .c (.d (.sl false 1 (encS l)))), (1, .c (.d (.str s)))]) (fun _ => []) (fun j => l.length - j) 0 [] ⟨by simp, by simp⟩ (by simp) fun j ⟨h1, h2⟩ => ?_
  unfold lp_slices_Index_string_string_0
  simp
  refine gd.mk (fun h => ?_) (fun h => ?_)
  · have hj : j < l.length := by simpa using h
    rw [List.drop_eq_getElem_cons hj, fi] at h2
    simp [List.getElem?_eq_getElem hj]
    refine gd.mk (fun h => ?_) (fun h => ?_)
    · rw [if_pos h] at h2
      simp [← h2]
    · simp only [Bool.not_true] at h
      rw [if_neg (by rw [h]; simp)] at h2
      refine Abs.Next.mk (j + 1) [] ⟨by omega, h2⟩ (by omega) ?_
      simp
      exact wrap_i64 (by omega) (by omega)
  · have hj : j = l.length := by simp at h; omega
    subst hj
    rw [List.drop_length, fi] at h2
    simp [← h2]
theorem containsS_ok (l : List ByteArray) (s : ByteArray) : PCall Pg F.slices_Contains_string_string [.one (.sl false 1 (encS l)), .one (.str s)] (.one (.bool (l.any fun x => decide (s = x)))) := by
  refine w_slices_Contains_string_string (by simp) fun o c' hN hp => ?_
  unfold mc_slices_Contains_string_string
  simp
  refine callK.mk (indexS_ok l s) ?_
  simp
  exact fi_any (fun x => decide (s = x)) 0 l
theorem words_ok : PCall Pg F.lex_words [] (.one (.sl false 1 (encS wordsL))) := by
  refine w_lex_words (by simp) fun o c' hN hp => ?_
  unfold mc_lex_words
  have h := Fields_ok
  unfold wordsT at h
  generalize wordsL = L at *
  simp
  refine callK.mk h ?_
  simp
/-- may it be a name -/
def nameB (s : ByteArray) : Bool := decide (s ≠ bs []) && (decide (s.size ≤ 32) && ((match s.data.toList with | b :: _ => letterB b.toNat | [] => false) && (decide (rowB innerB s.data.toList = s.size) && !wordsL.any fun x => decide (s = x))))
theorem Name_ok (s : ByteArray) : PCall Pg F.lex_Name [.one (.str s)] (.one (.bool (nameB s))) := by
  refine w_lex_Name (by simp) fun o c' hN hp => ?_
  have hlen : s.data.toList.length = s.size := by rw [Array.length_toList]; rfl
  have hw := words_ok
  unfold mc_lex_Name nameB
  generalize wordsL = W at *
  by_cases he : s = bs []
  · subst he
    simp
  by_cases h32 : s.size ≤ 32
  rotate_left
  · have h32' : ¬ ((s.size : Int) ≤ 32) := by omega
    simp [he, h32, h32']
  have h32' : (s.size : Int) ≤ 32 := by omega
  cases hd : s.data.toList with
  | nil => exact absurd (by apply ByteArray.ext; apply Array.ext'; rw [hd]; rfl) he
  | cons b l =>
    have h0 : s.data[0]? = some b := by rw [← Array.getElem?_toList, hd]; rfl
    have hr := row_ok s
    rw [hd] at hr
    generalize hm : rowB innerB (b :: l) = m at *
    simp [he, h32, h32', h0]
    refine callK.mk (letter_ok b.toNat) ?_
    simp
    cases hb : letterB b.toNat
    · simp
    · simp
      refine callK.mk hr ?_
      simp
      by_cases hms : m = s.size
      · have hms' : (m : Int) = (s.size : Int) := by omega
        simp [hms]
        refine callK.mk hw ?_
        simp
        refine callK.mk (containsS_ok W s) ?_
        simp [he, h32, hms]
      · have hms' : ¬ ((m : Int) = (s.size : Int)) := by omega
        simp [hms, hms']
end Go.Gr

/- Types: unions. -/
set_option linter.unusedVariables false
set_option linter.unusedSimpArgs false
namespace Go.Gr
open Go.Abs Go.Proofs

@[simp] theorem rens_comp3 {α : Type} (f : Nat → Nat) (g : α → List D) : AC.rens f ∘ ((fun x => List.map AC.d x) ∘ g) = (fun x => List.map AC.d x) ∘ g := by funext x; simp
/-- a place for a type, or for none -/
def optD : Option Typ → D
  | none => .sc (.pointer none)
  | some t => .rp t.enc 0
def ofD (of : List (Option Typ)) : List D := of.map optD
@[simp] theorem ofD_length (of : List (Option Typ)) : (ofD of).length = of.length := by simp [ofD]
theorem ofD_get (of : List (Option Typ)) (i : Nat) : (ofD of)[i]? = (of[i]?).map optD := by simp [ofD]
theorem ofD_set (of : List (Option Typ)) (i : Nat) (x : Option Typ) : (ofD of).set i (optD x) = ofD (of.set i x) := by simp [ofD, List.map_set]
abbrev boxU (of : List (Option Typ)) : Blk := .box ((ofD of).map .d)
theorem put_one {α : Type} {cs : List α} {i : Nat} (h : i < cs.length) (x : α) : put cs i [x] = cs.set i x := by
  rw [put_eq _ _ _ (by simp; omega)]
  unfold splice
  rw [List.set_eq_take_append_cons_drop, if_pos h]
  simp
theorem tagOf_le (t : Typ) : tagOf t < 6 := by unfold tagOf; split <;> omega
/-- a type put among those of the tags -/
def putU (of : List (Option Typ)) (k : Typ) : Bool × List (Option Typ) :=
  if tagOf k < 0 then (false, of) else match of.getD (tagOf k).toNat none with
    | none => (sameT k k, of.set (tagOf k).toNat (some k))
    | some t => (sameT k t, of)
theorem putU_len (of : List (Option Typ)) (k : Typ) : (putU of k).2.length = of.length := by
  unfold putU; split
  · rfl
  · split <;> simp
theorem putM (of : List (Option Typ)) (hof : of.length = 6) (k : Typ) :
    MCall Pg F.types_union_1 [.ag (k.enc.map .d), .c (.ptr 0 0)] [boxU of] (.c (.d (.bool (putU of k).1))) [boxU (putU of k).2] := by
  refine wm_types_union_1 ⟨by simp, by simp, by simp, by simp, by simp, by simp, by simp⟩ fun ts hts ok hb c hN hp => ?_
  obtain ⟨t0, rfl⟩ := oneTs hts
  unfold mc_types_union_1
  simp
  refine callK.mk (Tag_ok k) ?_
  simp
  have htl := tagOf_le k
  unfold putU
  by_cases h0 : tagOf k < 0
  · simp [h0]
    exact EndM.mk [0] [1] (by simp)
  · generalize hz : tagOf k = z at *
    obtain ⟨i, rfl⟩ : ∃ i : Nat, z = i := ⟨z.toNat, by omega⟩
    have hi : i < of.length := by omega
    have hg : of.getD i none = of[i] := by rw [List.getD_eq_getElem?_getD, List.getElem?_eq_getElem hi]; rfl
    rw [if_neg h0, Int.toNat_natCast, hg]
    have hput : ∀ x : Option Typ, put ((ofD of).map AC.d) i [AC.d (optD x)] = (ofD (of.set i x)).map AC.d := fun x => by
      rw [put_one (by simpa using hi), ← ofD_set, List.map_set]
    have hputk := hput (some k)
    have hgs : ∀ x, (ofD (of.set i x))[i]? = some (optD x) := fun x => by rw [ofD_get, List.getElem?_set_self hi]; rfl
    have hgsk := hgs (some k)
    have hgi : (ofD of)[i]? = some (optD of[i]) := by rw [ofD_get, List.getElem?_eq_getElem hi]; rfl
    have hneg : ¬ ((i : Int) < 0) := by omega
    cases he : of[i] with
    | none =>
      rw [he] at hgi
      simp only [optD] at hgi hgsk hputk
      simp [hgi, hputk, hgsk, hneg, htl]
      refine ⟨by omega, ?_⟩
      refine callK.mk (SameT_ok k k) ?_
      simp
      refine ⟨by decide, ?_⟩
      exact EndM.mk [0] [1] (by simp; exact hputk)
    | some t =>
      rw [he] at hgi
      simp only [optD] at hgi
      simp [hgi, hneg, htl]
      refine callK.mk (SameT_ok k t) ?_
      simp
      refine ⟨by decide, ?_⟩
      exact EndM.mk [0] [1] (by simp)

/-- what a type is as a member: itself, or its own members -/
def mems (k : Typ) : List Typ := if k.kind = 7 then k.kids else [k]
def putAll : List Typ → List (Option Typ) → Bool × List (Option Typ)
  | [], of => (true, of)
  | m :: l, of => if (putU of m).1 = true then putAll l (putU of m).2 else (false, of)
theorem putAll_app : ∀ (a b : List Typ) (of : List (Option Typ)), putAll (a ++ b) of = if (putAll a of).1 = true then putAll b (putAll a of).2 else (false, (putAll a of).2)
  | [], b, of => by simp [putAll]
  | m :: a, b, of => by
    rw [List.cons_append, putAll, putAll]
    split
    · exact putAll_app a b _
    · simp
theorem putAll_len : ∀ (l : List Typ) (of : List (Option Typ)), (putAll l of).2.length = of.length
  | [], of => rfl
  | m :: l, of => by
    rw [putAll]
    split
    · rw [putAll_len, putU_len]
    · rfl
def noU : List (Option Typ) := [none, none, none, none, none, none]
def unionP (kids : List Typ) : Typ × Bool := match putAll (kids.flatMap mems) noU with
  | (false, _) => (.mk 0 (bs []) [] [], false)
  | (true, of) => match of.filterMap id with
    | [t] => (t, true)
    | l => (.mk 7 (bs []) [] l, decide (0 < l.length))

abbrev box4 : Blk := .box [.d (.int .i64 0), .d (.str (bs [])), .d (.sl true 1 []), .d (.sl true 4 [])]
abbrev uniT (kids : List Typ) (i : Nat) : List (Nat × AV) := [(2, .c (.ptr 0 0)), (4, .c (.ptr 1 0)), (5, .c (.fn (.func 123) [.ptr 1 0])), (15, .c (.d (.sl false 4 (kids.map Typ.enc)))), (16, .c (.d (.int .i64 kids.length))), (17, .c (.d (.int .i64 i)))]
set_option maxRecDepth 20000 in
theorem union_in {c : Ctx} (hp : c.pure) (kids : List Typ) (i : Nat) (tr : Bool) (l : List Typ) (hl : l.length ≤ 4611686018427387904) (of : List (Option Typ)) (hof : of.length = 6) {Q : Exit → St → Prop} {S : St} {g} {ms : List Nat}
    (h0 : Match ms S ((30, .c (.d (.int .i64 0))) :: (28, .c (.d (.sl tr 4 (l.map Typ.enc)))) :: (29, .c (.d (.int .i64 l.length))) :: uniT kids i) [box4, boxU of])
    (hF : (putAll l of).1 = false → ∀ T M n, Abs.look T 2 = .c (.ptr 0 0) → Abs.look T 3 = .c (.d (.bool false)) → M 0 = box4 → Q .ret ⟨T, M, n⟩)
    (hQ : (putAll l of).1 = true → ∀ T, Abs.look T 2 = .c (.ptr 0 0) → Abs.look T 4 = .c (.ptr 1 0) → Abs.look T 5 = .c (.fn (.func 123) [.ptr 1 0]) → Abs.look T 15 = .c (.d (.sl false 4 (kids.map Typ.enc))) → Abs.look T 16 = .c (.d (.int .i64 kids.length)) → Abs.look T 17 = .c (.d (.int .i64 i)) →
      Q (.exit 2) ⟨T, hpOf [box4, boxU (putAll l of).2], 2⟩) : lw_ Pg c lp_types_union_2 Q g S := by
  refine W.loop Pg_mixed hp (fun x : Nat × List (Option Typ) => x.1 ≤ l.length ∧ x.2.length = 6 ∧ putAll (l.drop x.1) x.2 = putAll l of) (fun x => (30, .c (.d (.int .i64 x.1))) :: (28, .c (.d (.sl tr 4 (l.map Typ.enc)))) :: (29, .c (.d (.int .i64 l.length))) :: uniT kids i)
    (fun x => [box4, boxU x.2]) (fun x => l.length - x.1) (0, of) ms ⟨by simp, hof, by simp⟩ h0 fun ⟨j, o'⟩ ⟨h1, h3, h2⟩ => ?_
  unfold lp_types_union_2
  simp only at h1 h2 h3
  simp
  refine gd.mk (fun h => ?_) (fun h => ?_)
  · have hj : j < l.length := by simpa using h
    rw [List.drop_eq_getElem_cons hj, putAll] at h2
    simp [List.getElem?_eq_getElem hj]
    refine callKM.mk [1] (putM o' h3 l[j]) (by simp) ?_
    simp
    refine gd.mk (fun h => ?_) (fun h => ?_)
    · simp at h
      rw [if_neg (by simp [h])] at h2
      rw [← h2] at hF
      exact hF rfl _ _ _ (by simp) (by simp) (by simp)
    · simp at h
      rw [if_pos h] at h2
      refine Abs.Next.mk (j + 1, (putU o' l[j]).2) [0, 1] ⟨by simp only; omega, by simp only; rw [putU_len]; exact h3, h2⟩ (by simp; omega) ?_
      simp
      exact wrap_i64 (by omega) (by omega)
  · have hj : j = l.length := by simp at h; omega
    subst hj
    rw [List.drop_length, putAll] at h2
    rw [← h2] at hQ
    exact hQ rfl _ (by simp) (by simp) (by simp) (by simp) (by simp) (by simp)

theorem filt_take {of : List (Option Typ)} {j : Nat} (h : j < of.length) : (of.take (j + 1)).filterMap id = (of.take j).filterMap id ++ (match of[j] with | some t => [t] | none => []) := by
  rw [List.take_succ_eq_append_getElem h, List.filterMap_append]
  congr 1
  cases of[j] <;> rfl
theorem okE_typs : ∀ {l : List Typ}, D.okE 4 (l.map Typ.enc) → ∀ k, k ∈ l → k.kids.length ≤ lenMax
  | [], _, k, h => by cases h
  | ⟨a, b, c, d⟩ :: l, q, k, h => by
    simp only [List.map_cons, D.okE, Typ.enc, D.okL, D.ok, Typ.encs_map, List.length_map] at q
    cases h with
    | head => exact q.1.2.2.2.2.1.1
    | tail _ h => exact okE_typs q.2 k h
set_option maxRecDepth 20000 in
theorem union_ok (kids : List Typ) : PCall Pg F.types_union [.one (.sl false 4 (kids.map Typ.enc))] (.tup [.agg (unionP kids).1.enc, .one (.bool (unionP kids).2)]) := by
  refine w_types_union (by simp) fun o c hN hp => ?_
  have hl : kids.length ≤ lenMax := by
    have := o.1; simp only [DV.ok, D.ok, List.length_map] at this; exact this.1
  have hk : ∀ k, k ∈ kids → k.kids.length ≤ 4611686018427387904 := by
    have := o.1; simp only [DV.ok, D.ok] at this
    intro k hk; have := okE_typs this.2 k hk; unfold lenMax at this; exact this
  unfold lenMax at hl
  unfold mc_types_union
  simp
  refine W.loop Pg_mixed hp (fun x : Nat × List (Option Typ) => x.1 ≤ kids.length ∧ x.2.length = 6 ∧ putAll ((kids.drop x.1).flatMap mems) x.2 = putAll (kids.flatMap mems) noU) (fun x => uniT kids x.1)
    (fun x => [box4, boxU x.2]) (fun x => kids.length - x.1) (0, noU) [0, 1] ⟨by simp, rfl, by simp⟩ (by simp [ofD, noU, optD]) fun ⟨j, o'⟩ ⟨h1, h3, h2⟩ => ?_
  unfold lp_types_union_0
  simp only at h1 h2 h3
  simp
  refine gd.mk (fun h => ?_) (fun h => ?_)
  · have hj : j < kids.length := by simpa using h
    rw [List.drop_eq_getElem_cons hj, List.flatMap_cons, putAll_app] at h2
    simp [List.getElem?_eq_getElem hj]
    have hfin : ∀ l, mems kids[j] = l → (putAll l o').1 = false → unionP kids = (.mk 0 (bs []) [] [], false) := fun l e hf => by
      rw [e, hf, if_neg (by simp)] at h2
      unfold unionP; rw [← h2]
    by_cases h7 : kids[j].kind = 7
    · have hm : mems kids[j] = kids[j].kids := by unfold mems; rw [if_pos h7]
      simp [h7]
      refine union_in hp kids j false kids[j].kids (hk _ (List.getElem_mem hj)) o' h3 (ms := [0, 1]) (by simp) (fun hf T M n e2 e3 m0 => ?_) fun ht T e2 e4 e5 e15 e16 e17 => ?_
      · rw [hfin _ hm hf]
        simp [e2, e3, m0, Typ.enc, Typ.encs, encS]
      · rw [hm, if_pos ht] at h2
        simp [e2, e4, e5, e15, e16, e17]
        refine Abs.Next.mk (j + 1, (putAll kids[j].kids o').2) [0, 1] ⟨by simp only; omega, by simp only; rw [putAll_len]; exact h3, h2⟩ (by simp; omega) ?_
        simp [e2, e4, e5, e15, e16, e17]
        exact wrap_i64 (by omega) (by omega)
    · have hm : mems kids[j] = [kids[j]] := by unfold mems; rw [if_neg h7]
      simp [h7]
      refine union_in hp kids j true [kids[j]] (by simp) o' h3 (ms := [0, 1]) (by simp) (fun hf T M n e2 e3 m0 => ?_) fun ht T e2 e4 e5 e15 e16 e17 => ?_
      · rw [hfin _ hm hf]
        simp [e2, e3, m0, Typ.enc, Typ.encs, encS]
      · rw [hm, if_pos ht] at h2
        simp [e2, e4, e5, e15, e16, e17]
        refine Abs.Next.mk (j + 1, (putAll [kids[j]] o').2) [0, 1] ⟨by simp only; omega, by simp only; rw [putAll_len]; exact h3, h2⟩ (by simp; omega) ?_
        simp [e2, e4, e5, e15, e16, e17]
        exact wrap_i64 (by omega) (by omega)
  · have hj : j = kids.length := by simp at h; omega
    subst hj
    rw [List.drop_length, List.flatMap_nil, putAll] at h2
    have hres : unionP kids = match o'.filterMap id with | [t] => (t, true) | l => (.mk 7 (bs []) [] l, decide (0 < l.length)) := by
      unfold unionP; rw [← h2]
    rw [hres]
    clear hres h2
    have hle : ∀ j, ((o'.take j).filterMap id).length ≤ 6 := fun j => by
      have h1 := List.length_filterMap_le id (o'.take j)
      have h2 := List.length_take_le j o'
      rw [List.length_take] at h1; omega
    simp
    refine owK.mk [.c 2 3] ?_
    have hcut : cut ((ofD o').map AC.d) 0 6 = (ofD o').map AC.d := by unfold cut; simp [h3]
    simp [hcut]
    refine ⟨by omega, ?_⟩
    refine W.loop Pg_mixed hp (fun j : Nat => j ≤ 6) (fun j => [(43, .c (.d (.int .i64 j))), (42, .ag ((ofD o').map .d)), (11, .c (.ptr 2 0)), (2, .c (.ptr 0 0))])
      (fun j => [box4, boxU o', .box [.d (.int .i64 7), .d (.str (bs [])), .d (.sl true 1 []), .msl 4 3 0 ((o'.take j).filterMap id).length], .arr 4 ((((o'.take j).filterMap id).map Typ.enc).map (·.map .d))]) (fun j => 6 - j) 0 [0, 1, 2, 3] (by simp) (by simp) fun j h1 => ?_
    unfold lp_types_union_4
    simp
    refine gd.mk (fun h => ?_) (fun h => ?_)
    · have hj : j < 6 := by simp at h; omega
      have hjo : j < o'.length := by omega
      have hgi : (ofD o')[j]? = some (optD o'[j]) := by rw [ofD_get, List.getElem?_eq_getElem hjo]; rfl
      have hft := filt_take hjo
      have hle' := hle j
      cases he : o'[j] with
      | none =>
        rw [he] at hgi hft
        simp only [optD, List.append_nil] at hgi hft
        simp [hgi]
        refine ⟨by omega, owK.mk [] ?_⟩
        simp
        refine Abs.Next.mk (j + 1) [0, 1, 2, 3] (by omega) (by omega) ?_
        rw [hft]
        simp
        exact ⟨wrap_i64 (by omega) (by omega), fun x _ => by cases x <;> rfl⟩
      | some t =>
        rw [he] at hgi hft
        simp only [optD] at hgi hft
        simp [hgi]
        refine ⟨by omega, by omega, by decide, owK.mk [] ?_⟩
        simp
        refine Abs.Next.mk (j + 1) [0, 1, 2, 4] (by omega) (by omega) ?_
        rw [hft]
        simp
        exact ⟨wrap_i64 (by omega) (by omega), List.take_of_length_le (by simp), fun x _ => by cases x <;> rfl⟩
    · have hj : j = 6 := by simp at h; omega
      subst hj
      have ht6 : o'.take 6 = o' := List.take_of_length_le (by omega)
      rw [ht6]
      have hle6 := hle 6
      rw [ht6] at hle6
      have hex : ∀ t, t ∈ o'.filterMap id → ∃ x, x ∈ o' ∧ ∃ b, x = some b := fun t ht => by
        rw [List.mem_filterMap] at ht
        obtain ⟨a, h1, h2⟩ := ht
        exact ⟨a, h1, t, h2⟩
      generalize o'.filterMap id = L at *
      rcases L with _ | ⟨t, _ | ⟨t', l⟩⟩
      · simp
        exact ⟨by decide, by simp [Typ.enc, Typ.encs, encS]⟩
      · have hex := hex t (by simp)
        simp [hex]
        rw [Typ.enc_eq]; rfl
      · have hex := hex t (by simp)
        have h1 : ¬ ((l.length : Int) + 1 + 1 = 1) := by omega
        have h2 : (0 : Int) < (l.length : Int) + 1 + 1 := by omega
        have h3 : (l.map Typ.enc).take l.length = l.map Typ.enc := List.take_of_length_le (by simp)
        simp [hex, h1, h2, h3]
        exact ⟨by decide, by simp [Typ.enc, Typ.encs, Typ.encs_map, encS]⟩
end Go.Gr
