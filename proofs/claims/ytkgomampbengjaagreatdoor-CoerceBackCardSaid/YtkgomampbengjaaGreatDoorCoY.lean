import Derived.Test.YtkgomampbengjaaGreatDoorCoT
import Derived.Test.YtkgomampbengjaaGreatDoorCoeD
import Derived.Test.YtkgomampbengjaaGreatDoorLay3
import Derived.WalkKit
import Derived.Lib.Walk
import Derived.Shelf.SlSortCmp.NoneTotal
/- The comparing by names, walked as the kit does. -/
set_option linter.unusedVariables false
namespace Go.Proofs
open Go.Shelf Go.RowKit Go.Lib Go.Sort

theorem Tryz.isNaN140 (x : ByteArray) (w : World) : Calls Tryz.prog 140 #[.string x] w fun e w' => e = .returned (.bool false) ∧ w' = w := by
  go_enter Tryz.func140, Tryz.ntmps140
  go_wp2
  go_ret
  exact ⟨by simp, rfl⟩

/-- two strings compared -/
def cmpB (x y : ByteArray) : Int := if Op.bytesLess x.data.toList y.data.toList = true then -1 else if (!(Op.bytesLess x.data.toList y.data.toList || decide (x = y))) = true then 1 else 0
theorem gtr_str (t : TypeId) (a b : ByteArray) : binOp .gtr t (.string a) (.string b) = pure (.bool (!(Op.bytesLess a.data.toList b.data.toList || decide (a = b)))) := by
  show Op.stringOp .gtr a b = _
  unfold Op.stringOp
  rw [Go.Abs.toList_inj, ByteArray.toList_eq, ByteArray.toList_eq]
theorem Tryz.compare122 (x y : ByteArray) (w : World) : Calls Tryz.prog 122 #[.string x, .string y] w fun e w' => e = .returned (.int .i64 (cmpB x y)) ∧ w' = w := by
  have hg := gtr_str 9 x y
  go_enter Tryz.func122, Tryz.ntmps122
  go_wp2_with (go_at_call 140; refine (Tryz.isNaN140 _ _).mono ?_; rintro e w' ⟨rfl, hw⟩; rw [hw])
  · rename_i h
    rw [ByteArray.toList_eq, ByteArray.toList_eq] at h
    go_ret
    exact ⟨by unfold cmpB; rw [if_pos h]; rfl, rfl⟩
  · rename_i h2
    have hL : Op.bytesLess x.data.toList y.data.toList = false := by simpa using h2.1
    have he : ¬ x = y := by simpa using h2.2
    go_ret
    exact ⟨by unfold cmpB; rw [hL]; simp [he], rfl⟩
  · rename_i h1 h2
    rw [ByteArray.toList_eq, ByteArray.toList_eq] at h1
    have he : x = y := by simpa [h1] using h2
    go_ret
    exact ⟨by unfold cmpB; rw [h1]; simp [he], rfl⟩

/-- a field that is to be sorted: its name, and its type's cells -/
structure FldV where
  name : ByteArray
  a : Value
  b : Value
  c : Value
  d : Value
  h : a.oneCell' = true ∧ b.oneCell' = true ∧ c.oneCell' = true ∧ d.oneCell' = true
def encF (x : FldV) : List Value := [.string x.name, x.a, x.b, x.c, x.d]
theorem Tryz.closure121 (x y : FldV) (W : World) : Calls Tryz.prog 121 #[.agg (encF x).toArray, .agg (encF y).toArray] W fun e w' => e = .returned (.int .i64 (cmpB x.name y.name)) ∧ ∃ q os', w' = grow (W.drewN q) os' := by
  have hcon := fun W' => Tryz.compare122 x.name y.name W'
  change ∀ W', Calls Tryz.prog 122 _ _ _ at hcon
  generalize cmpB x.name y.name = r at hcon ⊢
  unfold encF
  go_enter Tryz.func121, Tryz.ntmps121
  go_wp2_with (go_at_call 122; refine (hcon _).mono ?_; rintro e w' ⟨rfl, rfl⟩)
  go_ret
  exact ⟨rfl, 0, _, by rw [alloc_eq_grow, alloc_eq_grow, grow_grow]; rfl⟩
end Go.Proofs

/- The rows of record, sorted by name. -/
set_option linter.unusedVariables false
namespace Go.Proofs
open Go.Shelf Go.RowKit Go.Lib Go.Sort

instance : Inhabited FldV := ⟨⟨⟨#[]⟩, .bool false, .bool false, .bool false, .bool false, ⟨rfl, rfl, rfl, rfl⟩⟩⟩
def cfF (x y : FldV) : Int := cmpB x.name y.name
theorem cfF_lt (x y : FldV) : ltOf cfF x y = Op.bytesLess x.name.data.toList y.name.data.toList := by
  unfold ltOf cfF cmpB
  by_cases h : Op.bytesLess x.name.data.toList y.name.data.toList = true
  · rw [if_pos h, h]; rfl
  · rw [if_neg h]
    simp only [Bool.not_eq_true] at h
    rw [h]
    by_cases e : x.name = y.name <;> simp [e]
theorem cfF_ltB (x y : FldV) : ltOf cfF x y = decide (Go.Gr.ltB x.name y.name) := by
  rw [cfF_lt, Go.Gr.bytes_less]; rfl
theorem swoF : SWO (ltOf cfF) where
  irrefl x := by rw [cfF_ltB]; simpa using Go.Gr.ltB_irrefl x.name
  trans x y z h1 h2 := by rw [cfF_ltB] at *; simp at *; exact Go.Gr.ltB_trans h1 h2
  ntrans x y z h1 h2 := by
    rw [cfF_ltB] at *
    simp at *
    intro h
    by_cases e : y.name = z.name
    · rw [← e] at h; exact h1 h
    · cases Go.Gr.ltB_total e with
      | inl k => exact h2 k
      | inr k => exact h1 (Go.Gr.ltB_trans h k)
theorem cmpLaysF (blk off size : Nat) (w : World) : CmpLays Tryz.prog 121 #[] encF 5 cfF blk off size w :=
  fun _ _ _ _ x y => Tryz.closure121 x y _
theorem encF_one (x : FldV) : ∀ v, v ∈ encF x → v.oneCell' = true := fun v hv => by
  obtain ⟨h1, h2, h3, h4⟩ := x.h
  simp only [encF, List.mem_cons, List.not_mem_nil, or_false] at hv
  rcases hv with rfl | rfl | rfl | rfl | rfl
  · rfl
  · exact h1
  · exact h2
  · exact h3
  · exact h4
theorem Tryz.sortF (blk off cap : Nat) (d : Array FldV) (w : World) (hH : HoldsK encF 5 w blk off d) (hblk : blk < w.heap.size) (hsz : d.size < 4611686018427387904) :
    Calls Tryz.prog 120 #[.slice (some ⟨blk, off, none⟩) d.size cap, .func (.func 121) #[] #[]] w fun e w' =>
      e = .returned (.tuple #[]) ∧ ∃ d' n os, PermIn 0 d.size d d' ∧ SortedIn (ltOf cfF) 0 d.size d' ∧ w' = sortWorldK encF 5 w blk off n d' os := by
  have eg : ∀ args w, (callFunc 121 args).run Tryz.prog w = .ok (.enter 121 args) w := enters_of Tryz.func121 (by kernel_rfl) rfl
  exact AnyQ.slices_SortFunc Tryz.sort120 5 Tryz.isAgg139 Tryz.sizeOf139 encF (fun _ => rfl) encF_one cfF swoF 121 #[] blk off cap d w eg (cmpLaysF blk off d.size w) hH hblk hsz
end Go.Proofs

/- The rows of record, sorted by name: to the element, at rows of data numbered. -/
set_option linter.unusedVariables false
set_option linter.unusedSimpArgs false
namespace Go.Proofs
open Go.Shelf Go.RowKit Go.Lib Go.Sort

/-- the order of the rows of these names, sorted by slices.SortFunc -/
def cfN (ns : List ByteArray) (i j : Nat) : Int := cmpB (ns.getD i ⟨#[]⟩) (ns.getD j ⟨#[]⟩)
def srtN (ns : List ByteArray) : Array Nat := pdq (ltOf (cfN ns)) (Array.range ns.length) 0 (Array.range ns.length).size (Lib.bitLen (Array.range ns.length).size) true true
theorem cfN_ltB (ns : List ByteArray) (i j : Nat) : ltOf (cfN ns) i j = decide (Go.Gr.ltB (ns.getD i ⟨#[]⟩) (ns.getD j ⟨#[]⟩)) := by
  have h := cfF_ltB ⟨ns.getD i ⟨#[]⟩, .bool false, .bool false, .bool false, .bool false, ⟨rfl, rfl, rfl, rfl⟩⟩ ⟨ns.getD j ⟨#[]⟩, .bool false, .bool false, .bool false, .bool false, ⟨rfl, rfl, rfl, rfl⟩⟩
  unfold ltOf cfF at h
  unfold ltOf cfN
  exact h
theorem swoN (ns : List ByteArray) : SWO (ltOf (cfN ns)) where
  irrefl x := by rw [cfN_ltB]; simpa using Go.Gr.ltB_irrefl _
  trans x y z h1 h2 := by rw [cfN_ltB] at *; simp at *; exact Go.Gr.ltB_trans h1 h2
  ntrans x y z h1 h2 := by
    rw [cfN_ltB] at *
    simp only [decide_eq_false_iff_not] at *
    intro h
    by_cases e : ns.getD y ⟨#[]⟩ = ns.getD z ⟨#[]⟩
    · rw [← e] at h; exact h1 h
    · cases Go.Gr.ltB_total e with
      | inl k => exact h2 k
      | inr k => exact h1 (Go.Gr.ltB_trans h k)
theorem srtN_sorts (ns : List ByteArray) : PermIn 0 (Array.range ns.length).size (Array.range ns.length) (srtN ns) ∧ SortedIn (ltOf (cfN ns)) 0 (Array.range ns.length).size (srtN ns) :=
  pdq_sorts (ltOf (cfN ns)) (swoN ns) _ 0 _ _ true true (Nat.zero_le _) (Nat.le_refl _) (Or.inl rfl)
theorem srtN_perm (ns : List ByteArray) : (srtN ns).toList.Perm (List.range ns.length) := by
  obtain ⟨h1, _, h3⟩ := (srtN_sorts ns).1
  simp only [Array.size_range] at h1 h3
  have e1 : (srtN ns).extract 0 ns.length = srtN ns := by
    rw [← h1]; simp
  have e2 : (Array.range ns.length).extract 0 ns.length = Array.range ns.length := by
    apply Array.ext <;> simp
  rw [e1, e2] at h3
  simpa using h3
theorem Tryz.sortN (ns : List ByteArray) (F : Nat → FldV) (hF : ∀ i, (F i).name = ns.getD i ⟨#[]⟩) (blk off cap : Nat) (w : World) (hH : HoldsK (fun i => encF (F i)) 5 w blk off (Array.range ns.length)) (hblk : blk < w.heap.size) (hsz : ns.length < 4611686018427387904) :
    Calls Tryz.prog 120 #[.slice (some ⟨blk, off, none⟩) ns.length cap, .func (.func 121) #[] #[]] w fun e w' =>
      e = .returned (.tuple #[]) ∧ ∃ n os, w' = sortWorldK (fun i => encF (F i)) 5 w blk off n (srtN ns) os := by
  have eg : ∀ args w, (callFunc 121 args).run Tryz.prog w = .ok (.enter 121 args) w := enters_of Tryz.func121 (by kernel_rfl) rfl
  have hc : CmpLays Tryz.prog 121 #[] (fun i => encF (F i)) 5 (cfN ns) blk off (Array.range ns.length).size w := fun m os dk _ x y => by
    have h := Tryz.closure121 (F x) (F y) (sortWorldK (fun i => encF (F i)) 5 w blk off m dk os)
    rw [hF, hF] at h
    exact h
  have h := AnyQ.slices_SortFunc_eq Tryz.sort120 5 Tryz.isAgg139 Tryz.sizeOf139 (fun i => encF (F i)) (fun _ => rfl) (fun i => encF_one (F i)) (cfN ns) (swoN ns) 121 #[] blk off cap (Array.range ns.length) w eg hc hH hblk (by simpa using hsz)
  have e : (Array.range ns.length).size = ns.length := by simp
  unfold srtN
  rw [e] at h ⊢
  exact h
end Go.Proofs

/- slices.SortFunc on an own block of record's rows. -/
set_option linter.unusedVariables false
set_option linter.unusedSimpArgs false
namespace Go.Gr
open Go.Abs Go.Proofs Go.RowKit Go.Sort Go.Shelf Go.Lib

theorem repCL_iff {h : PH} {ρ : RM} : ∀ {e : List AC} {vs : List Value}, RepCL h ρ e vs ↔ ∀ k (hk : k < e.length), ∃ v, vs[k]? = some v ∧ v.one1 = true ∧ RepC h ρ e[k] v
  | [], vs => by simp [RepCL]
  | c :: e, [] => by
    simp only [RepCL, List.getElem?_nil, false_iff]
    intro q
    obtain ⟨v, h, _⟩ := q 0 (by simp)
    cases h
  | c :: e, v :: vs => by
    simp only [RepCL]
    rw [repCL_iff (e := e) (vs := vs)]
    constructor
    · rintro ⟨⟨h1, h2⟩, h3⟩ k hk
      cases k with
      | zero => exact ⟨v, rfl, h1, h2⟩
      | succ k => simpa using h3 k (by simpa using hk)
    · intro q
      obtain ⟨v', e1, e2, e3⟩ := q 0 (by simp)
      simp only [List.getElem?_cons_zero, Option.some.injEq] at e1
      subst e1
      refine ⟨⟨e2, e3⟩, fun k hk => ?_⟩
      exact q (k + 1) (by simpa using hk)
theorem repCE_iff {h : PH} {ρ : RM} {s : Nat} : ∀ {es : List (List AC)} {vs : List Value}, RepCE h ρ s es vs ↔ ∀ i (hi : i < es.length), es[i].length = s ∧ RepCL h ρ es[i] (vs.drop (i * s))
  | [], vs => by simp [RepCE]
  | e :: es, vs => by
    simp only [RepCE]
    rw [repCE_iff (es := es) (vs := vs.drop s)]
    have key : ∀ i, (vs.drop s).drop (i * s) = vs.drop ((i + 1) * s) := fun i => by rw [List.drop_drop, Nat.add_mul, Nat.one_mul, Nat.add_comm]
    constructor
    · rintro ⟨h1, h2, h3⟩ i hi
      cases i with
      | zero => simpa using ⟨h1, h2⟩
      | succ i =>
        have := h3 i (by simpa using hi)
        rw [key] at this
        simpa using this
    · intro q
      have q0 := q 0 (by simp)
      refine ⟨by simpa using q0.1, by simpa using q0.2, fun i hi => ?_⟩
      rw [key]
      exact q (i + 1) (by simpa using hi)

/-- a row of record: a name, and the cells of a type -/
def rowA (x : ByteArray × List D) : List AC := .d (.str x.1) :: x.2.map .d
def sane (v : Value) : Value := if v.oneCell' then v else .bool false
theorem sane_one (v : Value) : (sane v).oneCell' = true := by
  unfold sane; split
  · assumption
  · rfl
theorem one1_eq (v : Value) : v.one1 = v.oneCell' := by cases v <;> rfl
theorem sane_of {v : Value} (h : v.one1 = true) : sane v = v := by rw [one1_eq] at h; simp [sane, h]
/-- the rows, as the library reads them -/
def rowF (ns : List ByteArray) (vs : List Value) (i : Nat) : FldV :=
  ⟨ns.getD i ⟨#[]⟩, sane (vs.getD (i * 5 + 1) undef), sane (vs.getD (i * 5 + 2) undef), sane (vs.getD (i * 5 + 3) undef), sane (vs.getD (i * 5 + 4) undef), ⟨sane_one _, sane_one _, sane_one _, sane_one _⟩⟩
def srtL (xs : List (ByteArray × List D)) : List (ByteArray × List D) := (srtN (xs.map (·.1))).toList.map fun i => xs.getD i (⟨#[]⟩, [])
theorem srtL_perm (xs : List (ByteArray × List D)) : (srtL xs).Perm xs := by
  have h := (srtN_perm (xs.map (·.1))).map fun i => xs.getD i (⟨#[]⟩, [])
  refine h.trans ?_
  have : (List.range (xs.map (·.1)).length).map (fun i => xs.getD i (⟨#[]⟩, [])) = xs := by
    apply List.ext_getElem
    · simp
    · intro i h1 h2
      simp [List.getD, h2]
  rw [this]
theorem srtL_len (xs : List (ByteArray × List D)) : (srtL xs).length = xs.length := (srtL_perm xs).length_eq

theorem rowF_cell {h : PH} {ρ : RM} {xs : List (ByteArray × List D)} (h4 : ∀ x, x ∈ xs → x.2.length = 4) {vs : List Value} (r : RepCE h ρ 5 (xs.map rowA) vs) {i k : Nat} (hi : i < xs.length) (hk : k < 5) :
    vs[i * 5 + k]? = some ((encF (rowF (xs.map (·.1)) vs i))[k]!) ∧ ((encF (rowF (xs.map (·.1)) vs i))[k]!).one1 = true ∧ ∀ (hq : k < (rowA xs[i]).length), RepC h ρ (rowA xs[i])[k] ((encF (rowF (xs.map (·.1)) vs i))[k]!) := by
  have q := (repCE_iff.1 r) i (by simpa using hi)
  simp only [List.getElem_map] at q
  have hl : (rowA xs[i]).length = 5 := q.1
  obtain ⟨v, e1, e2, e3⟩ := repCL_iff.1 q.2 k (by omega)
  rw [List.getElem?_drop] at e1
  have key : (encF (rowF (xs.map (·.1)) vs i))[k]! = v := by
    have hv : vs.getD (i * 5 + k) undef = v := by simp [List.getD, e1]
    rcases (show k = 0 ∨ k = 1 ∨ k = 2 ∨ k = 3 ∨ k = 4 by omega) with rfl | rfl | rfl | rfl | rfl
    · simp only [rowA, List.getElem_cons_zero, RepC, RepD] at e3
      simp [encF, rowF, List.getD, hi, e3.1]
    · simp only [encF, rowF, hv, sane_of e2]; rfl
    · simp only [encF, rowF, hv, sane_of e2]; rfl
    · simp only [encF, rowF, hv, sane_of e2]; rfl
    · simp only [encF, rowF, hv, sane_of e2]; rfl
  rw [key]
  exact ⟨e1, e2, fun _ => e3⟩
end Go.Gr

/- slices.SortFunc on an own block of record's rows: the contract. -/
set_option linter.unusedVariables false
set_option linter.unusedSimpArgs false
namespace Go.Gr
open Go.Abs Go.Proofs Go.RowKit Go.Sort Go.Shelf Go.Lib

theorem put_get {vs : List Value} {d : Array Value} {t : Nat} (h : t < d.size) (hv : t < vs.length) : (putCells id 0 d vs.toArray).toList[t]? = some d[t]! := by
  simp [putCells, h, hv]
theorem srtN_size (ns : List ByteArray) : (srtN ns).size = ns.length := by
  have := (srtN_perm ns).length_eq
  simpa using this
theorem srtN_lt (ns : List ByteArray) {i : Nat} (hi : i < ns.length) : (srtN ns)[i]! < ns.length := by
  have hs := srtN_size ns
  have : (srtN ns)[i]! ∈ (srtN ns).toList := by
    rw [getElem!_pos _ i (by omega)]
    simp
  simpa using (srtN_perm ns).mem_iff.1 this
theorem srtL_get (xs : List (ByteArray × List D)) {i : Nat} (hi : i < (srtL xs).length) : ∃ hj : (srtN (xs.map (·.1)))[i]! < xs.length, (srtL xs)[i] = xs[(srtN (xs.map (·.1)))[i]!] := by
  have hi' : i < xs.length := by rw [srtL_len] at hi; exact hi
  have hs := srtN_size (xs.map (·.1))
  simp only [List.length_map] at hs
  have hlt := srtN_lt (xs.map (·.1)) (i := i) (by simpa using hi')
  simp only [List.length_map] at hlt
  refine ⟨hlt, ?_⟩
  have e : (srtL xs)[i]? = some xs[(srtN (xs.map (·.1)))[i]!] := by
    have e1 : (srtN (xs.map (·.1))).toList[i]? = some (srtN (xs.map (·.1)))[i]! := by
      rw [getElem!_pos _ i (by omega)]
      simp
    unfold srtL
    rw [List.getElem?_map, e1]
    simp [List.getD, hlt]
  rw [List.getElem?_eq_getElem hi] at e
  exact Option.some.inj e
theorem sorted_rep {h : PH} {ρ : RM} {xs : List (ByteArray × List D)} (h4 : ∀ x, x ∈ xs → x.2.length = 4) {vs : List Value} (hvl : xs.length * 5 ≤ vs.length) (r : RepCE h ρ 5 (xs.map rowA) vs) :
    RepCE h ρ 5 ((srtL xs).map rowA) (putCells id 0 (flatK (fun i => encF (rowF (xs.map (·.1)) vs i)) 5 (srtN (xs.map (·.1)))) vs.toArray).toList := by
  have hs := srtN_size (xs.map (·.1))
  simp only [List.length_map] at hs
  refine repCE_iff.2 fun i hi => ?_
  have hi' : i < (srtL xs).length := by simpa using hi
  have hin : i < xs.length := by rw [srtL_len] at hi'; exact hi'
  obtain ⟨hj, e⟩ := srtL_get xs hi'
  have hl : (rowA xs[(srtN (xs.map (·.1)))[i]!]).length = 5 := by
    simp [rowA, h4 _ (List.getElem_mem hj)]
  simp only [List.getElem_map, e]
  refine ⟨hl, repCL_iff.2 fun k hk => ?_⟩
  have hk5 : k < 5 := by omega
  obtain ⟨_, q2, q3⟩ := rowF_cell h4 r hj hk5
  refine ⟨_, ?_, q2, q3 hk⟩
  rw [List.getElem?_drop, put_get (by simp [hs]; omega) (by omega), get_flatK _ _ _ _ (by rw [hs]; omega), show (i * 5 + k) / 5 = i by omega, show (i * 5 + k) % 5 = k by omega]
theorem holds_rows {h : PH} {ρ : RM} {xs : List (ByteArray × List D)} (h4 : ∀ x, x ∈ xs → x.2.length = 4) {vs : List Value} (r : RepCE h ρ 5 (xs.map rowA) vs) {w : World} {B : Nat} {T : TypeId} (hw : w.heap[B]? = some (.cells vs.toArray T (0, 0))) :
    HoldsK (fun i => encF (rowF (xs.map (·.1)) vs i)) 5 w B 0 (Array.range (xs.map (·.1)).length) := fun j hj => by
  have hj' : j < xs.length * 5 := by simpa using hj
  have hd : j / 5 < xs.length := by omega
  obtain ⟨q1, _, _⟩ := rowF_cell h4 r hd (k := j % 5) (by omega)
  rw [show j / 5 * 5 + j % 5 = j by omega] at q1
  rw [get_flatK _ _ _ _ (by simpa using hj')]
  have e : (Array.range (xs.map (·.1)).length)[j / 5]! = j / 5 := by simp [hd]
  rw [e]
  refine ⟨?_, by simp [World.frozen?, hw]⟩
  simp only [World.cell?, hw, Nat.zero_add, id]
  simpa using q1
end Go.Gr

/- slices.SortFunc on an own block of record's rows: the contract. -/
set_option linter.unusedVariables false
set_option linter.unusedSimpArgs false
namespace Go.Gr
open Go.Abs Go.Proofs Go.RowKit Go.Sort Go.Shelf Go.Lib

theorem d_lvs (L : Nat → Bool) : ∀ l : List D, AC.lvs L (l.map .d) = true
  | [] => by simp [AC.lvs]
  | d :: l => by simp [AC.lvs, AC.lv, d_lvs L l]
theorem rowA_lv (L : Nat → Bool) (x : ByteArray × List D) : AC.lvs L (rowA x) = true := by
  simp [rowA, AC.lvs, AC.lv, d_lvs]
theorem upd_one (b c : Blk) : upd (hpOf [b]) 0 c = hpOf [c] := by
  funext i
  cases i with
  | zero => simp [upd]
  | succ i => simp [upd]
theorem sort_heap {α : Type} [Inhabited α] (enc : α → List Value) (k : Nat) (w : World) (B n : Nat) (d : Array α) (os : Array Obj) {vs : Array Value} {T : TypeId} (hw : w.heap[B]? = some (.cells vs T (0, 0))) :
    (sortWorldK enc k w B 0 n d os).heap = w.heap.setIfInBounds B (.cells (putCells id 0 (flatK enc k d) vs) T (0, 0)) ++ os := by
  simp only [sortWorldK, putRowK, putRow, mapBlock, Go.Sort.grow, Go.Sort.ahead]
  congr 1
  apply Array.ext_getElem?
  intro i
  simp only [Array.getElem?_modify, Array.getElem?_setIfInBounds]
  by_cases hi : B = i
  · subst hi
    have hlt : B < w.heap.size := by
      rcases Nat.lt_or_ge B w.heap.size with q | q
      · exact q
      · rw [Array.getElem?_eq_none q] at hw; cases hw
    rw [Array.getElem?_eq_getElem hlt] at hw
    have hw := Option.some.inj hw
    simp [hlt, hw, onCells]
  · simp [hi]
theorem sortRow_pos (xs : List (ByteArray × List D)) (h4 : ∀ x, x ∈ xs → x.2.length = 4) (h0 : 0 < xs.length) (hl : xs.length ≤ 1073741824) :
    MCall Pg 120 [.c (.msl 5 0 0 xs.length), .c (.d (.fn (.func 121) []))] [.arr 5 (xs.map rowA)] (.tup []) [.arr 5 ((srtL xs).map rowA)] := by
  refine ⟨by decide +kernel, Nat.le_refl _, tag_non (by simp), by simp, by simp [rowA_lv], fun h ρ w argsC K _ r => ?_⟩
  match argsC, r with
  | [v1, v2], r =>
    simp only [RepVL, RepV, RepC, RepD, and_true] at r
    obtain ⟨⟨p, a, e1, e2, e3, e4, e5⟩, us, f1, f2, f3⟩ := r
    have us0 : us = [] := List.length_eq_zero_iff.1 (by simpa using f2)
    subst us0
    subst f1
    have hpo := K.own 0 p e1
    simp only [hpOf_zero] at hpo
    have hx : xs.map rowA ≠ [] := by
      intro q
      have := congrArg List.length q
      simp only [List.length_map, List.length_nil] at this
      omega
    rcases hpo with ⟨_, q⟩ | ⟨vs, T, hw, hvl, hel, hlm, rce⟩
    · exact absurd q hx
    have hel' : xs.length ≤ p.2 := by simpa using hel
    have hp2 : 0 < p.2 := by omega
    obtain rfl := e4 hp2
    have hB : p.1 < w.heap.size := by
      rcases Nat.lt_or_ge p.1 w.heap.size with q | q
      · exact q
      · rw [Array.getElem?_eq_none q] at hw; cases hw
    have hvl' : xs.length * 5 ≤ vs.length := by rw [hvl]; exact Nat.mul_le_mul_right 5 hel'
    subst e2
    have hsz : (xs.map (·.1)).length < 4611686018427387904 := by rw [List.length_map]; omega
    have hs := Tryz.sortN (xs.map (·.1)) (rowF (xs.map (·.1)) vs) (fun i => rfl) p.1 0 (p.2 - 0) w (holds_rows h4 rce hw) hB hsz
    simp only [List.length_map] at hs
    refine hs.mono fun e w' q => ?_
    obtain ⟨rfl, n, os, rfl⟩ := q
    have hrep := sorted_rep h4 hvl' rce
    have hheap := sort_heap (fun i => encF (rowF (xs.map (·.1)) vs i)) 5 w p.1 n (srtN (xs.map (·.1))) os hw
    have hcl : (putCells id 0 (flatK (fun i => encF (rowF (xs.map (·.1)) vs i)) 5 (srtN (xs.map (·.1)))) vs.toArray).toList.length = p.2 * 5 := by simp [putCells, hvl]
    generalize putCells id 0 (flatK (fun i => encF (rowF (xs.map (·.1)) vs i)) 5 (srtN (xs.map (·.1)))) vs.toArray = cs at *
    have hbr : BlkRep h ρ p (.arr 5 ((srtL xs).map rowA)) (w.heap.setIfInBounds p.1 (.cells cs T (0, 0))) := by
      refine .inr ⟨cs.toList, T, by simp [hB], hcl, by simpa [srtL_len] using hel', by simpa [srtL_len] using hlm, hrep⟩
    have hreal : Real (hpOf [Blk.arr 5 (xs.map rowA)] 0) p := hp2
    obtain ⟨K1, S1⟩ := K.set (.cells cs T (0, 0)) e1 hreal (blk := .arr 5 ((srtL xs).map rowA)) (by simp) hbr
    rw [upd_one] at K1 S1
    have hold : ∀ B, B < (w.heap.setIfInBounds p.1 (.cells cs T (0, 0))).size → (w.heap.setIfInBounds p.1 (.cells cs T (0, 0)) ++ os)[B]? = (w.heap.setIfInBounds p.1 (.cells cs T (0, 0)))[B]? := fun B hB => Array.getElem?_append_left hB
    have K2 : HRel h ρ (hpOf [Blk.arr 5 ((srtL xs).map rowA)]) (w.heap.setIfInBounds p.1 (.cells cs T (0, 0)) ++ os) :=
      K1.grow (PH.le_refl h) (fun B o e => by rw [hold B (K1.lt e)]; exact K1.pers B o e) fun B hB _ => ⟨hold B hB, rfl⟩
    have S2 : Step h ρ (hpOf [Blk.arr 5 ((srtL xs).map rowA)]) (w.heap.setIfInBounds p.1 (.cells cs T (0, 0))) h ρ (hpOf [Blk.arr 5 ((srtL xs).map rowA)]) (w.heap.setIfInBounds p.1 (.cells cs T (0, 0)) ++ os) :=
      ⟨PH.le_refl h, fun B hB _ => rfl, RM.le_refl _, by simp, fun B hB _ => hold B hB, fun b p e hr => .inr ⟨b, p, e, hr, rfl⟩⟩
    refine ⟨.tuple #[], h, ρ, rfl, ?_, ?_, ⟨rfl, rfl, rfl⟩, ⟨[], rfl, by simp [RepVL]⟩, fun _ _ => rfl⟩
    · rw [hheap]; exact S1.wk.trans S2
    · rw [hheap]; exact K2
theorem sortRow_nil : MCall Pg 120 [.c (.msl 5 0 0 0), .c (.d (.fn (.func 121) []))] [.arr 5 []] (.tup []) [.arr 5 []] := by
  refine ⟨by decide +kernel, Nat.le_refl _, tag_non (by simp), by simp, by simp, fun h ρ w argsC K _ r => ?_⟩
  match argsC, r with
  | [v1, v2], r =>
    simp only [RepVL, RepV, RepC, RepD, and_true] at r
    obtain ⟨⟨p, a, e1, e2, e3, e4, e5⟩, us, f1, f2, f3⟩ := r
    subst e2
    have hs := AnyF.slices_SortFunc_none (P := Tryz.prog) (ρ := Tryz.sort120_ren) { Tryz.sort120 with } a (p.2 - 0) v2 w
    refine Calls.mono hs fun e w' q => ?_
    obtain ⟨rfl, rfl⟩ := q
    exact ⟨.tuple #[], h, ρ, rfl, (Step.refl _ _ _ _).wk, K, ⟨rfl, rfl, rfl⟩, ⟨[], rfl, by simp [RepVL]⟩, fun _ _ => rfl⟩
theorem sortRow_ok (xs : List (ByteArray × List D)) (h4 : ∀ x, x ∈ xs → x.2.length = 4) (hl : xs.length ≤ 1073741824) :
    MCall Pg 120 [.c (.msl 5 0 0 xs.length), .c (.d (.fn (.func 121) []))] [.arr 5 (xs.map rowA)] (.tup []) [.arr 5 ((srtL xs).map rowA)] := by
  rcases Nat.eq_zero_or_pos xs.length with h0 | h0
  · have e : xs = [] := List.length_eq_zero_iff.1 h0
    have e2 : srtL xs = [] := List.length_eq_zero_iff.1 (by rw [srtL_len]; exact h0)
    rw [e2, e]
    exact sortRow_nil
  · exact sortRow_pos xs h4 h0 hl
end Go.Gr
