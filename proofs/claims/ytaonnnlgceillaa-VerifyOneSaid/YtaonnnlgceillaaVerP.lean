import Derived.Test.YtaonnnlgceillaaVerC
/- Data of the program's types; the small functions. -/
set_option linter.unusedVariables false
set_option linter.unusedSimpArgs false
namespace Go.Gr
open Go.Abs Go.Proofs

structure Ins where
  op : Int
  a : Int
  b : Int
  c : Int
def Ins.enc (i : Ins) : List D := [.int .i64 i.op, .int .i64 i.a, .int .i64 i.b, .int .i64 i.c]
structure Prc where
  caps : Int
  regs : Int
  code : List Ins
def Prc.enc (p : Prc) : List D := [.int .i64 p.caps, .int .i64 p.regs, .sl false 4 (p.code.map Ins.enc)]
def encI (l : List Int) : List (List D) := l.map fun i => [.int .i64 i]
def encS (l : List ByteArray) : List (List D) := l.map fun s => [.str s]
def encN (l : List (ByteArray × Int)) : List (List D) := l.map fun x => [.str x.1, .int .i64 x.2]
inductive Coe where
  | mk (tags : List Int) (needs : List (ByteArray × Int)) (names : List ByteArray) (fields fn : List Coe)
mutual
def Coe.enc : Coe → List D
  | .mk t n s f g => [.sl false 1 (encI t), .sl false 2 (encN n), .sl false 1 (encS s), .sl false 5 (Coe.encs f), .sl false 5 (Coe.encs g)]
def Coe.encs : List Coe → List (List D)
  | [] => []
  | c :: cs => Coe.enc c :: Coe.encs cs
end
theorem Coe.encs_map (l : List Coe) : Coe.encs l = l.map Coe.enc := by
  induction l with
  | nil => simp [Coe.encs]
  | cons c l ih => simp [Coe.encs, ih]
structure Cod where
  ints : List Int
  strs : List ByteArray
  shapes : List (List ByteArray)
  cos : List Coe
  procs : List Prc
  main : Int
  merge : Bool
def Cod.enc (c : Cod) : List D := [.sl false 1 (encI c.ints), .sl false 1 (encS c.strs), .sl false 1 (c.shapes.map fun l => [.sl false 1 (encS l)]), .sl false 5 (c.cos.map Coe.enc), .sl false 3 (c.procs.map Prc.enc), .int .i64 c.main, .bool c.merge]

@[simp] theorem Ins.enc_length (i : Ins) : i.enc.length = 4 := rfl
@[simp] theorem Ins.enc_0 (i : Ins) : i.enc[0]? = some (.int .i64 i.op) := rfl
@[simp] theorem Ins.enc_1 (i : Ins) : i.enc[1]? = some (.int .i64 i.a) := rfl
@[simp] theorem Ins.enc_2 (i : Ins) : i.enc[2]? = some (.int .i64 i.b) := rfl
@[simp] theorem Ins.enc_3 (i : Ins) : i.enc[3]? = some (.int .i64 i.c) := rfl
@[simp] theorem Prc.enc_length (p : Prc) : p.enc.length = 3 := rfl
@[simp] theorem Prc.enc_0 (p : Prc) : p.enc[0]? = some (.int .i64 p.caps) := rfl
@[simp] theorem Prc.enc_1 (p : Prc) : p.enc[1]? = some (.int .i64 p.regs) := rfl
@[simp] theorem Prc.enc_2 (p : Prc) : p.enc[2]? = some (.sl false 4 (p.code.map Ins.enc)) := rfl
@[simp] theorem Cod.enc_length (c : Cod) : c.enc.length = 7 := rfl
@[simp] theorem Cod.enc_0 (c : Cod) : c.enc[0]? = some (.sl false 1 (encI c.ints)) := rfl
@[simp] theorem Cod.enc_1 (c : Cod) : c.enc[1]? = some (.sl false 1 (encS c.strs)) := rfl
@[simp] theorem Cod.enc_2 (c : Cod) : c.enc[2]? = some (.sl false 1 (c.shapes.map fun l => [.sl false 1 (encS l)])) := rfl
@[simp] theorem Cod.enc_3 (c : Cod) : c.enc[3]? = some (.sl false 5 (c.cos.map Coe.enc)) := rfl
@[simp] theorem Cod.enc_4 (c : Cod) : c.enc[4]? = some (.sl false 3 (c.procs.map Prc.enc)) := rfl
@[simp] theorem Cod.enc_5 (c : Cod) : c.enc[5]? = some (.int .i64 c.main) := rfl
@[simp] theorem Cod.enc_6 (c : Cod) : c.enc[6]? = some (.bool c.merge) := rfl
@[simp] theorem Ins.cut_enc (i : Ins) : cut i.enc 0 4 = i.enc := rfl
@[simp] theorem Prc.cut_enc (p : Prc) : cut p.enc 0 3 = p.enc := rfl
@[simp] theorem Cod.cut_enc (c : Cod) : cut c.enc 0 7 = c.enc := rfl
@[simp] theorem Ins.cut_map (i : Ins) : cut (i.enc.map AC.d) 0 4 = i.enc.map .d := rfl
@[simp] theorem Prc.cut_map (p : Prc) : cut (p.enc.map AC.d) 0 3 = p.enc.map .d := rfl
@[simp] theorem Cod.cut_map (c : Cod) : cut (c.enc.map AC.d) 0 7 = c.enc.map .d := rfl
@[simp] theorem encI_length (l : List Int) : (encI l).length = l.length := by simp [encI]
@[simp] theorem encS_length (l : List ByteArray) : (encS l).length = l.length := by simp [encS]
@[simp] theorem encN_length (l : List (ByteArray × Int)) : (encN l).length = l.length := by simp [encN]
@[simp] theorem encI_get (l : List Int) (k : Nat) : (encI l)[k]? = (l[k]?).map fun i => [.int .i64 i] := by simp [encI]
@[simp] theorem encS_get (l : List ByteArray) (k : Nat) : (encS l)[k]? = (l[k]?).map fun i => [.str i] := by simp [encS]

theorem has_ok (a b : Int) : PCall Pg F.verify_has [.one (.int .i64 a), .one (.int .i64 b)] (.one (.bool (decide (0 ≤ a) && decide (a < b)))) := by
  refine w_verify_has (by simp) fun o c hN hp => ?_
  unfold mc_verify_has
  simp
  refine gd.mk (fun h => ?_) (fun h => ?_) <;> simp_all <;> omega

theorem in_ok (a b : Int) : PCall Pg F.gradusref18_in [.one (.int .i64 a), .one (.int .i64 b)] (.one (.bool (decide (0 ≤ a) && decide (a < b)))) := by
  refine w_gradusref18_in (by simp) fun o c hN hp => ?_
  unfold mc_gradusref18_in
  simp
  refine gd.mk (fun h => ?_) (fun h => ?_) <;> simp_all <;> omega

theorem columns_ok (i : Ins) : PCall Pg F.verify_columns [.agg i.enc] (.agg [.int .i64 i.a, .int .i64 i.b, .int .i64 i.c]) := by
  refine w_verify_columns (by simp) fun o c hN hp => ?_
  unfold mc_verify_columns
  simp
end Go.Gr

set_option linter.unusedVariables false
set_option linter.unusedSimpArgs false
namespace Go.Gr
open Go.Abs Go.Proofs

def rowsT : List (Int × Int × Int) := [(1,2,2),(1,2,2),(1,2,2),(1,2,2),(1,2,2),(1,2,2),(1,2,2),(1,2,2),(1,2,2),(1,2,2),(1,2,2),
  (1,4,0),(1,5,0),(1,6,0),(1,0,0),(1,2,0),(1,9,0),(1,10,12),(1,11,12),(1,2,5),(3,2,5),(1,2,8),(1,2,2),(2,0,0),(0,13,0),(2,13,0),(1,2,7),(1,2,2),(1,2,2),(1,2,0),(1,2,0),(1,2,0),(1,0,0)]
def row3 (x : Int × Int × Int) : List D := [.int .i64 x.1, .int .i64 x.2.1, .int .i64 x.2.2]
def tabT : List D := (rowsT.map row3).flatten
def tabA (x : Nat) : List D := (((List.replicate x (1,2,2)) ++ List.replicate (11 - x) (0,0,0) ++ rowsT.drop 11).map row3).flatten


theorem tabA_len {x : Nat} (h : x ≤ 11) : (tabA x).length = 99 := by
  have : x = 0 ∨ x = 1 ∨ x = 2 ∨ x = 3 ∨ x = 4 ∨ x = 5 ∨ x = 6 ∨ x = 7 ∨ x = 8 ∨ x = 9 ∨ x = 10 ∨ x = 11 := by omega
  rcases this with rfl | rfl | rfl | rfl | rfl | rfl | rfl | rfl | rfl | rfl | rfl | rfl <;> rfl
theorem tabA_put {x : Nat} (h : x < 11) : put ((tabA x).map AC.d) (x * 3) [.d (.int .i64 1), .d (.int .i64 2), .d (.int .i64 2)] = (tabA (x + 1)).map .d := by
  have : x = 0 ∨ x = 1 ∨ x = 2 ∨ x = 3 ∨ x = 4 ∨ x = 5 ∨ x = 6 ∨ x = 7 ∨ x = 8 ∨ x = 9 ∨ x = 10 := by omega
  rcases this with rfl | rfl | rfl | rfl | rfl | rfl | rfl | rfl | rfl | rfl | rfl <;> rfl
def zedD : List D := List.replicate 99 (.int .i64 0)
theorem zed_len : zedD.length = 99 := rfl

set_option maxRecDepth 100000 in
set_option maxHeartbeats 4000000 in
theorem sorts_ok : PCall Pg F.verify_sorts [] (.agg tabT) := by
  refine w_verify_sorts (by simp) fun o c hN hp => ?_
  unfold mc_verify_sorts
  simp
  refine W.loop Pg_mixed hp (fun x : Nat => x ≤ 11) (fun x => [(26, .c (.d (.int .i64 x))), (0, .c (.ptr 0 0)), (1, .c (.ptr 1 0))]) (fun x => [.box (zedD.map .d), .box ((tabA x).map .d)]) (fun x => 11 - x) 0 [0, 1] (by simp) (by simp [tabA, rowsT, row3, zedD]) fun x hx => ?_
  unfold lp_verify_sorts_0
  simp [tabA_len hx, zed_len]
  refine gd.mk (fun h => ?_) (fun h => ?_)
  · simp at h
    have hx : x < 11 := by omega
    refine ⟨by omega, by omega, Next.mk (x + 1) [0, 1] (by omega) (by omega) ?_⟩
    simp [tabA_put hx]
    rw [wrap_i64 (by omega) (by omega)]
  · have : x = 11 := by simp at h; omega
    subst this
    rfl
end Go.Gr

set_option linter.unusedVariables false
set_option linter.unusedSimpArgs false
namespace Go.Gr
open Go.Abs Go.Proofs

def sortOf (op : Int) : Int × Int × Int := if 0 ≤ op ∧ op < 33 then rowsT.getD op.toNat (0, 0, 0) else (0, 0, 0)
theorem tabT_len : tabT.length = 99 := rfl
theorem tabT_all : ∀ k : Fin 33, cut (tabT.map AC.d) (k.val * 3) 3 = (row3 (rowsT.getD k.val (0, 0, 0))).map .d := by
  intro k
  obtain ⟨k, h⟩ := k
  have : k = 0 ∨ k = 1 ∨ k = 2 ∨ k = 3 ∨ k = 4 ∨ k = 5 ∨ k = 6 ∨ k = 7 ∨ k = 8 ∨ k = 9 ∨ k = 10 ∨ k = 11 ∨ k = 12 ∨ k = 13 ∨ k = 14 ∨ k = 15 ∨ k = 16 ∨ k = 17 ∨ k = 18 ∨ k = 19 ∨ k = 20 ∨ k = 21 ∨ k = 22 ∨ k = 23 ∨ k = 24 ∨ k = 25 ∨ k = 26 ∨ k = 27 ∨ k = 28 ∨ k = 29 ∨ k = 30 ∨ k = 31 ∨ k = 32 := by omega
  rcases this with rfl | rfl | rfl | rfl | rfl | rfl | rfl | rfl | rfl | rfl | rfl | rfl | rfl | rfl | rfl | rfl | rfl | rfl | rfl | rfl | rfl | rfl | rfl | rfl | rfl | rfl | rfl | rfl | rfl | rfl | rfl | rfl | rfl <;> rfl
theorem tabT_cut {op : Int} (h1 : 0 ≤ op) (h2 : op < 33) : cut (tabT.map AC.d) (op.toNat * 3) 3 = (row3 (sortOf op)).map .d := by
  have := tabT_all ⟨op.toNat, by omega⟩
  rw [this, sortOf, if_pos ⟨h1, h2⟩]
@[simp] theorem row3_len (x : Int × Int × Int) : (row3 x).length = 3 := rfl

@[simp] theorem row3_er (x : Int × Int × Int) : (row3 x).map D.er = row3 x := rfl
theorem sortOf_not {op : Int} (h : ¬ (0 ≤ op ∧ op < 33)) : sortOf op = (0, 0, 0) := if_neg h
attribute [local irreducible] tabT
set_option maxHeartbeats 1000000 in
theorem of_ok (op : Int) : PCall Pg F.verify_of [.one (.int .i64 op)] (.tup [.agg (row3 (sortOf op)), .one (.bool (decide (0 ≤ op ∧ op < 33)))]) := by
  refine w_verify_of (by simp) fun o c hN hp => ?_
  unfold mc_verify_of
  simp
  refine gd.mk (fun h => ?_) (fun h => ?_)
  · simp at h
    refine gd.mk (fun h => ?_) (fun h => ?_)
    · simp at h
      rw [sortOf_not (by omega)]
      simp [row3]
      omega
    · simp at h
      refine callK.mk sorts_ok ?_
      simp [tabT_len, tabT_cut, *]
      omega
  · simp at h
    rw [sortOf_not (by omega)]
    simp [row3]
    omega

end Go.Gr

set_option linter.unusedVariables false
set_option linter.unusedSimpArgs false
namespace Go.Gr
open Go.Abs Go.Proofs

@[simp] theorem row3_0 (x : Int × Int × Int) : (row3 x)[0]? = some (.int .i64 x.1) := rfl
@[simp] theorem row3_1 (x : Int × Int × Int) : (row3 x)[1]? = some (.int .i64 x.2.1) := rfl
@[simp] theorem row3_2 (x : Int × Int × Int) : (row3 x)[2]? = some (.int .i64 x.2.2) := rfl
@[simp] theorem row3_g0 (x : Int × Int × Int) (h : 0 < (row3 x).length) : (row3 x)[0] = .int .i64 x.1 := rfl
@[simp] theorem row3_g1 (x : Int × Int × Int) (h : 1 < (row3 x).length) : (row3 x)[1] = .int .i64 x.2.1 := rfl
@[simp] theorem row3_g2 (x : Int × Int × Int) (h : 2 < (row3 x).length) : (row3 x)[2] = .int .i64 x.2.2 := rfl

def setsOf (i : Ins) : Int := if (sortOf i.op).1 = 1 ∨ (sortOf i.op).1 = 3 then i.a else -1
theorem Sets_ok (i : Ins) : PCall Pg F.verify_Sets [.agg i.enc] (.one (.int .i64 (setsOf i))) := by
  refine w_verify_Sets (by simp) fun o c hN hp => ?_
  unfold mc_verify_Sets
  simp
  refine callK.mk (of_ok _) ?_
  simp
  refine gd.mk (fun h => ?_) (fun h => ?_)
  · simp at h
    refine gd.mk (fun h' => ?_) (fun h' => ?_) <;> simp_all [setsOf]
  · simp_all [setsOf]

def rsetsOf (i : Ins) : Int := if i.op < 0 ∨ 33 ≤ i.op ∨ i.op = 23 ∨ i.op = 24 ∨ i.op = 25 then -1 else i.a
theorem rSets_ok (i : Ins) : PCall Pg F.gradusref18_Sets [.agg i.enc] (.one (.int .i64 (rsetsOf i))) := by
  refine w_gradusref18_Sets (by simp) fun o c hN hp => ?_
  unfold mc_gradusref18_Sets
  simp
  have e : ∀ P : Prop, [Decidable P] → decide P = !true → ¬ P := fun P _ h => by simpa using h
  repeat' (refine gd.mk (fun h => ?_) (fun h => ?_))
  all_goals (simp only [Bool.not_eq_true', decide_eq_true_eq, decide_eq_false_iff_not, Bool.not_false, Bool.not_true] at *)
  all_goals (unfold rsetsOf)
  all_goals (first | rw [if_pos (by omega)] | rw [if_neg (by omega)])

def capsOf (c : Cod) (n : Int) : Int := if 0 ≤ n then (match c.procs[n.toNat]? with | some p => p.caps | none => -1) else -1
theorem capsOf_not {c : Cod} {n : Int} (h : n < 0 ∨ c.procs.length ≤ n) : capsOf c n = -1 := by
  unfold capsOf
  split
  · rw [List.getElem?_eq_none (by omega)]
  · rfl
theorem caps_ok (c : Cod) (n : Int) : PCall Pg F.gradusref18_caps [.agg c.enc, .one (.int .i64 n)] (.one (.int .i64 (capsOf c n))) := by
  refine w_gradusref18_caps (by simp) fun o c' hN hp => ?_
  unfold mc_gradusref18_caps
  simp
  refine gd.mk (fun h => ?_) (fun h => ?_)
  · simp at h
    refine gd.mk (fun h' => ?_) (fun h' => ?_)
    · simp at h'
      rw [capsOf_not (.inr h')]
    · simp at h'
      have : n.toNat < c.procs.length := by omega
      simp [List.getElem?_eq_getElem this, capsOf, h]
  · simp at h
    rw [capsOf_not (.inl h)]

def fieldsOf (c : Cod) (n : Int) : Int := if 0 ≤ n then (match c.shapes[n.toNat]? with | some p => p.length | none => -1) else -1
theorem fieldsOf_not {c : Cod} {n : Int} (h : n < 0 ∨ c.shapes.length ≤ n) : fieldsOf c n = -1 := by
  unfold fieldsOf
  split
  · rw [List.getElem?_eq_none (by omega)]
  · rfl
theorem fields_ok (c : Cod) (n : Int) : PCall Pg F.gradusref18_fields [.agg c.enc, .one (.int .i64 n)] (.one (.int .i64 (fieldsOf c n))) := by
  refine w_gradusref18_fields (by simp) fun o c' hN hp => ?_
  unfold mc_gradusref18_fields
  simp
  refine gd.mk (fun h => ?_) (fun h => ?_)
  · simp at h
    refine gd.mk (fun h' => ?_) (fun h' => ?_)
    · simp at h'
      rw [fieldsOf_not (.inr h')]
    · simp at h'
      have : n.toNat < c.shapes.length := by omega
      simp [List.getElem?_eq_getElem this, fieldsOf, h]
  · simp at h
    rw [fieldsOf_not (.inl h)]

def manyOf (c : Cod) (i : Ins) : Int := if i.op = 17 ∧ 0 ≤ i.b ∧ i.b < c.procs.length then capsOf c i.b else if i.op = 18 ∧ 0 ≤ i.b ∧ i.b < c.shapes.length then fieldsOf c i.b else 0
theorem many_ok (c : Cod) (i : Ins) : PCall Pg F.verify_many [.agg c.enc, .agg i.enc] (.one (.int .i64 (manyOf c i))) := by
  refine w_verify_many (by simp) fun o c' hN hp => ?_
  unfold mc_verify_many
  simp
  refine gd.mk (fun h => ?_) (fun h => ?_)
  · simp at h
    refine callK.mk (has_ok _ _) ?_
    simp
    refine gd.mk (fun h' => ?_) (fun h' => ?_)
    · simp at h'
      have : i.b.toNat < c.procs.length := by omega
      simp [List.getElem?_eq_getElem this, manyOf, h, h', capsOf]
    · rw [Bool.not_true, Bool.and_eq_false_iff, decide_eq_false_iff_not, decide_eq_false_iff_not] at h'
      simp [h]
      unfold manyOf
      rw [if_neg (by omega), if_neg (by omega)]
  · simp at h
    refine gd.mk (fun h2 => ?_) (fun h2 => ?_)
    · simp at h2
      refine callK.mk (has_ok _ _) ?_
      simp
      refine gd.mk (fun h' => ?_) (fun h' => ?_)
      · simp at h'
        have : i.b.toNat < c.shapes.length := by omega
        simp [List.getElem?_eq_getElem this, manyOf, h, h', h2, fieldsOf]
      · rw [Bool.not_true, Bool.and_eq_false_iff, decide_eq_false_iff_not, decide_eq_false_iff_not] at h'
        unfold manyOf
        rw [if_neg (by omega), if_neg (by omega)]
    · simp at h2
      unfold manyOf
      rw [if_neg (by omega), if_neg (by omega)]
end Go.Gr

set_option linter.unusedVariables false
set_option linter.unusedSimpArgs false
namespace Go.Gr
open Go.Abs Go.Proofs

def rowL (a : Int) (x : Nat) : List Int := (List.range x).map fun i : Nat => IntKind.i64.wrap (a + (i : Int))
@[simp] theorem rowL_len (a : Int) (x : Nat) : (rowL a x).length = x := by simp [rowL]
@[simp] theorem rowL_zero (a : Int) : rowL a 0 = [] := rfl
theorem rowL_succ (a : Int) (x : Nat) : rowL a (x + 1) = rowL a x ++ [IntKind.i64.wrap (a + x)] := by simp [rowL, List.range_succ]
theorem encI_append (l k : List Int) : encI (l ++ k) = encI l ++ encI k := by simp [encI]
@[simp] theorem encI_nil : encI [] = [] := rfl
theorem encI_one (n : Int) : encI [n] = [[.int .i64 n]] := rfl
def rowOf (a n : Int) : List Int := if n ≤ 256 then rowL a n.toNat else []

/-- numbers that are gathered by 'append' -/
def accT : Nat → AV
  | 0 => .c (.d (.sl true 1 []))
  | x + 1 => .c (.msl 1 0 0 (x + 1))
@[simp] theorem accT_zero : accT 0 = .c (.d (.sl true 1 [])) := rfl
@[simp] theorem accT_succ (x : Nat) : accT (x + 1) = .c (.msl 1 0 0 (x + 1)) := rfl
def accB (l : List Int) : List Blk := match l with
  | [] => []
  | _ => [.arr 1 ((encI l).map (·.map .d))]
@[simp] theorem accB_nil : accB [] = [] := rfl
theorem accB_pos {l : List Int} (h : 0 < l.length) : accB l = [.arr 1 ((encI l).map (·.map .d))] := by
  cases l with
  | nil => simp at h
  | cons => rfl

theorem acc_frz {l : List Int} {x : Nat} (h : l.length = x) : (frzV (hpOf (accB l)) (accT x)).map DV.er = some (.one (.sl false 1 (encI l))) := by
  cases x with
  | zero =>
    have : l = [] := by simpa using h
    subst this
    simp
  | succ x =>
    rw [accB_pos (by omega)]
    simp [h]
    rw [List.take_of_length_le (by simp; omega)]

theorem accB_stat (l : List Int) {x : Nat} (h : l.length = x) : (accB l).all (fun b => b.tag != 0) = true ∧ ((accB l).all fun b => b.tag == 2) = true ∧ (accT x).lv (live (accB l)) = true ∧ ((accB l).all fun b => b.lv (live (accB l))) = true := by
  cases l with
  | nil => simp at h; subst h; simp
  | cons a l =>
    rw [accB_pos (by simp)]
    simp at h; subst h
    simp [live]
theorem acc_end {l : List Int} {x : Nat} (h : l.length = x) {T : List (Nat × AV)} {n : Nat} : EndM (accT x) (accB l) [] [accT x] ⟨T, hpOf (accB l), n⟩ := by
  cases l with
  | nil => simp at h; subst h; exact EndM.mk [] [] (by simp)
  | cons a l =>
    simp at h; subst h
    exact EndM.mk [0] [] (by simp [accB_pos])

set_option maxHeartbeats 400000 in
theorem rowM_ok (a n : Int) : MCall Pg F.gradusref18_row [.c (.d (.int .i64 a)), .c (.d (.int .i64 n))] [] (accT (rowOf a n).length) (accB (rowOf a n)) := by
  have st := accB_stat (rowOf a n) rfl
  refine wm_gradusref18_row ⟨by simp, by simp, by simp, st.1, by simpa using st.2.1, st.2.2.1, st.2.2.2⟩ fun ts hts ok hb c hN hp => ?_
  have hts : ts = [] := List.length_eq_zero_iff.1 hts
  subst hts
  unfold mc_gradusref18_row
  simp
  refine W.loop Pg_mixed hp (fun x : Nat => x = 0 ∨ (x ≤ n ∧ n ≤ 256)) (fun x => [(6, .c (.d (.int .i64 x))), (5, accT x), (0, .c (.d (.int .i64 a))), (1, .c (.d (.int .i64 n)))]) (fun x => accB (rowL a x)) (fun x => (n - x).toNat) 0 [] (.inl rfl) (by simp) fun x hx => ?_
  unfold lp_gradusref18_row_0
  simp
  refine gd.mk (fun h => ?_) (fun h => ?_)
  · simp at h
    refine gd.mk (fun h' => ?_) (fun h' => ?_)
    · simp at h'
      cases x with
      | zero =>
        simp
        refine Next.mk 1 [0] (.inr ⟨by omega, h'⟩) (by omega) ?_
        rw [accB_pos (by simp), accT_succ 0]
        simp [rowL_succ, encI_one]
        exact wrap_i64 (by omega) (by omega)
      | succ x =>
        rw [accB_pos (by simp)]
        simp
        refine ⟨by omega, Next.mk (x + 1 + 1) [1] (.inr ⟨by omega, h'⟩) (by omega) ?_⟩
        rw [accB_pos (by simp), accT_succ (x + 1)]
        simp [rowL_succ a (x + 1), encI_append, encI_one]
        rw [List.take_of_length_le (by simp)]
        exact ⟨wrap_i64 (by omega) (by omega), rfl⟩
    · simp at h'
      have : x = 0 := by omega
      subst this
      simp [rowOf]
      rw [if_neg (by omega)]
      exact EndM.mk [] [] (by simp)
  · simp at h
    have e : rowOf a n = rowL a x := by
      unfold rowOf
      rcases hx with rfl | ⟨h1, h2⟩
      · split
        · rw [show n.toNat = 0 from by omega]
        · rfl
      · rw [if_pos h2, show n.toNat = x from by omega]
    rw [e, rowL_len a x]
    exact acc_end (rowL_len a x)
end Go.Gr

set_option linter.unusedVariables false
set_option linter.unusedSimpArgs false
namespace Go.Gr
open Go.Abs Go.Proofs

def rusesOf (c : Cod) (i : Ins) : List Int :=
  if 0 ≤ i.op ∧ i.op < 11 then [i.b, i.c]
  else if i.op = 15 ∨ i.op = 19 ∨ i.op = 21 ∨ i.op = 26 ∨ i.op = 29 ∨ i.op = 30 ∨ i.op = 31 then [i.b]
  else if i.op = 20 then [i.a, i.b]
  else if i.op = 22 ∨ i.op = 27 ∨ i.op = 28 then [i.b, i.c]
  else if i.op = 23 ∨ i.op = 25 then [i.a]
  else if i.op = 17 then rowOf i.c (capsOf c i.b)
  else if i.op = 18 then rowOf i.c (fieldsOf c i.b)
  else []
def rowy (i : Ins) : Bool := decide (i.op = 17) || decide (i.op = 18)
/-- the list that the reference's Uses answers: one of the call's own, or plain data -/
def useT (c : Cod) (i : Ins) : AV := if i.op = 17 ∨ i.op = 18 then accT (rusesOf c i).length else .c (.d (.sl true 1 (encI (rusesOf c i))))
def useB (c : Cod) (i : Ins) : List Blk := if i.op = 17 ∨ i.op = 18 then accB (rusesOf c i) else []
theorem use_stat (c : Cod) (i : Ins) : (useB c i).all (fun b => b.tag != 0) = true ∧ ((useB c i).all fun b => b.tag == 2) = true ∧ (useT c i).lv (live (useB c i)) = true ∧ ((useB c i).all fun b => b.lv (live (useB c i))) = true := by
  unfold useT useB
  split
  · exact accB_stat _ rfl
  · simp

set_option maxRecDepth 20000 in
set_option maxHeartbeats 1000000 in
theorem rUses_ok (c : Cod) (i : Ins) : MCall Pg F.gradusref18_Uses [.ag (c.enc.map .d), .ag (i.enc.map .d)] [] (useT c i) (useB c i) := by
  have st := use_stat c i
  refine wm_gradusref18_Uses ⟨by simp, by simp, by simp, st.1, by simpa using st.2.1, st.2.2.1, st.2.2.2⟩ fun ts hts ok hb c' hN hp => ?_
  have hts : ts = [] := List.length_eq_zero_iff.1 hts
  subst hts
  clear st
  unfold mc_gradusref18_Uses
  simp
  repeat' (refine gd.mk (fun h => ?_) (fun h => ?_))
  all_goals (simp only [Bool.not_true, Bool.not_false, decide_eq_true_eq, decide_eq_false_iff_not] at *)
  all_goals (first
    | (exfalso; omega)
    | (have e : rusesOf c i = [i.b, i.c] := by unfold rusesOf; repeat (first | rw [if_pos (by omega)] | rw [if_neg (by omega)])
       unfold useT useB; rw [if_neg (by omega), if_neg (by omega), e]; exact EndM.mk [] [] (by simp [encI]))
    | (have e : rusesOf c i = [i.b] := by unfold rusesOf; repeat (first | rw [if_pos (by omega)] | rw [if_neg (by omega)])
       unfold useT useB; rw [if_neg (by omega), if_neg (by omega), e]; exact EndM.mk [] [] (by simp [encI]))
    | (have e : rusesOf c i = [i.a, i.b] := by unfold rusesOf; repeat (first | rw [if_pos (by omega)] | rw [if_neg (by omega)])
       unfold useT useB; rw [if_neg (by omega), if_neg (by omega), e]; exact EndM.mk [] [] (by simp [encI]))
    | (have e : rusesOf c i = [i.a] := by unfold rusesOf; repeat (first | rw [if_pos (by omega)] | rw [if_neg (by omega)])
       unfold useT useB; rw [if_neg (by omega), if_neg (by omega), e]; exact EndM.mk [] [] (by simp [encI]))
    | (have e : rusesOf c i = [] := by unfold rusesOf; repeat (first | rw [if_pos (by omega)] | rw [if_neg (by omega)])
       unfold useT useB; rw [if_neg (by omega), if_neg (by omega), e]; exact EndM.mk [] [] (by simp [encI]))
    | skip)
  · have e : rusesOf c i = rowOf i.c (capsOf c i.b) := by unfold rusesOf; repeat (first | rw [if_pos (by omega)] | rw [if_neg (by omega)])
    have hm := rowM_ok i.c (capsOf c i.b)
    unfold useT useB
    rw [if_pos (by omega), if_pos (by omega), e]
    refine callK.mk (caps_ok _ _) ?_
    generalize rowOf i.c (capsOf c i.b) = L at hm ⊢
    generalize capsOf c i.b = q at hm ⊢
    simp
    cases L with
    | nil =>
      refine callKM.mk [] hm (by simp) ?_
      simp
      exact ⟨by decide, EndM.mk [] [] (by simp)⟩
    | cons a L =>
      refine callKM.mk [] hm (by simp [accB_pos]) ?_
      simp [accB_pos]
      exact ⟨by decide, EndM.mk [0] [] (by simp)⟩
  · have e : rusesOf c i = rowOf i.c (fieldsOf c i.b) := by unfold rusesOf; repeat (first | rw [if_pos (by omega)] | rw [if_neg (by omega)])
    have hm := rowM_ok i.c (fieldsOf c i.b)
    unfold useT useB
    rw [if_pos (by omega), if_pos (by omega), e]
    refine callK.mk (fields_ok _ _) ?_
    generalize rowOf i.c (fieldsOf c i.b) = L at hm ⊢
    generalize fieldsOf c i.b = q at hm ⊢
    simp
    cases L with
    | nil =>
      refine callKM.mk [] hm (by simp) ?_
      simp
      exact ⟨by decide, EndM.mk [] [] (by simp)⟩
    | cons a L =>
      refine callKM.mk [] hm (by simp [accB_pos]) ?_
      simp [accB_pos]
      exact ⟨by decide, EndM.mk [0] [] (by simp)⟩

theorem use_cases (c : Cod) (i : Ins) : (useT c i = .c (.d (.sl true 1 (encI (rusesOf c i)))) ∧ useB c i = []) ∨ (0 < (rusesOf c i).length ∧ useT c i = .c (.msl 1 0 0 (rusesOf c i).length) ∧ useB c i = [.arr 1 ((encI (rusesOf c i)).map (·.map .d))]) := by
  unfold useT useB
  generalize rusesOf c i = L
  split
  · cases L with
    | nil => exact .inl ⟨rfl, rfl⟩
    | cons a L => exact .inr ⟨by simp, rfl, rfl⟩
  · exact .inl ⟨rfl, rfl⟩
end Go.Gr

set_option linter.unusedVariables false
set_option linter.unusedSimpArgs false
namespace Go.Gr
open Go.Abs Go.Proofs

/-- numbers that are gathered, behind one other block -/
def acd : Nat → AV
  | 0 => .c (.d (.sl true 1 []))
  | x + 1 => .c (.msl 1 1 0 (x + 1))
@[simp] theorem acd_zero : acd 0 = .c (.d (.sl true 1 [])) := rfl
@[simp] theorem acd_succ (x : Nat) : acd (x + 1) = .c (.msl 1 1 0 (x + 1)) := rfl
theorem acd_pos {n : Nat} (h : 0 < n) : acd n = .c (.msl 1 1 0 n) := by
  cases n with
  | zero => omega
  | succ => rfl

def colD (i : Ins) : List D := [.int .i64 i.a, .int .i64 i.b, .int .i64 i.c]
@[simp] theorem colD_len (i : Ins) : (colD i).length = 3 := rfl
def colN (i : Ins) (k : Nat) : Int := [i.a, i.b, i.c].getD k 0
def colS (i : Ins) (k : Nat) : Int := [(sortOf i.op).1, (sortOf i.op).2.1, (sortOf i.op).2.2].getD k 0
theorem colD_get {i : Ins} {k : Nat} (h : k < 3) : (colD i)[k]? = some (.int .i64 (colN i k)) := by
  have : k = 0 ∨ k = 1 ∨ k = 2 := by omega
  rcases this with rfl | rfl | rfl <;> rfl
theorem colS_get {i : Ins} {k : Nat} (h : k < 3) : (row3 (sortOf i.op))[k]? = some (.int .i64 (colS i k)) := by
  have : k = 0 ∨ k = 1 ∨ k = 2 := by omega
  rcases this with rfl | rfl | rfl <;> rfl
def colU (c : Cod) (i : Ins) (k : Nat) : List Int := if colS i k = 2 ∨ colS i k = 3 then [colN i k] else if colS i k = 12 then rowOf (colN i k) (manyOf c i) else []
def upTo (c : Cod) (i : Ins) : Nat → List Int
  | 0 => []
  | k + 1 => upTo c i k ++ colU c i k
theorem rowOf_len (a n : Int) : (rowOf a n).length ≤ 256 := by unfold rowOf; split <;> simp; omega
theorem colU_len (c : Cod) (i : Ins) (k : Nat) : (colU c i k).length ≤ 256 := by
  unfold colU
  have := rowOf_len (colN i k) (manyOf c i)
  split
  · simp
  · split
    · exact this
    · simp
theorem upTo_len (c : Cod) (i : Ins) (k : Nat) : (upTo c i k).length ≤ 256 * k := by
  induction k with
  | zero => simp [upTo]
  | succ k ih => have := colU_len c i k; simp [upTo]; omega
def usesOf (c : Cod) (i : Ins) : List Int := upTo c i 3

@[simp] theorem accB_cons (a : Int) (l : List Int) : accB (a :: l) = [.arr 1 ((encI (a :: l)).map (·.map .d))] := rfl
theorem acd_frz {l : List Int} {b : Blk} : (frzV (hpOf (b :: accB l)) (acd l.length)).map DV.er = some (.one (.sl false 1 (encI l))) := by
  cases l with
  | nil => simp
  | cons a l =>
    simp
    rw [List.take_of_length_le (by simp)]

abbrev outT (c : Cod) (i : Ins) (k : Nat) (l : List Int) : List (Nat × AV) := [(20, .c (.d (.int .i64 k))), (5, acd l.length), (6, .c (.ptr 0 0)), (19, .ag ((colD i).map .d)), (2, .c (.d (.rp c.enc 0))), (3, .c (.d (.rp i.enc 0)))]
abbrev outB (i : Ins) (l : List Int) : List Blk := .box ((row3 (sortOf i.op)).map .d) :: accB l
/-- one more number -/
theorem out_more {c : Cod} {i : Ins} {k : Nat} {l : List Int} {n : Int} {S : St} {g} (hk : k < 3) (e : upTo c i (k + 1) = l ++ [n]) (b : Nat) (hb : b ≠ 0)
    (h20 : S.get 20 = .c (.d (.int .i64 (IntKind.i64.wrap (k + 1))))) (h5 : S.get 5 = .c (.msl 1 b 0 (l.length + 1))) (h6 : S.get 6 = .c (.ptr 0 0)) (h19 : S.get 19 = .ag ((colD i).map .d)) (h2 : S.get 2 = .c (.d (.rp c.enc 0))) (h3 : S.get 3 = .c (.d (.rp i.enc 0)))
    (m0 : S.m 0 = .box ((row3 (sortOf i.op)).map .d)) (m1 : S.m b = .arr 1 ((encI (l ++ [n])).map (·.map .d))) :
    Abs.Next (fun k : Nat => k ≤ 3) (fun k => outT c i k (upTo c i k)) (fun k => outB i (upTo c i k)) (fun k => 3 - k) k g S := by
  refine Abs.Next.mk (k + 1) [0, b] (by omega) (by omega) ?_
  rw [e, outB, outT, accB_pos (by simp), acd_pos (by simp)]
  simp [h20, h5, h6, h19, h2, h3, m0, m1, Ne.symm hb]
  exact wrap_i64 (by omega) (by omega)

/-- as many numbers as there were -/
theorem out_same {c : Cod} {i : Ins} {k : Nat} {l : List Int} {S : St} {g} (hk : k < 3) (e : upTo c i (k + 1) = l)
    (h20 : S.get 20 = .c (.d (.int .i64 (IntKind.i64.wrap (k + 1))))) (h5 : S.get 5 = acd l.length) (h6 : S.get 6 = .c (.ptr 0 0)) (h19 : S.get 19 = .ag ((colD i).map .d)) (h2 : S.get 2 = .c (.d (.rp c.enc 0))) (h3 : S.get 3 = .c (.d (.rp i.enc 0)))
    (m0 : S.m = hpOf (outB i l)) :
    Abs.Next (fun k : Nat => k ≤ 3) (fun k => outT c i k (upTo c i k)) (fun k => outB i (upTo c i k)) (fun k => 3 - k) k g S := by
  cases l with
  | nil =>
    refine Abs.Next.mk (k + 1) [0] (by omega) (by omega) ?_
    simp only [e]
    simp [h20, h5, h6, h19, h2, h3, m0]
    exact wrap_i64 (by omega) (by omega)
  | cons a l =>
    refine Abs.Next.mk (k + 1) [0, 1] (by omega) (by omega) ?_
    simp only [e]
    simp [h20, h5, h6, h19, h2, h3, m0]
    exact wrap_i64 (by omega) (by omega)

set_option maxHeartbeats 1000000 in
theorem inner_ok {c : Cod} {i : Ins} {k : Nat} {l : List Int} {m n : Int} {c' : Ctx} (hp : c'.pure) {Q : Exit → St → Prop} {g} {S : St} (l0 : List Nat) (hl : l.length ≤ 768)
    (h0 : Match l0 S ((11, .c (.d (.int .i64 0))) :: (10, .c (.d (.int .i64 m))) :: (9, .c (.d (.int .i64 n))) :: outT c i k l) (outB i l))
    (hQ : ∀ t x, Abs.look t 20 = .c (.d (.int .i64 k)) → Abs.look t 5 = acd (l ++ rowOf n m).length → Abs.look t 6 = .c (.ptr 0 0) → Abs.look t 19 = .ag ((colD i).map .d) → Abs.look t 2 = .c (.d (.rp c.enc 0)) → Abs.look t 3 = .c (.d (.rp i.enc 0)) → Q (.exit 3) ⟨t, hpOf (outB i (l ++ rowOf n m)), x⟩) :
    lw_ Pg c' lp_verify_Uses_3 Q g S := by
  refine W.loop Pg_mixed hp (fun r : Nat => r = 0 ∨ (r ≤ m ∧ m ≤ 256)) (fun r => (11, .c (.d (.int .i64 r))) :: (10, .c (.d (.int .i64 m))) :: (9, .c (.d (.int .i64 n))) :: outT c i k (l ++ rowL n r)) (fun r => outB i (l ++ rowL n r)) (fun r => (m - r).toNat) 0 l0 (.inl rfl) (by simpa using h0) fun r hr => ?_
  have e1 : l ++ rowL n (r + 1) = (l ++ rowL n r) ++ [IntKind.i64.wrap (n + r)] := by rw [rowL_succ, List.append_assoc]
  have e2 : (¬ (r : Int) < m ∨ ¬ m ≤ 256) → l ++ rowOf n m = l ++ rowL n r := by
    intro h
    unfold rowOf
    rcases hr with rfl | ⟨h1, h2⟩
    · split
      · rw [show m.toNat = 0 from by omega]
      · rfl
    · rw [if_pos h2, show m.toNat = r from by omega]
  have hlen : (l ++ rowL n r).length ≤ 768 + r := by simp; omega
  have fin : ∀ t x, (¬ (r : Int) < m ∨ ¬ m ≤ 256) → Abs.look t 20 = .c (.d (.int .i64 k)) → Abs.look t 5 = acd (l ++ rowL n r).length → Abs.look t 6 = .c (.ptr 0 0) → Abs.look t 19 = .ag ((colD i).map .d) → Abs.look t 2 = .c (.d (.rp c.enc 0)) → Abs.look t 3 = .c (.d (.rp i.enc 0)) → Q (.exit 3) ⟨t, hpOf (outB i (l ++ rowL n r)), x⟩ := by
    intro t x h
    have := hQ t x
    rwa [e2 h] at this
  unfold lp_verify_Uses_3
  cases hL : l ++ rowL n r with
  | nil =>
    rw [hL] at e1 fin
    simp
    refine gd.mk (fun h => gd.mk (fun h' => ?_) (fun h' => ?_)) (fun h => ?_)
    · simp at h h'
      refine Abs.Next.mk (r + 1) [0, 1] (.inr ⟨by omega, h'⟩) (by omega) ?_
      simp only [e1]
      simp [encI_one]
      exact wrap_i64 (by omega) (by omega)
    · exact fin _ _ (.inr (by simpa using h')) rfl rfl rfl rfl rfl rfl
    · exact fin _ _ (.inl (by simp at h; omega)) rfl rfl rfl rfl rfl rfl
  | cons a L =>
    rw [hL] at e1 fin hlen
    simp at hlen
    simp
    refine gd.mk (fun h => gd.mk (fun h' => ?_) (fun h' => ?_)) (fun h => ?_)
    · simp at h h'
      refine ⟨by omega, Abs.Next.mk (r + 1) [0, 2] (.inr ⟨by omega, h'⟩) (by omega) ?_⟩
      simp only [e1]
      simp [encI_append, encI_one]
      refine ⟨wrap_i64 (by omega) (by omega), ?_⟩
      rw [List.take_of_length_le (by simp)]
      simp [encI]
    · exact fin _ _ (.inr (by simpa using h')) rfl rfl rfl rfl rfl rfl
    · exact fin _ _ (.inl (by simp at h; omega)) rfl rfl rfl rfl rfl rfl
theorem out_more' {c : Cod} {i : Ins} {k : Nat} {a : Int} {l : List Int} {n : Int} : (encI (a :: l ++ [n])).map (·.map AC.d) = List.take (l.length + 1) (List.map (fun x => List.map AC.d x) (encI (a :: l))) ++ [[.d (.int .i64 n)]] := by
  rw [List.take_of_length_le (by simp)]
  simp [encI]

set_option maxRecDepth 20000 in
set_option maxHeartbeats 1000000 in
theorem Uses_ok (c : Cod) (i : Ins) : PCall Pg F.verify_Uses [.agg c.enc, .agg i.enc] (.one (.sl false 1 (encI (usesOf c i)))) := by
  refine w_verify_Uses (by simp) fun o c' hN hp => ?_
  unfold mc_verify_Uses
  simp
  refine callK.mk (of_ok _) ?_
  simp
  refine callK.mk (columns_ok _) ?_
  simp
  rw [show [AC.d (D.int IntKind.i64 i.a), AC.d (D.int IntKind.i64 i.b), AC.d (D.int IntKind.i64 i.c)] = (colD i).map .d from rfl]
  refine W.loop Pg_mixed hp (fun k : Nat => k ≤ 3) (fun k => outT c i k (upTo c i k)) (fun k => outB i (upTo c i k)) (fun k => 3 - k) 0 [0] (by simp) (by simp [upTo]) fun k hk => ?_
  unfold lp_verify_Uses_0
  have ulen := upTo_len c i k
  have estep : upTo c i (k + 1) = upTo c i k ++ colU c i k := rfl
  have efin : k = 3 → usesOf c i = upTo c i k := fun h => by rw [h]; rfl
  generalize upTo c i k = l at ulen estep efin ⊢
  cases l with
  | nil =>
    simp
    refine gd.mk (fun h => ?_) (fun h => ?_)
    · have h : k < 3 := by simp at h; omega
      simp [colD_get h, colS_get h]
      refine ⟨by omega, gd.mk (fun h2 => ?_) (fun h2 => gd.mk (fun h3 => ?_) (fun h3 => gd.mk (fun h4 => ?_) (fun h4 => ?_)))⟩
      · simp at h2
        exact out_more (n := colN i k) h (by rw [estep, colU, if_pos (.inl h2)]) 1 (by omega) rfl rfl rfl rfl rfl rfl rfl rfl
      · simp at h3
        exact out_more (n := colN i k) h (by rw [estep, colU, if_pos (.inr h3)]) 1 (by omega) rfl rfl rfl rfl rfl rfl rfl rfl
      · simp at h2 h3 h4
        refine callK.mk (many_ok _ _) ?_
        simp
        refine inner_ok (c := c) (i := i) (k := k) (l := []) (m := manyOf c i) (n := colN i k) hp [0] (by simp) (by simp) fun t x q20 q5 q6 q19 q2 q3 => ?_
        simp [q20]
        exact out_same (l := [] ++ rowOf (colN i k) (manyOf c i)) h (by rw [estep, colU, if_neg (by omega), if_pos h4]) rfl q5 q6 q19 q2 q3 rfl
      · simp at h2 h3 h4
        exact out_same (l := []) h (by rw [estep, colU, if_neg (by omega), if_neg h4]; rfl) rfl rfl rfl rfl rfl rfl rfl
    · have : k = 3 := by simp at h; omega
      rw [efin this]
      simp
  | cons a l =>
    simp
    refine gd.mk (fun h => ?_) (fun h => ?_)
    · have h : k < 3 := by simp at h; omega
      simp at ulen
      simp [colD_get h, colS_get h]
      refine ⟨by omega, gd.mk (fun h2 => ?_) (fun h2 => gd.mk (fun h3 => ?_) (fun h3 => gd.mk (fun h4 => ?_) (fun h4 => ?_)))⟩
      · simp at h2
        refine ⟨by omega, out_more (l := a :: l) (n := colN i k) h (by rw [estep, colU, if_pos (.inl h2)]) 2 (by omega) rfl rfl rfl rfl rfl rfl rfl ?_⟩
        rw [out_more' (c := c) (i := i) (k := k)]; rfl
      · simp at h3
        refine ⟨by omega, out_more (l := a :: l) (n := colN i k) h (by rw [estep, colU, if_pos (.inr h3)]) 2 (by omega) rfl rfl rfl rfl rfl rfl rfl ?_⟩
        rw [out_more' (c := c) (i := i) (k := k)]; rfl
      · simp at h2 h3 h4
        refine callK.mk (many_ok _ _) ?_
        simp
        refine inner_ok (c := c) (i := i) (k := k) (l := a :: l) (m := manyOf c i) (n := colN i k) hp [0, 1] (by simp; omega) (by simp) fun t x q20 q5 q6 q19 q2 q3 => ?_
        simp [q20]
        exact out_same (l := a :: l ++ rowOf (colN i k) (manyOf c i)) h (by rw [estep, colU, if_neg (by omega), if_pos h4]) rfl q5 q6 q19 q2 q3 rfl
      · simp at h2 h3 h4
        exact out_same (l := a :: l) h (by rw [estep, colU, if_neg (by omega), if_neg h4]; simp) rfl rfl rfl rfl rfl rfl rfl
    · have : k = 3 := by simp at h; omega
      rw [efin this]
      exact List.take_of_length_le (by simp)
end Go.Gr

set_option linter.unusedVariables false
set_option linter.unusedSimpArgs false
namespace Go.Gr
open Go.Abs Go.Proofs

theorem op_cases {n : Int} (h0 : 0 ≤ n) (h1 : n < 33) : n = 0 ∨ n = 1 ∨ n = 2 ∨ n = 3 ∨ n = 4 ∨ n = 5 ∨ n = 6 ∨ n = 7 ∨ n = 8 ∨ n = 9 ∨ n = 10 ∨ n = 11 ∨ n = 12 ∨ n = 13 ∨ n = 14 ∨ n = 15 ∨ n = 16 ∨ n = 17 ∨ n = 18 ∨ n = 19 ∨ n = 20 ∨ n = 21 ∨ n = 22 ∨ n = 23 ∨ n = 24 ∨ n = 25 ∨ n = 26 ∨ n = 27 ∨ n = 28 ∨ n = 29 ∨ n = 30 ∨ n = 31 ∨ n = 32 := by omega

theorem sets_eq (i : Ins) : setsOf i = rsetsOf i := by
  obtain ⟨op, a, b, c⟩ := i
  by_cases h : 0 ≤ op ∧ op < 33
  · obtain ⟨h0, h1⟩ := h
    rcases op_cases h0 h1 with h | h | h | h | h | h | h | h | h | h | h | h | h | h | h | h | h | h | h | h | h | h | h | h | h | h | h | h | h | h | h | h | h <;> subst h <;> simp [setsOf, rsetsOf, sortOf, rowsT]
  · unfold setsOf rsetsOf
    simp only
    rw [sortOf_not h, if_neg (by simp), if_pos (by omega)]

theorem rowOf_neg {a n : Int} (h : n ≤ 0) : rowOf a n = [] := by
  unfold rowOf
  split
  · rw [show n.toNat = 0 from by omega]; rfl
  · rfl

theorem many_caps {c : Cod} {i : Ins} (h : i.op = 17) : rowOf i.c (manyOf c i) = rowOf i.c (capsOf c i.b) := by
  by_cases hb : 0 ≤ i.b ∧ i.b < c.procs.length
  · unfold manyOf; rw [if_pos ⟨h, hb⟩]
  · have h1 : capsOf c i.b = -1 := capsOf_not (by omega)
    have h2 : manyOf c i = 0 := by unfold manyOf; rw [if_neg (by omega), if_neg (by omega)]
    rw [h1, h2, rowOf_neg (by omega), rowOf_neg (by omega)]
theorem many_fields {c : Cod} {i : Ins} (h : i.op = 18) : rowOf i.c (manyOf c i) = rowOf i.c (fieldsOf c i.b) := by
  by_cases hb : 0 ≤ i.b ∧ i.b < c.shapes.length
  · unfold manyOf; rw [if_neg (by omega), if_pos ⟨h, hb⟩]
  · have h1 : fieldsOf c i.b = -1 := fieldsOf_not (by omega)
    have h2 : manyOf c i = 0 := by unfold manyOf; rw [if_neg (by omega), if_neg (by omega)]
    rw [h1, h2, rowOf_neg (by omega), rowOf_neg (by omega)]

theorem uses_eq (c : Cod) (i : Ins) : usesOf c i = rusesOf c i := by
  have m1 := @many_caps c i
  have m2 := @many_fields c i
  obtain ⟨op, a, b, c'⟩ := i
  by_cases h : 0 ≤ op ∧ op < 33
  · obtain ⟨h0, h1⟩ := h
    rcases op_cases h0 h1 with h | h | h | h | h | h | h | h | h | h | h | h | h | h | h | h | h | h | h | h | h | h | h | h | h | h | h | h | h | h | h | h | h <;> subst h <;> simp at m1 m2 <;> simp [usesOf, rusesOf, upTo, colU, colS, colN, sortOf, rowsT, m1, m2]
  · have e : rusesOf c ⟨op, a, b, c'⟩ = [] := by
      unfold rusesOf
      simp only
      repeat (first | rw [if_neg (by omega)])
    rw [e]
    simp [usesOf, upTo, colU, colS, colN, sortOf_not h]
end Go.Gr
