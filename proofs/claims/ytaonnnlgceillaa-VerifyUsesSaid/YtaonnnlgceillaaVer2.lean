/- Data of the program's types; the small functions. -/
import Derived.Test.YtaonnnlgceillaaVer1
set_option linter.unusedVariables false
set_option linter.unusedSimpArgs false
namespace Go.Ver
open Go.Abs Go.Proofs

structure Ins where
  op : Int
  a : Int
  b : Int
  c : Int
def Ins.enc (i : Ins) : List D := [.int .i64 i.op, .int .i64 i.a, .int .i64 i.b, .int .i64 i.c]
structure Prc where
  caps : Int
  regs : Int
  code : List Ins
def Prc.enc (p : Prc) : List D := [.int .i64 p.caps, .int .i64 p.regs, .sl false 4 (p.code.map Ins.enc)]
def encI (l : List Int) : List (List D) := l.map fun i => [.int .i64 i]
def encS (l : List ByteArray) : List (List D) := l.map fun s => [.str s]
def encN (l : List (ByteArray × Int)) : List (List D) := l.map fun x => [.str x.1, .int .i64 x.2]
inductive Coe where
  | mk (tags : List Int) (needs : List (ByteArray × Int)) (names : List ByteArray) (fields fn : List Coe)
mutual
def Coe.enc : Coe → List D
  | .mk t n s f g => [.sl false 1 (encI t), .sl false 2 (encN n), .sl false 1 (encS s), .sl false 5 (Coe.encs f), .sl false 5 (Coe.encs g)]
def Coe.encs : List Coe → List (List D)
  | [] => []
  | c :: cs => Coe.enc c :: Coe.encs cs
end
theorem Coe.encs_map (l : List Coe) : Coe.encs l = l.map Coe.enc := by
  induction l with
  | nil => simp [Coe.encs]
  | cons c l ih => simp [Coe.encs, ih]
structure Cod where
  ints : List Int
  strs : List ByteArray
  shapes : List (List ByteArray)
  cos : List Coe
  procs : List Prc
  main : Int
  merge : Bool
def Cod.enc (c : Cod) : List D := [.sl false 1 (encI c.ints), .sl false 1 (encS c.strs), .sl false 1 (c.shapes.map fun l => [.sl false 1 (encS l)]), .sl false 5 (c.cos.map Coe.enc), .sl false 3 (c.procs.map Prc.enc), .int .i64 c.main, .bool c.merge]

@[simp] theorem Ins.enc_length (i : Ins) : i.enc.length = 4 := rfl
@[simp] theorem Ins.enc_0 (i : Ins) : i.enc[0]? = some (.int .i64 i.op) := rfl
@[simp] theorem Ins.enc_1 (i : Ins) : i.enc[1]? = some (.int .i64 i.a) := rfl
@[simp] theorem Ins.enc_2 (i : Ins) : i.enc[2]? = some (.int .i64 i.b) := rfl
@[simp] theorem Ins.enc_3 (i : Ins) : i.enc[3]? = some (.int .i64 i.c) := rfl
@[simp] theorem Prc.enc_length (p : Prc) : p.enc.length = 3 := rfl
@[simp] theorem Prc.enc_0 (p : Prc) : p.enc[0]? = some (.int .i64 p.caps) := rfl
@[simp] theorem Prc.enc_1 (p : Prc) : p.enc[1]? = some (.int .i64 p.regs) := rfl
@[simp] theorem Prc.enc_2 (p : Prc) : p.enc[2]? = some (.sl false 4 (p.code.map Ins.enc)) := rfl
@[simp] theorem Cod.enc_length (c : Cod) : c.enc.length = 7 := rfl
@[simp] theorem Cod.enc_0 (c : Cod) : c.enc[0]? = some (.sl false 1 (encI c.ints)) := rfl
@[simp] theorem Cod.enc_1 (c : Cod) : c.enc[1]? = some (.sl false 1 (encS c.strs)) := rfl
@[simp] theorem Cod.enc_2 (c : Cod) : c.enc[2]? = some (.sl false 1 (c.shapes.map fun l => [.sl false 1 (encS l)])) := rfl
@[simp] theorem Cod.enc_3 (c : Cod) : c.enc[3]? = some (.sl false 5 (c.cos.map Coe.enc)) := rfl
@[simp] theorem Cod.enc_4 (c : Cod) : c.enc[4]? = some (.sl false 3 (c.procs.map Prc.enc)) := rfl
@[simp] theorem Cod.enc_5 (c : Cod) : c.enc[5]? = some (.int .i64 c.main) := rfl
@[simp] theorem Cod.enc_6 (c : Cod) : c.enc[6]? = some (.bool c.merge) := rfl
@[simp] theorem Ins.cut_enc (i : Ins) : cut i.enc 0 4 = i.enc := rfl
@[simp] theorem Prc.cut_enc (p : Prc) : cut p.enc 0 3 = p.enc := rfl
@[simp] theorem Cod.cut_enc (c : Cod) : cut c.enc 0 7 = c.enc := rfl
@[simp] theorem Ins.cut_map (i : Ins) : cut (i.enc.map AC.d) 0 4 = i.enc.map .d := rfl
@[simp] theorem Prc.cut_map (p : Prc) : cut (p.enc.map AC.d) 0 3 = p.enc.map .d := rfl
@[simp] theorem Cod.cut_map (c : Cod) : cut (c.enc.map AC.d) 0 7 = c.enc.map .d := rfl
@[simp] theorem encI_length (l : List Int) : (encI l).length = l.length := by simp [encI]
@[simp] theorem encS_length (l : List ByteArray) : (encS l).length = l.length := by simp [encS]
@[simp] theorem encN_length (l : List (ByteArray × Int)) : (encN l).length = l.length := by simp [encN]
@[simp] theorem encI_get (l : List Int) (k : Nat) : (encI l)[k]? = (l[k]?).map fun i => [.int .i64 i] := by simp [encI]
@[simp] theorem encS_get (l : List ByteArray) (k : Nat) : (encS l)[k]? = (l[k]?).map fun i => [.str i] := by simp [encS]

theorem has_ok (a b : Int) : PCall Try.prog 18 [.one (.int .i64 a), .one (.int .i64 b)] (.one (.bool (decide (0 ≤ a) && decide (a < b)))) := by
  refine w18 (by simp) fun o c hN hp => ?_
  unfold mc18
  simp
  refine gd.mk (fun h => ?_) (fun h => ?_) <;> simp_all <;> omega

theorem in_ok (a b : Int) : PCall Try.prog 26 [.one (.int .i64 a), .one (.int .i64 b)] (.one (.bool (decide (0 ≤ a) && decide (a < b)))) := by
  refine w26 (by simp) fun o c hN hp => ?_
  unfold mc26
  simp
  refine gd.mk (fun h => ?_) (fun h => ?_) <;> simp_all <;> omega

theorem columns_ok (i : Ins) : PCall Try.prog 29 [.agg i.enc] (.agg [.int .i64 i.a, .int .i64 i.b, .int .i64 i.c]) := by
  refine w29 (by simp) fun o c hN hp => ?_
  unfold mc29
  simp
end Go.Ver
