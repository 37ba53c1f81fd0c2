/- Codes of functions: printed by wip/tools/Gen.lean. -/
import Derived.Test.YtaonnnlgceillaaChecked
import Derived.KernelRfl
import Derived.Test.YtaonnnlgceillaaAbs19
set_option linter.unusedVariables false
namespace Go.Ver
open Go.Abs Go.Proofs

def bs (l : List Nat) : ByteArray := ⟨(l.map UInt8.ofNat).toArray⟩

/-- gradus.verify.has -/
def mc18 : MC :=
  (.seq (.reg [
  ⟨none, some 4, .mv (.k (.bool false))⟩])
  (.seq (.reg [
  ⟨none, some 5, .mv (.t 0)⟩,
  ⟨none, some 6, .binI .geq (.t 5) (.k (.int .i64 0))⟩,
  ⟨none, some 7, .mv (.t 6)⟩,
  ⟨(some (7, true)), some 8, .mv (.t 0)⟩,
  ⟨(some (7, true)), some 9, .mv (.t 1)⟩,
  ⟨(some (7, true)), some 10, .binI .lss (.t 8) (.t 9)⟩,
  ⟨none, some 11, .pick (.t 7) (.t 10) (.k (.bool false))⟩,
  ⟨none, some 4, .mv (.t 11)⟩])
  .ret))

theorem w18 {args : List DV} {v : DV} (hn : args.length ≤ 12) (h : DV.okL args → ∀ c : Ctx, c.N = 12 → c.pure → w_ Try.prog c mc18 (endQ [.tmp 4] v) ⟨⟩ ⟨argT 0 args, fun _ => .non, 0⟩) : PCall Try.prog 18 args v :=
  PCall.of_walk Try.func18 rfl (by kernel_rfl) (by kernel_rfl) (by kernel_rfl) hn fun o c e p => W.aw Try.checked.mixed (w_start (h o c e p))

/-- gradus.verify.columns -/
def mc29 : MC :=
  (.seq (.reg [
  ⟨none, some 1, .boxP (.t 0)⟩,
  ⟨none, some 2, .alloc [.int .i64 0, .int .i64 0, .int .i64 0]⟩])
  (.seq (.reg [
  ⟨none, some 3, .faddr 1 (.t 1)⟩,
  ⟨none, some 4, .load false 1 (.t 3)⟩,
  ⟨none, some 5, .faddr 2 (.t 1)⟩,
  ⟨none, some 6, .load false 1 (.t 5)⟩,
  ⟨none, some 7, .faddr 3 (.t 1)⟩,
  ⟨none, some 8, .load false 1 (.t 7)⟩,
  ⟨none, some 9, .build [.int .i64 0, .int .i64 0, .int .i64 0] [(0, 1, (.t 4)), (1, 1, (.t 6)), (2, 1, (.t 8))]⟩,
  ⟨none, none, .store 3 (.t 2) (.t 9)⟩])
  .ret))

theorem w29 {args : List DV} {v : DV} (hn : args.length ≤ 10) (h : DV.okL args → ∀ c : Ctx, c.N = 10 → c.pure → w_ Try.prog c mc29 (endQ [.cell 2 true 3] v) ⟨⟩ ⟨argT 0 args, fun _ => .non, 0⟩) : PCall Try.prog 29 args v :=
  PCall.of_walk Try.func29 rfl (by kernel_rfl) (by kernel_rfl) (by kernel_rfl) hn fun o c e p => W.aw Try.checked.mixed (w_start (h o c e p))

/-- gradus.gradusref18.in -/
def mc26 : MC :=
  (.seq (.reg [
  ⟨none, some 4, .mv (.k (.bool false))⟩])
  (.seq (.reg [
  ⟨none, some 5, .mv (.t 0)⟩,
  ⟨none, some 6, .binI .geq (.t 5) (.k (.int .i64 0))⟩,
  ⟨none, some 7, .mv (.t 6)⟩,
  ⟨(some (7, true)), some 8, .mv (.t 0)⟩,
  ⟨(some (7, true)), some 9, .mv (.t 1)⟩,
  ⟨(some (7, true)), some 10, .binI .lss (.t 8) (.t 9)⟩,
  ⟨none, some 11, .pick (.t 7) (.t 10) (.k (.bool false))⟩,
  ⟨none, some 4, .mv (.t 11)⟩])
  .ret))

theorem w26 {args : List DV} {v : DV} (hn : args.length ≤ 12) (h : DV.okL args → ∀ c : Ctx, c.N = 12 → c.pure → w_ Try.prog c mc26 (endQ [.tmp 4] v) ⟨⟩ ⟨argT 0 args, fun _ => .non, 0⟩) : PCall Try.prog 26 args v :=
  PCall.of_walk Try.func26 rfl (by kernel_rfl) (by kernel_rfl) (by kernel_rfl) hn fun o c e p => W.aw Try.checked.mixed (w_start (h o c e p))

/-- gradus.verify.Sets -/
def mc14 : MC :=
  (.seq (.reg [
  ⟨none, some 1, .boxP (.t 0)⟩,
  ⟨none, some 2, .mv (.k (.int .i64 0))⟩])
  (.seq (.seq (.reg [
  ⟨none, some 6, .faddr 0 (.t 1)⟩,
  ⟨none, some 7, .load false 1 (.t 6)⟩,
  ⟨none, some 8, .call 28 [(.t 7)]⟩,
  ⟨none, some 5, .mv (.t 8)⟩,
  ⟨none, some 9, .extract (.t 5) 0⟩,
  ⟨none, some 10, .extract (.t 5) 1⟩,
  ⟨none, some 3, .alloc [.int .i64 0, .int .i64 0, .int .i64 0]⟩,
  ⟨none, none, .store 3 (.t 3) (.t 9)⟩,
  ⟨none, some 4, .mv (.t 10)⟩])
  (.seq (.reg [
  ⟨none, some 11, .iaddrA 3 1 (.t 3) (.k (.int .i64 0))⟩,
  ⟨none, some 12, .load false 1 (.t 11)⟩,
  ⟨none, some 13, .binI .eql (.t 12) (.k (.int .i64 1))⟩,
  ⟨none, some 14, .mv (.t 13)⟩,
  ⟨(some (14, false)), some 15, .iaddrA 3 1 (.t 3) (.k (.int .i64 0))⟩,
  ⟨(some (14, false)), some 16, .load false 1 (.t 15)⟩,
  ⟨(some (14, false)), some 17, .binI .eql (.t 16) (.k (.int .i64 3))⟩,
  ⟨none, some 18, .pick (.t 14) (.k (.bool true)) (.t 17)⟩])
  (.cond (.t 18)
    (.seq (.reg [
    ⟨none, some 19, .faddr 1 (.t 1)⟩,
    ⟨none, some 20, .load false 1 (.t 19)⟩,
    ⟨none, some 2, .mv (.t 20)⟩])
    .ret)
    .skip)))
  (.seq (.reg [
  ⟨none, some 2, .mv (.k (.int .i64 (-1)))⟩])
  .ret)))

theorem w14 {args : List DV} {v : DV} (hn : args.length ≤ 21) (h : DV.okL args → ∀ c : Ctx, c.N = 21 → c.pure → w_ Try.prog c mc14 (endQ [.tmp 2] v) ⟨⟩ ⟨argT 0 args, fun _ => .non, 0⟩) : PCall Try.prog 14 args v :=
  PCall.of_walk Try.func14 rfl (by kernel_rfl) (by kernel_rfl) (by kernel_rfl) hn fun o c e p => W.aw Try.checked.mixed (w_start (h o c e p))

/-- gradus.gradusref18.Sets -/
def mc15 : MC :=
  (.seq (.reg [
  ⟨none, some 1, .boxP (.t 0)⟩,
  ⟨none, some 2, .mv (.k (.int .i64 0))⟩])
  (.seq (.seq (.reg [
  ⟨none, some 3, .faddr 0 (.t 1)⟩,
  ⟨none, some 4, .load false 1 (.t 3)⟩,
  ⟨none, some 5, .binI .lss (.t 4) (.k (.int .i64 0))⟩,
  ⟨none, some 6, .mv (.t 5)⟩,
  ⟨(some (6, false)), some 7, .faddr 0 (.t 1)⟩,
  ⟨(some (6, false)), some 8, .load false 1 (.t 7)⟩,
  ⟨(some (6, false)), some 9, .binI .geq (.t 8) (.k (.int .i64 33))⟩,
  ⟨none, some 10, .pick (.t 6) (.k (.bool true)) (.t 9)⟩,
  ⟨none, some 11, .mv (.t 10)⟩,
  ⟨(some (11, false)), some 12, .faddr 0 (.t 1)⟩,
  ⟨(some (11, false)), some 13, .load false 1 (.t 12)⟩,
  ⟨(some (11, false)), some 14, .binI .eql (.t 13) (.k (.int .i64 23))⟩,
  ⟨none, some 15, .pick (.t 11) (.k (.bool true)) (.t 14)⟩,
  ⟨none, some 16, .mv (.t 15)⟩,
  ⟨(some (16, false)), some 17, .faddr 0 (.t 1)⟩,
  ⟨(some (16, false)), some 18, .load false 1 (.t 17)⟩,
  ⟨(some (16, false)), some 19, .binI .eql (.t 18) (.k (.int .i64 24))⟩,
  ⟨none, some 20, .pick (.t 16) (.k (.bool true)) (.t 19)⟩,
  ⟨none, some 21, .mv (.t 20)⟩,
  ⟨(some (21, false)), some 22, .faddr 0 (.t 1)⟩,
  ⟨(some (21, false)), some 23, .load false 1 (.t 22)⟩,
  ⟨(some (21, false)), some 24, .binI .eql (.t 23) (.k (.int .i64 25))⟩,
  ⟨none, some 25, .pick (.t 21) (.k (.bool true)) (.t 24)⟩])
  (.cond (.t 25)
    (.seq (.reg [
    ⟨none, some 2, .mv (.k (.int .i64 (-1)))⟩])
    .ret)
    .skip))
  (.seq (.reg [
  ⟨none, some 26, .faddr 1 (.t 1)⟩,
  ⟨none, some 27, .load false 1 (.t 26)⟩,
  ⟨none, some 2, .mv (.t 27)⟩])
  .ret)))

theorem w15 {args : List DV} {v : DV} (hn : args.length ≤ 28) (h : DV.okL args → ∀ c : Ctx, c.N = 28 → c.pure → w_ Try.prog c mc15 (endQ [.tmp 2] v) ⟨⟩ ⟨argT 0 args, fun _ => .non, 0⟩) : PCall Try.prog 15 args v :=
  PCall.of_walk Try.func15 rfl (by kernel_rfl) (by kernel_rfl) (by kernel_rfl) hn fun o c e p => W.aw Try.checked.mixed (w_start (h o c e p))

/-- gradus.verify.of -/
def mc28 : MC :=
  (.seq (.reg [
  ⟨none, some 2, .alloc [.int .i64 0, .int .i64 0, .int .i64 0]⟩,
  ⟨none, some 3, .mv (.k (.bool false))⟩])
  (.seq (.seq (.reg [
  ⟨none, some 4, .mv (.t 0)⟩,
  ⟨none, some 5, .binI .lss (.t 4) (.k (.int .i64 0))⟩,
  ⟨none, some 6, .mv (.t 5)⟩,
  ⟨(some (6, false)), some 7, .mv (.t 0)⟩,
  ⟨(some (6, false)), some 8, .binI .geq (.t 7) (.k (.int .i64 33))⟩,
  ⟨none, some 9, .pick (.t 6) (.k (.bool true)) (.t 8)⟩])
  (.cond (.t 9)
    (.seq (.reg [
    ⟨none, some 10, .build [.int .i64 0, .int .i64 0, .int .i64 0] []⟩,
    ⟨none, none, .store 3 (.t 2) (.t 10)⟩,
    ⟨none, some 3, .mv (.k (.bool false))⟩])
    .ret)
    .skip))
  (.seq (.reg [
  ⟨none, some 11, .call 44 []⟩,
  ⟨none, some 12, .mv (.t 0)⟩,
  ⟨none, some 13, .idxA true 33 3 (.t 11) (.t 12)⟩,
  ⟨none, none, .store 3 (.t 2) (.t 13)⟩,
  ⟨none, some 3, .mv (.k (.bool true))⟩])
  .ret)))

theorem w28 {args : List DV} {v : DV} (hn : args.length ≤ 14) (h : DV.okL args → ∀ c : Ctx, c.N = 14 → c.pure → w_ Try.prog c mc28 (endQ [.cell 2 true 3, .tmp 3] v) ⟨⟩ ⟨argT 0 args, fun _ => .non, 0⟩) : PCall Try.prog 28 args v :=
  PCall.of_walk Try.func28 rfl (by kernel_rfl) (by kernel_rfl) (by kernel_rfl) hn fun o c e p => W.aw Try.checked.mixed (w_start (h o c e p))

/-- gradus.verify.sorts -/
def mc44 : MC :=
  (.seq (.reg [
  ⟨none, some 0, .alloc [.int .i64 0, .int .i64 0, .int .i64 0, .int .i64 0, .int .i64 0, .int .i64 0, .int .i64 0, .int .i64 0, .int .i64 0, .int .i64 0, .int .i64 0, .int .i64 0, .int .i64 0, .int .i64 0, .int .i64 0, .int .i64 0, .int .i64 0, .int .i64 0, .int .i64 0, .int .i64 0, .int .i64 0, .int .i64 0, .int .i64 0, .int .i64 0, .int .i64 0, .int .i64 0, .int .i64 0, .int .i64 0, .int .i64 0, .int .i64 0, .int .i64 0, .int .i64 0, .int .i64 0, .int .i64 0, .int .i64 0, .int .i64 0, .int .i64 0, .int .i64 0, .int .i64 0, .int .i64 0, .int .i64 0, .int .i64 0, .int .i64 0, .int .i64 0, .int .i64 0, .int .i64 0, .int .i64 0, .int .i64 0, .int .i64 0, .int .i64 0, .int .i64 0, .int .i64 0, .int .i64 0, .int .i64 0, .int .i64 0, .int .i64 0, .int .i64 0, .int .i64 0, .int .i64 0, .int .i64 0, .int .i64 0, .int .i64 0, .int .i64 0, .int .i64 0, .int .i64 0, .int .i64 0, .int .i64 0, .int .i64 0, .int .i64 0, .int .i64 0, .int .i64 0, .int .i64 0, .int .i64 0, .int .i64 0, .int .i64 0, .int .i64 0, .int .i64 0, .int .i64 0, .int .i64 0, .int .i64 0, .int .i64 0, .int .i64 0, .int .i64 0, .int .i64 0, .int .i64 0, .int .i64 0, .int .i64 0, .int .i64 0, .int .i64 0, .int .i64 0, .int .i64 0, .int .i64 0, .int .i64 0, .int .i64 0, .int .i64 0, .int .i64 0, .int .i64 0, .int .i64 0, .int .i64 0]⟩])
  (.seq (.reg [
  ⟨none, some 3, .build [.int .i64 0, .int .i64 0, .int .i64 0] [(0, 1, (.k (.int .i64 1))), (1, 1, (.k (.int .i64 4)))]⟩,
  ⟨none, some 4, .build [.int .i64 0, .int .i64 0, .int .i64 0] [(0, 1, (.k (.int .i64 1))), (1, 1, (.k (.int .i64 5)))]⟩,
  ⟨none, some 5, .build [.int .i64 0, .int .i64 0, .int .i64 0] [(0, 1, (.k (.int .i64 1))), (1, 1, (.k (.int .i64 6)))]⟩,
  ⟨none, some 6, .build [.int .i64 0, .int .i64 0, .int .i64 0] [(0, 1, (.k (.int .i64 1)))]⟩,
  ⟨none, some 7, .build [.int .i64 0, .int .i64 0, .int .i64 0] [(0, 1, (.k (.int .i64 1))), (1, 1, (.k (.int .i64 2)))]⟩,
  ⟨none, some 8, .build [.int .i64 0, .int .i64 0, .int .i64 0] [(0, 1, (.k (.int .i64 1))), (1, 1, (.k (.int .i64 9)))]⟩,
  ⟨none, some 9, .build [.int .i64 0, .int .i64 0, .int .i64 0] [(0, 1, (.k (.int .i64 1))), (1, 1, (.k (.int .i64 10))), (2, 1, (.k (.int .i64 12)))]⟩,
  ⟨none, some 10, .build [.int .i64 0, .int .i64 0, .int .i64 0] [(0, 1, (.k (.int .i64 1))), (1, 1, (.k (.int .i64 11))), (2, 1, (.k (.int .i64 12)))]⟩,
  ⟨none, some 11, .build [.int .i64 0, .int .i64 0, .int .i64 0] [(0, 1, (.k (.int .i64 1))), (1, 1, (.k (.int .i64 2))), (2, 1, (.k (.int .i64 5)))]⟩,
  ⟨none, some 12, .build [.int .i64 0, .int .i64 0, .int .i64 0] [(0, 1, (.k (.int .i64 3))), (1, 1, (.k (.int .i64 2))), (2, 1, (.k (.int .i64 5)))]⟩,
  ⟨none, some 13, .build [.int .i64 0, .int .i64 0, .int .i64 0] [(0, 1, (.k (.int .i64 1))), (1, 1, (.k (.int .i64 2))), (2, 1, (.k (.int .i64 8)))]⟩,
  ⟨none, some 14, .build [.int .i64 0, .int .i64 0, .int .i64 0] [(0, 1, (.k (.int .i64 1))), (1, 1, (.k (.int .i64 2))), (2, 1, (.k (.int .i64 2)))]⟩,
  ⟨none, some 15, .build [.int .i64 0, .int .i64 0, .int .i64 0] [(0, 1, (.k (.int .i64 2)))]⟩,
  ⟨none, some 16, .build [.int .i64 0, .int .i64 0, .int .i64 0] [(0, 1, (.k (.int .i64 0))), (1, 1, (.k (.int .i64 13)))]⟩,
  ⟨none, some 17, .build [.int .i64 0, .int .i64 0, .int .i64 0] [(0, 1, (.k (.int .i64 2))), (1, 1, (.k (.int .i64 13)))]⟩,
  ⟨none, some 18, .build [.int .i64 0, .int .i64 0, .int .i64 0] [(0, 1, (.k (.int .i64 1))), (1, 1, (.k (.int .i64 2))), (2, 1, (.k (.int .i64 7)))]⟩,
  ⟨none, some 19, .build [.int .i64 0, .int .i64 0, .int .i64 0] [(0, 1, (.k (.int .i64 1))), (1, 1, (.k (.int .i64 2))), (2, 1, (.k (.int .i64 2)))]⟩,
  ⟨none, some 20, .build [.int .i64 0, .int .i64 0, .int .i64 0] [(0, 1, (.k (.int .i64 1))), (1, 1, (.k (.int .i64 2))), (2, 1, (.k (.int .i64 2)))]⟩,
  ⟨none, some 21, .build [.int .i64 0, .int .i64 0, .int .i64 0] [(0, 1, (.k (.int .i64 1))), (1, 1, (.k (.int .i64 2)))]⟩,
  ⟨none, some 22, .build [.int .i64 0, .int .i64 0, .int .i64 0] [(0, 1, (.k (.int .i64 1))), (1, 1, (.k (.int .i64 2)))]⟩,
  ⟨none, some 23, .build [.int .i64 0, .int .i64 0, .int .i64 0] [(0, 1, (.k (.int .i64 1))), (1, 1, (.k (.int .i64 2)))]⟩,
  ⟨none, some 24, .build [.int .i64 0, .int .i64 0, .int .i64 0] [(0, 1, (.k (.int .i64 1)))]⟩,
  ⟨none, some 25, .build [.int .i64 0, .int .i64 0, .int .i64 0, .int .i64 0, .int .i64 0, .int .i64 0, .int .i64 0, .int .i64 0, .int .i64 0, .int .i64 0, .int .i64 0, .int .i64 0, .int .i64 0, .int .i64 0, .int .i64 0, .int .i64 0, .int .i64 0, .int .i64 0, .int .i64 0, .int .i64 0, .int .i64 0, .int .i64 0, .int .i64 0, .int .i64 0, .int .i64 0, .int .i64 0, .int .i64 0, .int .i64 0, .int .i64 0, .int .i64 0, .int .i64 0, .int .i64 0, .int .i64 0, .int .i64 0, .int .i64 0, .int .i64 0, .int .i64 0, .int .i64 0, .int .i64 0, .int .i64 0, .int .i64 0, .int .i64 0, .int .i64 0, .int .i64 0, .int .i64 0, .int .i64 0, .int .i64 0, .int .i64 0, .int .i64 0, .int .i64 0, .int .i64 0, .int .i64 0, .int .i64 0, .int .i64 0, .int .i64 0, .int .i64 0, .int .i64 0, .int .i64 0, .int .i64 0, .int .i64 0, .int .i64 0, .int .i64 0, .int .i64 0, .int .i64 0, .int .i64 0, .int .i64 0, .int .i64 0, .int .i64 0, .int .i64 0, .int .i64 0, .int .i64 0, .int .i64 0, .int .i64 0, .int .i64 0, .int .i64 0, .int .i64 0, .int .i64 0, .int .i64 0, .int .i64 0, .int .i64 0, .int .i64 0, .int .i64 0, .int .i64 0, .int .i64 0, .int .i64 0, .int .i64 0, .int .i64 0, .int .i64 0, .int .i64 0, .int .i64 0, .int .i64 0, .int .i64 0, .int .i64 0, .int .i64 0, .int .i64 0, .int .i64 0, .int .i64 0, .int .i64 0, .int .i64 0] [(33, 3, (.t 3)), (36, 3, (.t 4)), (39, 3, (.t 5)), (42, 3, (.t 6)), (45, 3, (.t 7)), (48, 3, (.t 8)), (51, 3, (.t 9)), (54, 3, (.t 10)), (57, 3, (.t 11)), (60, 3, (.t 12)), (63, 3, (.t 13)), (66, 3, (.t 14)), (69, 3, (.t 15)), (72, 3, (.t 16)), (75, 3, (.t 17)), (78, 3, (.t 18)), (81, 3, (.t 19)), (84, 3, (.t 20)), (87, 3, (.t 21)), (90, 3, (.t 22)), (93, 3, (.t 23)), (96, 3, (.t 24))]⟩,
  ⟨none, some 1, .alloc [.int .i64 0, .int .i64 0, .int .i64 0, .int .i64 0, .int .i64 0, .int .i64 0, .int .i64 0, .int .i64 0, .int .i64 0, .int .i64 0, .int .i64 0, .int .i64 0, .int .i64 0, .int .i64 0, .int .i64 0, .int .i64 0, .int .i64 0, .int .i64 0, .int .i64 0, .int .i64 0, .int .i64 0, .int .i64 0, .int .i64 0, .int .i64 0, .int .i64 0, .int .i64 0, .int .i64 0, .int .i64 0, .int .i64 0, .int .i64 0, .int .i64 0, .int .i64 0, .int .i64 0, .int .i64 0, .int .i64 0, .int .i64 0, .int .i64 0, .int .i64 0, .int .i64 0, .int .i64 0, .int .i64 0, .int .i64 0, .int .i64 0, .int .i64 0, .int .i64 0, .int .i64 0, .int .i64 0, .int .i64 0, .int .i64 0, .int .i64 0, .int .i64 0, .int .i64 0, .int .i64 0, .int .i64 0, .int .i64 0, .int .i64 0, .int .i64 0, .int .i64 0, .int .i64 0, .int .i64 0, .int .i64 0, .int .i64 0, .int .i64 0, .int .i64 0, .int .i64 0, .int .i64 0, .int .i64 0, .int .i64 0, .int .i64 0, .int .i64 0, .int .i64 0, .int .i64 0, .int .i64 0, .int .i64 0, .int .i64 0, .int .i64 0, .int .i64 0, .int .i64 0, .int .i64 0, .int .i64 0, .int .i64 0, .int .i64 0, .int .i64 0, .int .i64 0, .int .i64 0, .int .i64 0, .int .i64 0, .int .i64 0, .int .i64 0, .int .i64 0, .int .i64 0, .int .i64 0, .int .i64 0, .int .i64 0, .int .i64 0, .int .i64 0, .int .i64 0, .int .i64 0, .int .i64 0]⟩,
  ⟨none, none, .store 99 (.t 1) (.t 25)⟩])
  (.seq (.seq (.reg [
  ⟨none, some 26, .mv (.k (.int .i64 0))⟩])
  (.block 0
    (.loop
      (.seq (.reg [
      ⟨none, some 27, .binI .lss (.t 26) (.k (.int .i64 11))⟩])
      (.seq (.cond (.t 27)
        .skip
        (.exit 0))
      (.seq (.block 1
        (.seq (.reg [
        ⟨none, some 28, .mv (.t 26)⟩,
        ⟨none, some 2, .mv (.t 28)⟩])
        (.reg [
        ⟨none, some 29, .mv (.t 2)⟩,
        ⟨none, some 30, .build [.int .i64 0, .int .i64 0, .int .i64 0] [(0, 1, (.k (.int .i64 1))), (1, 1, (.k (.int .i64 2))), (2, 1, (.k (.int .i64 2)))]⟩,
        ⟨none, some 31, .iaddrA 33 3 (.t 1) (.t 29)⟩,
        ⟨none, none, .store 3 (.t 31) (.t 30)⟩])))
      (.reg [
      ⟨none, some 32, .binI .add (.t 26) (.k (.int .i64 1))⟩,
      ⟨none, some 26, .mv (.t 32)⟩])))))))
  (.seq (.reg [
  ⟨none, some 33, .load true 99 (.t 1)⟩,
  ⟨none, none, .store 99 (.t 0) (.t 33)⟩])
  .ret))))

theorem w44 {args : List DV} {v : DV} (hn : args.length ≤ 34) (h : DV.okL args → ∀ c : Ctx, c.N = 34 → c.pure → w_ Try.prog c mc44 (endQ [.cell 0 true 99] v) ⟨⟩ ⟨argT 0 args, fun _ => .non, 0⟩) : PCall Try.prog 44 args v :=
  PCall.of_walk Try.func44 rfl (by kernel_rfl) (by kernel_rfl) (by kernel_rfl) hn fun o c e p => W.aw Try.checked.mixed (w_start (h o c e p))

/-- gradus.verify.many -/
def mc30 : MC :=
  (.seq (.reg [
  ⟨none, some 2, .boxP (.t 0)⟩,
  ⟨none, some 3, .boxP (.t 1)⟩,
  ⟨none, some 4, .mv (.k (.int .i64 0))⟩])
  (.seq (.block 0
    (.seq (.reg [
    ⟨none, some 6, .faddr 0 (.t 3)⟩,
    ⟨none, some 7, .load false 1 (.t 6)⟩,
    ⟨none, some 8, .binI .eql (.t 7) (.k (.int .i64 17))⟩,
    ⟨none, some 9, .mv (.t 8)⟩,
    ⟨(some (9, true)), some 10, .faddr 2 (.t 3)⟩,
    ⟨(some (9, true)), some 11, .load false 1 (.t 10)⟩,
    ⟨(some (9, true)), some 12, .faddr 4 (.t 2)⟩,
    ⟨(some (9, true)), some 13, .load false 1 (.t 12)⟩,
    ⟨(some (9, true)), some 14, .len (.t 13)⟩,
    ⟨(some (9, true)), some 15, .call 18 [(.t 11), (.t 14)]⟩,
    ⟨none, some 16, .pick (.t 9) (.t 15) (.k (.bool false))⟩,
    ⟨none, some 5, .mv (.t 16)⟩])
    (.cond (.t 5)
      (.seq (.reg [
      ⟨none, some 17, .faddr 4 (.t 2)⟩,
      ⟨none, some 18, .load false 1 (.t 17)⟩,
      ⟨none, some 19, .faddr 2 (.t 3)⟩,
      ⟨none, some 20, .load false 1 (.t 19)⟩,
      ⟨none, some 21, .iaddrS 3 (.t 18) (.t 20)⟩,
      ⟨none, some 22, .faddr 0 (.t 21)⟩,
      ⟨none, some 23, .load false 1 (.t 22)⟩,
      ⟨none, some 4, .mv (.t 23)⟩])
      .ret)
      (.seq (.reg [
      ⟨none, some 25, .faddr 0 (.t 3)⟩,
      ⟨none, some 26, .load false 1 (.t 25)⟩,
      ⟨none, some 27, .binI .eql (.t 26) (.k (.int .i64 18))⟩,
      ⟨none, some 28, .mv (.t 27)⟩,
      ⟨(some (28, true)), some 29, .faddr 2 (.t 3)⟩,
      ⟨(some (28, true)), some 30, .load false 1 (.t 29)⟩,
      ⟨(some (28, true)), some 31, .faddr 2 (.t 2)⟩,
      ⟨(some (28, true)), some 32, .load false 1 (.t 31)⟩,
      ⟨(some (28, true)), some 33, .len (.t 32)⟩,
      ⟨(some (28, true)), some 34, .call 18 [(.t 30), (.t 33)]⟩,
      ⟨none, some 35, .pick (.t 28) (.t 34) (.k (.bool false))⟩,
      ⟨none, some 24, .mv (.t 35)⟩])
      (.cond (.t 24)
        (.seq (.reg [
        ⟨none, some 36, .faddr 2 (.t 2)⟩,
        ⟨none, some 37, .load false 1 (.t 36)⟩,
        ⟨none, some 38, .faddr 2 (.t 3)⟩,
        ⟨none, some 39, .load false 1 (.t 38)⟩,
        ⟨none, some 40, .iaddrS 1 (.t 37) (.t 39)⟩,
        ⟨none, some 41, .load false 1 (.t 40)⟩,
        ⟨none, some 42, .len (.t 41)⟩,
        ⟨none, some 4, .mv (.t 42)⟩])
        .ret)
        .skip)))))
  (.seq (.reg [
  ⟨none, some 4, .mv (.k (.int .i64 0))⟩])
  .ret)))

theorem w30 {args : List DV} {v : DV} (hn : args.length ≤ 43) (h : DV.okL args → ∀ c : Ctx, c.N = 43 → c.pure → w_ Try.prog c mc30 (endQ [.tmp 4] v) ⟨⟩ ⟨argT 0 args, fun _ => .non, 0⟩) : PCall Try.prog 30 args v :=
  PCall.of_walk Try.func30 rfl (by kernel_rfl) (by kernel_rfl) (by kernel_rfl) hn fun o c e p => W.aw Try.checked.mixed (w_start (h o c e p))

/-- gradus.gradusref18.row -/
def mc31 : MC :=
  (.seq (.reg [
  ⟨none, some 4, .mv (.k (.sl true 1 []))⟩])
  (.seq (.reg [
  ⟨none, some 5, .mv (.k (.sl true 1 []))⟩])
  (.seq (.seq (.reg [
  ⟨none, some 6, .mv (.k (.int .i64 0))⟩])
  (.block 0
    (.loop
      (.seq (.seq (.reg [
      ⟨none, some 7, .mv (.t 6)⟩,
      ⟨none, some 8, .mv (.t 1)⟩,
      ⟨none, some 9, .binI .lss (.t 7) (.t 8)⟩,
      ⟨none, some 10, .mv (.t 9)⟩,
      ⟨(some (10, true)), some 11, .mv (.t 1)⟩,
      ⟨(some (10, true)), some 12, .binI .leq (.t 11) (.k (.int .i64 256))⟩,
      ⟨none, some 13, .pick (.t 10) (.t 12) (.k (.bool false))⟩])
      (.cond (.t 13)
        .skip
        (.exit 0)))
      (.seq (.block 1
        (.reg [
        ⟨none, some 16, .mv (.t 5)⟩,
        ⟨none, some 17, .mv (.t 0)⟩,
        ⟨none, some 18, .mv (.t 6)⟩,
        ⟨none, some 19, .binI .add (.t 17) (.t 18)⟩,
        ⟨none, some 20, .buildSl 1 [(.t 19)]⟩,
        ⟨none, some 21, .append 1 8 (.t 16) (.t 20)⟩,
        ⟨none, some 5, .mv (.t 21)⟩]))
      (.reg [
      ⟨none, some 14, .mv (.t 6)⟩,
      ⟨none, some 15, .binI .add (.t 14) (.k (.int .i64 1))⟩,
      ⟨none, some 6, .mv (.t 15)⟩]))))))
  (.seq (.reg [
  ⟨none, some 22, .mv (.t 5)⟩,
  ⟨none, some 4, .mv (.t 22)⟩])
  .ret))))

theorem w31 {args : List DV} {v : DV} (hn : args.length ≤ 23) (h : DV.okL args → ∀ c : Ctx, c.N = 23 → c.pure → w_ Try.prog c mc31 (endQ [.tmp 4] v) ⟨⟩ ⟨argT 0 args, fun _ => .non, 0⟩) : PCall Try.prog 31 args v :=
  PCall.of_walk Try.func31 rfl (by kernel_rfl) (by kernel_rfl) (by kernel_rfl) hn fun o c e p => W.aw Try.checked.mixed (w_start (h o c e p))

/-- gradus.gradusref18.caps -/
def mc32 : MC :=
  (.seq (.reg [
  ⟨none, some 2, .boxP (.t 0)⟩,
  ⟨none, some 4, .mv (.k (.int .i64 0))⟩])
  (.seq (.seq (.reg [
  ⟨none, some 5, .mv (.t 1)⟩,
  ⟨none, some 6, .binI .lss (.t 5) (.k (.int .i64 0))⟩,
  ⟨none, some 7, .mv (.t 6)⟩,
  ⟨(some (7, false)), some 8, .mv (.t 1)⟩,
  ⟨(some (7, false)), some 9, .faddr 4 (.t 2)⟩,
  ⟨(some (7, false)), some 10, .load false 1 (.t 9)⟩,
  ⟨(some (7, false)), some 11, .len (.t 10)⟩,
  ⟨(some (7, false)), some 12, .binI .geq (.t 8) (.t 11)⟩,
  ⟨none, some 13, .pick (.t 7) (.k (.bool true)) (.t 12)⟩])
  (.cond (.t 13)
    (.seq (.reg [
    ⟨none, some 4, .mv (.k (.int .i64 (-1)))⟩])
    .ret)
    .skip))
  (.seq (.reg [
  ⟨none, some 14, .faddr 4 (.t 2)⟩,
  ⟨none, some 15, .load false 1 (.t 14)⟩,
  ⟨none, some 16, .mv (.t 1)⟩,
  ⟨none, some 17, .iaddrS 3 (.t 15) (.t 16)⟩,
  ⟨none, some 18, .faddr 0 (.t 17)⟩,
  ⟨none, some 19, .load false 1 (.t 18)⟩,
  ⟨none, some 4, .mv (.t 19)⟩])
  .ret)))

theorem w32 {args : List DV} {v : DV} (hn : args.length ≤ 20) (h : DV.okL args → ∀ c : Ctx, c.N = 20 → c.pure → w_ Try.prog c mc32 (endQ [.tmp 4] v) ⟨⟩ ⟨argT 0 args, fun _ => .non, 0⟩) : PCall Try.prog 32 args v :=
  PCall.of_walk Try.func32 rfl (by kernel_rfl) (by kernel_rfl) (by kernel_rfl) hn fun o c e p => W.aw Try.checked.mixed (w_start (h o c e p))

/-- gradus.gradusref18.fields -/
def mc33 : MC :=
  (.seq (.reg [
  ⟨none, some 2, .boxP (.t 0)⟩,
  ⟨none, some 4, .mv (.k (.int .i64 0))⟩])
  (.seq (.seq (.reg [
  ⟨none, some 5, .mv (.t 1)⟩,
  ⟨none, some 6, .binI .lss (.t 5) (.k (.int .i64 0))⟩,
  ⟨none, some 7, .mv (.t 6)⟩,
  ⟨(some (7, false)), some 8, .mv (.t 1)⟩,
  ⟨(some (7, false)), some 9, .faddr 2 (.t 2)⟩,
  ⟨(some (7, false)), some 10, .load false 1 (.t 9)⟩,
  ⟨(some (7, false)), some 11, .len (.t 10)⟩,
  ⟨(some (7, false)), some 12, .binI .geq (.t 8) (.t 11)⟩,
  ⟨none, some 13, .pick (.t 7) (.k (.bool true)) (.t 12)⟩])
  (.cond (.t 13)
    (.seq (.reg [
    ⟨none, some 4, .mv (.k (.int .i64 (-1)))⟩])
    .ret)
    .skip))
  (.seq (.reg [
  ⟨none, some 14, .faddr 2 (.t 2)⟩,
  ⟨none, some 15, .load false 1 (.t 14)⟩,
  ⟨none, some 16, .mv (.t 1)⟩,
  ⟨none, some 17, .iaddrS 1 (.t 15) (.t 16)⟩,
  ⟨none, some 18, .load false 1 (.t 17)⟩,
  ⟨none, some 19, .len (.t 18)⟩,
  ⟨none, some 4, .mv (.t 19)⟩])
  .ret)))

theorem w33 {args : List DV} {v : DV} (hn : args.length ≤ 20) (h : DV.okL args → ∀ c : Ctx, c.N = 20 → c.pure → w_ Try.prog c mc33 (endQ [.tmp 4] v) ⟨⟩ ⟨argT 0 args, fun _ => .non, 0⟩) : PCall Try.prog 33 args v :=
  PCall.of_walk Try.func33 rfl (by kernel_rfl) (by kernel_rfl) (by kernel_rfl) hn fun o c e p => W.aw Try.checked.mixed (w_start (h o c e p))

/-- gradus.gradusref18.Uses -/
def mc13 : MC :=
  (.seq (.reg [
  ⟨none, some 2, .boxP (.t 0)⟩,
  ⟨none, some 3, .boxP (.t 1)⟩,
  ⟨none, some 4, .mv (.k (.sl true 1 []))⟩])
  (.seq (.seq (.reg [
  ⟨none, some 5, .faddr 0 (.t 3)⟩,
  ⟨none, some 6, .load false 1 (.t 5)⟩,
  ⟨none, some 7, .binI .geq (.t 6) (.k (.int .i64 0))⟩,
  ⟨none, some 8, .mv (.t 7)⟩,
  ⟨(some (8, true)), some 9, .faddr 0 (.t 3)⟩,
  ⟨(some (8, true)), some 10, .load false 1 (.t 9)⟩,
  ⟨(some (8, true)), some 11, .binI .lss (.t 10) (.k (.int .i64 11))⟩,
  ⟨none, some 12, .pick (.t 8) (.t 11) (.k (.bool false))⟩])
  (.cond (.t 12)
    (.seq (.reg [
    ⟨none, some 13, .faddr 2 (.t 3)⟩,
    ⟨none, some 14, .load false 1 (.t 13)⟩,
    ⟨none, some 15, .faddr 3 (.t 3)⟩,
    ⟨none, some 16, .load false 1 (.t 15)⟩,
    ⟨none, some 17, .buildSl 1 [(.t 14), (.t 16)]⟩,
    ⟨none, some 4, .mv (.t 17)⟩])
    .ret)
    .skip))
  (.seq (.seq (.reg [
  ⟨none, some 18, .faddr 0 (.t 3)⟩,
  ⟨none, some 19, .load false 1 (.t 18)⟩])
  (.block 0
    (.seq (.seq (.reg [
    ⟨none, some 21, .binI .eql (.t 19) (.k (.int .i64 15))⟩,
    ⟨none, some 20, .mv (.t 21)⟩])
    (.cond (.t 20)
      .skip
      (.seq (.reg [
      ⟨none, some 22, .binI .eql (.t 19) (.k (.int .i64 19))⟩,
      ⟨none, some 20, .mv (.t 22)⟩])
      (.cond (.t 20)
        .skip
        (.seq (.reg [
        ⟨none, some 23, .binI .eql (.t 19) (.k (.int .i64 21))⟩,
        ⟨none, some 20, .mv (.t 23)⟩])
        (.cond (.t 20)
          .skip
          (.seq (.reg [
          ⟨none, some 24, .binI .eql (.t 19) (.k (.int .i64 26))⟩,
          ⟨none, some 20, .mv (.t 24)⟩])
          (.cond (.t 20)
            .skip
            (.seq (.reg [
            ⟨none, some 25, .binI .eql (.t 19) (.k (.int .i64 29))⟩,
            ⟨none, some 20, .mv (.t 25)⟩])
            (.cond (.t 20)
              .skip
              (.seq (.reg [
              ⟨none, some 26, .binI .eql (.t 19) (.k (.int .i64 30))⟩,
              ⟨none, some 20, .mv (.t 26)⟩])
              (.cond (.t 20)
                .skip
                (.reg [
                ⟨none, some 27, .binI .eql (.t 19) (.k (.int .i64 31))⟩,
                ⟨none, some 20, .mv (.t 27)⟩])))))))))))))
    (.cond (.t 20)
      (.seq (.reg [
      ⟨none, some 28, .faddr 2 (.t 3)⟩,
      ⟨none, some 29, .load false 1 (.t 28)⟩,
      ⟨none, some 30, .buildSl 1 [(.t 29)]⟩,
      ⟨none, some 4, .mv (.t 30)⟩])
      .ret)
      (.seq (.reg [
      ⟨none, some 32, .binI .eql (.t 19) (.k (.int .i64 20))⟩,
      ⟨none, some 31, .mv (.t 32)⟩])
      (.cond (.t 31)
        (.seq (.reg [
        ⟨none, some 33, .faddr 1 (.t 3)⟩,
        ⟨none, some 34, .load false 1 (.t 33)⟩,
        ⟨none, some 35, .faddr 2 (.t 3)⟩,
        ⟨none, some 36, .load false 1 (.t 35)⟩,
        ⟨none, some 37, .buildSl 1 [(.t 34), (.t 36)]⟩,
        ⟨none, some 4, .mv (.t 37)⟩])
        .ret)
        (.seq (.seq (.reg [
        ⟨none, some 39, .binI .eql (.t 19) (.k (.int .i64 22))⟩,
        ⟨none, some 38, .mv (.t 39)⟩])
        (.cond (.t 38)
          .skip
          (.seq (.reg [
          ⟨none, some 40, .binI .eql (.t 19) (.k (.int .i64 27))⟩,
          ⟨none, some 38, .mv (.t 40)⟩])
          (.cond (.t 38)
            .skip
            (.reg [
            ⟨none, some 41, .binI .eql (.t 19) (.k (.int .i64 28))⟩,
            ⟨none, some 38, .mv (.t 41)⟩])))))
        (.cond (.t 38)
          (.seq (.reg [
          ⟨none, some 42, .faddr 2 (.t 3)⟩,
          ⟨none, some 43, .load false 1 (.t 42)⟩,
          ⟨none, some 44, .faddr 3 (.t 3)⟩,
          ⟨none, some 45, .load false 1 (.t 44)⟩,
          ⟨none, some 46, .buildSl 1 [(.t 43), (.t 45)]⟩,
          ⟨none, some 4, .mv (.t 46)⟩])
          .ret)
          (.seq (.seq (.reg [
          ⟨none, some 48, .binI .eql (.t 19) (.k (.int .i64 23))⟩,
          ⟨none, some 47, .mv (.t 48)⟩])
          (.cond (.t 47)
            .skip
            (.reg [
            ⟨none, some 49, .binI .eql (.t 19) (.k (.int .i64 25))⟩,
            ⟨none, some 47, .mv (.t 49)⟩])))
          (.cond (.t 47)
            (.seq (.reg [
            ⟨none, some 50, .faddr 1 (.t 3)⟩,
            ⟨none, some 51, .load false 1 (.t 50)⟩,
            ⟨none, some 52, .buildSl 1 [(.t 51)]⟩,
            ⟨none, some 4, .mv (.t 52)⟩])
            .ret)
            (.seq (.reg [
            ⟨none, some 54, .binI .eql (.t 19) (.k (.int .i64 17))⟩,
            ⟨none, some 53, .mv (.t 54)⟩])
            (.cond (.t 53)
              (.seq (.regd [0, 1, 0, 0, 8, 28, 63, 127] [
              ⟨none, some 55, .faddr 3 (.t 3)⟩,
              ⟨none, some 56, .load false 1 (.t 55)⟩,
              ⟨none, some 57, .load true 7 (.t 2)⟩,
              ⟨none, some 58, .faddr 2 (.t 3)⟩,
              ⟨none, some 59, .load false 1 (.t 58)⟩,
              ⟨none, some 60, .call 32 [(.t 57), (.t 59)]⟩,
              ⟨none, some 61, .call 31 [(.t 56), (.t 60)]⟩,
              ⟨none, some 4, .mv (.t 61)⟩])
              .ret)
              (.seq (.reg [
              ⟨none, some 63, .binI .eql (.t 19) (.k (.int .i64 18))⟩,
              ⟨none, some 62, .mv (.t 63)⟩])
              (.cond (.t 62)
                (.seq (.regd [0, 1, 0, 0, 8, 28, 63, 127] [
                ⟨none, some 64, .faddr 3 (.t 3)⟩,
                ⟨none, some 65, .load false 1 (.t 64)⟩,
                ⟨none, some 66, .load true 7 (.t 2)⟩,
                ⟨none, some 67, .faddr 2 (.t 3)⟩,
                ⟨none, some 68, .load false 1 (.t 67)⟩,
                ⟨none, some 69, .call 33 [(.t 66), (.t 68)]⟩,
                ⟨none, some 70, .call 31 [(.t 65), (.t 69)]⟩,
                ⟨none, some 4, .mv (.t 70)⟩])
                .ret)
                .skip))))))))))))))
  (.seq (.reg [
  ⟨none, some 4, .mv (.k (.sl true 1 []))⟩])
  .ret))))

theorem w13 {args : List DV} {v : DV} (hn : args.length ≤ 71) (h : DV.okL args → ∀ c : Ctx, c.N = 71 → c.pure → w_ Try.prog c mc13 (endQ [.tmp 4] v) ⟨⟩ ⟨argT 0 args, fun _ => .non, 0⟩) : PCall Try.prog 13 args v :=
  PCall.of_walk Try.func13 rfl (by kernel_rfl) (by kernel_rfl) (by kernel_rfl) hn fun o c e p => W.aw Try.checked.mixed (w_start (h o c e p))

/-- gradus.verify.Uses -/
def mc12 : MC :=
  (.seq (.reg [
  ⟨none, some 2, .boxP (.t 0)⟩,
  ⟨none, some 3, .boxP (.t 1)⟩,
  ⟨none, some 4, .mv (.k (.sl true 1 []))⟩])
  (.seq (.reg [
  ⟨none, some 5, .mv (.k (.sl true 1 []))⟩])
  (.seq (.reg [
  ⟨none, some 13, .faddr 0 (.t 3)⟩,
  ⟨none, some 14, .load false 1 (.t 13)⟩,
  ⟨none, some 15, .call 28 [(.t 14)]⟩,
  ⟨none, some 12, .mv (.t 15)⟩,
  ⟨none, some 16, .extract (.t 12) 0⟩,
  ⟨none, some 17, .extract (.t 12) 1⟩,
  ⟨none, some 6, .alloc [.int .i64 0, .int .i64 0, .int .i64 0]⟩,
  ⟨none, none, .store 3 (.t 6) (.t 16)⟩,
  ⟨none, some 7, .mv (.t 17)⟩])
  (.seq (.seq (.reg [
  ⟨none, some 18, .load true 4 (.t 3)⟩,
  ⟨none, some 19, .call 29 [(.t 18)]⟩,
  ⟨none, some 20, .mv (.k (.int .i64 0))⟩])
  (.block 0
    (.loop
      (.seq (.reg [
      ⟨none, some 21, .binI .lss (.t 20) (.k (.int .i64 3))⟩])
      (.seq (.cond (.t 21)
        .skip
        (.exit 0))
      (.seq (.block 1
        (.seq (.reg [
        ⟨none, some 22, .mv (.t 20)⟩,
        ⟨none, some 23, .idxA false 3 1 (.t 19) (.t 20)⟩,
        ⟨none, some 8, .mv (.t 22)⟩,
        ⟨none, some 9, .mv (.t 23)⟩])
        (.seq (.reg [
        ⟨none, some 24, .mv (.t 8)⟩,
        ⟨none, some 25, .iaddrA 3 1 (.t 6) (.t 24)⟩,
        ⟨none, some 26, .load false 1 (.t 25)⟩])
        (.block 2
          (.seq (.seq (.reg [
          ⟨none, some 28, .binI .eql (.t 26) (.k (.int .i64 2))⟩,
          ⟨none, some 27, .mv (.t 28)⟩])
          (.cond (.t 27)
            .skip
            (.reg [
            ⟨none, some 29, .binI .eql (.t 26) (.k (.int .i64 3))⟩,
            ⟨none, some 27, .mv (.t 29)⟩])))
          (.cond (.t 27)
            (.reg [
            ⟨none, some 30, .mv (.t 5)⟩,
            ⟨none, some 31, .mv (.t 9)⟩,
            ⟨none, some 32, .buildSl 1 [(.t 31)]⟩,
            ⟨none, some 33, .append 1 8 (.t 30) (.t 32)⟩,
            ⟨none, some 5, .mv (.t 33)⟩])
            (.seq (.reg [
            ⟨none, some 35, .binI .eql (.t 26) (.k (.int .i64 12))⟩,
            ⟨none, some 34, .mv (.t 35)⟩])
            (.cond (.t 34)
              (.seq (.reg [
              ⟨none, some 36, .load true 7 (.t 2)⟩,
              ⟨none, some 37, .load true 4 (.t 3)⟩,
              ⟨none, some 38, .call 30 [(.t 36), (.t 37)]⟩,
              ⟨none, some 10, .mv (.t 38)⟩])
              (.seq (.reg [
              ⟨none, some 11, .mv (.k (.int .i64 0))⟩])
              (.block 3
                (.loop
                  (.seq (.seq (.reg [
                  ⟨none, some 39, .mv (.t 11)⟩,
                  ⟨none, some 40, .mv (.t 10)⟩,
                  ⟨none, some 41, .binI .lss (.t 39) (.t 40)⟩,
                  ⟨none, some 42, .mv (.t 41)⟩,
                  ⟨(some (42, true)), some 43, .mv (.t 10)⟩,
                  ⟨(some (42, true)), some 44, .binI .leq (.t 43) (.k (.int .i64 256))⟩,
                  ⟨none, some 45, .pick (.t 42) (.t 44) (.k (.bool false))⟩])
                  (.cond (.t 45)
                    .skip
                    (.exit 3)))
                  (.seq (.block 4
                    (.reg [
                    ⟨none, some 48, .mv (.t 5)⟩,
                    ⟨none, some 49, .mv (.t 9)⟩,
                    ⟨none, some 50, .mv (.t 11)⟩,
                    ⟨none, some 51, .binI .add (.t 49) (.t 50)⟩,
                    ⟨none, some 52, .buildSl 1 [(.t 51)]⟩,
                    ⟨none, some 53, .append 1 8 (.t 48) (.t 52)⟩,
                    ⟨none, some 5, .mv (.t 53)⟩]))
                  (.reg [
                  ⟨none, some 46, .mv (.t 11)⟩,
                  ⟨none, some 47, .binI .add (.t 46) (.k (.int .i64 1))⟩,
                  ⟨none, some 11, .mv (.t 47)⟩])))))))
              .skip))))))))
      (.reg [
      ⟨none, some 54, .binI .add (.t 20) (.k (.int .i64 1))⟩,
      ⟨none, some 20, .mv (.t 54)⟩])))))))
  (.seq (.reg [
  ⟨none, some 55, .mv (.t 5)⟩,
  ⟨none, some 4, .mv (.t 55)⟩])
  .ret)))))

theorem w12 {args : List DV} {v : DV} (hn : args.length ≤ 56) (h : DV.okL args → ∀ c : Ctx, c.N = 56 → c.pure → w_ Try.prog c mc12 (endQ [.tmp 4] v) ⟨⟩ ⟨argT 0 args, fun _ => .non, 0⟩) : PCall Try.prog 12 args v :=
  PCall.of_walk Try.func12 rfl (by kernel_rfl) (by kernel_rfl) (by kernel_rfl) hn fun o c e p => W.aw Try.checked.mixed (w_start (h o c e p))

/-- gradus.graduslaw18.weight -/
def mc17 : MC :=
  (.seq (.reg [
  ⟨none, some 2, .boxP (.t 0)⟩,
  ⟨none, some 4, .mv (.k (.int .i64 0))⟩])
  (.seq (.seq (.reg [
  ⟨none, some 7, .faddr 0 (.t 2)⟩,
  ⟨none, some 8, .load false 1 (.t 7)⟩,
  ⟨none, some 9, .len (.t 8)⟩,
  ⟨none, some 10, .binI .gtr (.t 9) (.k (.int .i64 100))⟩,
  ⟨none, some 11, .mv (.t 10)⟩,
  ⟨(some (11, false)), some 12, .faddr 1 (.t 2)⟩,
  ⟨(some (11, false)), some 13, .load false 1 (.t 12)⟩,
  ⟨(some (11, false)), some 14, .len (.t 13)⟩,
  ⟨(some (11, false)), some 15, .binI .gtr (.t 14) (.k (.int .i64 100))⟩,
  ⟨none, some 16, .pick (.t 11) (.k (.bool true)) (.t 15)⟩,
  ⟨none, some 17, .mv (.t 16)⟩,
  ⟨(some (17, false)), some 18, .faddr 2 (.t 2)⟩,
  ⟨(some (17, false)), some 19, .load false 1 (.t 18)⟩,
  ⟨(some (17, false)), some 20, .len (.t 19)⟩,
  ⟨(some (17, false)), some 21, .binI .gtr (.t 20) (.k (.int .i64 100))⟩,
  ⟨none, some 22, .pick (.t 17) (.k (.bool true)) (.t 21)⟩,
  ⟨none, some 23, .mv (.t 22)⟩,
  ⟨(some (23, false)), some 24, .faddr 3 (.t 2)⟩,
  ⟨(some (23, false)), some 25, .load false 1 (.t 24)⟩,
  ⟨(some (23, false)), some 26, .len (.t 25)⟩,
  ⟨(some (23, false)), some 27, .mv (.t 1)⟩,
  ⟨(some (23, false)), some 28, .binI .gtr (.t 26) (.t 27)⟩,
  ⟨none, some 29, .pick (.t 23) (.k (.bool true)) (.t 28)⟩,
  ⟨none, some 30, .mv (.t 29)⟩,
  ⟨(some (30, false)), some 31, .faddr 4 (.t 2)⟩,
  ⟨(some (30, false)), some 32, .load false 1 (.t 31)⟩,
  ⟨(some (30, false)), some 33, .len (.t 32)⟩,
  ⟨(some (30, false)), some 34, .mv (.t 1)⟩,
  ⟨(some (30, false)), some 35, .binI .gtr (.t 33) (.t 34)⟩,
  ⟨none, some 36, .pick (.t 30) (.k (.bool true)) (.t 35)⟩])
  (.cond (.t 36)
    (.seq (.reg [
    ⟨none, some 4, .mv (.k (.int .i64 0))⟩])
    .ret)
    .skip))
  (.seq (.reg [
  ⟨none, some 37, .mv (.t 1)⟩,
  ⟨none, some 38, .binI .sub (.t 37) (.k (.int .i64 1))⟩,
  ⟨none, some 1, .mv (.t 38)⟩])
  (.seq (.seq (.reg [
  ⟨none, some 5, .mv (.k (.int .i64 0))⟩])
  (.block 0
    (.loop
      (.seq (.seq (.reg [
      ⟨none, some 39, .mv (.t 5)⟩,
      ⟨none, some 40, .faddr 3 (.t 2)⟩,
      ⟨none, some 41, .load false 1 (.t 40)⟩,
      ⟨none, some 42, .len (.t 41)⟩,
      ⟨none, some 43, .binI .lss (.t 39) (.t 42)⟩,
      ⟨none, some 44, .mv (.t 43)⟩,
      ⟨(some (44, true)), some 45, .mv (.t 1)⟩,
      ⟨(some (44, true)), some 46, .binI .gtr (.t 45) (.k (.int .i64 0))⟩,
      ⟨none, some 47, .pick (.t 44) (.t 46) (.k (.bool false))⟩])
      (.cond (.t 47)
        .skip
        (.exit 0)))
      (.seq (.block 1
        (.reg [
        ⟨none, some 50, .faddr 3 (.t 2)⟩,
        ⟨none, some 51, .load false 1 (.t 50)⟩,
        ⟨none, some 52, .mv (.t 5)⟩,
        ⟨none, some 53, .iaddrS 5 (.t 51) (.t 52)⟩,
        ⟨none, some 54, .load true 5 (.t 53)⟩,
        ⟨none, some 55, .mv (.t 1)⟩,
        ⟨none, some 56, .call 17 [(.t 54), (.t 55)]⟩,
        ⟨none, some 1, .mv (.t 56)⟩]))
      (.reg [
      ⟨none, some 48, .mv (.t 5)⟩,
      ⟨none, some 49, .binI .add (.t 48) (.k (.int .i64 1))⟩,
      ⟨none, some 5, .mv (.t 49)⟩]))))))
  (.seq (.seq (.reg [
  ⟨none, some 6, .mv (.k (.int .i64 0))⟩])
  (.block 2
    (.loop
      (.seq (.seq (.reg [
      ⟨none, some 57, .mv (.t 6)⟩,
      ⟨none, some 58, .faddr 4 (.t 2)⟩,
      ⟨none, some 59, .load false 1 (.t 58)⟩,
      ⟨none, some 60, .len (.t 59)⟩,
      ⟨none, some 61, .binI .lss (.t 57) (.t 60)⟩,
      ⟨none, some 62, .mv (.t 61)⟩,
      ⟨(some (62, true)), some 63, .mv (.t 1)⟩,
      ⟨(some (62, true)), some 64, .binI .gtr (.t 63) (.k (.int .i64 0))⟩,
      ⟨none, some 65, .pick (.t 62) (.t 64) (.k (.bool false))⟩])
      (.cond (.t 65)
        .skip
        (.exit 2)))
      (.seq (.block 3
        (.reg [
        ⟨none, some 68, .faddr 4 (.t 2)⟩,
        ⟨none, some 69, .load false 1 (.t 68)⟩,
        ⟨none, some 70, .mv (.t 6)⟩,
        ⟨none, some 71, .iaddrS 5 (.t 69) (.t 70)⟩,
        ⟨none, some 72, .load true 5 (.t 71)⟩,
        ⟨none, some 73, .mv (.t 1)⟩,
        ⟨none, some 74, .call 17 [(.t 72), (.t 73)]⟩,
        ⟨none, some 1, .mv (.t 74)⟩]))
      (.reg [
      ⟨none, some 66, .mv (.t 6)⟩,
      ⟨none, some 67, .binI .add (.t 66) (.k (.int .i64 1))⟩,
      ⟨none, some 6, .mv (.t 67)⟩]))))))
  (.seq (.reg [
  ⟨none, some 75, .mv (.t 1)⟩,
  ⟨none, some 4, .mv (.t 75)⟩])
  .ret))))))

theorem w17 {args : List DV} {v : DV} (hn : args.length ≤ 76) (h : DV.okL args → ∀ c : Ctx, c.N = 76 → c.pure → w_ Try.prog c mc17 (endQ [.tmp 4] v) ⟨⟩ ⟨argT 0 args, fun _ => .non, 0⟩) : PCall Try.prog 17 args v :=
  PCall.of_walk Try.func17 rfl (by kernel_rfl) (by kernel_rfl) (by kernel_rfl) hn fun o c e p => W.aw Try.checked.mixed (w_start (h o c e p))

/-- gradus.graduslaw18.Sized -/
def mc9 : MC :=
  (.seq (.reg [
  ⟨none, some 1, .boxP (.t 0)⟩,
  ⟨none, some 2, .mv (.k (.bool false))⟩])
  (.seq (.seq (.reg [
  ⟨none, some 7, .faddr 4 (.t 1)⟩,
  ⟨none, some 8, .load false 1 (.t 7)⟩,
  ⟨none, some 9, .len (.t 8)⟩,
  ⟨none, some 10, .binI .gtr (.t 9) (.k (.int .i64 50))⟩,
  ⟨none, some 11, .mv (.t 10)⟩,
  ⟨(some (11, false)), some 12, .faddr 3 (.t 1)⟩,
  ⟨(some (11, false)), some 13, .load false 1 (.t 12)⟩,
  ⟨(some (11, false)), some 14, .len (.t 13)⟩,
  ⟨(some (11, false)), some 15, .binI .gtr (.t 14) (.k (.int .i64 50))⟩,
  ⟨none, some 16, .pick (.t 11) (.k (.bool true)) (.t 15)⟩,
  ⟨none, some 17, .mv (.t 16)⟩,
  ⟨(some (17, false)), some 18, .faddr 2 (.t 1)⟩,
  ⟨(some (17, false)), some 19, .load false 1 (.t 18)⟩,
  ⟨(some (17, false)), some 20, .len (.t 19)⟩,
  ⟨(some (17, false)), some 21, .binI .gtr (.t 20) (.k (.int .i64 50))⟩,
  ⟨none, some 22, .pick (.t 17) (.k (.bool true)) (.t 21)⟩,
  ⟨none, some 23, .mv (.t 22)⟩,
  ⟨(some (23, false)), some 24, .faddr 0 (.t 1)⟩,
  ⟨(some (23, false)), some 25, .load false 1 (.t 24)⟩,
  ⟨(some (23, false)), some 26, .len (.t 25)⟩,
  ⟨(some (23, false)), some 27, .binI .gtr (.t 26) (.k (.int .i64 10000))⟩,
  ⟨none, some 28, .pick (.t 23) (.k (.bool true)) (.t 27)⟩,
  ⟨none, some 29, .mv (.t 28)⟩,
  ⟨(some (29, false)), some 30, .faddr 1 (.t 1)⟩,
  ⟨(some (29, false)), some 31, .load false 1 (.t 30)⟩,
  ⟨(some (29, false)), some 32, .len (.t 31)⟩,
  ⟨(some (29, false)), some 33, .binI .gtr (.t 32) (.k (.int .i64 10000))⟩,
  ⟨none, some 34, .pick (.t 29) (.k (.bool true)) (.t 33)⟩])
  (.cond (.t 34)
    (.seq (.reg [
    ⟨none, some 2, .mv (.k (.bool false))⟩])
    .ret)
    .skip))
  (.seq (.seq (.reg [
  ⟨none, some 3, .mv (.k (.int .i64 0))⟩])
  (.block 0
    (.loop
      (.seq (.seq (.reg [
      ⟨none, some 35, .mv (.t 3)⟩,
      ⟨none, some 36, .faddr 4 (.t 1)⟩,
      ⟨none, some 37, .load false 1 (.t 36)⟩,
      ⟨none, some 38, .len (.t 37)⟩,
      ⟨none, some 39, .binI .lss (.t 35) (.t 38)⟩])
      (.cond (.t 39)
        .skip
        (.exit 0)))
      (.seq (.block 1
        (.seq (.reg [
        ⟨none, some 42, .faddr 4 (.t 1)⟩,
        ⟨none, some 43, .load false 1 (.t 42)⟩,
        ⟨none, some 44, .mv (.t 3)⟩,
        ⟨none, some 45, .iaddrS 3 (.t 43) (.t 44)⟩,
        ⟨none, some 46, .faddr 2 (.t 45)⟩,
        ⟨none, some 47, .load false 1 (.t 46)⟩,
        ⟨none, some 48, .len (.t 47)⟩,
        ⟨none, some 49, .binI .gtr (.t 48) (.k (.int .i64 300))⟩])
        (.cond (.t 49)
          (.seq (.reg [
          ⟨none, some 2, .mv (.k (.bool false))⟩])
          .ret)
          .skip)))
      (.reg [
      ⟨none, some 40, .mv (.t 3)⟩,
      ⟨none, some 41, .binI .add (.t 40) (.k (.int .i64 1))⟩,
      ⟨none, some 3, .mv (.t 41)⟩]))))))
  (.seq (.reg [
  ⟨none, some 4, .mv (.k (.int .i64 300))⟩])
  (.seq (.seq (.reg [
  ⟨none, some 5, .mv (.k (.int .i64 0))⟩])
  (.block 2
    (.loop
      (.seq (.seq (.reg [
      ⟨none, some 50, .mv (.t 5)⟩,
      ⟨none, some 51, .faddr 3 (.t 1)⟩,
      ⟨none, some 52, .load false 1 (.t 51)⟩,
      ⟨none, some 53, .len (.t 52)⟩,
      ⟨none, some 54, .binI .lss (.t 50) (.t 53)⟩,
      ⟨none, some 55, .mv (.t 54)⟩,
      ⟨(some (55, true)), some 56, .mv (.t 4)⟩,
      ⟨(some (55, true)), some 57, .binI .gtr (.t 56) (.k (.int .i64 0))⟩,
      ⟨none, some 58, .pick (.t 55) (.t 57) (.k (.bool false))⟩])
      (.cond (.t 58)
        .skip
        (.exit 2)))
      (.seq (.block 3
        (.reg [
        ⟨none, some 61, .faddr 3 (.t 1)⟩,
        ⟨none, some 62, .load false 1 (.t 61)⟩,
        ⟨none, some 63, .mv (.t 5)⟩,
        ⟨none, some 64, .iaddrS 5 (.t 62) (.t 63)⟩,
        ⟨none, some 65, .load true 5 (.t 64)⟩,
        ⟨none, some 66, .mv (.t 4)⟩,
        ⟨none, some 67, .call 17 [(.t 65), (.t 66)]⟩,
        ⟨none, some 4, .mv (.t 67)⟩]))
      (.reg [
      ⟨none, some 59, .mv (.t 5)⟩,
      ⟨none, some 60, .binI .add (.t 59) (.k (.int .i64 1))⟩,
      ⟨none, some 5, .mv (.t 60)⟩]))))))
  (.seq (.seq (.reg [
  ⟨none, some 6, .mv (.k (.int .i64 0))⟩])
  (.block 4
    (.loop
      (.seq (.seq (.reg [
      ⟨none, some 68, .mv (.t 6)⟩,
      ⟨none, some 69, .faddr 2 (.t 1)⟩,
      ⟨none, some 70, .load false 1 (.t 69)⟩,
      ⟨none, some 71, .len (.t 70)⟩,
      ⟨none, some 72, .binI .lss (.t 68) (.t 71)⟩])
      (.cond (.t 72)
        .skip
        (.exit 4)))
      (.seq (.block 5
        (.seq (.reg [
        ⟨none, some 75, .faddr 2 (.t 1)⟩,
        ⟨none, some 76, .load false 1 (.t 75)⟩,
        ⟨none, some 77, .mv (.t 6)⟩,
        ⟨none, some 78, .iaddrS 1 (.t 76) (.t 77)⟩,
        ⟨none, some 79, .load false 1 (.t 78)⟩,
        ⟨none, some 80, .len (.t 79)⟩,
        ⟨none, some 81, .binI .gtr (.t 80) (.k (.int .i64 1000))⟩])
        (.cond (.t 81)
          (.seq (.reg [
          ⟨none, some 2, .mv (.k (.bool false))⟩])
          .ret)
          .skip)))
      (.reg [
      ⟨none, some 73, .mv (.t 6)⟩,
      ⟨none, some 74, .binI .add (.t 73) (.k (.int .i64 1))⟩,
      ⟨none, some 6, .mv (.t 74)⟩]))))))
  (.seq (.reg [
  ⟨none, some 82, .mv (.t 4)⟩,
  ⟨none, some 83, .binI .gtr (.t 82) (.k (.int .i64 0))⟩,
  ⟨none, some 2, .mv (.t 83)⟩])
  .ret)))))))

theorem w9 {args : List DV} {v : DV} (hn : args.length ≤ 84) (h : DV.okL args → ∀ c : Ctx, c.N = 84 → c.pure → w_ Try.prog c mc9 (endQ [.tmp 2] v) ⟨⟩ ⟨argT 0 args, fun _ => .non, 0⟩) : PCall Try.prog 9 args v :=
  PCall.of_walk Try.func9 rfl (by kernel_rfl) (by kernel_rfl) (by kernel_rfl) hn fun o c e p => W.aw Try.checked.mixed (w_start (h o c e p))

/-- gradus.graduslaw18.VerifyUses -/
def mc5 : MC :=
  (.seq (.reg [
  ⟨none, some 2, .boxP (.t 0)⟩,
  ⟨none, some 3, .boxP (.t 1)⟩,
  ⟨none, some 4, .mv (.k (.bool false))⟩])
  (.seq (.reg [
  ⟨none, some 10, .call 8 []⟩,
  ⟨none, some 5, .mv (.t 10)⟩])
  (.seq (.reg [
  ⟨none, some 11, .load true 7 (.t 2)⟩,
  ⟨none, some 12, .call 9 [(.t 11)]⟩,
  ⟨none, some 6, .mv (.t 12)⟩])
  (.seq (.seq (.reg [
  ⟨none, some 13, .mv (.t 5)⟩,
  ⟨none, some 14, .not (.t 13)⟩,
  ⟨none, some 15, .mv (.t 14)⟩,
  ⟨(some (15, false)), some 16, .mv (.t 6)⟩,
  ⟨(some (15, false)), some 17, .not (.t 16)⟩,
  ⟨none, some 18, .pick (.t 15) (.k (.bool true)) (.t 17)⟩,
  ⟨none, some 19, .mv (.t 18)⟩,
  ⟨(some (19, false)), some 20, .faddr 3 (.t 3)⟩,
  ⟨(some (19, false)), some 21, .load false 1 (.t 20)⟩,
  ⟨(some (19, false)), some 22, .binI .gtr (.t 21) (.k (.int .i64 1152921504606846976))⟩,
  ⟨none, some 23, .pick (.t 19) (.k (.bool true)) (.t 22)⟩])
  (.cond (.t 23)
    (.seq (.reg [
    ⟨none, some 24, .mv (.t 5)⟩,
    ⟨none, some 4, .mv (.t 24)⟩])
    .ret)
    .skip))
  (.seq (.reg [
  ⟨none, some 25, .load true 7 (.t 2)⟩,
  ⟨none, some 26, .load true 4 (.t 3)⟩,
  ⟨none, some 27, .call 12 [(.t 25), (.t 26)]⟩,
  ⟨none, some 7, .mv (.t 27)⟩])
  (.seq (.reg [
  ⟨none, some 28, .load true 7 (.t 2)⟩,
  ⟨none, some 29, .load true 4 (.t 3)⟩,
  ⟨none, some 30, .call 13 [(.t 28), (.t 29)]⟩,
  ⟨none, some 8, .mv (.t 30)⟩])
  (.seq (.seq (.regd [0, 1, 0, 4, 15, 31, 63, 127, 63, 511, 1023, 2047] [
  ⟨none, some 31, .mv (.t 7)⟩,
  ⟨none, some 32, .len (.t 31)⟩,
  ⟨none, some 33, .mv (.t 8)⟩,
  ⟨none, some 34, .len (.t 33)⟩,
  ⟨none, some 35, .binI .neq (.t 32) (.t 34)⟩,
  ⟨none, some 36, .mv (.t 35)⟩,
  ⟨(some (36, false)), some 37, .load true 4 (.t 3)⟩,
  ⟨(some (36, false)), some 38, .call 14 [(.t 37)]⟩,
  ⟨(some (36, false)), some 39, .load true 4 (.t 3)⟩,
  ⟨(some (36, false)), some 40, .call 15 [(.t 39)]⟩,
  ⟨(some (36, false)), some 41, .binI .neq (.t 38) (.t 40)⟩,
  ⟨none, some 42, .pick (.t 36) (.k (.bool true)) (.t 41)⟩])
  (.cond (.t 42)
    (.seq (.reg [
    ⟨none, some 4, .mv (.k (.bool false))⟩])
    .ret)
    .skip))
  (.seq (.seq (.reg [
  ⟨none, some 9, .mv (.k (.int .i64 0))⟩])
  (.block 0
    (.loop
      (.seq (.seq (.reg [
      ⟨none, some 43, .mv (.t 9)⟩,
      ⟨none, some 44, .mv (.t 7)⟩,
      ⟨none, some 45, .len (.t 44)⟩,
      ⟨none, some 46, .binI .lss (.t 43) (.t 45)⟩])
      (.cond (.t 46)
        .skip
        (.exit 0)))
      (.seq (.block 1
        (.seq (.regd [0, 0, 3, 7, 0, 0, 48, 112, 255] [
        ⟨none, some 49, .mv (.t 7)⟩,
        ⟨none, some 50, .mv (.t 9)⟩,
        ⟨none, some 51, .iaddrS 1 (.t 49) (.t 50)⟩,
        ⟨none, some 52, .load false 1 (.t 51)⟩,
        ⟨none, some 53, .mv (.t 8)⟩,
        ⟨none, some 54, .mv (.t 9)⟩,
        ⟨none, some 55, .iaddrS 1 (.t 53) (.t 54)⟩,
        ⟨none, some 56, .load false 1 (.t 55)⟩,
        ⟨none, some 57, .binI .neq (.t 52) (.t 56)⟩])
        (.cond (.t 57)
          (.seq (.reg [
          ⟨none, some 4, .mv (.k (.bool false))⟩])
          .ret)
          .skip)))
      (.reg [
      ⟨none, some 47, .mv (.t 9)⟩,
      ⟨none, some 48, .binI .add (.t 47) (.k (.int .i64 1))⟩,
      ⟨none, some 9, .mv (.t 48)⟩]))))))
  (.seq (.reg [
  ⟨none, some 4, .mv (.k (.bool true))⟩])
  .ret)))))))))

theorem w5 {args : List DV} {v : DV} (hn : args.length ≤ 58) (h : DV.okL args → ∀ c : Ctx, c.N = 58 → c.pure → w_ Try.prog c mc5 (endQ [.tmp 4] v) ⟨⟩ ⟨argT 0 args, fun _ => .non, 0⟩) : PCall Try.prog 5 args v :=
  PCall.of_walk Try.func5 rfl (by kernel_rfl) (by kernel_rfl) (by kernel_rfl) hn fun o c e p => W.aw Try.checked.mixed (w_start (h o c e p))

/-- gradus.graduslaw18.awake -/
def mc8 : MC :=
  (.seq (.reg [
  ⟨none, some 0, .mv (.k (.bool false))⟩])
  (.seq (.reg [
  ⟨none, some 2, .build [.int .i64 0, .int .i64 0, .int .i64 0, .int .i64 0] [(0, 1, (.k (.int .i64 23)))]⟩,
  ⟨none, some 3, .buildSl 4 [(.t 2)]⟩,
  ⟨none, some 4, .build [.int .i64 0, .int .i64 0, .sl true 4 []] [(1, 1, (.k (.int .i64 1))), (2, 1, (.t 3))]⟩,
  ⟨none, some 1, .alloc [.int .i64 0, .int .i64 0, .sl true 4 []]⟩,
  ⟨none, none, .store 3 (.t 1) (.t 4)⟩])
  (.seq (.reg [
  ⟨none, some 5, .load true 3 (.t 1)⟩,
  ⟨none, some 6, .buildSl 3 [(.t 5)]⟩,
  ⟨none, some 7, .build [.sl true 1 [], .sl true 1 [], .sl true 1 [], .sl true 5 [], .sl true 3 [], .int .i64 0, .bool false] [(4, 1, (.t 6))]⟩,
  ⟨none, some 8, .call 10 [(.t 7)]⟩,
  ⟨none, some 9, .mv (.t 8)⟩,
  ⟨(some (9, true)), some 10, .faddr 2 (.t 1)⟩,
  ⟨(some (9, true)), some 11, .load false 1 (.t 10)⟩,
  ⟨(some (9, true)), some 12, .build [.int .i64 0, .int .i64 0, .sl true 4 []] [(2, 1, (.t 11))]⟩,
  ⟨(some (9, true)), some 13, .buildSl 3 [(.t 12)]⟩,
  ⟨(some (9, true)), some 14, .build [.sl true 1 [], .sl true 1 [], .sl true 1 [], .sl true 5 [], .sl true 3 [], .int .i64 0, .bool false] [(4, 1, (.t 13))]⟩,
  ⟨(some (9, true)), some 15, .call 10 [(.t 14)]⟩,
  ⟨(some (9, true)), some 16, .not (.t 15)⟩,
  ⟨none, some 17, .pick (.t 9) (.t 16) (.k (.bool false))⟩,
  ⟨none, some 18, .mv (.t 17)⟩,
  ⟨(some (18, true)), some 19, .build [.int .i64 0, .int .i64 0, .int .i64 0, .int .i64 0] [(0, 1, (.k (.int .i64 14))), (1, 1, (.k (.int .i64 3)))]⟩,
  ⟨(some (18, true)), some 20, .call 14 [(.t 19)]⟩,
  ⟨(some (18, true)), some 21, .binI .eql (.t 20) (.k (.int .i64 3))⟩,
  ⟨none, some 22, .pick (.t 18) (.t 21) (.k (.bool false))⟩,
  ⟨none, some 23, .mv (.t 22)⟩,
  ⟨(some (23, true)), some 24, .build [.int .i64 0, .int .i64 0, .int .i64 0, .int .i64 0] [(0, 1, (.k (.int .i64 23))), (1, 1, (.k (.int .i64 3)))]⟩,
  ⟨(some (23, true)), some 25, .call 14 [(.t 24)]⟩,
  ⟨(some (23, true)), some 26, .binI .eql (.t 25) (.k (.int .i64 (-1)))⟩,
  ⟨none, some 27, .pick (.t 23) (.t 26) (.k (.bool false))⟩,
  ⟨none, some 0, .mv (.t 27)⟩])
  .ret)))

theorem w8 {args : List DV} {v : DV} (hn : args.length ≤ 28) (h : DV.okL args → ∀ c : Ctx, c.N = 28 → c.pure → w_ Try.prog c mc8 (endQ [.tmp 0] v) ⟨⟩ ⟨argT 0 args, fun _ => .non, 0⟩) : PCall Try.prog 8 args v :=
  PCall.of_walk Try.func8 rfl (by kernel_rfl) (by kernel_rfl) (by kernel_rfl) hn fun o c e p => W.aw Try.checked.mixed (w_start (h o c e p))

/-- gradus.verify.Verify -/
def mc10 : MC :=
  (.seq (.reg [
  ⟨none, some 1, .boxP (.t 0)⟩,
  ⟨none, some 2, .mv (.k (.bool false))⟩])
  (.seq (.seq (.reg [
  ⟨none, some 5, .faddr 4 (.t 1)⟩,
  ⟨none, some 6, .load false 1 (.t 5)⟩,
  ⟨none, some 7, .len (.t 6)⟩,
  ⟨none, some 8, .binI .gtr (.t 7) (.k (.int .i64 4096))⟩,
  ⟨none, some 9, .mv (.t 8)⟩,
  ⟨(some (9, false)), some 10, .faddr 5 (.t 1)⟩,
  ⟨(some (9, false)), some 11, .load false 1 (.t 10)⟩,
  ⟨(some (9, false)), some 12, .faddr 4 (.t 1)⟩,
  ⟨(some (9, false)), some 13, .load false 1 (.t 12)⟩,
  ⟨(some (9, false)), some 14, .len (.t 13)⟩,
  ⟨(some (9, false)), some 15, .call 18 [(.t 11), (.t 14)]⟩,
  ⟨(some (9, false)), some 16, .not (.t 15)⟩,
  ⟨none, some 17, .pick (.t 9) (.k (.bool true)) (.t 16)⟩,
  ⟨none, some 18, .mv (.t 17)⟩,
  ⟨(some (18, false)), some 19, .faddr 4 (.t 1)⟩,
  ⟨(some (18, false)), some 20, .load false 1 (.t 19)⟩,
  ⟨(some (18, false)), some 21, .faddr 5 (.t 1)⟩,
  ⟨(some (18, false)), some 22, .load false 1 (.t 21)⟩,
  ⟨(some (18, false)), some 23, .iaddrS 3 (.t 20) (.t 22)⟩,
  ⟨(some (18, false)), some 24, .faddr 0 (.t 23)⟩,
  ⟨(some (18, false)), some 25, .load false 1 (.t 24)⟩,
  ⟨(some (18, false)), some 26, .binI .neq (.t 25) (.k (.int .i64 0))⟩,
  ⟨none, some 27, .pick (.t 18) (.k (.bool true)) (.t 26)⟩])
  (.cond (.t 27)
    (.seq (.reg [
    ⟨none, some 2, .mv (.k (.bool false))⟩])
    .ret)
    .skip))
  (.seq (.seq (.reg [
  ⟨none, some 28, .faddr 4 (.t 1)⟩,
  ⟨none, some 29, .load false 1 (.t 28)⟩,
  ⟨none, some 30, .len (.t 29)⟩,
  ⟨none, some 31, .mv (.k (.int .i64 0))⟩])
  (.block 0
    (.loop
      (.seq (.reg [
      ⟨none, some 32, .binI .lss (.t 31) (.t 30)⟩])
      (.seq (.cond (.t 32)
        .skip
        (.exit 0))
      (.seq (.block 1
        (.seq (.reg [
        ⟨none, some 33, .iaddrS 3 (.t 29) (.t 31)⟩,
        ⟨none, some 34, .load true 3 (.t 33)⟩,
        ⟨none, some 4, .alloc [.int .i64 0, .int .i64 0, .sl true 4 []]⟩,
        ⟨none, none, .store 3 (.t 4) (.t 34)⟩])
        (.seq (.reg [
        ⟨none, some 35, .load true 7 (.t 1)⟩,
        ⟨none, some 36, .load true 3 (.t 4)⟩,
        ⟨none, some 37, .call 19 [(.t 35), (.t 36)]⟩,
        ⟨none, some 38, .not (.t 37)⟩])
        (.cond (.t 38)
          (.seq (.reg [
          ⟨none, some 2, .mv (.k (.bool false))⟩])
          .ret)
          .skip))))
      (.reg [
      ⟨none, some 39, .binI .add (.t 31) (.k (.int .i64 1))⟩,
      ⟨none, some 31, .mv (.t 39)⟩])))))))
  (.seq (.reg [
  ⟨none, some 40, .faddr 3 (.t 1)⟩,
  ⟨none, some 41, .load false 1 (.t 40)⟩,
  ⟨none, some 42, .call 20 [(.t 41), (.k (.fn (.func 21) []))]⟩,
  ⟨none, some 43, .not (.t 42)⟩,
  ⟨none, some 44, .mv (.t 43)⟩,
  ⟨(some (44, true)), some 45, .faddr 2 (.t 1)⟩,
  ⟨(some (44, true)), some 46, .load false 1 (.t 45)⟩,
  ⟨(some (44, true)), some 47, .call 23 [(.t 46), (.k (.fn (.func 24) []))]⟩,
  ⟨(some (44, true)), some 48, .not (.t 47)⟩,
  ⟨none, some 49, .pick (.t 44) (.t 48) (.k (.bool false))⟩,
  ⟨none, some 2, .mv (.t 49)⟩])
  .ret))))

theorem w10 {args : List DV} {v : DV} (hn : args.length ≤ 50) (h : DV.okL args → ∀ c : Ctx, c.N = 50 → c.pure → w_ Try.prog c mc10 (endQ [.tmp 2] v) ⟨⟩ ⟨argT 0 args, fun _ => .non, 0⟩) : PCall Try.prog 10 args v :=
  PCall.of_walk Try.func10 rfl (by kernel_rfl) (by kernel_rfl) (by kernel_rfl) hn fun o c e p => W.aw Try.checked.mixed (w_start (h o c e p))

/-- gradus.verify.function -/
def mc19 : MC :=
  (.seq (.reg [
  ⟨none, some 2, .boxP (.t 0)⟩,
  ⟨none, some 3, .boxP (.t 1)⟩,
  ⟨none, some 4, .mv (.k (.bool false))⟩])
  (.seq (.reg [
  ⟨none, some 7, .faddr 2 (.t 3)⟩,
  ⟨none, some 8, .load false 1 (.t 7)⟩,
  ⟨none, some 9, .len (.t 8)⟩,
  ⟨none, some 5, .mv (.t 9)⟩])
  (.seq (.seq (.reg [
  ⟨none, some 10, .faddr 0 (.t 3)⟩,
  ⟨none, some 11, .load false 1 (.t 10)⟩,
  ⟨none, some 12, .binI .lss (.t 11) (.k (.int .i64 0))⟩,
  ⟨none, some 13, .mv (.t 12)⟩,
  ⟨(some (13, false)), some 14, .faddr 1 (.t 3)⟩,
  ⟨(some (13, false)), some 15, .load false 1 (.t 14)⟩,
  ⟨(some (13, false)), some 16, .faddr 0 (.t 3)⟩,
  ⟨(some (13, false)), some 17, .load false 1 (.t 16)⟩,
  ⟨(some (13, false)), some 18, .binI .leq (.t 15) (.t 17)⟩,
  ⟨none, some 19, .pick (.t 13) (.k (.bool true)) (.t 18)⟩,
  ⟨none, some 20, .mv (.t 19)⟩,
  ⟨(some (20, false)), some 21, .faddr 1 (.t 3)⟩,
  ⟨(some (20, false)), some 22, .load false 1 (.t 21)⟩,
  ⟨(some (20, false)), some 23, .binI .gtr (.t 22) (.k (.int .i64 256))⟩,
  ⟨none, some 24, .pick (.t 20) (.k (.bool true)) (.t 23)⟩,
  ⟨none, some 25, .mv (.t 24)⟩,
  ⟨(some (25, false)), some 26, .mv (.t 5)⟩,
  ⟨(some (25, false)), some 27, .binI .eql (.t 26) (.k (.int .i64 0))⟩,
  ⟨none, some 28, .pick (.t 25) (.k (.bool true)) (.t 27)⟩,
  ⟨none, some 29, .mv (.t 28)⟩,
  ⟨(some (29, false)), some 30, .mv (.t 5)⟩,
  ⟨(some (29, false)), some 31, .binI .gtr (.t 30) (.k (.int .i64 65536))⟩,
  ⟨none, some 32, .pick (.t 29) (.k (.bool true)) (.t 31)⟩])
  (.cond (.t 32)
    (.seq (.reg [
    ⟨none, some 4, .mv (.k (.bool false))⟩])
    .ret)
    .skip))
  (.seq (.seq (.reg [
  ⟨none, some 33, .faddr 2 (.t 3)⟩,
  ⟨none, some 34, .load false 1 (.t 33)⟩,
  ⟨none, some 35, .mv (.t 5)⟩,
  ⟨none, some 36, .binI .sub (.t 35) (.k (.int .i64 1))⟩,
  ⟨none, some 37, .iaddrS 4 (.t 34) (.t 36)⟩,
  ⟨none, some 38, .faddr 0 (.t 37)⟩,
  ⟨none, some 39, .load false 1 (.t 38)⟩,
  ⟨none, some 6, .mv (.t 39)⟩])
  (.seq (.reg [
  ⟨none, some 40, .mv (.t 6)⟩,
  ⟨none, some 41, .binI .neq (.t 40) (.k (.int .i64 23))⟩,
  ⟨none, some 42, .mv (.t 41)⟩,
  ⟨(some (42, true)), some 43, .mv (.t 6)⟩,
  ⟨(some (42, true)), some 44, .binI .neq (.t 43) (.k (.int .i64 24))⟩,
  ⟨none, some 45, .pick (.t 42) (.t 44) (.k (.bool false))⟩])
  (.cond (.t 45)
    (.seq (.reg [
    ⟨none, some 4, .mv (.k (.bool false))⟩])
    .ret)
    .skip)))
  (.seq (.reg [
  ⟨none, some 46, .faddr 2 (.t 3)⟩,
  ⟨none, some 47, .load false 1 (.t 46)⟩,
  ⟨none, some 48, .mkfn 37 [(.t 2), (.t 3)]⟩,
  ⟨none, some 49, .call 36 [(.t 47), (.t 48)]⟩,
  ⟨none, some 50, .not (.t 49)⟩,
  ⟨none, some 4, .mv (.t 50)⟩])
  .ret)))))

theorem w19 {args : List DV} {v : DV} (hn : args.length ≤ 51) (h : DV.okL args → ∀ c : Ctx, c.N = 51 → c.pure → w_ Try.prog c mc19 (endQ [.tmp 4] v) ⟨⟩ ⟨argT 0 args, fun _ => .non, 0⟩) : PCall Try.prog 19 args v :=
  PCall.of_walk Try.func19 rfl (by kernel_rfl) (by kernel_rfl) (by kernel_rfl) hn fun o c e p => W.aw Try.checked.mixed (w_start (h o c e p))

/-- gradus.verify.rising -/
def mc25 : MC :=
  (.seq (.reg [
  ⟨none, some 2, .mv (.k (.bool false))⟩])
  (.seq (.seq (.reg [
  ⟨none, some 4, .mv (.t 0)⟩,
  ⟨none, some 5, .len (.t 4)⟩,
  ⟨none, some 6, .mv (.k (.int .i64 0))⟩])
  (.block 0
    (.loop
      (.seq (.reg [
      ⟨none, some 7, .binI .lss (.t 6) (.t 5)⟩])
      (.seq (.cond (.t 7)
        .skip
        (.exit 0))
      (.seq (.block 1
        (.seq (.reg [
        ⟨none, some 8, .mv (.t 6)⟩,
        ⟨none, some 3, .mv (.t 8)⟩])
        (.seq (.regd [0, 1, 3, 7, 7, 31, 63, 7, 7, 263, 903, 1927, 4095, 8191] [
        ⟨none, some 9, .mv (.t 3)⟩,
        ⟨none, some 10, .binI .gtr (.t 9) (.k (.int .i64 0))⟩,
        ⟨none, some 11, .mv (.t 10)⟩,
        ⟨(some (11, true)), some 12, .mv (.t 0)⟩,
        ⟨(some (11, true)), some 13, .mv (.t 3)⟩,
        ⟨(some (11, true)), some 14, .iaddrS 1 (.t 12) (.t 13)⟩,
        ⟨(some (11, true)), some 15, .load false 1 (.t 14)⟩,
        ⟨(some (11, true)), some 16, .mv (.t 0)⟩,
        ⟨(some (11, true)), some 17, .mv (.t 3)⟩,
        ⟨(some (11, true)), some 18, .binI .sub (.t 17) (.k (.int .i64 1))⟩,
        ⟨(some (11, true)), some 19, .iaddrS 1 (.t 16) (.t 18)⟩,
        ⟨(some (11, true)), some 20, .load false 1 (.t 19)⟩,
        ⟨(some (11, true)), some 21, .binS .leq (.t 15) (.t 20)⟩,
        ⟨none, some 22, .pick (.t 11) (.t 21) (.k (.bool false))⟩])
        (.cond (.t 22)
          (.seq (.reg [
          ⟨none, some 2, .mv (.k (.bool false))⟩])
          .ret)
          .skip))))
      (.reg [
      ⟨none, some 23, .binI .add (.t 6) (.k (.int .i64 1))⟩,
      ⟨none, some 6, .mv (.t 23)⟩])))))))
  (.seq (.reg [
  ⟨none, some 2, .mv (.k (.bool true))⟩])
  .ret)))

theorem w25 {args : List DV} {v : DV} (hn : args.length ≤ 24) (h : DV.okL args → ∀ c : Ctx, c.N = 24 → c.pure → w_ Try.prog c mc25 (endQ [.tmp 2] v) ⟨⟩ ⟨argT 0 args, fun _ => .non, 0⟩) : PCall Try.prog 25 args v :=
  PCall.of_walk Try.func25 rfl (by kernel_rfl) (by kernel_rfl) (by kernel_rfl) hn fun o c e p => W.aw Try.checked.mixed (w_start (h o c e p))

/-- gradus.verify.instr -/
def mc38 : MC :=
  (.seq (.reg [
  ⟨none, some 3, .boxP (.t 0)⟩,
  ⟨none, some 4, .boxP (.t 1)⟩,
  ⟨none, some 5, .boxP (.t 2)⟩,
  ⟨none, some 6, .mv (.k (.bool false))⟩])
  (.seq (.reg [
  ⟨none, some 12, .faddr 0 (.t 5)⟩,
  ⟨none, some 13, .load false 1 (.t 12)⟩,
  ⟨none, some 14, .call 28 [(.t 13)]⟩,
  ⟨none, some 11, .mv (.t 14)⟩,
  ⟨none, some 15, .extract (.t 11) 0⟩,
  ⟨none, some 16, .extract (.t 11) 1⟩,
  ⟨none, some 7, .alloc [.int .i64 0, .int .i64 0, .int .i64 0]⟩,
  ⟨none, none, .store 3 (.t 7) (.t 15)⟩,
  ⟨none, some 8, .mv (.t 16)⟩])
  (.seq (.seq (.reg [
  ⟨none, some 17, .mv (.t 8)⟩,
  ⟨none, some 18, .not (.t 17)⟩])
  (.cond (.t 18)
    (.seq (.reg [
    ⟨none, some 6, .mv (.k (.bool false))⟩])
    .ret)
    .skip))
  (.seq (.seq (.reg [
  ⟨none, some 19, .load true 4 (.t 5)⟩,
  ⟨none, some 20, .call 29 [(.t 19)]⟩,
  ⟨none, some 21, .mv (.k (.int .i64 0))⟩])
  (.block 0
    (.loop
      (.seq (.reg [
      ⟨none, some 22, .binI .lss (.t 21) (.k (.int .i64 3))⟩])
      (.seq (.cond (.t 22)
        .skip
        (.exit 0))
      (.seq (.block 1
        (.seq (.reg [
        ⟨none, some 23, .mv (.t 21)⟩,
        ⟨none, some 24, .idxA false 3 1 (.t 20) (.t 21)⟩,
        ⟨none, some 9, .mv (.t 23)⟩,
        ⟨none, some 10, .mv (.t 24)⟩])
        (.seq (.regd [0, 0, 0, 0, 8, 24, 0, 127, 255] [
        ⟨none, some 25, .load true 7 (.t 3)⟩,
        ⟨none, some 26, .load true 3 (.t 4)⟩,
        ⟨none, some 27, .load true 4 (.t 5)⟩,
        ⟨none, some 28, .mv (.t 9)⟩,
        ⟨none, some 29, .iaddrA 3 1 (.t 7) (.t 28)⟩,
        ⟨none, some 30, .load false 1 (.t 29)⟩,
        ⟨none, some 31, .mv (.t 10)⟩,
        ⟨none, some 32, .call 48 [(.t 25), (.t 26), (.t 27), (.t 30), (.t 31)]⟩,
        ⟨none, some 33, .not (.t 32)⟩])
        (.cond (.t 33)
          (.seq (.reg [
          ⟨none, some 6, .mv (.k (.bool false))⟩])
          .ret)
          .skip))))
      (.reg [
      ⟨none, some 34, .binI .add (.t 21) (.k (.int .i64 1))⟩,
      ⟨none, some 21, .mv (.t 34)⟩])))))))
  (.seq (.reg [
  ⟨none, some 6, .mv (.k (.bool true))⟩])
  .ret)))))

theorem w38 {args : List DV} {v : DV} (hn : args.length ≤ 35) (h : DV.okL args → ∀ c : Ctx, c.N = 35 → c.pure → w_ Try.prog c mc38 (endQ [.tmp 6] v) ⟨⟩ ⟨argT 0 args, fun _ => .non, 0⟩) : PCall Try.prog 38 args v :=
  PCall.of_walk Try.func38 rfl (by kernel_rfl) (by kernel_rfl) (by kernel_rfl) hn fun o c e p => W.aw Try.checked.mixed (w_start (h o c e p))

/-- gradus.verify.operand -/
def mc48 : MC :=
  (.seq (.reg [
  ⟨none, some 5, .boxP (.t 0)⟩,
  ⟨none, some 6, .boxP (.t 1)⟩,
  ⟨none, some 7, .boxP (.t 2)⟩,
  ⟨none, some 10, .mv (.k (.bool false))⟩])
  (.seq (.seq (.reg [
  ⟨none, some 11, .mv (.t 3)⟩])
  (.block 0
    (.seq (.seq (.reg [
    ⟨none, some 13, .binI .eql (.t 11) (.k (.int .i64 1))⟩,
    ⟨none, some 12, .mv (.t 13)⟩])
    (.cond (.t 12)
      .skip
      (.seq (.reg [
      ⟨none, some 14, .binI .eql (.t 11) (.k (.int .i64 2))⟩,
      ⟨none, some 12, .mv (.t 14)⟩])
      (.cond (.t 12)
        .skip
        (.reg [
        ⟨none, some 15, .binI .eql (.t 11) (.k (.int .i64 3))⟩,
        ⟨none, some 12, .mv (.t 15)⟩])))))
    (.cond (.t 12)
      (.seq (.reg [
      ⟨none, some 16, .mv (.t 4)⟩,
      ⟨none, some 17, .faddr 1 (.t 6)⟩,
      ⟨none, some 18, .load false 1 (.t 17)⟩,
      ⟨none, some 19, .call 18 [(.t 16), (.t 18)]⟩,
      ⟨none, some 10, .mv (.t 19)⟩])
      .ret)
      (.seq (.reg [
      ⟨none, some 21, .binI .eql (.t 11) (.k (.int .i64 4))⟩,
      ⟨none, some 20, .mv (.t 21)⟩])
      (.cond (.t 20)
        (.seq (.reg [
        ⟨none, some 22, .mv (.t 4)⟩,
        ⟨none, some 23, .faddr 0 (.t 5)⟩,
        ⟨none, some 24, .load false 1 (.t 23)⟩,
        ⟨none, some 25, .len (.t 24)⟩,
        ⟨none, some 26, .call 18 [(.t 22), (.t 25)]⟩,
        ⟨none, some 10, .mv (.t 26)⟩])
        .ret)
        (.seq (.reg [
        ⟨none, some 28, .binI .eql (.t 11) (.k (.int .i64 5))⟩,
        ⟨none, some 27, .mv (.t 28)⟩])
        (.cond (.t 27)
          (.seq (.reg [
          ⟨none, some 29, .mv (.t 4)⟩,
          ⟨none, some 30, .faddr 1 (.t 5)⟩,
          ⟨none, some 31, .load false 1 (.t 30)⟩,
          ⟨none, some 32, .len (.t 31)⟩,
          ⟨none, some 33, .call 18 [(.t 29), (.t 32)]⟩,
          ⟨none, some 10, .mv (.t 33)⟩])
          .ret)
          (.seq (.reg [
          ⟨none, some 35, .binI .eql (.t 11) (.k (.int .i64 6))⟩,
          ⟨none, some 34, .mv (.t 35)⟩])
          (.cond (.t 34)
            (.seq (.reg [
            ⟨none, some 36, .mv (.t 4)⟩,
            ⟨none, some 37, .call 18 [(.t 36), (.k (.int .i64 2))]⟩,
            ⟨none, some 10, .mv (.t 37)⟩])
            .ret)
            (.seq (.reg [
            ⟨none, some 39, .binI .eql (.t 11) (.k (.int .i64 7))⟩,
            ⟨none, some 38, .mv (.t 39)⟩])
            (.cond (.t 38)
              (.seq (.reg [
              ⟨none, some 40, .mv (.t 4)⟩,
              ⟨none, some 41, .call 18 [(.t 40), (.k (.int .i64 6))]⟩,
              ⟨none, some 10, .mv (.t 41)⟩])
              .ret)
              (.seq (.reg [
              ⟨none, some 43, .binI .eql (.t 11) (.k (.int .i64 8))⟩,
              ⟨none, some 42, .mv (.t 43)⟩])
              (.cond (.t 42)
                (.seq (.reg [
                ⟨none, some 44, .mv (.t 4)⟩,
                ⟨none, some 45, .faddr 3 (.t 5)⟩,
                ⟨none, some 46, .load false 1 (.t 45)⟩,
                ⟨none, some 47, .len (.t 46)⟩,
                ⟨none, some 48, .call 18 [(.t 44), (.t 47)]⟩,
                ⟨none, some 10, .mv (.t 48)⟩])
                .ret)
                (.seq (.reg [
                ⟨none, some 50, .binI .eql (.t 11) (.k (.int .i64 9))⟩,
                ⟨none, some 49, .mv (.t 50)⟩])
                (.cond (.t 49)
                  (.seq (.reg [
                  ⟨none, some 51, .mv (.t 4)⟩,
                  ⟨none, some 52, .faddr 4 (.t 5)⟩,
                  ⟨none, some 53, .load false 1 (.t 52)⟩,
                  ⟨none, some 54, .len (.t 53)⟩,
                  ⟨none, some 55, .call 18 [(.t 51), (.t 54)]⟩,
                  ⟨none, some 56, .mv (.t 55)⟩,
                  ⟨(some (56, true)), some 57, .faddr 4 (.t 5)⟩,
                  ⟨(some (56, true)), some 58, .load false 1 (.t 57)⟩,
                  ⟨(some (56, true)), some 59, .mv (.t 4)⟩,
                  ⟨(some (56, true)), some 60, .iaddrS 3 (.t 58) (.t 59)⟩,
                  ⟨(some (56, true)), some 61, .faddr 0 (.t 60)⟩,
                  ⟨(some (56, true)), some 62, .load false 1 (.t 61)⟩,
                  ⟨(some (56, true)), some 63, .binI .eql (.t 62) (.k (.int .i64 0))⟩,
                  ⟨none, some 64, .pick (.t 56) (.t 63) (.k (.bool false))⟩,
                  ⟨none, some 10, .mv (.t 64)⟩])
                  .ret)
                  (.seq (.reg [
                  ⟨none, some 66, .binI .eql (.t 11) (.k (.int .i64 10))⟩,
                  ⟨none, some 65, .mv (.t 66)⟩])
                  (.cond (.t 65)
                    (.seq (.reg [
                    ⟨none, some 67, .mv (.t 4)⟩,
                    ⟨none, some 68, .faddr 4 (.t 5)⟩,
                    ⟨none, some 69, .load false 1 (.t 68)⟩,
                    ⟨none, some 70, .len (.t 69)⟩,
                    ⟨none, some 71, .call 18 [(.t 67), (.t 70)]⟩,
                    ⟨none, some 10, .mv (.t 71)⟩])
                    .ret)
                    (.seq (.reg [
                    ⟨none, some 73, .binI .eql (.t 11) (.k (.int .i64 11))⟩,
                    ⟨none, some 72, .mv (.t 73)⟩])
                    (.cond (.t 72)
                      (.seq (.reg [
                      ⟨none, some 74, .mv (.t 4)⟩,
                      ⟨none, some 75, .faddr 2 (.t 5)⟩,
                      ⟨none, some 76, .load false 1 (.t 75)⟩,
                      ⟨none, some 77, .len (.t 76)⟩,
                      ⟨none, some 78, .call 18 [(.t 74), (.t 77)]⟩,
                      ⟨none, some 10, .mv (.t 78)⟩])
                      .ret)
                      (.seq (.reg [
                      ⟨none, some 80, .binI .eql (.t 11) (.k (.int .i64 12))⟩,
                      ⟨none, some 79, .mv (.t 80)⟩])
                      (.cond (.t 79)
                        (.seq (.regd [0, 0, 2, 6, 15, 31, 63, 63, 255, 63, 575, 63, 3647, 8191, 16383, 32767] [
                        ⟨none, some 81, .mv (.t 4)⟩,
                        ⟨none, some 82, .faddr 1 (.t 6)⟩,
                        ⟨none, some 83, .load false 1 (.t 82)⟩,
                        ⟨none, some 84, .binI .add (.t 83) (.k (.int .i64 1))⟩,
                        ⟨none, some 85, .call 18 [(.t 81), (.t 84)]⟩,
                        ⟨none, some 86, .mv (.t 85)⟩,
                        ⟨(some (86, true)), some 87, .load true 7 (.t 5)⟩,
                        ⟨(some (86, true)), some 88, .load true 4 (.t 7)⟩,
                        ⟨(some (86, true)), some 89, .call 30 [(.t 87), (.t 88)]⟩,
                        ⟨(some (86, true)), some 90, .faddr 1 (.t 6)⟩,
                        ⟨(some (86, true)), some 91, .load false 1 (.t 90)⟩,
                        ⟨(some (86, true)), some 92, .mv (.t 4)⟩,
                        ⟨(some (86, true)), some 93, .binI .sub (.t 91) (.t 92)⟩,
                        ⟨(some (86, true)), some 94, .binI .leq (.t 89) (.t 93)⟩,
                        ⟨none, some 95, .pick (.t 86) (.t 94) (.k (.bool false))⟩,
                        ⟨none, some 10, .mv (.t 95)⟩])
                        .ret)
                        (.seq (.reg [
                        ⟨none, some 97, .binI .eql (.t 11) (.k (.int .i64 13))⟩,
                        ⟨none, some 96, .mv (.t 97)⟩])
                        (.cond (.t 96)
                          (.seq (.reg [
                          ⟨none, some 98, .mv (.t 4)⟩,
                          ⟨none, some 99, .faddr 2 (.t 6)⟩,
                          ⟨none, some 100, .load false 1 (.t 99)⟩,
                          ⟨none, some 101, .len (.t 100)⟩,
                          ⟨none, some 102, .call 18 [(.t 98), (.t 101)]⟩,
                          ⟨none, some 10, .mv (.t 102)⟩])
                          .ret)
                          .skip))))))))))))))))))))))))
  (.seq (.reg [
  ⟨none, some 10, .mv (.k (.bool true))⟩])
  .ret)))

theorem w48 {args : List DV} {v : DV} (hn : args.length ≤ 103) (h : DV.okL args → ∀ c : Ctx, c.N = 103 → c.pure → w_ Try.prog c mc48 (endQ [.tmp 10] v) ⟨⟩ ⟨argT 0 args, fun _ => .non, 0⟩) : PCall Try.prog 48 args v :=
  PCall.of_walk Try.func48 rfl (by kernel_rfl) (by kernel_rfl) (by kernel_rfl) hn fun o c e p => W.aw Try.checked.mixed (w_start (h o c e p))

/-- gradus.verify.function$1 -/
def mc37 : MC :=
  (.seq (.reg [
  ⟨none, some 3, .boxP (.t 0)⟩,
  ⟨none, some 4, .mv (.k (.bool false))⟩])
  (.seq (.reg [
  ⟨none, some 5, .load true 7 (.t 1)⟩,
  ⟨none, some 6, .load true 3 (.t 2)⟩,
  ⟨none, some 7, .load true 4 (.t 3)⟩,
  ⟨none, some 8, .call 38 [(.t 5), (.t 6), (.t 7)]⟩,
  ⟨none, some 9, .not (.t 8)⟩,
  ⟨none, some 4, .mv (.t 9)⟩])
  .ret))

theorem w37 {args : List DV} {v : DV} (hn : args.length ≤ 10) (h : DV.okL args → ∀ c : Ctx, c.N = 10 → c.pure → w_ Try.prog c mc37 (endQ [.tmp 4] v) ⟨⟩ ⟨argT 0 args, fun _ => .non, 0⟩) : PCall Try.prog 37 args v :=
  PCall.of_walk Try.func37 rfl (by kernel_rfl) (by kernel_rfl) (by kernel_rfl) hn fun o c e p => W.aw Try.checked.mixed (w_start (h o c e p))

/-- slices.IndexFunc[[]gradus.api.Instr,gradus.api.Instr] -/
def mc47 : MC :=
  (.seq (.reg [
  ⟨none, some 4, .mv (.k (.int .i64 0))⟩])
  (.seq (.seq (.reg [
  ⟨none, some 6, .mv (.t 0)⟩,
  ⟨none, some 7, .len (.t 6)⟩,
  ⟨none, some 8, .mv (.k (.int .i64 0))⟩])
  (.block 0
    (.loop
      (.seq (.reg [
      ⟨none, some 9, .binI .lss (.t 8) (.t 7)⟩])
      (.seq (.cond (.t 9)
        .skip
        (.exit 0))
      (.seq (.block 1
        (.seq (.reg [
        ⟨none, some 10, .mv (.t 8)⟩,
        ⟨none, some 5, .mv (.t 10)⟩])
        (.seq (.reg [
        ⟨none, some 11, .mv (.t 1)⟩,
        ⟨none, some 12, .mv (.t 0)⟩,
        ⟨none, some 13, .mv (.t 5)⟩,
        ⟨none, some 14, .iaddrS 4 (.t 12) (.t 13)⟩,
        ⟨none, some 15, .load true 4 (.t 14)⟩,
        ⟨none, some 16, .calld (.t 11) [(.t 15)]⟩])
        (.cond (.t 16)
          (.seq (.reg [
          ⟨none, some 17, .mv (.t 5)⟩,
          ⟨none, some 4, .mv (.t 17)⟩])
          .ret)
          .skip))))
      (.reg [
      ⟨none, some 18, .binI .add (.t 8) (.k (.int .i64 1))⟩,
      ⟨none, some 8, .mv (.t 18)⟩])))))))
  (.seq (.reg [
  ⟨none, some 4, .mv (.k (.int .i64 (-1)))⟩])
  .ret)))

theorem w47 {args : List DV} {v : DV} (hn : args.length ≤ 19) (h : DV.okL args → ∀ c : Ctx, c.N = 19 → c.pure → w_ Try.prog c mc47 (endQ [.tmp 4] v) ⟨⟩ ⟨argT 0 args, fun _ => .non, 0⟩) : PCall Try.prog 47 args v :=
  PCall.of_walk Try.func47 rfl (by kernel_rfl) (by kernel_rfl) (by kernel_rfl) hn fun o c e p => W.aw Try.checked.mixed (w_start (h o c e p))

/-- slices.ContainsFunc[[]gradus.api.Instr,gradus.api.Instr] -/
def mc36 : MC :=
  (.seq (.reg [
  ⟨none, some 4, .mv (.k (.bool false))⟩])
  (.seq (.reg [
  ⟨none, some 5, .mv (.t 0)⟩,
  ⟨none, some 6, .mv (.t 1)⟩,
  ⟨none, some 7, .call 47 [(.t 5), (.t 6)]⟩,
  ⟨none, some 8, .binI .geq (.t 7) (.k (.int .i64 0))⟩,
  ⟨none, some 4, .mv (.t 8)⟩])
  .ret))

theorem w36 {args : List DV} {v : DV} (hn : args.length ≤ 9) (h : DV.okL args → ∀ c : Ctx, c.N = 9 → c.pure → w_ Try.prog c mc36 (endQ [.tmp 4] v) ⟨⟩ ⟨argT 0 args, fun _ => .non, 0⟩) : PCall Try.prog 36 args v :=
  PCall.of_walk Try.func36 rfl (by kernel_rfl) (by kernel_rfl) (by kernel_rfl) hn fun o c e p => W.aw Try.checked.mixed (w_start (h o c e p))

/-- slices.ContainsFunc[[]gradus.api.Co,gradus.api.Co] -/
def mc20 : MC :=
  (.seq (.reg [
  ⟨none, some 4, .mv (.k (.bool false))⟩])
  (.seq (.reg [
  ⟨none, some 5, .mv (.t 0)⟩,
  ⟨none, some 6, .mv (.t 1)⟩,
  ⟨none, some 7, .call 39 [(.t 5), (.t 6)]⟩,
  ⟨none, some 8, .binI .geq (.t 7) (.k (.int .i64 0))⟩,
  ⟨none, some 4, .mv (.t 8)⟩])
  .ret))

theorem w20 {args : List DV} {v : DV} (hn : args.length ≤ 9) (h : DV.okL args → ∀ c : Ctx, c.N = 9 → c.pure → w_ Try.prog c mc20 (endQ [.tmp 4] v) ⟨⟩ ⟨argT 0 args, fun _ => .non, 0⟩) : PCall Try.prog 20 args v :=
  PCall.of_walk Try.func20 rfl (by kernel_rfl) (by kernel_rfl) (by kernel_rfl) hn fun o c e p => W.aw Try.checked.mixed (w_start (h o c e p))

/-- slices.IndexFunc[[]gradus.api.Co,gradus.api.Co] -/
def mc39 : MC :=
  (.seq (.reg [
  ⟨none, some 4, .mv (.k (.int .i64 0))⟩])
  (.seq (.seq (.reg [
  ⟨none, some 6, .mv (.t 0)⟩,
  ⟨none, some 7, .len (.t 6)⟩,
  ⟨none, some 8, .mv (.k (.int .i64 0))⟩])
  (.block 0
    (.loop
      (.seq (.reg [
      ⟨none, some 9, .binI .lss (.t 8) (.t 7)⟩])
      (.seq (.cond (.t 9)
        .skip
        (.exit 0))
      (.seq (.block 1
        (.seq (.reg [
        ⟨none, some 10, .mv (.t 8)⟩,
        ⟨none, some 5, .mv (.t 10)⟩])
        (.seq (.reg [
        ⟨none, some 11, .mv (.t 1)⟩,
        ⟨none, some 12, .mv (.t 0)⟩,
        ⟨none, some 13, .mv (.t 5)⟩,
        ⟨none, some 14, .iaddrS 5 (.t 12) (.t 13)⟩,
        ⟨none, some 15, .load true 5 (.t 14)⟩,
        ⟨none, some 16, .calld (.t 11) [(.t 15)]⟩])
        (.cond (.t 16)
          (.seq (.reg [
          ⟨none, some 17, .mv (.t 5)⟩,
          ⟨none, some 4, .mv (.t 17)⟩])
          .ret)
          .skip))))
      (.reg [
      ⟨none, some 18, .binI .add (.t 8) (.k (.int .i64 1))⟩,
      ⟨none, some 8, .mv (.t 18)⟩])))))))
  (.seq (.reg [
  ⟨none, some 4, .mv (.k (.int .i64 (-1)))⟩])
  .ret)))

theorem w39 {args : List DV} {v : DV} (hn : args.length ≤ 19) (h : DV.okL args → ∀ c : Ctx, c.N = 19 → c.pure → w_ Try.prog c mc39 (endQ [.tmp 4] v) ⟨⟩ ⟨argT 0 args, fun _ => .non, 0⟩) : PCall Try.prog 39 args v :=
  PCall.of_walk Try.func39 rfl (by kernel_rfl) (by kernel_rfl) (by kernel_rfl) hn fun o c e p => W.aw Try.checked.mixed (w_start (h o c e p))

/-- slices.ContainsFunc[[][]string,[]string] -/
def mc23 : MC :=
  (.seq (.reg [
  ⟨none, some 4, .mv (.k (.bool false))⟩])
  (.seq (.reg [
  ⟨none, some 5, .mv (.t 0)⟩,
  ⟨none, some 6, .mv (.t 1)⟩,
  ⟨none, some 7, .call 42 [(.t 5), (.t 6)]⟩,
  ⟨none, some 8, .binI .geq (.t 7) (.k (.int .i64 0))⟩,
  ⟨none, some 4, .mv (.t 8)⟩])
  .ret))

theorem w23 {args : List DV} {v : DV} (hn : args.length ≤ 9) (h : DV.okL args → ∀ c : Ctx, c.N = 9 → c.pure → w_ Try.prog c mc23 (endQ [.tmp 4] v) ⟨⟩ ⟨argT 0 args, fun _ => .non, 0⟩) : PCall Try.prog 23 args v :=
  PCall.of_walk Try.func23 rfl (by kernel_rfl) (by kernel_rfl) (by kernel_rfl) hn fun o c e p => W.aw Try.checked.mixed (w_start (h o c e p))

/-- slices.IndexFunc[[][]string,[]string] -/
def mc42 : MC :=
  (.seq (.reg [
  ⟨none, some 4, .mv (.k (.int .i64 0))⟩])
  (.seq (.seq (.reg [
  ⟨none, some 6, .mv (.t 0)⟩,
  ⟨none, some 7, .len (.t 6)⟩,
  ⟨none, some 8, .mv (.k (.int .i64 0))⟩])
  (.block 0
    (.loop
      (.seq (.reg [
      ⟨none, some 9, .binI .lss (.t 8) (.t 7)⟩])
      (.seq (.cond (.t 9)
        .skip
        (.exit 0))
      (.seq (.block 1
        (.seq (.reg [
        ⟨none, some 10, .mv (.t 8)⟩,
        ⟨none, some 5, .mv (.t 10)⟩])
        (.seq (.reg [
        ⟨none, some 11, .mv (.t 1)⟩,
        ⟨none, some 12, .mv (.t 0)⟩,
        ⟨none, some 13, .mv (.t 5)⟩,
        ⟨none, some 14, .iaddrS 1 (.t 12) (.t 13)⟩,
        ⟨none, some 15, .load false 1 (.t 14)⟩,
        ⟨none, some 16, .calld (.t 11) [(.t 15)]⟩])
        (.cond (.t 16)
          (.seq (.reg [
          ⟨none, some 17, .mv (.t 5)⟩,
          ⟨none, some 4, .mv (.t 17)⟩])
          .ret)
          .skip))))
      (.reg [
      ⟨none, some 18, .binI .add (.t 8) (.k (.int .i64 1))⟩,
      ⟨none, some 8, .mv (.t 18)⟩])))))))
  (.seq (.reg [
  ⟨none, some 4, .mv (.k (.int .i64 (-1)))⟩])
  .ret)))

theorem w42 {args : List DV} {v : DV} (hn : args.length ≤ 19) (h : DV.okL args → ∀ c : Ctx, c.N = 19 → c.pure → w_ Try.prog c mc42 (endQ [.tmp 4] v) ⟨⟩ ⟨argT 0 args, fun _ => .non, 0⟩) : PCall Try.prog 42 args v :=
  PCall.of_walk Try.func42 rfl (by kernel_rfl) (by kernel_rfl) (by kernel_rfl) hn fun o c e p => W.aw Try.checked.mixed (w_start (h o c e p))

/-- gradus.verify.Verify$1 -/
def mc21 : MC :=
  (.seq (.reg [
  ⟨none, some 1, .boxP (.t 0)⟩,
  ⟨none, some 2, .mv (.k (.bool false))⟩])
  (.seq (.reg [
  ⟨none, some 3, .load true 5 (.t 1)⟩,
  ⟨none, some 4, .call 22 [(.t 3)]⟩,
  ⟨none, some 5, .not (.t 4)⟩,
  ⟨none, some 2, .mv (.t 5)⟩])
  .ret))

theorem w21 {args : List DV} {v : DV} (hn : args.length ≤ 6) (h : DV.okL args → ∀ c : Ctx, c.N = 6 → c.pure → w_ Try.prog c mc21 (endQ [.tmp 2] v) ⟨⟩ ⟨argT 0 args, fun _ => .non, 0⟩) : PCall Try.prog 21 args v :=
  PCall.of_walk Try.func21 rfl (by kernel_rfl) (by kernel_rfl) (by kernel_rfl) hn fun o c e p => W.aw Try.checked.mixed (w_start (h o c e p))

/-- gradus.verify.Verify$2 -/
def mc24 : MC :=
  (.seq (.reg [
  ⟨none, some 2, .mv (.k (.bool false))⟩])
  (.seq (.reg [
  ⟨none, some 3, .mv (.t 0)⟩,
  ⟨none, some 4, .call 25 [(.t 3)]⟩,
  ⟨none, some 5, .not (.t 4)⟩,
  ⟨none, some 2, .mv (.t 5)⟩])
  .ret))

theorem w24 {args : List DV} {v : DV} (hn : args.length ≤ 6) (h : DV.okL args → ∀ c : Ctx, c.N = 6 → c.pure → w_ Try.prog c mc24 (endQ [.tmp 2] v) ⟨⟩ ⟨argT 0 args, fun _ => .non, 0⟩) : PCall Try.prog 24 args v :=
  PCall.of_walk Try.func24 rfl (by kernel_rfl) (by kernel_rfl) (by kernel_rfl) hn fun o c e p => W.aw Try.checked.mixed (w_start (h o c e p))

/-- gradus.graduslaw18.VerifyCodes -/
def mc3 : MC :=
  (.seq (.reg [
  ⟨none, some 1, .boxP (.t 0)⟩,
  ⟨none, some 2, .mv (.k (.bool false))⟩])
  (.seq (.reg [
  ⟨none, some 5, .call 8 []⟩,
  ⟨none, some 3, .mv (.t 5)⟩])
  (.seq (.reg [
  ⟨none, some 6, .load true 7 (.t 1)⟩,
  ⟨none, some 7, .call 9 [(.t 6)]⟩,
  ⟨none, some 4, .mv (.t 7)⟩])
  (.seq (.seq (.reg [
  ⟨none, some 8, .mv (.t 3)⟩,
  ⟨none, some 9, .not (.t 8)⟩,
  ⟨none, some 10, .mv (.t 9)⟩,
  ⟨(some (10, false)), some 11, .mv (.t 4)⟩,
  ⟨(some (10, false)), some 12, .not (.t 11)⟩,
  ⟨none, some 13, .pick (.t 10) (.k (.bool true)) (.t 12)⟩])
  (.cond (.t 13)
    (.seq (.reg [
    ⟨none, some 14, .mv (.t 3)⟩,
    ⟨none, some 2, .mv (.t 14)⟩])
    .ret)
    .skip))
  (.seq (.regd [0, 1, 0, 7, 15, 31] [
  ⟨none, some 15, .load true 7 (.t 1)⟩,
  ⟨none, some 16, .call 10 [(.t 15)]⟩,
  ⟨none, some 17, .load true 7 (.t 1)⟩,
  ⟨none, some 18, .call 11 [(.t 17)]⟩,
  ⟨none, some 19, .binB .eql (.t 16) (.t 18)⟩,
  ⟨none, some 2, .mv (.t 19)⟩])
  .ret)))))

theorem w3 {args : List DV} {v : DV} (hn : args.length ≤ 20) (h : DV.okL args → ∀ c : Ctx, c.N = 20 → c.pure → w_ Try.prog c mc3 (endQ [.tmp 2] v) ⟨⟩ ⟨argT 0 args, fun _ => .non, 0⟩) : PCall Try.prog 3 args v :=
  PCall.of_walk Try.func3 rfl (by kernel_rfl) (by kernel_rfl) (by kernel_rfl) hn fun o c e p => W.aw Try.checked.mixed (w_start (h o c e p))

/-- gradus.graduslaw18.VerifyOne -/
def mc7 : MC :=
  (.seq (.reg [
  ⟨none, some 2, .boxP (.t 0)⟩,
  ⟨none, some 3, .boxP (.t 1)⟩,
  ⟨none, some 4, .mv (.k (.bool false))⟩])
  (.seq (.reg [
  ⟨none, some 16, .call 8 []⟩,
  ⟨none, some 5, .mv (.t 16)⟩])
  (.seq (.reg [
  ⟨none, some 17, .load true 7 (.t 2)⟩,
  ⟨none, some 18, .call 9 [(.t 17)]⟩,
  ⟨none, some 6, .mv (.t 18)⟩])
  (.seq (.seq (.reg [
  ⟨none, some 19, .mv (.t 5)⟩,
  ⟨none, some 20, .not (.t 19)⟩,
  ⟨none, some 21, .mv (.t 20)⟩,
  ⟨(some (21, false)), some 22, .mv (.t 6)⟩,
  ⟨(some (21, false)), some 23, .not (.t 22)⟩,
  ⟨none, some 24, .pick (.t 21) (.k (.bool true)) (.t 23)⟩,
  ⟨none, some 25, .mv (.t 24)⟩,
  ⟨(some (25, false)), some 26, .load true 7 (.t 2)⟩,
  ⟨(some (25, false)), some 27, .call 10 [(.t 26)]⟩,
  ⟨(some (25, false)), some 28, .not (.t 27)⟩,
  ⟨none, some 29, .pick (.t 25) (.k (.bool true)) (.t 28)⟩])
  (.cond (.t 29)
    (.seq (.reg [
    ⟨none, some 30, .mv (.t 5)⟩,
    ⟨none, some 4, .mv (.t 30)⟩])
    .ret)
    .skip))
  (.seq (.reg [
  ⟨none, some 31, .faddr 4 (.t 2)⟩,
  ⟨none, some 32, .load false 1 (.t 31)⟩,
  ⟨none, some 33, .faddr 5 (.t 2)⟩,
  ⟨none, some 34, .load false 1 (.t 33)⟩,
  ⟨none, some 35, .iaddrS 3 (.t 32) (.t 34)⟩,
  ⟨none, some 36, .load true 3 (.t 35)⟩,
  ⟨none, some 7, .alloc [.int .i64 0, .int .i64 0, .sl true 4 []]⟩,
  ⟨none, none, .store 3 (.t 7) (.t 36)⟩])
  (.seq (.reg [
  ⟨none, some 37, .faddr 2 (.t 7)⟩,
  ⟨none, some 38, .load false 1 (.t 37)⟩,
  ⟨none, some 39, .len (.t 38)⟩,
  ⟨none, some 40, .binI .sub (.t 39) (.k (.int .i64 1))⟩,
  ⟨none, some 8, .mv (.t 40)⟩])
  (.seq (.reg [
  ⟨none, some 41, .load true 3 (.t 7)⟩,
  ⟨none, some 9, .alloc [.int .i64 0, .int .i64 0, .sl true 4 []]⟩,
  ⟨none, none, .store 3 (.t 9) (.t 41)⟩])
  (.seq (.regd [0, 1, 0, 7, 15, 0, 32, 127, 255, 511] [
  ⟨none, some 42, .faddr 2 (.t 7)⟩,
  ⟨none, some 43, .load false 1 (.t 42)⟩,
  ⟨none, some 44, .mv (.t 8)⟩,
  ⟨none, some 45, .slice 4 (.t 43) none (some (.t 44))⟩,
  ⟨none, some 46, .append 4 32 (.k (.sl true 4 [])) (.t 45)⟩,
  ⟨none, some 47, .load true 4 (.t 3)⟩,
  ⟨none, some 48, .buildSl 4 [(.t 47)]⟩,
  ⟨none, some 49, .append 4 32 (.t 46) (.t 48)⟩,
  ⟨none, some 50, .faddr 2 (.t 9)⟩,
  ⟨none, none, .store 1 (.t 50) (.t 49)⟩])
  (.seq (.regd [0, 1, 0, 4, 0, 28, 60, 124, 255, 511, 1023] [
  ⟨none, some 51, .faddr 2 (.t 9)⟩,
  ⟨none, some 52, .load false 1 (.t 51)⟩,
  ⟨none, some 53, .faddr 2 (.t 7)⟩,
  ⟨none, some 54, .load false 1 (.t 53)⟩,
  ⟨none, some 55, .mv (.t 8)⟩,
  ⟨none, some 56, .iaddrS 4 (.t 54) (.t 55)⟩,
  ⟨none, some 57, .load true 4 (.t 56)⟩,
  ⟨none, some 58, .buildSl 4 [(.t 57)]⟩,
  ⟨none, some 59, .append 4 32 (.t 52) (.t 58)⟩,
  ⟨none, some 60, .faddr 2 (.t 9)⟩,
  ⟨none, none, .store 1 (.t 60) (.t 59)⟩])
  (.seq (.reg [
  ⟨none, some 61, .load true 7 (.t 2)⟩,
  ⟨none, some 10, .alloc [.sl true 1 [], .sl true 1 [], .sl true 1 [], .sl true 5 [], .sl true 3 [], .int .i64 0, .bool false]⟩,
  ⟨none, none, .store 7 (.t 10) (.t 61)⟩])
  (.seq (.reg [
  ⟨none, some 62, .faddr 4 (.t 2)⟩,
  ⟨none, some 63, .load false 1 (.t 62)⟩,
  ⟨none, some 64, .append 3 40 (.k (.sl true 3 [])) (.t 63)⟩,
  ⟨none, some 65, .faddr 4 (.t 10)⟩,
  ⟨none, none, .store 1 (.t 65) (.t 64)⟩])
  (.seq (.reg [
  ⟨none, some 66, .faddr 4 (.t 10)⟩,
  ⟨none, some 67, .load false 1 (.t 66)⟩,
  ⟨none, some 68, .faddr 5 (.t 2)⟩,
  ⟨none, some 69, .load false 1 (.t 68)⟩,
  ⟨none, some 70, .load true 3 (.t 9)⟩,
  ⟨none, some 71, .iaddrS 3 (.t 67) (.t 69)⟩,
  ⟨none, none, .store 3 (.t 71) (.t 70)⟩])
  (.seq (.reg [
  ⟨none, some 72, .load true 7 (.t 10)⟩,
  ⟨none, some 73, .call 10 [(.t 72)]⟩,
  ⟨none, some 11, .mv (.t 73)⟩])
  (.seq (.reg [
  ⟨none, some 74, .load true 7 (.t 10)⟩,
  ⟨none, some 75, .load true 4 (.t 3)⟩,
  ⟨none, some 76, .call 12 [(.t 74), (.t 75)]⟩,
  ⟨none, some 12, .mv (.t 76)⟩])
  (.seq (.reg [
  ⟨none, some 77, .load true 4 (.t 3)⟩,
  ⟨none, some 78, .call 14 [(.t 77)]⟩,
  ⟨none, some 13, .mv (.t 78)⟩])
  (.seq (.reg [
  ⟨none, some 79, .mv (.t 13)⟩,
  ⟨none, some 80, .faddr 1 (.t 9)⟩,
  ⟨none, some 81, .load false 1 (.t 80)⟩,
  ⟨none, some 82, .binI .lss (.t 79) (.t 81)⟩,
  ⟨none, some 14, .mv (.t 82)⟩])
  (.seq (.seq (.reg [
  ⟨none, some 15, .mv (.k (.int .i64 0))⟩])
  (.block 0
    (.loop
      (.seq (.seq (.reg [
      ⟨none, some 83, .mv (.t 15)⟩,
      ⟨none, some 84, .mv (.t 12)⟩,
      ⟨none, some 85, .len (.t 84)⟩,
      ⟨none, some 86, .binI .lss (.t 83) (.t 85)⟩])
      (.cond (.t 86)
        .skip
        (.exit 0)))
      (.seq (.block 1
        (.regd [0, 1, 3, 3, 15, 31, 63, 127, 255, 511, 511, 2047, 4095, 511, 8703, 32767, 65535, 131071] [
        ⟨none, some 89, .mv (.t 14)⟩,
        ⟨none, some 90, .mv (.t 89)⟩,
        ⟨(some (90, true)), some 91, .mv (.t 12)⟩,
        ⟨(some (90, true)), some 92, .mv (.t 15)⟩,
        ⟨(some (90, true)), some 93, .iaddrS 1 (.t 91) (.t 92)⟩,
        ⟨(some (90, true)), some 94, .load false 1 (.t 93)⟩,
        ⟨(some (90, true)), some 95, .binI .geq (.t 94) (.k (.int .i64 0))⟩,
        ⟨none, some 96, .pick (.t 90) (.t 95) (.k (.bool false))⟩,
        ⟨none, some 97, .mv (.t 96)⟩,
        ⟨(some (97, true)), some 98, .mv (.t 12)⟩,
        ⟨(some (97, true)), some 99, .mv (.t 15)⟩,
        ⟨(some (97, true)), some 100, .iaddrS 1 (.t 98) (.t 99)⟩,
        ⟨(some (97, true)), some 101, .load false 1 (.t 100)⟩,
        ⟨(some (97, true)), some 102, .faddr 1 (.t 9)⟩,
        ⟨(some (97, true)), some 103, .load false 1 (.t 102)⟩,
        ⟨(some (97, true)), some 104, .binI .lss (.t 101) (.t 103)⟩,
        ⟨none, some 105, .pick (.t 97) (.t 104) (.k (.bool false))⟩,
        ⟨none, some 14, .mv (.t 105)⟩]))
      (.reg [
      ⟨none, some 87, .mv (.t 15)⟩,
      ⟨none, some 88, .binI .add (.t 87) (.k (.int .i64 1))⟩,
      ⟨none, some 15, .mv (.t 88)⟩]))))))
  (.seq (.reg [
  ⟨none, some 106, .mv (.t 11)⟩,
  ⟨none, some 107, .not (.t 106)⟩,
  ⟨none, some 108, .mv (.t 107)⟩,
  ⟨(some (108, false)), some 109, .mv (.t 14)⟩,
  ⟨none, some 110, .pick (.t 108) (.k (.bool true)) (.t 109)⟩,
  ⟨none, some 4, .mv (.t 110)⟩])
  .ret))))))))))))))))))

theorem w7 {args : List DV} {v : DV} (hn : args.length ≤ 111) (h : DV.okL args → ∀ c : Ctx, c.N = 111 → c.pure → w_ Try.prog c mc7 (endQ [.tmp 4] v) ⟨⟩ ⟨argT 0 args, fun _ => .non, 0⟩) : PCall Try.prog 7 args v :=
  PCall.of_walk Try.func7 rfl (by kernel_rfl) (by kernel_rfl) (by kernel_rfl) hn fun o c e p => W.aw Try.checked.mixed (w_start (h o c e p))

/-- gradus.graduslaw18.VerifyRegs -/
def mc6 : MC :=
  (.seq (.reg [
  ⟨none, some 1, .boxP (.t 0)⟩,
  ⟨none, some 2, .mv (.k (.bool false))⟩])
  (.seq (.reg [
  ⟨none, some 13, .call 8 []⟩,
  ⟨none, some 3, .mv (.t 13)⟩])
  (.seq (.reg [
  ⟨none, some 14, .load true 7 (.t 1)⟩,
  ⟨none, some 15, .call 9 [(.t 14)]⟩,
  ⟨none, some 4, .mv (.t 15)⟩])
  (.seq (.seq (.reg [
  ⟨none, some 16, .mv (.t 3)⟩,
  ⟨none, some 17, .not (.t 16)⟩,
  ⟨none, some 18, .mv (.t 17)⟩,
  ⟨(some (18, false)), some 19, .mv (.t 4)⟩,
  ⟨(some (18, false)), some 20, .not (.t 19)⟩,
  ⟨none, some 21, .pick (.t 18) (.k (.bool true)) (.t 20)⟩,
  ⟨none, some 22, .mv (.t 21)⟩,
  ⟨(some (22, false)), some 23, .load true 7 (.t 1)⟩,
  ⟨(some (22, false)), some 24, .call 10 [(.t 23)]⟩,
  ⟨(some (22, false)), some 25, .not (.t 24)⟩,
  ⟨none, some 26, .pick (.t 22) (.k (.bool true)) (.t 25)⟩])
  (.cond (.t 26)
    (.seq (.reg [
    ⟨none, some 27, .mv (.t 3)⟩,
    ⟨none, some 2, .mv (.t 27)⟩])
    .ret)
    .skip))
  (.seq (.seq (.reg [
  ⟨none, some 5, .mv (.k (.int .i64 0))⟩])
  (.block 0
    (.loop
      (.seq (.seq (.reg [
      ⟨none, some 28, .mv (.t 5)⟩,
      ⟨none, some 29, .faddr 3 (.t 1)⟩,
      ⟨none, some 30, .load false 1 (.t 29)⟩,
      ⟨none, some 31, .len (.t 30)⟩,
      ⟨none, some 32, .binI .lss (.t 28) (.t 31)⟩])
      (.cond (.t 32)
        .skip
        (.exit 0)))
      (.seq (.block 1
        (.seq (.reg [
        ⟨none, some 35, .faddr 3 (.t 1)⟩,
        ⟨none, some 36, .load false 1 (.t 35)⟩,
        ⟨none, some 37, .mv (.t 5)⟩,
        ⟨none, some 38, .iaddrS 5 (.t 36) (.t 37)⟩,
        ⟨none, some 39, .load true 5 (.t 38)⟩,
        ⟨none, some 40, .call 16 [(.t 39)]⟩,
        ⟨none, some 6, .mv (.t 40)⟩])
        (.seq (.reg [
        ⟨none, some 41, .mv (.t 6)⟩,
        ⟨none, some 42, .not (.t 41)⟩])
        (.cond (.t 42)
          (.seq (.reg [
          ⟨none, some 2, .mv (.k (.bool false))⟩])
          .ret)
          .skip))))
      (.reg [
      ⟨none, some 33, .mv (.t 5)⟩,
      ⟨none, some 34, .binI .add (.t 33) (.k (.int .i64 1))⟩,
      ⟨none, some 5, .mv (.t 34)⟩]))))))
  (.seq (.seq (.reg [
  ⟨none, some 7, .mv (.k (.int .i64 0))⟩])
  (.block 2
    (.loop
      (.seq (.seq (.reg [
      ⟨none, some 43, .mv (.t 7)⟩,
      ⟨none, some 44, .faddr 4 (.t 1)⟩,
      ⟨none, some 45, .load false 1 (.t 44)⟩,
      ⟨none, some 46, .len (.t 45)⟩,
      ⟨none, some 47, .binI .lss (.t 43) (.t 46)⟩])
      (.cond (.t 47)
        .skip
        (.exit 2)))
      (.seq (.block 3
        (.seq (.reg [
        ⟨none, some 50, .faddr 4 (.t 1)⟩,
        ⟨none, some 51, .load false 1 (.t 50)⟩,
        ⟨none, some 52, .mv (.t 7)⟩,
        ⟨none, some 53, .iaddrS 3 (.t 51) (.t 52)⟩,
        ⟨none, some 54, .load true 3 (.t 53)⟩,
        ⟨none, some 8, .alloc [.int .i64 0, .int .i64 0, .sl true 4 []]⟩,
        ⟨none, none, .store 3 (.t 8) (.t 54)⟩])
        (.seq (.reg [
        ⟨none, some 9, .mv (.k (.int .i64 0))⟩])
        (.block 4
          (.loop
            (.seq (.seq (.reg [
            ⟨none, some 55, .mv (.t 9)⟩,
            ⟨none, some 56, .faddr 2 (.t 8)⟩,
            ⟨none, some 57, .load false 1 (.t 56)⟩,
            ⟨none, some 58, .len (.t 57)⟩,
            ⟨none, some 59, .binI .lss (.t 55) (.t 58)⟩])
            (.cond (.t 59)
              .skip
              (.exit 4)))
            (.seq (.block 5
              (.seq (.regd [0, 0, 2, 0, 14, 30, 63, 127] [
              ⟨none, some 62, .load true 7 (.t 1)⟩,
              ⟨none, some 63, .faddr 2 (.t 8)⟩,
              ⟨none, some 64, .load false 1 (.t 63)⟩,
              ⟨none, some 65, .mv (.t 9)⟩,
              ⟨none, some 66, .iaddrS 4 (.t 64) (.t 65)⟩,
              ⟨none, some 67, .load true 4 (.t 66)⟩,
              ⟨none, some 68, .call 12 [(.t 62), (.t 67)]⟩,
              ⟨none, some 10, .mv (.t 68)⟩])
              (.seq (.reg [
              ⟨none, some 69, .faddr 2 (.t 8)⟩,
              ⟨none, some 70, .load false 1 (.t 69)⟩,
              ⟨none, some 71, .mv (.t 9)⟩,
              ⟨none, some 72, .iaddrS 4 (.t 70) (.t 71)⟩,
              ⟨none, some 73, .load true 4 (.t 72)⟩,
              ⟨none, some 74, .call 14 [(.t 73)]⟩,
              ⟨none, some 11, .mv (.t 74)⟩])
              (.seq (.seq (.reg [
              ⟨none, some 75, .mv (.t 11)⟩,
              ⟨none, some 76, .faddr 1 (.t 8)⟩,
              ⟨none, some 77, .load false 1 (.t 76)⟩,
              ⟨none, some 78, .binI .geq (.t 75) (.t 77)⟩])
              (.cond (.t 78)
                (.seq (.reg [
                ⟨none, some 2, .mv (.k (.bool false))⟩])
                .ret)
                .skip))
              (.seq (.reg [
              ⟨none, some 12, .mv (.k (.int .i64 0))⟩])
              (.block 6
                (.loop
                  (.seq (.seq (.reg [
                  ⟨none, some 79, .mv (.t 12)⟩,
                  ⟨none, some 80, .mv (.t 10)⟩,
                  ⟨none, some 81, .len (.t 80)⟩,
                  ⟨none, some 82, .binI .lss (.t 79) (.t 81)⟩])
                  (.cond (.t 82)
                    .skip
                    (.exit 6)))
                  (.seq (.block 7
                    (.seq (.regd [0, 0, 3, 7, 15, 31, 63, 63, 255, 511, 63, 1087, 4095, 8191] [
                    ⟨none, some 85, .mv (.t 10)⟩,
                    ⟨none, some 86, .mv (.t 12)⟩,
                    ⟨none, some 87, .iaddrS 1 (.t 85) (.t 86)⟩,
                    ⟨none, some 88, .load false 1 (.t 87)⟩,
                    ⟨none, some 89, .binI .lss (.t 88) (.k (.int .i64 0))⟩,
                    ⟨none, some 90, .mv (.t 89)⟩,
                    ⟨(some (90, false)), some 91, .mv (.t 10)⟩,
                    ⟨(some (90, false)), some 92, .mv (.t 12)⟩,
                    ⟨(some (90, false)), some 93, .iaddrS 1 (.t 91) (.t 92)⟩,
                    ⟨(some (90, false)), some 94, .load false 1 (.t 93)⟩,
                    ⟨(some (90, false)), some 95, .faddr 1 (.t 8)⟩,
                    ⟨(some (90, false)), some 96, .load false 1 (.t 95)⟩,
                    ⟨(some (90, false)), some 97, .binI .geq (.t 94) (.t 96)⟩,
                    ⟨none, some 98, .pick (.t 90) (.k (.bool true)) (.t 97)⟩])
                    (.cond (.t 98)
                      (.seq (.reg [
                      ⟨none, some 2, .mv (.k (.bool false))⟩])
                      .ret)
                      .skip)))
                  (.reg [
                  ⟨none, some 83, .mv (.t 12)⟩,
                  ⟨none, some 84, .binI .add (.t 83) (.k (.int .i64 1))⟩,
                  ⟨none, some 12, .mv (.t 84)⟩]))))))))))
            (.reg [
            ⟨none, some 60, .mv (.t 9)⟩,
            ⟨none, some 61, .binI .add (.t 60) (.k (.int .i64 1))⟩,
            ⟨none, some 9, .mv (.t 61)⟩]))))))))
      (.reg [
      ⟨none, some 48, .mv (.t 7)⟩,
      ⟨none, some 49, .binI .add (.t 48) (.k (.int .i64 1))⟩,
      ⟨none, some 7, .mv (.t 49)⟩]))))))
  (.seq (.reg [
  ⟨none, some 99, .faddr 5 (.t 1)⟩,
  ⟨none, some 100, .load false 1 (.t 99)⟩,
  ⟨none, some 101, .binI .geq (.t 100) (.k (.int .i64 0))⟩,
  ⟨none, some 102, .mv (.t 101)⟩,
  ⟨(some (102, true)), some 103, .faddr 5 (.t 1)⟩,
  ⟨(some (102, true)), some 104, .load false 1 (.t 103)⟩,
  ⟨(some (102, true)), some 105, .faddr 4 (.t 1)⟩,
  ⟨(some (102, true)), some 106, .load false 1 (.t 105)⟩,
  ⟨(some (102, true)), some 107, .len (.t 106)⟩,
  ⟨(some (102, true)), some 108, .binI .lss (.t 104) (.t 107)⟩,
  ⟨none, some 109, .pick (.t 102) (.t 108) (.k (.bool false))⟩,
  ⟨none, some 2, .mv (.t 109)⟩])
  .ret)))))))

theorem w6 {args : List DV} {v : DV} (hn : args.length ≤ 110) (h : DV.okL args → ∀ c : Ctx, c.N = 110 → c.pure → w_ Try.prog c mc6 (endQ [.tmp 2] v) ⟨⟩ ⟨argT 0 args, fun _ => .non, 0⟩) : PCall Try.prog 6 args v :=
  PCall.of_walk Try.func6 rfl (by kernel_rfl) (by kernel_rfl) (by kernel_rfl) hn fun o c e p => W.aw Try.checked.mixed (w_start (h o c e p))

/-- gradus.gradusref18.proc -/
def mc27 : MC :=
  (.seq (.reg [
  ⟨none, some 2, .boxP (.t 0)⟩,
  ⟨none, some 3, .boxP (.t 1)⟩,
  ⟨none, some 4, .mv (.k (.bool false))⟩])
  (.seq (.reg [
  ⟨none, some 9, .faddr 2 (.t 3)⟩,
  ⟨none, some 10, .load false 1 (.t 9)⟩,
  ⟨none, some 11, .len (.t 10)⟩,
  ⟨none, some 5, .mv (.t 11)⟩])
  (.seq (.seq (.reg [
  ⟨none, some 12, .faddr 0 (.t 3)⟩,
  ⟨none, some 13, .load false 1 (.t 12)⟩,
  ⟨none, some 14, .binI .lss (.t 13) (.k (.int .i64 0))⟩,
  ⟨none, some 15, .mv (.t 14)⟩,
  ⟨(some (15, false)), some 16, .faddr 1 (.t 3)⟩,
  ⟨(some (15, false)), some 17, .load false 1 (.t 16)⟩,
  ⟨(some (15, false)), some 18, .faddr 0 (.t 3)⟩,
  ⟨(some (15, false)), some 19, .load false 1 (.t 18)⟩,
  ⟨(some (15, false)), some 20, .binI .leq (.t 17) (.t 19)⟩,
  ⟨none, some 21, .pick (.t 15) (.k (.bool true)) (.t 20)⟩,
  ⟨none, some 22, .mv (.t 21)⟩,
  ⟨(some (22, false)), some 23, .faddr 1 (.t 3)⟩,
  ⟨(some (22, false)), some 24, .load false 1 (.t 23)⟩,
  ⟨(some (22, false)), some 25, .binI .gtr (.t 24) (.k (.int .i64 256))⟩,
  ⟨none, some 26, .pick (.t 22) (.k (.bool true)) (.t 25)⟩,
  ⟨none, some 27, .mv (.t 26)⟩,
  ⟨(some (27, false)), some 28, .mv (.t 5)⟩,
  ⟨(some (27, false)), some 29, .binI .lss (.t 28) (.k (.int .i64 1))⟩,
  ⟨none, some 30, .pick (.t 27) (.k (.bool true)) (.t 29)⟩,
  ⟨none, some 31, .mv (.t 30)⟩,
  ⟨(some (31, false)), some 32, .mv (.t 5)⟩,
  ⟨(some (31, false)), some 33, .binI .gtr (.t 32) (.k (.int .i64 65536))⟩,
  ⟨none, some 34, .pick (.t 31) (.k (.bool true)) (.t 33)⟩])
  (.cond (.t 34)
    (.seq (.reg [
    ⟨none, some 4, .mv (.k (.bool false))⟩])
    .ret)
    .skip))
  (.seq (.reg [
  ⟨none, some 35, .faddr 2 (.t 3)⟩,
  ⟨none, some 36, .load false 1 (.t 35)⟩,
  ⟨none, some 37, .mv (.t 5)⟩,
  ⟨none, some 38, .binI .sub (.t 37) (.k (.int .i64 1))⟩,
  ⟨none, some 39, .iaddrS 4 (.t 36) (.t 38)⟩,
  ⟨none, some 40, .faddr 0 (.t 39)⟩,
  ⟨none, some 41, .load false 1 (.t 40)⟩,
  ⟨none, some 6, .mv (.t 41)⟩])
  (.seq (.seq (.reg [
  ⟨none, some 42, .mv (.t 6)⟩,
  ⟨none, some 43, .binI .neq (.t 42) (.k (.int .i64 23))⟩,
  ⟨none, some 44, .mv (.t 43)⟩,
  ⟨(some (44, true)), some 45, .mv (.t 6)⟩,
  ⟨(some (44, true)), some 46, .binI .neq (.t 45) (.k (.int .i64 24))⟩,
  ⟨none, some 47, .pick (.t 44) (.t 46) (.k (.bool false))⟩])
  (.cond (.t 47)
    (.seq (.reg [
    ⟨none, some 4, .mv (.k (.bool false))⟩])
    .ret)
    .skip))
  (.seq (.seq (.reg [
  ⟨none, some 7, .mv (.k (.int .i64 0))⟩])
  (.block 0
    (.loop
      (.seq (.seq (.reg [
      ⟨none, some 48, .mv (.t 7)⟩,
      ⟨none, some 49, .mv (.t 5)⟩,
      ⟨none, some 50, .binI .lss (.t 48) (.t 49)⟩])
      (.cond (.t 50)
        .skip
        (.exit 0)))
      (.seq (.block 1
        (.seq (.regd [0, 0, 0, 4, 0, 28, 60, 127, 255] [
        ⟨none, some 53, .load true 7 (.t 2)⟩,
        ⟨none, some 54, .load true 3 (.t 3)⟩,
        ⟨none, some 55, .faddr 2 (.t 3)⟩,
        ⟨none, some 56, .load false 1 (.t 55)⟩,
        ⟨none, some 57, .mv (.t 7)⟩,
        ⟨none, some 58, .iaddrS 4 (.t 56) (.t 57)⟩,
        ⟨none, some 59, .load true 4 (.t 58)⟩,
        ⟨none, some 60, .call 43 [(.t 53), (.t 54), (.t 59)]⟩,
        ⟨none, some 8, .mv (.t 60)⟩])
        (.seq (.reg [
        ⟨none, some 61, .mv (.t 8)⟩,
        ⟨none, some 62, .not (.t 61)⟩])
        (.cond (.t 62)
          (.seq (.reg [
          ⟨none, some 4, .mv (.k (.bool false))⟩])
          .ret)
          .skip))))
      (.reg [
      ⟨none, some 51, .mv (.t 7)⟩,
      ⟨none, some 52, .binI .add (.t 51) (.k (.int .i64 1))⟩,
      ⟨none, some 7, .mv (.t 52)⟩]))))))
  (.seq (.reg [
  ⟨none, some 4, .mv (.k (.bool true))⟩])
  .ret)))))))

theorem w27 {args : List DV} {v : DV} (hn : args.length ≤ 63) (h : DV.okL args → ∀ c : Ctx, c.N = 63 → c.pure → w_ Try.prog c mc27 (endQ [.tmp 4] v) ⟨⟩ ⟨argT 0 args, fun _ => .non, 0⟩) : PCall Try.prog 27 args v :=
  PCall.of_walk Try.func27 rfl (by kernel_rfl) (by kernel_rfl) (by kernel_rfl) hn fun o c e p => W.aw Try.checked.mixed (w_start (h o c e p))

/-- gradus.gradusref18.instr -/
def mc43 : MC :=
  (.seq (.reg [
  ⟨none, some 3, .boxP (.t 0)⟩,
  ⟨none, some 4, .boxP (.t 1)⟩,
  ⟨none, some 5, .boxP (.t 2)⟩,
  ⟨none, some 6, .mv (.k (.bool false))⟩])
  (.seq (.reg [
  ⟨none, some 12, .load true 7 (.t 3)⟩,
  ⟨none, some 13, .load true 3 (.t 4)⟩,
  ⟨none, some 14, .load true 4 (.t 5)⟩,
  ⟨none, some 15, .call 52 [(.t 12), (.t 13), (.t 14)]⟩,
  ⟨none, some 7, .mv (.t 15)⟩])
  (.seq (.seq (.reg [
  ⟨none, some 16, .mv (.t 7)⟩,
  ⟨none, some 17, .not (.t 16)⟩])
  (.cond (.t 17)
    (.seq (.reg [
    ⟨none, some 6, .mv (.k (.bool false))⟩])
    .ret)
    .skip))
  (.seq (.reg [
  ⟨none, some 18, .load true 4 (.t 5)⟩,
  ⟨none, some 19, .call 15 [(.t 18)]⟩,
  ⟨none, some 8, .mv (.t 19)⟩])
  (.seq (.reg [
  ⟨none, some 20, .faddr 0 (.t 5)⟩,
  ⟨none, some 21, .load false 1 (.t 20)⟩,
  ⟨none, some 22, .binI .neq (.t 21) (.k (.int .i64 23))⟩,
  ⟨none, some 23, .mv (.t 22)⟩,
  ⟨(some (23, true)), some 24, .faddr 0 (.t 5)⟩,
  ⟨(some (23, true)), some 25, .load false 1 (.t 24)⟩,
  ⟨(some (23, true)), some 26, .binI .neq (.t 25) (.k (.int .i64 24))⟩,
  ⟨none, some 27, .pick (.t 23) (.t 26) (.k (.bool false))⟩,
  ⟨none, some 28, .mv (.t 27)⟩,
  ⟨(some (28, true)), some 29, .faddr 0 (.t 5)⟩,
  ⟨(some (28, true)), some 30, .load false 1 (.t 29)⟩,
  ⟨(some (28, true)), some 31, .binI .neq (.t 30) (.k (.int .i64 25))⟩,
  ⟨none, some 32, .pick (.t 28) (.t 31) (.k (.bool false))⟩,
  ⟨none, some 9, .mv (.t 32)⟩])
  (.seq (.reg [
  ⟨none, some 33, .load true 7 (.t 3)⟩,
  ⟨none, some 34, .load true 4 (.t 5)⟩,
  ⟨none, some 35, .call 13 [(.t 33), (.t 34)]⟩,
  ⟨none, some 10, .mv (.t 35)⟩])
  (.seq (.seq (.reg [
  ⟨none, some 36, .mv (.t 9)⟩])
  (.cond (.t 36)
    (.reg [
    ⟨none, some 37, .mv (.t 10)⟩,
    ⟨none, some 38, .mv (.t 8)⟩,
    ⟨none, some 39, .buildSl 1 [(.t 38)]⟩,
    ⟨none, some 40, .append 1 8 (.t 37) (.t 39)⟩,
    ⟨none, some 10, .mv (.t 40)⟩])
    .skip))
  (.seq (.seq (.reg [
  ⟨none, some 11, .mv (.k (.int .i64 0))⟩])
  (.block 0
    (.loop
      (.seq (.seq (.reg [
      ⟨none, some 41, .mv (.t 11)⟩,
      ⟨none, some 42, .mv (.t 10)⟩,
      ⟨none, some 43, .len (.t 42)⟩,
      ⟨none, some 44, .binI .lss (.t 41) (.t 43)⟩])
      (.cond (.t 44)
        .skip
        (.exit 0)))
      (.seq (.block 1
        (.seq (.regd [0, 0, 3, 7, 0, 16, 63, 127] [
        ⟨none, some 47, .mv (.t 10)⟩,
        ⟨none, some 48, .mv (.t 11)⟩,
        ⟨none, some 49, .iaddrS 1 (.t 47) (.t 48)⟩,
        ⟨none, some 50, .load false 1 (.t 49)⟩,
        ⟨none, some 51, .faddr 1 (.t 4)⟩,
        ⟨none, some 52, .load false 1 (.t 51)⟩,
        ⟨none, some 53, .call 26 [(.t 50), (.t 52)]⟩,
        ⟨none, some 7, .mv (.t 53)⟩])
        (.seq (.reg [
        ⟨none, some 54, .mv (.t 7)⟩,
        ⟨none, some 55, .not (.t 54)⟩])
        (.cond (.t 55)
          (.seq (.reg [
          ⟨none, some 6, .mv (.k (.bool false))⟩])
          .ret)
          .skip))))
      (.reg [
      ⟨none, some 45, .mv (.t 11)⟩,
      ⟨none, some 46, .binI .add (.t 45) (.k (.int .i64 1))⟩,
      ⟨none, some 11, .mv (.t 46)⟩]))))))
  (.seq (.reg [
  ⟨none, some 6, .mv (.k (.bool true))⟩])
  .ret)))))))))

theorem w43 {args : List DV} {v : DV} (hn : args.length ≤ 56) (h : DV.okL args → ∀ c : Ctx, c.N = 56 → c.pure → w_ Try.prog c mc43 (endQ [.tmp 6] v) ⟨⟩ ⟨argT 0 args, fun _ => .non, 0⟩) : PCall Try.prog 43 args v :=
  PCall.of_walk Try.func43 rfl (by kernel_rfl) (by kernel_rfl) (by kernel_rfl) hn fun o c e p => W.aw Try.checked.mixed (w_start (h o c e p))

/-- gradus.gradusref18.consts -/
def mc52 : MC :=
  (.seq (.reg [
  ⟨none, some 3, .boxP (.t 0)⟩,
  ⟨none, some 4, .boxP (.t 1)⟩,
  ⟨none, some 5, .boxP (.t 2)⟩,
  ⟨none, some 6, .mv (.k (.bool false))⟩])
  (.seq (.seq (.reg [
  ⟨none, some 7, .faddr 0 (.t 5)⟩,
  ⟨none, some 8, .load false 1 (.t 7)⟩])
  (.block 0
    (.seq (.reg [
    ⟨none, some 10, .binI .eql (.t 8) (.k (.int .i64 11))⟩,
    ⟨none, some 9, .mv (.t 10)⟩])
    (.cond (.t 9)
      (.seq (.reg [
      ⟨none, some 11, .faddr 2 (.t 5)⟩,
      ⟨none, some 12, .load false 1 (.t 11)⟩,
      ⟨none, some 13, .faddr 0 (.t 3)⟩,
      ⟨none, some 14, .load false 1 (.t 13)⟩,
      ⟨none, some 15, .len (.t 14)⟩,
      ⟨none, some 16, .call 26 [(.t 12), (.t 15)]⟩,
      ⟨none, some 6, .mv (.t 16)⟩])
      .ret)
      (.seq (.reg [
      ⟨none, some 18, .binI .eql (.t 8) (.k (.int .i64 12))⟩,
      ⟨none, some 17, .mv (.t 18)⟩])
      (.cond (.t 17)
        (.seq (.reg [
        ⟨none, some 19, .faddr 2 (.t 5)⟩,
        ⟨none, some 20, .load false 1 (.t 19)⟩,
        ⟨none, some 21, .faddr 1 (.t 3)⟩,
        ⟨none, some 22, .load false 1 (.t 21)⟩,
        ⟨none, some 23, .len (.t 22)⟩,
        ⟨none, some 24, .call 26 [(.t 20), (.t 23)]⟩,
        ⟨none, some 6, .mv (.t 24)⟩])
        .ret)
        (.seq (.reg [
        ⟨none, some 26, .binI .eql (.t 8) (.k (.int .i64 13))⟩,
        ⟨none, some 25, .mv (.t 26)⟩])
        (.cond (.t 25)
          (.seq (.reg [
          ⟨none, some 27, .faddr 2 (.t 5)⟩,
          ⟨none, some 28, .load false 1 (.t 27)⟩,
          ⟨none, some 29, .call 26 [(.t 28), (.k (.int .i64 2))]⟩,
          ⟨none, some 6, .mv (.t 29)⟩])
          .ret)
          (.seq (.reg [
          ⟨none, some 31, .binI .eql (.t 8) (.k (.int .i64 16))⟩,
          ⟨none, some 30, .mv (.t 31)⟩])
          (.cond (.t 30)
            (.seq (.reg [
            ⟨none, some 32, .load true 7 (.t 3)⟩,
            ⟨none, some 33, .faddr 2 (.t 5)⟩,
            ⟨none, some 34, .load false 1 (.t 33)⟩,
            ⟨none, some 35, .call 32 [(.t 32), (.t 34)]⟩,
            ⟨none, some 36, .binI .eql (.t 35) (.k (.int .i64 0))⟩,
            ⟨none, some 6, .mv (.t 36)⟩])
            .ret)
            (.seq (.reg [
            ⟨none, some 38, .binI .eql (.t 8) (.k (.int .i64 17))⟩,
            ⟨none, some 37, .mv (.t 38)⟩])
            (.cond (.t 37)
              (.seq (.regd [0, 1, 0, 4, 12, 31, 63, 127, 255, 127, 639, 1663, 4095, 8191, 16383, 32767, 32767, 98303, 262143, 32767, 557055, 32767, 2129919, 7897087, 16777215, 33554431, 67108863] [
              ⟨none, some 39, .faddr 2 (.t 5)⟩,
              ⟨none, some 40, .load false 1 (.t 39)⟩,
              ⟨none, some 41, .faddr 4 (.t 3)⟩,
              ⟨none, some 42, .load false 1 (.t 41)⟩,
              ⟨none, some 43, .len (.t 42)⟩,
              ⟨none, some 44, .call 26 [(.t 40), (.t 43)]⟩,
              ⟨none, some 45, .mv (.t 44)⟩,
              ⟨(some (45, true)), some 46, .faddr 3 (.t 5)⟩,
              ⟨(some (45, true)), some 47, .load false 1 (.t 46)⟩,
              ⟨(some (45, true)), some 48, .faddr 1 (.t 4)⟩,
              ⟨(some (45, true)), some 49, .load false 1 (.t 48)⟩,
              ⟨(some (45, true)), some 50, .binI .add (.t 49) (.k (.int .i64 1))⟩,
              ⟨(some (45, true)), some 51, .call 26 [(.t 47), (.t 50)]⟩,
              ⟨none, some 52, .pick (.t 45) (.t 51) (.k (.bool false))⟩,
              ⟨none, some 53, .mv (.t 52)⟩,
              ⟨(some (53, true)), some 54, .load true 7 (.t 3)⟩,
              ⟨(some (53, true)), some 55, .faddr 2 (.t 5)⟩,
              ⟨(some (53, true)), some 56, .load false 1 (.t 55)⟩,
              ⟨(some (53, true)), some 57, .call 32 [(.t 54), (.t 56)]⟩,
              ⟨(some (53, true)), some 58, .faddr 1 (.t 4)⟩,
              ⟨(some (53, true)), some 59, .load false 1 (.t 58)⟩,
              ⟨(some (53, true)), some 60, .faddr 3 (.t 5)⟩,
              ⟨(some (53, true)), some 61, .load false 1 (.t 60)⟩,
              ⟨(some (53, true)), some 62, .binI .sub (.t 59) (.t 61)⟩,
              ⟨(some (53, true)), some 63, .binI .leq (.t 57) (.t 62)⟩,
              ⟨none, some 64, .pick (.t 53) (.t 63) (.k (.bool false))⟩,
              ⟨none, some 6, .mv (.t 64)⟩])
              .ret)
              (.seq (.reg [
              ⟨none, some 66, .binI .eql (.t 8) (.k (.int .i64 18))⟩,
              ⟨none, some 65, .mv (.t 66)⟩])
              (.cond (.t 65)
                (.seq (.regd [0, 1, 0, 4, 12, 31, 63, 127, 255, 127, 639, 1663, 4095, 8191, 16383, 32767, 32767, 98303, 262143, 32767, 557055, 32767, 2129919, 7897087, 16777215, 33554431, 67108863] [
                ⟨none, some 67, .faddr 2 (.t 5)⟩,
                ⟨none, some 68, .load false 1 (.t 67)⟩,
                ⟨none, some 69, .faddr 2 (.t 3)⟩,
                ⟨none, some 70, .load false 1 (.t 69)⟩,
                ⟨none, some 71, .len (.t 70)⟩,
                ⟨none, some 72, .call 26 [(.t 68), (.t 71)]⟩,
                ⟨none, some 73, .mv (.t 72)⟩,
                ⟨(some (73, true)), some 74, .faddr 3 (.t 5)⟩,
                ⟨(some (73, true)), some 75, .load false 1 (.t 74)⟩,
                ⟨(some (73, true)), some 76, .faddr 1 (.t 4)⟩,
                ⟨(some (73, true)), some 77, .load false 1 (.t 76)⟩,
                ⟨(some (73, true)), some 78, .binI .add (.t 77) (.k (.int .i64 1))⟩,
                ⟨(some (73, true)), some 79, .call 26 [(.t 75), (.t 78)]⟩,
                ⟨none, some 80, .pick (.t 73) (.t 79) (.k (.bool false))⟩,
                ⟨none, some 81, .mv (.t 80)⟩,
                ⟨(some (81, true)), some 82, .load true 7 (.t 3)⟩,
                ⟨(some (81, true)), some 83, .faddr 2 (.t 5)⟩,
                ⟨(some (81, true)), some 84, .load false 1 (.t 83)⟩,
                ⟨(some (81, true)), some 85, .call 33 [(.t 82), (.t 84)]⟩,
                ⟨(some (81, true)), some 86, .faddr 1 (.t 4)⟩,
                ⟨(some (81, true)), some 87, .load false 1 (.t 86)⟩,
                ⟨(some (81, true)), some 88, .faddr 3 (.t 5)⟩,
                ⟨(some (81, true)), some 89, .load false 1 (.t 88)⟩,
                ⟨(some (81, true)), some 90, .binI .sub (.t 87) (.t 89)⟩,
                ⟨(some (81, true)), some 91, .binI .leq (.t 85) (.t 90)⟩,
                ⟨none, some 92, .pick (.t 81) (.t 91) (.k (.bool false))⟩,
                ⟨none, some 6, .mv (.t 92)⟩])
                .ret)
                (.seq (.seq (.reg [
                ⟨none, some 94, .binI .eql (.t 8) (.k (.int .i64 19))⟩,
                ⟨none, some 93, .mv (.t 94)⟩])
                (.cond (.t 93)
                  .skip
                  (.reg [
                  ⟨none, some 95, .binI .eql (.t 8) (.k (.int .i64 20))⟩,
                  ⟨none, some 93, .mv (.t 95)⟩])))
                (.cond (.t 93)
                  (.seq (.reg [
                  ⟨none, some 96, .faddr 3 (.t 5)⟩,
                  ⟨none, some 97, .load false 1 (.t 96)⟩,
                  ⟨none, some 98, .faddr 1 (.t 3)⟩,
                  ⟨none, some 99, .load false 1 (.t 98)⟩,
                  ⟨none, some 100, .len (.t 99)⟩,
                  ⟨none, some 101, .call 26 [(.t 97), (.t 100)]⟩,
                  ⟨none, some 6, .mv (.t 101)⟩])
                  .ret)
                  (.seq (.reg [
                  ⟨none, some 103, .binI .eql (.t 8) (.k (.int .i64 21))⟩,
                  ⟨none, some 102, .mv (.t 103)⟩])
                  (.cond (.t 102)
                    (.seq (.reg [
                    ⟨none, some 104, .faddr 3 (.t 5)⟩,
                    ⟨none, some 105, .load false 1 (.t 104)⟩,
                    ⟨none, some 106, .faddr 3 (.t 3)⟩,
                    ⟨none, some 107, .load false 1 (.t 106)⟩,
                    ⟨none, some 108, .len (.t 107)⟩,
                    ⟨none, some 109, .call 26 [(.t 105), (.t 108)]⟩,
                    ⟨none, some 6, .mv (.t 109)⟩])
                    .ret)
                    (.seq (.seq (.reg [
                    ⟨none, some 111, .binI .eql (.t 8) (.k (.int .i64 24))⟩,
                    ⟨none, some 110, .mv (.t 111)⟩])
                    (.cond (.t 110)
                      .skip
                      (.reg [
                      ⟨none, some 112, .binI .eql (.t 8) (.k (.int .i64 25))⟩,
                      ⟨none, some 110, .mv (.t 112)⟩])))
                    (.cond (.t 110)
                      (.seq (.reg [
                      ⟨none, some 113, .faddr 2 (.t 5)⟩,
                      ⟨none, some 114, .load false 1 (.t 113)⟩,
                      ⟨none, some 115, .faddr 2 (.t 4)⟩,
                      ⟨none, some 116, .load false 1 (.t 115)⟩,
                      ⟨none, some 117, .len (.t 116)⟩,
                      ⟨none, some 118, .call 26 [(.t 114), (.t 117)]⟩,
                      ⟨none, some 6, .mv (.t 118)⟩])
                      .ret)
                      (.seq (.reg [
                      ⟨none, some 120, .binI .eql (.t 8) (.k (.int .i64 26))⟩,
                      ⟨none, some 119, .mv (.t 120)⟩])
                      (.cond (.t 119)
                        (.seq (.reg [
                        ⟨none, some 121, .faddr 3 (.t 5)⟩,
                        ⟨none, some 122, .load false 1 (.t 121)⟩,
                        ⟨none, some 123, .call 26 [(.t 122), (.k (.int .i64 6))]⟩,
                        ⟨none, some 6, .mv (.t 123)⟩])
                        .ret)
                        .skip))))))))))))))))))))))
  (.seq (.reg [
  ⟨none, some 124, .faddr 0 (.t 5)⟩,
  ⟨none, some 125, .load false 1 (.t 124)⟩,
  ⟨none, some 126, .call 26 [(.t 125), (.k (.int .i64 33))]⟩,
  ⟨none, some 6, .mv (.t 126)⟩])
  .ret)))

theorem w52 {args : List DV} {v : DV} (hn : args.length ≤ 127) (h : DV.okL args → ∀ c : Ctx, c.N = 127 → c.pure → w_ Try.prog c mc52 (endQ [.tmp 6] v) ⟨⟩ ⟨argT 0 args, fun _ => .non, 0⟩) : PCall Try.prog 52 args v :=
  PCall.of_walk Try.func52 rfl (by kernel_rfl) (by kernel_rfl) (by kernel_rfl) hn fun o c e p => W.aw Try.checked.mixed (w_start (h o c e p))

/-- gradus.gradusref18.Verify -/
def mc11 : MC :=
  (.seq (.reg [
  ⟨none, some 1, .boxP (.t 0)⟩,
  ⟨none, some 2, .mv (.k (.bool false))⟩])
  (.seq (.reg [
  ⟨none, some 12, .faddr 5 (.t 1)⟩,
  ⟨none, some 13, .load false 1 (.t 12)⟩,
  ⟨none, some 14, .faddr 4 (.t 1)⟩,
  ⟨none, some 15, .load false 1 (.t 14)⟩,
  ⟨none, some 16, .len (.t 15)⟩,
  ⟨none, some 17, .call 26 [(.t 13), (.t 16)]⟩,
  ⟨none, some 3, .mv (.t 17)⟩])
  (.seq (.seq (.reg [
  ⟨none, some 18, .faddr 4 (.t 1)⟩,
  ⟨none, some 19, .load false 1 (.t 18)⟩,
  ⟨none, some 20, .len (.t 19)⟩,
  ⟨none, some 21, .binI .gtr (.t 20) (.k (.int .i64 4096))⟩,
  ⟨none, some 22, .mv (.t 21)⟩,
  ⟨(some (22, false)), some 23, .mv (.t 3)⟩,
  ⟨(some (22, false)), some 24, .not (.t 23)⟩,
  ⟨none, some 25, .pick (.t 22) (.k (.bool true)) (.t 24)⟩,
  ⟨none, some 26, .mv (.t 25)⟩,
  ⟨(some (26, false)), some 27, .faddr 4 (.t 1)⟩,
  ⟨(some (26, false)), some 28, .load false 1 (.t 27)⟩,
  ⟨(some (26, false)), some 29, .faddr 5 (.t 1)⟩,
  ⟨(some (26, false)), some 30, .load false 1 (.t 29)⟩,
  ⟨(some (26, false)), some 31, .iaddrS 3 (.t 28) (.t 30)⟩,
  ⟨(some (26, false)), some 32, .faddr 0 (.t 31)⟩,
  ⟨(some (26, false)), some 33, .load false 1 (.t 32)⟩,
  ⟨(some (26, false)), some 34, .binI .neq (.t 33) (.k (.int .i64 0))⟩,
  ⟨none, some 35, .pick (.t 26) (.k (.bool true)) (.t 34)⟩])
  (.cond (.t 35)
    (.seq (.reg [
    ⟨none, some 2, .mv (.k (.bool false))⟩])
    .ret)
    .skip))
  (.seq (.seq (.reg [
  ⟨none, some 4, .mv (.k (.int .i64 0))⟩])
  (.block 0
    (.loop
      (.seq (.seq (.reg [
      ⟨none, some 36, .mv (.t 4)⟩,
      ⟨none, some 37, .faddr 4 (.t 1)⟩,
      ⟨none, some 38, .load false 1 (.t 37)⟩,
      ⟨none, some 39, .len (.t 38)⟩,
      ⟨none, some 40, .binI .lss (.t 36) (.t 39)⟩])
      (.cond (.t 40)
        .skip
        (.exit 0)))
      (.seq (.block 1
        (.seq (.reg [
        ⟨none, some 43, .faddr 4 (.t 1)⟩,
        ⟨none, some 44, .load false 1 (.t 43)⟩,
        ⟨none, some 45, .mv (.t 4)⟩,
        ⟨none, some 46, .iaddrS 3 (.t 44) (.t 45)⟩,
        ⟨none, some 47, .faddr 0 (.t 46)⟩,
        ⟨none, some 48, .load false 1 (.t 47)⟩,
        ⟨none, some 49, .binI .geq (.t 48) (.k (.int .i64 0))⟩,
        ⟨none, some 50, .mv (.t 49)⟩,
        ⟨(some (50, true)), some 51, .faddr 4 (.t 1)⟩,
        ⟨(some (50, true)), some 52, .load false 1 (.t 51)⟩,
        ⟨(some (50, true)), some 53, .mv (.t 4)⟩,
        ⟨(some (50, true)), some 54, .iaddrS 3 (.t 52) (.t 53)⟩,
        ⟨(some (50, true)), some 55, .faddr 0 (.t 54)⟩,
        ⟨(some (50, true)), some 56, .load false 1 (.t 55)⟩,
        ⟨(some (50, true)), some 57, .binI .lss (.t 56) (.k (.int .i64 256))⟩,
        ⟨none, some 58, .pick (.t 50) (.t 57) (.k (.bool false))⟩,
        ⟨none, some 5, .mv (.t 58)⟩])
        (.seq (.reg [
        ⟨none, some 59, .mv (.t 5)⟩,
        ⟨none, some 60, .not (.t 59)⟩])
        (.cond (.t 60)
          (.seq (.reg [
          ⟨none, some 2, .mv (.k (.bool false))⟩])
          .ret)
          .skip))))
      (.reg [
      ⟨none, some 41, .mv (.t 4)⟩,
      ⟨none, some 42, .binI .add (.t 41) (.k (.int .i64 1))⟩,
      ⟨none, some 4, .mv (.t 42)⟩]))))))
  (.seq (.seq (.reg [
  ⟨none, some 6, .mv (.k (.int .i64 0))⟩])
  (.block 2
    (.loop
      (.seq (.seq (.reg [
      ⟨none, some 61, .mv (.t 6)⟩,
      ⟨none, some 62, .faddr 4 (.t 1)⟩,
      ⟨none, some 63, .load false 1 (.t 62)⟩,
      ⟨none, some 64, .len (.t 63)⟩,
      ⟨none, some 65, .binI .lss (.t 61) (.t 64)⟩])
      (.cond (.t 65)
        .skip
        (.exit 2)))
      (.seq (.block 3
        (.seq (.regd [0, 0, 2, 0, 14, 30, 63, 127] [
        ⟨none, some 68, .load true 7 (.t 1)⟩,
        ⟨none, some 69, .faddr 4 (.t 1)⟩,
        ⟨none, some 70, .load false 1 (.t 69)⟩,
        ⟨none, some 71, .mv (.t 6)⟩,
        ⟨none, some 72, .iaddrS 3 (.t 70) (.t 71)⟩,
        ⟨none, some 73, .load true 3 (.t 72)⟩,
        ⟨none, some 74, .call 27 [(.t 68), (.t 73)]⟩,
        ⟨none, some 7, .mv (.t 74)⟩])
        (.seq (.reg [
        ⟨none, some 75, .mv (.t 7)⟩,
        ⟨none, some 76, .not (.t 75)⟩])
        (.cond (.t 76)
          (.seq (.reg [
          ⟨none, some 2, .mv (.k (.bool false))⟩])
          .ret)
          .skip))))
      (.reg [
      ⟨none, some 66, .mv (.t 6)⟩,
      ⟨none, some 67, .binI .add (.t 66) (.k (.int .i64 1))⟩,
      ⟨none, some 6, .mv (.t 67)⟩]))))))
  (.seq (.seq (.reg [
  ⟨none, some 8, .mv (.k (.int .i64 0))⟩])
  (.block 4
    (.loop
      (.seq (.seq (.reg [
      ⟨none, some 77, .mv (.t 8)⟩,
      ⟨none, some 78, .faddr 3 (.t 1)⟩,
      ⟨none, some 79, .load false 1 (.t 78)⟩,
      ⟨none, some 80, .len (.t 79)⟩,
      ⟨none, some 81, .binI .lss (.t 77) (.t 80)⟩])
      (.cond (.t 81)
        .skip
        (.exit 4)))
      (.seq (.block 5
        (.seq (.reg [
        ⟨none, some 84, .faddr 3 (.t 1)⟩,
        ⟨none, some 85, .load false 1 (.t 84)⟩,
        ⟨none, some 86, .mv (.t 8)⟩,
        ⟨none, some 87, .iaddrS 5 (.t 85) (.t 86)⟩,
        ⟨none, some 88, .load true 5 (.t 87)⟩,
        ⟨none, some 89, .call 16 [(.t 88)]⟩,
        ⟨none, some 9, .mv (.t 89)⟩])
        (.seq (.reg [
        ⟨none, some 90, .mv (.t 9)⟩,
        ⟨none, some 91, .not (.t 90)⟩])
        (.cond (.t 91)
          (.seq (.reg [
          ⟨none, some 2, .mv (.k (.bool false))⟩])
          .ret)
          .skip))))
      (.reg [
      ⟨none, some 82, .mv (.t 8)⟩,
      ⟨none, some 83, .binI .add (.t 82) (.k (.int .i64 1))⟩,
      ⟨none, some 8, .mv (.t 83)⟩]))))))
  (.seq (.seq (.reg [
  ⟨none, some 10, .mv (.k (.int .i64 0))⟩])
  (.block 6
    (.loop
      (.seq (.seq (.reg [
      ⟨none, some 92, .mv (.t 10)⟩,
      ⟨none, some 93, .faddr 2 (.t 1)⟩,
      ⟨none, some 94, .load false 1 (.t 93)⟩,
      ⟨none, some 95, .len (.t 94)⟩,
      ⟨none, some 96, .binI .lss (.t 92) (.t 95)⟩])
      (.cond (.t 96)
        .skip
        (.exit 6)))
      (.seq (.block 7
        (.seq (.reg [
        ⟨none, some 11, .mv (.k (.int .i64 1))⟩])
        (.block 8
          (.loop
            (.seq (.seq (.reg [
            ⟨none, some 99, .mv (.t 11)⟩,
            ⟨none, some 100, .faddr 2 (.t 1)⟩,
            ⟨none, some 101, .load false 1 (.t 100)⟩,
            ⟨none, some 102, .mv (.t 10)⟩,
            ⟨none, some 103, .iaddrS 1 (.t 101) (.t 102)⟩,
            ⟨none, some 104, .load false 1 (.t 103)⟩,
            ⟨none, some 105, .len (.t 104)⟩,
            ⟨none, some 106, .binI .lss (.t 99) (.t 105)⟩])
            (.cond (.t 106)
              .skip
              (.exit 8)))
            (.seq (.block 9
              (.seq (.regd [0, 1, 0, 7, 15, 0, 63, 127, 0, 256, 0, 1792, 3840, 0, 8192, 32512, 65280, 131071] [
              ⟨none, some 109, .faddr 2 (.t 1)⟩,
              ⟨none, some 110, .load false 1 (.t 109)⟩,
              ⟨none, some 111, .mv (.t 10)⟩,
              ⟨none, some 112, .iaddrS 1 (.t 110) (.t 111)⟩,
              ⟨none, some 113, .load false 1 (.t 112)⟩,
              ⟨none, some 114, .mv (.t 11)⟩,
              ⟨none, some 115, .iaddrS 1 (.t 113) (.t 114)⟩,
              ⟨none, some 116, .load false 1 (.t 115)⟩,
              ⟨none, some 117, .faddr 2 (.t 1)⟩,
              ⟨none, some 118, .load false 1 (.t 117)⟩,
              ⟨none, some 119, .mv (.t 10)⟩,
              ⟨none, some 120, .iaddrS 1 (.t 118) (.t 119)⟩,
              ⟨none, some 121, .load false 1 (.t 120)⟩,
              ⟨none, some 122, .mv (.t 11)⟩,
              ⟨none, some 123, .binI .sub (.t 122) (.k (.int .i64 1))⟩,
              ⟨none, some 124, .iaddrS 1 (.t 121) (.t 123)⟩,
              ⟨none, some 125, .load false 1 (.t 124)⟩,
              ⟨none, some 126, .binS .leq (.t 116) (.t 125)⟩])
              (.cond (.t 126)
                (.seq (.reg [
                ⟨none, some 2, .mv (.k (.bool false))⟩])
                .ret)
                .skip)))
            (.reg [
            ⟨none, some 107, .mv (.t 11)⟩,
            ⟨none, some 108, .binI .add (.t 107) (.k (.int .i64 1))⟩,
            ⟨none, some 11, .mv (.t 108)⟩])))))))
      (.reg [
      ⟨none, some 97, .mv (.t 10)⟩,
      ⟨none, some 98, .binI .add (.t 97) (.k (.int .i64 1))⟩,
      ⟨none, some 10, .mv (.t 98)⟩]))))))
  (.seq (.reg [
  ⟨none, some 2, .mv (.k (.bool true))⟩])
  .ret))))))))

theorem w11 {args : List DV} {v : DV} (hn : args.length ≤ 127) (h : DV.okL args → ∀ c : Ctx, c.N = 127 → c.pure → w_ Try.prog c mc11 (endQ [.tmp 2] v) ⟨⟩ ⟨argT 0 args, fun _ => .non, 0⟩) : PCall Try.prog 11 args v :=
  PCall.of_walk Try.func11 rfl (by kernel_rfl) (by kernel_rfl) (by kernel_rfl) hn fun o c e p => W.aw Try.checked.mixed (w_start (h o c e p))

end Go.Ver
