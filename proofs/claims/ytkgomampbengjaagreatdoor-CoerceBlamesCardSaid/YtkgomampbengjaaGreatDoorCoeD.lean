/- The codes of more of the seat's functions: printed by a program of ours. -/
import Derived.Test.YtkgomampbengjaaGreatDoorCoeC
set_option linter.unusedVariables false
namespace Go.Gr
open Go.Abs Go.Proofs

def lv_graduslaw10_CoerceBack_0 : List Nat := [5, 6, 7, 8]
def lp_graduslaw10_CoerceBack_0 : MC :=
  (.seq (.seq (.reg [
  ⟨none, some 37, .mv (.t 8)⟩,
  ⟨none, some 38, .mv (.t 7)⟩,
  ⟨none, some 39, .len (.t 38)⟩,
  ⟨none, some 40, .binI .lss (.t 37) (.t 39)⟩])
  (.cond (.t 40)
    .skip
    (.exit 0)))
  (.seq (.block 1
    (.seq (.reg [
    ⟨none, some 43, .mv (.t 7)⟩,
    ⟨none, some 44, .mv (.t 8)⟩,
    ⟨none, some 45, .iaddrS 1 (.t 43) (.t 44)⟩,
    ⟨none, some 46, .load false 1 (.t 45)⟩,
    ⟨none, some 47, .binI .lss (.t 46) (.k (.int .i64 4))⟩,
    ⟨none, some 48, .mv (.t 47)⟩,
    ⟨(some (48, false)), some 49, .mv (.t 7)⟩,
    ⟨(some (48, false)), some 50, .mv (.t 8)⟩,
    ⟨(some (48, false)), some 51, .iaddrS 1 (.t 49) (.t 50)⟩,
    ⟨(some (48, false)), some 52, .load false 1 (.t 51)⟩,
    ⟨(some (48, false)), some 53, .binI .gtr (.t 52) (.k (.int .i64 7))⟩,
    ⟨none, some 54, .pick (.t 48) (.k (.bool true)) (.t 53)⟩])
    (.cond (.t 54)
      (.seq (.reg [
      ⟨none, some 2, .mv (.k (.bool false))⟩])
      .ret)
      .skip)))
  (.reg [
  ⟨none, some 41, .mv (.t 8)⟩,
  ⟨none, some 42, .binI .add (.t 41) (.k (.int .i64 1))⟩,
  ⟨none, some 8, .mv (.t 42)⟩])))
abbrev F.graduslaw10_CoerceBack : FuncId := 9
def mc_graduslaw10_CoerceBack : MC :=
  (.seq (.reg [
  ⟨none, some 1, .boxP (.t 0)⟩,
  ⟨none, some 2, .mv (.k (.bool false))⟩])
  (.seq (.reg [
  ⟨none, some 9, .call 11 []⟩,
  ⟨none, some 3, .mv (.t 9)⟩])
  (.seq (.seq (.reg [
  ⟨none, some 10, .mv (.t 3)⟩,
  ⟨none, some 11, .not (.t 10)⟩,
  ⟨none, some 12, .mv (.t 11)⟩,
  ⟨(some (12, false)), some 13, .load true 4 (.t 1)⟩,
  ⟨(some (12, false)), some 14, .call 25 [(.t 13), (.k (.int .i64 300))]⟩,
  ⟨(some (12, false)), some 15, .binI .eql (.t 14) (.k (.int .i64 0))⟩,
  ⟨none, some 16, .pick (.t 12) (.k (.bool true)) (.t 15)⟩,
  ⟨none, some 17, .mv (.t 16)⟩,
  ⟨(some (17, false)), some 18, .load true 4 (.t 1)⟩,
  ⟨(some (17, false)), some 19, .load true 4 (.t 1)⟩,
  ⟨(some (17, false)), some 20, .call 26 [(.t 18), (.t 19)]⟩,
  ⟨(some (17, false)), some 21, .not (.t 20)⟩,
  ⟨none, some 22, .pick (.t 17) (.k (.bool true)) (.t 21)⟩])
  (.cond (.t 22)
    (.seq (.reg [
    ⟨none, some 23, .mv (.t 3)⟩,
    ⟨none, some 2, .mv (.t 23)⟩])
    .ret)
    .skip))
  (.seq (.reg [
  ⟨none, some 24, .call 27 [(.k (.int .i64 0))]⟩,
  ⟨none, some 4, .alloc [.int .i64 0, .str (bs []), .sl true 1 [], .sl true 4 []]⟩,
  ⟨none, none, .store 4 (.t 4) (.t 24)⟩])
  (.seq (.reg [
  ⟨none, some 25, .load true 4 (.t 1)⟩,
  ⟨none, some 26, .load true 4 (.t 1)⟩,
  ⟨none, some 27, .call 28 [(.t 25), (.t 26), (.k (.int .i64 2))]⟩,
  ⟨none, some 5, .alloc [.sl true 1 [], .sl true 2 [], .sl true 1 [], .sl true 5 [], .sl true 5 []]⟩,
  ⟨none, none, .store 5 (.t 5) (.t 27)⟩])
  (.seq (.regd [0, 0, 3, 0, 0, 31, 63, 0, 255] [
  ⟨none, some 28, .load true 4 (.t 1)⟩,
  ⟨none, some 29, .load true 4 (.t 4)⟩,
  ⟨none, some 30, .call 28 [(.t 28), (.t 29), (.k (.int .i64 4))]⟩,
  ⟨none, some 31, .load true 4 (.t 4)⟩,
  ⟨none, some 32, .load true 4 (.t 1)⟩,
  ⟨none, some 33, .call 28 [(.t 31), (.t 32), (.k (.int .i64 6))]⟩,
  ⟨none, some 34, .call 17 [(.t 30), (.t 33)]⟩,
  ⟨none, some 6, .alloc [.sl true 1 [], .sl true 2 [], .sl true 1 [], .sl true 5 [], .sl true 5 []]⟩,
  ⟨none, none, .store 5 (.t 6) (.t 34)⟩])
  (.seq (.reg [
  ⟨none, some 35, .load true 5 (.t 6)⟩,
  ⟨none, some 36, .call 20 [(.t 35)]⟩,
  ⟨none, some 7, .mv (.t 36)⟩])
  (.seq (.seq (.reg [
  ⟨none, some 8, .mv (.k (.int .i64 0))⟩])
  (.block 0 (.loop lp_graduslaw10_CoerceBack_0)))
  (.seq (.regd [0, 0, 3, 7, 15, 31, 63, 127] [
  ⟨none, some 55, .load true 5 (.t 5)⟩,
  ⟨none, some 56, .call 19 []⟩,
  ⟨none, some 57, .call 15 [(.t 55), (.t 56)]⟩,
  ⟨none, some 58, .mv (.t 57)⟩,
  ⟨(some (58, true)), some 59, .load true 5 (.t 6)⟩,
  ⟨(some (58, true)), some 60, .call 13 [(.t 59)]⟩,
  ⟨none, some 61, .pick (.t 58) (.t 60) (.k (.bool false))⟩,
  ⟨none, some 2, .mv (.t 61)⟩])
  .ret)))))))))
theorem w_graduslaw10_CoerceBack {args : List DV} {v : DV} (hn : args.length ≤ 62) (h : DV.okL args → ∀ c : Ctx, c.N = 62 → c.pure → w_ Pg c mc_graduslaw10_CoerceBack (endQ [.tmp 2] v) ⟨⟩ ⟨argT 0 args, fun _ => .non, 0⟩) : PCall Pg F.graduslaw10_CoerceBack args v :=
  PCall.of_walk Tryz.func9 rfl (by kernel_rfl) (by kernel_rfl) (by kernel_rfl) hn fun o c e p => W.aw Pg_mixed (w_start (h o c e p))
def lv_graduslaw10_CoerceBlames_0 : List Nat := [2, 3, 4, 9, 10, 11, 12]
def lp_graduslaw10_CoerceBlames_0 : MC :=
  (.seq (.seq (.reg [
  ⟨none, some 51, .mv (.t 12)⟩,
  ⟨none, some 52, .mv (.t 9)⟩,
  ⟨none, some 53, .len (.t 52)⟩,
  ⟨none, some 54, .binI .lss (.t 51) (.t 53)⟩])
  (.cond (.t 54)
    .skip
    (.exit 0)))
  (.seq (.block 1
    (.seq (.seq (.reg [
    ⟨none, some 57, .mv (.t 9)⟩,
    ⟨none, some 58, .mv (.t 12)⟩,
    ⟨none, some 59, .iaddrS 1 (.t 57) (.t 58)⟩,
    ⟨none, some 60, .load false 1 (.t 59)⟩,
    ⟨none, some 61, .mv (.t 2)⟩,
    ⟨none, some 62, .binI .neq (.t 60) (.t 61)⟩,
    ⟨none, some 63, .mv (.t 62)⟩,
    ⟨(some (63, true)), some 64, .mv (.t 9)⟩,
    ⟨(some (63, true)), some 65, .mv (.t 12)⟩,
    ⟨(some (63, true)), some 66, .iaddrS 1 (.t 64) (.t 65)⟩,
    ⟨(some (63, true)), some 67, .load false 1 (.t 66)⟩,
    ⟨(some (63, true)), some 68, .mv (.t 2)⟩,
    ⟨(some (63, true)), some 69, .binI .xor (.t 68) (.k (.int .i64 1))⟩,
    ⟨(some (63, true)), some 70, .binI .neq (.t 67) (.t 69)⟩,
    ⟨none, some 71, .pick (.t 63) (.t 70) (.k (.bool false))⟩])
    (.cond (.t 71)
      (.seq (.reg [
      ⟨none, some 6, .mv (.k (.bool false))⟩])
      .ret)
      .skip))
    (.seq (.reg [
    ⟨none, some 72, .mv (.t 10)⟩,
    ⟨none, some 73, .mv (.t 72)⟩,
    ⟨(some (73, false)), some 74, .mv (.t 9)⟩,
    ⟨(some (73, false)), some 75, .mv (.t 12)⟩,
    ⟨(some (73, false)), some 76, .iaddrS 1 (.t 74) (.t 75)⟩,
    ⟨(some (73, false)), some 77, .load false 1 (.t 76)⟩,
    ⟨(some (73, false)), some 78, .mv (.t 2)⟩,
    ⟨(some (73, false)), some 79, .binI .eql (.t 77) (.t 78)⟩,
    ⟨none, some 80, .pick (.t 73) (.k (.bool true)) (.t 79)⟩,
    ⟨none, some 10, .mv (.t 80)⟩])
    (.reg [
    ⟨none, some 81, .mv (.t 11)⟩,
    ⟨none, some 82, .mv (.t 81)⟩,
    ⟨(some (82, false)), some 83, .mv (.t 9)⟩,
    ⟨(some (82, false)), some 84, .mv (.t 12)⟩,
    ⟨(some (82, false)), some 85, .iaddrS 1 (.t 83) (.t 84)⟩,
    ⟨(some (82, false)), some 86, .load false 1 (.t 85)⟩,
    ⟨(some (82, false)), some 87, .mv (.t 2)⟩,
    ⟨(some (82, false)), some 88, .binI .xor (.t 87) (.k (.int .i64 1))⟩,
    ⟨(some (82, false)), some 89, .binI .eql (.t 86) (.t 88)⟩,
    ⟨none, some 90, .pick (.t 82) (.k (.bool true)) (.t 89)⟩,
    ⟨none, some 11, .mv (.t 90)⟩]))))
  (.reg [
  ⟨none, some 55, .mv (.t 12)⟩,
  ⟨none, some 56, .binI .add (.t 55) (.k (.int .i64 1))⟩,
  ⟨none, some 12, .mv (.t 56)⟩])))
abbrev F.graduslaw10_CoerceBlames : FuncId := 10
def mc_graduslaw10_CoerceBlames : MC :=
  (.seq (.reg [
  ⟨none, some 3, .boxP (.t 0)⟩,
  ⟨none, some 4, .boxP (.t 1)⟩,
  ⟨none, some 6, .mv (.k (.bool false))⟩])
  (.seq (.reg [
  ⟨none, some 13, .call 11 []⟩,
  ⟨none, some 7, .mv (.t 13)⟩])
  (.seq (.seq (.reg [
  ⟨none, some 14, .mv (.t 7)⟩,
  ⟨none, some 15, .not (.t 14)⟩,
  ⟨none, some 16, .mv (.t 15)⟩,
  ⟨(some (16, false)), some 17, .load true 4 (.t 3)⟩,
  ⟨(some (16, false)), some 18, .call 25 [(.t 17), (.k (.int .i64 300))]⟩,
  ⟨(some (16, false)), some 19, .binI .eql (.t 18) (.k (.int .i64 0))⟩,
  ⟨none, some 20, .pick (.t 16) (.k (.bool true)) (.t 19)⟩,
  ⟨none, some 21, .mv (.t 20)⟩,
  ⟨(some (21, false)), some 22, .load true 4 (.t 4)⟩,
  ⟨(some (21, false)), some 23, .call 25 [(.t 22), (.k (.int .i64 300))]⟩,
  ⟨(some (21, false)), some 24, .binI .eql (.t 23) (.k (.int .i64 0))⟩,
  ⟨none, some 25, .pick (.t 21) (.k (.bool true)) (.t 24)⟩,
  ⟨none, some 26, .mv (.t 25)⟩,
  ⟨(some (26, false)), some 27, .mv (.t 2)⟩,
  ⟨(some (26, false)), some 28, .binI .lss (.t 27) (.k (.int .i64 2))⟩,
  ⟨none, some 29, .pick (.t 26) (.k (.bool true)) (.t 28)⟩])
  (.cond (.t 29)
    (.seq (.reg [
    ⟨none, some 30, .mv (.t 7)⟩,
    ⟨none, some 6, .mv (.t 30)⟩])
    .ret)
    .skip))
  (.seq (.reg [
  ⟨none, some 31, .load true 4 (.t 3)⟩,
  ⟨none, some 32, .load true 4 (.t 4)⟩,
  ⟨none, some 33, .mv (.t 2)⟩,
  ⟨none, some 34, .call 28 [(.t 31), (.t 32), (.t 33)]⟩,
  ⟨none, some 8, .alloc [.sl true 1 [], .sl true 2 [], .sl true 1 [], .sl true 5 [], .sl true 5 []]⟩,
  ⟨none, none, .store 5 (.t 8) (.t 34)⟩])
  (.seq (.seq (.reg [
  ⟨none, some 35, .faddr 0 (.t 8)⟩,
  ⟨none, some 36, .load false 1 (.t 35)⟩,
  ⟨none, some 37, .len (.t 36)⟩,
  ⟨none, some 38, .binI .eql (.t 37) (.k (.int .i64 0))⟩])
  (.cond (.t 38)
    (.seq (.reg [
    ⟨none, some 39, .load true 4 (.t 3)⟩,
    ⟨none, some 40, .load true 4 (.t 3)⟩,
    ⟨none, some 41, .call 26 [(.t 39), (.t 40)]⟩,
    ⟨none, some 42, .not (.t 41)⟩,
    ⟨none, some 43, .mv (.t 42)⟩,
    ⟨(some (43, false)), some 44, .load true 4 (.t 4)⟩,
    ⟨(some (43, false)), some 45, .load true 4 (.t 4)⟩,
    ⟨(some (43, false)), some 46, .call 26 [(.t 44), (.t 45)]⟩,
    ⟨(some (43, false)), some 47, .not (.t 46)⟩,
    ⟨none, some 48, .pick (.t 43) (.k (.bool true)) (.t 47)⟩,
    ⟨none, some 6, .mv (.t 48)⟩])
    .ret)
    .skip))
  (.seq (.reg [
  ⟨none, some 49, .load true 5 (.t 8)⟩,
  ⟨none, some 50, .call 20 [(.t 49)]⟩,
  ⟨none, some 9, .mv (.t 50)⟩])
  (.seq (.reg [
  ⟨none, some 10, .mv (.k (.bool false))⟩])
  (.seq (.reg [
  ⟨none, some 11, .mv (.k (.bool false))⟩])
  (.seq (.seq (.reg [
  ⟨none, some 12, .mv (.k (.int .i64 0))⟩])
  (.block 0 (.loop lp_graduslaw10_CoerceBlames_0)))
  (.seq (.reg [
  ⟨none, some 91, .mv (.t 10)⟩,
  ⟨none, some 92, .load true 4 (.t 3)⟩,
  ⟨none, some 93, .load true 4 (.t 4)⟩,
  ⟨none, some 94, .call 29 [(.t 92), (.t 93)]⟩,
  ⟨none, some 95, .binB .neq (.t 91) (.t 94)⟩,
  ⟨none, some 96, .mv (.t 95)⟩,
  ⟨(some (96, true)), some 97, .mv (.t 11)⟩,
  ⟨(some (96, true)), some 98, .load true 4 (.t 3)⟩,
  ⟨(some (96, true)), some 99, .load true 4 (.t 4)⟩,
  ⟨(some (96, true)), some 100, .call 30 [(.t 98), (.t 99)]⟩,
  ⟨(some (96, true)), some 101, .binB .neq (.t 97) (.t 100)⟩,
  ⟨none, some 102, .pick (.t 96) (.t 101) (.k (.bool false))⟩,
  ⟨none, some 6, .mv (.t 102)⟩])
  .ret))))))))))
theorem w_graduslaw10_CoerceBlames {args : List DV} {v : DV} (hn : args.length ≤ 103) (h : DV.okL args → ∀ c : Ctx, c.N = 103 → c.pure → w_ Pg c mc_graduslaw10_CoerceBlames (endQ [.tmp 6] v) ⟨⟩ ⟨argT 0 args, fun _ => .non, 0⟩) : PCall Pg F.graduslaw10_CoerceBlames args v :=
  PCall.of_walk Tryz.func10 rfl (by kernel_rfl) (by kernel_rfl) (by kernel_rfl) hn fun o c e p => W.aw Pg_mixed (w_start (h o c e p))
def lv_graduslaw10_heavy_0 : List Nat := [1, 2, 5]
def lp_graduslaw10_heavy_0 : MC :=
  (.seq (.seq (.reg [
  ⟨none, some 19, .mv (.t 5)⟩,
  ⟨none, some 20, .faddr 3 (.t 2)⟩,
  ⟨none, some 21, .load false 1 (.t 20)⟩,
  ⟨none, some 22, .len (.t 21)⟩,
  ⟨none, some 23, .binI .lss (.t 19) (.t 22)⟩,
  ⟨none, some 24, .mv (.t 23)⟩,
  ⟨(some (24, true)), some 25, .mv (.t 1)⟩,
  ⟨(some (24, true)), some 26, .binI .gtr (.t 25) (.k (.int .i64 0))⟩,
  ⟨none, some 27, .pick (.t 24) (.t 26) (.k (.bool false))⟩])
  (.cond (.t 27)
    .skip
    (.exit 0)))
  (.seq (.block 1
    (.reg [
    ⟨none, some 30, .faddr 3 (.t 2)⟩,
    ⟨none, some 31, .load false 1 (.t 30)⟩,
    ⟨none, some 32, .mv (.t 5)⟩,
    ⟨none, some 33, .iaddrS 4 (.t 31) (.t 32)⟩,
    ⟨none, some 34, .load true 4 (.t 33)⟩,
    ⟨none, some 35, .mv (.t 1)⟩,
    ⟨none, some 36, .call 25 [(.t 34), (.t 35)]⟩,
    ⟨none, some 1, .mv (.t 36)⟩]))
  (.reg [
  ⟨none, some 28, .mv (.t 5)⟩,
  ⟨none, some 29, .binI .add (.t 28) (.k (.int .i64 1))⟩,
  ⟨none, some 5, .mv (.t 29)⟩])))
abbrev F.graduslaw10_heavy : FuncId := 25
def mc_graduslaw10_heavy : MC :=
  (.seq (.reg [
  ⟨none, some 2, .boxP (.t 0)⟩,
  ⟨none, some 4, .mv (.k (.int .i64 0))⟩])
  (.seq (.seq (.reg [
  ⟨none, some 6, .faddr 3 (.t 2)⟩,
  ⟨none, some 7, .load false 1 (.t 6)⟩,
  ⟨none, some 8, .len (.t 7)⟩,
  ⟨none, some 9, .mv (.t 1)⟩,
  ⟨none, some 10, .binI .gtr (.t 8) (.t 9)⟩,
  ⟨none, some 11, .mv (.t 10)⟩,
  ⟨(some (11, false)), some 12, .faddr 2 (.t 2)⟩,
  ⟨(some (11, false)), some 13, .load false 1 (.t 12)⟩,
  ⟨(some (11, false)), some 14, .len (.t 13)⟩,
  ⟨(some (11, false)), some 15, .binI .gtr (.t 14) (.k (.int .i64 1000))⟩,
  ⟨none, some 16, .pick (.t 11) (.k (.bool true)) (.t 15)⟩])
  (.cond (.t 16)
    (.seq (.reg [
    ⟨none, some 4, .mv (.k (.int .i64 0))⟩])
    .ret)
    .skip))
  (.seq (.reg [
  ⟨none, some 17, .mv (.t 1)⟩,
  ⟨none, some 18, .binI .sub (.t 17) (.k (.int .i64 1))⟩,
  ⟨none, some 1, .mv (.t 18)⟩])
  (.seq (.seq (.reg [
  ⟨none, some 5, .mv (.k (.int .i64 0))⟩])
  (.block 0 (.loop lp_graduslaw10_heavy_0)))
  (.seq (.reg [
  ⟨none, some 37, .mv (.t 1)⟩,
  ⟨none, some 4, .mv (.t 37)⟩])
  .ret)))))
theorem w_graduslaw10_heavy {args : List DV} {v : DV} (hn : args.length ≤ 38) (h : DV.okL args → ∀ c : Ctx, c.N = 38 → c.pure → w_ Pg c mc_graduslaw10_heavy (endQ [.tmp 4] v) ⟨⟩ ⟨argT 0 args, fun _ => .non, 0⟩) : PCall Pg F.graduslaw10_heavy args v :=
  PCall.of_walk Tryz.func25 rfl (by kernel_rfl) (by kernel_rfl) (by kernel_rfl) hn fun o c e p => W.aw Pg_mixed (w_start (h o c e p))
abbrev F.rel_Sub : FuncId := 26
def mc_rel_Sub : MC :=
  (.seq (.reg [
  ⟨none, some 2, .boxP (.t 0)⟩,
  ⟨none, some 3, .boxP (.t 1)⟩,
  ⟨none, some 4, .mv (.k (.bool false))⟩])
  (.seq (.reg [
  ⟨none, some 5, .load true 4 (.t 2)⟩,
  ⟨none, some 6, .load true 4 (.t 3)⟩,
  ⟨none, some 7, .buildSl 4 [(.t 5), (.t 6)]⟩,
  ⟨none, some 8, .call 46 [(.t 7)]⟩,
  ⟨none, some 9, .mv (.t 8)⟩,
  ⟨(some (9, true)), some 10, .load true 4 (.t 2)⟩,
  ⟨(some (9, true)), some 11, .load true 4 (.t 3)⟩,
  ⟨(some (9, true)), some 12, .call 47 [(.t 10), (.t 11), (.k (.bool false))]⟩,
  ⟨none, some 13, .pick (.t 9) (.t 12) (.k (.bool false))⟩,
  ⟨none, some 4, .mv (.t 13)⟩])
  .ret))
theorem w_rel_Sub {args : List DV} {v : DV} (hn : args.length ≤ 14) (h : DV.okL args → ∀ c : Ctx, c.N = 14 → c.pure → w_ Pg c mc_rel_Sub (endQ [.tmp 4] v) ⟨⟩ ⟨argT 0 args, fun _ => .non, 0⟩) : PCall Pg F.rel_Sub args v :=
  PCall.of_walk Tryz.func26 rfl (by kernel_rfl) (by kernel_rfl) (by kernel_rfl) hn fun o c e p => W.aw Pg_mixed (w_start (h o c e p))
abbrev F.rel_Pos : FuncId := 29
def mc_rel_Pos : MC :=
  (.seq (.reg [
  ⟨none, some 2, .boxP (.t 0)⟩,
  ⟨none, some 3, .boxP (.t 1)⟩,
  ⟨none, some 4, .mv (.k (.bool false))⟩])
  (.seq (.reg [
  ⟨none, some 5, .load true 4 (.t 2)⟩,
  ⟨none, some 6, .load true 4 (.t 3)⟩,
  ⟨none, some 7, .buildSl 4 [(.t 5), (.t 6)]⟩,
  ⟨none, some 8, .call 46 [(.t 7)]⟩,
  ⟨none, some 9, .mv (.t 8)⟩,
  ⟨(some (9, true)), some 10, .load true 4 (.t 2)⟩,
  ⟨(some (9, true)), some 11, .load true 4 (.t 3)⟩,
  ⟨(some (9, true)), some 12, .call 50 [(.t 10), (.t 11), (.k (.bool true))]⟩,
  ⟨none, some 13, .pick (.t 9) (.t 12) (.k (.bool false))⟩,
  ⟨none, some 4, .mv (.t 13)⟩])
  .ret))
theorem w_rel_Pos {args : List DV} {v : DV} (hn : args.length ≤ 14) (h : DV.okL args → ∀ c : Ctx, c.N = 14 → c.pure → w_ Pg c mc_rel_Pos (endQ [.tmp 4] v) ⟨⟩ ⟨argT 0 args, fun _ => .non, 0⟩) : PCall Pg F.rel_Pos args v :=
  PCall.of_walk Tryz.func29 rfl (by kernel_rfl) (by kernel_rfl) (by kernel_rfl) hn fun o c e p => W.aw Pg_mixed (w_start (h o c e p))
abbrev F.rel_Neg : FuncId := 30
def mc_rel_Neg : MC :=
  (.seq (.reg [
  ⟨none, some 2, .boxP (.t 0)⟩,
  ⟨none, some 3, .boxP (.t 1)⟩,
  ⟨none, some 4, .mv (.k (.bool false))⟩])
  (.seq (.reg [
  ⟨none, some 5, .load true 4 (.t 2)⟩,
  ⟨none, some 6, .load true 4 (.t 3)⟩,
  ⟨none, some 7, .buildSl 4 [(.t 5), (.t 6)]⟩,
  ⟨none, some 8, .call 46 [(.t 7)]⟩,
  ⟨none, some 9, .mv (.t 8)⟩,
  ⟨(some (9, true)), some 10, .load true 4 (.t 2)⟩,
  ⟨(some (9, true)), some 11, .load true 4 (.t 3)⟩,
  ⟨(some (9, true)), some 12, .call 50 [(.t 10), (.t 11), (.k (.bool false))]⟩,
  ⟨none, some 13, .pick (.t 9) (.t 12) (.k (.bool false))⟩,
  ⟨none, some 4, .mv (.t 13)⟩])
  .ret))
theorem w_rel_Neg {args : List DV} {v : DV} (hn : args.length ≤ 14) (h : DV.okL args → ∀ c : Ctx, c.N = 14 → c.pure → w_ Pg c mc_rel_Neg (endQ [.tmp 4] v) ⟨⟩ ⟨argT 0 args, fun _ => .non, 0⟩) : PCall Pg F.rel_Neg args v :=
  PCall.of_walk Tryz.func30 rfl (by kernel_rfl) (by kernel_rfl) (by kernel_rfl) hn fun o c e p => W.aw Pg_mixed (w_start (h o c e p))
def lv_rel_normal_0 : List Nat := [7, 8, 9]
def lp_rel_normal_0 : MC :=
  (.seq (.reg [
  ⟨none, some 10, .binI .lss (.t 9) (.t 8)⟩])
  (.seq (.cond (.t 10)
    .skip
    (.exit 0))
  (.seq (.block 1
    (.seq (.reg [
    ⟨none, some 11, .iaddrS 4 (.t 7) (.t 9)⟩,
    ⟨none, some 12, .load true 4 (.t 11)⟩,
    ⟨none, some 4, .alloc [.int .i64 0, .str (bs []), .sl true 1 [], .sl true 4 []]⟩,
    ⟨none, none, .store 4 (.t 4) (.t 12)⟩])
    (.seq (.reg [
    ⟨none, some 14, .load true 4 (.t 4)⟩,
    ⟨none, some 15, .call 65 [(.t 14)]⟩,
    ⟨none, some 13, .mv (.t 15)⟩,
    ⟨none, some 16, .extract (.t 13) 0⟩,
    ⟨none, some 17, .extract (.t 13) 1⟩,
    ⟨none, some 5, .alloc [.int .i64 0, .str (bs []), .sl true 1 [], .sl true 4 []]⟩,
    ⟨none, none, .store 4 (.t 5) (.t 16)⟩,
    ⟨none, some 6, .mv (.t 17)⟩])
    (.seq (.reg [
    ⟨none, some 18, .mv (.t 6)⟩,
    ⟨none, some 19, .binI .neq (.t 18) (.k (.int .i64 0))⟩,
    ⟨none, some 20, .mv (.t 19)⟩,
    ⟨(some (20, false)), some 21, .load true 4 (.t 5)⟩,
    ⟨(some (20, false)), some 22, .load true 4 (.t 4)⟩,
    ⟨(some (20, false)), some 23, .call 66 [(.t 21), (.t 22)]⟩,
    ⟨(some (20, false)), some 24, .not (.t 23)⟩,
    ⟨none, some 25, .pick (.t 20) (.k (.bool true)) (.t 24)⟩])
    (.cond (.t 25)
      (.seq (.reg [
      ⟨none, some 2, .mv (.k (.bool false))⟩])
      .ret)
      .skip)))))
  (.reg [
  ⟨none, some 26, .binI .add (.t 9) (.k (.int .i64 1))⟩,
  ⟨none, some 9, .mv (.t 26)⟩]))))
abbrev F.rel_normal : FuncId := 46
def mc_rel_normal : MC :=
  (.seq (.reg [
  ⟨none, some 2, .mv (.k (.bool false))⟩])
  (.seq (.seq (.reg [
  ⟨none, some 7, .mv (.t 0)⟩,
  ⟨none, some 8, .len (.t 7)⟩,
  ⟨none, some 9, .mv (.k (.int .i64 0))⟩])
  (.block 0 (.loop lp_rel_normal_0)))
  (.seq (.reg [
  ⟨none, some 2, .mv (.k (.bool true))⟩])
  .ret)))
theorem w_rel_normal {args : List DV} {v : DV} (hn : args.length ≤ 27) (h : DV.okL args → ∀ c : Ctx, c.N = 27 → c.pure → w_ Pg c mc_rel_normal (endQ [.tmp 2] v) ⟨⟩ ⟨argT 0 args, fun _ => .non, 0⟩) : PCall Pg F.rel_normal args v :=
  PCall.of_walk Tryz.func46 rfl (by kernel_rfl) (by kernel_rfl) (by kernel_rfl) hn fun o c e p => W.aw Pg_mixed (w_start (h o c e p))
abbrev F.rel_below : FuncId := 47
def mc_rel_below : MC :=
  (.seq (.reg [
  ⟨none, some 3, .boxP (.t 0)⟩,
  ⟨none, some 4, .boxP (.t 1)⟩,
  ⟨none, some 5, .boxP (.t 2)⟩,
  ⟨none, some 6, .mv (.k (.bool false))⟩])
  (.seq (.seq (.reg [
  ⟨none, some 7, .load true 4 (.t 3)⟩,
  ⟨none, some 8, .call 67 [(.t 7)]⟩,
  ⟨none, some 9, .mv (.t 8)⟩,
  ⟨(some (9, false)), some 10, .load true 4 (.t 4)⟩,
  ⟨(some (9, false)), some 11, .call 67 [(.t 10)]⟩,
  ⟨none, some 12, .pick (.t 9) (.k (.bool true)) (.t 11)⟩])
  (.cond (.t 12)
    (.seq (.reg [
    ⟨none, some 13, .load false 1 (.t 5)⟩,
    ⟨none, some 14, .mv (.t 13)⟩,
    ⟨(some (14, false)), some 15, .load true 4 (.t 3)⟩,
    ⟨(some (14, false)), some 16, .call 67 [(.t 15)]⟩,
    ⟨(some (14, false)), some 17, .mv (.t 16)⟩,
    ⟨(some (17, true)), some 18, .load true 4 (.t 4)⟩,
    ⟨(some (17, true)), some 19, .call 67 [(.t 18)]⟩,
    ⟨(some (14, false)), some 20, .pick (.t 17) (.t 19) (.k (.bool false))⟩,
    ⟨none, some 21, .pick (.t 14) (.k (.bool true)) (.t 20)⟩,
    ⟨none, some 6, .mv (.t 21)⟩])
    .ret)
    .skip))
  (.seq (.reg [
  ⟨none, some 22, .load true 4 (.t 3)⟩,
  ⟨none, some 23, .load true 4 (.t 4)⟩,
  ⟨none, some 24, .mkfn 69 [(.t 5)]⟩,
  ⟨none, some 25, .call 68 [(.t 22), (.t 23), (.k (.bool false)), (.t 24)]⟩,
  ⟨none, some 6, .mv (.t 25)⟩])
  .ret)))
theorem w_rel_below {args : List DV} {v : DV} (hn : args.length ≤ 26) (h : DV.okL args → ∀ c : Ctx, c.N = 26 → c.pure → w_ Pg c mc_rel_below (endQ [.tmp 6] v) ⟨⟩ ⟨argT 0 args, fun _ => .non, 0⟩) : PCall Pg F.rel_below args v :=
  PCall.of_walk Tryz.func47 rfl (by kernel_rfl) (by kernel_rfl) (by kernel_rfl) hn fun o c e p => W.aw Pg_mixed (w_start (h o c e p))
def lv_rel_below_1_0 : List Nat := [0, 1, 2, 14, 15, 16]
def lp_rel_below_1_0 : MC :=
  (.seq (.reg [
  ⟨none, some 17, .binI .lss (.t 16) (.t 15)⟩])
  (.seq (.cond (.t 17)
    .skip
    (.exit 0))
  (.seq (.block 1
    (.seq (.reg [
    ⟨none, some 18, .mv (.t 16)⟩,
    ⟨none, some 19, .iaddrS 1 (.t 14) (.t 16)⟩,
    ⟨none, some 20, .load false 1 (.t 19)⟩,
    ⟨none, some 6, .mv (.t 18)⟩,
    ⟨none, some 7, .mv (.t 20)⟩])
    (.seq (.reg [
    ⟨none, some 22, .mv (.t 0)⟩,
    ⟨none, some 23, .nilck (.t 22)⟩,
    ⟨none, some 24, .load true 6 (.t 23)⟩,
    ⟨none, some 25, .mv (.t 7)⟩,
    ⟨none, some 26, .call 70 [(.t 24), (.t 25)]⟩,
    ⟨none, some 21, .mv (.t 26)⟩,
    ⟨none, some 27, .extract (.t 21) 0⟩,
    ⟨none, some 28, .extract (.t 21) 1⟩,
    ⟨none, some 8, .alloc [.int .i64 0, .str (bs []), .sl true 1 [], .sl true 4 []]⟩,
    ⟨none, none, .store 4 (.t 8) (.t 27)⟩,
    ⟨none, some 9, .mv (.t 28)⟩])
    (.seq (.regd [0, 1, 3, 7, 7, 23, 55, 119, 247, 7, 1015, 2039, 7, 8191, 16383, 32767] [
    ⟨none, some 29, .mv (.t 9)⟩,
    ⟨none, some 30, .not (.t 29)⟩,
    ⟨none, some 31, .mv (.t 30)⟩,
    ⟨(some (31, false)), some 32, .load true 4 (.t 8)⟩,
    ⟨(some (31, false)), some 33, .mv (.t 1)⟩,
    ⟨(some (31, false)), some 34, .nilck (.t 33)⟩,
    ⟨(some (31, false)), some 35, .faddr 2 (.t 34)⟩,
    ⟨(some (31, false)), some 36, .faddr 3 (.t 35)⟩,
    ⟨(some (31, false)), some 37, .load false 1 (.t 36)⟩,
    ⟨(some (31, false)), some 38, .mv (.t 6)⟩,
    ⟨(some (31, false)), some 39, .iaddrS 4 (.t 37) (.t 38)⟩,
    ⟨(some (31, false)), some 40, .load true 4 (.t 39)⟩,
    ⟨(some (31, false)), some 41, .load false 1 (.t 2)⟩,
    ⟨(some (31, false)), some 42, .call 47 [(.t 32), (.t 40), (.t 41)]⟩,
    ⟨(some (31, false)), some 43, .not (.t 42)⟩,
    ⟨none, some 44, .pick (.t 31) (.k (.bool true)) (.t 43)⟩])
    (.cond (.t 44)
      (.seq (.reg [
      ⟨none, some 5, .mv (.k (.bool false))⟩])
      .ret)
      .skip)))))
  (.reg [
  ⟨none, some 45, .binI .add (.t 16) (.k (.int .i64 1))⟩,
  ⟨none, some 16, .mv (.t 45)⟩]))))
abbrev F.rel_below_1 : FuncId := 69
def mc_rel_below_1 : MC :=
  (.seq (.reg [
  ⟨none, some 5, .mv (.k (.bool false))⟩])
  (.seq (.seq (.reg [
  ⟨none, some 10, .mv (.t 1)⟩,
  ⟨none, some 11, .nilck (.t 10)⟩,
  ⟨none, some 12, .faddr 2 (.t 11)⟩,
  ⟨none, some 13, .faddr 2 (.t 12)⟩,
  ⟨none, some 14, .load false 1 (.t 13)⟩,
  ⟨none, some 15, .len (.t 14)⟩,
  ⟨none, some 16, .mv (.k (.int .i64 0))⟩])
  (.block 0 (.loop lp_rel_below_1_0)))
  (.seq (.regd [0, 1, 3, 7, 15, 31, 63, 127, 255, 511, 1023, 2047, 4095, 63, 8255, 24639, 57407, 122943, 254015, 516159, 63, 2097151, 4194303, 8388607, 16777215, 33554431, 67108863, 134217727, 268435455, 536870911, 8388607, 1082130431, 3229614079, 7524581375, 16114515967, 33294385151, 67654123519, 8388607, 274877906943, 549755813887, 1099511627775, 2199023255551] [
  ⟨none, some 46, .mv (.t 1)⟩,
  ⟨none, some 47, .nilck (.t 46)⟩,
  ⟨none, some 48, .faddr 0 (.t 47)⟩,
  ⟨none, some 49, .load false 1 (.t 48)⟩,
  ⟨none, some 50, .binI .neq (.t 49) (.k (.int .i64 5))⟩,
  ⟨none, some 51, .mv (.t 50)⟩,
  ⟨(some (51, false)), some 52, .mv (.t 1)⟩,
  ⟨(some (51, false)), some 53, .nilck (.t 52)⟩,
  ⟨(some (51, false)), some 54, .faddr 2 (.t 53)⟩,
  ⟨(some (51, false)), some 55, .faddr 3 (.t 54)⟩,
  ⟨(some (51, false)), some 56, .load false 1 (.t 55)⟩,
  ⟨(some (51, false)), some 57, .iaddrS 4 (.t 56) (.k (.int .i64 0))⟩,
  ⟨(some (51, false)), some 58, .load true 4 (.t 57)⟩,
  ⟨(some (51, false)), some 59, .mv (.t 0)⟩,
  ⟨(some (51, false)), some 60, .nilck (.t 59)⟩,
  ⟨(some (51, false)), some 61, .faddr 2 (.t 60)⟩,
  ⟨(some (51, false)), some 62, .faddr 3 (.t 61)⟩,
  ⟨(some (51, false)), some 63, .load false 1 (.t 62)⟩,
  ⟨(some (51, false)), some 64, .iaddrS 4 (.t 63) (.k (.int .i64 0))⟩,
  ⟨(some (51, false)), some 65, .load true 4 (.t 64)⟩,
  ⟨(some (51, false)), some 66, .load false 1 (.t 2)⟩,
  ⟨(some (51, false)), some 67, .call 47 [(.t 58), (.t 65), (.t 66)]⟩,
  ⟨(some (51, false)), some 68, .mv (.t 67)⟩,
  ⟨(some (68, true)), some 69, .mv (.t 0)⟩,
  ⟨(some (68, true)), some 70, .nilck (.t 69)⟩,
  ⟨(some (68, true)), some 71, .faddr 2 (.t 70)⟩,
  ⟨(some (68, true)), some 72, .faddr 3 (.t 71)⟩,
  ⟨(some (68, true)), some 73, .load false 1 (.t 72)⟩,
  ⟨(some (68, true)), some 74, .iaddrS 4 (.t 73) (.k (.int .i64 1))⟩,
  ⟨(some (68, true)), some 75, .load true 4 (.t 74)⟩,
  ⟨(some (68, true)), some 76, .mv (.t 1)⟩,
  ⟨(some (68, true)), some 77, .nilck (.t 76)⟩,
  ⟨(some (68, true)), some 78, .faddr 2 (.t 77)⟩,
  ⟨(some (68, true)), some 79, .faddr 3 (.t 78)⟩,
  ⟨(some (68, true)), some 80, .load false 1 (.t 79)⟩,
  ⟨(some (68, true)), some 81, .iaddrS 4 (.t 80) (.k (.int .i64 1))⟩,
  ⟨(some (68, true)), some 82, .load true 4 (.t 81)⟩,
  ⟨(some (68, true)), some 83, .load false 1 (.t 2)⟩,
  ⟨(some (68, true)), some 84, .call 47 [(.t 75), (.t 82), (.t 83)]⟩,
  ⟨(some (51, false)), some 85, .pick (.t 68) (.t 84) (.k (.bool false))⟩,
  ⟨none, some 86, .pick (.t 51) (.k (.bool true)) (.t 85)⟩,
  ⟨none, some 5, .mv (.t 86)⟩])
  .ret)))
theorem w_rel_below_1 {args : List DV} {v : DV} (hn : args.length ≤ 87) (h : DV.okL args → ∀ c : Ctx, c.N = 87 → c.pure → w_ Pg c mc_rel_below_1 (endQ [.tmp 5] v) ⟨⟩ ⟨argT 0 args, fun _ => .non, 0⟩) : PCall Pg F.rel_below_1 args v :=
  PCall.of_walk Tryz.func69 rfl (by kernel_rfl) (by kernel_rfl) (by kernel_rfl) hn fun o c e p => W.aw Pg_mixed (w_start (h o c e p))
abbrev F.rel_blames : FuncId := 50
def mc_rel_blames : MC :=
  (.seq (.reg [
  ⟨none, some 3, .boxP (.t 0)⟩,
  ⟨none, some 4, .boxP (.t 1)⟩,
  ⟨none, some 5, .boxP (.t 2)⟩,
  ⟨none, some 6, .mv (.k (.bool false))⟩])
  (.seq (.seq (.reg [
  ⟨none, some 7, .load true 4 (.t 3)⟩,
  ⟨none, some 8, .call 67 [(.t 7)]⟩,
  ⟨none, some 9, .mv (.t 8)⟩,
  ⟨(some (9, true)), some 10, .load true 4 (.t 4)⟩,
  ⟨(some (9, true)), some 11, .call 67 [(.t 10)]⟩,
  ⟨none, some 12, .pick (.t 9) (.t 11) (.k (.bool false))⟩])
  (.cond (.t 12)
    (.seq (.reg [
    ⟨none, some 6, .mv (.k (.bool true))⟩])
    .ret)
    .skip))
  (.seq (.reg [
  ⟨none, some 13, .load true 4 (.t 3)⟩,
  ⟨none, some 14, .load true 4 (.t 4)⟩,
  ⟨none, some 15, .load false 1 (.t 5)⟩,
  ⟨none, some 16, .not (.t 15)⟩,
  ⟨none, some 17, .mkfn 74 [(.t 5)]⟩,
  ⟨none, some 18, .call 68 [(.t 13), (.t 14), (.t 16), (.t 17)]⟩,
  ⟨none, some 6, .mv (.t 18)⟩])
  .ret)))
theorem w_rel_blames {args : List DV} {v : DV} (hn : args.length ≤ 19) (h : DV.okL args → ∀ c : Ctx, c.N = 19 → c.pure → w_ Pg c mc_rel_blames (endQ [.tmp 6] v) ⟨⟩ ⟨argT 0 args, fun _ => .non, 0⟩) : PCall Pg F.rel_blames args v :=
  PCall.of_walk Tryz.func50 rfl (by kernel_rfl) (by kernel_rfl) (by kernel_rfl) hn fun o c e p => W.aw Pg_mixed (w_start (h o c e p))
def lv_rel_blames_1_0 : List Nat := [0, 1, 2, 67, 68, 69]
def lp_rel_blames_1_0 : MC :=
  (.seq (.reg [
  ⟨none, some 70, .binI .lss (.t 69) (.t 68)⟩])
  (.seq (.cond (.t 70)
    .skip
    (.exit 0))
  (.seq (.block 1
    (.seq (.reg [
    ⟨none, some 71, .iaddrS 1 (.t 67) (.t 69)⟩,
    ⟨none, some 72, .load false 1 (.t 71)⟩,
    ⟨none, some 8, .mv (.t 72)⟩])
    (.seq (.reg [
    ⟨none, some 74, .mv (.t 0)⟩,
    ⟨none, some 75, .nilck (.t 74)⟩,
    ⟨none, some 76, .load true 6 (.t 75)⟩,
    ⟨none, some 77, .mv (.t 8)⟩,
    ⟨none, some 78, .call 70 [(.t 76), (.t 77)]⟩,
    ⟨none, some 73, .mv (.t 78)⟩,
    ⟨none, some 79, .extract (.t 73) 0⟩,
    ⟨none, some 80, .extract (.t 73) 1⟩,
    ⟨none, some 9, .alloc [.int .i64 0, .str (bs []), .sl true 1 [], .sl true 4 []]⟩,
    ⟨none, none, .store 4 (.t 9) (.t 79)⟩,
    ⟨none, some 10, .mv (.t 80)⟩])
    (.seq (.reg [
    ⟨none, some 82, .mv (.t 1)⟩,
    ⟨none, some 83, .nilck (.t 82)⟩,
    ⟨none, some 84, .load true 6 (.t 83)⟩,
    ⟨none, some 85, .mv (.t 8)⟩,
    ⟨none, some 86, .call 70 [(.t 84), (.t 85)]⟩,
    ⟨none, some 81, .mv (.t 86)⟩,
    ⟨none, some 87, .extract (.t 81) 0⟩,
    ⟨none, some 88, .extract (.t 81) 1⟩,
    ⟨none, some 11, .alloc [.int .i64 0, .str (bs []), .sl true 1 [], .sl true 4 []]⟩,
    ⟨none, none, .store 4 (.t 11) (.t 87)⟩,
    ⟨none, some 12, .mv (.t 88)⟩])
    (.seq (.reg [
    ⟨none, some 89, .load false 1 (.t 2)⟩,
    ⟨none, some 90, .mv (.t 89)⟩,
    ⟨(some (90, true)), some 91, .mv (.t 10)⟩,
    ⟨(some (90, true)), some 92, .not (.t 91)⟩,
    ⟨(some (90, true)), some 93, .mv (.t 92)⟩,
    ⟨(some (93, false)), some 94, .mv (.t 0)⟩,
    ⟨(some (93, false)), some 95, .nilck (.t 94)⟩,
    ⟨(some (93, false)), some 96, .faddr 1 (.t 95)⟩,
    ⟨(some (93, false)), some 97, .load false 1 (.t 96)⟩,
    ⟨(some (90, true)), some 98, .pick (.t 93) (.k (.bool true)) (.t 97)⟩,
    ⟨none, some 99, .pick (.t 90) (.t 98) (.k (.bool false))⟩,
    ⟨none, some 100, .mv (.t 99)⟩,
    ⟨(some (100, false)), some 101, .mv (.t 10)⟩,
    ⟨(some (100, false)), some 102, .mv (.t 101)⟩,
    ⟨(some (102, true)), some 103, .load true 4 (.t 9)⟩,
    ⟨(some (102, true)), some 104, .load true 4 (.t 11)⟩,
    ⟨(some (102, true)), some 105, .load false 1 (.t 2)⟩,
    ⟨(some (102, true)), some 106, .call 50 [(.t 103), (.t 104), (.t 105)]⟩,
    ⟨(some (102, true)), some 107, .not (.t 106)⟩,
    ⟨(some (100, false)), some 108, .pick (.t 102) (.t 107) (.k (.bool false))⟩,
    ⟨none, some 109, .pick (.t 100) (.k (.bool true)) (.t 108)⟩])
    (.cond (.t 109)
      (.seq (.reg [
      ⟨none, some 5, .mv (.k (.bool false))⟩])
      .ret)
      .skip))))))
  (.reg [
  ⟨none, some 110, .binI .add (.t 69) (.k (.int .i64 1))⟩,
  ⟨none, some 69, .mv (.t 110)⟩]))))
abbrev F.rel_blames_1 : FuncId := 74
def mc_rel_blames_1 : MC :=
  (.seq (.reg [
  ⟨none, some 5, .mv (.k (.bool false))⟩])
  (.seq (.seq (.reg [
  ⟨none, some 13, .mv (.t 1)⟩,
  ⟨none, some 14, .nilck (.t 13)⟩,
  ⟨none, some 15, .faddr 0 (.t 14)⟩,
  ⟨none, some 16, .load false 1 (.t 15)⟩,
  ⟨none, some 17, .binI .eql (.t 16) (.k (.int .i64 5))⟩])
  (.cond (.t 17)
    (.seq (.regd [0, 1, 3, 7, 15, 31, 63, 0, 128, 384, 896, 1920, 3968, 8064, 0, 16384, 65535, 131071, 262143, 524287, 1048575, 2097151, 4194303, 8388607, 16777215, 262143, 33816575, 100925439, 235143167, 503578623, 1040449535, 2114191359, 262143, 8589934591, 17179869183, 34359738367] [
    ⟨none, some 18, .mv (.t 1)⟩,
    ⟨none, some 19, .nilck (.t 18)⟩,
    ⟨none, some 20, .faddr 2 (.t 19)⟩,
    ⟨none, some 21, .faddr 3 (.t 20)⟩,
    ⟨none, some 22, .load false 1 (.t 21)⟩,
    ⟨none, some 23, .iaddrS 4 (.t 22) (.k (.int .i64 0))⟩,
    ⟨none, some 24, .load true 4 (.t 23)⟩,
    ⟨none, some 25, .mv (.t 0)⟩,
    ⟨none, some 26, .nilck (.t 25)⟩,
    ⟨none, some 27, .faddr 2 (.t 26)⟩,
    ⟨none, some 28, .faddr 3 (.t 27)⟩,
    ⟨none, some 29, .load false 1 (.t 28)⟩,
    ⟨none, some 30, .iaddrS 4 (.t 29) (.k (.int .i64 0))⟩,
    ⟨none, some 31, .load true 4 (.t 30)⟩,
    ⟨none, some 32, .load false 1 (.t 2)⟩,
    ⟨none, some 33, .not (.t 32)⟩,
    ⟨none, some 34, .call 50 [(.t 24), (.t 31), (.t 33)]⟩,
    ⟨none, some 35, .mv (.t 34)⟩,
    ⟨(some (35, true)), some 36, .mv (.t 0)⟩,
    ⟨(some (35, true)), some 37, .nilck (.t 36)⟩,
    ⟨(some (35, true)), some 38, .faddr 2 (.t 37)⟩,
    ⟨(some (35, true)), some 39, .faddr 3 (.t 38)⟩,
    ⟨(some (35, true)), some 40, .load false 1 (.t 39)⟩,
    ⟨(some (35, true)), some 41, .iaddrS 4 (.t 40) (.k (.int .i64 1))⟩,
    ⟨(some (35, true)), some 42, .load true 4 (.t 41)⟩,
    ⟨(some (35, true)), some 43, .mv (.t 1)⟩,
    ⟨(some (35, true)), some 44, .nilck (.t 43)⟩,
    ⟨(some (35, true)), some 45, .faddr 2 (.t 44)⟩,
    ⟨(some (35, true)), some 46, .faddr 3 (.t 45)⟩,
    ⟨(some (35, true)), some 47, .load false 1 (.t 46)⟩,
    ⟨(some (35, true)), some 48, .iaddrS 4 (.t 47) (.k (.int .i64 1))⟩,
    ⟨(some (35, true)), some 49, .load true 4 (.t 48)⟩,
    ⟨(some (35, true)), some 50, .load false 1 (.t 2)⟩,
    ⟨(some (35, true)), some 51, .call 50 [(.t 42), (.t 49), (.t 50)]⟩,
    ⟨none, some 52, .pick (.t 35) (.t 51) (.k (.bool false))⟩,
    ⟨none, some 5, .mv (.t 52)⟩])
    .ret)
    .skip))
  (.seq (.reg [
  ⟨none, some 53, .mv (.t 1)⟩,
  ⟨none, some 54, .nilck (.t 53)⟩,
  ⟨none, some 55, .faddr 2 (.t 54)⟩,
  ⟨none, some 56, .faddr 2 (.t 55)⟩,
  ⟨none, some 57, .load false 1 (.t 56)⟩,
  ⟨none, some 6, .mv (.t 57)⟩])
  (.seq (.seq (.reg [
  ⟨none, some 58, .mv (.t 1)⟩,
  ⟨none, some 59, .nilck (.t 58)⟩,
  ⟨none, some 60, .faddr 1 (.t 59)⟩,
  ⟨none, some 61, .load false 1 (.t 60)⟩])
  (.cond (.t 61)
    (.reg [
    ⟨none, some 62, .mv (.t 0)⟩,
    ⟨none, some 63, .nilck (.t 62)⟩,
    ⟨none, some 64, .faddr 2 (.t 63)⟩,
    ⟨none, some 65, .faddr 2 (.t 64)⟩,
    ⟨none, some 66, .load false 1 (.t 65)⟩,
    ⟨none, some 6, .mv (.t 66)⟩])
    .skip))
  (.seq (.seq (.reg [
  ⟨none, some 67, .mv (.t 6)⟩,
  ⟨none, some 68, .len (.t 67)⟩,
  ⟨none, some 69, .mv (.k (.int .i64 0))⟩])
  (.block 0 (.loop lp_rel_blames_1_0)))
  (.seq (.reg [
  ⟨none, some 5, .mv (.k (.bool true))⟩])
  .ret))))))
theorem w_rel_blames_1 {args : List DV} {v : DV} (hn : args.length ≤ 111) (h : DV.okL args → ∀ c : Ctx, c.N = 111 → c.pure → w_ Pg c mc_rel_blames_1 (endQ [.tmp 5] v) ⟨⟩ ⟨argT 0 args, fun _ => .non, 0⟩) : PCall Pg F.rel_blames_1 args v :=
  PCall.of_walk Tryz.func74 rfl (by kernel_rfl) (by kernel_rfl) (by kernel_rfl) hn fun o c e p => W.aw Pg_mixed (w_start (h o c e p))
def lv_rel_each_0 : List Nat := [2, 3, 10, 17, 18]
def lp_rel_each_0 : MC :=
  (.seq (.reg [
  ⟨none, some 19, .binI .lss (.t 18) (.k (.int .i64 6))⟩])
  (.seq (.cond (.t 19)
    .skip
    (.exit 0))
  (.seq (.block 1
    (.seq (.reg [
    ⟨none, some 20, .mv (.t 18)⟩,
    ⟨none, some 21, .idxA false 6 1 (.t 17) (.t 18)⟩,
    ⟨none, some 11, .mv (.t 20)⟩,
    ⟨none, some 12, .mv (.t 21)⟩])
    (.block 2
      (.seq (.reg [
      ⟨none, some 23, .mv (.t 12)⟩,
      ⟨none, some 24, .isNilP false (.t 23)⟩,
      ⟨none, some 22, .mv (.t 24)⟩])
      (.cond (.t 22)
        (.exit 1)
        (.seq (.reg [
        ⟨none, some 26, .mv (.t 11)⟩,
        ⟨none, some 27, .iaddrA 6 1 (.t 10) (.t 26)⟩,
        ⟨none, some 28, .load false 1 (.t 27)⟩,
        ⟨none, some 29, .isNilP false (.t 28)⟩,
        ⟨none, some 30, .mv (.t 29)⟩,
        ⟨(some (30, true)), some 31, .mv (.t 2)⟩,
        ⟨(some (30, true)), some 32, .not (.t 31)⟩,
        ⟨none, some 33, .pick (.t 30) (.t 32) (.k (.bool false))⟩,
        ⟨none, some 25, .mv (.t 33)⟩])
        (.cond (.t 25)
          (.seq (.reg [
          ⟨none, some 8, .mv (.k (.bool false))⟩])
          .ret)
          (.seq (.reg [
          ⟨none, some 35, .mv (.t 11)⟩,
          ⟨none, some 36, .iaddrA 6 1 (.t 10) (.t 35)⟩,
          ⟨none, some 37, .load false 1 (.t 36)⟩,
          ⟨none, some 38, .isNilP true (.t 37)⟩,
          ⟨none, some 39, .mv (.t 38)⟩,
          ⟨(some (39, true)), some 40, .mv (.t 3)⟩,
          ⟨(some (39, true)), some 41, .mv (.t 12)⟩,
          ⟨(some (39, true)), some 42, .mv (.t 11)⟩,
          ⟨(some (39, true)), some 43, .iaddrA 6 1 (.t 10) (.t 42)⟩,
          ⟨(some (39, true)), some 44, .load false 1 (.t 43)⟩,
          ⟨(some (39, true)), some 45, .calld (.t 40) [(.t 41), (.t 44)]⟩,
          ⟨(some (39, true)), some 46, .not (.t 45)⟩,
          ⟨none, some 47, .pick (.t 39) (.t 46) (.k (.bool false))⟩,
          ⟨none, some 34, .mv (.t 47)⟩])
          (.cond (.t 34)
            (.seq (.reg [
            ⟨none, some 8, .mv (.k (.bool false))⟩])
            .ret)
            .skip)))))))))
  (.reg [
  ⟨none, some 48, .binI .add (.t 18) (.k (.int .i64 1))⟩,
  ⟨none, some 18, .mv (.t 48)⟩]))))
abbrev F.rel_each : FuncId := 68
def mc_rel_each : MC :=
  (.seq (.reg [
  ⟨none, some 4, .boxP (.t 0)⟩,
  ⟨none, some 5, .boxP (.t 1)⟩,
  ⟨none, some 8, .mv (.k (.bool false))⟩])
  (.seq (.regd [0, 1, 0, 7, 0, 0, 63, 127] [
  ⟨none, some 13, .load true 4 (.t 4)⟩,
  ⟨none, some 14, .call 87 [(.t 13)]⟩,
  ⟨none, some 15, .load true 4 (.t 5)⟩,
  ⟨none, some 16, .call 87 [(.t 15)]⟩,
  ⟨none, some 9, .alloc [.sc (.pointer none), .sc (.pointer none), .sc (.pointer none), .sc (.pointer none), .sc (.pointer none), .sc (.pointer none)]⟩,
  ⟨none, some 10, .alloc [.sc (.pointer none), .sc (.pointer none), .sc (.pointer none), .sc (.pointer none), .sc (.pointer none), .sc (.pointer none)]⟩,
  ⟨none, none, .store 6 (.t 9) (.t 14)⟩,
  ⟨none, none, .store 6 (.t 10) (.t 16)⟩])
  (.seq (.seq (.reg [
  ⟨none, some 17, .load true 6 (.t 9)⟩,
  ⟨none, some 18, .mv (.k (.int .i64 0))⟩])
  (.block 0 (.loop lp_rel_each_0)))
  (.seq (.reg [
  ⟨none, some 8, .mv (.k (.bool true))⟩])
  .ret))))
theorem w_rel_each {args : List DV} {v : DV} (hn : args.length ≤ 49) (h : DV.okL args → ∀ c : Ctx, c.N = 49 → c.pure → w_ Pg c mc_rel_each (endQ [.tmp 8] v) ⟨⟩ ⟨argT 0 args, fun _ => .non, 0⟩) : PCall Pg F.rel_each args v :=
  PCall.of_walk Tryz.func68 rfl (by kernel_rfl) (by kernel_rfl) (by kernel_rfl) hn fun o c e p => W.aw Pg_mixed (w_start (h o c e p))
def lv_rel_parts_1 : List Nat := [1, 2, 3, 28, 29, 30]
def lp_rel_parts_1 : MC :=
  (.seq (.reg [
  ⟨none, some 31, .binI .lss (.t 30) (.t 29)⟩])
  (.seq (.cond (.t 31)
    .skip
    (.exit 1))
  (.seq (.block 2
    (.seq (.reg [
    ⟨none, some 32, .iaddrS 4 (.t 28) (.t 30)⟩,
    ⟨none, some 33, .load true 4 (.t 32)⟩,
    ⟨none, some 6, .alloc [.int .i64 0, .str (bs []), .sl true 1 [], .sl true 4 []]⟩,
    ⟨none, none, .store 4 (.t 6) (.t 33)⟩])
    (.seq (.reg [
    ⟨none, some 34, .load true 4 (.t 6)⟩,
    ⟨none, some 35, .call 108 [(.t 34)]⟩,
    ⟨none, some 7, .mv (.t 35)⟩])
    (.regd [0, 0, 0, 4, 12, 28, 60, 124, 0, 510, 1022, 2047, 4095] [
    ⟨none, some 36, .mv (.t 7)⟩,
    ⟨none, some 37, .mv (.t 7)⟩,
    ⟨none, some 38, .load true 4 (.t 1)⟩,
    ⟨none, some 39, .call 67 [(.t 38)]⟩,
    ⟨none, some 40, .mv (.t 39)⟩,
    ⟨(some (40, true)), some 41, .mv (.t 7)⟩,
    ⟨(some (40, true)), some 42, .binI .eql (.t 41) (.k (.int .i64 4))⟩,
    ⟨none, some 43, .pick (.t 40) (.t 42) (.k (.bool false))⟩,
    ⟨none, some 44, .load true 4 (.t 6)⟩,
    ⟨none, some 45, .build [.int .i64 0, .bool false, .int .i64 0, .str (bs []), .sl true 1 [], .sl true 4 []] [(0, 1, (.t 37)), (1, 1, (.t 43)), (2, 4, (.t 44))]⟩,
    ⟨none, some 46, .boxP (.t 45)⟩,
    ⟨none, some 47, .iaddrA 6 1 (.t 3) (.t 36)⟩,
    ⟨none, none, .store 1 (.t 47) (.t 46)⟩]))))
  (.reg [
  ⟨none, some 48, .binI .add (.t 30) (.k (.int .i64 1))⟩,
  ⟨none, some 30, .mv (.t 48)⟩]))))
abbrev F.rel_parts : FuncId := 87
def mc_rel_parts : MC :=
  (.seq (.reg [
  ⟨none, some 1, .boxP (.t 0)⟩,
  ⟨none, some 2, .alloc [.sc (.pointer none), .sc (.pointer none), .sc (.pointer none), .sc (.pointer none), .sc (.pointer none), .sc (.pointer none)]⟩])
  (.seq (.reg [
  ⟨none, some 3, .alloc [.sc (.pointer none), .sc (.pointer none), .sc (.pointer none), .sc (.pointer none), .sc (.pointer none), .sc (.pointer none)]⟩])
  (.seq (.reg [
  ⟨none, some 8, .load true 4 (.t 1)⟩,
  ⟨none, some 9, .buildSl 4 [(.t 8)]⟩,
  ⟨none, some 4, .mv (.t 9)⟩])
  (.seq (.seq (.reg [
  ⟨none, some 10, .faddr 0 (.t 1)⟩,
  ⟨none, some 11, .load false 1 (.t 10)⟩])
  (.block 0
    (.seq (.reg [
    ⟨none, some 13, .binI .eql (.t 11) (.k (.int .i64 0))⟩,
    ⟨none, some 12, .mv (.t 13)⟩])
    (.cond (.t 12)
      (.reg [
      ⟨none, some 14, .build [.int .i64 0, .str (bs []), .sl true 1 [], .sl true 4 []] [(0, 1, (.k (.int .i64 1)))]⟩,
      ⟨none, some 15, .build [.int .i64 0, .str (bs []), .sl true 1 [], .sl true 4 []] [(0, 1, (.k (.int .i64 2)))]⟩,
      ⟨none, some 16, .build [.int .i64 0, .str (bs []), .sl true 1 [], .sl true 4 []] [(0, 1, (.k (.int .i64 3)))]⟩,
      ⟨none, some 17, .build [.int .i64 0, .str (bs []), .sl true 1 [], .sl true 4 []] [(0, 1, (.k (.int .i64 4)))]⟩,
      ⟨none, some 18, .build [.int .i64 0, .str (bs []), .sl true 1 [], .sl true 4 []] [(0, 1, (.k (.int .i64 5)))]⟩,
      ⟨none, some 19, .build [.int .i64 0, .str (bs []), .sl true 1 [], .sl true 4 []] []⟩,
      ⟨none, some 20, .build [.int .i64 0, .str (bs []), .sl true 1 [], .sl true 4 []] []⟩,
      ⟨none, some 21, .buildSl 4 [(.t 19), (.t 20)]⟩,
      ⟨none, some 22, .build [.int .i64 0, .str (bs []), .sl true 1 [], .sl true 4 []] [(0, 1, (.k (.int .i64 6))), (3, 1, (.t 21))]⟩,
      ⟨none, some 23, .buildSl 4 [(.t 14), (.t 15), (.t 16), (.t 17), (.t 18), (.t 22)]⟩,
      ⟨none, some 4, .mv (.t 23)⟩])
      (.seq (.reg [
      ⟨none, some 25, .binI .eql (.t 11) (.k (.int .i64 7))⟩,
      ⟨none, some 24, .mv (.t 25)⟩])
      (.cond (.t 24)
        (.reg [
        ⟨none, some 26, .faddr 3 (.t 1)⟩,
        ⟨none, some 27, .load false 1 (.t 26)⟩,
        ⟨none, some 4, .mv (.t 27)⟩])
        .skip))))))
  (.seq (.seq (.reg [
  ⟨none, some 28, .mv (.t 4)⟩,
  ⟨none, some 29, .len (.t 28)⟩,
  ⟨none, some 30, .mv (.k (.int .i64 0))⟩])
  (.block 1 (.loop lp_rel_parts_1)))
  (.seq (.reg [
  ⟨none, some 49, .load true 6 (.t 3)⟩,
  ⟨none, none, .store 6 (.t 2) (.t 49)⟩])
  .ret))))))
theorem w_rel_parts {args : List DV} {v : DV} (hn : args.length ≤ 50) (h : DV.okL args → ∀ c : Ctx, c.N = 50 → c.pure → w_ Pg c mc_rel_parts (endQ [.cell 2 true 6] v) ⟨⟩ ⟨argT 0 args, fun _ => .non, 0⟩) : PCall Pg F.rel_parts args v :=
  PCall.of_walk Tryz.func87 rfl (by kernel_rfl) (by kernel_rfl) (by kernel_rfl) hn fun o c e p => W.aw Pg_mixed (w_start (h o c e p))
abbrev F.rel_part_kid : FuncId := 70
def mc_rel_part_kid : MC :=
  (.seq (.reg [
  ⟨none, some 2, .boxP (.t 0)⟩,
  ⟨none, some 4, .alloc [.int .i64 0, .str (bs []), .sl true 1 [], .sl true 4 []]⟩,
  ⟨none, some 5, .mv (.k (.bool false))⟩])
  (.seq (.reg [
  ⟨none, some 7, .faddr 2 (.t 2)⟩,
  ⟨none, some 8, .faddr 2 (.t 7)⟩,
  ⟨none, some 9, .load false 1 (.t 8)⟩,
  ⟨none, some 10, .mv (.t 1)⟩,
  ⟨none, some 11, .call 88 [(.t 9), (.t 10)]⟩,
  ⟨none, some 6, .mv (.t 11)⟩])
  (.seq (.seq (.reg [
  ⟨none, some 12, .mv (.t 6)⟩,
  ⟨none, some 13, .binI .lss (.t 12) (.k (.int .i64 0))⟩])
  (.cond (.t 13)
    (.seq (.regd [0, 0, 2, 1, 15] [
    ⟨none, some 14, .build [.int .i64 0, .str (bs []), .sl true 1 [], .sl true 4 []] []⟩,
    ⟨none, some 15, .faddr 1 (.t 2)⟩,
    ⟨none, some 16, .load false 1 (.t 15)⟩,
    ⟨none, none, .store 4 (.t 4) (.t 14)⟩,
    ⟨none, some 5, .mv (.t 16)⟩])
    .ret)
    .skip))
  (.seq (.reg [
  ⟨none, some 17, .faddr 2 (.t 2)⟩,
  ⟨none, some 18, .faddr 3 (.t 17)⟩,
  ⟨none, some 19, .load false 1 (.t 18)⟩,
  ⟨none, some 20, .mv (.t 6)⟩,
  ⟨none, some 21, .iaddrS 4 (.t 19) (.t 20)⟩,
  ⟨none, some 22, .load true 4 (.t 21)⟩,
  ⟨none, none, .store 4 (.t 4) (.t 22)⟩,
  ⟨none, some 5, .mv (.k (.bool true))⟩])
  .ret))))
theorem w_rel_part_kid {args : List DV} {v : DV} (hn : args.length ≤ 23) (h : DV.okL args → ∀ c : Ctx, c.N = 23 → c.pure → w_ Pg c mc_rel_part_kid (endQ [.cell 4 true 4, .tmp 5] v) ⟨⟩ ⟨argT 0 args, fun _ => .non, 0⟩) : PCall Pg F.rel_part_kid args v :=
  PCall.of_walk Tryz.func70 rfl (by kernel_rfl) (by kernel_rfl) (by kernel_rfl) hn fun o c e p => W.aw Pg_mixed (w_start (h o c e p))
abbrev F.rel_dynamic : FuncId := 67
def mc_rel_dynamic : MC :=
  (.seq (.reg [
  ⟨none, some 1, .boxP (.t 0)⟩,
  ⟨none, some 2, .mv (.k (.bool false))⟩])
  (.seq (.reg [
  ⟨none, some 3, .faddr 0 (.t 1)⟩,
  ⟨none, some 4, .load false 1 (.t 3)⟩,
  ⟨none, some 5, .binI .eql (.t 4) (.k (.int .i64 0))⟩,
  ⟨none, some 2, .mv (.t 5)⟩])
  .ret))
theorem w_rel_dynamic {args : List DV} {v : DV} (hn : args.length ≤ 6) (h : DV.okL args → ∀ c : Ctx, c.N = 6 → c.pure → w_ Pg c mc_rel_dynamic (endQ [.tmp 2] v) ⟨⟩ ⟨argT 0 args, fun _ => .non, 0⟩) : PCall Pg F.rel_dynamic args v :=
  PCall.of_walk Tryz.func67 rfl (by kernel_rfl) (by kernel_rfl) (by kernel_rfl) hn fun o c e p => W.aw Pg_mixed (w_start (h o c e p))
def lv_types_union_2 : List Nat := [2, 4, 5, 15, 16, 17, 28, 29, 30]
def lp_types_union_2 : MC :=
  (.seq (.reg [
  ⟨none, some 31, .binI .lss (.t 30) (.t 29)⟩])
  (.seq (.cond (.t 31)
    .skip
    (.exit 2))
  (.seq (.block 3
    (.seq (.reg [
    ⟨none, some 32, .iaddrS 4 (.t 28) (.t 30)⟩,
    ⟨none, some 33, .load true 4 (.t 32)⟩,
    ⟨none, some 10, .alloc [.int .i64 0, .str (bs []), .sl true 1 [], .sl true 4 []]⟩,
    ⟨none, none, .store 4 (.t 10) (.t 33)⟩])
    (.seq (.reg [
    ⟨none, some 34, .mv (.t 5)⟩,
    ⟨none, some 35, .load true 4 (.t 10)⟩,
    ⟨none, some 36, .calldM (.t 34) [(.t 35)]⟩,
    ⟨none, some 37, .not (.t 36)⟩])
    (.cond (.t 37)
      (.seq (.reg [
      ⟨none, some 38, .build [.int .i64 0, .str (bs []), .sl true 1 [], .sl true 4 []] []⟩,
      ⟨none, none, .store 4 (.t 2) (.t 38)⟩,
      ⟨none, some 3, .mv (.k (.bool false))⟩])
      .ret)
      .skip))))
  (.reg [
  ⟨none, some 39, .binI .add (.t 30) (.k (.int .i64 1))⟩,
  ⟨none, some 30, .mv (.t 39)⟩]))))
def lv_types_union_0 : List Nat := [2, 4, 5, 15, 16, 17]
def lp_types_union_0 : MC :=
  (.seq (.reg [
  ⟨none, some 18, .binI .lss (.t 17) (.t 16)⟩])
  (.seq (.cond (.t 18)
    .skip
    (.exit 0))
  (.seq (.block 1
    (.seq (.reg [
    ⟨none, some 19, .iaddrS 4 (.t 15) (.t 17)⟩,
    ⟨none, some 20, .load true 4 (.t 19)⟩,
    ⟨none, some 7, .alloc [.int .i64 0, .str (bs []), .sl true 1 [], .sl true 4 []]⟩,
    ⟨none, none, .store 4 (.t 7) (.t 20)⟩])
    (.seq (.reg [
    ⟨none, some 21, .load true 4 (.t 7)⟩,
    ⟨none, some 22, .buildSl 4 [(.t 21)]⟩,
    ⟨none, some 8, .mv (.t 22)⟩])
    (.seq (.seq (.reg [
    ⟨none, some 23, .faddr 0 (.t 7)⟩,
    ⟨none, some 24, .load false 1 (.t 23)⟩,
    ⟨none, some 25, .binI .eql (.t 24) (.k (.int .i64 7))⟩])
    (.cond (.t 25)
      (.reg [
      ⟨none, some 26, .faddr 3 (.t 7)⟩,
      ⟨none, some 27, .load false 1 (.t 26)⟩,
      ⟨none, some 8, .mv (.t 27)⟩])
      .skip))
    (.seq (.reg [
    ⟨none, some 28, .mv (.t 8)⟩,
    ⟨none, some 29, .len (.t 28)⟩,
    ⟨none, some 30, .mv (.k (.int .i64 0))⟩])
    (.block 2 (.loop lp_types_union_2)))))))
  (.reg [
  ⟨none, some 40, .binI .add (.t 17) (.k (.int .i64 1))⟩,
  ⟨none, some 17, .mv (.t 40)⟩]))))
def lv_types_union_4 : List Nat := [2, 11, 42, 43]
def lp_types_union_4 : MC :=
  (.seq (.reg [
  ⟨none, some 44, .binI .lss (.t 43) (.k (.int .i64 6))⟩])
  (.seq (.cond (.t 44)
    .skip
    (.exit 4))
  (.seq (.block 5
    (.seq (.reg [
    ⟨none, some 45, .idxA false 6 1 (.t 42) (.t 43)⟩,
    ⟨none, some 13, .mv (.t 45)⟩])
    (.seq (.reg [
    ⟨none, some 46, .mv (.t 13)⟩,
    ⟨none, some 47, .isNilP true (.t 46)⟩])
    (.cond (.t 47)
      (.regd [0, 1, 0, 4, 12, 28, 63, 127, 255] [
      ⟨none, some 48, .faddr 3 (.t 11)⟩,
      ⟨none, some 49, .load false 1 (.t 48)⟩,
      ⟨none, some 50, .mv (.t 13)⟩,
      ⟨none, some 51, .nilck (.t 50)⟩,
      ⟨none, some 52, .load true 4 (.t 51)⟩,
      ⟨none, some 53, .buildSl 4 [(.t 52)]⟩,
      ⟨none, some 54, .append 4 72 (.t 49) (.t 53)⟩,
      ⟨none, some 55, .faddr 3 (.t 11)⟩,
      ⟨none, none, .store 1 (.t 55) (.t 54)⟩])
      .skip))))
  (.owq (.reg [
  ⟨none, some 56, .binI .add (.t 43) (.k (.int .i64 1))⟩,
  ⟨none, some 43, .mv (.t 56)⟩])))))
abbrev F.types_union : FuncId := 107
def mc_types_union : MC :=
  (.seq (.reg [
  ⟨none, some 2, .alloc [.int .i64 0, .str (bs []), .sl true 1 [], .sl true 4 []]⟩,
  ⟨none, some 3, .mv (.k (.bool false))⟩])
  (.seq (.reg [
  ⟨none, some 4, .alloc [.sc (.pointer none), .sc (.pointer none), .sc (.pointer none), .sc (.pointer none), .sc (.pointer none), .sc (.pointer none)]⟩])
  (.seq (.reg [
  ⟨none, some 14, .mkfn 123 [(.t 4)]⟩,
  ⟨none, some 5, .mv (.t 14)⟩])
  (.seq (.seq (.reg [
  ⟨none, some 15, .mv (.t 0)⟩,
  ⟨none, some 16, .len (.t 15)⟩,
  ⟨none, some 17, .mv (.k (.int .i64 0))⟩])
  (.block 0 (.loop lp_types_union_0)))
  (.seq (.reg [
  ⟨none, some 41, .build [.int .i64 0, .str (bs []), .sl true 1 [], .sl true 4 []] [(0, 1, (.k (.int .i64 7)))]⟩,
  ⟨none, some 11, .alloc [.int .i64 0, .str (bs []), .sl true 1 [], .sl true 4 []]⟩,
  ⟨none, none, .store 4 (.t 11) (.t 41)⟩])
  (.seq (.seq (.owq (.reg [
  ⟨none, some 42, .load true 6 (.t 4)⟩,
  ⟨none, some 43, .mv (.k (.int .i64 0))⟩]))
  (.block 4 (.loop lp_types_union_4)))
  (.seq (.seq (.reg [
  ⟨none, some 57, .faddr 3 (.t 11)⟩,
  ⟨none, some 58, .load false 1 (.t 57)⟩,
  ⟨none, some 59, .len (.t 58)⟩,
  ⟨none, some 60, .binI .eql (.t 59) (.k (.int .i64 1))⟩])
  (.cond (.t 60)
    (.seq (.reg [
    ⟨none, some 61, .faddr 3 (.t 11)⟩,
    ⟨none, some 62, .load false 1 (.t 61)⟩,
    ⟨none, some 63, .iaddrS 4 (.t 62) (.k (.int .i64 0))⟩,
    ⟨none, some 64, .load true 4 (.t 63)⟩,
    ⟨none, none, .store 4 (.t 2) (.t 64)⟩,
    ⟨none, some 3, .mv (.k (.bool true))⟩])
    .ret)
    .skip))
  (.seq (.regd [0, 0, 2, 6, 14, 1, 63] [
  ⟨none, some 65, .load true 4 (.t 11)⟩,
  ⟨none, some 66, .faddr 3 (.t 11)⟩,
  ⟨none, some 67, .load false 1 (.t 66)⟩,
  ⟨none, some 68, .len (.t 67)⟩,
  ⟨none, some 69, .binI .gtr (.t 68) (.k (.int .i64 0))⟩,
  ⟨none, none, .store 4 (.t 2) (.t 65)⟩,
  ⟨none, some 3, .mv (.t 69)⟩])
  .ret))))))))
theorem w_types_union {args : List DV} {v : DV} (hn : args.length ≤ 70) (h : DV.okL args → ∀ c : Ctx, c.N = 70 → c.pure → w_ Pg c mc_types_union (endQ [.cell 2 true 4, .tmp 3] v) ⟨⟩ ⟨argT 0 args, fun _ => .non, 0⟩) : PCall Pg F.types_union args v :=
  PCall.of_walk Tryz.func107 rfl (by kernel_rfl) (by kernel_rfl) (by kernel_rfl) hn fun o c e p => W.aw Pg_mixed (w_start (h o c e p))
abbrev F.types_union_1 : FuncId := 123
def mc_types_union_1 : MC :=
  (.seq (.reg [
  ⟨none, some 2, .boxP (.t 0)⟩,
  ⟨none, some 3, .mv (.k (.bool false))⟩])
  (.seq (.reg [
  ⟨none, some 5, .load true 4 (.t 2)⟩,
  ⟨none, some 6, .call 108 [(.t 5)]⟩,
  ⟨none, some 4, .mv (.t 6)⟩])
  (.seq (.seq (.reg [
  ⟨none, some 7, .mv (.t 4)⟩,
  ⟨none, some 8, .binI .lss (.t 7) (.k (.int .i64 0))⟩])
  (.cond (.t 8)
    (.seq (.reg [
    ⟨none, some 3, .mv (.k (.bool false))⟩])
    .ret)
    .skip))
  (.seq (.seq (.reg [
  ⟨none, some 9, .mv (.t 4)⟩,
  ⟨none, some 10, .iaddrA 6 1 (.t 1) (.t 9)⟩,
  ⟨none, some 11, .load false 1 (.t 10)⟩,
  ⟨none, some 12, .isNilP false (.t 11)⟩])
  (.cond (.t 12)
    (.reg [
    ⟨none, some 13, .mv (.t 4)⟩,
    ⟨none, some 14, .iaddrA 6 1 (.t 1) (.t 13)⟩,
    ⟨none, none, .store 1 (.t 14) (.t 2)⟩])
    .skip))
  (.seq (.regd [0, 0, 2, 6, 14, 30, 63, 127] [
  ⟨none, some 15, .load true 4 (.t 2)⟩,
  ⟨none, some 16, .mv (.t 4)⟩,
  ⟨none, some 17, .iaddrA 6 1 (.t 1) (.t 16)⟩,
  ⟨none, some 18, .load false 1 (.t 17)⟩,
  ⟨none, some 19, .nilck (.t 18)⟩,
  ⟨none, some 20, .load true 4 (.t 19)⟩,
  ⟨none, some 21, .call 66 [(.t 15), (.t 20)]⟩,
  ⟨none, some 3, .mv (.t 21)⟩])
  .ret)))))
theorem w_types_union_1 {args : List DV} {v : DV} (hn : args.length ≤ 22) (h : DV.okL args → ∀ c : Ctx, c.N = 22 → c.pure → w_ Pg c mc_types_union_1 (endQ [.tmp 3] v) ⟨⟩ ⟨argT 0 args, fun _ => .non, 0⟩) : PCall Pg F.types_union_1 args v :=
  PCall.of_walk Tryz.func123 rfl (by kernel_rfl) (by kernel_rfl) (by kernel_rfl) hn fun o c e p => W.aw Pg_mixed (w_start (h o c e p))
theorem wm_types_union_1 {args : List AV} {bs : List Blk} {v : AV} {bs' : List Blk} (hs : MStat args 22 bs v bs') (h : ∀ ts : List (Nat × Nat), ts.length = bs.length → AV.okL args → (∀ b, b ∈ bs → b.ok) → ∀ c : Ctx, c.N = 22 → c.pure → w_ Pg c mc_types_union_1 (endM [.tmp 3] v bs' ts) ⟨⟩ ⟨argA 0 args, hpOf (bs ++ pinsL 0 ts), bs.length + ts.length⟩) : MCall Pg F.types_union_1 args bs v bs' :=
  MCall.of_walk' Tryz.func123 rfl (by kernel_rfl) (by kernel_rfl) (by kernel_rfl) Pg_mixed hs h
def lv_types_record_0 : List Nat := [1, 4, 6, 23, 24, 25]
def lp_types_record_0 : MC :=
  (.seq (.reg [
  ⟨none, some 26, .binI .lss (.t 25) (.t 24)⟩])
  (.seq (.cond (.t 26)
    .skip
    (.exit 0))
  (.seq (.block 1
    (.seq (.reg [
    ⟨none, some 27, .mv (.t 25)⟩,
    ⟨none, some 28, .iaddrS 1 (.t 23) (.t 25)⟩,
    ⟨none, some 29, .load false 1 (.t 28)⟩,
    ⟨none, some 7, .mv (.t 27)⟩,
    ⟨none, some 8, .mv (.t 29)⟩])
    (.seq (.seq (.reg [
    ⟨none, some 30, .mv (.t 8)⟩,
    ⟨none, some 31, .call 119 [(.t 30)]⟩,
    ⟨none, some 32, .not (.t 31)⟩])
    (.cond (.t 32)
      (.seq (.reg [
      ⟨none, some 33, .build [.int .i64 0, .str (bs []), .sl true 1 [], .sl true 4 []] []⟩,
      ⟨none, none, .store 4 (.t 4) (.t 33)⟩,
      ⟨none, some 5, .mv (.k (.bool false))⟩])
      .ret)
      .skip))
    (.reg [
    ⟨none, some 34, .mv (.t 6)⟩,
    ⟨none, some 35, .mv (.t 8)⟩,
    ⟨none, some 36, .mv (.t 1)⟩,
    ⟨none, some 37, .mv (.t 7)⟩,
    ⟨none, some 38, .iaddrS 4 (.t 36) (.t 37)⟩,
    ⟨none, some 39, .load true 4 (.t 38)⟩,
    ⟨none, some 40, .build [.str (bs []), .int .i64 0, .str (bs []), .sl true 1 [], .sl true 4 []] [(0, 1, (.t 35)), (1, 4, (.t 39))]⟩,
    ⟨none, some 41, .buildSl 5 [(.t 40)]⟩,
    ⟨none, some 42, .append 5 88 (.t 34) (.t 41)⟩,
    ⟨none, some 6, .mv (.t 42)⟩]))))
  (.reg [
  ⟨none, some 43, .binI .add (.t 25) (.k (.int .i64 1))⟩,
  ⟨none, some 25, .mv (.t 43)⟩]))))
def lv_types_record_2 : List Nat := [4, 6, 9, 47, 48, 49]
def lp_types_record_2 : MC :=
  (.seq (.reg [
  ⟨none, some 50, .binI .lss (.t 49) (.t 48)⟩])
  (.seq (.cond (.t 50)
    .skip
    (.exit 2))
  (.seq (.block 3
    (.seq (.reg [
    ⟨none, some 51, .mv (.t 49)⟩,
    ⟨none, some 52, .iaddrS 5 (.t 47) (.t 49)⟩,
    ⟨none, some 53, .load true 5 (.t 52)⟩,
    ⟨none, some 11, .alloc [.str (bs []), .int .i64 0, .str (bs []), .sl true 1 [], .sl true 4 []]⟩,
    ⟨none, some 10, .mv (.t 51)⟩,
    ⟨none, none, .store 5 (.t 11) (.t 53)⟩])
    (.seq (.seq (.regd [0, 1, 3, 7, 7, 23, 63, 127, 255, 7, 519, 2047, 4095] [
    ⟨none, some 54, .mv (.t 10)⟩,
    ⟨none, some 55, .binI .gtr (.t 54) (.k (.int .i64 0))⟩,
    ⟨none, some 56, .mv (.t 55)⟩,
    ⟨(some (56, true)), some 57, .mv (.t 6)⟩,
    ⟨(some (56, true)), some 58, .mv (.t 10)⟩,
    ⟨(some (56, true)), some 59, .binI .sub (.t 58) (.k (.int .i64 1))⟩,
    ⟨(some (56, true)), some 60, .iaddrS 5 (.t 57) (.t 59)⟩,
    ⟨(some (56, true)), some 61, .faddr 0 (.t 60)⟩,
    ⟨(some (56, true)), some 62, .load false 1 (.t 61)⟩,
    ⟨(some (56, true)), some 63, .faddr 0 (.t 11)⟩,
    ⟨(some (56, true)), some 64, .load false 1 (.t 63)⟩,
    ⟨(some (56, true)), some 65, .binS .eql (.t 62) (.t 64)⟩,
    ⟨none, some 66, .pick (.t 56) (.t 65) (.k (.bool false))⟩])
    (.cond (.t 66)
      (.seq (.reg [
      ⟨none, some 67, .build [.int .i64 0, .str (bs []), .sl true 1 [], .sl true 4 []] []⟩,
      ⟨none, none, .store 4 (.t 4) (.t 67)⟩,
      ⟨none, some 5, .mv (.k (.bool false))⟩])
      .ret)
      .skip))
    (.regd [0, 1, 0, 4, 12, 31, 0, 64, 0, 256, 768, 2047, 255, 8191, 16383, 32767] [
    ⟨none, some 68, .faddr 2 (.t 9)⟩,
    ⟨none, some 69, .load false 1 (.t 68)⟩,
    ⟨none, some 70, .faddr 0 (.t 11)⟩,
    ⟨none, some 71, .load false 1 (.t 70)⟩,
    ⟨none, some 72, .buildSl 1 [(.t 71)]⟩,
    ⟨none, some 73, .append 1 16 (.t 69) (.t 72)⟩,
    ⟨none, some 74, .faddr 3 (.t 9)⟩,
    ⟨none, some 75, .load false 1 (.t 74)⟩,
    ⟨none, some 76, .faddr 1 (.t 11)⟩,
    ⟨none, some 77, .load true 4 (.t 76)⟩,
    ⟨none, some 78, .buildSl 4 [(.t 77)]⟩,
    ⟨none, some 79, .append 4 72 (.t 75) (.t 78)⟩,
    ⟨none, some 80, .faddr 2 (.t 9)⟩,
    ⟨none, none, .store 1 (.t 80) (.t 73)⟩,
    ⟨none, some 81, .faddr 3 (.t 9)⟩,
    ⟨none, none, .store 1 (.t 81) (.t 79)⟩]))))
  (.reg [
  ⟨none, some 82, .binI .add (.t 49) (.k (.int .i64 1))⟩,
  ⟨none, some 49, .mv (.t 82)⟩]))))
abbrev F.types_record : FuncId := 106
def mc_types_record : MC :=
  (.seq (.reg [
  ⟨none, some 4, .alloc [.int .i64 0, .str (bs []), .sl true 1 [], .sl true 4 []]⟩,
  ⟨none, some 5, .mv (.k (.bool false))⟩])
  (.seq (.seq (.reg [
  ⟨none, some 12, .mv (.t 0)⟩,
  ⟨none, some 13, .len (.t 12)⟩,
  ⟨none, some 14, .mv (.t 1)⟩,
  ⟨none, some 15, .len (.t 14)⟩,
  ⟨none, some 16, .binI .neq (.t 13) (.t 15)⟩,
  ⟨none, some 17, .mv (.t 16)⟩,
  ⟨(some (17, false)), some 18, .mv (.t 0)⟩,
  ⟨(some (17, false)), some 19, .len (.t 18)⟩,
  ⟨(some (17, false)), some 20, .binI .gtr (.t 19) (.k (.int .i64 16))⟩,
  ⟨none, some 21, .pick (.t 17) (.k (.bool true)) (.t 20)⟩])
  (.cond (.t 21)
    (.seq (.reg [
    ⟨none, some 22, .build [.int .i64 0, .str (bs []), .sl true 1 [], .sl true 4 []] []⟩,
    ⟨none, none, .store 4 (.t 4) (.t 22)⟩,
    ⟨none, some 5, .mv (.k (.bool false))⟩])
    .ret)
    .skip))
  (.seq (.reg [
  ⟨none, some 6, .mv (.k (.sl true 5 []))⟩])
  (.seq (.seq (.owq (.reg [
  ⟨none, some 23, .mv (.t 0)⟩,
  ⟨none, some 24, .len (.t 23)⟩,
  ⟨none, some 25, .mv (.k (.int .i64 0))⟩]))
  (.block 0 (.loop lp_types_record_0)))
  (.seq (.reg [
  ⟨none, some 44, .mv (.t 6)⟩,
  ⟨none, some 45, .callM 120 [(.t 44), (.k (.fn (.func 121) []))]⟩])
  (.seq (.fzq (.reg [
  ⟨none, some 46, .build [.int .i64 0, .str (bs []), .sl true 1 [], .sl true 4 []] [(0, 1, (.k (.int .i64 5)))]⟩,
  ⟨none, some 9, .alloc [.int .i64 0, .str (bs []), .sl true 1 [], .sl true 4 []]⟩,
  ⟨none, none, .store 4 (.t 9) (.t 46)⟩]))
  (.seq (.seq (.owq (.reg [
  ⟨none, some 47, .mv (.t 6)⟩,
  ⟨none, some 48, .len (.t 47)⟩,
  ⟨none, some 49, .mv (.k (.int .i64 0))⟩]))
  (.block 2 (.loop lp_types_record_2)))
  (.seq (.reg [
  ⟨none, some 83, .load true 4 (.t 9)⟩,
  ⟨none, none, .store 4 (.t 4) (.t 83)⟩,
  ⟨none, some 5, .mv (.k (.bool true))⟩])
  .ret))))))))
theorem w_types_record {args : List DV} {v : DV} (hn : args.length ≤ 84) (h : DV.okL args → ∀ c : Ctx, c.N = 84 → c.pure → w_ Pg c mc_types_record (endQ [.cell 4 true 4, .tmp 5] v) ⟨⟩ ⟨argT 0 args, fun _ => .non, 0⟩) : PCall Pg F.types_record args v :=
  PCall.of_walk Tryz.func106 rfl (by kernel_rfl) (by kernel_rfl) (by kernel_rfl) hn fun o c e p => W.aw Pg_mixed (w_start (h o c e p))
abbrev F.types_record_1 : FuncId := 121
def mc_types_record_1 : MC :=
  (.seq (.reg [
  ⟨none, some 2, .boxP (.t 0)⟩,
  ⟨none, some 3, .boxP (.t 1)⟩,
  ⟨none, some 4, .mv (.k (.int .i64 0))⟩])
  (.seq (.reg [
  ⟨none, some 5, .faddr 0 (.t 2)⟩,
  ⟨none, some 6, .load false 1 (.t 5)⟩,
  ⟨none, some 7, .faddr 0 (.t 3)⟩,
  ⟨none, some 8, .load false 1 (.t 7)⟩,
  ⟨none, some 9, .call 122 [(.t 6), (.t 8)]⟩,
  ⟨none, some 4, .mv (.t 9)⟩])
  .ret))
theorem w_types_record_1 {args : List DV} {v : DV} (hn : args.length ≤ 10) (h : DV.okL args → ∀ c : Ctx, c.N = 10 → c.pure → w_ Pg c mc_types_record_1 (endQ [.tmp 4] v) ⟨⟩ ⟨argT 0 args, fun _ => .non, 0⟩) : PCall Pg F.types_record_1 args v :=
  PCall.of_walk Tryz.func121 rfl (by kernel_rfl) (by kernel_rfl) (by kernel_rfl) hn fun o c e p => W.aw Pg_mixed (w_start (h o c e p))
abbrev F.cmp_Compare_string : FuncId := 122
def mc_cmp_Compare_string : MC :=
  (.seq (.reg [
  ⟨none, some 4, .mv (.k (.int .i64 0))⟩])
  (.seq (.reg [
  ⟨none, some 7, .mv (.t 0)⟩,
  ⟨none, some 8, .call 140 [(.t 7)]⟩,
  ⟨none, some 5, .mv (.t 8)⟩])
  (.seq (.reg [
  ⟨none, some 9, .mv (.t 1)⟩,
  ⟨none, some 10, .call 140 [(.t 9)]⟩,
  ⟨none, some 6, .mv (.t 10)⟩])
  (.seq (.seq (.reg [
  ⟨none, some 11, .mv (.t 5)⟩])
  (.cond (.t 11)
    (.seq (.seq (.reg [
    ⟨none, some 12, .mv (.t 6)⟩])
    (.cond (.t 12)
      (.seq (.reg [
      ⟨none, some 4, .mv (.k (.int .i64 0))⟩])
      .ret)
      .skip))
    (.seq (.reg [
    ⟨none, some 4, .mv (.k (.int .i64 (-1)))⟩])
    .ret))
    .skip))
  (.seq (.seq (.reg [
  ⟨none, some 13, .mv (.t 6)⟩])
  (.cond (.t 13)
    (.seq (.reg [
    ⟨none, some 4, .mv (.k (.int .i64 1))⟩])
    .ret)
    .skip))
  (.seq (.seq (.reg [
  ⟨none, some 14, .mv (.t 0)⟩,
  ⟨none, some 15, .mv (.t 1)⟩,
  ⟨none, some 16, .binS .lss (.t 14) (.t 15)⟩])
  (.cond (.t 16)
    (.seq (.reg [
    ⟨none, some 4, .mv (.k (.int .i64 (-1)))⟩])
    .ret)
    .skip))
  (.seq (.seq (.reg [
  ⟨none, some 17, .mv (.t 0)⟩,
  ⟨none, some 18, .mv (.t 1)⟩,
  ⟨none, some 19, .binS .gtr (.t 17) (.t 18)⟩])
  (.cond (.t 19)
    (.seq (.reg [
    ⟨none, some 4, .mv (.k (.int .i64 1))⟩])
    .ret)
    .skip))
  (.seq (.reg [
  ⟨none, some 4, .mv (.k (.int .i64 0))⟩])
  .ret))))))))
theorem w_cmp_Compare_string {args : List DV} {v : DV} (hn : args.length ≤ 20) (h : DV.okL args → ∀ c : Ctx, c.N = 20 → c.pure → w_ Pg c mc_cmp_Compare_string (endQ [.tmp 4] v) ⟨⟩ ⟨argT 0 args, fun _ => .non, 0⟩) : PCall Pg F.cmp_Compare_string args v :=
  PCall.of_walk Tryz.func122 rfl (by kernel_rfl) (by kernel_rfl) (by kernel_rfl) hn fun o c e p => W.aw Pg_mixed (w_start (h o c e p))
abbrev F.lex_Name : FuncId := 119
def mc_lex_Name : MC :=
  (.seq (.reg [
  ⟨none, some 2, .mv (.k (.bool false))⟩])
  (.seq (.reg [
  ⟨none, some 3, .mv (.t 0)⟩,
  ⟨none, some 4, .binS .neq (.t 3) (.k (.str (bs [])))⟩,
  ⟨none, some 5, .mv (.t 4)⟩,
  ⟨(some (5, true)), some 6, .mv (.t 0)⟩,
  ⟨(some (5, true)), some 7, .lenS (.t 6)⟩,
  ⟨(some (5, true)), some 8, .binI .leq (.t 7) (.k (.int .i64 32))⟩,
  ⟨none, some 9, .pick (.t 5) (.t 8) (.k (.bool false))⟩,
  ⟨none, some 10, .mv (.t 9)⟩,
  ⟨(some (10, true)), some 11, .mv (.t 0)⟩,
  ⟨(some (10, true)), some 12, .idxS (.t 11) (.k (.int .i64 0))⟩,
  ⟨(some (10, true)), some 13, .call 134 [(.t 12)]⟩,
  ⟨none, some 14, .pick (.t 10) (.t 13) (.k (.bool false))⟩,
  ⟨none, some 15, .mv (.t 14)⟩,
  ⟨(some (15, true)), some 16, .mv (.t 0)⟩,
  ⟨(some (15, true)), some 17, .call 135 [(.t 16), (.k (.fn (.func 136) []))]⟩,
  ⟨(some (15, true)), some 18, .mv (.t 0)⟩,
  ⟨(some (15, true)), some 19, .lenS (.t 18)⟩,
  ⟨(some (15, true)), some 20, .binI .eql (.t 17) (.t 19)⟩,
  ⟨none, some 21, .pick (.t 15) (.t 20) (.k (.bool false))⟩,
  ⟨none, some 22, .mv (.t 21)⟩,
  ⟨(some (22, true)), some 23, .call 138 []⟩,
  ⟨(some (22, true)), some 24, .mv (.t 0)⟩,
  ⟨(some (22, true)), some 25, .call 137 [(.t 23), (.t 24)]⟩,
  ⟨(some (22, true)), some 26, .not (.t 25)⟩,
  ⟨none, some 27, .pick (.t 22) (.t 26) (.k (.bool false))⟩,
  ⟨none, some 2, .mv (.t 27)⟩])
  .ret))
theorem w_lex_Name {args : List DV} {v : DV} (hn : args.length ≤ 28) (h : DV.okL args → ∀ c : Ctx, c.N = 28 → c.pure → w_ Pg c mc_lex_Name (endQ [.tmp 2] v) ⟨⟩ ⟨argT 0 args, fun _ => .non, 0⟩) : PCall Pg F.lex_Name args v :=
  PCall.of_walk Tryz.func119 rfl (by kernel_rfl) (by kernel_rfl) (by kernel_rfl) hn fun o c e p => W.aw Pg_mixed (w_start (h o c e p))
abbrev F.lex_letter : FuncId := 134
def mc_lex_letter : MC :=
  (.seq (.reg [
  ⟨none, some 2, .mv (.k (.bool false))⟩])
  (.seq (.reg [
  ⟨none, some 3, .mv (.t 0)⟩,
  ⟨none, some 4, .binI .geq (.t 3) (.k (.int .u8 97))⟩,
  ⟨none, some 5, .mv (.t 4)⟩,
  ⟨(some (5, true)), some 6, .mv (.t 0)⟩,
  ⟨(some (5, true)), some 7, .binI .leq (.t 6) (.k (.int .u8 122))⟩,
  ⟨none, some 8, .pick (.t 5) (.t 7) (.k (.bool false))⟩,
  ⟨none, some 9, .mv (.t 8)⟩,
  ⟨(some (9, false)), some 10, .mv (.t 0)⟩,
  ⟨(some (9, false)), some 11, .binI .geq (.t 10) (.k (.int .u8 65))⟩,
  ⟨(some (9, false)), some 12, .mv (.t 11)⟩,
  ⟨(some (12, true)), some 13, .mv (.t 0)⟩,
  ⟨(some (12, true)), some 14, .binI .leq (.t 13) (.k (.int .u8 90))⟩,
  ⟨(some (9, false)), some 15, .pick (.t 12) (.t 14) (.k (.bool false))⟩,
  ⟨none, some 16, .pick (.t 9) (.k (.bool true)) (.t 15)⟩,
  ⟨none, some 17, .mv (.t 16)⟩,
  ⟨(some (17, false)), some 18, .mv (.t 0)⟩,
  ⟨(some (17, false)), some 19, .binI .eql (.t 18) (.k (.int .u8 95))⟩,
  ⟨none, some 20, .pick (.t 17) (.k (.bool true)) (.t 19)⟩,
  ⟨none, some 2, .mv (.t 20)⟩])
  .ret))
theorem w_lex_letter {args : List DV} {v : DV} (hn : args.length ≤ 21) (h : DV.okL args → ∀ c : Ctx, c.N = 21 → c.pure → w_ Pg c mc_lex_letter (endQ [.tmp 2] v) ⟨⟩ ⟨argT 0 args, fun _ => .non, 0⟩) : PCall Pg F.lex_letter args v :=
  PCall.of_walk Tryz.func134 rfl (by kernel_rfl) (by kernel_rfl) (by kernel_rfl) hn fun o c e p => W.aw Pg_mixed (w_start (h o c e p))
def lv_lex_row_0 : List Nat := [0, 1, 7, 8]
def lp_lex_row_0 : MC :=
  (.seq (.reg [
  ⟨none, some 9, .binI .lss (.t 8) (.t 7)⟩])
  (.seq (.cond (.t 9)
    .skip
    (.exit 0))
  (.seq (.block 1
    (.seq (.reg [
    ⟨none, some 10, .mv (.t 8)⟩,
    ⟨none, some 5, .mv (.t 10)⟩])
    (.seq (.reg [
    ⟨none, some 11, .mv (.t 1)⟩,
    ⟨none, some 12, .mv (.t 0)⟩,
    ⟨none, some 13, .mv (.t 5)⟩,
    ⟨none, some 14, .idxS (.t 12) (.t 13)⟩,
    ⟨none, some 15, .calld (.t 11) [(.t 14)]⟩,
    ⟨none, some 16, .not (.t 15)⟩])
    (.cond (.t 16)
      (.seq (.reg [
      ⟨none, some 17, .mv (.t 5)⟩,
      ⟨none, some 4, .mv (.t 17)⟩])
      .ret)
      .skip))))
  (.reg [
  ⟨none, some 18, .binI .add (.t 8) (.k (.int .i64 1))⟩,
  ⟨none, some 8, .mv (.t 18)⟩]))))
abbrev F.lex_row : FuncId := 135
def mc_lex_row : MC :=
  (.seq (.reg [
  ⟨none, some 4, .mv (.k (.int .i64 0))⟩])
  (.seq (.seq (.reg [
  ⟨none, some 6, .mv (.t 0)⟩,
  ⟨none, some 7, .lenS (.t 6)⟩,
  ⟨none, some 8, .mv (.k (.int .i64 0))⟩])
  (.block 0 (.loop lp_lex_row_0)))
  (.seq (.reg [
  ⟨none, some 19, .mv (.t 0)⟩,
  ⟨none, some 20, .lenS (.t 19)⟩,
  ⟨none, some 4, .mv (.t 20)⟩])
  .ret)))
theorem w_lex_row {args : List DV} {v : DV} (hn : args.length ≤ 21) (h : DV.okL args → ∀ c : Ctx, c.N = 21 → c.pure → w_ Pg c mc_lex_row (endQ [.tmp 4] v) ⟨⟩ ⟨argT 0 args, fun _ => .non, 0⟩) : PCall Pg F.lex_row args v :=
  PCall.of_walk Tryz.func135 rfl (by kernel_rfl) (by kernel_rfl) (by kernel_rfl) hn fun o c e p => W.aw Pg_mixed (w_start (h o c e p))
abbrev F.lex_inner : FuncId := 136
def mc_lex_inner : MC :=
  (.seq (.reg [
  ⟨none, some 2, .mv (.k (.bool false))⟩])
  (.seq (.reg [
  ⟨none, some 3, .mv (.t 0)⟩,
  ⟨none, some 4, .call 134 [(.t 3)]⟩,
  ⟨none, some 5, .mv (.t 4)⟩,
  ⟨(some (5, false)), some 6, .mv (.t 0)⟩,
  ⟨(some (5, false)), some 7, .call 144 [(.t 6)]⟩,
  ⟨none, some 8, .pick (.t 5) (.k (.bool true)) (.t 7)⟩,
  ⟨none, some 2, .mv (.t 8)⟩])
  .ret))
theorem w_lex_inner {args : List DV} {v : DV} (hn : args.length ≤ 9) (h : DV.okL args → ∀ c : Ctx, c.N = 9 → c.pure → w_ Pg c mc_lex_inner (endQ [.tmp 2] v) ⟨⟩ ⟨argT 0 args, fun _ => .non, 0⟩) : PCall Pg F.lex_inner args v :=
  PCall.of_walk Tryz.func136 rfl (by kernel_rfl) (by kernel_rfl) (by kernel_rfl) hn fun o c e p => W.aw Pg_mixed (w_start (h o c e p))
abbrev F.lex_digit : FuncId := 144
def mc_lex_digit : MC :=
  (.seq (.reg [
  ⟨none, some 2, .mv (.k (.bool false))⟩])
  (.seq (.reg [
  ⟨none, some 3, .mv (.t 0)⟩,
  ⟨none, some 4, .binI .geq (.t 3) (.k (.int .u8 48))⟩,
  ⟨none, some 5, .mv (.t 4)⟩,
  ⟨(some (5, true)), some 6, .mv (.t 0)⟩,
  ⟨(some (5, true)), some 7, .binI .leq (.t 6) (.k (.int .u8 57))⟩,
  ⟨none, some 8, .pick (.t 5) (.t 7) (.k (.bool false))⟩,
  ⟨none, some 2, .mv (.t 8)⟩])
  .ret))
theorem w_lex_digit {args : List DV} {v : DV} (hn : args.length ≤ 9) (h : DV.okL args → ∀ c : Ctx, c.N = 9 → c.pure → w_ Pg c mc_lex_digit (endQ [.tmp 2] v) ⟨⟩ ⟨argT 0 args, fun _ => .non, 0⟩) : PCall Pg F.lex_digit args v :=
  PCall.of_walk Tryz.func144 rfl (by kernel_rfl) (by kernel_rfl) (by kernel_rfl) hn fun o c e p => W.aw Pg_mixed (w_start (h o c e p))
abbrev F.lex_words : FuncId := 138
def mc_lex_words : MC :=
  (.seq (.reg [
  ⟨none, some 0, .mv (.k (.sl true 1 []))⟩])
  (.seq (.reg [
  ⟨none, some 1, .call 145 [(.k (.str (bs [97, 110, 100, 32, 97, 110, 121, 32, 97, 115, 32, 98, 111, 111, 108, 32, 101, 108, 115, 101, 32, 101, 120, 112, 111, 114, 116, 32, 102, 97, 108, 115, 101, 32, 102, 110, 32, 102, 117, 110, 99, 116, 105, 111, 110, 32, 105, 102, 32, 105, 109, 112, 111, 114, 116, 32, 105, 110, 32, 105, 110, 116, 32, 105, 115, 32, 108, 101, 116, 32, 110, 111, 116, 32, 110, 117, 108, 108, 32, 111, 114, 32, 112, 114, 105, 110, 116, 32, 114, 101, 97, 100, 32, 114, 101, 99, 111, 114, 100, 32, 115, 116, 114, 32, 116, 104, 101, 110, 32, 116, 114, 117, 101, 32, 119, 105, 116, 104])))]⟩,
  ⟨none, some 0, .mv (.t 1)⟩])
  .ret))
theorem w_lex_words {args : List DV} {v : DV} (hn : args.length ≤ 2) (h : DV.okL args → ∀ c : Ctx, c.N = 2 → c.pure → w_ Pg c mc_lex_words (endQ [.tmp 0] v) ⟨⟩ ⟨argT 0 args, fun _ => .non, 0⟩) : PCall Pg F.lex_words args v :=
  PCall.of_walk Tryz.func138 rfl (by kernel_rfl) (by kernel_rfl) (by kernel_rfl) hn fun o c e p => W.aw Pg_mixed (w_start (h o c e p))
abbrev F.slices_Contains_string_string : FuncId := 137
def mc_slices_Contains_string_string : MC :=
  (.seq (.reg [
  ⟨none, some 4, .mv (.k (.bool false))⟩])
  (.seq (.reg [
  ⟨none, some 5, .mv (.t 0)⟩,
  ⟨none, some 6, .mv (.t 1)⟩,
  ⟨none, some 7, .call 88 [(.t 5), (.t 6)]⟩,
  ⟨none, some 8, .binI .geq (.t 7) (.k (.int .i64 0))⟩,
  ⟨none, some 4, .mv (.t 8)⟩])
  .ret))
theorem w_slices_Contains_string_string {args : List DV} {v : DV} (hn : args.length ≤ 9) (h : DV.okL args → ∀ c : Ctx, c.N = 9 → c.pure → w_ Pg c mc_slices_Contains_string_string (endQ [.tmp 4] v) ⟨⟩ ⟨argT 0 args, fun _ => .non, 0⟩) : PCall Pg F.slices_Contains_string_string args v :=
  PCall.of_walk Tryz.func137 rfl (by kernel_rfl) (by kernel_rfl) (by kernel_rfl) hn fun o c e p => W.aw Pg_mixed (w_start (h o c e p))
def lv_slices_Index_string_string_0 : List Nat := [0, 1, 7, 8]
def lp_slices_Index_string_string_0 : MC :=
  (.seq (.reg [
  ⟨none, some 9, .binI .lss (.t 8) (.t 7)⟩])
  (.seq (.cond (.t 9)
    .skip
    (.exit 0))
  (.seq (.block 1
    (.seq (.reg [
    ⟨none, some 10, .mv (.t 8)⟩,
    ⟨none, some 5, .mv (.t 10)⟩])
    (.seq (.reg [
    ⟨none, some 11, .mv (.t 1)⟩,
    ⟨none, some 12, .mv (.t 0)⟩,
    ⟨none, some 13, .mv (.t 5)⟩,
    ⟨none, some 14, .iaddrS 1 (.t 12) (.t 13)⟩,
    ⟨none, some 15, .load false 1 (.t 14)⟩,
    ⟨none, some 16, .binS .eql (.t 11) (.t 15)⟩])
    (.cond (.t 16)
      (.seq (.reg [
      ⟨none, some 17, .mv (.t 5)⟩,
      ⟨none, some 4, .mv (.t 17)⟩])
      .ret)
      .skip))))
  (.reg [
  ⟨none, some 18, .binI .add (.t 8) (.k (.int .i64 1))⟩,
  ⟨none, some 8, .mv (.t 18)⟩]))))
abbrev F.slices_Index_string_string : FuncId := 88
def mc_slices_Index_string_string : MC :=
  (.seq (.reg [
  ⟨none, some 4, .mv (.k (.int .i64 0))⟩])
  (.seq (.seq (.reg [
  ⟨none, some 6, .mv (.t 0)⟩,
  ⟨none, some 7, .len (.t 6)⟩,
  ⟨none, some 8, .mv (.k (.int .i64 0))⟩])
  (.block 0 (.loop lp_slices_Index_string_string_0)))
  (.seq (.reg [
  ⟨none, some 4, .mv (.k (.int .i64 (-1)))⟩])
  .ret)))
theorem w_slices_Index_string_string {args : List DV} {v : DV} (hn : args.length ≤ 19) (h : DV.okL args → ∀ c : Ctx, c.N = 19 → c.pure → w_ Pg c mc_slices_Index_string_string (endQ [.tmp 4] v) ⟨⟩ ⟨argT 0 args, fun _ => .non, 0⟩) : PCall Pg F.slices_Index_string_string args v :=
  PCall.of_walk Tryz.func88 rfl (by kernel_rfl) (by kernel_rfl) (by kernel_rfl) hn fun o c e p => W.aw Pg_mixed (w_start (h o c e p))
def lv_coerce_record_0 : List Nat := [0, 3, 5, 7, 8, 12, 21, 22, 23]
def lp_coerce_record_0 : MC :=
  (.seq (.reg [
  ⟨none, some 24, .binI .lss (.t 23) (.t 22)⟩])
  (.seq (.cond (.t 24)
    .skip
    (.exit 0))
  (.seq (.block 1
    (.seq (.reg [
    ⟨none, some 25, .mv (.t 23)⟩,
    ⟨none, some 26, .iaddrS 1 (.t 21) (.t 23)⟩,
    ⟨none, some 27, .load false 1 (.t 26)⟩,
    ⟨none, some 13, .mv (.t 25)⟩,
    ⟨none, some 14, .mv (.t 27)⟩])
    (.reg [
    ⟨none, some 28, .mv (.t 12)⟩,
    ⟨none, some 29, .mv (.t 14)⟩,
    ⟨none, some 30, .faddr 3 (.t 7)⟩,
    ⟨none, some 31, .load false 1 (.t 30)⟩,
    ⟨none, some 32, .mv (.t 13)⟩,
    ⟨none, some 33, .iaddrS 4 (.t 31) (.t 32)⟩,
    ⟨none, some 34, .load true 4 (.t 33)⟩,
    ⟨none, some 35, .build [.int .i64 0, .str (bs []), .sl true 1 [], .sl true 4 []] []⟩,
    ⟨none, some 36, .mv (.t 5)⟩,
    ⟨none, some 37, .call 49 [(.t 34), (.t 35), (.t 36)]⟩,
    ⟨none, none, .mset 1 (.t 28) (.t 29) (.t 37)⟩])))
  (.reg [
  ⟨none, some 38, .binI .add (.t 23) (.k (.int .i64 1))⟩,
  ⟨none, some 23, .mv (.t 38)⟩]))))
def lv_coerce_record_2 : List Nat := [0, 3, 5, 7, 8, 12, 40, 41, 42]
def lp_coerce_record_2 : MC :=
  (.seq (.reg [
  ⟨none, some 43, .binI .lss (.t 42) (.t 41)⟩])
  (.seq (.cond (.t 43)
    .skip
    (.exit 2))
  (.seq (.block 3
    (.seq (.reg [
    ⟨none, some 44, .mv (.t 42)⟩,
    ⟨none, some 45, .iaddrS 1 (.t 40) (.t 42)⟩,
    ⟨none, some 46, .load false 1 (.t 45)⟩,
    ⟨none, some 15, .mv (.t 44)⟩,
    ⟨none, some 16, .mv (.t 46)⟩])
    (.seq (.reg [
    ⟨none, some 47, .faddr 2 (.t 7)⟩,
    ⟨none, some 48, .load false 1 (.t 47)⟩,
    ⟨none, some 49, .mv (.t 16)⟩,
    ⟨none, some 50, .call 88 [(.t 48), (.t 49)]⟩,
    ⟨none, some 17, .mv (.t 50)⟩])
    (.seq (.seq (.reg [
    ⟨none, some 51, .mv (.t 17)⟩,
    ⟨none, some 52, .binI .lss (.t 51) (.k (.int .i64 0))⟩])
    (.cond (.t 52)
      (.reg [
      ⟨none, some 53, .mv (.t 0)⟩,
      ⟨none, some 54, .mv (.t 0)⟩,
      ⟨none, some 55, .nilck (.t 54)⟩,
      ⟨none, some 56, .faddr 1 (.t 55)⟩,
      ⟨none, some 57, .load false 1 (.t 56)⟩,
      ⟨none, some 58, .mv (.t 16)⟩,
      ⟨none, some 59, .mv (.t 5)⟩,
      ⟨none, some 60, .build [.str (bs []), .int .i64 0] [(0, 1, (.t 58)), (1, 1, (.t 59))]⟩,
      ⟨none, some 61, .buildSl 2 [(.t 60)]⟩,
      ⟨none, some 62, .append 2 24 (.t 57) (.t 61)⟩,
      ⟨none, some 63, .nilck (.t 53)⟩,
      ⟨none, some 64, .faddr 1 (.t 63)⟩,
      ⟨none, none, .store 1 (.t 64) (.t 62)⟩])
      .skip))
    (.block 4
      (.seq (.reg [
      ⟨none, some 66, .mv (.t 17)⟩,
      ⟨none, some 67, .binI .geq (.t 66) (.k (.int .i64 0))⟩,
      ⟨none, some 65, .mv (.t 67)⟩])
      (.cond (.t 65)
        (.regd [0, 0, 0, 4, 0, 28, 60, 0, 128, 0, 896, 1920, 0, 8188, 16383] [
        ⟨none, some 68, .mv (.t 12)⟩,
        ⟨none, some 69, .mv (.t 16)⟩,
        ⟨none, some 70, .faddr 3 (.t 7)⟩,
        ⟨none, some 71, .load false 1 (.t 70)⟩,
        ⟨none, some 72, .mv (.t 17)⟩,
        ⟨none, some 73, .iaddrS 4 (.t 71) (.t 72)⟩,
        ⟨none, some 74, .load true 4 (.t 73)⟩,
        ⟨none, some 75, .faddr 3 (.t 8)⟩,
        ⟨none, some 76, .load false 1 (.t 75)⟩,
        ⟨none, some 77, .mv (.t 15)⟩,
        ⟨none, some 78, .iaddrS 4 (.t 76) (.t 77)⟩,
        ⟨none, some 79, .load true 4 (.t 78)⟩,
        ⟨none, some 80, .mv (.t 5)⟩,
        ⟨none, some 81, .call 49 [(.t 74), (.t 79), (.t 80)]⟩,
        ⟨none, none, .mset 1 (.t 68) (.t 69) (.t 81)⟩])
        (.seq (.reg [
        ⟨none, some 83, .mv (.t 3)⟩,
        ⟨none, some 82, .mv (.t 83)⟩])
        (.cond (.t 82)
          (.reg [
          ⟨none, some 84, .mv (.t 12)⟩,
          ⟨none, some 85, .mv (.t 16)⟩,
          ⟨none, some 86, .build [.int .i64 0, .str (bs []), .sl true 1 [], .sl true 4 []] []⟩,
          ⟨none, some 87, .faddr 3 (.t 8)⟩,
          ⟨none, some 88, .load false 1 (.t 87)⟩,
          ⟨none, some 89, .mv (.t 15)⟩,
          ⟨none, some 90, .iaddrS 4 (.t 88) (.t 89)⟩,
          ⟨none, some 91, .load true 4 (.t 90)⟩,
          ⟨none, some 92, .mv (.t 5)⟩,
          ⟨none, some 93, .call 49 [(.t 86), (.t 91), (.t 92)]⟩,
          ⟨none, none, .mset 1 (.t 84) (.t 85) (.t 93)⟩])
          .skip)))))))))
  (.reg [
  ⟨none, some 94, .binI .add (.t 42) (.k (.int .i64 1))⟩,
  ⟨none, some 42, .mv (.t 94)⟩]))))
abbrev F.coerce_record : FuncId := 73
def mc_coerce_record : MC :=
  (.seq (.reg [
  ⟨none, some 7, .boxP (.t 1)⟩,
  ⟨none, some 8, .boxP (.t 2)⟩])
  (.seq (.reg [
  ⟨none, some 18, .mkmap⟩,
  ⟨none, some 12, .mv (.t 18)⟩])
  (.seq (.seq (.reg [
  ⟨none, some 19, .mv (.t 4)⟩])
  (.cond (.t 19)
    (.seq (.reg [
    ⟨none, some 20, .faddr 2 (.t 7)⟩,
    ⟨none, some 21, .load false 1 (.t 20)⟩,
    ⟨none, some 22, .len (.t 21)⟩,
    ⟨none, some 23, .mv (.k (.int .i64 0))⟩])
    (.block 0 (.loop lp_coerce_record_0)))
    .skip))
  (.seq (.seq (.owq (.reg [
  ⟨none, some 39, .faddr 2 (.t 8)⟩,
  ⟨none, some 40, .load false 1 (.t 39)⟩,
  ⟨none, some 41, .len (.t 40)⟩,
  ⟨none, some 42, .mv (.k (.int .i64 0))⟩]))
  (.block 2 (.loop lp_coerce_record_2)))
  (.fzq (.reg [
  ⟨none, some 95, .mv (.t 0)⟩,
  ⟨none, some 96, .mv (.t 12)⟩,
  ⟨none, some 97, .callM 55 [(.t 95), (.t 96)]⟩]))))))
theorem w_coerce_record {args : List DV} {v : DV} (hn : args.length ≤ 98) (h : DV.okL args → ∀ c : Ctx, c.N = 98 → c.pure → w_ Pg c mc_coerce_record (endQ [] v) ⟨⟩ ⟨argT 0 args, fun _ => .non, 0⟩) : PCall Pg F.coerce_record args v :=
  PCall.of_walk Tryz.func73 rfl (by kernel_rfl) (by kernel_rfl) (by kernel_rfl) hn fun o c e p => W.aw Pg_mixed (w_start (h o c e p))
theorem wm_coerce_record {args : List AV} {bs : List Blk} {v : AV} {bs' : List Blk} (hs : MStat args 98 bs v bs') (h : ∀ ts : List (Nat × Nat), ts.length = bs.length → AV.okL args → (∀ b, b ∈ bs → b.ok) → ∀ c : Ctx, c.N = 98 → c.pure → w_ Pg c mc_coerce_record (endM [] v bs' ts) ⟨⟩ ⟨argA 0 args, hpOf (bs ++ pinsL 0 ts), bs.length + ts.length⟩) : MCall Pg F.coerce_record args bs v bs' :=
  MCall.of_walk' Tryz.func73 rfl (by kernel_rfl) (by kernel_rfl) (by kernel_rfl) Pg_mixed hs h
end Go.Gr
