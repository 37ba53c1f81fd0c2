/- The codes of a seat's functions, and what a walk through each gives: printed by a program of ours. -/
import Derived.Test.YtkgomampbengjaaGreatDoorChecked
import Derived.KernelRfl
import Derived.Test.YtkgomampbengjaaGreatDoorAbs24
set_option linter.unusedVariables false
namespace Go.Gr
open Go.Abs Go.Proofs
noncomputable abbrev Pg : Program := Tryz.prog
theorem Pg_mixed : Pg.follows .mixedOrders = true := Tryz.checked.mixed
def bs (l : List Nat) : ByteArray := ⟨(l.map UInt8.ofNat).toArray⟩

abbrev F.graduslaw10_awake : FuncId := 11
def mc_graduslaw10_awake : MC :=
  (.seq (.reg [
  ⟨none, some 0, .mv (.k (.bool false))⟩])
  (.seq (.reg [
  ⟨none, some 7, .call 27 [(.k (.int .i64 3))]⟩,
  ⟨none, some 1, .alloc [.int .i64 0, .str (bs []), .sl true 1 [], .sl true 4 []]⟩,
  ⟨none, none, .store 4 (.t 1) (.t 7)⟩])
  (.seq (.reg [
  ⟨none, some 8, .call 27 [(.k (.int .i64 4))]⟩,
  ⟨none, some 2, .alloc [.int .i64 0, .str (bs []), .sl true 1 [], .sl true 4 []]⟩,
  ⟨none, none, .store 4 (.t 2) (.t 8)⟩])
  (.seq (.reg [
  ⟨none, some 9, .call 27 [(.k (.int .i64 0))]⟩,
  ⟨none, some 3, .alloc [.int .i64 0, .str (bs []), .sl true 1 [], .sl true 4 []]⟩,
  ⟨none, none, .store 4 (.t 3) (.t 9)⟩])
  (.seq (.reg [
  ⟨none, some 10, .load true 4 (.t 1)⟩,
  ⟨none, some 11, .load true 4 (.t 3)⟩,
  ⟨none, some 12, .call 28 [(.t 10), (.t 11), (.k (.int .i64 2))]⟩,
  ⟨none, some 4, .alloc [.sl true 1 [], .sl true 2 [], .sl true 1 [], .sl true 5 [], .sl true 5 []]⟩,
  ⟨none, none, .store 5 (.t 4) (.t 12)⟩])
  (.seq (.reg [
  ⟨none, some 13, .load true 4 (.t 3)⟩,
  ⟨none, some 14, .load true 4 (.t 1)⟩,
  ⟨none, some 15, .call 28 [(.t 13), (.t 14), (.k (.int .i64 2))]⟩,
  ⟨none, some 5, .alloc [.sl true 1 [], .sl true 2 [], .sl true 1 [], .sl true 5 [], .sl true 5 []]⟩,
  ⟨none, none, .store 5 (.t 5) (.t 15)⟩])
  (.seq (.regd [0, 0, 0, 6, 15, 0, 63] [
  ⟨none, some 16, .load true 5 (.t 5)⟩,
  ⟨none, some 17, .load true 4 (.t 3)⟩,
  ⟨none, some 18, .load true 4 (.t 2)⟩,
  ⟨none, some 19, .call 28 [(.t 17), (.t 18), (.k (.int .i64 4))]⟩,
  ⟨none, some 20, .call 17 [(.t 16), (.t 19)]⟩,
  ⟨none, some 6, .alloc [.sl true 1 [], .sl true 2 [], .sl true 1 [], .sl true 5 [], .sl true 5 []]⟩,
  ⟨none, none, .store 5 (.t 6) (.t 20)⟩])
  (.seq (.seq (.reg [
  ⟨none, some 21, .faddr 0 (.t 5)⟩,
  ⟨none, some 22, .load false 1 (.t 21)⟩,
  ⟨none, some 23, .len (.t 22)⟩,
  ⟨none, some 24, .binI .neq (.t 23) (.k (.int .i64 6))⟩,
  ⟨none, some 25, .mv (.t 24)⟩,
  ⟨(some (25, false)), some 26, .faddr 0 (.t 6)⟩,
  ⟨(some (25, false)), some 27, .load false 1 (.t 26)⟩,
  ⟨(some (25, false)), some 28, .len (.t 27)⟩,
  ⟨(some (25, false)), some 29, .binI .neq (.t 28) (.k (.int .i64 6))⟩,
  ⟨none, some 30, .pick (.t 25) (.k (.bool true)) (.t 29)⟩])
  (.cond (.t 30)
    (.seq (.reg [
    ⟨none, some 0, .mv (.k (.bool false))⟩])
    .ret)
    .skip))
  (.seq (.regd [0, 0, 3, 7, 15, 31, 63, 127, 255, 511, 1023, 2047, 4095, 8191, 16383, 32767, 65535, 131071, 262143, 524287, 1048575, 2097151, 4194303, 8388607, 16777215, 33554431, 67108863, 134217727, 268435455, 536870911, 1073741823, 2147483647, 4294967295, 8589934591, 17179869183, 34359738367, 68719476735, 137438953471, 274877906943, 549755813887, 1099511627775] [
  ⟨none, some 31, .load true 5 (.t 4)⟩,
  ⟨none, some 32, .call 19 []⟩,
  ⟨none, some 33, .call 15 [(.t 31), (.t 32)]⟩,
  ⟨none, some 34, .mv (.t 33)⟩,
  ⟨(some (34, true)), some 35, .faddr 0 (.t 5)⟩,
  ⟨(some (34, true)), some 36, .load false 1 (.t 35)⟩,
  ⟨(some (34, true)), some 37, .iaddrS 1 (.t 36) (.k (.int .i64 2))⟩,
  ⟨(some (34, true)), some 38, .load false 1 (.t 37)⟩,
  ⟨(some (34, true)), some 39, .binI .eql (.t 38) (.k (.int .i64 0))⟩,
  ⟨none, some 40, .pick (.t 34) (.t 39) (.k (.bool false))⟩,
  ⟨none, some 41, .mv (.t 40)⟩,
  ⟨(some (41, true)), some 42, .faddr 0 (.t 5)⟩,
  ⟨(some (41, true)), some 43, .load false 1 (.t 42)⟩,
  ⟨(some (41, true)), some 44, .iaddrS 1 (.t 43) (.k (.int .i64 5))⟩,
  ⟨(some (41, true)), some 45, .load false 1 (.t 44)⟩,
  ⟨(some (41, true)), some 46, .binI .eql (.t 45) (.k (.int .i64 2))⟩,
  ⟨none, some 47, .pick (.t 41) (.t 46) (.k (.bool false))⟩,
  ⟨none, some 48, .mv (.t 47)⟩,
  ⟨(some (48, true)), some 49, .faddr 0 (.t 6)⟩,
  ⟨(some (48, true)), some 50, .load false 1 (.t 49)⟩,
  ⟨(some (48, true)), some 51, .iaddrS 1 (.t 50) (.k (.int .i64 2))⟩,
  ⟨(some (48, true)), some 52, .load false 1 (.t 51)⟩,
  ⟨(some (48, true)), some 53, .binI .eql (.t 52) (.k (.int .i64 4))⟩,
  ⟨none, some 54, .pick (.t 48) (.t 53) (.k (.bool false))⟩,
  ⟨none, some 55, .mv (.t 54)⟩,
  ⟨(some (55, true)), some 56, .faddr 0 (.t 6)⟩,
  ⟨(some (55, true)), some 57, .load false 1 (.t 56)⟩,
  ⟨(some (55, true)), some 58, .iaddrS 1 (.t 57) (.k (.int .i64 3))⟩,
  ⟨(some (55, true)), some 59, .load false 1 (.t 58)⟩,
  ⟨(some (55, true)), some 60, .binI .eql (.t 59) (.k (.int .i64 2))⟩,
  ⟨none, some 61, .pick (.t 55) (.t 60) (.k (.bool false))⟩,
  ⟨none, some 62, .mv (.t 61)⟩,
  ⟨(some (62, true)), some 63, .load true 5 (.t 6)⟩,
  ⟨(some (62, true)), some 64, .call 13 [(.t 63)]⟩,
  ⟨none, some 65, .pick (.t 62) (.t 64) (.k (.bool false))⟩,
  ⟨none, some 66, .mv (.t 65)⟩,
  ⟨(some (66, true)), some 67, .load true 5 (.t 6)⟩,
  ⟨(some (66, true)), some 68, .call 22 [(.t 67)]⟩,
  ⟨(some (66, true)), some 69, .binI .eql (.t 68) (.k (.int .i64 1))⟩,
  ⟨none, some 70, .pick (.t 66) (.t 69) (.k (.bool false))⟩,
  ⟨none, some 0, .mv (.t 70)⟩])
  .ret)))))))))
theorem w_graduslaw10_awake {args : List DV} {v : DV} (hn : args.length ≤ 71) (h : DV.okL args → ∀ c : Ctx, c.N = 71 → c.pure → w_ Pg c mc_graduslaw10_awake (endQ [.tmp 0] v) ⟨⟩ ⟨argT 0 args, fun _ => .non, 0⟩) : PCall Pg F.graduslaw10_awake args v :=
  PCall.of_walk Tryz.func11 rfl (by kernel_rfl) (by kernel_rfl) (by kernel_rfl) hn fun o c e p => W.aw Pg_mixed (w_start (h o c e p))
abbrev F.graduslaw10_CoerceMays : FuncId := 3
def mc_graduslaw10_CoerceMays : MC :=
  (.seq (.reg [
  ⟨none, some 2, .boxP (.t 0)⟩,
  ⟨none, some 3, .boxP (.t 1)⟩,
  ⟨none, some 4, .mv (.k (.bool false))⟩])
  (.seq (.reg [
  ⟨none, some 6, .call 11 []⟩,
  ⟨none, some 5, .mv (.t 6)⟩])
  (.seq (.seq (.reg [
  ⟨none, some 7, .mv (.t 5)⟩,
  ⟨none, some 8, .not (.t 7)⟩,
  ⟨none, some 9, .mv (.t 8)⟩,
  ⟨(some (9, false)), some 10, .load true 5 (.t 2)⟩,
  ⟨(some (9, false)), some 11, .call 12 [(.t 10), (.k (.int .i64 300))]⟩,
  ⟨(some (9, false)), some 12, .binI .eql (.t 11) (.k (.int .i64 0))⟩,
  ⟨none, some 13, .pick (.t 9) (.k (.bool true)) (.t 12)⟩,
  ⟨none, some 14, .mv (.t 13)⟩,
  ⟨(some (14, false)), some 15, .load true 5 (.t 3)⟩,
  ⟨(some (14, false)), some 16, .call 12 [(.t 15), (.k (.int .i64 300))]⟩,
  ⟨(some (14, false)), some 17, .binI .eql (.t 16) (.k (.int .i64 0))⟩,
  ⟨none, some 18, .pick (.t 14) (.k (.bool true)) (.t 17)⟩])
  (.cond (.t 18)
    (.seq (.reg [
    ⟨none, some 19, .mv (.t 5)⟩,
    ⟨none, some 4, .mv (.t 19)⟩])
    .ret)
    .skip))
  (.seq (.regd [0, 1, 3, 7, 3, 31, 63, 127, 255, 511, 511, 2047, 511, 511, 16383, 32767, 65535, 131071, 262143, 262143, 1048575, 2097151, 4194303] [
  ⟨none, some 20, .mv (.t 5)⟩,
  ⟨none, some 21, .mv (.t 20)⟩,
  ⟨(some (21, true)), some 22, .load true 5 (.t 2)⟩,
  ⟨(some (21, true)), some 23, .call 13 [(.t 22)]⟩,
  ⟨(some (21, true)), some 24, .load true 5 (.t 2)⟩,
  ⟨(some (21, true)), some 25, .call 14 [(.t 24)]⟩,
  ⟨(some (21, true)), some 26, .binB .eql (.t 23) (.t 25)⟩,
  ⟨none, some 27, .pick (.t 21) (.t 26) (.k (.bool false))⟩,
  ⟨none, some 28, .mv (.t 27)⟩,
  ⟨(some (28, true)), some 29, .load true 5 (.t 2)⟩,
  ⟨(some (28, true)), some 30, .load true 5 (.t 3)⟩,
  ⟨(some (28, true)), some 31, .call 15 [(.t 29), (.t 30)]⟩,
  ⟨(some (28, true)), some 32, .load true 5 (.t 2)⟩,
  ⟨(some (28, true)), some 33, .load true 5 (.t 3)⟩,
  ⟨(some (28, true)), some 34, .call 16 [(.t 32), (.t 33)]⟩,
  ⟨(some (28, true)), some 35, .binB .eql (.t 31) (.t 34)⟩,
  ⟨none, some 36, .pick (.t 28) (.t 35) (.k (.bool false))⟩,
  ⟨none, some 37, .mv (.t 36)⟩,
  ⟨(some (37, true)), some 38, .load true 5 (.t 2)⟩,
  ⟨(some (37, true)), some 39, .load true 5 (.t 2)⟩,
  ⟨(some (37, true)), some 40, .call 15 [(.t 38), (.t 39)]⟩,
  ⟨none, some 41, .pick (.t 37) (.t 40) (.k (.bool false))⟩,
  ⟨none, some 4, .mv (.t 41)⟩])
  .ret))))
theorem w_graduslaw10_CoerceMays {args : List DV} {v : DV} (hn : args.length ≤ 42) (h : DV.okL args → ∀ c : Ctx, c.N = 42 → c.pure → w_ Pg c mc_graduslaw10_CoerceMays (endQ [.tmp 4] v) ⟨⟩ ⟨argT 0 args, fun _ => .non, 0⟩) : PCall Pg F.graduslaw10_CoerceMays args v :=
  PCall.of_walk Tryz.func3 rfl (by kernel_rfl) (by kernel_rfl) (by kernel_rfl) hn fun o c e p => W.aw Pg_mixed (w_start (h o c e p))
abbrev F.graduslaw10_CoerceComposes : FuncId := 4
def mc_graduslaw10_CoerceComposes : MC :=
  (.seq (.reg [
  ⟨none, some 2, .boxP (.t 0)⟩,
  ⟨none, some 3, .boxP (.t 1)⟩,
  ⟨none, some 4, .mv (.k (.bool false))⟩])
  (.seq (.reg [
  ⟨none, some 10, .call 11 []⟩,
  ⟨none, some 5, .mv (.t 10)⟩])
  (.seq (.seq (.reg [
  ⟨none, some 11, .mv (.t 5)⟩,
  ⟨none, some 12, .not (.t 11)⟩,
  ⟨none, some 13, .mv (.t 12)⟩,
  ⟨(some (13, false)), some 14, .load true 5 (.t 2)⟩,
  ⟨(some (13, false)), some 15, .call 12 [(.t 14), (.k (.int .i64 200))]⟩,
  ⟨(some (13, false)), some 16, .binI .eql (.t 15) (.k (.int .i64 0))⟩,
  ⟨none, some 17, .pick (.t 13) (.k (.bool true)) (.t 16)⟩,
  ⟨none, some 18, .mv (.t 17)⟩,
  ⟨(some (18, false)), some 19, .load true 5 (.t 3)⟩,
  ⟨(some (18, false)), some 20, .call 12 [(.t 19), (.k (.int .i64 200))]⟩,
  ⟨(some (18, false)), some 21, .binI .eql (.t 20) (.k (.int .i64 0))⟩,
  ⟨none, some 22, .pick (.t 18) (.k (.bool true)) (.t 21)⟩])
  (.cond (.t 22)
    (.seq (.reg [
    ⟨none, some 23, .mv (.t 5)⟩,
    ⟨none, some 4, .mv (.t 23)⟩])
    .ret)
    .skip))
  (.seq (.reg [
  ⟨none, some 24, .load true 5 (.t 2)⟩,
  ⟨none, some 25, .load true 5 (.t 3)⟩,
  ⟨none, some 26, .call 17 [(.t 24), (.t 25)]⟩,
  ⟨none, some 6, .alloc [.sl true 1 [], .sl true 2 [], .sl true 1 [], .sl true 5 [], .sl true 5 []]⟩,
  ⟨none, none, .store 5 (.t 6) (.t 26)⟩])
  (.seq (.regd [0, 0, 0, 6, 15, 31] [
  ⟨none, some 27, .load true 5 (.t 6)⟩,
  ⟨none, some 28, .load true 5 (.t 2)⟩,
  ⟨none, some 29, .load true 5 (.t 3)⟩,
  ⟨none, some 30, .call 18 [(.t 28), (.t 29)]⟩,
  ⟨none, some 31, .call 16 [(.t 27), (.t 30)]⟩,
  ⟨none, some 7, .mv (.t 31)⟩])
  (.seq (.reg [
  ⟨none, some 32, .load true 5 (.t 2)⟩,
  ⟨none, some 33, .call 13 [(.t 32)]⟩,
  ⟨none, some 8, .mv (.t 33)⟩])
  (.seq (.reg [
  ⟨none, some 34, .load true 5 (.t 3)⟩,
  ⟨none, some 35, .call 13 [(.t 34)]⟩,
  ⟨none, some 9, .mv (.t 35)⟩])
  (.seq (.reg [
  ⟨none, some 36, .mv (.t 7)⟩,
  ⟨none, some 37, .mv (.t 36)⟩,
  ⟨(some (37, true)), some 38, .load true 5 (.t 6)⟩,
  ⟨(some (37, true)), some 39, .call 13 [(.t 38)]⟩,
  ⟨(some (37, true)), some 40, .mv (.t 8)⟩,
  ⟨(some (37, true)), some 41, .mv (.t 40)⟩,
  ⟨(some (41, true)), some 42, .mv (.t 9)⟩,
  ⟨(some (37, true)), some 43, .pick (.t 41) (.t 42) (.k (.bool false))⟩,
  ⟨(some (37, true)), some 44, .binB .eql (.t 39) (.t 43)⟩,
  ⟨none, some 45, .pick (.t 37) (.t 44) (.k (.bool false))⟩,
  ⟨none, some 4, .mv (.t 45)⟩])
  .ret))))))))
theorem w_graduslaw10_CoerceComposes {args : List DV} {v : DV} (hn : args.length ≤ 46) (h : DV.okL args → ∀ c : Ctx, c.N = 46 → c.pure → w_ Pg c mc_graduslaw10_CoerceComposes (endQ [.tmp 4] v) ⟨⟩ ⟨argT 0 args, fun _ => .non, 0⟩) : PCall Pg F.graduslaw10_CoerceComposes args v :=
  PCall.of_walk Tryz.func4 rfl (by kernel_rfl) (by kernel_rfl) (by kernel_rfl) hn fun o c e p => W.aw Pg_mixed (w_start (h o c e p))
abbrev F.graduslaw10_CoerceUnits : FuncId := 5
def mc_graduslaw10_CoerceUnits : MC :=
  (.seq (.reg [
  ⟨none, some 3, .boxP (.t 0)⟩,
  ⟨none, some 4, .boxP (.t 1)⟩,
  ⟨none, some 5, .boxP (.t 2)⟩,
  ⟨none, some 6, .mv (.k (.bool false))⟩])
  (.seq (.reg [
  ⟨none, some 11, .call 11 []⟩,
  ⟨none, some 7, .mv (.t 11)⟩])
  (.seq (.seq (.reg [
  ⟨none, some 12, .mv (.t 7)⟩,
  ⟨none, some 13, .not (.t 12)⟩,
  ⟨none, some 14, .mv (.t 13)⟩,
  ⟨(some (14, false)), some 15, .load true 5 (.t 3)⟩,
  ⟨(some (14, false)), some 16, .call 12 [(.t 15), (.k (.int .i64 100))]⟩,
  ⟨(some (14, false)), some 17, .binI .eql (.t 16) (.k (.int .i64 0))⟩,
  ⟨none, some 18, .pick (.t 14) (.k (.bool true)) (.t 17)⟩,
  ⟨none, some 19, .mv (.t 18)⟩,
  ⟨(some (19, false)), some 20, .load true 5 (.t 4)⟩,
  ⟨(some (19, false)), some 21, .call 12 [(.t 20), (.k (.int .i64 100))]⟩,
  ⟨(some (19, false)), some 22, .binI .eql (.t 21) (.k (.int .i64 0))⟩,
  ⟨none, some 23, .pick (.t 19) (.k (.bool true)) (.t 22)⟩,
  ⟨none, some 24, .mv (.t 23)⟩,
  ⟨(some (24, false)), some 25, .load true 5 (.t 5)⟩,
  ⟨(some (24, false)), some 26, .call 12 [(.t 25), (.k (.int .i64 100))]⟩,
  ⟨(some (24, false)), some 27, .binI .eql (.t 26) (.k (.int .i64 0))⟩,
  ⟨none, some 28, .pick (.t 24) (.k (.bool true)) (.t 27)⟩])
  (.cond (.t 28)
    (.seq (.reg [
    ⟨none, some 29, .mv (.t 7)⟩,
    ⟨none, some 6, .mv (.t 29)⟩])
    .ret)
    .skip))
  (.seq (.reg [
  ⟨none, some 30, .call 19 []⟩,
  ⟨none, some 8, .alloc [.sl true 1 [], .sl true 2 [], .sl true 1 [], .sl true 5 [], .sl true 5 []]⟩,
  ⟨none, none, .store 5 (.t 8) (.t 30)⟩])
  (.seq (.seq (.regd [0, 1, 3, 7, 7, 31, 7, 127, 255, 511, 1023, 1023, 4095, 1023, 16383, 32767, 65535, 131071] [
  ⟨none, some 31, .load true 5 (.t 3)⟩,
  ⟨none, some 32, .call 13 [(.t 31)]⟩,
  ⟨none, some 33, .mv (.t 32)⟩,
  ⟨(some (33, true)), some 34, .load true 5 (.t 3)⟩,
  ⟨(some (33, true)), some 35, .load true 5 (.t 8)⟩,
  ⟨(some (33, true)), some 36, .call 17 [(.t 34), (.t 35)]⟩,
  ⟨(some (33, true)), some 37, .load true 5 (.t 3)⟩,
  ⟨(some (33, true)), some 38, .call 15 [(.t 36), (.t 37)]⟩,
  ⟨(some (33, true)), some 39, .not (.t 38)⟩,
  ⟨(some (33, true)), some 40, .mv (.t 39)⟩,
  ⟨(some (40, false)), some 41, .load true 5 (.t 8)⟩,
  ⟨(some (40, false)), some 42, .load true 5 (.t 3)⟩,
  ⟨(some (40, false)), some 43, .call 17 [(.t 41), (.t 42)]⟩,
  ⟨(some (40, false)), some 44, .load true 5 (.t 3)⟩,
  ⟨(some (40, false)), some 45, .call 15 [(.t 43), (.t 44)]⟩,
  ⟨(some (40, false)), some 46, .not (.t 45)⟩,
  ⟨(some (33, true)), some 47, .pick (.t 40) (.k (.bool true)) (.t 46)⟩,
  ⟨none, some 48, .pick (.t 33) (.t 47) (.k (.bool false))⟩])
  (.cond (.t 48)
    (.seq (.reg [
    ⟨none, some 6, .mv (.k (.bool false))⟩])
    .ret)
    .skip))
  (.seq (.seq (.reg [
  ⟨none, some 49, .load true 5 (.t 3)⟩,
  ⟨none, some 50, .call 13 [(.t 49)]⟩,
  ⟨none, some 51, .not (.t 50)⟩,
  ⟨none, some 52, .mv (.t 51)⟩,
  ⟨(some (52, false)), some 53, .load true 5 (.t 4)⟩,
  ⟨(some (52, false)), some 54, .call 13 [(.t 53)]⟩,
  ⟨(some (52, false)), some 55, .not (.t 54)⟩,
  ⟨none, some 56, .pick (.t 52) (.k (.bool true)) (.t 55)⟩,
  ⟨none, some 57, .mv (.t 56)⟩,
  ⟨(some (57, false)), some 58, .load true 5 (.t 5)⟩,
  ⟨(some (57, false)), some 59, .call 13 [(.t 58)]⟩,
  ⟨(some (57, false)), some 60, .not (.t 59)⟩,
  ⟨none, some 61, .pick (.t 57) (.k (.bool true)) (.t 60)⟩])
  (.cond (.t 61)
    (.seq (.reg [
    ⟨none, some 6, .mv (.k (.bool true))⟩])
    .ret)
    .skip))
  (.seq (.regd [0, 0, 3, 0, 15, 0, 63] [
  ⟨none, some 62, .load true 5 (.t 3)⟩,
  ⟨none, some 63, .load true 5 (.t 4)⟩,
  ⟨none, some 64, .call 17 [(.t 62), (.t 63)]⟩,
  ⟨none, some 65, .load true 5 (.t 5)⟩,
  ⟨none, some 66, .call 17 [(.t 64), (.t 65)]⟩,
  ⟨none, some 9, .alloc [.sl true 1 [], .sl true 2 [], .sl true 1 [], .sl true 5 [], .sl true 5 []]⟩,
  ⟨none, none, .store 5 (.t 9) (.t 66)⟩])
  (.seq (.regd [0, 0, 0, 6, 15, 0, 63] [
  ⟨none, some 67, .load true 5 (.t 3)⟩,
  ⟨none, some 68, .load true 5 (.t 4)⟩,
  ⟨none, some 69, .load true 5 (.t 5)⟩,
  ⟨none, some 70, .call 17 [(.t 68), (.t 69)]⟩,
  ⟨none, some 71, .call 17 [(.t 67), (.t 70)]⟩,
  ⟨none, some 10, .alloc [.sl true 1 [], .sl true 2 [], .sl true 1 [], .sl true 5 [], .sl true 5 []]⟩,
  ⟨none, none, .store 5 (.t 10) (.t 71)⟩])
  (.seq (.reg [
  ⟨none, some 72, .load true 5 (.t 9)⟩,
  ⟨none, some 73, .load true 5 (.t 10)⟩,
  ⟨none, some 74, .call 15 [(.t 72), (.t 73)]⟩,
  ⟨none, some 6, .mv (.t 74)⟩])
  .ret)))))))))
theorem w_graduslaw10_CoerceUnits {args : List DV} {v : DV} (hn : args.length ≤ 75) (h : DV.okL args → ∀ c : Ctx, c.N = 75 → c.pure → w_ Pg c mc_graduslaw10_CoerceUnits (endQ [.tmp 6] v) ⟨⟩ ⟨argT 0 args, fun _ => .non, 0⟩) : PCall Pg F.graduslaw10_CoerceUnits args v :=
  PCall.of_walk Tryz.func5 rfl (by kernel_rfl) (by kernel_rfl) (by kernel_rfl) hn fun o c e p => W.aw Pg_mixed (w_start (h o c e p))
abbrev F.graduslaw10_CoerceTwice : FuncId := 6
def mc_graduslaw10_CoerceTwice : MC :=
  (.seq (.reg [
  ⟨none, some 1, .boxP (.t 0)⟩,
  ⟨none, some 2, .mv (.k (.bool false))⟩])
  (.seq (.reg [
  ⟨none, some 4, .call 11 []⟩,
  ⟨none, some 3, .mv (.t 4)⟩])
  (.seq (.seq (.reg [
  ⟨none, some 5, .mv (.t 3)⟩,
  ⟨none, some 6, .not (.t 5)⟩,
  ⟨none, some 7, .mv (.t 6)⟩,
  ⟨(some (7, false)), some 8, .load true 5 (.t 1)⟩,
  ⟨(some (7, false)), some 9, .call 12 [(.t 8), (.k (.int .i64 100))]⟩,
  ⟨(some (7, false)), some 10, .binI .eql (.t 9) (.k (.int .i64 0))⟩,
  ⟨none, some 11, .pick (.t 7) (.k (.bool true)) (.t 10)⟩,
  ⟨none, some 12, .mv (.t 11)⟩,
  ⟨(some (12, false)), some 13, .load true 5 (.t 1)⟩,
  ⟨(some (12, false)), some 14, .call 13 [(.t 13)]⟩,
  ⟨(some (12, false)), some 15, .not (.t 14)⟩,
  ⟨none, some 16, .pick (.t 12) (.k (.bool true)) (.t 15)⟩])
  (.cond (.t 16)
    (.seq (.reg [
    ⟨none, some 17, .mv (.t 3)⟩,
    ⟨none, some 2, .mv (.t 17)⟩])
    .ret)
    .skip))
  (.seq (.regd [0, 0, 3, 0, 15, 31] [
  ⟨none, some 18, .load true 5 (.t 1)⟩,
  ⟨none, some 19, .load true 5 (.t 1)⟩,
  ⟨none, some 20, .call 17 [(.t 18), (.t 19)]⟩,
  ⟨none, some 21, .load true 5 (.t 1)⟩,
  ⟨none, some 22, .call 15 [(.t 20), (.t 21)]⟩,
  ⟨none, some 2, .mv (.t 22)⟩])
  .ret))))
theorem w_graduslaw10_CoerceTwice {args : List DV} {v : DV} (hn : args.length ≤ 23) (h : DV.okL args → ∀ c : Ctx, c.N = 23 → c.pure → w_ Pg c mc_graduslaw10_CoerceTwice (endQ [.tmp 2] v) ⟨⟩ ⟨argT 0 args, fun _ => .non, 0⟩) : PCall Pg F.graduslaw10_CoerceTwice args v :=
  PCall.of_walk Tryz.func6 rfl (by kernel_rfl) (by kernel_rfl) (by kernel_rfl) hn fun o c e p => W.aw Pg_mixed (w_start (h o c e p))
def lv_graduslaw10_CoerceLabels_0 : List Nat := [4, 5, 6]
def lp_graduslaw10_CoerceLabels_0 : MC :=
  (.seq (.seq (.reg [
  ⟨none, some 32, .mv (.t 6)⟩,
  ⟨none, some 33, .mv (.t 4)⟩,
  ⟨none, some 34, .len (.t 33)⟩,
  ⟨none, some 35, .binI .lss (.t 32) (.t 34)⟩])
  (.cond (.t 35)
    .skip
    (.exit 0)))
  (.seq (.block 1
    (.seq (.regd [0, 0, 3, 7, 0, 0, 48, 112, 255] [
    ⟨none, some 38, .mv (.t 4)⟩,
    ⟨none, some 39, .mv (.t 6)⟩,
    ⟨none, some 40, .iaddrS 1 (.t 38) (.t 39)⟩,
    ⟨none, some 41, .load false 1 (.t 40)⟩,
    ⟨none, some 42, .mv (.t 5)⟩,
    ⟨none, some 43, .mv (.t 6)⟩,
    ⟨none, some 44, .iaddrS 1 (.t 42) (.t 43)⟩,
    ⟨none, some 45, .load false 1 (.t 44)⟩,
    ⟨none, some 46, .binI .neq (.t 41) (.t 45)⟩])
    (.cond (.t 46)
      (.seq (.reg [
      ⟨none, some 2, .mv (.k (.bool false))⟩])
      .ret)
      .skip)))
  (.reg [
  ⟨none, some 36, .mv (.t 6)⟩,
  ⟨none, some 37, .binI .add (.t 36) (.k (.int .i64 1))⟩,
  ⟨none, some 6, .mv (.t 37)⟩])))
abbrev F.graduslaw10_CoerceLabels : FuncId := 7
def mc_graduslaw10_CoerceLabels : MC :=
  (.seq (.reg [
  ⟨none, some 1, .boxP (.t 0)⟩,
  ⟨none, some 2, .mv (.k (.bool false))⟩])
  (.seq (.reg [
  ⟨none, some 7, .call 11 []⟩,
  ⟨none, some 3, .mv (.t 7)⟩])
  (.seq (.seq (.reg [
  ⟨none, some 8, .mv (.t 3)⟩,
  ⟨none, some 9, .not (.t 8)⟩,
  ⟨none, some 10, .mv (.t 9)⟩,
  ⟨(some (10, false)), some 11, .load true 5 (.t 1)⟩,
  ⟨(some (10, false)), some 12, .call 12 [(.t 11), (.k (.int .i64 300))]⟩,
  ⟨(some (10, false)), some 13, .binI .eql (.t 12) (.k (.int .i64 0))⟩,
  ⟨none, some 14, .pick (.t 10) (.k (.bool true)) (.t 13)⟩])
  (.cond (.t 14)
    (.seq (.reg [
    ⟨none, some 15, .mv (.t 3)⟩,
    ⟨none, some 2, .mv (.t 15)⟩])
    .ret)
    .skip))
  (.seq (.reg [
  ⟨none, some 16, .load true 5 (.t 1)⟩,
  ⟨none, some 17, .call 20 [(.t 16)]⟩,
  ⟨none, some 4, .mv (.t 17)⟩])
  (.seq (.reg [
  ⟨none, some 18, .load true 5 (.t 1)⟩,
  ⟨none, some 19, .call 21 [(.t 18)]⟩,
  ⟨none, some 5, .mv (.t 19)⟩])
  (.seq (.seq (.regd [0, 1, 0, 4, 15, 31, 63, 127, 63, 511, 1023, 2047] [
  ⟨none, some 20, .mv (.t 4)⟩,
  ⟨none, some 21, .len (.t 20)⟩,
  ⟨none, some 22, .mv (.t 5)⟩,
  ⟨none, some 23, .len (.t 22)⟩,
  ⟨none, some 24, .binI .neq (.t 21) (.t 23)⟩,
  ⟨none, some 25, .mv (.t 24)⟩,
  ⟨(some (25, false)), some 26, .load true 5 (.t 1)⟩,
  ⟨(some (25, false)), some 27, .call 22 [(.t 26)]⟩,
  ⟨(some (25, false)), some 28, .load true 5 (.t 1)⟩,
  ⟨(some (25, false)), some 29, .call 23 [(.t 28)]⟩,
  ⟨(some (25, false)), some 30, .binI .neq (.t 27) (.t 29)⟩,
  ⟨none, some 31, .pick (.t 25) (.k (.bool true)) (.t 30)⟩])
  (.cond (.t 31)
    (.seq (.reg [
    ⟨none, some 2, .mv (.k (.bool false))⟩])
    .ret)
    .skip))
  (.seq (.seq (.reg [
  ⟨none, some 6, .mv (.k (.int .i64 0))⟩])
  (.block 0 (.loop lp_graduslaw10_CoerceLabels_0)))
  (.seq (.reg [
  ⟨none, some 2, .mv (.k (.bool true))⟩])
  .ret))))))))
theorem w_graduslaw10_CoerceLabels {args : List DV} {v : DV} (hn : args.length ≤ 47) (h : DV.okL args → ∀ c : Ctx, c.N = 47 → c.pure → w_ Pg c mc_graduslaw10_CoerceLabels (endQ [.tmp 2] v) ⟨⟩ ⟨argT 0 args, fun _ => .non, 0⟩) : PCall Pg F.graduslaw10_CoerceLabels args v :=
  PCall.of_walk Tryz.func7 rfl (by kernel_rfl) (by kernel_rfl) (by kernel_rfl) hn fun o c e p => W.aw Pg_mixed (w_start (h o c e p))
def lv_graduslaw10_CoerceSizes_0 : List Nat := [2, 3, 6, 7, 8, 9, 10]
def lp_graduslaw10_CoerceSizes_0 : MC :=
  (.seq (.seq (.reg [
  ⟨none, some 46, .mv (.t 10)⟩,
  ⟨none, some 47, .mv (.t 9)⟩,
  ⟨none, some 48, .len (.t 47)⟩,
  ⟨none, some 49, .binI .lss (.t 46) (.t 48)⟩])
  (.cond (.t 49)
    .skip
    (.exit 0)))
  (.seq (.block 1
    (.seq (.reg [
    ⟨none, some 52, .mv (.t 7)⟩,
    ⟨none, some 53, .mv (.t 9)⟩,
    ⟨none, some 54, .mv (.t 10)⟩,
    ⟨none, some 55, .iaddrS 1 (.t 53) (.t 54)⟩,
    ⟨none, some 56, .load false 1 (.t 55)⟩,
    ⟨none, some 57, .call 24 [(.t 52), (.t 56)]⟩,
    ⟨none, some 11, .mv (.t 57)⟩])
    (.seq (.reg [
    ⟨none, some 58, .mv (.t 8)⟩,
    ⟨none, some 59, .mv (.t 9)⟩,
    ⟨none, some 60, .mv (.t 10)⟩,
    ⟨none, some 61, .iaddrS 1 (.t 59) (.t 60)⟩,
    ⟨none, some 62, .load false 1 (.t 61)⟩,
    ⟨none, some 63, .call 24 [(.t 58), (.t 62)]⟩,
    ⟨none, some 12, .mv (.t 63)⟩])
    (.seq (.reg [
    ⟨none, some 64, .mv (.t 11)⟩,
    ⟨none, some 65, .not (.t 64)⟩,
    ⟨none, some 66, .mv (.t 65)⟩,
    ⟨(some (66, true)), some 67, .mv (.t 12)⟩,
    ⟨(some (66, true)), some 68, .not (.t 67)⟩,
    ⟨none, some 69, .pick (.t 66) (.t 68) (.k (.bool false))⟩])
    (.cond (.t 69)
      (.seq (.reg [
      ⟨none, some 4, .mv (.k (.bool false))⟩])
      .ret)
      .skip)))))
  (.reg [
  ⟨none, some 50, .mv (.t 10)⟩,
  ⟨none, some 51, .binI .add (.t 50) (.k (.int .i64 1))⟩,
  ⟨none, some 10, .mv (.t 51)⟩])))
abbrev F.graduslaw10_CoerceSizes : FuncId := 8
def mc_graduslaw10_CoerceSizes : MC :=
  (.seq (.reg [
  ⟨none, some 2, .boxP (.t 0)⟩,
  ⟨none, some 3, .boxP (.t 1)⟩,
  ⟨none, some 4, .mv (.k (.bool false))⟩])
  (.seq (.reg [
  ⟨none, some 13, .call 11 []⟩,
  ⟨none, some 5, .mv (.t 13)⟩])
  (.seq (.seq (.reg [
  ⟨none, some 14, .mv (.t 5)⟩,
  ⟨none, some 15, .not (.t 14)⟩,
  ⟨none, some 16, .mv (.t 15)⟩,
  ⟨(some (16, false)), some 17, .load true 5 (.t 2)⟩,
  ⟨(some (16, false)), some 18, .call 12 [(.t 17), (.k (.int .i64 100))]⟩,
  ⟨(some (16, false)), some 19, .binI .eql (.t 18) (.k (.int .i64 0))⟩,
  ⟨none, some 20, .pick (.t 16) (.k (.bool true)) (.t 19)⟩,
  ⟨none, some 21, .mv (.t 20)⟩,
  ⟨(some (21, false)), some 22, .load true 5 (.t 3)⟩,
  ⟨(some (21, false)), some 23, .call 12 [(.t 22), (.k (.int .i64 100))]⟩,
  ⟨(some (21, false)), some 24, .binI .eql (.t 23) (.k (.int .i64 0))⟩,
  ⟨none, some 25, .pick (.t 21) (.k (.bool true)) (.t 24)⟩,
  ⟨none, some 26, .mv (.t 25)⟩,
  ⟨(some (26, false)), some 27, .load true 5 (.t 2)⟩,
  ⟨(some (26, false)), some 28, .call 13 [(.t 27)]⟩,
  ⟨(some (26, false)), some 29, .not (.t 28)⟩,
  ⟨none, some 30, .pick (.t 26) (.k (.bool true)) (.t 29)⟩,
  ⟨none, some 31, .mv (.t 30)⟩,
  ⟨(some (31, false)), some 32, .load true 5 (.t 3)⟩,
  ⟨(some (31, false)), some 33, .call 13 [(.t 32)]⟩,
  ⟨(some (31, false)), some 34, .not (.t 33)⟩,
  ⟨none, some 35, .pick (.t 31) (.k (.bool true)) (.t 34)⟩])
  (.cond (.t 35)
    (.seq (.reg [
    ⟨none, some 36, .mv (.t 5)⟩,
    ⟨none, some 4, .mv (.t 36)⟩])
    .ret)
    .skip))
  (.seq (.reg [
  ⟨none, some 37, .load true 5 (.t 2)⟩,
  ⟨none, some 38, .load true 5 (.t 3)⟩,
  ⟨none, some 39, .call 17 [(.t 37), (.t 38)]⟩,
  ⟨none, some 6, .alloc [.sl true 1 [], .sl true 2 [], .sl true 1 [], .sl true 5 [], .sl true 5 []]⟩,
  ⟨none, none, .store 5 (.t 6) (.t 39)⟩])
  (.seq (.reg [
  ⟨none, some 40, .load true 5 (.t 2)⟩,
  ⟨none, some 41, .call 20 [(.t 40)]⟩,
  ⟨none, some 7, .mv (.t 41)⟩])
  (.seq (.reg [
  ⟨none, some 42, .load true 5 (.t 3)⟩,
  ⟨none, some 43, .call 20 [(.t 42)]⟩,
  ⟨none, some 8, .mv (.t 43)⟩])
  (.seq (.reg [
  ⟨none, some 44, .load true 5 (.t 6)⟩,
  ⟨none, some 45, .call 20 [(.t 44)]⟩,
  ⟨none, some 9, .mv (.t 45)⟩])
  (.seq (.seq (.reg [
  ⟨none, some 10, .mv (.k (.int .i64 0))⟩])
  (.block 0 (.loop lp_graduslaw10_CoerceSizes_0)))
  (.seq (.regd [0, 1, 0, 7, 0, 31, 63, 127, 255] [
  ⟨none, some 70, .load true 5 (.t 6)⟩,
  ⟨none, some 71, .call 22 [(.t 70)]⟩,
  ⟨none, some 72, .load true 5 (.t 2)⟩,
  ⟨none, some 73, .call 22 [(.t 72)]⟩,
  ⟨none, some 74, .load true 5 (.t 3)⟩,
  ⟨none, some 75, .call 22 [(.t 74)]⟩,
  ⟨none, some 76, .binI .add (.t 73) (.t 75)⟩,
  ⟨none, some 77, .binI .leq (.t 71) (.t 76)⟩,
  ⟨none, some 4, .mv (.t 77)⟩])
  .ret)))))))))
theorem w_graduslaw10_CoerceSizes {args : List DV} {v : DV} (hn : args.length ≤ 78) (h : DV.okL args → ∀ c : Ctx, c.N = 78 → c.pure → w_ Pg c mc_graduslaw10_CoerceSizes (endQ [.tmp 4] v) ⟨⟩ ⟨argT 0 args, fun _ => .non, 0⟩) : PCall Pg F.graduslaw10_CoerceSizes args v :=
  PCall.of_walk Tryz.func8 rfl (by kernel_rfl) (by kernel_rfl) (by kernel_rfl) hn fun o c e p => W.aw Pg_mixed (w_start (h o c e p))
def lv_graduslaw10_has_0 : List Nat := [0, 1, 5]
def lp_graduslaw10_has_0 : MC :=
  (.seq (.seq (.reg [
  ⟨none, some 6, .mv (.t 5)⟩,
  ⟨none, some 7, .mv (.t 0)⟩,
  ⟨none, some 8, .len (.t 7)⟩,
  ⟨none, some 9, .binI .lss (.t 6) (.t 8)⟩])
  (.cond (.t 9)
    .skip
    (.exit 0)))
  (.seq (.block 1
    (.seq (.reg [
    ⟨none, some 12, .mv (.t 0)⟩,
    ⟨none, some 13, .mv (.t 5)⟩,
    ⟨none, some 14, .iaddrS 1 (.t 12) (.t 13)⟩,
    ⟨none, some 15, .load false 1 (.t 14)⟩,
    ⟨none, some 16, .mv (.t 1)⟩,
    ⟨none, some 17, .binI .eql (.t 15) (.t 16)⟩])
    (.cond (.t 17)
      (.seq (.reg [
      ⟨none, some 4, .mv (.k (.bool true))⟩])
      .ret)
      .skip)))
  (.reg [
  ⟨none, some 10, .mv (.t 5)⟩,
  ⟨none, some 11, .binI .add (.t 10) (.k (.int .i64 1))⟩,
  ⟨none, some 5, .mv (.t 11)⟩])))
abbrev F.graduslaw10_has : FuncId := 24
def mc_graduslaw10_has : MC :=
  (.seq (.reg [
  ⟨none, some 4, .mv (.k (.bool false))⟩])
  (.seq (.seq (.reg [
  ⟨none, some 5, .mv (.k (.int .i64 0))⟩])
  (.block 0 (.loop lp_graduslaw10_has_0)))
  (.seq (.reg [
  ⟨none, some 4, .mv (.k (.bool false))⟩])
  .ret)))
theorem w_graduslaw10_has {args : List DV} {v : DV} (hn : args.length ≤ 18) (h : DV.okL args → ∀ c : Ctx, c.N = 18 → c.pure → w_ Pg c mc_graduslaw10_has (endQ [.tmp 4] v) ⟨⟩ ⟨argT 0 args, fun _ => .non, 0⟩) : PCall Pg F.graduslaw10_has args v :=
  PCall.of_walk Tryz.func24 rfl (by kernel_rfl) (by kernel_rfl) (by kernel_rfl) hn fun o c e p => W.aw Pg_mixed (w_start (h o c e p))
def lv_graduslaw10_weight_0 : List Nat := [1, 2, 5]
def lp_graduslaw10_weight_0 : MC :=
  (.seq (.seq (.reg [
  ⟨none, some 39, .mv (.t 5)⟩,
  ⟨none, some 40, .faddr 3 (.t 2)⟩,
  ⟨none, some 41, .load false 1 (.t 40)⟩,
  ⟨none, some 42, .len (.t 41)⟩,
  ⟨none, some 43, .binI .lss (.t 39) (.t 42)⟩,
  ⟨none, some 44, .mv (.t 43)⟩,
  ⟨(some (44, true)), some 45, .mv (.t 1)⟩,
  ⟨(some (44, true)), some 46, .binI .gtr (.t 45) (.k (.int .i64 0))⟩,
  ⟨none, some 47, .pick (.t 44) (.t 46) (.k (.bool false))⟩])
  (.cond (.t 47)
    .skip
    (.exit 0)))
  (.seq (.block 1
    (.reg [
    ⟨none, some 50, .faddr 3 (.t 2)⟩,
    ⟨none, some 51, .load false 1 (.t 50)⟩,
    ⟨none, some 52, .mv (.t 5)⟩,
    ⟨none, some 53, .iaddrS 5 (.t 51) (.t 52)⟩,
    ⟨none, some 54, .load true 5 (.t 53)⟩,
    ⟨none, some 55, .mv (.t 1)⟩,
    ⟨none, some 56, .call 12 [(.t 54), (.t 55)]⟩,
    ⟨none, some 1, .mv (.t 56)⟩]))
  (.reg [
  ⟨none, some 48, .mv (.t 5)⟩,
  ⟨none, some 49, .binI .add (.t 48) (.k (.int .i64 1))⟩,
  ⟨none, some 5, .mv (.t 49)⟩])))
def lv_graduslaw10_weight_2 : List Nat := [1, 2, 6]
def lp_graduslaw10_weight_2 : MC :=
  (.seq (.seq (.reg [
  ⟨none, some 57, .mv (.t 6)⟩,
  ⟨none, some 58, .faddr 4 (.t 2)⟩,
  ⟨none, some 59, .load false 1 (.t 58)⟩,
  ⟨none, some 60, .len (.t 59)⟩,
  ⟨none, some 61, .binI .lss (.t 57) (.t 60)⟩,
  ⟨none, some 62, .mv (.t 61)⟩,
  ⟨(some (62, true)), some 63, .mv (.t 1)⟩,
  ⟨(some (62, true)), some 64, .binI .gtr (.t 63) (.k (.int .i64 0))⟩,
  ⟨none, some 65, .pick (.t 62) (.t 64) (.k (.bool false))⟩])
  (.cond (.t 65)
    .skip
    (.exit 2)))
  (.seq (.block 3
    (.reg [
    ⟨none, some 68, .faddr 4 (.t 2)⟩,
    ⟨none, some 69, .load false 1 (.t 68)⟩,
    ⟨none, some 70, .mv (.t 6)⟩,
    ⟨none, some 71, .iaddrS 5 (.t 69) (.t 70)⟩,
    ⟨none, some 72, .load true 5 (.t 71)⟩,
    ⟨none, some 73, .mv (.t 1)⟩,
    ⟨none, some 74, .call 12 [(.t 72), (.t 73)]⟩,
    ⟨none, some 1, .mv (.t 74)⟩]))
  (.reg [
  ⟨none, some 66, .mv (.t 6)⟩,
  ⟨none, some 67, .binI .add (.t 66) (.k (.int .i64 1))⟩,
  ⟨none, some 6, .mv (.t 67)⟩])))
abbrev F.graduslaw10_weight : FuncId := 12
def mc_graduslaw10_weight : MC :=
  (.seq (.reg [
  ⟨none, some 2, .boxP (.t 0)⟩,
  ⟨none, some 4, .mv (.k (.int .i64 0))⟩])
  (.seq (.seq (.reg [
  ⟨none, some 7, .faddr 0 (.t 2)⟩,
  ⟨none, some 8, .load false 1 (.t 7)⟩,
  ⟨none, some 9, .len (.t 8)⟩,
  ⟨none, some 10, .binI .gtr (.t 9) (.k (.int .i64 100))⟩,
  ⟨none, some 11, .mv (.t 10)⟩,
  ⟨(some (11, false)), some 12, .faddr 1 (.t 2)⟩,
  ⟨(some (11, false)), some 13, .load false 1 (.t 12)⟩,
  ⟨(some (11, false)), some 14, .len (.t 13)⟩,
  ⟨(some (11, false)), some 15, .binI .gtr (.t 14) (.k (.int .i64 100))⟩,
  ⟨none, some 16, .pick (.t 11) (.k (.bool true)) (.t 15)⟩,
  ⟨none, some 17, .mv (.t 16)⟩,
  ⟨(some (17, false)), some 18, .faddr 2 (.t 2)⟩,
  ⟨(some (17, false)), some 19, .load false 1 (.t 18)⟩,
  ⟨(some (17, false)), some 20, .len (.t 19)⟩,
  ⟨(some (17, false)), some 21, .binI .gtr (.t 20) (.k (.int .i64 100))⟩,
  ⟨none, some 22, .pick (.t 17) (.k (.bool true)) (.t 21)⟩,
  ⟨none, some 23, .mv (.t 22)⟩,
  ⟨(some (23, false)), some 24, .faddr 3 (.t 2)⟩,
  ⟨(some (23, false)), some 25, .load false 1 (.t 24)⟩,
  ⟨(some (23, false)), some 26, .len (.t 25)⟩,
  ⟨(some (23, false)), some 27, .mv (.t 1)⟩,
  ⟨(some (23, false)), some 28, .binI .gtr (.t 26) (.t 27)⟩,
  ⟨none, some 29, .pick (.t 23) (.k (.bool true)) (.t 28)⟩,
  ⟨none, some 30, .mv (.t 29)⟩,
  ⟨(some (30, false)), some 31, .faddr 4 (.t 2)⟩,
  ⟨(some (30, false)), some 32, .load false 1 (.t 31)⟩,
  ⟨(some (30, false)), some 33, .len (.t 32)⟩,
  ⟨(some (30, false)), some 34, .mv (.t 1)⟩,
  ⟨(some (30, false)), some 35, .binI .gtr (.t 33) (.t 34)⟩,
  ⟨none, some 36, .pick (.t 30) (.k (.bool true)) (.t 35)⟩])
  (.cond (.t 36)
    (.seq (.reg [
    ⟨none, some 4, .mv (.k (.int .i64 0))⟩])
    .ret)
    .skip))
  (.seq (.reg [
  ⟨none, some 37, .mv (.t 1)⟩,
  ⟨none, some 38, .binI .sub (.t 37) (.k (.int .i64 1))⟩,
  ⟨none, some 1, .mv (.t 38)⟩])
  (.seq (.seq (.reg [
  ⟨none, some 5, .mv (.k (.int .i64 0))⟩])
  (.block 0 (.loop lp_graduslaw10_weight_0)))
  (.seq (.seq (.reg [
  ⟨none, some 6, .mv (.k (.int .i64 0))⟩])
  (.block 2 (.loop lp_graduslaw10_weight_2)))
  (.seq (.reg [
  ⟨none, some 75, .mv (.t 1)⟩,
  ⟨none, some 4, .mv (.t 75)⟩])
  .ret))))))
theorem w_graduslaw10_weight {args : List DV} {v : DV} (hn : args.length ≤ 76) (h : DV.okL args → ∀ c : Ctx, c.N = 76 → c.pure → w_ Pg c mc_graduslaw10_weight (endQ [.tmp 4] v) ⟨⟩ ⟨argT 0 args, fun _ => .non, 0⟩) : PCall Pg F.graduslaw10_weight args v :=
  PCall.of_walk Tryz.func12 rfl (by kernel_rfl) (by kernel_rfl) (by kernel_rfl) hn fun o c e p => W.aw Pg_mixed (w_start (h o c e p))
abbrev F.graduslaw10_base : FuncId := 27
def mc_graduslaw10_base : MC :=
  (.seq (.reg [
  ⟨none, some 2, .alloc [.int .i64 0, .str (bs []), .sl true 1 [], .sl true 4 []]⟩])
  (.seq (.reg [
  ⟨none, some 3, .mv (.t 0)⟩,
  ⟨none, some 4, .build [.int .i64 0, .str (bs []), .sl true 1 [], .sl true 4 []] [(0, 1, (.t 3))]⟩,
  ⟨none, none, .store 4 (.t 2) (.t 4)⟩])
  .ret))
theorem w_graduslaw10_base {args : List DV} {v : DV} (hn : args.length ≤ 5) (h : DV.okL args → ∀ c : Ctx, c.N = 5 → c.pure → w_ Pg c mc_graduslaw10_base (endQ [.cell 2 true 4] v) ⟨⟩ ⟨argT 0 args, fun _ => .non, 0⟩) : PCall Pg F.graduslaw10_base args v :=
  PCall.of_walk Tryz.func27 rfl (by kernel_rfl) (by kernel_rfl) (by kernel_rfl) hn fun o c e p => W.aw Pg_mixed (w_start (h o c e p))
abbrev F.coerce_Make : FuncId := 28
def mc_coerce_Make : MC :=
  (.seq (.reg [
  ⟨none, some 3, .boxP (.t 0)⟩,
  ⟨none, some 4, .boxP (.t 1)⟩,
  ⟨none, some 6, .alloc [.sl true 1 [], .sl true 2 [], .sl true 1 [], .sl true 5 [], .sl true 5 []]⟩])
  (.seq (.seq (.reg [
  ⟨none, some 7, .mv (.t 2)⟩,
  ⟨none, some 8, .binI .eql (.t 7) (.k (.int .i64 0))⟩,
  ⟨none, some 9, .mv (.t 8)⟩,
  ⟨(some (9, false)), some 10, .mv (.t 2)⟩,
  ⟨(some (9, false)), some 11, .binI .eql (.t 10) (.k (.int .i64 1))⟩,
  ⟨none, some 12, .pick (.t 9) (.k (.bool true)) (.t 11)⟩,
  ⟨none, some 13, .mv (.t 12)⟩,
  ⟨(some (13, false)), some 14, .load true 4 (.t 3)⟩,
  ⟨(some (13, false)), some 15, .call 48 [(.t 14)]⟩,
  ⟨(some (13, false)), some 16, .not (.t 15)⟩,
  ⟨none, some 17, .pick (.t 13) (.k (.bool true)) (.t 16)⟩,
  ⟨none, some 18, .mv (.t 17)⟩,
  ⟨(some (18, false)), some 19, .load true 4 (.t 4)⟩,
  ⟨(some (18, false)), some 20, .call 48 [(.t 19)]⟩,
  ⟨(some (18, false)), some 21, .not (.t 20)⟩,
  ⟨none, some 22, .pick (.t 18) (.k (.bool true)) (.t 21)⟩])
  (.cond (.t 22)
    (.seq (.reg [
    ⟨none, some 23, .build [.sl true 1 [], .sl true 2 [], .sl true 1 [], .sl true 5 [], .sl true 5 []] []⟩,
    ⟨none, none, .store 5 (.t 6) (.t 23)⟩])
    .ret)
    .skip))
  (.seq (.reg [
  ⟨none, some 24, .load true 4 (.t 3)⟩,
  ⟨none, some 25, .load true 4 (.t 4)⟩,
  ⟨none, some 26, .mv (.t 2)⟩,
  ⟨none, some 27, .call 49 [(.t 24), (.t 25), (.t 26)]⟩,
  ⟨none, none, .store 5 (.t 6) (.t 27)⟩])
  .ret)))
theorem w_coerce_Make {args : List DV} {v : DV} (hn : args.length ≤ 28) (h : DV.okL args → ∀ c : Ctx, c.N = 28 → c.pure → w_ Pg c mc_coerce_Make (endQ [.cell 6 true 5] v) ⟨⟩ ⟨argT 0 args, fun _ => .non, 0⟩) : PCall Pg F.coerce_Make args v :=
  PCall.of_walk Tryz.func28 rfl (by kernel_rfl) (by kernel_rfl) (by kernel_rfl) hn fun o c e p => W.aw Pg_mixed (w_start (h o c e p))
abbrev F.coerce_normal : FuncId := 48
def mc_coerce_normal : MC :=
  (.seq (.reg [
  ⟨none, some 1, .boxP (.t 0)⟩,
  ⟨none, some 2, .mv (.k (.bool false))⟩])
  (.seq (.reg [
  ⟨none, some 6, .load true 4 (.t 1)⟩,
  ⟨none, some 7, .call 65 [(.t 6)]⟩,
  ⟨none, some 5, .mv (.t 7)⟩,
  ⟨none, some 8, .extract (.t 5) 0⟩,
  ⟨none, some 9, .extract (.t 5) 1⟩,
  ⟨none, some 3, .alloc [.int .i64 0, .str (bs []), .sl true 1 [], .sl true 4 []]⟩,
  ⟨none, none, .store 4 (.t 3) (.t 8)⟩,
  ⟨none, some 4, .mv (.t 9)⟩])
  (.seq (.reg [
  ⟨none, some 10, .mv (.t 4)⟩,
  ⟨none, some 11, .binI .eql (.t 10) (.k (.int .i64 0))⟩,
  ⟨none, some 12, .mv (.t 11)⟩,
  ⟨(some (12, true)), some 13, .load true 4 (.t 3)⟩,
  ⟨(some (12, true)), some 14, .load true 4 (.t 1)⟩,
  ⟨(some (12, true)), some 15, .call 66 [(.t 13), (.t 14)]⟩,
  ⟨none, some 16, .pick (.t 12) (.t 15) (.k (.bool false))⟩,
  ⟨none, some 2, .mv (.t 16)⟩])
  .ret)))
theorem w_coerce_normal {args : List DV} {v : DV} (hn : args.length ≤ 17) (h : DV.okL args → ∀ c : Ctx, c.N = 17 → c.pure → w_ Pg c mc_coerce_normal (endQ [.tmp 2] v) ⟨⟩ ⟨argT 0 args, fun _ => .non, 0⟩) : PCall Pg F.coerce_normal args v :=
  PCall.of_walk Tryz.func48 rfl (by kernel_rfl) (by kernel_rfl) (by kernel_rfl) hn fun o c e p => W.aw Pg_mixed (w_start (h o c e p))
abbrev F.types_Norm : FuncId := 65
def mc_types_Norm : MC :=
  (.seq (.reg [
  ⟨none, some 1, .boxP (.t 0)⟩,
  ⟨none, some 2, .alloc [.int .i64 0, .str (bs []), .sl true 1 [], .sl true 4 []]⟩,
  ⟨none, some 3, .mv (.k (.int .i64 0))⟩])
  (.seq (.seq (.reg [
  ⟨none, some 6, .load true 4 (.t 1)⟩,
  ⟨none, some 7, .call 83 [(.t 6)]⟩,
  ⟨none, some 8, .binI .gtr (.t 7) (.k (.int .i64 16))⟩,
  ⟨none, some 9, .mv (.t 8)⟩,
  ⟨(some (9, false)), some 10, .load true 4 (.t 1)⟩,
  ⟨(some (9, false)), some 11, .call 84 [(.t 10)]⟩,
  ⟨(some (9, false)), some 12, .binI .gtr (.t 11) (.k (.int .i64 200))⟩,
  ⟨none, some 13, .pick (.t 9) (.k (.bool true)) (.t 12)⟩])
  (.cond (.t 13)
    (.seq (.reg [
    ⟨none, some 14, .build [.int .i64 0, .str (bs []), .sl true 1 [], .sl true 4 []] []⟩,
    ⟨none, none, .store 4 (.t 2) (.t 14)⟩,
    ⟨none, some 3, .mv (.k (.int .i64 9))⟩])
    .ret)
    .skip))
  (.seq (.reg [
  ⟨none, some 16, .load true 4 (.t 1)⟩,
  ⟨none, some 17, .call 85 [(.t 16)]⟩,
  ⟨none, some 15, .mv (.t 17)⟩,
  ⟨none, some 18, .extract (.t 15) 0⟩,
  ⟨none, some 19, .extract (.t 15) 1⟩,
  ⟨none, some 4, .alloc [.int .i64 0, .str (bs []), .sl true 1 [], .sl true 4 []]⟩,
  ⟨none, none, .store 4 (.t 4) (.t 18)⟩,
  ⟨none, some 5, .mv (.t 19)⟩])
  (.seq (.seq (.reg [
  ⟨none, some 20, .mv (.t 5)⟩,
  ⟨none, some 21, .not (.t 20)⟩])
  (.cond (.t 21)
    (.seq (.reg [
    ⟨none, some 22, .build [.int .i64 0, .str (bs []), .sl true 1 [], .sl true 4 []] []⟩,
    ⟨none, none, .store 4 (.t 2) (.t 22)⟩,
    ⟨none, some 3, .mv (.k (.int .i64 9))⟩])
    .ret)
    .skip))
  (.seq (.reg [
  ⟨none, some 23, .load true 4 (.t 4)⟩,
  ⟨none, none, .store 4 (.t 2) (.t 23)⟩,
  ⟨none, some 3, .mv (.k (.int .i64 0))⟩])
  .ret)))))
theorem w_types_Norm {args : List DV} {v : DV} (hn : args.length ≤ 24) (h : DV.okL args → ∀ c : Ctx, c.N = 24 → c.pure → w_ Pg c mc_types_Norm (endQ [.cell 2 true 4, .tmp 3] v) ⟨⟩ ⟨argT 0 args, fun _ => .non, 0⟩) : PCall Pg F.types_Norm args v :=
  PCall.of_walk Tryz.func65 rfl (by kernel_rfl) (by kernel_rfl) (by kernel_rfl) hn fun o c e p => W.aw Pg_mixed (w_start (h o c e p))
def lv_types_norm_0 : List Nat := [1, 2, 4, 18, 19, 20]
def lp_types_norm_0 : MC :=
  (.seq (.reg [
  ⟨none, some 21, .binI .lss (.t 20) (.t 19)⟩])
  (.seq (.cond (.t 21)
    .skip
    (.exit 0))
  (.seq (.block 1
    (.seq (.reg [
    ⟨none, some 22, .iaddrS 4 (.t 18) (.t 20)⟩,
    ⟨none, some 23, .load true 4 (.t 22)⟩,
    ⟨none, some 6, .alloc [.int .i64 0, .str (bs []), .sl true 1 [], .sl true 4 []]⟩,
    ⟨none, none, .store 4 (.t 6) (.t 23)⟩])
    (.seq (.reg [
    ⟨none, some 25, .load true 4 (.t 6)⟩,
    ⟨none, some 26, .call 85 [(.t 25)]⟩,
    ⟨none, some 24, .mv (.t 26)⟩,
    ⟨none, some 27, .extract (.t 24) 0⟩,
    ⟨none, some 28, .extract (.t 24) 1⟩,
    ⟨none, some 7, .alloc [.int .i64 0, .str (bs []), .sl true 1 [], .sl true 4 []]⟩,
    ⟨none, none, .store 4 (.t 7) (.t 27)⟩,
    ⟨none, some 8, .mv (.t 28)⟩])
    (.seq (.seq (.reg [
    ⟨none, some 29, .mv (.t 8)⟩,
    ⟨none, some 30, .not (.t 29)⟩])
    (.cond (.t 30)
      (.seq (.reg [
      ⟨none, some 31, .build [.int .i64 0, .str (bs []), .sl true 1 [], .sl true 4 []] []⟩,
      ⟨none, none, .store 4 (.t 2) (.t 31)⟩,
      ⟨none, some 3, .mv (.k (.bool false))⟩])
      .ret)
      .skip))
    (.reg [
    ⟨none, some 32, .mv (.t 4)⟩,
    ⟨none, some 33, .load true 4 (.t 7)⟩,
    ⟨none, some 34, .buildSl 4 [(.t 33)]⟩,
    ⟨none, some 35, .append 4 72 (.t 32) (.t 34)⟩,
    ⟨none, some 4, .mv (.t 35)⟩])))))
  (.reg [
  ⟨none, some 36, .binI .add (.t 20) (.k (.int .i64 1))⟩,
  ⟨none, some 20, .mv (.t 36)⟩]))))
abbrev F.types_norm : FuncId := 85
def mc_types_norm : MC :=
  (.seq (.reg [
  ⟨none, some 1, .boxP (.t 0)⟩,
  ⟨none, some 2, .alloc [.int .i64 0, .str (bs []), .sl true 1 [], .sl true 4 []]⟩,
  ⟨none, some 3, .mv (.k (.bool false))⟩])
  (.seq (.reg [
  ⟨none, some 4, .mv (.k (.sl true 4 []))⟩])
  (.seq (.seq (.reg [
  ⟨none, some 9, .faddr 0 (.t 1)⟩,
  ⟨none, some 10, .load false 1 (.t 9)⟩,
  ⟨none, some 11, .binI .geq (.t 10) (.k (.int .i64 5))⟩,
  ⟨none, some 12, .mv (.t 11)⟩,
  ⟨(some (12, true)), some 13, .faddr 0 (.t 1)⟩,
  ⟨(some (12, true)), some 14, .load false 1 (.t 13)⟩,
  ⟨(some (12, true)), some 15, .binI .leq (.t 14) (.k (.int .i64 7))⟩,
  ⟨none, some 16, .pick (.t 12) (.t 15) (.k (.bool false))⟩])
  (.cond (.t 16)
    (.seq (.owq (.reg [
    ⟨none, some 17, .faddr 3 (.t 1)⟩,
    ⟨none, some 18, .load false 1 (.t 17)⟩,
    ⟨none, some 19, .len (.t 18)⟩,
    ⟨none, some 20, .mv (.k (.int .i64 0))⟩]))
    (.block 0 (.loop lp_types_norm_0)))
    .skip))
  (.seq (.seq (.reg [
  ⟨none, some 37, .faddr 0 (.t 1)⟩,
  ⟨none, some 38, .load false 1 (.t 37)⟩])
  (.block 2
    (.seq (.seq (.reg [
    ⟨none, some 40, .binI .eql (.t 38) (.k (.int .i64 0))⟩,
    ⟨none, some 39, .mv (.t 40)⟩])
    (.cond (.t 39)
      .skip
      (.seq (.reg [
      ⟨none, some 41, .binI .eql (.t 38) (.k (.int .i64 1))⟩,
      ⟨none, some 39, .mv (.t 41)⟩])
      (.cond (.t 39)
        .skip
        (.seq (.reg [
        ⟨none, some 42, .binI .eql (.t 38) (.k (.int .i64 2))⟩,
        ⟨none, some 39, .mv (.t 42)⟩])
        (.cond (.t 39)
          .skip
          (.seq (.reg [
          ⟨none, some 43, .binI .eql (.t 38) (.k (.int .i64 3))⟩,
          ⟨none, some 39, .mv (.t 43)⟩])
          (.cond (.t 39)
            .skip
            (.reg [
            ⟨none, some 44, .binI .eql (.t 38) (.k (.int .i64 4))⟩,
            ⟨none, some 39, .mv (.t 44)⟩])))))))))
    (.cond (.t 39)
      (.seq (.reg [
      ⟨none, some 45, .faddr 0 (.t 1)⟩,
      ⟨none, some 46, .load false 1 (.t 45)⟩,
      ⟨none, some 47, .build [.int .i64 0, .str (bs []), .sl true 1 [], .sl true 4 []] [(0, 1, (.t 46))]⟩,
      ⟨none, none, .store 4 (.t 2) (.t 47)⟩,
      ⟨none, some 3, .mv (.k (.bool true))⟩])
      .ret)
      (.seq (.reg [
      ⟨none, some 49, .binI .eql (.t 38) (.k (.int .i64 5))⟩,
      ⟨none, some 48, .mv (.t 49)⟩])
      (.cond (.t 48)
        (.seq (.fzq (.reg [
        ⟨none, some 50, .faddr 2 (.t 1)⟩,
        ⟨none, some 51, .load false 1 (.t 50)⟩,
        ⟨none, some 52, .mv (.t 4)⟩,
        ⟨none, some 53, .call 106 [(.t 51), (.t 52)]⟩,
        ⟨none, some 54, .extract (.t 53) 0⟩,
        ⟨none, some 55, .extract (.t 53) 1⟩,
        ⟨none, none, .store 4 (.t 2) (.t 54)⟩,
        ⟨none, some 3, .mv (.t 55)⟩]))
        .ret)
        (.seq (.reg [
        ⟨none, some 57, .binI .eql (.t 38) (.k (.int .i64 6))⟩,
        ⟨none, some 56, .mv (.t 57)⟩])
        (.cond (.t 56)
          (.seq (.fzq (.reg [
          ⟨none, some 58, .mv (.t 4)⟩,
          ⟨none, some 59, .build [.int .i64 0, .str (bs []), .sl true 1 [], .sl true 4 []] [(0, 1, (.k (.int .i64 6))), (3, 1, (.t 58))]⟩,
          ⟨none, some 60, .mv (.t 4)⟩,
          ⟨none, some 61, .len (.t 60)⟩,
          ⟨none, some 62, .binI .eql (.t 61) (.k (.int .i64 2))⟩,
          ⟨none, none, .store 4 (.t 2) (.t 59)⟩,
          ⟨none, some 3, .mv (.t 62)⟩]))
          .ret)
          (.seq (.reg [
          ⟨none, some 64, .binI .eql (.t 38) (.k (.int .i64 7))⟩,
          ⟨none, some 63, .mv (.t 64)⟩])
          (.cond (.t 63)
            (.seq (.fzq (.reg [
            ⟨none, some 65, .mv (.t 4)⟩,
            ⟨none, some 66, .call 107 [(.t 65)]⟩,
            ⟨none, some 67, .extract (.t 66) 0⟩,
            ⟨none, some 68, .extract (.t 66) 1⟩,
            ⟨none, none, .store 4 (.t 2) (.t 67)⟩,
            ⟨none, some 3, .mv (.t 68)⟩]))
            .ret)
            .skip))))))))))
  (.seq (.reg [
  ⟨none, some 69, .build [.int .i64 0, .str (bs []), .sl true 1 [], .sl true 4 []] []⟩,
  ⟨none, none, .store 4 (.t 2) (.t 69)⟩,
  ⟨none, some 3, .mv (.k (.bool false))⟩])
  .ret)))))
theorem w_types_norm {args : List DV} {v : DV} (hn : args.length ≤ 70) (h : DV.okL args → ∀ c : Ctx, c.N = 70 → c.pure → w_ Pg c mc_types_norm (endQ [.cell 2 true 4, .tmp 3] v) ⟨⟩ ⟨argT 0 args, fun _ => .non, 0⟩) : PCall Pg F.types_norm args v :=
  PCall.of_walk Tryz.func85 rfl (by kernel_rfl) (by kernel_rfl) (by kernel_rfl) hn fun o c e p => W.aw Pg_mixed (w_start (h o c e p))
abbrev F.types_Height : FuncId := 83
def mc_types_Height : MC :=
  (.seq (.reg [
  ⟨none, some 1, .boxP (.t 0)⟩,
  ⟨none, some 2, .mv (.k (.int .i64 0))⟩])
  (.seq (.reg [
  ⟨none, some 3, .load true 4 (.t 1)⟩,
  ⟨none, some 4, .call 105 [(.t 3), (.k (.int .i64 17))]⟩,
  ⟨none, some 2, .mv (.t 4)⟩])
  .ret))
theorem w_types_Height {args : List DV} {v : DV} (hn : args.length ≤ 5) (h : DV.okL args → ∀ c : Ctx, c.N = 5 → c.pure → w_ Pg c mc_types_Height (endQ [.tmp 2] v) ⟨⟩ ⟨argT 0 args, fun _ => .non, 0⟩) : PCall Pg F.types_Height args v :=
  PCall.of_walk Tryz.func83 rfl (by kernel_rfl) (by kernel_rfl) (by kernel_rfl) hn fun o c e p => W.aw Pg_mixed (w_start (h o c e p))
def lv_types_height_0 : List Nat := [1, 5, 11, 12, 13]
def lp_types_height_0 : MC :=
  (.seq (.reg [
  ⟨none, some 14, .binI .lss (.t 13) (.t 12)⟩])
  (.seq (.cond (.t 14)
    .skip
    (.exit 0))
  (.seq (.block 1
    (.seq (.reg [
    ⟨none, some 15, .iaddrS 4 (.t 11) (.t 13)⟩,
    ⟨none, some 16, .load true 4 (.t 15)⟩,
    ⟨none, some 7, .alloc [.int .i64 0, .str (bs []), .sl true 1 [], .sl true 4 []]⟩,
    ⟨none, none, .store 4 (.t 7) (.t 16)⟩])
    (.reg [
    ⟨none, some 17, .mv (.t 5)⟩,
    ⟨none, some 18, .load true 4 (.t 7)⟩,
    ⟨none, some 19, .mv (.t 1)⟩,
    ⟨none, some 20, .binI .sub (.t 19) (.k (.int .i64 1))⟩,
    ⟨none, some 21, .call 105 [(.t 18), (.t 20)]⟩,
    ⟨none, some 22, .minI true (.t 17) (.t 21)⟩,
    ⟨none, some 5, .mv (.t 22)⟩])))
  (.reg [
  ⟨none, some 23, .binI .add (.t 13) (.k (.int .i64 1))⟩,
  ⟨none, some 13, .mv (.t 23)⟩]))))
abbrev F.types_height : FuncId := 105
def mc_types_height : MC :=
  (.seq (.reg [
  ⟨none, some 2, .boxP (.t 0)⟩,
  ⟨none, some 4, .mv (.k (.int .i64 0))⟩])
  (.seq (.seq (.reg [
  ⟨none, some 8, .mv (.t 1)⟩,
  ⟨none, some 9, .binI .eql (.t 8) (.k (.int .i64 1))⟩])
  (.cond (.t 9)
    (.seq (.reg [
    ⟨none, some 4, .mv (.k (.int .i64 1))⟩])
    .ret)
    .skip))
  (.seq (.reg [
  ⟨none, some 5, .mv (.k (.int .i64 0))⟩])
  (.seq (.seq (.reg [
  ⟨none, some 10, .faddr 3 (.t 2)⟩,
  ⟨none, some 11, .load false 1 (.t 10)⟩,
  ⟨none, some 12, .len (.t 11)⟩,
  ⟨none, some 13, .mv (.k (.int .i64 0))⟩])
  (.block 0 (.loop lp_types_height_0)))
  (.seq (.reg [
  ⟨none, some 24, .mv (.t 5)⟩,
  ⟨none, some 25, .binI .add (.t 24) (.k (.int .i64 1))⟩,
  ⟨none, some 4, .mv (.t 25)⟩])
  .ret)))))
theorem w_types_height {args : List DV} {v : DV} (hn : args.length ≤ 26) (h : DV.okL args → ∀ c : Ctx, c.N = 26 → c.pure → w_ Pg c mc_types_height (endQ [.tmp 4] v) ⟨⟩ ⟨argT 0 args, fun _ => .non, 0⟩) : PCall Pg F.types_height args v :=
  PCall.of_walk Tryz.func105 rfl (by kernel_rfl) (by kernel_rfl) (by kernel_rfl) hn fun o c e p => W.aw Pg_mixed (w_start (h o c e p))
def lv_types_Size_0 : List Nat := [3, 7, 8, 9]
def lp_types_Size_0 : MC :=
  (.seq (.reg [
  ⟨none, some 10, .binI .lss (.t 9) (.t 8)⟩])
  (.seq (.cond (.t 10)
    .skip
    (.exit 0))
  (.seq (.block 1
    (.seq (.reg [
    ⟨none, some 11, .iaddrS 4 (.t 7) (.t 9)⟩,
    ⟨none, some 12, .load true 4 (.t 11)⟩,
    ⟨none, some 5, .alloc [.int .i64 0, .str (bs []), .sl true 1 [], .sl true 4 []]⟩,
    ⟨none, none, .store 4 (.t 5) (.t 12)⟩])
    (.seq (.seq (.reg [
    ⟨none, some 13, .mv (.t 3)⟩,
    ⟨none, some 14, .binI .gtr (.t 13) (.k (.int .i64 200))⟩])
    (.cond (.t 14)
      (.exit 0)
      .skip))
    (.reg [
    ⟨none, some 15, .mv (.t 3)⟩,
    ⟨none, some 16, .load true 4 (.t 5)⟩,
    ⟨none, some 17, .call 84 [(.t 16)]⟩,
    ⟨none, some 18, .binI .add (.t 15) (.t 17)⟩,
    ⟨none, some 3, .mv (.t 18)⟩]))))
  (.reg [
  ⟨none, some 19, .binI .add (.t 9) (.k (.int .i64 1))⟩,
  ⟨none, some 9, .mv (.t 19)⟩]))))
abbrev F.types_Size : FuncId := 84
def mc_types_Size : MC :=
  (.seq (.reg [
  ⟨none, some 1, .boxP (.t 0)⟩,
  ⟨none, some 2, .mv (.k (.int .i64 0))⟩])
  (.seq (.reg [
  ⟨none, some 3, .mv (.k (.int .i64 1))⟩])
  (.seq (.seq (.reg [
  ⟨none, some 6, .faddr 3 (.t 1)⟩,
  ⟨none, some 7, .load false 1 (.t 6)⟩,
  ⟨none, some 8, .len (.t 7)⟩,
  ⟨none, some 9, .mv (.k (.int .i64 0))⟩])
  (.block 0 (.loop lp_types_Size_0)))
  (.seq (.reg [
  ⟨none, some 20, .mv (.t 3)⟩,
  ⟨none, some 21, .minI false (.t 20) (.k (.int .i64 201))⟩,
  ⟨none, some 2, .mv (.t 21)⟩])
  .ret))))
theorem w_types_Size {args : List DV} {v : DV} (hn : args.length ≤ 22) (h : DV.okL args → ∀ c : Ctx, c.N = 22 → c.pure → w_ Pg c mc_types_Size (endQ [.tmp 2] v) ⟨⟩ ⟨argT 0 args, fun _ => .non, 0⟩) : PCall Pg F.types_Size args v :=
  PCall.of_walk Tryz.func84 rfl (by kernel_rfl) (by kernel_rfl) (by kernel_rfl) hn fun o c e p => W.aw Pg_mixed (w_start (h o c e p))
abbrev F.types_Same : FuncId := 66
def mc_types_Same : MC :=
  (.seq (.reg [
  ⟨none, some 2, .boxP (.t 0)⟩,
  ⟨none, some 3, .boxP (.t 1)⟩,
  ⟨none, some 4, .mv (.k (.bool false))⟩])
  (.seq (.reg [
  ⟨none, some 5, .faddr 0 (.t 2)⟩,
  ⟨none, some 6, .load false 1 (.t 5)⟩,
  ⟨none, some 7, .faddr 0 (.t 3)⟩,
  ⟨none, some 8, .load false 1 (.t 7)⟩,
  ⟨none, some 9, .binI .eql (.t 6) (.t 8)⟩,
  ⟨none, some 10, .mv (.t 9)⟩,
  ⟨(some (10, true)), some 11, .faddr 1 (.t 2)⟩,
  ⟨(some (10, true)), some 12, .load false 1 (.t 11)⟩,
  ⟨(some (10, true)), some 13, .faddr 1 (.t 3)⟩,
  ⟨(some (10, true)), some 14, .load false 1 (.t 13)⟩,
  ⟨(some (10, true)), some 15, .binS .eql (.t 12) (.t 14)⟩,
  ⟨none, some 16, .pick (.t 10) (.t 15) (.k (.bool false))⟩,
  ⟨none, some 17, .mv (.t 16)⟩,
  ⟨(some (17, true)), some 18, .faddr 2 (.t 2)⟩,
  ⟨(some (17, true)), some 19, .load false 1 (.t 18)⟩,
  ⟨(some (17, true)), some 20, .faddr 2 (.t 3)⟩,
  ⟨(some (17, true)), some 21, .load false 1 (.t 20)⟩,
  ⟨(some (17, true)), some 22, .call 37 [(.t 19), (.t 21)]⟩,
  ⟨none, some 23, .pick (.t 17) (.t 22) (.k (.bool false))⟩,
  ⟨none, some 24, .mv (.t 23)⟩,
  ⟨(some (24, true)), some 25, .faddr 3 (.t 2)⟩,
  ⟨(some (24, true)), some 26, .load false 1 (.t 25)⟩,
  ⟨(some (24, true)), some 27, .faddr 3 (.t 3)⟩,
  ⟨(some (24, true)), some 28, .load false 1 (.t 27)⟩,
  ⟨(some (24, true)), some 29, .call 86 [(.t 26), (.t 28), (.k (.fn (.func 66) []))]⟩,
  ⟨none, some 30, .pick (.t 24) (.t 29) (.k (.bool false))⟩,
  ⟨none, some 4, .mv (.t 30)⟩])
  .ret))
theorem w_types_Same {args : List DV} {v : DV} (hn : args.length ≤ 31) (h : DV.okL args → ∀ c : Ctx, c.N = 31 → c.pure → w_ Pg c mc_types_Same (endQ [.tmp 4] v) ⟨⟩ ⟨argT 0 args, fun _ => .non, 0⟩) : PCall Pg F.types_Same args v :=
  PCall.of_walk Tryz.func66 rfl (by kernel_rfl) (by kernel_rfl) (by kernel_rfl) hn fun o c e p => W.aw Pg_mixed (w_start (h o c e p))
abbrev F.types_Member : FuncId := 89
def mc_types_Member : MC :=
  (.seq (.reg [
  ⟨none, some 2, .boxP (.t 0)⟩,
  ⟨none, some 3, .boxP (.t 1)⟩,
  ⟨none, some 4, .alloc [.int .i64 0, .str (bs []), .sl true 1 [], .sl true 4 []]⟩,
  ⟨none, some 5, .mv (.k (.bool false))⟩])
  (.seq (.reg [
  ⟨none, some 8, .load true 4 (.t 2)⟩,
  ⟨none, some 9, .buildSl 4 [(.t 8)]⟩,
  ⟨none, some 6, .mv (.t 9)⟩])
  (.seq (.seq (.reg [
  ⟨none, some 10, .faddr 0 (.t 2)⟩,
  ⟨none, some 11, .load false 1 (.t 10)⟩,
  ⟨none, some 12, .binI .eql (.t 11) (.k (.int .i64 7))⟩])
  (.cond (.t 12)
    (.reg [
    ⟨none, some 13, .faddr 3 (.t 2)⟩,
    ⟨none, some 14, .load false 1 (.t 13)⟩,
    ⟨none, some 6, .mv (.t 14)⟩])
    .skip))
  (.seq (.reg [
  ⟨none, some 15, .mv (.t 6)⟩,
  ⟨none, some 16, .mkfn 110 [(.t 3)]⟩,
  ⟨none, some 17, .call 109 [(.t 15), (.t 16)]⟩,
  ⟨none, some 7, .mv (.t 17)⟩])
  (.seq (.seq (.reg [
  ⟨none, some 18, .mv (.t 7)⟩,
  ⟨none, some 19, .binI .lss (.t 18) (.k (.int .i64 0))⟩,
  ⟨none, some 20, .mv (.t 19)⟩,
  ⟨(some (20, false)), some 21, .load false 1 (.t 3)⟩,
  ⟨(some (20, false)), some 22, .binI .lss (.t 21) (.k (.int .i64 0))⟩,
  ⟨none, some 23, .pick (.t 20) (.k (.bool true)) (.t 22)⟩])
  (.cond (.t 23)
    (.seq (.reg [
    ⟨none, some 24, .build [.int .i64 0, .str (bs []), .sl true 1 [], .sl true 4 []] []⟩,
    ⟨none, none, .store 4 (.t 4) (.t 24)⟩,
    ⟨none, some 5, .mv (.k (.bool false))⟩])
    .ret)
    .skip))
  (.seq (.reg [
  ⟨none, some 25, .mv (.t 6)⟩,
  ⟨none, some 26, .mv (.t 7)⟩,
  ⟨none, some 27, .iaddrS 4 (.t 25) (.t 26)⟩,
  ⟨none, some 28, .load true 4 (.t 27)⟩,
  ⟨none, none, .store 4 (.t 4) (.t 28)⟩,
  ⟨none, some 5, .mv (.k (.bool true))⟩])
  .ret))))))
theorem w_types_Member {args : List DV} {v : DV} (hn : args.length ≤ 29) (h : DV.okL args → ∀ c : Ctx, c.N = 29 → c.pure → w_ Pg c mc_types_Member (endQ [.cell 4 true 4, .tmp 5] v) ⟨⟩ ⟨argT 0 args, fun _ => .non, 0⟩) : PCall Pg F.types_Member args v :=
  PCall.of_walk Tryz.func89 rfl (by kernel_rfl) (by kernel_rfl) (by kernel_rfl) hn fun o c e p => W.aw Pg_mixed (w_start (h o c e p))
abbrev F.types_Member_1 : FuncId := 110
def mc_types_Member_1 : MC :=
  (.seq (.reg [
  ⟨none, some 2, .boxP (.t 0)⟩,
  ⟨none, some 3, .mv (.k (.bool false))⟩])
  (.seq (.regd [0, 1, 0, 7, 15] [
  ⟨none, some 4, .load true 4 (.t 2)⟩,
  ⟨none, some 5, .call 108 [(.t 4)]⟩,
  ⟨none, some 6, .load false 1 (.t 1)⟩,
  ⟨none, some 7, .binI .eql (.t 5) (.t 6)⟩,
  ⟨none, some 3, .mv (.t 7)⟩])
  .ret))
theorem w_types_Member_1 {args : List DV} {v : DV} (hn : args.length ≤ 8) (h : DV.okL args → ∀ c : Ctx, c.N = 8 → c.pure → w_ Pg c mc_types_Member_1 (endQ [.tmp 3] v) ⟨⟩ ⟨argT 0 args, fun _ => .non, 0⟩) : PCall Pg F.types_Member_1 args v :=
  PCall.of_walk Tryz.func110 rfl (by kernel_rfl) (by kernel_rfl) (by kernel_rfl) hn fun o c e p => W.aw Pg_mixed (w_start (h o c e p))
abbrev F.types_Tag : FuncId := 108
def mc_types_Tag : MC :=
  (.seq (.reg [
  ⟨none, some 1, .boxP (.t 0)⟩,
  ⟨none, some 2, .mv (.k (.int .i64 0))⟩])
  (.seq (.seq (.reg [
  ⟨none, some 3, .faddr 0 (.t 1)⟩,
  ⟨none, some 4, .load false 1 (.t 3)⟩,
  ⟨none, some 5, .binI .lss (.t 4) (.k (.int .i64 1))⟩,
  ⟨none, some 6, .mv (.t 5)⟩,
  ⟨(some (6, false)), some 7, .faddr 0 (.t 1)⟩,
  ⟨(some (6, false)), some 8, .load false 1 (.t 7)⟩,
  ⟨(some (6, false)), some 9, .binI .gtr (.t 8) (.k (.int .i64 6))⟩,
  ⟨none, some 10, .pick (.t 6) (.k (.bool true)) (.t 9)⟩])
  (.cond (.t 10)
    (.seq (.reg [
    ⟨none, some 2, .mv (.k (.int .i64 (-1)))⟩])
    .ret)
    .skip))
  (.seq (.reg [
  ⟨none, some 11, .faddr 0 (.t 1)⟩,
  ⟨none, some 12, .load false 1 (.t 11)⟩,
  ⟨none, some 13, .binI .sub (.t 12) (.k (.int .i64 1))⟩,
  ⟨none, some 2, .mv (.t 13)⟩])
  .ret)))
theorem w_types_Tag {args : List DV} {v : DV} (hn : args.length ≤ 14) (h : DV.okL args → ∀ c : Ctx, c.N = 14 → c.pure → w_ Pg c mc_types_Tag (endQ [.tmp 2] v) ⟨⟩ ⟨argT 0 args, fun _ => .non, 0⟩) : PCall Pg F.types_Tag args v :=
  PCall.of_walk Tryz.func108 rfl (by kernel_rfl) (by kernel_rfl) (by kernel_rfl) hn fun o c e p => W.aw Pg_mixed (w_start (h o c e p))
def lv_slices_IndexFunc_api_Type_api_Type_0 : List Nat := [0, 1, 7, 8]
def lp_slices_IndexFunc_api_Type_api_Type_0 : MC :=
  (.seq (.reg [
  ⟨none, some 9, .binI .lss (.t 8) (.t 7)⟩])
  (.seq (.cond (.t 9)
    .skip
    (.exit 0))
  (.seq (.block 1
    (.seq (.reg [
    ⟨none, some 10, .mv (.t 8)⟩,
    ⟨none, some 5, .mv (.t 10)⟩])
    (.seq (.reg [
    ⟨none, some 11, .mv (.t 1)⟩,
    ⟨none, some 12, .mv (.t 0)⟩,
    ⟨none, some 13, .mv (.t 5)⟩,
    ⟨none, some 14, .iaddrS 4 (.t 12) (.t 13)⟩,
    ⟨none, some 15, .load true 4 (.t 14)⟩,
    ⟨none, some 16, .calld (.t 11) [(.t 15)]⟩])
    (.cond (.t 16)
      (.seq (.reg [
      ⟨none, some 17, .mv (.t 5)⟩,
      ⟨none, some 4, .mv (.t 17)⟩])
      .ret)
      .skip))))
  (.reg [
  ⟨none, some 18, .binI .add (.t 8) (.k (.int .i64 1))⟩,
  ⟨none, some 8, .mv (.t 18)⟩]))))
abbrev F.slices_IndexFunc_api_Type_api_Type : FuncId := 109
def mc_slices_IndexFunc_api_Type_api_Type : MC :=
  (.seq (.reg [
  ⟨none, some 4, .mv (.k (.int .i64 0))⟩])
  (.seq (.seq (.reg [
  ⟨none, some 6, .mv (.t 0)⟩,
  ⟨none, some 7, .len (.t 6)⟩,
  ⟨none, some 8, .mv (.k (.int .i64 0))⟩])
  (.block 0 (.loop lp_slices_IndexFunc_api_Type_api_Type_0)))
  (.seq (.reg [
  ⟨none, some 4, .mv (.k (.int .i64 (-1)))⟩])
  .ret)))
theorem w_slices_IndexFunc_api_Type_api_Type {args : List DV} {v : DV} (hn : args.length ≤ 19) (h : DV.okL args → ∀ c : Ctx, c.N = 19 → c.pure → w_ Pg c mc_slices_IndexFunc_api_Type_api_Type (endQ [.tmp 4] v) ⟨⟩ ⟨argT 0 args, fun _ => .non, 0⟩) : PCall Pg F.slices_IndexFunc_api_Type_api_Type args v :=
  PCall.of_walk Tryz.func109 rfl (by kernel_rfl) (by kernel_rfl) (by kernel_rfl) hn fun o c e p => W.aw Pg_mixed (w_start (h o c e p))
def lv_slices_EqualFunc_api_Type_api_Type_api_Type_api_Type_0 : List Nat := [1, 2, 15, 16, 17]
def lp_slices_EqualFunc_api_Type_api_Type_api_Type_api_Type_0 : MC :=
  (.seq (.reg [
  ⟨none, some 18, .binI .lss (.t 17) (.t 16)⟩])
  (.seq (.cond (.t 18)
    .skip
    (.exit 0))
  (.seq (.block 1
    (.seq (.reg [
    ⟨none, some 19, .mv (.t 17)⟩,
    ⟨none, some 20, .iaddrS 4 (.t 15) (.t 17)⟩,
    ⟨none, some 21, .load true 4 (.t 20)⟩,
    ⟨none, some 8, .alloc [.int .i64 0, .str (bs []), .sl true 1 [], .sl true 4 []]⟩,
    ⟨none, some 7, .mv (.t 19)⟩,
    ⟨none, none, .store 4 (.t 8) (.t 21)⟩])
    (.seq (.reg [
    ⟨none, some 22, .mv (.t 1)⟩,
    ⟨none, some 23, .mv (.t 7)⟩,
    ⟨none, some 24, .iaddrS 4 (.t 22) (.t 23)⟩,
    ⟨none, some 25, .load true 4 (.t 24)⟩,
    ⟨none, some 9, .alloc [.int .i64 0, .str (bs []), .sl true 1 [], .sl true 4 []]⟩,
    ⟨none, none, .store 4 (.t 9) (.t 25)⟩])
    (.seq (.reg [
    ⟨none, some 26, .mv (.t 2)⟩,
    ⟨none, some 27, .load true 4 (.t 8)⟩,
    ⟨none, some 28, .load true 4 (.t 9)⟩,
    ⟨none, some 29, .calld (.t 26) [(.t 27), (.t 28)]⟩,
    ⟨none, some 30, .not (.t 29)⟩])
    (.cond (.t 30)
      (.seq (.reg [
      ⟨none, some 6, .mv (.k (.bool false))⟩])
      .ret)
      .skip)))))
  (.reg [
  ⟨none, some 31, .binI .add (.t 17) (.k (.int .i64 1))⟩,
  ⟨none, some 17, .mv (.t 31)⟩]))))
abbrev F.slices_EqualFunc_api_Type_api_Type_api_Type_api_Type : FuncId := 86
def mc_slices_EqualFunc_api_Type_api_Type_api_Type_api_Type : MC :=
  (.seq (.reg [
  ⟨none, some 6, .mv (.k (.bool false))⟩])
  (.seq (.seq (.reg [
  ⟨none, some 10, .mv (.t 0)⟩,
  ⟨none, some 11, .len (.t 10)⟩,
  ⟨none, some 12, .mv (.t 1)⟩,
  ⟨none, some 13, .len (.t 12)⟩,
  ⟨none, some 14, .binI .neq (.t 11) (.t 13)⟩])
  (.cond (.t 14)
    (.seq (.reg [
    ⟨none, some 6, .mv (.k (.bool false))⟩])
    .ret)
    .skip))
  (.seq (.seq (.reg [
  ⟨none, some 15, .mv (.t 0)⟩,
  ⟨none, some 16, .len (.t 15)⟩,
  ⟨none, some 17, .mv (.k (.int .i64 0))⟩])
  (.block 0 (.loop lp_slices_EqualFunc_api_Type_api_Type_api_Type_api_Type_0)))
  (.seq (.reg [
  ⟨none, some 6, .mv (.k (.bool true))⟩])
  .ret))))
theorem w_slices_EqualFunc_api_Type_api_Type_api_Type_api_Type {args : List DV} {v : DV} (hn : args.length ≤ 32) (h : DV.okL args → ∀ c : Ctx, c.N = 32 → c.pure → w_ Pg c mc_slices_EqualFunc_api_Type_api_Type_api_Type_api_Type (endQ [.tmp 6] v) ⟨⟩ ⟨argT 0 args, fun _ => .non, 0⟩) : PCall Pg F.slices_EqualFunc_api_Type_api_Type_api_Type_api_Type args v :=
  PCall.of_walk Tryz.func86 rfl (by kernel_rfl) (by kernel_rfl) (by kernel_rfl) hn fun o c e p => W.aw Pg_mixed (w_start (h o c e p))
abbrev F.coerce_part : FuncId := 72
def mc_coerce_part : MC :=
  (.seq (.reg [
  ⟨none, some 2, .boxP (.t 0)⟩,
  ⟨none, some 4, .alloc [.int .i64 0, .str (bs []), .sl true 1 [], .sl true 4 []]⟩,
  ⟨none, some 5, .mv (.k (.bool false))⟩,
  ⟨none, some 6, .mv (.k (.bool false))⟩])
  (.seq (.seq (.reg [
  ⟨none, some 7, .load true 4 (.t 2)⟩,
  ⟨none, some 8, .call 71 [(.t 7)]⟩,
  ⟨none, some 9, .not (.t 8)⟩])
  (.cond (.t 9)
    (.seq (.reg [
    ⟨none, some 11, .load true 4 (.t 2)⟩,
    ⟨none, some 12, .mv (.t 1)⟩,
    ⟨none, some 13, .call 89 [(.t 11), (.t 12)]⟩,
    ⟨none, some 10, .mv (.t 13)⟩,
    ⟨none, some 14, .extract (.t 10) 0⟩,
    ⟨none, some 15, .extract (.t 10) 1⟩,
    ⟨none, none, .store 4 (.t 4) (.t 14)⟩,
    ⟨none, some 6, .mv (.t 15)⟩])
    (.seq (.reg [
    ⟨none, some 16, .load true 4 (.t 4)⟩,
    ⟨none, some 17, .mv (.t 6)⟩,
    ⟨none, none, .store 4 (.t 4) (.t 16)⟩,
    ⟨none, some 5, .mv (.k (.bool false))⟩,
    ⟨none, some 6, .mv (.t 17)⟩])
    .ret))
    .skip))
  (.seq (.reg [
  ⟨none, some 18, .mv (.t 1)⟩,
  ⟨none, some 19, .binI .add (.k (.int .i64 1)) (.t 18)⟩,
  ⟨none, some 20, .faddr 0 (.t 4)⟩,
  ⟨none, none, .store 1 (.t 20) (.t 19)⟩])
  (.seq (.seq (.reg [
  ⟨none, some 21, .mv (.t 1)⟩,
  ⟨none, some 22, .binI .eql (.t 21) (.k (.int .i64 5))⟩])
  (.cond (.t 22)
    (.reg [
    ⟨none, some 23, .build [.int .i64 0, .str (bs []), .sl true 1 [], .sl true 4 []] []⟩,
    ⟨none, some 24, .build [.int .i64 0, .str (bs []), .sl true 1 [], .sl true 4 []] []⟩,
    ⟨none, some 25, .buildSl 4 [(.t 23), (.t 24)]⟩,
    ⟨none, some 26, .faddr 3 (.t 4)⟩,
    ⟨none, none, .store 1 (.t 26) (.t 25)⟩])
    .skip))
  (.seq (.reg [
  ⟨none, some 27, .load true 4 (.t 4)⟩,
  ⟨none, some 28, .mv (.t 1)⟩,
  ⟨none, some 29, .binI .eql (.t 28) (.k (.int .i64 4))⟩,
  ⟨none, none, .store 4 (.t 4) (.t 27)⟩,
  ⟨none, some 5, .mv (.t 29)⟩,
  ⟨none, some 6, .mv (.k (.bool true))⟩])
  .ret)))))
theorem w_coerce_part {args : List DV} {v : DV} (hn : args.length ≤ 30) (h : DV.okL args → ∀ c : Ctx, c.N = 30 → c.pure → w_ Pg c mc_coerce_part (endQ [.cell 4 true 4, .tmp 5, .tmp 6] v) ⟨⟩ ⟨argT 0 args, fun _ => .non, 0⟩) : PCall Pg F.coerce_part args v :=
  PCall.of_walk Tryz.func72 rfl (by kernel_rfl) (by kernel_rfl) (by kernel_rfl) hn fun o c e p => W.aw Pg_mixed (w_start (h o c e p))
abbrev F.coerce_dynamic : FuncId := 71
def mc_coerce_dynamic : MC :=
  (.seq (.reg [
  ⟨none, some 1, .boxP (.t 0)⟩,
  ⟨none, some 2, .mv (.k (.bool false))⟩])
  (.seq (.reg [
  ⟨none, some 3, .faddr 0 (.t 1)⟩,
  ⟨none, some 4, .load false 1 (.t 3)⟩,
  ⟨none, some 5, .binI .eql (.t 4) (.k (.int .i64 0))⟩,
  ⟨none, some 2, .mv (.t 5)⟩])
  .ret))
theorem w_coerce_dynamic {args : List DV} {v : DV} (hn : args.length ≤ 6) (h : DV.okL args → ∀ c : Ctx, c.N = 6 → c.pure → w_ Pg c mc_coerce_dynamic (endQ [.tmp 2] v) ⟨⟩ ⟨argT 0 args, fun _ => .non, 0⟩) : PCall Pg F.coerce_dynamic args v :=
  PCall.of_walk Tryz.func71 rfl (by kernel_rfl) (by kernel_rfl) (by kernel_rfl) hn fun o c e p => W.aw Pg_mixed (w_start (h o c e p))
def lv_coerce_cast_0 : List Nat := [2, 3, 4, 6, 7, 23]
def lp_coerce_cast_0 : MC :=
  (.seq (.reg [
  ⟨none, some 24, .binI .lss (.t 23) (.k (.int .i64 6))⟩])
  (.seq (.cond (.t 24)
    .skip
    (.exit 0))
  (.seq (.block 1
    (.seq (.reg [
    ⟨none, some 25, .mv (.t 23)⟩,
    ⟨none, some 8, .mv (.t 25)⟩])
    (.seq (.reg [
    ⟨none, some 27, .load true 4 (.t 3)⟩,
    ⟨none, some 28, .mv (.t 8)⟩,
    ⟨none, some 29, .call 72 [(.t 27), (.t 28)]⟩,
    ⟨none, some 26, .mv (.t 29)⟩,
    ⟨none, some 30, .extract (.t 26) 0⟩,
    ⟨none, some 31, .extract (.t 26) 1⟩,
    ⟨none, some 32, .extract (.t 26) 2⟩,
    ⟨none, some 9, .alloc [.int .i64 0, .str (bs []), .sl true 1 [], .sl true 4 []]⟩,
    ⟨none, none, .store 4 (.t 9) (.t 30)⟩,
    ⟨none, some 10, .mv (.t 31)⟩,
    ⟨none, some 11, .mv (.t 32)⟩])
    (.seq (.reg [
    ⟨none, some 34, .load true 4 (.t 4)⟩,
    ⟨none, some 35, .mv (.t 8)⟩,
    ⟨none, some 36, .call 72 [(.t 34), (.t 35)]⟩,
    ⟨none, some 33, .mv (.t 36)⟩,
    ⟨none, some 37, .extract (.t 33) 0⟩,
    ⟨none, some 38, .extract (.t 33) 1⟩,
    ⟨none, some 39, .extract (.t 33) 2⟩,
    ⟨none, some 12, .alloc [.int .i64 0, .str (bs []), .sl true 1 [], .sl true 4 []]⟩,
    ⟨none, none, .store 4 (.t 12) (.t 37)⟩,
    ⟨none, some 13, .mv (.t 38)⟩,
    ⟨none, some 14, .mv (.t 39)⟩])
    (.block 2
      (.seq (.reg [
      ⟨none, some 41, .mv (.t 11)⟩,
      ⟨none, some 42, .not (.t 41)⟩,
      ⟨none, some 40, .mv (.t 42)⟩])
      (.cond (.t 40)
        .skip
        (.seq (.reg [
        ⟨none, some 44, .mv (.t 14)⟩,
        ⟨none, some 45, .not (.t 44)⟩,
        ⟨none, some 43, .mv (.t 45)⟩])
        (.cond (.t 43)
          (.reg [
          ⟨none, some 46, .faddr 0 (.t 7)⟩,
          ⟨none, some 47, .load false 1 (.t 46)⟩,
          ⟨none, some 48, .mv (.t 8)⟩,
          ⟨none, some 49, .mv (.t 2)⟩,
          ⟨none, some 50, .iaddrS 1 (.t 47) (.t 48)⟩,
          ⟨none, none, .store 1 (.t 50) (.t 49)⟩])
          (.seq (.reg [
          ⟨none, some 52, .mv (.t 8)⟩,
          ⟨none, some 53, .binI .eql (.t 52) (.k (.int .i64 5))⟩,
          ⟨none, some 51, .mv (.t 53)⟩])
          (.cond (.t 51)
            (.regd [0, 1, 3, 7, 0, 16, 48, 112, 0, 256, 1023, 0, 2048, 6144, 14336, 0, 32768, 98304, 229376, 0, 1048575, 2097151] [
            ⟨none, some 54, .faddr 3 (.t 12)⟩,
            ⟨none, some 55, .load false 1 (.t 54)⟩,
            ⟨none, some 56, .iaddrS 4 (.t 55) (.k (.int .i64 0))⟩,
            ⟨none, some 57, .load true 4 (.t 56)⟩,
            ⟨none, some 58, .faddr 3 (.t 9)⟩,
            ⟨none, some 59, .load false 1 (.t 58)⟩,
            ⟨none, some 60, .iaddrS 4 (.t 59) (.k (.int .i64 0))⟩,
            ⟨none, some 61, .load true 4 (.t 60)⟩,
            ⟨none, some 62, .mv (.t 2)⟩,
            ⟨none, some 63, .binI .xor (.t 62) (.k (.int .i64 1))⟩,
            ⟨none, some 64, .call 49 [(.t 57), (.t 61), (.t 63)]⟩,
            ⟨none, some 65, .faddr 3 (.t 9)⟩,
            ⟨none, some 66, .load false 1 (.t 65)⟩,
            ⟨none, some 67, .iaddrS 4 (.t 66) (.k (.int .i64 1))⟩,
            ⟨none, some 68, .load true 4 (.t 67)⟩,
            ⟨none, some 69, .faddr 3 (.t 12)⟩,
            ⟨none, some 70, .load false 1 (.t 69)⟩,
            ⟨none, some 71, .iaddrS 4 (.t 70) (.k (.int .i64 1))⟩,
            ⟨none, some 72, .load true 4 (.t 71)⟩,
            ⟨none, some 73, .mv (.t 2)⟩,
            ⟨none, some 74, .call 49 [(.t 68), (.t 72), (.t 73)]⟩,
            ⟨none, some 75, .callM 57 [(.t 7), (.t 64), (.t 74)]⟩])
            (.seq (.reg [
            ⟨none, some 77, .mv (.t 8)⟩,
            ⟨none, some 78, .binI .eql (.t 77) (.k (.int .i64 4))⟩,
            ⟨none, some 76, .mv (.t 78)⟩])
            (.cond (.t 76)
              (.reg [
              ⟨none, some 79, .load true 4 (.t 9)⟩,
              ⟨none, some 80, .load true 4 (.t 12)⟩,
              ⟨none, some 81, .mv (.t 10)⟩,
              ⟨none, some 82, .mv (.t 13)⟩,
              ⟨none, some 83, .mv (.t 2)⟩,
              ⟨none, some 84, .callM 73 [(.t 7), (.t 79), (.t 80), (.t 81), (.t 82), (.t 83)]⟩])
              .skip)))))))))))))
  (.fzq (.reg [
  ⟨none, some 85, .binI .add (.t 23) (.k (.int .i64 1))⟩,
  ⟨none, some 23, .mv (.t 85)⟩])))))
abbrev F.coerce_cast : FuncId := 49
def mc_coerce_cast : MC :=
  (.seq (.reg [
  ⟨none, some 3, .boxP (.t 0)⟩,
  ⟨none, some 4, .boxP (.t 1)⟩,
  ⟨none, some 6, .alloc [.sl true 1 [], .sl true 2 [], .sl true 1 [], .sl true 5 [], .sl true 5 []]⟩])
  (.seq (.reg [
  ⟨none, some 15, .callM 19 []⟩,
  ⟨none, some 7, .alloc [.sl true 1 [], .sl true 2 [], .sl true 1 [], .sl true 5 [], .sl true 5 []]⟩,
  ⟨none, none, .store 5 (.t 7) (.t 15)⟩])
  (.seq (.seq (.reg [
  ⟨none, some 16, .load true 4 (.t 3)⟩,
  ⟨none, some 17, .call 71 [(.t 16)]⟩,
  ⟨none, some 18, .mv (.t 17)⟩,
  ⟨(some (18, true)), some 19, .load true 4 (.t 4)⟩,
  ⟨(some (18, true)), some 20, .call 71 [(.t 19)]⟩,
  ⟨none, some 21, .pick (.t 18) (.t 20) (.k (.bool false))⟩])
  (.cond (.t 21)
    (.seq (.reg [
    ⟨none, some 22, .load true 5 (.t 7)⟩,
    ⟨none, none, .store 5 (.t 6) (.t 22)⟩])
    .ret)
    .skip))
  (.seq (.seq (.reg [
  ⟨none, some 23, .mv (.k (.int .i64 0))⟩])
  (.block 0 (.loop lp_coerce_cast_0)))
  (.seq (.reg [
  ⟨none, some 86, .load true 5 (.t 7)⟩,
  ⟨none, none, .store 5 (.t 6) (.t 86)⟩])
  .ret)))))
theorem w_coerce_cast {args : List DV} {v : DV} (hn : args.length ≤ 87) (h : DV.okL args → ∀ c : Ctx, c.N = 87 → c.pure → w_ Pg c mc_coerce_cast (endQ [.cell 6 true 5] v) ⟨⟩ ⟨argT 0 args, fun _ => .non, 0⟩) : PCall Pg F.coerce_cast args v :=
  PCall.of_walk Tryz.func49 rfl (by kernel_rfl) (by kernel_rfl) (by kernel_rfl) hn fun o c e p => W.aw Pg_mixed (w_start (h o c e p))
abbrev F.coerce_Id : FuncId := 19
def mc_coerce_Id : MC :=
  (.seq (.reg [
  ⟨none, some 0, .alloc [.sl true 1 [], .sl true 2 [], .sl true 1 [], .sl true 5 [], .sl true 5 []]⟩])
  (.seq (.reg [
  ⟨none, some 1, .mkslM [.int .i64 0] 8 (.k (.int .i64 6)) (.k (.int .i64 6))⟩,
  ⟨none, some 2, .build [.sl true 1 [], .sl true 2 [], .sl true 1 [], .sl true 5 [], .sl true 5 []] [(0, 1, (.t 1))]⟩,
  ⟨none, none, .store 5 (.t 0) (.t 2)⟩])
  .ret))
theorem w_coerce_Id {args : List DV} {v : DV} (hn : args.length ≤ 3) (h : DV.okL args → ∀ c : Ctx, c.N = 3 → c.pure → w_ Pg c mc_coerce_Id (endQ [.cell 0 true 5] v) ⟨⟩ ⟨argT 0 args, fun _ => .non, 0⟩) : PCall Pg F.coerce_Id args v :=
  PCall.of_walk Tryz.func19 rfl (by kernel_rfl) (by kernel_rfl) (by kernel_rfl) hn fun o c e p => W.aw Pg_mixed (w_start (h o c e p))
theorem wm_coerce_Id {args : List AV} {bs : List Blk} {v : AV} {bs' : List Blk} (hs : MStat args 3 bs v bs') (h : ∀ ts : List (Nat × Nat), ts.length = bs.length → AV.okL args → (∀ b, b ∈ bs → b.ok) → ∀ c : Ctx, c.N = 3 → c.pure → w_ Pg c mc_coerce_Id (endM [.cell 0 true 5] v bs' ts) ⟨⟩ ⟨argA 0 args, hpOf (bs ++ pinsL 0 ts), bs.length + ts.length⟩) : MCall Pg F.coerce_Id args bs v bs' :=
  MCall.of_walk' Tryz.func19 rfl (by kernel_rfl) (by kernel_rfl) (by kernel_rfl) Pg_mixed hs h
abbrev F.coerce_idle : FuncId := 32
def mc_coerce_idle : MC :=
  (.seq (.reg [
  ⟨none, some 1, .boxP (.t 0)⟩,
  ⟨none, some 2, .mv (.k (.bool false))⟩])
  (.seq (.regd [0, 0, 3, 7] [
  ⟨none, some 3, .load true 5 (.t 1)⟩,
  ⟨none, some 4, .call 19 []⟩,
  ⟨none, some 5, .call 15 [(.t 3), (.t 4)]⟩,
  ⟨none, some 2, .mv (.t 5)⟩])
  .ret))
theorem w_coerce_idle {args : List DV} {v : DV} (hn : args.length ≤ 6) (h : DV.okL args → ∀ c : Ctx, c.N = 6 → c.pure → w_ Pg c mc_coerce_idle (endQ [.tmp 2] v) ⟨⟩ ⟨argT 0 args, fun _ => .non, 0⟩) : PCall Pg F.coerce_idle args v :=
  PCall.of_walk Tryz.func32 rfl (by kernel_rfl) (by kernel_rfl) (by kernel_rfl) hn fun o c e p => W.aw Pg_mixed (w_start (h o c e p))
abbrev F.coerce_Compose : FuncId := 17
def mc_coerce_Compose : MC :=
  (.seq (.reg [
  ⟨none, some 2, .boxP (.t 0)⟩,
  ⟨none, some 3, .boxP (.t 1)⟩,
  ⟨none, some 4, .alloc [.sl true 1 [], .sl true 2 [], .sl true 1 [], .sl true 5 [], .sl true 5 []]⟩])
  (.seq (.seq (.reg [
  ⟨none, some 5, .load true 5 (.t 2)⟩,
  ⟨none, some 6, .call 13 [(.t 5)]⟩,
  ⟨none, some 7, .not (.t 6)⟩,
  ⟨none, some 8, .mv (.t 7)⟩,
  ⟨(some (8, false)), some 9, .load true 5 (.t 3)⟩,
  ⟨(some (8, false)), some 10, .call 13 [(.t 9)]⟩,
  ⟨(some (8, false)), some 11, .not (.t 10)⟩,
  ⟨none, some 12, .pick (.t 8) (.k (.bool true)) (.t 11)⟩])
  (.cond (.t 12)
    (.seq (.reg [
    ⟨none, some 13, .build [.sl true 1 [], .sl true 2 [], .sl true 1 [], .sl true 5 [], .sl true 5 []] []⟩,
    ⟨none, none, .store 5 (.t 4) (.t 13)⟩])
    .ret)
    .skip))
  (.seq (.reg [
  ⟨none, some 14, .load true 5 (.t 2)⟩,
  ⟨none, some 15, .load true 5 (.t 3)⟩,
  ⟨none, some 16, .call 39 [(.t 14), (.t 15)]⟩,
  ⟨none, none, .store 5 (.t 4) (.t 16)⟩])
  .ret)))
theorem w_coerce_Compose {args : List DV} {v : DV} (hn : args.length ≤ 17) (h : DV.okL args → ∀ c : Ctx, c.N = 17 → c.pure → w_ Pg c mc_coerce_Compose (endQ [.cell 4 true 5] v) ⟨⟩ ⟨argT 0 args, fun _ => .non, 0⟩) : PCall Pg F.coerce_Compose args v :=
  PCall.of_walk Tryz.func17 rfl (by kernel_rfl) (by kernel_rfl) (by kernel_rfl) hn fun o c e p => W.aw Pg_mixed (w_start (h o c e p))
def lv_coerce_compose_0 : List Nat := [2, 3, 4, 5, 21, 22, 23]
def lp_coerce_compose_0 : MC :=
  (.seq (.reg [
  ⟨none, some 24, .binI .lss (.t 23) (.t 22)⟩])
  (.seq (.cond (.t 24)
    .skip
    (.exit 0))
  (.seq (.block 1
    (.seq (.reg [
    ⟨none, some 25, .mv (.t 23)⟩,
    ⟨none, some 26, .iaddrS 1 (.t 21) (.t 23)⟩,
    ⟨none, some 27, .load false 1 (.t 26)⟩,
    ⟨none, some 6, .mv (.t 25)⟩,
    ⟨none, some 7, .mv (.t 27)⟩])
    (.seq (.seq (.reg [
    ⟨none, some 28, .mv (.t 7)⟩,
    ⟨none, some 29, .binI .eql (.t 28) (.k (.int .i64 0))⟩])
    (.cond (.t 29)
      (.reg [
      ⟨none, some 30, .faddr 0 (.t 3)⟩,
      ⟨none, some 31, .load false 1 (.t 30)⟩,
      ⟨none, some 32, .mv (.t 6)⟩,
      ⟨none, some 33, .iaddrS 1 (.t 31) (.t 32)⟩,
      ⟨none, some 34, .load false 1 (.t 33)⟩,
      ⟨none, some 7, .mv (.t 34)⟩])
      .skip))
    (.reg [
    ⟨none, some 35, .faddr 0 (.t 5)⟩,
    ⟨none, some 36, .load false 1 (.t 35)⟩,
    ⟨none, some 37, .mv (.t 6)⟩,
    ⟨none, some 38, .mv (.t 7)⟩,
    ⟨none, some 39, .iaddrS 1 (.t 36) (.t 37)⟩,
    ⟨none, none, .store 1 (.t 39) (.t 38)⟩]))))
  (.reg [
  ⟨none, some 40, .binI .add (.t 23) (.k (.int .i64 1))⟩,
  ⟨none, some 23, .mv (.t 40)⟩]))))
def lv_coerce_compose_2 : List Nat := [2, 3, 4, 5, 8, 63, 64, 65]
def lp_coerce_compose_2 : MC :=
  (.seq (.reg [
  ⟨none, some 66, .binI .lss (.t 65) (.t 64)⟩])
  (.seq (.cond (.t 66)
    .skip
    (.exit 2))
  (.seq (.block 3
    (.seq (.reg [
    ⟨none, some 67, .mv (.t 65)⟩,
    ⟨none, some 68, .iaddrS 1 (.t 63) (.t 65)⟩,
    ⟨none, some 69, .load false 1 (.t 68)⟩,
    ⟨none, some 9, .mv (.t 67)⟩,
    ⟨none, some 10, .mv (.t 69)⟩])
    (.reg [
    ⟨none, some 70, .mv (.t 8)⟩,
    ⟨none, some 71, .mv (.t 10)⟩,
    ⟨none, some 72, .faddr 3 (.t 2)⟩,
    ⟨none, some 73, .load false 1 (.t 72)⟩,
    ⟨none, some 74, .mv (.t 9)⟩,
    ⟨none, some 75, .iaddrS 5 (.t 73) (.t 74)⟩,
    ⟨none, some 76, .load true 5 (.t 75)⟩,
    ⟨none, none, .mset 1 (.t 70) (.t 71) (.t 76)⟩])))
  (.reg [
  ⟨none, some 77, .binI .add (.t 65) (.k (.int .i64 1))⟩,
  ⟨none, some 65, .mv (.t 77)⟩]))))
def lv_coerce_compose_4 : List Nat := [2, 3, 4, 5, 8, 79, 80, 81]
def lp_coerce_compose_4 : MC :=
  (.seq (.reg [
  ⟨none, some 82, .binI .lss (.t 81) (.t 80)⟩])
  (.seq (.cond (.t 82)
    .skip
    (.exit 4))
  (.seq (.block 5
    (.seq (.reg [
    ⟨none, some 83, .mv (.t 81)⟩,
    ⟨none, some 84, .iaddrS 1 (.t 79) (.t 81)⟩,
    ⟨none, some 85, .load false 1 (.t 84)⟩,
    ⟨none, some 11, .mv (.t 83)⟩,
    ⟨none, some 12, .mv (.t 85)⟩])
    (.seq (.reg [
    ⟨none, some 87, .mv (.t 8)⟩,
    ⟨none, some 88, .mv (.t 12)⟩,
    ⟨none, some 89, .mlook 1 true true [.sl true 1 [], .sl true 2 [], .sl true 1 [], .sl true 5 [], .sl true 5 []] (.t 87) (.t 88)⟩,
    ⟨none, some 86, .mv (.t 89)⟩,
    ⟨none, some 90, .extract (.t 86) 0⟩,
    ⟨none, some 91, .extract (.t 86) 1⟩,
    ⟨none, some 13, .alloc [.sl true 1 [], .sl true 2 [], .sl true 1 [], .sl true 5 [], .sl true 5 []]⟩,
    ⟨none, none, .store 5 (.t 13) (.t 90)⟩,
    ⟨none, some 14, .mv (.t 91)⟩])
    (.seq (.reg [
    ⟨none, some 92, .mv (.t 8)⟩,
    ⟨none, some 93, .mv (.t 12)⟩,
    ⟨none, some 94, .faddr 3 (.t 3)⟩,
    ⟨none, some 95, .load false 1 (.t 94)⟩,
    ⟨none, some 96, .mv (.t 11)⟩,
    ⟨none, some 97, .iaddrS 5 (.t 95) (.t 96)⟩,
    ⟨none, some 98, .load true 5 (.t 97)⟩,
    ⟨none, none, .mset 1 (.t 92) (.t 93) (.t 98)⟩])
    (.seq (.reg [
    ⟨none, some 99, .mv (.t 14)⟩])
    (.cond (.t 99)
      (.regd [0, 0, 0, 0, 8, 0, 56, 120, 252, 511] [
      ⟨none, some 100, .mv (.t 8)⟩,
      ⟨none, some 101, .mv (.t 12)⟩,
      ⟨none, some 102, .load true 5 (.t 13)⟩,
      ⟨none, some 103, .faddr 3 (.t 3)⟩,
      ⟨none, some 104, .load false 1 (.t 103)⟩,
      ⟨none, some 105, .mv (.t 11)⟩,
      ⟨none, some 106, .iaddrS 5 (.t 104) (.t 105)⟩,
      ⟨none, some 107, .load true 5 (.t 106)⟩,
      ⟨none, some 108, .call 39 [(.t 102), (.t 107)]⟩,
      ⟨none, none, .mset 1 (.t 100) (.t 101) (.t 108)⟩])
      .skip))))))
  (.reg [
  ⟨none, some 109, .binI .add (.t 81) (.k (.int .i64 1))⟩,
  ⟨none, some 81, .mv (.t 109)⟩]))))
abbrev F.coerce_compose : FuncId := 39
def mc_coerce_compose : MC :=
  (.seq (.reg [
  ⟨none, some 2, .boxP (.t 0)⟩,
  ⟨none, some 3, .boxP (.t 1)⟩,
  ⟨none, some 4, .alloc [.sl true 1 [], .sl true 2 [], .sl true 1 [], .sl true 5 [], .sl true 5 []]⟩])
  (.seq (.reg [
  ⟨none, some 19, .callM 19 []⟩,
  ⟨none, some 5, .alloc [.sl true 1 [], .sl true 2 [], .sl true 1 [], .sl true 5 [], .sl true 5 []]⟩,
  ⟨none, none, .store 5 (.t 5) (.t 19)⟩])
  (.seq (.seq (.reg [
  ⟨none, some 20, .faddr 0 (.t 2)⟩,
  ⟨none, some 21, .load false 1 (.t 20)⟩,
  ⟨none, some 22, .len (.t 21)⟩,
  ⟨none, some 23, .mv (.k (.int .i64 0))⟩])
  (.block 0 (.loop lp_coerce_compose_0)))
  (.seq (.fzq (.reg [
  ⟨none, some 41, .faddr 1 (.t 2)⟩,
  ⟨none, some 42, .load false 1 (.t 41)⟩,
  ⟨none, some 43, .call 53 [(.t 42)]⟩,
  ⟨none, some 44, .faddr 1 (.t 5)⟩,
  ⟨none, none, .store 1 (.t 44) (.t 43)⟩]))
  (.seq (.seq (.reg [
  ⟨none, some 45, .faddr 0 (.t 2)⟩,
  ⟨none, some 46, .load false 1 (.t 45)⟩,
  ⟨none, some 47, .iaddrS 1 (.t 46) (.k (.int .i64 4))⟩,
  ⟨none, some 48, .load false 1 (.t 47)⟩,
  ⟨none, some 49, .binI .eql (.t 48) (.k (.int .i64 0))⟩])
  (.cond (.t 49)
    (.reg [
    ⟨none, some 50, .faddr 1 (.t 2)⟩,
    ⟨none, some 51, .load false 1 (.t 50)⟩,
    ⟨none, some 52, .faddr 1 (.t 3)⟩,
    ⟨none, some 53, .load false 1 (.t 52)⟩,
    ⟨none, some 54, .call 54 [(.t 51), (.t 53)]⟩,
    ⟨none, some 55, .faddr 1 (.t 5)⟩,
    ⟨none, none, .store 1 (.t 55) (.t 54)⟩])
    .skip))
  (.seq (.seq (.reg [
  ⟨none, some 56, .faddr 0 (.t 5)⟩,
  ⟨none, some 57, .load false 1 (.t 56)⟩,
  ⟨none, some 58, .iaddrS 1 (.t 57) (.k (.int .i64 4))⟩,
  ⟨none, some 59, .load false 1 (.t 58)⟩,
  ⟨none, some 60, .binI .eql (.t 59) (.k (.int .i64 0))⟩])
  (.cond (.t 60)
    (.seq (.reg [
    ⟨none, some 61, .mkmap⟩,
    ⟨none, some 8, .mv (.t 61)⟩])
    (.seq (.seq (.reg [
    ⟨none, some 62, .faddr 2 (.t 2)⟩,
    ⟨none, some 63, .load false 1 (.t 62)⟩,
    ⟨none, some 64, .len (.t 63)⟩,
    ⟨none, some 65, .mv (.k (.int .i64 0))⟩])
    (.block 2 (.loop lp_coerce_compose_2)))
    (.seq (.seq (.reg [
    ⟨none, some 78, .faddr 2 (.t 3)⟩,
    ⟨none, some 79, .load false 1 (.t 78)⟩,
    ⟨none, some 80, .len (.t 79)⟩,
    ⟨none, some 81, .mv (.k (.int .i64 0))⟩])
    (.block 4 (.loop lp_coerce_compose_4)))
    (.reg [
    ⟨none, some 110, .mv (.t 8)⟩,
    ⟨none, some 111, .callM 55 [(.t 5), (.t 110)]⟩]))))
    .skip))
  (.seq (.seq (.fzq (.reg [
  ⟨none, some 112, .faddr 0 (.t 5)⟩,
  ⟨none, some 113, .load false 1 (.t 112)⟩,
  ⟨none, some 114, .iaddrS 1 (.t 113) (.k (.int .i64 5))⟩,
  ⟨none, some 115, .load false 1 (.t 114)⟩,
  ⟨none, some 116, .binI .eql (.t 115) (.k (.int .i64 0))⟩,
  ⟨none, some 117, .mv (.t 116)⟩,
  ⟨(some (117, true)), some 118, .faddr 4 (.t 2)⟩,
  ⟨(some (117, true)), some 119, .load false 1 (.t 118)⟩,
  ⟨(some (117, true)), some 120, .len (.t 119)⟩,
  ⟨(some (117, true)), some 121, .faddr 4 (.t 3)⟩,
  ⟨(some (117, true)), some 122, .load false 1 (.t 121)⟩,
  ⟨(some (117, true)), some 123, .len (.t 122)⟩,
  ⟨(some (117, true)), some 124, .binI .add (.t 120) (.t 123)⟩,
  ⟨(some (117, true)), some 125, .binI .gtr (.t 124) (.k (.int .i64 0))⟩,
  ⟨none, some 126, .pick (.t 117) (.t 125) (.k (.bool false))⟩]))
  (.cond (.t 126)
    (.seq (.reg [
    ⟨none, some 128, .load true 5 (.t 2)⟩,
    ⟨none, some 129, .call 56 [(.t 128)]⟩,
    ⟨none, some 127, .mv (.t 129)⟩,
    ⟨none, some 130, .extract (.t 127) 0⟩,
    ⟨none, some 131, .extract (.t 127) 1⟩,
    ⟨none, some 15, .alloc [.sl true 1 [], .sl true 2 [], .sl true 1 [], .sl true 5 [], .sl true 5 []]⟩,
    ⟨none, some 16, .alloc [.sl true 1 [], .sl true 2 [], .sl true 1 [], .sl true 5 [], .sl true 5 []]⟩,
    ⟨none, none, .store 5 (.t 15) (.t 130)⟩,
    ⟨none, none, .store 5 (.t 16) (.t 131)⟩])
    (.seq (.reg [
    ⟨none, some 133, .load true 5 (.t 3)⟩,
    ⟨none, some 134, .call 56 [(.t 133)]⟩,
    ⟨none, some 132, .mv (.t 134)⟩,
    ⟨none, some 135, .extract (.t 132) 0⟩,
    ⟨none, some 136, .extract (.t 132) 1⟩,
    ⟨none, some 17, .alloc [.sl true 1 [], .sl true 2 [], .sl true 1 [], .sl true 5 [], .sl true 5 []]⟩,
    ⟨none, some 18, .alloc [.sl true 1 [], .sl true 2 [], .sl true 1 [], .sl true 5 [], .sl true 5 []]⟩,
    ⟨none, none, .store 5 (.t 17) (.t 135)⟩,
    ⟨none, none, .store 5 (.t 18) (.t 136)⟩])
    (.regd [0, 0, 3, 0, 0, 31, 63] [
    ⟨none, some 137, .load true 5 (.t 17)⟩,
    ⟨none, some 138, .load true 5 (.t 15)⟩,
    ⟨none, some 139, .call 39 [(.t 137), (.t 138)]⟩,
    ⟨none, some 140, .load true 5 (.t 16)⟩,
    ⟨none, some 141, .load true 5 (.t 18)⟩,
    ⟨none, some 142, .call 39 [(.t 140), (.t 141)]⟩,
    ⟨none, some 143, .callM 57 [(.t 5), (.t 139), (.t 142)]⟩])))
    .skip))
  (.seq (.reg [
  ⟨none, some 144, .load true 5 (.t 5)⟩,
  ⟨none, none, .store 5 (.t 4) (.t 144)⟩])
  .ret))))))))
theorem w_coerce_compose {args : List DV} {v : DV} (hn : args.length ≤ 145) (h : DV.okL args → ∀ c : Ctx, c.N = 145 → c.pure → w_ Pg c mc_coerce_compose (endQ [.cell 4 true 5] v) ⟨⟩ ⟨argT 0 args, fun _ => .non, 0⟩) : PCall Pg F.coerce_compose args v :=
  PCall.of_walk Tryz.func39 rfl (by kernel_rfl) (by kernel_rfl) (by kernel_rfl) hn fun o c e p => W.aw Pg_mixed (w_start (h o c e p))
def lv_coerce_May_0 : List Nat := [1, 3, 60, 61, 62]
def lp_coerce_May_0 : MC :=
  (.seq (.reg [
  ⟨none, some 63, .binI .lss (.t 62) (.t 61)⟩])
  (.seq (.cond (.t 63)
    .skip
    (.exit 0))
  (.seq (.block 1
    (.seq (.reg [
    ⟨none, some 64, .iaddrS 2 (.t 60) (.t 62)⟩,
    ⟨none, some 65, .load true 2 (.t 64)⟩,
    ⟨none, some 5, .alloc [.str (bs []), .int .i64 0]⟩,
    ⟨none, none, .store 2 (.t 5) (.t 65)⟩])
    (.seq (.seq (.reg [
    ⟨none, some 66, .faddr 1 (.t 5)⟩,
    ⟨none, some 67, .load false 1 (.t 66)⟩,
    ⟨none, some 68, .binI .eql (.t 67) (.k (.int .i64 0))⟩,
    ⟨none, some 69, .mv (.t 68)⟩,
    ⟨(some (69, false)), some 70, .mv (.t 3)⟩,
    ⟨(some (69, false)), some 71, .faddr 0 (.t 5)⟩,
    ⟨(some (69, false)), some 72, .load false 1 (.t 71)⟩,
    ⟨(some (69, false)), some 73, .mlook 1 false false [.bool false] (.t 70) (.t 72)⟩,
    ⟨none, some 74, .pick (.t 69) (.k (.bool true)) (.t 73)⟩])
    (.cond (.t 74)
      (.seq (.reg [
      ⟨none, some 2, .mv (.k (.bool false))⟩])
      .ret)
      .skip))
    (.reg [
    ⟨none, some 75, .mv (.t 3)⟩,
    ⟨none, some 76, .faddr 0 (.t 5)⟩,
    ⟨none, some 77, .load false 1 (.t 76)⟩,
    ⟨none, none, .mset 1 (.t 75) (.t 77) (.k (.bool true))⟩]))))
  (.reg [
  ⟨none, some 78, .binI .add (.t 62) (.k (.int .i64 1))⟩,
  ⟨none, some 62, .mv (.t 78)⟩]))))
def lv_coerce_May_2 : List Nat := [1, 80, 81, 82]
def lp_coerce_May_2 : MC :=
  (.seq (.reg [
  ⟨none, some 83, .binI .lss (.t 82) (.t 81)⟩])
  (.seq (.cond (.t 83)
    .skip
    (.exit 2))
  (.seq (.block 3
    (.seq (.reg [
    ⟨none, some 84, .mv (.t 82)⟩,
    ⟨none, some 85, .iaddrS 5 (.t 80) (.t 82)⟩,
    ⟨none, some 86, .load true 5 (.t 85)⟩,
    ⟨none, some 7, .alloc [.sl true 1 [], .sl true 2 [], .sl true 1 [], .sl true 5 [], .sl true 5 []]⟩,
    ⟨none, some 6, .mv (.t 84)⟩,
    ⟨none, none, .store 5 (.t 7) (.t 86)⟩])
    (.seq (.regd [0, 1, 3, 7, 15, 7, 39, 127, 255, 7, 519, 7, 3591, 7687, 16383, 32767, 65535, 131071, 262143, 524287, 1048575, 2097151, 4194303, 8388607, 16777215, 33554431] [
    ⟨none, some 87, .mv (.t 6)⟩,
    ⟨none, some 88, .binI .gtr (.t 87) (.k (.int .i64 0))⟩,
    ⟨none, some 89, .mv (.t 88)⟩,
    ⟨(some (89, true)), some 90, .faddr 2 (.t 1)⟩,
    ⟨(some (89, true)), some 91, .load false 1 (.t 90)⟩,
    ⟨(some (89, true)), some 92, .mv (.t 6)⟩,
    ⟨(some (89, true)), some 93, .binI .sub (.t 92) (.k (.int .i64 1))⟩,
    ⟨(some (89, true)), some 94, .iaddrS 1 (.t 91) (.t 93)⟩,
    ⟨(some (89, true)), some 95, .load false 1 (.t 94)⟩,
    ⟨(some (89, true)), some 96, .faddr 2 (.t 1)⟩,
    ⟨(some (89, true)), some 97, .load false 1 (.t 96)⟩,
    ⟨(some (89, true)), some 98, .mv (.t 6)⟩,
    ⟨(some (89, true)), some 99, .iaddrS 1 (.t 97) (.t 98)⟩,
    ⟨(some (89, true)), some 100, .load false 1 (.t 99)⟩,
    ⟨(some (89, true)), some 101, .call 31 [(.t 95), (.t 100)]⟩,
    ⟨(some (89, true)), some 102, .binI .geq (.t 101) (.k (.int .i64 0))⟩,
    ⟨none, some 103, .pick (.t 89) (.t 102) (.k (.bool false))⟩,
    ⟨none, some 104, .mv (.t 103)⟩,
    ⟨(some (104, false)), some 105, .load true 5 (.t 7)⟩,
    ⟨(some (104, false)), some 106, .call 13 [(.t 105)]⟩,
    ⟨(some (104, false)), some 107, .not (.t 106)⟩,
    ⟨none, some 108, .pick (.t 104) (.k (.bool true)) (.t 107)⟩,
    ⟨none, some 109, .mv (.t 108)⟩,
    ⟨(some (109, false)), some 110, .load true 5 (.t 7)⟩,
    ⟨(some (109, false)), some 111, .call 32 [(.t 110)]⟩,
    ⟨none, some 112, .pick (.t 109) (.k (.bool true)) (.t 111)⟩])
    (.cond (.t 112)
      (.seq (.reg [
      ⟨none, some 2, .mv (.k (.bool false))⟩])
      .ret)
      .skip))))
  (.reg [
  ⟨none, some 113, .binI .add (.t 82) (.k (.int .i64 1))⟩,
  ⟨none, some 82, .mv (.t 113)⟩]))))
abbrev F.coerce_May : FuncId := 13
def mc_coerce_May : MC :=
  (.seq (.reg [
  ⟨none, some 1, .boxP (.t 0)⟩,
  ⟨none, some 2, .mv (.k (.bool false))⟩])
  (.seq (.seq (.reg [
  ⟨none, some 8, .faddr 0 (.t 1)⟩,
  ⟨none, some 9, .load false 1 (.t 8)⟩,
  ⟨none, some 10, .len (.t 9)⟩,
  ⟨none, some 11, .binI .neq (.t 10) (.k (.int .i64 6))⟩,
  ⟨none, some 12, .mv (.t 11)⟩,
  ⟨(some (12, false)), some 13, .faddr 2 (.t 1)⟩,
  ⟨(some (12, false)), some 14, .load false 1 (.t 13)⟩,
  ⟨(some (12, false)), some 15, .len (.t 14)⟩,
  ⟨(some (12, false)), some 16, .faddr 3 (.t 1)⟩,
  ⟨(some (12, false)), some 17, .load false 1 (.t 16)⟩,
  ⟨(some (12, false)), some 18, .len (.t 17)⟩,
  ⟨(some (12, false)), some 19, .binI .neq (.t 15) (.t 18)⟩,
  ⟨none, some 20, .pick (.t 12) (.k (.bool true)) (.t 19)⟩,
  ⟨none, some 21, .mv (.t 20)⟩,
  ⟨(some (21, false)), some 22, .faddr 4 (.t 1)⟩,
  ⟨(some (21, false)), some 23, .load false 1 (.t 22)⟩,
  ⟨(some (21, false)), some 24, .len (.t 23)⟩,
  ⟨(some (21, false)), some 25, .divI .rem (.t 24) (.k (.int .i64 2))⟩,
  ⟨(some (21, false)), some 26, .binI .neq (.t 25) (.k (.int .i64 0))⟩,
  ⟨none, some 27, .pick (.t 21) (.k (.bool true)) (.t 26)⟩,
  ⟨none, some 28, .mv (.t 27)⟩,
  ⟨(some (28, false)), some 29, .faddr 4 (.t 1)⟩,
  ⟨(some (28, false)), some 30, .load false 1 (.t 29)⟩,
  ⟨(some (28, false)), some 31, .len (.t 30)⟩,
  ⟨(some (28, false)), some 32, .binI .gtr (.t 31) (.k (.int .i64 2))⟩,
  ⟨none, some 33, .pick (.t 28) (.k (.bool true)) (.t 32)⟩])
  (.cond (.t 33)
    (.seq (.reg [
    ⟨none, some 2, .mv (.k (.bool false))⟩])
    .ret)
    .skip))
  (.seq (.seq (.reg [
  ⟨none, some 34, .faddr 0 (.t 1)⟩,
  ⟨none, some 35, .load false 1 (.t 34)⟩,
  ⟨none, some 36, .iaddrS 1 (.t 35) (.k (.int .i64 4))⟩,
  ⟨none, some 37, .load false 1 (.t 36)⟩,
  ⟨none, some 38, .binI .neq (.t 37) (.k (.int .i64 0))⟩,
  ⟨none, some 39, .mv (.t 38)⟩,
  ⟨(some (39, true)), some 40, .faddr 2 (.t 1)⟩,
  ⟨(some (39, true)), some 41, .load false 1 (.t 40)⟩,
  ⟨(some (39, true)), some 42, .len (.t 41)⟩,
  ⟨(some (39, true)), some 43, .binI .gtr (.t 42) (.k (.int .i64 0))⟩,
  ⟨none, some 44, .pick (.t 39) (.t 43) (.k (.bool false))⟩,
  ⟨none, some 45, .mv (.t 44)⟩,
  ⟨(some (45, false)), some 46, .faddr 0 (.t 1)⟩,
  ⟨(some (45, false)), some 47, .load false 1 (.t 46)⟩,
  ⟨(some (45, false)), some 48, .iaddrS 1 (.t 47) (.k (.int .i64 5))⟩,
  ⟨(some (45, false)), some 49, .load false 1 (.t 48)⟩,
  ⟨(some (45, false)), some 50, .binI .neq (.t 49) (.k (.int .i64 0))⟩,
  ⟨(some (45, false)), some 51, .mv (.t 50)⟩,
  ⟨(some (51, true)), some 52, .faddr 4 (.t 1)⟩,
  ⟨(some (51, true)), some 53, .load false 1 (.t 52)⟩,
  ⟨(some (51, true)), some 54, .len (.t 53)⟩,
  ⟨(some (51, true)), some 55, .binI .gtr (.t 54) (.k (.int .i64 0))⟩,
  ⟨(some (45, false)), some 56, .pick (.t 51) (.t 55) (.k (.bool false))⟩,
  ⟨none, some 57, .pick (.t 45) (.k (.bool true)) (.t 56)⟩])
  (.cond (.t 57)
    (.seq (.reg [
    ⟨none, some 2, .mv (.k (.bool false))⟩])
    .ret)
    .skip))
  (.seq (.reg [
  ⟨none, some 58, .mkmap⟩,
  ⟨none, some 3, .mv (.t 58)⟩])
  (.seq (.seq (.reg [
  ⟨none, some 59, .faddr 1 (.t 1)⟩,
  ⟨none, some 60, .load false 1 (.t 59)⟩,
  ⟨none, some 61, .len (.t 60)⟩,
  ⟨none, some 62, .mv (.k (.int .i64 0))⟩])
  (.block 0 (.loop lp_coerce_May_0)))
  (.seq (.seq (.reg [
  ⟨none, some 79, .faddr 3 (.t 1)⟩,
  ⟨none, some 80, .load false 1 (.t 79)⟩,
  ⟨none, some 81, .len (.t 80)⟩,
  ⟨none, some 82, .mv (.k (.int .i64 0))⟩])
  (.block 2 (.loop lp_coerce_May_2)))
  (.seq (.reg [
  ⟨none, some 114, .faddr 4 (.t 1)⟩,
  ⟨none, some 115, .load false 1 (.t 114)⟩,
  ⟨none, some 116, .len (.t 115)⟩,
  ⟨none, some 117, .binI .eql (.t 116) (.k (.int .i64 0))⟩,
  ⟨none, some 118, .mv (.t 117)⟩,
  ⟨(some (118, false)), some 119, .faddr 4 (.t 1)⟩,
  ⟨(some (118, false)), some 120, .load false 1 (.t 119)⟩,
  ⟨(some (118, false)), some 121, .iaddrS 5 (.t 120) (.k (.int .i64 0))⟩,
  ⟨(some (118, false)), some 122, .load true 5 (.t 121)⟩,
  ⟨(some (118, false)), some 123, .call 13 [(.t 122)]⟩,
  ⟨(some (118, false)), some 124, .mv (.t 123)⟩,
  ⟨(some (124, true)), some 125, .faddr 4 (.t 1)⟩,
  ⟨(some (124, true)), some 126, .load false 1 (.t 125)⟩,
  ⟨(some (124, true)), some 127, .iaddrS 5 (.t 126) (.k (.int .i64 1))⟩,
  ⟨(some (124, true)), some 128, .load true 5 (.t 127)⟩,
  ⟨(some (124, true)), some 129, .call 13 [(.t 128)]⟩,
  ⟨(some (118, false)), some 130, .pick (.t 124) (.t 129) (.k (.bool false))⟩,
  ⟨(some (118, false)), some 131, .mv (.t 130)⟩,
  ⟨(some (131, true)), some 132, .faddr 4 (.t 1)⟩,
  ⟨(some (131, true)), some 133, .load false 1 (.t 132)⟩,
  ⟨(some (131, true)), some 134, .iaddrS 5 (.t 133) (.k (.int .i64 0))⟩,
  ⟨(some (131, true)), some 135, .load true 5 (.t 134)⟩,
  ⟨(some (131, true)), some 136, .call 32 [(.t 135)]⟩,
  ⟨(some (131, true)), some 137, .mv (.t 136)⟩,
  ⟨(some (137, true)), some 138, .faddr 4 (.t 1)⟩,
  ⟨(some (137, true)), some 139, .load false 1 (.t 138)⟩,
  ⟨(some (137, true)), some 140, .iaddrS 5 (.t 139) (.k (.int .i64 1))⟩,
  ⟨(some (137, true)), some 141, .load true 5 (.t 140)⟩,
  ⟨(some (137, true)), some 142, .call 32 [(.t 141)]⟩,
  ⟨(some (131, true)), some 143, .pick (.t 137) (.t 142) (.k (.bool false))⟩,
  ⟨(some (131, true)), some 144, .not (.t 143)⟩,
  ⟨(some (118, false)), some 145, .pick (.t 131) (.t 144) (.k (.bool false))⟩,
  ⟨none, some 146, .pick (.t 118) (.k (.bool true)) (.t 145)⟩,
  ⟨none, some 2, .mv (.t 146)⟩])
  .ret)))))))
theorem w_coerce_May {args : List DV} {v : DV} (hn : args.length ≤ 147) (h : DV.okL args → ∀ c : Ctx, c.N = 147 → c.pure → w_ Pg c mc_coerce_May (endQ [.tmp 2] v) ⟨⟩ ⟨argT 0 args, fun _ => .non, 0⟩) : PCall Pg F.coerce_May args v :=
  PCall.of_walk Tryz.func13 rfl (by kernel_rfl) (by kernel_rfl) (by kernel_rfl) hn fun o c e p => W.aw Pg_mixed (w_start (h o c e p))
abbrev F.coerce_Same : FuncId := 15
def mc_coerce_Same : MC :=
  (.seq (.reg [
  ⟨none, some 2, .boxP (.t 0)⟩,
  ⟨none, some 3, .boxP (.t 1)⟩,
  ⟨none, some 4, .mv (.k (.bool false))⟩])
  (.seq (.reg [
  ⟨none, some 5, .faddr 0 (.t 2)⟩,
  ⟨none, some 6, .load false 1 (.t 5)⟩,
  ⟨none, some 7, .faddr 0 (.t 3)⟩,
  ⟨none, some 8, .load false 1 (.t 7)⟩,
  ⟨none, some 9, .call 35 [(.t 6), (.t 8)]⟩,
  ⟨none, some 10, .mv (.t 9)⟩,
  ⟨(some (10, true)), some 11, .faddr 1 (.t 2)⟩,
  ⟨(some (10, true)), some 12, .load false 1 (.t 11)⟩,
  ⟨(some (10, true)), some 13, .faddr 1 (.t 3)⟩,
  ⟨(some (10, true)), some 14, .load false 1 (.t 13)⟩,
  ⟨(some (10, true)), some 15, .call 36 [(.t 12), (.t 14)]⟩,
  ⟨none, some 16, .pick (.t 10) (.t 15) (.k (.bool false))⟩,
  ⟨none, some 17, .mv (.t 16)⟩,
  ⟨(some (17, true)), some 18, .faddr 2 (.t 2)⟩,
  ⟨(some (17, true)), some 19, .load false 1 (.t 18)⟩,
  ⟨(some (17, true)), some 20, .faddr 2 (.t 3)⟩,
  ⟨(some (17, true)), some 21, .load false 1 (.t 20)⟩,
  ⟨(some (17, true)), some 22, .call 37 [(.t 19), (.t 21)]⟩,
  ⟨none, some 23, .pick (.t 17) (.t 22) (.k (.bool false))⟩,
  ⟨none, some 24, .mv (.t 23)⟩,
  ⟨(some (24, true)), some 25, .faddr 3 (.t 2)⟩,
  ⟨(some (24, true)), some 26, .load false 1 (.t 25)⟩,
  ⟨(some (24, true)), some 27, .faddr 3 (.t 3)⟩,
  ⟨(some (24, true)), some 28, .load false 1 (.t 27)⟩,
  ⟨(some (24, true)), some 29, .call 38 [(.t 26), (.t 28), (.k (.fn (.func 15) []))]⟩,
  ⟨none, some 30, .pick (.t 24) (.t 29) (.k (.bool false))⟩,
  ⟨none, some 31, .mv (.t 30)⟩,
  ⟨(some (31, true)), some 32, .faddr 4 (.t 2)⟩,
  ⟨(some (31, true)), some 33, .load false 1 (.t 32)⟩,
  ⟨(some (31, true)), some 34, .faddr 4 (.t 3)⟩,
  ⟨(some (31, true)), some 35, .load false 1 (.t 34)⟩,
  ⟨(some (31, true)), some 36, .call 38 [(.t 33), (.t 35), (.k (.fn (.func 15) []))]⟩,
  ⟨none, some 37, .pick (.t 31) (.t 36) (.k (.bool false))⟩,
  ⟨none, some 4, .mv (.t 37)⟩])
  .ret))
theorem w_coerce_Same {args : List DV} {v : DV} (hn : args.length ≤ 38) (h : DV.okL args → ∀ c : Ctx, c.N = 38 → c.pure → w_ Pg c mc_coerce_Same (endQ [.tmp 4] v) ⟨⟩ ⟨argT 0 args, fun _ => .non, 0⟩) : PCall Pg F.coerce_Same args v :=
  PCall.of_walk Tryz.func15 rfl (by kernel_rfl) (by kernel_rfl) (by kernel_rfl) hn fun o c e p => W.aw Pg_mixed (w_start (h o c e p))
def lv_coerce_Size_0 : List Nat := [3, 11, 12, 13]
def lp_coerce_Size_0 : MC :=
  (.seq (.reg [
  ⟨none, some 14, .binI .lss (.t 13) (.t 12)⟩])
  (.seq (.cond (.t 14)
    .skip
    (.exit 0))
  (.seq (.block 1
    (.seq (.reg [
    ⟨none, some 15, .iaddrS 5 (.t 11) (.t 13)⟩,
    ⟨none, some 16, .load true 5 (.t 15)⟩,
    ⟨none, some 5, .alloc [.sl true 1 [], .sl true 2 [], .sl true 1 [], .sl true 5 [], .sl true 5 []]⟩,
    ⟨none, none, .store 5 (.t 5) (.t 16)⟩])
    (.reg [
    ⟨none, some 17, .mv (.t 3)⟩,
    ⟨none, some 18, .load true 5 (.t 5)⟩,
    ⟨none, some 19, .call 22 [(.t 18)]⟩,
    ⟨none, some 20, .binI .add (.t 17) (.t 19)⟩,
    ⟨none, some 3, .mv (.t 20)⟩])))
  (.reg [
  ⟨none, some 21, .binI .add (.t 13) (.k (.int .i64 1))⟩,
  ⟨none, some 13, .mv (.t 21)⟩]))))
abbrev F.coerce_Size : FuncId := 22
def mc_coerce_Size : MC :=
  (.seq (.reg [
  ⟨none, some 1, .boxP (.t 0)⟩,
  ⟨none, some 2, .mv (.k (.int .i64 0))⟩])
  (.seq (.reg [
  ⟨none, some 3, .mv (.k (.int .i64 1))⟩])
  (.seq (.seq (.regd [0, 1, 3, 0, 8, 31, 63, 0] [
  ⟨none, some 6, .faddr 3 (.t 1)⟩,
  ⟨none, some 7, .load false 1 (.t 6)⟩,
  ⟨none, some 8, .callM 45 [(.t 7)]⟩,
  ⟨none, some 9, .faddr 4 (.t 1)⟩,
  ⟨none, some 10, .load false 1 (.t 9)⟩,
  ⟨none, some 11, .append 5 120 (.t 8) (.t 10)⟩,
  ⟨none, some 12, .len (.t 11)⟩,
  ⟨none, some 13, .mv (.k (.int .i64 0))⟩])
  (.block 0 (.loop lp_coerce_Size_0)))
  (.seq (.reg [
  ⟨none, some 22, .mv (.t 3)⟩,
  ⟨none, some 2, .mv (.t 22)⟩])
  .ret))))
theorem w_coerce_Size {args : List DV} {v : DV} (hn : args.length ≤ 23) (h : DV.okL args → ∀ c : Ctx, c.N = 23 → c.pure → w_ Pg c mc_coerce_Size (endQ [.tmp 2] v) ⟨⟩ ⟨argT 0 args, fun _ => .non, 0⟩) : PCall Pg F.coerce_Size args v :=
  PCall.of_walk Tryz.func22 rfl (by kernel_rfl) (by kernel_rfl) (by kernel_rfl) hn fun o c e p => W.aw Pg_mixed (w_start (h o c e p))
abbrev F.slices_Clone_api_Need_api_Need : FuncId := 53
def mc_slices_Clone_api_Need_api_Need : MC :=
  (.seq (.reg [
  ⟨none, some 2, .mv (.k (.sl true 2 []))⟩])
  (.seq (.seq (.reg [
  ⟨none, some 3, .mv (.t 0)⟩,
  ⟨none, some 4, .isNil false (.t 3)⟩])
  (.cond (.t 4)
    (.seq (.reg [
    ⟨none, some 2, .mv (.k (.sl true 2 []))⟩])
    (.owq .ret))
    .skip))
  (.seq (.reg [
  ⟨none, some 5, .buildSl 2 []⟩,
  ⟨none, some 6, .mv (.t 0)⟩,
  ⟨none, some 7, .append 2 24 (.t 5) (.t 6)⟩,
  ⟨none, some 2, .mv (.t 7)⟩])
  (.owq .ret))))
theorem w_slices_Clone_api_Need_api_Need {args : List DV} {v : DV} (hn : args.length ≤ 8) (h : DV.okL args → ∀ c : Ctx, c.N = 8 → c.pure → w_ Pg c mc_slices_Clone_api_Need_api_Need (endQ [.tmp 2] v) ⟨⟩ ⟨argT 0 args, fun _ => .non, 0⟩) : PCall Pg F.slices_Clone_api_Need_api_Need args v :=
  PCall.of_walk Tryz.func53 rfl (by kernel_rfl) (by kernel_rfl) (by kernel_rfl) hn fun o c e p => W.aw Pg_mixed (w_start (h o c e p))
theorem wm_slices_Clone_api_Need_api_Need {args : List AV} {bs : List Blk} {v : AV} {bs' : List Blk} (hs : MStat args 8 bs v bs') (h : ∀ ts : List (Nat × Nat), ts.length = bs.length → AV.okL args → (∀ b, b ∈ bs → b.ok) → ∀ c : Ctx, c.N = 8 → c.pure → w_ Pg c mc_slices_Clone_api_Need_api_Need (endM [.tmp 2] v bs' ts) ⟨⟩ ⟨argA 0 args, hpOf (bs ++ pinsL 0 ts), bs.length + ts.length⟩) : MCall Pg F.slices_Clone_api_Need_api_Need args bs v bs' :=
  MCall.of_walk' Tryz.func53 rfl (by kernel_rfl) (by kernel_rfl) (by kernel_rfl) Pg_mixed hs h
abbrev F.slices_Clone_api_Co_api_Co : FuncId := 45
def mc_slices_Clone_api_Co_api_Co : MC :=
  (.seq (.reg [
  ⟨none, some 2, .mv (.k (.sl true 5 []))⟩])
  (.seq (.seq (.reg [
  ⟨none, some 3, .mv (.t 0)⟩,
  ⟨none, some 4, .isNil false (.t 3)⟩])
  (.cond (.t 4)
    (.seq (.reg [
    ⟨none, some 2, .mv (.k (.sl true 5 []))⟩])
    (.owq .ret))
    .skip))
  (.seq (.reg [
  ⟨none, some 5, .buildSl 5 []⟩,
  ⟨none, some 6, .mv (.t 0)⟩,
  ⟨none, some 7, .append 5 120 (.t 5) (.t 6)⟩,
  ⟨none, some 2, .mv (.t 7)⟩])
  (.owq .ret))))
theorem w_slices_Clone_api_Co_api_Co {args : List DV} {v : DV} (hn : args.length ≤ 8) (h : DV.okL args → ∀ c : Ctx, c.N = 8 → c.pure → w_ Pg c mc_slices_Clone_api_Co_api_Co (endQ [.tmp 2] v) ⟨⟩ ⟨argT 0 args, fun _ => .non, 0⟩) : PCall Pg F.slices_Clone_api_Co_api_Co args v :=
  PCall.of_walk Tryz.func45 rfl (by kernel_rfl) (by kernel_rfl) (by kernel_rfl) hn fun o c e p => W.aw Pg_mixed (w_start (h o c e p))
theorem wm_slices_Clone_api_Co_api_Co {args : List AV} {bs : List Blk} {v : AV} {bs' : List Blk} (hs : MStat args 8 bs v bs') (h : ∀ ts : List (Nat × Nat), ts.length = bs.length → AV.okL args → (∀ b, b ∈ bs → b.ok) → ∀ c : Ctx, c.N = 8 → c.pure → w_ Pg c mc_slices_Clone_api_Co_api_Co (endM [.tmp 2] v bs' ts) ⟨⟩ ⟨argA 0 args, hpOf (bs ++ pinsL 0 ts), bs.length + ts.length⟩) : MCall Pg F.slices_Clone_api_Co_api_Co args bs v bs' :=
  MCall.of_walk' Tryz.func45 rfl (by kernel_rfl) (by kernel_rfl) (by kernel_rfl) Pg_mixed hs h
def lv_gradusref10_May_0 : List Nat := [1, 4]
def lp_gradusref10_May_0 : MC :=
  (.seq (.seq (.reg [
  ⟨none, some 15, .mv (.t 4)⟩,
  ⟨none, some 16, .faddr 3 (.t 1)⟩,
  ⟨none, some 17, .load false 1 (.t 16)⟩,
  ⟨none, some 18, .len (.t 17)⟩,
  ⟨none, some 19, .binI .lss (.t 15) (.t 18)⟩])
  (.cond (.t 19)
    .skip
    (.exit 0)))
  (.seq (.block 1
    (.seq (.reg [
    ⟨none, some 22, .faddr 3 (.t 1)⟩,
    ⟨none, some 23, .load false 1 (.t 22)⟩,
    ⟨none, some 24, .mv (.t 4)⟩,
    ⟨none, some 25, .iaddrS 5 (.t 23) (.t 24)⟩,
    ⟨none, some 26, .load true 5 (.t 25)⟩,
    ⟨none, some 27, .call 14 [(.t 26)]⟩,
    ⟨none, some 5, .mv (.t 27)⟩])
    (.seq (.reg [
    ⟨none, some 28, .faddr 3 (.t 1)⟩,
    ⟨none, some 29, .load false 1 (.t 28)⟩,
    ⟨none, some 30, .mv (.t 4)⟩,
    ⟨none, some 31, .iaddrS 5 (.t 29) (.t 30)⟩,
    ⟨none, some 32, .load true 5 (.t 31)⟩,
    ⟨none, some 33, .call 34 [(.t 32)]⟩,
    ⟨none, some 6, .mv (.t 33)⟩])
    (.seq (.reg [
    ⟨none, some 34, .mv (.t 5)⟩,
    ⟨none, some 35, .not (.t 34)⟩,
    ⟨none, some 36, .mv (.t 35)⟩,
    ⟨(some (36, false)), some 37, .mv (.t 6)⟩,
    ⟨none, some 38, .pick (.t 36) (.k (.bool true)) (.t 37)⟩])
    (.cond (.t 38)
      (.seq (.reg [
      ⟨none, some 2, .mv (.k (.bool false))⟩])
      .ret)
      .skip)))))
  (.reg [
  ⟨none, some 20, .mv (.t 4)⟩,
  ⟨none, some 21, .binI .add (.t 20) (.k (.int .i64 1))⟩,
  ⟨none, some 4, .mv (.t 21)⟩])))
abbrev F.gradusref10_May : FuncId := 14
def mc_gradusref10_May : MC :=
  (.seq (.reg [
  ⟨none, some 1, .boxP (.t 0)⟩,
  ⟨none, some 2, .mv (.k (.bool false))⟩])
  (.seq (.reg [
  ⟨none, some 11, .load true 5 (.t 1)⟩,
  ⟨none, some 12, .call 33 [(.t 11)]⟩,
  ⟨none, some 3, .mv (.t 12)⟩])
  (.seq (.seq (.reg [
  ⟨none, some 13, .mv (.t 3)⟩,
  ⟨none, some 14, .not (.t 13)⟩])
  (.cond (.t 14)
    (.seq (.reg [
    ⟨none, some 2, .mv (.k (.bool false))⟩])
    .ret)
    .skip))
  (.seq (.seq (.reg [
  ⟨none, some 4, .mv (.k (.int .i64 0))⟩])
  (.block 0 (.loop lp_gradusref10_May_0)))
  (.seq (.seq (.reg [
  ⟨none, some 39, .faddr 4 (.t 1)⟩,
  ⟨none, some 40, .load false 1 (.t 39)⟩,
  ⟨none, some 41, .len (.t 40)⟩,
  ⟨none, some 42, .binI .eql (.t 41) (.k (.int .i64 0))⟩])
  (.cond (.t 42)
    (.seq (.reg [
    ⟨none, some 2, .mv (.k (.bool true))⟩])
    .ret)
    .skip))
  (.seq (.reg [
  ⟨none, some 43, .faddr 4 (.t 1)⟩,
  ⟨none, some 44, .load false 1 (.t 43)⟩,
  ⟨none, some 45, .iaddrS 5 (.t 44) (.k (.int .i64 0))⟩,
  ⟨none, some 46, .load true 5 (.t 45)⟩,
  ⟨none, some 47, .call 14 [(.t 46)]⟩,
  ⟨none, some 7, .mv (.t 47)⟩])
  (.seq (.reg [
  ⟨none, some 48, .faddr 4 (.t 1)⟩,
  ⟨none, some 49, .load false 1 (.t 48)⟩,
  ⟨none, some 50, .iaddrS 5 (.t 49) (.k (.int .i64 1))⟩,
  ⟨none, some 51, .load true 5 (.t 50)⟩,
  ⟨none, some 52, .call 14 [(.t 51)]⟩,
  ⟨none, some 8, .mv (.t 52)⟩])
  (.seq (.reg [
  ⟨none, some 53, .faddr 4 (.t 1)⟩,
  ⟨none, some 54, .load false 1 (.t 53)⟩,
  ⟨none, some 55, .iaddrS 5 (.t 54) (.k (.int .i64 0))⟩,
  ⟨none, some 56, .load true 5 (.t 55)⟩,
  ⟨none, some 57, .call 34 [(.t 56)]⟩,
  ⟨none, some 9, .mv (.t 57)⟩])
  (.seq (.reg [
  ⟨none, some 58, .faddr 4 (.t 1)⟩,
  ⟨none, some 59, .load false 1 (.t 58)⟩,
  ⟨none, some 60, .iaddrS 5 (.t 59) (.k (.int .i64 1))⟩,
  ⟨none, some 61, .load true 5 (.t 60)⟩,
  ⟨none, some 62, .call 34 [(.t 61)]⟩,
  ⟨none, some 10, .mv (.t 62)⟩])
  (.seq (.reg [
  ⟨none, some 63, .mv (.t 7)⟩,
  ⟨none, some 64, .mv (.t 63)⟩,
  ⟨(some (64, true)), some 65, .mv (.t 8)⟩,
  ⟨none, some 66, .pick (.t 64) (.t 65) (.k (.bool false))⟩,
  ⟨none, some 67, .mv (.t 66)⟩,
  ⟨(some (67, true)), some 68, .mv (.t 9)⟩,
  ⟨(some (67, true)), some 69, .mv (.t 68)⟩,
  ⟨(some (69, true)), some 70, .mv (.t 10)⟩,
  ⟨(some (67, true)), some 71, .pick (.t 69) (.t 70) (.k (.bool false))⟩,
  ⟨(some (67, true)), some 72, .not (.t 71)⟩,
  ⟨none, some 73, .pick (.t 67) (.t 72) (.k (.bool false))⟩,
  ⟨none, some 2, .mv (.t 73)⟩])
  .ret))))))))))
theorem w_gradusref10_May {args : List DV} {v : DV} (hn : args.length ≤ 74) (h : DV.okL args → ∀ c : Ctx, c.N = 74 → c.pure → w_ Pg c mc_gradusref10_May (endQ [.tmp 2] v) ⟨⟩ ⟨argT 0 args, fun _ => .non, 0⟩) : PCall Pg F.gradusref10_May args v :=
  PCall.of_walk Tryz.func14 rfl (by kernel_rfl) (by kernel_rfl) (by kernel_rfl) hn fun o c e p => W.aw Pg_mixed (w_start (h o c e p))
def lv_gradusref10_Same_0 : List Nat := [2, 3, 5]
def lp_gradusref10_Same_0 : MC :=
  (.seq (.seq (.reg [
  ⟨none, some 55, .mv (.t 5)⟩,
  ⟨none, some 56, .faddr 0 (.t 2)⟩,
  ⟨none, some 57, .load false 1 (.t 56)⟩,
  ⟨none, some 58, .len (.t 57)⟩,
  ⟨none, some 59, .binI .lss (.t 55) (.t 58)⟩])
  (.cond (.t 59)
    .skip
    (.exit 0)))
  (.seq (.block 1
    (.seq (.regd [0, 1, 0, 7, 15, 0, 32, 0, 224, 480, 1023] [
    ⟨none, some 62, .faddr 0 (.t 2)⟩,
    ⟨none, some 63, .load false 1 (.t 62)⟩,
    ⟨none, some 64, .mv (.t 5)⟩,
    ⟨none, some 65, .iaddrS 1 (.t 63) (.t 64)⟩,
    ⟨none, some 66, .load false 1 (.t 65)⟩,
    ⟨none, some 67, .faddr 0 (.t 3)⟩,
    ⟨none, some 68, .load false 1 (.t 67)⟩,
    ⟨none, some 69, .mv (.t 5)⟩,
    ⟨none, some 70, .iaddrS 1 (.t 68) (.t 69)⟩,
    ⟨none, some 71, .load false 1 (.t 70)⟩,
    ⟨none, some 72, .binI .neq (.t 66) (.t 71)⟩])
    (.cond (.t 72)
      (.seq (.reg [
      ⟨none, some 4, .mv (.k (.bool false))⟩])
      .ret)
      .skip)))
  (.reg [
  ⟨none, some 60, .mv (.t 5)⟩,
  ⟨none, some 61, .binI .add (.t 60) (.k (.int .i64 1))⟩,
  ⟨none, some 5, .mv (.t 61)⟩])))
def lv_gradusref10_Same_2 : List Nat := [2, 3, 6]
def lp_gradusref10_Same_2 : MC :=
  (.seq (.seq (.reg [
  ⟨none, some 73, .mv (.t 6)⟩,
  ⟨none, some 74, .faddr 1 (.t 2)⟩,
  ⟨none, some 75, .load false 1 (.t 74)⟩,
  ⟨none, some 76, .len (.t 75)⟩,
  ⟨none, some 77, .binI .lss (.t 73) (.t 76)⟩])
  (.cond (.t 77)
    .skip
    (.exit 2)))
  (.seq (.block 3
    (.seq (.regd [0, 1, 0, 7, 15, 0, 32, 0, 224, 480, 1023] [
    ⟨none, some 80, .faddr 1 (.t 2)⟩,
    ⟨none, some 81, .load false 1 (.t 80)⟩,
    ⟨none, some 82, .mv (.t 6)⟩,
    ⟨none, some 83, .iaddrS 2 (.t 81) (.t 82)⟩,
    ⟨none, some 84, .load true 2 (.t 83)⟩,
    ⟨none, some 85, .faddr 1 (.t 3)⟩,
    ⟨none, some 86, .load false 1 (.t 85)⟩,
    ⟨none, some 87, .mv (.t 6)⟩,
    ⟨none, some 88, .iaddrS 2 (.t 86) (.t 87)⟩,
    ⟨none, some 89, .load true 2 (.t 88)⟩,
    ⟨none, some 90, .eqAg true [1, 0] (.t 84) (.t 89)⟩])
    (.cond (.t 90)
      (.seq (.reg [
      ⟨none, some 4, .mv (.k (.bool false))⟩])
      .ret)
      .skip)))
  (.reg [
  ⟨none, some 78, .mv (.t 6)⟩,
  ⟨none, some 79, .binI .add (.t 78) (.k (.int .i64 1))⟩,
  ⟨none, some 6, .mv (.t 79)⟩])))
def lv_gradusref10_Same_4 : List Nat := [2, 3, 7]
def lp_gradusref10_Same_4 : MC :=
  (.seq (.seq (.reg [
  ⟨none, some 91, .mv (.t 7)⟩,
  ⟨none, some 92, .faddr 2 (.t 2)⟩,
  ⟨none, some 93, .load false 1 (.t 92)⟩,
  ⟨none, some 94, .len (.t 93)⟩,
  ⟨none, some 95, .binI .lss (.t 91) (.t 94)⟩])
  (.cond (.t 95)
    .skip
    (.exit 4)))
  (.seq (.block 5
    (.seq (.regd [0, 1, 0, 7, 15, 0, 32, 0, 224, 480, 1023] [
    ⟨none, some 98, .faddr 2 (.t 2)⟩,
    ⟨none, some 99, .load false 1 (.t 98)⟩,
    ⟨none, some 100, .mv (.t 7)⟩,
    ⟨none, some 101, .iaddrS 1 (.t 99) (.t 100)⟩,
    ⟨none, some 102, .load false 1 (.t 101)⟩,
    ⟨none, some 103, .faddr 2 (.t 3)⟩,
    ⟨none, some 104, .load false 1 (.t 103)⟩,
    ⟨none, some 105, .mv (.t 7)⟩,
    ⟨none, some 106, .iaddrS 1 (.t 104) (.t 105)⟩,
    ⟨none, some 107, .load false 1 (.t 106)⟩,
    ⟨none, some 108, .binS .neq (.t 102) (.t 107)⟩])
    (.cond (.t 108)
      (.seq (.reg [
      ⟨none, some 4, .mv (.k (.bool false))⟩])
      .ret)
      .skip)))
  (.reg [
  ⟨none, some 96, .mv (.t 7)⟩,
  ⟨none, some 97, .binI .add (.t 96) (.k (.int .i64 1))⟩,
  ⟨none, some 7, .mv (.t 97)⟩])))
def lv_gradusref10_Same_6 : List Nat := [2, 3, 8]
def lp_gradusref10_Same_6 : MC :=
  (.seq (.seq (.reg [
  ⟨none, some 109, .mv (.t 8)⟩,
  ⟨none, some 110, .faddr 3 (.t 2)⟩,
  ⟨none, some 111, .load false 1 (.t 110)⟩,
  ⟨none, some 112, .len (.t 111)⟩,
  ⟨none, some 113, .binI .lss (.t 109) (.t 112)⟩])
  (.cond (.t 113)
    .skip
    (.exit 6)))
  (.seq (.block 7
    (.seq (.regd [0, 1, 0, 7, 15, 0, 32, 0, 224, 480, 1023, 2047] [
    ⟨none, some 116, .faddr 3 (.t 2)⟩,
    ⟨none, some 117, .load false 1 (.t 116)⟩,
    ⟨none, some 118, .mv (.t 8)⟩,
    ⟨none, some 119, .iaddrS 5 (.t 117) (.t 118)⟩,
    ⟨none, some 120, .load true 5 (.t 119)⟩,
    ⟨none, some 121, .faddr 3 (.t 3)⟩,
    ⟨none, some 122, .load false 1 (.t 121)⟩,
    ⟨none, some 123, .mv (.t 8)⟩,
    ⟨none, some 124, .iaddrS 5 (.t 122) (.t 123)⟩,
    ⟨none, some 125, .load true 5 (.t 124)⟩,
    ⟨none, some 126, .call 16 [(.t 120), (.t 125)]⟩,
    ⟨none, some 9, .mv (.t 126)⟩])
    (.seq (.reg [
    ⟨none, some 127, .mv (.t 9)⟩,
    ⟨none, some 128, .not (.t 127)⟩])
    (.cond (.t 128)
      (.seq (.reg [
      ⟨none, some 4, .mv (.k (.bool false))⟩])
      .ret)
      .skip))))
  (.reg [
  ⟨none, some 114, .mv (.t 8)⟩,
  ⟨none, some 115, .binI .add (.t 114) (.k (.int .i64 1))⟩,
  ⟨none, some 8, .mv (.t 115)⟩])))
def lv_gradusref10_Same_8 : List Nat := [2, 3, 10]
def lp_gradusref10_Same_8 : MC :=
  (.seq (.seq (.reg [
  ⟨none, some 129, .mv (.t 10)⟩,
  ⟨none, some 130, .faddr 4 (.t 2)⟩,
  ⟨none, some 131, .load false 1 (.t 130)⟩,
  ⟨none, some 132, .len (.t 131)⟩,
  ⟨none, some 133, .binI .lss (.t 129) (.t 132)⟩])
  (.cond (.t 133)
    .skip
    (.exit 8)))
  (.seq (.block 9
    (.seq (.regd [0, 1, 0, 7, 15, 0, 32, 0, 224, 480, 1023, 2047] [
    ⟨none, some 136, .faddr 4 (.t 2)⟩,
    ⟨none, some 137, .load false 1 (.t 136)⟩,
    ⟨none, some 138, .mv (.t 10)⟩,
    ⟨none, some 139, .iaddrS 5 (.t 137) (.t 138)⟩,
    ⟨none, some 140, .load true 5 (.t 139)⟩,
    ⟨none, some 141, .faddr 4 (.t 3)⟩,
    ⟨none, some 142, .load false 1 (.t 141)⟩,
    ⟨none, some 143, .mv (.t 10)⟩,
    ⟨none, some 144, .iaddrS 5 (.t 142) (.t 143)⟩,
    ⟨none, some 145, .load true 5 (.t 144)⟩,
    ⟨none, some 146, .call 16 [(.t 140), (.t 145)]⟩,
    ⟨none, some 11, .mv (.t 146)⟩])
    (.seq (.reg [
    ⟨none, some 147, .mv (.t 11)⟩,
    ⟨none, some 148, .not (.t 147)⟩])
    (.cond (.t 148)
      (.seq (.reg [
      ⟨none, some 4, .mv (.k (.bool false))⟩])
      .ret)
      .skip))))
  (.reg [
  ⟨none, some 134, .mv (.t 10)⟩,
  ⟨none, some 135, .binI .add (.t 134) (.k (.int .i64 1))⟩,
  ⟨none, some 10, .mv (.t 135)⟩])))
abbrev F.gradusref10_Same : FuncId := 16
def mc_gradusref10_Same : MC :=
  (.seq (.reg [
  ⟨none, some 2, .boxP (.t 0)⟩,
  ⟨none, some 3, .boxP (.t 1)⟩,
  ⟨none, some 4, .mv (.k (.bool false))⟩])
  (.seq (.seq (.reg [
  ⟨none, some 12, .faddr 0 (.t 2)⟩,
  ⟨none, some 13, .load false 1 (.t 12)⟩,
  ⟨none, some 14, .len (.t 13)⟩,
  ⟨none, some 15, .faddr 0 (.t 3)⟩,
  ⟨none, some 16, .load false 1 (.t 15)⟩,
  ⟨none, some 17, .len (.t 16)⟩,
  ⟨none, some 18, .binI .neq (.t 14) (.t 17)⟩,
  ⟨none, some 19, .mv (.t 18)⟩,
  ⟨(some (19, false)), some 20, .faddr 1 (.t 2)⟩,
  ⟨(some (19, false)), some 21, .load false 1 (.t 20)⟩,
  ⟨(some (19, false)), some 22, .len (.t 21)⟩,
  ⟨(some (19, false)), some 23, .faddr 1 (.t 3)⟩,
  ⟨(some (19, false)), some 24, .load false 1 (.t 23)⟩,
  ⟨(some (19, false)), some 25, .len (.t 24)⟩,
  ⟨(some (19, false)), some 26, .binI .neq (.t 22) (.t 25)⟩,
  ⟨none, some 27, .pick (.t 19) (.k (.bool true)) (.t 26)⟩,
  ⟨none, some 28, .mv (.t 27)⟩,
  ⟨(some (28, false)), some 29, .faddr 2 (.t 2)⟩,
  ⟨(some (28, false)), some 30, .load false 1 (.t 29)⟩,
  ⟨(some (28, false)), some 31, .len (.t 30)⟩,
  ⟨(some (28, false)), some 32, .faddr 2 (.t 3)⟩,
  ⟨(some (28, false)), some 33, .load false 1 (.t 32)⟩,
  ⟨(some (28, false)), some 34, .len (.t 33)⟩,
  ⟨(some (28, false)), some 35, .binI .neq (.t 31) (.t 34)⟩,
  ⟨none, some 36, .pick (.t 28) (.k (.bool true)) (.t 35)⟩,
  ⟨none, some 37, .mv (.t 36)⟩,
  ⟨(some (37, false)), some 38, .faddr 3 (.t 2)⟩,
  ⟨(some (37, false)), some 39, .load false 1 (.t 38)⟩,
  ⟨(some (37, false)), some 40, .len (.t 39)⟩,
  ⟨(some (37, false)), some 41, .faddr 3 (.t 3)⟩,
  ⟨(some (37, false)), some 42, .load false 1 (.t 41)⟩,
  ⟨(some (37, false)), some 43, .len (.t 42)⟩,
  ⟨(some (37, false)), some 44, .binI .neq (.t 40) (.t 43)⟩,
  ⟨none, some 45, .pick (.t 37) (.k (.bool true)) (.t 44)⟩,
  ⟨none, some 46, .mv (.t 45)⟩,
  ⟨(some (46, false)), some 47, .faddr 4 (.t 2)⟩,
  ⟨(some (46, false)), some 48, .load false 1 (.t 47)⟩,
  ⟨(some (46, false)), some 49, .len (.t 48)⟩,
  ⟨(some (46, false)), some 50, .faddr 4 (.t 3)⟩,
  ⟨(some (46, false)), some 51, .load false 1 (.t 50)⟩,
  ⟨(some (46, false)), some 52, .len (.t 51)⟩,
  ⟨(some (46, false)), some 53, .binI .neq (.t 49) (.t 52)⟩,
  ⟨none, some 54, .pick (.t 46) (.k (.bool true)) (.t 53)⟩])
  (.cond (.t 54)
    (.seq (.reg [
    ⟨none, some 4, .mv (.k (.bool false))⟩])
    .ret)
    .skip))
  (.seq (.seq (.reg [
  ⟨none, some 5, .mv (.k (.int .i64 0))⟩])
  (.block 0 (.loop lp_gradusref10_Same_0)))
  (.seq (.seq (.reg [
  ⟨none, some 6, .mv (.k (.int .i64 0))⟩])
  (.block 2 (.loop lp_gradusref10_Same_2)))
  (.seq (.seq (.reg [
  ⟨none, some 7, .mv (.k (.int .i64 0))⟩])
  (.block 4 (.loop lp_gradusref10_Same_4)))
  (.seq (.seq (.reg [
  ⟨none, some 8, .mv (.k (.int .i64 0))⟩])
  (.block 6 (.loop lp_gradusref10_Same_6)))
  (.seq (.seq (.reg [
  ⟨none, some 10, .mv (.k (.int .i64 0))⟩])
  (.block 8 (.loop lp_gradusref10_Same_8)))
  (.seq (.reg [
  ⟨none, some 4, .mv (.k (.bool true))⟩])
  .ret))))))))
theorem w_gradusref10_Same {args : List DV} {v : DV} (hn : args.length ≤ 149) (h : DV.okL args → ∀ c : Ctx, c.N = 149 → c.pure → w_ Pg c mc_gradusref10_Same (endQ [.tmp 4] v) ⟨⟩ ⟨argT 0 args, fun _ => .non, 0⟩) : PCall Pg F.gradusref10_Same args v :=
  PCall.of_walk Tryz.func16 rfl (by kernel_rfl) (by kernel_rfl) (by kernel_rfl) hn fun o c e p => W.aw Pg_mixed (w_start (h o c e p))
def lv_gradusref10_own_2 : List Nat := [1, 3, 4]
def lp_gradusref10_own_2 : MC :=
  (.seq (.seq (.reg [
  ⟨none, some 69, .mv (.t 4)⟩,
  ⟨none, some 70, .mv (.t 3)⟩,
  ⟨none, some 71, .binI .lss (.t 69) (.t 70)⟩])
  (.cond (.t 71)
    .skip
    (.exit 2)))
  (.seq (.block 3
    (.seq (.regd [0, 1, 0, 7, 15, 31, 0, 64, 0, 448, 960, 1984, 4095] [
    ⟨none, some 74, .faddr 1 (.t 1)⟩,
    ⟨none, some 75, .load false 1 (.t 74)⟩,
    ⟨none, some 76, .mv (.t 4)⟩,
    ⟨none, some 77, .iaddrS 2 (.t 75) (.t 76)⟩,
    ⟨none, some 78, .faddr 0 (.t 77)⟩,
    ⟨none, some 79, .load false 1 (.t 78)⟩,
    ⟨none, some 80, .faddr 1 (.t 1)⟩,
    ⟨none, some 81, .load false 1 (.t 80)⟩,
    ⟨none, some 82, .mv (.t 3)⟩,
    ⟨none, some 83, .iaddrS 2 (.t 81) (.t 82)⟩,
    ⟨none, some 84, .faddr 0 (.t 83)⟩,
    ⟨none, some 85, .load false 1 (.t 84)⟩,
    ⟨none, some 86, .binS .eql (.t 79) (.t 85)⟩])
    (.cond (.t 86)
      (.seq (.reg [
      ⟨none, some 2, .mv (.k (.bool false))⟩])
      .ret)
      .skip)))
  (.reg [
  ⟨none, some 72, .mv (.t 4)⟩,
  ⟨none, some 73, .binI .add (.t 72) (.k (.int .i64 1))⟩,
  ⟨none, some 4, .mv (.t 73)⟩])))
def lv_gradusref10_own_0 : List Nat := [1, 3]
def lp_gradusref10_own_0 : MC :=
  (.seq (.seq (.reg [
  ⟨none, some 55, .mv (.t 3)⟩,
  ⟨none, some 56, .faddr 1 (.t 1)⟩,
  ⟨none, some 57, .load false 1 (.t 56)⟩,
  ⟨none, some 58, .len (.t 57)⟩,
  ⟨none, some 59, .binI .lss (.t 55) (.t 58)⟩])
  (.cond (.t 59)
    .skip
    (.exit 0)))
  (.seq (.block 1
    (.seq (.seq (.reg [
    ⟨none, some 62, .faddr 1 (.t 1)⟩,
    ⟨none, some 63, .load false 1 (.t 62)⟩,
    ⟨none, some 64, .mv (.t 3)⟩,
    ⟨none, some 65, .iaddrS 2 (.t 63) (.t 64)⟩,
    ⟨none, some 66, .faddr 1 (.t 65)⟩,
    ⟨none, some 67, .load false 1 (.t 66)⟩,
    ⟨none, some 68, .binI .eql (.t 67) (.k (.int .i64 0))⟩])
    (.cond (.t 68)
      (.seq (.reg [
      ⟨none, some 2, .mv (.k (.bool false))⟩])
      .ret)
      .skip))
    (.seq (.reg [
    ⟨none, some 4, .mv (.k (.int .i64 0))⟩])
    (.block 2 (.loop lp_gradusref10_own_2)))))
  (.reg [
  ⟨none, some 60, .mv (.t 3)⟩,
  ⟨none, some 61, .binI .add (.t 60) (.k (.int .i64 1))⟩,
  ⟨none, some 3, .mv (.t 61)⟩])))
def lv_gradusref10_own_4 : List Nat := [1, 5]
def lp_gradusref10_own_4 : MC :=
  (.seq (.seq (.reg [
  ⟨none, some 87, .mv (.t 5)⟩,
  ⟨none, some 88, .faddr 2 (.t 1)⟩,
  ⟨none, some 89, .load false 1 (.t 88)⟩,
  ⟨none, some 90, .len (.t 89)⟩,
  ⟨none, some 91, .binI .lss (.t 87) (.t 90)⟩])
  (.cond (.t 91)
    .skip
    (.exit 4)))
  (.seq (.block 5
    (.seq (.regd [0, 1, 0, 7, 15, 0, 32, 0, 128, 480, 992, 2047] [
    ⟨none, some 94, .faddr 2 (.t 1)⟩,
    ⟨none, some 95, .load false 1 (.t 94)⟩,
    ⟨none, some 96, .mv (.t 5)⟩,
    ⟨none, some 97, .iaddrS 1 (.t 95) (.t 96)⟩,
    ⟨none, some 98, .load false 1 (.t 97)⟩,
    ⟨none, some 99, .faddr 2 (.t 1)⟩,
    ⟨none, some 100, .load false 1 (.t 99)⟩,
    ⟨none, some 101, .mv (.t 5)⟩,
    ⟨none, some 102, .binI .sub (.t 101) (.k (.int .i64 1))⟩,
    ⟨none, some 103, .iaddrS 1 (.t 100) (.t 102)⟩,
    ⟨none, some 104, .load false 1 (.t 103)⟩,
    ⟨none, some 105, .binS .leq (.t 98) (.t 104)⟩])
    (.cond (.t 105)
      (.seq (.reg [
      ⟨none, some 2, .mv (.k (.bool false))⟩])
      .ret)
      .skip)))
  (.reg [
  ⟨none, some 92, .mv (.t 5)⟩,
  ⟨none, some 93, .binI .add (.t 92) (.k (.int .i64 1))⟩,
  ⟨none, some 5, .mv (.t 93)⟩])))
abbrev F.gradusref10_own : FuncId := 33
def mc_gradusref10_own : MC :=
  (.seq (.reg [
  ⟨none, some 1, .boxP (.t 0)⟩,
  ⟨none, some 2, .mv (.k (.bool false))⟩])
  (.seq (.seq (.reg [
  ⟨none, some 6, .faddr 0 (.t 1)⟩,
  ⟨none, some 7, .load false 1 (.t 6)⟩,
  ⟨none, some 8, .len (.t 7)⟩,
  ⟨none, some 9, .binI .neq (.t 8) (.k (.int .i64 6))⟩,
  ⟨none, some 10, .mv (.t 9)⟩,
  ⟨(some (10, false)), some 11, .faddr 2 (.t 1)⟩,
  ⟨(some (10, false)), some 12, .load false 1 (.t 11)⟩,
  ⟨(some (10, false)), some 13, .len (.t 12)⟩,
  ⟨(some (10, false)), some 14, .faddr 3 (.t 1)⟩,
  ⟨(some (10, false)), some 15, .load false 1 (.t 14)⟩,
  ⟨(some (10, false)), some 16, .len (.t 15)⟩,
  ⟨(some (10, false)), some 17, .binI .neq (.t 13) (.t 16)⟩,
  ⟨none, some 18, .pick (.t 10) (.k (.bool true)) (.t 17)⟩,
  ⟨none, some 19, .mv (.t 18)⟩,
  ⟨(some (19, false)), some 20, .faddr 4 (.t 1)⟩,
  ⟨(some (19, false)), some 21, .load false 1 (.t 20)⟩,
  ⟨(some (19, false)), some 22, .len (.t 21)⟩,
  ⟨(some (19, false)), some 23, .binI .neq (.t 22) (.k (.int .i64 0))⟩,
  ⟨(some (19, false)), some 24, .mv (.t 23)⟩,
  ⟨(some (24, true)), some 25, .faddr 4 (.t 1)⟩,
  ⟨(some (24, true)), some 26, .load false 1 (.t 25)⟩,
  ⟨(some (24, true)), some 27, .len (.t 26)⟩,
  ⟨(some (24, true)), some 28, .binI .neq (.t 27) (.k (.int .i64 2))⟩,
  ⟨(some (19, false)), some 29, .pick (.t 24) (.t 28) (.k (.bool false))⟩,
  ⟨none, some 30, .pick (.t 19) (.k (.bool true)) (.t 29)⟩])
  (.cond (.t 30)
    (.seq (.reg [
    ⟨none, some 2, .mv (.k (.bool false))⟩])
    .ret)
    .skip))
  (.seq (.seq (.reg [
  ⟨none, some 31, .faddr 0 (.t 1)⟩,
  ⟨none, some 32, .load false 1 (.t 31)⟩,
  ⟨none, some 33, .iaddrS 1 (.t 32) (.k (.int .i64 4))⟩,
  ⟨none, some 34, .load false 1 (.t 33)⟩,
  ⟨none, some 35, .binI .neq (.t 34) (.k (.int .i64 0))⟩,
  ⟨none, some 36, .mv (.t 35)⟩,
  ⟨(some (36, true)), some 37, .faddr 2 (.t 1)⟩,
  ⟨(some (36, true)), some 38, .load false 1 (.t 37)⟩,
  ⟨(some (36, true)), some 39, .len (.t 38)⟩,
  ⟨(some (36, true)), some 40, .binI .gtr (.t 39) (.k (.int .i64 0))⟩,
  ⟨none, some 41, .pick (.t 36) (.t 40) (.k (.bool false))⟩,
  ⟨none, some 42, .mv (.t 41)⟩,
  ⟨(some (42, false)), some 43, .faddr 0 (.t 1)⟩,
  ⟨(some (42, false)), some 44, .load false 1 (.t 43)⟩,
  ⟨(some (42, false)), some 45, .iaddrS 1 (.t 44) (.k (.int .i64 5))⟩,
  ⟨(some (42, false)), some 46, .load false 1 (.t 45)⟩,
  ⟨(some (42, false)), some 47, .binI .neq (.t 46) (.k (.int .i64 0))⟩,
  ⟨(some (42, false)), some 48, .mv (.t 47)⟩,
  ⟨(some (48, true)), some 49, .faddr 4 (.t 1)⟩,
  ⟨(some (48, true)), some 50, .load false 1 (.t 49)⟩,
  ⟨(some (48, true)), some 51, .len (.t 50)⟩,
  ⟨(some (48, true)), some 52, .binI .gtr (.t 51) (.k (.int .i64 0))⟩,
  ⟨(some (42, false)), some 53, .pick (.t 48) (.t 52) (.k (.bool false))⟩,
  ⟨none, some 54, .pick (.t 42) (.k (.bool true)) (.t 53)⟩])
  (.cond (.t 54)
    (.seq (.reg [
    ⟨none, some 2, .mv (.k (.bool false))⟩])
    .ret)
    .skip))
  (.seq (.seq (.reg [
  ⟨none, some 3, .mv (.k (.int .i64 0))⟩])
  (.block 0 (.loop lp_gradusref10_own_0)))
  (.seq (.seq (.reg [
  ⟨none, some 5, .mv (.k (.int .i64 1))⟩])
  (.block 4 (.loop lp_gradusref10_own_4)))
  (.seq (.reg [
  ⟨none, some 2, .mv (.k (.bool true))⟩])
  .ret))))))
theorem w_gradusref10_own {args : List DV} {v : DV} (hn : args.length ≤ 106) (h : DV.okL args → ∀ c : Ctx, c.N = 106 → c.pure → w_ Pg c mc_gradusref10_own (endQ [.tmp 2] v) ⟨⟩ ⟨argT 0 args, fun _ => .non, 0⟩) : PCall Pg F.gradusref10_own args v :=
  PCall.of_walk Tryz.func33 rfl (by kernel_rfl) (by kernel_rfl) (by kernel_rfl) hn fun o c e p => W.aw Pg_mixed (w_start (h o c e p))
abbrev F.gradusref10_IsId : FuncId := 34
def mc_gradusref10_IsId : MC :=
  (.seq (.reg [
  ⟨none, some 1, .boxP (.t 0)⟩,
  ⟨none, some 2, .mv (.k (.bool false))⟩])
  (.seq (.regd [0, 0, 3, 7] [
  ⟨none, some 3, .load true 5 (.t 1)⟩,
  ⟨none, some 4, .call 52 []⟩,
  ⟨none, some 5, .call 16 [(.t 3), (.t 4)]⟩,
  ⟨none, some 2, .mv (.t 5)⟩])
  .ret))
theorem w_gradusref10_IsId {args : List DV} {v : DV} (hn : args.length ≤ 6) (h : DV.okL args → ∀ c : Ctx, c.N = 6 → c.pure → w_ Pg c mc_gradusref10_IsId (endQ [.tmp 2] v) ⟨⟩ ⟨argT 0 args, fun _ => .non, 0⟩) : PCall Pg F.gradusref10_IsId args v :=
  PCall.of_walk Tryz.func34 rfl (by kernel_rfl) (by kernel_rfl) (by kernel_rfl) hn fun o c e p => W.aw Pg_mixed (w_start (h o c e p))
abbrev F.gradusref10_Id : FuncId := 52
def mc_gradusref10_Id : MC :=
  (.seq (.reg [
  ⟨none, some 0, .alloc [.sl true 1 [], .sl true 2 [], .sl true 1 [], .sl true 5 [], .sl true 5 []]⟩])
  (.seq (.reg [
  ⟨none, some 1, .mkslM [.int .i64 0] 8 (.k (.int .i64 6)) (.k (.int .i64 6))⟩,
  ⟨none, some 2, .build [.sl true 1 [], .sl true 2 [], .sl true 1 [], .sl true 5 [], .sl true 5 []] [(0, 1, (.t 1))]⟩,
  ⟨none, none, .store 5 (.t 0) (.t 2)⟩])
  .ret))
theorem w_gradusref10_Id {args : List DV} {v : DV} (hn : args.length ≤ 3) (h : DV.okL args → ∀ c : Ctx, c.N = 3 → c.pure → w_ Pg c mc_gradusref10_Id (endQ [.cell 0 true 5] v) ⟨⟩ ⟨argT 0 args, fun _ => .non, 0⟩) : PCall Pg F.gradusref10_Id args v :=
  PCall.of_walk Tryz.func52 rfl (by kernel_rfl) (by kernel_rfl) (by kernel_rfl) hn fun o c e p => W.aw Pg_mixed (w_start (h o c e p))
theorem wm_gradusref10_Id {args : List AV} {bs : List Blk} {v : AV} {bs' : List Blk} (hs : MStat args 3 bs v bs') (h : ∀ ts : List (Nat × Nat), ts.length = bs.length → AV.okL args → (∀ b, b ∈ bs → b.ok) → ∀ c : Ctx, c.N = 3 → c.pure → w_ Pg c mc_gradusref10_Id (endM [.cell 0 true 5] v bs' ts) ⟨⟩ ⟨argA 0 args, hpOf (bs ++ pinsL 0 ts), bs.length + ts.length⟩) : MCall Pg F.gradusref10_Id args bs v bs' :=
  MCall.of_walk' Tryz.func52 rfl (by kernel_rfl) (by kernel_rfl) (by kernel_rfl) Pg_mixed hs h
def lv_slices_Equal_int_int_0 : List Nat := [0, 1, 12, 13]
def lp_slices_Equal_int_int_0 : MC :=
  (.seq (.reg [
  ⟨none, some 14, .binI .lss (.t 13) (.t 12)⟩])
  (.seq (.cond (.t 14)
    .skip
    (.exit 0))
  (.seq (.block 1
    (.seq (.reg [
    ⟨none, some 15, .mv (.t 13)⟩,
    ⟨none, some 5, .mv (.t 15)⟩])
    (.seq (.regd [0, 0, 3, 7, 0, 0, 48, 112, 255] [
    ⟨none, some 16, .mv (.t 0)⟩,
    ⟨none, some 17, .mv (.t 5)⟩,
    ⟨none, some 18, .iaddrS 1 (.t 16) (.t 17)⟩,
    ⟨none, some 19, .load false 1 (.t 18)⟩,
    ⟨none, some 20, .mv (.t 1)⟩,
    ⟨none, some 21, .mv (.t 5)⟩,
    ⟨none, some 22, .iaddrS 1 (.t 20) (.t 21)⟩,
    ⟨none, some 23, .load false 1 (.t 22)⟩,
    ⟨none, some 24, .binI .neq (.t 19) (.t 23)⟩])
    (.cond (.t 24)
      (.seq (.reg [
      ⟨none, some 4, .mv (.k (.bool false))⟩])
      .ret)
      .skip))))
  (.reg [
  ⟨none, some 25, .binI .add (.t 13) (.k (.int .i64 1))⟩,
  ⟨none, some 13, .mv (.t 25)⟩]))))
abbrev F.slices_Equal_int_int : FuncId := 35
def mc_slices_Equal_int_int : MC :=
  (.seq (.reg [
  ⟨none, some 4, .mv (.k (.bool false))⟩])
  (.seq (.seq (.reg [
  ⟨none, some 6, .mv (.t 0)⟩,
  ⟨none, some 7, .len (.t 6)⟩,
  ⟨none, some 8, .mv (.t 1)⟩,
  ⟨none, some 9, .len (.t 8)⟩,
  ⟨none, some 10, .binI .neq (.t 7) (.t 9)⟩])
  (.cond (.t 10)
    (.seq (.reg [
    ⟨none, some 4, .mv (.k (.bool false))⟩])
    .ret)
    .skip))
  (.seq (.seq (.reg [
  ⟨none, some 11, .mv (.t 0)⟩,
  ⟨none, some 12, .len (.t 11)⟩,
  ⟨none, some 13, .mv (.k (.int .i64 0))⟩])
  (.block 0 (.loop lp_slices_Equal_int_int_0)))
  (.seq (.reg [
  ⟨none, some 4, .mv (.k (.bool true))⟩])
  .ret))))
theorem w_slices_Equal_int_int {args : List DV} {v : DV} (hn : args.length ≤ 26) (h : DV.okL args → ∀ c : Ctx, c.N = 26 → c.pure → w_ Pg c mc_slices_Equal_int_int (endQ [.tmp 4] v) ⟨⟩ ⟨argT 0 args, fun _ => .non, 0⟩) : PCall Pg F.slices_Equal_int_int args v :=
  PCall.of_walk Tryz.func35 rfl (by kernel_rfl) (by kernel_rfl) (by kernel_rfl) hn fun o c e p => W.aw Pg_mixed (w_start (h o c e p))
def lv_slices_Equal_string_string_0 : List Nat := [0, 1, 12, 13]
def lp_slices_Equal_string_string_0 : MC :=
  (.seq (.reg [
  ⟨none, some 14, .binI .lss (.t 13) (.t 12)⟩])
  (.seq (.cond (.t 14)
    .skip
    (.exit 0))
  (.seq (.block 1
    (.seq (.reg [
    ⟨none, some 15, .mv (.t 13)⟩,
    ⟨none, some 5, .mv (.t 15)⟩])
    (.seq (.regd [0, 0, 3, 7, 0, 0, 48, 112, 255] [
    ⟨none, some 16, .mv (.t 0)⟩,
    ⟨none, some 17, .mv (.t 5)⟩,
    ⟨none, some 18, .iaddrS 1 (.t 16) (.t 17)⟩,
    ⟨none, some 19, .load false 1 (.t 18)⟩,
    ⟨none, some 20, .mv (.t 1)⟩,
    ⟨none, some 21, .mv (.t 5)⟩,
    ⟨none, some 22, .iaddrS 1 (.t 20) (.t 21)⟩,
    ⟨none, some 23, .load false 1 (.t 22)⟩,
    ⟨none, some 24, .binS .neq (.t 19) (.t 23)⟩])
    (.cond (.t 24)
      (.seq (.reg [
      ⟨none, some 4, .mv (.k (.bool false))⟩])
      .ret)
      .skip))))
  (.reg [
  ⟨none, some 25, .binI .add (.t 13) (.k (.int .i64 1))⟩,
  ⟨none, some 13, .mv (.t 25)⟩]))))
abbrev F.slices_Equal_string_string : FuncId := 37
def mc_slices_Equal_string_string : MC :=
  (.seq (.reg [
  ⟨none, some 4, .mv (.k (.bool false))⟩])
  (.seq (.seq (.reg [
  ⟨none, some 6, .mv (.t 0)⟩,
  ⟨none, some 7, .len (.t 6)⟩,
  ⟨none, some 8, .mv (.t 1)⟩,
  ⟨none, some 9, .len (.t 8)⟩,
  ⟨none, some 10, .binI .neq (.t 7) (.t 9)⟩])
  (.cond (.t 10)
    (.seq (.reg [
    ⟨none, some 4, .mv (.k (.bool false))⟩])
    .ret)
    .skip))
  (.seq (.seq (.reg [
  ⟨none, some 11, .mv (.t 0)⟩,
  ⟨none, some 12, .len (.t 11)⟩,
  ⟨none, some 13, .mv (.k (.int .i64 0))⟩])
  (.block 0 (.loop lp_slices_Equal_string_string_0)))
  (.seq (.reg [
  ⟨none, some 4, .mv (.k (.bool true))⟩])
  .ret))))
theorem w_slices_Equal_string_string {args : List DV} {v : DV} (hn : args.length ≤ 26) (h : DV.okL args → ∀ c : Ctx, c.N = 26 → c.pure → w_ Pg c mc_slices_Equal_string_string (endQ [.tmp 4] v) ⟨⟩ ⟨argT 0 args, fun _ => .non, 0⟩) : PCall Pg F.slices_Equal_string_string args v :=
  PCall.of_walk Tryz.func37 rfl (by kernel_rfl) (by kernel_rfl) (by kernel_rfl) hn fun o c e p => W.aw Pg_mixed (w_start (h o c e p))
def lv_slices_Equal_api_Need_api_Need_0 : List Nat := [0, 1, 12, 13]
def lp_slices_Equal_api_Need_api_Need_0 : MC :=
  (.seq (.reg [
  ⟨none, some 14, .binI .lss (.t 13) (.t 12)⟩])
  (.seq (.cond (.t 14)
    .skip
    (.exit 0))
  (.seq (.block 1
    (.seq (.reg [
    ⟨none, some 15, .mv (.t 13)⟩,
    ⟨none, some 5, .mv (.t 15)⟩])
    (.seq (.regd [0, 0, 3, 7, 0, 0, 48, 112, 255] [
    ⟨none, some 16, .mv (.t 0)⟩,
    ⟨none, some 17, .mv (.t 5)⟩,
    ⟨none, some 18, .iaddrS 2 (.t 16) (.t 17)⟩,
    ⟨none, some 19, .load true 2 (.t 18)⟩,
    ⟨none, some 20, .mv (.t 1)⟩,
    ⟨none, some 21, .mv (.t 5)⟩,
    ⟨none, some 22, .iaddrS 2 (.t 20) (.t 21)⟩,
    ⟨none, some 23, .load true 2 (.t 22)⟩,
    ⟨none, some 24, .eqAg true [1, 0] (.t 19) (.t 23)⟩])
    (.cond (.t 24)
      (.seq (.reg [
      ⟨none, some 4, .mv (.k (.bool false))⟩])
      .ret)
      .skip))))
  (.reg [
  ⟨none, some 25, .binI .add (.t 13) (.k (.int .i64 1))⟩,
  ⟨none, some 13, .mv (.t 25)⟩]))))
abbrev F.slices_Equal_api_Need_api_Need : FuncId := 36
def mc_slices_Equal_api_Need_api_Need : MC :=
  (.seq (.reg [
  ⟨none, some 4, .mv (.k (.bool false))⟩])
  (.seq (.seq (.reg [
  ⟨none, some 6, .mv (.t 0)⟩,
  ⟨none, some 7, .len (.t 6)⟩,
  ⟨none, some 8, .mv (.t 1)⟩,
  ⟨none, some 9, .len (.t 8)⟩,
  ⟨none, some 10, .binI .neq (.t 7) (.t 9)⟩])
  (.cond (.t 10)
    (.seq (.reg [
    ⟨none, some 4, .mv (.k (.bool false))⟩])
    .ret)
    .skip))
  (.seq (.seq (.reg [
  ⟨none, some 11, .mv (.t 0)⟩,
  ⟨none, some 12, .len (.t 11)⟩,
  ⟨none, some 13, .mv (.k (.int .i64 0))⟩])
  (.block 0 (.loop lp_slices_Equal_api_Need_api_Need_0)))
  (.seq (.reg [
  ⟨none, some 4, .mv (.k (.bool true))⟩])
  .ret))))
theorem w_slices_Equal_api_Need_api_Need {args : List DV} {v : DV} (hn : args.length ≤ 26) (h : DV.okL args → ∀ c : Ctx, c.N = 26 → c.pure → w_ Pg c mc_slices_Equal_api_Need_api_Need (endQ [.tmp 4] v) ⟨⟩ ⟨argT 0 args, fun _ => .non, 0⟩) : PCall Pg F.slices_Equal_api_Need_api_Need args v :=
  PCall.of_walk Tryz.func36 rfl (by kernel_rfl) (by kernel_rfl) (by kernel_rfl) hn fun o c e p => W.aw Pg_mixed (w_start (h o c e p))
def lv_slices_EqualFunc_api_Co_api_Co_api_Co_api_Co_0 : List Nat := [1, 2, 15, 16, 17]
def lp_slices_EqualFunc_api_Co_api_Co_api_Co_api_Co_0 : MC :=
  (.seq (.reg [
  ⟨none, some 18, .binI .lss (.t 17) (.t 16)⟩])
  (.seq (.cond (.t 18)
    .skip
    (.exit 0))
  (.seq (.block 1
    (.seq (.reg [
    ⟨none, some 19, .mv (.t 17)⟩,
    ⟨none, some 20, .iaddrS 5 (.t 15) (.t 17)⟩,
    ⟨none, some 21, .load true 5 (.t 20)⟩,
    ⟨none, some 8, .alloc [.sl true 1 [], .sl true 2 [], .sl true 1 [], .sl true 5 [], .sl true 5 []]⟩,
    ⟨none, some 7, .mv (.t 19)⟩,
    ⟨none, none, .store 5 (.t 8) (.t 21)⟩])
    (.seq (.reg [
    ⟨none, some 22, .mv (.t 1)⟩,
    ⟨none, some 23, .mv (.t 7)⟩,
    ⟨none, some 24, .iaddrS 5 (.t 22) (.t 23)⟩,
    ⟨none, some 25, .load true 5 (.t 24)⟩,
    ⟨none, some 9, .alloc [.sl true 1 [], .sl true 2 [], .sl true 1 [], .sl true 5 [], .sl true 5 []]⟩,
    ⟨none, none, .store 5 (.t 9) (.t 25)⟩])
    (.seq (.reg [
    ⟨none, some 26, .mv (.t 2)⟩,
    ⟨none, some 27, .load true 5 (.t 8)⟩,
    ⟨none, some 28, .load true 5 (.t 9)⟩,
    ⟨none, some 29, .calld (.t 26) [(.t 27), (.t 28)]⟩,
    ⟨none, some 30, .not (.t 29)⟩])
    (.cond (.t 30)
      (.seq (.reg [
      ⟨none, some 6, .mv (.k (.bool false))⟩])
      .ret)
      .skip)))))
  (.reg [
  ⟨none, some 31, .binI .add (.t 17) (.k (.int .i64 1))⟩,
  ⟨none, some 17, .mv (.t 31)⟩]))))
abbrev F.slices_EqualFunc_api_Co_api_Co_api_Co_api_Co : FuncId := 38
def mc_slices_EqualFunc_api_Co_api_Co_api_Co_api_Co : MC :=
  (.seq (.reg [
  ⟨none, some 6, .mv (.k (.bool false))⟩])
  (.seq (.seq (.reg [
  ⟨none, some 10, .mv (.t 0)⟩,
  ⟨none, some 11, .len (.t 10)⟩,
  ⟨none, some 12, .mv (.t 1)⟩,
  ⟨none, some 13, .len (.t 12)⟩,
  ⟨none, some 14, .binI .neq (.t 11) (.t 13)⟩])
  (.cond (.t 14)
    (.seq (.reg [
    ⟨none, some 6, .mv (.k (.bool false))⟩])
    .ret)
    .skip))
  (.seq (.seq (.reg [
  ⟨none, some 15, .mv (.t 0)⟩,
  ⟨none, some 16, .len (.t 15)⟩,
  ⟨none, some 17, .mv (.k (.int .i64 0))⟩])
  (.block 0 (.loop lp_slices_EqualFunc_api_Co_api_Co_api_Co_api_Co_0)))
  (.seq (.reg [
  ⟨none, some 6, .mv (.k (.bool true))⟩])
  .ret))))
theorem w_slices_EqualFunc_api_Co_api_Co_api_Co_api_Co {args : List DV} {v : DV} (hn : args.length ≤ 32) (h : DV.okL args → ∀ c : Ctx, c.N = 32 → c.pure → w_ Pg c mc_slices_EqualFunc_api_Co_api_Co_api_Co_api_Co (endQ [.tmp 6] v) ⟨⟩ ⟨argT 0 args, fun _ => .non, 0⟩) : PCall Pg F.slices_EqualFunc_api_Co_api_Co_api_Co_api_Co args v :=
  PCall.of_walk Tryz.func38 rfl (by kernel_rfl) (by kernel_rfl) (by kernel_rfl) hn fun o c e p => W.aw Pg_mixed (w_start (h o c e p))
abbrev F.strings_Compare : FuncId := 31
def mc_strings_Compare : MC :=
  (.seq (.reg [
  ⟨none, some 4, .mv (.k (.int .i64 0))⟩])
  (.seq (.reg [
  ⟨none, some 5, .mv (.t 0)⟩,
  ⟨none, some 6, .mv (.t 1)⟩,
  ⟨none, some 7, .call 51 [(.t 5), (.t 6)]⟩,
  ⟨none, some 4, .mv (.t 7)⟩])
  .ret))
theorem w_strings_Compare {args : List DV} {v : DV} (hn : args.length ≤ 8) (h : DV.okL args → ∀ c : Ctx, c.N = 8 → c.pure → w_ Pg c mc_strings_Compare (endQ [.tmp 4] v) ⟨⟩ ⟨argT 0 args, fun _ => .non, 0⟩) : PCall Pg F.strings_Compare args v :=
  PCall.of_walk Tryz.func31 rfl (by kernel_rfl) (by kernel_rfl) (by kernel_rfl) hn fun o c e p => W.aw Pg_mixed (w_start (h o c e p))
abbrev F.internal_bytealg_CompareString : FuncId := 51
def mc_internal_bytealg_CompareString : MC :=
  (.seq (.reg [
  ⟨none, some 4, .mv (.k (.int .i64 0))⟩])
  (.seq (.reg [
  ⟨none, some 5, .mv (.t 0)⟩,
  ⟨none, some 6, .mv (.t 1)⟩,
  ⟨none, some 7, .cmpS 75 (.t 5) (.t 6)⟩,
  ⟨none, some 4, .mv (.t 7)⟩])
  .ret))
theorem w_internal_bytealg_CompareString {args : List DV} {v : DV} (hn : args.length ≤ 8) (h : DV.okL args → ∀ c : Ctx, c.N = 8 → c.pure → w_ Pg c mc_internal_bytealg_CompareString (endQ [.tmp 4] v) ⟨⟩ ⟨argT 0 args, fun _ => .non, 0⟩) : PCall Pg F.internal_bytealg_CompareString args v :=
  PCall.of_walk Tryz.func51 rfl (by kernel_rfl) (by kernel_rfl) (by kernel_rfl) hn fun o c e p => W.aw Pg_mixed (w_start (h o c e p))
abbrev F.coerce_pair : FuncId := 56
def mc_coerce_pair : MC :=
  (.seq (.reg [
  ⟨none, some 1, .boxP (.t 0)⟩,
  ⟨none, some 2, .alloc [.sl true 1 [], .sl true 2 [], .sl true 1 [], .sl true 5 [], .sl true 5 []]⟩,
  ⟨none, some 3, .alloc [.sl true 1 [], .sl true 2 [], .sl true 1 [], .sl true 5 [], .sl true 5 []]⟩])
  (.seq (.seq (.reg [
  ⟨none, some 4, .faddr 4 (.t 1)⟩,
  ⟨none, some 5, .load false 1 (.t 4)⟩,
  ⟨none, some 6, .len (.t 5)⟩,
  ⟨none, some 7, .binI .eql (.t 6) (.k (.int .i64 0))⟩])
  (.cond (.t 7)
    (.seq (.reg [
    ⟨none, some 8, .call 19 []⟩,
    ⟨none, some 9, .call 19 []⟩,
    ⟨none, none, .store 5 (.t 2) (.t 8)⟩,
    ⟨none, none, .store 5 (.t 3) (.t 9)⟩])
    .ret)
    .skip))
  (.seq (.regd [0, 1, 3, 7, 0, 16, 48, 112, 15, 511] [
  ⟨none, some 10, .faddr 4 (.t 1)⟩,
  ⟨none, some 11, .load false 1 (.t 10)⟩,
  ⟨none, some 12, .iaddrS 5 (.t 11) (.k (.int .i64 0))⟩,
  ⟨none, some 13, .load true 5 (.t 12)⟩,
  ⟨none, some 14, .faddr 4 (.t 1)⟩,
  ⟨none, some 15, .load false 1 (.t 14)⟩,
  ⟨none, some 16, .iaddrS 5 (.t 15) (.k (.int .i64 1))⟩,
  ⟨none, some 17, .load true 5 (.t 16)⟩,
  ⟨none, none, .store 5 (.t 2) (.t 13)⟩,
  ⟨none, none, .store 5 (.t 3) (.t 17)⟩])
  .ret)))
theorem w_coerce_pair {args : List DV} {v : DV} (hn : args.length ≤ 18) (h : DV.okL args → ∀ c : Ctx, c.N = 18 → c.pure → w_ Pg c mc_coerce_pair (endQ [.cell 2 true 5, .cell 3 true 5] v) ⟨⟩ ⟨argT 0 args, fun _ => .non, 0⟩) : PCall Pg F.coerce_pair args v :=
  PCall.of_walk Tryz.func56 rfl (by kernel_rfl) (by kernel_rfl) (by kernel_rfl) hn fun o c e p => W.aw Pg_mixed (w_start (h o c e p))
abbrev F.coerce_fun : FuncId := 57
def mc_coerce_fun : MC :=
  (.seq (.reg [
  ⟨none, some 4, .boxP (.t 1)⟩,
  ⟨none, some 5, .boxP (.t 2)⟩])
  (.seq (.reg [
  ⟨none, some 6, .load true 5 (.t 4)⟩,
  ⟨none, some 7, .call 32 [(.t 6)]⟩,
  ⟨none, some 8, .not (.t 7)⟩,
  ⟨none, some 9, .mv (.t 8)⟩,
  ⟨(some (9, false)), some 10, .load true 5 (.t 5)⟩,
  ⟨(some (9, false)), some 11, .call 32 [(.t 10)]⟩,
  ⟨(some (9, false)), some 12, .not (.t 11)⟩,
  ⟨none, some 13, .pick (.t 9) (.k (.bool true)) (.t 12)⟩])
  (.cond (.t 13)
    (.reg [
    ⟨none, some 14, .mv (.t 0)⟩,
    ⟨none, some 15, .load true 5 (.t 4)⟩,
    ⟨none, some 16, .load true 5 (.t 5)⟩,
    ⟨none, some 17, .buildSl 5 [(.t 15), (.t 16)]⟩,
    ⟨none, some 18, .nilck (.t 14)⟩,
    ⟨none, some 19, .faddr 4 (.t 18)⟩,
    ⟨none, none, .store 1 (.t 19) (.t 17)⟩])
    .skip)))
theorem w_coerce_fun {args : List DV} {v : DV} (hn : args.length ≤ 20) (h : DV.okL args → ∀ c : Ctx, c.N = 20 → c.pure → w_ Pg c mc_coerce_fun (endQ [] v) ⟨⟩ ⟨argT 0 args, fun _ => .non, 0⟩) : PCall Pg F.coerce_fun args v :=
  PCall.of_walk Tryz.func57 rfl (by kernel_rfl) (by kernel_rfl) (by kernel_rfl) hn fun o c e p => W.aw Pg_mixed (w_start (h o c e p))
theorem wm_coerce_fun {args : List AV} {bs : List Blk} {v : AV} {bs' : List Blk} (hs : MStat args 20 bs v bs') (h : ∀ ts : List (Nat × Nat), ts.length = bs.length → AV.okL args → (∀ b, b ∈ bs → b.ok) → ∀ c : Ctx, c.N = 20 → c.pure → w_ Pg c mc_coerce_fun (endM [] v bs' ts) ⟨⟩ ⟨argA 0 args, hpOf (bs ++ pinsL 0 ts), bs.length + ts.length⟩) : MCall Pg F.coerce_fun args bs v bs' :=
  MCall.of_walk' Tryz.func57 rfl (by kernel_rfl) (by kernel_rfl) (by kernel_rfl) Pg_mixed hs h
def lv_coerce_needs_0 : List Nat := [0, 5, 10, 11, 12]
def lp_coerce_needs_0 : MC :=
  (.seq (.reg [
  ⟨none, some 13, .binI .lss (.t 12) (.t 11)⟩])
  (.seq (.cond (.t 13)
    .skip
    (.exit 0))
  (.seq (.block 1
    (.seq (.reg [
    ⟨none, some 14, .iaddrS 2 (.t 10) (.t 12)⟩,
    ⟨none, some 15, .load true 2 (.t 14)⟩,
    ⟨none, some 7, .alloc [.str (bs []), .int .i64 0]⟩,
    ⟨none, none, .store 2 (.t 7) (.t 15)⟩])
    (.seq (.reg [
    ⟨none, some 16, .mv (.t 0)⟩,
    ⟨none, some 17, .mkfn 77 [(.t 7)]⟩,
    ⟨none, some 18, .callM 76 [(.t 16), (.t 17)]⟩,
    ⟨none, some 19, .not (.t 18)⟩])
    (.cond (.t 19)
      (.reg [
      ⟨none, some 20, .mv (.t 5)⟩,
      ⟨none, some 21, .load true 2 (.t 7)⟩,
      ⟨none, some 22, .buildSl 2 [(.t 21)]⟩,
      ⟨none, some 23, .append 2 24 (.t 20) (.t 22)⟩,
      ⟨none, some 5, .mv (.t 23)⟩])
      .skip))))
  (.reg [
  ⟨none, some 24, .binI .add (.t 12) (.k (.int .i64 1))⟩,
  ⟨none, some 12, .mv (.t 24)⟩]))))
abbrev F.coerce_needs : FuncId := 54
def mc_coerce_needs : MC :=
  (.seq (.reg [
  ⟨none, some 4, .mv (.k (.sl true 2 []))⟩])
  (.seq (.reg [
  ⟨none, some 8, .mv (.t 0)⟩,
  ⟨none, some 9, .callM 53 [(.t 8)]⟩,
  ⟨none, some 5, .mv (.t 9)⟩])
  (.seq (.seq (.reg [
  ⟨none, some 10, .mv (.t 1)⟩,
  ⟨none, some 11, .len (.t 10)⟩,
  ⟨none, some 12, .mv (.k (.int .i64 0))⟩])
  (.block 0 (.loop lp_coerce_needs_0)))
  (.seq (.reg [
  ⟨none, some 25, .mv (.t 5)⟩,
  ⟨none, some 4, .mv (.t 25)⟩])
  .ret))))
theorem w_coerce_needs {args : List DV} {v : DV} (hn : args.length ≤ 26) (h : DV.okL args → ∀ c : Ctx, c.N = 26 → c.pure → w_ Pg c mc_coerce_needs (endQ [.tmp 4] v) ⟨⟩ ⟨argT 0 args, fun _ => .non, 0⟩) : PCall Pg F.coerce_needs args v :=
  PCall.of_walk Tryz.func54 rfl (by kernel_rfl) (by kernel_rfl) (by kernel_rfl) hn fun o c e p => W.aw Pg_mixed (w_start (h o c e p))
abbrev F.coerce_needs_1 : FuncId := 77
def mc_coerce_needs_1 : MC :=
  (.seq (.reg [
  ⟨none, some 2, .boxP (.t 0)⟩,
  ⟨none, some 3, .mv (.k (.bool false))⟩])
  (.seq (.reg [
  ⟨none, some 4, .faddr 0 (.t 2)⟩,
  ⟨none, some 5, .load false 1 (.t 4)⟩,
  ⟨none, some 6, .faddr 0 (.t 1)⟩,
  ⟨none, some 7, .load false 1 (.t 6)⟩,
  ⟨none, some 8, .binS .eql (.t 5) (.t 7)⟩,
  ⟨none, some 3, .mv (.t 8)⟩])
  .ret))
theorem w_coerce_needs_1 {args : List DV} {v : DV} (hn : args.length ≤ 9) (h : DV.okL args → ∀ c : Ctx, c.N = 9 → c.pure → w_ Pg c mc_coerce_needs_1 (endQ [.tmp 3] v) ⟨⟩ ⟨argT 0 args, fun _ => .non, 0⟩) : PCall Pg F.coerce_needs_1 args v :=
  PCall.of_walk Tryz.func77 rfl (by kernel_rfl) (by kernel_rfl) (by kernel_rfl) hn fun o c e p => W.aw Pg_mixed (w_start (h o c e p))
def lv_coerce_fields_0 : List Nat := [0, 1, 9, 10, 11]
def lp_coerce_fields_0 : MC :=
  (.seq (.reg [
  ⟨none, some 12, .binI .lss (.t 11) (.t 10)⟩])
  (.seq (.cond (.t 12)
    .skip
    (.exit 0))
  (.seq (.block 1
    (.seq (.reg [
    ⟨none, some 13, .iaddrS 1 (.t 9) (.t 11)⟩,
    ⟨none, some 14, .load false 1 (.t 13)⟩,
    ⟨none, some 5, .mv (.t 14)⟩])
    (.seq (.reg [
    ⟨none, some 15, .mv (.t 1)⟩,
    ⟨none, some 16, .mv (.t 5)⟩,
    ⟨none, some 17, .mlook 1 false true [.sl true 1 [], .sl true 2 [], .sl true 1 [], .sl true 5 [], .sl true 5 []] (.t 15) (.t 16)⟩,
    ⟨none, some 6, .alloc [.sl true 1 [], .sl true 2 [], .sl true 1 [], .sl true 5 [], .sl true 5 []]⟩,
    ⟨none, none, .store 5 (.t 6) (.t 17)⟩])
    (.seq (.reg [
    ⟨none, some 18, .load true 5 (.t 6)⟩,
    ⟨none, some 19, .call 32 [(.t 18)]⟩,
    ⟨none, some 20, .not (.t 19)⟩])
    (.cond (.t 20)
      (.regd [0, 0, 0, 4, 12, 28, 0, 64, 252, 0, 512, 1536, 3584, 0, 8192, 32764, 65533, 131069, 262141, 524287, 1048575, 2097151] [
      ⟨none, some 21, .mv (.t 0)⟩,
      ⟨none, some 22, .mv (.t 0)⟩,
      ⟨none, some 23, .mv (.t 0)⟩,
      ⟨none, some 24, .nilck (.t 23)⟩,
      ⟨none, some 25, .faddr 2 (.t 24)⟩,
      ⟨none, some 26, .load false 1 (.t 25)⟩,
      ⟨none, some 27, .mv (.t 5)⟩,
      ⟨none, some 28, .buildSl 1 [(.t 27)]⟩,
      ⟨none, some 29, .append 1 16 (.t 26) (.t 28)⟩,
      ⟨none, some 30, .mv (.t 0)⟩,
      ⟨none, some 31, .nilck (.t 30)⟩,
      ⟨none, some 32, .faddr 3 (.t 31)⟩,
      ⟨none, some 33, .load false 1 (.t 32)⟩,
      ⟨none, some 34, .load true 5 (.t 6)⟩,
      ⟨none, some 35, .buildSl 5 [(.t 34)]⟩,
      ⟨none, some 36, .append 5 120 (.t 33) (.t 35)⟩,
      ⟨none, some 37, .nilck (.t 21)⟩,
      ⟨none, some 38, .faddr 2 (.t 37)⟩,
      ⟨none, none, .store 1 (.t 38) (.t 29)⟩,
      ⟨none, some 39, .nilck (.t 22)⟩,
      ⟨none, some 40, .faddr 3 (.t 39)⟩,
      ⟨none, none, .store 1 (.t 40) (.t 36)⟩])
      .skip)))))
  (.reg [
  ⟨none, some 41, .binI .add (.t 11) (.k (.int .i64 1))⟩,
  ⟨none, some 11, .mv (.t 41)⟩]))))
abbrev F.coerce_fields : FuncId := 55
def mc_coerce_fields : MC :=
  (.seq (.owq (.reg [
  ⟨none, some 7, .mv (.t 1)⟩,
  ⟨none, some 8, .callM 79 [(.t 7)]⟩,
  ⟨none, some 9, .callM 78 [(.t 8)]⟩,
  ⟨none, some 10, .len (.t 9)⟩,
  ⟨none, some 11, .mv (.k (.int .i64 0))⟩]))
  (.block 0 (.loop lp_coerce_fields_0)))
theorem w_coerce_fields {args : List DV} {v : DV} (hn : args.length ≤ 42) (h : DV.okL args → ∀ c : Ctx, c.N = 42 → c.pure → w_ Pg c mc_coerce_fields (endQ [] v) ⟨⟩ ⟨argT 0 args, fun _ => .non, 0⟩) : PCall Pg F.coerce_fields args v :=
  PCall.of_walk Tryz.func55 rfl (by kernel_rfl) (by kernel_rfl) (by kernel_rfl) hn fun o c e p => W.aw Pg_mixed (w_start (h o c e p))
theorem wm_coerce_fields {args : List AV} {bs : List Blk} {v : AV} {bs' : List Blk} (hs : MStat args 42 bs v bs') (h : ∀ ts : List (Nat × Nat), ts.length = bs.length → AV.okL args → (∀ b, b ∈ bs → b.ok) → ∀ c : Ctx, c.N = 42 → c.pure → w_ Pg c mc_coerce_fields (endM [] v bs' ts) ⟨⟩ ⟨argA 0 args, hpOf (bs ++ pinsL 0 ts), bs.length + ts.length⟩) : MCall Pg F.coerce_fields args bs v bs' :=
  MCall.of_walk' Tryz.func55 rfl (by kernel_rfl) (by kernel_rfl) (by kernel_rfl) Pg_mixed hs h
abbrev F.slices_ContainsFunc_api_Need_api_Need : FuncId := 76
def mc_slices_ContainsFunc_api_Need_api_Need : MC :=
  (.seq (.reg [
  ⟨none, some 4, .mv (.k (.bool false))⟩])
  (.seq (.reg [
  ⟨none, some 5, .mv (.t 0)⟩,
  ⟨none, some 6, .mv (.t 1)⟩,
  ⟨none, some 7, .call 90 [(.t 5), (.t 6)]⟩,
  ⟨none, some 8, .binI .geq (.t 7) (.k (.int .i64 0))⟩,
  ⟨none, some 4, .mv (.t 8)⟩])
  .ret))
theorem w_slices_ContainsFunc_api_Need_api_Need {args : List DV} {v : DV} (hn : args.length ≤ 9) (h : DV.okL args → ∀ c : Ctx, c.N = 9 → c.pure → w_ Pg c mc_slices_ContainsFunc_api_Need_api_Need (endQ [.tmp 4] v) ⟨⟩ ⟨argT 0 args, fun _ => .non, 0⟩) : PCall Pg F.slices_ContainsFunc_api_Need_api_Need args v :=
  PCall.of_walk Tryz.func76 rfl (by kernel_rfl) (by kernel_rfl) (by kernel_rfl) hn fun o c e p => W.aw Pg_mixed (w_start (h o c e p))
def lv_slices_IndexFunc_api_Need_api_Need_0 : List Nat := [0, 1, 7, 8]
def lp_slices_IndexFunc_api_Need_api_Need_0 : MC :=
  (.seq (.reg [
  ⟨none, some 9, .binI .lss (.t 8) (.t 7)⟩])
  (.seq (.cond (.t 9)
    .skip
    (.exit 0))
  (.seq (.block 1
    (.seq (.reg [
    ⟨none, some 10, .mv (.t 8)⟩,
    ⟨none, some 5, .mv (.t 10)⟩])
    (.seq (.reg [
    ⟨none, some 11, .mv (.t 1)⟩,
    ⟨none, some 12, .mv (.t 0)⟩,
    ⟨none, some 13, .mv (.t 5)⟩,
    ⟨none, some 14, .iaddrS 2 (.t 12) (.t 13)⟩,
    ⟨none, some 15, .load true 2 (.t 14)⟩,
    ⟨none, some 16, .calld (.t 11) [(.t 15)]⟩])
    (.cond (.t 16)
      (.seq (.reg [
      ⟨none, some 17, .mv (.t 5)⟩,
      ⟨none, some 4, .mv (.t 17)⟩])
      .ret)
      .skip))))
  (.reg [
  ⟨none, some 18, .binI .add (.t 8) (.k (.int .i64 1))⟩,
  ⟨none, some 8, .mv (.t 18)⟩]))))
abbrev F.slices_IndexFunc_api_Need_api_Need : FuncId := 90
def mc_slices_IndexFunc_api_Need_api_Need : MC :=
  (.seq (.reg [
  ⟨none, some 4, .mv (.k (.int .i64 0))⟩])
  (.seq (.seq (.reg [
  ⟨none, some 6, .mv (.t 0)⟩,
  ⟨none, some 7, .len (.t 6)⟩,
  ⟨none, some 8, .mv (.k (.int .i64 0))⟩])
  (.block 0 (.loop lp_slices_IndexFunc_api_Need_api_Need_0)))
  (.seq (.reg [
  ⟨none, some 4, .mv (.k (.int .i64 (-1)))⟩])
  .ret)))
theorem w_slices_IndexFunc_api_Need_api_Need {args : List DV} {v : DV} (hn : args.length ≤ 19) (h : DV.okL args → ∀ c : Ctx, c.N = 19 → c.pure → w_ Pg c mc_slices_IndexFunc_api_Need_api_Need (endQ [.tmp 4] v) ⟨⟩ ⟨argT 0 args, fun _ => .non, 0⟩) : PCall Pg F.slices_IndexFunc_api_Need_api_Need args v :=
  PCall.of_walk Tryz.func90 rfl (by kernel_rfl) (by kernel_rfl) (by kernel_rfl) hn fun o c e p => W.aw Pg_mixed (w_start (h o c e p))
abbrev F.gradusref10_Compose : FuncId := 18
def mc_gradusref10_Compose : MC :=
  (.seq (.reg [
  ⟨none, some 2, .boxP (.t 0)⟩,
  ⟨none, some 3, .boxP (.t 1)⟩,
  ⟨none, some 4, .alloc [.sl true 1 [], .sl true 2 [], .sl true 1 [], .sl true 5 [], .sl true 5 []]⟩])
  (.seq (.reg [
  ⟨none, some 7, .load true 5 (.t 2)⟩,
  ⟨none, some 8, .call 14 [(.t 7)]⟩,
  ⟨none, some 5, .mv (.t 8)⟩])
  (.seq (.reg [
  ⟨none, some 9, .load true 5 (.t 3)⟩,
  ⟨none, some 10, .call 14 [(.t 9)]⟩,
  ⟨none, some 6, .mv (.t 10)⟩])
  (.seq (.seq (.reg [
  ⟨none, some 11, .mv (.t 5)⟩,
  ⟨none, some 12, .not (.t 11)⟩,
  ⟨none, some 13, .mv (.t 12)⟩,
  ⟨(some (13, false)), some 14, .mv (.t 6)⟩,
  ⟨(some (13, false)), some 15, .not (.t 14)⟩,
  ⟨none, some 16, .pick (.t 13) (.k (.bool true)) (.t 15)⟩])
  (.cond (.t 16)
    (.seq (.reg [
    ⟨none, some 17, .build [.sl true 1 [], .sl true 2 [], .sl true 1 [], .sl true 5 [], .sl true 5 []] []⟩,
    ⟨none, none, .store 5 (.t 4) (.t 17)⟩])
    .ret)
    .skip))
  (.seq (.reg [
  ⟨none, some 18, .load true 5 (.t 2)⟩,
  ⟨none, some 19, .load true 5 (.t 3)⟩,
  ⟨none, some 20, .call 40 [(.t 18), (.t 19)]⟩,
  ⟨none, none, .store 5 (.t 4) (.t 20)⟩])
  .ret)))))
theorem w_gradusref10_Compose {args : List DV} {v : DV} (hn : args.length ≤ 21) (h : DV.okL args → ∀ c : Ctx, c.N = 21 → c.pure → w_ Pg c mc_gradusref10_Compose (endQ [.cell 4 true 5] v) ⟨⟩ ⟨argT 0 args, fun _ => .non, 0⟩) : PCall Pg F.gradusref10_Compose args v :=
  PCall.of_walk Tryz.func18 rfl (by kernel_rfl) (by kernel_rfl) (by kernel_rfl) hn fun o c e p => W.aw Pg_mixed (w_start (h o c e p))
def lv_gradusref10_composed_0 : List Nat := [2, 3, 4, 5, 6]
def lp_gradusref10_composed_0 : MC :=
  (.seq (.seq (.reg [
  ⟨none, some 15, .mv (.t 6)⟩,
  ⟨none, some 16, .binI .lss (.t 15) (.k (.int .i64 6))⟩])
  (.cond (.t 16)
    .skip
    (.exit 0)))
  (.seq (.block 1
    (.seq (.regd [0, 1, 0, 0, 8, 0, 56, 120, 255, 511] [
    ⟨none, some 19, .faddr 0 (.t 5)⟩,
    ⟨none, some 20, .load false 1 (.t 19)⟩,
    ⟨none, some 21, .mv (.t 6)⟩,
    ⟨none, some 22, .faddr 0 (.t 2)⟩,
    ⟨none, some 23, .load false 1 (.t 22)⟩,
    ⟨none, some 24, .mv (.t 6)⟩,
    ⟨none, some 25, .iaddrS 1 (.t 23) (.t 24)⟩,
    ⟨none, some 26, .load false 1 (.t 25)⟩,
    ⟨none, some 27, .iaddrS 1 (.t 20) (.t 21)⟩,
    ⟨none, none, .store 1 (.t 27) (.t 26)⟩])
    (.seq (.reg [
    ⟨none, some 28, .faddr 0 (.t 2)⟩,
    ⟨none, some 29, .load false 1 (.t 28)⟩,
    ⟨none, some 30, .mv (.t 6)⟩,
    ⟨none, some 31, .iaddrS 1 (.t 29) (.t 30)⟩,
    ⟨none, some 32, .load false 1 (.t 31)⟩,
    ⟨none, some 33, .binI .eql (.t 32) (.k (.int .i64 0))⟩])
    (.cond (.t 33)
      (.regd [0, 1, 0, 0, 8, 0, 56, 120, 255, 511] [
      ⟨none, some 34, .faddr 0 (.t 5)⟩,
      ⟨none, some 35, .load false 1 (.t 34)⟩,
      ⟨none, some 36, .mv (.t 6)⟩,
      ⟨none, some 37, .faddr 0 (.t 3)⟩,
      ⟨none, some 38, .load false 1 (.t 37)⟩,
      ⟨none, some 39, .mv (.t 6)⟩,
      ⟨none, some 40, .iaddrS 1 (.t 38) (.t 39)⟩,
      ⟨none, some 41, .load false 1 (.t 40)⟩,
      ⟨none, some 42, .iaddrS 1 (.t 35) (.t 36)⟩,
      ⟨none, none, .store 1 (.t 42) (.t 41)⟩])
      .skip))))
  (.reg [
  ⟨none, some 17, .mv (.t 6)⟩,
  ⟨none, some 18, .binI .add (.t 17) (.k (.int .i64 1))⟩,
  ⟨none, some 6, .mv (.t 18)⟩])))
def lv_gradusref10_composed_4 : List Nat := [2, 3, 4, 5, 7, 8, 9]
def lp_gradusref10_composed_4 : MC :=
  (.seq (.seq (.reg [
  ⟨none, some 63, .mv (.t 9)⟩,
  ⟨none, some 64, .faddr 1 (.t 2)⟩,
  ⟨none, some 65, .load false 1 (.t 64)⟩,
  ⟨none, some 66, .len (.t 65)⟩,
  ⟨none, some 67, .binI .lss (.t 63) (.t 66)⟩])
  (.cond (.t 67)
    .skip
    (.exit 4)))
  (.seq (.block 5
    (.regd [0, 1, 3, 7, 3, 31, 63, 127, 3, 259, 3, 1795, 3843, 7939, 16383, 32767, 65535] [
    ⟨none, some 70, .mv (.t 8)⟩,
    ⟨none, some 71, .mv (.t 70)⟩,
    ⟨(some (71, false)), some 72, .faddr 1 (.t 2)⟩,
    ⟨(some (71, false)), some 73, .load false 1 (.t 72)⟩,
    ⟨(some (71, false)), some 74, .mv (.t 9)⟩,
    ⟨(some (71, false)), some 75, .iaddrS 2 (.t 73) (.t 74)⟩,
    ⟨(some (71, false)), some 76, .faddr 0 (.t 75)⟩,
    ⟨(some (71, false)), some 77, .load false 1 (.t 76)⟩,
    ⟨(some (71, false)), some 78, .faddr 1 (.t 3)⟩,
    ⟨(some (71, false)), some 79, .load false 1 (.t 78)⟩,
    ⟨(some (71, false)), some 80, .mv (.t 7)⟩,
    ⟨(some (71, false)), some 81, .iaddrS 2 (.t 79) (.t 80)⟩,
    ⟨(some (71, false)), some 82, .faddr 0 (.t 81)⟩,
    ⟨(some (71, false)), some 83, .load false 1 (.t 82)⟩,
    ⟨(some (71, false)), some 84, .binS .eql (.t 77) (.t 83)⟩,
    ⟨none, some 85, .pick (.t 71) (.k (.bool true)) (.t 84)⟩,
    ⟨none, some 8, .mv (.t 85)⟩]))
  (.reg [
  ⟨none, some 68, .mv (.t 9)⟩,
  ⟨none, some 69, .binI .add (.t 68) (.k (.int .i64 1))⟩,
  ⟨none, some 9, .mv (.t 69)⟩])))
def lv_gradusref10_composed_2 : List Nat := [2, 3, 4, 5, 7]
def lp_gradusref10_composed_2 : MC :=
  (.seq (.seq (.reg [
  ⟨none, some 49, .mv (.t 7)⟩,
  ⟨none, some 50, .faddr 1 (.t 3)⟩,
  ⟨none, some 51, .load false 1 (.t 50)⟩,
  ⟨none, some 52, .len (.t 51)⟩,
  ⟨none, some 53, .binI .lss (.t 49) (.t 52)⟩,
  ⟨none, some 54, .mv (.t 53)⟩,
  ⟨(some (54, true)), some 55, .faddr 0 (.t 2)⟩,
  ⟨(some (54, true)), some 56, .load false 1 (.t 55)⟩,
  ⟨(some (54, true)), some 57, .iaddrS 1 (.t 56) (.k (.int .i64 4))⟩,
  ⟨(some (54, true)), some 58, .load false 1 (.t 57)⟩,
  ⟨(some (54, true)), some 59, .binI .eql (.t 58) (.k (.int .i64 0))⟩,
  ⟨none, some 60, .pick (.t 54) (.t 59) (.k (.bool false))⟩])
  (.cond (.t 60)
    .skip
    (.exit 2)))
  (.seq (.block 3
    (.seq (.reg [
    ⟨none, some 8, .mv (.k (.bool false))⟩])
    (.seq (.seq (.reg [
    ⟨none, some 9, .mv (.k (.int .i64 0))⟩])
    (.block 4 (.loop lp_gradusref10_composed_4)))
    (.seq (.reg [
    ⟨none, some 86, .mv (.t 8)⟩,
    ⟨none, some 87, .not (.t 86)⟩])
    (.cond (.t 87)
      (.regd [0, 1, 0, 4, 0, 28, 60, 124, 255, 511, 1023] [
      ⟨none, some 88, .faddr 1 (.t 5)⟩,
      ⟨none, some 89, .load false 1 (.t 88)⟩,
      ⟨none, some 90, .faddr 1 (.t 3)⟩,
      ⟨none, some 91, .load false 1 (.t 90)⟩,
      ⟨none, some 92, .mv (.t 7)⟩,
      ⟨none, some 93, .iaddrS 2 (.t 91) (.t 92)⟩,
      ⟨none, some 94, .load true 2 (.t 93)⟩,
      ⟨none, some 95, .buildSl 2 [(.t 94)]⟩,
      ⟨none, some 96, .append 2 24 (.t 89) (.t 95)⟩,
      ⟨none, some 97, .faddr 1 (.t 5)⟩,
      ⟨none, none, .store 1 (.t 97) (.t 96)⟩])
      .skip)))))
  (.reg [
  ⟨none, some 61, .mv (.t 7)⟩,
  ⟨none, some 62, .binI .add (.t 61) (.k (.int .i64 1))⟩,
  ⟨none, some 7, .mv (.t 62)⟩])))
def lv_gradusref10_composed_6 : List Nat := [2, 3, 4, 5, 10, 11]
def lp_gradusref10_composed_6 : MC :=
  (.seq (.seq (.reg [
  ⟨none, some 103, .mv (.t 11)⟩,
  ⟨none, some 104, .mv (.t 10)⟩,
  ⟨none, some 105, .len (.t 104)⟩,
  ⟨none, some 106, .binI .lss (.t 103) (.t 105)⟩,
  ⟨none, some 107, .mv (.t 106)⟩,
  ⟨(some (107, true)), some 108, .faddr 0 (.t 5)⟩,
  ⟨(some (107, true)), some 109, .load false 1 (.t 108)⟩,
  ⟨(some (107, true)), some 110, .iaddrS 1 (.t 109) (.k (.int .i64 4))⟩,
  ⟨(some (107, true)), some 111, .load false 1 (.t 110)⟩,
  ⟨(some (107, true)), some 112, .binI .eql (.t 111) (.k (.int .i64 0))⟩,
  ⟨none, some 113, .pick (.t 107) (.t 112) (.k (.bool false))⟩])
  (.cond (.t 113)
    .skip
    (.exit 6)))
  (.seq (.block 7
    (.regd [0, 0, 0, 6, 14, 0, 0, 0, 192, 448, 992, 0, 0, 0, 12288, 28672, 65504, 131040, 262143, 524287] [
    ⟨none, some 116, .load true 5 (.t 5)⟩,
    ⟨none, some 117, .mv (.t 10)⟩,
    ⟨none, some 118, .mv (.t 11)⟩,
    ⟨none, some 119, .iaddrS 1 (.t 117) (.t 118)⟩,
    ⟨none, some 120, .load false 1 (.t 119)⟩,
    ⟨none, some 121, .load true 5 (.t 2)⟩,
    ⟨none, some 122, .mv (.t 10)⟩,
    ⟨none, some 123, .mv (.t 11)⟩,
    ⟨none, some 124, .iaddrS 1 (.t 122) (.t 123)⟩,
    ⟨none, some 125, .load false 1 (.t 124)⟩,
    ⟨none, some 126, .call 60 [(.t 121), (.t 125)]⟩,
    ⟨none, some 127, .load true 5 (.t 3)⟩,
    ⟨none, some 128, .mv (.t 10)⟩,
    ⟨none, some 129, .mv (.t 11)⟩,
    ⟨none, some 130, .iaddrS 1 (.t 128) (.t 129)⟩,
    ⟨none, some 131, .load false 1 (.t 130)⟩,
    ⟨none, some 132, .call 60 [(.t 127), (.t 131)]⟩,
    ⟨none, some 133, .call 40 [(.t 126), (.t 132)]⟩,
    ⟨none, some 134, .callM 59 [(.t 116), (.t 120), (.t 133)]⟩,
    ⟨none, none, .store 5 (.t 5) (.t 134)⟩]))
  (.owq (.reg [
  ⟨none, some 114, .mv (.t 11)⟩,
  ⟨none, some 115, .binI .add (.t 114) (.k (.int .i64 1))⟩,
  ⟨none, some 11, .mv (.t 115)⟩]))))
abbrev F.gradusref10_composed : FuncId := 40
def mc_gradusref10_composed : MC :=
  (.seq (.reg [
  ⟨none, some 2, .boxP (.t 0)⟩,
  ⟨none, some 3, .boxP (.t 1)⟩,
  ⟨none, some 4, .alloc [.sl true 1 [], .sl true 2 [], .sl true 1 [], .sl true 5 [], .sl true 5 []]⟩])
  (.seq (.reg [
  ⟨none, some 14, .callM 52 []⟩,
  ⟨none, some 5, .alloc [.sl true 1 [], .sl true 2 [], .sl true 1 [], .sl true 5 [], .sl true 5 []]⟩,
  ⟨none, none, .store 5 (.t 5) (.t 14)⟩])
  (.seq (.seq (.reg [
  ⟨none, some 6, .mv (.k (.int .i64 0))⟩])
  (.block 0 (.loop lp_gradusref10_composed_0)))
  (.seq (.owq (.reg [
  ⟨none, some 43, .faddr 1 (.t 5)⟩,
  ⟨none, some 44, .load false 1 (.t 43)⟩,
  ⟨none, some 45, .faddr 1 (.t 2)⟩,
  ⟨none, some 46, .load false 1 (.t 45)⟩,
  ⟨none, some 47, .append 2 24 (.t 44) (.t 46)⟩,
  ⟨none, some 48, .faddr 1 (.t 5)⟩,
  ⟨none, none, .store 1 (.t 48) (.t 47)⟩]))
  (.seq (.seq (.reg [
  ⟨none, some 7, .mv (.k (.int .i64 0))⟩])
  (.block 2 (.loop lp_gradusref10_composed_2)))
  (.seq (.fzq (.reg [
  ⟨none, some 98, .faddr 2 (.t 2)⟩,
  ⟨none, some 99, .load false 1 (.t 98)⟩,
  ⟨none, some 100, .faddr 2 (.t 3)⟩,
  ⟨none, some 101, .load false 1 (.t 100)⟩,
  ⟨none, some 102, .call 58 [(.t 99), (.t 101)]⟩,
  ⟨none, some 10, .mv (.t 102)⟩]))
  (.seq (.seq (.owq (.reg [
  ⟨none, some 11, .mv (.k (.int .i64 0))⟩]))
  (.block 6 (.loop lp_gradusref10_composed_6)))
  (.seq (.seq (.fzq (.reg [
  ⟨none, some 135, .faddr 0 (.t 5)⟩,
  ⟨none, some 136, .load false 1 (.t 135)⟩,
  ⟨none, some 137, .iaddrS 1 (.t 136) (.k (.int .i64 5))⟩,
  ⟨none, some 138, .load false 1 (.t 137)⟩,
  ⟨none, some 139, .binI .neq (.t 138) (.k (.int .i64 0))⟩,
  ⟨none, some 140, .mv (.t 139)⟩,
  ⟨(some (140, false)), some 141, .faddr 4 (.t 2)⟩,
  ⟨(some (140, false)), some 142, .load false 1 (.t 141)⟩,
  ⟨(some (140, false)), some 143, .len (.t 142)⟩,
  ⟨(some (140, false)), some 144, .binI .eql (.t 143) (.k (.int .i64 0))⟩,
  ⟨(some (140, false)), some 145, .mv (.t 144)⟩,
  ⟨(some (145, true)), some 146, .faddr 4 (.t 3)⟩,
  ⟨(some (145, true)), some 147, .load false 1 (.t 146)⟩,
  ⟨(some (145, true)), some 148, .len (.t 147)⟩,
  ⟨(some (145, true)), some 149, .binI .eql (.t 148) (.k (.int .i64 0))⟩,
  ⟨(some (140, false)), some 150, .pick (.t 145) (.t 149) (.k (.bool false))⟩,
  ⟨none, some 151, .pick (.t 140) (.k (.bool true)) (.t 150)⟩]))
  (.cond (.t 151)
    (.seq (.reg [
    ⟨none, some 152, .load true 5 (.t 5)⟩,
    ⟨none, none, .store 5 (.t 4) (.t 152)⟩])
    .ret)
    .skip))
  (.seq (.reg [
  ⟨none, some 153, .call 52 []⟩,
  ⟨none, some 154, .call 52 []⟩,
  ⟨none, some 155, .buildSl 5 [(.t 153), (.t 154)]⟩,
  ⟨none, some 12, .mv (.t 155)⟩])
  (.seq (.reg [
  ⟨none, some 156, .call 52 []⟩,
  ⟨none, some 157, .call 52 []⟩,
  ⟨none, some 158, .buildSl 5 [(.t 156), (.t 157)]⟩,
  ⟨none, some 13, .mv (.t 158)⟩])
  (.seq (.seq (.reg [
  ⟨none, some 159, .faddr 4 (.t 2)⟩,
  ⟨none, some 160, .load false 1 (.t 159)⟩,
  ⟨none, some 161, .len (.t 160)⟩,
  ⟨none, some 162, .binI .gtr (.t 161) (.k (.int .i64 0))⟩])
  (.cond (.t 162)
    (.reg [
    ⟨none, some 163, .faddr 4 (.t 2)⟩,
    ⟨none, some 164, .load false 1 (.t 163)⟩,
    ⟨none, some 12, .mv (.t 164)⟩])
    .skip))
  (.seq (.seq (.reg [
  ⟨none, some 165, .faddr 4 (.t 3)⟩,
  ⟨none, some 166, .load false 1 (.t 165)⟩,
  ⟨none, some 167, .len (.t 166)⟩,
  ⟨none, some 168, .binI .gtr (.t 167) (.k (.int .i64 0))⟩])
  (.cond (.t 168)
    (.reg [
    ⟨none, some 169, .faddr 4 (.t 3)⟩,
    ⟨none, some 170, .load false 1 (.t 169)⟩,
    ⟨none, some 13, .mv (.t 170)⟩])
    .skip))
  (.seq (.regd [0, 1, 3, 0, 8, 24, 63, 0, 128, 384, 0, 1024, 3072, 8191, 16383, 32767, 65535] [
  ⟨none, some 171, .mv (.t 13)⟩,
  ⟨none, some 172, .iaddrS 5 (.t 171) (.k (.int .i64 0))⟩,
  ⟨none, some 173, .load true 5 (.t 172)⟩,
  ⟨none, some 174, .mv (.t 12)⟩,
  ⟨none, some 175, .iaddrS 5 (.t 174) (.k (.int .i64 0))⟩,
  ⟨none, some 176, .load true 5 (.t 175)⟩,
  ⟨none, some 177, .call 40 [(.t 173), (.t 176)]⟩,
  ⟨none, some 178, .mv (.t 12)⟩,
  ⟨none, some 179, .iaddrS 5 (.t 178) (.k (.int .i64 1))⟩,
  ⟨none, some 180, .load true 5 (.t 179)⟩,
  ⟨none, some 181, .mv (.t 13)⟩,
  ⟨none, some 182, .iaddrS 5 (.t 181) (.k (.int .i64 1))⟩,
  ⟨none, some 183, .load true 5 (.t 182)⟩,
  ⟨none, some 184, .call 40 [(.t 180), (.t 183)]⟩,
  ⟨none, some 185, .call 61 [(.t 177), (.t 184)]⟩,
  ⟨none, some 186, .faddr 4 (.t 5)⟩,
  ⟨none, none, .store 1 (.t 186) (.t 185)⟩])
  (.seq (.reg [
  ⟨none, some 187, .load true 5 (.t 5)⟩,
  ⟨none, none, .store 5 (.t 4) (.t 187)⟩])
  .ret))))))))))))))
theorem w_gradusref10_composed {args : List DV} {v : DV} (hn : args.length ≤ 188) (h : DV.okL args → ∀ c : Ctx, c.N = 188 → c.pure → w_ Pg c mc_gradusref10_composed (endQ [.cell 4 true 5] v) ⟨⟩ ⟨argT 0 args, fun _ => .non, 0⟩) : PCall Pg F.gradusref10_composed args v :=
  PCall.of_walk Tryz.func40 rfl (by kernel_rfl) (by kernel_rfl) (by kernel_rfl) hn fun o c e p => W.aw Pg_mixed (w_start (h o c e p))
def lv_gradusref10_names_0 : List Nat := [0, 1, 5, 6, 7]
def lp_gradusref10_names_0 : MC :=
  (.seq (.seq (.reg [
  ⟨none, some 8, .mv (.t 6)⟩,
  ⟨none, some 9, .mv (.t 0)⟩,
  ⟨none, some 10, .len (.t 9)⟩,
  ⟨none, some 11, .binI .lss (.t 8) (.t 10)⟩,
  ⟨none, some 12, .mv (.t 11)⟩,
  ⟨(some (12, false)), some 13, .mv (.t 7)⟩,
  ⟨(some (12, false)), some 14, .mv (.t 1)⟩,
  ⟨(some (12, false)), some 15, .len (.t 14)⟩,
  ⟨(some (12, false)), some 16, .binI .lss (.t 13) (.t 15)⟩,
  ⟨none, some 17, .pick (.t 12) (.k (.bool true)) (.t 16)⟩])
  (.cond (.t 17)
    .skip
    (.exit 0)))
  (.block 1
    (.seq (.seq (.regd [0, 0, 2, 7, 15, 31, 31, 95, 255, 511, 1023, 1023, 4095, 8191, 1023, 1023, 50175, 115711, 262143, 524287, 1048575] [
    ⟨none, some 18, .mv (.t 7)⟩,
    ⟨none, some 19, .mv (.t 1)⟩,
    ⟨none, some 20, .len (.t 19)⟩,
    ⟨none, some 21, .binI .eql (.t 18) (.t 20)⟩,
    ⟨none, some 22, .mv (.t 21)⟩,
    ⟨(some (22, false)), some 23, .mv (.t 6)⟩,
    ⟨(some (22, false)), some 24, .mv (.t 0)⟩,
    ⟨(some (22, false)), some 25, .len (.t 24)⟩,
    ⟨(some (22, false)), some 26, .binI .lss (.t 23) (.t 25)⟩,
    ⟨(some (22, false)), some 27, .mv (.t 26)⟩,
    ⟨(some (27, true)), some 28, .mv (.t 0)⟩,
    ⟨(some (27, true)), some 29, .mv (.t 6)⟩,
    ⟨(some (27, true)), some 30, .iaddrS 1 (.t 28) (.t 29)⟩,
    ⟨(some (27, true)), some 31, .load false 1 (.t 30)⟩,
    ⟨(some (27, true)), some 32, .mv (.t 1)⟩,
    ⟨(some (27, true)), some 33, .mv (.t 7)⟩,
    ⟨(some (27, true)), some 34, .iaddrS 1 (.t 32) (.t 33)⟩,
    ⟨(some (27, true)), some 35, .load false 1 (.t 34)⟩,
    ⟨(some (27, true)), some 36, .binS .lss (.t 31) (.t 35)⟩,
    ⟨(some (22, false)), some 37, .pick (.t 27) (.t 36) (.k (.bool false))⟩,
    ⟨none, some 38, .pick (.t 22) (.k (.bool true)) (.t 37)⟩])
    (.cond (.t 38)
      (.seq (.reg [
      ⟨none, some 39, .mv (.t 5)⟩,
      ⟨none, some 40, .mv (.t 0)⟩,
      ⟨none, some 41, .mv (.t 6)⟩,
      ⟨none, some 42, .iaddrS 1 (.t 40) (.t 41)⟩,
      ⟨none, some 43, .load false 1 (.t 42)⟩,
      ⟨none, some 44, .buildSl 1 [(.t 43)]⟩,
      ⟨none, some 45, .append 1 16 (.t 39) (.t 44)⟩,
      ⟨none, some 5, .mv (.t 45)⟩])
      (.seq (.reg [
      ⟨none, some 46, .mv (.t 6)⟩,
      ⟨none, some 47, .binI .add (.t 46) (.k (.int .i64 1))⟩,
      ⟨none, some 6, .mv (.t 47)⟩])
      (.exit 1)))
      .skip))
    (.seq (.reg [
    ⟨none, some 48, .mv (.t 5)⟩,
    ⟨none, some 49, .mv (.t 1)⟩,
    ⟨none, some 50, .mv (.t 7)⟩,
    ⟨none, some 51, .iaddrS 1 (.t 49) (.t 50)⟩,
    ⟨none, some 52, .load false 1 (.t 51)⟩,
    ⟨none, some 53, .buildSl 1 [(.t 52)]⟩,
    ⟨none, some 54, .append 1 16 (.t 48) (.t 53)⟩,
    ⟨none, some 5, .mv (.t 54)⟩])
    (.seq (.seq (.regd [0, 0, 2, 7, 15, 31, 31, 127, 255, 31, 31, 1567, 3615, 8191, 16383] [
    ⟨none, some 55, .mv (.t 6)⟩,
    ⟨none, some 56, .mv (.t 0)⟩,
    ⟨none, some 57, .len (.t 56)⟩,
    ⟨none, some 58, .binI .lss (.t 55) (.t 57)⟩,
    ⟨none, some 59, .mv (.t 58)⟩,
    ⟨(some (59, true)), some 60, .mv (.t 0)⟩,
    ⟨(some (59, true)), some 61, .mv (.t 6)⟩,
    ⟨(some (59, true)), some 62, .iaddrS 1 (.t 60) (.t 61)⟩,
    ⟨(some (59, true)), some 63, .load false 1 (.t 62)⟩,
    ⟨(some (59, true)), some 64, .mv (.t 1)⟩,
    ⟨(some (59, true)), some 65, .mv (.t 7)⟩,
    ⟨(some (59, true)), some 66, .iaddrS 1 (.t 64) (.t 65)⟩,
    ⟨(some (59, true)), some 67, .load false 1 (.t 66)⟩,
    ⟨(some (59, true)), some 68, .binS .eql (.t 63) (.t 67)⟩,
    ⟨none, some 69, .pick (.t 59) (.t 68) (.k (.bool false))⟩])
    (.cond (.t 69)
      (.reg [
      ⟨none, some 70, .mv (.t 6)⟩,
      ⟨none, some 71, .binI .add (.t 70) (.k (.int .i64 1))⟩,
      ⟨none, some 6, .mv (.t 71)⟩])
      .skip))
    (.owq (.reg [
    ⟨none, some 72, .mv (.t 7)⟩,
    ⟨none, some 73, .binI .add (.t 72) (.k (.int .i64 1))⟩,
    ⟨none, some 7, .mv (.t 73)⟩])))))))
abbrev F.gradusref10_names : FuncId := 58
def mc_gradusref10_names : MC :=
  (.seq (.reg [
  ⟨none, some 4, .mv (.k (.sl true 1 []))⟩])
  (.seq (.reg [
  ⟨none, some 5, .mv (.k (.sl true 1 []))⟩])
  (.seq (.reg [
  ⟨none, some 6, .mv (.k (.int .i64 0))⟩])
  (.seq (.owq (.reg [
  ⟨none, some 7, .mv (.k (.int .i64 0))⟩]))
  (.seq (.block 0 (.loop lp_gradusref10_names_0))
  (.seq (.reg [
  ⟨none, some 74, .mv (.t 5)⟩,
  ⟨none, some 4, .mv (.t 74)⟩])
  .ret))))))
theorem w_gradusref10_names {args : List DV} {v : DV} (hn : args.length ≤ 75) (h : DV.okL args → ∀ c : Ctx, c.N = 75 → c.pure → w_ Pg c mc_gradusref10_names (endQ [.tmp 4] v) ⟨⟩ ⟨argT 0 args, fun _ => .non, 0⟩) : PCall Pg F.gradusref10_names args v :=
  PCall.of_walk Tryz.func58 rfl (by kernel_rfl) (by kernel_rfl) (by kernel_rfl) hn fun o c e p => W.aw Pg_mixed (w_start (h o c e p))
abbrev F.gradusref10_put : FuncId := 59
def mc_gradusref10_put : MC :=
  (.seq (.reg [
  ⟨none, some 3, .boxM (.t 0)⟩,
  ⟨none, some 5, .boxP (.t 2)⟩,
  ⟨none, some 6, .alloc [.sl true 1 [], .sl true 2 [], .sl true 1 [], .sl true 5 [], .sl true 5 []]⟩])
  (.seq (.reg [
  ⟨none, some 8, .load true 5 (.t 5)⟩,
  ⟨none, some 9, .call 34 [(.t 8)]⟩,
  ⟨none, some 7, .mv (.t 9)⟩])
  (.seq (.seq (.reg [
  ⟨none, some 10, .mv (.t 7)⟩,
  ⟨none, some 11, .not (.t 10)⟩])
  (.cond (.t 11)
    (.seq (.reg [
    ⟨none, some 12, .faddr 2 (.t 3)⟩,
    ⟨none, some 13, .load false 1 (.t 12)⟩,
    ⟨none, some 14, .mv (.t 1)⟩,
    ⟨none, some 15, .buildSl 1 [(.t 14)]⟩,
    ⟨none, some 16, .append 1 16 (.t 13) (.t 15)⟩,
    ⟨none, some 17, .faddr 2 (.t 3)⟩,
    ⟨none, none, .store 1 (.t 17) (.t 16)⟩])
    (.reg [
    ⟨none, some 18, .faddr 3 (.t 3)⟩,
    ⟨none, some 19, .load false 1 (.t 18)⟩,
    ⟨none, some 20, .load true 5 (.t 5)⟩,
    ⟨none, some 21, .buildSl 5 [(.t 20)]⟩,
    ⟨none, some 22, .append 5 120 (.t 19) (.t 21)⟩,
    ⟨none, some 23, .faddr 3 (.t 3)⟩,
    ⟨none, none, .store 1 (.t 23) (.t 22)⟩]))
    .skip))
  (.seq (.reg [
  ⟨none, some 24, .load true 5 (.t 3)⟩,
  ⟨none, none, .store 5 (.t 6) (.t 24)⟩])
  .ret))))
theorem w_gradusref10_put {args : List DV} {v : DV} (hn : args.length ≤ 25) (h : DV.okL args → ∀ c : Ctx, c.N = 25 → c.pure → w_ Pg c mc_gradusref10_put (endQ [.cell 6 true 5] v) ⟨⟩ ⟨argT 0 args, fun _ => .non, 0⟩) : PCall Pg F.gradusref10_put args v :=
  PCall.of_walk Tryz.func59 rfl (by kernel_rfl) (by kernel_rfl) (by kernel_rfl) hn fun o c e p => W.aw Pg_mixed (w_start (h o c e p))
theorem wm_gradusref10_put {args : List AV} {bs : List Blk} {v : AV} {bs' : List Blk} (hs : MStat args 25 bs v bs') (h : ∀ ts : List (Nat × Nat), ts.length = bs.length → AV.okL args → (∀ b, b ∈ bs → b.ok) → ∀ c : Ctx, c.N = 25 → c.pure → w_ Pg c mc_gradusref10_put (endM [.cell 6 true 5] v bs' ts) ⟨⟩ ⟨argA 0 args, hpOf (bs ++ pinsL 0 ts), bs.length + ts.length⟩) : MCall Pg F.gradusref10_put args bs v bs' :=
  MCall.of_walk' Tryz.func59 rfl (by kernel_rfl) (by kernel_rfl) (by kernel_rfl) Pg_mixed hs h
def lv_gradusref10_field_0 : List Nat := [1, 2, 4, 5]
def lp_gradusref10_field_0 : MC :=
  (.seq (.seq (.reg [
  ⟨none, some 6, .mv (.t 5)⟩,
  ⟨none, some 7, .faddr 2 (.t 2)⟩,
  ⟨none, some 8, .load false 1 (.t 7)⟩,
  ⟨none, some 9, .len (.t 8)⟩,
  ⟨none, some 10, .binI .lss (.t 6) (.t 9)⟩])
  (.cond (.t 10)
    .skip
    (.exit 0)))
  (.seq (.block 1
    (.seq (.reg [
    ⟨none, some 13, .faddr 2 (.t 2)⟩,
    ⟨none, some 14, .load false 1 (.t 13)⟩,
    ⟨none, some 15, .mv (.t 5)⟩,
    ⟨none, some 16, .iaddrS 1 (.t 14) (.t 15)⟩,
    ⟨none, some 17, .load false 1 (.t 16)⟩,
    ⟨none, some 18, .mv (.t 1)⟩,
    ⟨none, some 19, .binS .eql (.t 17) (.t 18)⟩])
    (.cond (.t 19)
      (.seq (.reg [
      ⟨none, some 20, .faddr 3 (.t 2)⟩,
      ⟨none, some 21, .load false 1 (.t 20)⟩,
      ⟨none, some 22, .mv (.t 5)⟩,
      ⟨none, some 23, .iaddrS 5 (.t 21) (.t 22)⟩,
      ⟨none, some 24, .load true 5 (.t 23)⟩,
      ⟨none, none, .store 5 (.t 4) (.t 24)⟩])
      .ret)
      .skip)))
  (.reg [
  ⟨none, some 11, .mv (.t 5)⟩,
  ⟨none, some 12, .binI .add (.t 11) (.k (.int .i64 1))⟩,
  ⟨none, some 5, .mv (.t 12)⟩])))
abbrev F.gradusref10_field : FuncId := 60
def mc_gradusref10_field : MC :=
  (.seq (.reg [
  ⟨none, some 2, .boxP (.t 0)⟩,
  ⟨none, some 4, .alloc [.sl true 1 [], .sl true 2 [], .sl true 1 [], .sl true 5 [], .sl true 5 []]⟩])
  (.seq (.seq (.reg [
  ⟨none, some 5, .mv (.k (.int .i64 0))⟩])
  (.block 0 (.loop lp_gradusref10_field_0)))
  (.seq (.reg [
  ⟨none, some 25, .call 52 []⟩,
  ⟨none, none, .store 5 (.t 4) (.t 25)⟩])
  .ret)))
theorem w_gradusref10_field {args : List DV} {v : DV} (hn : args.length ≤ 26) (h : DV.okL args → ∀ c : Ctx, c.N = 26 → c.pure → w_ Pg c mc_gradusref10_field (endQ [.cell 4 true 5] v) ⟨⟩ ⟨argT 0 args, fun _ => .non, 0⟩) : PCall Pg F.gradusref10_field args v :=
  PCall.of_walk Tryz.func60 rfl (by kernel_rfl) (by kernel_rfl) (by kernel_rfl) hn fun o c e p => W.aw Pg_mixed (w_start (h o c e p))
abbrev F.gradusref10_pair : FuncId := 61
def mc_gradusref10_pair : MC :=
  (.seq (.reg [
  ⟨none, some 2, .boxP (.t 0)⟩,
  ⟨none, some 3, .boxP (.t 1)⟩,
  ⟨none, some 4, .mv (.k (.sl true 5 []))⟩])
  (.seq (.reg [
  ⟨none, some 7, .load true 5 (.t 2)⟩,
  ⟨none, some 8, .call 34 [(.t 7)]⟩,
  ⟨none, some 5, .mv (.t 8)⟩])
  (.seq (.reg [
  ⟨none, some 9, .load true 5 (.t 3)⟩,
  ⟨none, some 10, .call 34 [(.t 9)]⟩,
  ⟨none, some 6, .mv (.t 10)⟩])
  (.seq (.seq (.reg [
  ⟨none, some 11, .mv (.t 5)⟩,
  ⟨none, some 12, .mv (.t 11)⟩,
  ⟨(some (12, true)), some 13, .mv (.t 6)⟩,
  ⟨none, some 14, .pick (.t 12) (.t 13) (.k (.bool false))⟩])
  (.cond (.t 14)
    (.seq (.reg [
    ⟨none, some 4, .mv (.k (.sl true 5 []))⟩])
    .ret)
    .skip))
  (.seq (.reg [
  ⟨none, some 15, .load true 5 (.t 2)⟩,
  ⟨none, some 16, .load true 5 (.t 3)⟩,
  ⟨none, some 17, .buildSl 5 [(.t 15), (.t 16)]⟩,
  ⟨none, some 4, .mv (.t 17)⟩])
  .ret)))))
theorem w_gradusref10_pair {args : List DV} {v : DV} (hn : args.length ≤ 18) (h : DV.okL args → ∀ c : Ctx, c.N = 18 → c.pure → w_ Pg c mc_gradusref10_pair (endQ [.tmp 4] v) ⟨⟩ ⟨argT 0 args, fun _ => .non, 0⟩) : PCall Pg F.gradusref10_pair args v :=
  PCall.of_walk Tryz.func61 rfl (by kernel_rfl) (by kernel_rfl) (by kernel_rfl) hn fun o c e p => W.aw Pg_mixed (w_start (h o c e p))
def lv_coerce_labels_0 : List Nat := [1, 2, 11, 12, 13]
def lp_coerce_labels_0 : MC :=
  (.seq (.reg [
  ⟨none, some 14, .binI .lss (.t 13) (.t 12)⟩])
  (.seq (.cond (.t 14)
    .skip
    (.exit 0))
  (.seq (.block 1
    (.seq (.reg [
    ⟨none, some 15, .iaddrS 1 (.t 11) (.t 13)⟩,
    ⟨none, some 16, .load false 1 (.t 15)⟩,
    ⟨none, some 5, .mv (.t 16)⟩])
    (.reg [
    ⟨none, some 17, .mv (.t 1)⟩,
    ⟨none, some 18, .mv (.t 5)⟩,
    ⟨none, none, .mset 0 (.t 17) (.t 18) (.k (.bool true))⟩])))
  (.reg [
  ⟨none, some 19, .binI .add (.t 13) (.k (.int .i64 1))⟩,
  ⟨none, some 13, .mv (.t 19)⟩]))))
def lv_coerce_labels_2 : List Nat := [1, 2, 21, 22, 23]
def lp_coerce_labels_2 : MC :=
  (.seq (.reg [
  ⟨none, some 24, .binI .lss (.t 23) (.t 22)⟩])
  (.seq (.cond (.t 24)
    .skip
    (.exit 2))
  (.seq (.block 3
    (.seq (.reg [
    ⟨none, some 25, .iaddrS 2 (.t 21) (.t 23)⟩,
    ⟨none, some 26, .load true 2 (.t 25)⟩,
    ⟨none, some 7, .alloc [.str (bs []), .int .i64 0]⟩,
    ⟨none, none, .store 2 (.t 7) (.t 26)⟩])
    (.reg [
    ⟨none, some 27, .mv (.t 1)⟩,
    ⟨none, some 28, .faddr 1 (.t 7)⟩,
    ⟨none, some 29, .load false 1 (.t 28)⟩,
    ⟨none, none, .mset 0 (.t 27) (.t 29) (.k (.bool true))⟩])))
  (.reg [
  ⟨none, some 30, .binI .add (.t 23) (.k (.int .i64 1))⟩,
  ⟨none, some 23, .mv (.t 30)⟩]))))
def lv_coerce_labels_4 : List Nat := [1, 36, 37, 38]
def lp_coerce_labels_4 : MC :=
  (.seq (.reg [
  ⟨none, some 39, .binI .lss (.t 38) (.t 37)⟩])
  (.seq (.cond (.t 39)
    .skip
    (.exit 4))
  (.seq (.block 5
    (.seq (.reg [
    ⟨none, some 40, .iaddrS 5 (.t 36) (.t 38)⟩,
    ⟨none, some 41, .load true 5 (.t 40)⟩,
    ⟨none, some 9, .alloc [.sl true 1 [], .sl true 2 [], .sl true 1 [], .sl true 5 [], .sl true 5 []]⟩,
    ⟨none, none, .store 5 (.t 9) (.t 41)⟩])
    (.reg [
    ⟨none, some 42, .load true 5 (.t 9)⟩,
    ⟨none, some 43, .mv (.t 1)⟩,
    ⟨none, some 44, .callM 41 [(.t 42), (.t 43)]⟩])))
  (.reg [
  ⟨none, some 45, .binI .add (.t 38) (.k (.int .i64 1))⟩,
  ⟨none, some 38, .mv (.t 45)⟩]))))
abbrev F.coerce_labels : FuncId := 41
def mc_coerce_labels : MC :=
  (.seq (.reg [
  ⟨none, some 2, .boxP (.t 0)⟩])
  (.seq (.seq (.reg [
  ⟨none, some 10, .faddr 0 (.t 2)⟩,
  ⟨none, some 11, .load false 1 (.t 10)⟩,
  ⟨none, some 12, .len (.t 11)⟩,
  ⟨none, some 13, .mv (.k (.int .i64 0))⟩])
  (.block 0 (.loop lp_coerce_labels_0)))
  (.seq (.seq (.reg [
  ⟨none, some 20, .faddr 1 (.t 2)⟩,
  ⟨none, some 21, .load false 1 (.t 20)⟩,
  ⟨none, some 22, .len (.t 21)⟩,
  ⟨none, some 23, .mv (.k (.int .i64 0))⟩])
  (.block 2 (.loop lp_coerce_labels_2)))
  (.seq (.fzq (.regd [0, 1, 3, 0, 8, 31, 63, 0] [
  ⟨none, some 31, .faddr 3 (.t 2)⟩,
  ⟨none, some 32, .load false 1 (.t 31)⟩,
  ⟨none, some 33, .callM 45 [(.t 32)]⟩,
  ⟨none, some 34, .faddr 4 (.t 2)⟩,
  ⟨none, some 35, .load false 1 (.t 34)⟩,
  ⟨none, some 36, .append 5 120 (.t 33) (.t 35)⟩,
  ⟨none, some 37, .len (.t 36)⟩,
  ⟨none, some 38, .mv (.k (.int .i64 0))⟩]))
  (.block 4 (.loop lp_coerce_labels_4))))))
theorem w_coerce_labels {args : List DV} {v : DV} (hn : args.length ≤ 46) (h : DV.okL args → ∀ c : Ctx, c.N = 46 → c.pure → w_ Pg c mc_coerce_labels (endQ [] v) ⟨⟩ ⟨argT 0 args, fun _ => .non, 0⟩) : PCall Pg F.coerce_labels args v :=
  PCall.of_walk Tryz.func41 rfl (by kernel_rfl) (by kernel_rfl) (by kernel_rfl) hn fun o c e p => W.aw Pg_mixed (w_start (h o c e p))
theorem wm_coerce_labels {args : List AV} {bs : List Blk} {v : AV} {bs' : List Blk} (hs : MStat args 46 bs v bs') (h : ∀ ts : List (Nat × Nat), ts.length = bs.length → AV.okL args → (∀ b, b ∈ bs → b.ok) → ∀ c : Ctx, c.N = 46 → c.pure → w_ Pg c mc_coerce_labels (endM [] v bs' ts) ⟨⟩ ⟨argA 0 args, hpOf (bs ++ pinsL 0 ts), bs.length + ts.length⟩) : MCall Pg F.coerce_labels args bs v bs' :=
  MCall.of_walk' Tryz.func41 rfl (by kernel_rfl) (by kernel_rfl) (by kernel_rfl) Pg_mixed hs h
abbrev F.coerce_Labels : FuncId := 20
def mc_coerce_Labels : MC :=
  (.seq (.reg [
  ⟨none, some 1, .boxP (.t 0)⟩,
  ⟨none, some 2, .mv (.k (.sl true 1 []))⟩])
  (.seq (.reg [
  ⟨none, some 4, .mkmap⟩,
  ⟨none, some 3, .mv (.t 4)⟩])
  (.seq (.reg [
  ⟨none, some 5, .load true 5 (.t 1)⟩,
  ⟨none, some 6, .mv (.t 3)⟩,
  ⟨none, some 7, .callM 41 [(.t 5), (.t 6)]⟩])
  (.seq (.reg [
  ⟨none, some 8, .mv (.t 3)⟩,
  ⟨none, none, .mdel 0 (.t 8) (.k (.int .i64 0))⟩])
  (.seq (.reg [
  ⟨none, some 9, .mv (.t 3)⟩,
  ⟨none, some 10, .callM 43 [(.t 9)]⟩,
  ⟨none, some 11, .callM 42 [(.t 10)]⟩,
  ⟨none, some 2, .mv (.t 11)⟩])
  .ret)))))
theorem w_coerce_Labels {args : List DV} {v : DV} (hn : args.length ≤ 12) (h : DV.okL args → ∀ c : Ctx, c.N = 12 → c.pure → w_ Pg c mc_coerce_Labels (endQ [.tmp 2] v) ⟨⟩ ⟨argT 0 args, fun _ => .non, 0⟩) : PCall Pg F.coerce_Labels args v :=
  PCall.of_walk Tryz.func20 rfl (by kernel_rfl) (by kernel_rfl) (by kernel_rfl) hn fun o c e p => W.aw Pg_mixed (w_start (h o c e p))
abbrev F.maps_Keys_map_string_api_Co_string_api_Co : FuncId := 79
def mc_maps_Keys_map_string_api_Co_string_api_Co : MC :=
  (.seq (.reg [
  ⟨none, some 1, .boxM (.t 0)⟩,
  ⟨none, some 2, .mv (.k (.sc .nilFunc))⟩])
  (.seq (.reg [
  ⟨none, some 3, .mkfn 93 [(.t 1)]⟩,
  ⟨none, some 2, .mv (.t 3)⟩])
  .ret))
theorem w_maps_Keys_map_string_api_Co_string_api_Co {args : List DV} {v : DV} (hn : args.length ≤ 4) (h : DV.okL args → ∀ c : Ctx, c.N = 4 → c.pure → w_ Pg c mc_maps_Keys_map_string_api_Co_string_api_Co (endQ [.tmp 2] v) ⟨⟩ ⟨argT 0 args, fun _ => .non, 0⟩) : PCall Pg F.maps_Keys_map_string_api_Co_string_api_Co args v :=
  PCall.of_walk Tryz.func79 rfl (by kernel_rfl) (by kernel_rfl) (by kernel_rfl) hn fun o c e p => W.aw Pg_mixed (w_start (h o c e p))
theorem wm_maps_Keys_map_string_api_Co_string_api_Co {args : List AV} {bs : List Blk} {v : AV} {bs' : List Blk} (hs : MStat args 4 bs v bs') (h : ∀ ts : List (Nat × Nat), ts.length = bs.length → AV.okL args → (∀ b, b ∈ bs → b.ok) → ∀ c : Ctx, c.N = 4 → c.pure → w_ Pg c mc_maps_Keys_map_string_api_Co_string_api_Co (endM [.tmp 2] v bs' ts) ⟨⟩ ⟨argA 0 args, hpOf (bs ++ pinsL 0 ts), bs.length + ts.length⟩) : MCall Pg F.maps_Keys_map_string_api_Co_string_api_Co args bs v bs' :=
  MCall.of_walk' Tryz.func79 rfl (by kernel_rfl) (by kernel_rfl) (by kernel_rfl) Pg_mixed hs h
abbrev F.maps_Keys_map_int_bool_int_bool : FuncId := 43
def mc_maps_Keys_map_int_bool_int_bool : MC :=
  (.seq (.reg [
  ⟨none, some 1, .boxM (.t 0)⟩,
  ⟨none, some 2, .mv (.k (.sc .nilFunc))⟩])
  (.seq (.reg [
  ⟨none, some 3, .mkfn 64 [(.t 1)]⟩,
  ⟨none, some 2, .mv (.t 3)⟩])
  .ret))
theorem w_maps_Keys_map_int_bool_int_bool {args : List DV} {v : DV} (hn : args.length ≤ 4) (h : DV.okL args → ∀ c : Ctx, c.N = 4 → c.pure → w_ Pg c mc_maps_Keys_map_int_bool_int_bool (endQ [.tmp 2] v) ⟨⟩ ⟨argT 0 args, fun _ => .non, 0⟩) : PCall Pg F.maps_Keys_map_int_bool_int_bool args v :=
  PCall.of_walk Tryz.func43 rfl (by kernel_rfl) (by kernel_rfl) (by kernel_rfl) hn fun o c e p => W.aw Pg_mixed (w_start (h o c e p))
theorem wm_maps_Keys_map_int_bool_int_bool {args : List AV} {bs : List Blk} {v : AV} {bs' : List Blk} (hs : MStat args 4 bs v bs') (h : ∀ ts : List (Nat × Nat), ts.length = bs.length → AV.okL args → (∀ b, b ∈ bs → b.ok) → ∀ c : Ctx, c.N = 4 → c.pure → w_ Pg c mc_maps_Keys_map_int_bool_int_bool (endM [.tmp 2] v bs' ts) ⟨⟩ ⟨argA 0 args, hpOf (bs ++ pinsL 0 ts), bs.length + ts.length⟩) : MCall Pg F.maps_Keys_map_int_bool_int_bool args bs v bs' :=
  MCall.of_walk' Tryz.func43 rfl (by kernel_rfl) (by kernel_rfl) (by kernel_rfl) Pg_mixed hs h
abbrev F.slices_Sorted_string : FuncId := 78
def mc_slices_Sorted_string : MC :=
  (.seq (.reg [
  ⟨none, some 2, .mv (.k (.sl true 1 []))⟩])
  (.seq (.reg [
  ⟨none, some 4, .mv (.t 0)⟩,
  ⟨none, some 5, .call 91 [(.t 4)]⟩,
  ⟨none, some 3, .mv (.t 5)⟩])
  (.seq (.reg [
  ⟨none, some 6, .mv (.t 3)⟩,
  ⟨none, some 7, .call 92 [(.t 6)]⟩])
  (.seq (.reg [
  ⟨none, some 8, .mv (.t 3)⟩,
  ⟨none, some 2, .mv (.t 8)⟩])
  .ret))))
theorem w_slices_Sorted_string {args : List DV} {v : DV} (hn : args.length ≤ 9) (h : DV.okL args → ∀ c : Ctx, c.N = 9 → c.pure → w_ Pg c mc_slices_Sorted_string (endQ [.tmp 2] v) ⟨⟩ ⟨argT 0 args, fun _ => .non, 0⟩) : PCall Pg F.slices_Sorted_string args v :=
  PCall.of_walk Tryz.func78 rfl (by kernel_rfl) (by kernel_rfl) (by kernel_rfl) hn fun o c e p => W.aw Pg_mixed (w_start (h o c e p))
abbrev F.slices_Sorted_int : FuncId := 42
def mc_slices_Sorted_int : MC :=
  (.seq (.reg [
  ⟨none, some 2, .mv (.k (.sl true 1 []))⟩])
  (.seq (.reg [
  ⟨none, some 4, .mv (.t 0)⟩,
  ⟨none, some 5, .call 62 [(.t 4)]⟩,
  ⟨none, some 3, .mv (.t 5)⟩])
  (.seq (.reg [
  ⟨none, some 6, .mv (.t 3)⟩,
  ⟨none, some 7, .call 63 [(.t 6)]⟩])
  (.seq (.reg [
  ⟨none, some 8, .mv (.t 3)⟩,
  ⟨none, some 2, .mv (.t 8)⟩])
  .ret))))
theorem w_slices_Sorted_int {args : List DV} {v : DV} (hn : args.length ≤ 9) (h : DV.okL args → ∀ c : Ctx, c.N = 9 → c.pure → w_ Pg c mc_slices_Sorted_int (endQ [.tmp 2] v) ⟨⟩ ⟨argT 0 args, fun _ => .non, 0⟩) : PCall Pg F.slices_Sorted_int args v :=
  PCall.of_walk Tryz.func42 rfl (by kernel_rfl) (by kernel_rfl) (by kernel_rfl) hn fun o c e p => W.aw Pg_mixed (w_start (h o c e p))
def lv_gradusref10_Labels_0 : List Nat := [1, 3, 4]
def lp_gradusref10_Labels_0 : MC :=
  (.seq (.seq (.reg [
  ⟨none, some 8, .mv (.t 4)⟩,
  ⟨none, some 9, .faddr 0 (.t 1)⟩,
  ⟨none, some 10, .load false 1 (.t 9)⟩,
  ⟨none, some 11, .len (.t 10)⟩,
  ⟨none, some 12, .binI .lss (.t 8) (.t 11)⟩])
  (.cond (.t 12)
    .skip
    (.exit 0)))
  (.seq (.block 1
    (.reg [
    ⟨none, some 15, .mv (.t 3)⟩,
    ⟨none, some 16, .faddr 0 (.t 1)⟩,
    ⟨none, some 17, .load false 1 (.t 16)⟩,
    ⟨none, some 18, .mv (.t 4)⟩,
    ⟨none, some 19, .iaddrS 1 (.t 17) (.t 18)⟩,
    ⟨none, some 20, .load false 1 (.t 19)⟩,
    ⟨none, some 21, .buildSl 1 [(.t 20)]⟩,
    ⟨none, some 22, .callM 44 [(.t 15), (.t 21)]⟩,
    ⟨none, some 3, .mv (.t 22)⟩]))
  (.owq (.reg [
  ⟨none, some 13, .mv (.t 4)⟩,
  ⟨none, some 14, .binI .add (.t 13) (.k (.int .i64 1))⟩,
  ⟨none, some 4, .mv (.t 14)⟩]))))
def lv_gradusref10_Labels_2 : List Nat := [1, 3, 5]
def lp_gradusref10_Labels_2 : MC :=
  (.seq (.seq (.reg [
  ⟨none, some 23, .mv (.t 5)⟩,
  ⟨none, some 24, .faddr 1 (.t 1)⟩,
  ⟨none, some 25, .load false 1 (.t 24)⟩,
  ⟨none, some 26, .len (.t 25)⟩,
  ⟨none, some 27, .binI .lss (.t 23) (.t 26)⟩])
  (.cond (.t 27)
    .skip
    (.exit 2)))
  (.seq (.block 3
    (.reg [
    ⟨none, some 30, .mv (.t 3)⟩,
    ⟨none, some 31, .faddr 1 (.t 1)⟩,
    ⟨none, some 32, .load false 1 (.t 31)⟩,
    ⟨none, some 33, .mv (.t 5)⟩,
    ⟨none, some 34, .iaddrS 2 (.t 32) (.t 33)⟩,
    ⟨none, some 35, .faddr 1 (.t 34)⟩,
    ⟨none, some 36, .load false 1 (.t 35)⟩,
    ⟨none, some 37, .buildSl 1 [(.t 36)]⟩,
    ⟨none, some 38, .callM 44 [(.t 30), (.t 37)]⟩,
    ⟨none, some 3, .mv (.t 38)⟩]))
  (.reg [
  ⟨none, some 28, .mv (.t 5)⟩,
  ⟨none, some 29, .binI .add (.t 28) (.k (.int .i64 1))⟩,
  ⟨none, some 5, .mv (.t 29)⟩])))
def lv_gradusref10_Labels_4 : List Nat := [1, 3, 6]
def lp_gradusref10_Labels_4 : MC :=
  (.seq (.seq (.reg [
  ⟨none, some 39, .mv (.t 6)⟩,
  ⟨none, some 40, .faddr 3 (.t 1)⟩,
  ⟨none, some 41, .load false 1 (.t 40)⟩,
  ⟨none, some 42, .len (.t 41)⟩,
  ⟨none, some 43, .binI .lss (.t 39) (.t 42)⟩])
  (.cond (.t 43)
    .skip
    (.exit 4)))
  (.seq (.block 5
    (.reg [
    ⟨none, some 46, .mv (.t 3)⟩,
    ⟨none, some 47, .faddr 3 (.t 1)⟩,
    ⟨none, some 48, .load false 1 (.t 47)⟩,
    ⟨none, some 49, .mv (.t 6)⟩,
    ⟨none, some 50, .iaddrS 5 (.t 48) (.t 49)⟩,
    ⟨none, some 51, .load true 5 (.t 50)⟩,
    ⟨none, some 52, .call 21 [(.t 51)]⟩,
    ⟨none, some 53, .callM 44 [(.t 46), (.t 52)]⟩,
    ⟨none, some 3, .mv (.t 53)⟩]))
  (.reg [
  ⟨none, some 44, .mv (.t 6)⟩,
  ⟨none, some 45, .binI .add (.t 44) (.k (.int .i64 1))⟩,
  ⟨none, some 6, .mv (.t 45)⟩])))
def lv_gradusref10_Labels_6 : List Nat := [1, 3, 7]
def lp_gradusref10_Labels_6 : MC :=
  (.seq (.seq (.reg [
  ⟨none, some 54, .mv (.t 7)⟩,
  ⟨none, some 55, .faddr 4 (.t 1)⟩,
  ⟨none, some 56, .load false 1 (.t 55)⟩,
  ⟨none, some 57, .len (.t 56)⟩,
  ⟨none, some 58, .binI .lss (.t 54) (.t 57)⟩])
  (.cond (.t 58)
    .skip
    (.exit 6)))
  (.seq (.block 7
    (.reg [
    ⟨none, some 61, .mv (.t 3)⟩,
    ⟨none, some 62, .faddr 4 (.t 1)⟩,
    ⟨none, some 63, .load false 1 (.t 62)⟩,
    ⟨none, some 64, .mv (.t 7)⟩,
    ⟨none, some 65, .iaddrS 5 (.t 63) (.t 64)⟩,
    ⟨none, some 66, .load true 5 (.t 65)⟩,
    ⟨none, some 67, .call 21 [(.t 66)]⟩,
    ⟨none, some 68, .callM 44 [(.t 61), (.t 67)]⟩,
    ⟨none, some 3, .mv (.t 68)⟩]))
  (.reg [
  ⟨none, some 59, .mv (.t 7)⟩,
  ⟨none, some 60, .binI .add (.t 59) (.k (.int .i64 1))⟩,
  ⟨none, some 7, .mv (.t 60)⟩])))
abbrev F.gradusref10_Labels : FuncId := 21
def mc_gradusref10_Labels : MC :=
  (.seq (.reg [
  ⟨none, some 1, .boxP (.t 0)⟩,
  ⟨none, some 2, .mv (.k (.sl true 1 []))⟩])
  (.seq (.reg [
  ⟨none, some 3, .mv (.k (.sl true 1 []))⟩])
  (.seq (.seq (.owq (.reg [
  ⟨none, some 4, .mv (.k (.int .i64 0))⟩]))
  (.block 0 (.loop lp_gradusref10_Labels_0)))
  (.seq (.seq (.reg [
  ⟨none, some 5, .mv (.k (.int .i64 0))⟩])
  (.block 2 (.loop lp_gradusref10_Labels_2)))
  (.seq (.seq (.reg [
  ⟨none, some 6, .mv (.k (.int .i64 0))⟩])
  (.block 4 (.loop lp_gradusref10_Labels_4)))
  (.seq (.seq (.reg [
  ⟨none, some 7, .mv (.k (.int .i64 0))⟩])
  (.block 6 (.loop lp_gradusref10_Labels_6)))
  (.seq (.reg [
  ⟨none, some 69, .mv (.t 3)⟩,
  ⟨none, some 2, .mv (.t 69)⟩])
  .ret)))))))
theorem w_gradusref10_Labels {args : List DV} {v : DV} (hn : args.length ≤ 70) (h : DV.okL args → ∀ c : Ctx, c.N = 70 → c.pure → w_ Pg c mc_gradusref10_Labels (endQ [.tmp 2] v) ⟨⟩ ⟨argT 0 args, fun _ => .non, 0⟩) : PCall Pg F.gradusref10_Labels args v :=
  PCall.of_walk Tryz.func21 rfl (by kernel_rfl) (by kernel_rfl) (by kernel_rfl) hn fun o c e p => W.aw Pg_mixed (w_start (h o c e p))
def lv_gradusref10_add_2 : List Nat := [0, 1, 5, 6]
def lp_gradusref10_add_2 : MC :=
  (.seq (.seq (.regd [0, 0, 2, 7, 15, 31, 31, 127, 255, 31, 31, 1567, 3615, 8191, 16383] [
  ⟨none, some 14, .mv (.t 6)⟩,
  ⟨none, some 15, .mv (.t 0)⟩,
  ⟨none, some 16, .len (.t 15)⟩,
  ⟨none, some 17, .binI .lss (.t 14) (.t 16)⟩,
  ⟨none, some 18, .mv (.t 17)⟩,
  ⟨(some (18, true)), some 19, .mv (.t 0)⟩,
  ⟨(some (18, true)), some 20, .mv (.t 6)⟩,
  ⟨(some (18, true)), some 21, .iaddrS 1 (.t 19) (.t 20)⟩,
  ⟨(some (18, true)), some 22, .load false 1 (.t 21)⟩,
  ⟨(some (18, true)), some 23, .mv (.t 1)⟩,
  ⟨(some (18, true)), some 24, .mv (.t 5)⟩,
  ⟨(some (18, true)), some 25, .iaddrS 1 (.t 23) (.t 24)⟩,
  ⟨(some (18, true)), some 26, .load false 1 (.t 25)⟩,
  ⟨(some (18, true)), some 27, .binI .lss (.t 22) (.t 26)⟩,
  ⟨none, some 28, .pick (.t 18) (.t 27) (.k (.bool false))⟩])
  (.cond (.t 28)
    .skip
    (.exit 2)))
  (.block 3
    (.reg [
    ⟨none, some 29, .mv (.t 6)⟩,
    ⟨none, some 30, .binI .add (.t 29) (.k (.int .i64 1))⟩,
    ⟨none, some 6, .mv (.t 30)⟩])))
def lv_gradusref10_add_0 : List Nat := [0, 1, 5]
def lp_gradusref10_add_0 : MC :=
  (.seq (.seq (.reg [
  ⟨none, some 8, .mv (.t 5)⟩,
  ⟨none, some 9, .mv (.t 1)⟩,
  ⟨none, some 10, .len (.t 9)⟩,
  ⟨none, some 11, .binI .lss (.t 8) (.t 10)⟩])
  (.cond (.t 11)
    .skip
    (.exit 0)))
  (.seq (.block 1
    (.seq (.reg [
    ⟨none, some 6, .mv (.k (.int .i64 0))⟩])
    (.seq (.block 2 (.loop lp_gradusref10_add_2))
    (.seq (.seq (.regd [0, 0, 3, 7, 15, 31, 63, 63, 191, 511, 1023, 2047, 2047, 8191, 16383, 2047, 2047, 100351, 231423, 524287, 1048575, 2097151] [
    ⟨none, some 31, .mv (.t 1)⟩,
    ⟨none, some 32, .mv (.t 5)⟩,
    ⟨none, some 33, .iaddrS 1 (.t 31) (.t 32)⟩,
    ⟨none, some 34, .load false 1 (.t 33)⟩,
    ⟨none, some 35, .binI .eql (.t 34) (.k (.int .i64 0))⟩,
    ⟨none, some 36, .mv (.t 35)⟩,
    ⟨(some (36, false)), some 37, .mv (.t 6)⟩,
    ⟨(some (36, false)), some 38, .mv (.t 0)⟩,
    ⟨(some (36, false)), some 39, .len (.t 38)⟩,
    ⟨(some (36, false)), some 40, .binI .lss (.t 37) (.t 39)⟩,
    ⟨(some (36, false)), some 41, .mv (.t 40)⟩,
    ⟨(some (41, true)), some 42, .mv (.t 0)⟩,
    ⟨(some (41, true)), some 43, .mv (.t 6)⟩,
    ⟨(some (41, true)), some 44, .iaddrS 1 (.t 42) (.t 43)⟩,
    ⟨(some (41, true)), some 45, .load false 1 (.t 44)⟩,
    ⟨(some (41, true)), some 46, .mv (.t 1)⟩,
    ⟨(some (41, true)), some 47, .mv (.t 5)⟩,
    ⟨(some (41, true)), some 48, .iaddrS 1 (.t 46) (.t 47)⟩,
    ⟨(some (41, true)), some 49, .load false 1 (.t 48)⟩,
    ⟨(some (41, true)), some 50, .binI .eql (.t 45) (.t 49)⟩,
    ⟨(some (36, false)), some 51, .pick (.t 41) (.t 50) (.k (.bool false))⟩,
    ⟨none, some 52, .pick (.t 36) (.k (.bool true)) (.t 51)⟩])
    (.cond (.t 52)
      (.exit 1)
      .skip))
    (.seq (.reg [
    ⟨none, some 53, .mv (.t 0)⟩,
    ⟨none, some 54, .mv (.t 6)⟩,
    ⟨none, some 55, .slice 1 (.t 53) (some (.t 54)) none⟩,
    ⟨none, some 56, .append 1 8 (.k (.sl true 1 [])) (.t 55)⟩,
    ⟨none, some 7, .mv (.t 56)⟩])
    (.seq (.regd [0, 0, 3, 0, 0, 24, 56, 120, 255, 511] [
    ⟨none, some 57, .mv (.t 0)⟩,
    ⟨none, some 58, .mv (.t 6)⟩,
    ⟨none, some 59, .slice 1 (.t 57) none (some (.t 58))⟩,
    ⟨none, some 60, .mv (.t 1)⟩,
    ⟨none, some 61, .mv (.t 5)⟩,
    ⟨none, some 62, .iaddrS 1 (.t 60) (.t 61)⟩,
    ⟨none, some 63, .load false 1 (.t 62)⟩,
    ⟨none, some 64, .buildSl 1 [(.t 63)]⟩,
    ⟨none, some 65, .append 1 8 (.t 59) (.t 64)⟩,
    ⟨none, some 0, .mv (.t 65)⟩])
    (.reg [
    ⟨none, some 66, .mv (.t 0)⟩,
    ⟨none, some 67, .mv (.t 7)⟩,
    ⟨none, some 68, .append 1 8 (.t 66) (.t 67)⟩,
    ⟨none, some 0, .mv (.t 68)⟩])))))))
  (.reg [
  ⟨none, some 12, .mv (.t 5)⟩,
  ⟨none, some 13, .binI .add (.t 12) (.k (.int .i64 1))⟩,
  ⟨none, some 5, .mv (.t 13)⟩])))
abbrev F.gradusref10_add : FuncId := 44
def mc_gradusref10_add : MC :=
  (.seq (.reg [
  ⟨none, some 4, .mv (.k (.sl true 1 []))⟩])
  (.seq (.seq (.reg [
  ⟨none, some 5, .mv (.k (.int .i64 0))⟩])
  (.block 0 (.loop lp_gradusref10_add_0)))
  (.seq (.reg [
  ⟨none, some 69, .mv (.t 0)⟩,
  ⟨none, some 4, .mv (.t 69)⟩])
  .ret)))
theorem w_gradusref10_add {args : List DV} {v : DV} (hn : args.length ≤ 70) (h : DV.okL args → ∀ c : Ctx, c.N = 70 → c.pure → w_ Pg c mc_gradusref10_add (endQ [.tmp 4] v) ⟨⟩ ⟨argT 0 args, fun _ => .non, 0⟩) : PCall Pg F.gradusref10_add args v :=
  PCall.of_walk Tryz.func44 rfl (by kernel_rfl) (by kernel_rfl) (by kernel_rfl) hn fun o c e p => W.aw Pg_mixed (w_start (h o c e p))
theorem wm_gradusref10_add {args : List AV} {bs : List Blk} {v : AV} {bs' : List Blk} (hs : MStat args 70 bs v bs') (h : ∀ ts : List (Nat × Nat), ts.length = bs.length → AV.okL args → (∀ b, b ∈ bs → b.ok) → ∀ c : Ctx, c.N = 70 → c.pure → w_ Pg c mc_gradusref10_add (endM [.tmp 4] v bs' ts) ⟨⟩ ⟨argA 0 args, hpOf (bs ++ pinsL 0 ts), bs.length + ts.length⟩) : MCall Pg F.gradusref10_add args bs v bs' :=
  MCall.of_walk' Tryz.func44 rfl (by kernel_rfl) (by kernel_rfl) (by kernel_rfl) Pg_mixed hs h
def lv_gradusref10_Size_0 : List Nat := [1, 3, 4]
def lp_gradusref10_Size_0 : MC :=
  (.seq (.seq (.reg [
  ⟨none, some 6, .mv (.t 4)⟩,
  ⟨none, some 7, .faddr 3 (.t 1)⟩,
  ⟨none, some 8, .load false 1 (.t 7)⟩,
  ⟨none, some 9, .len (.t 8)⟩,
  ⟨none, some 10, .binI .lss (.t 6) (.t 9)⟩])
  (.cond (.t 10)
    .skip
    (.exit 0)))
  (.seq (.block 1
    (.reg [
    ⟨none, some 13, .mv (.t 3)⟩,
    ⟨none, some 14, .faddr 3 (.t 1)⟩,
    ⟨none, some 15, .load false 1 (.t 14)⟩,
    ⟨none, some 16, .mv (.t 4)⟩,
    ⟨none, some 17, .iaddrS 5 (.t 15) (.t 16)⟩,
    ⟨none, some 18, .load true 5 (.t 17)⟩,
    ⟨none, some 19, .call 23 [(.t 18)]⟩,
    ⟨none, some 20, .binI .add (.t 13) (.t 19)⟩,
    ⟨none, some 3, .mv (.t 20)⟩]))
  (.reg [
  ⟨none, some 11, .mv (.t 4)⟩,
  ⟨none, some 12, .binI .add (.t 11) (.k (.int .i64 1))⟩,
  ⟨none, some 4, .mv (.t 12)⟩])))
def lv_gradusref10_Size_2 : List Nat := [1, 3, 5]
def lp_gradusref10_Size_2 : MC :=
  (.seq (.seq (.reg [
  ⟨none, some 21, .mv (.t 5)⟩,
  ⟨none, some 22, .faddr 4 (.t 1)⟩,
  ⟨none, some 23, .load false 1 (.t 22)⟩,
  ⟨none, some 24, .len (.t 23)⟩,
  ⟨none, some 25, .binI .lss (.t 21) (.t 24)⟩])
  (.cond (.t 25)
    .skip
    (.exit 2)))
  (.seq (.block 3
    (.reg [
    ⟨none, some 28, .mv (.t 3)⟩,
    ⟨none, some 29, .faddr 4 (.t 1)⟩,
    ⟨none, some 30, .load false 1 (.t 29)⟩,
    ⟨none, some 31, .mv (.t 5)⟩,
    ⟨none, some 32, .iaddrS 5 (.t 30) (.t 31)⟩,
    ⟨none, some 33, .load true 5 (.t 32)⟩,
    ⟨none, some 34, .call 23 [(.t 33)]⟩,
    ⟨none, some 35, .binI .add (.t 28) (.t 34)⟩,
    ⟨none, some 3, .mv (.t 35)⟩]))
  (.reg [
  ⟨none, some 26, .mv (.t 5)⟩,
  ⟨none, some 27, .binI .add (.t 26) (.k (.int .i64 1))⟩,
  ⟨none, some 5, .mv (.t 27)⟩])))
abbrev F.gradusref10_Size : FuncId := 23
def mc_gradusref10_Size : MC :=
  (.seq (.reg [
  ⟨none, some 1, .boxP (.t 0)⟩,
  ⟨none, some 2, .mv (.k (.int .i64 0))⟩])
  (.seq (.reg [
  ⟨none, some 3, .mv (.k (.int .i64 1))⟩])
  (.seq (.seq (.reg [
  ⟨none, some 4, .mv (.k (.int .i64 0))⟩])
  (.block 0 (.loop lp_gradusref10_Size_0)))
  (.seq (.seq (.reg [
  ⟨none, some 5, .mv (.k (.int .i64 0))⟩])
  (.block 2 (.loop lp_gradusref10_Size_2)))
  (.seq (.reg [
  ⟨none, some 36, .mv (.t 3)⟩,
  ⟨none, some 2, .mv (.t 36)⟩])
  .ret)))))
theorem w_gradusref10_Size {args : List DV} {v : DV} (hn : args.length ≤ 37) (h : DV.okL args → ∀ c : Ctx, c.N = 37 → c.pure → w_ Pg c mc_gradusref10_Size (endQ [.tmp 2] v) ⟨⟩ ⟨argT 0 args, fun _ => .non, 0⟩) : PCall Pg F.gradusref10_Size args v :=
  PCall.of_walk Tryz.func23 rfl (by kernel_rfl) (by kernel_rfl) (by kernel_rfl) hn fun o c e p => W.aw Pg_mixed (w_start (h o c e p))
end Go.Gr
