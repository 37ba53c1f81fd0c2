/- The codes of a seat's functions, and what a walk through each gives: printed by a program of ours. -/
import Derived.Test.YtaonnnlgceillaaChecked
import Derived.KernelRfl
import Derived.Test.YtaonnnlgceillaaAbs24
set_option linter.unusedVariables false
namespace Go.Gr
open Go.Abs Go.Proofs
noncomputable abbrev Pg : Program := Try.prog
theorem Pg_mixed : Pg.follows .mixedOrders = true := Try.checked.mixed
def bs (l : List Nat) : ByteArray := ⟨(l.map UInt8.ofNat).toArray⟩

abbrev F.graduslaw18_VerifyCodes : FuncId := 3
def mc_graduslaw18_VerifyCodes : MC :=
  (.seq (.reg [
  ⟨none, some 1, .boxP (.t 0)⟩,
  ⟨none, some 2, .mv (.k (.bool false))⟩])
  (.seq (.reg [
  ⟨none, some 5, .call 8 []⟩,
  ⟨none, some 3, .mv (.t 5)⟩])
  (.seq (.reg [
  ⟨none, some 6, .load true 7 (.t 1)⟩,
  ⟨none, some 7, .call 9 [(.t 6)]⟩,
  ⟨none, some 4, .mv (.t 7)⟩])
  (.seq (.seq (.reg [
  ⟨none, some 8, .mv (.t 3)⟩,
  ⟨none, some 9, .not (.t 8)⟩,
  ⟨none, some 10, .mv (.t 9)⟩,
  ⟨(some (10, false)), some 11, .mv (.t 4)⟩,
  ⟨(some (10, false)), some 12, .not (.t 11)⟩,
  ⟨none, some 13, .pick (.t 10) (.k (.bool true)) (.t 12)⟩])
  (.cond (.t 13)
    (.seq (.reg [
    ⟨none, some 14, .mv (.t 3)⟩,
    ⟨none, some 2, .mv (.t 14)⟩])
    .ret)
    .skip))
  (.seq (.regd [0, 1, 0, 7, 15, 31] [
  ⟨none, some 15, .load true 7 (.t 1)⟩,
  ⟨none, some 16, .call 10 [(.t 15)]⟩,
  ⟨none, some 17, .load true 7 (.t 1)⟩,
  ⟨none, some 18, .call 11 [(.t 17)]⟩,
  ⟨none, some 19, .binB .eql (.t 16) (.t 18)⟩,
  ⟨none, some 2, .mv (.t 19)⟩])
  .ret)))))
theorem w_graduslaw18_VerifyCodes {args : List DV} {v : DV} (hn : args.length ≤ 20) (h : DV.okL args → ∀ c : Ctx, c.N = 20 → c.pure → w_ Pg c mc_graduslaw18_VerifyCodes (endQ [.tmp 2] v) ⟨⟩ ⟨argT 0 args, fun _ => .non, 0⟩) : PCall Pg F.graduslaw18_VerifyCodes args v :=
  PCall.of_walk Try.func3 rfl (by kernel_rfl) (by kernel_rfl) (by kernel_rfl) hn fun o c e p => W.aw Pg_mixed (w_start (h o c e p))
abbrev F.graduslaw18_VerifyAdds : FuncId := 4
def mc_graduslaw18_VerifyAdds : MC :=
  (.seq (.reg [
  ⟨none, some 3, .boxP (.t 0)⟩,
  ⟨none, some 6, .mv (.k (.bool false))⟩])
  (.seq (.reg [
  ⟨none, some 10, .call 8 []⟩,
  ⟨none, some 7, .mv (.t 10)⟩])
  (.seq (.reg [
  ⟨none, some 11, .load true 7 (.t 3)⟩,
  ⟨none, some 12, .call 9 [(.t 11)]⟩,
  ⟨none, some 8, .mv (.t 12)⟩])
  (.seq (.seq (.reg [
  ⟨none, some 13, .mv (.t 7)⟩,
  ⟨none, some 14, .not (.t 13)⟩,
  ⟨none, some 15, .mv (.t 14)⟩,
  ⟨(some (15, false)), some 16, .mv (.t 8)⟩,
  ⟨(some (15, false)), some 17, .not (.t 16)⟩,
  ⟨none, some 18, .pick (.t 15) (.k (.bool true)) (.t 17)⟩,
  ⟨none, some 19, .mv (.t 18)⟩,
  ⟨(some (19, false)), some 20, .load true 7 (.t 3)⟩,
  ⟨(some (19, false)), some 21, .call 10 [(.t 20)]⟩,
  ⟨(some (19, false)), some 22, .not (.t 21)⟩,
  ⟨none, some 23, .pick (.t 19) (.k (.bool true)) (.t 22)⟩,
  ⟨none, some 24, .mv (.t 23)⟩,
  ⟨(some (24, false)), some 25, .faddr 4 (.t 3)⟩,
  ⟨(some (24, false)), some 26, .load false 1 (.t 25)⟩,
  ⟨(some (24, false)), some 27, .len (.t 26)⟩,
  ⟨(some (24, false)), some 28, .binI .geq (.t 27) (.k (.int .i64 4000))⟩,
  ⟨none, some 29, .pick (.t 24) (.k (.bool true)) (.t 28)⟩])
  (.cond (.t 29)
    (.seq (.reg [
    ⟨none, some 30, .mv (.t 7)⟩,
    ⟨none, some 6, .mv (.t 30)⟩])
    .ret)
    .skip))
  (.seq (.reg [
  ⟨none, some 31, .load true 7 (.t 3)⟩,
  ⟨none, some 9, .alloc [.sl true 1 [], .sl true 1 [], .sl true 1 [], .sl true 5 [], .sl true 3 [], .int .i64 0, .bool false]⟩,
  ⟨none, none, .store 7 (.t 9) (.t 31)⟩])
  (.seq (.reg [
  ⟨none, some 32, .faddr 0 (.t 3)⟩,
  ⟨none, some 33, .load false 1 (.t 32)⟩,
  ⟨none, some 34, .append 1 8 (.k (.sl true 1 [])) (.t 33)⟩,
  ⟨none, some 35, .mv (.t 1)⟩,
  ⟨none, some 36, .buildSl 1 [(.t 35)]⟩,
  ⟨none, some 37, .append 1 8 (.t 34) (.t 36)⟩,
  ⟨none, some 38, .faddr 0 (.t 9)⟩,
  ⟨none, none, .store 1 (.t 38) (.t 37)⟩])
  (.seq (.reg [
  ⟨none, some 39, .faddr 1 (.t 3)⟩,
  ⟨none, some 40, .load false 1 (.t 39)⟩,
  ⟨none, some 41, .append 1 16 (.k (.sl true 1 [])) (.t 40)⟩,
  ⟨none, some 42, .mv (.t 2)⟩,
  ⟨none, some 43, .buildSl 1 [(.t 42)]⟩,
  ⟨none, some 44, .append 1 16 (.t 41) (.t 43)⟩,
  ⟨none, some 45, .faddr 1 (.t 9)⟩,
  ⟨none, none, .store 1 (.t 45) (.t 44)⟩])
  (.seq (.reg [
  ⟨none, some 46, .faddr 4 (.t 3)⟩,
  ⟨none, some 47, .load false 1 (.t 46)⟩,
  ⟨none, some 48, .append 3 40 (.k (.sl true 3 [])) (.t 47)⟩,
  ⟨none, some 49, .build [.int .i64 0, .int .i64 0, .int .i64 0, .int .i64 0] [(0, 1, (.k (.int .i64 23)))]⟩,
  ⟨none, some 50, .buildSl 4 [(.t 49)]⟩,
  ⟨none, some 51, .build [.int .i64 0, .int .i64 0, .sl true 4 []] [(1, 1, (.k (.int .i64 1))), (2, 1, (.t 50))]⟩,
  ⟨none, some 52, .buildSl 3 [(.t 51)]⟩,
  ⟨none, some 53, .append 3 40 (.t 48) (.t 52)⟩,
  ⟨none, some 54, .faddr 4 (.t 9)⟩,
  ⟨none, none, .store 1 (.t 54) (.t 53)⟩])
  (.seq (.fzq (.reg [
  ⟨none, some 55, .load true 7 (.t 9)⟩,
  ⟨none, some 56, .call 10 [(.t 55)]⟩,
  ⟨none, some 6, .mv (.t 56)⟩]))
  .ret)))))))))
theorem w_graduslaw18_VerifyAdds {args : List DV} {v : DV} (hn : args.length ≤ 57) (h : DV.okL args → ∀ c : Ctx, c.N = 57 → c.pure → w_ Pg c mc_graduslaw18_VerifyAdds (endQ [.tmp 6] v) ⟨⟩ ⟨argT 0 args, fun _ => .non, 0⟩) : PCall Pg F.graduslaw18_VerifyAdds args v :=
  PCall.of_walk Try.func4 rfl (by kernel_rfl) (by kernel_rfl) (by kernel_rfl) hn fun o c e p => W.aw Pg_mixed (w_start (h o c e p))
def lv_graduslaw18_VerifyUses_0 : List Nat := [7, 8, 9]
def lp_graduslaw18_VerifyUses_0 : MC :=
  (.seq (.seq (.reg [
  ⟨none, some 43, .mv (.t 9)⟩,
  ⟨none, some 44, .mv (.t 7)⟩,
  ⟨none, some 45, .len (.t 44)⟩,
  ⟨none, some 46, .binI .lss (.t 43) (.t 45)⟩])
  (.cond (.t 46)
    .skip
    (.exit 0)))
  (.seq (.block 1
    (.seq (.regd [0, 0, 3, 7, 0, 0, 48, 112, 255] [
    ⟨none, some 49, .mv (.t 7)⟩,
    ⟨none, some 50, .mv (.t 9)⟩,
    ⟨none, some 51, .iaddrS 1 (.t 49) (.t 50)⟩,
    ⟨none, some 52, .load false 1 (.t 51)⟩,
    ⟨none, some 53, .mv (.t 8)⟩,
    ⟨none, some 54, .mv (.t 9)⟩,
    ⟨none, some 55, .iaddrS 1 (.t 53) (.t 54)⟩,
    ⟨none, some 56, .load false 1 (.t 55)⟩,
    ⟨none, some 57, .binI .neq (.t 52) (.t 56)⟩])
    (.cond (.t 57)
      (.seq (.reg [
      ⟨none, some 4, .mv (.k (.bool false))⟩])
      .ret)
      .skip)))
  (.reg [
  ⟨none, some 47, .mv (.t 9)⟩,
  ⟨none, some 48, .binI .add (.t 47) (.k (.int .i64 1))⟩,
  ⟨none, some 9, .mv (.t 48)⟩])))
abbrev F.graduslaw18_VerifyUses : FuncId := 5
def mc_graduslaw18_VerifyUses : MC :=
  (.seq (.reg [
  ⟨none, some 2, .boxP (.t 0)⟩,
  ⟨none, some 3, .boxP (.t 1)⟩,
  ⟨none, some 4, .mv (.k (.bool false))⟩])
  (.seq (.reg [
  ⟨none, some 10, .call 8 []⟩,
  ⟨none, some 5, .mv (.t 10)⟩])
  (.seq (.reg [
  ⟨none, some 11, .load true 7 (.t 2)⟩,
  ⟨none, some 12, .call 9 [(.t 11)]⟩,
  ⟨none, some 6, .mv (.t 12)⟩])
  (.seq (.seq (.reg [
  ⟨none, some 13, .mv (.t 5)⟩,
  ⟨none, some 14, .not (.t 13)⟩,
  ⟨none, some 15, .mv (.t 14)⟩,
  ⟨(some (15, false)), some 16, .mv (.t 6)⟩,
  ⟨(some (15, false)), some 17, .not (.t 16)⟩,
  ⟨none, some 18, .pick (.t 15) (.k (.bool true)) (.t 17)⟩,
  ⟨none, some 19, .mv (.t 18)⟩,
  ⟨(some (19, false)), some 20, .faddr 3 (.t 3)⟩,
  ⟨(some (19, false)), some 21, .load false 1 (.t 20)⟩,
  ⟨(some (19, false)), some 22, .binI .gtr (.t 21) (.k (.int .i64 1152921504606846976))⟩,
  ⟨none, some 23, .pick (.t 19) (.k (.bool true)) (.t 22)⟩])
  (.cond (.t 23)
    (.seq (.reg [
    ⟨none, some 24, .mv (.t 5)⟩,
    ⟨none, some 4, .mv (.t 24)⟩])
    .ret)
    .skip))
  (.seq (.reg [
  ⟨none, some 25, .load true 7 (.t 2)⟩,
  ⟨none, some 26, .load true 4 (.t 3)⟩,
  ⟨none, some 27, .call 12 [(.t 25), (.t 26)]⟩,
  ⟨none, some 7, .mv (.t 27)⟩])
  (.seq (.reg [
  ⟨none, some 28, .load true 7 (.t 2)⟩,
  ⟨none, some 29, .load true 4 (.t 3)⟩,
  ⟨none, some 30, .callM 13 [(.t 28), (.t 29)]⟩,
  ⟨none, some 8, .mv (.t 30)⟩])
  (.seq (.seq (.regd [0, 1, 0, 4, 15, 31, 63, 127, 63, 511, 1023, 2047] [
  ⟨none, some 31, .mv (.t 7)⟩,
  ⟨none, some 32, .len (.t 31)⟩,
  ⟨none, some 33, .mv (.t 8)⟩,
  ⟨none, some 34, .len (.t 33)⟩,
  ⟨none, some 35, .binI .neq (.t 32) (.t 34)⟩,
  ⟨none, some 36, .mv (.t 35)⟩,
  ⟨(some (36, false)), some 37, .load true 4 (.t 3)⟩,
  ⟨(some (36, false)), some 38, .call 14 [(.t 37)]⟩,
  ⟨(some (36, false)), some 39, .load true 4 (.t 3)⟩,
  ⟨(some (36, false)), some 40, .call 15 [(.t 39)]⟩,
  ⟨(some (36, false)), some 41, .binI .neq (.t 38) (.t 40)⟩,
  ⟨none, some 42, .pick (.t 36) (.k (.bool true)) (.t 41)⟩])
  (.cond (.t 42)
    (.seq (.reg [
    ⟨none, some 4, .mv (.k (.bool false))⟩])
    .ret)
    .skip))
  (.seq (.seq (.reg [
  ⟨none, some 9, .mv (.k (.int .i64 0))⟩])
  (.block 0 (.loop lp_graduslaw18_VerifyUses_0)))
  (.seq (.reg [
  ⟨none, some 4, .mv (.k (.bool true))⟩])
  .ret)))))))))
theorem w_graduslaw18_VerifyUses {args : List DV} {v : DV} (hn : args.length ≤ 58) (h : DV.okL args → ∀ c : Ctx, c.N = 58 → c.pure → w_ Pg c mc_graduslaw18_VerifyUses (endQ [.tmp 4] v) ⟨⟩ ⟨argT 0 args, fun _ => .non, 0⟩) : PCall Pg F.graduslaw18_VerifyUses args v :=
  PCall.of_walk Try.func5 rfl (by kernel_rfl) (by kernel_rfl) (by kernel_rfl) hn fun o c e p => W.aw Pg_mixed (w_start (h o c e p))
def lv_graduslaw18_VerifyRegs_0 : List Nat := [1, 5]
def lp_graduslaw18_VerifyRegs_0 : MC :=
  (.seq (.seq (.reg [
  ⟨none, some 28, .mv (.t 5)⟩,
  ⟨none, some 29, .faddr 3 (.t 1)⟩,
  ⟨none, some 30, .load false 1 (.t 29)⟩,
  ⟨none, some 31, .len (.t 30)⟩,
  ⟨none, some 32, .binI .lss (.t 28) (.t 31)⟩])
  (.cond (.t 32)
    .skip
    (.exit 0)))
  (.seq (.block 1
    (.seq (.reg [
    ⟨none, some 35, .faddr 3 (.t 1)⟩,
    ⟨none, some 36, .load false 1 (.t 35)⟩,
    ⟨none, some 37, .mv (.t 5)⟩,
    ⟨none, some 38, .iaddrS 5 (.t 36) (.t 37)⟩,
    ⟨none, some 39, .load true 5 (.t 38)⟩,
    ⟨none, some 40, .call 16 [(.t 39)]⟩,
    ⟨none, some 6, .mv (.t 40)⟩])
    (.seq (.reg [
    ⟨none, some 41, .mv (.t 6)⟩,
    ⟨none, some 42, .not (.t 41)⟩])
    (.cond (.t 42)
      (.seq (.reg [
      ⟨none, some 2, .mv (.k (.bool false))⟩])
      .ret)
      .skip))))
  (.reg [
  ⟨none, some 33, .mv (.t 5)⟩,
  ⟨none, some 34, .binI .add (.t 33) (.k (.int .i64 1))⟩,
  ⟨none, some 5, .mv (.t 34)⟩])))
def lv_graduslaw18_VerifyRegs_6 : List Nat := [1, 7, 8, 9, 10, 12]
def lp_graduslaw18_VerifyRegs_6 : MC :=
  (.seq (.seq (.reg [
  ⟨none, some 79, .mv (.t 12)⟩,
  ⟨none, some 80, .mv (.t 10)⟩,
  ⟨none, some 81, .len (.t 80)⟩,
  ⟨none, some 82, .binI .lss (.t 79) (.t 81)⟩])
  (.cond (.t 82)
    .skip
    (.exit 6)))
  (.seq (.block 7
    (.seq (.regd [0, 0, 3, 7, 15, 31, 63, 63, 255, 511, 63, 1087, 4095, 8191] [
    ⟨none, some 85, .mv (.t 10)⟩,
    ⟨none, some 86, .mv (.t 12)⟩,
    ⟨none, some 87, .iaddrS 1 (.t 85) (.t 86)⟩,
    ⟨none, some 88, .load false 1 (.t 87)⟩,
    ⟨none, some 89, .binI .lss (.t 88) (.k (.int .i64 0))⟩,
    ⟨none, some 90, .mv (.t 89)⟩,
    ⟨(some (90, false)), some 91, .mv (.t 10)⟩,
    ⟨(some (90, false)), some 92, .mv (.t 12)⟩,
    ⟨(some (90, false)), some 93, .iaddrS 1 (.t 91) (.t 92)⟩,
    ⟨(some (90, false)), some 94, .load false 1 (.t 93)⟩,
    ⟨(some (90, false)), some 95, .faddr 1 (.t 8)⟩,
    ⟨(some (90, false)), some 96, .load false 1 (.t 95)⟩,
    ⟨(some (90, false)), some 97, .binI .geq (.t 94) (.t 96)⟩,
    ⟨none, some 98, .pick (.t 90) (.k (.bool true)) (.t 97)⟩])
    (.cond (.t 98)
      (.seq (.reg [
      ⟨none, some 2, .mv (.k (.bool false))⟩])
      .ret)
      .skip)))
  (.reg [
  ⟨none, some 83, .mv (.t 12)⟩,
  ⟨none, some 84, .binI .add (.t 83) (.k (.int .i64 1))⟩,
  ⟨none, some 12, .mv (.t 84)⟩])))
def lv_graduslaw18_VerifyRegs_4 : List Nat := [1, 7, 8, 9]
def lp_graduslaw18_VerifyRegs_4 : MC :=
  (.seq (.seq (.reg [
  ⟨none, some 55, .mv (.t 9)⟩,
  ⟨none, some 56, .faddr 2 (.t 8)⟩,
  ⟨none, some 57, .load false 1 (.t 56)⟩,
  ⟨none, some 58, .len (.t 57)⟩,
  ⟨none, some 59, .binI .lss (.t 55) (.t 58)⟩])
  (.cond (.t 59)
    .skip
    (.exit 4)))
  (.seq (.block 5
    (.seq (.regd [0, 0, 2, 0, 14, 30, 63, 127] [
    ⟨none, some 62, .load true 7 (.t 1)⟩,
    ⟨none, some 63, .faddr 2 (.t 8)⟩,
    ⟨none, some 64, .load false 1 (.t 63)⟩,
    ⟨none, some 65, .mv (.t 9)⟩,
    ⟨none, some 66, .iaddrS 4 (.t 64) (.t 65)⟩,
    ⟨none, some 67, .load true 4 (.t 66)⟩,
    ⟨none, some 68, .call 12 [(.t 62), (.t 67)]⟩,
    ⟨none, some 10, .mv (.t 68)⟩])
    (.seq (.reg [
    ⟨none, some 69, .faddr 2 (.t 8)⟩,
    ⟨none, some 70, .load false 1 (.t 69)⟩,
    ⟨none, some 71, .mv (.t 9)⟩,
    ⟨none, some 72, .iaddrS 4 (.t 70) (.t 71)⟩,
    ⟨none, some 73, .load true 4 (.t 72)⟩,
    ⟨none, some 74, .call 14 [(.t 73)]⟩,
    ⟨none, some 11, .mv (.t 74)⟩])
    (.seq (.seq (.reg [
    ⟨none, some 75, .mv (.t 11)⟩,
    ⟨none, some 76, .faddr 1 (.t 8)⟩,
    ⟨none, some 77, .load false 1 (.t 76)⟩,
    ⟨none, some 78, .binI .geq (.t 75) (.t 77)⟩])
    (.cond (.t 78)
      (.seq (.reg [
      ⟨none, some 2, .mv (.k (.bool false))⟩])
      .ret)
      .skip))
    (.seq (.reg [
    ⟨none, some 12, .mv (.k (.int .i64 0))⟩])
    (.block 6 (.loop lp_graduslaw18_VerifyRegs_6)))))))
  (.reg [
  ⟨none, some 60, .mv (.t 9)⟩,
  ⟨none, some 61, .binI .add (.t 60) (.k (.int .i64 1))⟩,
  ⟨none, some 9, .mv (.t 61)⟩])))
def lv_graduslaw18_VerifyRegs_2 : List Nat := [1, 7]
def lp_graduslaw18_VerifyRegs_2 : MC :=
  (.seq (.seq (.reg [
  ⟨none, some 43, .mv (.t 7)⟩,
  ⟨none, some 44, .faddr 4 (.t 1)⟩,
  ⟨none, some 45, .load false 1 (.t 44)⟩,
  ⟨none, some 46, .len (.t 45)⟩,
  ⟨none, some 47, .binI .lss (.t 43) (.t 46)⟩])
  (.cond (.t 47)
    .skip
    (.exit 2)))
  (.seq (.block 3
    (.seq (.reg [
    ⟨none, some 50, .faddr 4 (.t 1)⟩,
    ⟨none, some 51, .load false 1 (.t 50)⟩,
    ⟨none, some 52, .mv (.t 7)⟩,
    ⟨none, some 53, .iaddrS 3 (.t 51) (.t 52)⟩,
    ⟨none, some 54, .load true 3 (.t 53)⟩,
    ⟨none, some 8, .alloc [.int .i64 0, .int .i64 0, .sl true 4 []]⟩,
    ⟨none, none, .store 3 (.t 8) (.t 54)⟩])
    (.seq (.reg [
    ⟨none, some 9, .mv (.k (.int .i64 0))⟩])
    (.block 4 (.loop lp_graduslaw18_VerifyRegs_4)))))
  (.reg [
  ⟨none, some 48, .mv (.t 7)⟩,
  ⟨none, some 49, .binI .add (.t 48) (.k (.int .i64 1))⟩,
  ⟨none, some 7, .mv (.t 49)⟩])))
abbrev F.graduslaw18_VerifyRegs : FuncId := 6
def mc_graduslaw18_VerifyRegs : MC :=
  (.seq (.reg [
  ⟨none, some 1, .boxP (.t 0)⟩,
  ⟨none, some 2, .mv (.k (.bool false))⟩])
  (.seq (.reg [
  ⟨none, some 13, .call 8 []⟩,
  ⟨none, some 3, .mv (.t 13)⟩])
  (.seq (.reg [
  ⟨none, some 14, .load true 7 (.t 1)⟩,
  ⟨none, some 15, .call 9 [(.t 14)]⟩,
  ⟨none, some 4, .mv (.t 15)⟩])
  (.seq (.seq (.reg [
  ⟨none, some 16, .mv (.t 3)⟩,
  ⟨none, some 17, .not (.t 16)⟩,
  ⟨none, some 18, .mv (.t 17)⟩,
  ⟨(some (18, false)), some 19, .mv (.t 4)⟩,
  ⟨(some (18, false)), some 20, .not (.t 19)⟩,
  ⟨none, some 21, .pick (.t 18) (.k (.bool true)) (.t 20)⟩,
  ⟨none, some 22, .mv (.t 21)⟩,
  ⟨(some (22, false)), some 23, .load true 7 (.t 1)⟩,
  ⟨(some (22, false)), some 24, .call 10 [(.t 23)]⟩,
  ⟨(some (22, false)), some 25, .not (.t 24)⟩,
  ⟨none, some 26, .pick (.t 22) (.k (.bool true)) (.t 25)⟩])
  (.cond (.t 26)
    (.seq (.reg [
    ⟨none, some 27, .mv (.t 3)⟩,
    ⟨none, some 2, .mv (.t 27)⟩])
    .ret)
    .skip))
  (.seq (.seq (.reg [
  ⟨none, some 5, .mv (.k (.int .i64 0))⟩])
  (.block 0 (.loop lp_graduslaw18_VerifyRegs_0)))
  (.seq (.seq (.reg [
  ⟨none, some 7, .mv (.k (.int .i64 0))⟩])
  (.block 2 (.loop lp_graduslaw18_VerifyRegs_2)))
  (.seq (.reg [
  ⟨none, some 99, .faddr 5 (.t 1)⟩,
  ⟨none, some 100, .load false 1 (.t 99)⟩,
  ⟨none, some 101, .binI .geq (.t 100) (.k (.int .i64 0))⟩,
  ⟨none, some 102, .mv (.t 101)⟩,
  ⟨(some (102, true)), some 103, .faddr 5 (.t 1)⟩,
  ⟨(some (102, true)), some 104, .load false 1 (.t 103)⟩,
  ⟨(some (102, true)), some 105, .faddr 4 (.t 1)⟩,
  ⟨(some (102, true)), some 106, .load false 1 (.t 105)⟩,
  ⟨(some (102, true)), some 107, .len (.t 106)⟩,
  ⟨(some (102, true)), some 108, .binI .lss (.t 104) (.t 107)⟩,
  ⟨none, some 109, .pick (.t 102) (.t 108) (.k (.bool false))⟩,
  ⟨none, some 2, .mv (.t 109)⟩])
  .ret)))))))
theorem w_graduslaw18_VerifyRegs {args : List DV} {v : DV} (hn : args.length ≤ 110) (h : DV.okL args → ∀ c : Ctx, c.N = 110 → c.pure → w_ Pg c mc_graduslaw18_VerifyRegs (endQ [.tmp 2] v) ⟨⟩ ⟨argT 0 args, fun _ => .non, 0⟩) : PCall Pg F.graduslaw18_VerifyRegs args v :=
  PCall.of_walk Try.func6 rfl (by kernel_rfl) (by kernel_rfl) (by kernel_rfl) hn fun o c e p => W.aw Pg_mixed (w_start (h o c e p))
def lv_graduslaw18_VerifyOne_0 : List Nat := [9, 11, 12, 14, 15]
def lp_graduslaw18_VerifyOne_0 : MC :=
  (.seq (.seq (.reg [
  ⟨none, some 83, .mv (.t 15)⟩,
  ⟨none, some 84, .mv (.t 12)⟩,
  ⟨none, some 85, .len (.t 84)⟩,
  ⟨none, some 86, .binI .lss (.t 83) (.t 85)⟩])
  (.cond (.t 86)
    .skip
    (.exit 0)))
  (.seq (.block 1
    (.regd [0, 1, 3, 3, 15, 31, 63, 127, 255, 511, 511, 2047, 4095, 511, 8703, 32767, 65535, 131071] [
    ⟨none, some 89, .mv (.t 14)⟩,
    ⟨none, some 90, .mv (.t 89)⟩,
    ⟨(some (90, true)), some 91, .mv (.t 12)⟩,
    ⟨(some (90, true)), some 92, .mv (.t 15)⟩,
    ⟨(some (90, true)), some 93, .iaddrS 1 (.t 91) (.t 92)⟩,
    ⟨(some (90, true)), some 94, .load false 1 (.t 93)⟩,
    ⟨(some (90, true)), some 95, .binI .geq (.t 94) (.k (.int .i64 0))⟩,
    ⟨none, some 96, .pick (.t 90) (.t 95) (.k (.bool false))⟩,
    ⟨none, some 97, .mv (.t 96)⟩,
    ⟨(some (97, true)), some 98, .mv (.t 12)⟩,
    ⟨(some (97, true)), some 99, .mv (.t 15)⟩,
    ⟨(some (97, true)), some 100, .iaddrS 1 (.t 98) (.t 99)⟩,
    ⟨(some (97, true)), some 101, .load false 1 (.t 100)⟩,
    ⟨(some (97, true)), some 102, .faddr 1 (.t 9)⟩,
    ⟨(some (97, true)), some 103, .load false 1 (.t 102)⟩,
    ⟨(some (97, true)), some 104, .binI .lss (.t 101) (.t 103)⟩,
    ⟨none, some 105, .pick (.t 97) (.t 104) (.k (.bool false))⟩,
    ⟨none, some 14, .mv (.t 105)⟩]))
  (.reg [
  ⟨none, some 87, .mv (.t 15)⟩,
  ⟨none, some 88, .binI .add (.t 87) (.k (.int .i64 1))⟩,
  ⟨none, some 15, .mv (.t 88)⟩])))
abbrev F.graduslaw18_VerifyOne : FuncId := 7
def mc_graduslaw18_VerifyOne : MC :=
  (.seq (.reg [
  ⟨none, some 2, .boxP (.t 0)⟩,
  ⟨none, some 3, .boxP (.t 1)⟩,
  ⟨none, some 4, .mv (.k (.bool false))⟩])
  (.seq (.reg [
  ⟨none, some 16, .call 8 []⟩,
  ⟨none, some 5, .mv (.t 16)⟩])
  (.seq (.reg [
  ⟨none, some 17, .load true 7 (.t 2)⟩,
  ⟨none, some 18, .call 9 [(.t 17)]⟩,
  ⟨none, some 6, .mv (.t 18)⟩])
  (.seq (.seq (.reg [
  ⟨none, some 19, .mv (.t 5)⟩,
  ⟨none, some 20, .not (.t 19)⟩,
  ⟨none, some 21, .mv (.t 20)⟩,
  ⟨(some (21, false)), some 22, .mv (.t 6)⟩,
  ⟨(some (21, false)), some 23, .not (.t 22)⟩,
  ⟨none, some 24, .pick (.t 21) (.k (.bool true)) (.t 23)⟩,
  ⟨none, some 25, .mv (.t 24)⟩,
  ⟨(some (25, false)), some 26, .load true 7 (.t 2)⟩,
  ⟨(some (25, false)), some 27, .call 10 [(.t 26)]⟩,
  ⟨(some (25, false)), some 28, .not (.t 27)⟩,
  ⟨none, some 29, .pick (.t 25) (.k (.bool true)) (.t 28)⟩])
  (.cond (.t 29)
    (.seq (.reg [
    ⟨none, some 30, .mv (.t 5)⟩,
    ⟨none, some 4, .mv (.t 30)⟩])
    .ret)
    .skip))
  (.seq (.reg [
  ⟨none, some 31, .faddr 4 (.t 2)⟩,
  ⟨none, some 32, .load false 1 (.t 31)⟩,
  ⟨none, some 33, .faddr 5 (.t 2)⟩,
  ⟨none, some 34, .load false 1 (.t 33)⟩,
  ⟨none, some 35, .iaddrS 3 (.t 32) (.t 34)⟩,
  ⟨none, some 36, .load true 3 (.t 35)⟩,
  ⟨none, some 7, .alloc [.int .i64 0, .int .i64 0, .sl true 4 []]⟩,
  ⟨none, none, .store 3 (.t 7) (.t 36)⟩])
  (.seq (.reg [
  ⟨none, some 37, .faddr 2 (.t 7)⟩,
  ⟨none, some 38, .load false 1 (.t 37)⟩,
  ⟨none, some 39, .len (.t 38)⟩,
  ⟨none, some 40, .binI .sub (.t 39) (.k (.int .i64 1))⟩,
  ⟨none, some 8, .mv (.t 40)⟩])
  (.seq (.reg [
  ⟨none, some 41, .load true 3 (.t 7)⟩,
  ⟨none, some 9, .alloc [.int .i64 0, .int .i64 0, .sl true 4 []]⟩,
  ⟨none, none, .store 3 (.t 9) (.t 41)⟩])
  (.seq (.regd [0, 1, 0, 7, 15, 0, 32, 127, 255, 511] [
  ⟨none, some 42, .faddr 2 (.t 7)⟩,
  ⟨none, some 43, .load false 1 (.t 42)⟩,
  ⟨none, some 44, .mv (.t 8)⟩,
  ⟨none, some 45, .slice 4 (.t 43) none (some (.t 44))⟩,
  ⟨none, some 46, .append 4 32 (.k (.sl true 4 [])) (.t 45)⟩,
  ⟨none, some 47, .load true 4 (.t 3)⟩,
  ⟨none, some 48, .buildSl 4 [(.t 47)]⟩,
  ⟨none, some 49, .append 4 32 (.t 46) (.t 48)⟩,
  ⟨none, some 50, .faddr 2 (.t 9)⟩,
  ⟨none, none, .store 1 (.t 50) (.t 49)⟩])
  (.seq (.regd [0, 1, 0, 4, 0, 28, 60, 124, 255, 511, 1023] [
  ⟨none, some 51, .faddr 2 (.t 9)⟩,
  ⟨none, some 52, .load false 1 (.t 51)⟩,
  ⟨none, some 53, .faddr 2 (.t 7)⟩,
  ⟨none, some 54, .load false 1 (.t 53)⟩,
  ⟨none, some 55, .mv (.t 8)⟩,
  ⟨none, some 56, .iaddrS 4 (.t 54) (.t 55)⟩,
  ⟨none, some 57, .load true 4 (.t 56)⟩,
  ⟨none, some 58, .buildSl 4 [(.t 57)]⟩,
  ⟨none, some 59, .append 4 32 (.t 52) (.t 58)⟩,
  ⟨none, some 60, .faddr 2 (.t 9)⟩,
  ⟨none, none, .store 1 (.t 60) (.t 59)⟩])
  (.seq (.reg [
  ⟨none, some 61, .load true 7 (.t 2)⟩,
  ⟨none, some 10, .alloc [.sl true 1 [], .sl true 1 [], .sl true 1 [], .sl true 5 [], .sl true 3 [], .int .i64 0, .bool false]⟩,
  ⟨none, none, .store 7 (.t 10) (.t 61)⟩])
  (.seq (.reg [
  ⟨none, some 62, .faddr 4 (.t 2)⟩,
  ⟨none, some 63, .load false 1 (.t 62)⟩,
  ⟨none, some 64, .append 3 40 (.k (.sl true 3 [])) (.t 63)⟩,
  ⟨none, some 65, .faddr 4 (.t 10)⟩,
  ⟨none, none, .store 1 (.t 65) (.t 64)⟩])
  (.seq (.reg [
  ⟨none, some 66, .faddr 4 (.t 10)⟩,
  ⟨none, some 67, .load false 1 (.t 66)⟩,
  ⟨none, some 68, .faddr 5 (.t 2)⟩,
  ⟨none, some 69, .load false 1 (.t 68)⟩,
  ⟨none, some 70, .load true 3 (.t 9)⟩,
  ⟨none, some 71, .iaddrS 3 (.t 67) (.t 69)⟩,
  ⟨none, none, .store 3 (.t 71) (.t 70)⟩])
  (.seq (.fzq (.reg [
  ⟨none, some 72, .load true 7 (.t 10)⟩,
  ⟨none, some 73, .call 10 [(.t 72)]⟩,
  ⟨none, some 11, .mv (.t 73)⟩]))
  (.seq (.reg [
  ⟨none, some 74, .load true 7 (.t 10)⟩,
  ⟨none, some 75, .load true 4 (.t 3)⟩,
  ⟨none, some 76, .call 12 [(.t 74), (.t 75)]⟩,
  ⟨none, some 12, .mv (.t 76)⟩])
  (.seq (.reg [
  ⟨none, some 77, .load true 4 (.t 3)⟩,
  ⟨none, some 78, .call 14 [(.t 77)]⟩,
  ⟨none, some 13, .mv (.t 78)⟩])
  (.seq (.reg [
  ⟨none, some 79, .mv (.t 13)⟩,
  ⟨none, some 80, .faddr 1 (.t 9)⟩,
  ⟨none, some 81, .load false 1 (.t 80)⟩,
  ⟨none, some 82, .binI .lss (.t 79) (.t 81)⟩,
  ⟨none, some 14, .mv (.t 82)⟩])
  (.seq (.seq (.reg [
  ⟨none, some 15, .mv (.k (.int .i64 0))⟩])
  (.block 0 (.loop lp_graduslaw18_VerifyOne_0)))
  (.seq (.reg [
  ⟨none, some 106, .mv (.t 11)⟩,
  ⟨none, some 107, .not (.t 106)⟩,
  ⟨none, some 108, .mv (.t 107)⟩,
  ⟨(some (108, false)), some 109, .mv (.t 14)⟩,
  ⟨none, some 110, .pick (.t 108) (.k (.bool true)) (.t 109)⟩,
  ⟨none, some 4, .mv (.t 110)⟩])
  .ret))))))))))))))))))
theorem w_graduslaw18_VerifyOne {args : List DV} {v : DV} (hn : args.length ≤ 111) (h : DV.okL args → ∀ c : Ctx, c.N = 111 → c.pure → w_ Pg c mc_graduslaw18_VerifyOne (endQ [.tmp 4] v) ⟨⟩ ⟨argT 0 args, fun _ => .non, 0⟩) : PCall Pg F.graduslaw18_VerifyOne args v :=
  PCall.of_walk Try.func7 rfl (by kernel_rfl) (by kernel_rfl) (by kernel_rfl) hn fun o c e p => W.aw Pg_mixed (w_start (h o c e p))
abbrev F.graduslaw18_awake : FuncId := 8
def mc_graduslaw18_awake : MC :=
  (.seq (.reg [
  ⟨none, some 0, .mv (.k (.bool false))⟩])
  (.seq (.reg [
  ⟨none, some 2, .build [.int .i64 0, .int .i64 0, .int .i64 0, .int .i64 0] [(0, 1, (.k (.int .i64 23)))]⟩,
  ⟨none, some 3, .buildSl 4 [(.t 2)]⟩,
  ⟨none, some 4, .build [.int .i64 0, .int .i64 0, .sl true 4 []] [(1, 1, (.k (.int .i64 1))), (2, 1, (.t 3))]⟩,
  ⟨none, some 1, .alloc [.int .i64 0, .int .i64 0, .sl true 4 []]⟩,
  ⟨none, none, .store 3 (.t 1) (.t 4)⟩])
  (.seq (.reg [
  ⟨none, some 5, .load true 3 (.t 1)⟩,
  ⟨none, some 6, .buildSl 3 [(.t 5)]⟩,
  ⟨none, some 7, .build [.sl true 1 [], .sl true 1 [], .sl true 1 [], .sl true 5 [], .sl true 3 [], .int .i64 0, .bool false] [(4, 1, (.t 6))]⟩,
  ⟨none, some 8, .call 10 [(.t 7)]⟩,
  ⟨none, some 9, .mv (.t 8)⟩,
  ⟨(some (9, true)), some 10, .faddr 2 (.t 1)⟩,
  ⟨(some (9, true)), some 11, .load false 1 (.t 10)⟩,
  ⟨(some (9, true)), some 12, .build [.int .i64 0, .int .i64 0, .sl true 4 []] [(2, 1, (.t 11))]⟩,
  ⟨(some (9, true)), some 13, .buildSl 3 [(.t 12)]⟩,
  ⟨(some (9, true)), some 14, .build [.sl true 1 [], .sl true 1 [], .sl true 1 [], .sl true 5 [], .sl true 3 [], .int .i64 0, .bool false] [(4, 1, (.t 13))]⟩,
  ⟨(some (9, true)), some 15, .call 10 [(.t 14)]⟩,
  ⟨(some (9, true)), some 16, .not (.t 15)⟩,
  ⟨none, some 17, .pick (.t 9) (.t 16) (.k (.bool false))⟩,
  ⟨none, some 18, .mv (.t 17)⟩,
  ⟨(some (18, true)), some 19, .build [.int .i64 0, .int .i64 0, .int .i64 0, .int .i64 0] [(0, 1, (.k (.int .i64 14))), (1, 1, (.k (.int .i64 3)))]⟩,
  ⟨(some (18, true)), some 20, .call 14 [(.t 19)]⟩,
  ⟨(some (18, true)), some 21, .binI .eql (.t 20) (.k (.int .i64 3))⟩,
  ⟨none, some 22, .pick (.t 18) (.t 21) (.k (.bool false))⟩,
  ⟨none, some 23, .mv (.t 22)⟩,
  ⟨(some (23, true)), some 24, .build [.int .i64 0, .int .i64 0, .int .i64 0, .int .i64 0] [(0, 1, (.k (.int .i64 23))), (1, 1, (.k (.int .i64 3)))]⟩,
  ⟨(some (23, true)), some 25, .call 14 [(.t 24)]⟩,
  ⟨(some (23, true)), some 26, .binI .eql (.t 25) (.k (.int .i64 (-1)))⟩,
  ⟨none, some 27, .pick (.t 23) (.t 26) (.k (.bool false))⟩,
  ⟨none, some 0, .mv (.t 27)⟩])
  .ret)))
theorem w_graduslaw18_awake {args : List DV} {v : DV} (hn : args.length ≤ 28) (h : DV.okL args → ∀ c : Ctx, c.N = 28 → c.pure → w_ Pg c mc_graduslaw18_awake (endQ [.tmp 0] v) ⟨⟩ ⟨argT 0 args, fun _ => .non, 0⟩) : PCall Pg F.graduslaw18_awake args v :=
  PCall.of_walk Try.func8 rfl (by kernel_rfl) (by kernel_rfl) (by kernel_rfl) hn fun o c e p => W.aw Pg_mixed (w_start (h o c e p))
def lv_graduslaw18_Sized_0 : List Nat := [1, 3]
def lp_graduslaw18_Sized_0 : MC :=
  (.seq (.seq (.reg [
  ⟨none, some 35, .mv (.t 3)⟩,
  ⟨none, some 36, .faddr 4 (.t 1)⟩,
  ⟨none, some 37, .load false 1 (.t 36)⟩,
  ⟨none, some 38, .len (.t 37)⟩,
  ⟨none, some 39, .binI .lss (.t 35) (.t 38)⟩])
  (.cond (.t 39)
    .skip
    (.exit 0)))
  (.seq (.block 1
    (.seq (.reg [
    ⟨none, some 42, .faddr 4 (.t 1)⟩,
    ⟨none, some 43, .load false 1 (.t 42)⟩,
    ⟨none, some 44, .mv (.t 3)⟩,
    ⟨none, some 45, .iaddrS 3 (.t 43) (.t 44)⟩,
    ⟨none, some 46, .faddr 2 (.t 45)⟩,
    ⟨none, some 47, .load false 1 (.t 46)⟩,
    ⟨none, some 48, .len (.t 47)⟩,
    ⟨none, some 49, .binI .gtr (.t 48) (.k (.int .i64 300))⟩])
    (.cond (.t 49)
      (.seq (.reg [
      ⟨none, some 2, .mv (.k (.bool false))⟩])
      .ret)
      .skip)))
  (.reg [
  ⟨none, some 40, .mv (.t 3)⟩,
  ⟨none, some 41, .binI .add (.t 40) (.k (.int .i64 1))⟩,
  ⟨none, some 3, .mv (.t 41)⟩])))
def lv_graduslaw18_Sized_2 : List Nat := [1, 4, 5]
def lp_graduslaw18_Sized_2 : MC :=
  (.seq (.seq (.reg [
  ⟨none, some 50, .mv (.t 5)⟩,
  ⟨none, some 51, .faddr 3 (.t 1)⟩,
  ⟨none, some 52, .load false 1 (.t 51)⟩,
  ⟨none, some 53, .len (.t 52)⟩,
  ⟨none, some 54, .binI .lss (.t 50) (.t 53)⟩,
  ⟨none, some 55, .mv (.t 54)⟩,
  ⟨(some (55, true)), some 56, .mv (.t 4)⟩,
  ⟨(some (55, true)), some 57, .binI .gtr (.t 56) (.k (.int .i64 0))⟩,
  ⟨none, some 58, .pick (.t 55) (.t 57) (.k (.bool false))⟩])
  (.cond (.t 58)
    .skip
    (.exit 2)))
  (.seq (.block 3
    (.reg [
    ⟨none, some 61, .faddr 3 (.t 1)⟩,
    ⟨none, some 62, .load false 1 (.t 61)⟩,
    ⟨none, some 63, .mv (.t 5)⟩,
    ⟨none, some 64, .iaddrS 5 (.t 62) (.t 63)⟩,
    ⟨none, some 65, .load true 5 (.t 64)⟩,
    ⟨none, some 66, .mv (.t 4)⟩,
    ⟨none, some 67, .call 17 [(.t 65), (.t 66)]⟩,
    ⟨none, some 4, .mv (.t 67)⟩]))
  (.reg [
  ⟨none, some 59, .mv (.t 5)⟩,
  ⟨none, some 60, .binI .add (.t 59) (.k (.int .i64 1))⟩,
  ⟨none, some 5, .mv (.t 60)⟩])))
def lv_graduslaw18_Sized_4 : List Nat := [1, 4, 6]
def lp_graduslaw18_Sized_4 : MC :=
  (.seq (.seq (.reg [
  ⟨none, some 68, .mv (.t 6)⟩,
  ⟨none, some 69, .faddr 2 (.t 1)⟩,
  ⟨none, some 70, .load false 1 (.t 69)⟩,
  ⟨none, some 71, .len (.t 70)⟩,
  ⟨none, some 72, .binI .lss (.t 68) (.t 71)⟩])
  (.cond (.t 72)
    .skip
    (.exit 4)))
  (.seq (.block 5
    (.seq (.reg [
    ⟨none, some 75, .faddr 2 (.t 1)⟩,
    ⟨none, some 76, .load false 1 (.t 75)⟩,
    ⟨none, some 77, .mv (.t 6)⟩,
    ⟨none, some 78, .iaddrS 1 (.t 76) (.t 77)⟩,
    ⟨none, some 79, .load false 1 (.t 78)⟩,
    ⟨none, some 80, .len (.t 79)⟩,
    ⟨none, some 81, .binI .gtr (.t 80) (.k (.int .i64 1000))⟩])
    (.cond (.t 81)
      (.seq (.reg [
      ⟨none, some 2, .mv (.k (.bool false))⟩])
      .ret)
      .skip)))
  (.reg [
  ⟨none, some 73, .mv (.t 6)⟩,
  ⟨none, some 74, .binI .add (.t 73) (.k (.int .i64 1))⟩,
  ⟨none, some 6, .mv (.t 74)⟩])))
abbrev F.graduslaw18_Sized : FuncId := 9
def mc_graduslaw18_Sized : MC :=
  (.seq (.reg [
  ⟨none, some 1, .boxP (.t 0)⟩,
  ⟨none, some 2, .mv (.k (.bool false))⟩])
  (.seq (.seq (.reg [
  ⟨none, some 7, .faddr 4 (.t 1)⟩,
  ⟨none, some 8, .load false 1 (.t 7)⟩,
  ⟨none, some 9, .len (.t 8)⟩,
  ⟨none, some 10, .binI .gtr (.t 9) (.k (.int .i64 50))⟩,
  ⟨none, some 11, .mv (.t 10)⟩,
  ⟨(some (11, false)), some 12, .faddr 3 (.t 1)⟩,
  ⟨(some (11, false)), some 13, .load false 1 (.t 12)⟩,
  ⟨(some (11, false)), some 14, .len (.t 13)⟩,
  ⟨(some (11, false)), some 15, .binI .gtr (.t 14) (.k (.int .i64 50))⟩,
  ⟨none, some 16, .pick (.t 11) (.k (.bool true)) (.t 15)⟩,
  ⟨none, some 17, .mv (.t 16)⟩,
  ⟨(some (17, false)), some 18, .faddr 2 (.t 1)⟩,
  ⟨(some (17, false)), some 19, .load false 1 (.t 18)⟩,
  ⟨(some (17, false)), some 20, .len (.t 19)⟩,
  ⟨(some (17, false)), some 21, .binI .gtr (.t 20) (.k (.int .i64 50))⟩,
  ⟨none, some 22, .pick (.t 17) (.k (.bool true)) (.t 21)⟩,
  ⟨none, some 23, .mv (.t 22)⟩,
  ⟨(some (23, false)), some 24, .faddr 0 (.t 1)⟩,
  ⟨(some (23, false)), some 25, .load false 1 (.t 24)⟩,
  ⟨(some (23, false)), some 26, .len (.t 25)⟩,
  ⟨(some (23, false)), some 27, .binI .gtr (.t 26) (.k (.int .i64 10000))⟩,
  ⟨none, some 28, .pick (.t 23) (.k (.bool true)) (.t 27)⟩,
  ⟨none, some 29, .mv (.t 28)⟩,
  ⟨(some (29, false)), some 30, .faddr 1 (.t 1)⟩,
  ⟨(some (29, false)), some 31, .load false 1 (.t 30)⟩,
  ⟨(some (29, false)), some 32, .len (.t 31)⟩,
  ⟨(some (29, false)), some 33, .binI .gtr (.t 32) (.k (.int .i64 10000))⟩,
  ⟨none, some 34, .pick (.t 29) (.k (.bool true)) (.t 33)⟩])
  (.cond (.t 34)
    (.seq (.reg [
    ⟨none, some 2, .mv (.k (.bool false))⟩])
    .ret)
    .skip))
  (.seq (.seq (.reg [
  ⟨none, some 3, .mv (.k (.int .i64 0))⟩])
  (.block 0 (.loop lp_graduslaw18_Sized_0)))
  (.seq (.reg [
  ⟨none, some 4, .mv (.k (.int .i64 300))⟩])
  (.seq (.seq (.reg [
  ⟨none, some 5, .mv (.k (.int .i64 0))⟩])
  (.block 2 (.loop lp_graduslaw18_Sized_2)))
  (.seq (.seq (.reg [
  ⟨none, some 6, .mv (.k (.int .i64 0))⟩])
  (.block 4 (.loop lp_graduslaw18_Sized_4)))
  (.seq (.reg [
  ⟨none, some 82, .mv (.t 4)⟩,
  ⟨none, some 83, .binI .gtr (.t 82) (.k (.int .i64 0))⟩,
  ⟨none, some 2, .mv (.t 83)⟩])
  .ret)))))))
theorem w_graduslaw18_Sized {args : List DV} {v : DV} (hn : args.length ≤ 84) (h : DV.okL args → ∀ c : Ctx, c.N = 84 → c.pure → w_ Pg c mc_graduslaw18_Sized (endQ [.tmp 2] v) ⟨⟩ ⟨argT 0 args, fun _ => .non, 0⟩) : PCall Pg F.graduslaw18_Sized args v :=
  PCall.of_walk Try.func9 rfl (by kernel_rfl) (by kernel_rfl) (by kernel_rfl) hn fun o c e p => W.aw Pg_mixed (w_start (h o c e p))
def lv_verify_Verify_0 : List Nat := [1, 29, 30, 31]
def lp_verify_Verify_0 : MC :=
  (.seq (.reg [
  ⟨none, some 32, .binI .lss (.t 31) (.t 30)⟩])
  (.seq (.cond (.t 32)
    .skip
    (.exit 0))
  (.seq (.block 1
    (.seq (.reg [
    ⟨none, some 33, .iaddrS 3 (.t 29) (.t 31)⟩,
    ⟨none, some 34, .load true 3 (.t 33)⟩,
    ⟨none, some 4, .alloc [.int .i64 0, .int .i64 0, .sl true 4 []]⟩,
    ⟨none, none, .store 3 (.t 4) (.t 34)⟩])
    (.seq (.reg [
    ⟨none, some 35, .load true 7 (.t 1)⟩,
    ⟨none, some 36, .load true 3 (.t 4)⟩,
    ⟨none, some 37, .call 19 [(.t 35), (.t 36)]⟩,
    ⟨none, some 38, .not (.t 37)⟩])
    (.cond (.t 38)
      (.seq (.reg [
      ⟨none, some 2, .mv (.k (.bool false))⟩])
      .ret)
      .skip))))
  (.reg [
  ⟨none, some 39, .binI .add (.t 31) (.k (.int .i64 1))⟩,
  ⟨none, some 31, .mv (.t 39)⟩]))))
abbrev F.verify_Verify : FuncId := 10
def mc_verify_Verify : MC :=
  (.seq (.reg [
  ⟨none, some 1, .boxP (.t 0)⟩,
  ⟨none, some 2, .mv (.k (.bool false))⟩])
  (.seq (.seq (.reg [
  ⟨none, some 5, .faddr 4 (.t 1)⟩,
  ⟨none, some 6, .load false 1 (.t 5)⟩,
  ⟨none, some 7, .len (.t 6)⟩,
  ⟨none, some 8, .binI .gtr (.t 7) (.k (.int .i64 4096))⟩,
  ⟨none, some 9, .mv (.t 8)⟩,
  ⟨(some (9, false)), some 10, .faddr 5 (.t 1)⟩,
  ⟨(some (9, false)), some 11, .load false 1 (.t 10)⟩,
  ⟨(some (9, false)), some 12, .faddr 4 (.t 1)⟩,
  ⟨(some (9, false)), some 13, .load false 1 (.t 12)⟩,
  ⟨(some (9, false)), some 14, .len (.t 13)⟩,
  ⟨(some (9, false)), some 15, .call 18 [(.t 11), (.t 14)]⟩,
  ⟨(some (9, false)), some 16, .not (.t 15)⟩,
  ⟨none, some 17, .pick (.t 9) (.k (.bool true)) (.t 16)⟩,
  ⟨none, some 18, .mv (.t 17)⟩,
  ⟨(some (18, false)), some 19, .faddr 4 (.t 1)⟩,
  ⟨(some (18, false)), some 20, .load false 1 (.t 19)⟩,
  ⟨(some (18, false)), some 21, .faddr 5 (.t 1)⟩,
  ⟨(some (18, false)), some 22, .load false 1 (.t 21)⟩,
  ⟨(some (18, false)), some 23, .iaddrS 3 (.t 20) (.t 22)⟩,
  ⟨(some (18, false)), some 24, .faddr 0 (.t 23)⟩,
  ⟨(some (18, false)), some 25, .load false 1 (.t 24)⟩,
  ⟨(some (18, false)), some 26, .binI .neq (.t 25) (.k (.int .i64 0))⟩,
  ⟨none, some 27, .pick (.t 18) (.k (.bool true)) (.t 26)⟩])
  (.cond (.t 27)
    (.seq (.reg [
    ⟨none, some 2, .mv (.k (.bool false))⟩])
    .ret)
    .skip))
  (.seq (.seq (.reg [
  ⟨none, some 28, .faddr 4 (.t 1)⟩,
  ⟨none, some 29, .load false 1 (.t 28)⟩,
  ⟨none, some 30, .len (.t 29)⟩,
  ⟨none, some 31, .mv (.k (.int .i64 0))⟩])
  (.block 0 (.loop lp_verify_Verify_0)))
  (.seq (.reg [
  ⟨none, some 40, .faddr 3 (.t 1)⟩,
  ⟨none, some 41, .load false 1 (.t 40)⟩,
  ⟨none, some 42, .call 20 [(.t 41), (.k (.fn (.func 21) []))]⟩,
  ⟨none, some 43, .not (.t 42)⟩,
  ⟨none, some 44, .mv (.t 43)⟩,
  ⟨(some (44, true)), some 45, .faddr 2 (.t 1)⟩,
  ⟨(some (44, true)), some 46, .load false 1 (.t 45)⟩,
  ⟨(some (44, true)), some 47, .call 23 [(.t 46), (.k (.fn (.func 24) []))]⟩,
  ⟨(some (44, true)), some 48, .not (.t 47)⟩,
  ⟨none, some 49, .pick (.t 44) (.t 48) (.k (.bool false))⟩,
  ⟨none, some 2, .mv (.t 49)⟩])
  .ret))))
theorem w_verify_Verify {args : List DV} {v : DV} (hn : args.length ≤ 50) (h : DV.okL args → ∀ c : Ctx, c.N = 50 → c.pure → w_ Pg c mc_verify_Verify (endQ [.tmp 2] v) ⟨⟩ ⟨argT 0 args, fun _ => .non, 0⟩) : PCall Pg F.verify_Verify args v :=
  PCall.of_walk Try.func10 rfl (by kernel_rfl) (by kernel_rfl) (by kernel_rfl) hn fun o c e p => W.aw Pg_mixed (w_start (h o c e p))
def lv_gradusref18_Verify_0 : List Nat := [1, 4]
def lp_gradusref18_Verify_0 : MC :=
  (.seq (.seq (.reg [
  ⟨none, some 36, .mv (.t 4)⟩,
  ⟨none, some 37, .faddr 4 (.t 1)⟩,
  ⟨none, some 38, .load false 1 (.t 37)⟩,
  ⟨none, some 39, .len (.t 38)⟩,
  ⟨none, some 40, .binI .lss (.t 36) (.t 39)⟩])
  (.cond (.t 40)
    .skip
    (.exit 0)))
  (.seq (.block 1
    (.seq (.reg [
    ⟨none, some 43, .faddr 4 (.t 1)⟩,
    ⟨none, some 44, .load false 1 (.t 43)⟩,
    ⟨none, some 45, .mv (.t 4)⟩,
    ⟨none, some 46, .iaddrS 3 (.t 44) (.t 45)⟩,
    ⟨none, some 47, .faddr 0 (.t 46)⟩,
    ⟨none, some 48, .load false 1 (.t 47)⟩,
    ⟨none, some 49, .binI .geq (.t 48) (.k (.int .i64 0))⟩,
    ⟨none, some 50, .mv (.t 49)⟩,
    ⟨(some (50, true)), some 51, .faddr 4 (.t 1)⟩,
    ⟨(some (50, true)), some 52, .load false 1 (.t 51)⟩,
    ⟨(some (50, true)), some 53, .mv (.t 4)⟩,
    ⟨(some (50, true)), some 54, .iaddrS 3 (.t 52) (.t 53)⟩,
    ⟨(some (50, true)), some 55, .faddr 0 (.t 54)⟩,
    ⟨(some (50, true)), some 56, .load false 1 (.t 55)⟩,
    ⟨(some (50, true)), some 57, .binI .lss (.t 56) (.k (.int .i64 256))⟩,
    ⟨none, some 58, .pick (.t 50) (.t 57) (.k (.bool false))⟩,
    ⟨none, some 5, .mv (.t 58)⟩])
    (.seq (.reg [
    ⟨none, some 59, .mv (.t 5)⟩,
    ⟨none, some 60, .not (.t 59)⟩])
    (.cond (.t 60)
      (.seq (.reg [
      ⟨none, some 2, .mv (.k (.bool false))⟩])
      .ret)
      .skip))))
  (.reg [
  ⟨none, some 41, .mv (.t 4)⟩,
  ⟨none, some 42, .binI .add (.t 41) (.k (.int .i64 1))⟩,
  ⟨none, some 4, .mv (.t 42)⟩])))
def lv_gradusref18_Verify_2 : List Nat := [1, 6]
def lp_gradusref18_Verify_2 : MC :=
  (.seq (.seq (.reg [
  ⟨none, some 61, .mv (.t 6)⟩,
  ⟨none, some 62, .faddr 4 (.t 1)⟩,
  ⟨none, some 63, .load false 1 (.t 62)⟩,
  ⟨none, some 64, .len (.t 63)⟩,
  ⟨none, some 65, .binI .lss (.t 61) (.t 64)⟩])
  (.cond (.t 65)
    .skip
    (.exit 2)))
  (.seq (.block 3
    (.seq (.regd [0, 0, 2, 0, 14, 30, 63, 127] [
    ⟨none, some 68, .load true 7 (.t 1)⟩,
    ⟨none, some 69, .faddr 4 (.t 1)⟩,
    ⟨none, some 70, .load false 1 (.t 69)⟩,
    ⟨none, some 71, .mv (.t 6)⟩,
    ⟨none, some 72, .iaddrS 3 (.t 70) (.t 71)⟩,
    ⟨none, some 73, .load true 3 (.t 72)⟩,
    ⟨none, some 74, .call 27 [(.t 68), (.t 73)]⟩,
    ⟨none, some 7, .mv (.t 74)⟩])
    (.seq (.reg [
    ⟨none, some 75, .mv (.t 7)⟩,
    ⟨none, some 76, .not (.t 75)⟩])
    (.cond (.t 76)
      (.seq (.reg [
      ⟨none, some 2, .mv (.k (.bool false))⟩])
      .ret)
      .skip))))
  (.reg [
  ⟨none, some 66, .mv (.t 6)⟩,
  ⟨none, some 67, .binI .add (.t 66) (.k (.int .i64 1))⟩,
  ⟨none, some 6, .mv (.t 67)⟩])))
def lv_gradusref18_Verify_4 : List Nat := [1, 8]
def lp_gradusref18_Verify_4 : MC :=
  (.seq (.seq (.reg [
  ⟨none, some 77, .mv (.t 8)⟩,
  ⟨none, some 78, .faddr 3 (.t 1)⟩,
  ⟨none, some 79, .load false 1 (.t 78)⟩,
  ⟨none, some 80, .len (.t 79)⟩,
  ⟨none, some 81, .binI .lss (.t 77) (.t 80)⟩])
  (.cond (.t 81)
    .skip
    (.exit 4)))
  (.seq (.block 5
    (.seq (.reg [
    ⟨none, some 84, .faddr 3 (.t 1)⟩,
    ⟨none, some 85, .load false 1 (.t 84)⟩,
    ⟨none, some 86, .mv (.t 8)⟩,
    ⟨none, some 87, .iaddrS 5 (.t 85) (.t 86)⟩,
    ⟨none, some 88, .load true 5 (.t 87)⟩,
    ⟨none, some 89, .call 16 [(.t 88)]⟩,
    ⟨none, some 9, .mv (.t 89)⟩])
    (.seq (.reg [
    ⟨none, some 90, .mv (.t 9)⟩,
    ⟨none, some 91, .not (.t 90)⟩])
    (.cond (.t 91)
      (.seq (.reg [
      ⟨none, some 2, .mv (.k (.bool false))⟩])
      .ret)
      .skip))))
  (.reg [
  ⟨none, some 82, .mv (.t 8)⟩,
  ⟨none, some 83, .binI .add (.t 82) (.k (.int .i64 1))⟩,
  ⟨none, some 8, .mv (.t 83)⟩])))
def lv_gradusref18_Verify_8 : List Nat := [1, 10, 11]
def lp_gradusref18_Verify_8 : MC :=
  (.seq (.seq (.reg [
  ⟨none, some 99, .mv (.t 11)⟩,
  ⟨none, some 100, .faddr 2 (.t 1)⟩,
  ⟨none, some 101, .load false 1 (.t 100)⟩,
  ⟨none, some 102, .mv (.t 10)⟩,
  ⟨none, some 103, .iaddrS 1 (.t 101) (.t 102)⟩,
  ⟨none, some 104, .load false 1 (.t 103)⟩,
  ⟨none, some 105, .len (.t 104)⟩,
  ⟨none, some 106, .binI .lss (.t 99) (.t 105)⟩])
  (.cond (.t 106)
    .skip
    (.exit 8)))
  (.seq (.block 9
    (.seq (.regd [0, 1, 0, 7, 15, 0, 63, 127, 0, 256, 0, 1792, 3840, 0, 8192, 32512, 65280, 131071] [
    ⟨none, some 109, .faddr 2 (.t 1)⟩,
    ⟨none, some 110, .load false 1 (.t 109)⟩,
    ⟨none, some 111, .mv (.t 10)⟩,
    ⟨none, some 112, .iaddrS 1 (.t 110) (.t 111)⟩,
    ⟨none, some 113, .load false 1 (.t 112)⟩,
    ⟨none, some 114, .mv (.t 11)⟩,
    ⟨none, some 115, .iaddrS 1 (.t 113) (.t 114)⟩,
    ⟨none, some 116, .load false 1 (.t 115)⟩,
    ⟨none, some 117, .faddr 2 (.t 1)⟩,
    ⟨none, some 118, .load false 1 (.t 117)⟩,
    ⟨none, some 119, .mv (.t 10)⟩,
    ⟨none, some 120, .iaddrS 1 (.t 118) (.t 119)⟩,
    ⟨none, some 121, .load false 1 (.t 120)⟩,
    ⟨none, some 122, .mv (.t 11)⟩,
    ⟨none, some 123, .binI .sub (.t 122) (.k (.int .i64 1))⟩,
    ⟨none, some 124, .iaddrS 1 (.t 121) (.t 123)⟩,
    ⟨none, some 125, .load false 1 (.t 124)⟩,
    ⟨none, some 126, .binS .leq (.t 116) (.t 125)⟩])
    (.cond (.t 126)
      (.seq (.reg [
      ⟨none, some 2, .mv (.k (.bool false))⟩])
      .ret)
      .skip)))
  (.reg [
  ⟨none, some 107, .mv (.t 11)⟩,
  ⟨none, some 108, .binI .add (.t 107) (.k (.int .i64 1))⟩,
  ⟨none, some 11, .mv (.t 108)⟩])))
def lv_gradusref18_Verify_6 : List Nat := [1, 10]
def lp_gradusref18_Verify_6 : MC :=
  (.seq (.seq (.reg [
  ⟨none, some 92, .mv (.t 10)⟩,
  ⟨none, some 93, .faddr 2 (.t 1)⟩,
  ⟨none, some 94, .load false 1 (.t 93)⟩,
  ⟨none, some 95, .len (.t 94)⟩,
  ⟨none, some 96, .binI .lss (.t 92) (.t 95)⟩])
  (.cond (.t 96)
    .skip
    (.exit 6)))
  (.seq (.block 7
    (.seq (.reg [
    ⟨none, some 11, .mv (.k (.int .i64 1))⟩])
    (.block 8 (.loop lp_gradusref18_Verify_8))))
  (.reg [
  ⟨none, some 97, .mv (.t 10)⟩,
  ⟨none, some 98, .binI .add (.t 97) (.k (.int .i64 1))⟩,
  ⟨none, some 10, .mv (.t 98)⟩])))
abbrev F.gradusref18_Verify : FuncId := 11
def mc_gradusref18_Verify : MC :=
  (.seq (.reg [
  ⟨none, some 1, .boxP (.t 0)⟩,
  ⟨none, some 2, .mv (.k (.bool false))⟩])
  (.seq (.reg [
  ⟨none, some 12, .faddr 5 (.t 1)⟩,
  ⟨none, some 13, .load false 1 (.t 12)⟩,
  ⟨none, some 14, .faddr 4 (.t 1)⟩,
  ⟨none, some 15, .load false 1 (.t 14)⟩,
  ⟨none, some 16, .len (.t 15)⟩,
  ⟨none, some 17, .call 26 [(.t 13), (.t 16)]⟩,
  ⟨none, some 3, .mv (.t 17)⟩])
  (.seq (.seq (.reg [
  ⟨none, some 18, .faddr 4 (.t 1)⟩,
  ⟨none, some 19, .load false 1 (.t 18)⟩,
  ⟨none, some 20, .len (.t 19)⟩,
  ⟨none, some 21, .binI .gtr (.t 20) (.k (.int .i64 4096))⟩,
  ⟨none, some 22, .mv (.t 21)⟩,
  ⟨(some (22, false)), some 23, .mv (.t 3)⟩,
  ⟨(some (22, false)), some 24, .not (.t 23)⟩,
  ⟨none, some 25, .pick (.t 22) (.k (.bool true)) (.t 24)⟩,
  ⟨none, some 26, .mv (.t 25)⟩,
  ⟨(some (26, false)), some 27, .faddr 4 (.t 1)⟩,
  ⟨(some (26, false)), some 28, .load false 1 (.t 27)⟩,
  ⟨(some (26, false)), some 29, .faddr 5 (.t 1)⟩,
  ⟨(some (26, false)), some 30, .load false 1 (.t 29)⟩,
  ⟨(some (26, false)), some 31, .iaddrS 3 (.t 28) (.t 30)⟩,
  ⟨(some (26, false)), some 32, .faddr 0 (.t 31)⟩,
  ⟨(some (26, false)), some 33, .load false 1 (.t 32)⟩,
  ⟨(some (26, false)), some 34, .binI .neq (.t 33) (.k (.int .i64 0))⟩,
  ⟨none, some 35, .pick (.t 26) (.k (.bool true)) (.t 34)⟩])
  (.cond (.t 35)
    (.seq (.reg [
    ⟨none, some 2, .mv (.k (.bool false))⟩])
    .ret)
    .skip))
  (.seq (.seq (.reg [
  ⟨none, some 4, .mv (.k (.int .i64 0))⟩])
  (.block 0 (.loop lp_gradusref18_Verify_0)))
  (.seq (.seq (.reg [
  ⟨none, some 6, .mv (.k (.int .i64 0))⟩])
  (.block 2 (.loop lp_gradusref18_Verify_2)))
  (.seq (.seq (.reg [
  ⟨none, some 8, .mv (.k (.int .i64 0))⟩])
  (.block 4 (.loop lp_gradusref18_Verify_4)))
  (.seq (.seq (.reg [
  ⟨none, some 10, .mv (.k (.int .i64 0))⟩])
  (.block 6 (.loop lp_gradusref18_Verify_6)))
  (.seq (.reg [
  ⟨none, some 2, .mv (.k (.bool true))⟩])
  .ret))))))))
theorem w_gradusref18_Verify {args : List DV} {v : DV} (hn : args.length ≤ 127) (h : DV.okL args → ∀ c : Ctx, c.N = 127 → c.pure → w_ Pg c mc_gradusref18_Verify (endQ [.tmp 2] v) ⟨⟩ ⟨argT 0 args, fun _ => .non, 0⟩) : PCall Pg F.gradusref18_Verify args v :=
  PCall.of_walk Try.func11 rfl (by kernel_rfl) (by kernel_rfl) (by kernel_rfl) hn fun o c e p => W.aw Pg_mixed (w_start (h o c e p))
def lv_verify_Uses_3 : List Nat := [2, 3, 5, 6, 9, 10, 11, 19, 20]
def lp_verify_Uses_3 : MC :=
  (.seq (.seq (.reg [
  ⟨none, some 39, .mv (.t 11)⟩,
  ⟨none, some 40, .mv (.t 10)⟩,
  ⟨none, some 41, .binI .lss (.t 39) (.t 40)⟩,
  ⟨none, some 42, .mv (.t 41)⟩,
  ⟨(some (42, true)), some 43, .mv (.t 10)⟩,
  ⟨(some (42, true)), some 44, .binI .leq (.t 43) (.k (.int .i64 256))⟩,
  ⟨none, some 45, .pick (.t 42) (.t 44) (.k (.bool false))⟩])
  (.cond (.t 45)
    .skip
    (.exit 3)))
  (.seq (.block 4
    (.reg [
    ⟨none, some 48, .mv (.t 5)⟩,
    ⟨none, some 49, .mv (.t 9)⟩,
    ⟨none, some 50, .mv (.t 11)⟩,
    ⟨none, some 51, .binI .add (.t 49) (.t 50)⟩,
    ⟨none, some 52, .buildSl 1 [(.t 51)]⟩,
    ⟨none, some 53, .append 1 8 (.t 48) (.t 52)⟩,
    ⟨none, some 5, .mv (.t 53)⟩]))
  (.reg [
  ⟨none, some 46, .mv (.t 11)⟩,
  ⟨none, some 47, .binI .add (.t 46) (.k (.int .i64 1))⟩,
  ⟨none, some 11, .mv (.t 47)⟩])))
def lv_verify_Uses_0 : List Nat := [2, 3, 5, 6, 19, 20]
def lp_verify_Uses_0 : MC :=
  (.seq (.reg [
  ⟨none, some 21, .binI .lss (.t 20) (.k (.int .i64 3))⟩])
  (.seq (.cond (.t 21)
    .skip
    (.exit 0))
  (.seq (.block 1
    (.seq (.reg [
    ⟨none, some 22, .mv (.t 20)⟩,
    ⟨none, some 23, .idxA false 3 1 (.t 19) (.t 20)⟩,
    ⟨none, some 8, .mv (.t 22)⟩,
    ⟨none, some 9, .mv (.t 23)⟩])
    (.seq (.reg [
    ⟨none, some 24, .mv (.t 8)⟩,
    ⟨none, some 25, .iaddrA 3 1 (.t 6) (.t 24)⟩,
    ⟨none, some 26, .load false 1 (.t 25)⟩])
    (.block 2
      (.seq (.seq (.reg [
      ⟨none, some 28, .binI .eql (.t 26) (.k (.int .i64 2))⟩,
      ⟨none, some 27, .mv (.t 28)⟩])
      (.cond (.t 27)
        .skip
        (.reg [
        ⟨none, some 29, .binI .eql (.t 26) (.k (.int .i64 3))⟩,
        ⟨none, some 27, .mv (.t 29)⟩])))
      (.cond (.t 27)
        (.reg [
        ⟨none, some 30, .mv (.t 5)⟩,
        ⟨none, some 31, .mv (.t 9)⟩,
        ⟨none, some 32, .buildSl 1 [(.t 31)]⟩,
        ⟨none, some 33, .append 1 8 (.t 30) (.t 32)⟩,
        ⟨none, some 5, .mv (.t 33)⟩])
        (.seq (.reg [
        ⟨none, some 35, .binI .eql (.t 26) (.k (.int .i64 12))⟩,
        ⟨none, some 34, .mv (.t 35)⟩])
        (.cond (.t 34)
          (.seq (.reg [
          ⟨none, some 36, .load true 7 (.t 2)⟩,
          ⟨none, some 37, .load true 4 (.t 3)⟩,
          ⟨none, some 38, .call 30 [(.t 36), (.t 37)]⟩,
          ⟨none, some 10, .mv (.t 38)⟩])
          (.seq (.reg [
          ⟨none, some 11, .mv (.k (.int .i64 0))⟩])
          (.block 3 (.loop lp_verify_Uses_3))))
          .skip))))))))
  (.reg [
  ⟨none, some 54, .binI .add (.t 20) (.k (.int .i64 1))⟩,
  ⟨none, some 20, .mv (.t 54)⟩]))))
abbrev F.verify_Uses : FuncId := 12
def mc_verify_Uses : MC :=
  (.seq (.reg [
  ⟨none, some 2, .boxP (.t 0)⟩,
  ⟨none, some 3, .boxP (.t 1)⟩,
  ⟨none, some 4, .mv (.k (.sl true 1 []))⟩])
  (.seq (.reg [
  ⟨none, some 5, .mv (.k (.sl true 1 []))⟩])
  (.seq (.reg [
  ⟨none, some 13, .faddr 0 (.t 3)⟩,
  ⟨none, some 14, .load false 1 (.t 13)⟩,
  ⟨none, some 15, .call 28 [(.t 14)]⟩,
  ⟨none, some 12, .mv (.t 15)⟩,
  ⟨none, some 16, .extract (.t 12) 0⟩,
  ⟨none, some 17, .extract (.t 12) 1⟩,
  ⟨none, some 6, .alloc [.int .i64 0, .int .i64 0, .int .i64 0]⟩,
  ⟨none, none, .store 3 (.t 6) (.t 16)⟩,
  ⟨none, some 7, .mv (.t 17)⟩])
  (.seq (.seq (.reg [
  ⟨none, some 18, .load true 4 (.t 3)⟩,
  ⟨none, some 19, .call 29 [(.t 18)]⟩,
  ⟨none, some 20, .mv (.k (.int .i64 0))⟩])
  (.block 0 (.loop lp_verify_Uses_0)))
  (.seq (.reg [
  ⟨none, some 55, .mv (.t 5)⟩,
  ⟨none, some 4, .mv (.t 55)⟩])
  .ret)))))
theorem w_verify_Uses {args : List DV} {v : DV} (hn : args.length ≤ 56) (h : DV.okL args → ∀ c : Ctx, c.N = 56 → c.pure → w_ Pg c mc_verify_Uses (endQ [.tmp 4] v) ⟨⟩ ⟨argT 0 args, fun _ => .non, 0⟩) : PCall Pg F.verify_Uses args v :=
  PCall.of_walk Try.func12 rfl (by kernel_rfl) (by kernel_rfl) (by kernel_rfl) hn fun o c e p => W.aw Pg_mixed (w_start (h o c e p))
abbrev F.gradusref18_Uses : FuncId := 13
def mc_gradusref18_Uses : MC :=
  (.seq (.reg [
  ⟨none, some 2, .boxP (.t 0)⟩,
  ⟨none, some 3, .boxP (.t 1)⟩,
  ⟨none, some 4, .mv (.k (.sl true 1 []))⟩])
  (.seq (.seq (.reg [
  ⟨none, some 5, .faddr 0 (.t 3)⟩,
  ⟨none, some 6, .load false 1 (.t 5)⟩,
  ⟨none, some 7, .binI .geq (.t 6) (.k (.int .i64 0))⟩,
  ⟨none, some 8, .mv (.t 7)⟩,
  ⟨(some (8, true)), some 9, .faddr 0 (.t 3)⟩,
  ⟨(some (8, true)), some 10, .load false 1 (.t 9)⟩,
  ⟨(some (8, true)), some 11, .binI .lss (.t 10) (.k (.int .i64 11))⟩,
  ⟨none, some 12, .pick (.t 8) (.t 11) (.k (.bool false))⟩])
  (.cond (.t 12)
    (.seq (.reg [
    ⟨none, some 13, .faddr 2 (.t 3)⟩,
    ⟨none, some 14, .load false 1 (.t 13)⟩,
    ⟨none, some 15, .faddr 3 (.t 3)⟩,
    ⟨none, some 16, .load false 1 (.t 15)⟩,
    ⟨none, some 17, .buildSl 1 [(.t 14), (.t 16)]⟩,
    ⟨none, some 4, .mv (.t 17)⟩])
    .ret)
    .skip))
  (.seq (.seq (.reg [
  ⟨none, some 18, .faddr 0 (.t 3)⟩,
  ⟨none, some 19, .load false 1 (.t 18)⟩])
  (.block 0
    (.seq (.seq (.reg [
    ⟨none, some 21, .binI .eql (.t 19) (.k (.int .i64 15))⟩,
    ⟨none, some 20, .mv (.t 21)⟩])
    (.cond (.t 20)
      .skip
      (.seq (.reg [
      ⟨none, some 22, .binI .eql (.t 19) (.k (.int .i64 19))⟩,
      ⟨none, some 20, .mv (.t 22)⟩])
      (.cond (.t 20)
        .skip
        (.seq (.reg [
        ⟨none, some 23, .binI .eql (.t 19) (.k (.int .i64 21))⟩,
        ⟨none, some 20, .mv (.t 23)⟩])
        (.cond (.t 20)
          .skip
          (.seq (.reg [
          ⟨none, some 24, .binI .eql (.t 19) (.k (.int .i64 26))⟩,
          ⟨none, some 20, .mv (.t 24)⟩])
          (.cond (.t 20)
            .skip
            (.seq (.reg [
            ⟨none, some 25, .binI .eql (.t 19) (.k (.int .i64 29))⟩,
            ⟨none, some 20, .mv (.t 25)⟩])
            (.cond (.t 20)
              .skip
              (.seq (.reg [
              ⟨none, some 26, .binI .eql (.t 19) (.k (.int .i64 30))⟩,
              ⟨none, some 20, .mv (.t 26)⟩])
              (.cond (.t 20)
                .skip
                (.reg [
                ⟨none, some 27, .binI .eql (.t 19) (.k (.int .i64 31))⟩,
                ⟨none, some 20, .mv (.t 27)⟩])))))))))))))
    (.cond (.t 20)
      (.seq (.reg [
      ⟨none, some 28, .faddr 2 (.t 3)⟩,
      ⟨none, some 29, .load false 1 (.t 28)⟩,
      ⟨none, some 30, .buildSl 1 [(.t 29)]⟩,
      ⟨none, some 4, .mv (.t 30)⟩])
      .ret)
      (.seq (.reg [
      ⟨none, some 32, .binI .eql (.t 19) (.k (.int .i64 20))⟩,
      ⟨none, some 31, .mv (.t 32)⟩])
      (.cond (.t 31)
        (.seq (.reg [
        ⟨none, some 33, .faddr 1 (.t 3)⟩,
        ⟨none, some 34, .load false 1 (.t 33)⟩,
        ⟨none, some 35, .faddr 2 (.t 3)⟩,
        ⟨none, some 36, .load false 1 (.t 35)⟩,
        ⟨none, some 37, .buildSl 1 [(.t 34), (.t 36)]⟩,
        ⟨none, some 4, .mv (.t 37)⟩])
        .ret)
        (.seq (.seq (.reg [
        ⟨none, some 39, .binI .eql (.t 19) (.k (.int .i64 22))⟩,
        ⟨none, some 38, .mv (.t 39)⟩])
        (.cond (.t 38)
          .skip
          (.seq (.reg [
          ⟨none, some 40, .binI .eql (.t 19) (.k (.int .i64 27))⟩,
          ⟨none, some 38, .mv (.t 40)⟩])
          (.cond (.t 38)
            .skip
            (.reg [
            ⟨none, some 41, .binI .eql (.t 19) (.k (.int .i64 28))⟩,
            ⟨none, some 38, .mv (.t 41)⟩])))))
        (.cond (.t 38)
          (.seq (.reg [
          ⟨none, some 42, .faddr 2 (.t 3)⟩,
          ⟨none, some 43, .load false 1 (.t 42)⟩,
          ⟨none, some 44, .faddr 3 (.t 3)⟩,
          ⟨none, some 45, .load false 1 (.t 44)⟩,
          ⟨none, some 46, .buildSl 1 [(.t 43), (.t 45)]⟩,
          ⟨none, some 4, .mv (.t 46)⟩])
          .ret)
          (.seq (.seq (.reg [
          ⟨none, some 48, .binI .eql (.t 19) (.k (.int .i64 23))⟩,
          ⟨none, some 47, .mv (.t 48)⟩])
          (.cond (.t 47)
            .skip
            (.reg [
            ⟨none, some 49, .binI .eql (.t 19) (.k (.int .i64 25))⟩,
            ⟨none, some 47, .mv (.t 49)⟩])))
          (.cond (.t 47)
            (.seq (.reg [
            ⟨none, some 50, .faddr 1 (.t 3)⟩,
            ⟨none, some 51, .load false 1 (.t 50)⟩,
            ⟨none, some 52, .buildSl 1 [(.t 51)]⟩,
            ⟨none, some 4, .mv (.t 52)⟩])
            .ret)
            (.seq (.reg [
            ⟨none, some 54, .binI .eql (.t 19) (.k (.int .i64 17))⟩,
            ⟨none, some 53, .mv (.t 54)⟩])
            (.cond (.t 53)
              (.seq (.regd [0, 1, 0, 0, 8, 28, 63, 127] [
              ⟨none, some 55, .faddr 3 (.t 3)⟩,
              ⟨none, some 56, .load false 1 (.t 55)⟩,
              ⟨none, some 57, .load true 7 (.t 2)⟩,
              ⟨none, some 58, .faddr 2 (.t 3)⟩,
              ⟨none, some 59, .load false 1 (.t 58)⟩,
              ⟨none, some 60, .call 32 [(.t 57), (.t 59)]⟩,
              ⟨none, some 61, .callM 31 [(.t 56), (.t 60)]⟩,
              ⟨none, some 4, .mv (.t 61)⟩])
              .ret)
              (.seq (.reg [
              ⟨none, some 63, .binI .eql (.t 19) (.k (.int .i64 18))⟩,
              ⟨none, some 62, .mv (.t 63)⟩])
              (.cond (.t 62)
                (.seq (.regd [0, 1, 0, 0, 8, 28, 63, 127] [
                ⟨none, some 64, .faddr 3 (.t 3)⟩,
                ⟨none, some 65, .load false 1 (.t 64)⟩,
                ⟨none, some 66, .load true 7 (.t 2)⟩,
                ⟨none, some 67, .faddr 2 (.t 3)⟩,
                ⟨none, some 68, .load false 1 (.t 67)⟩,
                ⟨none, some 69, .call 33 [(.t 66), (.t 68)]⟩,
                ⟨none, some 70, .callM 31 [(.t 65), (.t 69)]⟩,
                ⟨none, some 4, .mv (.t 70)⟩])
                .ret)
                .skip))))))))))))))
  (.seq (.reg [
  ⟨none, some 4, .mv (.k (.sl true 1 []))⟩])
  .ret))))
theorem w_gradusref18_Uses {args : List DV} {v : DV} (hn : args.length ≤ 71) (h : DV.okL args → ∀ c : Ctx, c.N = 71 → c.pure → w_ Pg c mc_gradusref18_Uses (endQ [.tmp 4] v) ⟨⟩ ⟨argT 0 args, fun _ => .non, 0⟩) : PCall Pg F.gradusref18_Uses args v :=
  PCall.of_walk Try.func13 rfl (by kernel_rfl) (by kernel_rfl) (by kernel_rfl) hn fun o c e p => W.aw Pg_mixed (w_start (h o c e p))
theorem wm_gradusref18_Uses {args : List AV} {bs : List Blk} {v : AV} {bs' : List Blk} (hs : MStat args 71 bs v bs') (h : ∀ ts : List (Nat × Nat), ts.length = bs.length → AV.okL args → (∀ b, b ∈ bs → b.ok) → ∀ c : Ctx, c.N = 71 → c.pure → w_ Pg c mc_gradusref18_Uses (endM [.tmp 4] v bs' ts) ⟨⟩ ⟨argA 0 args, hpOf (bs ++ pinsL 0 ts), bs.length + ts.length⟩) : MCall Pg F.gradusref18_Uses args bs v bs' :=
  MCall.of_walk' Try.func13 rfl (by kernel_rfl) (by kernel_rfl) (by kernel_rfl) Pg_mixed hs h
abbrev F.verify_Sets : FuncId := 14
def mc_verify_Sets : MC :=
  (.seq (.reg [
  ⟨none, some 1, .boxP (.t 0)⟩,
  ⟨none, some 2, .mv (.k (.int .i64 0))⟩])
  (.seq (.seq (.reg [
  ⟨none, some 6, .faddr 0 (.t 1)⟩,
  ⟨none, some 7, .load false 1 (.t 6)⟩,
  ⟨none, some 8, .call 28 [(.t 7)]⟩,
  ⟨none, some 5, .mv (.t 8)⟩,
  ⟨none, some 9, .extract (.t 5) 0⟩,
  ⟨none, some 10, .extract (.t 5) 1⟩,
  ⟨none, some 3, .alloc [.int .i64 0, .int .i64 0, .int .i64 0]⟩,
  ⟨none, none, .store 3 (.t 3) (.t 9)⟩,
  ⟨none, some 4, .mv (.t 10)⟩])
  (.seq (.reg [
  ⟨none, some 11, .iaddrA 3 1 (.t 3) (.k (.int .i64 0))⟩,
  ⟨none, some 12, .load false 1 (.t 11)⟩,
  ⟨none, some 13, .binI .eql (.t 12) (.k (.int .i64 1))⟩,
  ⟨none, some 14, .mv (.t 13)⟩,
  ⟨(some (14, false)), some 15, .iaddrA 3 1 (.t 3) (.k (.int .i64 0))⟩,
  ⟨(some (14, false)), some 16, .load false 1 (.t 15)⟩,
  ⟨(some (14, false)), some 17, .binI .eql (.t 16) (.k (.int .i64 3))⟩,
  ⟨none, some 18, .pick (.t 14) (.k (.bool true)) (.t 17)⟩])
  (.cond (.t 18)
    (.seq (.reg [
    ⟨none, some 19, .faddr 1 (.t 1)⟩,
    ⟨none, some 20, .load false 1 (.t 19)⟩,
    ⟨none, some 2, .mv (.t 20)⟩])
    .ret)
    .skip)))
  (.seq (.reg [
  ⟨none, some 2, .mv (.k (.int .i64 (-1)))⟩])
  .ret)))
theorem w_verify_Sets {args : List DV} {v : DV} (hn : args.length ≤ 21) (h : DV.okL args → ∀ c : Ctx, c.N = 21 → c.pure → w_ Pg c mc_verify_Sets (endQ [.tmp 2] v) ⟨⟩ ⟨argT 0 args, fun _ => .non, 0⟩) : PCall Pg F.verify_Sets args v :=
  PCall.of_walk Try.func14 rfl (by kernel_rfl) (by kernel_rfl) (by kernel_rfl) hn fun o c e p => W.aw Pg_mixed (w_start (h o c e p))
abbrev F.gradusref18_Sets : FuncId := 15
def mc_gradusref18_Sets : MC :=
  (.seq (.reg [
  ⟨none, some 1, .boxP (.t 0)⟩,
  ⟨none, some 2, .mv (.k (.int .i64 0))⟩])
  (.seq (.seq (.reg [
  ⟨none, some 3, .faddr 0 (.t 1)⟩,
  ⟨none, some 4, .load false 1 (.t 3)⟩,
  ⟨none, some 5, .binI .lss (.t 4) (.k (.int .i64 0))⟩,
  ⟨none, some 6, .mv (.t 5)⟩,
  ⟨(some (6, false)), some 7, .faddr 0 (.t 1)⟩,
  ⟨(some (6, false)), some 8, .load false 1 (.t 7)⟩,
  ⟨(some (6, false)), some 9, .binI .geq (.t 8) (.k (.int .i64 33))⟩,
  ⟨none, some 10, .pick (.t 6) (.k (.bool true)) (.t 9)⟩,
  ⟨none, some 11, .mv (.t 10)⟩,
  ⟨(some (11, false)), some 12, .faddr 0 (.t 1)⟩,
  ⟨(some (11, false)), some 13, .load false 1 (.t 12)⟩,
  ⟨(some (11, false)), some 14, .binI .eql (.t 13) (.k (.int .i64 23))⟩,
  ⟨none, some 15, .pick (.t 11) (.k (.bool true)) (.t 14)⟩,
  ⟨none, some 16, .mv (.t 15)⟩,
  ⟨(some (16, false)), some 17, .faddr 0 (.t 1)⟩,
  ⟨(some (16, false)), some 18, .load false 1 (.t 17)⟩,
  ⟨(some (16, false)), some 19, .binI .eql (.t 18) (.k (.int .i64 24))⟩,
  ⟨none, some 20, .pick (.t 16) (.k (.bool true)) (.t 19)⟩,
  ⟨none, some 21, .mv (.t 20)⟩,
  ⟨(some (21, false)), some 22, .faddr 0 (.t 1)⟩,
  ⟨(some (21, false)), some 23, .load false 1 (.t 22)⟩,
  ⟨(some (21, false)), some 24, .binI .eql (.t 23) (.k (.int .i64 25))⟩,
  ⟨none, some 25, .pick (.t 21) (.k (.bool true)) (.t 24)⟩])
  (.cond (.t 25)
    (.seq (.reg [
    ⟨none, some 2, .mv (.k (.int .i64 (-1)))⟩])
    .ret)
    .skip))
  (.seq (.reg [
  ⟨none, some 26, .faddr 1 (.t 1)⟩,
  ⟨none, some 27, .load false 1 (.t 26)⟩,
  ⟨none, some 2, .mv (.t 27)⟩])
  .ret)))
theorem w_gradusref18_Sets {args : List DV} {v : DV} (hn : args.length ≤ 28) (h : DV.okL args → ∀ c : Ctx, c.N = 28 → c.pure → w_ Pg c mc_gradusref18_Sets (endQ [.tmp 2] v) ⟨⟩ ⟨argT 0 args, fun _ => .non, 0⟩) : PCall Pg F.gradusref18_Sets args v :=
  PCall.of_walk Try.func15 rfl (by kernel_rfl) (by kernel_rfl) (by kernel_rfl) hn fun o c e p => W.aw Pg_mixed (w_start (h o c e p))
def lv_gradusref10_May_0 : List Nat := [1, 4]
def lp_gradusref10_May_0 : MC :=
  (.seq (.seq (.reg [
  ⟨none, some 15, .mv (.t 4)⟩,
  ⟨none, some 16, .faddr 3 (.t 1)⟩,
  ⟨none, some 17, .load false 1 (.t 16)⟩,
  ⟨none, some 18, .len (.t 17)⟩,
  ⟨none, some 19, .binI .lss (.t 15) (.t 18)⟩])
  (.cond (.t 19)
    .skip
    (.exit 0)))
  (.seq (.block 1
    (.seq (.reg [
    ⟨none, some 22, .faddr 3 (.t 1)⟩,
    ⟨none, some 23, .load false 1 (.t 22)⟩,
    ⟨none, some 24, .mv (.t 4)⟩,
    ⟨none, some 25, .iaddrS 5 (.t 23) (.t 24)⟩,
    ⟨none, some 26, .load true 5 (.t 25)⟩,
    ⟨none, some 27, .call 16 [(.t 26)]⟩,
    ⟨none, some 5, .mv (.t 27)⟩])
    (.seq (.reg [
    ⟨none, some 28, .faddr 3 (.t 1)⟩,
    ⟨none, some 29, .load false 1 (.t 28)⟩,
    ⟨none, some 30, .mv (.t 4)⟩,
    ⟨none, some 31, .iaddrS 5 (.t 29) (.t 30)⟩,
    ⟨none, some 32, .load true 5 (.t 31)⟩,
    ⟨none, some 33, .call 35 [(.t 32)]⟩,
    ⟨none, some 6, .mv (.t 33)⟩])
    (.seq (.reg [
    ⟨none, some 34, .mv (.t 5)⟩,
    ⟨none, some 35, .not (.t 34)⟩,
    ⟨none, some 36, .mv (.t 35)⟩,
    ⟨(some (36, false)), some 37, .mv (.t 6)⟩,
    ⟨none, some 38, .pick (.t 36) (.k (.bool true)) (.t 37)⟩])
    (.cond (.t 38)
      (.seq (.reg [
      ⟨none, some 2, .mv (.k (.bool false))⟩])
      .ret)
      .skip)))))
  (.reg [
  ⟨none, some 20, .mv (.t 4)⟩,
  ⟨none, some 21, .binI .add (.t 20) (.k (.int .i64 1))⟩,
  ⟨none, some 4, .mv (.t 21)⟩])))
abbrev F.gradusref10_May : FuncId := 16
def mc_gradusref10_May : MC :=
  (.seq (.reg [
  ⟨none, some 1, .boxP (.t 0)⟩,
  ⟨none, some 2, .mv (.k (.bool false))⟩])
  (.seq (.reg [
  ⟨none, some 11, .load true 5 (.t 1)⟩,
  ⟨none, some 12, .call 34 [(.t 11)]⟩,
  ⟨none, some 3, .mv (.t 12)⟩])
  (.seq (.seq (.reg [
  ⟨none, some 13, .mv (.t 3)⟩,
  ⟨none, some 14, .not (.t 13)⟩])
  (.cond (.t 14)
    (.seq (.reg [
    ⟨none, some 2, .mv (.k (.bool false))⟩])
    .ret)
    .skip))
  (.seq (.seq (.reg [
  ⟨none, some 4, .mv (.k (.int .i64 0))⟩])
  (.block 0 (.loop lp_gradusref10_May_0)))
  (.seq (.seq (.reg [
  ⟨none, some 39, .faddr 4 (.t 1)⟩,
  ⟨none, some 40, .load false 1 (.t 39)⟩,
  ⟨none, some 41, .len (.t 40)⟩,
  ⟨none, some 42, .binI .eql (.t 41) (.k (.int .i64 0))⟩])
  (.cond (.t 42)
    (.seq (.reg [
    ⟨none, some 2, .mv (.k (.bool true))⟩])
    .ret)
    .skip))
  (.seq (.reg [
  ⟨none, some 43, .faddr 4 (.t 1)⟩,
  ⟨none, some 44, .load false 1 (.t 43)⟩,
  ⟨none, some 45, .iaddrS 5 (.t 44) (.k (.int .i64 0))⟩,
  ⟨none, some 46, .load true 5 (.t 45)⟩,
  ⟨none, some 47, .call 16 [(.t 46)]⟩,
  ⟨none, some 7, .mv (.t 47)⟩])
  (.seq (.reg [
  ⟨none, some 48, .faddr 4 (.t 1)⟩,
  ⟨none, some 49, .load false 1 (.t 48)⟩,
  ⟨none, some 50, .iaddrS 5 (.t 49) (.k (.int .i64 1))⟩,
  ⟨none, some 51, .load true 5 (.t 50)⟩,
  ⟨none, some 52, .call 16 [(.t 51)]⟩,
  ⟨none, some 8, .mv (.t 52)⟩])
  (.seq (.reg [
  ⟨none, some 53, .faddr 4 (.t 1)⟩,
  ⟨none, some 54, .load false 1 (.t 53)⟩,
  ⟨none, some 55, .iaddrS 5 (.t 54) (.k (.int .i64 0))⟩,
  ⟨none, some 56, .load true 5 (.t 55)⟩,
  ⟨none, some 57, .call 35 [(.t 56)]⟩,
  ⟨none, some 9, .mv (.t 57)⟩])
  (.seq (.reg [
  ⟨none, some 58, .faddr 4 (.t 1)⟩,
  ⟨none, some 59, .load false 1 (.t 58)⟩,
  ⟨none, some 60, .iaddrS 5 (.t 59) (.k (.int .i64 1))⟩,
  ⟨none, some 61, .load true 5 (.t 60)⟩,
  ⟨none, some 62, .call 35 [(.t 61)]⟩,
  ⟨none, some 10, .mv (.t 62)⟩])
  (.seq (.reg [
  ⟨none, some 63, .mv (.t 7)⟩,
  ⟨none, some 64, .mv (.t 63)⟩,
  ⟨(some (64, true)), some 65, .mv (.t 8)⟩,
  ⟨none, some 66, .pick (.t 64) (.t 65) (.k (.bool false))⟩,
  ⟨none, some 67, .mv (.t 66)⟩,
  ⟨(some (67, true)), some 68, .mv (.t 9)⟩,
  ⟨(some (67, true)), some 69, .mv (.t 68)⟩,
  ⟨(some (69, true)), some 70, .mv (.t 10)⟩,
  ⟨(some (67, true)), some 71, .pick (.t 69) (.t 70) (.k (.bool false))⟩,
  ⟨(some (67, true)), some 72, .not (.t 71)⟩,
  ⟨none, some 73, .pick (.t 67) (.t 72) (.k (.bool false))⟩,
  ⟨none, some 2, .mv (.t 73)⟩])
  .ret))))))))))
theorem w_gradusref10_May {args : List DV} {v : DV} (hn : args.length ≤ 74) (h : DV.okL args → ∀ c : Ctx, c.N = 74 → c.pure → w_ Pg c mc_gradusref10_May (endQ [.tmp 2] v) ⟨⟩ ⟨argT 0 args, fun _ => .non, 0⟩) : PCall Pg F.gradusref10_May args v :=
  PCall.of_walk Try.func16 rfl (by kernel_rfl) (by kernel_rfl) (by kernel_rfl) hn fun o c e p => W.aw Pg_mixed (w_start (h o c e p))
def lv_graduslaw18_weight_0 : List Nat := [1, 2, 5]
def lp_graduslaw18_weight_0 : MC :=
  (.seq (.seq (.reg [
  ⟨none, some 39, .mv (.t 5)⟩,
  ⟨none, some 40, .faddr 3 (.t 2)⟩,
  ⟨none, some 41, .load false 1 (.t 40)⟩,
  ⟨none, some 42, .len (.t 41)⟩,
  ⟨none, some 43, .binI .lss (.t 39) (.t 42)⟩,
  ⟨none, some 44, .mv (.t 43)⟩,
  ⟨(some (44, true)), some 45, .mv (.t 1)⟩,
  ⟨(some (44, true)), some 46, .binI .gtr (.t 45) (.k (.int .i64 0))⟩,
  ⟨none, some 47, .pick (.t 44) (.t 46) (.k (.bool false))⟩])
  (.cond (.t 47)
    .skip
    (.exit 0)))
  (.seq (.block 1
    (.reg [
    ⟨none, some 50, .faddr 3 (.t 2)⟩,
    ⟨none, some 51, .load false 1 (.t 50)⟩,
    ⟨none, some 52, .mv (.t 5)⟩,
    ⟨none, some 53, .iaddrS 5 (.t 51) (.t 52)⟩,
    ⟨none, some 54, .load true 5 (.t 53)⟩,
    ⟨none, some 55, .mv (.t 1)⟩,
    ⟨none, some 56, .call 17 [(.t 54), (.t 55)]⟩,
    ⟨none, some 1, .mv (.t 56)⟩]))
  (.reg [
  ⟨none, some 48, .mv (.t 5)⟩,
  ⟨none, some 49, .binI .add (.t 48) (.k (.int .i64 1))⟩,
  ⟨none, some 5, .mv (.t 49)⟩])))
def lv_graduslaw18_weight_2 : List Nat := [1, 2, 6]
def lp_graduslaw18_weight_2 : MC :=
  (.seq (.seq (.reg [
  ⟨none, some 57, .mv (.t 6)⟩,
  ⟨none, some 58, .faddr 4 (.t 2)⟩,
  ⟨none, some 59, .load false 1 (.t 58)⟩,
  ⟨none, some 60, .len (.t 59)⟩,
  ⟨none, some 61, .binI .lss (.t 57) (.t 60)⟩,
  ⟨none, some 62, .mv (.t 61)⟩,
  ⟨(some (62, true)), some 63, .mv (.t 1)⟩,
  ⟨(some (62, true)), some 64, .binI .gtr (.t 63) (.k (.int .i64 0))⟩,
  ⟨none, some 65, .pick (.t 62) (.t 64) (.k (.bool false))⟩])
  (.cond (.t 65)
    .skip
    (.exit 2)))
  (.seq (.block 3
    (.reg [
    ⟨none, some 68, .faddr 4 (.t 2)⟩,
    ⟨none, some 69, .load false 1 (.t 68)⟩,
    ⟨none, some 70, .mv (.t 6)⟩,
    ⟨none, some 71, .iaddrS 5 (.t 69) (.t 70)⟩,
    ⟨none, some 72, .load true 5 (.t 71)⟩,
    ⟨none, some 73, .mv (.t 1)⟩,
    ⟨none, some 74, .call 17 [(.t 72), (.t 73)]⟩,
    ⟨none, some 1, .mv (.t 74)⟩]))
  (.reg [
  ⟨none, some 66, .mv (.t 6)⟩,
  ⟨none, some 67, .binI .add (.t 66) (.k (.int .i64 1))⟩,
  ⟨none, some 6, .mv (.t 67)⟩])))
abbrev F.graduslaw18_weight : FuncId := 17
def mc_graduslaw18_weight : MC :=
  (.seq (.reg [
  ⟨none, some 2, .boxP (.t 0)⟩,
  ⟨none, some 4, .mv (.k (.int .i64 0))⟩])
  (.seq (.seq (.reg [
  ⟨none, some 7, .faddr 0 (.t 2)⟩,
  ⟨none, some 8, .load false 1 (.t 7)⟩,
  ⟨none, some 9, .len (.t 8)⟩,
  ⟨none, some 10, .binI .gtr (.t 9) (.k (.int .i64 100))⟩,
  ⟨none, some 11, .mv (.t 10)⟩,
  ⟨(some (11, false)), some 12, .faddr 1 (.t 2)⟩,
  ⟨(some (11, false)), some 13, .load false 1 (.t 12)⟩,
  ⟨(some (11, false)), some 14, .len (.t 13)⟩,
  ⟨(some (11, false)), some 15, .binI .gtr (.t 14) (.k (.int .i64 100))⟩,
  ⟨none, some 16, .pick (.t 11) (.k (.bool true)) (.t 15)⟩,
  ⟨none, some 17, .mv (.t 16)⟩,
  ⟨(some (17, false)), some 18, .faddr 2 (.t 2)⟩,
  ⟨(some (17, false)), some 19, .load false 1 (.t 18)⟩,
  ⟨(some (17, false)), some 20, .len (.t 19)⟩,
  ⟨(some (17, false)), some 21, .binI .gtr (.t 20) (.k (.int .i64 100))⟩,
  ⟨none, some 22, .pick (.t 17) (.k (.bool true)) (.t 21)⟩,
  ⟨none, some 23, .mv (.t 22)⟩,
  ⟨(some (23, false)), some 24, .faddr 3 (.t 2)⟩,
  ⟨(some (23, false)), some 25, .load false 1 (.t 24)⟩,
  ⟨(some (23, false)), some 26, .len (.t 25)⟩,
  ⟨(some (23, false)), some 27, .mv (.t 1)⟩,
  ⟨(some (23, false)), some 28, .binI .gtr (.t 26) (.t 27)⟩,
  ⟨none, some 29, .pick (.t 23) (.k (.bool true)) (.t 28)⟩,
  ⟨none, some 30, .mv (.t 29)⟩,
  ⟨(some (30, false)), some 31, .faddr 4 (.t 2)⟩,
  ⟨(some (30, false)), some 32, .load false 1 (.t 31)⟩,
  ⟨(some (30, false)), some 33, .len (.t 32)⟩,
  ⟨(some (30, false)), some 34, .mv (.t 1)⟩,
  ⟨(some (30, false)), some 35, .binI .gtr (.t 33) (.t 34)⟩,
  ⟨none, some 36, .pick (.t 30) (.k (.bool true)) (.t 35)⟩])
  (.cond (.t 36)
    (.seq (.reg [
    ⟨none, some 4, .mv (.k (.int .i64 0))⟩])
    .ret)
    .skip))
  (.seq (.reg [
  ⟨none, some 37, .mv (.t 1)⟩,
  ⟨none, some 38, .binI .sub (.t 37) (.k (.int .i64 1))⟩,
  ⟨none, some 1, .mv (.t 38)⟩])
  (.seq (.seq (.reg [
  ⟨none, some 5, .mv (.k (.int .i64 0))⟩])
  (.block 0 (.loop lp_graduslaw18_weight_0)))
  (.seq (.seq (.reg [
  ⟨none, some 6, .mv (.k (.int .i64 0))⟩])
  (.block 2 (.loop lp_graduslaw18_weight_2)))
  (.seq (.reg [
  ⟨none, some 75, .mv (.t 1)⟩,
  ⟨none, some 4, .mv (.t 75)⟩])
  .ret))))))
theorem w_graduslaw18_weight {args : List DV} {v : DV} (hn : args.length ≤ 76) (h : DV.okL args → ∀ c : Ctx, c.N = 76 → c.pure → w_ Pg c mc_graduslaw18_weight (endQ [.tmp 4] v) ⟨⟩ ⟨argT 0 args, fun _ => .non, 0⟩) : PCall Pg F.graduslaw18_weight args v :=
  PCall.of_walk Try.func17 rfl (by kernel_rfl) (by kernel_rfl) (by kernel_rfl) hn fun o c e p => W.aw Pg_mixed (w_start (h o c e p))
abbrev F.verify_has : FuncId := 18
def mc_verify_has : MC :=
  (.seq (.reg [
  ⟨none, some 4, .mv (.k (.bool false))⟩])
  (.seq (.reg [
  ⟨none, some 5, .mv (.t 0)⟩,
  ⟨none, some 6, .binI .geq (.t 5) (.k (.int .i64 0))⟩,
  ⟨none, some 7, .mv (.t 6)⟩,
  ⟨(some (7, true)), some 8, .mv (.t 0)⟩,
  ⟨(some (7, true)), some 9, .mv (.t 1)⟩,
  ⟨(some (7, true)), some 10, .binI .lss (.t 8) (.t 9)⟩,
  ⟨none, some 11, .pick (.t 7) (.t 10) (.k (.bool false))⟩,
  ⟨none, some 4, .mv (.t 11)⟩])
  .ret))
theorem w_verify_has {args : List DV} {v : DV} (hn : args.length ≤ 12) (h : DV.okL args → ∀ c : Ctx, c.N = 12 → c.pure → w_ Pg c mc_verify_has (endQ [.tmp 4] v) ⟨⟩ ⟨argT 0 args, fun _ => .non, 0⟩) : PCall Pg F.verify_has args v :=
  PCall.of_walk Try.func18 rfl (by kernel_rfl) (by kernel_rfl) (by kernel_rfl) hn fun o c e p => W.aw Pg_mixed (w_start (h o c e p))
abbrev F.verify_function : FuncId := 19
def mc_verify_function : MC :=
  (.seq (.reg [
  ⟨none, some 2, .boxP (.t 0)⟩,
  ⟨none, some 3, .boxP (.t 1)⟩,
  ⟨none, some 4, .mv (.k (.bool false))⟩])
  (.seq (.reg [
  ⟨none, some 7, .faddr 2 (.t 3)⟩,
  ⟨none, some 8, .load false 1 (.t 7)⟩,
  ⟨none, some 9, .len (.t 8)⟩,
  ⟨none, some 5, .mv (.t 9)⟩])
  (.seq (.seq (.reg [
  ⟨none, some 10, .faddr 0 (.t 3)⟩,
  ⟨none, some 11, .load false 1 (.t 10)⟩,
  ⟨none, some 12, .binI .lss (.t 11) (.k (.int .i64 0))⟩,
  ⟨none, some 13, .mv (.t 12)⟩,
  ⟨(some (13, false)), some 14, .faddr 1 (.t 3)⟩,
  ⟨(some (13, false)), some 15, .load false 1 (.t 14)⟩,
  ⟨(some (13, false)), some 16, .faddr 0 (.t 3)⟩,
  ⟨(some (13, false)), some 17, .load false 1 (.t 16)⟩,
  ⟨(some (13, false)), some 18, .binI .leq (.t 15) (.t 17)⟩,
  ⟨none, some 19, .pick (.t 13) (.k (.bool true)) (.t 18)⟩,
  ⟨none, some 20, .mv (.t 19)⟩,
  ⟨(some (20, false)), some 21, .faddr 1 (.t 3)⟩,
  ⟨(some (20, false)), some 22, .load false 1 (.t 21)⟩,
  ⟨(some (20, false)), some 23, .binI .gtr (.t 22) (.k (.int .i64 256))⟩,
  ⟨none, some 24, .pick (.t 20) (.k (.bool true)) (.t 23)⟩,
  ⟨none, some 25, .mv (.t 24)⟩,
  ⟨(some (25, false)), some 26, .mv (.t 5)⟩,
  ⟨(some (25, false)), some 27, .binI .eql (.t 26) (.k (.int .i64 0))⟩,
  ⟨none, some 28, .pick (.t 25) (.k (.bool true)) (.t 27)⟩,
  ⟨none, some 29, .mv (.t 28)⟩,
  ⟨(some (29, false)), some 30, .mv (.t 5)⟩,
  ⟨(some (29, false)), some 31, .binI .gtr (.t 30) (.k (.int .i64 65536))⟩,
  ⟨none, some 32, .pick (.t 29) (.k (.bool true)) (.t 31)⟩])
  (.cond (.t 32)
    (.seq (.reg [
    ⟨none, some 4, .mv (.k (.bool false))⟩])
    .ret)
    .skip))
  (.seq (.seq (.reg [
  ⟨none, some 33, .faddr 2 (.t 3)⟩,
  ⟨none, some 34, .load false 1 (.t 33)⟩,
  ⟨none, some 35, .mv (.t 5)⟩,
  ⟨none, some 36, .binI .sub (.t 35) (.k (.int .i64 1))⟩,
  ⟨none, some 37, .iaddrS 4 (.t 34) (.t 36)⟩,
  ⟨none, some 38, .faddr 0 (.t 37)⟩,
  ⟨none, some 39, .load false 1 (.t 38)⟩,
  ⟨none, some 6, .mv (.t 39)⟩])
  (.seq (.reg [
  ⟨none, some 40, .mv (.t 6)⟩,
  ⟨none, some 41, .binI .neq (.t 40) (.k (.int .i64 23))⟩,
  ⟨none, some 42, .mv (.t 41)⟩,
  ⟨(some (42, true)), some 43, .mv (.t 6)⟩,
  ⟨(some (42, true)), some 44, .binI .neq (.t 43) (.k (.int .i64 24))⟩,
  ⟨none, some 45, .pick (.t 42) (.t 44) (.k (.bool false))⟩])
  (.cond (.t 45)
    (.seq (.reg [
    ⟨none, some 4, .mv (.k (.bool false))⟩])
    .ret)
    .skip)))
  (.seq (.reg [
  ⟨none, some 46, .faddr 2 (.t 3)⟩,
  ⟨none, some 47, .load false 1 (.t 46)⟩,
  ⟨none, some 48, .mkfn 37 [(.t 2), (.t 3)]⟩,
  ⟨none, some 49, .call 36 [(.t 47), (.t 48)]⟩,
  ⟨none, some 50, .not (.t 49)⟩,
  ⟨none, some 4, .mv (.t 50)⟩])
  .ret)))))
theorem w_verify_function {args : List DV} {v : DV} (hn : args.length ≤ 51) (h : DV.okL args → ∀ c : Ctx, c.N = 51 → c.pure → w_ Pg c mc_verify_function (endQ [.tmp 4] v) ⟨⟩ ⟨argT 0 args, fun _ => .non, 0⟩) : PCall Pg F.verify_function args v :=
  PCall.of_walk Try.func19 rfl (by kernel_rfl) (by kernel_rfl) (by kernel_rfl) hn fun o c e p => W.aw Pg_mixed (w_start (h o c e p))
abbrev F.slices_ContainsFunc_api_Co_api_Co : FuncId := 20
def mc_slices_ContainsFunc_api_Co_api_Co : MC :=
  (.seq (.reg [
  ⟨none, some 4, .mv (.k (.bool false))⟩])
  (.seq (.reg [
  ⟨none, some 5, .mv (.t 0)⟩,
  ⟨none, some 6, .mv (.t 1)⟩,
  ⟨none, some 7, .call 39 [(.t 5), (.t 6)]⟩,
  ⟨none, some 8, .binI .geq (.t 7) (.k (.int .i64 0))⟩,
  ⟨none, some 4, .mv (.t 8)⟩])
  .ret))
theorem w_slices_ContainsFunc_api_Co_api_Co {args : List DV} {v : DV} (hn : args.length ≤ 9) (h : DV.okL args → ∀ c : Ctx, c.N = 9 → c.pure → w_ Pg c mc_slices_ContainsFunc_api_Co_api_Co (endQ [.tmp 4] v) ⟨⟩ ⟨argT 0 args, fun _ => .non, 0⟩) : PCall Pg F.slices_ContainsFunc_api_Co_api_Co args v :=
  PCall.of_walk Try.func20 rfl (by kernel_rfl) (by kernel_rfl) (by kernel_rfl) hn fun o c e p => W.aw Pg_mixed (w_start (h o c e p))
abbrev F.verify_Verify_1 : FuncId := 21
def mc_verify_Verify_1 : MC :=
  (.seq (.reg [
  ⟨none, some 1, .boxP (.t 0)⟩,
  ⟨none, some 2, .mv (.k (.bool false))⟩])
  (.seq (.reg [
  ⟨none, some 3, .load true 5 (.t 1)⟩,
  ⟨none, some 4, .call 22 [(.t 3)]⟩,
  ⟨none, some 5, .not (.t 4)⟩,
  ⟨none, some 2, .mv (.t 5)⟩])
  .ret))
theorem w_verify_Verify_1 {args : List DV} {v : DV} (hn : args.length ≤ 6) (h : DV.okL args → ∀ c : Ctx, c.N = 6 → c.pure → w_ Pg c mc_verify_Verify_1 (endQ [.tmp 2] v) ⟨⟩ ⟨argT 0 args, fun _ => .non, 0⟩) : PCall Pg F.verify_Verify_1 args v :=
  PCall.of_walk Try.func21 rfl (by kernel_rfl) (by kernel_rfl) (by kernel_rfl) hn fun o c e p => W.aw Pg_mixed (w_start (h o c e p))
def lv_coerce_May_0 : List Nat := [1, 3, 60, 61, 62]
def lp_coerce_May_0 : MC :=
  (.seq (.reg [
  ⟨none, some 63, .binI .lss (.t 62) (.t 61)⟩])
  (.seq (.cond (.t 63)
    .skip
    (.exit 0))
  (.seq (.block 1
    (.seq (.reg [
    ⟨none, some 64, .iaddrS 2 (.t 60) (.t 62)⟩,
    ⟨none, some 65, .load true 2 (.t 64)⟩,
    ⟨none, some 5, .alloc [.str (bs []), .int .i64 0]⟩,
    ⟨none, none, .store 2 (.t 5) (.t 65)⟩])
    (.seq (.seq (.reg [
    ⟨none, some 66, .faddr 1 (.t 5)⟩,
    ⟨none, some 67, .load false 1 (.t 66)⟩,
    ⟨none, some 68, .binI .eql (.t 67) (.k (.int .i64 0))⟩,
    ⟨none, some 69, .mv (.t 68)⟩,
    ⟨(some (69, false)), some 70, .mv (.t 3)⟩,
    ⟨(some (69, false)), some 71, .faddr 0 (.t 5)⟩,
    ⟨(some (69, false)), some 72, .load false 1 (.t 71)⟩,
    ⟨(some (69, false)), some 73, .mlook 1 false false [.bool false] (.t 70) (.t 72)⟩,
    ⟨none, some 74, .pick (.t 69) (.k (.bool true)) (.t 73)⟩])
    (.cond (.t 74)
      (.seq (.reg [
      ⟨none, some 2, .mv (.k (.bool false))⟩])
      .ret)
      .skip))
    (.reg [
    ⟨none, some 75, .mv (.t 3)⟩,
    ⟨none, some 76, .faddr 0 (.t 5)⟩,
    ⟨none, some 77, .load false 1 (.t 76)⟩,
    ⟨none, none, .mset 1 (.t 75) (.t 77) (.k (.bool true))⟩]))))
  (.reg [
  ⟨none, some 78, .binI .add (.t 62) (.k (.int .i64 1))⟩,
  ⟨none, some 62, .mv (.t 78)⟩]))))
def lv_coerce_May_2 : List Nat := [1, 80, 81, 82]
def lp_coerce_May_2 : MC :=
  (.seq (.reg [
  ⟨none, some 83, .binI .lss (.t 82) (.t 81)⟩])
  (.seq (.cond (.t 83)
    .skip
    (.exit 2))
  (.seq (.block 3
    (.seq (.reg [
    ⟨none, some 84, .mv (.t 82)⟩,
    ⟨none, some 85, .iaddrS 5 (.t 80) (.t 82)⟩,
    ⟨none, some 86, .load true 5 (.t 85)⟩,
    ⟨none, some 7, .alloc [.sl true 1 [], .sl true 2 [], .sl true 1 [], .sl true 5 [], .sl true 5 []]⟩,
    ⟨none, some 6, .mv (.t 84)⟩,
    ⟨none, none, .store 5 (.t 7) (.t 86)⟩])
    (.seq (.regd [0, 1, 3, 7, 15, 7, 39, 127, 255, 7, 519, 7, 3591, 7687, 16383, 32767, 65535, 131071, 262143, 524287, 1048575, 2097151, 4194303, 8388607, 16777215, 33554431] [
    ⟨none, some 87, .mv (.t 6)⟩,
    ⟨none, some 88, .binI .gtr (.t 87) (.k (.int .i64 0))⟩,
    ⟨none, some 89, .mv (.t 88)⟩,
    ⟨(some (89, true)), some 90, .faddr 2 (.t 1)⟩,
    ⟨(some (89, true)), some 91, .load false 1 (.t 90)⟩,
    ⟨(some (89, true)), some 92, .mv (.t 6)⟩,
    ⟨(some (89, true)), some 93, .binI .sub (.t 92) (.k (.int .i64 1))⟩,
    ⟨(some (89, true)), some 94, .iaddrS 1 (.t 91) (.t 93)⟩,
    ⟨(some (89, true)), some 95, .load false 1 (.t 94)⟩,
    ⟨(some (89, true)), some 96, .faddr 2 (.t 1)⟩,
    ⟨(some (89, true)), some 97, .load false 1 (.t 96)⟩,
    ⟨(some (89, true)), some 98, .mv (.t 6)⟩,
    ⟨(some (89, true)), some 99, .iaddrS 1 (.t 97) (.t 98)⟩,
    ⟨(some (89, true)), some 100, .load false 1 (.t 99)⟩,
    ⟨(some (89, true)), some 101, .call 40 [(.t 95), (.t 100)]⟩,
    ⟨(some (89, true)), some 102, .binI .geq (.t 101) (.k (.int .i64 0))⟩,
    ⟨none, some 103, .pick (.t 89) (.t 102) (.k (.bool false))⟩,
    ⟨none, some 104, .mv (.t 103)⟩,
    ⟨(some (104, false)), some 105, .load true 5 (.t 7)⟩,
    ⟨(some (104, false)), some 106, .call 22 [(.t 105)]⟩,
    ⟨(some (104, false)), some 107, .not (.t 106)⟩,
    ⟨none, some 108, .pick (.t 104) (.k (.bool true)) (.t 107)⟩,
    ⟨none, some 109, .mv (.t 108)⟩,
    ⟨(some (109, false)), some 110, .load true 5 (.t 7)⟩,
    ⟨(some (109, false)), some 111, .call 41 [(.t 110)]⟩,
    ⟨none, some 112, .pick (.t 109) (.k (.bool true)) (.t 111)⟩])
    (.cond (.t 112)
      (.seq (.reg [
      ⟨none, some 2, .mv (.k (.bool false))⟩])
      .ret)
      .skip))))
  (.reg [
  ⟨none, some 113, .binI .add (.t 82) (.k (.int .i64 1))⟩,
  ⟨none, some 82, .mv (.t 113)⟩]))))
abbrev F.coerce_May : FuncId := 22
def mc_coerce_May : MC :=
  (.seq (.reg [
  ⟨none, some 1, .boxP (.t 0)⟩,
  ⟨none, some 2, .mv (.k (.bool false))⟩])
  (.seq (.seq (.reg [
  ⟨none, some 8, .faddr 0 (.t 1)⟩,
  ⟨none, some 9, .load false 1 (.t 8)⟩,
  ⟨none, some 10, .len (.t 9)⟩,
  ⟨none, some 11, .binI .neq (.t 10) (.k (.int .i64 6))⟩,
  ⟨none, some 12, .mv (.t 11)⟩,
  ⟨(some (12, false)), some 13, .faddr 2 (.t 1)⟩,
  ⟨(some (12, false)), some 14, .load false 1 (.t 13)⟩,
  ⟨(some (12, false)), some 15, .len (.t 14)⟩,
  ⟨(some (12, false)), some 16, .faddr 3 (.t 1)⟩,
  ⟨(some (12, false)), some 17, .load false 1 (.t 16)⟩,
  ⟨(some (12, false)), some 18, .len (.t 17)⟩,
  ⟨(some (12, false)), some 19, .binI .neq (.t 15) (.t 18)⟩,
  ⟨none, some 20, .pick (.t 12) (.k (.bool true)) (.t 19)⟩,
  ⟨none, some 21, .mv (.t 20)⟩,
  ⟨(some (21, false)), some 22, .faddr 4 (.t 1)⟩,
  ⟨(some (21, false)), some 23, .load false 1 (.t 22)⟩,
  ⟨(some (21, false)), some 24, .len (.t 23)⟩,
  ⟨(some (21, false)), some 25, .divI .rem (.t 24) (.k (.int .i64 2))⟩,
  ⟨(some (21, false)), some 26, .binI .neq (.t 25) (.k (.int .i64 0))⟩,
  ⟨none, some 27, .pick (.t 21) (.k (.bool true)) (.t 26)⟩,
  ⟨none, some 28, .mv (.t 27)⟩,
  ⟨(some (28, false)), some 29, .faddr 4 (.t 1)⟩,
  ⟨(some (28, false)), some 30, .load false 1 (.t 29)⟩,
  ⟨(some (28, false)), some 31, .len (.t 30)⟩,
  ⟨(some (28, false)), some 32, .binI .gtr (.t 31) (.k (.int .i64 2))⟩,
  ⟨none, some 33, .pick (.t 28) (.k (.bool true)) (.t 32)⟩])
  (.cond (.t 33)
    (.seq (.reg [
    ⟨none, some 2, .mv (.k (.bool false))⟩])
    .ret)
    .skip))
  (.seq (.seq (.reg [
  ⟨none, some 34, .faddr 0 (.t 1)⟩,
  ⟨none, some 35, .load false 1 (.t 34)⟩,
  ⟨none, some 36, .iaddrS 1 (.t 35) (.k (.int .i64 4))⟩,
  ⟨none, some 37, .load false 1 (.t 36)⟩,
  ⟨none, some 38, .binI .neq (.t 37) (.k (.int .i64 0))⟩,
  ⟨none, some 39, .mv (.t 38)⟩,
  ⟨(some (39, true)), some 40, .faddr 2 (.t 1)⟩,
  ⟨(some (39, true)), some 41, .load false 1 (.t 40)⟩,
  ⟨(some (39, true)), some 42, .len (.t 41)⟩,
  ⟨(some (39, true)), some 43, .binI .gtr (.t 42) (.k (.int .i64 0))⟩,
  ⟨none, some 44, .pick (.t 39) (.t 43) (.k (.bool false))⟩,
  ⟨none, some 45, .mv (.t 44)⟩,
  ⟨(some (45, false)), some 46, .faddr 0 (.t 1)⟩,
  ⟨(some (45, false)), some 47, .load false 1 (.t 46)⟩,
  ⟨(some (45, false)), some 48, .iaddrS 1 (.t 47) (.k (.int .i64 5))⟩,
  ⟨(some (45, false)), some 49, .load false 1 (.t 48)⟩,
  ⟨(some (45, false)), some 50, .binI .neq (.t 49) (.k (.int .i64 0))⟩,
  ⟨(some (45, false)), some 51, .mv (.t 50)⟩,
  ⟨(some (51, true)), some 52, .faddr 4 (.t 1)⟩,
  ⟨(some (51, true)), some 53, .load false 1 (.t 52)⟩,
  ⟨(some (51, true)), some 54, .len (.t 53)⟩,
  ⟨(some (51, true)), some 55, .binI .gtr (.t 54) (.k (.int .i64 0))⟩,
  ⟨(some (45, false)), some 56, .pick (.t 51) (.t 55) (.k (.bool false))⟩,
  ⟨none, some 57, .pick (.t 45) (.k (.bool true)) (.t 56)⟩])
  (.cond (.t 57)
    (.seq (.reg [
    ⟨none, some 2, .mv (.k (.bool false))⟩])
    .ret)
    .skip))
  (.seq (.reg [
  ⟨none, some 58, .mkmap⟩,
  ⟨none, some 3, .mv (.t 58)⟩])
  (.seq (.seq (.reg [
  ⟨none, some 59, .faddr 1 (.t 1)⟩,
  ⟨none, some 60, .load false 1 (.t 59)⟩,
  ⟨none, some 61, .len (.t 60)⟩,
  ⟨none, some 62, .mv (.k (.int .i64 0))⟩])
  (.block 0 (.loop lp_coerce_May_0)))
  (.seq (.seq (.reg [
  ⟨none, some 79, .faddr 3 (.t 1)⟩,
  ⟨none, some 80, .load false 1 (.t 79)⟩,
  ⟨none, some 81, .len (.t 80)⟩,
  ⟨none, some 82, .mv (.k (.int .i64 0))⟩])
  (.block 2 (.loop lp_coerce_May_2)))
  (.seq (.reg [
  ⟨none, some 114, .faddr 4 (.t 1)⟩,
  ⟨none, some 115, .load false 1 (.t 114)⟩,
  ⟨none, some 116, .len (.t 115)⟩,
  ⟨none, some 117, .binI .eql (.t 116) (.k (.int .i64 0))⟩,
  ⟨none, some 118, .mv (.t 117)⟩,
  ⟨(some (118, false)), some 119, .faddr 4 (.t 1)⟩,
  ⟨(some (118, false)), some 120, .load false 1 (.t 119)⟩,
  ⟨(some (118, false)), some 121, .iaddrS 5 (.t 120) (.k (.int .i64 0))⟩,
  ⟨(some (118, false)), some 122, .load true 5 (.t 121)⟩,
  ⟨(some (118, false)), some 123, .call 22 [(.t 122)]⟩,
  ⟨(some (118, false)), some 124, .mv (.t 123)⟩,
  ⟨(some (124, true)), some 125, .faddr 4 (.t 1)⟩,
  ⟨(some (124, true)), some 126, .load false 1 (.t 125)⟩,
  ⟨(some (124, true)), some 127, .iaddrS 5 (.t 126) (.k (.int .i64 1))⟩,
  ⟨(some (124, true)), some 128, .load true 5 (.t 127)⟩,
  ⟨(some (124, true)), some 129, .call 22 [(.t 128)]⟩,
  ⟨(some (118, false)), some 130, .pick (.t 124) (.t 129) (.k (.bool false))⟩,
  ⟨(some (118, false)), some 131, .mv (.t 130)⟩,
  ⟨(some (131, true)), some 132, .faddr 4 (.t 1)⟩,
  ⟨(some (131, true)), some 133, .load false 1 (.t 132)⟩,
  ⟨(some (131, true)), some 134, .iaddrS 5 (.t 133) (.k (.int .i64 0))⟩,
  ⟨(some (131, true)), some 135, .load true 5 (.t 134)⟩,
  ⟨(some (131, true)), some 136, .call 41 [(.t 135)]⟩,
  ⟨(some (131, true)), some 137, .mv (.t 136)⟩,
  ⟨(some (137, true)), some 138, .faddr 4 (.t 1)⟩,
  ⟨(some (137, true)), some 139, .load false 1 (.t 138)⟩,
  ⟨(some (137, true)), some 140, .iaddrS 5 (.t 139) (.k (.int .i64 1))⟩,
  ⟨(some (137, true)), some 141, .load true 5 (.t 140)⟩,
  ⟨(some (137, true)), some 142, .call 41 [(.t 141)]⟩,
  ⟨(some (131, true)), some 143, .pick (.t 137) (.t 142) (.k (.bool false))⟩,
  ⟨(some (131, true)), some 144, .not (.t 143)⟩,
  ⟨(some (118, false)), some 145, .pick (.t 131) (.t 144) (.k (.bool false))⟩,
  ⟨none, some 146, .pick (.t 118) (.k (.bool true)) (.t 145)⟩,
  ⟨none, some 2, .mv (.t 146)⟩])
  .ret)))))))
theorem w_coerce_May {args : List DV} {v : DV} (hn : args.length ≤ 147) (h : DV.okL args → ∀ c : Ctx, c.N = 147 → c.pure → w_ Pg c mc_coerce_May (endQ [.tmp 2] v) ⟨⟩ ⟨argT 0 args, fun _ => .non, 0⟩) : PCall Pg F.coerce_May args v :=
  PCall.of_walk Try.func22 rfl (by kernel_rfl) (by kernel_rfl) (by kernel_rfl) hn fun o c e p => W.aw Pg_mixed (w_start (h o c e p))
abbrev F.slices_ContainsFunc_string_string : FuncId := 23
def mc_slices_ContainsFunc_string_string : MC :=
  (.seq (.reg [
  ⟨none, some 4, .mv (.k (.bool false))⟩])
  (.seq (.reg [
  ⟨none, some 5, .mv (.t 0)⟩,
  ⟨none, some 6, .mv (.t 1)⟩,
  ⟨none, some 7, .call 42 [(.t 5), (.t 6)]⟩,
  ⟨none, some 8, .binI .geq (.t 7) (.k (.int .i64 0))⟩,
  ⟨none, some 4, .mv (.t 8)⟩])
  .ret))
theorem w_slices_ContainsFunc_string_string {args : List DV} {v : DV} (hn : args.length ≤ 9) (h : DV.okL args → ∀ c : Ctx, c.N = 9 → c.pure → w_ Pg c mc_slices_ContainsFunc_string_string (endQ [.tmp 4] v) ⟨⟩ ⟨argT 0 args, fun _ => .non, 0⟩) : PCall Pg F.slices_ContainsFunc_string_string args v :=
  PCall.of_walk Try.func23 rfl (by kernel_rfl) (by kernel_rfl) (by kernel_rfl) hn fun o c e p => W.aw Pg_mixed (w_start (h o c e p))
abbrev F.verify_Verify_2 : FuncId := 24
def mc_verify_Verify_2 : MC :=
  (.seq (.reg [
  ⟨none, some 2, .mv (.k (.bool false))⟩])
  (.seq (.reg [
  ⟨none, some 3, .mv (.t 0)⟩,
  ⟨none, some 4, .call 25 [(.t 3)]⟩,
  ⟨none, some 5, .not (.t 4)⟩,
  ⟨none, some 2, .mv (.t 5)⟩])
  .ret))
theorem w_verify_Verify_2 {args : List DV} {v : DV} (hn : args.length ≤ 6) (h : DV.okL args → ∀ c : Ctx, c.N = 6 → c.pure → w_ Pg c mc_verify_Verify_2 (endQ [.tmp 2] v) ⟨⟩ ⟨argT 0 args, fun _ => .non, 0⟩) : PCall Pg F.verify_Verify_2 args v :=
  PCall.of_walk Try.func24 rfl (by kernel_rfl) (by kernel_rfl) (by kernel_rfl) hn fun o c e p => W.aw Pg_mixed (w_start (h o c e p))
def lv_verify_rising_0 : List Nat := [0, 5, 6]
def lp_verify_rising_0 : MC :=
  (.seq (.reg [
  ⟨none, some 7, .binI .lss (.t 6) (.t 5)⟩])
  (.seq (.cond (.t 7)
    .skip
    (.exit 0))
  (.seq (.block 1
    (.seq (.reg [
    ⟨none, some 8, .mv (.t 6)⟩,
    ⟨none, some 3, .mv (.t 8)⟩])
    (.seq (.regd [0, 1, 3, 7, 7, 31, 63, 7, 7, 263, 903, 1927, 4095, 8191] [
    ⟨none, some 9, .mv (.t 3)⟩,
    ⟨none, some 10, .binI .gtr (.t 9) (.k (.int .i64 0))⟩,
    ⟨none, some 11, .mv (.t 10)⟩,
    ⟨(some (11, true)), some 12, .mv (.t 0)⟩,
    ⟨(some (11, true)), some 13, .mv (.t 3)⟩,
    ⟨(some (11, true)), some 14, .iaddrS 1 (.t 12) (.t 13)⟩,
    ⟨(some (11, true)), some 15, .load false 1 (.t 14)⟩,
    ⟨(some (11, true)), some 16, .mv (.t 0)⟩,
    ⟨(some (11, true)), some 17, .mv (.t 3)⟩,
    ⟨(some (11, true)), some 18, .binI .sub (.t 17) (.k (.int .i64 1))⟩,
    ⟨(some (11, true)), some 19, .iaddrS 1 (.t 16) (.t 18)⟩,
    ⟨(some (11, true)), some 20, .load false 1 (.t 19)⟩,
    ⟨(some (11, true)), some 21, .binS .leq (.t 15) (.t 20)⟩,
    ⟨none, some 22, .pick (.t 11) (.t 21) (.k (.bool false))⟩])
    (.cond (.t 22)
      (.seq (.reg [
      ⟨none, some 2, .mv (.k (.bool false))⟩])
      .ret)
      .skip))))
  (.reg [
  ⟨none, some 23, .binI .add (.t 6) (.k (.int .i64 1))⟩,
  ⟨none, some 6, .mv (.t 23)⟩]))))
abbrev F.verify_rising : FuncId := 25
def mc_verify_rising : MC :=
  (.seq (.reg [
  ⟨none, some 2, .mv (.k (.bool false))⟩])
  (.seq (.seq (.reg [
  ⟨none, some 4, .mv (.t 0)⟩,
  ⟨none, some 5, .len (.t 4)⟩,
  ⟨none, some 6, .mv (.k (.int .i64 0))⟩])
  (.block 0 (.loop lp_verify_rising_0)))
  (.seq (.reg [
  ⟨none, some 2, .mv (.k (.bool true))⟩])
  .ret)))
theorem w_verify_rising {args : List DV} {v : DV} (hn : args.length ≤ 24) (h : DV.okL args → ∀ c : Ctx, c.N = 24 → c.pure → w_ Pg c mc_verify_rising (endQ [.tmp 2] v) ⟨⟩ ⟨argT 0 args, fun _ => .non, 0⟩) : PCall Pg F.verify_rising args v :=
  PCall.of_walk Try.func25 rfl (by kernel_rfl) (by kernel_rfl) (by kernel_rfl) hn fun o c e p => W.aw Pg_mixed (w_start (h o c e p))
abbrev F.gradusref18_in : FuncId := 26
def mc_gradusref18_in : MC :=
  (.seq (.reg [
  ⟨none, some 4, .mv (.k (.bool false))⟩])
  (.seq (.reg [
  ⟨none, some 5, .mv (.t 0)⟩,
  ⟨none, some 6, .binI .geq (.t 5) (.k (.int .i64 0))⟩,
  ⟨none, some 7, .mv (.t 6)⟩,
  ⟨(some (7, true)), some 8, .mv (.t 0)⟩,
  ⟨(some (7, true)), some 9, .mv (.t 1)⟩,
  ⟨(some (7, true)), some 10, .binI .lss (.t 8) (.t 9)⟩,
  ⟨none, some 11, .pick (.t 7) (.t 10) (.k (.bool false))⟩,
  ⟨none, some 4, .mv (.t 11)⟩])
  .ret))
theorem w_gradusref18_in {args : List DV} {v : DV} (hn : args.length ≤ 12) (h : DV.okL args → ∀ c : Ctx, c.N = 12 → c.pure → w_ Pg c mc_gradusref18_in (endQ [.tmp 4] v) ⟨⟩ ⟨argT 0 args, fun _ => .non, 0⟩) : PCall Pg F.gradusref18_in args v :=
  PCall.of_walk Try.func26 rfl (by kernel_rfl) (by kernel_rfl) (by kernel_rfl) hn fun o c e p => W.aw Pg_mixed (w_start (h o c e p))
def lv_gradusref18_proc_0 : List Nat := [2, 3, 5, 7]
def lp_gradusref18_proc_0 : MC :=
  (.seq (.seq (.reg [
  ⟨none, some 48, .mv (.t 7)⟩,
  ⟨none, some 49, .mv (.t 5)⟩,
  ⟨none, some 50, .binI .lss (.t 48) (.t 49)⟩])
  (.cond (.t 50)
    .skip
    (.exit 0)))
  (.seq (.block 1
    (.seq (.regd [0, 0, 0, 4, 0, 28, 60, 127, 255] [
    ⟨none, some 53, .load true 7 (.t 2)⟩,
    ⟨none, some 54, .load true 3 (.t 3)⟩,
    ⟨none, some 55, .faddr 2 (.t 3)⟩,
    ⟨none, some 56, .load false 1 (.t 55)⟩,
    ⟨none, some 57, .mv (.t 7)⟩,
    ⟨none, some 58, .iaddrS 4 (.t 56) (.t 57)⟩,
    ⟨none, some 59, .load true 4 (.t 58)⟩,
    ⟨none, some 60, .call 43 [(.t 53), (.t 54), (.t 59)]⟩,
    ⟨none, some 8, .mv (.t 60)⟩])
    (.seq (.reg [
    ⟨none, some 61, .mv (.t 8)⟩,
    ⟨none, some 62, .not (.t 61)⟩])
    (.cond (.t 62)
      (.seq (.reg [
      ⟨none, some 4, .mv (.k (.bool false))⟩])
      .ret)
      .skip))))
  (.reg [
  ⟨none, some 51, .mv (.t 7)⟩,
  ⟨none, some 52, .binI .add (.t 51) (.k (.int .i64 1))⟩,
  ⟨none, some 7, .mv (.t 52)⟩])))
abbrev F.gradusref18_proc : FuncId := 27
def mc_gradusref18_proc : MC :=
  (.seq (.reg [
  ⟨none, some 2, .boxP (.t 0)⟩,
  ⟨none, some 3, .boxP (.t 1)⟩,
  ⟨none, some 4, .mv (.k (.bool false))⟩])
  (.seq (.reg [
  ⟨none, some 9, .faddr 2 (.t 3)⟩,
  ⟨none, some 10, .load false 1 (.t 9)⟩,
  ⟨none, some 11, .len (.t 10)⟩,
  ⟨none, some 5, .mv (.t 11)⟩])
  (.seq (.seq (.reg [
  ⟨none, some 12, .faddr 0 (.t 3)⟩,
  ⟨none, some 13, .load false 1 (.t 12)⟩,
  ⟨none, some 14, .binI .lss (.t 13) (.k (.int .i64 0))⟩,
  ⟨none, some 15, .mv (.t 14)⟩,
  ⟨(some (15, false)), some 16, .faddr 1 (.t 3)⟩,
  ⟨(some (15, false)), some 17, .load false 1 (.t 16)⟩,
  ⟨(some (15, false)), some 18, .faddr 0 (.t 3)⟩,
  ⟨(some (15, false)), some 19, .load false 1 (.t 18)⟩,
  ⟨(some (15, false)), some 20, .binI .leq (.t 17) (.t 19)⟩,
  ⟨none, some 21, .pick (.t 15) (.k (.bool true)) (.t 20)⟩,
  ⟨none, some 22, .mv (.t 21)⟩,
  ⟨(some (22, false)), some 23, .faddr 1 (.t 3)⟩,
  ⟨(some (22, false)), some 24, .load false 1 (.t 23)⟩,
  ⟨(some (22, false)), some 25, .binI .gtr (.t 24) (.k (.int .i64 256))⟩,
  ⟨none, some 26, .pick (.t 22) (.k (.bool true)) (.t 25)⟩,
  ⟨none, some 27, .mv (.t 26)⟩,
  ⟨(some (27, false)), some 28, .mv (.t 5)⟩,
  ⟨(some (27, false)), some 29, .binI .lss (.t 28) (.k (.int .i64 1))⟩,
  ⟨none, some 30, .pick (.t 27) (.k (.bool true)) (.t 29)⟩,
  ⟨none, some 31, .mv (.t 30)⟩,
  ⟨(some (31, false)), some 32, .mv (.t 5)⟩,
  ⟨(some (31, false)), some 33, .binI .gtr (.t 32) (.k (.int .i64 65536))⟩,
  ⟨none, some 34, .pick (.t 31) (.k (.bool true)) (.t 33)⟩])
  (.cond (.t 34)
    (.seq (.reg [
    ⟨none, some 4, .mv (.k (.bool false))⟩])
    .ret)
    .skip))
  (.seq (.reg [
  ⟨none, some 35, .faddr 2 (.t 3)⟩,
  ⟨none, some 36, .load false 1 (.t 35)⟩,
  ⟨none, some 37, .mv (.t 5)⟩,
  ⟨none, some 38, .binI .sub (.t 37) (.k (.int .i64 1))⟩,
  ⟨none, some 39, .iaddrS 4 (.t 36) (.t 38)⟩,
  ⟨none, some 40, .faddr 0 (.t 39)⟩,
  ⟨none, some 41, .load false 1 (.t 40)⟩,
  ⟨none, some 6, .mv (.t 41)⟩])
  (.seq (.seq (.reg [
  ⟨none, some 42, .mv (.t 6)⟩,
  ⟨none, some 43, .binI .neq (.t 42) (.k (.int .i64 23))⟩,
  ⟨none, some 44, .mv (.t 43)⟩,
  ⟨(some (44, true)), some 45, .mv (.t 6)⟩,
  ⟨(some (44, true)), some 46, .binI .neq (.t 45) (.k (.int .i64 24))⟩,
  ⟨none, some 47, .pick (.t 44) (.t 46) (.k (.bool false))⟩])
  (.cond (.t 47)
    (.seq (.reg [
    ⟨none, some 4, .mv (.k (.bool false))⟩])
    .ret)
    .skip))
  (.seq (.seq (.reg [
  ⟨none, some 7, .mv (.k (.int .i64 0))⟩])
  (.block 0 (.loop lp_gradusref18_proc_0)))
  (.seq (.reg [
  ⟨none, some 4, .mv (.k (.bool true))⟩])
  .ret)))))))
theorem w_gradusref18_proc {args : List DV} {v : DV} (hn : args.length ≤ 63) (h : DV.okL args → ∀ c : Ctx, c.N = 63 → c.pure → w_ Pg c mc_gradusref18_proc (endQ [.tmp 4] v) ⟨⟩ ⟨argT 0 args, fun _ => .non, 0⟩) : PCall Pg F.gradusref18_proc args v :=
  PCall.of_walk Try.func27 rfl (by kernel_rfl) (by kernel_rfl) (by kernel_rfl) hn fun o c e p => W.aw Pg_mixed (w_start (h o c e p))
abbrev F.verify_of : FuncId := 28
def mc_verify_of : MC :=
  (.seq (.reg [
  ⟨none, some 2, .alloc [.int .i64 0, .int .i64 0, .int .i64 0]⟩,
  ⟨none, some 3, .mv (.k (.bool false))⟩])
  (.seq (.seq (.reg [
  ⟨none, some 4, .mv (.t 0)⟩,
  ⟨none, some 5, .binI .lss (.t 4) (.k (.int .i64 0))⟩,
  ⟨none, some 6, .mv (.t 5)⟩,
  ⟨(some (6, false)), some 7, .mv (.t 0)⟩,
  ⟨(some (6, false)), some 8, .binI .geq (.t 7) (.k (.int .i64 33))⟩,
  ⟨none, some 9, .pick (.t 6) (.k (.bool true)) (.t 8)⟩])
  (.cond (.t 9)
    (.seq (.reg [
    ⟨none, some 10, .build [.int .i64 0, .int .i64 0, .int .i64 0] []⟩,
    ⟨none, none, .store 3 (.t 2) (.t 10)⟩,
    ⟨none, some 3, .mv (.k (.bool false))⟩])
    .ret)
    .skip))
  (.seq (.reg [
  ⟨none, some 11, .call 44 []⟩,
  ⟨none, some 12, .mv (.t 0)⟩,
  ⟨none, some 13, .idxA true 33 3 (.t 11) (.t 12)⟩,
  ⟨none, none, .store 3 (.t 2) (.t 13)⟩,
  ⟨none, some 3, .mv (.k (.bool true))⟩])
  .ret)))
theorem w_verify_of {args : List DV} {v : DV} (hn : args.length ≤ 14) (h : DV.okL args → ∀ c : Ctx, c.N = 14 → c.pure → w_ Pg c mc_verify_of (endQ [.cell 2 true 3, .tmp 3] v) ⟨⟩ ⟨argT 0 args, fun _ => .non, 0⟩) : PCall Pg F.verify_of args v :=
  PCall.of_walk Try.func28 rfl (by kernel_rfl) (by kernel_rfl) (by kernel_rfl) hn fun o c e p => W.aw Pg_mixed (w_start (h o c e p))
abbrev F.verify_columns : FuncId := 29
def mc_verify_columns : MC :=
  (.seq (.reg [
  ⟨none, some 1, .boxP (.t 0)⟩,
  ⟨none, some 2, .alloc [.int .i64 0, .int .i64 0, .int .i64 0]⟩])
  (.seq (.reg [
  ⟨none, some 3, .faddr 1 (.t 1)⟩,
  ⟨none, some 4, .load false 1 (.t 3)⟩,
  ⟨none, some 5, .faddr 2 (.t 1)⟩,
  ⟨none, some 6, .load false 1 (.t 5)⟩,
  ⟨none, some 7, .faddr 3 (.t 1)⟩,
  ⟨none, some 8, .load false 1 (.t 7)⟩,
  ⟨none, some 9, .build [.int .i64 0, .int .i64 0, .int .i64 0] [(0, 1, (.t 4)), (1, 1, (.t 6)), (2, 1, (.t 8))]⟩,
  ⟨none, none, .store 3 (.t 2) (.t 9)⟩])
  .ret))
theorem w_verify_columns {args : List DV} {v : DV} (hn : args.length ≤ 10) (h : DV.okL args → ∀ c : Ctx, c.N = 10 → c.pure → w_ Pg c mc_verify_columns (endQ [.cell 2 true 3] v) ⟨⟩ ⟨argT 0 args, fun _ => .non, 0⟩) : PCall Pg F.verify_columns args v :=
  PCall.of_walk Try.func29 rfl (by kernel_rfl) (by kernel_rfl) (by kernel_rfl) hn fun o c e p => W.aw Pg_mixed (w_start (h o c e p))
abbrev F.verify_many : FuncId := 30
def mc_verify_many : MC :=
  (.seq (.reg [
  ⟨none, some 2, .boxP (.t 0)⟩,
  ⟨none, some 3, .boxP (.t 1)⟩,
  ⟨none, some 4, .mv (.k (.int .i64 0))⟩])
  (.seq (.block 0
    (.seq (.reg [
    ⟨none, some 6, .faddr 0 (.t 3)⟩,
    ⟨none, some 7, .load false 1 (.t 6)⟩,
    ⟨none, some 8, .binI .eql (.t 7) (.k (.int .i64 17))⟩,
    ⟨none, some 9, .mv (.t 8)⟩,
    ⟨(some (9, true)), some 10, .faddr 2 (.t 3)⟩,
    ⟨(some (9, true)), some 11, .load false 1 (.t 10)⟩,
    ⟨(some (9, true)), some 12, .faddr 4 (.t 2)⟩,
    ⟨(some (9, true)), some 13, .load false 1 (.t 12)⟩,
    ⟨(some (9, true)), some 14, .len (.t 13)⟩,
    ⟨(some (9, true)), some 15, .call 18 [(.t 11), (.t 14)]⟩,
    ⟨none, some 16, .pick (.t 9) (.t 15) (.k (.bool false))⟩,
    ⟨none, some 5, .mv (.t 16)⟩])
    (.cond (.t 5)
      (.seq (.reg [
      ⟨none, some 17, .faddr 4 (.t 2)⟩,
      ⟨none, some 18, .load false 1 (.t 17)⟩,
      ⟨none, some 19, .faddr 2 (.t 3)⟩,
      ⟨none, some 20, .load false 1 (.t 19)⟩,
      ⟨none, some 21, .iaddrS 3 (.t 18) (.t 20)⟩,
      ⟨none, some 22, .faddr 0 (.t 21)⟩,
      ⟨none, some 23, .load false 1 (.t 22)⟩,
      ⟨none, some 4, .mv (.t 23)⟩])
      .ret)
      (.seq (.reg [
      ⟨none, some 25, .faddr 0 (.t 3)⟩,
      ⟨none, some 26, .load false 1 (.t 25)⟩,
      ⟨none, some 27, .binI .eql (.t 26) (.k (.int .i64 18))⟩,
      ⟨none, some 28, .mv (.t 27)⟩,
      ⟨(some (28, true)), some 29, .faddr 2 (.t 3)⟩,
      ⟨(some (28, true)), some 30, .load false 1 (.t 29)⟩,
      ⟨(some (28, true)), some 31, .faddr 2 (.t 2)⟩,
      ⟨(some (28, true)), some 32, .load false 1 (.t 31)⟩,
      ⟨(some (28, true)), some 33, .len (.t 32)⟩,
      ⟨(some (28, true)), some 34, .call 18 [(.t 30), (.t 33)]⟩,
      ⟨none, some 35, .pick (.t 28) (.t 34) (.k (.bool false))⟩,
      ⟨none, some 24, .mv (.t 35)⟩])
      (.cond (.t 24)
        (.seq (.reg [
        ⟨none, some 36, .faddr 2 (.t 2)⟩,
        ⟨none, some 37, .load false 1 (.t 36)⟩,
        ⟨none, some 38, .faddr 2 (.t 3)⟩,
        ⟨none, some 39, .load false 1 (.t 38)⟩,
        ⟨none, some 40, .iaddrS 1 (.t 37) (.t 39)⟩,
        ⟨none, some 41, .load false 1 (.t 40)⟩,
        ⟨none, some 42, .len (.t 41)⟩,
        ⟨none, some 4, .mv (.t 42)⟩])
        .ret)
        .skip)))))
  (.seq (.reg [
  ⟨none, some 4, .mv (.k (.int .i64 0))⟩])
  .ret)))
theorem w_verify_many {args : List DV} {v : DV} (hn : args.length ≤ 43) (h : DV.okL args → ∀ c : Ctx, c.N = 43 → c.pure → w_ Pg c mc_verify_many (endQ [.tmp 4] v) ⟨⟩ ⟨argT 0 args, fun _ => .non, 0⟩) : PCall Pg F.verify_many args v :=
  PCall.of_walk Try.func30 rfl (by kernel_rfl) (by kernel_rfl) (by kernel_rfl) hn fun o c e p => W.aw Pg_mixed (w_start (h o c e p))
def lv_gradusref18_row_0 : List Nat := [0, 1, 5, 6]
def lp_gradusref18_row_0 : MC :=
  (.seq (.seq (.reg [
  ⟨none, some 7, .mv (.t 6)⟩,
  ⟨none, some 8, .mv (.t 1)⟩,
  ⟨none, some 9, .binI .lss (.t 7) (.t 8)⟩,
  ⟨none, some 10, .mv (.t 9)⟩,
  ⟨(some (10, true)), some 11, .mv (.t 1)⟩,
  ⟨(some (10, true)), some 12, .binI .leq (.t 11) (.k (.int .i64 256))⟩,
  ⟨none, some 13, .pick (.t 10) (.t 12) (.k (.bool false))⟩])
  (.cond (.t 13)
    .skip
    (.exit 0)))
  (.seq (.block 1
    (.reg [
    ⟨none, some 16, .mv (.t 5)⟩,
    ⟨none, some 17, .mv (.t 0)⟩,
    ⟨none, some 18, .mv (.t 6)⟩,
    ⟨none, some 19, .binI .add (.t 17) (.t 18)⟩,
    ⟨none, some 20, .buildSl 1 [(.t 19)]⟩,
    ⟨none, some 21, .append 1 8 (.t 16) (.t 20)⟩,
    ⟨none, some 5, .mv (.t 21)⟩]))
  (.reg [
  ⟨none, some 14, .mv (.t 6)⟩,
  ⟨none, some 15, .binI .add (.t 14) (.k (.int .i64 1))⟩,
  ⟨none, some 6, .mv (.t 15)⟩])))
abbrev F.gradusref18_row : FuncId := 31
def mc_gradusref18_row : MC :=
  (.seq (.reg [
  ⟨none, some 4, .mv (.k (.sl true 1 []))⟩])
  (.seq (.reg [
  ⟨none, some 5, .mv (.k (.sl true 1 []))⟩])
  (.seq (.seq (.reg [
  ⟨none, some 6, .mv (.k (.int .i64 0))⟩])
  (.block 0 (.loop lp_gradusref18_row_0)))
  (.seq (.reg [
  ⟨none, some 22, .mv (.t 5)⟩,
  ⟨none, some 4, .mv (.t 22)⟩])
  .ret))))
theorem w_gradusref18_row {args : List DV} {v : DV} (hn : args.length ≤ 23) (h : DV.okL args → ∀ c : Ctx, c.N = 23 → c.pure → w_ Pg c mc_gradusref18_row (endQ [.tmp 4] v) ⟨⟩ ⟨argT 0 args, fun _ => .non, 0⟩) : PCall Pg F.gradusref18_row args v :=
  PCall.of_walk Try.func31 rfl (by kernel_rfl) (by kernel_rfl) (by kernel_rfl) hn fun o c e p => W.aw Pg_mixed (w_start (h o c e p))
theorem wm_gradusref18_row {args : List AV} {bs : List Blk} {v : AV} {bs' : List Blk} (hs : MStat args 23 bs v bs') (h : ∀ ts : List (Nat × Nat), ts.length = bs.length → AV.okL args → (∀ b, b ∈ bs → b.ok) → ∀ c : Ctx, c.N = 23 → c.pure → w_ Pg c mc_gradusref18_row (endM [.tmp 4] v bs' ts) ⟨⟩ ⟨argA 0 args, hpOf (bs ++ pinsL 0 ts), bs.length + ts.length⟩) : MCall Pg F.gradusref18_row args bs v bs' :=
  MCall.of_walk' Try.func31 rfl (by kernel_rfl) (by kernel_rfl) (by kernel_rfl) Pg_mixed hs h
abbrev F.gradusref18_caps : FuncId := 32
def mc_gradusref18_caps : MC :=
  (.seq (.reg [
  ⟨none, some 2, .boxP (.t 0)⟩,
  ⟨none, some 4, .mv (.k (.int .i64 0))⟩])
  (.seq (.seq (.reg [
  ⟨none, some 5, .mv (.t 1)⟩,
  ⟨none, some 6, .binI .lss (.t 5) (.k (.int .i64 0))⟩,
  ⟨none, some 7, .mv (.t 6)⟩,
  ⟨(some (7, false)), some 8, .mv (.t 1)⟩,
  ⟨(some (7, false)), some 9, .faddr 4 (.t 2)⟩,
  ⟨(some (7, false)), some 10, .load false 1 (.t 9)⟩,
  ⟨(some (7, false)), some 11, .len (.t 10)⟩,
  ⟨(some (7, false)), some 12, .binI .geq (.t 8) (.t 11)⟩,
  ⟨none, some 13, .pick (.t 7) (.k (.bool true)) (.t 12)⟩])
  (.cond (.t 13)
    (.seq (.reg [
    ⟨none, some 4, .mv (.k (.int .i64 (-1)))⟩])
    .ret)
    .skip))
  (.seq (.reg [
  ⟨none, some 14, .faddr 4 (.t 2)⟩,
  ⟨none, some 15, .load false 1 (.t 14)⟩,
  ⟨none, some 16, .mv (.t 1)⟩,
  ⟨none, some 17, .iaddrS 3 (.t 15) (.t 16)⟩,
  ⟨none, some 18, .faddr 0 (.t 17)⟩,
  ⟨none, some 19, .load false 1 (.t 18)⟩,
  ⟨none, some 4, .mv (.t 19)⟩])
  .ret)))
theorem w_gradusref18_caps {args : List DV} {v : DV} (hn : args.length ≤ 20) (h : DV.okL args → ∀ c : Ctx, c.N = 20 → c.pure → w_ Pg c mc_gradusref18_caps (endQ [.tmp 4] v) ⟨⟩ ⟨argT 0 args, fun _ => .non, 0⟩) : PCall Pg F.gradusref18_caps args v :=
  PCall.of_walk Try.func32 rfl (by kernel_rfl) (by kernel_rfl) (by kernel_rfl) hn fun o c e p => W.aw Pg_mixed (w_start (h o c e p))
abbrev F.gradusref18_fields : FuncId := 33
def mc_gradusref18_fields : MC :=
  (.seq (.reg [
  ⟨none, some 2, .boxP (.t 0)⟩,
  ⟨none, some 4, .mv (.k (.int .i64 0))⟩])
  (.seq (.seq (.reg [
  ⟨none, some 5, .mv (.t 1)⟩,
  ⟨none, some 6, .binI .lss (.t 5) (.k (.int .i64 0))⟩,
  ⟨none, some 7, .mv (.t 6)⟩,
  ⟨(some (7, false)), some 8, .mv (.t 1)⟩,
  ⟨(some (7, false)), some 9, .faddr 2 (.t 2)⟩,
  ⟨(some (7, false)), some 10, .load false 1 (.t 9)⟩,
  ⟨(some (7, false)), some 11, .len (.t 10)⟩,
  ⟨(some (7, false)), some 12, .binI .geq (.t 8) (.t 11)⟩,
  ⟨none, some 13, .pick (.t 7) (.k (.bool true)) (.t 12)⟩])
  (.cond (.t 13)
    (.seq (.reg [
    ⟨none, some 4, .mv (.k (.int .i64 (-1)))⟩])
    .ret)
    .skip))
  (.seq (.reg [
  ⟨none, some 14, .faddr 2 (.t 2)⟩,
  ⟨none, some 15, .load false 1 (.t 14)⟩,
  ⟨none, some 16, .mv (.t 1)⟩,
  ⟨none, some 17, .iaddrS 1 (.t 15) (.t 16)⟩,
  ⟨none, some 18, .load false 1 (.t 17)⟩,
  ⟨none, some 19, .len (.t 18)⟩,
  ⟨none, some 4, .mv (.t 19)⟩])
  .ret)))
theorem w_gradusref18_fields {args : List DV} {v : DV} (hn : args.length ≤ 20) (h : DV.okL args → ∀ c : Ctx, c.N = 20 → c.pure → w_ Pg c mc_gradusref18_fields (endQ [.tmp 4] v) ⟨⟩ ⟨argT 0 args, fun _ => .non, 0⟩) : PCall Pg F.gradusref18_fields args v :=
  PCall.of_walk Try.func33 rfl (by kernel_rfl) (by kernel_rfl) (by kernel_rfl) hn fun o c e p => W.aw Pg_mixed (w_start (h o c e p))
def lv_gradusref10_own_2 : List Nat := [1, 3, 4]
def lp_gradusref10_own_2 : MC :=
  (.seq (.seq (.reg [
  ⟨none, some 69, .mv (.t 4)⟩,
  ⟨none, some 70, .mv (.t 3)⟩,
  ⟨none, some 71, .binI .lss (.t 69) (.t 70)⟩])
  (.cond (.t 71)
    .skip
    (.exit 2)))
  (.seq (.block 3
    (.seq (.regd [0, 1, 0, 7, 15, 31, 0, 64, 0, 448, 960, 1984, 4095] [
    ⟨none, some 74, .faddr 1 (.t 1)⟩,
    ⟨none, some 75, .load false 1 (.t 74)⟩,
    ⟨none, some 76, .mv (.t 4)⟩,
    ⟨none, some 77, .iaddrS 2 (.t 75) (.t 76)⟩,
    ⟨none, some 78, .faddr 0 (.t 77)⟩,
    ⟨none, some 79, .load false 1 (.t 78)⟩,
    ⟨none, some 80, .faddr 1 (.t 1)⟩,
    ⟨none, some 81, .load false 1 (.t 80)⟩,
    ⟨none, some 82, .mv (.t 3)⟩,
    ⟨none, some 83, .iaddrS 2 (.t 81) (.t 82)⟩,
    ⟨none, some 84, .faddr 0 (.t 83)⟩,
    ⟨none, some 85, .load false 1 (.t 84)⟩,
    ⟨none, some 86, .binS .eql (.t 79) (.t 85)⟩])
    (.cond (.t 86)
      (.seq (.reg [
      ⟨none, some 2, .mv (.k (.bool false))⟩])
      .ret)
      .skip)))
  (.reg [
  ⟨none, some 72, .mv (.t 4)⟩,
  ⟨none, some 73, .binI .add (.t 72) (.k (.int .i64 1))⟩,
  ⟨none, some 4, .mv (.t 73)⟩])))
def lv_gradusref10_own_0 : List Nat := [1, 3]
def lp_gradusref10_own_0 : MC :=
  (.seq (.seq (.reg [
  ⟨none, some 55, .mv (.t 3)⟩,
  ⟨none, some 56, .faddr 1 (.t 1)⟩,
  ⟨none, some 57, .load false 1 (.t 56)⟩,
  ⟨none, some 58, .len (.t 57)⟩,
  ⟨none, some 59, .binI .lss (.t 55) (.t 58)⟩])
  (.cond (.t 59)
    .skip
    (.exit 0)))
  (.seq (.block 1
    (.seq (.seq (.reg [
    ⟨none, some 62, .faddr 1 (.t 1)⟩,
    ⟨none, some 63, .load false 1 (.t 62)⟩,
    ⟨none, some 64, .mv (.t 3)⟩,
    ⟨none, some 65, .iaddrS 2 (.t 63) (.t 64)⟩,
    ⟨none, some 66, .faddr 1 (.t 65)⟩,
    ⟨none, some 67, .load false 1 (.t 66)⟩,
    ⟨none, some 68, .binI .eql (.t 67) (.k (.int .i64 0))⟩])
    (.cond (.t 68)
      (.seq (.reg [
      ⟨none, some 2, .mv (.k (.bool false))⟩])
      .ret)
      .skip))
    (.seq (.reg [
    ⟨none, some 4, .mv (.k (.int .i64 0))⟩])
    (.block 2 (.loop lp_gradusref10_own_2)))))
  (.reg [
  ⟨none, some 60, .mv (.t 3)⟩,
  ⟨none, some 61, .binI .add (.t 60) (.k (.int .i64 1))⟩,
  ⟨none, some 3, .mv (.t 61)⟩])))
def lv_gradusref10_own_4 : List Nat := [1, 5]
def lp_gradusref10_own_4 : MC :=
  (.seq (.seq (.reg [
  ⟨none, some 87, .mv (.t 5)⟩,
  ⟨none, some 88, .faddr 2 (.t 1)⟩,
  ⟨none, some 89, .load false 1 (.t 88)⟩,
  ⟨none, some 90, .len (.t 89)⟩,
  ⟨none, some 91, .binI .lss (.t 87) (.t 90)⟩])
  (.cond (.t 91)
    .skip
    (.exit 4)))
  (.seq (.block 5
    (.seq (.regd [0, 1, 0, 7, 15, 0, 32, 0, 128, 480, 992, 2047] [
    ⟨none, some 94, .faddr 2 (.t 1)⟩,
    ⟨none, some 95, .load false 1 (.t 94)⟩,
    ⟨none, some 96, .mv (.t 5)⟩,
    ⟨none, some 97, .iaddrS 1 (.t 95) (.t 96)⟩,
    ⟨none, some 98, .load false 1 (.t 97)⟩,
    ⟨none, some 99, .faddr 2 (.t 1)⟩,
    ⟨none, some 100, .load false 1 (.t 99)⟩,
    ⟨none, some 101, .mv (.t 5)⟩,
    ⟨none, some 102, .binI .sub (.t 101) (.k (.int .i64 1))⟩,
    ⟨none, some 103, .iaddrS 1 (.t 100) (.t 102)⟩,
    ⟨none, some 104, .load false 1 (.t 103)⟩,
    ⟨none, some 105, .binS .leq (.t 98) (.t 104)⟩])
    (.cond (.t 105)
      (.seq (.reg [
      ⟨none, some 2, .mv (.k (.bool false))⟩])
      .ret)
      .skip)))
  (.reg [
  ⟨none, some 92, .mv (.t 5)⟩,
  ⟨none, some 93, .binI .add (.t 92) (.k (.int .i64 1))⟩,
  ⟨none, some 5, .mv (.t 93)⟩])))
abbrev F.gradusref10_own : FuncId := 34
def mc_gradusref10_own : MC :=
  (.seq (.reg [
  ⟨none, some 1, .boxP (.t 0)⟩,
  ⟨none, some 2, .mv (.k (.bool false))⟩])
  (.seq (.seq (.reg [
  ⟨none, some 6, .faddr 0 (.t 1)⟩,
  ⟨none, some 7, .load false 1 (.t 6)⟩,
  ⟨none, some 8, .len (.t 7)⟩,
  ⟨none, some 9, .binI .neq (.t 8) (.k (.int .i64 6))⟩,
  ⟨none, some 10, .mv (.t 9)⟩,
  ⟨(some (10, false)), some 11, .faddr 2 (.t 1)⟩,
  ⟨(some (10, false)), some 12, .load false 1 (.t 11)⟩,
  ⟨(some (10, false)), some 13, .len (.t 12)⟩,
  ⟨(some (10, false)), some 14, .faddr 3 (.t 1)⟩,
  ⟨(some (10, false)), some 15, .load false 1 (.t 14)⟩,
  ⟨(some (10, false)), some 16, .len (.t 15)⟩,
  ⟨(some (10, false)), some 17, .binI .neq (.t 13) (.t 16)⟩,
  ⟨none, some 18, .pick (.t 10) (.k (.bool true)) (.t 17)⟩,
  ⟨none, some 19, .mv (.t 18)⟩,
  ⟨(some (19, false)), some 20, .faddr 4 (.t 1)⟩,
  ⟨(some (19, false)), some 21, .load false 1 (.t 20)⟩,
  ⟨(some (19, false)), some 22, .len (.t 21)⟩,
  ⟨(some (19, false)), some 23, .binI .neq (.t 22) (.k (.int .i64 0))⟩,
  ⟨(some (19, false)), some 24, .mv (.t 23)⟩,
  ⟨(some (24, true)), some 25, .faddr 4 (.t 1)⟩,
  ⟨(some (24, true)), some 26, .load false 1 (.t 25)⟩,
  ⟨(some (24, true)), some 27, .len (.t 26)⟩,
  ⟨(some (24, true)), some 28, .binI .neq (.t 27) (.k (.int .i64 2))⟩,
  ⟨(some (19, false)), some 29, .pick (.t 24) (.t 28) (.k (.bool false))⟩,
  ⟨none, some 30, .pick (.t 19) (.k (.bool true)) (.t 29)⟩])
  (.cond (.t 30)
    (.seq (.reg [
    ⟨none, some 2, .mv (.k (.bool false))⟩])
    .ret)
    .skip))
  (.seq (.seq (.reg [
  ⟨none, some 31, .faddr 0 (.t 1)⟩,
  ⟨none, some 32, .load false 1 (.t 31)⟩,
  ⟨none, some 33, .iaddrS 1 (.t 32) (.k (.int .i64 4))⟩,
  ⟨none, some 34, .load false 1 (.t 33)⟩,
  ⟨none, some 35, .binI .neq (.t 34) (.k (.int .i64 0))⟩,
  ⟨none, some 36, .mv (.t 35)⟩,
  ⟨(some (36, true)), some 37, .faddr 2 (.t 1)⟩,
  ⟨(some (36, true)), some 38, .load false 1 (.t 37)⟩,
  ⟨(some (36, true)), some 39, .len (.t 38)⟩,
  ⟨(some (36, true)), some 40, .binI .gtr (.t 39) (.k (.int .i64 0))⟩,
  ⟨none, some 41, .pick (.t 36) (.t 40) (.k (.bool false))⟩,
  ⟨none, some 42, .mv (.t 41)⟩,
  ⟨(some (42, false)), some 43, .faddr 0 (.t 1)⟩,
  ⟨(some (42, false)), some 44, .load false 1 (.t 43)⟩,
  ⟨(some (42, false)), some 45, .iaddrS 1 (.t 44) (.k (.int .i64 5))⟩,
  ⟨(some (42, false)), some 46, .load false 1 (.t 45)⟩,
  ⟨(some (42, false)), some 47, .binI .neq (.t 46) (.k (.int .i64 0))⟩,
  ⟨(some (42, false)), some 48, .mv (.t 47)⟩,
  ⟨(some (48, true)), some 49, .faddr 4 (.t 1)⟩,
  ⟨(some (48, true)), some 50, .load false 1 (.t 49)⟩,
  ⟨(some (48, true)), some 51, .len (.t 50)⟩,
  ⟨(some (48, true)), some 52, .binI .gtr (.t 51) (.k (.int .i64 0))⟩,
  ⟨(some (42, false)), some 53, .pick (.t 48) (.t 52) (.k (.bool false))⟩,
  ⟨none, some 54, .pick (.t 42) (.k (.bool true)) (.t 53)⟩])
  (.cond (.t 54)
    (.seq (.reg [
    ⟨none, some 2, .mv (.k (.bool false))⟩])
    .ret)
    .skip))
  (.seq (.seq (.reg [
  ⟨none, some 3, .mv (.k (.int .i64 0))⟩])
  (.block 0 (.loop lp_gradusref10_own_0)))
  (.seq (.seq (.reg [
  ⟨none, some 5, .mv (.k (.int .i64 1))⟩])
  (.block 4 (.loop lp_gradusref10_own_4)))
  (.seq (.reg [
  ⟨none, some 2, .mv (.k (.bool true))⟩])
  .ret))))))
theorem w_gradusref10_own {args : List DV} {v : DV} (hn : args.length ≤ 106) (h : DV.okL args → ∀ c : Ctx, c.N = 106 → c.pure → w_ Pg c mc_gradusref10_own (endQ [.tmp 2] v) ⟨⟩ ⟨argT 0 args, fun _ => .non, 0⟩) : PCall Pg F.gradusref10_own args v :=
  PCall.of_walk Try.func34 rfl (by kernel_rfl) (by kernel_rfl) (by kernel_rfl) hn fun o c e p => W.aw Pg_mixed (w_start (h o c e p))
abbrev F.gradusref10_IsId : FuncId := 35
def mc_gradusref10_IsId : MC :=
  (.seq (.reg [
  ⟨none, some 1, .boxP (.t 0)⟩,
  ⟨none, some 2, .mv (.k (.bool false))⟩])
  (.seq (.regd [0, 0, 3, 7] [
  ⟨none, some 3, .load true 5 (.t 1)⟩,
  ⟨none, some 4, .call 46 []⟩,
  ⟨none, some 5, .call 45 [(.t 3), (.t 4)]⟩,
  ⟨none, some 2, .mv (.t 5)⟩])
  .ret))
theorem w_gradusref10_IsId {args : List DV} {v : DV} (hn : args.length ≤ 6) (h : DV.okL args → ∀ c : Ctx, c.N = 6 → c.pure → w_ Pg c mc_gradusref10_IsId (endQ [.tmp 2] v) ⟨⟩ ⟨argT 0 args, fun _ => .non, 0⟩) : PCall Pg F.gradusref10_IsId args v :=
  PCall.of_walk Try.func35 rfl (by kernel_rfl) (by kernel_rfl) (by kernel_rfl) hn fun o c e p => W.aw Pg_mixed (w_start (h o c e p))
abbrev F.slices_ContainsFunc_api_Instr_api_Instr : FuncId := 36
def mc_slices_ContainsFunc_api_Instr_api_Instr : MC :=
  (.seq (.reg [
  ⟨none, some 4, .mv (.k (.bool false))⟩])
  (.seq (.reg [
  ⟨none, some 5, .mv (.t 0)⟩,
  ⟨none, some 6, .mv (.t 1)⟩,
  ⟨none, some 7, .call 47 [(.t 5), (.t 6)]⟩,
  ⟨none, some 8, .binI .geq (.t 7) (.k (.int .i64 0))⟩,
  ⟨none, some 4, .mv (.t 8)⟩])
  .ret))
theorem w_slices_ContainsFunc_api_Instr_api_Instr {args : List DV} {v : DV} (hn : args.length ≤ 9) (h : DV.okL args → ∀ c : Ctx, c.N = 9 → c.pure → w_ Pg c mc_slices_ContainsFunc_api_Instr_api_Instr (endQ [.tmp 4] v) ⟨⟩ ⟨argT 0 args, fun _ => .non, 0⟩) : PCall Pg F.slices_ContainsFunc_api_Instr_api_Instr args v :=
  PCall.of_walk Try.func36 rfl (by kernel_rfl) (by kernel_rfl) (by kernel_rfl) hn fun o c e p => W.aw Pg_mixed (w_start (h o c e p))
abbrev F.verify_function_1 : FuncId := 37
def mc_verify_function_1 : MC :=
  (.seq (.reg [
  ⟨none, some 3, .boxP (.t 0)⟩,
  ⟨none, some 4, .mv (.k (.bool false))⟩])
  (.seq (.reg [
  ⟨none, some 5, .load true 7 (.t 1)⟩,
  ⟨none, some 6, .load true 3 (.t 2)⟩,
  ⟨none, some 7, .load true 4 (.t 3)⟩,
  ⟨none, some 8, .call 38 [(.t 5), (.t 6), (.t 7)]⟩,
  ⟨none, some 9, .not (.t 8)⟩,
  ⟨none, some 4, .mv (.t 9)⟩])
  .ret))
theorem w_verify_function_1 {args : List DV} {v : DV} (hn : args.length ≤ 10) (h : DV.okL args → ∀ c : Ctx, c.N = 10 → c.pure → w_ Pg c mc_verify_function_1 (endQ [.tmp 4] v) ⟨⟩ ⟨argT 0 args, fun _ => .non, 0⟩) : PCall Pg F.verify_function_1 args v :=
  PCall.of_walk Try.func37 rfl (by kernel_rfl) (by kernel_rfl) (by kernel_rfl) hn fun o c e p => W.aw Pg_mixed (w_start (h o c e p))
def lv_verify_instr_0 : List Nat := [3, 4, 5, 7, 20, 21]
def lp_verify_instr_0 : MC :=
  (.seq (.reg [
  ⟨none, some 22, .binI .lss (.t 21) (.k (.int .i64 3))⟩])
  (.seq (.cond (.t 22)
    .skip
    (.exit 0))
  (.seq (.block 1
    (.seq (.reg [
    ⟨none, some 23, .mv (.t 21)⟩,
    ⟨none, some 24, .idxA false 3 1 (.t 20) (.t 21)⟩,
    ⟨none, some 9, .mv (.t 23)⟩,
    ⟨none, some 10, .mv (.t 24)⟩])
    (.seq (.regd [0, 0, 0, 0, 8, 24, 0, 127, 255] [
    ⟨none, some 25, .load true 7 (.t 3)⟩,
    ⟨none, some 26, .load true 3 (.t 4)⟩,
    ⟨none, some 27, .load true 4 (.t 5)⟩,
    ⟨none, some 28, .mv (.t 9)⟩,
    ⟨none, some 29, .iaddrA 3 1 (.t 7) (.t 28)⟩,
    ⟨none, some 30, .load false 1 (.t 29)⟩,
    ⟨none, some 31, .mv (.t 10)⟩,
    ⟨none, some 32, .call 48 [(.t 25), (.t 26), (.t 27), (.t 30), (.t 31)]⟩,
    ⟨none, some 33, .not (.t 32)⟩])
    (.cond (.t 33)
      (.seq (.reg [
      ⟨none, some 6, .mv (.k (.bool false))⟩])
      .ret)
      .skip))))
  (.reg [
  ⟨none, some 34, .binI .add (.t 21) (.k (.int .i64 1))⟩,
  ⟨none, some 21, .mv (.t 34)⟩]))))
abbrev F.verify_instr : FuncId := 38
def mc_verify_instr : MC :=
  (.seq (.reg [
  ⟨none, some 3, .boxP (.t 0)⟩,
  ⟨none, some 4, .boxP (.t 1)⟩,
  ⟨none, some 5, .boxP (.t 2)⟩,
  ⟨none, some 6, .mv (.k (.bool false))⟩])
  (.seq (.reg [
  ⟨none, some 12, .faddr 0 (.t 5)⟩,
  ⟨none, some 13, .load false 1 (.t 12)⟩,
  ⟨none, some 14, .call 28 [(.t 13)]⟩,
  ⟨none, some 11, .mv (.t 14)⟩,
  ⟨none, some 15, .extract (.t 11) 0⟩,
  ⟨none, some 16, .extract (.t 11) 1⟩,
  ⟨none, some 7, .alloc [.int .i64 0, .int .i64 0, .int .i64 0]⟩,
  ⟨none, none, .store 3 (.t 7) (.t 15)⟩,
  ⟨none, some 8, .mv (.t 16)⟩])
  (.seq (.seq (.reg [
  ⟨none, some 17, .mv (.t 8)⟩,
  ⟨none, some 18, .not (.t 17)⟩])
  (.cond (.t 18)
    (.seq (.reg [
    ⟨none, some 6, .mv (.k (.bool false))⟩])
    .ret)
    .skip))
  (.seq (.seq (.reg [
  ⟨none, some 19, .load true 4 (.t 5)⟩,
  ⟨none, some 20, .call 29 [(.t 19)]⟩,
  ⟨none, some 21, .mv (.k (.int .i64 0))⟩])
  (.block 0 (.loop lp_verify_instr_0)))
  (.seq (.reg [
  ⟨none, some 6, .mv (.k (.bool true))⟩])
  .ret)))))
theorem w_verify_instr {args : List DV} {v : DV} (hn : args.length ≤ 35) (h : DV.okL args → ∀ c : Ctx, c.N = 35 → c.pure → w_ Pg c mc_verify_instr (endQ [.tmp 6] v) ⟨⟩ ⟨argT 0 args, fun _ => .non, 0⟩) : PCall Pg F.verify_instr args v :=
  PCall.of_walk Try.func38 rfl (by kernel_rfl) (by kernel_rfl) (by kernel_rfl) hn fun o c e p => W.aw Pg_mixed (w_start (h o c e p))
def lv_slices_IndexFunc_api_Co_api_Co_0 : List Nat := [0, 1, 7, 8]
def lp_slices_IndexFunc_api_Co_api_Co_0 : MC :=
  (.seq (.reg [
  ⟨none, some 9, .binI .lss (.t 8) (.t 7)⟩])
  (.seq (.cond (.t 9)
    .skip
    (.exit 0))
  (.seq (.block 1
    (.seq (.reg [
    ⟨none, some 10, .mv (.t 8)⟩,
    ⟨none, some 5, .mv (.t 10)⟩])
    (.seq (.reg [
    ⟨none, some 11, .mv (.t 1)⟩,
    ⟨none, some 12, .mv (.t 0)⟩,
    ⟨none, some 13, .mv (.t 5)⟩,
    ⟨none, some 14, .iaddrS 5 (.t 12) (.t 13)⟩,
    ⟨none, some 15, .load true 5 (.t 14)⟩,
    ⟨none, some 16, .calld (.t 11) [(.t 15)]⟩])
    (.cond (.t 16)
      (.seq (.reg [
      ⟨none, some 17, .mv (.t 5)⟩,
      ⟨none, some 4, .mv (.t 17)⟩])
      .ret)
      .skip))))
  (.reg [
  ⟨none, some 18, .binI .add (.t 8) (.k (.int .i64 1))⟩,
  ⟨none, some 8, .mv (.t 18)⟩]))))
abbrev F.slices_IndexFunc_api_Co_api_Co : FuncId := 39
def mc_slices_IndexFunc_api_Co_api_Co : MC :=
  (.seq (.reg [
  ⟨none, some 4, .mv (.k (.int .i64 0))⟩])
  (.seq (.seq (.reg [
  ⟨none, some 6, .mv (.t 0)⟩,
  ⟨none, some 7, .len (.t 6)⟩,
  ⟨none, some 8, .mv (.k (.int .i64 0))⟩])
  (.block 0 (.loop lp_slices_IndexFunc_api_Co_api_Co_0)))
  (.seq (.reg [
  ⟨none, some 4, .mv (.k (.int .i64 (-1)))⟩])
  .ret)))
theorem w_slices_IndexFunc_api_Co_api_Co {args : List DV} {v : DV} (hn : args.length ≤ 19) (h : DV.okL args → ∀ c : Ctx, c.N = 19 → c.pure → w_ Pg c mc_slices_IndexFunc_api_Co_api_Co (endQ [.tmp 4] v) ⟨⟩ ⟨argT 0 args, fun _ => .non, 0⟩) : PCall Pg F.slices_IndexFunc_api_Co_api_Co args v :=
  PCall.of_walk Try.func39 rfl (by kernel_rfl) (by kernel_rfl) (by kernel_rfl) hn fun o c e p => W.aw Pg_mixed (w_start (h o c e p))
abbrev F.strings_Compare : FuncId := 40
def mc_strings_Compare : MC :=
  (.seq (.reg [
  ⟨none, some 4, .mv (.k (.int .i64 0))⟩])
  (.seq (.reg [
  ⟨none, some 5, .mv (.t 0)⟩,
  ⟨none, some 6, .mv (.t 1)⟩,
  ⟨none, some 7, .call 49 [(.t 5), (.t 6)]⟩,
  ⟨none, some 4, .mv (.t 7)⟩])
  .ret))
theorem w_strings_Compare {args : List DV} {v : DV} (hn : args.length ≤ 8) (h : DV.okL args → ∀ c : Ctx, c.N = 8 → c.pure → w_ Pg c mc_strings_Compare (endQ [.tmp 4] v) ⟨⟩ ⟨argT 0 args, fun _ => .non, 0⟩) : PCall Pg F.strings_Compare args v :=
  PCall.of_walk Try.func40 rfl (by kernel_rfl) (by kernel_rfl) (by kernel_rfl) hn fun o c e p => W.aw Pg_mixed (w_start (h o c e p))
abbrev F.coerce_idle : FuncId := 41
def mc_coerce_idle : MC :=
  (.seq (.reg [
  ⟨none, some 1, .boxP (.t 0)⟩,
  ⟨none, some 2, .mv (.k (.bool false))⟩])
  (.seq (.regd [0, 0, 3, 7] [
  ⟨none, some 3, .load true 5 (.t 1)⟩,
  ⟨none, some 4, .call 51 []⟩,
  ⟨none, some 5, .call 50 [(.t 3), (.t 4)]⟩,
  ⟨none, some 2, .mv (.t 5)⟩])
  .ret))
theorem w_coerce_idle {args : List DV} {v : DV} (hn : args.length ≤ 6) (h : DV.okL args → ∀ c : Ctx, c.N = 6 → c.pure → w_ Pg c mc_coerce_idle (endQ [.tmp 2] v) ⟨⟩ ⟨argT 0 args, fun _ => .non, 0⟩) : PCall Pg F.coerce_idle args v :=
  PCall.of_walk Try.func41 rfl (by kernel_rfl) (by kernel_rfl) (by kernel_rfl) hn fun o c e p => W.aw Pg_mixed (w_start (h o c e p))
def lv_slices_IndexFunc_string_string_0 : List Nat := [0, 1, 7, 8]
def lp_slices_IndexFunc_string_string_0 : MC :=
  (.seq (.reg [
  ⟨none, some 9, .binI .lss (.t 8) (.t 7)⟩])
  (.seq (.cond (.t 9)
    .skip
    (.exit 0))
  (.seq (.block 1
    (.seq (.reg [
    ⟨none, some 10, .mv (.t 8)⟩,
    ⟨none, some 5, .mv (.t 10)⟩])
    (.seq (.reg [
    ⟨none, some 11, .mv (.t 1)⟩,
    ⟨none, some 12, .mv (.t 0)⟩,
    ⟨none, some 13, .mv (.t 5)⟩,
    ⟨none, some 14, .iaddrS 1 (.t 12) (.t 13)⟩,
    ⟨none, some 15, .load false 1 (.t 14)⟩,
    ⟨none, some 16, .calld (.t 11) [(.t 15)]⟩])
    (.cond (.t 16)
      (.seq (.reg [
      ⟨none, some 17, .mv (.t 5)⟩,
      ⟨none, some 4, .mv (.t 17)⟩])
      .ret)
      .skip))))
  (.reg [
  ⟨none, some 18, .binI .add (.t 8) (.k (.int .i64 1))⟩,
  ⟨none, some 8, .mv (.t 18)⟩]))))
abbrev F.slices_IndexFunc_string_string : FuncId := 42
def mc_slices_IndexFunc_string_string : MC :=
  (.seq (.reg [
  ⟨none, some 4, .mv (.k (.int .i64 0))⟩])
  (.seq (.seq (.reg [
  ⟨none, some 6, .mv (.t 0)⟩,
  ⟨none, some 7, .len (.t 6)⟩,
  ⟨none, some 8, .mv (.k (.int .i64 0))⟩])
  (.block 0 (.loop lp_slices_IndexFunc_string_string_0)))
  (.seq (.reg [
  ⟨none, some 4, .mv (.k (.int .i64 (-1)))⟩])
  .ret)))
theorem w_slices_IndexFunc_string_string {args : List DV} {v : DV} (hn : args.length ≤ 19) (h : DV.okL args → ∀ c : Ctx, c.N = 19 → c.pure → w_ Pg c mc_slices_IndexFunc_string_string (endQ [.tmp 4] v) ⟨⟩ ⟨argT 0 args, fun _ => .non, 0⟩) : PCall Pg F.slices_IndexFunc_string_string args v :=
  PCall.of_walk Try.func42 rfl (by kernel_rfl) (by kernel_rfl) (by kernel_rfl) hn fun o c e p => W.aw Pg_mixed (w_start (h o c e p))
def lv_gradusref18_instr_0 : List Nat := [4, 10, 11]
def lp_gradusref18_instr_0 : MC :=
  (.seq (.seq (.reg [
  ⟨none, some 41, .mv (.t 11)⟩,
  ⟨none, some 42, .mv (.t 10)⟩,
  ⟨none, some 43, .len (.t 42)⟩,
  ⟨none, some 44, .binI .lss (.t 41) (.t 43)⟩])
  (.cond (.t 44)
    .skip
    (.exit 0)))
  (.seq (.block 1
    (.seq (.regd [0, 0, 3, 7, 0, 16, 63, 127] [
    ⟨none, some 47, .mv (.t 10)⟩,
    ⟨none, some 48, .mv (.t 11)⟩,
    ⟨none, some 49, .iaddrS 1 (.t 47) (.t 48)⟩,
    ⟨none, some 50, .load false 1 (.t 49)⟩,
    ⟨none, some 51, .faddr 1 (.t 4)⟩,
    ⟨none, some 52, .load false 1 (.t 51)⟩,
    ⟨none, some 53, .call 26 [(.t 50), (.t 52)]⟩,
    ⟨none, some 7, .mv (.t 53)⟩])
    (.seq (.reg [
    ⟨none, some 54, .mv (.t 7)⟩,
    ⟨none, some 55, .not (.t 54)⟩])
    (.cond (.t 55)
      (.seq (.reg [
      ⟨none, some 6, .mv (.k (.bool false))⟩])
      .ret)
      .skip))))
  (.reg [
  ⟨none, some 45, .mv (.t 11)⟩,
  ⟨none, some 46, .binI .add (.t 45) (.k (.int .i64 1))⟩,
  ⟨none, some 11, .mv (.t 46)⟩])))
abbrev F.gradusref18_instr : FuncId := 43
def mc_gradusref18_instr : MC :=
  (.seq (.reg [
  ⟨none, some 3, .boxP (.t 0)⟩,
  ⟨none, some 4, .boxP (.t 1)⟩,
  ⟨none, some 5, .boxP (.t 2)⟩,
  ⟨none, some 6, .mv (.k (.bool false))⟩])
  (.seq (.reg [
  ⟨none, some 12, .load true 7 (.t 3)⟩,
  ⟨none, some 13, .load true 3 (.t 4)⟩,
  ⟨none, some 14, .load true 4 (.t 5)⟩,
  ⟨none, some 15, .call 52 [(.t 12), (.t 13), (.t 14)]⟩,
  ⟨none, some 7, .mv (.t 15)⟩])
  (.seq (.seq (.reg [
  ⟨none, some 16, .mv (.t 7)⟩,
  ⟨none, some 17, .not (.t 16)⟩])
  (.cond (.t 17)
    (.seq (.reg [
    ⟨none, some 6, .mv (.k (.bool false))⟩])
    .ret)
    .skip))
  (.seq (.reg [
  ⟨none, some 18, .load true 4 (.t 5)⟩,
  ⟨none, some 19, .call 15 [(.t 18)]⟩,
  ⟨none, some 8, .mv (.t 19)⟩])
  (.seq (.reg [
  ⟨none, some 20, .faddr 0 (.t 5)⟩,
  ⟨none, some 21, .load false 1 (.t 20)⟩,
  ⟨none, some 22, .binI .neq (.t 21) (.k (.int .i64 23))⟩,
  ⟨none, some 23, .mv (.t 22)⟩,
  ⟨(some (23, true)), some 24, .faddr 0 (.t 5)⟩,
  ⟨(some (23, true)), some 25, .load false 1 (.t 24)⟩,
  ⟨(some (23, true)), some 26, .binI .neq (.t 25) (.k (.int .i64 24))⟩,
  ⟨none, some 27, .pick (.t 23) (.t 26) (.k (.bool false))⟩,
  ⟨none, some 28, .mv (.t 27)⟩,
  ⟨(some (28, true)), some 29, .faddr 0 (.t 5)⟩,
  ⟨(some (28, true)), some 30, .load false 1 (.t 29)⟩,
  ⟨(some (28, true)), some 31, .binI .neq (.t 30) (.k (.int .i64 25))⟩,
  ⟨none, some 32, .pick (.t 28) (.t 31) (.k (.bool false))⟩,
  ⟨none, some 9, .mv (.t 32)⟩])
  (.seq (.reg [
  ⟨none, some 33, .load true 7 (.t 3)⟩,
  ⟨none, some 34, .load true 4 (.t 5)⟩,
  ⟨none, some 35, .callM 13 [(.t 33), (.t 34)]⟩,
  ⟨none, some 10, .mv (.t 35)⟩])
  (.seq (.seq (.reg [
  ⟨none, some 36, .mv (.t 9)⟩])
  (.cond (.t 36)
    (.reg [
    ⟨none, some 37, .mv (.t 10)⟩,
    ⟨none, some 38, .mv (.t 8)⟩,
    ⟨none, some 39, .buildSl 1 [(.t 38)]⟩,
    ⟨none, some 40, .append 1 8 (.t 37) (.t 39)⟩,
    ⟨none, some 10, .mv (.t 40)⟩])
    .skip))
  (.seq (.seq (.reg [
  ⟨none, some 11, .mv (.k (.int .i64 0))⟩])
  (.block 0 (.loop lp_gradusref18_instr_0)))
  (.seq (.reg [
  ⟨none, some 6, .mv (.k (.bool true))⟩])
  .ret)))))))))
theorem w_gradusref18_instr {args : List DV} {v : DV} (hn : args.length ≤ 56) (h : DV.okL args → ∀ c : Ctx, c.N = 56 → c.pure → w_ Pg c mc_gradusref18_instr (endQ [.tmp 6] v) ⟨⟩ ⟨argT 0 args, fun _ => .non, 0⟩) : PCall Pg F.gradusref18_instr args v :=
  PCall.of_walk Try.func43 rfl (by kernel_rfl) (by kernel_rfl) (by kernel_rfl) hn fun o c e p => W.aw Pg_mixed (w_start (h o c e p))
def lv_verify_sorts_0 : List Nat := [0, 1, 26]
def lp_verify_sorts_0 : MC :=
  (.seq (.reg [
  ⟨none, some 27, .binI .lss (.t 26) (.k (.int .i64 11))⟩])
  (.seq (.cond (.t 27)
    .skip
    (.exit 0))
  (.seq (.block 1
    (.seq (.reg [
    ⟨none, some 28, .mv (.t 26)⟩,
    ⟨none, some 2, .mv (.t 28)⟩])
    (.reg [
    ⟨none, some 29, .mv (.t 2)⟩,
    ⟨none, some 30, .build [.int .i64 0, .int .i64 0, .int .i64 0] [(0, 1, (.k (.int .i64 1))), (1, 1, (.k (.int .i64 2))), (2, 1, (.k (.int .i64 2)))]⟩,
    ⟨none, some 31, .iaddrA 33 3 (.t 1) (.t 29)⟩,
    ⟨none, none, .store 3 (.t 31) (.t 30)⟩])))
  (.reg [
  ⟨none, some 32, .binI .add (.t 26) (.k (.int .i64 1))⟩,
  ⟨none, some 26, .mv (.t 32)⟩]))))
abbrev F.verify_sorts : FuncId := 44
def mc_verify_sorts : MC :=
  (.seq (.reg [
  ⟨none, some 0, .alloc [.int .i64 0, .int .i64 0, .int .i64 0, .int .i64 0, .int .i64 0, .int .i64 0, .int .i64 0, .int .i64 0, .int .i64 0, .int .i64 0, .int .i64 0, .int .i64 0, .int .i64 0, .int .i64 0, .int .i64 0, .int .i64 0, .int .i64 0, .int .i64 0, .int .i64 0, .int .i64 0, .int .i64 0, .int .i64 0, .int .i64 0, .int .i64 0, .int .i64 0, .int .i64 0, .int .i64 0, .int .i64 0, .int .i64 0, .int .i64 0, .int .i64 0, .int .i64 0, .int .i64 0, .int .i64 0, .int .i64 0, .int .i64 0, .int .i64 0, .int .i64 0, .int .i64 0, .int .i64 0, .int .i64 0, .int .i64 0, .int .i64 0, .int .i64 0, .int .i64 0, .int .i64 0, .int .i64 0, .int .i64 0, .int .i64 0, .int .i64 0, .int .i64 0, .int .i64 0, .int .i64 0, .int .i64 0, .int .i64 0, .int .i64 0, .int .i64 0, .int .i64 0, .int .i64 0, .int .i64 0, .int .i64 0, .int .i64 0, .int .i64 0, .int .i64 0, .int .i64 0, .int .i64 0, .int .i64 0, .int .i64 0, .int .i64 0, .int .i64 0, .int .i64 0, .int .i64 0, .int .i64 0, .int .i64 0, .int .i64 0, .int .i64 0, .int .i64 0, .int .i64 0, .int .i64 0, .int .i64 0, .int .i64 0, .int .i64 0, .int .i64 0, .int .i64 0, .int .i64 0, .int .i64 0, .int .i64 0, .int .i64 0, .int .i64 0, .int .i64 0, .int .i64 0, .int .i64 0, .int .i64 0, .int .i64 0, .int .i64 0, .int .i64 0, .int .i64 0, .int .i64 0, .int .i64 0]⟩])
  (.seq (.reg [
  ⟨none, some 3, .build [.int .i64 0, .int .i64 0, .int .i64 0] [(0, 1, (.k (.int .i64 1))), (1, 1, (.k (.int .i64 4)))]⟩,
  ⟨none, some 4, .build [.int .i64 0, .int .i64 0, .int .i64 0] [(0, 1, (.k (.int .i64 1))), (1, 1, (.k (.int .i64 5)))]⟩,
  ⟨none, some 5, .build [.int .i64 0, .int .i64 0, .int .i64 0] [(0, 1, (.k (.int .i64 1))), (1, 1, (.k (.int .i64 6)))]⟩,
  ⟨none, some 6, .build [.int .i64 0, .int .i64 0, .int .i64 0] [(0, 1, (.k (.int .i64 1)))]⟩,
  ⟨none, some 7, .build [.int .i64 0, .int .i64 0, .int .i64 0] [(0, 1, (.k (.int .i64 1))), (1, 1, (.k (.int .i64 2)))]⟩,
  ⟨none, some 8, .build [.int .i64 0, .int .i64 0, .int .i64 0] [(0, 1, (.k (.int .i64 1))), (1, 1, (.k (.int .i64 9)))]⟩,
  ⟨none, some 9, .build [.int .i64 0, .int .i64 0, .int .i64 0] [(0, 1, (.k (.int .i64 1))), (1, 1, (.k (.int .i64 10))), (2, 1, (.k (.int .i64 12)))]⟩,
  ⟨none, some 10, .build [.int .i64 0, .int .i64 0, .int .i64 0] [(0, 1, (.k (.int .i64 1))), (1, 1, (.k (.int .i64 11))), (2, 1, (.k (.int .i64 12)))]⟩,
  ⟨none, some 11, .build [.int .i64 0, .int .i64 0, .int .i64 0] [(0, 1, (.k (.int .i64 1))), (1, 1, (.k (.int .i64 2))), (2, 1, (.k (.int .i64 5)))]⟩,
  ⟨none, some 12, .build [.int .i64 0, .int .i64 0, .int .i64 0] [(0, 1, (.k (.int .i64 3))), (1, 1, (.k (.int .i64 2))), (2, 1, (.k (.int .i64 5)))]⟩,
  ⟨none, some 13, .build [.int .i64 0, .int .i64 0, .int .i64 0] [(0, 1, (.k (.int .i64 1))), (1, 1, (.k (.int .i64 2))), (2, 1, (.k (.int .i64 8)))]⟩,
  ⟨none, some 14, .build [.int .i64 0, .int .i64 0, .int .i64 0] [(0, 1, (.k (.int .i64 1))), (1, 1, (.k (.int .i64 2))), (2, 1, (.k (.int .i64 2)))]⟩,
  ⟨none, some 15, .build [.int .i64 0, .int .i64 0, .int .i64 0] [(0, 1, (.k (.int .i64 2)))]⟩,
  ⟨none, some 16, .build [.int .i64 0, .int .i64 0, .int .i64 0] [(0, 1, (.k (.int .i64 0))), (1, 1, (.k (.int .i64 13)))]⟩,
  ⟨none, some 17, .build [.int .i64 0, .int .i64 0, .int .i64 0] [(0, 1, (.k (.int .i64 2))), (1, 1, (.k (.int .i64 13)))]⟩,
  ⟨none, some 18, .build [.int .i64 0, .int .i64 0, .int .i64 0] [(0, 1, (.k (.int .i64 1))), (1, 1, (.k (.int .i64 2))), (2, 1, (.k (.int .i64 7)))]⟩,
  ⟨none, some 19, .build [.int .i64 0, .int .i64 0, .int .i64 0] [(0, 1, (.k (.int .i64 1))), (1, 1, (.k (.int .i64 2))), (2, 1, (.k (.int .i64 2)))]⟩,
  ⟨none, some 20, .build [.int .i64 0, .int .i64 0, .int .i64 0] [(0, 1, (.k (.int .i64 1))), (1, 1, (.k (.int .i64 2))), (2, 1, (.k (.int .i64 2)))]⟩,
  ⟨none, some 21, .build [.int .i64 0, .int .i64 0, .int .i64 0] [(0, 1, (.k (.int .i64 1))), (1, 1, (.k (.int .i64 2)))]⟩,
  ⟨none, some 22, .build [.int .i64 0, .int .i64 0, .int .i64 0] [(0, 1, (.k (.int .i64 1))), (1, 1, (.k (.int .i64 2)))]⟩,
  ⟨none, some 23, .build [.int .i64 0, .int .i64 0, .int .i64 0] [(0, 1, (.k (.int .i64 1))), (1, 1, (.k (.int .i64 2)))]⟩,
  ⟨none, some 24, .build [.int .i64 0, .int .i64 0, .int .i64 0] [(0, 1, (.k (.int .i64 1)))]⟩,
  ⟨none, some 25, .build [.int .i64 0, .int .i64 0, .int .i64 0, .int .i64 0, .int .i64 0, .int .i64 0, .int .i64 0, .int .i64 0, .int .i64 0, .int .i64 0, .int .i64 0, .int .i64 0, .int .i64 0, .int .i64 0, .int .i64 0, .int .i64 0, .int .i64 0, .int .i64 0, .int .i64 0, .int .i64 0, .int .i64 0, .int .i64 0, .int .i64 0, .int .i64 0, .int .i64 0, .int .i64 0, .int .i64 0, .int .i64 0, .int .i64 0, .int .i64 0, .int .i64 0, .int .i64 0, .int .i64 0, .int .i64 0, .int .i64 0, .int .i64 0, .int .i64 0, .int .i64 0, .int .i64 0, .int .i64 0, .int .i64 0, .int .i64 0, .int .i64 0, .int .i64 0, .int .i64 0, .int .i64 0, .int .i64 0, .int .i64 0, .int .i64 0, .int .i64 0, .int .i64 0, .int .i64 0, .int .i64 0, .int .i64 0, .int .i64 0, .int .i64 0, .int .i64 0, .int .i64 0, .int .i64 0, .int .i64 0, .int .i64 0, .int .i64 0, .int .i64 0, .int .i64 0, .int .i64 0, .int .i64 0, .int .i64 0, .int .i64 0, .int .i64 0, .int .i64 0, .int .i64 0, .int .i64 0, .int .i64 0, .int .i64 0, .int .i64 0, .int .i64 0, .int .i64 0, .int .i64 0, .int .i64 0, .int .i64 0, .int .i64 0, .int .i64 0, .int .i64 0, .int .i64 0, .int .i64 0, .int .i64 0, .int .i64 0, .int .i64 0, .int .i64 0, .int .i64 0, .int .i64 0, .int .i64 0, .int .i64 0, .int .i64 0, .int .i64 0, .int .i64 0, .int .i64 0, .int .i64 0, .int .i64 0] [(33, 3, (.t 3)), (36, 3, (.t 4)), (39, 3, (.t 5)), (42, 3, (.t 6)), (45, 3, (.t 7)), (48, 3, (.t 8)), (51, 3, (.t 9)), (54, 3, (.t 10)), (57, 3, (.t 11)), (60, 3, (.t 12)), (63, 3, (.t 13)), (66, 3, (.t 14)), (69, 3, (.t 15)), (72, 3, (.t 16)), (75, 3, (.t 17)), (78, 3, (.t 18)), (81, 3, (.t 19)), (84, 3, (.t 20)), (87, 3, (.t 21)), (90, 3, (.t 22)), (93, 3, (.t 23)), (96, 3, (.t 24))]⟩,
  ⟨none, some 1, .alloc [.int .i64 0, .int .i64 0, .int .i64 0, .int .i64 0, .int .i64 0, .int .i64 0, .int .i64 0, .int .i64 0, .int .i64 0, .int .i64 0, .int .i64 0, .int .i64 0, .int .i64 0, .int .i64 0, .int .i64 0, .int .i64 0, .int .i64 0, .int .i64 0, .int .i64 0, .int .i64 0, .int .i64 0, .int .i64 0, .int .i64 0, .int .i64 0, .int .i64 0, .int .i64 0, .int .i64 0, .int .i64 0, .int .i64 0, .int .i64 0, .int .i64 0, .int .i64 0, .int .i64 0, .int .i64 0, .int .i64 0, .int .i64 0, .int .i64 0, .int .i64 0, .int .i64 0, .int .i64 0, .int .i64 0, .int .i64 0, .int .i64 0, .int .i64 0, .int .i64 0, .int .i64 0, .int .i64 0, .int .i64 0, .int .i64 0, .int .i64 0, .int .i64 0, .int .i64 0, .int .i64 0, .int .i64 0, .int .i64 0, .int .i64 0, .int .i64 0, .int .i64 0, .int .i64 0, .int .i64 0, .int .i64 0, .int .i64 0, .int .i64 0, .int .i64 0, .int .i64 0, .int .i64 0, .int .i64 0, .int .i64 0, .int .i64 0, .int .i64 0, .int .i64 0, .int .i64 0, .int .i64 0, .int .i64 0, .int .i64 0, .int .i64 0, .int .i64 0, .int .i64 0, .int .i64 0, .int .i64 0, .int .i64 0, .int .i64 0, .int .i64 0, .int .i64 0, .int .i64 0, .int .i64 0, .int .i64 0, .int .i64 0, .int .i64 0, .int .i64 0, .int .i64 0, .int .i64 0, .int .i64 0, .int .i64 0, .int .i64 0, .int .i64 0, .int .i64 0, .int .i64 0, .int .i64 0]⟩,
  ⟨none, none, .store 99 (.t 1) (.t 25)⟩])
  (.seq (.seq (.reg [
  ⟨none, some 26, .mv (.k (.int .i64 0))⟩])
  (.block 0 (.loop lp_verify_sorts_0)))
  (.seq (.reg [
  ⟨none, some 33, .load true 99 (.t 1)⟩,
  ⟨none, none, .store 99 (.t 0) (.t 33)⟩])
  .ret))))
theorem w_verify_sorts {args : List DV} {v : DV} (hn : args.length ≤ 34) (h : DV.okL args → ∀ c : Ctx, c.N = 34 → c.pure → w_ Pg c mc_verify_sorts (endQ [.cell 0 true 99] v) ⟨⟩ ⟨argT 0 args, fun _ => .non, 0⟩) : PCall Pg F.verify_sorts args v :=
  PCall.of_walk Try.func44 rfl (by kernel_rfl) (by kernel_rfl) (by kernel_rfl) hn fun o c e p => W.aw Pg_mixed (w_start (h o c e p))
def lv_gradusref10_Same_0 : List Nat := [2, 3, 5]
def lp_gradusref10_Same_0 : MC :=
  (.seq (.seq (.reg [
  ⟨none, some 55, .mv (.t 5)⟩,
  ⟨none, some 56, .faddr 0 (.t 2)⟩,
  ⟨none, some 57, .load false 1 (.t 56)⟩,
  ⟨none, some 58, .len (.t 57)⟩,
  ⟨none, some 59, .binI .lss (.t 55) (.t 58)⟩])
  (.cond (.t 59)
    .skip
    (.exit 0)))
  (.seq (.block 1
    (.seq (.regd [0, 1, 0, 7, 15, 0, 32, 0, 224, 480, 1023] [
    ⟨none, some 62, .faddr 0 (.t 2)⟩,
    ⟨none, some 63, .load false 1 (.t 62)⟩,
    ⟨none, some 64, .mv (.t 5)⟩,
    ⟨none, some 65, .iaddrS 1 (.t 63) (.t 64)⟩,
    ⟨none, some 66, .load false 1 (.t 65)⟩,
    ⟨none, some 67, .faddr 0 (.t 3)⟩,
    ⟨none, some 68, .load false 1 (.t 67)⟩,
    ⟨none, some 69, .mv (.t 5)⟩,
    ⟨none, some 70, .iaddrS 1 (.t 68) (.t 69)⟩,
    ⟨none, some 71, .load false 1 (.t 70)⟩,
    ⟨none, some 72, .binI .neq (.t 66) (.t 71)⟩])
    (.cond (.t 72)
      (.seq (.reg [
      ⟨none, some 4, .mv (.k (.bool false))⟩])
      .ret)
      .skip)))
  (.reg [
  ⟨none, some 60, .mv (.t 5)⟩,
  ⟨none, some 61, .binI .add (.t 60) (.k (.int .i64 1))⟩,
  ⟨none, some 5, .mv (.t 61)⟩])))
def lv_gradusref10_Same_2 : List Nat := [2, 3, 6]
def lp_gradusref10_Same_2 : MC :=
  (.seq (.seq (.reg [
  ⟨none, some 73, .mv (.t 6)⟩,
  ⟨none, some 74, .faddr 1 (.t 2)⟩,
  ⟨none, some 75, .load false 1 (.t 74)⟩,
  ⟨none, some 76, .len (.t 75)⟩,
  ⟨none, some 77, .binI .lss (.t 73) (.t 76)⟩])
  (.cond (.t 77)
    .skip
    (.exit 2)))
  (.seq (.block 3
    (.seq (.regd [0, 1, 0, 7, 15, 0, 32, 0, 224, 480, 1023] [
    ⟨none, some 80, .faddr 1 (.t 2)⟩,
    ⟨none, some 81, .load false 1 (.t 80)⟩,
    ⟨none, some 82, .mv (.t 6)⟩,
    ⟨none, some 83, .iaddrS 2 (.t 81) (.t 82)⟩,
    ⟨none, some 84, .load true 2 (.t 83)⟩,
    ⟨none, some 85, .faddr 1 (.t 3)⟩,
    ⟨none, some 86, .load false 1 (.t 85)⟩,
    ⟨none, some 87, .mv (.t 6)⟩,
    ⟨none, some 88, .iaddrS 2 (.t 86) (.t 87)⟩,
    ⟨none, some 89, .load true 2 (.t 88)⟩,
    ⟨none, some 90, .eqAg true [1, 0] (.t 84) (.t 89)⟩])
    (.cond (.t 90)
      (.seq (.reg [
      ⟨none, some 4, .mv (.k (.bool false))⟩])
      .ret)
      .skip)))
  (.reg [
  ⟨none, some 78, .mv (.t 6)⟩,
  ⟨none, some 79, .binI .add (.t 78) (.k (.int .i64 1))⟩,
  ⟨none, some 6, .mv (.t 79)⟩])))
def lv_gradusref10_Same_4 : List Nat := [2, 3, 7]
def lp_gradusref10_Same_4 : MC :=
  (.seq (.seq (.reg [
  ⟨none, some 91, .mv (.t 7)⟩,
  ⟨none, some 92, .faddr 2 (.t 2)⟩,
  ⟨none, some 93, .load false 1 (.t 92)⟩,
  ⟨none, some 94, .len (.t 93)⟩,
  ⟨none, some 95, .binI .lss (.t 91) (.t 94)⟩])
  (.cond (.t 95)
    .skip
    (.exit 4)))
  (.seq (.block 5
    (.seq (.regd [0, 1, 0, 7, 15, 0, 32, 0, 224, 480, 1023] [
    ⟨none, some 98, .faddr 2 (.t 2)⟩,
    ⟨none, some 99, .load false 1 (.t 98)⟩,
    ⟨none, some 100, .mv (.t 7)⟩,
    ⟨none, some 101, .iaddrS 1 (.t 99) (.t 100)⟩,
    ⟨none, some 102, .load false 1 (.t 101)⟩,
    ⟨none, some 103, .faddr 2 (.t 3)⟩,
    ⟨none, some 104, .load false 1 (.t 103)⟩,
    ⟨none, some 105, .mv (.t 7)⟩,
    ⟨none, some 106, .iaddrS 1 (.t 104) (.t 105)⟩,
    ⟨none, some 107, .load false 1 (.t 106)⟩,
    ⟨none, some 108, .binS .neq (.t 102) (.t 107)⟩])
    (.cond (.t 108)
      (.seq (.reg [
      ⟨none, some 4, .mv (.k (.bool false))⟩])
      .ret)
      .skip)))
  (.reg [
  ⟨none, some 96, .mv (.t 7)⟩,
  ⟨none, some 97, .binI .add (.t 96) (.k (.int .i64 1))⟩,
  ⟨none, some 7, .mv (.t 97)⟩])))
def lv_gradusref10_Same_6 : List Nat := [2, 3, 8]
def lp_gradusref10_Same_6 : MC :=
  (.seq (.seq (.reg [
  ⟨none, some 109, .mv (.t 8)⟩,
  ⟨none, some 110, .faddr 3 (.t 2)⟩,
  ⟨none, some 111, .load false 1 (.t 110)⟩,
  ⟨none, some 112, .len (.t 111)⟩,
  ⟨none, some 113, .binI .lss (.t 109) (.t 112)⟩])
  (.cond (.t 113)
    .skip
    (.exit 6)))
  (.seq (.block 7
    (.seq (.regd [0, 1, 0, 7, 15, 0, 32, 0, 224, 480, 1023, 2047] [
    ⟨none, some 116, .faddr 3 (.t 2)⟩,
    ⟨none, some 117, .load false 1 (.t 116)⟩,
    ⟨none, some 118, .mv (.t 8)⟩,
    ⟨none, some 119, .iaddrS 5 (.t 117) (.t 118)⟩,
    ⟨none, some 120, .load true 5 (.t 119)⟩,
    ⟨none, some 121, .faddr 3 (.t 3)⟩,
    ⟨none, some 122, .load false 1 (.t 121)⟩,
    ⟨none, some 123, .mv (.t 8)⟩,
    ⟨none, some 124, .iaddrS 5 (.t 122) (.t 123)⟩,
    ⟨none, some 125, .load true 5 (.t 124)⟩,
    ⟨none, some 126, .call 45 [(.t 120), (.t 125)]⟩,
    ⟨none, some 9, .mv (.t 126)⟩])
    (.seq (.reg [
    ⟨none, some 127, .mv (.t 9)⟩,
    ⟨none, some 128, .not (.t 127)⟩])
    (.cond (.t 128)
      (.seq (.reg [
      ⟨none, some 4, .mv (.k (.bool false))⟩])
      .ret)
      .skip))))
  (.reg [
  ⟨none, some 114, .mv (.t 8)⟩,
  ⟨none, some 115, .binI .add (.t 114) (.k (.int .i64 1))⟩,
  ⟨none, some 8, .mv (.t 115)⟩])))
def lv_gradusref10_Same_8 : List Nat := [2, 3, 10]
def lp_gradusref10_Same_8 : MC :=
  (.seq (.seq (.reg [
  ⟨none, some 129, .mv (.t 10)⟩,
  ⟨none, some 130, .faddr 4 (.t 2)⟩,
  ⟨none, some 131, .load false 1 (.t 130)⟩,
  ⟨none, some 132, .len (.t 131)⟩,
  ⟨none, some 133, .binI .lss (.t 129) (.t 132)⟩])
  (.cond (.t 133)
    .skip
    (.exit 8)))
  (.seq (.block 9
    (.seq (.regd [0, 1, 0, 7, 15, 0, 32, 0, 224, 480, 1023, 2047] [
    ⟨none, some 136, .faddr 4 (.t 2)⟩,
    ⟨none, some 137, .load false 1 (.t 136)⟩,
    ⟨none, some 138, .mv (.t 10)⟩,
    ⟨none, some 139, .iaddrS 5 (.t 137) (.t 138)⟩,
    ⟨none, some 140, .load true 5 (.t 139)⟩,
    ⟨none, some 141, .faddr 4 (.t 3)⟩,
    ⟨none, some 142, .load false 1 (.t 141)⟩,
    ⟨none, some 143, .mv (.t 10)⟩,
    ⟨none, some 144, .iaddrS 5 (.t 142) (.t 143)⟩,
    ⟨none, some 145, .load true 5 (.t 144)⟩,
    ⟨none, some 146, .call 45 [(.t 140), (.t 145)]⟩,
    ⟨none, some 11, .mv (.t 146)⟩])
    (.seq (.reg [
    ⟨none, some 147, .mv (.t 11)⟩,
    ⟨none, some 148, .not (.t 147)⟩])
    (.cond (.t 148)
      (.seq (.reg [
      ⟨none, some 4, .mv (.k (.bool false))⟩])
      .ret)
      .skip))))
  (.reg [
  ⟨none, some 134, .mv (.t 10)⟩,
  ⟨none, some 135, .binI .add (.t 134) (.k (.int .i64 1))⟩,
  ⟨none, some 10, .mv (.t 135)⟩])))
abbrev F.gradusref10_Same : FuncId := 45
def mc_gradusref10_Same : MC :=
  (.seq (.reg [
  ⟨none, some 2, .boxP (.t 0)⟩,
  ⟨none, some 3, .boxP (.t 1)⟩,
  ⟨none, some 4, .mv (.k (.bool false))⟩])
  (.seq (.seq (.reg [
  ⟨none, some 12, .faddr 0 (.t 2)⟩,
  ⟨none, some 13, .load false 1 (.t 12)⟩,
  ⟨none, some 14, .len (.t 13)⟩,
  ⟨none, some 15, .faddr 0 (.t 3)⟩,
  ⟨none, some 16, .load false 1 (.t 15)⟩,
  ⟨none, some 17, .len (.t 16)⟩,
  ⟨none, some 18, .binI .neq (.t 14) (.t 17)⟩,
  ⟨none, some 19, .mv (.t 18)⟩,
  ⟨(some (19, false)), some 20, .faddr 1 (.t 2)⟩,
  ⟨(some (19, false)), some 21, .load false 1 (.t 20)⟩,
  ⟨(some (19, false)), some 22, .len (.t 21)⟩,
  ⟨(some (19, false)), some 23, .faddr 1 (.t 3)⟩,
  ⟨(some (19, false)), some 24, .load false 1 (.t 23)⟩,
  ⟨(some (19, false)), some 25, .len (.t 24)⟩,
  ⟨(some (19, false)), some 26, .binI .neq (.t 22) (.t 25)⟩,
  ⟨none, some 27, .pick (.t 19) (.k (.bool true)) (.t 26)⟩,
  ⟨none, some 28, .mv (.t 27)⟩,
  ⟨(some (28, false)), some 29, .faddr 2 (.t 2)⟩,
  ⟨(some (28, false)), some 30, .load false 1 (.t 29)⟩,
  ⟨(some (28, false)), some 31, .len (.t 30)⟩,
  ⟨(some (28, false)), some 32, .faddr 2 (.t 3)⟩,
  ⟨(some (28, false)), some 33, .load false 1 (.t 32)⟩,
  ⟨(some (28, false)), some 34, .len (.t 33)⟩,
  ⟨(some (28, false)), some 35, .binI .neq (.t 31) (.t 34)⟩,
  ⟨none, some 36, .pick (.t 28) (.k (.bool true)) (.t 35)⟩,
  ⟨none, some 37, .mv (.t 36)⟩,
  ⟨(some (37, false)), some 38, .faddr 3 (.t 2)⟩,
  ⟨(some (37, false)), some 39, .load false 1 (.t 38)⟩,
  ⟨(some (37, false)), some 40, .len (.t 39)⟩,
  ⟨(some (37, false)), some 41, .faddr 3 (.t 3)⟩,
  ⟨(some (37, false)), some 42, .load false 1 (.t 41)⟩,
  ⟨(some (37, false)), some 43, .len (.t 42)⟩,
  ⟨(some (37, false)), some 44, .binI .neq (.t 40) (.t 43)⟩,
  ⟨none, some 45, .pick (.t 37) (.k (.bool true)) (.t 44)⟩,
  ⟨none, some 46, .mv (.t 45)⟩,
  ⟨(some (46, false)), some 47, .faddr 4 (.t 2)⟩,
  ⟨(some (46, false)), some 48, .load false 1 (.t 47)⟩,
  ⟨(some (46, false)), some 49, .len (.t 48)⟩,
  ⟨(some (46, false)), some 50, .faddr 4 (.t 3)⟩,
  ⟨(some (46, false)), some 51, .load false 1 (.t 50)⟩,
  ⟨(some (46, false)), some 52, .len (.t 51)⟩,
  ⟨(some (46, false)), some 53, .binI .neq (.t 49) (.t 52)⟩,
  ⟨none, some 54, .pick (.t 46) (.k (.bool true)) (.t 53)⟩])
  (.cond (.t 54)
    (.seq (.reg [
    ⟨none, some 4, .mv (.k (.bool false))⟩])
    .ret)
    .skip))
  (.seq (.seq (.reg [
  ⟨none, some 5, .mv (.k (.int .i64 0))⟩])
  (.block 0 (.loop lp_gradusref10_Same_0)))
  (.seq (.seq (.reg [
  ⟨none, some 6, .mv (.k (.int .i64 0))⟩])
  (.block 2 (.loop lp_gradusref10_Same_2)))
  (.seq (.seq (.reg [
  ⟨none, some 7, .mv (.k (.int .i64 0))⟩])
  (.block 4 (.loop lp_gradusref10_Same_4)))
  (.seq (.seq (.reg [
  ⟨none, some 8, .mv (.k (.int .i64 0))⟩])
  (.block 6 (.loop lp_gradusref10_Same_6)))
  (.seq (.seq (.reg [
  ⟨none, some 10, .mv (.k (.int .i64 0))⟩])
  (.block 8 (.loop lp_gradusref10_Same_8)))
  (.seq (.reg [
  ⟨none, some 4, .mv (.k (.bool true))⟩])
  .ret))))))))
theorem w_gradusref10_Same {args : List DV} {v : DV} (hn : args.length ≤ 149) (h : DV.okL args → ∀ c : Ctx, c.N = 149 → c.pure → w_ Pg c mc_gradusref10_Same (endQ [.tmp 4] v) ⟨⟩ ⟨argT 0 args, fun _ => .non, 0⟩) : PCall Pg F.gradusref10_Same args v :=
  PCall.of_walk Try.func45 rfl (by kernel_rfl) (by kernel_rfl) (by kernel_rfl) hn fun o c e p => W.aw Pg_mixed (w_start (h o c e p))
abbrev F.gradusref10_Id : FuncId := 46
def mc_gradusref10_Id : MC :=
  (.seq (.reg [
  ⟨none, some 0, .alloc [.sl true 1 [], .sl true 2 [], .sl true 1 [], .sl true 5 [], .sl true 5 []]⟩])
  (.seq (.reg [
  ⟨none, some 1, .mksl [.int .i64 0] 8 (.k (.int .i64 6))⟩,
  ⟨none, some 2, .build [.sl true 1 [], .sl true 2 [], .sl true 1 [], .sl true 5 [], .sl true 5 []] [(0, 1, (.t 1))]⟩,
  ⟨none, none, .store 5 (.t 0) (.t 2)⟩])
  .ret))
theorem w_gradusref10_Id {args : List DV} {v : DV} (hn : args.length ≤ 3) (h : DV.okL args → ∀ c : Ctx, c.N = 3 → c.pure → w_ Pg c mc_gradusref10_Id (endQ [.cell 0 true 5] v) ⟨⟩ ⟨argT 0 args, fun _ => .non, 0⟩) : PCall Pg F.gradusref10_Id args v :=
  PCall.of_walk Try.func46 rfl (by kernel_rfl) (by kernel_rfl) (by kernel_rfl) hn fun o c e p => W.aw Pg_mixed (w_start (h o c e p))
def lv_slices_IndexFunc_api_Instr_api_Instr_0 : List Nat := [0, 1, 7, 8]
def lp_slices_IndexFunc_api_Instr_api_Instr_0 : MC :=
  (.seq (.reg [
  ⟨none, some 9, .binI .lss (.t 8) (.t 7)⟩])
  (.seq (.cond (.t 9)
    .skip
    (.exit 0))
  (.seq (.block 1
    (.seq (.reg [
    ⟨none, some 10, .mv (.t 8)⟩,
    ⟨none, some 5, .mv (.t 10)⟩])
    (.seq (.reg [
    ⟨none, some 11, .mv (.t 1)⟩,
    ⟨none, some 12, .mv (.t 0)⟩,
    ⟨none, some 13, .mv (.t 5)⟩,
    ⟨none, some 14, .iaddrS 4 (.t 12) (.t 13)⟩,
    ⟨none, some 15, .load true 4 (.t 14)⟩,
    ⟨none, some 16, .calld (.t 11) [(.t 15)]⟩])
    (.cond (.t 16)
      (.seq (.reg [
      ⟨none, some 17, .mv (.t 5)⟩,
      ⟨none, some 4, .mv (.t 17)⟩])
      .ret)
      .skip))))
  (.reg [
  ⟨none, some 18, .binI .add (.t 8) (.k (.int .i64 1))⟩,
  ⟨none, some 8, .mv (.t 18)⟩]))))
abbrev F.slices_IndexFunc_api_Instr_api_Instr : FuncId := 47
def mc_slices_IndexFunc_api_Instr_api_Instr : MC :=
  (.seq (.reg [
  ⟨none, some 4, .mv (.k (.int .i64 0))⟩])
  (.seq (.seq (.reg [
  ⟨none, some 6, .mv (.t 0)⟩,
  ⟨none, some 7, .len (.t 6)⟩,
  ⟨none, some 8, .mv (.k (.int .i64 0))⟩])
  (.block 0 (.loop lp_slices_IndexFunc_api_Instr_api_Instr_0)))
  (.seq (.reg [
  ⟨none, some 4, .mv (.k (.int .i64 (-1)))⟩])
  .ret)))
theorem w_slices_IndexFunc_api_Instr_api_Instr {args : List DV} {v : DV} (hn : args.length ≤ 19) (h : DV.okL args → ∀ c : Ctx, c.N = 19 → c.pure → w_ Pg c mc_slices_IndexFunc_api_Instr_api_Instr (endQ [.tmp 4] v) ⟨⟩ ⟨argT 0 args, fun _ => .non, 0⟩) : PCall Pg F.slices_IndexFunc_api_Instr_api_Instr args v :=
  PCall.of_walk Try.func47 rfl (by kernel_rfl) (by kernel_rfl) (by kernel_rfl) hn fun o c e p => W.aw Pg_mixed (w_start (h o c e p))
abbrev F.verify_operand : FuncId := 48
def mc_verify_operand : MC :=
  (.seq (.reg [
  ⟨none, some 5, .boxP (.t 0)⟩,
  ⟨none, some 6, .boxP (.t 1)⟩,
  ⟨none, some 7, .boxP (.t 2)⟩,
  ⟨none, some 10, .mv (.k (.bool false))⟩])
  (.seq (.seq (.reg [
  ⟨none, some 11, .mv (.t 3)⟩])
  (.block 0
    (.seq (.seq (.reg [
    ⟨none, some 13, .binI .eql (.t 11) (.k (.int .i64 1))⟩,
    ⟨none, some 12, .mv (.t 13)⟩])
    (.cond (.t 12)
      .skip
      (.seq (.reg [
      ⟨none, some 14, .binI .eql (.t 11) (.k (.int .i64 2))⟩,
      ⟨none, some 12, .mv (.t 14)⟩])
      (.cond (.t 12)
        .skip
        (.reg [
        ⟨none, some 15, .binI .eql (.t 11) (.k (.int .i64 3))⟩,
        ⟨none, some 12, .mv (.t 15)⟩])))))
    (.cond (.t 12)
      (.seq (.reg [
      ⟨none, some 16, .mv (.t 4)⟩,
      ⟨none, some 17, .faddr 1 (.t 6)⟩,
      ⟨none, some 18, .load false 1 (.t 17)⟩,
      ⟨none, some 19, .call 18 [(.t 16), (.t 18)]⟩,
      ⟨none, some 10, .mv (.t 19)⟩])
      .ret)
      (.seq (.reg [
      ⟨none, some 21, .binI .eql (.t 11) (.k (.int .i64 4))⟩,
      ⟨none, some 20, .mv (.t 21)⟩])
      (.cond (.t 20)
        (.seq (.reg [
        ⟨none, some 22, .mv (.t 4)⟩,
        ⟨none, some 23, .faddr 0 (.t 5)⟩,
        ⟨none, some 24, .load false 1 (.t 23)⟩,
        ⟨none, some 25, .len (.t 24)⟩,
        ⟨none, some 26, .call 18 [(.t 22), (.t 25)]⟩,
        ⟨none, some 10, .mv (.t 26)⟩])
        .ret)
        (.seq (.reg [
        ⟨none, some 28, .binI .eql (.t 11) (.k (.int .i64 5))⟩,
        ⟨none, some 27, .mv (.t 28)⟩])
        (.cond (.t 27)
          (.seq (.reg [
          ⟨none, some 29, .mv (.t 4)⟩,
          ⟨none, some 30, .faddr 1 (.t 5)⟩,
          ⟨none, some 31, .load false 1 (.t 30)⟩,
          ⟨none, some 32, .len (.t 31)⟩,
          ⟨none, some 33, .call 18 [(.t 29), (.t 32)]⟩,
          ⟨none, some 10, .mv (.t 33)⟩])
          .ret)
          (.seq (.reg [
          ⟨none, some 35, .binI .eql (.t 11) (.k (.int .i64 6))⟩,
          ⟨none, some 34, .mv (.t 35)⟩])
          (.cond (.t 34)
            (.seq (.reg [
            ⟨none, some 36, .mv (.t 4)⟩,
            ⟨none, some 37, .call 18 [(.t 36), (.k (.int .i64 2))]⟩,
            ⟨none, some 10, .mv (.t 37)⟩])
            .ret)
            (.seq (.reg [
            ⟨none, some 39, .binI .eql (.t 11) (.k (.int .i64 7))⟩,
            ⟨none, some 38, .mv (.t 39)⟩])
            (.cond (.t 38)
              (.seq (.reg [
              ⟨none, some 40, .mv (.t 4)⟩,
              ⟨none, some 41, .call 18 [(.t 40), (.k (.int .i64 6))]⟩,
              ⟨none, some 10, .mv (.t 41)⟩])
              .ret)
              (.seq (.reg [
              ⟨none, some 43, .binI .eql (.t 11) (.k (.int .i64 8))⟩,
              ⟨none, some 42, .mv (.t 43)⟩])
              (.cond (.t 42)
                (.seq (.reg [
                ⟨none, some 44, .mv (.t 4)⟩,
                ⟨none, some 45, .faddr 3 (.t 5)⟩,
                ⟨none, some 46, .load false 1 (.t 45)⟩,
                ⟨none, some 47, .len (.t 46)⟩,
                ⟨none, some 48, .call 18 [(.t 44), (.t 47)]⟩,
                ⟨none, some 10, .mv (.t 48)⟩])
                .ret)
                (.seq (.reg [
                ⟨none, some 50, .binI .eql (.t 11) (.k (.int .i64 9))⟩,
                ⟨none, some 49, .mv (.t 50)⟩])
                (.cond (.t 49)
                  (.seq (.reg [
                  ⟨none, some 51, .mv (.t 4)⟩,
                  ⟨none, some 52, .faddr 4 (.t 5)⟩,
                  ⟨none, some 53, .load false 1 (.t 52)⟩,
                  ⟨none, some 54, .len (.t 53)⟩,
                  ⟨none, some 55, .call 18 [(.t 51), (.t 54)]⟩,
                  ⟨none, some 56, .mv (.t 55)⟩,
                  ⟨(some (56, true)), some 57, .faddr 4 (.t 5)⟩,
                  ⟨(some (56, true)), some 58, .load false 1 (.t 57)⟩,
                  ⟨(some (56, true)), some 59, .mv (.t 4)⟩,
                  ⟨(some (56, true)), some 60, .iaddrS 3 (.t 58) (.t 59)⟩,
                  ⟨(some (56, true)), some 61, .faddr 0 (.t 60)⟩,
                  ⟨(some (56, true)), some 62, .load false 1 (.t 61)⟩,
                  ⟨(some (56, true)), some 63, .binI .eql (.t 62) (.k (.int .i64 0))⟩,
                  ⟨none, some 64, .pick (.t 56) (.t 63) (.k (.bool false))⟩,
                  ⟨none, some 10, .mv (.t 64)⟩])
                  .ret)
                  (.seq (.reg [
                  ⟨none, some 66, .binI .eql (.t 11) (.k (.int .i64 10))⟩,
                  ⟨none, some 65, .mv (.t 66)⟩])
                  (.cond (.t 65)
                    (.seq (.reg [
                    ⟨none, some 67, .mv (.t 4)⟩,
                    ⟨none, some 68, .faddr 4 (.t 5)⟩,
                    ⟨none, some 69, .load false 1 (.t 68)⟩,
                    ⟨none, some 70, .len (.t 69)⟩,
                    ⟨none, some 71, .call 18 [(.t 67), (.t 70)]⟩,
                    ⟨none, some 10, .mv (.t 71)⟩])
                    .ret)
                    (.seq (.reg [
                    ⟨none, some 73, .binI .eql (.t 11) (.k (.int .i64 11))⟩,
                    ⟨none, some 72, .mv (.t 73)⟩])
                    (.cond (.t 72)
                      (.seq (.reg [
                      ⟨none, some 74, .mv (.t 4)⟩,
                      ⟨none, some 75, .faddr 2 (.t 5)⟩,
                      ⟨none, some 76, .load false 1 (.t 75)⟩,
                      ⟨none, some 77, .len (.t 76)⟩,
                      ⟨none, some 78, .call 18 [(.t 74), (.t 77)]⟩,
                      ⟨none, some 10, .mv (.t 78)⟩])
                      .ret)
                      (.seq (.reg [
                      ⟨none, some 80, .binI .eql (.t 11) (.k (.int .i64 12))⟩,
                      ⟨none, some 79, .mv (.t 80)⟩])
                      (.cond (.t 79)
                        (.seq (.regd [0, 0, 2, 6, 15, 31, 63, 63, 255, 63, 575, 63, 3647, 8191, 16383, 32767] [
                        ⟨none, some 81, .mv (.t 4)⟩,
                        ⟨none, some 82, .faddr 1 (.t 6)⟩,
                        ⟨none, some 83, .load false 1 (.t 82)⟩,
                        ⟨none, some 84, .binI .add (.t 83) (.k (.int .i64 1))⟩,
                        ⟨none, some 85, .call 18 [(.t 81), (.t 84)]⟩,
                        ⟨none, some 86, .mv (.t 85)⟩,
                        ⟨(some (86, true)), some 87, .load true 7 (.t 5)⟩,
                        ⟨(some (86, true)), some 88, .load true 4 (.t 7)⟩,
                        ⟨(some (86, true)), some 89, .call 30 [(.t 87), (.t 88)]⟩,
                        ⟨(some (86, true)), some 90, .faddr 1 (.t 6)⟩,
                        ⟨(some (86, true)), some 91, .load false 1 (.t 90)⟩,
                        ⟨(some (86, true)), some 92, .mv (.t 4)⟩,
                        ⟨(some (86, true)), some 93, .binI .sub (.t 91) (.t 92)⟩,
                        ⟨(some (86, true)), some 94, .binI .leq (.t 89) (.t 93)⟩,
                        ⟨none, some 95, .pick (.t 86) (.t 94) (.k (.bool false))⟩,
                        ⟨none, some 10, .mv (.t 95)⟩])
                        .ret)
                        (.seq (.reg [
                        ⟨none, some 97, .binI .eql (.t 11) (.k (.int .i64 13))⟩,
                        ⟨none, some 96, .mv (.t 97)⟩])
                        (.cond (.t 96)
                          (.seq (.reg [
                          ⟨none, some 98, .mv (.t 4)⟩,
                          ⟨none, some 99, .faddr 2 (.t 6)⟩,
                          ⟨none, some 100, .load false 1 (.t 99)⟩,
                          ⟨none, some 101, .len (.t 100)⟩,
                          ⟨none, some 102, .call 18 [(.t 98), (.t 101)]⟩,
                          ⟨none, some 10, .mv (.t 102)⟩])
                          .ret)
                          .skip))))))))))))))))))))))))
  (.seq (.reg [
  ⟨none, some 10, .mv (.k (.bool true))⟩])
  .ret)))
theorem w_verify_operand {args : List DV} {v : DV} (hn : args.length ≤ 103) (h : DV.okL args → ∀ c : Ctx, c.N = 103 → c.pure → w_ Pg c mc_verify_operand (endQ [.tmp 10] v) ⟨⟩ ⟨argT 0 args, fun _ => .non, 0⟩) : PCall Pg F.verify_operand args v :=
  PCall.of_walk Try.func48 rfl (by kernel_rfl) (by kernel_rfl) (by kernel_rfl) hn fun o c e p => W.aw Pg_mixed (w_start (h o c e p))
abbrev F.internal_bytealg_CompareString : FuncId := 49
def mc_internal_bytealg_CompareString : MC :=
  (.seq (.reg [
  ⟨none, some 4, .mv (.k (.int .i64 0))⟩])
  (.seq (.reg [
  ⟨none, some 5, .mv (.t 0)⟩,
  ⟨none, some 6, .mv (.t 1)⟩,
  ⟨none, some 7, .cmpS 53 (.t 5) (.t 6)⟩,
  ⟨none, some 4, .mv (.t 7)⟩])
  .ret))
theorem w_internal_bytealg_CompareString {args : List DV} {v : DV} (hn : args.length ≤ 8) (h : DV.okL args → ∀ c : Ctx, c.N = 8 → c.pure → w_ Pg c mc_internal_bytealg_CompareString (endQ [.tmp 4] v) ⟨⟩ ⟨argT 0 args, fun _ => .non, 0⟩) : PCall Pg F.internal_bytealg_CompareString args v :=
  PCall.of_walk Try.func49 rfl (by kernel_rfl) (by kernel_rfl) (by kernel_rfl) hn fun o c e p => W.aw Pg_mixed (w_start (h o c e p))
abbrev F.coerce_Same : FuncId := 50
def mc_coerce_Same : MC :=
  (.seq (.reg [
  ⟨none, some 2, .boxP (.t 0)⟩,
  ⟨none, some 3, .boxP (.t 1)⟩,
  ⟨none, some 4, .mv (.k (.bool false))⟩])
  (.seq (.reg [
  ⟨none, some 5, .faddr 0 (.t 2)⟩,
  ⟨none, some 6, .load false 1 (.t 5)⟩,
  ⟨none, some 7, .faddr 0 (.t 3)⟩,
  ⟨none, some 8, .load false 1 (.t 7)⟩,
  ⟨none, some 9, .call 54 [(.t 6), (.t 8)]⟩,
  ⟨none, some 10, .mv (.t 9)⟩,
  ⟨(some (10, true)), some 11, .faddr 1 (.t 2)⟩,
  ⟨(some (10, true)), some 12, .load false 1 (.t 11)⟩,
  ⟨(some (10, true)), some 13, .faddr 1 (.t 3)⟩,
  ⟨(some (10, true)), some 14, .load false 1 (.t 13)⟩,
  ⟨(some (10, true)), some 15, .call 55 [(.t 12), (.t 14)]⟩,
  ⟨none, some 16, .pick (.t 10) (.t 15) (.k (.bool false))⟩,
  ⟨none, some 17, .mv (.t 16)⟩,
  ⟨(some (17, true)), some 18, .faddr 2 (.t 2)⟩,
  ⟨(some (17, true)), some 19, .load false 1 (.t 18)⟩,
  ⟨(some (17, true)), some 20, .faddr 2 (.t 3)⟩,
  ⟨(some (17, true)), some 21, .load false 1 (.t 20)⟩,
  ⟨(some (17, true)), some 22, .call 56 [(.t 19), (.t 21)]⟩,
  ⟨none, some 23, .pick (.t 17) (.t 22) (.k (.bool false))⟩,
  ⟨none, some 24, .mv (.t 23)⟩,
  ⟨(some (24, true)), some 25, .faddr 3 (.t 2)⟩,
  ⟨(some (24, true)), some 26, .load false 1 (.t 25)⟩,
  ⟨(some (24, true)), some 27, .faddr 3 (.t 3)⟩,
  ⟨(some (24, true)), some 28, .load false 1 (.t 27)⟩,
  ⟨(some (24, true)), some 29, .call 57 [(.t 26), (.t 28), (.k (.fn (.func 50) []))]⟩,
  ⟨none, some 30, .pick (.t 24) (.t 29) (.k (.bool false))⟩,
  ⟨none, some 31, .mv (.t 30)⟩,
  ⟨(some (31, true)), some 32, .faddr 4 (.t 2)⟩,
  ⟨(some (31, true)), some 33, .load false 1 (.t 32)⟩,
  ⟨(some (31, true)), some 34, .faddr 4 (.t 3)⟩,
  ⟨(some (31, true)), some 35, .load false 1 (.t 34)⟩,
  ⟨(some (31, true)), some 36, .call 57 [(.t 33), (.t 35), (.k (.fn (.func 50) []))]⟩,
  ⟨none, some 37, .pick (.t 31) (.t 36) (.k (.bool false))⟩,
  ⟨none, some 4, .mv (.t 37)⟩])
  .ret))
theorem w_coerce_Same {args : List DV} {v : DV} (hn : args.length ≤ 38) (h : DV.okL args → ∀ c : Ctx, c.N = 38 → c.pure → w_ Pg c mc_coerce_Same (endQ [.tmp 4] v) ⟨⟩ ⟨argT 0 args, fun _ => .non, 0⟩) : PCall Pg F.coerce_Same args v :=
  PCall.of_walk Try.func50 rfl (by kernel_rfl) (by kernel_rfl) (by kernel_rfl) hn fun o c e p => W.aw Pg_mixed (w_start (h o c e p))
abbrev F.coerce_Id : FuncId := 51
def mc_coerce_Id : MC :=
  (.seq (.reg [
  ⟨none, some 0, .alloc [.sl true 1 [], .sl true 2 [], .sl true 1 [], .sl true 5 [], .sl true 5 []]⟩])
  (.seq (.reg [
  ⟨none, some 1, .mksl [.int .i64 0] 8 (.k (.int .i64 6))⟩,
  ⟨none, some 2, .build [.sl true 1 [], .sl true 2 [], .sl true 1 [], .sl true 5 [], .sl true 5 []] [(0, 1, (.t 1))]⟩,
  ⟨none, none, .store 5 (.t 0) (.t 2)⟩])
  .ret))
theorem w_coerce_Id {args : List DV} {v : DV} (hn : args.length ≤ 3) (h : DV.okL args → ∀ c : Ctx, c.N = 3 → c.pure → w_ Pg c mc_coerce_Id (endQ [.cell 0 true 5] v) ⟨⟩ ⟨argT 0 args, fun _ => .non, 0⟩) : PCall Pg F.coerce_Id args v :=
  PCall.of_walk Try.func51 rfl (by kernel_rfl) (by kernel_rfl) (by kernel_rfl) hn fun o c e p => W.aw Pg_mixed (w_start (h o c e p))
abbrev F.gradusref18_consts : FuncId := 52
def mc_gradusref18_consts : MC :=
  (.seq (.reg [
  ⟨none, some 3, .boxP (.t 0)⟩,
  ⟨none, some 4, .boxP (.t 1)⟩,
  ⟨none, some 5, .boxP (.t 2)⟩,
  ⟨none, some 6, .mv (.k (.bool false))⟩])
  (.seq (.seq (.reg [
  ⟨none, some 7, .faddr 0 (.t 5)⟩,
  ⟨none, some 8, .load false 1 (.t 7)⟩])
  (.block 0
    (.seq (.reg [
    ⟨none, some 10, .binI .eql (.t 8) (.k (.int .i64 11))⟩,
    ⟨none, some 9, .mv (.t 10)⟩])
    (.cond (.t 9)
      (.seq (.reg [
      ⟨none, some 11, .faddr 2 (.t 5)⟩,
      ⟨none, some 12, .load false 1 (.t 11)⟩,
      ⟨none, some 13, .faddr 0 (.t 3)⟩,
      ⟨none, some 14, .load false 1 (.t 13)⟩,
      ⟨none, some 15, .len (.t 14)⟩,
      ⟨none, some 16, .call 26 [(.t 12), (.t 15)]⟩,
      ⟨none, some 6, .mv (.t 16)⟩])
      .ret)
      (.seq (.reg [
      ⟨none, some 18, .binI .eql (.t 8) (.k (.int .i64 12))⟩,
      ⟨none, some 17, .mv (.t 18)⟩])
      (.cond (.t 17)
        (.seq (.reg [
        ⟨none, some 19, .faddr 2 (.t 5)⟩,
        ⟨none, some 20, .load false 1 (.t 19)⟩,
        ⟨none, some 21, .faddr 1 (.t 3)⟩,
        ⟨none, some 22, .load false 1 (.t 21)⟩,
        ⟨none, some 23, .len (.t 22)⟩,
        ⟨none, some 24, .call 26 [(.t 20), (.t 23)]⟩,
        ⟨none, some 6, .mv (.t 24)⟩])
        .ret)
        (.seq (.reg [
        ⟨none, some 26, .binI .eql (.t 8) (.k (.int .i64 13))⟩,
        ⟨none, some 25, .mv (.t 26)⟩])
        (.cond (.t 25)
          (.seq (.reg [
          ⟨none, some 27, .faddr 2 (.t 5)⟩,
          ⟨none, some 28, .load false 1 (.t 27)⟩,
          ⟨none, some 29, .call 26 [(.t 28), (.k (.int .i64 2))]⟩,
          ⟨none, some 6, .mv (.t 29)⟩])
          .ret)
          (.seq (.reg [
          ⟨none, some 31, .binI .eql (.t 8) (.k (.int .i64 16))⟩,
          ⟨none, some 30, .mv (.t 31)⟩])
          (.cond (.t 30)
            (.seq (.reg [
            ⟨none, some 32, .load true 7 (.t 3)⟩,
            ⟨none, some 33, .faddr 2 (.t 5)⟩,
            ⟨none, some 34, .load false 1 (.t 33)⟩,
            ⟨none, some 35, .call 32 [(.t 32), (.t 34)]⟩,
            ⟨none, some 36, .binI .eql (.t 35) (.k (.int .i64 0))⟩,
            ⟨none, some 6, .mv (.t 36)⟩])
            .ret)
            (.seq (.reg [
            ⟨none, some 38, .binI .eql (.t 8) (.k (.int .i64 17))⟩,
            ⟨none, some 37, .mv (.t 38)⟩])
            (.cond (.t 37)
              (.seq (.regd [0, 1, 0, 4, 12, 31, 63, 127, 255, 127, 639, 1663, 4095, 8191, 16383, 32767, 32767, 98303, 262143, 32767, 557055, 32767, 2129919, 7897087, 16777215, 33554431, 67108863] [
              ⟨none, some 39, .faddr 2 (.t 5)⟩,
              ⟨none, some 40, .load false 1 (.t 39)⟩,
              ⟨none, some 41, .faddr 4 (.t 3)⟩,
              ⟨none, some 42, .load false 1 (.t 41)⟩,
              ⟨none, some 43, .len (.t 42)⟩,
              ⟨none, some 44, .call 26 [(.t 40), (.t 43)]⟩,
              ⟨none, some 45, .mv (.t 44)⟩,
              ⟨(some (45, true)), some 46, .faddr 3 (.t 5)⟩,
              ⟨(some (45, true)), some 47, .load false 1 (.t 46)⟩,
              ⟨(some (45, true)), some 48, .faddr 1 (.t 4)⟩,
              ⟨(some (45, true)), some 49, .load false 1 (.t 48)⟩,
              ⟨(some (45, true)), some 50, .binI .add (.t 49) (.k (.int .i64 1))⟩,
              ⟨(some (45, true)), some 51, .call 26 [(.t 47), (.t 50)]⟩,
              ⟨none, some 52, .pick (.t 45) (.t 51) (.k (.bool false))⟩,
              ⟨none, some 53, .mv (.t 52)⟩,
              ⟨(some (53, true)), some 54, .load true 7 (.t 3)⟩,
              ⟨(some (53, true)), some 55, .faddr 2 (.t 5)⟩,
              ⟨(some (53, true)), some 56, .load false 1 (.t 55)⟩,
              ⟨(some (53, true)), some 57, .call 32 [(.t 54), (.t 56)]⟩,
              ⟨(some (53, true)), some 58, .faddr 1 (.t 4)⟩,
              ⟨(some (53, true)), some 59, .load false 1 (.t 58)⟩,
              ⟨(some (53, true)), some 60, .faddr 3 (.t 5)⟩,
              ⟨(some (53, true)), some 61, .load false 1 (.t 60)⟩,
              ⟨(some (53, true)), some 62, .binI .sub (.t 59) (.t 61)⟩,
              ⟨(some (53, true)), some 63, .binI .leq (.t 57) (.t 62)⟩,
              ⟨none, some 64, .pick (.t 53) (.t 63) (.k (.bool false))⟩,
              ⟨none, some 6, .mv (.t 64)⟩])
              .ret)
              (.seq (.reg [
              ⟨none, some 66, .binI .eql (.t 8) (.k (.int .i64 18))⟩,
              ⟨none, some 65, .mv (.t 66)⟩])
              (.cond (.t 65)
                (.seq (.regd [0, 1, 0, 4, 12, 31, 63, 127, 255, 127, 639, 1663, 4095, 8191, 16383, 32767, 32767, 98303, 262143, 32767, 557055, 32767, 2129919, 7897087, 16777215, 33554431, 67108863] [
                ⟨none, some 67, .faddr 2 (.t 5)⟩,
                ⟨none, some 68, .load false 1 (.t 67)⟩,
                ⟨none, some 69, .faddr 2 (.t 3)⟩,
                ⟨none, some 70, .load false 1 (.t 69)⟩,
                ⟨none, some 71, .len (.t 70)⟩,
                ⟨none, some 72, .call 26 [(.t 68), (.t 71)]⟩,
                ⟨none, some 73, .mv (.t 72)⟩,
                ⟨(some (73, true)), some 74, .faddr 3 (.t 5)⟩,
                ⟨(some (73, true)), some 75, .load false 1 (.t 74)⟩,
                ⟨(some (73, true)), some 76, .faddr 1 (.t 4)⟩,
                ⟨(some (73, true)), some 77, .load false 1 (.t 76)⟩,
                ⟨(some (73, true)), some 78, .binI .add (.t 77) (.k (.int .i64 1))⟩,
                ⟨(some (73, true)), some 79, .call 26 [(.t 75), (.t 78)]⟩,
                ⟨none, some 80, .pick (.t 73) (.t 79) (.k (.bool false))⟩,
                ⟨none, some 81, .mv (.t 80)⟩,
                ⟨(some (81, true)), some 82, .load true 7 (.t 3)⟩,
                ⟨(some (81, true)), some 83, .faddr 2 (.t 5)⟩,
                ⟨(some (81, true)), some 84, .load false 1 (.t 83)⟩,
                ⟨(some (81, true)), some 85, .call 33 [(.t 82), (.t 84)]⟩,
                ⟨(some (81, true)), some 86, .faddr 1 (.t 4)⟩,
                ⟨(some (81, true)), some 87, .load false 1 (.t 86)⟩,
                ⟨(some (81, true)), some 88, .faddr 3 (.t 5)⟩,
                ⟨(some (81, true)), some 89, .load false 1 (.t 88)⟩,
                ⟨(some (81, true)), some 90, .binI .sub (.t 87) (.t 89)⟩,
                ⟨(some (81, true)), some 91, .binI .leq (.t 85) (.t 90)⟩,
                ⟨none, some 92, .pick (.t 81) (.t 91) (.k (.bool false))⟩,
                ⟨none, some 6, .mv (.t 92)⟩])
                .ret)
                (.seq (.seq (.reg [
                ⟨none, some 94, .binI .eql (.t 8) (.k (.int .i64 19))⟩,
                ⟨none, some 93, .mv (.t 94)⟩])
                (.cond (.t 93)
                  .skip
                  (.reg [
                  ⟨none, some 95, .binI .eql (.t 8) (.k (.int .i64 20))⟩,
                  ⟨none, some 93, .mv (.t 95)⟩])))
                (.cond (.t 93)
                  (.seq (.reg [
                  ⟨none, some 96, .faddr 3 (.t 5)⟩,
                  ⟨none, some 97, .load false 1 (.t 96)⟩,
                  ⟨none, some 98, .faddr 1 (.t 3)⟩,
                  ⟨none, some 99, .load false 1 (.t 98)⟩,
                  ⟨none, some 100, .len (.t 99)⟩,
                  ⟨none, some 101, .call 26 [(.t 97), (.t 100)]⟩,
                  ⟨none, some 6, .mv (.t 101)⟩])
                  .ret)
                  (.seq (.reg [
                  ⟨none, some 103, .binI .eql (.t 8) (.k (.int .i64 21))⟩,
                  ⟨none, some 102, .mv (.t 103)⟩])
                  (.cond (.t 102)
                    (.seq (.reg [
                    ⟨none, some 104, .faddr 3 (.t 5)⟩,
                    ⟨none, some 105, .load false 1 (.t 104)⟩,
                    ⟨none, some 106, .faddr 3 (.t 3)⟩,
                    ⟨none, some 107, .load false 1 (.t 106)⟩,
                    ⟨none, some 108, .len (.t 107)⟩,
                    ⟨none, some 109, .call 26 [(.t 105), (.t 108)]⟩,
                    ⟨none, some 6, .mv (.t 109)⟩])
                    .ret)
                    (.seq (.seq (.reg [
                    ⟨none, some 111, .binI .eql (.t 8) (.k (.int .i64 24))⟩,
                    ⟨none, some 110, .mv (.t 111)⟩])
                    (.cond (.t 110)
                      .skip
                      (.reg [
                      ⟨none, some 112, .binI .eql (.t 8) (.k (.int .i64 25))⟩,
                      ⟨none, some 110, .mv (.t 112)⟩])))
                    (.cond (.t 110)
                      (.seq (.reg [
                      ⟨none, some 113, .faddr 2 (.t 5)⟩,
                      ⟨none, some 114, .load false 1 (.t 113)⟩,
                      ⟨none, some 115, .faddr 2 (.t 4)⟩,
                      ⟨none, some 116, .load false 1 (.t 115)⟩,
                      ⟨none, some 117, .len (.t 116)⟩,
                      ⟨none, some 118, .call 26 [(.t 114), (.t 117)]⟩,
                      ⟨none, some 6, .mv (.t 118)⟩])
                      .ret)
                      (.seq (.reg [
                      ⟨none, some 120, .binI .eql (.t 8) (.k (.int .i64 26))⟩,
                      ⟨none, some 119, .mv (.t 120)⟩])
                      (.cond (.t 119)
                        (.seq (.reg [
                        ⟨none, some 121, .faddr 3 (.t 5)⟩,
                        ⟨none, some 122, .load false 1 (.t 121)⟩,
                        ⟨none, some 123, .call 26 [(.t 122), (.k (.int .i64 6))]⟩,
                        ⟨none, some 6, .mv (.t 123)⟩])
                        .ret)
                        .skip))))))))))))))))))))))
  (.seq (.reg [
  ⟨none, some 124, .faddr 0 (.t 5)⟩,
  ⟨none, some 125, .load false 1 (.t 124)⟩,
  ⟨none, some 126, .call 26 [(.t 125), (.k (.int .i64 33))]⟩,
  ⟨none, some 6, .mv (.t 126)⟩])
  .ret)))
theorem w_gradusref18_consts {args : List DV} {v : DV} (hn : args.length ≤ 127) (h : DV.okL args → ∀ c : Ctx, c.N = 127 → c.pure → w_ Pg c mc_gradusref18_consts (endQ [.tmp 6] v) ⟨⟩ ⟨argT 0 args, fun _ => .non, 0⟩) : PCall Pg F.gradusref18_consts args v :=
  PCall.of_walk Try.func52 rfl (by kernel_rfl) (by kernel_rfl) (by kernel_rfl) hn fun o c e p => W.aw Pg_mixed (w_start (h o c e p))
def lv_slices_Equal_int_int_0 : List Nat := [0, 1, 12, 13]
def lp_slices_Equal_int_int_0 : MC :=
  (.seq (.reg [
  ⟨none, some 14, .binI .lss (.t 13) (.t 12)⟩])
  (.seq (.cond (.t 14)
    .skip
    (.exit 0))
  (.seq (.block 1
    (.seq (.reg [
    ⟨none, some 15, .mv (.t 13)⟩,
    ⟨none, some 5, .mv (.t 15)⟩])
    (.seq (.regd [0, 0, 3, 7, 0, 0, 48, 112, 255] [
    ⟨none, some 16, .mv (.t 0)⟩,
    ⟨none, some 17, .mv (.t 5)⟩,
    ⟨none, some 18, .iaddrS 1 (.t 16) (.t 17)⟩,
    ⟨none, some 19, .load false 1 (.t 18)⟩,
    ⟨none, some 20, .mv (.t 1)⟩,
    ⟨none, some 21, .mv (.t 5)⟩,
    ⟨none, some 22, .iaddrS 1 (.t 20) (.t 21)⟩,
    ⟨none, some 23, .load false 1 (.t 22)⟩,
    ⟨none, some 24, .binI .neq (.t 19) (.t 23)⟩])
    (.cond (.t 24)
      (.seq (.reg [
      ⟨none, some 4, .mv (.k (.bool false))⟩])
      .ret)
      .skip))))
  (.reg [
  ⟨none, some 25, .binI .add (.t 13) (.k (.int .i64 1))⟩,
  ⟨none, some 13, .mv (.t 25)⟩]))))
abbrev F.slices_Equal_int_int : FuncId := 54
def mc_slices_Equal_int_int : MC :=
  (.seq (.reg [
  ⟨none, some 4, .mv (.k (.bool false))⟩])
  (.seq (.seq (.reg [
  ⟨none, some 6, .mv (.t 0)⟩,
  ⟨none, some 7, .len (.t 6)⟩,
  ⟨none, some 8, .mv (.t 1)⟩,
  ⟨none, some 9, .len (.t 8)⟩,
  ⟨none, some 10, .binI .neq (.t 7) (.t 9)⟩])
  (.cond (.t 10)
    (.seq (.reg [
    ⟨none, some 4, .mv (.k (.bool false))⟩])
    .ret)
    .skip))
  (.seq (.seq (.reg [
  ⟨none, some 11, .mv (.t 0)⟩,
  ⟨none, some 12, .len (.t 11)⟩,
  ⟨none, some 13, .mv (.k (.int .i64 0))⟩])
  (.block 0 (.loop lp_slices_Equal_int_int_0)))
  (.seq (.reg [
  ⟨none, some 4, .mv (.k (.bool true))⟩])
  .ret))))
theorem w_slices_Equal_int_int {args : List DV} {v : DV} (hn : args.length ≤ 26) (h : DV.okL args → ∀ c : Ctx, c.N = 26 → c.pure → w_ Pg c mc_slices_Equal_int_int (endQ [.tmp 4] v) ⟨⟩ ⟨argT 0 args, fun _ => .non, 0⟩) : PCall Pg F.slices_Equal_int_int args v :=
  PCall.of_walk Try.func54 rfl (by kernel_rfl) (by kernel_rfl) (by kernel_rfl) hn fun o c e p => W.aw Pg_mixed (w_start (h o c e p))
def lv_slices_Equal_api_Need_api_Need_0 : List Nat := [0, 1, 12, 13]
def lp_slices_Equal_api_Need_api_Need_0 : MC :=
  (.seq (.reg [
  ⟨none, some 14, .binI .lss (.t 13) (.t 12)⟩])
  (.seq (.cond (.t 14)
    .skip
    (.exit 0))
  (.seq (.block 1
    (.seq (.reg [
    ⟨none, some 15, .mv (.t 13)⟩,
    ⟨none, some 5, .mv (.t 15)⟩])
    (.seq (.regd [0, 0, 3, 7, 0, 0, 48, 112, 255] [
    ⟨none, some 16, .mv (.t 0)⟩,
    ⟨none, some 17, .mv (.t 5)⟩,
    ⟨none, some 18, .iaddrS 2 (.t 16) (.t 17)⟩,
    ⟨none, some 19, .load true 2 (.t 18)⟩,
    ⟨none, some 20, .mv (.t 1)⟩,
    ⟨none, some 21, .mv (.t 5)⟩,
    ⟨none, some 22, .iaddrS 2 (.t 20) (.t 21)⟩,
    ⟨none, some 23, .load true 2 (.t 22)⟩,
    ⟨none, some 24, .eqAg true [1, 0] (.t 19) (.t 23)⟩])
    (.cond (.t 24)
      (.seq (.reg [
      ⟨none, some 4, .mv (.k (.bool false))⟩])
      .ret)
      .skip))))
  (.reg [
  ⟨none, some 25, .binI .add (.t 13) (.k (.int .i64 1))⟩,
  ⟨none, some 13, .mv (.t 25)⟩]))))
abbrev F.slices_Equal_api_Need_api_Need : FuncId := 55
def mc_slices_Equal_api_Need_api_Need : MC :=
  (.seq (.reg [
  ⟨none, some 4, .mv (.k (.bool false))⟩])
  (.seq (.seq (.reg [
  ⟨none, some 6, .mv (.t 0)⟩,
  ⟨none, some 7, .len (.t 6)⟩,
  ⟨none, some 8, .mv (.t 1)⟩,
  ⟨none, some 9, .len (.t 8)⟩,
  ⟨none, some 10, .binI .neq (.t 7) (.t 9)⟩])
  (.cond (.t 10)
    (.seq (.reg [
    ⟨none, some 4, .mv (.k (.bool false))⟩])
    .ret)
    .skip))
  (.seq (.seq (.reg [
  ⟨none, some 11, .mv (.t 0)⟩,
  ⟨none, some 12, .len (.t 11)⟩,
  ⟨none, some 13, .mv (.k (.int .i64 0))⟩])
  (.block 0 (.loop lp_slices_Equal_api_Need_api_Need_0)))
  (.seq (.reg [
  ⟨none, some 4, .mv (.k (.bool true))⟩])
  .ret))))
theorem w_slices_Equal_api_Need_api_Need {args : List DV} {v : DV} (hn : args.length ≤ 26) (h : DV.okL args → ∀ c : Ctx, c.N = 26 → c.pure → w_ Pg c mc_slices_Equal_api_Need_api_Need (endQ [.tmp 4] v) ⟨⟩ ⟨argT 0 args, fun _ => .non, 0⟩) : PCall Pg F.slices_Equal_api_Need_api_Need args v :=
  PCall.of_walk Try.func55 rfl (by kernel_rfl) (by kernel_rfl) (by kernel_rfl) hn fun o c e p => W.aw Pg_mixed (w_start (h o c e p))
def lv_slices_Equal_string_string_0 : List Nat := [0, 1, 12, 13]
def lp_slices_Equal_string_string_0 : MC :=
  (.seq (.reg [
  ⟨none, some 14, .binI .lss (.t 13) (.t 12)⟩])
  (.seq (.cond (.t 14)
    .skip
    (.exit 0))
  (.seq (.block 1
    (.seq (.reg [
    ⟨none, some 15, .mv (.t 13)⟩,
    ⟨none, some 5, .mv (.t 15)⟩])
    (.seq (.regd [0, 0, 3, 7, 0, 0, 48, 112, 255] [
    ⟨none, some 16, .mv (.t 0)⟩,
    ⟨none, some 17, .mv (.t 5)⟩,
    ⟨none, some 18, .iaddrS 1 (.t 16) (.t 17)⟩,
    ⟨none, some 19, .load false 1 (.t 18)⟩,
    ⟨none, some 20, .mv (.t 1)⟩,
    ⟨none, some 21, .mv (.t 5)⟩,
    ⟨none, some 22, .iaddrS 1 (.t 20) (.t 21)⟩,
    ⟨none, some 23, .load false 1 (.t 22)⟩,
    ⟨none, some 24, .binS .neq (.t 19) (.t 23)⟩])
    (.cond (.t 24)
      (.seq (.reg [
      ⟨none, some 4, .mv (.k (.bool false))⟩])
      .ret)
      .skip))))
  (.reg [
  ⟨none, some 25, .binI .add (.t 13) (.k (.int .i64 1))⟩,
  ⟨none, some 13, .mv (.t 25)⟩]))))
abbrev F.slices_Equal_string_string : FuncId := 56
def mc_slices_Equal_string_string : MC :=
  (.seq (.reg [
  ⟨none, some 4, .mv (.k (.bool false))⟩])
  (.seq (.seq (.reg [
  ⟨none, some 6, .mv (.t 0)⟩,
  ⟨none, some 7, .len (.t 6)⟩,
  ⟨none, some 8, .mv (.t 1)⟩,
  ⟨none, some 9, .len (.t 8)⟩,
  ⟨none, some 10, .binI .neq (.t 7) (.t 9)⟩])
  (.cond (.t 10)
    (.seq (.reg [
    ⟨none, some 4, .mv (.k (.bool false))⟩])
    .ret)
    .skip))
  (.seq (.seq (.reg [
  ⟨none, some 11, .mv (.t 0)⟩,
  ⟨none, some 12, .len (.t 11)⟩,
  ⟨none, some 13, .mv (.k (.int .i64 0))⟩])
  (.block 0 (.loop lp_slices_Equal_string_string_0)))
  (.seq (.reg [
  ⟨none, some 4, .mv (.k (.bool true))⟩])
  .ret))))
theorem w_slices_Equal_string_string {args : List DV} {v : DV} (hn : args.length ≤ 26) (h : DV.okL args → ∀ c : Ctx, c.N = 26 → c.pure → w_ Pg c mc_slices_Equal_string_string (endQ [.tmp 4] v) ⟨⟩ ⟨argT 0 args, fun _ => .non, 0⟩) : PCall Pg F.slices_Equal_string_string args v :=
  PCall.of_walk Try.func56 rfl (by kernel_rfl) (by kernel_rfl) (by kernel_rfl) hn fun o c e p => W.aw Pg_mixed (w_start (h o c e p))
def lv_slices_EqualFunc_api_Co_api_Co_api_Co_api_Co_0 : List Nat := [1, 2, 15, 16, 17]
def lp_slices_EqualFunc_api_Co_api_Co_api_Co_api_Co_0 : MC :=
  (.seq (.reg [
  ⟨none, some 18, .binI .lss (.t 17) (.t 16)⟩])
  (.seq (.cond (.t 18)
    .skip
    (.exit 0))
  (.seq (.block 1
    (.seq (.reg [
    ⟨none, some 19, .mv (.t 17)⟩,
    ⟨none, some 20, .iaddrS 5 (.t 15) (.t 17)⟩,
    ⟨none, some 21, .load true 5 (.t 20)⟩,
    ⟨none, some 8, .alloc [.sl true 1 [], .sl true 2 [], .sl true 1 [], .sl true 5 [], .sl true 5 []]⟩,
    ⟨none, some 7, .mv (.t 19)⟩,
    ⟨none, none, .store 5 (.t 8) (.t 21)⟩])
    (.seq (.reg [
    ⟨none, some 22, .mv (.t 1)⟩,
    ⟨none, some 23, .mv (.t 7)⟩,
    ⟨none, some 24, .iaddrS 5 (.t 22) (.t 23)⟩,
    ⟨none, some 25, .load true 5 (.t 24)⟩,
    ⟨none, some 9, .alloc [.sl true 1 [], .sl true 2 [], .sl true 1 [], .sl true 5 [], .sl true 5 []]⟩,
    ⟨none, none, .store 5 (.t 9) (.t 25)⟩])
    (.seq (.reg [
    ⟨none, some 26, .mv (.t 2)⟩,
    ⟨none, some 27, .load true 5 (.t 8)⟩,
    ⟨none, some 28, .load true 5 (.t 9)⟩,
    ⟨none, some 29, .calld (.t 26) [(.t 27), (.t 28)]⟩,
    ⟨none, some 30, .not (.t 29)⟩])
    (.cond (.t 30)
      (.seq (.reg [
      ⟨none, some 6, .mv (.k (.bool false))⟩])
      .ret)
      .skip)))))
  (.reg [
  ⟨none, some 31, .binI .add (.t 17) (.k (.int .i64 1))⟩,
  ⟨none, some 17, .mv (.t 31)⟩]))))
abbrev F.slices_EqualFunc_api_Co_api_Co_api_Co_api_Co : FuncId := 57
def mc_slices_EqualFunc_api_Co_api_Co_api_Co_api_Co : MC :=
  (.seq (.reg [
  ⟨none, some 6, .mv (.k (.bool false))⟩])
  (.seq (.seq (.reg [
  ⟨none, some 10, .mv (.t 0)⟩,
  ⟨none, some 11, .len (.t 10)⟩,
  ⟨none, some 12, .mv (.t 1)⟩,
  ⟨none, some 13, .len (.t 12)⟩,
  ⟨none, some 14, .binI .neq (.t 11) (.t 13)⟩])
  (.cond (.t 14)
    (.seq (.reg [
    ⟨none, some 6, .mv (.k (.bool false))⟩])
    .ret)
    .skip))
  (.seq (.seq (.reg [
  ⟨none, some 15, .mv (.t 0)⟩,
  ⟨none, some 16, .len (.t 15)⟩,
  ⟨none, some 17, .mv (.k (.int .i64 0))⟩])
  (.block 0 (.loop lp_slices_EqualFunc_api_Co_api_Co_api_Co_api_Co_0)))
  (.seq (.reg [
  ⟨none, some 6, .mv (.k (.bool true))⟩])
  .ret))))
theorem w_slices_EqualFunc_api_Co_api_Co_api_Co_api_Co {args : List DV} {v : DV} (hn : args.length ≤ 32) (h : DV.okL args → ∀ c : Ctx, c.N = 32 → c.pure → w_ Pg c mc_slices_EqualFunc_api_Co_api_Co_api_Co_api_Co (endQ [.tmp 6] v) ⟨⟩ ⟨argT 0 args, fun _ => .non, 0⟩) : PCall Pg F.slices_EqualFunc_api_Co_api_Co_api_Co_api_Co args v :=
  PCall.of_walk Try.func57 rfl (by kernel_rfl) (by kernel_rfl) (by kernel_rfl) hn fun o c e p => W.aw Pg_mixed (w_start (h o c e p))
end Go.Gr
