/- slices.SortFunc, laid at this dump (printed by the kit's lay-plain out of one laying). -/
import Derived.Shelf.SlGeneric
import Derived.Shelf.SlSortCmp.WholeK
import Derived.Ground.SlsfProg
import Derived.Test.YtkgomampbengjaaGreatDoorProg
namespace Go.Proofs
open Go.Shelf
def Tryz.sort120_ren : Go.Shelf.Ren := ⟨fun | 6 => 120 | 15 => 82 | 14 => 139 | 28 => 103 | 29 => 104 | 20 => 146 | 21 => 147 | 22 => 148 | 23 => 149 | 24 => 150 | 25 => 151 | 26 => 152 | 27 => 153 | 46 => 157 | 47 => 114 | 48 => 115 | 49 => 158 | 50 => 159 | 57 => 161 | n => n, fun | 22 => 137 | 24 => 139 | 25 => 141 | 3 => 3 | 39 => 102 | 0 => 0 | 53 => 123 | 55 => 125 | 4 => 4 | 46 => 115 | 45 => 114 | 50 => 120 | 5 => 5 | 9 => 9 | 66 => 131 | 70 => 135 | 76 => 150 | 77 => 151 | n => n, fun | n => n⟩
theorem Tryz.sort120 : Go.Proofs.SlLaysF0.n6 Tryz.prog Tryz.sort120_ren := {
  mixed := by kernel_rfl
  f6 := ⟨Tryz.f120.name, by decide, Tryz.func120.trans (congrArg some (by kernel_rfl))⟩
  f14 := ⟨Tryz.f139.name, by decide, Tryz.func139.trans (congrArg some (by kernel_rfl))⟩
  f15 := Tryz.func82.trans (congrArg some (by kernel_rfl))
  f20 := ⟨Tryz.f146.name, by decide, Tryz.func146.trans (congrArg some (by kernel_rfl))⟩
  f21 := ⟨Tryz.f147.name, by decide, Tryz.func147.trans (congrArg some (by kernel_rfl))⟩
  f22 := ⟨Tryz.f148.name, by decide, Tryz.func148.trans (congrArg some (by kernel_rfl))⟩
  f23 := ⟨Tryz.f149.name, by decide, Tryz.func149.trans (congrArg some (by kernel_rfl))⟩
  f24 := ⟨Tryz.f150.name, by decide, Tryz.func150.trans (congrArg some (by kernel_rfl))⟩
  f25 := ⟨Tryz.f151.name, by decide, Tryz.func151.trans (congrArg some (by kernel_rfl))⟩
  f26 := ⟨Tryz.f152.name, by decide, Tryz.func152.trans (congrArg some (by kernel_rfl))⟩
  f27 := ⟨Tryz.f153.name, by decide, Tryz.func153.trans (congrArg some (by kernel_rfl))⟩
  f28 := Tryz.func103.trans (congrArg some (by kernel_rfl))
  f29 := Tryz.func104.trans (congrArg some (by kernel_rfl))
  f46 := ⟨Tryz.f157.name, by decide, Tryz.func157.trans (congrArg some (by kernel_rfl))⟩
  f47 := Tryz.func114.trans (congrArg some (by kernel_rfl))
  f48 := Tryz.func115.trans (congrArg some (by kernel_rfl))
  f49 := ⟨Tryz.f158.name, by decide, Tryz.func158.trans (congrArg some (by kernel_rfl))⟩
  f50 := ⟨Tryz.f159.name, by decide, Tryz.func159.trans (congrArg some (by kernel_rfl))⟩
  f57 := ⟨Tryz.f161.name, by decide, Tryz.func161.trans (congrArg some (by kernel_rfl))⟩
  t0 := Tryz.underlying0
  a0 := Tryz.isAgg0
  z0 := Tryz.sizeOf0
  v0 := Tryz.zeroValue0
  t3 := Tryz.underlying3
  a3 := Tryz.isAgg3
  z3 := Tryz.sizeOf3
  v3 := Tryz.zeroValue3
  t4 := Tryz.underlying4
  a4 := Tryz.isAgg4
  z4 := Tryz.sizeOf4
  v4 := Tryz.zeroValue4
  t5 := Tryz.underlying5
  a5 := Tryz.isAgg5
  z5 := Tryz.sizeOf5
  v5 := Tryz.zeroValue5
  t9 := Tryz.underlying9
  a9 := Tryz.isAgg9
  z9 := Tryz.sizeOf9
  v9 := Tryz.zeroValue9
  t22 := Tryz.underlying137
  a22 := Tryz.isAgg137
  z22 := Tryz.sizeOf137
  v22 := Tryz.zeroValue137
  t25 := Tryz.underlying141
  a25 := Tryz.isAgg141
  z25 := Tryz.sizeOf141
  v25 := Tryz.zeroValue141
  t39 := Tryz.underlying102
  a39 := Tryz.isAgg102
  z39 := Tryz.sizeOf102
  v39 := Tryz.zeroValue102
  t45 := Tryz.underlying114
  a45 := Tryz.isAgg114
  z45 := Tryz.sizeOf114
  v45 := Tryz.zeroValue114
  t46 := Tryz.underlying115
  a46 := Tryz.isAgg115
  z46 := Tryz.sizeOf115
  v46 := Tryz.zeroValue115
  t50 := Tryz.underlying120
  a50 := Tryz.isAgg120
  z50 := Tryz.sizeOf120
  v50 := Tryz.zeroValue120
  t53 := Tryz.underlying123
  a53 := Tryz.isAgg123
  z53 := Tryz.sizeOf123
  v53 := Tryz.zeroValue123
  t55 := Tryz.underlying125
  a55 := Tryz.isAgg125
  z55 := Tryz.sizeOf125
  v55 := Tryz.zeroValue125
  t66 := Tryz.underlying131
  a66 := Tryz.isAgg131
  z66 := Tryz.sizeOf131
  v66 := Tryz.zeroValue131
  t70 := Tryz.underlying135
  a70 := Tryz.isAgg135
  z70 := Tryz.sizeOf135
  v70 := Tryz.zeroValue135
  t76 := Tryz.underlying150
  a76 := Tryz.isAgg150
  z76 := Tryz.sizeOf150
  v76 := Tryz.zeroValue150
  t77 := Tryz.underlying151
  a77 := Tryz.isAgg151
  z77 := Tryz.sizeOf151
  v77 := Tryz.zeroValue151 }
end Go.Proofs
