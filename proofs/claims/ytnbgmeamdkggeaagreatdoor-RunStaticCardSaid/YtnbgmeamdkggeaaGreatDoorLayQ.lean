/- Texts of ours, joined and written short by a program of ours. -/
import Derived.Shelf.Strings.Count
import Derived.Test.YtnbgmeamdkggeaaGreatDoorProg
namespace Go.Proofs
open Go.Shelf
def Tryz.lays138_ren:Go.Shelf.Ren:=⟨fun|138=>318|195=>319|218=>320|143=>321|219=>322|217=>323|225=>324|224=>325|267=>326|266=>327|314=>328|n=>n,fun|9=>9|3=>3|4=>4|5=>5|0=>0|46=>198|146=>441|51=>248|n=>n,fun|1=>0|n=>n⟩
theorem Tryz.lays138:Go.Proofs.Lays.n138 Tryz.prog Tryz.lays138_ren:={
  mixed:=by kernel_rfl
  f138:=Tryz.func318.trans (congrArg some (by kernel_rfl))
  f143:=Tryz.func321.trans (congrArg some (by kernel_rfl))
  f195:=Tryz.func319.trans (congrArg some (by kernel_rfl))
  f217:=Tryz.func323.trans (congrArg some (by kernel_rfl))
  f218:=Tryz.func320.trans (congrArg some (by kernel_rfl))
  f219:=Tryz.func322.trans (congrArg some (by kernel_rfl))
  f224:=Tryz.func325.trans (congrArg some (by kernel_rfl))
  f225:=Tryz.func324.trans (congrArg some (by kernel_rfl))
  f266:=Tryz.func327.trans (congrArg some (by kernel_rfl))
  f267:=Tryz.func326.trans (congrArg some (by kernel_rfl))
  f314:=Tryz.func328.trans (congrArg some (by kernel_rfl))
  t0:=Tryz.underlying0
  a0:=Tryz.isAgg0
  z0:=Tryz.sizeOf0
  v0:=Tryz.zeroValue0
  t3:=Tryz.underlying3
  a3:=Tryz.isAgg3
  z3:=Tryz.sizeOf3
  v3:=Tryz.zeroValue3
  t4:=Tryz.underlying4
  a4:=Tryz.isAgg4
  z4:=Tryz.sizeOf4
  v4:=Tryz.zeroValue4
  t5:=Tryz.underlying5
  a5:=Tryz.isAgg5
  z5:=Tryz.sizeOf5
  v5:=Tryz.zeroValue5
  t9:=Tryz.underlying9
  a9:=Tryz.isAgg9
  z9:=Tryz.sizeOf9
  v9:=Tryz.zeroValue9
  t46:=Tryz.underlying198
  a46:=Tryz.isAgg198
  z46:=Tryz.sizeOf198
  v46:=Tryz.zeroValue198
  t51:=Tryz.underlying248
  a51:=Tryz.isAgg248
  z51:=Tryz.sizeOf248
  v51:=Tryz.zeroValue248
  t146:=Tryz.underlying441
  a146:=Tryz.isAgg441
  z146:=Tryz.sizeOf441
  v146:=Tryz.zeroValue441
  g1:=by kernel_rfl}
open Go.RowKit Go.Lib in
theorem Tryz.strings_Count_one(s:ByteArray)(c:UInt8)(w:World):
    Calls Tryz.prog 318 #[.string s,.string ⟨#[c]⟩] w fun e w'=>e=.returned (.int .i64 (Lib.countByte s.data.toList c))/\w'=w:=Any.strings_Count_one Tryz.lays138 s c w
end Go.Proofs
