/- Texts of ours, joined and written short by a program of ours. -/
import Derived.Shelf.SlSortCmp.WholeK
import Derived.Ground.SlsfProg
import Derived.Shelf.SlGeneric
import Derived.Test.YtlfjlokfciejnaaGreatDoorProg
namespace Go.Proofs
open Go.Shelf
def Tryz.sort183_ren:Go.Shelf.Ren:=⟨fun|6=>183|15=>189|14=>198|28=>209|29=>210|20=>214|21=>215|22=>216|23=>217|24=>218|25=>219|26=>220|27=>221|46=>230|47=>223|48=>224|49=>231|50=>232|57=>237|n=>n,fun|22=>235|24=>237|25=>239|3=>3|39=>245|0=>0|53=>260|55=>246|4=>4|46=>253|45=>252|50=>44|5=>5|9=>9|66=>268|70=>272|76=>279|77=>280|n=>n,fun|n=>n⟩
theorem Tryz.sort183:Go.Proofs.SlLaysF0.n6 Tryz.prog Tryz.sort183_ren:={
  mixed:=by kernel_rfl
  f6:=⟨Tryz.f183.name,by decide,Tryz.func183.trans (congrArg some (by kernel_rfl))⟩
  f14:=⟨Tryz.f198.name,by decide,Tryz.func198.trans (congrArg some (by kernel_rfl))⟩
  f15:=Tryz.func189.trans (congrArg some (by kernel_rfl))
  f20:=⟨Tryz.f214.name,by decide,Tryz.func214.trans (congrArg some (by kernel_rfl))⟩
  f21:=⟨Tryz.f215.name,by decide,Tryz.func215.trans (congrArg some (by kernel_rfl))⟩
  f22:=⟨Tryz.f216.name,by decide,Tryz.func216.trans (congrArg some (by kernel_rfl))⟩
  f23:=⟨Tryz.f217.name,by decide,Tryz.func217.trans (congrArg some (by kernel_rfl))⟩
  f24:=⟨Tryz.f218.name,by decide,Tryz.func218.trans (congrArg some (by kernel_rfl))⟩
  f25:=⟨Tryz.f219.name,by decide,Tryz.func219.trans (congrArg some (by kernel_rfl))⟩
  f26:=⟨Tryz.f220.name,by decide,Tryz.func220.trans (congrArg some (by kernel_rfl))⟩
  f27:=⟨Tryz.f221.name,by decide,Tryz.func221.trans (congrArg some (by kernel_rfl))⟩
  f28:=Tryz.func209.trans (congrArg some (by kernel_rfl))
  f29:=Tryz.func210.trans (congrArg some (by kernel_rfl))
  f46:=⟨Tryz.f230.name,by decide,Tryz.func230.trans (congrArg some (by kernel_rfl))⟩
  f47:=Tryz.func223.trans (congrArg some (by kernel_rfl))
  f48:=Tryz.func224.trans (congrArg some (by kernel_rfl))
  f49:=⟨Tryz.f231.name,by decide,Tryz.func231.trans (congrArg some (by kernel_rfl))⟩
  f50:=⟨Tryz.f232.name,by decide,Tryz.func232.trans (congrArg some (by kernel_rfl))⟩
  f57:=⟨Tryz.f237.name,by decide,Tryz.func237.trans (congrArg some (by kernel_rfl))⟩
  t0:=Tryz.underlying0
  a0:=Tryz.isAgg0
  z0:=Tryz.sizeOf0
  v0:=Tryz.zeroValue0
  t3:=Tryz.underlying3
  a3:=Tryz.isAgg3
  z3:=Tryz.sizeOf3
  v3:=Tryz.zeroValue3
  t4:=Tryz.underlying4
  a4:=Tryz.isAgg4
  z4:=Tryz.sizeOf4
  v4:=Tryz.zeroValue4
  t5:=Tryz.underlying5
  a5:=Tryz.isAgg5
  z5:=Tryz.sizeOf5
  v5:=Tryz.zeroValue5
  t9:=Tryz.underlying9
  a9:=Tryz.isAgg9
  z9:=Tryz.sizeOf9
  v9:=Tryz.zeroValue9
  t22:=Tryz.underlying235
  a22:=Tryz.isAgg235
  z22:=Tryz.sizeOf235
  v22:=Tryz.zeroValue235
  t25:=Tryz.underlying239
  a25:=Tryz.isAgg239
  z25:=Tryz.sizeOf239
  v25:=Tryz.zeroValue239
  t39:=Tryz.underlying245
  a39:=Tryz.isAgg245
  z39:=Tryz.sizeOf245
  v39:=Tryz.zeroValue245
  t45:=Tryz.underlying252
  a45:=Tryz.isAgg252
  z45:=Tryz.sizeOf252
  v45:=Tryz.zeroValue252
  t46:=Tryz.underlying253
  a46:=Tryz.isAgg253
  z46:=Tryz.sizeOf253
  v46:=Tryz.zeroValue253
  t50:=Tryz.underlying44
  a50:=Tryz.isAgg44
  z50:=Tryz.sizeOf44
  v50:=Tryz.zeroValue44
  t53:=Tryz.underlying260
  a53:=Tryz.isAgg260
  z53:=Tryz.sizeOf260
  v53:=Tryz.zeroValue260
  t55:=Tryz.underlying246
  a55:=Tryz.isAgg246
  z55:=Tryz.sizeOf246
  v55:=Tryz.zeroValue246
  t66:=Tryz.underlying268
  a66:=Tryz.isAgg268
  z66:=Tryz.sizeOf268
  v66:=Tryz.zeroValue268
  t70:=Tryz.underlying272
  a70:=Tryz.isAgg272
  z70:=Tryz.sizeOf272
  v70:=Tryz.zeroValue272
  t76:=Tryz.underlying279
  a76:=Tryz.isAgg279
  z76:=Tryz.sizeOf279
  v76:=Tryz.zeroValue279
  t77:=Tryz.underlying280
  a77:=Tryz.isAgg280
  z77:=Tryz.sizeOf280
  v77:=Tryz.zeroValue280}
end Go.Proofs
