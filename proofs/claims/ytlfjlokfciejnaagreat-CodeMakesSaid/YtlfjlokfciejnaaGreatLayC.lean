/- Of ours. -/
import Derived.Shelf.SortM.Plain
import Derived.Shelf.SortM.SortNone
import Derived.Ground.SlgmProg
import Derived.Shelf.SlGeneric
import Derived.Test.YtlfjlokfciejnaaGreatProg
namespace Go.Proofs
open Go.Shelf
def Tryz.sort165_ren:Go.Shelf.Ren:=⟨fun|6=>165|8=>191|9=>190|19=>210|20=>211|21=>202|22=>203|23=>204|24=>205|25=>206|26=>207|27=>167|28=>208|29=>209|36=>217|31=>218|32=>219|37=>220|38=>221|39=>192|41=>223|n=>n,fun|27=>34|29=>9|3=>3|32=>290|26=>34|0=>0|44=>328|46=>330|4=>4|36=>322|35=>321|41=>239|5=>5|9=>9|53=>336|57=>340|63=>342|64=>343|n=>n,fun|n=>n⟩
theorem Tryz.sort165:Go.Proofs.SlLaysM.n6 Tryz.prog Tryz.sort165_ren:={
  mixed:=by kernel_rfl
  f6:=⟨Tryz.f165.name,by decide,Tryz.func165.trans (congrArg some (by kernel_rfl))⟩
  f8:=Tryz.func191.trans (congrArg some (by kernel_rfl))
  f9:=⟨Tryz.f190.name,by decide,Tryz.func190.trans (congrArg some (by kernel_rfl))⟩
  f19:=Tryz.func210.trans (congrArg some (by kernel_rfl))
  f20:=Tryz.func211.trans (congrArg some (by kernel_rfl))
  f21:=⟨Tryz.f202.name,by decide,Tryz.func202.trans (congrArg some (by kernel_rfl))⟩
  f22:=⟨Tryz.f203.name,by decide,Tryz.func203.trans (congrArg some (by kernel_rfl))⟩
  f23:=⟨Tryz.f204.name,by decide,Tryz.func204.trans (congrArg some (by kernel_rfl))⟩
  f24:=⟨Tryz.f205.name,by decide,Tryz.func205.trans (congrArg some (by kernel_rfl))⟩
  f25:=⟨Tryz.f206.name,by decide,Tryz.func206.trans (congrArg some (by kernel_rfl))⟩
  f26:=⟨Tryz.f207.name,by decide,Tryz.func207.trans (congrArg some (by kernel_rfl))⟩
  f27:=⟨Tryz.f167.name,by decide,Tryz.func167.trans (congrArg some (by kernel_rfl))⟩
  f28:=⟨Tryz.f208.name,by decide,Tryz.func208.trans (congrArg some (by kernel_rfl))⟩
  f29:=⟨Tryz.f209.name,by decide,Tryz.func209.trans (congrArg some (by kernel_rfl))⟩
  f31:=Tryz.func218.trans (congrArg some (by kernel_rfl))
  f32:=Tryz.func219.trans (congrArg some (by kernel_rfl))
  f36:=⟨Tryz.f217.name,by decide,Tryz.func217.trans (congrArg some (by kernel_rfl))⟩
  f37:=⟨Tryz.f220.name,by decide,Tryz.func220.trans (congrArg some (by kernel_rfl))⟩
  f38:=⟨Tryz.f221.name,by decide,Tryz.func221.trans (congrArg some (by kernel_rfl))⟩
  f39:=⟨Tryz.f192.name,by decide,Tryz.func192.trans (congrArg some (by kernel_rfl))⟩
  f41:=⟨Tryz.f223.name,by decide,Tryz.func223.trans (congrArg some (by kernel_rfl))⟩
  t0:=Tryz.underlying0
  a0:=Tryz.isAgg0
  z0:=Tryz.sizeOf0
  v0:=Tryz.zeroValue0
  t3:=Tryz.underlying3
  a3:=Tryz.isAgg3
  z3:=Tryz.sizeOf3
  v3:=Tryz.zeroValue3
  t4:=Tryz.underlying4
  a4:=Tryz.isAgg4
  z4:=Tryz.sizeOf4
  v4:=Tryz.zeroValue4
  t5:=Tryz.underlying5
  a5:=Tryz.isAgg5
  z5:=Tryz.sizeOf5
  v5:=Tryz.zeroValue5
  t9:=Tryz.underlying9
  a9:=Tryz.isAgg9
  z9:=Tryz.sizeOf9
  v9:=Tryz.zeroValue9
  t26:=Tryz.underlying34
  a26:=Tryz.isAgg34
  z26:=Tryz.sizeOf34
  v26:=Tryz.zeroValue34
  t27:=Tryz.underlying34
  a27:=Tryz.isAgg34
  z27:=Tryz.sizeOf34
  v27:=Tryz.zeroValue34
  t29:=Tryz.underlying9
  a29:=Tryz.isAgg9
  z29:=Tryz.sizeOf9
  v29:=Tryz.zeroValue9
  t32:=Tryz.underlying290
  a32:=Tryz.isAgg290
  z32:=Tryz.sizeOf290
  v32:=Tryz.zeroValue290
  t35:=Tryz.underlying321
  a35:=Tryz.isAgg321
  z35:=Tryz.sizeOf321
  v35:=Tryz.zeroValue321
  t36:=Tryz.underlying322
  a36:=Tryz.isAgg322
  z36:=Tryz.sizeOf322
  v36:=Tryz.zeroValue322
  t41:=Tryz.underlying239
  a41:=Tryz.isAgg239
  z41:=Tryz.sizeOf239
  v41:=Tryz.zeroValue239
  t44:=Tryz.underlying328
  a44:=Tryz.isAgg328
  z44:=Tryz.sizeOf328
  v44:=Tryz.zeroValue328
  t46:=Tryz.underlying330
  a46:=Tryz.isAgg330
  z46:=Tryz.sizeOf330
  v46:=Tryz.zeroValue330
  t53:=Tryz.underlying336
  a53:=Tryz.isAgg336
  z53:=Tryz.sizeOf336
  v53:=Tryz.zeroValue336
  t57:=Tryz.underlying340
  a57:=Tryz.isAgg340
  z57:=Tryz.sizeOf340
  v57:=Tryz.zeroValue340
  t63:=Tryz.underlying342
  a63:=Tryz.isAgg342
  z63:=Tryz.sizeOf342
  v63:=Tryz.zeroValue342
  t64:=Tryz.underlying343
  a64:=Tryz.isAgg343
  z64:=Tryz.sizeOf343
  v64:=Tryz.zeroValue343}
end Go.Proofs
