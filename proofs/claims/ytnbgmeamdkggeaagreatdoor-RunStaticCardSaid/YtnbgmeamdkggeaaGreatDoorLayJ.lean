/- Texts of ours, joined and written short by a program of ours. -/
import Derived.Shelf.Strings.Builder1
import Derived.Shelf.Strings.Builder2
import Derived.Shelf.Strings.OnBuilder
import Derived.Shelf.Strconv.Itoa0
import Derived.Shelf.Strconv.Itoa1
import Derived.Shelf.LaysM
import Derived.Shelf.Strconv.Itoa2
import Derived.Shelf.Strconv.Itoa3
import Derived.Test.YtnbgmeamdkggeaaGreatDoorProg
namespace Go.Proofs
open Go.Shelf
def Tryz.lays156_ren:Go.Shelf.Ren:=⟨fun|156=>25|165=>53|166=>54|169=>55|240=>101|241=>102|276=>148|277=>149|n=>n,fun|31=>31|9=>9|3=>3|4=>4|0=>0|20=>20|72=>153|76=>157|70=>150|37=>151|75=>156|127=>199|164=>274|5=>5|80=>159|n=>n,fun|n=>n⟩
theorem Tryz.lays156:Go.Proofs.Lays.n156 Tryz.prog Tryz.lays156_ren:={
  mixed:=by kernel_rfl
  f156:=Tryz.func25.trans (congrArg some (by kernel_rfl))
  f165:=Tryz.func53.trans (congrArg some (by kernel_rfl))
  f166:=Tryz.func54.trans (congrArg some (by kernel_rfl))
  f169:=Tryz.func55.trans (congrArg some (by kernel_rfl))
  f240:=Tryz.func101.trans (congrArg some (by kernel_rfl))
  f241:=Tryz.func102.trans (congrArg some (by kernel_rfl))
  f276:=Tryz.func148.trans (congrArg some (by kernel_rfl))
  f277:=Tryz.func149.trans (congrArg some (by kernel_rfl))
  t0:=Tryz.underlying0
  a0:=Tryz.isAgg0
  z0:=Tryz.sizeOf0
  v0:=Tryz.zeroValue0
  t3:=Tryz.underlying3
  a3:=Tryz.isAgg3
  z3:=Tryz.sizeOf3
  v3:=Tryz.zeroValue3
  t4:=Tryz.underlying4
  a4:=Tryz.isAgg4
  z4:=Tryz.sizeOf4
  v4:=Tryz.zeroValue4
  t9:=Tryz.underlying9
  a9:=Tryz.isAgg9
  z9:=Tryz.sizeOf9
  v9:=Tryz.zeroValue9
  t20:=Tryz.underlying20
  a20:=Tryz.isAgg20
  z20:=Tryz.sizeOf20
  v20:=Tryz.zeroValue20
  t31:=Tryz.underlying31
  a31:=Tryz.isAgg31
  z31:=Tryz.sizeOf31
  v31:=Tryz.zeroValue31
  t37:=Tryz.underlying151
  a37:=Tryz.isAgg151
  z37:=Tryz.sizeOf151
  v37:=Tryz.zeroValue151
  t70:=Tryz.underlying150
  a70:=Tryz.isAgg150
  z70:=Tryz.sizeOf150
  v70:=Tryz.zeroValue150
  t72:=Tryz.underlying153
  a72:=Tryz.isAgg153
  z72:=Tryz.sizeOf153
  v72:=Tryz.zeroValue153
  t75:=Tryz.underlying156
  a75:=Tryz.isAgg156
  z75:=Tryz.sizeOf156
  v75:=Tryz.zeroValue156
  t76:=Tryz.underlying157
  a76:=Tryz.isAgg157
  z76:=Tryz.sizeOf157
  v76:=Tryz.zeroValue157
  t127:=Tryz.underlying199
  a127:=Tryz.isAgg199
  z127:=Tryz.sizeOf199
  v127:=Tryz.zeroValue199
  t164:=Tryz.underlying274
  a164:=Tryz.isAgg274
  z164:=Tryz.sizeOf274
  v164:=Tryz.zeroValue274}
theorem Tryz.Builder_Extra_156:Builder.Extra Tryz.prog Tryz.lays156_ren:={
  sizeBuilder:=by kernel_rfl
  liesBuilder:=by kernel_rfl
  t5:=Tryz.underlying5
  a5:=Tryz.isAgg5
  z5:=Tryz.sizeOf5
  v5:=Tryz.zeroValue5
  infoByte:=by kernel_rfl
  cellsByte:=by kernel_rfl
  sizeByte:=by kernel_rfl
  neB5:=by decide}
open Go.RowKit in
theorem Tryz.strings_Join_none(a:Option Addr)(c:Nat)(sep:ByteArray)(w:World):
    Calls Tryz.prog 25 #[.slice a 0 c,.string sep] w fun e w'=>e=.returned (.string ⟨#[]⟩)/\w'=w:=Any.strings_Join_none Tryz.lays156 Tryz.Builder_Extra_156 a c sep w
open Go.RowKit in
theorem Tryz.strings_Join(bk o c:Nat)(xs:List ByteArray)(sep:ByteArray)(w:World)(hcells:∀(j:Nat) x,xs[j]?=some x->w.cell? ⟨bk,o+j,none⟩=some (.string x))(hbk:bk<w.heap.size)(hN:xs.length<=140737488355328)(hcap:xs.length<=c)(hlen:(Lib.join (xs.map (·.data.toList)) sep.data.toList).length<=140737488355328):
    Calls Tryz.prog 25 #[.slice (some ⟨bk,o,none⟩) xs.length c,.string sep] w fun e w'=>e=.returned (.string ⟨(Lib.join (xs.map (·.data.toList)) sep.data.toList).toArray⟩)/\Below w.heap.size w w':=Any.strings_Join Tryz.lays156 Tryz.Builder_Extra_156 bk o c xs sep w hcells hbk hN hcap hlen
def Tryz.laysM171_ren:Go.Shelf.Ren:=⟨fun|171=>48|243=>95|246=>134|283=>172|284=>173|285=>174|286=>175|129=>147|317=>199|318=>200|319=>201|320=>202|337=>221|338=>222|n=>n,fun|3=>3|9=>9|2=>2|4=>4|171=>296|0=>0|53=>273|37=>151|5=>5|173=>298|212=>319|51=>248|20=>20|213=>320|46=>198|232=>368|233=>369|n=>n,fun|17=>1|18=>2|19=>3|n=>n⟩
theorem Tryz.laysM171:Go.Proofs.LaysM.n171 Tryz.prog Tryz.laysM171_ren:={
  mixed:=by kernel_rfl
  f129:=Tryz.func147.trans (congrArg some (by kernel_rfl))
  f171:=Tryz.func48.trans (congrArg some (by kernel_rfl))
  f243:=Tryz.func95.trans (congrArg some (by kernel_rfl))
  f246:=Tryz.func134.trans (congrArg some (by kernel_rfl))
  f283:=Tryz.func172.trans (congrArg some (by kernel_rfl))
  f284:=Tryz.func173.trans (congrArg some (by kernel_rfl))
  f285:=Tryz.func174.trans (congrArg some (by kernel_rfl))
  f286:=Tryz.func175.trans (congrArg some (by kernel_rfl))
  f317:=Tryz.func199.trans (congrArg some (by kernel_rfl))
  f318:=Tryz.func200.trans (congrArg some (by kernel_rfl))
  f319:=Tryz.func201.trans (congrArg some (by kernel_rfl))
  f320:=Tryz.func202.trans (congrArg some (by kernel_rfl))
  f337:=Tryz.func221.trans (congrArg some (by kernel_rfl))
  f338:=Tryz.func222.trans (congrArg some (by kernel_rfl))
  t0:=Tryz.underlying0
  a0:=Tryz.isAgg0
  z0:=Tryz.sizeOf0
  v0:=Tryz.zeroValue0
  t2:=Tryz.underlying2
  a2:=Tryz.isAgg2
  z2:=Tryz.sizeOf2
  v2:=Tryz.zeroValue2
  t3:=Tryz.underlying3
  a3:=Tryz.isAgg3
  z3:=Tryz.sizeOf3
  v3:=Tryz.zeroValue3
  t4:=Tryz.underlying4
  a4:=Tryz.isAgg4
  z4:=Tryz.sizeOf4
  v4:=Tryz.zeroValue4
  t5:=Tryz.underlying5
  a5:=Tryz.isAgg5
  z5:=Tryz.sizeOf5
  v5:=Tryz.zeroValue5
  t9:=Tryz.underlying9
  a9:=Tryz.isAgg9
  z9:=Tryz.sizeOf9
  v9:=Tryz.zeroValue9
  t20:=Tryz.underlying20
  a20:=Tryz.isAgg20
  z20:=Tryz.sizeOf20
  v20:=Tryz.zeroValue20
  t37:=Tryz.underlying151
  a37:=Tryz.isAgg151
  z37:=Tryz.sizeOf151
  v37:=Tryz.zeroValue151
  t46:=Tryz.underlying198
  a46:=Tryz.isAgg198
  z46:=Tryz.sizeOf198
  v46:=Tryz.zeroValue198
  t51:=Tryz.underlying248
  a51:=Tryz.isAgg248
  z51:=Tryz.sizeOf248
  v51:=Tryz.zeroValue248
  t53:=Tryz.underlying273
  a53:=Tryz.isAgg273
  z53:=Tryz.sizeOf273
  v53:=Tryz.zeroValue273
  t171:=Tryz.underlying296
  a171:=Tryz.isAgg296
  z171:=Tryz.sizeOf296
  v171:=Tryz.zeroValue296
  t173:=Tryz.underlying298
  a173:=Tryz.isAgg298
  z173:=Tryz.sizeOf298
  v173:=Tryz.zeroValue298
  t212:=Tryz.underlying319
  a212:=Tryz.isAgg319
  z212:=Tryz.sizeOf319
  v212:=Tryz.zeroValue319
  t213:=Tryz.underlying320
  a213:=Tryz.isAgg320
  z213:=Tryz.sizeOf320
  t232:=Tryz.underlying368
  a232:=Tryz.isAgg368
  z232:=Tryz.sizeOf368
  v232:=Tryz.zeroValue368
  t233:=Tryz.underlying369
  a233:=Tryz.isAgg369
  z233:=Tryz.sizeOf369
  v233:=Tryz.zeroValue369
  g17:=by kernel_rfl
  g18:=by kernel_rfl
  g19:=by kernel_rfl
  i0:=by kernel_rfl
  i2:=by kernel_rfl
  i3:=by kernel_rfl
  i4:=by kernel_rfl
  i5:=by kernel_rfl
  i9:=by kernel_rfl
  i20:=by kernel_rfl
  i37:=by kernel_rfl
  i46:=by kernel_rfl
  i51:=by kernel_rfl
  i53:=by kernel_rfl
  i171:=by kernel_rfl
  i173:=by kernel_rfl
  i212:=by kernel_rfl
  i232:=by kernel_rfl
  i233:=by kernel_rfl
  m17:=by kernel_rfl
  m18:=by kernel_rfl
  m19:=by kernel_rfl}
open Go.RowKit Go.Sort Go.Lib in
theorem Tryz.strconv_Itoa (n : Int) (h0 : -9223372036854775808 <= n) (h1 : n <= 9223372036854775807) (w : World) (htab : Lib.TabIs Tryz.prog w "internal/strconv.uint64pow10" .u64 Lib.pow10Tab) :
    Calls Tryz.prog 48 #[.int .i64 n] w fun e w'=>e=.returned (.string ⟨(Lib.itoa n).toArray⟩)/\∃k os,w'=grow (w.drewN k) os:=Any.strconv_Itoa Tryz.laysM171 n h0 h1 w htab
end Go.Proofs
