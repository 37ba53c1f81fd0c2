/- Texts of ours, joined and written short by a program of ours. -/
import Derived.Test.YtnbgmeamdkggeaaGreatDoorRows
import Derived.JoinedOf
import Derived.KernelRfl
set_option linter.unusedVariables false
namespace Go.Proofs.YtnbgmeamdkggeaaGreatDoor
open Go
theorem jf1:(Rows.runStaticRow.wf (OpenSpec.ofChange Rows.runStaticSpec):Bool)=true:=by kernel_rfl
theorem jf2:(laidOutB Tryz.prog:Bool)=true:=by kernel_rfl
theorem jf3:(mapsRowed Tryz.prog:Bool)=true:=by kernel_rfl
theorem jf4:(Tryz.f3.params.all (Tryz.prog.readableRec ·):Bool)=true:=by kernel_rfl
theorem jf5:(namedTie Tryz.prog Rows.runStaticRow.named Rows.runStaticSpec.vars:Bool)=true:=by kernel_rfl
theorem jf6:((Rows.runStaticRow.stops==[]):Bool)=true:=by kernel_rfl
theorem jf7:((Tryz.prog.stops==[]):Bool)=true:=by kernel_rfl
theorem jf8:((Rows.runStaticRow.knobs==[]):Bool)=true:=by kernel_rfl
theorem jf9:((Tryz.prog.stopKnobs==[]):Bool)=true:=by kernel_rfl
theorem jf10:((Rows.runStaticRow.inPlace==Tryz.prog.inPlace 3):Bool)=true:=by kernel_rfl
theorem jf11:((Rows.runStaticRow.unfollowed==Tryz.prog.unfollowed 3):Bool)=true:=by kernel_rfl
theorem jf12:((Rows.runStaticRow.recurses==Tryz.prog.recurses 3):Bool)=true:=by kernel_rfl
theorem jf13:((Rows.runStaticRow.named==Tryz.prog.varsNamed 3):Bool)=true:=by kernel_rfl
theorem jf14:((Rows.runStaticRow.maps==(Tryz.f3.params.toList++Rows.runStaticSpec.plain.varTypes Tryz.prog).any (Tryz.prog.mapsRec ·)):Bool)=true:=by kernel_rfl
theorem jf15:((Rows.runStaticRow.ifaces==(Tryz.f3.params.toList++Rows.runStaticSpec.plain.varTypes Tryz.prog).any (Tryz.prog.ifacesRec ·)):Bool)=true:=by kernel_rfl
theorem jf16:((Rows.runStaticRow.mapsOut==Tryz.prog.mapsAmong Tryz.f3.resultTypes.toList):Bool)=true:=by kernel_rfl
theorem jf17:((Rows.runStaticRow.loops==(Tryz.f3.params.toList++Rows.runStaticSpec.plain.varTypes Tryz.prog).any (Tryz.prog.loopsFrom ·)):Bool)=true:=by kernel_rfl
theorem jf18:((Rows.runStaticRow.wideKeys==(Tryz.f3.params.toList++Rows.runStaticSpec.plain.varTypes Tryz.prog++Tryz.f3.resultTypes.toList).any (Tryz.prog.wideKeysFrom ·)):Bool)=true:=by kernel_rfl
theorem jf19:(Rows.runStaticSpec.vars.all (Tryz.prog.varReadable ·):Bool)=true:=by kernel_rfl
theorem jf20:(Tryz.f3.resultTypes.all (fun t=>Tryz.prog.readableRec t&&decide (t<Tryz.prog.types.size)):Bool)=true:=by kernel_rfl
theorem jf21:((Rows.runStaticRow.ifacesOut==Tryz.f3.resultTypes.toList.any (Tryz.prog.ifacesRec ·)):Bool)=true:=by kernel_rfl
theorem jf22:((Rows.runStaticRow.loopsOut==Tryz.f3.resultTypes.toList.any (Tryz.prog.loopsFrom ·)):Bool)=true:=by kernel_rfl
theorem jf23:((Rows.runStaticRow.plainKeys==Tryz.prog.plainKeys):Bool)=true:=by kernel_rfl
theorem jf24:(Rows.runStaticRow.shortTexts.isNone:Bool)=true:=by kernel_rfl
theorem jf25:(Tryz.prog.stopsHeard:Bool)=true:=by kernel_rfl
theorem jf26:(Tryz.prog.mayEnter:Bool)=true:=by kernel_rfl
theorem jf27:((Rows.runStaticRow.lifted==Tryz.prog.liftsFinal):Bool)=true:=by kernel_rfl
theorem jf28:((Tryz.prog.make==some Rows.runStaticRow.make):Bool)=true:=by kernel_rfl
theorem jf29:((Rows.runStaticRow.kinds==(if Rows.runStaticRow.domain.isEmpty then []else Tryz.f3.params.toList.map fun t=>match Tryz.prog.underlying t with|some (.int k)=>some k|_=>none)):Bool)=true:=by kernel_rfl
theorem jf30:((Rows.runStaticRow.pinned==Rows.runStaticRow.pinnedBy):Bool)=true:=by kernel_rfl
theorem jf31:((Rows.runStaticRow.veiled==(Tryz.f3.params.toList++Rows.runStaticSpec.plain.varTypes Tryz.prog++Tryz.f3.resultTypes.toList).any (Tryz.prog.veiledRec ·)):Bool)=true:=by kernel_rfl
theorem jf32:(Rows.runStaticRow.veiledFits Tryz.prog Tryz.f3.params.toList (Tryz.f3.params.toList++Rows.runStaticSpec.plain.varTypes Tryz.prog++Tryz.f3.resultTypes.toList):Bool)=true:=by kernel_rfl
theorem andI{a b:Bool}(h:a=true)(k:b=true):(a&&b)=true:=by rw[h,k];try rfl
set_option maxRecDepth 100000 in
theorem closedF:joinedFacts Tryz.pinned.checked.prog 3 Tryz.f3 Rows.runStaticSpec Rows.runStaticRow=true:=andI (andI (andI (andI (andI (andI (andI (andI (andI (andI (andI (andI (andI (andI (andI (andI (andI (andI (andI (andI (andI (andI (andI (andI (andI (andI (andI (andI (andI (andI (andI jf1 jf2) jf3) jf4) jf5) jf6) jf7) jf8) jf9) jf10) jf11) jf12) jf13) jf14) jf15) jf16) jf17) jf18) jf19) jf20) jf21) jf22) jf23) jf24) jf25) jf26) jf27) jf28) jf29) jf30) jf31) jf32
end Go.Proofs.YtnbgmeamdkggeaaGreatDoor
