/- The law, and its closed call awake. -/
import Derived.Test.YthicpeihkkokmaaGreatDoorRows
import Derived.ProofKit
import Derived.KernelRfl
import Derived.JoinedOf
set_option linter.unusedVariables false
set_option linter.unusedSimpArgs false
namespace Go.Proofs.YthicpeihkkokmaaGreatDoor
set_option maxRecDepth 100000
theorem gY{a b:Bool}(ha:a=true)(hb:b=true):(a&&b)=true:=by rw[ha,hb];rfl
theorem by6:(Rows.dependNodesRow.wf (OpenSpec.ofChange Rows.dependNodesSpec))=true:=by kernel_rfl
theorem by5:(laidOutB Tryz.prog)=true:=by kernel_rfl
theorem by4:(mapsRowed Tryz.prog)=true:=by kernel_rfl
theorem by3:(Tryz.f3.params.all (Tryz.prog.readableRec ·))=true:=by kernel_rfl
theorem by2:(namedTie Tryz.prog Rows.dependNodesRow.named Rows.dependNodesSpec.vars)=true:=by kernel_rfl
theorem by1:((Rows.dependNodesRow.stops==[]))=true:=by kernel_rfl
theorem by0:((Tryz.prog.stops==[]))=true:=by kernel_rfl
theorem bx9:((Rows.dependNodesRow.knobs==[]))=true:=by kernel_rfl
theorem bx8:((Tryz.prog.stopKnobs==[]))=true:=by kernel_rfl
theorem bn1:((Rows.dependNodesRow.inPlace==Tryz.prog.inPlace 3))=true:=by kernel_rfl
theorem bn0:((Rows.dependNodesRow.unfollowed==Tryz.prog.unfollowed 3))=true:=by kernel_rfl
theorem bm9:((Rows.dependNodesRow.recurses==Tryz.prog.recurses 3))=true:=by kernel_rfl
theorem bm8:((Rows.dependNodesRow.named==Tryz.prog.varsNamed 3))=true:=by kernel_rfl
theorem bm7:((Rows.dependNodesRow.maps==(Tryz.f3.params.toList++Rows.dependNodesSpec.plain.varTypes Tryz.prog).any (Tryz.prog.mapsRec ·)))=true:=by kernel_rfl
theorem bm6:((Rows.dependNodesRow.ifaces==(Tryz.f3.params.toList++Rows.dependNodesSpec.plain.varTypes Tryz.prog).any (Tryz.prog.ifacesRec ·)))=true:=by kernel_rfl
theorem bm5:((Rows.dependNodesRow.mapsOut==Tryz.prog.mapsAmong Tryz.f3.resultTypes.toList))=true:=by kernel_rfl
theorem bm4:((Rows.dependNodesRow.loops==(Tryz.f3.params.toList++Rows.dependNodesSpec.plain.varTypes Tryz.prog).any (Tryz.prog.loopsFrom ·)))=true:=by kernel_rfl
theorem bm3:((Rows.dependNodesRow.wideKeys==(Tryz.f3.params.toList++Rows.dependNodesSpec.plain.varTypes Tryz.prog++Tryz.f3.resultTypes.toList).any (Tryz.prog.wideKeysFrom ·)))=true:=by kernel_rfl
theorem bm2:(Rows.dependNodesSpec.vars.all (Tryz.prog.varReadable ·))=true:=by kernel_rfl
theorem bm1:(Tryz.f3.resultTypes.all (fun t=>Tryz.prog.readableRec t&&decide (t<Tryz.prog.types.size)))=true:=by kernel_rfl
theorem bm0:((Rows.dependNodesRow.ifacesOut==Tryz.f3.resultTypes.toList.any (Tryz.prog.ifacesRec ·)))=true:=by kernel_rfl
theorem bl9:((Rows.dependNodesRow.loopsOut==Tryz.f3.resultTypes.toList.any (Tryz.prog.loopsFrom ·)))=true:=by kernel_rfl
theorem bl8:((Rows.dependNodesRow.plainKeys==Tryz.prog.plainKeys))=true:=by kernel_rfl
theorem bl7:(Rows.dependNodesRow.shortTexts.isNone)=true:=by kernel_rfl
theorem bl6:(Tryz.prog.stopsHeard)=true:=by kernel_rfl
theorem bl5:(Tryz.prog.mayEnter)=true:=by kernel_rfl
theorem bl4:((Rows.dependNodesRow.lifted==Tryz.prog.liftsFinal))=true:=by kernel_rfl
theorem bl3:((Tryz.prog.make==some Rows.dependNodesRow.make))=true:=by kernel_rfl
theorem bl2:((Rows.dependNodesRow.kinds==(if Rows.dependNodesRow.domain.isEmpty then[] else Tryz.f3.params.toList.map fun t=>match Tryz.prog.underlying t with|some (.int k)=>some k|_=>none)))=true:=by kernel_rfl
theorem bl1:((Rows.dependNodesRow.pinned==Rows.dependNodesRow.pinnedBy))=true:=by kernel_rfl
theorem bl0:((Rows.dependNodesRow.veiled==(Tryz.f3.params.toList++Rows.dependNodesSpec.plain.varTypes Tryz.prog++Tryz.f3.resultTypes.toList).any (Tryz.prog.veiledRec ·)))=true:=by kernel_rfl
theorem bk9:(Rows.dependNodesRow.veiledFits Tryz.prog Tryz.f3.params.toList (Tryz.f3.params.toList++Rows.dependNodesSpec.plain.varTypes Tryz.prog++Tryz.f3.resultTypes.toList))=true:=by kernel_rfl
theorem V4:joinedFacts Tryz.prog 3 Tryz.f3 Rows.dependNodesSpec Rows.dependNodesRow=true:=(gY (gY (gY (gY (gY (gY (gY (gY (gY (gY (gY (gY (gY (gY (gY (gY (gY (gY (gY (gY (gY (gY (gY (gY (gY (gY (gY (gY (gY (gY (gY by6 by5) by4) by3) by2) by1) by0) bx9) bx8) bn1) bn0) bm9) bm8) bm7) bm6) bm5) bm4) bm3) bm2) bm1) bm0) bl9) bl8) bl7) bl6) bl5) bl4) bl3) bl2) bl1) bl0) bk9)
#print axioms V4
end Go.Proofs.YthicpeihkkokmaaGreatDoor
