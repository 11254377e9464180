/- The law, and its closed call awake. -/
import Derived.Test.YthicpeihkkokmaaGreatDoorRows
import Derived.ProofKit
import Derived.KernelRfl
import Derived.JoinedOf
set_option linter.unusedVariables false
set_option linter.unusedSimpArgs false
namespace Go.Proofs.YthicpeihkkokmaaGreatDoor
set_option maxRecDepth 100000
theorem gY{a b:Bool}(ha:a=true)(hb:b=true):(a&&b)=true:=by rw[ha,hb];rfl
theorem by6:(Rows.dependSourcesRow.wf (OpenSpec.ofChange Rows.dependSourcesSpec))=true:=by kernel_rfl
theorem by5:(laidOutB Tryz.prog)=true:=by kernel_rfl
theorem by4:(mapsRowed Tryz.prog)=true:=by kernel_rfl
theorem by3:(Tryz.f7.params.all (Tryz.prog.readableRec ·))=true:=by kernel_rfl
theorem by2:(namedTie Tryz.prog Rows.dependSourcesRow.named Rows.dependSourcesSpec.vars)=true:=by kernel_rfl
theorem by1:((Rows.dependSourcesRow.stops==[]))=true:=by kernel_rfl
theorem by0:((Tryz.prog.stops==[]))=true:=by kernel_rfl
theorem bx9:((Rows.dependSourcesRow.knobs==[]))=true:=by kernel_rfl
theorem bx8:((Tryz.prog.stopKnobs==[]))=true:=by kernel_rfl
theorem bn1:((Rows.dependSourcesRow.inPlace==Tryz.prog.inPlace 7))=true:=by kernel_rfl
theorem bn0:((Rows.dependSourcesRow.unfollowed==Tryz.prog.unfollowed 7))=true:=by kernel_rfl
theorem bm9:((Rows.dependSourcesRow.recurses==Tryz.prog.recurses 7))=true:=by kernel_rfl
theorem bm8:((Rows.dependSourcesRow.named==Tryz.prog.varsNamed 7))=true:=by kernel_rfl
theorem bm7:((Rows.dependSourcesRow.maps==(Tryz.f7.params.toList++Rows.dependSourcesSpec.plain.varTypes Tryz.prog).any (Tryz.prog.mapsRec ·)))=true:=by kernel_rfl
theorem bm6:((Rows.dependSourcesRow.ifaces==(Tryz.f7.params.toList++Rows.dependSourcesSpec.plain.varTypes Tryz.prog).any (Tryz.prog.ifacesRec ·)))=true:=by kernel_rfl
theorem bm5:((Rows.dependSourcesRow.mapsOut==Tryz.prog.mapsAmong Tryz.f7.resultTypes.toList))=true:=by kernel_rfl
theorem bm4:((Rows.dependSourcesRow.loops==(Tryz.f7.params.toList++Rows.dependSourcesSpec.plain.varTypes Tryz.prog).any (Tryz.prog.loopsFrom ·)))=true:=by kernel_rfl
theorem bm3:((Rows.dependSourcesRow.wideKeys==(Tryz.f7.params.toList++Rows.dependSourcesSpec.plain.varTypes Tryz.prog++Tryz.f7.resultTypes.toList).any (Tryz.prog.wideKeysFrom ·)))=true:=by kernel_rfl
theorem bm2:(Rows.dependSourcesSpec.vars.all (Tryz.prog.varReadable ·))=true:=by kernel_rfl
theorem bm1:(Tryz.f7.resultTypes.all (fun t=>Tryz.prog.readableRec t&&decide (t<Tryz.prog.types.size)))=true:=by kernel_rfl
theorem bm0:((Rows.dependSourcesRow.ifacesOut==Tryz.f7.resultTypes.toList.any (Tryz.prog.ifacesRec ·)))=true:=by kernel_rfl
theorem bl9:((Rows.dependSourcesRow.loopsOut==Tryz.f7.resultTypes.toList.any (Tryz.prog.loopsFrom ·)))=true:=by kernel_rfl
theorem bl8:((Rows.dependSourcesRow.plainKeys==Tryz.prog.plainKeys))=true:=by kernel_rfl
theorem bl7:(Rows.dependSourcesRow.shortTexts.isNone)=true:=by kernel_rfl
theorem bl6:(Tryz.prog.stopsHeard)=true:=by kernel_rfl
theorem bl5:(Tryz.prog.mayEnter)=true:=by kernel_rfl
theorem bl4:((Rows.dependSourcesRow.lifted==Tryz.prog.liftsFinal))=true:=by kernel_rfl
theorem bl3:((Tryz.prog.make==some Rows.dependSourcesRow.make))=true:=by kernel_rfl
theorem bl2:((Rows.dependSourcesRow.kinds==(if Rows.dependSourcesRow.domain.isEmpty then[] else Tryz.f7.params.toList.map fun t=>match Tryz.prog.underlying t with|some (.int k)=>some k|_=>none)))=true:=by kernel_rfl
theorem bl1:((Rows.dependSourcesRow.pinned==Rows.dependSourcesRow.pinnedBy))=true:=by kernel_rfl
theorem bl0:((Rows.dependSourcesRow.veiled==(Tryz.f7.params.toList++Rows.dependSourcesSpec.plain.varTypes Tryz.prog++Tryz.f7.resultTypes.toList).any (Tryz.prog.veiledRec ·)))=true:=by kernel_rfl
theorem bk9:(Rows.dependSourcesRow.veiledFits Tryz.prog Tryz.f7.params.toList (Tryz.f7.params.toList++Rows.dependSourcesSpec.plain.varTypes Tryz.prog++Tryz.f7.resultTypes.toList))=true:=by kernel_rfl
theorem V4:joinedFacts Tryz.prog 7 Tryz.f7 Rows.dependSourcesSpec Rows.dependSourcesRow=true:=(gY (gY (gY (gY (gY (gY (gY (gY (gY (gY (gY (gY (gY (gY (gY (gY (gY (gY (gY (gY (gY (gY (gY (gY (gY (gY (gY (gY (gY (gY (gY by6 by5) by4) by3) by2) by1) by0) bx9) bx8) bn1) bn0) bm9) bm8) bm7) bm6) bm5) bm4) bm3) bm2) bm1) bm0) bl9) bl8) bl7) bl6) bl5) bl4) bl3) bl2) bl1) bl0) bk9)
#print axioms V4
end Go.Proofs.YthicpeihkkokmaaGreatDoor
