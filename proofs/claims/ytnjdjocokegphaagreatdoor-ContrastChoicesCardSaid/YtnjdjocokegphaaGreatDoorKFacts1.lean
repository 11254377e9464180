/- The law, and its closed call awake. -/
import Derived.Test.YtnjdjocokegphaaGreatDoorRows
import Derived.ProofKit
import Derived.KernelRfl
import Derived.JoinedOf
set_option linter.unusedVariables false
set_option linter.unusedSimpArgs false
namespace Go.Proofs.YtnjdjocokegphaaGreatDoor
set_option maxRecDepth 100000
theorem gh{a b:Bool}(ha:a=true)(hb:b=true):(a&&b)=true:=by rw[ha,hb];rfl
theorem cq1:(Rows.contrastChoicesRow.wf (OpenSpec.ofChange Rows.contrastChoicesSpec))=true:=by kernel_rfl
theorem cq0:(laidOutB Tryz.prog)=true:=by kernel_rfl
theorem cp9:(mapsRowed Tryz.prog)=true:=by kernel_rfl
theorem cp8:(Tryz.f3.params.all (Tryz.prog.readableRec ·))=true:=by kernel_rfl
theorem cp7:(namedTie Tryz.prog Rows.contrastChoicesRow.named Rows.contrastChoicesSpec.vars)=true:=by kernel_rfl
theorem cp6:((Rows.contrastChoicesRow.stops==[]))=true:=by kernel_rfl
theorem cp5:((Tryz.prog.stops==[]))=true:=by kernel_rfl
theorem cp4:((Rows.contrastChoicesRow.knobs==[]))=true:=by kernel_rfl
theorem cp3:((Tryz.prog.stopKnobs==[]))=true:=by kernel_rfl
theorem bI3:((Rows.contrastChoicesRow.inPlace==Tryz.prog.inPlace 3))=true:=by kernel_rfl
theorem bI2:((Rows.contrastChoicesRow.unfollowed==Tryz.prog.unfollowed 3))=true:=by kernel_rfl
theorem bI1:((Rows.contrastChoicesRow.recurses==Tryz.prog.recurses 3))=true:=by kernel_rfl
theorem bI0:((Rows.contrastChoicesRow.named==Tryz.prog.varsNamed 3))=true:=by kernel_rfl
theorem bH9:((Rows.contrastChoicesRow.maps==(Tryz.f3.params.toList++Rows.contrastChoicesSpec.plain.varTypes Tryz.prog).any (Tryz.prog.mapsRec ·)))=true:=by kernel_rfl
theorem bH8:((Rows.contrastChoicesRow.ifaces==(Tryz.f3.params.toList++Rows.contrastChoicesSpec.plain.varTypes Tryz.prog).any (Tryz.prog.ifacesRec ·)))=true:=by kernel_rfl
theorem bH7:((Rows.contrastChoicesRow.mapsOut==Tryz.prog.mapsAmong Tryz.f3.resultTypes.toList))=true:=by kernel_rfl
theorem bH6:((Rows.contrastChoicesRow.loops==(Tryz.f3.params.toList++Rows.contrastChoicesSpec.plain.varTypes Tryz.prog).any (Tryz.prog.loopsFrom ·)))=true:=by kernel_rfl
theorem bH5:((Rows.contrastChoicesRow.wideKeys==(Tryz.f3.params.toList++Rows.contrastChoicesSpec.plain.varTypes Tryz.prog++Tryz.f3.resultTypes.toList).any (Tryz.prog.wideKeysFrom ·)))=true:=by kernel_rfl
theorem bH4:(Rows.contrastChoicesSpec.vars.all (Tryz.prog.varReadable ·))=true:=by kernel_rfl
theorem bH3:(Tryz.f3.resultTypes.all (fun t=>Tryz.prog.readableRec t&&decide (t<Tryz.prog.types.size)))=true:=by kernel_rfl
theorem bH2:((Rows.contrastChoicesRow.ifacesOut==Tryz.f3.resultTypes.toList.any (Tryz.prog.ifacesRec ·)))=true:=by kernel_rfl
theorem bH1:((Rows.contrastChoicesRow.loopsOut==Tryz.f3.resultTypes.toList.any (Tryz.prog.loopsFrom ·)))=true:=by kernel_rfl
theorem bH0:((Rows.contrastChoicesRow.plainKeys==Tryz.prog.plainKeys))=true:=by kernel_rfl
theorem bG9:(Rows.contrastChoicesRow.shortTexts.isNone)=true:=by kernel_rfl
theorem bG8:(Tryz.prog.stopsHeard)=true:=by kernel_rfl
theorem bG7:(Tryz.prog.mayEnter)=true:=by kernel_rfl
theorem bG6:((Rows.contrastChoicesRow.lifted==Tryz.prog.liftsFinal))=true:=by kernel_rfl
theorem bG5:((Tryz.prog.make==some Rows.contrastChoicesRow.make))=true:=by kernel_rfl
theorem bG4:((Rows.contrastChoicesRow.kinds==(if Rows.contrastChoicesRow.domain.isEmpty then[] else Tryz.f3.params.toList.map fun t=>match Tryz.prog.underlying t with|some (.int k)=>some k|_=>none)))=true:=by kernel_rfl
theorem bG3:((Rows.contrastChoicesRow.pinned==Rows.contrastChoicesRow.pinnedBy))=true:=by kernel_rfl
theorem bG2:((Rows.contrastChoicesRow.veiled==(Tryz.f3.params.toList++Rows.contrastChoicesSpec.plain.varTypes Tryz.prog++Tryz.f3.resultTypes.toList).any (Tryz.prog.veiledRec ·)))=true:=by kernel_rfl
theorem bG1:(Rows.contrastChoicesRow.veiledFits Tryz.prog Tryz.f3.params.toList (Tryz.f3.params.toList++Rows.contrastChoicesSpec.plain.varTypes Tryz.prog++Tryz.f3.resultTypes.toList))=true:=by kernel_rfl
theorem VN:joinedFacts Tryz.prog 3 Tryz.f3 Rows.contrastChoicesSpec Rows.contrastChoicesRow=true:=(gh (gh (gh (gh (gh (gh (gh (gh (gh (gh (gh (gh (gh (gh (gh (gh (gh (gh (gh (gh (gh (gh (gh (gh (gh (gh (gh (gh (gh (gh (gh cq1 cq0) cp9) cp8) cp7) cp6) cp5) cp4) cp3) bI3) bI2) bI1) bI0) bH9) bH8) bH7) bH6) bH5) bH4) bH3) bH2) bH1) bH0) bG9) bG8) bG7) bG6) bG5) bG4) bG3) bG2) bG1)
#print axioms VN
end Go.Proofs.YtnjdjocokegphaaGreatDoor
