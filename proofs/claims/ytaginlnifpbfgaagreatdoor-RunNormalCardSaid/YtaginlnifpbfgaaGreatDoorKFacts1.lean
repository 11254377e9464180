/- The law, and its closed call awake. -/
import Derived.Test.YtaginlnifpbfgaaGreatDoorRows
import Derived.ProofKit
import Derived.KernelRfl
import Derived.JoinedOf
set_option linter.unusedVariables false
set_option linter.unusedSimpArgs false
namespace Go.Proofs.YtaginlnifpbfgaaGreatDoor
set_option maxRecDepth 100000
theorem gp{a b:Bool}(ha:a=true)(hb:b=true):(a&&b)=true:=by rw[ha,hb];rfl
theorem bV6:(Rows.runNormalRow.wf (OpenSpec.ofChange Rows.runNormalSpec))=true:=by kernel_rfl
theorem bV5:(laidOutB Tryz.prog)=true:=by kernel_rfl
theorem bV4:(mapsRowed Tryz.prog)=true:=by kernel_rfl
theorem bV3:(Tryz.f3.params.all (Tryz.prog.readableRec ·))=true:=by kernel_rfl
theorem bV2:(namedTie Tryz.prog Rows.runNormalRow.named Rows.runNormalSpec.vars)=true:=by kernel_rfl
theorem bV1:((Rows.runNormalRow.stops==[]))=true:=by kernel_rfl
theorem bV0:((Tryz.prog.stops==[]))=true:=by kernel_rfl
theorem bU9:((Rows.runNormalRow.knobs==[]))=true:=by kernel_rfl
theorem bU8:((Tryz.prog.stopKnobs==[]))=true:=by kernel_rfl
theorem bt0:((Rows.runNormalRow.inPlace==Tryz.prog.inPlace 3))=true:=by kernel_rfl
theorem bs9:((Rows.runNormalRow.unfollowed==Tryz.prog.unfollowed 3))=true:=by kernel_rfl
theorem bs8:((Rows.runNormalRow.recurses==Tryz.prog.recurses 3))=true:=by kernel_rfl
theorem bs7:((Rows.runNormalRow.named==Tryz.prog.varsNamed 3))=true:=by kernel_rfl
theorem bs6:((Rows.runNormalRow.maps==(Tryz.f3.params.toList++Rows.runNormalSpec.plain.varTypes Tryz.prog).any (Tryz.prog.mapsRec ·)))=true:=by kernel_rfl
theorem bs5:((Rows.runNormalRow.ifaces==(Tryz.f3.params.toList++Rows.runNormalSpec.plain.varTypes Tryz.prog).any (Tryz.prog.ifacesRec ·)))=true:=by kernel_rfl
theorem bs4:((Rows.runNormalRow.mapsOut==Tryz.prog.mapsAmong Tryz.f3.resultTypes.toList))=true:=by kernel_rfl
theorem bs3:((Rows.runNormalRow.loops==(Tryz.f3.params.toList++Rows.runNormalSpec.plain.varTypes Tryz.prog).any (Tryz.prog.loopsFrom ·)))=true:=by kernel_rfl
theorem bs1:((Rows.runNormalRow.wideKeys==(Tryz.f3.params.toList++Rows.runNormalSpec.plain.varTypes Tryz.prog++Tryz.f3.resultTypes.toList).any (Tryz.prog.wideKeysFrom ·)))=true:=by kernel_rfl
theorem bs0:(Rows.runNormalSpec.vars.all (Tryz.prog.varReadable ·))=true:=by kernel_rfl
theorem br9:(Tryz.f3.resultTypes.all (fun t=>Tryz.prog.readableRec t&&decide (t<Tryz.prog.types.size)))=true:=by kernel_rfl
theorem br8:((Rows.runNormalRow.ifacesOut==Tryz.f3.resultTypes.toList.any (Tryz.prog.ifacesRec ·)))=true:=by kernel_rfl
theorem br7:((Rows.runNormalRow.loopsOut==Tryz.f3.resultTypes.toList.any (Tryz.prog.loopsFrom ·)))=true:=by kernel_rfl
theorem br6:((Rows.runNormalRow.plainKeys==Tryz.prog.plainKeys))=true:=by kernel_rfl
theorem br5:(Rows.runNormalRow.shortTexts.isNone)=true:=by kernel_rfl
theorem br4:(Tryz.prog.stopsHeard)=true:=by kernel_rfl
theorem br3:(Tryz.prog.mayEnter)=true:=by kernel_rfl
theorem br2:((Rows.runNormalRow.lifted==Tryz.prog.liftsFinal))=true:=by kernel_rfl
theorem br1:((Tryz.prog.make==some Rows.runNormalRow.make))=true:=by kernel_rfl
theorem br0:((Rows.runNormalRow.kinds==(if Rows.runNormalRow.domain.isEmpty then[] else Tryz.f3.params.toList.map fun t=>match Tryz.prog.underlying t with|some (.int k)=>some k|_=>none)))=true:=by kernel_rfl
theorem bq9:((Rows.runNormalRow.pinned==Rows.runNormalRow.pinnedBy))=true:=by kernel_rfl
theorem bq8:((Rows.runNormalRow.veiled==(Tryz.f3.params.toList++Rows.runNormalSpec.plain.varTypes Tryz.prog++Tryz.f3.resultTypes.toList).any (Tryz.prog.veiledRec ·)))=true:=by kernel_rfl
theorem bq7:(Rows.runNormalRow.veiledFits Tryz.prog Tryz.f3.params.toList (Tryz.f3.params.toList++Rows.runNormalSpec.plain.varTypes Tryz.prog++Tryz.f3.resultTypes.toList))=true:=by kernel_rfl
theorem UX:joinedFacts Tryz.prog 3 Tryz.f3 Rows.runNormalSpec Rows.runNormalRow=true:=(gp (gp (gp (gp (gp (gp (gp (gp (gp (gp (gp (gp (gp (gp (gp (gp (gp (gp (gp (gp (gp (gp (gp (gp (gp (gp (gp (gp (gp (gp (gp bV6 bV5) bV4) bV3) bV2) bV1) bV0) bU9) bU8) bt0) bs9) bs8) bs7) bs6) bs5) bs4) bs3) bs1) bs0) br9) br8) br7) br6) br5) br4) br3) br2) br1) br0) bq9) bq8) bq7)
#print axioms UX
end Go.Proofs.YtaginlnifpbfgaaGreatDoor
