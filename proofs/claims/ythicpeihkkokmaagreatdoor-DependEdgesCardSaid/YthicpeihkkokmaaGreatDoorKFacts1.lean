/- The law, and its closed call awake. -/
import Derived.Test.YthicpeihkkokmaaGreatDoorRows
import Derived.ProofKit
import Derived.KernelRfl
import Derived.JoinedOf
set_option linter.unusedVariables false
set_option linter.unusedSimpArgs false
namespace Go.Proofs.YthicpeihkkokmaaGreatDoor
set_option maxRecDepth 100000
theorem gT{a b:Bool}(ha:a=true)(hb:b=true):(a&&b)=true:=by rw[ha,hb];rfl
theorem bp8:(Rows.dependEdgesRow.wf (OpenSpec.ofChange Rows.dependEdgesSpec))=true:=by kernel_rfl
theorem bp7:(laidOutB Tryz.prog)=true:=by kernel_rfl
theorem bp6:(mapsRowed Tryz.prog)=true:=by kernel_rfl
theorem bp5:(Tryz.f4.params.all (Tryz.prog.readableRec ·))=true:=by kernel_rfl
theorem bp4:(namedTie Tryz.prog Rows.dependEdgesRow.named Rows.dependEdgesSpec.vars)=true:=by kernel_rfl
theorem bp3:((Rows.dependEdgesRow.stops==[]))=true:=by kernel_rfl
theorem bp2:((Tryz.prog.stops==[]))=true:=by kernel_rfl
theorem bp1:((Rows.dependEdgesRow.knobs==[]))=true:=by kernel_rfl
theorem bp0:((Tryz.prog.stopKnobs==[]))=true:=by kernel_rfl
theorem bd2:((Rows.dependEdgesRow.inPlace==Tryz.prog.inPlace 4))=true:=by kernel_rfl
theorem bd1:((Rows.dependEdgesRow.unfollowed==Tryz.prog.unfollowed 4))=true:=by kernel_rfl
theorem bc9:((Rows.dependEdgesRow.recurses==Tryz.prog.recurses 4))=true:=by kernel_rfl
theorem bc8:((Rows.dependEdgesRow.named==Tryz.prog.varsNamed 4))=true:=by kernel_rfl
theorem bc7:((Rows.dependEdgesRow.maps==(Tryz.f4.params.toList++Rows.dependEdgesSpec.plain.varTypes Tryz.prog).any (Tryz.prog.mapsRec ·)))=true:=by kernel_rfl
theorem bc6:((Rows.dependEdgesRow.ifaces==(Tryz.f4.params.toList++Rows.dependEdgesSpec.plain.varTypes Tryz.prog).any (Tryz.prog.ifacesRec ·)))=true:=by kernel_rfl
theorem bc5:((Rows.dependEdgesRow.mapsOut==Tryz.prog.mapsAmong Tryz.f4.resultTypes.toList))=true:=by kernel_rfl
theorem bc4:((Rows.dependEdgesRow.loops==(Tryz.f4.params.toList++Rows.dependEdgesSpec.plain.varTypes Tryz.prog).any (Tryz.prog.loopsFrom ·)))=true:=by kernel_rfl
theorem bc3:((Rows.dependEdgesRow.wideKeys==(Tryz.f4.params.toList++Rows.dependEdgesSpec.plain.varTypes Tryz.prog++Tryz.f4.resultTypes.toList).any (Tryz.prog.wideKeysFrom ·)))=true:=by kernel_rfl
theorem bc2:(Rows.dependEdgesSpec.vars.all (Tryz.prog.varReadable ·))=true:=by kernel_rfl
theorem bc1:(Tryz.f4.resultTypes.all (fun t=>Tryz.prog.readableRec t&&decide (t<Tryz.prog.types.size)))=true:=by kernel_rfl
theorem bc0:((Rows.dependEdgesRow.ifacesOut==Tryz.f4.resultTypes.toList.any (Tryz.prog.ifacesRec ·)))=true:=by kernel_rfl
theorem bb9:((Rows.dependEdgesRow.loopsOut==Tryz.f4.resultTypes.toList.any (Tryz.prog.loopsFrom ·)))=true:=by kernel_rfl
theorem bb8:((Rows.dependEdgesRow.plainKeys==Tryz.prog.plainKeys))=true:=by kernel_rfl
theorem bb7:(Rows.dependEdgesRow.shortTexts.isNone)=true:=by kernel_rfl
theorem bb6:(Tryz.prog.stopsHeard)=true:=by kernel_rfl
theorem bb5:(Tryz.prog.mayEnter)=true:=by kernel_rfl
theorem bb4:((Rows.dependEdgesRow.lifted==Tryz.prog.liftsFinal))=true:=by kernel_rfl
theorem bb3:((Tryz.prog.make==some Rows.dependEdgesRow.make))=true:=by kernel_rfl
theorem bb2:((Rows.dependEdgesRow.kinds==(if Rows.dependEdgesRow.domain.isEmpty then[] else Tryz.f4.params.toList.map fun t=>match Tryz.prog.underlying t with|some (.int k)=>some k|_=>none)))=true:=by kernel_rfl
theorem bb1:((Rows.dependEdgesRow.pinned==Rows.dependEdgesRow.pinnedBy))=true:=by kernel_rfl
theorem bb0:((Rows.dependEdgesRow.veiled==(Tryz.f4.params.toList++Rows.dependEdgesSpec.plain.varTypes Tryz.prog++Tryz.f4.resultTypes.toList).any (Tryz.prog.veiledRec ·)))=true:=by kernel_rfl
theorem ba9:(Rows.dependEdgesRow.veiledFits Tryz.prog Tryz.f4.params.toList (Tryz.f4.params.toList++Rows.dependEdgesSpec.plain.varTypes Tryz.prog++Tryz.f4.resultTypes.toList))=true:=by kernel_rfl
theorem UU:joinedFacts Tryz.prog 4 Tryz.f4 Rows.dependEdgesSpec Rows.dependEdgesRow=true:=(gT (gT (gT (gT (gT (gT (gT (gT (gT (gT (gT (gT (gT (gT (gT (gT (gT (gT (gT (gT (gT (gT (gT (gT (gT (gT (gT (gT (gT (gT (gT bp8 bp7) bp6) bp5) bp4) bp3) bp2) bp1) bp0) bd2) bd1) bc9) bc8) bc7) bc6) bc5) bc4) bc3) bc2) bc1) bc0) bb9) bb8) bb7) bb6) bb5) bb4) bb3) bb2) bb1) bb0) ba9)
#print axioms UU
end Go.Proofs.YthicpeihkkokmaaGreatDoor
