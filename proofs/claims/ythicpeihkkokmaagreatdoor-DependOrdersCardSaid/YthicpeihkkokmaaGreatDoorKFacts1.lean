/- The law, and its closed call awake. -/
import Derived.Test.YthicpeihkkokmaaGreatDoorRows
import Derived.ProofKit
import Derived.KernelRfl
import Derived.JoinedOf
set_option linter.unusedVariables false
set_option linter.unusedSimpArgs false
namespace Go.Proofs.YthicpeihkkokmaaGreatDoor
set_option maxRecDepth 100000
theorem gT{a b:Bool}(ha:a=true)(hb:b=true):(a&&b)=true:=by rw[ha,hb];rfl
theorem bp8:(Rows.dependOrdersRow.wf (OpenSpec.ofChange Rows.dependOrdersSpec))=true:=by kernel_rfl
theorem bp7:(laidOutB Tryz.prog)=true:=by kernel_rfl
theorem bp6:(mapsRowed Tryz.prog)=true:=by kernel_rfl
theorem bp5:(Tryz.f6.params.all (Tryz.prog.readableRec ·))=true:=by kernel_rfl
theorem bp4:(namedTie Tryz.prog Rows.dependOrdersRow.named Rows.dependOrdersSpec.vars)=true:=by kernel_rfl
theorem bp3:((Rows.dependOrdersRow.stops==[]))=true:=by kernel_rfl
theorem bp2:((Tryz.prog.stops==[]))=true:=by kernel_rfl
theorem bp1:((Rows.dependOrdersRow.knobs==[]))=true:=by kernel_rfl
theorem bp0:((Tryz.prog.stopKnobs==[]))=true:=by kernel_rfl
theorem bd2:((Rows.dependOrdersRow.inPlace==Tryz.prog.inPlace 6))=true:=by kernel_rfl
theorem bd1:((Rows.dependOrdersRow.unfollowed==Tryz.prog.unfollowed 6))=true:=by kernel_rfl
theorem bc9:((Rows.dependOrdersRow.recurses==Tryz.prog.recurses 6))=true:=by kernel_rfl
theorem bc8:((Rows.dependOrdersRow.named==Tryz.prog.varsNamed 6))=true:=by kernel_rfl
theorem bc7:((Rows.dependOrdersRow.maps==(Tryz.f6.params.toList++Rows.dependOrdersSpec.plain.varTypes Tryz.prog).any (Tryz.prog.mapsRec ·)))=true:=by kernel_rfl
theorem bc6:((Rows.dependOrdersRow.ifaces==(Tryz.f6.params.toList++Rows.dependOrdersSpec.plain.varTypes Tryz.prog).any (Tryz.prog.ifacesRec ·)))=true:=by kernel_rfl
theorem bc5:((Rows.dependOrdersRow.mapsOut==Tryz.prog.mapsAmong Tryz.f6.resultTypes.toList))=true:=by kernel_rfl
theorem bc4:((Rows.dependOrdersRow.loops==(Tryz.f6.params.toList++Rows.dependOrdersSpec.plain.varTypes Tryz.prog).any (Tryz.prog.loopsFrom ·)))=true:=by kernel_rfl
theorem bc3:((Rows.dependOrdersRow.wideKeys==(Tryz.f6.params.toList++Rows.dependOrdersSpec.plain.varTypes Tryz.prog++Tryz.f6.resultTypes.toList).any (Tryz.prog.wideKeysFrom ·)))=true:=by kernel_rfl
theorem bc2:(Rows.dependOrdersSpec.vars.all (Tryz.prog.varReadable ·))=true:=by kernel_rfl
theorem bc1:(Tryz.f6.resultTypes.all (fun t=>Tryz.prog.readableRec t&&decide (t<Tryz.prog.types.size)))=true:=by kernel_rfl
theorem bc0:((Rows.dependOrdersRow.ifacesOut==Tryz.f6.resultTypes.toList.any (Tryz.prog.ifacesRec ·)))=true:=by kernel_rfl
theorem bb9:((Rows.dependOrdersRow.loopsOut==Tryz.f6.resultTypes.toList.any (Tryz.prog.loopsFrom ·)))=true:=by kernel_rfl
theorem bb8:((Rows.dependOrdersRow.plainKeys==Tryz.prog.plainKeys))=true:=by kernel_rfl
theorem bb7:(Rows.dependOrdersRow.shortTexts.isNone)=true:=by kernel_rfl
theorem bb6:(Tryz.prog.stopsHeard)=true:=by kernel_rfl
theorem bb5:(Tryz.prog.mayEnter)=true:=by kernel_rfl
theorem bb4:((Rows.dependOrdersRow.lifted==Tryz.prog.liftsFinal))=true:=by kernel_rfl
theorem bb3:((Tryz.prog.make==some Rows.dependOrdersRow.make))=true:=by kernel_rfl
theorem bb2:((Rows.dependOrdersRow.kinds==(if Rows.dependOrdersRow.domain.isEmpty then[] else Tryz.f6.params.toList.map fun t=>match Tryz.prog.underlying t with|some (.int k)=>some k|_=>none)))=true:=by kernel_rfl
theorem bb1:((Rows.dependOrdersRow.pinned==Rows.dependOrdersRow.pinnedBy))=true:=by kernel_rfl
theorem bb0:((Rows.dependOrdersRow.veiled==(Tryz.f6.params.toList++Rows.dependOrdersSpec.plain.varTypes Tryz.prog++Tryz.f6.resultTypes.toList).any (Tryz.prog.veiledRec ·)))=true:=by kernel_rfl
theorem ba9:(Rows.dependOrdersRow.veiledFits Tryz.prog Tryz.f6.params.toList (Tryz.f6.params.toList++Rows.dependOrdersSpec.plain.varTypes Tryz.prog++Tryz.f6.resultTypes.toList))=true:=by kernel_rfl
theorem UU:joinedFacts Tryz.prog 6 Tryz.f6 Rows.dependOrdersSpec Rows.dependOrdersRow=true:=(gT (gT (gT (gT (gT (gT (gT (gT (gT (gT (gT (gT (gT (gT (gT (gT (gT (gT (gT (gT (gT (gT (gT (gT (gT (gT (gT (gT (gT (gT (gT bp8 bp7) bp6) bp5) bp4) bp3) bp2) bp1) bp0) bd2) bd1) bc9) bc8) bc7) bc6) bc5) bc4) bc3) bc2) bc1) bc0) bb9) bb8) bb7) bb6) bb5) bb4) bb3) bb2) bb1) bb0) ba9)
#print axioms UU
end Go.Proofs.YthicpeihkkokmaaGreatDoor
