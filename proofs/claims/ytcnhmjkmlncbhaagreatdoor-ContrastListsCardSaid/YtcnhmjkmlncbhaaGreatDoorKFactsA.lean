/- the closed facts of the row -/
import Derived.Test.YtcnhmjkmlncbhaaGreatDoorRows
import Derived.ProofKit
import Derived.KernelRfl
import Derived.JoinedOf
namespace Go.Proofs.YtcnhmjkmlncbhaaGreatDoor
set_option maxRecDepth 100000
theorem andT {a b : Bool} (ha : a = true) (hb : b = true) : (a && b) = true := by rw [ha, hb]; rfl
theorem fact1 : (Rows.contrastListsRow.wf (OpenSpec.ofChange Rows.contrastListsSpec)) = true := by kernel_rfl
theorem fact2 : (laidOutB Tryz.prog) = true := by kernel_rfl
theorem fact3 : (mapsRowed Tryz.prog) = true := by kernel_rfl
theorem fact4 : (Tryz.f3.params.all (Tryz.prog.readableRec ·)) = true := by kernel_rfl
theorem fact5 : (namedTie Tryz.prog Rows.contrastListsRow.named Rows.contrastListsSpec.vars) = true := by kernel_rfl
theorem fact6 : ((Rows.contrastListsRow.stops == [])) = true := by kernel_rfl
theorem fact7 : ((Tryz.prog.stops == [])) = true := by kernel_rfl
theorem fact8 : ((Rows.contrastListsRow.knobs == [])) = true := by kernel_rfl
theorem fact9 : ((Tryz.prog.stopKnobs == [])) = true := by kernel_rfl
theorem fact10 : ((Rows.contrastListsRow.inPlace == Tryz.prog.inPlace 3)) = true := by kernel_rfl
theorem fact11 : ((Rows.contrastListsRow.unfollowed == Tryz.prog.unfollowed 3)) = true := by kernel_rfl
theorem fact12 : ((Rows.contrastListsRow.recurses == Tryz.prog.recurses 3)) = true := by kernel_rfl
theorem fact13 : ((Rows.contrastListsRow.named == Tryz.prog.varsNamed 3)) = true := by kernel_rfl
theorem fact14 : ((Rows.contrastListsRow.maps == (Tryz.f3.params.toList ++ Rows.contrastListsSpec.plain.varTypes Tryz.prog).any (Tryz.prog.mapsRec ·))) = true := by kernel_rfl
theorem fact15 : ((Rows.contrastListsRow.ifaces == (Tryz.f3.params.toList ++ Rows.contrastListsSpec.plain.varTypes Tryz.prog).any (Tryz.prog.ifacesRec ·))) = true := by kernel_rfl
theorem fact16 : ((Rows.contrastListsRow.mapsOut == Tryz.prog.mapsAmong Tryz.f3.resultTypes.toList)) = true := by kernel_rfl
theorem fact17 : ((Rows.contrastListsRow.loops == (Tryz.f3.params.toList ++ Rows.contrastListsSpec.plain.varTypes Tryz.prog).any (Tryz.prog.loopsFrom ·))) = true := by kernel_rfl
theorem fact18 : ((Rows.contrastListsRow.wideKeys == (Tryz.f3.params.toList ++ Rows.contrastListsSpec.plain.varTypes Tryz.prog ++ Tryz.f3.resultTypes.toList).any (Tryz.prog.wideKeysFrom ·))) = true := by kernel_rfl
theorem fact19 : (Rows.contrastListsSpec.vars.all (Tryz.prog.varReadable ·)) = true := by kernel_rfl
theorem fact20 : (Tryz.f3.resultTypes.all (fun t => Tryz.prog.readableRec t && decide (t < Tryz.prog.types.size))) = true := by kernel_rfl
theorem fact21 : ((Rows.contrastListsRow.ifacesOut == Tryz.f3.resultTypes.toList.any (Tryz.prog.ifacesRec ·))) = true := by kernel_rfl
theorem fact22 : ((Rows.contrastListsRow.loopsOut == Tryz.f3.resultTypes.toList.any (Tryz.prog.loopsFrom ·))) = true := by kernel_rfl
theorem fact23 : ((Rows.contrastListsRow.plainKeys == Tryz.prog.plainKeys)) = true := by kernel_rfl
theorem fact24 : (Rows.contrastListsRow.shortTexts.isNone) = true := by kernel_rfl
theorem fact25 : (Tryz.prog.stopsHeard) = true := by kernel_rfl
theorem fact26 : (Tryz.prog.mayEnter) = true := by kernel_rfl
theorem fact27 : ((Rows.contrastListsRow.lifted == Tryz.prog.liftsFinal)) = true := by kernel_rfl
theorem fact28 : ((Tryz.prog.make == some Rows.contrastListsRow.make)) = true := by kernel_rfl
theorem fact29 : ((Rows.contrastListsRow.kinds == (if Rows.contrastListsRow.domain.isEmpty then [] else Tryz.f3.params.toList.map fun t => match Tryz.prog.underlying t with | some (.int k) => some k | _ => none))) = true := by kernel_rfl
theorem fact30 : ((Rows.contrastListsRow.pinned == Rows.contrastListsRow.pinnedBy)) = true := by kernel_rfl
theorem fact31 : ((Rows.contrastListsRow.veiled == (Tryz.f3.params.toList ++ Rows.contrastListsSpec.plain.varTypes Tryz.prog ++ Tryz.f3.resultTypes.toList).any (Tryz.prog.veiledRec ·))) = true := by kernel_rfl
theorem fact32 : (Rows.contrastListsRow.veiledFits Tryz.prog Tryz.f3.params.toList (Tryz.f3.params.toList ++ Rows.contrastListsSpec.plain.varTypes Tryz.prog ++ Tryz.f3.resultTypes.toList)) = true := by kernel_rfl
theorem closedFacts : joinedFacts Tryz.prog 3 Tryz.f3 Rows.contrastListsSpec Rows.contrastListsRow = true := (andT (andT (andT (andT (andT (andT (andT (andT (andT (andT (andT (andT (andT (andT (andT (andT (andT (andT (andT (andT (andT (andT (andT (andT (andT (andT (andT (andT (andT (andT (andT fact1 fact2) fact3) fact4) fact5) fact6) fact7) fact8) fact9) fact10) fact11) fact12) fact13) fact14) fact15) fact16) fact17) fact18) fact19) fact20) fact21) fact22) fact23) fact24) fact25) fact26) fact27) fact28) fact29) fact30) fact31) fact32)
#print axioms closedFacts
end Go.Proofs.YtcnhmjkmlncbhaaGreatDoor
