/- the closed facts of the card -/
import Derived.Test.YtkpnmedaonmlaaaGreatDoorRows
import Derived.ProofKit
import Derived.KernelRfl
import Derived.SevenTiedAt
namespace Go.Proofs.YtkpnmedaonmlaaaGreatDoor
theorem fact_wf : Rows.snapshotNilRow.wfByText (OpenSpec.ofChange Rows.snapshotNilSpec) = true := by kernel_rfl
theorem fact_main : Tryz.prog.mainIs = some (true, "cb1dbabae155e934bfa1d73b7f97a4705a1e513b8dc58f5186b1772b0d9e627a".toList) := by kernel_rfl
theorem fact_looks : false = Tryz.prog.looks [] := by kernel_rfl
theorem fact_stand : ([3, 3, 3].all fun u => !Tryz.prog.wantsStandIn u) = true := by kernel_rfl
theorem fact_goes : false = Rows.snapshotNilRow.goesBy Tryz.prog := by kernel_rfl
#print axioms fact_goes
end Go.Proofs.YtkpnmedaonmlaaaGreatDoor
