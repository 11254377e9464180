/- the closed facts of the card -/
import Derived.Test.YtcnhmjkmlncbhaaGreatDoorRows
import Derived.ProofKit
import Derived.KernelRfl
import Derived.SevenTiedAt
import Derived.Test.YtcnhmjkmlncbhaaGreatDoorKFactsG
namespace Go.Proofs.YtcnhmjkmlncbhaaGreatDoor
theorem fact_wf : Rows.contrastListsRow.wfByText (OpenSpec.ofChange Rows.contrastListsSpec) = true := by kernel_rfl
theorem fact_main : Tryz.prog.mainIs = some (true, "58e592eddfceee11e4eccbbeb52b0fa54999b30533ea539ed3f3d6108d5c32c7".toList) := by kernel_rfl
theorem fact_looks : false = Tryz.prog.looks [] := by kernel_rfl
theorem fact_stand : ([22].all fun u => !Tryz.prog.wantsStandIn u) = true := by kernel_rfl
end Go.Proofs.YtcnhmjkmlncbhaaGreatDoor
