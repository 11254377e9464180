/- the closed facts of the card -/
import Derived.Test.YtkaeelafmohdhaaGreatDoorRows
import Derived.ProofKit
import Derived.KernelRfl
import Derived.SevenTiedAt
import Derived.Test.YtkaeelafmohdhaaGreatDoorKFactsG
namespace Go.Proofs.YtkaeelafmohdhaaGreatDoor
theorem fact_wf : Rows.runNilRow.wfByText (OpenSpec.ofChange Rows.runNilSpec) = true := by kernel_rfl
theorem fact_main : Tryz.prog.mainIs = some (true, "9827d360d90187c7c7f6224cd2a0d2be664eb634441bdeea7e2b564c456deaf3".toList) := by kernel_rfl
theorem fact_looks : false = Tryz.prog.looks [] := by kernel_rfl
theorem fact_stand : ([29].all fun u => !Tryz.prog.wantsStandIn u) = true := by kernel_rfl
end Go.Proofs.YtkaeelafmohdhaaGreatDoor
