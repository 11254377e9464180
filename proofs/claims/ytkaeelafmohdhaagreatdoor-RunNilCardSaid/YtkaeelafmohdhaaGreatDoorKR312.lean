/- rootcause/rootcauselaw17.awake: one call, run by the kernel -/
import Derived.Test.YtkaeelafmohdhaaGreatDoorKBase
import Derived.KernelRfl
namespace Go.Proofs.YtkaeelafmohdhaaGreatDoor
open Go.Ex Go.RowKit
theorem h31_2 : r31_2.chk call3 = true := by kernel_rfl
end Go.Proofs.YtkaeelafmohdhaaGreatDoor
