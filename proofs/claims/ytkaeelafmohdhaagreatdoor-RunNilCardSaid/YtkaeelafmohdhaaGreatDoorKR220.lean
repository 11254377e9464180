/- rootcause/rootcauselaw17.awake: one call, run by the kernel -/
import Derived.Test.YtkaeelafmohdhaaGreatDoorKBase
import Derived.KernelRfl
namespace Go.Proofs.YtkaeelafmohdhaaGreatDoor
open Go.Ex Go.RowKit
theorem h22_0 : r22_0.chk call1 = true := by kernel_rfl
end Go.Proofs.YtkaeelafmohdhaaGreatDoor
