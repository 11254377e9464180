/- rootcause/rootcauselaw17.awake: one call, run by the kernel -/
import Derived.Test.YtkaeelafmohdhaaGreatDoorKBase
import Derived.KernelRfl
namespace Go.Proofs.YtkaeelafmohdhaaGreatDoor
open Go.Ex Go.RowKit
theorem h254_3 : r254_3.chk call0 = true := by kernel_rfl
end Go.Proofs.YtkaeelafmohdhaaGreatDoor
