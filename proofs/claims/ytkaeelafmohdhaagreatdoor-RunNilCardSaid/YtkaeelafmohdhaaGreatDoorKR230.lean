/- rootcause/rootcauselaw17.awake: one call, run by the kernel -/
import Derived.Test.YtkaeelafmohdhaaGreatDoorKBase
import Derived.KernelRfl
namespace Go.Proofs.YtkaeelafmohdhaaGreatDoor
open Go.Ex Go.RowKit
theorem h23_0 : r23_0.chk call2 = true := by kernel_rfl
end Go.Proofs.YtkaeelafmohdhaaGreatDoor
