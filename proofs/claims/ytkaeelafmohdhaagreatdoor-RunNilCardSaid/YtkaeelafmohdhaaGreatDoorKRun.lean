/- rootcause/rootcauselaw17.awake: the run -/
import Derived.Test.YtkaeelafmohdhaaGreatDoorKBase
import Derived.KernelRfl
namespace Go.Proofs.YtkaeelafmohdhaaGreatDoor
open Go.Ex Go.RowKit
theorem hrun : allB isTrue (call4 (.fn 5) [] kw0) = true := by kernel_rfl
end Go.Proofs.YtkaeelafmohdhaaGreatDoor
