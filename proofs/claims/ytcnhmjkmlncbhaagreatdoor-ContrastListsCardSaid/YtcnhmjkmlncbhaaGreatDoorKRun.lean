/- rootcause/rootcauselaw47.awake: the run -/
import Derived.Test.YtcnhmjkmlncbhaaGreatDoorKBase
import Derived.KernelRfl
namespace Go.Proofs.YtcnhmjkmlncbhaaGreatDoor
open Go.Ex Go.RowKit
theorem hrun : allB isTrue (call3 (.fn 4) [] kw0) = true := by kernel_rfl
end Go.Proofs.YtcnhmjkmlncbhaaGreatDoor
