/- rootcause/rootcauselaw47.awake: one call, run by the kernel -/
import Derived.Test.YtcnhmjkmlncbhaaGreatDoorKBase
import Derived.KernelRfl
namespace Go.Proofs.YtcnhmjkmlncbhaaGreatDoor
open Go.Ex Go.RowKit
theorem h10_1 : r10_1.chk call2 = true := by kernel_rfl
end Go.Proofs.YtcnhmjkmlncbhaaGreatDoor
