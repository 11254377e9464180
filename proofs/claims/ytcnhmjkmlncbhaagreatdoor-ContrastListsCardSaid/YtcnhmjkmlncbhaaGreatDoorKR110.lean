/- rootcause/rootcauselaw47.awake: one call, run by the kernel -/
import Derived.Test.YtcnhmjkmlncbhaaGreatDoorKBase
import Derived.KernelRfl
namespace Go.Proofs.YtcnhmjkmlncbhaaGreatDoor
open Go.Ex Go.RowKit
theorem h11_0 : r11_0.chk call0 = true := by kernel_rfl
end Go.Proofs.YtcnhmjkmlncbhaaGreatDoor
