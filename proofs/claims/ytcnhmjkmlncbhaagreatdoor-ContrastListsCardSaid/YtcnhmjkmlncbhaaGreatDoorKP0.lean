/- rootcause/rootcauselaw47.awake: calls at closed data, run by the kernel -/
import Derived.Test.YtcnhmjkmlncbhaaGreatDoorKBase
import Derived.KernelRfl
namespace Go.Proofs.YtcnhmjkmlncbhaaGreatDoor
open Go.Ex Go.RowKit
theorem hp0 : lall (entChk call00 (mkAW 13 gl9)) ents0 = true := by kernel_rfl
end Go.Proofs.YtcnhmjkmlncbhaaGreatDoor
