/- rootcause/rootcauselaw17.awake: calls at closed data, run by the kernel -/
import Derived.Test.YtkaeelafmohdhaaGreatDoorKBase
import Derived.KernelRfl
namespace Go.Proofs.YtkaeelafmohdhaaGreatDoor
open Go.Ex Go.RowKit
theorem hp2 : lall (entChk call00 (mkAW 12 gl9)) ents2 = true := by kernel_rfl
end Go.Proofs.YtkaeelafmohdhaaGreatDoor
