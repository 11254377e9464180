/- rootcause/rootcauselaw20.awake: the run -/
import Derived.Test.YtkpnmedaonmlaaaGreatDoorKBase
import Derived.KernelRfl
namespace Go.Proofs.YtkpnmedaonmlaaaGreatDoor
open Go.Ev Go.RowKit
theorem hrun : allB isTrue (call2 (.fn 4) [] kw0) = true := by kernel_rfl
end Go.Proofs.YtkpnmedaonmlaaaGreatDoor
