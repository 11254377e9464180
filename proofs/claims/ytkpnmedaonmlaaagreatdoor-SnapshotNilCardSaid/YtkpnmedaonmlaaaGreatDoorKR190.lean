/- rootcause/rootcauselaw20.awake: one call, run by the kernel -/
import Derived.Test.YtkpnmedaonmlaaaGreatDoorKBase
import Derived.KernelRfl
namespace Go.Proofs.YtkpnmedaonmlaaaGreatDoor
open Go.Ev Go.RowKit
theorem h19_0 : r19_0.chk call0 = true := by kernel_rfl
end Go.Proofs.YtkpnmedaonmlaaaGreatDoor
