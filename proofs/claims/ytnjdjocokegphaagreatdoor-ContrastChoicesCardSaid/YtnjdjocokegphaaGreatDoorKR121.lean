/- The law, and its closed call awake. -/
import Derived.Test.YtnjdjocokegphaaGreatDoorK0
import Derived.KernelRfl
namespace Go.Proofs.YtnjdjocokegphaaGreatDoor.K
open Go.Ex Go.RowKit
theorem cp1:Z4.wH R1=true:=by kernel_rfl
end Go.Proofs.YtnjdjocokegphaaGreatDoor.K
