/- The law, and its closed call awake. -/
import Derived.Test.YtnjdjocokegphaaGreatDoorK0
import Derived.KernelRfl
namespace Go.Proofs.YtnjdjocokegphaaGreatDoor.K
open Go.Ex Go.RowKit
theorem o7:eo (JN Qt (im 13 zz)) GS=true:=by kernel_rfl
end Go.Proofs.YtnjdjocokegphaaGreatDoor.K
