/- The law, and its closed call awake. -/
import Derived.Test.YtaginlnifpbfgaaGreatDoorK0
import Derived.KernelRfl
namespace Go.Proofs.YtaginlnifpbfgaaGreatDoor.K
open Go.Ex Go.RowKit
theorem pW:ey (GY Kx (fA 12 yI)) Et=true:=by kernel_rfl
end Go.Proofs.YtaginlnifpbfgaaGreatDoor.K
