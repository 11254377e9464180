import Derived.Test.YtanilhkjfdagpaaGreatDoorKBase
import Derived.KernelRfl
namespace Go.Proofs.YtanilhkjfdagpaaGreatDoor
open Go.Ev
theorem h27_0 : r27_0.chk call0 = true := by kernel_rfl
end Go.Proofs.YtanilhkjfdagpaaGreatDoor
