import Derived.Test.YtanilhkjfdagpaaGreatDoorKBase
import Derived.KernelRfl
namespace Go.Proofs.YtanilhkjfdagpaaGreatDoor
open Go.Ev
theorem h142_1 : r142_1.chk call0 = true := by kernel_rfl
end Go.Proofs.YtanilhkjfdagpaaGreatDoor
