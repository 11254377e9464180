import Derived.Test.YtanilhkjfdagpaaGreatDoorKBase
import Derived.KernelRfl
namespace Go.Proofs.YtanilhkjfdagpaaGreatDoor
open Go.Ev
theorem h12_0 : r12_0.chk call1 = true := by kernel_rfl
end Go.Proofs.YtanilhkjfdagpaaGreatDoor
