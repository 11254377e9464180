import Derived.Test.YtanilhkjfdagpaaGreatDoorKBase
import Derived.KernelRfl
namespace Go.Proofs.YtanilhkjfdagpaaGreatDoor
open Go.Ev
theorem h4 : allB isTrue (call2 (.fn 4) [] kw0) = true := by kernel_rfl
end Go.Proofs.YtanilhkjfdagpaaGreatDoor
