/- Functions as programs on data, and their checks. -/
import Derived.Test.YthicpeihkkokmaaGreatDoorT1
set_option maxRecDepth 1000000
namespace Go.Proofs.YthicpeihkkokmaaGreatDoor
open Go.Ex Go.RowKit Go.T
theorem si:nK rJ ((F.drop 178).take 1):=kA
theorem oh:nK rJ ((F.drop 179).take 4):=kA
theorem np:nK rJ ((F.drop 183).take 1):=kA
theorem mH:nK rJ ((F.drop 184).take 1):=kA
end Go.Proofs.YthicpeihkkokmaaGreatDoor
