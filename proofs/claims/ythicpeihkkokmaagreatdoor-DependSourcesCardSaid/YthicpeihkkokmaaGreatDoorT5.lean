/- Functions as programs on data, and their checks. -/
import Derived.Test.YthicpeihkkokmaaGreatDoorT1
set_option maxRecDepth 1000000
namespace Go.Proofs.YthicpeihkkokmaaGreatDoor
open Go.Ex Go.RowKit Go.T
theorem HI:nK rJ ((F.drop 68).take 6):=kA
theorem YS:nK rJ ((F.drop 74).take 5):=kA
theorem Hk:nK rJ ((F.drop 79).take 4):=kA
theorem Hg:nK rJ ((F.drop 83).take 8):=kA
theorem FW:nK rJ ((F.drop 91).take 8):=kA
theorem Fq:nK rJ ((F.drop 99).take 6):=kA
end Go.Proofs.YthicpeihkkokmaaGreatDoor
