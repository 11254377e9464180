/- Functions as programs on data, and their checks. -/
import Derived.Test.YthicpeihkkokmaaGreatDoorT1
set_option maxRecDepth 1000000
namespace Go.Proofs.YthicpeihkkokmaaGreatDoor
open Go.Ex Go.RowKit Go.T
theorem Am:nK rJ ((F.drop 129).take 8):=kA
theorem Ai:nK rJ ((F.drop 137).take 8):=kA
theorem y0:nK rJ ((F.drop 145).take 5):=kA
theorem ye:nK rJ ((F.drop 150).take 6):=kA
theorem Wo:nK rJ ((F.drop 156).take 8):=kA
theorem Wm:nK rJ ((F.drop 164).take 8):=kA
theorem Wl:nK rJ ((F.drop 172).take 6):=kA
end Go.Proofs.YthicpeihkkokmaaGreatDoor
