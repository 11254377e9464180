/- Functions as programs on data, and their checks. -/
import Derived.Test.YthicpeihkkokmaaGreatDoorT1
set_option maxRecDepth 1000000
namespace Go.Proofs.YthicpeihkkokmaaGreatDoor
open Go.Ex Go.RowKit Go.T
theorem Ay:nK rJ ((F.drop 128).take 1):=kA
theorem Am:nK rJ ((F.drop 129).take 8):=kA
theorem Ai:nK rJ ((F.drop 137).take 8):=kA
theorem y0:nK rJ ((F.drop 145).take 5):=kA
theorem ye:nK rJ ((F.drop 150).take 8):=kA
theorem wm:nK rJ ((F.drop 158).take 8):=kA
theorem tZ:nK rJ ((F.drop 166).take 8):=kA
theorem sD:nK rJ ((F.drop 174).take 4):=kA
end Go.Proofs.YthicpeihkkokmaaGreatDoor
