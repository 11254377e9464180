/- Functions as programs on data, and their checks. -/
import Derived.Test.YthicpeihkkokmaaGreatDoorT1
set_option maxRecDepth 1000000
namespace Go.Proofs.YthicpeihkkokmaaGreatDoor
open Go.Ex Go.RowKit Go.T
theorem Yq:nK rJ ((F.drop 105).take 7):=kA
theorem XB:nK rJ ((F.drop 112).take 6):=kA
theorem Xn:nK rJ ((F.drop 118).take 8):=kA
theorem W6:nK rJ ((F.drop 126).take 2):=kA
theorem Ay:nK rJ ((F.drop 128).take 1):=kA
end Go.Proofs.YthicpeihkkokmaaGreatDoor
