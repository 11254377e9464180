/- Functions as programs on data, and their checks. -/
import Derived.Test.YthicpeihkkokmaaGreatDoorT1
set_option maxRecDepth 1000000
namespace Go.Proofs.YthicpeihkkokmaaGreatDoor
open Go.Ex Go.RowKit Go.T
theorem Ji:nK rJ ((F.drop 27).take 6):=kA
theorem IU:nK rJ ((F.drop 33).take 7):=kA
theorem IQ:nK rJ ((F.drop 40).take 8):=kA
theorem IP:nK rJ ((F.drop 48).take 8):=kA
theorem IE:nK rJ ((F.drop 56).take 1):=kA
theorem It:nK rJ ((F.drop 57).take 1):=kA
theorem Is:nK rJ ((F.drop 58).take 8):=kA
theorem Ib:nK rJ ((F.drop 66).take 2):=kA
end Go.Proofs.YthicpeihkkokmaaGreatDoor
