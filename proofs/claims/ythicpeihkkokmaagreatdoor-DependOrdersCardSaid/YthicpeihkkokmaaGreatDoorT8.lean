/- Functions as programs on data, and their checks. -/
import Derived.Test.YthicpeihkkokmaaGreatDoorT1
set_option maxRecDepth 1000000
namespace Go.Proofs.YthicpeihkkokmaaGreatDoor
open Go.Ex Go.RowKit Go.T
theorem bi0:dQ eF ((F.drop 178).take 1):=kA
theorem bh9:dQ eF ((F.drop 179).take 1):=kA
theorem tG:dQ eF ((F.drop 180).take 1):=kA
theorem tE:dQ eF ((F.drop 181).take 2):=kA
theorem bh7:dQ eF ((F.drop 183).take 1):=kA
theorem bh6:dQ eF ((F.drop 184).take 1):=kA
end Go.Proofs.YthicpeihkkokmaaGreatDoor
