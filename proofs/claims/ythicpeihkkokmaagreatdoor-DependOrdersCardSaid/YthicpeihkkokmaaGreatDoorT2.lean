/- Functions as programs on data, and their checks. -/
import Derived.Test.YthicpeihkkokmaaGreatDoorT1
set_option maxRecDepth 1000000
namespace Go.Proofs.YthicpeihkkokmaaGreatDoor
open Go.Ex Go.RowKit Go.T
theorem tg5:dQ eF ((F.drop 5).take 1):=kA
end Go.Proofs.YthicpeihkkokmaaGreatDoor
