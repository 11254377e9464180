/- Functions as programs on data, and their checks. -/
import Derived.Test.YthicpeihkkokmaaGreatDoorT1
set_option maxRecDepth 1000000
namespace Go.Proofs.YthicpeihkkokmaaGreatDoor
open Go.Ex Go.RowKit Go.T
theorem tg6:dQ eF ((F.drop 6).take 5):=kA
theorem bu3:dQ eF ((F.drop 11).take 2):=kA
theorem bu2:dQ eF ((F.drop 13).take 6):=kA
end Go.Proofs.YthicpeihkkokmaaGreatDoor
