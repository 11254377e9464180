/- Functions as programs on data, and their checks. -/
import Derived.Test.YthicpeihkkokmaaGreatDoorT1
set_option maxRecDepth 1000000
namespace Go.Proofs.YthicpeihkkokmaaGreatDoor
open Go.Ex Go.RowKit Go.T
theorem bs8:dQ eF ((F.drop 91).take 8):=kA
theorem bs7:dQ eF ((F.drop 99).take 5):=kA
theorem bj2:dQ eF ((F.drop 104).take 7):=kA
theorem bj1:dQ eF ((F.drop 111).take 6):=kA
theorem bj0:dQ eF ((F.drop 117).take 8):=kA
theorem bi9:dQ eF ((F.drop 125).take 3):=kA
end Go.Proofs.YthicpeihkkokmaaGreatDoor
