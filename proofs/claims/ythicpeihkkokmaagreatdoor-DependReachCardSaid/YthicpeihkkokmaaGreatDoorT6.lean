/- Functions as programs on data, and their checks. -/
import Derived.Test.YthicpeihkkokmaaGreatDoorT1
set_option maxRecDepth 1000000
namespace Go.Proofs.YthicpeihkkokmaaGreatDoor
open Go.Ex Go.RowKit Go.T
theorem bj2:dQ eF ((F.drop 104).take 7):=kA
theorem bj1:dQ eF ((F.drop 111).take 6):=kA
theorem bj0:dQ eF ((F.drop 117).take 8):=kA
theorem bi9:dQ eF ((F.drop 125).take 3):=kA
theorem bi8:dQ eF ((F.drop 128).take 1):=kA
