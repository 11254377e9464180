/- Functions as programs on data, and their checks. -/
import Derived.Test.YthicpeihkkokmaaGreatDoorT1
set_option maxRecDepth 1000000
namespace Go.Proofs.YthicpeihkkokmaaGreatDoor
open Go.Ex Go.RowKit Go.T
theorem bi8:dQ eF ((F.drop 128).take 1):=kA
theorem bi7:dQ eF ((F.drop 129).take 8):=kA
theorem bi6:dQ eF ((F.drop 137).take 8):=kA
theorem bi5:dQ eF ((F.drop 145).take 5):=kA
theorem ba7:dQ eF ((F.drop 150).take 8):=kA
theorem aY8:dQ eF ((F.drop 158).take 8):=kA
theorem aY5:dQ eF ((F.drop 166).take 8):=kA
theorem aY4:dQ eF ((F.drop 174).take 4):=kA
end Go.Proofs.YthicpeihkkokmaaGreatDoor
