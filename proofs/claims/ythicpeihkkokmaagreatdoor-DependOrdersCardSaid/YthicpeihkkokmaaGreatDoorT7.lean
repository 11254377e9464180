/- Functions as programs on data, and their checks. -/
import Derived.Test.YthicpeihkkokmaaGreatDoorT1
set_option maxRecDepth 1000000
namespace Go.Proofs.YthicpeihkkokmaaGreatDoor
open Go.Ex Go.RowKit Go.T
theorem bi8:dQ eF ((F.drop 128).take 1):=kA
theorem bi7:dQ eF ((F.drop 129).take 8):=kA
theorem bi6:dQ eF ((F.drop 137).take 8):=kA
theorem bi5:dQ eF ((F.drop 145).take 8):=kA
theorem wT:dQ eF ((F.drop 153).take 8):=kA
theorem vl:dQ eF ((F.drop 161).take 7):=kA
theorem ve:dQ eF ((F.drop 168).take 8):=kA
theorem uH:dQ eF ((F.drop 176).take 2):=kA
end Go.Proofs.YthicpeihkkokmaaGreatDoor
