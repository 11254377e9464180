/- Functions as programs on data, and their checks. -/
import Derived.Test.YthicpeihkkokmaaGreatDoorT1
set_option maxRecDepth 1000000
namespace Go.Proofs.YthicpeihkkokmaaGreatDoor
open Go.Ex Go.RowKit Go.T
theorem bu1:dQ eF ((F.drop 19).take 8):=kA
theorem bu0:dQ eF ((F.drop 27).take 6):=kA
theorem bt9:dQ eF ((F.drop 33).take 7):=kA
theorem bt8:dQ eF ((F.drop 40).take 8):=kA
theorem bt7:dQ eF ((F.drop 48).take 8):=kA
theorem bt6:dQ eF ((F.drop 56).take 1):=kA
theorem bt5:dQ eF ((F.drop 57).take 1):=kA
end Go.Proofs.YthicpeihkkokmaaGreatDoor
