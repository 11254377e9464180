/- Functions as programs on data, and their checks. -/
import Derived.Test.YthicpeihkkokmaaGreatDoorT1
set_option maxRecDepth 1000000
namespace Go.Proofs.YthicpeihkkokmaaGreatDoor
open Go.Ex Go.RowKit Go.T
theorem bt4:dQ eF ((F.drop 58).take 8):=kA
theorem bt3:dQ eF ((F.drop 66).take 2):=kA
theorem bt2:dQ eF ((F.drop 68).take 5):=kA
theorem bt1:dQ eF ((F.drop 73).take 6):=kA
theorem bt0:dQ eF ((F.drop 79).take 4):=kA
theorem bs9:dQ eF ((F.drop 83).take 8):=kA
end Go.Proofs.YthicpeihkkokmaaGreatDoor
