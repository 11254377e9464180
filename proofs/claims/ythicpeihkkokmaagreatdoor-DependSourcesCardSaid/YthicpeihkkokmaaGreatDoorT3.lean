/- Functions as programs on data, and their checks. -/
import Derived.Test.YthicpeihkkokmaaGreatDoorT1
set_option maxRecDepth 1000000
namespace Go.Proofs.YthicpeihkkokmaaGreatDoor
open Go.Ex Go.RowKit Go.T
theorem tg6:nK rJ ((F.drop 6).take 5):=kA
theorem Kw:nK rJ ((F.drop 11).take 2):=kA
theorem Ks:nK rJ ((F.drop 13).take 6):=kA
theorem Jw:nK rJ ((F.drop 19).take 8):=kA
end Go.Proofs.YthicpeihkkokmaaGreatDoor
