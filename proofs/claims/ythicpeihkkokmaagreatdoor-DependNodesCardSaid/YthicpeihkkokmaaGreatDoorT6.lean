/- Functions as programs on data, and their checks. -/
import Derived.Test.YthicpeihkkokmaaGreatDoorT1
set_option maxRecDepth 1000000
namespace Go.Proofs.YthicpeihkkokmaaGreatDoor
open Go.Ex Go.RowKit Go.T
theorem Fq:nK rJ ((F.drop 99).take 5):=kA
theorem EK:nK rJ ((F.drop 104).take 7):=kA
theorem D5:nK rJ ((F.drop 111).take 6):=kA
theorem CN:nK rJ ((F.drop 117).take 8):=kA
theorem Bk:nK rJ ((F.drop 125).take 3):=kA
end Go.Proofs.YthicpeihkkokmaaGreatDoor
