/- Functions as programs on data, and their checks. -/
import Derived.Test.YtnjdjocokegphaaGreatDoorT1
namespace Go.Proofs.YtnjdjocokegphaaGreatDoor
open Go.Ex Go.RowKit Go.T
theorem ok6:aJ fd6:=aK (n:=2) ⟨kC,kC,trivial⟩
theorem cO4:bI vW 0:=kC
theorem cO3:bI vW 1:=kC
theorem cO2:bI vW 2:=kC
theorem cO1:bI vW 3:=kC
theorem cO0:bI vW 4:=kC
theorem cN9:bI vW 5:=kC
theorem cN8:bI vW 6:=kC
theorem cZ6:aJ vW:=aK (n:=7) ⟨cO4,cO3,cO2,cO1,cO0,cN9,cN8,trivial⟩
theorem cZ1:aJ aQ5:=aK (n:=1) ⟨kC,trivial⟩
theorem cX2:aJ aO9:=aK (n:=1) ⟨kC,trivial⟩
theorem cV2:aJ aN2:=aK (n:=2) ⟨kC,kC,trivial⟩
theorem cV1:aJ aN1:=aK (n:=1) ⟨kC,trivial⟩
theorem cV0:aJ aN0:=aK (n:=1) ⟨kC,trivial⟩
theorem cU8:aJ aM8:=aK (n:=1) ⟨kC,trivial⟩
theorem cT9:aJ aL9:=aK (n:=2) ⟨kC,kC,trivial⟩
theorem cR3:aJ aJ5:=aK (n:=1) ⟨kC,trivial⟩
theorem cR1:aJ aJ3:=aK (n:=1) ⟨kC,trivial⟩
theorem ck1:aJ an7:=aK (n:=1) ⟨kC,trivial⟩
theorem cf9:aJ ak0:=aK (n:=1) ⟨kC,trivial⟩
theorem cf8:aJ aj9:=aK (n:=2) ⟨kC,kC,trivial⟩
theorem cZ0:aJ aQ4:=aK (n:=2) ⟨kC,kC,trivial⟩
theorem cY8:aJ aQ2:=aK (n:=2) ⟨kC,kC,trivial⟩
theorem cU4:aJ aM4:=aK (n:=2) ⟨kC,kC,trivial⟩
theorem cT6:aJ aL6:=aK (n:=2) ⟨kC,kC,trivial⟩
theorem cK8:bI sv 0:=kC
theorem cK7:bI sv 1:=kC
theorem cK6:bI sv 2:=kC
theorem cK5:bI sv 3:=kC
theorem cK4:bI sv 4:=kC
theorem cK3:bI sv 5:=kC
theorem cK2:bI sv 6:=kC
theorem cK1:bI sv 7:=kC
theorem cK0:bI sv 8:=kC
theorem cT1:aJ sv:=aK (n:=9) ⟨cK8,cK7,cK6,cK5,cK4,cK3,cK2,cK1,cK0,trivial⟩
theorem cS3:aJ aK5:=aK (n:=2) ⟨kC,kC,trivial⟩
theorem cR5:aJ aJ7:=aK (n:=1) ⟨kC,trivial⟩
theorem cj3:aJ an0:=aK (n:=1) ⟨kC,trivial⟩
theorem ci5:aJ am3:=aK (n:=2) ⟨kC,kC,trivial⟩
theorem ch7:aJ al6:=aK (n:=2) ⟨kC,kC,trivial⟩
theorem cg4:aJ ak5:=aK (n:=2) ⟨kC,kC,trivial⟩
theorem cg1:aJ ak2:=aK (n:=1) ⟨kC,trivial⟩
theorem cg0:aJ ak1:=aK (n:=2) ⟨kC,kC,trivial⟩
theorem cf7:aJ aj8:=aK (n:=2) ⟨kC,kC,trivial⟩
end Go.Proofs.YtnjdjocokegphaaGreatDoor
