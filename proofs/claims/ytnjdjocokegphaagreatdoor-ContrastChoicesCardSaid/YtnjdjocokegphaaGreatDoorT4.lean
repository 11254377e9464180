/- Functions as programs on data, and their checks. -/
import Derived.Test.YtnjdjocokegphaaGreatDoorT1
namespace Go.Proofs.YtnjdjocokegphaaGreatDoor
open Go.Ex Go.RowKit Go.T
theorem cY4:aJ aP8:=aK (n:=2) ⟨kC,kC,trivial⟩
theorem cN3:bI DH 0:=kC
theorem cN2:bI DH 1:=kC
theorem cN1:bI DH 2:=kC
theorem cN0:bI DH 3:=kC
theorem cY2:aJ DH:=aK (n:=4) ⟨cN3,cN2,cN1,cN0,trivial⟩
theorem cX7:aJ aP4:=aK (n:=1) ⟨kC,trivial⟩
theorem cL6:bI DF 0:=kC
theorem cL5:bI DF 1:=kC
theorem cL4:bI DF 2:=kC
theorem cL3:bI DF 3:=kC
theorem cX0:aJ DF:=aK (n:=4) ⟨cL6,cL5,cL4,cL3,trivial⟩
theorem cW9:aJ aO8:=aK (n:=1) ⟨kC,trivial⟩
theorem cV5:aJ aN4:=aK (n:=3) ⟨kC,kC,kC,trivial⟩
theorem cT7:aJ aL7:=aK (n:=1) ⟨kC,trivial⟩
theorem cS9:aJ aL1:=aK (n:=1) ⟨kC,trivial⟩
theorem cS1:aJ aK3:=aK (n:=2) ⟨kC,kC,trivial⟩
theorem cR8:aJ aK0:=aK (n:=1) ⟨kC,trivial⟩
theorem ci9:aJ am7:=aK (n:=1) ⟨kC,trivial⟩
theorem ci4:aJ am2:=aK (n:=2) ⟨kC,kC,trivial⟩
theorem ch3:aJ al3:=aK (n:=1) ⟨kC,trivial⟩
theorem ch1:aJ al1:=aK (n:=1) ⟨kC,trivial⟩
theorem cg8:aJ ak9:=aK (n:=2) ⟨kC,kC,trivial⟩
theorem ok2:aJ fd2:=aK (n:=1) ⟨kC,trivial⟩
theorem ok8:aJ fd8:=aK (n:=1) ⟨kC,trivial⟩
theorem cZ7:aJ aR0:=aK (n:=3) ⟨kC,kC,kC,trivial⟩
theorem cY9:aJ aQ3:=aK (n:=2) ⟨kC,kC,trivial⟩
theorem cX6:aJ aP3:=aK (n:=2) ⟨kC,kC,trivial⟩
theorem cW1:aJ aO0:=aK (n:=2) ⟨kC,kC,trivial⟩
theorem cV4:aJ aN3:=aK (n:=2) ⟨kC,kC,trivial⟩
theorem cL2:bI DE 0:=kC
theorem cL1:bI DE 1:=kC
theorem cL0:bI DE 2:=kC
theorem cK9:bI DE 3:=kC
theorem cV3:aJ DE:=aK (n:=4) ⟨cL2,cL1,cL0,cK9,trivial⟩
theorem cU6:aJ aM6:=aK (n:=3) ⟨kC,kC,kC,trivial⟩
theorem cU3:aJ aM3:=aK (n:=1) ⟨kC,trivial⟩
theorem cT5:aJ aL5:=aK (n:=1) ⟨kC,trivial⟩
theorem cj8:aJ an4:=aK (n:=2) ⟨kC,kC,trivial⟩
theorem cj7:aJ an3:=aK (n:=2) ⟨kC,kC,trivial⟩
theorem ci1:aJ al9:=aK (n:=1) ⟨kC,trivial⟩
theorem cg3:aJ ak4:=aK (n:=1) ⟨kC,trivial⟩
end Go.Proofs.YtnjdjocokegphaaGreatDoor
