/- Functions as programs on data, and their checks. -/
import Derived.Test.YtnjdjocokegphaaGreatDoorT1
namespace Go.Proofs.YtnjdjocokegphaaGreatDoor
open Go.Ex Go.RowKit Go.T
theorem ok5:aJ fd5:=aK (n:=1) ⟨kC,trivial⟩
theorem cZ8:aJ aR1:=aK (n:=2) ⟨kC,kC,trivial⟩
theorem cZ3:aJ aQ7:=aK (n:=2) ⟨kC,kC,trivial⟩
theorem cZ2:aJ aQ6:=aK (n:=1) ⟨kC,trivial⟩
theorem cM5:bI sx 0:=kC
theorem cM4:bI sx 1:=kC
theorem cM3:bI sx 2:=kC
theorem cM2:bI sx 3:=kC
theorem cM1:bI sx 4:=kC
theorem cM0:bI sx 5:=kC
theorem cL9:bI sx 6:=kC
theorem cL8:bI sx 7:=kC
theorem cL7:bI sx 8:=kC
theorem cX1:aJ sx:=aK (n:=9) ⟨cM5,cM4,cM3,cM2,cM1,cM0,cL9,cL8,cL7,trivial⟩
theorem cV8:aJ aN7:=aK (n:=1) ⟨kC,trivial⟩
theorem cV7:aJ aN6:=aK (n:=1) ⟨kC,trivial⟩
theorem cV6:aJ aN5:=aK (n:=2) ⟨kC,kC,trivial⟩
theorem cU9:aJ aM9:=aK (n:=1) ⟨kC,trivial⟩
theorem cj4:aJ an1:=aK (n:=1) ⟨kC,trivial⟩
theorem ch9:aJ al7:=aK (n:=1) ⟨kC,trivial⟩
theorem bS9:bI C8 0:=kC
theorem bS8:bI C8 1:=kC
theorem bS7:bI C8 2:=kC
theorem bS6:bI C8 3:=kC
theorem ch8:aJ C8:=aK (n:=4) ⟨bS9,bS8,bS7,bS6,trivial⟩
theorem cg7:aJ ak8:=aK (n:=2) ⟨kC,kC,trivial⟩
theorem cg5:aJ ak6:=aK (n:=1) ⟨kC,trivial⟩
theorem cP4:bI qQ 0:=kC
theorem cP3:bI qQ 1:=kC
theorem cP2:bI qQ 2:=kC
theorem cP1:bI qQ 3:=kC
theorem cP0:bI qQ 4:=kC
theorem cO9:bI qQ 5:=kC
theorem cO8:bI qQ 6:=kC
theorem cO7:bI qQ 7:=kC
theorem cO6:bI qQ 8:=kC
theorem cO5:bI qQ 9:=kC
theorem cZ9:aJ qQ:=aK (n:=10) ⟨cP4,cP3,cP2,cP1,cP0,cO9,cO8,cO7,cO6,cO5,trivial⟩
theorem cY6:aJ aQ0:=aK (n:=2) ⟨kC,kC,trivial⟩
theorem cM9:bI DG 0:=kC
theorem cM8:bI DG 1:=kC
theorem cM7:bI DG 2:=kC
theorem cM6:bI DG 3:=kC
theorem cY1:aJ DG:=aK (n:=4) ⟨cM9,cM8,cM7,cM6,trivial⟩
theorem cW5:aJ aO4:=aK (n:=2) ⟨kC,kC,trivial⟩
theorem cW3:aJ aO2:=aK (n:=2) ⟨kC,kC,trivial⟩
theorem cW0:aJ aN9:=aK (n:=1) ⟨kC,trivial⟩
theorem cU1:aJ aM1:=aK (n:=2) ⟨kC,kC,trivial⟩
theorem cT3:aJ aL3:=aK (n:=2) ⟨kC,kC,trivial⟩
theorem cS6:aJ aK8:=aK (n:=3) ⟨kC,kC,kC,trivial⟩
theorem cR9:aJ aK1:=aK (n:=1) ⟨kC,trivial⟩
theorem ci6:aJ am4:=aK (n:=2) ⟨kC,kC,trivial⟩
theorem ch4:aJ al4:=aK (n:=1) ⟨kC,trivial⟩
theorem cg6:aJ ak7:=aK (n:=1) ⟨kC,trivial⟩
theorem cf6:aJ aj7:=aK (n:=3) ⟨kC,kC,kC,trivial⟩
end Go.Proofs.YtnjdjocokegphaaGreatDoor
