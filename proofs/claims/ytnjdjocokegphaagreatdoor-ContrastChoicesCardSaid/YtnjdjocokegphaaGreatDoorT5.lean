/- Functions as programs on data, and their checks. -/
import Derived.Test.YtnjdjocokegphaaGreatDoorT1
namespace Go.Proofs.YtnjdjocokegphaaGreatDoor
open Go.Ex Go.RowKit Go.T
theorem ok0:aJ Vf:=aK (n:=1) ⟨kC,trivial⟩
theorem ok4:aJ fd4:=aK (n:=1) ⟨kC,trivial⟩
theorem ok9:aJ fd9:=aK (n:=2) ⟨kC,kC,trivial⟩
theorem cZ5:aJ aQ9:=aK (n:=2) ⟨kC,kC,trivial⟩
theorem cY5:aJ aP9:=aK (n:=2) ⟨kC,kC,trivial⟩
theorem cN7:bI DI 0:=kC
theorem cN6:bI DI 1:=kC
theorem cN5:bI DI 2:=kC
theorem cN4:bI DI 3:=kC
theorem cY3:aJ DI:=aK (n:=4) ⟨cN7,cN6,cN5,cN4,trivial⟩
theorem cX9:aJ aP6:=aK (n:=1) ⟨kC,trivial⟩
theorem cX3:aJ aP0:=aK (n:=1) ⟨kC,trivial⟩
theorem cW6:aJ aO5:=aK (n:=2) ⟨kC,kC,trivial⟩
theorem cV9:aJ aN8:=aK (n:=1) ⟨kC,trivial⟩
theorem cT0:aJ TJ:=aK (n:=1) ⟨kC,trivial⟩
theorem ck3:aJ an8:=aK (n:=3) ⟨kC,kC,kC,trivial⟩
theorem cj6:aJ an2:=aK (n:=3) ⟨kC,kC,kC,trivial⟩
theorem ci7:aJ am5:=aK (n:=1) ⟨kC,trivial⟩
theorem ci3:aJ am1:=aK (n:=1) ⟨kC,trivial⟩
theorem ok1:aJ fd1:=aK (n:=1) ⟨kC,trivial⟩
theorem ok3:aJ fd3:=aK (n:=2) ⟨kC,kC,trivial⟩
theorem da0:aJ aR2:=aK (n:=2) ⟨kC,kC,trivial⟩
theorem cZ4:aJ aQ8:=aK (n:=2) ⟨kC,kC,trivial⟩
theorem cX5:aJ aP2:=aK (n:=1) ⟨kC,trivial⟩
theorem cX4:aJ aP1:=aK (n:=3) ⟨kC,kC,kC,trivial⟩
theorem cW8:aJ aO7:=aK (n:=1) ⟨kC,trivial⟩
theorem cU0:aJ aM0:=aK (n:=3) ⟨kC,kC,kC,trivial⟩
theorem cS0:aJ aK2:=aK (n:=1) ⟨kC,trivial⟩
theorem cj9:aJ an5:=aK (n:=2) ⟨kC,kC,trivial⟩
theorem cj2:aJ am9:=aK (n:=1) ⟨kC,trivial⟩
theorem ci8:aJ am6:=aK (n:=3) ⟨kC,kC,kC,trivial⟩
theorem ci2:aJ am0:=aK (n:=1) ⟨kC,trivial⟩
theorem ci0:aJ al8:=aK (n:=1) ⟨kC,trivial⟩
theorem bS0:bI C7 0:=kC
theorem bR9:bI C7 1:=kC
theorem bR8:bI C7 2:=kC
theorem bR7:bI C7 3:=kC
theorem cg9:aJ C7:=aK (n:=4) ⟨bS0,bR9,bR8,bR7,trivial⟩
end Go.Proofs.YtnjdjocokegphaaGreatDoor
