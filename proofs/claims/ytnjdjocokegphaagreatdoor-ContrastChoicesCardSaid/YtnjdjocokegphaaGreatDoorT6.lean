/- Functions as programs on data, and their checks. -/
import Derived.Test.YtnjdjocokegphaaGreatDoorT1
namespace Go.Proofs.YtnjdjocokegphaaGreatDoor
open Go.Ex Go.RowKit Go.T
theorem ok7:aJ Ir:=aK (n:=2) ⟨kC,kC,trivial⟩
theorem cY0:aJ aP7:=aK (n:=1) ⟨kC,trivial⟩
theorem cX8:aJ aP5:=aK (n:=1) ⟨kC,trivial⟩
theorem cU5:aJ aM5:=aK (n:=1) ⟨kC,trivial⟩
theorem cT8:aJ aL8:=aK (n:=1) ⟨kC,trivial⟩
theorem cT4:aJ aL4:=aK (n:=1) ⟨kC,trivial⟩
theorem cT2:aJ aL2:=aK (n:=1) ⟨kC,trivial⟩
theorem cS7:aJ aK9:=aK (n:=3) ⟨kC,kC,kC,trivial⟩
theorem cS2:aJ aK4:=aK (n:=2) ⟨kC,kC,trivial⟩
theorem cR7:aJ aJ9:=aK (n:=1) ⟨kC,trivial⟩
theorem cR6:aJ aJ8:=aK (n:=1) ⟨kC,trivial⟩
theorem cR2:aJ aJ4:=aK (n:=1) ⟨kC,trivial⟩
theorem bS5:bI Az 0:=kC
theorem bS4:bI Az 1:=kC
theorem bS3:bI Az 2:=kC
theorem bS2:bI Az 3:=kC
theorem bS1:bI Az 4:=kC
theorem ch6:aJ Az:=aK (n:=5) ⟨bS5,bS4,bS3,bS2,bS1,trivial⟩
theorem ch2:aJ al2:=aK (n:=2) ⟨kC,kC,trivial⟩
theorem cg2:aJ ak3:=aK (n:=1) ⟨kC,trivial⟩
theorem cY7:aJ aQ1:=aK (n:=2) ⟨kC,kC,trivial⟩
theorem cW7:aJ aO6:=aK (n:=2) ⟨kC,kC,trivial⟩
theorem cW4:aJ aO3:=aK (n:=1) ⟨kC,trivial⟩
theorem cW2:aJ aO1:=aK (n:=3) ⟨kC,kC,kC,trivial⟩
theorem cU7:aJ aM7:=aK (n:=1) ⟨kC,trivial⟩
theorem cU2:aJ aM2:=aK (n:=1) ⟨kC,trivial⟩
theorem cS8:aJ aL0:=aK (n:=1) ⟨kC,trivial⟩
theorem cS5:aJ aK7:=aK (n:=2) ⟨kC,kC,trivial⟩
theorem cS4:aJ aK6:=aK (n:=2) ⟨kC,kC,trivial⟩
theorem cR4:aJ aJ6:=aK (n:=1) ⟨kC,trivial⟩
theorem bT7:bI Da 0:=kC
theorem bT6:bI Da 1:=kC
theorem bT5:bI Da 2:=kC
theorem bT4:bI Da 3:=kC
theorem cj5:aJ Da:=aK (n:=4) ⟨bT7,bT6,bT5,bT4,trivial⟩
theorem bT3:bI C9 0:=kC
theorem bT2:bI C9 1:=kC
theorem bT1:bI C9 2:=kC
theorem bT0:bI C9 3:=kC
theorem cj1:aJ C9:=aK (n:=4) ⟨bT3,bT2,bT1,bT0,trivial⟩
theorem cj0:aJ am8:=aK (n:=1) ⟨kC,trivial⟩
theorem ch5:aJ al5:=aK (n:=1) ⟨kC,trivial⟩
theorem ch0:aJ al0:=aK (n:=1) ⟨kC,trivial⟩
end Go.Proofs.YtnjdjocokegphaaGreatDoor
