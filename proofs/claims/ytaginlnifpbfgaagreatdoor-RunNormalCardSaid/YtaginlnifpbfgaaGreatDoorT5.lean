/- Functions as programs on data, and their checks. -/
import Derived.Test.YtaginlnifpbfgaaGreatDoorT1
namespace Go.Proofs.YtaginlnifpbfgaaGreatDoor
open Go.Ex Go.RowKit Go.T
theorem cF2:aL aD6:=aM (n:=2) ⟨kC,kC,trivial⟩
theorem cE3:aL aC7:=aM (n:=2) ⟨kC,kC,trivial⟩
theorem cr1:bZ EX 0:=kC
theorem cr0:bZ EX 1:=kC
theorem cq9:bZ EX 2:=kC
theorem cq8:bZ EX 3:=kC
theorem cC7:aL EX:=aM (n:=4) ⟨cr1,cr0,cq9,cq8,trivial⟩
theorem cC0:aL aA9:=aM (n:=2) ⟨kC,kC,trivial⟩
theorem cz3:aL ay3:=aM (n:=2) ⟨kC,kC,trivial⟩
theorem cy9:aL ax9:=aM (n:=1) ⟨kC,trivial⟩
theorem cy5:aL ax7:=aM (n:=1) ⟨kC,trivial⟩
theorem cx5:aL aw7:=aM (n:=1) ⟨kC,trivial⟩
theorem cx3:aL aw5:=aM (n:=1) ⟨kC,trivial⟩
theorem cw8:aL aw0:=aM (n:=1) ⟨kC,trivial⟩
theorem bB1:bZ Eo 0:=kC
theorem bB0:bZ Eo 1:=kC
theorem bA9:bZ Eo 2:=kC
theorem bA8:bZ Eo 3:=kC
theorem bO9:aL Eo:=aM (n:=4) ⟨bB1,bB0,bA9,bA8,trivial⟩
theorem bO5:aL aa3:=aM (n:=1) ⟨kC,trivial⟩
theorem bO2:aL aa0:=aM (n:=2) ⟨kC,kC,trivial⟩
theorem ok2:aL fd2:=aM (n:=1) ⟨kC,trivial⟩
theorem ok9:aL fd9:=aM (n:=2) ⟨kC,kC,trivial⟩
theorem cE4:aL aC8:=aM (n:=2) ⟨kC,kC,trivial⟩
theorem cD7:aL aC4:=aM (n:=1) ⟨kC,trivial⟩
theorem cD0:aL aB7:=aM (n:=1) ⟨kC,trivial⟩
theorem cC5:aL aB4:=aM (n:=1) ⟨kC,trivial⟩
theorem cB9:aL aA8:=aM (n:=3) ⟨kC,kC,kC,trivial⟩
theorem cB5:aL aA4:=aM (n:=1) ⟨kC,trivial⟩
theorem cB1:aL aA0:=aM (n:=2) ⟨kC,kC,trivial⟩
theorem cA3:aL az3:=aM (n:=3) ⟨kC,kC,kC,trivial⟩
theorem cA0:aL az0:=aM (n:=1) ⟨kC,trivial⟩
theorem cy4:aL ax6:=aM (n:=3) ⟨kC,kC,kC,trivial⟩
theorem bN5:aL Z5:=aM (n:=2) ⟨kC,kC,trivial⟩
theorem bN1:aL Z1:=aM (n:=1) ⟨kC,trivial⟩
end Go.Proofs.YtaginlnifpbfgaaGreatDoor
