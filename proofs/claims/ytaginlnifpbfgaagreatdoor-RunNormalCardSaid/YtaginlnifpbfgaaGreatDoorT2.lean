/- Functions as programs on data, and their checks. -/
import Derived.Test.YtaginlnifpbfgaaGreatDoorT1
namespace Go.Proofs.YtaginlnifpbfgaaGreatDoor
open Go.Ex Go.RowKit Go.T
theorem cE8:aL aD2:=aM (n:=1) ⟨kC,trivial⟩
theorem cE1:aL aC5:=aM (n:=2) ⟨kC,kC,trivial⟩
theorem cD6:aL aC3:=aM (n:=1) ⟨kC,trivial⟩
theorem cD3:aL aC0:=aM (n:=2) ⟨kC,kC,trivial⟩
theorem cC3:aL aB2:=aM (n:=2) ⟨kC,kC,trivial⟩
theorem cB6:aL aA5:=aM (n:=1) ⟨kC,trivial⟩
theorem cA6:aL az6:=aM (n:=1) ⟨kC,trivial⟩
theorem cz8:aL ay8:=aM (n:=2) ⟨kC,kC,trivial⟩
theorem cz2:aL ay2:=aM (n:=1) ⟨kC,trivial⟩
theorem cy1:aL ax3:=aM (n:=2) ⟨kC,kC,trivial⟩
theorem cx4:aL aw6:=aM (n:=1) ⟨kC,trivial⟩
theorem bN0:aL Z0:=aM (n:=3) ⟨kC,kC,kC,trivial⟩
theorem ok0:aL Uo:=aM (n:=1) ⟨kC,trivial⟩
theorem ok3:aL fd3:=aM (n:=2) ⟨kC,kC,trivial⟩
theorem cE7:aL aD1:=aM (n:=2) ⟨kC,kC,trivial⟩
theorem cD1:aL aB8:=aM (n:=3) ⟨kC,kC,kC,trivial⟩
theorem cC4:aL aB3:=aM (n:=2) ⟨kC,kC,trivial⟩
theorem cB7:aL aA6:=aM (n:=1) ⟨kC,trivial⟩
theorem cq3:bZ um 0:=kC
theorem cq2:bZ um 1:=kC
theorem cq1:bZ um 2:=kC
theorem cq0:bZ um 3:=kC
theorem cp9:bZ um 4:=kC
theorem cp8:bZ um 5:=kC
theorem cp7:bZ um 6:=kC
theorem cp6:bZ um 7:=kC
theorem cp5:bZ um 8:=kC
theorem cy8:aL um:=aM (n:=9) ⟨cq3,cq2,cq1,cq0,cp9,cp8,cp7,cp6,cp5,trivial⟩
theorem cy7:aL SX:=aM (n:=1) ⟨kC,trivial⟩
theorem bP4:aL ab0:=aM (n:=3) ⟨kC,kC,kC,trivial⟩
theorem bP1:aL aa8:=aM (n:=1) ⟨kC,trivial⟩
theorem bO7:aL aa5:=aM (n:=1) ⟨kC,trivial⟩
theorem bN9:aL Z8:=aM (n:=2) ⟨kC,kC,trivial⟩
end Go.Proofs.YtaginlnifpbfgaaGreatDoor
