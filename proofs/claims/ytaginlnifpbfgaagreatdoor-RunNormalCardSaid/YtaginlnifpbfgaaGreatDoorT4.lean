/- Functions as programs on data, and their checks. -/
import Derived.Test.YtaginlnifpbfgaaGreatDoorT1
namespace Go.Proofs.YtaginlnifpbfgaaGreatDoor
open Go.Ex Go.RowKit Go.T
theorem cF1:aL aD5:=aM (n:=2) ⟨kC,kC,trivial⟩
theorem cF0:aL aD4:=aM (n:=2) ⟨kC,kC,trivial⟩
theorem ct4:bZ E2 0:=kC
theorem ct3:bZ E2 1:=kC
theorem ct2:bZ E2 2:=kC
theorem ct1:bZ E2 3:=kC
theorem cE0:aL E2:=aM (n:=4) ⟨ct4,ct3,ct2,ct1,trivial⟩
theorem cD5:aL aC2:=aM (n:=1) ⟨kC,trivial⟩
theorem cD4:aL aC1:=aM (n:=1) ⟨kC,trivial⟩
theorem cB2:aL aA1:=aM (n:=3) ⟨kC,kC,kC,trivial⟩
theorem cz6:aL ay6:=aM (n:=2) ⟨kC,kC,trivial⟩
theorem cy3:aL ax5:=aM (n:=3) ⟨kC,kC,kC,trivial⟩
theorem cx6:aL aw8:=aM (n:=1) ⟨kC,trivial⟩
theorem cx0:aL aw2:=aM (n:=1) ⟨kC,trivial⟩
theorem bO8:aL aa6:=aM (n:=1) ⟨kC,trivial⟩
theorem bO4:aL aa2:=aM (n:=2) ⟨kC,kC,trivial⟩
theorem bN3:aL Z3:=aM (n:=2) ⟨kC,kC,trivial⟩
theorem cE9:aL aD3:=aM (n:=1) ⟨kC,trivial⟩
theorem ct0:bZ EZ 0:=kC
theorem cs9:bZ EZ 1:=kC
theorem cs8:bZ EZ 2:=kC
theorem cs7:bZ EZ 3:=kC
theorem cD9:aL EZ:=aM (n:=4) ⟨ct0,cs9,cs8,cs7,trivial⟩
theorem cs1:bZ uo 0:=kC
theorem cr9:bZ uo 1:=kC
theorem cr8:bZ uo 2:=kC
theorem cr7:bZ uo 3:=kC
theorem cr6:bZ uo 4:=kC
theorem cr5:bZ uo 5:=kC
theorem cr4:bZ uo 6:=kC
theorem cr3:bZ uo 7:=kC
theorem cr2:bZ uo 8:=kC
theorem cC8:aL uo:=aM (n:=9) ⟨cs1,cr9,cr8,cr7,cr6,cr5,cr4,cr3,cr2,trivial⟩
theorem cB8:aL aA7:=aM (n:=2) ⟨kC,kC,trivial⟩
theorem cB3:aL aA2:=aM (n:=2) ⟨kC,kC,trivial⟩
theorem cq7:bZ EW 0:=kC
theorem cq6:bZ EW 1:=kC
theorem cq5:bZ EW 2:=kC
theorem cq4:bZ EW 3:=kC
theorem cB0:aL EW:=aM (n:=4) ⟨cq7,cq6,cq5,cq4,trivial⟩
theorem cA7:aL az7:=aM (n:=1) ⟨kC,trivial⟩
theorem cz5:aL ay5:=aM (n:=1) ⟨kC,trivial⟩
theorem cy0:aL ax2:=aM (n:=2) ⟨kC,kC,trivial⟩
theorem cx7:aL aw9:=aM (n:=1) ⟨kC,trivial⟩
theorem cx2:aL aw4:=aM (n:=1) ⟨kC,trivial⟩
theorem bP9:aL ab5:=aM (n:=3) ⟨kC,kC,kC,trivial⟩
theorem bN4:aL Z4:=aM (n:=2) ⟨kC,kC,trivial⟩
end Go.Proofs.YtaginlnifpbfgaaGreatDoor
