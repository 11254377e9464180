/- Functions as programs on data, and their checks. -/
import Derived.Test.YtaginlnifpbfgaaGreatDoorT1
namespace Go.Proofs.YtaginlnifpbfgaaGreatDoor
open Go.Ex Go.RowKit Go.T
theorem ok5:aL fd5:=aM (n:=1) ⟨kC,trivial⟩
theorem cF7:aL aD9:=aM (n:=2) ⟨kC,kC,trivial⟩
theorem cC9:aL aB6:=aM (n:=1) ⟨kC,trivial⟩
theorem cA4:aL az4:=aM (n:=1) ⟨kC,trivial⟩
theorem cz7:aL ay7:=aM (n:=3) ⟨kC,kC,kC,trivial⟩
theorem cz0:aL ay0:=aM (n:=2) ⟨kC,kC,trivial⟩
theorem cy6:aL ax8:=aM (n:=1) ⟨kC,trivial⟩
theorem cx8:aL ax0:=aM (n:=2) ⟨kC,kC,trivial⟩
theorem cw9:aL aw1:=aM (n:=1) ⟨kC,trivial⟩
theorem bP6:aL ab2:=aM (n:=2) ⟨kC,kC,trivial⟩
theorem bO6:aL aa4:=aM (n:=3) ⟨kC,kC,kC,trivial⟩
theorem bO1:aL Z':=aM (n:=1) ⟨kC,trivial⟩
theorem ok6:aL fd6:=aM (n:=2) ⟨kC,kC,trivial⟩
theorem ok7:aL I6:=aM (n:=2) ⟨kC,kC,trivial⟩
theorem cv2:bZ sP 0:=kC
theorem cv1:bZ sP 1:=kC
theorem cv0:bZ sP 2:=kC
theorem cu9:bZ sP 3:=kC
theorem cu8:bZ sP 4:=kC
theorem cu7:bZ sP 5:=kC
theorem cu6:bZ sP 6:=kC
theorem cu5:bZ sP 7:=kC
theorem cu4:bZ sP 8:=kC
theorem cu3:bZ sP 9:=kC
theorem cF6:aL sP:=aM (n:=10) ⟨cv2,cv1,cv0,cu9,cu8,cu7,cu6,cu5,cu4,cu3,trivial⟩
theorem cD2:aL aB9:=aM (n:=1) ⟨kC,trivial⟩
theorem cC2:aL aB1:=aM (n:=2) ⟨kC,kC,trivial⟩
theorem cA2:aL az2:=aM (n:=1) ⟨kC,trivial⟩
theorem cy2:aL ax4:=aM (n:=2) ⟨kC,kC,trivial⟩
theorem cx1:aL aw3:=aM (n:=1) ⟨kC,trivial⟩
theorem bB5:bZ Ep 0:=kC
theorem bB4:bZ Ep 1:=kC
theorem bB3:bZ Ep 2:=kC
theorem bB2:bZ Ep 3:=kC
theorem bP3:aL Ep:=aM (n:=4) ⟨bB5,bB4,bB3,bB2,trivial⟩
theorem bP2:aL aa9:=aM (n:=1) ⟨kC,trivial⟩
theorem bP0:aL aa7:=aM (n:=1) ⟨kC,trivial⟩
theorem bO3:aL aa1:=aM (n:=2) ⟨kC,kC,trivial⟩
theorem bN6:aL Z6:=aM (n:=2) ⟨kC,kC,trivial⟩
end Go.Proofs.YtaginlnifpbfgaaGreatDoor
