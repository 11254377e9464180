/- Functions as programs on data, and their checks. -/
import Derived.Test.YtaginlnifpbfgaaGreatDoorT1
namespace Go.Proofs.YtaginlnifpbfgaaGreatDoor
open Go.Ex Go.RowKit Go.T
theorem ok4:aL fd4:=aM (n:=1) ⟨kC,trivial⟩
theorem cF5:aL aD8:=aM (n:=2) ⟨kC,kC,trivial⟩
theorem cF4:aL aD7:=aM (n:=3) ⟨kC,kC,kC,trivial⟩
theorem cu2:bZ yj 0:=kC
theorem cu1:bZ yj 1:=kC
theorem ct9:bZ yj 2:=kC
theorem ct8:bZ yj 3:=kC
theorem ct7:bZ yj 4:=kC
theorem ct6:bZ yj 5:=kC
theorem ct5:bZ yj 6:=kC
theorem cF3:aL yj:=aM (n:=7) ⟨cu2,cu1,ct9,ct8,ct7,ct6,ct5,trivial⟩
theorem cE2:aL aC6:=aM (n:=2) ⟨kC,kC,trivial⟩
theorem cC6:aL aB5:=aM (n:=1) ⟨kC,trivial⟩
theorem cC1:aL aB0:=aM (n:=1) ⟨kC,trivial⟩
theorem cA8:aL az8:=aM (n:=1) ⟨kC,trivial⟩
theorem cA5:aL az5:=aM (n:=1) ⟨kC,trivial⟩
theorem cz9:aL ay9:=aM (n:=1) ⟨kC,trivial⟩
theorem cz4:aL ay4:=aM (n:=1) ⟨kC,trivial⟩
theorem cx9:aL ax1:=aM (n:=2) ⟨kC,kC,trivial⟩
theorem bO0:aL Z9:=aM (n:=2) ⟨kC,kC,trivial⟩
theorem bA7:bZ En 0:=kC
theorem bA6:bZ En 1:=kC
theorem bA5:bZ En 2:=kC
theorem bA4:bZ En 3:=kC
theorem bN7:aL En:=aM (n:=4) ⟨bA7,bA6,bA5,bA4,trivial⟩
theorem ok1:aL fd1:=aM (n:=1) ⟨kC,trivial⟩
theorem ok8:aL fd8:=aM (n:=1) ⟨kC,trivial⟩
theorem cE6:aL aD0:=aM (n:=2) ⟨kC,kC,trivial⟩
theorem cE5:aL aC9:=aM (n:=2) ⟨kC,kC,trivial⟩
theorem cs6:bZ EY 0:=kC
theorem cs5:bZ EY 1:=kC
theorem cs4:bZ EY 2:=kC
theorem cs3:bZ EY 3:=kC
theorem cD8:aL EY:=aM (n:=4) ⟨cs6,cs5,cs4,cs3,trivial⟩
theorem cB4:aL aA3:=aM (n:=1) ⟨kC,trivial⟩
theorem cA9:aL az9:=aM (n:=2) ⟨kC,kC,trivial⟩
theorem cA1:aL az1:=aM (n:=2) ⟨kC,kC,trivial⟩
theorem cz1:aL ay1:=aM (n:=1) ⟨kC,trivial⟩
theorem bP8:aL ab4:=aM (n:=1) ⟨kC,trivial⟩
theorem bP7:aL ab3:=aM (n:=2) ⟨kC,kC,trivial⟩
theorem bP5:aL ab1:=aM (n:=2) ⟨kC,kC,trivial⟩
theorem bN8:aL Z7:=aM (n:=3) ⟨kC,kC,kC,trivial⟩
theorem bN2:aL Z2:=aM (n:=2) ⟨kC,kC,trivial⟩
end Go.Proofs.YtaginlnifpbfgaaGreatDoor
