/-
  DERIVED. GIVEN WITH THE SEED: THE CARDS: each row of YtkaeelafmohdhaaGreatDoorRows.lean that lists a variable, with what it lists TIED to the program's text (the seventh form; the later family's looks); each row that meets fmt, with fmt's text TOLD by the authors' own Lean function (tested against real Go, not proved from fmt's source: count such statements apart). THE CARD IS WHAT COUNTS. Prove the row's statement (the work); the ties are given (YtkaeelafmohdhaaGreatDoorTie.lean); close each card by the builder's one call (the guide's Derived/Test/ToyasCard.lean, 'card_holds'). Laid BY PROGRAM, IN A SANDBOX (cutbox-door.mjs). By AI agents, Wed Nov 11 2026. No macro, syntax, notation, axiom, sorry.
-/
import Derived.Test.YtkaeelafmohdhaaGreatDoorRows
import GoSem.ClaimSeven
namespace Go.Proofs.YtkaeelafmohdhaaGreatDoor
namespace Rows

/-- THE TIED CARD OF 'rootcauselaw17.RunNil'. -/
def runNilCard : Claim7 := { stood := { row := runNilRow, standIns := [], harness := (true, "9827d360d90187c7c7f6224cd2a0d2be664eb634441bdeea7e2b564c456deaf3"), looks := false }, kinds := [], alts := [], laidByText := true, laidKinds := [.data, .data, .data, .data, .data, .data, .data, .data, .data], laidTests := true, laidLooks := .later }
def RunNilCardSaid : Prop := Claim7.holds Tryz.pinned (.plain (OpenSpec.ofChange runNilSpec)) runNilCard

/-- THE SECOND FORM's CARD OF 'rootcauselaw17.RunNil'. -/
def runNilUptoCard : Claim7 := { stood := { row := runNilUptoRow, standIns := [], harness := (true, "9827d360d90187c7c7f6224cd2a0d2be664eb634441bdeea7e2b564c456deaf3"), looks := false }, kinds := [], alts := [], laidByText := true, laidKinds := [.data, .data, .data, .data, .data, .data, .data, .data, .data], laidTests := true, laidLooks := .later }
def RunNilUptoCardSaid : Prop := Claim7.holds Tryz.pinned (.plain (OpenSpec.upto runNilSpec)) runNilUptoCard
end Rows
end Go.Proofs.YtkaeelafmohdhaaGreatDoor
