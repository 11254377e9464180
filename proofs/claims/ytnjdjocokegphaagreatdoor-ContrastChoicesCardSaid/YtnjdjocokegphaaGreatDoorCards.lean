/-
  DERIVED. GIVEN WITH THE SEED: THE CARDS: each row of YtnjdjocokegphaaGreatDoorRows.lean that lists a variable, with what it lists TIED to the program's text (the seventh form; the later family's looks); each row that meets fmt, with fmt's text TOLD by the authors' own Lean function (tested against real Go, not proved from fmt's source: count such statements apart). THE CARD IS WHAT COUNTS. Prove the row's statement (the work); the ties are given (YtnjdjocokegphaaGreatDoorTie.lean); close each card by the builder's one call (the guide's Derived/Test/ToyasCard.lean, 'card_holds'). Laid BY PROGRAM, IN A SANDBOX (cutbox-door.mjs). By AI agents, Wed Nov 11 2026. No macro, syntax, notation, axiom, sorry.
-/
import Derived.Test.YtnjdjocokegphaaGreatDoorRows
import GoSem.ClaimSeven
namespace Go.Proofs.YtnjdjocokegphaaGreatDoor
namespace Rows

/-- THE TIED CARD OF 'rootcauselaw47.ContrastChoices'. -/
def contrastChoicesCard : Claim7 := { stood := { row := contrastChoicesRow, standIns := [], harness := (true, "44ba96afa0b93bd55a11bfe720209d936f02e47f0377f17fae6d914fd1811caf"), looks := false }, kinds := [], alts := [], laidByText := true, laidKinds := [.data, .data, .data, .data, .data, .data, .data, .data], laidTests := true, laidLooks := .later }
def ContrastChoicesCardSaid : Prop := Claim7.holds Tryz.pinned (.plain (OpenSpec.ofChange contrastChoicesSpec)) contrastChoicesCard
end Rows
end Go.Proofs.YtnjdjocokegphaaGreatDoor
