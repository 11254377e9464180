/-
  DERIVED. GIVEN WITH THE SEED: THE CARDS: each row of YtanilhkjfdagpaaGreatDoorRows.lean that lists a variable, with what it lists TIED to the program's text (the seventh form; the later family's looks); each row that meets fmt, with fmt's text TOLD by the authors' own Lean function (tested against real Go, not proved from fmt's source: count such statements apart). THE CARD IS WHAT COUNTS. Prove the row's statement (the work); the ties are given (YtanilhkjfdagpaaGreatDoorTie.lean); close each card by the builder's one call (the guide's Derived/Test/ToyasCard.lean, 'card_holds'). Laid BY PROGRAM, IN A SANDBOX (cutbox-door.mjs). By AI agents, Wed Nov 11 2026. No macro, syntax, notation, axiom, sorry.
-/
import Derived.Test.YtanilhkjfdagpaaGreatDoorRows
import GoSem.ClaimSeven
namespace Go.Proofs.YtanilhkjfdagpaaGreatDoor
namespace Rows

/-- THE TIED CARD OF 'rootcauselaw39.DependNil'. -/
def dependNilCard : Claim7 := { stood := { row := dependNilRow, standIns := [], harness := (true, "d55dc8d8687df008658d1c768f01cb8cc89a7e2eb584ae2dccae551b4569a1ff"), looks := false }, kinds := [], alts := [], laidByText := true, laidKinds := [.data, .data, .data, .data, .data, .data, .data, .data, .data], laidTests := true, laidLooks := .later }
def DependNilCardSaid : Prop := Claim7.holds Tryz.pinned (.plain (OpenSpec.ofChange dependNilSpec)) dependNilCard

/-- THE SECOND FORM's CARD OF 'rootcauselaw39.DependNil'. -/
def dependNilUptoCard : Claim7 := { stood := { row := dependNilUptoRow, standIns := [], harness := (true, "d55dc8d8687df008658d1c768f01cb8cc89a7e2eb584ae2dccae551b4569a1ff"), looks := false }, kinds := [], alts := [], laidByText := true, laidKinds := [.data, .data, .data, .data, .data, .data, .data, .data, .data], laidTests := true, laidLooks := .later }
def DependNilUptoCardSaid : Prop := Claim7.holds Tryz.pinned (.plain (OpenSpec.upto dependNilSpec)) dependNilUptoCard
end Rows
end Go.Proofs.YtanilhkjfdagpaaGreatDoor
