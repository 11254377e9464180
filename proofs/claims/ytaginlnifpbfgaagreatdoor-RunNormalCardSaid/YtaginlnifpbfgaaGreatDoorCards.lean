/-
  DERIVED. GIVEN WITH THE SEED: THE CARDS: each row of YtaginlnifpbfgaaGreatDoorRows.lean that lists a variable, with what it lists TIED to the program's text (the seventh form; the later family's looks); each row that meets fmt, with fmt's text TOLD by the authors' own Lean function (tested against real Go, not proved from fmt's source: count such statements apart). THE CARD IS WHAT COUNTS. Prove the row's statement (the work); the ties are given (YtaginlnifpbfgaaGreatDoorTie.lean); close each card by the builder's one call (the guide's Derived/Test/ToyasCard.lean, 'card_holds'). Laid BY PROGRAM, IN A SANDBOX (cutbox-door.mjs). By AI agents, Wed Nov 11 2026. No macro, syntax, notation, axiom, sorry.
-/
import Derived.Test.YtaginlnifpbfgaaGreatDoorRows
import GoSem.ClaimSeven
namespace Go.Proofs.YtaginlnifpbfgaaGreatDoor
namespace Rows

/-- THE TIED CARD OF 'rootcauselaw17.RunNormal'. -/
def runNormalCard : Claim7 := { stood := { row := runNormalRow, standIns := [], harness := (true, "fcfa3cdc244bf9c8dcc242b384aeb638cf77c05a72bbb0c420780a2620afcb48"), looks := false }, kinds := [], alts := [], laidByText := true, laidKinds := [.data, .data, .data, .data, .data, .data, .data, .data, .data], laidTests := true, laidLooks := .later }
def RunNormalCardSaid : Prop := Claim7.holds Tryz.pinned (.plain (OpenSpec.ofChange runNormalSpec)) runNormalCard

/-- THE SECOND FORM's CARD OF 'rootcauselaw17.RunNormal'. -/
def runNormalUptoCard : Claim7 := { stood := { row := runNormalUptoRow, standIns := [], harness := (true, "fcfa3cdc244bf9c8dcc242b384aeb638cf77c05a72bbb0c420780a2620afcb48"), looks := false }, kinds := [], alts := [], laidByText := true, laidKinds := [.data, .data, .data, .data, .data, .data, .data, .data, .data], laidTests := true, laidLooks := .later }
def RunNormalUptoCardSaid : Prop := Claim7.holds Tryz.pinned (.plain (OpenSpec.upto runNormalSpec)) runNormalUptoCard
end Rows
end Go.Proofs.YtaginlnifpbfgaaGreatDoor
