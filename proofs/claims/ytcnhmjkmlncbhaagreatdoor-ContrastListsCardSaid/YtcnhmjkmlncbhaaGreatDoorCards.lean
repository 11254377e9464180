/-
  DERIVED. GIVEN WITH THE SEED: THE CARDS: each row of YtcnhmjkmlncbhaaGreatDoorRows.lean that lists a variable, with what it lists TIED to the program's text (the seventh form; the later family's looks); each row that meets fmt, with fmt's text TOLD by the authors' own Lean function (tested against real Go, not proved from fmt's source: count such statements apart). THE CARD IS WHAT COUNTS. Prove the row's statement (the work); the ties are given (YtcnhmjkmlncbhaaGreatDoorTie.lean); close each card by the builder's one call (the guide's Derived/Test/ToyasCard.lean, 'card_holds'). Laid BY PROGRAM, IN A SANDBOX (cutbox-door.mjs). By AI agents, Wed Nov 11 2026. No macro, syntax, notation, axiom, sorry.
-/
import Derived.Test.YtcnhmjkmlncbhaaGreatDoorRows
import GoSem.ClaimSeven
namespace Go.Proofs.YtcnhmjkmlncbhaaGreatDoor
namespace Rows

/-- THE TIED CARD OF 'rootcauselaw47.ContrastLists'. -/
def contrastListsCard : Claim7 := { stood := { row := contrastListsRow, standIns := [], harness := (true, "58e592eddfceee11e4eccbbeb52b0fa54999b30533ea539ed3f3d6108d5c32c7"), looks := false }, kinds := [], alts := [], laidByText := true, laidKinds := [.data, .data, .data, .data, .data, .data, .data, .data], laidTests := true, laidLooks := .later }
def ContrastListsCardSaid : Prop := Claim7.holds Tryz.pinned (.plain (OpenSpec.ofChange contrastListsSpec)) contrastListsCard

/-- THE SECOND FORM's CARD OF 'rootcauselaw47.ContrastLists'. -/
def contrastListsUptoCard : Claim7 := { stood := { row := contrastListsUptoRow, standIns := [], harness := (true, "58e592eddfceee11e4eccbbeb52b0fa54999b30533ea539ed3f3d6108d5c32c7"), looks := false }, kinds := [], alts := [], laidByText := true, laidKinds := [.data, .data, .data, .data, .data, .data, .data, .data], laidTests := true, laidLooks := .later }
def ContrastListsUptoCardSaid : Prop := Claim7.holds Tryz.pinned (.plain (OpenSpec.upto contrastListsSpec)) contrastListsUptoCard
end Rows
end Go.Proofs.YtcnhmjkmlncbhaaGreatDoor
