/-
  DERIVED. GIVEN WITH THE SEED: THE CARDS: each row of YthicpeihkkokmaaGreatDoorRows.lean that lists a variable, with what it lists TIED to the program's text (the seventh form; the later family's looks); each row that meets fmt, with fmt's text TOLD by the authors' own Lean function (tested against real Go, not proved from fmt's source: count such statements apart). THE CARD IS WHAT COUNTS. Prove the row's statement (the work); the ties are given (YthicpeihkkokmaaGreatDoorTie.lean); close each card by the builder's one call (the guide's Derived/Test/ToyasCard.lean, 'card_holds'). Laid BY PROGRAM, IN A SANDBOX (cutbox-door.mjs). By AI agents, Wed Nov 11 2026. No macro, syntax, notation, axiom, sorry.
-/
import Derived.Test.YthicpeihkkokmaaGreatDoorRows
import GoSem.ClaimSeven
namespace Go.Proofs.YthicpeihkkokmaaGreatDoor
namespace Rows

/-- THE TIED CARD OF 'rootcauselaw39.DependNodes'. -/
def dependNodesCard : Claim7 := { stood := { row := dependNodesRow, standIns := [], harness := (true, "ea10ec4014e47d38e6a852d628627330223758ba376a716595f965e2f9796315"), looks := false }, kinds := [], alts := [], laidByText := true, laidKinds := [.data, .data, .data, .data, .data, .data, .data, .data, .data], laidTests := true, laidLooks := .later }
def DependNodesCardSaid : Prop := Claim7.holds Tryz.pinned (.plain (OpenSpec.ofChange dependNodesSpec)) dependNodesCard

/-- THE TIED CARD OF 'rootcauselaw39.DependEdges'. -/
def dependEdgesCard : Claim7 := { stood := { row := dependEdgesRow, standIns := [], harness := (true, "ea10ec4014e47d38e6a852d628627330223758ba376a716595f965e2f9796315"), looks := false }, kinds := [], alts := [], laidByText := true, laidKinds := [.data, .data, .data, .data, .data, .data, .data, .data, .data], laidTests := true, laidLooks := .later }
def DependEdgesCardSaid : Prop := Claim7.holds Tryz.pinned (.plain (OpenSpec.ofChange dependEdgesSpec)) dependEdgesCard

/-- THE TIED CARD OF 'rootcauselaw39.DependReach'. -/
def dependReachCard : Claim7 := { stood := { row := dependReachRow, standIns := [], harness := (true, "ea10ec4014e47d38e6a852d628627330223758ba376a716595f965e2f9796315"), looks := false }, kinds := [], alts := [], laidByText := true, laidKinds := [.data, .data, .data, .data, .data, .data, .data, .data, .data], laidTests := true, laidLooks := .later }
def DependReachCardSaid : Prop := Claim7.holds Tryz.pinned (.plain (OpenSpec.ofChange dependReachSpec)) dependReachCard

/-- THE TIED CARD OF 'rootcauselaw39.DependOrders'. -/
def dependOrdersCard : Claim7 := { stood := { row := dependOrdersRow, standIns := [], harness := (true, "ea10ec4014e47d38e6a852d628627330223758ba376a716595f965e2f9796315"), looks := false }, kinds := [], alts := [], laidByText := true, laidKinds := [.data, .data, .data, .data, .data, .data, .data, .data, .data], laidTests := true, laidLooks := .later }
def DependOrdersCardSaid : Prop := Claim7.holds Tryz.pinned (.plain (OpenSpec.ofChange dependOrdersSpec)) dependOrdersCard

/-- THE TIED CARD OF 'rootcauselaw39.DependSources'. -/
def dependSourcesCard : Claim7 := { stood := { row := dependSourcesRow, standIns := [], harness := (true, "ea10ec4014e47d38e6a852d628627330223758ba376a716595f965e2f9796315"), looks := false }, kinds := [], alts := [], laidByText := true, laidKinds := [.data, .data, .data, .data, .data, .data, .data, .data, .data], laidTests := true, laidLooks := .later }
def DependSourcesCardSaid : Prop := Claim7.holds Tryz.pinned (.plain (OpenSpec.ofChange dependSourcesSpec)) dependSourcesCard

/-- THE SECOND FORM's CARD OF 'rootcauselaw39.DependNodes'. -/
def dependNodesUptoCard : Claim7 := { stood := { row := dependNodesUptoRow, standIns := [], harness := (true, "ea10ec4014e47d38e6a852d628627330223758ba376a716595f965e2f9796315"), looks := false }, kinds := [], alts := [], laidByText := true, laidKinds := [.data, .data, .data, .data, .data, .data, .data, .data, .data], laidTests := true, laidLooks := .later }
def DependNodesUptoCardSaid : Prop := Claim7.holds Tryz.pinned (.plain (OpenSpec.upto dependNodesSpec)) dependNodesUptoCard

/-- THE SECOND FORM's CARD OF 'rootcauselaw39.DependEdges'. -/
def dependEdgesUptoCard : Claim7 := { stood := { row := dependEdgesUptoRow, standIns := [], harness := (true, "ea10ec4014e47d38e6a852d628627330223758ba376a716595f965e2f9796315"), looks := false }, kinds := [], alts := [], laidByText := true, laidKinds := [.data, .data, .data, .data, .data, .data, .data, .data, .data], laidTests := true, laidLooks := .later }
def DependEdgesUptoCardSaid : Prop := Claim7.holds Tryz.pinned (.plain (OpenSpec.upto dependEdgesSpec)) dependEdgesUptoCard

/-- THE SECOND FORM's CARD OF 'rootcauselaw39.DependReach'. -/
def dependReachUptoCard : Claim7 := { stood := { row := dependReachUptoRow, standIns := [], harness := (true, "ea10ec4014e47d38e6a852d628627330223758ba376a716595f965e2f9796315"), looks := false }, kinds := [], alts := [], laidByText := true, laidKinds := [.data, .data, .data, .data, .data, .data, .data, .data, .data], laidTests := true, laidLooks := .later }
def DependReachUptoCardSaid : Prop := Claim7.holds Tryz.pinned (.plain (OpenSpec.upto dependReachSpec)) dependReachUptoCard

/-- THE SECOND FORM's CARD OF 'rootcauselaw39.DependOrders'. -/
def dependOrdersUptoCard : Claim7 := { stood := { row := dependOrdersUptoRow, standIns := [], harness := (true, "ea10ec4014e47d38e6a852d628627330223758ba376a716595f965e2f9796315"), looks := false }, kinds := [], alts := [], laidByText := true, laidKinds := [.data, .data, .data, .data, .data, .data, .data, .data, .data], laidTests := true, laidLooks := .later }
def DependOrdersUptoCardSaid : Prop := Claim7.holds Tryz.pinned (.plain (OpenSpec.upto dependOrdersSpec)) dependOrdersUptoCard

/-- THE SECOND FORM's CARD OF 'rootcauselaw39.DependSources'. -/
def dependSourcesUptoCard : Claim7 := { stood := { row := dependSourcesUptoRow, standIns := [], harness := (true, "ea10ec4014e47d38e6a852d628627330223758ba376a716595f965e2f9796315"), looks := false }, kinds := [], alts := [], laidByText := true, laidKinds := [.data, .data, .data, .data, .data, .data, .data, .data, .data], laidTests := true, laidLooks := .later }
def DependSourcesUptoCardSaid : Prop := Claim7.holds Tryz.pinned (.plain (OpenSpec.upto dependSourcesSpec)) dependSourcesUptoCard
end Rows
end Go.Proofs.YthicpeihkkokmaaGreatDoor
