/-
  No cell of these rows narrows 'for every input' (looked for: loops, veiled, ifaces, maps, wideKeys, modest, calm, conditions, laid).
  DERIVED. THE GIVEN ROWS OF THIS SEAT. 6 by the template 'for every input the law returns true; each argument reads behind the call as it read before'; 0 by the template 'total and deterministic' (their statements: YthkkjbigfnimbaaTotals.lean).
  GIVEN WITH THE SEED: the statements are not yours to turn. If you find one false, say at which input.
  Laid BY PROGRAM, IN A SANDBOX (cutbox-rows.mjs): the forced cells as the released guide's own fill.sh prints them over the translation bedd5da3ca6e0493… (all of the seat's roots in one cut). By AI agents, Wed Nov 11 2026. No macro, syntax, notation, axiom, sorry.
-/
import Derived.Test.YthkkjbigfnimbaaChecked
import GoSem.Claim
import GoSem.ClaimJoined
import GoSem.ClaimMapViews
import Derived.JoinedTies
import Derived.KernelRfl
namespace Go.Proofs.Ythkkjbigfnimbaa
/- THE CELL 'sum', in the pinned program and in every row, IS THE sha256 OF THE DUMP (.gsa) THAT YthkkjbigfnimbaaProg.lean LOADS. Nothing in Lean hashes anything: it is a label: what it is worth is what the hold of that sum in a sandbox is worth. -/
noncomputable def Try.pinned : Pinned := { name := "ythkkjbigfnimbaa", sum := "bedd5da3ca6e04937c02c1a32094f19a0e671cb94f7b8d96a3677bd66677df70", checked := Try.checked }
namespace Rows
def none {H : Type} : Left H := { results := [], args := [] }

/-- 'rootcauselaw46.AlignPairs': WHATEVER THE INPUT: true; the input reads as it did. -/
def alignPairsSpec : ChangeSpec := { name := "alignPairs", fn := fun _ => fun
  | [d1, d2] => { results := [.lit (.bool true)], args := [d1, d2] }
  | _ => none }
def alignPairsRow : OpenClaim := { program := "ythkkjbigfnimbaa", sum := "bedd5da3ca6e04937c02c1a32094f19a0e671cb94f7b8d96a3677bd66677df70", func := "rootcause/rootcauselaw46.AlignPairs", spec := "alignPairs", unfollowed := true, recurses := true, apart := false }
def AlignPairsSaid : Prop := alignPairsRow.holds Try.pinned (OpenSpec.ofChange alignPairsSpec)

/-- ITS FALSE NEIGHBOUR: 'it returns false'. Refute it at one input. -/
def alignPairsWrong : ChangeSpec := { name := "alignPairs", fn := fun _ => fun
  | [d1, d2] => { results := [.lit (.bool false)], args := [d1, d2] }
  | _ => none }
def AlignPairsWrongFalsely : Prop := alignPairsRow.holds Try.pinned (OpenSpec.ofChange alignPairsWrong)

/-- 'rootcauselaw46.AlignEdits': WHATEVER THE INPUT: true; the input reads as it did. -/
def alignEditsSpec : ChangeSpec := { name := "alignEdits", fn := fun _ => fun
  | [d1, d2] => { results := [.lit (.bool true)], args := [d1, d2] }
  | _ => none }
def alignEditsRow : OpenClaim := { program := "ythkkjbigfnimbaa", sum := "bedd5da3ca6e04937c02c1a32094f19a0e671cb94f7b8d96a3677bd66677df70", func := "rootcause/rootcauselaw46.AlignEdits", spec := "alignEdits", unfollowed := true, recurses := true, apart := false }
def AlignEditsSaid : Prop := alignEditsRow.holds Try.pinned (OpenSpec.ofChange alignEditsSpec)

/-- ITS FALSE NEIGHBOUR: 'it returns false'. Refute it at one input. -/
def alignEditsWrong : ChangeSpec := { name := "alignEdits", fn := fun _ => fun
  | [d1, d2] => { results := [.lit (.bool false)], args := [d1, d2] }
  | _ => none }
def AlignEditsWrongFalsely : Prop := alignEditsRow.holds Try.pinned (OpenSpec.ofChange alignEditsWrong)

/-- 'rootcauselaw46.AlignApplies': WHATEVER THE INPUT: true; the input reads as it did. -/
def alignAppliesSpec : ChangeSpec := { name := "alignApplies", fn := fun _ => fun
  | [d1, d2] => { results := [.lit (.bool true)], args := [d1, d2] }
  | _ => none }
def alignAppliesRow : OpenClaim := { program := "ythkkjbigfnimbaa", sum := "bedd5da3ca6e04937c02c1a32094f19a0e671cb94f7b8d96a3677bd66677df70", func := "rootcause/rootcauselaw46.AlignApplies", spec := "alignApplies", unfollowed := true, recurses := true, apart := false }
def AlignAppliesSaid : Prop := alignAppliesRow.holds Try.pinned (OpenSpec.ofChange alignAppliesSpec)

/-- ITS FALSE NEIGHBOUR: 'it returns false'. Refute it at one input. -/
def alignAppliesWrong : ChangeSpec := { name := "alignApplies", fn := fun _ => fun
  | [d1, d2] => { results := [.lit (.bool false)], args := [d1, d2] }
  | _ => none }
def AlignAppliesWrongFalsely : Prop := alignAppliesRow.holds Try.pinned (OpenSpec.ofChange alignAppliesWrong)

/-- 'rootcauselaw46.AlignRefuses': WHATEVER THE INPUT: true; the input reads as it did. -/
def alignRefusesSpec : ChangeSpec := { name := "alignRefuses", fn := fun _ => fun
  | [d1, d2] => { results := [.lit (.bool true)], args := [d1, d2] }
  | _ => none }
def alignRefusesRow : OpenClaim := { program := "ythkkjbigfnimbaa", sum := "bedd5da3ca6e04937c02c1a32094f19a0e671cb94f7b8d96a3677bd66677df70", func := "rootcause/rootcauselaw46.AlignRefuses", spec := "alignRefuses", unfollowed := true, recurses := true, apart := false }
def AlignRefusesSaid : Prop := alignRefusesRow.holds Try.pinned (OpenSpec.ofChange alignRefusesSpec)

/-- ITS FALSE NEIGHBOUR: 'it returns false'. Refute it at one input. -/
def alignRefusesWrong : ChangeSpec := { name := "alignRefuses", fn := fun _ => fun
  | [d1, d2] => { results := [.lit (.bool false)], args := [d1, d2] }
  | _ => none }
def AlignRefusesWrongFalsely : Prop := alignRefusesRow.holds Try.pinned (OpenSpec.ofChange alignRefusesWrong)

/-- 'rootcauselaw46.AlignDistances': WHATEVER THE INPUT: true; the input reads as it did. -/
def alignDistancesSpec : ChangeSpec := { name := "alignDistances", fn := fun _ => fun
  | [d1, d2, d3] => { results := [.lit (.bool true)], args := [d1, d2, d3] }
  | _ => none }
def alignDistancesRow : OpenClaim := { program := "ythkkjbigfnimbaa", sum := "bedd5da3ca6e04937c02c1a32094f19a0e671cb94f7b8d96a3677bd66677df70", func := "rootcause/rootcauselaw46.AlignDistances", spec := "alignDistances", unfollowed := true, recurses := true, apart := false }
def AlignDistancesSaid : Prop := alignDistancesRow.holds Try.pinned (OpenSpec.ofChange alignDistancesSpec)

/-- ITS FALSE NEIGHBOUR: 'it returns false'. Refute it at one input. -/
def alignDistancesWrong : ChangeSpec := { name := "alignDistances", fn := fun _ => fun
  | [d1, d2, d3] => { results := [.lit (.bool false)], args := [d1, d2, d3] }
  | _ => none }
def AlignDistancesWrongFalsely : Prop := alignDistancesRow.holds Try.pinned (OpenSpec.ofChange alignDistancesWrong)

/-- 'rootcauselaw46.AlignLongest': WHATEVER THE INPUT: true; the input reads as it did. -/
def alignLongestSpec : ChangeSpec := { name := "alignLongest", fn := fun _ => fun
  | [d1, d2, d3] => { results := [.lit (.bool true)], args := [d1, d2, d3] }
  | _ => none }
def alignLongestRow : OpenClaim := { program := "ythkkjbigfnimbaa", sum := "bedd5da3ca6e04937c02c1a32094f19a0e671cb94f7b8d96a3677bd66677df70", func := "rootcause/rootcauselaw46.AlignLongest", spec := "alignLongest", unfollowed := true, recurses := true, apart := false }
def AlignLongestSaid : Prop := alignLongestRow.holds Try.pinned (OpenSpec.ofChange alignLongestSpec)

/-- ITS FALSE NEIGHBOUR: 'it returns false'. Refute it at one input. -/
def alignLongestWrong : ChangeSpec := { name := "alignLongest", fn := fun _ => fun
  | [d1, d2, d3] => { results := [.lit (.bool false)], args := [d1, d2, d3] }
  | _ => none }
def AlignLongestWrongFalsely : Prop := alignLongestRow.holds Try.pinned (OpenSpec.ofChange alignLongestWrong)

/- THE SECOND FORM. 'bulk': how many values and letters a reading holds, each counted each time it is reached (what is shared counts as often as it is met; a slice's spare places count too). A statement '..UptoSaid' is the law's where the arguments, and the package variables that the reading takes, are together of bulk at most 1048576: NARROWER than '..Said'. Prove '..Said' where nothing that the law and all that it calls make is longer than what came in: it says more and counts as full. Else prove '..UptoSaid'. A law counts once. -/
mutual
def uptoBulk {H : Type} : DataW H → Nat
  | .lit (.string bytes) => bytes.length + 1
  | .lit _ => 1
  | .nil => 1
  | .ptr d => uptoBulk d + 1
  | .slice elems spare => uptoBulkAll elems + uptoBulkAll spare + 1
  | .agg parts => uptoBulkAll parts + 1
  | .iface _ d => uptoBulk d + 1
  | .map entries => uptoBulkEntries entries + 1
  | .held _ => 1
def uptoBulkAll {H : Type} : List (DataW H) → Nat
  | [] => 0
  | d :: r => uptoBulk d + uptoBulkAll r
def uptoBulkEntries {H : Type} : List (Lit × DataW H) → Nat
  | [] => 0
  | x :: r => uptoBulkEntry x + uptoBulkEntries r
def uptoBulkEntry {H : Type} : Lit × DataW H → Nat
  | (.string bytes, d) => bytes.length + uptoBulk d + 1
  | (_, d) => uptoBulk d + 1
 end
def uptoSmall : (H : Type) → List (DataW H) → Bool := fun _ ds => decide (uptoBulkAll ds ≤ 1048576)
def OpenSpec.upto (s : _root_.Go.ChangeSpec) : _root_.Go.OpenSpec := { _root_.Go.OpenSpec.ofChange s with cond := some uptoSmall }

/-- 'rootcauselaw46.AlignPairs', WHERE WHAT IT READS IS OF BULK AT MOST 1048576: true; the input reads as it did. -/
def alignPairsUptoRow : OpenClaim := { program := "ythkkjbigfnimbaa", sum := "bedd5da3ca6e04937c02c1a32094f19a0e671cb94f7b8d96a3677bd66677df70", func := "rootcause/rootcauselaw46.AlignPairs", spec := "alignPairs", unfollowed := true, recurses := true, apart := false, narrowed := true }
def AlignPairsUptoSaid : Prop := alignPairsUptoRow.holds Try.pinned (OpenSpec.upto alignPairsSpec)

/-- 'rootcauselaw46.AlignEdits', WHERE WHAT IT READS IS OF BULK AT MOST 1048576: true; the input reads as it did. -/
def alignEditsUptoRow : OpenClaim := { program := "ythkkjbigfnimbaa", sum := "bedd5da3ca6e04937c02c1a32094f19a0e671cb94f7b8d96a3677bd66677df70", func := "rootcause/rootcauselaw46.AlignEdits", spec := "alignEdits", unfollowed := true, recurses := true, apart := false, narrowed := true }
def AlignEditsUptoSaid : Prop := alignEditsUptoRow.holds Try.pinned (OpenSpec.upto alignEditsSpec)

/-- 'rootcauselaw46.AlignApplies', WHERE WHAT IT READS IS OF BULK AT MOST 1048576: true; the input reads as it did. -/
def alignAppliesUptoRow : OpenClaim := { program := "ythkkjbigfnimbaa", sum := "bedd5da3ca6e04937c02c1a32094f19a0e671cb94f7b8d96a3677bd66677df70", func := "rootcause/rootcauselaw46.AlignApplies", spec := "alignApplies", unfollowed := true, recurses := true, apart := false, narrowed := true }
def AlignAppliesUptoSaid : Prop := alignAppliesUptoRow.holds Try.pinned (OpenSpec.upto alignAppliesSpec)

/-- 'rootcauselaw46.AlignRefuses', WHERE WHAT IT READS IS OF BULK AT MOST 1048576: true; the input reads as it did. -/
def alignRefusesUptoRow : OpenClaim := { program := "ythkkjbigfnimbaa", sum := "bedd5da3ca6e04937c02c1a32094f19a0e671cb94f7b8d96a3677bd66677df70", func := "rootcause/rootcauselaw46.AlignRefuses", spec := "alignRefuses", unfollowed := true, recurses := true, apart := false, narrowed := true }
def AlignRefusesUptoSaid : Prop := alignRefusesUptoRow.holds Try.pinned (OpenSpec.upto alignRefusesSpec)

/-- 'rootcauselaw46.AlignDistances', WHERE WHAT IT READS IS OF BULK AT MOST 1048576: true; the input reads as it did. -/
def alignDistancesUptoRow : OpenClaim := { program := "ythkkjbigfnimbaa", sum := "bedd5da3ca6e04937c02c1a32094f19a0e671cb94f7b8d96a3677bd66677df70", func := "rootcause/rootcauselaw46.AlignDistances", spec := "alignDistances", unfollowed := true, recurses := true, apart := false, narrowed := true }
def AlignDistancesUptoSaid : Prop := alignDistancesUptoRow.holds Try.pinned (OpenSpec.upto alignDistancesSpec)

/-- 'rootcauselaw46.AlignLongest', WHERE WHAT IT READS IS OF BULK AT MOST 1048576: true; the input reads as it did. -/
def alignLongestUptoRow : OpenClaim := { program := "ythkkjbigfnimbaa", sum := "bedd5da3ca6e04937c02c1a32094f19a0e671cb94f7b8d96a3677bd66677df70", func := "rootcause/rootcauselaw46.AlignLongest", spec := "alignLongest", unfollowed := true, recurses := true, apart := false, narrowed := true }
def AlignLongestUptoSaid : Prop := alignLongestUptoRow.holds Try.pinned (OpenSpec.upto alignLongestSpec)

end Rows
end Go.Proofs.Ythkkjbigfnimbaa
