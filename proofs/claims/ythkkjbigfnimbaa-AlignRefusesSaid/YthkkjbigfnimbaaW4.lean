/- Walks: slices.Clone at strings. -/
import Derived.Test.YthkkjbigfnimbaaW3
namespace Go.Proofs.Ythkkjbigfnimbaa
open Go.RowKit

set_option maxHeartbeats 400000 in
theorem clone_any (a : Option Addr) (n c : Nat) (l : List ByteArray) (w : World) (hn : n = l.length) (hc : At w a c (strs l)) (hm : n < 1099511627776) :
    Calls Try.prog 26 #[.slice a n c] w fun e w' => ∃ a' c', e = .returned (.slice a' n c') ∧ At w' a' c' (strs l) ∧ Ext w w' ∧ ∀ g, a' = some g → w.heap.size ≤ g.block ∧ g.block < w'.heap.size := by
  obtain ⟨i0, hi, hz0, hz1, hz2⟩ := info_parts Try.info9
  have he := fun (w : World) (a : Option Addr) (n c : Nat) => Lib.run_eql_slice_nil (P := Try.prog) w 24 9 a n c 0 0 Try.underlying24
  have HN := Lib.hid hn
  clear hn
  cases a with
  | none =>
    obtain ⟨hl, rfl⟩ := hc.none_nil
    have hl' : l = [] := by simpa [strs] using hl
    subst hl'
    obtain rfl : n = 0 := HN.out
    go_enter Try.func26, Try.ntmps26
    go_wp2
    go_ret
    exact ⟨none, 0, rfl, At.nil _, Ext.refl _, fun g h => by cases h⟩
  | some ad =>
    go_enter Try.func26, Try.ntmps26
    go_wp2_with (at_builtin; go_must (refine wpList_appN rfl _ _ 24 rfl w.heap.size 9 w i0 (.string ⟨#[]⟩) 16 Try.underlying24 hi hz0 hz1 hz2 rfl _ 0 _ rfl (Own.made0 w w _ _ (Nat.le_refl _) (Below.refl _ _)) (some ad) n c _ rfl (by rw [strs_length]; exact HN.out) (hc.ext ?_) (oneCell_strs _) (by omega) (by decide) ?_))
    · exact (Below.refl _ _).alloc (Nat.le_refl _) _
    · intro v' w' hown' _
      obtain ⟨a', c', hv, hat⟩ := hown'.at
      have HA := Lib.hid hat
      have HX := Lib.hid hown'.ext0
      have HFr := Lib.hid (ownsRow_fresh hown'.own a' n c' hv)
      clear hown' hat
      subst hv
      go_wp2
      go_ret
      exact ⟨a', c', rfl, HA.out, HX.out, HFr.out⟩
end Go.Proofs.Ythkkjbigfnimbaa
