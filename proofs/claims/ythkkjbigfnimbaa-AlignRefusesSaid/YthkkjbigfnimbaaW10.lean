/- Walks: Distance, told. -/
import Derived.Test.YthkkjbigfnimbaaW7
import Derived.Test.YthkkjbigfnimbaaEdM
namespace Go.Proofs.Ythkkjbigfnimbaa
open Go.RowKit
theorem Try.info67 : (Try.prog.info? 67).map (fun i => (i.zero, i.size, i.bytes)) = some (some (.agg #[.int .i64 0, .int .i64 0, .slice none 0 0, .slice none 0 0]), 4, 64) := by kernel_rfl

set_option maxHeartbeats 400000 in
theorem dist_any (a1 a2 : Option Addr) (n1 c1 n2 c2 : Nat) (l1 l2 : List ByteArray) (w : World) (hn1 : n1 = l1.length) (hn2 : n2 = l2.length) (h1 : At w a1 c1 (strs l1)) (h2 : At w a2 c2 (strs l2))
    (hm1 : n1 ≤ 24) (hm2 : n2 ≤ 24) (hs1 : ∀ s ∈ l1, s.size ≤ 9223372036854775807) (hs2 : ∀ s ∈ l2, s.size ≤ 9223372036854775807) :
    Calls Try.prog 13 #[.slice a1 n1 c1, .slice a2 n2 c2] w fun e w' => e = .returned (.int .i64 ((n1 : Int) + n2 - 2 * (lcs l1 l2 : Nat))) ∧ Ext w w' := by
  have hL := lcs_le_left l1 l2
  have hA := align_any a1 a2 n1 c1 n2 c2 l1 l2 w hn1 hn2 h1 h2 hm1 hm2 hs1 hs2
  rw [al_length] at hA
  have HA := Lib.hid hA
  have hL24 : lcs l1 l2 ≤ 24 := by omega
  clear hA hn1 hn2 hs1 hs2 h1 h2 hL
  generalize lcs l1 l2 = L at *
  go_enter Try.func13, Try.ntmps13
  go_wp2_with fail
  refine HA.out.mono ?_
  rintro e w' ⟨v, rfl, hown⟩
  obtain ⟨a, c, rfl, _⟩ := hown.atM
  have HX := Lib.hid hown.ext0
  clear hown
  go_wp2
  go_ret
  exact ⟨rfl, HX.out⟩

set_option maxHeartbeats 1000000 in
theorem told_any (a : Option Addr) (n c : Nat) (vs : List EV) (w : World) (hn : n = vs.length) (h : AtM w a (edcs vs)) (hm : n < 1099511627776) :
    Calls Try.prog 15 #[.slice a n c] w fun e w' => ∃ v', e = .returned v' ∧ Own w.heap.size 67 4 w w' v' n (edcs vs) := by
  obtain ⟨i0, hi, hz0, hz1, hz2⟩ := info_parts Try.info67
  have HN := Lib.hid hn
  clear hn
  go_enter Try.func15, Try.ntmps15
  go_wp2_with fail
  go_loopw [3, 8] (fun v3 v8 wr => ∃ k, k ≤ n ∧ v8 = .int .i64 (k : Int) ∧ Own w.heap.size 67 4 w wr v3 k (edcs (vs.take k))) (fun _ v8 _ => n - (intOf v8).toNat)
  case atStart => exact ⟨0, by omega, rfl, Own.nil _ _ _ _ (Nat.le_refl _)⟩
  case round =>
    obtain ⟨k, hk, rfl, hown⟩ := hrel
    by_cases hlt : k < n
    · obtain ⟨v, hv⟩ := some_of_lt (show k < vs.length by rw [← HN.out]; exact hlt)
      obtain ⟨e0, e1, e2, e3⟩ := edcs_get hv
      obtain ⟨b, off, rfl, g0, g1, g2, g3⟩ := h.get4 e0 e1 e2 e3
      have f0 := hown.ext0.cell g0
      have f1 := hown.ext0.cell g1
      have f2 := hown.ext0.cell g2
      have f3 := hown.ext0.cell g3
      have Hv := Lib.hid hv
      have HOw := Lib.hid hown
      clear e0 e1 e2 e3 g0 g1 g2 g3 hv h hown
      have hown := HOw.out.alloc (.cells (edc v).toArray 49)
      go_wp2_with (at_builtin; go_must (refine wpList_app1 rfl _ _ 36 rfl _ 67 w i0 (.agg #[.int .i64 0, .int .i64 0, .slice none 0 0, .slice none 0 0]) 4 64 Try.underlying36 hi hz0 hz1 hz2 rfl (by decide) _ k _ rfl hown _ _ rfl (by simp) rfl (oneCell_four _ _ _ _ rfl rfl rfl rfl) (by omega) (by decide) ?_); intro v' w' hown' _; clear hown)
      go_roundw
      case rel => exact ⟨k + 1, by omega, by go_num, by rw [take_snoc Hv.out, edcs_snoc]; exact hown'⟩
      case measure => simp [intOf]; omega
    · obtain rfl : k = n := by omega
      have hfin : vs.take k = vs := List.take_of_length_le (by rw [← HN.out]; omega)
      have HF := Lib.hid hfin
      have HOw := Lib.hid hown
      clear hfin hown
      go_wp2
      go_ret
      exact ⟨_, rfl, by have := HOw.out; rw [HF.out] at this; exact this⟩
end Go.Proofs.Ythkkjbigfnimbaa
