/- Walks: texts, its answer in new memory. -/
import Derived.Test.YthkkjbigfnimbaaW3
namespace Go.Proofs.Ythkkjbigfnimbaa
open Go.RowKit

set_option maxHeartbeats 1000000 in
theorem texts_fresh (a : Option Addr) (n c : Nat) (zs : List Int) (w : World) (hn : n = zs.length) (hc : At w a c (zs.map (Value.int .u8))) (hr : ∀ z ∈ zs, 0 ≤ z ∧ z ≤ 255) (hm : n ≤ 9223372036854775807) :
    Calls Try.prog 10 #[.slice a n c] w fun e w' =>
      ∃ a' c', e = .returned (.slice a' (chrs zs).length c') ∧ At w' a' c' (strs (chrs zs)) ∧ Ext w w' ∧ ∀ g, a' = some g → w.heap.size ≤ g.block ∧ g.block < w'.heap.size := by
  obtain ⟨i0, hi, hz0, hz1, hz2⟩ := info_parts Try.info9
  have HN := Lib.hid hn
  have HR := Lib.hid hr
  clear hn hr
  go_enter Try.func10, Try.ntmps10
  go_wp2
  go_loopw [3, 4] (fun v i wr => ∃ k : Nat, k ≤ n ∧ k ≤ 24 ∧ i = .int .i64 k ∧ Own w.heap.size 9 1 w wr v k (strs ((zs.take k).map chr))) (fun _ i _ => n - (intOf i).toNat)
  case atStart => exact ⟨0, by omega, by omega, rfl, Own.nil _ _ _ _ (Nat.le_refl _)⟩
  case round =>
    obtain ⟨k, hk, hk', rfl, hown⟩ := hrel
    by_cases hlt : k < n ∧ k < 24
    · obtain ⟨hlt, hlt'⟩ := hlt
      obtain ⟨z, hz⟩ := some_of_lt (show k < zs.length by rw [← HN.out]; exact hlt)
      obtain ⟨b, off, rfl, hcell⟩ := hc.get (k := k) (x := .int .u8 z) (by simp [hz])
      have hcw : wr.cell? ⟨b, off + k, none⟩ = some (.int .u8 z) := hown.ext0.cell hcell
      have hb : b < wr.heap.size := World.block_lt_of_cell? wr _ hcw
      have hcx : ∀ o, (wr.alloc o).cell? ⟨b, off + k, none⟩ = some (.int .u8 z) := fun o => by rw [World.cell?_alloc_past _ _ _ hb]; exact hcw
      obtain ⟨hz0', hz1'⟩ := HR.out z (List.mem_of_getElem? hz)
      have hsn := Lib.hid (fun s hs => chrs_snoc hz s hs)
      clear hz hcell hcw hc HR HN
      have h4 : z % 4 = 0 ∨ z % 4 = 1 ∨ z % 4 = 2 ∨ z % 4 = 3 := by omega
      have hd : decide ((k : Int) < 24) = true := by simp; omega
      rcases h4 with h4 | h4 | h4 | h4
      all_goals
        go_wp2_with (at_builtin; go_must (refine wpList_app1 rfl _ _ 24 rfl _ 9 w i0 (.string ⟨#[]⟩) 1 16 Try.underlying24 hi hz0 hz1 hz2 rfl (by decide) _ k _ rfl (hown.alloc _) _ _ rfl (by simp) rfl (oneCell_one _ rfl) (by omega) (by decide) ?_); intro v' w' hown' _; clear hown hcx)
        rw [← hsn.out _ (by simp [chr, h4])] at hown'
        go_roundw
        case rel => exact ⟨k + 1, by omega, by omega, by go_num, hown'⟩
        case measure => simp [intOf]; omega
    · have hfin : (zs.take k).map chr = chrs zs := by
        have := HN.out
        unfold chrs
        by_cases h24 : k = 24
        · rw [h24]
        · rw [List.take_of_length_le (by omega), List.take_of_length_le (by omega)]
      have HF := Lib.hid hfin
      obtain ⟨a', c', hv, hat⟩ := hown.at
      have hk2 : k = (chrs zs).length := by rw [← hfin, List.length_map, List.length_take]; have := HN.out; omega
      have HK := Lib.hid hk2
      have HA := Lib.hid hat
      have HX := Lib.hid hown.ext0
      have HG := Lib.hid (ownsRow_fresh hown.own a' k c' hv)
      clear hfin hk2 hown hc HR hat
      subst hv
      have hfin' : ∀ e, e = Ending.returned (.slice a' k c') → ∃ a' c', e = Ending.returned (.slice a' (chrs zs).length c') ∧ At wr a' c' (strs (chrs zs)) ∧ Ext w wr ∧ ∀ g, a' = some g → w.heap.size ≤ g.block ∧ g.block < wr.heap.size := by
        intro e he
        exact ⟨a', c', by rw [he, ← HK.out], by rw [← HF.out]; exact HA.out, HX.out, HG.out⟩
      have HFin := Lib.hid hfin'
      clear hfin'
      by_cases h1 : k < n
      · have h2 : decide ((k : Int) < 24) = false := by simp; omega
        go_wp2
        go_ret
        exact HFin.out _ rfl
      · go_wp2
        go_ret
        exact HFin.out _ rfl
end Go.Proofs.Ythkkjbigfnimbaa
