/- ContrastLists: the walk of the law. -/
import Derived.Test.YtcnhmjkmlncbhaaGreatDoorKWalk
import Derived.Test.YtcnhmjkmlncbhaaGreatDoorKAwake
namespace Go.Proofs.YtcnhmjkmlncbhaaGreatDoor
open Go.RowKit
theorem Tryz.info27 : (Tryz.prog.info? 27).map (fun i => (i.zero, i.size, i.bytes)) = some (some (.agg #[.int .i64 0, .string ⟨#[]⟩, .string ⟨#[]⟩]), 3, 40) := by kernel_rfl
set_option maxHeartbeats 4000000 in
set_option maxRecDepth 100000 in
theorem lists_walk (a : Option Addr) (n c : Nat) (vs : List FV) (w : World) (hn : n = vs.length) (hm : n * 40 ≤ 140737488355328) (h : AtM w a (fcs vs)) (hL : LaidG w) :
    Calls Tryz.prog 3 #[.slice a n c] w fun e w' => e = .returned (.bool true) ∧ Ext w w' := by
  obtain ⟨i0, hi, hz0, hz1, hz2⟩ := info_parts Tryz.info27
  have HN := Lib.hid hn
  clear hn
  go_enter Tryz.func3, Tryz.ntmps3
  go_wp2_with fail
  refine (awake_walk hL).mono ?_
  rintro e w1 ⟨rfl, hE1⟩
  have h1 := h.ext hE1
  have HE1 : Hid (Ext w w1) := Lib.hid hE1
  have HA := Lib.hid h1
  clear hE1 h hL h1
  go_wp2_with fail
  go_loopw [3, 9] (fun v3 v9 wr => ∃ k, k ≤ n ∧ v9 = .int .i64 (k : Int) ∧ Own w1.heap.size 27 3 w1 wr v3 k (fcs (vs.take k)) ∧ ∀ x ∈ vs.take k, 0 ≤ x.t) (fun _ v9 _ => n - (intOf v9).toNat)
  case atStart => exact ⟨0, by omega, rfl, Own.nil _ _ _ _ (Nat.le_refl _), fun x hx => by simp at hx⟩
  case round =>
    obtain ⟨k, hk, rfl, hown, hpos⟩ := hrel
    by_cases hlt : k < n
    · obtain ⟨v, hv⟩ := some_of_lt (show k < vs.length by rw [← HN.out]; exact hlt)
      obtain ⟨e0, e1, e2⟩ := fcs_get hv
      obtain ⟨b, off, rfl, g0, g1, g2⟩ := HA.out.get3 e0 e1 e2
      have f0 := hown.ext0.cell g0
      have f1 := hown.ext0.cell g1
      have f2 := hown.ext0.cell g2
      have Hv := Lib.hid hv
      have HO := Lib.hid hown
      have HP := Lib.hid hpos
      have HX := Lib.hid (HE1.out.trans hown.ext0)
      clear e0 e1 e2 g0 g1 g2 hv hown hpos
      by_cases ht : v.t < 0
      · go_wp2
        go_ret
        exact ⟨rfl, HX.out⟩
      · have hfit : (k + 1) * 40 ≤ 140737488355328 := by omega
        have HFit := Lib.hid hfit
        have hown := HO.out
        clear hfit
        go_wp2_with (at_builtin; go_must (refine wpList_app1 rfl _ _ 24 rfl _ 27 w1 i0 (.agg #[.int .i64 0, .string ⟨#[]⟩, .string ⟨#[]⟩]) 3 40 Tryz.underlying24 hi hz0 hz1 hz2 rfl (by decide) _ k _ rfl hown _ (fc v) rfl rfl rfl (oneCell_fc v) HFit.out (by decide) ?_); intro v' w' hown' _; clear hown)
        refine ⟨⟨k + 1, by omega, rfl, by rw [take_snoc Hv.out, fcs_snoc]; exact hown', fun x hx => ?_⟩, by simp [intOf]; omega⟩
        rw [take_snoc Hv.out] at hx
        rcases List.mem_append.1 hx with hx | hx
        · exact HP.out x hx
        · obtain rfl := List.mem_singleton.1 hx
          omega
    · obtain rfl : k = n := by omega
      have hfin : vs.take k = vs := List.take_of_length_le (by rw [← HN.out]; omega)
      rw [hfin] at hown hpos
      obtain ⟨am, cm, rfl, hat⟩ := hown.atM
      have hX := HE1.out.trans hown.ext0
      have HA2 := Lib.hid (HA.out.ext hown.ext0)
      have HAt := Lib.hid hat
      have HP := Lib.hid hpos
      have HX := Lib.hid hX
      clear hfin hown hpos hat hX HA HE1
      go_wp2_with fail
      refine (cfirst a k c vs wr HN.out (by omega) HA2.out).mono ?_
      rintro e w2 ⟨rfl, hE2⟩
      have HE2 := Lib.hid hE2
      clear hE2
      go_wp2_with fail
      refine (rfirst am k cm vs w2 HN.out (by omega) (HAt.out.ext HE2.out) HP.out).mono ?_
      rintro e w3 ⟨rfl, hE3⟩
      have HE3 := Lib.hid hE3
      clear hE3
      go_wp2
      go_ret
      exact ⟨ret_bool (by simp), (HX.out.trans HE2.out).trans HE3.out⟩
#print axioms lists_walk
end Go.Proofs.YtcnhmjkmlncbhaaGreatDoor
