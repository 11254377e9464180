/- ContrastLists: the walks of contrast.First and of the reference's First. -/
import Derived.Test.YtcnhmjkmlncbhaaGreatDoorChecked
import Derived.Test.YtcnhmjkmlncbhaaGreatDoorKMem
namespace Go.Proofs.YtcnhmjkmlncbhaaGreatDoor
open Go.RowKit
theorem cell3_alloc (W : World) (b : Nat) (hb : b = W.heap.size) (x0 x1 x2 : Value) (e : TypeId) : (W.alloc (.cells #[x0, x1, x2] e)).cell? ⟨b, 0, none⟩ = some x0 := by
  rw [World.cell?_alloc_at _ _ _ _ hb]; rfl
theorem getD_of {ts : List FV} {k : Nat} {v : FV} (h : ts[k]? = some v) : (ts.map FV.t).getD k 0 = v.t := by
  rw [List.getD_eq_getElem?_getD, List.getElem?_map, h]; rfl
set_option maxHeartbeats 1000000 in
theorem cfirst (a : Option Addr) (n c : Nat) (vs : List FV) (w : World) (hn : n = vs.length) (hm : n ≤ 9223372036854775807) (h : AtM w a (fcs vs)) :
    Calls Tryz.prog 5 #[.slice a n c] w fun e w' => e = .returned (.int .i64 (F (vs.map FV.t) n)) ∧ Ext w w' := by
  have HN := Lib.hid hn
  clear hn
  go_enter Tryz.func5, Tryz.ntmps5
  go_wp2_with fail
  go_loopw [3, 8] (fun v3 v8 wr => ∃ k, k ≤ n ∧ v8 = .int .i64 (k : Int) ∧ v3 = .int .i64 (F (vs.map FV.t) k) ∧ Ext w wr) (fun _ v8 _ => n - (intOf v8).toNat)
  case atStart => exact ⟨0, by omega, rfl, rfl, Ext.refl _⟩
  case round =>
    obtain ⟨k, hk, rfl, rfl, hex⟩ := hrel
    by_cases hlt : k < n
    · obtain ⟨v, hv⟩ := some_of_lt (show k < vs.length by rw [← HN.out]; exact hlt)
      obtain ⟨e0, e1, e2⟩ := fcs_get hv
      obtain ⟨b, off, rfl, g0, g1, g2⟩ := h.get3 e0 e1 e2
      have f0 := hex.cell g0
      have f1 := hex.cell g1
      have f2 := hex.cell g2
      have hF : F (vs.map FV.t) (k + 1) = if k = 0 ∨ v.t < F (vs.map FV.t) k then v.t else F (vs.map FV.t) k := by
        show (if _ then _ else _) = _
        rw [getD_of hv]
      have Hv := Lib.hid hv
      have HF := Lib.hid hF
      have HE := Lib.hid hex
      have HX : ∀ o, Hid (Ext w (wr.alloc o)) := fun o => Lib.hid (Below.alloc hex hex.size o)
      clear e0 e1 e2 g0 g1 g2 hv h hF hex
      go_wp2
      · rename_i h0
        refine ⟨⟨k + 1, by omega, by subst h0; rfl, by rw [HF.out, if_pos (.inl h0)], (HX _).out⟩, ?_⟩
        subst h0; simp [intOf]; omega
      · rename_i h0 h1
        refine ⟨⟨k + 1, by omega, rfl, by rw [HF.out, if_pos (.inr (h1.resolve_left (by simp; omega)))], (HX _).out⟩, ?_⟩
        simp [intOf]; omega
      · rename_i h0 h1
        refine ⟨⟨k + 1, by omega, rfl, by rw [HF.out, if_neg (by omega)], (HX _).out⟩, ?_⟩
        simp [intOf]; omega
    · obtain rfl : k = n := by omega
      have HE := Lib.hid hex
      clear hex
      go_wp2
      go_ret
      exact ⟨rfl, HE.out⟩
set_option maxHeartbeats 1000000 in
theorem rfirst (a : Option Addr) (n c : Nat) (vs : List FV) (w : World) (hn : n = vs.length) (hm : n ≤ 9223372036854775807) (h : AtM w a (fcs vs)) (hp : ∀ x ∈ vs, 0 ≤ x.t) :
    Calls Tryz.prog 6 #[.slice a n c] w fun e w' => e = .returned (.int .i64 (F (vs.map FV.t) n)) ∧ Ext w w' := by
  have HN := Lib.hid hn
  have HP := Lib.hid hp
  clear hn
  go_enter Tryz.func6, Tryz.ntmps6
  go_wp2_with fail
  go_loopw [3, 8] (fun v3 v8 wr => ∃ k, k ≤ n ∧ v8 = .int .i64 (k : Int) ∧ v3 = .int .i64 (F (vs.map FV.t) k) ∧ Ext w wr) (fun _ v8 _ => n - (intOf v8).toNat)
  case atStart => exact ⟨0, by omega, rfl, rfl, Ext.refl _⟩
  case round =>
    obtain ⟨k, hk, rfl, rfl, hex⟩ := hrel
    by_cases hlt : k < n
    · obtain ⟨v, hv⟩ := some_of_lt (show k < vs.length by rw [← HN.out]; exact hlt)
      obtain ⟨e0, e1, e2⟩ := fcs_get hv
      obtain ⟨b, off, rfl, g0, g1, g2⟩ := h.get3 e0 e1 e2
      have f0 := hex.cell g0
      have f1 := hex.cell g1
      have f2 := hex.cell g2
      have hF : F (vs.map FV.t) (k + 1) = if k = 0 ∨ v.t < F (vs.map FV.t) k then v.t else F (vs.map FV.t) k := by
        show (if _ then _ else _) = _
        rw [getD_of hv]
      have Hv := Lib.hid hv
      have HF := Lib.hid hF
      have HE := Lib.hid hex
      have HX : ∀ o, Hid (Ext w (wr.alloc o)) := fun o => Lib.hid (Below.alloc hex hex.size o)
      have hF0 : k = 0 → F (vs.map FV.t) k < 0 := fun e => by subst e; show (-1 : Int) < 0; decide
      have hF1 : ¬ k = 0 → 0 ≤ F (vs.map FV.t) k := by
        intro e
        refine F_nonneg (fun t ht => ?_) k (by omega) ?_
        · obtain ⟨x, hx, rfl⟩ := List.mem_map.1 ht; exact HP.out x hx
        · have := HN.out; rw [List.length_map]; omega
      have H0 := Lib.hid hF0
      have H1 := Lib.hid hF1
      clear hF0 hF1
      clear e0 e1 e2 g0 g1 g2 hv h hF hex
      go_wp2
      · rename_i h0 h1
        by_cases hz : k = 0
        · have := H0.out hz; omega
        · have h2 : v.t < F (vs.map FV.t) k := h1.resolve_left (by omega)
          refine ⟨⟨k + 1, by omega, rfl, by rw [HF.out, if_pos (.inr h2)], (HX _).out⟩, ?_⟩
          simp [intOf]; omega
      · rename_i h0 h1
        by_cases hz : k = 0
        · have := H0.out hz; omega
        · refine ⟨⟨k + 1, by omega, rfl, by rw [HF.out, if_neg (by omega)], (HX _).out⟩, ?_⟩
          simp [intOf]; omega
      · rename_i h0
        by_cases hz : k = 0
        · refine ⟨⟨k + 1, by omega, rfl, by rw [HF.out, if_pos (.inl hz)], (HX _).out⟩, ?_⟩
          simp [intOf]; omega
        · exact absurd (H1.out hz) h0
    · obtain rfl : k = n := by omega
      have HE := Lib.hid hex
      clear hex
      go_wp2
      go_ret
      exact ⟨rfl, HE.out⟩
end Go.Proofs.YtcnhmjkmlncbhaaGreatDoor
