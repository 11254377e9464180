/- DependNil: Less -/
import Derived.Test.YtanilhkjfdagpaaGreatDoorKOr
import Derived.Deep.RegionHeld3
namespace Go.Proofs.YtanilhkjfdagpaaGreatDoor
open Go.RowKit
/-- a node -/
abbrev nd (a0 a1 a2 : Int) : Value := .agg #[.int .u8 a0, .int .i64 a1, .int .i64 a2]
set_option maxHeartbeats 1000000 in
set_option maxRecDepth 100000 in
theorem compare26 (a0 a1 a2 b0 b1 b2 : Int) (w : World) : Calls Tryz.prog 26 #[nd a0 a1 a2, nd b0 b1 b2] w fun e w' => e = .returned (.int .i64 (orI (cmpI a0 b0) (cmpI a1 b1) (cmpI a2 b2))) ∧ Below w.heap.size w w' := by
  have H0 := Lib.hid (cmp43 a0 b0)
  have H1 := Lib.hid (cmp44 a1 b1)
  have H2 := Lib.hid (cmp44 a2 b2)
  generalize cmpI a0 b0 = c0 at *
  generalize cmpI a1 b1 = c1 at *
  generalize cmpI a2 b2 = c2 at *
  go_enter Tryz.func26, Tryz.ntmps26
  go_wp2_with fail
  have q0 : ((w.alloc (.cells #[.int .u8 a0, .int .i64 a1, .int .i64 a2] 24)).alloc (.cells #[.int .u8 b0, .int .i64 b1, .int .i64 b2] 24)).cell? ⟨w.heap.size, 0, none⟩ = some (.int .u8 a0) := by go_simp
  have q1 : ((w.alloc (.cells #[.int .u8 a0, .int .i64 a1, .int .i64 a2] 24)).alloc (.cells #[.int .u8 b0, .int .i64 b1, .int .i64 b2] 24)).cell? ⟨w.heap.size, 1, none⟩ = some (.int .i64 a1) := by go_simp
  have q2 : ((w.alloc (.cells #[.int .u8 a0, .int .i64 a1, .int .i64 a2] 24)).alloc (.cells #[.int .u8 b0, .int .i64 b1, .int .i64 b2] 24)).cell? ⟨w.heap.size, 2, none⟩ = some (.int .i64 a2) := by go_simp
  have q3 : ((w.alloc (.cells #[.int .u8 a0, .int .i64 a1, .int .i64 a2] 24)).alloc (.cells #[.int .u8 b0, .int .i64 b1, .int .i64 b2] 24)).cell? ⟨w.heap.size + 1, 0, none⟩ = some (.int .u8 b0) := by go_simp
  have q4 : ((w.alloc (.cells #[.int .u8 a0, .int .i64 a1, .int .i64 a2] 24)).alloc (.cells #[.int .u8 b0, .int .i64 b1, .int .i64 b2] 24)).cell? ⟨w.heap.size + 1, 1, none⟩ = some (.int .i64 b1) := by go_simp
  have q5 : ((w.alloc (.cells #[.int .u8 a0, .int .i64 a1, .int .i64 a2] 24)).alloc (.cells #[.int .u8 b0, .int .i64 b1, .int .i64 b2] 24)).cell? ⟨w.heap.size + 1, 2, none⟩ = some (.int .i64 b2) := by go_simp
  have qb : Below w.heap.size w ((w.alloc (.cells #[.int .u8 a0, .int .i64 a1, .int .i64 a2] 24)).alloc (.cells #[.int .u8 b0, .int .i64 b1, .int .i64 b2] 24)) := ((Below.refl _ w).alloc (Nat.le_refl _) _).alloc (by simp) _
  have qs : ((w.alloc (.cells #[.int .u8 a0, .int .i64 a1, .int .i64 a2] 24)).alloc (.cells #[.int .u8 b0, .int .i64 b1, .int .i64 b2] 24)).heap.size = w.heap.size + 1 + 1 := by simp
  generalize ((w.alloc (.cells #[.int .u8 a0, .int .i64 a1, .int .i64 a2] 24)).alloc (.cells #[.int .u8 b0, .int .i64 b1, .int .i64 b2] 24)) = W at *
  go_region_held3 (fun w' => w'.cell? ⟨w.heap.size, 0, none⟩ = some (.int .u8 a0) ∧ w'.cell? ⟨w.heap.size, 1, none⟩ = some (.int .i64 a1) ∧ w'.cell? ⟨w.heap.size, 2, none⟩ = some (.int .i64 a2) ∧ w'.cell? ⟨w.heap.size + 1, 0, none⟩ = some (.int .u8 b0) ∧ w'.cell? ⟨w.heap.size + 1, 1, none⟩ = some (.int .i64 b1) ∧ w'.cell? ⟨w.heap.size + 1, 2, none⟩ = some (.int .i64 b2))
    (first | go_keep)
    (first
      | (go_at_call 43; refine (H0.out _).mono ?_; rintro e w3 ⟨rfl, rfl⟩)
      | (go_at_call_of 44 (Value.int .i64 a1); refine (H1.out _).mono ?_; rintro e w3 ⟨rfl, rfl⟩)
      | (go_at_call_of 44 (Value.int .i64 a2); refine (H2.out _).mono ?_; rintro e w3 ⟨rfl, rfl⟩)
      | (go_at_call 42; refine (or42 c0 c1 c2 _ _ (by go_simp) (by go_simp) (by go_simp)).mono ?_; rintro e w3 ⟨rfl, rfl⟩))
  go_wp2_with fail
  go_ret
  exact ⟨rfl, (qb.alloc (by omega) _).drew⟩
def lt3 (a0 a1 a2 b0 b1 b2 : Int) : Bool := decide (orI (cmpI a0 b0) (cmpI a1 b1) (cmpI a2 b2) < 0)
set_option maxHeartbeats 1000000 in
set_option maxRecDepth 100000 in
theorem less11 (a0 a1 a2 b0 b1 b2 : Int) (w : World) : Calls Tryz.prog 11 #[nd a0 a1 a2, nd b0 b1 b2] w fun e w' => e = .returned (.bool (lt3 a0 a1 a2 b0 b1 b2)) ∧ Below w.heap.size w w' := by
  have H0 := Lib.hid (compare26 a0 a1 a2 b0 b1 b2)
  unfold lt3
  generalize orI (cmpI a0 b0) (cmpI a1 b1) (cmpI a2 b2) = c at *
  go_enter Tryz.func11, Tryz.ntmps11
  go_wp2_with fail
  refine (H0.out _).mono ?_
  rintro e w3 ⟨rfl, hb⟩
  go_wp2_with fail
  go_ret
  exact ⟨rfl, (((Below.refl _ w).alloc (Nat.le_refl _) _).alloc (by simp) _).trans (hb.mono (by simp; omega))⟩
theorem lt3_self (a0 a1 a2 : Int) : lt3 a0 a1 a2 a0 a1 a2 = false := by
  unfold lt3 orI cmpI
  simp
theorem lt3_ne (a0 a1 a2 b0 b1 b2 : Int) (h : ¬ (a0 = b0 ∧ a1 = b1 ∧ a2 = b2)) : lt3 b0 b1 b2 a0 a1 a2 = !lt3 a0 a1 a2 b0 b1 b2 := by
  unfold lt3 orI cmpI
  by_cases h0 : a0 < b0
  · simp [h0, show ¬ b0 < a0 by omega]
  · by_cases h0' : b0 < a0
    · simp [h0, h0']
    · by_cases h1 : a1 < b1
      · simp [h0, h0', h1, show ¬ b1 < a1 by omega]
      · by_cases h1' : b1 < a1
        · simp [h0, h0', h1, h1']
        · by_cases h2 : a2 < b2
          · simp [h0, h0', h1, h1', h2, show ¬ b2 < a2 by omega]
          · by_cases h2' : b2 < a2
            · simp [h0, h0', h1, h1', h2, h2']
            · exact absurd ⟨by omega, by omega, by omega⟩ h
end Go.Proofs.YtanilhkjfdagpaaGreatDoor
