/- Walks: math/bits.OnesCount64 below 2^24; row.from. -/
import Derived.Test.YthkkjbigfnimbaaRows
import Derived.Test.YthkkjbigfnimbaaPop
namespace Go.Proofs.Ythkkjbigfnimbaa
open Go.RowKit

theorem wraps_u64 (n : Int) (h₀ : 0 ≤ n) (h₁ : n < 2 ^ 64) : IntKind.u64.wrap n = n := by rw [IntKind.wrap_u64]; omega
theorem and_u64 (a b : Nat) (ha : a < 2 ^ 64) (hb : b < 2 ^ 64) : bits .and .u64 (a : Int) (b : Int) = ((a &&& b : Nat) : Int) := (bits_nat .u64 64 (by decide) wraps_u64 a b ha hb).1
theorem or_u64 (a b : Nat) (ha : a < 2 ^ 64) (hb : b < 2 ^ 64) : bits .or .u64 (a : Int) (b : Int) = ((a ||| b : Nat) : Int) := (bits_nat .u64 64 (by decide) wraps_u64 a b ha hb).2
theorem shl_u64 (j : Nat) (h : j < 64) : IntKind.u64.wrap (2 ^ j) = ((2 ^ j : Nat) : Int) := by
  have h1 : 2 ^ j < 2 ^ 64 := Nat.pow_lt_pow_right (by decide) h
  rw [show ((2 : Int) ^ j) = ((2 ^ j : Nat) : Int) by simp]
  generalize 2 ^ j = p at *
  exact wraps_u64 _ (by omega) (by omega)
theorem and_i64_127 (a : Nat) (ha : a < 2 ^ 63) : bits .and .i64 (a : Int) 127 = ((a % 128 : Nat) : Int) := by
  have h := (bits_nat .i64 63 (by decide) (fun n h0 h1 => by rw [IntKind.wrap_i64]; omega) a 127 ha (by decide)).1
  rw [show ((127 : Int)) = ((127 : Nat) : Int) from rfl, h, show (127 : Nat) = 2 ^ 7 - 1 from rfl, Nat.and_two_pow_sub_one_eq_mod]

theorem ones_facts (x : Nat) (h : x < 16777216) : ∃ p1 q1 x1 p2 q2 x2 s3 x3 x4 x5 : Nat,
    bits .and .u64 ((x : Int) / 2) 6148914691236517205 = p1 ∧ bits .and .u64 (x : Int) 6148914691236517205 = q1 ∧ (p1 : Int) + q1 = x1 ∧ p1 < 16777216 ∧ q1 < 16777216 ∧
    bits .and .u64 ((x1 : Int) / 4) 3689348814741910323 = p2 ∧ bits .and .u64 (x1 : Int) 3689348814741910323 = q2 ∧ (p2 : Int) + q2 = x2 ∧ x1 < 16777216 ∧ p2 < 16777216 ∧ q2 < 16777216 ∧ x2 < 16777216 ∧
    (x2 : Int) / 16 + x2 = s3 ∧ s3 < 33554432 ∧ bits .and .u64 (s3 : Int) 1085102592571150095 = x3 ∧ x3 < 16777216 ∧ (x3 : Int) + x3 / 256 = x4 ∧ x4 < 33554432 ∧ (x4 : Int) + x4 / 65536 = x5 ∧ x5 < 67108864 ∧
    bits .and .i64 (x5 : Int) 127 = (pcN 24 x : Int) := by
  have F := ones_formula x h
  simp only at F
  obtain ⟨p1, hp1⟩ : ∃ p1, p1 = x / 2 &&& m0 := ⟨_, rfl⟩
  obtain ⟨q1, hq1⟩ : ∃ q1, q1 = x &&& m0 := ⟨_, rfl⟩
  obtain ⟨x1, hx1⟩ : ∃ x1, x1 = p1 + q1 := ⟨_, rfl⟩
  rw [← hp1, ← hq1, ← hx1] at F
  obtain ⟨p2, hp2⟩ : ∃ p2, p2 = x1 / 4 &&& m1 := ⟨_, rfl⟩
  obtain ⟨q2, hq2⟩ : ∃ q2, q2 = x1 &&& m1 := ⟨_, rfl⟩
  obtain ⟨x2, hx2⟩ : ∃ x2, x2 = p2 + q2 := ⟨_, rfl⟩
  rw [← hp2, ← hq2, ← hx2] at F
  obtain ⟨s3, hs3⟩ : ∃ s3, s3 = x2 / 16 + x2 := ⟨_, rfl⟩
  obtain ⟨x3, hx3⟩ : ∃ x3, x3 = s3 &&& m2 := ⟨_, rfl⟩
  rw [← hs3, ← hx3] at F
  obtain ⟨x4, hx4⟩ : ∃ x4, x4 = x3 + x3 / 256 := ⟨_, rfl⟩
  rw [← hx4] at F
  obtain ⟨x5, hx5⟩ : ∃ x5, x5 = x4 + x4 / 65536 := ⟨_, rfl⟩
  rw [← hx5] at F
  obtain ⟨h1, h2, h3, h4⟩ := F
  have hp1' : p1 < 16777216 := by rw [hp1]; exact Nat.lt_of_le_of_lt Nat.and_le_left (by omega)
  have hq1' : q1 < 16777216 := by rw [hq1]; exact Nat.lt_of_le_of_lt Nat.and_le_left (by omega)
  have hp2' : p2 < 16777216 := by rw [hp2]; exact Nat.lt_of_le_of_lt Nat.and_le_left (by omega)
  have hq2' : q2 < 16777216 := by rw [hq2]; exact Nat.lt_of_le_of_lt Nat.and_le_left (by omega)
  refine ⟨p1, q1, x1, p2, q2, x2, s3, x3, x4, x5, ?_, ?_, by omega, hp1', hq1', ?_, ?_, by omega, h1, hp2', hq2', h2, by omega, by omega, ?_, h3, by omega, by omega, by omega, by omega, ?_⟩
  · rw [hp1]; exact and_u64 (x / 2) m0 (by omega) (by decide)
  · rw [hq1]; exact and_u64 x m0 (by omega) (by decide)
  · rw [hp2]; exact and_u64 (x1 / 4) m1 (by omega) (by decide)
  · rw [hq2]; exact and_u64 x1 m1 (by omega) (by decide)
  · rw [hx3]; exact and_u64 s3 m2 (by omega) (by decide)
  · rw [← h4]; exact and_i64_127 _ (by omega)

set_option maxHeartbeats 400000 in
theorem ones_any (x : Nat) (w : World) (h : x < 16777216) :
    Calls Try.prog 29 #[.int .u64 (x : Int)] w fun e w' => e = .returned (.int .i64 (pcN 24 x)) ∧ w = w' := by
  obtain ⟨p1, q1, x1, p2, q2, x2, s3, x3, x4, x5, h1, h2, h3, h4, h5, h6, h7, h8, h9, h10, h11, h12, h13, h14, h15, h16, h17, h18, h19, h20, h21⟩ := ones_facts x h
  have h22 : (x5 : Int) / 4294967296 = 0 := by omega
  go_enter Try.func29, Try.ntmps29
  go_wp2
  go_ret
  exact ⟨rfl, rfl⟩


set_option maxHeartbeats 400000 in
theorem from_any (b o j r : Nat) (w : World) (hr : r < 16777216) (hj : j < 64) (hc : w.cell? ⟨b, o, none⟩ = some (.int .u64 (r : Int))) :
    Calls Try.prog 23 #[.slice (some ⟨b, o, none⟩) 1 1, .int .i64 (j : Int)] w fun e w' => e = .returned (.int .i64 (pcN 24 (r / 2 ^ j))) ∧ w = w' := by
  have hj0 : (j : Int) / 64 = 0 := by omega
  have hj1 : (j : Int) % 64 = j := by omega
  go_enter Try.func23, Try.ntmps23
  go_wp2_with fail
  rw [show ((r : Int) / 2 ^ j) = ((r / 2 ^ j : Nat) : Int) from by rw [Int.natCast_ediv]; simp]
  refine (ones_any _ _ (Nat.lt_of_le_of_lt (Nat.div_le_self _ _) hr)).mono ?_
  rintro e w' ⟨rfl, rfl⟩
  go_wp2_with fail
  refine wp_loop_rounds 1 ?_
  rw [rounds_succ]
  go_wp2
  go_ret
  exact ⟨rfl, rfl⟩

theorem from_int (b o r : Nat) (j : Int) (w : World) (hr : r < 16777216) (h0 : 0 ≤ j) (hj : j < 64) (hc : w.cell? ⟨b, o, none⟩ = some (.int .u64 (r : Int))) :
    Calls Try.prog 23 #[.slice (some ⟨b, o, none⟩) 1 1, .int .i64 j] w fun e w' => e = .returned (.int .i64 (pcN 24 (r / 2 ^ j.toNat))) ∧ w = w' := by
  obtain ⟨n, rfl⟩ := Int.eq_ofNat_of_zero_le h0
  exact from_any b o n r w hr (by omega) hc

end Go.Proofs.Ythkkjbigfnimbaa
