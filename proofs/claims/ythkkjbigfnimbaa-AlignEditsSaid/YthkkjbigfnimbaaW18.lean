/- Walks: the law AlignApplies. -/
import Derived.Test.YthkkjbigfnimbaaW14
import Derived.Test.YthkkjbigfnimbaaEdP
namespace Go.Proofs.Ythkkjbigfnimbaa
open Go.RowKit

theorem edits_small (A B : List ByteArray) (hA : A.length ≤ 24) (hB : B.length ≤ 24) : (editsOf A B).length ≤ 25 ∧ ∀ x ∈ editsOf A B, x.r.length ≤ 50 ∧ x.l.length ≤ 50 := by
  refine ⟨?_, fun x hx => ?_⟩
  · have h1 := eds_len A B (alEnd A B) 0 0
    rw [alEnd_len] at h1
    have h2 := lcs_le_left A B
    unfold editsOf; omega
  · have := eds_mem A B _ _ _ x hx
    omega

set_option maxHeartbeats 4000000 in
set_option maxRecDepth 100000 in
theorem applies_walk (a0 : Option Addr) (n0 c0 : Nat) (z0 : List Int) (a1 : Option Addr) (n1 c1 : Nat) (z1 : List Int) (w : World)
    (hn0 : n0 = z0.length) (h0 : At w a0 c0 (z0.map (Value.int .u8))) (hr0 : ∀ z ∈ z0, 0 ≤ z ∧ z ≤ 255) (hm0 : n0 ≤ 9223372036854775807)
    (hn1 : n1 = z1.length) (h1 : At w a1 c1 (z1.map (Value.int .u8))) (hr1 : ∀ z ∈ z1, 0 ≤ z ∧ z ≤ 255) (hm1 : n1 ≤ 9223372036854775807) :
    Calls Try.prog 5 #[.slice a0 n0 c0, .slice a1 n1 c1] w fun e w' => e = .returned (.bool true) ∧ Ext w w' := by
  have hA24 := chrs_len z0
  have T0 := Lib.hid (fun W (hE : Ext w W) => texts_any a0 n0 c0 z0 W hn0 (h0.ext hE) hr0 hm0)
  have SA := Lib.hid (chrs_size z0)
  have hB24 := chrs_len z1
  have T1 := Lib.hid (fun W (hE : Ext w W) => texts_any a1 n1 c1 z1 W hn1 (h1.ext hE) hr1 hm1)
  have SB := Lib.hid (chrs_size z1)
  clear hn0 h0 hr0 hm0 hn1 h1 hr1 hm1
  generalize chrs z0 = A at *
  generalize chrs z1 = B at *
  obtain ⟨hs1, hs2⟩ := edits_small A B hA24 hB24
  have hiff := edits_nil_iff A B
  have hap := apply_edits A B
  have HS2 := Lib.hid hs2
  have HIff := Lib.hid hiff
  have HAp := Lib.hid hap
  clear hs2 hiff hap
  go_enter Try.func5, Try.ntmps5
  go_wp2_with fail
  refine (awake_any w).mono ?_
  rintro e w1 ⟨rfl, hE1⟩
  have HE1 := Lib.hid hE1
  clear hE1
  go_wp2_with fail
  refine (T0.out w1 HE1.out).mono ?_
  rintro e w2 ⟨aA, cA, rfl, hA, hE2⟩
  have HE2 := Lib.hid (HE1.out.trans hE2)
  have HA2 := Lib.hid hA
  clear hA hE2 HE1 
  go_wp2_with fail
  refine (T1.out w2 HE2.out).mono ?_
  rintro e w3 ⟨aB, cB, rfl, hB, hE3⟩
  have HE3 := Lib.hid (HE2.out.trans hE3)
  have HA3 := Lib.hid (HA2.out.ext hE3)
  have HB3 := Lib.hid hB
  clear hB hE3 HE2 HA2
  go_wp2_with fail
  refine (edits_any aA aB _ cA _ cB A B w3 rfl rfl HA3.out HB3.out hA24 hB24 SA.out SB.out).mono ?_
  rintro e w4 ⟨v4, vs, rfl, hown4, heds4⟩
  obtain ⟨aM, cM, rfl, hatM⟩ := hown4.atM
  have hE4 := hown4.ext0
  have HA4 := Lib.hid (HA3.out.ext hE4)
  have HB4 := Lib.hid (HB3.out.ext hE4)
  have HE4 := Lib.hid (HE3.out.trans hE4)
  have HM4 := Lib.hid hatM
  have HEds4 := Lib.hid heds4
  clear hown4 hatM hE4 heds4 HA3 HB3 HE3
  go_wp2_with fail
  have hcall := apply_any aA aM A.length cA (editsOf A B).length cM A vs (editsOf A B) w4 rfl (by rw [EdsV.length HEds4.out]) HA4.out HM4.out HEds4.out hA24 (by omega) HS2.out
  rw [HAp.out] at hcall
  refine hcall.mono ?_
  clear hcall
  rintro e w5 ⟨hE5, a5, c5, rfl, hat5⟩
  have HA5 := Lib.hid (HA4.out.ext hE5)
  have HB5 := Lib.hid (HB4.out.ext hE5)
  have HE5 := Lib.hid (HE4.out.trans hE5)
  have HC5 := Lib.hid hat5
  clear hE5 hat5 HA4 HB4 HE4 HM4 HEds4
  go_wp2_with fail
  have hcall := apply_any aA none A.length cA 0 0 A [] [] w5 rfl rfl HA5.out (.inl rfl) trivial hA24 (by omega) (by simp)
  rw [apply_nil] at hcall
  refine hcall.mono ?_
  clear hcall
  rintro e w6 ⟨hE6, a6, c6, rfl, hat6⟩
  have HA6 := Lib.hid (HA5.out.ext hE6)
  have HB6 := Lib.hid (HB5.out.ext hE6)
  have HE6 := Lib.hid (HE5.out.trans hE6)
  have HC6 := Lib.hid (HC5.out.ext hE6)
  have HD6 := Lib.hid hat6
  clear hE6 hat6 HA5 HB5 HE5 HC5
  go_wp2_with fail
  refine (same_any a5 aB B.length B.length c5 cB B B w6 rfl rfl HC6.out HB6.out (by omega)).mono ?_
  rintro e w7 ⟨rfl, n7, rfl⟩
  rw [show decide (B = B) = true from by simp]
  have hE7 : Ext w6 (w6.drewN n7) := (Ext.refl w6).drewN n7
  go_wp2_with fail
  refine (same_any a6 aA A.length A.length c6 cA A A _ rfl rfl (HD6.out.ext hE7) (HA6.out.ext hE7) (by omega)).mono ?_
  rintro e w8 ⟨rfl, n8, rfl⟩
  rw [show decide (A = A) = true from by simp]
  have hE8 : Ext w6 (w6.drewN (n7 + n8)) := (Ext.refl w6).drewN (n7 + n8)
  have HE8 := Lib.hid hE8
  clear hE7 hE8
  go_wp2_with fail
  refine (edits_any aA aB A.length cA B.length cB A B (w6.drewN (n7 + n8)) rfl rfl (HA6.out.ext HE8.out) (HB6.out.ext HE8.out) hA24 hB24 SA.out SB.out).mono ?_
  rintro e w9 ⟨v9, vs9, rfl, hown9, heds9⟩
  obtain ⟨aN, cN, rfl, _⟩ := hown9.atM
  have hE9 := HE8.out.trans hown9.ext0
  have HE9 := Lib.hid hE9
  clear hown9 heds9 hE9
  go_wp2_with fail
  refine (same_any aA aB A.length B.length cA cB A B w9 rfl rfl (HA6.out.ext HE9.out) (HB6.out.ext HE9.out) (by omega)).mono ?_
  rintro e w10 ⟨rfl, n10, rfl⟩
  obtain ⟨N, hN⟩ : ∃ N, (editsOf A B).length = N := ⟨_, rfl⟩
  have hiff := HIff.out
  rw [hN] at hiff hs1 ⊢
  by_cases hAB : A = B
  · have hx0 : ((N : Int) == 0) = true := by simp [hiff.2 hAB]
    rw [show decide (A = B) = true from by simp [hAB]]
    clear hiff hAB hN
    go_wp2
    go_ret
    exact ⟨rfl, (HE6.out.trans HE9.out).drewN n10⟩
  · have hx0 : ((N : Int) == 0) = false := by have : ¬ N = 0 := fun h => hAB (hiff.1 h); simp; omega
    rw [show decide (A = B) = false from by simp [hAB]]
    clear hiff hAB hN
    go_wp2
    go_ret
    exact ⟨rfl, (HE6.out.trans HE9.out).drewN n10⟩

end Go.Proofs.Ythkkjbigfnimbaa
