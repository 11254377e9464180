/- Walks: the law AlignPairs. -/
import Derived.Test.YthkkjbigfnimbaaW14
namespace Go.Proofs.Ythkkjbigfnimbaa
open Go.RowKit

set_option maxHeartbeats 4000000 in
set_option maxRecDepth 100000 in
theorem pairs_walk (a0 a1 : Option Addr) (n0 c0 n1 c1 : Nat) (z0 z1 : List Int) (w : World) (hn0 : n0 = z0.length) (h0 : At w a0 c0 (z0.map (Value.int .u8))) (hr0 : ∀ z ∈ z0, 0 ≤ z ∧ z ≤ 255) (hm0 : n0 ≤ 9223372036854775807)
    (hn1 : n1 = z1.length) (h1 : At w a1 c1 (z1.map (Value.int .u8))) (hr1 : ∀ z ∈ z1, 0 ≤ z ∧ z ≤ 255) (hm1 : n1 ≤ 9223372036854775807) :
    Calls Try.prog 3 #[.slice a0 n0 c0, .slice a1 n1 c1] w fun e w' => e = .returned (.bool true) ∧ Ext w w' := by
  have hA24 := chrs_len z0
  have hB24 := chrs_len z1
  have T0 := Lib.hid (fun W (hE : Ext w W) => texts_any a0 n0 c0 z0 W hn0 (h0.ext hE) hr0 hm0)
  have T1 := Lib.hid (fun W (hE : Ext w W) => texts_any a1 n1 c1 z1 W hn1 (h1.ext hE) hr1 hm1)
  have SA := Lib.hid (chrs_size z0)
  have SB := Lib.hid (chrs_size z1)
  clear hn0 h0 hr0 hm0 hn1 h1 hr1 hm1
  generalize chrs z0 = A at *
  generalize chrs z1 = B at *
  go_enter Try.func3, Try.ntmps3
  go_wp2_with fail
  refine (awake_any w).mono ?_
  rintro e w1 ⟨rfl, hE1⟩
  have HE1 := Lib.hid hE1
  clear hE1
  go_wp2_with fail
  refine (T0.out w1 HE1.out).mono ?_
  rintro e w2 ⟨aA, cA, rfl, hA, hE2⟩
  have HA := Lib.hid hA
  have HE2 := Lib.hid hE2
  clear hA hE2
  go_wp2_with fail
  refine (T1.out w2 (HE1.out.trans HE2.out)).mono ?_
  rintro e w3 ⟨aB, cB, rfl, hB, hE3⟩
  have HA3 := Lib.hid (HA.out.ext hE3)
  have HB3 := Lib.hid hB
  have HE3 := Lib.hid ((HE1.out.trans HE2.out).trans hE3)
  clear hB hE3 HA HE1 HE2 T0 T1
  go_wp2_with fail
  refine (align_any aA aB _ cA _ cB A B w3 rfl rfl HA3.out HB3.out hA24 hB24 SA.out SB.out).mono ?_
  rintro e w4 ⟨v4, rfl, hown4⟩
  obtain ⟨aL, cL, rfl, hatL⟩ := hown4.atM
  have hE4 := hown4.ext0
  have HA4 := Lib.hid (HA3.out.ext hE4)
  have HB4 := Lib.hid (HB3.out.ext hE4)
  have HL4 := Lib.hid hatL
  have HE4 := Lib.hid (HE3.out.trans hE4)
  clear hown4 hatL hE4 HA3 HB3 HE3
  go_wp2_with fail
  refine (refalign_any aA aB _ cA _ cB A B w4 rfl rfl HA4.out HB4.out hA24 hB24).mono ?_
  rintro e w5 ⟨v5, rfl, hown5⟩
  obtain ⟨aM, cM, rfl, hatM⟩ := hown5.atM
  have hE5 := hown5.ext0
  have HA5 := Lib.hid (HA4.out.ext hE5)
  have HB5 := Lib.hid (HB4.out.ext hE5)
  have HL5 := Lib.hid (HL4.out.ext hE5)
  have HM5 := Lib.hid hatM
  have HE5 := Lib.hid (HE4.out.trans hE5)
  clear hown5 hatM hE5 HA4 HB4 HL4 HE4
  have hlen := al_length A 0 0 B
  have hl24 : lcs A B ≤ 24 := by have := lcs_le_left A B; omega
  have Hlen := Lib.hid hlen
  clear hlen
  obtain ⟨L, hL⟩ : ∃ L, lcs A B = L := ⟨_, rfl⟩
  rw [hL] at hl24
  have HL := Lib.hid hL
  clear hL
  rw [Hlen.out, HL.out]
  go_wp2_with fail
  refine (dist_any aA aB _ cA _ cB A B w5 rfl rfl HA5.out HB5.out hA24 hB24 SA.out SB.out).mono ?_
  rw [HL.out]
  rintro e w6 ⟨rfl, hE6⟩
  have HL6 := Lib.hid (HL5.out.ext hE6)
  have HM6 := Lib.hid (HM5.out.ext hE6)
  have HE6 := Lib.hid (HE5.out.trans hE6)
  clear hE6 HA5 HB5 HL5 HM5 HE5
  go_wp2_with fail
  go_loopw [9, 44] (fun _ v44 wr => ∃ k, k ≤ L ∧ v44 = .int .i64 (k : Int) ∧ ∃ nd, wr = w6.drewN nd) (fun _ v44 _ => L - (intOf v44).toNat)
  case atStart => exact ⟨0, by omega, rfl, 0, rfl⟩
  case round =>
    obtain ⟨k, hk, rfl, nd, rfl⟩ := hrel
    by_cases hlt : k < L
    · obtain ⟨p, hp⟩ := some_of_lt (show k < (al 0 A 0 B).length by rw [Hlen.out, HL.out]; exact hlt)
      obtain ⟨q0, q1⟩ := pairs_get hp
      obtain ⟨b1, o1, r1, f0, f1⟩ := HL6.out.get2 q0 q1
      obtain ⟨b2, o2, r2, g0, g1⟩ := HM6.out.get2 q0 q1
      subst r1 r2
      clear q0 q1 hp
      go_wp2_with fail
      go_quiet (fail)
      go_wp2_with fail
      go_roundw
      case rel => exact ⟨k + 1, by omega, by go_num, nd + nq, rfl⟩
      case measure => simp [intOf]; omega
    · go_wp2
      go_ret
      exact ⟨rfl, HE6.out.drewN nd⟩

end Go.Proofs.Ythkkjbigfnimbaa
