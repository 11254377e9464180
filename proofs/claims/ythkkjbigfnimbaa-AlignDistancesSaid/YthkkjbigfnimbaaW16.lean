/- Walks: the law AlignDistances. -/
import Derived.Test.YthkkjbigfnimbaaW14
namespace Go.Proofs.Ythkkjbigfnimbaa
open Go.RowKit

/-- The distance as a number. -/
def dst (A B : List ByteArray) : Int := (A.length : Int) + B.length - 2 * (lcs A B : Nat)
theorem dst_comm (A B : List ByteArray) : dst A B = dst B A := by unfold dst; rw [lcs_comm A B]; omega
theorem dst_bd (A B : List ByteArray) : 0 ≤ dst A B ∧ dst A B ≤ (A.length : Int) + B.length := by unfold dst; have := lcs_le_left A B; have := lcs_le_right A B; omega
theorem dst_tri (A B C : List ByteArray) : dst A C ≤ dst A B + dst B C := by unfold dst; have := lcs_triangle A B C; omega
theorem dst_even (A B : List ByteArray) : (dst A B - A.length - B.length).tmod 2 = 0 := by
  unfold dst
  rw [show (A.length : Int) + B.length - 2 * (lcs A B : Nat) - A.length - B.length = -(2 * (lcs A B : Nat)) by omega, Int.neg_tmod, Int.mul_tmod_right]; rfl
theorem dst_zero (A B : List ByteArray) : dst A B = 0 ↔ A = B := by
  unfold dst
  constructor
  · intro h
    have := lcs_le_left A B
    have := lcs_le_right A B
    exact lcs_full (by omega) (by omega)
  · intro h; subst h; rw [lcs_self]; omega

theorem dist_any' (a1 a2 : Option Addr) (c1 c2 : Nat) (l1 l2 : List ByteArray) (w : World) (h1 : At w a1 c1 (strs l1)) (h2 : At w a2 c2 (strs l2))
    (hm1 : l1.length ≤ 24) (hm2 : l2.length ≤ 24) (hs1 : ∀ s ∈ l1, s.size ≤ 9223372036854775807) (hs2 : ∀ s ∈ l2, s.size ≤ 9223372036854775807) (X : Int) (hX : dst l1 l2 = X) :
    Calls Try.prog 13 #[.slice a1 l1.length c1, .slice a2 l2.length c2] w fun e w' => e = .returned (.int .i64 X) ∧ Ext w w' := by
  subst hX; exact dist_any a1 a2 _ c1 _ c2 l1 l2 w rfl rfl h1 h2 hm1 hm2 hs1 hs2

set_option maxHeartbeats 4000000 in
set_option maxRecDepth 100000 in
theorem distances_walk (a0 : Option Addr) (n0 c0 : Nat) (z0 : List Int) (a1 : Option Addr) (n1 c1 : Nat) (z1 : List Int) (a2 : Option Addr) (n2 c2 : Nat) (z2 : List Int) (w : World)
    (hn0 : n0 = z0.length) (h0 : At w a0 c0 (z0.map (Value.int .u8))) (hr0 : ∀ z ∈ z0, 0 ≤ z ∧ z ≤ 255) (hm0 : n0 ≤ 9223372036854775807)
    (hn1 : n1 = z1.length) (h1 : At w a1 c1 (z1.map (Value.int .u8))) (hr1 : ∀ z ∈ z1, 0 ≤ z ∧ z ≤ 255) (hm1 : n1 ≤ 9223372036854775807)
    (hn2 : n2 = z2.length) (h2 : At w a2 c2 (z2.map (Value.int .u8))) (hr2 : ∀ z ∈ z2, 0 ≤ z ∧ z ≤ 255) (hm2 : n2 ≤ 9223372036854775807) :
    Calls Try.prog 7 #[.slice a0 n0 c0, .slice a1 n1 c1, .slice a2 n2 c2] w fun e w' => e = .returned (.bool true) ∧ Ext w w' := by
  have hA24 := chrs_len z0
  have T0 := Lib.hid (fun W (hE : Ext w W) => texts_any a0 n0 c0 z0 W hn0 (h0.ext hE) hr0 hm0)
  have SA := Lib.hid (chrs_size z0)
  have hB24 := chrs_len z1
  have T1 := Lib.hid (fun W (hE : Ext w W) => texts_any a1 n1 c1 z1 W hn1 (h1.ext hE) hr1 hm1)
  have SB := Lib.hid (chrs_size z1)
  have hC24 := chrs_len z2
  have T2 := Lib.hid (fun W (hE : Ext w W) => texts_any a2 n2 c2 z2 W hn2 (h2.ext hE) hr2 hm2)
  have SC := Lib.hid (chrs_size z2)
  clear hn0 h0 hr0 hm0 hn1 h1 hr1 hm1 hn2 h2 hr2 hm2
  generalize chrs z0 = A at *
  generalize chrs z1 = B at *
  generalize chrs z2 = C at *
  obtain ⟨X, hX⟩ : ∃ X, dst A B = X := ⟨_, rfl⟩
  obtain ⟨Y, hY⟩ : ∃ Y, dst B C = Y := ⟨_, rfl⟩
  obtain ⟨Z, hZ⟩ : ∃ Z, dst A C = Z := ⟨_, rfl⟩
  have hX' : dst B A = X := by rw [dst_comm]; exact hX
  have hXb := dst_bd A B
  have hYb := dst_bd B C
  have hZb := dst_bd A C
  have htri := dst_tri A B C
  have hev := dst_even A B
  have hz := dst_zero A B
  rw [hX] at hXb htri hev hz
  rw [hY] at hYb htri
  rw [hZ] at hZb htri
  have HX := Lib.hid hX
  have HX' := Lib.hid hX'
  have HY := Lib.hid hY
  have HZ := Lib.hid hZ
  have HEv := Lib.hid hev
  have HZr := Lib.hid hz
  clear hX hX' hY hZ hev hz
  go_enter Try.func7, Try.ntmps7
  go_wp2_with fail
  refine (awake_any w).mono ?_
  rintro e w1 ⟨rfl, hE1⟩
  have HE1 := Lib.hid hE1
  clear hE1
  go_wp2_with fail
  refine (T0.out w1 HE1.out).mono ?_
  rintro e w2 ⟨aA, cA, rfl, hA, hE2⟩
  have HE2 := Lib.hid (HE1.out.trans hE2)
  have HA2 := Lib.hid hA
  clear hA hE2 HE1 
  go_wp2_with fail
  refine (T1.out w2 HE2.out).mono ?_
  rintro e w3 ⟨aB, cB, rfl, hB, hE3⟩
  have HE3 := Lib.hid (HE2.out.trans hE3)
  have HA3 := Lib.hid (HA2.out.ext hE3)
  have HB3 := Lib.hid hB
  clear hB hE3 HE2 HA2
  go_wp2_with fail
  refine (T2.out w3 HE3.out).mono ?_
  rintro e w4 ⟨aC, cC, rfl, hC, hE4⟩
  have HE4 := Lib.hid (HE3.out.trans hE4)
  have HA4 := Lib.hid (HA3.out.ext hE4)
  have HB4 := Lib.hid (HB3.out.ext hE4)
  have HC4 := Lib.hid hC
  clear hC hE4 HE3 HA3 HB3
  go_wp2_with fail
  refine (dist_any' aA aB cA cB A B w4 HA4.out HB4.out hA24 hB24 SA.out SB.out X HX.out).mono ?_
  rintro e w5 ⟨rfl, hE5⟩
  have HE5 := Lib.hid hE5
  clear hE5
  go_wp2_with fail
  refine (dist_any' aB aC cB cC B C w5 (HB4.out.ext HE5.out) (HC4.out.ext HE5.out) hB24 hC24 SB.out SC.out Y HY.out).mono ?_
  rintro e w6 ⟨rfl, hE6⟩
  have HE6 := Lib.hid (HE5.out.trans hE6)
  clear hE6 HE5
  go_wp2_with fail
  refine (dist_any' aA aC cA cC A C w6 (HA4.out.ext HE6.out) (HC4.out.ext HE6.out) hA24 hC24 SA.out SC.out Z HZ.out).mono ?_
  rintro e w7 ⟨rfl, hE7⟩
  have HE7 := Lib.hid (HE6.out.trans hE7)
  clear hE7 HE6
  go_wp2_with fail
  refine (dist_any' aB aA cB cA B A w7 (HB4.out.ext HE7.out) (HA4.out.ext HE7.out) hB24 hA24 SB.out SA.out X HX'.out).mono ?_
  rintro e w8 ⟨rfl, hE8⟩
  have HE8 := Lib.hid (HE7.out.trans hE8)
  clear hE8 HE7
  go_wp2_with fail
  refine (same_any aA aB A.length B.length cA cB A B w8 rfl rfl (HA4.out.ext HE8.out) (HB4.out.ext HE8.out) (by omega)).mono ?_
  rintro e w9 ⟨rfl, n9, rfl⟩
  by_cases hAB : A = B
  · have hx0 : X = 0 := HZr.out.2 hAB
    have hd : decide (A = B) = true := by simp [hAB]
    rw [hd]
    have hev := HEv.out
    have hx0' : (X == 0) = true := by simp [hx0]
    clear hAB hd hx0
    go_wp2
    go_ret
    exact ⟨rfl, (HE4.out.trans HE8.out).drewN n9⟩
  · have hx0 : ¬ X = 0 := fun h => hAB (HZr.out.1 h)
    have hx0' : (X == 0) = false := by simp [hx0]
    have hd : decide (A = B) = false := by simp [hAB]
    rw [hd]
    have hev := HEv.out
    clear hAB hd hx0
    go_wp2
    go_ret
    exact ⟨rfl, (HE4.out.trans HE8.out).drewN n9⟩

end Go.Proofs.Ythkkjbigfnimbaa
