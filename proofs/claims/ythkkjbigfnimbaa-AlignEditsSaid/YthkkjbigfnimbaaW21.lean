/- Walks: the law AlignEdits. -/
import Derived.Test.YthkkjbigfnimbaaW18
import Derived.Test.YthkkjbigfnimbaaW19
import Derived.Test.YthkkjbigfnimbaaW20
namespace Go.Proofs.Ythkkjbigfnimbaa
open Go.RowKit

set_option maxHeartbeats 4000000 in
set_option maxRecDepth 100000 in
theorem edits_walk (a0 : Option Addr) (n0 c0 : Nat) (z0 : List Int) (a1 : Option Addr) (n1 c1 : Nat) (z1 : List Int) (w : World)
    (hn0 : n0 = z0.length) (h0 : At w a0 c0 (z0.map (Value.int .u8))) (hr0 : ∀ z ∈ z0, 0 ≤ z ∧ z ≤ 255) (hm0 : n0 ≤ 9223372036854775807)
    (hn1 : n1 = z1.length) (h1 : At w a1 c1 (z1.map (Value.int .u8))) (hr1 : ∀ z ∈ z1, 0 ≤ z ∧ z ≤ 255) (hm1 : n1 ≤ 9223372036854775807) :
    Calls Try.prog 4 #[.slice a0 n0 c0, .slice a1 n1 c1] w fun e w' => e = .returned (.bool true) ∧ Ext w w' := by
  have hA24 := chrs_len z0
  have T0 := Lib.hid (fun W (hE : Ext w W) => texts_any a0 n0 c0 z0 W hn0 (h0.ext hE) hr0 hm0)
  have SA := Lib.hid (chrs_size z0)
  have hB24 := chrs_len z1
  have T1 := Lib.hid (fun W (hE : Ext w W) => texts_any a1 n1 c1 z1 W hn1 (h1.ext hE) hr1 hm1)
  have SB := Lib.hid (chrs_size z1)
  clear hn0 h0 hr0 hm0 hn1 h1 hr1 hm1
  generalize chrs z0 = A at *
  generalize chrs z1 = B at *
  obtain ⟨hs1, hs2⟩ := edits_small A B hA24 hB24
  have HS2 := Lib.hid hs2
  clear hs2
  go_enter Try.func4, Try.ntmps4
  go_wp2_with fail
  refine (awake_any w).mono ?_
  rintro e w1 ⟨rfl, hE1⟩
  have HE1 := Lib.hid hE1
  clear hE1
  go_wp2_with fail
  refine (T0.out w1 HE1.out).mono ?_
  rintro e w2 ⟨aA, cA, rfl, hA, hE2⟩
  have HE2 := Lib.hid (HE1.out.trans hE2)
  have HA2 := Lib.hid hA
  clear hA hE2 HE1 
  go_wp2_with fail
  refine (T1.out w2 HE2.out).mono ?_
  rintro e w3 ⟨aB, cB, rfl, hB, hE3⟩
  have HE3 := Lib.hid (HE2.out.trans hE3)
  have HA3 := Lib.hid (HA2.out.ext hE3)
  have HB3 := Lib.hid hB
  clear hB hE3 HE2 HA2
  go_wp2_with fail
  refine (edits_any aA aB _ cA _ cB A B w3 rfl rfl HA3.out HB3.out hA24 hB24 SA.out SB.out).mono ?_
  rintro e w4 ⟨v4, vs, rfl, hown4, heds4⟩
  obtain ⟨aM, cM, rfl, hatM⟩ := hown4.atM
  have hE4 := hown4.ext0
  have HA4 := Lib.hid (HA3.out.ext hE4)
  have HB4 := Lib.hid (HB3.out.ext hE4)
  have HE4 := Lib.hid (HE3.out.trans hE4)
  have HM4 := Lib.hid hatM
  have HEds4 := Lib.hid heds4
  clear hown4 hatM hE4 heds4 HA3 HB3 HE3
  go_wp2_with fail
  refine (told_any aM (editsOf A B).length cM vs w4 (by rw [EdsV.length HEds4.out]) HM4.out (by omega)).mono ?_
  rintro e w5 ⟨v5, rfl, hown5⟩
  obtain ⟨aT, cT, rfl, hatT⟩ := hown5.atM
  have hE5 := hown5.ext0
  have HA5 := Lib.hid (HA4.out.ext hE5)
  have HB5 := Lib.hid (HB4.out.ext hE5)
  have HE5 := Lib.hid (HE4.out.trans hE5)
  have HT5 := Lib.hid hatT
  have HEds5 := Lib.hid (HEds4.out.ext hE5)
  clear hown5 hatT hE5 HA4 HB4 HE4 HM4 HEds4
  go_wp2_with fail
  refine (refedits_any aA aB _ cA _ cB A B w5 rfl rfl HA5.out HB5.out hA24 hB24).mono ?_
  rintro e w6 ⟨v6, vs6, rfl, hown6, heds6⟩
  obtain ⟨aU, cU, rfl, hatU⟩ := hown6.atM
  have hE6 := hown6.ext0
  have HE6 := Lib.hid (HE5.out.trans hE6)
  have HT6 := Lib.hid (HT5.out.ext hE6)
  have HEds6 := Lib.hid (HEds5.out.ext hE6)
  have HU6 := Lib.hid hatU
  have HEdu6 := Lib.hid heds6
  clear hown6 hatU hE6 heds6 HA5 HB5 HE5 HT5 HEds5
  go_wp2_with fail
  refine (sameedits_any aT aU (editsOf A B).length cT cU vs vs6 (editsOf A B) w6 rfl HT6.out HU6.out HEds6.out HEdu6.out (by omega) HS2.out).mono ?_
  rintro e w7 ⟨rfl, n7, rfl⟩
  go_wp2
  go_ret
  exact ⟨rfl, HE6.out.drewN n7⟩

end Go.Proofs.Ythkkjbigfnimbaa
