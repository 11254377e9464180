/- Walks: awake. -/
import Derived.Test.YthkkjbigfnimbaaW12
namespace Go.Proofs.Ythkkjbigfnimbaa
open Go.RowKit

def SA : List ByteArray := [⟨#[97]⟩, ⟨#[98]⟩, ⟨#[99]⟩, ⟨#[100]⟩]
def SB : List ByteArray := [⟨#[98]⟩, ⟨#[100]⟩, ⟨#[99]⟩]
theorem alAB : al 0 SA 0 SB = [(1, 0), (2, 2)] := by decide +kernel
theorem lcsAB : lcs SA SB = 2 := by decide +kernel
theorem edAB : editsOf SA SB = [⟨0, 0, [⟨#[97]⟩], []⟩, ⟨2, 1, [], [⟨#[100]⟩]⟩, ⟨3, 3, [⟨#[100]⟩], []⟩] := by
  unfold editsOf alEnd
  rw [alAB]
  rfl
theorem apAB : applyE [⟨#[97]⟩, ⟨#[98]⟩] [⟨1, 0, [⟨#[120]⟩], []⟩] 0 [] = none := by decide +kernel
theorem pairEq (w : World) : (binOp .eql 32 (.agg #[.int .i64 2, .int .i64 2]) (.agg #[.int .i64 2, .int .i64 2])).run Try.prog w = .ok (.bool true) w := by kernel_rfl

theorem at_lit (W : World) (l : List ByteArray) (_hl : l ≠ []) : At (W.alloc (.cells (strs l).toArray 9)) (some ⟨W.heap.size, 0, none⟩) l.length (strs l) := by
  refine ⟨by rw [strs_length]; exact Nat.le_refl _, (fun h => by cases h), .inr ⟨W.heap.size, 0, rfl, fun j hj => ?_⟩⟩
  rw [World.cell?_alloc_at _ _ _ _ rfl]
  simp
theorem atM_lit (W : World) (xs : List Value) (e : Nat) : AtM (W.alloc (.cells xs.toArray e)) (some ⟨W.heap.size, 0, none⟩) xs := by
  refine .inr ⟨W.heap.size, 0, rfl, fun j hj => ?_⟩
  rw [World.cell?_alloc_at _ _ _ _ rfl]
  simp
theorem Ext.alloc {w W : World} (h : Ext w W) (o : Obj) : Ext w (W.alloc o) := Below.alloc h h.size o

theorem szSA : ∀ s ∈ SA, s.size ≤ 9223372036854775807 := by decide +kernel
theorem szSB : ∀ s ∈ SB, s.size ≤ 9223372036854775807 := by decide +kernel

theorem apply_start (w2 : World) :
    At (((w2.alloc (.cells #[.string ⟨#[97]⟩, .string ⟨#[98]⟩] 9)).alloc (.cells #[.string ⟨#[120]⟩] 9)).alloc (.cells #[.int .i64 1, .int .i64 0, .slice (some ⟨w2.heap.size + 1, 0, none⟩) 1 1, .slice none 0 0] 49)) (some ⟨w2.heap.size, 0, none⟩) 2 (strs [⟨#[97]⟩, ⟨#[98]⟩]) ∧
    AtM (((w2.alloc (.cells #[.string ⟨#[97]⟩, .string ⟨#[98]⟩] 9)).alloc (.cells #[.string ⟨#[120]⟩] 9)).alloc (.cells #[.int .i64 1, .int .i64 0, .slice (some ⟨w2.heap.size + 1, 0, none⟩) 1 1, .slice none 0 0] 49)) (some ⟨w2.heap.size + 1 + 1, 0, none⟩) (edcs [⟨1, 0, some ⟨w2.heap.size + 1, 0, none⟩, 1, 1, none, 0, 0⟩]) ∧
    EdsV (((w2.alloc (.cells #[.string ⟨#[97]⟩, .string ⟨#[98]⟩] 9)).alloc (.cells #[.string ⟨#[120]⟩] 9)).alloc (.cells #[.int .i64 1, .int .i64 0, .slice (some ⟨w2.heap.size + 1, 0, none⟩) 1 1, .slice none 0 0] 49)) [⟨1, 0, some ⟨w2.heap.size + 1, 0, none⟩, 1, 1, none, 0, 0⟩] [⟨1, 0, [⟨#[120]⟩], []⟩] ∧
    Ext w2 (((w2.alloc (.cells #[.string ⟨#[97]⟩, .string ⟨#[98]⟩] 9)).alloc (.cells #[.string ⟨#[120]⟩] 9)).alloc (.cells #[.int .i64 1, .int .i64 0, .slice (some ⟨w2.heap.size + 1, 0, none⟩) 1 1, .slice none 0 0] 49)) := by
  have a1 := at_lit w2 [⟨#[97]⟩, ⟨#[98]⟩] (by simp)
  have a2 := at_lit (w2.alloc (.cells #[.string ⟨#[97]⟩, .string ⟨#[98]⟩] 9)) [⟨#[120]⟩] (by simp)
  have a3 := atM_lit ((w2.alloc (.cells #[.string ⟨#[97]⟩, .string ⟨#[98]⟩] 9)).alloc (.cells #[.string ⟨#[120]⟩] 9)) [.int .i64 1, .int .i64 0, .slice (some ⟨w2.heap.size + 1, 0, none⟩) 1 1, .slice none 0 0] 49
  rw [World.size_alloc] at a2
  rw [World.size_alloc, World.size_alloc] at a3
  refine ⟨a1.ext (((Ext.refl _).alloc _).alloc _), a3, ⟨⟨rfl, rfl, rfl, rfl, a2.ext ((Ext.refl _).alloc _), At.nil _⟩, trivial⟩, (((Ext.refl _).alloc _).alloc _).alloc _⟩

set_option maxHeartbeats 4000000 in
set_option maxRecDepth 100000 in
theorem awake_any (w : World) : Calls Try.prog 9 #[] w fun e w' => e = .returned (.bool true) ∧ Ext w w' := by
  have hpe := pairEq
  go_enter Try.func9, Try.ntmps9
  go_wp2_with fail
  have hA : At ((w.alloc (.cells (strs SA).toArray 9)).alloc (.cells (strs SB).toArray 9)) (some ⟨w.heap.size, 0, none⟩) 4 (strs SA) := (at_lit w SA (by simp [SA])).ext ((Ext.refl _).alloc _)
  have hB : At ((w.alloc (.cells (strs SA).toArray 9)).alloc (.cells (strs SB).toArray 9)) (some ⟨w.heap.size + 1, 0, none⟩) 3 (strs SB) := by
    have := at_lit (w.alloc (.cells (strs SA).toArray 9)) SB (by simp [SB])
    rw [World.size_alloc] at this
    exact this
  have hE0 : Ext w ((w.alloc (.cells (strs SA).toArray 9)).alloc (.cells (strs SB).toArray 9)) := ((Ext.refl w).alloc _).alloc _
  simp only [SA, SB, strs, List.map_cons, List.map_nil] at hA hB hE0
  generalize ((w.alloc (.cells #[.string ⟨#[97]⟩, .string ⟨#[98]⟩, .string ⟨#[99]⟩, .string ⟨#[100]⟩] 9)).alloc (.cells #[.string ⟨#[98]⟩, .string ⟨#[100]⟩, .string ⟨#[99]⟩] 9)) = W0 at hA hB hE0 ⊢
  have HA := Lib.hid hA
  have HB := Lib.hid hB
  have HE0 := Lib.hid hE0
  clear hA hB hE0
  have hal := align_any (some ⟨w.heap.size, 0, none⟩) (some ⟨w.heap.size + 1, 0, none⟩) 4 4 3 3 SA SB W0 rfl rfl HA.out HB.out (by decide) (by decide) szSA szSB
  rw [alAB] at hal
  refine hal.mono ?_
  clear hal
  rintro e w1 ⟨v1, rfl, hown1⟩
  obtain ⟨aL, cL, rfl, hatL⟩ := hown1.atM
  have HE1 := Lib.hid hown1.ext0
  obtain ⟨bL, oL, rL, hL2, hL3⟩ := hatL.get2 (k := 2) (x0 := .int .i64 2) (x1 := .int .i64 2) rfl rfl
  subst rL
  have HL2 := Lib.hid hL2
  have HL3 := Lib.hid hL3
  clear hown1 hatL hL2 hL3
  go_wp2_with fail
  have hed := edits_any (some ⟨w.heap.size, 0, none⟩) (some ⟨w.heap.size + 1, 0, none⟩) 4 4 3 3 SA SB w1 rfl rfl (HA.out.ext HE1.out) (HB.out.ext HE1.out) (by decide) (by decide) szSA szSB
  rw [edAB] at hed
  refine hed.mono ?_
  clear hed
  rintro e w2 ⟨v2, vs, rfl, hown2, heds⟩
  obtain ⟨aM, cM, rfl, hatM⟩ := hown2.atM
  have HE2 := Lib.hid hown2.ext0
  have hvl := heds.length
  obtain ⟨v, hv⟩ := some_of_lt (show 1 < vs.length by rw [hvl]; decide)
  obtain ⟨x, hx, hxv⟩ := EdsV.get heds hv
  simp at hx
  subst hx
  obtain ⟨d0, d1, d2, d3⟩ := edcs_get hv
  obtain ⟨bM, oM, rM, g0, g1, g2, g3⟩ := hatM.get4 d0 d1 d2 d3
  subst rM
  have q1 := hxv.a
  have q2 := hxv.b
  have q3 := hxv.rl
  simp only at q1 q2 q3
  rw [q1] at g0
  rw [q2] at g1
  rw [q3] at g3
  have HG0 := Lib.hid g0
  have HG1 := Lib.hid g1
  have HG3 := Lib.hid g3
  have HXR := Lib.hid hxv.r
  clear hown2 heds hatM hvl hv hxv d0 d1 d2 d3 g0 g1 g2 g3 q1 q2 q3
  go_wp2_with fail
  obtain ⟨k1, k2, k3, k4⟩ := apply_start w2
  generalize (((w2.alloc (.cells #[.string ⟨#[97]⟩, .string ⟨#[98]⟩] 9)).alloc (.cells #[.string ⟨#[120]⟩] 9)).alloc (.cells #[.int .i64 1, .int .i64 0, .slice (some ⟨w2.heap.size + 1, 0, none⟩) 1 1, .slice none 0 0] 49)) = W3 at k1 k2 k3 k4 ⊢
  have hap := apply_any (some ⟨w2.heap.size, 0, none⟩) (some ⟨w2.heap.size + 1 + 1, 0, none⟩) 2 2 1 1 _ _ _ W3 rfl rfl k1 k2 k3 (by decide) (by decide) (by simp)
  rw [apAB] at hap
  refine hap.mono ?_
  have HE3 := Lib.hid k4
  clear hap k1 k2 k3 k4
  rintro e w4 ⟨hE4, he⟩
  subst he
  have hE24 : Ext w2 w4 := HE3.out.trans hE4
  have hE14 : Ext w1 w4 := HE2.out.trans hE24
  have l2 := hE14.cell HL2.out
  have l3 := hE14.cell HL3.out
  have m0 := hE24.cell HG0.out
  have m1 := hE24.cell HG1.out
  have m3 := hE24.cell HG3.out
  have HXR4 := Lib.hid (HXR.out.ext hE24)
  have HA4 := Lib.hid (HA.out.ext (HE1.out.trans hE14))
  have HB4 := Lib.hid (HB.out.ext (HE1.out.trans hE14))
  have HE04 := Lib.hid ((HE0.out.trans (HE1.out.trans hE14)))
  clear hE24 hE14 hE4 HXR HA HB HE0 HE1 HE2 HE3 HL2 HL3 HG0 HG1 HG3
  go_wp2_with fail
  have hdi := dist_any (some ⟨w.heap.size, 0, none⟩) (some ⟨w.heap.size + 1, 0, none⟩) 4 4 3 3 SA SB w4 rfl rfl HA4.out HB4.out (by decide) (by decide) szSA szSB
  rw [lcsAB] at hdi
  refine hdi.mono ?_
  clear hdi
  rintro e w5 ⟨rfl, hE5⟩
  have m0' := hE5.cell m0
  have m1' := hE5.cell m1
  have m3' := hE5.cell m3
  have HXR5 := Lib.hid (HXR4.out.ext hE5)
  have HE05 := Lib.hid (HE04.out.trans hE5)
  clear hE5 m0 m1 m3 l2 l3 HXR4 HE04 HA4 HB4
  go_wp2_with fail
  have hE6 : Ext w5 (w5.alloc (.cells #[.string ⟨#[100]⟩] 9)) := (Ext.refl _).alloc _
  refine (same_any v.ra (some ⟨w5.heap.size, 0, none⟩) 1 1 v.rc 1 [⟨#[100]⟩] [⟨#[100]⟩] _ rfl rfl (HXR5.out.ext hE6) (at_lit w5 [⟨#[100]⟩] (by simp)) (by decide)).mono ?_
  rintro e w6 ⟨rfl, n6, rfl⟩
  have HE6 := Lib.hid hE6
  clear hE6
  rw [show decide (([⟨#[100]⟩] : List ByteArray) = [⟨#[100]⟩]) = true from by simp]
  go_wp2
  go_ret
  exact ⟨rfl, (HE05.out.trans HE6.out).drewN n6⟩
end Go.Proofs.Ythkkjbigfnimbaa
