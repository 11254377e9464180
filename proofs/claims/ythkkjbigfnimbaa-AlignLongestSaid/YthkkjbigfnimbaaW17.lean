/- Walks: the law AlignLongest. -/
import Derived.Test.YthkkjbigfnimbaaW14
namespace Go.Proofs.Ythkkjbigfnimbaa
open Go.RowKit

theorem asc_next : ∀ {l : List (Nat × Nat)} {i k t : Nat} {p q : Nat × Nat}, Asc i k l → l[t]? = some p → l[t + 1]? = some q → p.1 < q.1 ∧ p.2 < q.2
  | x :: y :: l, i, k, 0, p, q, h, hp, hq => by
    simp at hp hq; subst hp hq
    have := h.2.2.1
    have := h.2.2.2.1
    omega
  | x :: l, i, k, t + 1, p, q, h, hp, hq => by
    simp at hp hq
    exact asc_next h.2.2 hp hq
  | [], _, _, _, _, _, _, hp, _ => by simp at hp
  | [x], _, _, 0, _, _, _, _, hq => by simp at hq

/-- A common subsequence of what has been seen, of length n. -/
def Com (A B : List ByteArray) (i q n : Nat) : Prop := ∃ s : List ByteArray, s.Sublist (A.take i) ∧ s.Sublist (B.take q) ∧ s.length = n
theorem Com.skip {A B : List ByteArray} {i q n : Nat} (h : Com A B i q n) : Com A B (i + 1) q n := by
  obtain ⟨s, h1, h2, h3⟩ := h
  exact ⟨s, h1.trans (List.take_sublist_take_left (by omega)), h2, h3⟩
theorem Com.hit {A B : List ByteArray} {i q n k : Nat} {c : ByteArray} (h : Com A B i q n) (ha : A[i]? = some c) (hb : B[k]? = some c) (hk : q ≤ k) : Com A B (i + 1) (k + 1) (n + 1) := by
  obtain ⟨s, h1, h2, h3⟩ := h
  refine ⟨s ++ [c], ?_, ?_, by simp [h3]⟩
  · rw [take_snoc ha]; exact h1.append (List.Sublist.refl _)
  · rw [take_snoc hb]; exact (h2.trans (List.take_sublist_take_left hk)).append (List.Sublist.refl _)
theorem Com.le {A B : List ByteArray} {i q n : Nat} (h : Com A B i q n) : n ≤ lcs A B := by
  obtain ⟨s, h1, h2, h3⟩ := h
  rw [← h3]
  exact lcs_ge A B s (h1.trans (List.take_sublist _ _)) (h2.trans (List.take_sublist _ _))

set_option maxHeartbeats 8000000 in
set_option maxRecDepth 100000 in
theorem longest_walk (a0 : Option Addr) (n0 c0 : Nat) (z0 : List Int) (a1 : Option Addr) (n1 c1 : Nat) (z1 : List Int) (wh : Int) (w : World)
    (hn0 : n0 = z0.length) (h0 : At w a0 c0 (z0.map (Value.int .u8))) (hr0 : ∀ z ∈ z0, 0 ≤ z ∧ z ≤ 255) (hm0 : n0 ≤ 9223372036854775807)
    (hn1 : n1 = z1.length) (h1 : At w a1 c1 (z1.map (Value.int .u8))) (hr1 : ∀ z ∈ z1, 0 ≤ z ∧ z ≤ 255) (hm1 : n1 ≤ 9223372036854775807) (hw0 : 0 ≤ wh) (hw1 : wh < 4294967296) :
    Calls Try.prog 8 #[.slice a0 n0 c0, .slice a1 n1 c1, .int .u32 wh] w fun e w' => e = .returned (.bool true) ∧ Ext w w' := by
  have hA24 := chrs_len z0
  have T0 := Lib.hid (fun W (hE : Ext w W) => texts_any a0 n0 c0 z0 W hn0 (h0.ext hE) hr0 hm0)
  have SA := Lib.hid (chrs_size z0)
  have hB24 := chrs_len z1
  have T1 := Lib.hid (fun W (hE : Ext w W) => texts_any a1 n1 c1 z1 W hn1 (h1.ext hE) hr1 hm1)
  have SB := Lib.hid (chrs_size z1)
  clear hn0 h0 hr0 hm0 hn1 h1 hr1 hm1
  generalize chrs z0 = A at *
  generalize chrs z1 = B at *
  go_enter Try.func8, Try.ntmps8
  go_wp2_with fail
  refine (awake_any w).mono ?_
  rintro e w1 ⟨rfl, hE1⟩
  have HE1 := Lib.hid hE1
  clear hE1
  go_wp2_with fail
  refine (T0.out w1 HE1.out).mono ?_
  rintro e w2 ⟨aA, cA, rfl, hA, hE2⟩
  have HE2 := Lib.hid (HE1.out.trans hE2)
  have HA2 := Lib.hid hA
  clear hA hE2 HE1 
  go_wp2_with fail
  refine (T1.out w2 HE2.out).mono ?_
  rintro e w3 ⟨aB, cB, rfl, hB, hE3⟩
  have HE3 := Lib.hid (HE2.out.trans hE3)
  have HA3 := Lib.hid (HA2.out.ext hE3)
  have HB3 := Lib.hid hB
  clear hB hE3 HE2 HA2
  have hl24 : lcs A B ≤ 24 := by have := lcs_le_left A B; omega
  go_upto_block 0 with fail
  go_cut [9, 10] (fun v9 _ wr => ∃ n, v9 = .int .i64 ((n : Nat) : Int) ∧ n ≤ lcs A B ∧ ∃ nd, wr = w3.drewN nd)
  case first =>
    go_wp2_with fail
    go_loopw [9, 10, 24] (fun v9 v10 v24 wr => ∃ i n q, i ≤ A.length ∧ v24 = .int .i64 ((i : Nat) : Int) ∧ v9 = .int .i64 ((n : Nat) : Int) ∧ v10 = .int .i64 ((q : Nat) : Int) ∧ q ≤ B.length ∧ Com A B i q n ∧ ∃ nd, wr = w3.drewN nd) (fun _ _ v24 _ => A.length - (intOf v24).toNat)
    case atStart => exact ⟨0, 0, 0, by omega, rfl, rfl, rfl, by omega, ⟨[], List.nil_sublist _, List.nil_sublist _, rfl⟩, 0, rfl⟩
    case round =>
      obtain ⟨i, n, q, hi, rfl, rfl, rfl, hq, hcom, nd, rfl⟩ := hrel
      have hn24 : n ≤ 24 := by have := hcom.le; omega
      have HC := Lib.hid hcom
      clear hcom
      by_cases hlt : i < A.length
      · obtain ⟨av, hav⟩ := some_of_lt hlt
        obtain ⟨ba, oa, ra, hca⟩ := HA3.out.get (strs_get hav)
        subst ra
        have Hav := Lib.hid hav
        clear hav
        have hi32 : (i : Int) % 32 = i := by omega
        go_wp2_with fail
        · go_roundw
          case rel => exact ⟨i + 1, n, q, by omega, by go_num, rfl, rfl, hq, HC.out.skip, nd, rfl⟩
          case measure => simp [intOf]; omega
        · obtain ⟨wo, hwo⟩ : ∃ wo : World, wo = w3.drewN nd := ⟨_, rfl⟩
          go_loopw [9, 10, 12] (fun v9 v10 v12 wr => ∃ k, q ≤ k ∧ k ≤ B.length ∧ v12 = .int .i64 ((k : Nat) : Int) ∧ v9 = .int .i64 (n : Int) ∧ v10 = .int .i64 (q : Int) ∧ ∃ nd, wr = w3.drewN nd) (fun _ _ v12 _ => B.length - (intOf v12).toNat)
          case atStart => exact ⟨q, Nat.le_refl _, hq, rfl, rfl, rfl, nd, rfl⟩
          case round =>
            clear hwo
            obtain ⟨k, hqk, hkB, rfl, rfl, rfl, nd2, rfl⟩ := hrel
            by_cases hk : k < B.length
            · obtain ⟨bv, hbv⟩ := some_of_lt hk
              obtain ⟨bb, ob, rb, hcb⟩ := HB3.out.get (strs_get hbv)
              subst rb
              have Hbv := Lib.hid hbv
              clear hbv
              by_cases hab : av = bv
              · subst hab
                have hbe : (av.toList == av.toList) = true := by simp
                go_wp2_with fail
                go_quiet (fail)
                go_wp2_with fail
                go_roundw
                case rel => exact ⟨i + 1, n + 1, k + 1, by omega, by go_num, by go_num, by go_num, by omega, HC.out.hit Hav.out Hbv.out hqk, nd2 + nq, rfl⟩
                case measure => simp [intOf]; omega
              · have hbe : (av.toList == bv.toList) = false := by rw [beq_toList]; simp [hab]
                go_wp2_with fail
                go_quiet (fail)
                go_wp2_with fail
                go_roundw
                case rel => exact ⟨k + 1, by omega, by omega, by go_num, rfl, rfl, nd2 + nq, rfl⟩
                case measure => simp [intOf]; omega
            · go_wp2_with fail
              go_roundw
              case rel => exact ⟨i + 1, n, q, by omega, by go_num, rfl, rfl, hq, HC.out.skip, nd2, rfl⟩
              case measure => simp [intOf]; omega
      · go_wp2_with fail
        go_meet
        exact ⟨n, rfl, HC.out.le, nd, rfl⟩
  case rest =>
    obtain ⟨n, rfl, hn, nd, rfl⟩ := hcut
    have hEd : Ext w3 (w3.drewN nd) := (Ext.refl w3).drewN nd
    go_wp2_with fail
    refine (align_any aA aB _ cA _ cB A B _ rfl rfl (HA3.out.ext hEd) (HB3.out.ext hEd) hA24 hB24 SA.out SB.out).mono ?_
    rintro e w4 ⟨v4, rfl, hown4⟩
    obtain ⟨aL, cL, rfl, hatL⟩ := hown4.atM
    have hE4 : Ext w3 w4 := hEd.trans hown4.ext0
    have HA4 := Lib.hid (HA3.out.ext hE4)
    have HB4 := Lib.hid (HB3.out.ext hE4)
    have HL4 := Lib.hid hatL
    have HE4 := Lib.hid (HE3.out.trans hE4)
    clear hown4 hatL hE4 HA3 HB3 HE3 hEd
    have hlen := al_length A 0 0 B
    have Hlen := Lib.hid hlen
    clear hlen
    obtain ⟨L, hL⟩ : ∃ L, lcs A B = L := ⟨_, rfl⟩
    rw [hL] at hl24 hn
    have HL := Lib.hid hL
    clear hL
    rw [Hlen.out, HL.out]
    go_wp2_with fail
    go_loopw [14, 15, 59] (fun _ _ v59 wr => ∃ k, k ≤ L ∧ v59 = .int .i64 ((k : Nat) : Int) ∧ Ext w4 wr) (fun _ _ v59 _ => L - (intOf v59).toNat)
    case atStart => exact ⟨0, by omega, rfl, Ext.refl _⟩
    case round =>
      obtain ⟨k, hk, rfl, hEr⟩ := hrel
      have HEr := Lib.hid hEr
      clear hEr
      by_cases hlt : k < L
      · obtain ⟨p, hp⟩ := some_of_lt (show k < (al 0 A 0 B).length by rw [Hlen.out, HL.out]; exact hlt)
        obtain ⟨_, _, c, hpa, hpb⟩ := al_mem A 0 0 B p (List.mem_of_getElem? hp)
        rw [Nat.sub_zero] at hpa hpb
        have hp1 := (List.getElem?_eq_some_iff.1 hpa).1
        have hp2 := (List.getElem?_eq_some_iff.1 hpb).1
        obtain ⟨q0, q1⟩ := pairs_get hp
        obtain ⟨b1, o1, r1, f0, f1⟩ := HL4.out.get2 q0 q1
        obtain ⟨ba, oa, ra, hca⟩ := HA4.out.get (strs_get hpa)
        obtain ⟨bb, ob, rb, hcb⟩ := HB4.out.get (strs_get hpb)
        have f0' := HEr.out.cell f0
        have f1' := HEr.out.cell f1
        have hca' := HEr.out.cell hca
        have hcb' := HEr.out.cell hcb
        have Hp := Lib.hid hp
        subst ra rb r1
        clear hpa hpb q0 q1 hp f0 f1 hca hcb
        obtain ⟨p1, p2⟩ := p
        simp only at hp1 hp2 f0' f1' hca' hcb'
        obtain ⟨bx, hbx⟩ : ∃ bx, bx = wr.heap.size := ⟨_, rfl⟩
        obtain ⟨wX, hwX⟩ : ∃ wX, wX = wr.alloc (.cells #[.int .i64 (p1 : Int), .int .i64 (p2 : Int)] 32) := ⟨_, rfl⟩
        have hx0 : wX.cell? ⟨bx, 0, none⟩ = some (.int .i64 (p1 : Int)) := by rw [hwX, World.cell?_alloc_at _ _ _ _ hbx]; rfl
        have hx1 : wX.cell? ⟨bx, 1, none⟩ = some (.int .i64 (p2 : Int)) := by rw [hwX, World.cell?_alloc_at _ _ _ _ hbx]; rfl
        have hEx : Ext wr wX := by rw [hwX]; exact (Below.refl _ _).alloc (Nat.le_refl _) _
        have hcaX := hEx.cell hca'
        have hcbX := hEx.cell hcb'
        have Hbx := Lib.hid hbx
        have HwX := Lib.hid hwX
        have HEx := Lib.hid hEx
        have g1 : decide ((p1 : Int) < 0) = false := by simp
        have g2 : decide ((p2 : Int) < 0) = false := by simp
        have g3 : decide (A.length ≤ p1) = false := by simp; omega
        have g4 : decide (B.length ≤ p2) = false := by simp; omega
        have g5 : (!c.toList == c.toList) = false := by simp
        clear hbx hwX hEx
        by_cases hk0 : 0 < k
        · obtain ⟨pr, hpr⟩ := some_of_lt (show k - 1 < (al 0 A 0 B).length by rw [Hlen.out, HL.out]; omega)
          have hasc := asc_next (al_asc A 0 0 B) hpr (by rw [show k - 1 + 1 = k by omega]; exact Hp.out)
          obtain ⟨q0, q1⟩ := pairs_get hpr
          obtain ⟨b2, o2, r2, d0, d1⟩ := HL4.out.get2 q0 q1
          have e2 := Option.some.inj r2
          simp only [Addr.mk.injEq, and_true] at e2
          obtain ⟨rfl, rfl⟩ := e2
          have d0' := HEx.out.cell (HEr.out.cell d0)
          have d1' := HEx.out.cell (HEr.out.cell d1)
          obtain ⟨pr1, pr2⟩ := pr
          simp only at hasc d0' d1'
          have g6 : decide (p1 ≤ pr1) = false := by simp; omega
          have g7 : decide (p2 ≤ pr2) = false := by simp; omega
          clear q0 q1 d0 d1 r2 hasc hpr
          obtain ⟨m, rfl⟩ : ∃ m, k = m + 1 := ⟨k - 1, by omega⟩
          simp only [Nat.add_sub_cancel] at d0' d1'
          go_upto_region 19 with fail
          rw [← HwX.out, ← Hbx.out]
          clear f0' f1' hca' hcb'
          go_quiet (fail)
          go_wp2_with fail
          go_roundw
          case rel => exact ⟨m + 1 + 1, by omega, by go_num, (HEr.out.trans HEx.out).drewN nq⟩
          case measure => simp [intOf]; omega
        · have hk0' : decide ((0 : Int) < (k : Int)) = false := by simp; omega
          have hk0'' : decide (0 < k) = false := by simp; omega
          go_upto_region 19 with fail
          rw [← HwX.out, ← Hbx.out]
          clear f0' f1' hca' hcb'
          go_quiet (fail)
          go_wp2_with fail
          go_roundw
          case rel => exact ⟨k + 1, by omega, by go_num, (HEr.out.trans HEx.out).drewN nq⟩
          case measure => simp [intOf]; omega
      · have hkL : k = L := by omega
        subst hkL
        go_wp2
        go_ret
        exact ⟨rfl, HE4.out.trans HEr.out⟩
end Go.Proofs.Ythkkjbigfnimbaa
