/- Walks: rows. -/
import Derived.Test.YthkkjbigfnimbaaRows
import Derived.Test.YthkkjbigfnimbaaRowM
import Derived.Test.YthkkjbigfnimbaaW2
import Derived.Deep.DeepCutAuto
namespace Go.Proofs.Ythkkjbigfnimbaa
open Go.RowKit
theorem Try.info62 : (Try.prog.info? 62).map (fun i => (i.zero, i.size, i.bytes)) = some (some (.slice none 0 0), 1, 24) := by kernel_rfl
theorem Try.info73 : (Try.prog.info? 73).map (fun i => (i.zero, i.size, i.bytes)) = some (some (.int .u64 0), 1, 8) := by kernel_rfl
theorem Try.info21 : (Try.prog.info? 21).map (fun i => (i.zero, i.size, i.bytes)) = some (some (.int .i32 0), 1, 4) := by kernel_rfl


set_option maxHeartbeats 4000000 in
set_option maxRecDepth 100000 in
theorem rows_any (a1 a2 : Option Addr) (n c1 m c2 : Nat) (x y : List Int) (w : World) (hn : n = x.length) (hm : m = y.length) (h1 : At w a1 c1 (ints x)) (h2 : At w a2 c2 (ints y)) (hn24 : n ≤ 24) (hm24 : m ≤ 24) :
    Calls Try.prog 22 #[.slice a1 n c1, .slice a2 m c2] w fun e w' => ∃ g, e = .returned (.slice (some ⟨g, 0, none⟩) (n + 1) (n + 1)) ∧ Table w.heap.size w' g x y ∧ Ext w w' := by
  have HN := Lib.hid hn
  have HM := Lib.hid hm
  have hm0 : (m : Int) / 64 = 0 := by omega
  clear hn hm
  go_enter Try.func22, Try.ntmps22
  have tok1 : True := trivial
  have hmk := mk_eq (P := Try.prog) 72 21 (.int .i32 0) 4 Try.underlying72 Try.info21 rfl ((m : Int) + 1) (m + 1) (by omega) (by decide) (by omega)
  go_wp2_with (first | (at_make; have _t := tok1; go_must (refine wpList_mk rfl _ _ 59 rfl 62 (.slice none 0 0) 24 Try.underlying59 Try.info62 rfl ((n : Int) + 1) rfl rfl (n + 1) (by omega) (by decide) (by omega) ?_); intro w1 hA1 hE1 hz1; clear tok1) | (at_make; go_must (refine wpList_mk rfl _ _ 62 rfl 73 (.int .u64 0) 8 Try.underlying62 Try.info73 rfl 1 rfl rfl 1 (by omega) (by decide) (by omega) ?_); intro w2 hB2 hE2 hz2; have hA2 := hE2.but (fun _ => False); have hA2 := hA2.blk hA1 (fun h => h); have hc2 := hA2.cell (j := n) (v := .slice none 0 0) (by simp); have hf2 := hA2.free n))
  generalize hW : w2.setCell ⟨w.heap.size, n, none⟩ (.slice (some ⟨w.heap.size + 1, 0, none⟩) 1 1) = w3
  have HW := Lib.hid hW
  have HA2 := Lib.hid hA2
  rw [hz1] at hB2
  have HB2 := Lib.hid hB2
  have HE1 := Lib.hid hE1
  have HE2 := Lib.hid hE2
  clear hW hA2 hB2 hE2 hE1 hz2 hz1 hc2 hf2 hA1
  go_cut [6, 7] (fun s6 s7 wx => ∃ gb gn, s6 = .slice (some ⟨gb, 0, none⟩) (m + 1) (m + 1) ∧ s7 = .slice (some ⟨gn, 0, none⟩) (m + 1) (m + 1) ∧ RO x y w wx gb gn n)
  case first =>
    go_region
    all_goals (go_wp2_with fail; go_meet)
    · exact ⟨_, _, rfl, rfl, (RO.first HN.out HM.out HE1.out HE2.out HA2.out HB2.out HW.out).1⟩
    · exact ⟨_, _, rfl, rfl, (RO.first HN.out HM.out HE1.out HE2.out HA2.out HB2.out HW.out).2⟩
  case rest =>
    obtain ⟨gb, gn, rfl, rfl, hR⟩ := hcut
    have HR := Lib.hid hR
    clear hR HW HA2 HB2 HE1 HE2 hmk hA2
    go_wp2
    go_loopw [6, 7, 8] (fun v6 v7 v8 wr => ∃ gb gn t, t ≤ n ∧ v8 = .int .i64 ((t : Int) - 1) ∧ v6 = .slice (some ⟨gb, 0, none⟩) (m + 1) (m + 1) ∧ v7 = .slice (some ⟨gn, 0, none⟩) (m + 1) (m + 1) ∧ RO x y w wr gb gn t) (fun _ _ v8 _ => (intOf v8 + 1).toNat)
    case atStart => exact ⟨gb, gn, n, Nat.le_refl _, rfl, rfl, rfl, HR.out⟩
    case round =>
      clear HR gb gn
      obtain ⟨gb, gn, t, ht, rfl, rfl, rfl, hR⟩ := hrel
      have HR := Lib.hid hR
      clear hR
      by_cases h0 : 1 ≤ t
      · obtain ⟨i, rfl⟩ : ∃ i, t = i + 1 := ⟨t - 1, by omega⟩
        rw [show (((i + 1 : Nat) : Int) - 1) = (i : Int) from by omega]
        go_wp2_with (at_make; go_must (refine wpList_mk rfl _ _ 62 rfl 73 (.int .u64 0) 8 Try.underlying62 Try.info73 rfl 1 rfl rfl 1 (by omega) (by decide) (by omega) ?_); intro w4 hB4 hE4 hz4)
        have HB4 := Lib.hid hB4
        have HE4 := Lib.hid hE4
        have HZ4 := Lib.hid hz4
        clear hB4 hE4 hz4
        obtain ⟨gr, hgr⟩ : ∃ gr, gr = wr.heap.size := ⟨_, rfl⟩
        rw [← hgr]
        have HGR := Lib.hid hgr
        clear hgr
        obtain ⟨wo, hwo⟩ : ∃ wo : World, wo = wr := ⟨_, rfl⟩
        subst hwo
        go_loopw [10] (fun v10 wr => ∃ t, t ≤ m ∧ v10 = .int .i64 ((t : Int) - 1) ∧ RI x y w4 wr gn gr i t) (fun v10 _ => (intOf v10 + 1).toNat)
        case atStart => exact ⟨m, Nat.le_refl _, rfl, by have := RI.start HR.out HE4.out HB4.out; rw [← HM.out] at this; rw [HGR.out]; exact this⟩
        case round =>
          obtain ⟨t, htm, rfl, hI⟩ := hrel
          have HI := Lib.hid hI
          clear hI
          by_cases h00 : 1 ≤ t
          · obtain ⟨j, rfl⟩ : ∃ j, t = j + 1 := ⟨t - 1, by omega⟩
            rw [show (((j + 1 : Nat) : Int) - 1) = (j : Int) from by omega]
            obtain ⟨hgb, e1, e2, e3, nx, hx1, hx2, hx3, hgn⟩ := RI.facts HR.out HE4.out HGR.out HI.out (by have := HM.out; omega) (by have := HM.out; omega)
            obtain ⟨p0, hp0⟩ : ∃ p, LL x y (i + 1) j = p := ⟨_, rfl⟩
            obtain ⟨p1, hp1⟩ : ∃ p, LL x y (i + 1) (j + 1) = p := ⟨_, rfl⟩
            obtain ⟨q1, hq1⟩ : ∃ p, LL x y i (j + 1) = p := ⟨_, rfl⟩
            obtain ⟨o1, ho1⟩ := some_of_lt (show j < nx.length by have := HM.out; omega)
            have hb0 := hgb.cell (j := j) (i32s_get (range_get (LL x y (i + 1)) (by have := HM.out; omega)))
            have hb1 := hgb.cell (j := j + 1) (i32s_get (range_get (LL x y (i + 1)) (by have := HM.out; omega)))
            have hn1 := hgn.cell (j := j + 1) (i32s_get (hx2 (j + 1) (by omega) (by have := HM.out; omega)))
            have hn0 := hgn.cell (j := j) (i32s_get ho1)
            have hfn := hgn.free j
            rw [hp0] at hb0
            rw [hp1] at hb1
            rw [hq1] at hn1
            have hbd0 : p0 ≤ 24 := by rw [← hp0]; have := LL_le x y (i + 1) j; have := HM.out; omega
            have hbd1 : p1 ≤ 24 := by rw [← hp1]; have := LL_le x y (i + 1) (j + 1); have := HM.out; omega
            have hbd2 : q1 ≤ 24 := by rw [← hq1]; have := LL_le x y i (j + 1); have := HM.out; omega
            have Hp0 := Lib.hid hp0
            have Hp1 := Lib.hid hp1
            have Hq1 := Lib.hid hq1
            have Hgb := Lib.hid hgb
            have Hgn := Lib.hid hgn
            have Hx1 := Lib.hid hx1
            have Hx2 := Lib.hid hx2
            have Hx3 := Lib.hid hx3
            have He1 := Lib.hid e1
            have He2 := Lib.hid e2
            have He3 := Lib.hid e3
            clear hp0 hp1 hq1 hgb hgn hx1 hx2 hx3 e1 e2 e3 ho1
            obtain ⟨mx, hmx⟩ : ∃ mx, mx = max p0 q1 := ⟨_, rfl⟩
            have Hmx := Lib.hid hmx
            clear hmx
            go_wp2_with fail
            go_cut [63] (fun _ wx => M1 x y w4 wx gn gr i j nx mx)
            case first =>
              by_cases hpq : p0 < q1
              · go_region
                go_wp2_with fail
                go_meet
                have : mx = q1 := by rw [Hmx.out]; omega
                rw [this]
                exact M1.of HI.out Hgn.out He3.out q1 1
              · go_region
                go_wp2_with fail
                go_meet
                have : mx = p0 := by rw [Hmx.out]; omega
                rw [this]
                exact M1.of HI.out Hgn.out He3.out p0 1
            case rest =>
              have HM1 := Lib.hid hcut
              clear hcut hb0 hb1 hn0 hn1 hfn
              obtain ⟨av, hav⟩ := some_of_lt (show i < x.length by have := HN.out; omega)
              obtain ⟨bv, hbv⟩ := some_of_lt (show j < y.length by have := HM.out; omega)
              obtain ⟨ba, oa, ra, hca⟩ := h1.get (ints_get hav)
              obtain ⟨bb, ob, rb, hcb⟩ := h2.get (ints_get hbv)
              have hrec := LL_rec x y i j av bv hav hbv
              rw [Hp0.out, Hp1.out, Hq1.out] at hrec
              have Hrec := Lib.hid hrec
              have hax : Ext w wc := M1.ext HR.out HE4.out HGR.out HM1.out
              have hca' := hax.cell hca
              have hcb' := hax.cell hcb
              subst ra rb
              have HX := Lib.hid hax
              clear hrec hax hca hcb h1 h2 hav hbv
              by_cases hab : av = bv
              · subst hab
                have hb1 := (HM1.out.but.blk (w := w4) (w' := wc) ((HE4.out.but (fun _ => False)).blk HR.out.below (fun h => h)) (by have := He1.out; have := He2.out; simp; omega)).cell (j := j + 1) (i32s_get (range_get (LL x y (i + 1)) (by have := HM.out; omega)))
                rw [Hp1.out] at hb1
                have hn0 := HM1.out.next.cell (j := j) (v := .int .i32 (mx : Int)) (i32s_get (by rw [List.getElem?_set_self (by have := Hx1.out; have := HM.out; omega)]))
                have hfn := HM1.out.next.free j
                go_wp2_with fail
                go_quiet (fail)
                go_wp2_with fail
                obtain ⟨v, hv⟩ : ∃ v, v = p1 + 1 := ⟨_, rfl⟩
                have hv6 : LL x y i j = v := by rw [hv]; have := Hrec.out; simpa using this
                have hm6 : M1 x y w4 ((wc.drewN nq).setCell ⟨gn, j, none⟩ (.int .i32 ((p1 : Int) + 1))) gn gr i j nx v := by
                  rw [hv]; have := M1.put HM1.out He3.out (p1 + 1) nq 0; simp only [Int.natCast_add, Int.cast_ofNat_Int, World.drewN_zero] at this; exact this
                generalize (wc.drewN nq).setCell ⟨gn, j, none⟩ (.int .i32 ((p1 : Int) + 1)) = w6 at hm6 ⊢
                clear hb1 hn0 hfn hv
                have Hv6 := Lib.hid hv6
                have HM6 := Lib.hid hm6
                have hv0 := HM6.out.next.cell (j := j) (v := .int .i32 (v : Int)) (i32s_get (by rw [List.getElem?_set_self (by have := Hx1.out; have := HM.out; omega)]))
                have hv1 := HM6.out.next.cell (j := j + 1) (v := .int .i32 (q1 : Int)) (i32s_get (by rw [List.getElem?_set_ne (by omega), Hx2.out (j + 1) (by omega) (by have := HM.out; omega), Hq1.out]))
                have hbdv : v ≤ 24 := by rw [← hv6]; have := LL_le x y i j; have := HM.out; omega
                clear hv6 hm6
                by_cases hgt : q1 < v
                · go_quiet (fail)
                  go_wp2_with fail
                  obtain ⟨R0, hR0⟩ : ∃ R0, R0 = 2 ^ (j + 1) * packed (bit x y i) (j + 1) (y.length - (j + 1)) := ⟨_, rfl⟩
                  have hRb : R0 < 16777216 := by rw [hR0]; exact row_bound x y i (j + 1) (by have := HM.out; omega) (by have := HM.out; omega)
                  have hr0 := HM6.out.row.cell (j := 0) (v := .int .u64 (R0 : Int)) (by rw [← hR0]; rfl)
                  have hfr := HM6.out.row.free 0
                  have HR0 := Lib.hid hR0
                  have hj0 : (j : Int) / 64 = 0 := by omega
                  have hj1 : (j : Int) % 64 = j := by omega
                  clear hR0
                  have hor : bits .or .u64 (R0 : Int) ((2 ^ j : Nat) : Int) = ((R0 ||| 2 ^ j : Nat) : Int) := or_u64 _ _ (by omega) (Nat.lt_of_lt_of_le (Nat.pow_lt_pow_right (by decide) (show j < 24 by omega)) (by decide))
                  have Hor := Lib.hid hor
                  clear hor
                  go_region
                  go_wp2_with fail
                  go_roundw
                  case rel =>
                    refine ⟨j, by omega, rfl, ?_⟩
                    have h6 := HM6.out
                    rw [← Hv6.out] at h6
                    rw [shl_u64 j (by omega), Hor.out]
                    exact h6.mark Hx1.out Hx2.out Hx3.out (by have := HM.out; omega) (by have := HM.out; omega) He3.out (by rw [Hv6.out, Hq1.out]; exact hgt) (R0 ||| 2 ^ j) (nq + 1) 0 (by rw [HR0.out])
                  case measure => simp [intOf]
                · go_quiet (fail)
                  go_wp2_with fail
                  go_roundw
                  case rel =>
                    refine ⟨j, by omega, rfl, ?_⟩
                    have h6 := HM6.out
                    rw [← Hv6.out] at h6
                    exact (h6.drew nq).skip Hx1.out Hx2.out Hx3.out (by have := HM.out; omega) (by have := HM.out; omega) (by rw [Hv6.out, Hq1.out]; exact hgt)
                  case measure => simp [intOf]
              · have hab' : (av == bv) = false := by simp [hab]
                go_wp2_with fail
                go_quiet (fail)
                go_wp2_with fail
                obtain ⟨v, hv⟩ : ∃ v, v = mx := ⟨_, rfl⟩
                have hv6 : LL x y i j = v := by rw [hv, Hmx.out]; have := Hrec.out; rw [if_neg hab] at this; exact this
                have hm6 : M1 x y w4 (wc.drewN nq) gn gr i j nx v := by rw [hv]; exact HM1.out.drew nq
                generalize wc.drewN nq = w6 at hm6 ⊢
                clear hv
                have Hv6 := Lib.hid hv6
                have HM6 := Lib.hid hm6
                have hv0 := HM6.out.next.cell (j := j) (v := .int .i32 (v : Int)) (i32s_get (by rw [List.getElem?_set_self (by have := Hx1.out; have := HM.out; omega)]))
                have hv1 := HM6.out.next.cell (j := j + 1) (v := .int .i32 (q1 : Int)) (i32s_get (by rw [List.getElem?_set_ne (by omega), Hx2.out (j + 1) (by omega) (by have := HM.out; omega), Hq1.out]))
                have hbdv : v ≤ 24 := by rw [← hv6]; have := LL_le x y i j; have := HM.out; omega
                clear hv6 hm6
                by_cases hgt : q1 < v
                · go_quiet (fail)
                  go_wp2_with fail
                  obtain ⟨R0, hR0⟩ : ∃ R0, R0 = 2 ^ (j + 1) * packed (bit x y i) (j + 1) (y.length - (j + 1)) := ⟨_, rfl⟩
                  have hRb : R0 < 16777216 := by rw [hR0]; exact row_bound x y i (j + 1) (by have := HM.out; omega) (by have := HM.out; omega)
                  have hr0 := HM6.out.row.cell (j := 0) (v := .int .u64 (R0 : Int)) (by rw [← hR0]; rfl)
                  have hfr := HM6.out.row.free 0
                  have HR0 := Lib.hid hR0
                  have hj0 : (j : Int) / 64 = 0 := by omega
                  have hj1 : (j : Int) % 64 = j := by omega
                  clear hR0
                  have hor : bits .or .u64 (R0 : Int) ((2 ^ j : Nat) : Int) = ((R0 ||| 2 ^ j : Nat) : Int) := or_u64 _ _ (by omega) (Nat.lt_of_lt_of_le (Nat.pow_lt_pow_right (by decide) (show j < 24 by omega)) (by decide))
                  have Hor := Lib.hid hor
                  clear hor
                  go_region
                  go_wp2_with fail
                  go_roundw
                  case rel =>
                    refine ⟨j, by omega, rfl, ?_⟩
                    have h6 := HM6.out
                    rw [← Hv6.out] at h6
                    rw [shl_u64 j (by omega), Hor.out]
                    exact h6.mark Hx1.out Hx2.out Hx3.out (by have := HM.out; omega) (by have := HM.out; omega) He3.out (by rw [Hv6.out, Hq1.out]; exact hgt) (R0 ||| 2 ^ j) (nq + 1) 0 (by rw [HR0.out])
                  case measure => simp [intOf]
                · go_quiet (fail)
                  go_wp2_with fail
                  go_roundw
                  case rel =>
                    refine ⟨j, by omega, rfl, ?_⟩
                    have h6 := HM6.out
                    rw [← Hv6.out] at h6
                    exact (h6.drew nq).skip Hx1.out Hx2.out Hx3.out (by have := HM.out; omega) (by have := HM.out; omega) (by rw [Hv6.out, Hq1.out]; exact hgt)
                  case measure => simp [intOf]
          · obtain rfl : t = 0 := by omega
            obtain ⟨sl, hs1, hs2, hs3⟩ := RI.all HR.out HE4.out HGR.out HI.out
            obtain ⟨ov, hov⟩ := some_of_lt (show i < sl.length by have := HN.out; omega)
            have hc5 := hs1.cell hov
            have hf5 := hs1.free i
            clear hs1 hs2 hs3 hov
            go_wp2_with fail
            go_roundw
            case rel => exact ⟨gn, gb, i, by omega, by go_num, rfl, rfl, RO.step HR.out HE4.out HGR.out HI.out (by have := HN.out; omega) (by have := HM.out; omega) 0⟩
            case measure => simp [intOf]
      · obtain rfl : t = 0 := by omega
        go_wp2
        go_ret
        exact ⟨w.heap.size, rfl, HR.out.table, HR.out.ext⟩
end Go.Proofs.Ythkkjbigfnimbaa
