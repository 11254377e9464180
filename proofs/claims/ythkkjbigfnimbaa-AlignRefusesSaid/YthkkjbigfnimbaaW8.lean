/- Walks: the reference's common. -/
import Derived.Test.YthkkjbigfnimbaaRows
import Derived.Test.YthkkjbigfnimbaaComM
import Derived.Deep.DeepCutAuto
namespace Go.Proofs.Ythkkjbigfnimbaa
open Go.RowKit
theorem Try.info56 : (Try.prog.info? 56).map (fun i => (i.zero, i.size, i.bytes)) = some (some (.slice none 0 0), 1, 24) := by kernel_rfl
theorem Try.info3' : (Try.prog.info? 3).map (fun i => (i.zero, i.size, i.bytes)) = some (some (.int .i64 0), 1, 8) := by kernel_rfl

set_option maxHeartbeats 4000000 in
set_option maxRecDepth 100000 in
theorem common_any (a1 a2 : Option Addr) (n c1 m c2 : Nat) (x y : List ByteArray) (w : World) (hn : n = x.length) (hm : m = y.length) (h1 : At w a1 c1 (strs x)) (h2 : At w a2 c2 (strs y)) (hn24 : n ≤ 24) (hm24 : m ≤ 24) :
    Calls Try.prog 25 #[.slice a1 n c1, .slice a2 m c2] w fun e w' => ∃ g, e = .returned (.slice (some ⟨g, 0, none⟩) (n + 1) (n + 1)) ∧ TabC w.heap.size w' g x y ∧ Ext w w' := by
  have HN := Lib.hid hn
  have HM := Lib.hid hm
  clear hn hm
  go_enter Try.func25, Try.ntmps25
  go_wp2_with (at_make; go_must (refine wpList_mk rfl _ _ 65 rfl 56 (.slice none 0 0) 24 Try.underlying65 Try.info56 rfl ((n : Int) + 1) rfl rfl (n + 1) (by omega) (by decide) (by omega) ?_); intro w1 hA1 hE1 hz1)
  have hR0 : RC x y w w1 (n + 1) := by have := HN.out; subst this; exact RC.start hE1 hA1
  have HR0 := Lib.hid hR0
  clear hA1 hE1 hz1 hR0
  go_loopw [6] (fun v6 wr => ∃ t, t ≤ n + 1 ∧ v6 = .int .i64 ((t : Int) - 1) ∧ RC x y w wr t) (fun v6 _ => (intOf v6 + 1).toNat)
  case atStart => exact ⟨n + 1, Nat.le_refl _, by go_num, HR0.out⟩
  case round =>
    clear HR0
    obtain ⟨t, ht, rfl, hR⟩ := hrel
    have HR := Lib.hid hR
    clear hR
    by_cases h0 : 1 ≤ t
    · obtain ⟨i, rfl⟩ : ∃ i, t = i + 1 := ⟨t - 1, by omega⟩
      rw [show (((i + 1 : Nat) : Int) - 1) = (i : Int) from by omega]
      go_wp2_with (at_make; go_must (refine wpList_mk rfl _ _ 56 rfl 3 (.int .i64 0) 8 Try.underlying56 Try.info3' rfl ((m : Int) + 1) rfl rfl (m + 1) (by omega) (by decide) (by omega) ?_); intro w3 hB3 hE3 hz3; obtain ⟨sl, hs1, hs2, hs3, hs4, hs5⟩ := RC.made HR.out (by have := HN.out; omega) hE3 (by rw [← HM.out]; exact hB3); obtain ⟨ov, hov⟩ := some_of_lt (show i < sl.length by have := HN.out; omega); have hc3 := hs1.cell hov; have hf3 := hs1.free i; have Hs3 := Lib.hid hs3; have Hs4 := Lib.hid hs4; have Hs5 := Lib.hid hs5; have Hs1 := Lib.hid hs1; clear hs1 hs2 hs3 hs4 hs5 hov)
      obtain ⟨hE4, hg4, hg5⟩ := RC.made2 HR.out (by have := HN.out; omega) hE3
      have hs3 := Hs3.out
      have hs4 := Hs4.out
      have hs5 := Hs5.out
      rw [← HM.out] at hs3 hs4 hs5 hE4 hg5
      generalize w3.setCell ⟨w.heap.size, i, none⟩ (.slice (some ⟨wr.heap.size, 0, none⟩) (m + 1) (m + 1)) = w4 at hs3 hs4 hs5 hE4 hg5 ⊢
      generalize wr.heap.size = gi at hs3 hs4 hs5 hg4 hg5 ⊢
      have HC0 := Lib.hid hs3
      have HCell := Lib.hid hs4
      have HFin := Lib.hid hs5
      have HE4 := Lib.hid hE4
      have HG4 := Lib.hid hg4
      have HG5 := Lib.hid hg5
      clear hs3 hs4 hs5 hE4 hg4 hg5 Hs3 Hs4 Hs5 Hs1 hB3 hE3 hz3 hc3 hf3 HR
      go_loopw [7] (fun v7 wq => ∃ t, t ≤ m ∧ v7 = .int .i64 ((t : Int) - 1) ∧ CI x y w4 wq gi (rowC x y i t)) (fun v7 _ => (intOf v7 + 1).toNat)
      case atStart => exact ⟨m, Nat.le_refl _, rfl, HC0.out⟩
      case round =>
        clear HC0
        obtain ⟨t, htm, rfl, hI⟩ := hrel
        have HI := Lib.hid hI
        clear hI
        by_cases h00 : 1 ≤ t
        · obtain ⟨j, rfl⟩ : ∃ j, t = j + 1 := ⟨t - 1, by omega⟩
          rw [show (((j + 1 : Nat) : Int) - 1) = (j : Int) from by omega]
          by_cases hin : i < n
          · obtain ⟨gj, hj1, hj2, hj3, hj4⟩ := HG5.out (by rw [← HN.out]; exact hin)
            have HJ1 := Lib.hid hj1
            have HJ2 := Lib.hid hj2
            have HJ4 := Lib.hid hj4
            clear hj1 hj2 hj3 hj4
            have hjy : j < y.length := by have := HM.out; omega
            have HJY := Lib.hid hjy
            obtain ⟨f1, f2, f3, f4, f5, f6, f7⟩ := (HI.out.facts0 hjy).facts hjy HG4.out HJ2.out HCell.out HJ1.out HJ4.out
            obtain ⟨p0, hp0⟩ : ∃ p, LL x y (i + 1) j = p := ⟨_, rfl⟩
            obtain ⟨p1, hp1⟩ : ∃ p, LL x y (i + 1) (j + 1) = p := ⟨_, rfl⟩
            obtain ⟨q1, hq1⟩ : ∃ p, LL x y i (j + 1) = p := ⟨_, rfl⟩
            have hbd0 : p0 ≤ 24 := by rw [← hp0]; have := LL_le x y (i + 1) j; have := HM.out; omega
            have hbd1 : p1 ≤ 24 := by rw [← hp1]; have := LL_le x y (i + 1) (j + 1); have := HM.out; omega
            have hbd2 : q1 ≤ 24 := by rw [← hq1]; have := LL_le x y i (j + 1); have := HM.out; omega
            rw [hp0] at f3
            rw [hp1] at f4
            rw [hq1] at f6
            have Hp0 := Lib.hid hp0
            have Hp1 := Lib.hid hp1
            have Hq1 := Lib.hid hq1
            clear hp0 hp1 hq1 hjy
            go_wp2_with fail
            go_cut [51] (fun _ wx => CI x y w4 wx gi ((rowC x y i (j + 1)).set j p0))
            case first =>
              go_region
              go_wp2_with fail
              go_meet
              exact HI.out.put 0 1
            case rest =>
              have HC1 := Lib.hid hcut
              clear hcut f1 f2 f3 f4 f5 f6 f7
              obtain ⟨f1, f2, f3, f4, f5, f6, f7⟩ := HC1.out.facts HJY.out HG4.out HJ2.out HCell.out HJ1.out HJ4.out
              rw [Hp0.out] at f3
              rw [Hp1.out] at f4
              rw [Hq1.out] at f6
              go_wp2_with fail
              go_quiet (fail)
              go_upto_if 67 with fail
              obtain ⟨v1, hv1⟩ : ∃ v, v = max p0 q1 := ⟨_, rfl⟩
              have hbv1 : v1 ≤ 24 := by omega
              have Hv1 := Lib.hid hv1
              clear hv1
              go_cut [81] (fun _ wx => CI x y w4 wx gi ((rowC x y i (j + 1)).set j v1))
              case first =>
                by_cases hpq : p0 < q1
                · go_wp2_with fail
                  go_region
                  go_wp2_with fail
                  go_meet
                  have e : v1 = q1 := by rw [Hv1.out]; omega
                  rw [e]
                  exact HC1.out.again (nq + 1) 0
                · go_wp2_with fail
                  go_meet
                  have e : v1 = p0 := by rw [Hv1.out]; omega
                  rw [e]
                  exact HC1.out.drew nq
              case rest =>
                have HC2 := Lib.hid hcut
                clear hcut HC1 f1 f2 f3 f4 f5 f6 f7
                obtain ⟨f1, f2, f3, f4, f5, f6, f7⟩ := HC2.out.facts HJY.out HG4.out HJ2.out HCell.out HJ1.out HJ4.out
                rw [Hp1.out] at f4
                clear f3 f6
                obtain ⟨av, hav⟩ := some_of_lt (show i < x.length by have := HN.out; omega)
                obtain ⟨bv, hbv⟩ := some_of_lt (show j < y.length from HJY.out)
                obtain ⟨ba, oa, ra, hca⟩ := h1.get (strs_get hav)
                obtain ⟨bb, ob, rb, hcb⟩ := h2.get (strs_get hbv)
                have hax : Ext w wc := (((HE4.out.but (fun _ => False)).andThen HC2.out.but (fun k hk e => by have := HG4.out; omega))).ext (fun _ _ h => h)
                have hca' := hax.cell hca
                have hcb' := hax.cell hcb
                subst ra rb
                have Hav := Lib.hid hav
                have Hbv := Lib.hid hbv
                clear hax hca hcb h1 h2 hav hbv
                by_cases hab : av = bv
                · subst hab
                  have hbe : (av.toList == av.toList) = true := by simp
                  by_cases hgt : v1 < p1 + 1
                  · have hgt' : decide ((v1 : Int) < (p1 : Int) + 1) = true := by simp; omega
                    go_wp2_with fail
                    go_quiet (fail)
                    go_wp2_with fail
                    go_region
                    go_wp2_with fail
                    go_roundw
                    case rel =>
                      refine ⟨j, by omega, rfl, ?_⟩
                      have hv : LL x y i j = (p1 + 1) := com_eq Hav.out Hbv.out (p1 + 1) (by rw [Hp0.out, Hp1.out, Hq1.out, ← Hv1.out]; rw [if_pos ⟨rfl, hgt⟩])
                      rw [← rowC_step (by have := HJY.out; omega), hv]
                      have h9 := HC2.out.again (v := p1 + 1) (nq + 1) 0
                      simpa [World.drewN_zero] using h9
                    case measure => simp [intOf]
                  · have hgt' : decide ((v1 : Int) < (p1 : Int) + 1) = false := by simp; omega
                    go_wp2_with fail
                    go_quiet (fail)
                    go_wp2_with fail
                    go_roundw
                    case rel =>
                      refine ⟨j, by omega, rfl, ?_⟩
                      have hv : LL x y i j = v1 := com_eq Hav.out Hbv.out v1 (by rw [Hp0.out, Hp1.out, Hq1.out, ← Hv1.out]; rw [if_neg (fun h => hgt h.2)])
                      rw [← rowC_step (by have := HJY.out; omega), hv]
                      exact HC2.out.drew nq
                    case measure => simp [intOf]
                · have hbe : (av.toList == bv.toList) = false := by rw [beq_toList]; simp [hab]
                  go_wp2_with fail
                  go_quiet (fail)
                  go_wp2_with fail
                  go_roundw
                  case rel =>
                    refine ⟨j, by omega, rfl, ?_⟩
                    have hv : LL x y i j = v1 := com_eq Hav.out Hbv.out v1 (by rw [Hp0.out, Hp1.out, Hq1.out, ← Hv1.out]; rw [if_neg (fun h => hab h.1)])
                    rw [← rowC_step (by have := HJY.out; omega), hv]
                    exact HC2.out.drew nq
                  case measure => simp [intOf]
          · have hin' : decide ((i : Int) < (n : Int)) = false := by simp; omega
            have hin'' : decide (i < n) = false := by simp; omega
            have hfin := HFin.out _ _ HI.out (by rw [rowC_zero i (j + 1) (.inl (by have := HN.out; omega)) (by have := HM.out; omega), rowC_zero i 0 (.inl (by have := HN.out; omega)) (Nat.zero_le _)])
            have HFinal := Lib.hid hfin
            clear hfin
            go_wp2_with fail
            go_roundw
            case rel => exact ⟨i, by omega, rfl, HFinal.out⟩
            case measure => simp [intOf]
        · obtain rfl : t = 0 := by omega
          have hfin := HFin.out _ _ HI.out rfl
          have HFinal := Lib.hid hfin
          clear hfin
          go_wp2_with fail
          go_roundw
          case rel => exact ⟨i, by omega, rfl, HFinal.out⟩
          case measure => simp [intOf]
    · obtain rfl : t = 0 := by omega
      go_wp2
      go_ret
      exact ⟨w.heap.size, rfl, HR.out.table, HR.out.ext⟩
end Go.Proofs.Ythkkjbigfnimbaa
