/- Walks: Align. -/
import Derived.Test.YthkkjbigfnimbaaW5
import Derived.Test.YthkkjbigfnimbaaW6
import Derived.Test.YthkkjbigfnimbaaW1
import Derived.Test.YthkkjbigfnimbaaComM
import Derived.Deep.CutBlock
namespace Go.Proofs.Ythkkjbigfnimbaa
open Go.RowKit

theorem Try.info32 : (Try.prog.info? 32).map (fun i => (i.zero, i.size, i.bytes)) = some (some (.agg #[.int .i64 0, .int .i64 0]), 2, 16) := by kernel_rfl
theorem el56 : Try.prog.underlying 56 = some (.slice (Try.prog.elem 56)) := by kernel_rfl
theorem sz56 (w : World) : (sizeOf (Try.prog.elem 56)).run Try.prog w = .ok 1 w := by kernel_rfl

theorem idx_inj {ks : List ByteArray} {s t : ByteArray} (hs : s ∈ ks) (ht : t ∈ ks) (h : (ks.idxOf s : Int) = (ks.idxOf t : Int)) : s = t := by
  have h' : ks.idxOf s = ks.idxOf t := by omega
  have a1 : ks.idxOf s < ks.length := List.idxOf_lt_length_of_mem hs
  have a2 : ks.idxOf t < ks.length := List.idxOf_lt_length_of_mem ht
  have e1 : ks[ks.idxOf s] = s := List.getElem_idxOf a1
  have e2 : ks[ks.idxOf t] = t := List.getElem_idxOf a2
  rw [← e1, ← e2]; congr 1

theorem al_nums (l1 l2 : List ByteArray) : al 0 (nums (addAll (addAll [] l1) l2) l1) 0 (nums (addAll (addAll [] l1) l2) l2) = al 0 l1 0 l2 := by
  apply al_map
  intro s hs t ht h
  obtain ⟨r, hr⟩ := addAll_sub l2 (addAll [] l1)
  exact idx_inj (ks := addAll (addAll [] l1) l2) (by rw [hr]; exact List.mem_append_left _ (mem_addAll l1 [] s hs)) (mem_addAll l2 _ t ht) h

theorem idxI_eq (l : List Int) (v : Int) : idxI l v = if l.idxOf v < l.length then (l.idxOf v : Int) else -1 := rfl

theorem ints_drop (X : List Int) (k : Nat) : ints (X.drop k) = (ints X).drop k := by simp [ints, List.map_drop]

set_option maxHeartbeats 4000000 in
set_option maxRecDepth 100000 in
theorem align_any (a1 a2 : Option Addr) (n1 c1 n2 c2 : Nat) (l1 l2 : List ByteArray) (w : World) (hn1 : n1 = l1.length) (hn2 : n2 = l2.length) (h1 : At w a1 c1 (strs l1)) (h2 : At w a2 c2 (strs l2))
    (hm1 : n1 ≤ 24) (hm2 : n2 ≤ 24) (hs1 : ∀ s ∈ l1, s.size ≤ 9223372036854775807) (hs2 : ∀ s ∈ l2, s.size ≤ 9223372036854775807) :
    Calls Try.prog 11 #[.slice a1 n1 c1, .slice a2 n2 c2] w fun e w' => ∃ v, e = .returned v ∧ Own w.heap.size 32 2 w w' v (al 0 l1 0 l2).length (pairs (al 0 l1 0 l2)) := by
  obtain ⟨i0, hi, hz0, hz1, hz2⟩ := info_parts Try.info32
  have HN1 := Lib.hid hn1
  have HN2 := Lib.hid hn2
  have HS1 := Lib.hid hs1
  have HS2 := Lib.hid hs2
  clear hn1 hn2 hs1 hs2
  go_enter Try.func11, Try.ntmps11
  go_wp2_with fail
  refine (number_any a1 a2 n1 c1 n2 c2 l1 l2 w HN1.out HN2.out h1 h2 (by omega) (by omega) HS1.out HS2.out).mono ?_
  rintro e wN ⟨ax, cx, ay, cy, rfl, hx, hy, hext⟩
  have hal := al_nums l1 l2
  obtain ⟨X, hX⟩ : ∃ X, X = nums (addAll (addAll [] l1) l2) l1 := ⟨_, rfl⟩
  obtain ⟨Y, hY⟩ : ∃ Y, Y = nums (addAll (addAll [] l1) l2) l2 := ⟨_, rfl⟩
  rw [← hX] at hx hal
  rw [← hY] at hy hal
  have hXl : n1 = X.length := by rw [hX, HN1.out]; simp [nums]
  have hYl : n2 = Y.length := by rw [hY, HN2.out]; simp [nums]
  have HAL := Lib.hid hal
  have HXL := Lib.hid hXl
  have HYL := Lib.hid hYl
  have HE := Lib.hid hext
  clear hX hY hXl hYl hal hext HS1 HS2 h1 h2
  go_upto_block 0 with fail
  go_cut [7, 8] (fun v7 v8 wr => ∃ k ps, k ≤ n1 ∧ k ≤ n2 ∧ v8 = .int .i64 (k : Int) ∧ Own wN.heap.size 32 2 wN wr v7 k (pairs ps) ∧ ps.length = k ∧ al 0 X 0 Y = ps ++ al k (X.drop k) k (Y.drop k))
  case first =>
    go_wp2_with fail
    go_loopw [7, 8] (fun v7 v8 wr => ∃ k ps, k ≤ n1 ∧ k ≤ n2 ∧ v8 = .int .i64 (k : Int) ∧ Own wN.heap.size 32 2 wN wr v7 k (pairs ps) ∧ ps.length = k ∧ al 0 X 0 Y = ps ++ al k (X.drop k) k (Y.drop k)) (fun _ v8 _ => n1 - (intOf v8).toNat)
    case atStart => exact ⟨0, [], by omega, by omega, rfl, Own.nil _ _ _ _ (Nat.le_refl _), rfl, by simp⟩
    case round =>
      obtain ⟨k, ps, hk1, hk2, rfl, hown, hpl, hal⟩ := hrel
      have HP : Hid (ps.length = k ∧ al 0 X 0 Y = ps ++ al k (X.drop k) k (Y.drop k)) := ⟨hpl, hal⟩
      have HO := Lib.hid hown
      clear hpl hal hown
      by_cases hb1 : k < n1
      · by_cases hb2 : k < n2
        · obtain ⟨xv, hxv⟩ := some_of_lt (show k < X.length by rw [← HXL.out]; exact hb1)
          obtain ⟨yv, hyv⟩ := some_of_lt (show k < Y.length by rw [← HYL.out]; exact hb2)
          obtain ⟨bx, ox, rx, hcx⟩ := hx.get (ints_get hxv)
          obtain ⟨b_y, oy, ry, hcy⟩ := hy.get (ints_get hyv)
          have hcx' := HO.out.ext0.cell hcx
          have hcy' := HO.out.ext0.cell hcy
          subst rx ry
          have Hxv := Lib.hid hxv
          have Hyv := Lib.hid hyv
          clear hxv hyv hcx hcy
          have Hx := Lib.hid hx
          have Hy := Lib.hid hy
          clear hx hy
          by_cases hxy : xv = yv
          · subst hxy
            go_wp2_with fail
            go_quiet (fail)
            have hown := HO.out.drewN nq
            go_wp2_with (at_builtin; go_must (refine wpList_app1 rfl _ _ 26 rfl _ 32 wN i0 (.agg #[.int .i64 0, .int .i64 0]) 2 16 Try.underlying26 hi hz0 hz1 hz2 rfl (by decide) _ k _ rfl hown _ _ rfl rfl rfl (oneCell_two _ _ rfl rfl) (by omega) (by decide) ?_); intro v' w' hown' _; clear hown)
            go_roundw
            case rel =>
              refine ⟨k + 1, ps ++ [(k, k)], by omega, by omega, by go_num, by rw [pairs_snoc]; exact hown', by simp [HP.out.1], ?_⟩
              obtain ⟨e1, rfl⟩ := List.getElem?_eq_some_iff.1 Hxv.out
              obtain ⟨e2, e3⟩ := List.getElem?_eq_some_iff.1 Hyv.out
              rw [HP.out.2, List.drop_eq_getElem_cons e1, List.drop_eq_getElem_cons e2, e3, al_same, List.append_assoc]
              rfl
            case measure => simp [intOf]; omega
          · have hxy' : (xv == yv) = false := by simp [hxy]
            go_wp2_with fail
            go_quiet (fail)
            go_wp2_with fail
            go_meet
            exact ⟨k, ps, hk1, hk2, rfl, HO.out.drewN nq, HP.out⟩
        · have hb2' : decide ((k : Int) < (n2 : Int)) = false := by simp; omega
          have hb2'' : decide (k < n2) = false := by simp; omega
          go_wp2_with fail
          go_quiet (fail)
          go_wp2_with fail
          go_meet
          exact ⟨k, ps, hk1, hk2, rfl, HO.out.drewN nq, HP.out⟩
      · have hb2' : decide ((k : Int) < (n1 : Int)) = false := by simp; omega
        have hb2'' : decide (k < n1) = false := by simp; omega
        go_wp2_with fail
        go_quiet (fail)
        go_wp2_with fail
        go_meet
        exact ⟨k, ps, hk1, hk2, rfl, HO.out.drewN nq, HP.out⟩
  case rest =>
    obtain ⟨k, ps, hk1, hk2, rfl, hown, hpl, hal⟩ := hcut
    obtain ⟨ax', hslx, hatx⟩ := slice_from (P := Try.prog) 56 el56 sz56 ax n1 cx k hk1
    obtain ⟨ay', hsly, haty⟩ := slice_from (P := Try.prog) 56 el56 sz56 ay n2 cy k hk2
    have HO := Lib.hid hown
    have HP : Hid (ps.length = k ∧ al 0 X 0 Y = ps ++ al k (X.drop k) k (Y.drop k)) := ⟨hpl, hal⟩
    have HX' := Lib.hid (hatx wN (ints X) hx)
    have HY' := Lib.hid (haty wN (ints Y) hy)
    clear hatx haty hown hpl hal hx hy
    go_wp2_with fail
    go_quiet (fail)
    go_wp2_with fail
    obtain ⟨X', hX'⟩ : ∃ X', X' = X.drop k := ⟨_, rfl⟩
    obtain ⟨Y', hY'⟩ : ∃ Y', Y' = Y.drop k := ⟨_, rfl⟩
    have hxN : At wN ax' (cx - k) (ints X') := by rw [hX', ints_drop]; exact HX'.out
    have hyN : At wN ay' (cy - k) (ints Y') := by rw [hY', ints_drop]; exact HY'.out
    have hx : At (wc.drewN nq) ax' (cx - k) (ints X') := hxN.ext (HO.out.ext0.drewN nq)
    have hy : At (wc.drewN nq) ay' (cy - k) (ints Y') := hyN.ext (HO.out.ext0.drewN nq)
    have hxl : n1 - k = X'.length := by rw [hX']; simp [← HXL.out]
    have hyl : n2 - k = Y'.length := by rw [hY']; simp [← HYL.out]
    have hal : al 0 X 0 Y = ps ++ al k X' k Y' := by rw [hX', hY']; exact HP.out.2
    have hpl := HP.out.1
    have hown := HO.out.drewN nq
    generalize wc.drewN nq = w1 at hx hy hown ⊢
    obtain ⟨nx, hnx⟩ : ∃ nx, nx = n1 - k := ⟨_, rfl⟩
    obtain ⟨ny, hny⟩ : ∃ ny, ny = n2 - k := ⟨_, rfl⟩
    rw [← hnx, ← hny]
    rw [← hnx] at hxl
    rw [← hny] at hyl
    have hnx24 : nx ≤ 24 := by omega
    have hny24 : ny ≤ 24 := by omega
    have hkx : k + nx ≤ 24 := by omega
    have hky : k + ny ≤ 24 := by omega
    have HXL' := Lib.hid hxl
    have HYL' := Lib.hid hyl
    have HAL' := Lib.hid hal
    have HPL := Lib.hid hpl
    clear HX' HY' HP HO hX' hY' hnx hny hxl hyl hal hpl hslx hsly hk1 hk2
    refine (rows_any ax' ay' nx _ ny _ X' Y' w1 HXL'.out HYL'.out hx hy hnx24 hny24).mono ?_
    rintro e w2 ⟨g, rfl, htab, he2⟩
    obtain ⟨g0, hg0, hc0, hc0'⟩ := htab.2 0 (Nat.zero_le _)
    have hown2 := hown.ext he2
    have HT := Lib.hid htab
    have HO2 := Lib.hid hown2
    have hrv := rowv_lt X' Y' 0 (by have := HYL'.out; omega)
    have hSlt : ∀ q, u7.ownBlock = some q → q < w1.heap.size := fun q hq => (hown.own.lt q hq).2
    have HSL := Lib.hid hSlt
    have HXN := Lib.hid hxN
    have HYN := Lib.hid hyN
    have hpc0 : pcN 24 (rowv X' Y' 0) = lcs X' Y' := by have := rowv_pc X' Y' 0 0 (Nat.zero_le _) (by have := HYL'.out; omega); simpa [LL] using this
    clear hown hown2 htab hx hy hSlt hxN hyN
    go_wp2_with fail
    refine (from_int g0 0 _ 0 _ hrv (by omega) (by omega) hc0').mono ?_
    rintro e w3 ⟨rfl, rfl⟩
    go_wp2_with fail
    have HPC := Lib.hid hpc0
    clear hpc0 hc0 hc0' hg0 hrv he2
    go_loopw [7, 10, 11, 12] (fun v7 v10 v11 v12 wr => ∃ i j ps, i ≤ nx ∧ j ≤ ny ∧ v12 = .int .i64 (i : Int) ∧ v10 = .int .i64 (j : Int) ∧ v11 = .int .i64 ((lcs (X'.drop i) (Y'.drop j) : Nat) : Int) ∧
      Own wN.heap.size 32 2 wN wr v7 ps.length (pairs ps) ∧ al 0 X 0 Y = ps ++ al (k + i) (X'.drop i) (k + j) (Y'.drop j) ∧ ps.length ≤ k + i ∧ But (fun q => u7.ownBlock = some q) w2 wr ∧ Loc (fun q => u7.ownBlock = some q) w2 v7) (fun _ _ _ v12 _ => nx - (intOf v12).toNat)
    case atStart => exact ⟨0, 0, ps, by omega, by omega, rfl, rfl, by simp, by rw [HPL.out]; exact HO2.out, by simpa using HAL'.out, by rw [HPL.out]; omega, But.refl _ _, fun g hg => .inl hg⟩
    case round =>
      clear HO2 HPL HAL' HPC ps
      obtain ⟨i, j, ps, hin, hjn, rfl, rfl, rfl, hown, hal, hpl, hbut, hloc⟩ := hrel
      have HO := Lib.hid hown
      have HA := Lib.hid hal
      have HB := Lib.hid hbut
      have HLoc := Lib.hid hloc
      clear hown hal hbut hloc
      have hL24 : lcs (X'.drop i) (Y'.drop j) ≤ 24 := by have := lcs_le_right (X'.drop i) (Y'.drop j); have := HYL'.out; simp at *; omega
      obtain ⟨L, hL⟩ : ∃ L, lcs (X'.drop i) (Y'.drop j) = L := ⟨_, rfl⟩
      rw [hL] at hL24 ⊢
      have HL := Lib.hid hL
      clear hL
      by_cases hL0 : 0 < L
      · by_cases hi0 : i < nx
        · obtain ⟨xv, hxv⟩ := some_of_lt (show i < X'.length by rw [← HXL'.out]; exact hi0)
          obtain ⟨bx, ox, rx, hcx⟩ := HXN.out.get (ints_get hxv)
          have hcx' := HO.out.ext0.cell hcx
          obtain ⟨ad, hsl, hat⟩ := slice_from (P := Try.prog) 56 el56 sz56 ay' ny (cy - k) j hjn
          have hatY : At wr ad (cy - k - j) (ints (Y'.drop j)) := by rw [ints_drop]; exact hat wr _ (HYN.out.ext HO.out.ext0)
          have HatY := Lib.hid hatY
          obtain ⟨gt, hgt0, hgt1, hgt2⟩ := (HT.out.but HB.out HSL.out).2 (i + 1) (by rw [← HXL'.out]; omega)
          have Hgt2 := Lib.hid hgt2
          have hdx : X'.drop i = xv :: X'.drop (i + 1) := by
            obtain ⟨e1, e2⟩ := List.getElem?_eq_some_iff.1 hxv
            rw [List.drop_eq_getElem_cons e1, e2]
          have Hdx := Lib.hid hdx
          subst rx
          have Hxv := Lib.hid hxv
          clear hcx hat hatY hgt2 hdx hxv hgt0
          have hidx := idxI_eq (Y'.drop j) xv
          obtain ⟨t, ht⟩ : ∃ t, (Y'.drop j).idxOf xv = t := ⟨_, rfl⟩
          rw [ht] at hidx
          have Ht := Lib.hid ht
          clear ht
          by_cases hf : t < (Y'.drop j).length
          · rw [if_pos hf] at hidx
            have htn : j + t < ny := by have := HYL'.out; simp at hf; omega
            have hcall : ∀ n, Calls Try.prog 24 #[.slice ad (ny - j) (cy - k - j), .int .i64 xv] (wr.drewN n) fun e w' => e = .returned (.int .i64 (t : Int)) ∧ w' = wr.drewN n := by
              intro n; rw [← hidx]
              exact index_any ad (ny - j) _ (Y'.drop j) xv _ (by have := HYL'.out; simp; omega) (HatY.out.ext ((Ext.refl wr).drewN n)) (by omega)
            have HC := Lib.hid hcall
            clear hidx hcall
            have hrv := rowv_lt X' Y' (i + 1) (by have := HYL'.out; omega)
            have hpc : pcN 24 (rowv X' Y' (i + 1) / 2 ^ ((j : Int) + t + 1).toNat) = lcs (X'.drop (i + 1)) ((Y'.drop j).drop (t + 1)) := by
              rw [show ((j : Int) + t + 1).toNat = j + (t + 1) by omega, rowv_pc X' Y' (i + 1) (j + (t + 1)) (by have := HYL'.out; omega) (by have := HYL'.out; omega), LL, List.drop_drop]
            obtain ⟨F, hF⟩ : ∃ F, lcs (X'.drop (i + 1)) ((Y'.drop j).drop (t + 1)) = F := ⟨_, rfl⟩
            rw [hF] at hpc
            have hF24 : F ≤ 24 := by rw [← hF]; have := lcs_le_left (X'.drop (i + 1)) ((Y'.drop j).drop (t + 1)); have := HXL'.out; simp at *; omega
            have HF := Lib.hid hF
            have HPC := Lib.hid hpc
            clear hF hpc
            by_cases hFL : F + 1 = L
            · have hFL' : ((F : Int) + 1 == (L : Int)) = true := by simp; omega
              have HFL := Lib.hid hFL
              clear hFL
              go_wp2_with fail
              go_quiet ((go_at_call 24; exact Calls.quiet_of_same (HC.out _)))
              go_wp2_with fail
              refine (from_int gt 0 _ ((j : Int) + t + 1) (wr.drewN nq) hrv (by omega) (by omega) Hgt2.out).mono ?_
              rintro e w4 ⟨rfl, rfl⟩
              rw [HPC.out]
              have hown := HO.out.drewN nq
              go_wp2_with (at_builtin; go_must (refine wpList_app1 rfl _ _ 26 rfl _ 32 wN i0 (.agg #[.int .i64 0, .int .i64 0]) 2 16 Try.underlying26 hi hz0 hz1 hz2 rfl (by decide) _ _ _ rfl hown _ _ rfl rfl rfl (oneCell_two _ _ rfl rfl) (by omega) (by decide) ?_); intro v' w' hown' hgrow'; clear hown)
              obtain ⟨hbut', hloc'⟩ := hgrow'.but (HB.out.drewN nq) HLoc.out
              go_roundw
              case rel =>
                have hFL := HFL.out
                refine ⟨i + 1, j + (t + 1), ps ++ [(k + i, k + j + t)], by omega, by omega, by go_num, by go_num, ?_, ?_, ?_, ?_, hbut', hloc'⟩
                · have e2 := HF.out
                  rw [List.drop_drop] at e2
                  rw [e2]; go_num
                · rw [pairs_snoc, List.length_append]
                  simp only [Int.natCast_add]
                  exact hown'
                · have e1 : lcs (X'.drop (i + 1)) ((Y'.drop j).drop (t + 1)) + 1 = lcs (xv :: X'.drop (i + 1)) (Y'.drop j) := by rw [HF.out, ← Hdx.out, HL.out, hFL]
                  rw [HA.out, Hdx.out, al_cons_pos Ht.out hf e1, List.append_assoc, List.drop_drop, show k + (i + 1) = k + i + 1 by omega, show k + (j + (t + 1)) = k + j + t + 1 by omega]
                  rfl
                · simp; omega
              case measure => simp [intOf]; omega
            · have hFL' : ((F : Int) + 1 == (L : Int)) = false := by simp; omega
              have Hneg : Hid (¬ ((Y'.drop j).idxOf xv < (Y'.drop j).length ∧ lcs (X'.drop (i + 1)) ((Y'.drop j).drop ((Y'.drop j).idxOf xv + 1)) + 1 = lcs (xv :: X'.drop (i + 1)) (Y'.drop j))) := by
                show ¬ _
                rw [Ht.out, HF.out, ← Hdx.out, HL.out]
                exact fun h => hFL h.2
              clear hFL
              go_wp2_with fail
              go_quiet ((go_at_call 24; exact Calls.quiet_of_same (HC.out _)))
              go_wp2_with fail
              refine (from_int gt 0 _ ((j : Int) + t + 1) (wr.drewN nq) hrv (by omega) (by omega) Hgt2.out).mono ?_
              rintro e w4 ⟨rfl, rfl⟩
              rw [HPC.out]
              go_wp2_with fail
              go_roundw
              case rel =>
                refine ⟨i + 1, j, ps, by omega, hjn, by go_num, rfl, ?_, HO.out.drewN nq, ?_, by omega, HB.out.drewN nq, HLoc.out⟩
                · have h1 := skip_eq Hneg.out
                  rw [← Hdx.out, HL.out] at h1
                  rw [h1]
                · rw [HA.out, Hdx.out, al_cons_neg Hneg.out]; rfl
              case measure => simp [intOf]; omega
          · rw [if_neg hf] at hidx
            have hcall : ∀ n, Calls Try.prog 24 #[.slice ad (ny - j) (cy - k - j), .int .i64 xv] (wr.drewN n) fun e w' => e = .returned (.int .i64 (-1)) ∧ w' = wr.drewN n := by
              intro n; rw [← hidx]
              exact index_any ad (ny - j) _ (Y'.drop j) xv _ (by have := HYL'.out; simp; omega) (HatY.out.ext ((Ext.refl wr).drewN n)) (by omega)
            have HC := Lib.hid hcall
            have Hneg : Hid (¬ ((Y'.drop j).idxOf xv < (Y'.drop j).length ∧ lcs (X'.drop (i + 1)) ((Y'.drop j).drop ((Y'.drop j).idxOf xv + 1)) + 1 = lcs (xv :: X'.drop (i + 1)) (Y'.drop j))) := by
              show ¬ _
              rw [Ht.out]
              exact fun h => hf h.1
            clear hidx hcall hf
            go_wp2_with fail
            go_quiet ((go_at_call 24; exact Calls.quiet_of_same (HC.out _)))
            go_wp2_with fail
            go_roundw
            case rel =>
              refine ⟨i + 1, j, ps, by omega, hjn, by go_num, rfl, ?_, HO.out.drewN nq, ?_, by omega, HB.out.drewN nq, HLoc.out⟩
              · have h1 := skip_eq Hneg.out
                rw [← Hdx.out, HL.out] at h1
                rw [h1]
              · rw [HA.out, Hdx.out, al_cons_neg Hneg.out]; rfl
            case measure => simp [intOf]; omega
        · have hfin : al 0 X 0 Y = ps := by
            rw [HA.out, List.drop_of_length_le (l := X') (by rw [← HXL'.out]; omega)]; simp [al]
          have HFin := Lib.hid hfin
          clear hfin
          go_wp2
          go_ret
          exact ⟨_, rfl, by rw [← HAL.out, HFin.out]; exact HO.out.weaken HE.out.size HE.out⟩
      · have hfin : al 0 X 0 Y = ps := by
          rw [HA.out, al_zero _ _ _ (by rw [HL.out]; omega)]; simp
        have HFin := Lib.hid hfin
        clear hfin
        have hL0' : decide ((0 : Int) < (L : Int)) = false := by simp; omega
        go_wp2
        go_ret
        exact ⟨_, rfl, by rw [← HAL.out, HFin.out]; exact HO.out.weaken HE.out.size HE.out⟩
end Go.Proofs.Ythkkjbigfnimbaa
