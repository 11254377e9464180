/- Walks: the reference's Align. -/
import Derived.Test.YthkkjbigfnimbaaW8
import Derived.Deep.CutBlock
namespace Go.Proofs.Ythkkjbigfnimbaa
open Go.RowKit
theorem Try.info33 : (Try.prog.info? 33).map (fun i => (i.zero, i.size, i.bytes)) = some (some (.agg #[.int .i64 0, .int .i64 0]), 2, 16) := by kernel_rfl

set_option maxHeartbeats 4000000 in
set_option maxRecDepth 100000 in
theorem refalign_any (a1 a2 : Option Addr) (n c1 m c2 : Nat) (A B : List ByteArray) (w : World) (hn : n = A.length) (hm : m = B.length) (h1 : At w a1 c1 (strs A)) (h2 : At w a2 c2 (strs B)) (hn24 : n ≤ 24) (hm24 : m ≤ 24) :
    Calls Try.prog 12 #[.slice a1 n c1, .slice a2 m c2] w fun e w' => ∃ v, e = .returned v ∧ Own w.heap.size 33 2 w w' v (al 0 A 0 B).length (pairs (al 0 A 0 B)) := by
  obtain ⟨i0, hi, hz0, hz1, hz2⟩ := info_parts Try.info33
  have HN := Lib.hid hn
  have HM := Lib.hid hm
  clear hn hm
  go_enter Try.func12, Try.ntmps12
  go_wp2_with fail
  refine (common_any a1 a2 n c1 m c2 A B w HN.out HM.out h1 h2 hn24 hm24).mono ?_
  rintro e w2 ⟨g, rfl, htab, he2⟩
  have HT := Lib.hid htab
  have HE := Lib.hid he2
  have H1 := Lib.hid (h1.ext he2)
  have H2 := Lib.hid (h2.ext he2)
  clear htab he2 h1 h2
  go_wp2_with fail
  go_loopw [6, 7, 8] (fun v6 v7 v8 wr => ∃ i k, RefO A B w2 v6 v7 v8 wr i k) (fun _ v7 _ _ => n - (intOf v7).toNat)
  case atStart => exact ⟨0, 0, [], by omega, by omega, rfl, rfl, Own.nil _ _ _ _ (Nat.le_refl _), by simp, Nat.zero_le _⟩
  case round =>
    obtain ⟨p0, q0, ps, hp0, hq0, rfl, rfl, hown, hal, hpl⟩ := hrel
    rw [← HN.out] at hp0
    rw [← HM.out] at hq0
    have HO := Lib.hid hown
    have HA := Lib.hid hal
    have HPL := Lib.hid hpl
    clear hown hal hpl
    obtain ⟨g0, hg0, hg1, hg2⟩ := (HT.out.but (HO.out.ext0.but (fun _ => False)) (fun k h => h.elim)).2 p0 (by rw [← HN.out]; exact hp0)
    rw [← HM.out] at hg1
    have hg3 := hg2 q0 (by rw [← HM.out]; exact hq0)
    have hL24 : LL A B p0 q0 ≤ 24 := by have := LL_le A B p0 q0; have := HM.out; omega
    obtain ⟨L, hL⟩ : ∃ L, LL A B p0 q0 = L := ⟨_, rfl⟩
    rw [hL] at hg3 hL24
    have HL := Lib.hid hL
    have HG2 := Lib.hid hg2
    have HG1 := Lib.hid hg1
    have HG3 := Lib.hid hg3
    clear hL hg2 hg0
    by_cases hL0 : 0 < L
    · go_wp2_with fail
      obtain ⟨wo, hwo⟩ : ∃ wo : World, wo = wr := ⟨_, rfl⟩
      obtain ⟨vo, hvo⟩ : ∃ vo : Value, vo = u6 := ⟨_, rfl⟩
      subst hwo
      subst hvo
      go_loopw [6, 7, 8, 9, 10] (fun v6 v7 v8 v9 v10 wr => ∃ x, x ≤ n ∧ v10 = .int .i64 (x : Int) ∧ RefI A B w2 p0 q0 (fun v6 wr => vo = v6 ∧ p0 ≤ x ∧ (∃ nd, wr = wo.drewN nd) ∧ al p0 (A.drop p0) q0 (B.drop q0) = al x (A.drop x) q0 (B.drop q0) ∧ LL A B x q0 = L) v6 v7 v8 v9 wr) (fun _ _ _ _ v10 _ => n - (intOf v10).toNat)
      case atStart => exact ⟨p0, hp0, rfl, .inl ⟨rfl, rfl, rfl, rfl, Nat.le_refl _, ⟨0, rfl⟩, rfl, HL.out⟩⟩
      case round =>
        obtain ⟨x, hxn, rfl, hR⟩ := hrel
        rcases hR with ⟨rfl, rfl, rfl, rfl, hpx, ⟨nd, rfl⟩, hal, hLx⟩ | ⟨rfl, p', q', hpp, hR⟩
        · have HAx := Lib.hid hal
          have HLx := Lib.hid hLx
          clear hal hLx
          by_cases hx : x < n
          · obtain ⟨av, hav⟩ := some_of_lt (show x < A.length by rw [← HN.out]; exact hx)
            have Hav := Lib.hid hav
            clear hav
            obtain ⟨gx, hgx0, hgx1, hgx2⟩ := (HT.out.but (HO.out.ext0.but (fun _ => False)) (fun k h => h.elim)).2 (x + 1) (by have := HN.out; omega)
            rw [← HM.out] at hgx1
            obtain ⟨ba, oa, ra, hca⟩ := H1.out.get (strs_get Hav.out)
            have hca' := HO.out.ext0.cell hca
            have HGX2 := Lib.hid hgx2
            subst ra
            clear hgx0 hgx2 hca
            go_wp2_with fail
            go_loopw [6, 7, 8, 9, 11] (fun v6 v7 v8 v9 v11 wr => ∃ y, y ≤ m ∧ v11 = .int .i64 (y : Int) ∧ RefI A B w2 p0 q0 (fun v6 wr => vo = v6 ∧ q0 ≤ y ∧ (∃ nd, wr = wo.drewN nd) ∧ ∀ j', q0 ≤ j' → j' < y → ¬ (B[j']? = some av ∧ LL A B (x + 1) (j' + 1) + 1 = L)) v6 v7 v8 v9 wr) (fun _ _ _ _ v11 _ => m - (intOf v11).toNat)
            case atStart => exact ⟨q0, hq0, rfl, .inl ⟨rfl, rfl, rfl, rfl, Nat.le_refl _, ⟨nd, rfl⟩, fun j' h1 h2 => by omega⟩⟩
            case round =>
              clear nd
              obtain ⟨y, hym, rfl, hR⟩ := hrel
              rcases hR with ⟨rfl, rfl, rfl, rfl, hqy, ⟨nd, rfl⟩, hno⟩ | ⟨rfl, p', q', hpp, hR⟩
              · have HNo := Lib.hid hno
                clear hno
                by_cases hy : y < m
                · obtain ⟨bv, hbv⟩ := some_of_lt (show y < B.length by rw [← HM.out]; exact hy)
                  obtain ⟨bb, ob, rb, hcb⟩ := H2.out.get (strs_get hbv)
                  have hcb' := HO.out.ext0.cell hcb
                  have hgx3 := HGX2.out (y + 1) (by have := HM.out; omega)
                  have hF24 : LL A B (x + 1) (y + 1) ≤ 24 := by have := LL_le A B (x + 1) (y + 1); have := HM.out; omega
                  obtain ⟨F, hF⟩ : ∃ F, LL A B (x + 1) (y + 1) = F := ⟨_, rfl⟩
                  rw [hF] at hgx3 hF24
                  have HFx := Lib.hid hF
                  have Hbv := Lib.hid hbv
                  subst rb
                  clear hF hbv hcb
                  by_cases hab : av = bv
                  · subst hab
                    have hbe : (av.toList == av.toList) = true := by simp
                    by_cases hFL : F + 1 = L
                    · have hFL' : ((F : Int) + 1 == (L : Int)) = true := by simp; omega
                      have HFL := Lib.hid hFL
                      clear hFL
                      go_wp2_with fail
                      go_quiet (fail)
                      have hown := HO.out.drewN (nd + nq)
                      have hps : ps.length ≤ 24 := by have := HPL.out; omega
                      go_wp2_with (at_builtin; go_must (refine wpList_app1 rfl _ _ 28 rfl _ 33 w2 i0 (.agg #[.int .i64 0, .int .i64 0]) 2 16 Try.underlying28 hi hz0 hz1 hz2 rfl (by decide) _ ps.length _ rfl hown _ _ rfl rfl rfl (oneCell_two _ _ rfl rfl) (by omega) (by decide) ?_); intro v' w' hown' _; clear hown)
                      go_roundw
                      case rel =>
                        refine ⟨y + 1, by omega, by go_num, .inr ⟨rfl, x + 1, y + 1, by omega, ps ++ [(x, y)], by have := HN.out; omega, by have := HM.out; omega, by go_num, by go_num, by rw [pairs_snoc, List.length_append]; exact hown', ?_, by have := HPL.out; simp; omega⟩⟩
                        rw [HA.out, HAx.out, ref_pick Hav.out Hbv.out hqy HLx.out (by rw [HFx.out]; exact HFL.out) HNo.out, List.append_assoc]
                        rfl
                      case measure => simp [intOf]; omega
                    · have hFL' : ((F : Int) + 1 == (L : Int)) = false := by simp; omega
                      go_wp2_with fail
                      go_quiet (fail)
                      go_wp2_with fail
                      go_roundw
                      case rel =>
                        refine ⟨y + 1, by omega, by go_num, .inl ⟨rfl, rfl, rfl, rfl, by omega, ⟨nd + nq, rfl⟩, fun j' h1 h2 => ?_⟩⟩
                        by_cases e : j' = y
                        · subst e; rw [Hbv.out, HFx.out]; exact fun h => hFL h.2
                        · exact HNo.out j' h1 (by omega)
                      case measure => simp [intOf]; omega
                  · have hbe : (av.toList == bv.toList) = false := by rw [beq_toList]; simp [hab]
                    go_wp2_with fail
                    go_quiet (fail)
                    go_wp2_with fail
                    go_roundw
                    case rel =>
                      refine ⟨y + 1, by omega, by go_num, .inl ⟨rfl, rfl, rfl, rfl, by omega, ⟨nd + nq, rfl⟩, fun j' h1 h2 => ?_⟩⟩
                      by_cases e : j' = y
                      · subst e; rw [Hbv.out, HFx.out]; exact fun h => hab (Option.some.inj h.1).symm
                      · exact HNo.out j' h1 (by omega)
                    case measure => simp [intOf]; omega
                · obtain rfl : y = m := by omega
                  have hsk := ref_skip Hav.out HLx.out (by rw [← HM.out]; exact HNo.out)
                  have HSk := Lib.hid hsk
                  clear hsk
                  go_wp2_with fail
                  go_roundw
                  case rel => exact ⟨x + 1, by omega, by go_num, .inl ⟨rfl, rfl, rfl, rfl, by omega, ⟨nd, rfl⟩, by rw [HAx.out]; exact HSk.out.1, HSk.out.2⟩⟩
                  case measure => simp [intOf]; omega
              · have HR' := Lib.hid hR
                clear hR
                by_cases hy : y < m
                · go_wp2_with fail
                  go_roundw
                  case rel => exact ⟨x + 1, by omega, by go_num, .inr ⟨rfl, p', q', hpp, HR'.out⟩⟩
                  case measure => simp [intOf]; omega
                · go_wp2_with fail
                  go_roundw
                  case rel => exact ⟨x + 1, by omega, by go_num, .inr ⟨rfl, p', q', hpp, HR'.out⟩⟩
                  case measure => simp [intOf]; omega
          · exfalso
            have := HLx.out
            rw [LL_top A B x q0 (by have := HN.out; omega)] at this
            omega
        · have HR' := Lib.hid hR
          clear hR
          by_cases hx : x < n
          · go_wp2_with fail
            go_roundw
            case rel => exact ⟨p', q', HR'.out⟩
            case measure =>
              obtain ⟨_, k1, _, k3, _⟩ := HR'.out
              rw [k3]
              have := HN.out
              simp [intOf]; omega
          · go_wp2_with fail
            go_roundw
            case rel => exact ⟨p', q', HR'.out⟩
            case measure =>
              obtain ⟨_, k1, _, k3, _⟩ := HR'.out
              rw [k3]
              have := HN.out
              simp [intOf]; omega
    · have hfin : al 0 A 0 B = ps := by
        rw [HA.out, al_zero _ _ _ (by have := HL.out; unfold LL at this; omega)]; simp
      have HFin := Lib.hid hfin
      clear hfin
      go_wp2
      go_ret
      exact ⟨_, rfl, by rw [HFin.out]; exact HO.out.weaken HE.out.size HE.out⟩
end Go.Proofs.Ythkkjbigfnimbaa
