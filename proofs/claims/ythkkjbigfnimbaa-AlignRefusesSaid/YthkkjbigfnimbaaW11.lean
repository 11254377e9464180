/- Walks: Edits. -/
import Derived.Test.YthkkjbigfnimbaaW10
import Derived.Test.YthkkjbigfnimbaaW4
namespace Go.Proofs.Ythkkjbigfnimbaa
open Go.RowKit
theorem Try.info49 : (Try.prog.info? 49).map (fun i => (i.zero, i.size, i.bytes)) = some (some (.agg #[.int .i64 0, .int .i64 0, .slice none 0 0, .slice none 0 0]), 4, 64) := by kernel_rfl
theorem el24 : Try.prog.underlying 24 = some (.slice (Try.prog.elem 24)) := by kernel_rfl
theorem sz24 (w : World) : (sizeOf (Try.prog.elem 24)).run Try.prog w = .ok 1 w := by kernel_rfl

/-- A round of Edits. -/
def EdR (a b : List ByteArray) (w2 : World) (v5 v6 v7 : Value) (wr : World) (t : Nat) : Prop :=
  ∃ i j vs es, v6 = .int .i64 ((i : Nat) : Int) ∧ v7 = .int .i64 ((j : Nat) : Int) ∧ Own w2.heap.size 49 4 w2 wr v5 vs.length (edcs vs) ∧ EdsV wr vs es ∧ Dis wr v5 vs ∧ vs.length ≤ t ∧
    editsOf a b = es ++ eds a b ((alEnd a b).drop t) i j ∧ Asc i j ((alEnd a b).drop t) ∧ (t < (alEnd a b).length → i ≤ a.length ∧ j ≤ b.length)

/-- Behind the round's test. -/
def EdC (a b : List ByteArray) (w2 : World) (t p1 p2 bx : Nat) (v5 : Value) (wx : World) : Prop :=
  ∃ vs es, Own w2.heap.size 49 4 w2 wx v5 vs.length (edcs vs) ∧ EdsV wx vs es ∧ Dis wx v5 vs ∧ vs.length ≤ t + 1 ∧ editsOf a b = es ++ eds a b ((alEnd a b).drop (t + 1)) (p1 + 1) (p2 + 1) ∧
    wx.cell? ⟨bx, 0, none⟩ = some (.int .i64 (p1 : Int)) ∧ wx.cell? ⟨bx, 1, none⟩ = some (.int .i64 (p2 : Int))

set_option maxHeartbeats 4000000 in
set_option maxRecDepth 100000 in
theorem edits_any (a1 a2 : Option Addr) (n c1 m c2 : Nat) (a b : List ByteArray) (w : World) (hn : n = a.length) (hm : m = b.length) (h1 : At w a1 c1 (strs a)) (h2 : At w a2 c2 (strs b))
    (hn24 : n ≤ 24) (hm24 : m ≤ 24) (hs1 : ∀ s ∈ a, s.size ≤ 9223372036854775807) (hs2 : ∀ s ∈ b, s.size ≤ 9223372036854775807) :
    Calls Try.prog 16 #[.slice a1 n c1, .slice a2 m c2] w fun e w' => ∃ v vs, e = .returned v ∧ Own w.heap.size 49 4 w w' v (editsOf a b).length (edcs vs) ∧ EdsV w' vs (editsOf a b) := by
  obtain ⟨i0, hi, hz0, hz1, hz2⟩ := info_parts Try.info32
  obtain ⟨i1, hi1, hy0, hy1, hy2⟩ := info_parts Try.info49
  have hA := align_any a1 a2 n c1 m c2 a b w hn hm h1 h2 hn24 hm24 hs1 hs2
  have HA := Lib.hid hA
  have HN := Lib.hid hn
  have HM := Lib.hid hm
  have hl : (al 0 a 0 b).length ≤ 24 := by rw [al_length]; have := lcs_le_left a b; omega
  clear hA hn hm hs1 hs2
  go_enter Try.func16, Try.ntmps16
  go_wp2_with fail
  refine HA.out.mono ?_
  rintro e w1 ⟨v, rfl, hown⟩
  go_wp2_with (at_builtin; go_must (refine wpList_app1 rfl _ _ 26 rfl _ 32 w i0 (.agg #[.int .i64 0, .int .i64 0]) 2 16 Try.underlying26 hi hz0 hz1 hz2 rfl (by decide) _ (al 0 a 0 b).length _ rfl hown _ _ rfl rfl rfl (oneCell_two _ _ rfl rfl) (by omega) (by decide) ?_); intro v' w2 hown' hgrow'; clear hown; obtain ⟨ap, cp, hv', hat⟩ := hown'.atM; rw [hv'])
  have hat2 : AtM w2 ap (pairs (alEnd a b)) := by
    have e : pairs (alEnd a b) = pairs (al 0 a 0 b) ++ [.int .i64 (n : Int), .int .i64 (m : Int)] := by rw [alEnd, pairs_snoc, HN.out, HM.out]
    rw [e]; exact hat
  have hE2 : Ext w w2 := hown'.ext0
  have hlen : (al 0 a 0 b).length + 1 = (alEnd a b).length := by simp [alEnd]
  have H1 := Lib.hid (h1.ext hE2)
  have H2 := Lib.hid (h2.ext hE2)
  have HP := Lib.hid hat2
  have HE := Lib.hid hE2
  have HLen := Lib.hid hlen
  clear hv' hat hat2 hE2 hown' hgrow' h1 h2 HA hlen
  generalize (al 0 a 0 b).length = Lp at *
  go_loopw [5, 6, 7, 21] (fun v5 v6 v7 v21 wr => ∃ t, t ≤ Lp + 1 ∧ v21 = .int .i64 (t : Int) ∧ EdR a b w2 v5 v6 v7 wr t) (fun _ _ _ v21 _ => Lp + 1 - (intOf v21).toNat)
  case atStart => exact ⟨0, by omega, rfl, 0, 0, [], [], rfl, rfl, Own.nil _ _ _ _ (Nat.le_refl _), trivial, (fun x hx => by cases hx), Nat.le_refl _, by simp [editsOf], by simpa using alEnd_asc a b, fun _ => ⟨Nat.zero_le _, Nat.zero_le _⟩⟩
  case round =>
    obtain ⟨t, ht, rfl, i, j, vs, es, rfl, rfl, hown, heds, hdis, hvl, htot, hasc, hij⟩ := hrel
    by_cases hlt : t < Lp + 1
    · obtain ⟨p, hp⟩ := some_of_lt (show t < (alEnd a b).length by rw [← HLen.out]; exact hlt)
      obtain ⟨g0, g1⟩ := pairs_get hp
      obtain ⟨bp, op, rp, c0, c1'⟩ := HP.out.get2 g0 g1
      have f0 := hown.ext0.cell c0
      have f1 := hown.ext0.cell c1'
      have hij' := hij (by rw [← HLen.out]; exact hlt)
      have hdr : (alEnd a b).drop t = p :: (alEnd a b).drop (t + 1) := drop_cons hp
      rw [hdr] at htot hasc
      have hw := alEnd_within a b p (List.mem_of_getElem? hp)
      rw [← HN.out, ← HM.out] at hw hij'
      obtain ⟨hw1, hw2⟩ := hw
      obtain ⟨hi1', hj1'⟩ := hij'
      obtain ⟨ha1, ha2, ha3⟩ := hasc
      subst rp
      have HO := Lib.hid hown
      have HEds := Lib.hid heds
      have HDis := Lib.hid hdis
      have HTot := Lib.hid htot
      have HAsc := Lib.hid ha3
      have Hp := Lib.hid hp
      clear hown heds hdis htot ha3 hp g0 g1 c0 c1' hij hdr
      obtain ⟨p1, p2⟩ := p
      simp only at ha1 ha2 hw1 hw2 f0 f1
      obtain ⟨al', hsl1, hatl⟩ := slice_fromto (P := Try.prog) 24 el24 sz24 a1 n c1 i p1 ha1 (by have := H1.out.cap; rw [strs_length, ← HN.out] at this; omega)
      obtain ⟨ar', hsl2, hatr⟩ := slice_fromto (P := Try.prog) 24 el24 sz24 a2 m c2 j p2 ha2 (by have := H2.out.cap; rw [strs_length, ← HM.out] at this; omega)
      have HL := Lib.hid (hatl w2 _ H1.out)
      have HRt := Lib.hid (hatr w2 _ H2.out)
      clear hatl hatr
      obtain ⟨bx, hbx⟩ : ∃ bx, bx = wr.heap.size := ⟨_, rfl⟩
      obtain ⟨wX, hwX⟩ : ∃ wX, wX = wr.alloc (.cells #[.int .i64 (p1 : Int), .int .i64 (p2 : Int)] 32) := ⟨_, rfl⟩
      have hx0 : wX.cell? ⟨bx, 0, none⟩ = some (.int .i64 (p1 : Int)) := by rw [hwX, World.cell?_alloc_at _ _ _ _ hbx]; rfl
      have hx1 : wX.cell? ⟨bx, 1, none⟩ = some (.int .i64 (p2 : Int)) := by rw [hwX, World.cell?_alloc_at _ _ _ _ hbx]; rfl
      have hEx : Ext wr wX := by rw [hwX]; exact (Below.refl _ _).alloc (Nat.le_refl _) _
      have Hbx := Lib.hid hbx
      have HwX := Lib.hid hwX
      have HEx := Lib.hid hEx
      clear hbx hwX hEx
      go_upto_region 6 with fail
      rw [← HwX.out, ← Hbx.out]
      go_cut [34] (fun s34 wx => s34 = .bool (decide (i < p1 ∨ j < p2)) ∧ wx = wX)
      case first =>
        by_cases hc1 : i < p1
        · go_wp2_with fail
          go_meet
          exact ⟨by simp [hc1], rfl⟩
        · by_cases hc2 : j < p2
          · have hc1' : decide (i < p1) = false := by simp; omega
            go_wp2_with fail
            go_meet
            exact ⟨by simp [hc2], rfl⟩
          · have hc1' : decide (i < p1) = false := by simp; omega
            have hc2' : decide (j < p2) = false := by simp; omega
            go_wp2_with fail
            go_meet
            exact ⟨by simp [hc1, hc2], rfl⟩
      case rest =>
        obtain ⟨rfl, hwc⟩ := hcut
        subst hwc
        go_upto_if 34 with fail
        go_cut [5] (fun v5 wx => EdC a b w2 t p1 p2 bx v5 wx)
        case first =>
          by_cases hcond : i < p1 ∨ j < p2
          · have hc' : decide (i < p1 ∨ j < p2) = true := by simp [hcond]
            have hE2x := (HO.out.ext0.trans HEx.out)
            have hcl : ∀ W, Ext wc W → Calls Try.prog 26 #[.slice al' (p1 - i) (c1 - i)] W fun e w' => ∃ a' c', e = .returned (.slice a' (p1 - i) c') ∧ At w' a' c' (strs ((a.take p1).drop i)) ∧ Ext W w' ∧ ∀ g, a' = some g → W.heap.size ≤ g.block ∧ g.block < w'.heap.size := by
              intro W hW
              refine clone_any al' (p1 - i) (c1 - i) ((a.take p1).drop i) W (by have := HN.out; simp; omega) ?_ (by omega)
              have := HL.out.ext (hE2x.trans hW)
              simpa [strs, List.map_take, List.map_drop] using this
            have hcr : ∀ W, Ext wc W → Calls Try.prog 26 #[.slice ar' (p2 - j) (c2 - j)] W fun e w' => ∃ a' c', e = .returned (.slice a' (p2 - j) c') ∧ At w' a' c' (strs ((b.take p2).drop j)) ∧ Ext W w' ∧ ∀ g, a' = some g → W.heap.size ≤ g.block ∧ g.block < w'.heap.size := by
              intro W hW
              refine clone_any ar' (p2 - j) (c2 - j) ((b.take p2).drop j) W (by have := HM.out; simp; omega) ?_ (by omega)
              have := HRt.out.ext (hE2x.trans hW)
              simpa [strs, List.map_take, List.map_drop] using this
            have hne : some bx ≠ u5.ownBlock := fun e => by have := (HO.out.own.lt bx e.symm).2; have := Hbx.out; omega
            have HNe := Lib.hid hne
            clear hne
            have HCl := Lib.hid hcl
            have HCr := Lib.hid hcr
            clear hcl hcr hE2x
            go_wp2_with fail
            go_region_held3 (fun w' => w'.cell? ⟨bx, 0, none⟩ = some (.int .i64 (p1 : Int)) ∧ w'.cell? ⟨bx, 1, none⟩ = some (.int .i64 (p2 : Int)))
              (first | go_keep | exact ⟨hgrow5.grown.cell (he4.cell (he3.cell hx0)) HNe.out, hgrow5.grown.cell (he4.cell (he3.cell hx1)) HNe.out⟩ | exact ⟨he4.cell (he3.cell hx0), he4.cell (he3.cell hx1)⟩ | exact ⟨he3.cell hx0, he3.cell hx1⟩)
              (first
                | (go_at_call_of 26 (Value.slice al' (p1 - i) (c1 - i)); refine (HCl.out _ ((Ext.refl wc).drewN 1)).mono ?_; rintro e w3 ⟨a3, c3, rfl, hat3, he3, hf3⟩)
                | (go_at_call_of 26 (Value.slice ar' (p2 - j) (c2 - j)); refine (HCr.out _ (((Ext.refl wc).drewN 1).trans he3)).mono ?_; rintro e w4 ⟨a4, c4, rfl, hat4, he4, hf4⟩)
                | (refine step_app1 rfl _ _ 38 rfl _ 49 w2 i1 (.agg #[.int .i64 0, .int .i64 0, .slice none 0 0, .slice none 0 0]) 4 64 Try.underlying38 hi1 hy0 hy1 hy2 rfl (by decide) _ vs.length _ rfl (((HO.out.ext HEx.out).ext (((Ext.refl wc).drewN 1).trans he3)).ext he4) _ _ rfl rfl rfl (oneCell_four _ _ _ _ rfl rfl rfl rfl) (by omega) (by decide) ?_; intro v5' w5 hown5 hgrow5))
            go_wp2_with fail
            go_meet
            have hE3 : Ext wc w4 := (((Ext.refl wc).drewN 1).trans he3).trans he4
            have hnew : EdV w4 ⟨i, j, a3, p1 - i, c3, a4, p2 - j, c4⟩ ⟨i, j, (a.take p1).drop i, (b.take p2).drop j⟩ :=
              ⟨rfl, rfl, by have := HN.out; simp; omega, by have := HM.out; simp; omega, hat3.ext he4, hat4⟩
            have hd1 : Dis w4 u5 (vs ++ [⟨i, j, a3, p1 - i, c3, a4, p2 - j, c4⟩]) := by
              refine (HDis.out.ext (HEx.out.trans hE3)).snoc (fun g hg => ?_)
              have hlt5 := HO.out.own.lt
              have hs0 := HEx.out.size
              rcases hg with hg | hg
              · have := hf3 g hg
                refine ⟨Nat.lt_of_lt_of_le this.2 he4.size, fun e => ?_⟩
                have h6 := (hlt5 _ e).2
                have h7 : wc.heap.size ≤ g.block := this.1
                omega
              · have := hf4 g hg
                refine ⟨this.2, fun e => ?_⟩
                have h6 := (hlt5 _ e).2
                have h8 := he3.size
                have h9 : wc.heap.size ≤ w3.heap.size := h8
                omega
            obtain ⟨hes, hds⟩ := hgrow5.eds ((HEds.out.ext (HEx.out.trans hE3)).snoc hnew) hd1
            refine ⟨vs ++ [⟨i, j, a3, p1 - i, c3, a4, p2 - j, c4⟩], es ++ [⟨i, j, (a.take p1).drop i, (b.take p2).drop j⟩], ?_, hes, hds, by simp; omega, ?_, hgrow5.grown.cell (he4.cell (he3.cell hx0)) HNe.out, hgrow5.grown.cell (he4.cell (he3.cell hx1)) HNe.out⟩
            · rw [edcs_snoc, List.length_append]; exact hown5
            · rw [HTot.out, eds]; simp only; rw [if_pos hcond, List.append_assoc]
          · have hc' : decide (i < p1 ∨ j < p2) = false := by simp [hcond]
            go_wp2_with fail
            go_meet
            refine ⟨vs, es, HO.out.ext HEx.out, HEds.out.ext HEx.out, HDis.out.ext HEx.out, by omega, ?_, hx0, hx1⟩
            rw [HTot.out, eds]; simp only; rw [if_neg hcond]; rfl
        case rest =>
          obtain ⟨vs', es', hown', heds', hdis', hvl', htot', hy0', hy1'⟩ := hcut
          have HO' := Lib.hid hown'
          have HEds' := Lib.hid heds'
          have HDis' := Lib.hid hdis'
          have HTot' := Lib.hid htot'
          clear hown' heds' hdis' htot' hx0 hx1
          go_wp2_with fail
          go_quiet (fail)
          go_wp2_with fail
          go_roundw
          case rel =>
            refine ⟨t + 1, by omega, by go_num, p1 + 1, p2 + 1, vs', es', by go_num, by go_num, HO'.out.drewN nq, HEds'.out.ext ((Ext.refl _).drewN nq), HDis'.out, hvl', HTot'.out, HAsc.out, fun h9 => ?_⟩
            obtain ⟨q, hq⟩ := some_of_lt h9
            have h10 := HAsc.out
            rw [drop_cons hq] at h10
            have h11 := alEnd_within a b q (List.mem_of_getElem? hq)
            have := h10.1
            have := h10.2.1
            omega
          case measure => simp [intOf]; omega
    · have htn : t = Lp + 1 := by omega
      have hfin : editsOf a b = es := by rw [htot, List.drop_of_length_le (by rw [← HLen.out]; omega)]; simp [eds]
      have HF := Lib.hid hfin
      have HO := Lib.hid hown
      have HEds := Lib.hid heds
      have HLv := Lib.hid heds.length
      clear hfin hown heds hdis htot hasc hij
      subst htn
      go_wp2
      go_ret
      exact ⟨_, vs, rfl, by rw [HF.out, ← HLv.out]; exact HO.out.weaken HE.out.size HE.out, by rw [HF.out]; exact HEds.out⟩
end Go.Proofs.Ythkkjbigfnimbaa
