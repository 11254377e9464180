/- Walks: Apply. -/
import Derived.Test.YthkkjbigfnimbaaW11
namespace Go.Proofs.Ythkkjbigfnimbaa
open Go.RowKit

/-- What Apply answers. -/
def ApPost (w : World) (bad good : Value) (r : Option (List ByteArray)) (e : Ending) (w' : World) : Prop :=
  Ext w w' ∧ match r with
    | none => e = .returned (.tuple #[.slice none 0 0, bad])
    | some r => ∃ a' c', e = .returned (.tuple #[.slice a' r.length c', good]) ∧ At w' a' c' (strs r)

/-- A round of Apply. -/
def ApR (a : List ByteArray) (es : List Ed) (w : World) (v6 v7 : Value) (wr : World) (t : Nat) : Prop :=
  ∃ (e : Nat) (acc : List ByteArray), v7 = .int .i64 (e : Int) ∧ e ≤ a.length ∧ Own w.heap.size 9 1 w wr v6 acc.length (strs acc) ∧ acc.length ≤ t * 100 ∧ applyE a es 0 [] = applyE a (es.drop t) e acc

set_option maxHeartbeats 4000000 in
set_option maxRecDepth 100000 in
theorem apply_any (aa ad : Option Addr) (n c ln lc : Nat) (a : List ByteArray) (vs : List EV) (es : List Ed) (w : World) (hn : n = a.length) (hln : ln = vs.length) (h1 : At w aa c (strs a)) (h2 : AtM w ad (edcs vs)) (h3 : EdsV w vs es)
    (hn24 : n ≤ 24) (hl : ln ≤ 1000) (hr : ∀ x ∈ es, x.r.length ≤ 50 ∧ x.l.length ≤ 50) :
    Calls Try.prog 18 #[.slice aa n c, .slice ad ln lc] w (ApPost w (.int .i64 14) (.int .i64 0) (applyE a es 0 [])) := by
  obtain ⟨i0, hi, hz0, hz1, hz2⟩ := info_parts Try.info9
  have HN := Lib.hid hn
  have HLN := Lib.hid hln
  have HR := Lib.hid hr
  have H1 := Lib.hid h1
  have H2 := Lib.hid h2
  have H3 := Lib.hid h3
  clear hn hln hr h1 h2 h3
  go_enter Try.func18, Try.ntmps18
  go_wp2_with fail
  go_loopw [6, 7, 12] (fun v6 v7 v12 wr => ∃ t, t ≤ ln ∧ v12 = .int .i64 (t : Int) ∧ ApR a es w v6 v7 wr t) (fun _ _ v12 _ => ln - (intOf v12).toNat)
  case atStart => exact ⟨0, by omega, rfl, 0, [], rfl, by omega, Own.nil _ _ _ _ (Nat.le_refl _), by simp, by simp⟩
  case round =>
    obtain ⟨t, ht, rfl, e, acc, rfl, hea, hown, hacc, htot⟩ := hrel
    rw [← HN.out] at hea
    have HO := Lib.hid hown
    have HTot := Lib.hid htot
    clear hown htot
    by_cases hlt : t < ln
    · obtain ⟨v, hv⟩ := some_of_lt (show t < vs.length by rw [← HLN.out]; exact hlt)
      obtain ⟨x, hx, hxv⟩ := EdsV.get H3.out hv
      obtain ⟨d0, d1, d2, d3⟩ := edcs_get hv
      obtain ⟨b, off, rd, g0, g1, g2, g3⟩ := H2.out.get4 d0 d1 d2 d3
      have f0 := HO.out.ext0.cell g0
      have f1 := HO.out.ext0.cell g1
      have f2 := HO.out.ext0.cell g2
      have f3 := HO.out.ext0.cell g3
      have hxr := HR.out x (List.mem_of_getElem? hx)
      have hdrop := drop_cons hx
      have htot := HTot.out
      rw [hdrop] at htot
      have HTot2 := Lib.hid htot
      have HXV := Lib.hid hxv
      subst rd
      clear d0 d1 d2 d3 g0 g1 g2 g3 htot hdrop hx hv HTot
      obtain ⟨xa, xb, la, ll, lcc, ra, rl, rc⟩ := v
      simp only at f0 f1 f2 f3
      have hll : ll = x.l.length := HXV.out.ll
      have hrl : rl = x.r.length := HXV.out.rl
      have hxa : xa = x.a := HXV.out.a
      have hll50 : ll ≤ 50 := by omega
      have hrl50 : rl ≤ 50 := by omega
      obtain ⟨bx, hbx⟩ : ∃ bx, bx = wr.heap.size := ⟨_, rfl⟩
      obtain ⟨wX, hwX⟩ : ∃ wX, wX = wr.alloc (.cells #[.int .i64 xa, .int .i64 xb, .slice la ll lcc, .slice ra rl rc] 49) := ⟨_, rfl⟩
      have hx0 : wX.cell? ⟨bx, 0, none⟩ = some (.int .i64 xa) := by rw [hwX, World.cell?_alloc_at _ _ _ _ hbx]; rfl
      have hx2 : wX.cell? ⟨bx, 2, none⟩ = some (.slice la ll lcc) := by rw [hwX, World.cell?_alloc_at _ _ _ _ hbx]; rfl
      have hx3 : wX.cell? ⟨bx, 3, none⟩ = some (.slice ra rl rc) := by rw [hwX, World.cell?_alloc_at _ _ _ _ hbx]; rfl
      have hEx : Ext wr wX := by rw [hwX]; exact (Below.refl _ _).alloc (Nat.le_refl _) _
      have Hll := Lib.hid hll
      have Hrl := Lib.hid hrl
      have Hxa := Lib.hid hxa
      have Hbx := Lib.hid hbx
      have HwX := Lib.hid hwX
      have HEx := Lib.hid hEx
      clear hbx hwX hEx hll hrl hxa
      go_upto_region 6 with fail
      rw [← HwX.out, ← Hbx.out]
      clear f0 f1 f2 f3
      by_cases k1 : xa < e
      · have HBad : Hid (bad a x e) := .inl (by rw [← Hxa.out]; exact k1)
        go_quiet (fail)
        go_wp2
        go_ret2
        exact ⟨((HO.out.ext0.trans HEx.out).drewN _), by rw [HTot2.out, applyE, if_pos HBad.out]; rfl⟩
      · have k1' : decide (xa < (e : Int)) = false := by simp; omega
        by_cases k2 : (n : Int) < xa
        · have HBad : Hid (bad a x e) := .inr (.inl (by rw [← Hxa.out, ← HN.out]; exact k2))
          go_quiet (fail)
          go_wp2
          go_ret2
          exact ⟨((HO.out.ext0.trans HEx.out).drewN _), by rw [HTot2.out, applyE, if_pos HBad.out]; rfl⟩
        · have k2' : decide ((n : Int) < xa) = false := by simp; omega
          obtain ⟨xn, hxn⟩ := Int.eq_ofNat_of_zero_le (show 0 ≤ xa by omega)
          subst hxn
          have k5 : e ≤ xn := by omega
          have k6 : xn ≤ n := by omega
          clear k1 k2
          have k1n : decide (xn < e) = false := by simp; omega
          have k2n : decide (n < xn) = false := by simp; omega
          by_cases k3 : (n : Int) - xn < ll
          · have HBad : Hid (bad a x e) := .inr (.inr (.inl (by rw [← Hxa.out, ← HN.out, ← Hll.out]; exact k3)))
            go_quiet (fail)
            go_wp2
            go_ret2
            exact ⟨((HO.out.ext0.trans HEx.out).drewN _), by rw [HTot2.out, applyE, if_pos HBad.out]; rfl⟩
          · have k3' : decide ((n : Int) - xn < ll) = false := by simp; omega
            have k7 : xn + ll ≤ n := by omega
            clear k3
            have hcap : n ≤ c := by have := H1.out.cap; rw [strs_length, ← HN.out] at this; exact this
            obtain ⟨a4, hsl4, hat4⟩ := slice_fromto (P := Try.prog) 24 el24 sz24 aa n c xn (xn + ll) (by omega) (by omega)
            obtain ⟨a5, hsl5, hat5⟩ := slice_fromto (P := Try.prog) 24 el24 sz24 aa n c e xn k5 (by omega)
            have hsl4' : ∀ w, (Instr.slice 24 (.slice aa n c) (some (.int .i64 (xn : Int))) (some (.int .i64 ((xn : Int) + ll))) none).run Try.prog w = .ok (.slice a4 ll (c - xn)) w := by
              intro w; have := hsl4 w; rw [Int.natCast_add, show xn + ll - xn = ll by omega] at this; exact this
            have hA4 : At w a4 (c - xn) (strs ((a.take (xn + ll)).drop xn)) := by have := hat4 w _ H1.out; simpa [strs, List.map_take, List.map_drop] using this
            have hA5 : At w a5 (c - e) (strs ((a.take xn).drop e)) := by have := hat5 w _ H1.out; simpa [strs, List.map_take, List.map_drop] using this
            have HA4 := Lib.hid hA4
            have HA5 := Lib.hid hA5
            have hEq : ∀ nq, Calls Try.prog 27 #[.slice a4 ll (c - xn), .slice la ll lcc] (wX.drewN nq) fun e' w' => e' = .returned (.bool (decide ((a.take (xn + ll)).drop xn = x.l))) ∧ ∃ m, w' = (wX.drewN nq).drewN m := by
              intro nq
              have hE := ((HO.out.ext0.trans HEx.out).drewN nq)
              exact equal_any a4 la ll ll _ _ _ x.l _ (by have := HN.out; simp; omega) Hll.out (HA4.out.ext hE) (HXV.out.l.ext hE) (by omega)
            clear hsl4 hat4 hat5 hA4 hA5
            by_cases k8 : (a.take (xn + ll)).drop xn = x.l
            · have k8' : decide ((a.take (xn + ll)).drop xn = x.l) = true := by simp [k8]
              rw [k8'] at hEq
              have HEq := Lib.hid hEq
              have HOk : Hid (¬ bad a x e) := by
                show ¬ bad a x e
                unfold bad
                rw [← Hxa.out, ← HN.out, ← Hll.out, Int.toNat_natCast]
                intro h9
                rcases h9 with h9 | h9 | h9 | h9
                · omega
                · omega
                · omega
                · exact h9 k8
              clear hEq k8 k8'
              go_quiet ((go_at_call 27; exact Calls.quiet_of (HEq.out _)))
              have hEX : Ext wr (wX.drewN nq) := HEx.out.drewN nq
              have hown := HO.out.ext hEX
              have hne : some bx ≠ u6.ownBlock := fun e => by have := (HO.out.own.lt bx e.symm).2; have := Hbx.out; omega
              have HNe := Lib.hid hne
              have HEX := Lib.hid hEX
              have Hx0 : Hid ((wX.drewN nq).cell? ⟨bx, 0, none⟩ = some (.int .i64 (xn : Int))) := hx0
              have Hx2 : Hid ((wX.drewN nq).cell? ⟨bx, 2, none⟩ = some (.slice la ll lcc)) := hx2
              have Hx3 : Hid ((wX.drewN nq).cell? ⟨bx, 3, none⟩ = some (.slice ra rl rc)) := hx3
              have tok1 : True := trivial
              clear hne hEX
              go_wp2_with (first | (at_builtin; have _t := tok1; go_must (refine wpList_appN rfl _ _ 24 rfl w.heap.size 9 w i0 (.string ⟨#[]⟩) 16 Try.underlying24 hi hz0 hz1 hz2 rfl _ acc.length _ rfl hown a5 (xn - e) (c - e) (strs ((a.take xn).drop e)) rfl (by rw [strs_length]; have := HN.out; simp; omega) (HA5.out.ext (HO.out.ext0.trans HEX.out)) (oneCell_strs _) (by omega) (by decide) ?_); intro v3 w3 hown3 hgrow3; have hy0 := hgrow3.grown.cell Hx0.out HNe.out; have hy2 := hgrow3.grown.cell Hx2.out HNe.out; have hy3 := hgrow3.grown.cell Hx3.out HNe.out; have HG3 := Lib.hid hgrow3; clear tok1 hown hx0 hx2 hx3) | (at_builtin; go_must (refine wpList_appN rfl _ _ 24 rfl w.heap.size 9 w i0 (.string ⟨#[]⟩) 16 Try.underlying24 hi hz0 hz1 hz2 rfl _ (acc.length + (xn - e)) _ rfl hown3 ra rl rc (strs x.r) rfl (by rw [strs_length]; exact Hrl.out) (HXV.out.r.ext hown3.ext0) (oneCell_strs _) (by omega) (by decide) ?_); intro v4 w4 hown4 hgrow4; have hne3 : some bx ≠ v3.ownBlock := (by rcases HG3.out.loc with h9 | ⟨q, h9, h10⟩; (rw [h9]; exact HNe.out); (rw [h9]; intro h11; have h12 := Option.some.inj h11; have h13 := World.block_lt_of_cell? _ _ Hx0.out; simp only at h13; omega)); have hz0' := hgrow4.grown.cell hy0 hne3; have hz2' := hgrow4.grown.cell hy2 hne3; clear hy0 hy2 hy3 hown3 hne3))
              go_roundw
              case rel =>
                refine ⟨t + 1, by omega, by go_num, xn + ll, acc ++ (a.take xn).drop e ++ x.r, by go_num, by have := HN.out; omega, ?_, ?_, ?_⟩
                · have e1 : (acc ++ (a.take xn).drop e ++ x.r).length = acc.length + (xn - e) + rl := by have := HN.out; have := Hrl.out; simp; omega
                  rw [e1, strs_append, strs_append]
                  exact hown4
                · have := HN.out; have := Hrl.out; simp; omega
                · rw [HTot2.out, applyE, if_neg HOk.out, ← Hxa.out, ← Hll.out, Int.toNat_natCast]
              case measure => simp [intOf]; omega
            · have k8' : decide ((a.take (xn + ll)).drop xn = x.l) = false := by simp [k8]
              rw [k8'] at hEq
              have HEq := Lib.hid hEq
              have HBad : Hid (bad a x e) := .inr (.inr (.inr (by rw [← Hxa.out, ← Hll.out, Int.toNat_natCast]; exact k8)))
              clear hEq k8 k8'
              go_quiet ((go_at_call 27; exact Calls.quiet_of (HEq.out _)))
              go_wp2
              go_ret2
              exact ⟨((HO.out.ext0.trans HEx.out).drewN _), by rw [HTot2.out, applyE, if_pos HBad.out]; rfl⟩
    · have htn : t = ln := by omega
      have hfin : applyE a es 0 [] = some (acc ++ a.drop e) := by
        rw [HTot.out, List.drop_of_length_le (by have := EdsV.length H3.out; have := HLN.out; omega)]; rfl
      have HF := Lib.hid hfin
      obtain ⟨a5, hsl5, hat5⟩ := slice_from (P := Try.prog) 24 el24 sz24 aa n c e hea
      have hA5 : At w a5 (c - e) (strs (a.drop e)) := by have := hat5 w _ H1.out; simpa [strs, List.map_drop] using this
      have HA5 := Lib.hid hA5
      have hown := HO.out
      clear hfin hat5 hA5
      subst htn
      go_wp2_with (at_builtin; go_must (refine wpList_appN rfl _ _ 24 rfl w.heap.size 9 w i0 (.string ⟨#[]⟩) 16 Try.underlying24 hi hz0 hz1 hz2 rfl _ acc.length _ rfl hown a5 (n - e) (c - e) (strs (a.drop e)) rfl (by rw [strs_length]; have := HN.out; simp; omega) (HA5.out.ext HO.out.ext0) (oneCell_strs _) (by omega) (by decide) ?_); intro v3 w3 hown3 hgrow3; obtain ⟨a6, c6, hv6, hat6⟩ := hown3.at; rw [hv6]; have HAt6 := Lib.hid hat6; have HE6 := Lib.hid hown3.ext0; clear hown hat6 hown3 hgrow3)
      go_ret2
      refine ⟨HE6.out, ?_⟩
      rw [HF.out]
      refine ⟨a6, c6, ?_, by rw [strs_append]; exact HAt6.out⟩
      have e1 : (acc ++ a.drop e).length = acc.length + (n - e) := by have := HN.out; simp; omega
      rw [e1]; rfl
end Go.Proofs.Ythkkjbigfnimbaa
