/- Walks: sameEdits of two lists that read alike. -/
import Derived.Test.YthkkjbigfnimbaaW11
namespace Go.Proofs.Ythkkjbigfnimbaa
open Go.RowKit

set_option maxHeartbeats 4000000 in
set_option maxRecDepth 100000 in
theorem sameedits_any (ad1 ad2 : Option Addr) (n c1 c2 : Nat) (vs1 vs2 : List EV) (es : List Ed) (w : World) (hn : n = es.length) (h1 : AtM w ad1 (edcs vs1)) (h2 : AtM w ad2 (edcs vs2)) (h3 : EdsV w vs1 es) (h4 : EdsV w vs2 es)
    (hm : n ≤ 1000) (hr : ∀ x ∈ es, x.r.length ≤ 50 ∧ x.l.length ≤ 50) :
    Calls Try.prog 14 #[.slice ad1 n c1, .slice ad2 n c2] w fun e w' => e = .returned (.bool true) ∧ ∃ nd, w' = w.drewN nd := by
  have HN := Lib.hid hn
  have H1 := Lib.hid h1
  have H2 := Lib.hid h2
  have H3 := Lib.hid h3
  have H4 := Lib.hid h4
  have HR := Lib.hid hr
  clear hn h1 h2 h3 h4 hr
  go_enter Try.func14, Try.ntmps14
  go_wp2_with fail
  go_loopw [5, 13] (fun _ v13 wr => ∃ k, k ≤ n ∧ v13 = .int .i64 ((k : Nat) : Int) ∧ ∃ nd, wr = w.drewN nd) (fun _ v13 _ => n - (intOf v13).toNat)
  case atStart => exact ⟨0, by omega, rfl, 0, rfl⟩
  case round =>
    obtain ⟨k, hk, rfl, nd, hwr⟩ := hrel
    have hE : Ext w wr := by rw [hwr]; exact (Ext.refl w).drewN nd
    have HW := Lib.hid hwr
    clear hwr
    by_cases hlt : k < n
    · obtain ⟨v1, hv1⟩ := some_of_lt (show k < vs1.length by rw [EdsV.length H3.out, ← HN.out]; exact hlt)
      obtain ⟨v2, hv2⟩ := some_of_lt (show k < vs2.length by rw [EdsV.length H4.out, ← HN.out]; exact hlt)
      obtain ⟨x, hx, hx1⟩ := EdsV.get H3.out hv1
      obtain ⟨y, hy, hy1⟩ := EdsV.get H4.out hv2
      obtain rfl : x = y := Option.some.inj (hx.symm.trans hy)
      obtain ⟨d0, d1, d2, d3⟩ := edcs_get hv1
      obtain ⟨b1, o1, r1, f0, f1, f2, f3⟩ := H1.out.get4 d0 d1 d2 d3
      obtain ⟨k0, k1, k2, k3⟩ := edcs_get hv2
      obtain ⟨b2, o2, r2, g0, g1, g2, g3⟩ := H2.out.get4 k0 k1 k2 k3
      subst r1 r2
      replace f0 := hE.cell f0
      replace f1 := hE.cell f1
      replace f2 := hE.cell f2
      replace f3 := hE.cell f3
      replace g0 := hE.cell g0
      replace g1 := hE.cell g1
      replace g2 := hE.cell g2
      replace g3 := hE.cell g3
      have hrx := HR.out x (List.mem_of_getElem? hx)
      rw [hx1.a] at f0
      rw [hx1.b] at f1
      rw [hy1.a] at g0
      rw [hy1.b] at g1
      have hl : ∀ nq, Calls Try.prog 19 #[.slice v1.la v1.ll v1.lc, .slice v2.la v2.ll v2.lc] (wr.drewN nq) fun e' w' => e' = .returned (.bool true) ∧ ∃ m, w' = (wr.drewN nq).drewN m := by
        intro nq
        have hE := hE.drewN nq
        have := same_any v1.la v2.la v1.ll v2.ll v1.lc v2.lc x.l x.l _ hx1.ll hy1.ll (hx1.l.ext hE) (hy1.l.ext hE) (by rw [hx1.ll]; omega)
        rw [show decide (x.l = x.l) = true from by simp] at this
        exact this
      have hrr : ∀ nq, Calls Try.prog 19 #[.slice v1.ra v1.rl v1.rc, .slice v2.ra v2.rl v2.rc] (wr.drewN nq) fun e' w' => e' = .returned (.bool true) ∧ ∃ m, w' = (wr.drewN nq).drewN m := by
        intro nq
        have hE := hE.drewN nq
        have := same_any v1.ra v2.ra v1.rl v2.rl v1.rc v2.rc x.r x.r _ hx1.rl hy1.rl (hx1.r.ext hE) (hy1.r.ext hE) (by rw [hx1.rl]; omega)
        rw [show decide (x.r = x.r) = true from by simp] at this
        exact this
      have HL := Lib.hid hl
      have HRr := Lib.hid hrr
      clear hl hrr hE d0 d1 d2 d3 k0 k1 k2 k3 hx1 hy1 hx hy hv1 hv2 hrx
      obtain ⟨xa, xb, la1, ll1, lc1, ra1, rl1, rc1⟩ := v1
      obtain ⟨ya, yb, la2, ll2, lc2, ra2, rl2, rc2⟩ := v2
      simp only at f2 f3 g2 g3 HL HRr
      generalize x.a = A0 at *
      generalize x.b = B0 at *
      go_wp2_with fail
      go_quiet (first | (go_at_call_of 19 (Value.slice la1 ll1 lc1); exact Calls.quiet_of (HL.out _)) | (go_at_call_of 19 (Value.slice ra1 rl1 rc1); exact Calls.quiet_of (HRr.out _)))
      go_wp2_with fail
      go_roundw
      case rel => exact ⟨k + 1, by omega, by go_num, nd + nq, by rw [HW.out, World.drewN_drewN]⟩
      case measure => simp [intOf]; omega
    · go_wp2
      go_ret
      exact ⟨rfl, nd, HW.out⟩

end Go.Proofs.Ythkkjbigfnimbaa
