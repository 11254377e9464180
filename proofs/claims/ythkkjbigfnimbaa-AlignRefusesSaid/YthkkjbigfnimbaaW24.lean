/- Walks: the law AlignRefuses. -/
import Derived.Test.YthkkjbigfnimbaaW14
import Derived.Test.YthkkjbigfnimbaaW22
import Derived.Test.YthkkjbigfnimbaaW23
namespace Go.Proofs.Ythkkjbigfnimbaa
open Go.RowKit

/-- A change that came in: its number, and its two rows of bytes. -/
structure CV where
  a : Int
  la : Option Addr
  ll : Nat
  lc : Nat
  lz : List Int
  ra : Option Addr
  rl : Nat
  rc : Nat
  rz : List Int

structure ChV (w : World) (v : CV) : Prop where
  ll : v.ll = v.lz.length
  l : At w v.la v.lc (v.lz.map (Value.int .u8))
  lr : ∀ z ∈ v.lz, 0 ≤ z ∧ z ≤ 255
  lm : v.ll ≤ 9223372036854775807
  rl : v.rl = v.rz.length
  r : At w v.ra v.rc (v.rz.map (Value.int .u8))
  rr : ∀ z ∈ v.rz, 0 ≤ z ∧ z ≤ 255
  rm : v.rl ≤ 9223372036854775807

/-- The k-th change lies behind the slice's address. -/
def ChAt (w : World) (al : Option Addr) (k : Nat) : Prop :=
  ∃ (b off : Nat) (v : CV), al = some ⟨b, off, none⟩ ∧ w.cell? ⟨b, off + k * 3, none⟩ = some (.int .i64 v.a) ∧ w.cell? ⟨b, off + k * 3 + 1, none⟩ = some (.slice v.la v.ll v.lc) ∧ w.cell? ⟨b, off + k * 3 + 2, none⟩ = some (.slice v.ra v.rl v.rc) ∧ ChV w v

/-- A round of the loop that lists the changes. -/
def RfR (w2 : World) (v6 : Value) (wr : World) (k : Nat) : Prop :=
  ∃ vs es, Own w2.heap.size 49 4 w2 wr v6 k (edcs vs) ∧ vs.length = k ∧ EdsV wr vs es ∧ Dis wr v6 vs ∧ ∀ x ∈ es, x.r.length ≤ 50 ∧ x.l.length ≤ 50

theorem applyE_len (a : List ByteArray) : ∀ (es : List Ed) (e : Nat) (acc r : List ByteArray), (∀ x ∈ es, x.r.length ≤ 50 ∧ x.l.length ≤ 50) → applyE a es e acc = some r → r.length ≤ acc.length + es.length * (a.length + 50) + a.length
  | [], e, acc, r, _, h => by
    simp only [applyE, Option.some.injEq] at h
    subst h
    simp
  | x :: es, e, acc, r, hx, h => by
    rw [applyE] at h
    split at h
    · cases h
    · have h1 := applyE_len a es _ _ r (fun y hy => hx y (List.mem_cons_of_mem _ hy)) h
      have h2 := hx x (List.mem_cons_self ..)
      have h3 : (a.take x.a.toNat).length ≤ a.length := by simp; omega
      simp only [List.length_append, List.length_drop, List.length_cons] at h1 ⊢
      rw [Nat.add_mul]
      omega

set_option maxHeartbeats 4000000 in
set_option maxRecDepth 100000 in
theorem refuses_walk (a0 : Option Addr) (n0 c0 : Nat) (z0 : List Int) (al : Option Addr) (nl cl : Nat) (w : World)
    (hn0 : n0 = z0.length) (h0 : At w a0 c0 (z0.map (Value.int .u8))) (hr0 : ∀ z ∈ z0, 0 ≤ z ∧ z ≤ 255) (hm0 : n0 ≤ 9223372036854775807)
    (hml : nl ≤ 9223372036854775807) (hl : ∀ k, k < nl → ChAt w al k) :
    Calls Try.prog 6 #[.slice a0 n0 c0, .slice al nl cl] w fun e w' => e = .returned (.bool true) ∧ Ext w w' := by
  obtain ⟨i1, hi1, hy0, hy1, hy2⟩ := info_parts Try.info49
  have hA24 := chrs_len z0
  have T0 := Lib.hid (fun W (hE : Ext w W) => texts_any a0 n0 c0 z0 W hn0 (h0.ext hE) hr0 hm0)
  have HL := Lib.hid hl
  clear hn0 h0 hr0 hm0 hl
  generalize chrs z0 = A at *
  go_enter Try.func6, Try.ntmps6
  go_wp2_with fail
  refine (awake_any w).mono ?_
  rintro e w1 ⟨rfl, hE1⟩
  have HE1 := Lib.hid hE1
  clear hE1
  go_wp2_with fail
  refine (T0.out w1 HE1.out).mono ?_
  rintro e w2 ⟨aA, cA, rfl, hA, hE2⟩
  have HE2 := Lib.hid (HE1.out.trans hE2)
  have HA2 := Lib.hid hA
  clear hA hE2 HE1 T0
  go_wp2_with fail
  go_loopw [6, 7] (fun v6 v7 wr => ∃ k : Nat, k ≤ nl ∧ k ≤ 6 ∧ v7 = .int .i64 (k : Int) ∧ RfR w2 v6 wr k) (fun _ v7 _ => nl - (intOf v7).toNat)
  case atStart => exact ⟨0, by omega, by omega, rfl, [], [], Own.nil _ _ _ _ (Nat.le_refl _), rfl, trivial, (fun x hx => by cases hx), (fun x hx => by cases hx)⟩
  case round =>
    obtain ⟨k, hk, hk6, rfl, vs, es, hown, hvl, heds, hdis, hsm⟩ := hrel
    have HO := Lib.hid hown
    have HEds := Lib.hid heds
    have HDis := Lib.hid hdis
    have HSm := Lib.hid hsm
    have HVl := Lib.hid hvl
    clear hown heds hdis hsm hvl
    by_cases hlt : k < nl ∧ k < 6
    · obtain ⟨hlt, hlt6⟩ := hlt
      obtain ⟨b, off, v, ral, g0, g1, g2, hch⟩ := HL.out k hlt
      have hEr : Ext w wr := HE2.out.trans HO.out.ext0
      have f0 := hEr.cell g0
      have f1 := hEr.cell g1
      have f2 := hEr.cell g2
      have hbw := World.block_lt_of_cell? _ _ g0
      have hne : some b ≠ u6.ownBlock := fun e => by have := (HO.out.own.lt b e.symm).1; have := HE2.out.size; simp only at hbw; omega
      have HNe := Lib.hid hne
      have hcl : ∀ W, Ext wr W → Calls Try.prog 10 #[.slice v.la v.ll v.lc] W fun e w' => ∃ a' c', e = .returned (.slice a' (chrs v.lz).length c') ∧ At w' a' c' (strs (chrs v.lz)) ∧ Ext W w' ∧ ∀ g, a' = some g → W.heap.size ≤ g.block ∧ g.block < w'.heap.size :=
        fun W hW => texts_fresh v.la v.ll v.lc v.lz W hch.ll (hch.l.ext (hEr.trans hW)) hch.lr hch.lm
      have hcr : ∀ W, Ext wr W → Calls Try.prog 10 #[.slice v.ra v.rl v.rc] W fun e w' => ∃ a' c', e = .returned (.slice a' (chrs v.rz).length c') ∧ At w' a' c' (strs (chrs v.rz)) ∧ Ext W w' ∧ ∀ g, a' = some g → W.heap.size ≤ g.block ∧ g.block < w'.heap.size :=
        fun W hW => texts_fresh v.ra v.rl v.rc v.rz W hch.rl (hch.r.ext (hEr.trans hW)) hch.rr hch.rm
      have HCl := Lib.hid hcl
      have HCr := Lib.hid hcr
      have hd : decide ((k : Int) < 6) = true := by simp; omega
      have hql := chrs_len v.lz
      have hqr := chrs_len v.rz
      obtain ⟨va, la, ll, lc, lz, ra, rl, rc, rz⟩ := v
      simp only at f0 f1 f2 hql hqr HCl HCr
      clear hcl hcr hch g0 g1 g2 hne hbw hEr HL
      generalize chrs lz = L at *
      generalize chrs rz = R at *
      subst ral
      go_wp2_with fail
      go_region_held3 (fun w' => w'.cell? ⟨b, off + k * 3, none⟩ = some (.int .i64 va) ∧ w'.cell? ⟨b, off + k * 3 + 1, none⟩ = some (.slice la ll lc) ∧ w'.cell? ⟨b, off + k * 3 + 2, none⟩ = some (.slice ra rl rc))
        (first | go_keep | exact ⟨hgrow5.grown.cell (he4.cell (he3.cell f0)) HNe.out, hgrow5.grown.cell (he4.cell (he3.cell f1)) HNe.out, hgrow5.grown.cell (he4.cell (he3.cell f2)) HNe.out⟩ | exact ⟨he4.cell (he3.cell f0), he4.cell (he3.cell f1), he4.cell (he3.cell f2)⟩ | exact ⟨he3.cell f0, he3.cell f1, he3.cell f2⟩)
        (first
          | (go_at_call_of 10 (Value.slice la ll lc); refine (HCl.out _ ((Ext.refl wr).drewN 1)).mono ?_; rintro e w3 ⟨a3, c3, rfl, hat3, he3, hf3⟩)
          | (go_at_call_of 10 (Value.slice ra rl rc); refine (HCr.out _ (((Ext.refl wr).drewN 1).trans he3)).mono ?_; rintro e w4 ⟨a4, c4, rfl, hat4, he4, hf4⟩)
          | (refine step_app1 rfl _ _ 38 rfl _ 49 w2 i1 (.agg #[.int .i64 0, .int .i64 0, .slice none 0 0, .slice none 0 0]) 4 64 Try.underlying38 hi1 hy0 hy1 hy2 rfl (by decide) _ k _ rfl ((HO.out.ext (((Ext.refl wr).drewN 1).trans he3)).ext he4) _ _ rfl rfl rfl (oneCell_four _ _ _ _ rfl rfl rfl rfl) (by omega) (by decide) ?_; intro v5' w5 hown5 hgrow5))
      go_wp2_with fail
      go_roundw
      case rel =>
        have hE3 : Ext wr w4 := (((Ext.refl wr).drewN 1).trans he3).trans he4
        have hnew : EdV w4 ⟨va, 0, a3, L.length, c3, a4, R.length, c4⟩ ⟨va, 0, L, R⟩ := ⟨rfl, rfl, rfl, rfl, hat3.ext he4, hat4⟩
        have hd1 : Dis w4 u6 (vs ++ [⟨va, 0, a3, L.length, c3, a4, R.length, c4⟩]) := by
          refine (HDis.out.ext hE3).snoc (fun g hg => ?_)
          have hlt5 := HO.out.own.lt
          rcases hg with hg | hg
          · have := hf3 g hg
            refine ⟨Nat.lt_of_lt_of_le this.2 he4.size, fun e => ?_⟩
            have h6 := (hlt5 _ e).2
            have h7 : wr.heap.size ≤ g.block := this.1
            omega
          · have := hf4 g hg
            refine ⟨this.2, fun e => ?_⟩
            have h6 := (hlt5 _ e).2
            have h9 : wr.heap.size ≤ w3.heap.size := he3.size
            omega
        obtain ⟨hes, hds⟩ := hgrow5.eds ((HEds.out.ext hE3).snoc hnew) hd1
        refine ⟨k + 1, by omega, by omega, by go_num, vs ++ [⟨va, 0, a3, L.length, c3, a4, R.length, c4⟩], es ++ [⟨va, 0, L, R⟩], by rw [edcs_snoc]; exact hown5, by simp [HVl.out], hes, hds, fun x hx => ?_⟩
        rcases List.mem_append.1 hx with hx | hx
        · exact HSm.out x hx
        · simp at hx; subst hx; simp only; omega
      case measure => simp [intOf]; omega
    · obtain ⟨aM, cM, rfl, hatM⟩ := HO.out.atM
      have hEr := HO.out.ext0
      have hap := fun W (hE : Ext wr W) => apply_any aA aM A.length cA k cM A vs es W rfl HVl.out.symm (HA2.out.ext (hEr.trans hE)) (hatM.ext hE) (HEds.out.ext hE) hA24 (by omega) HSm.out
      have hrap := fun W (hE : Ext wr W) (au : Option Addr) (cu : Nat) (hu : AtM W au (edcs vs)) => refapply_any aA au A.length cA k cu A vs es W rfl HVl.out.symm (HA2.out.ext (hEr.trans hE)) hu (HEds.out.ext hE) hA24 (by omega) HSm.out
      have htold := fun W (hE : Ext wr W) => told_any aM k cM vs W HVl.out.symm (hatM.ext hE) (by omega)
      have hlen : ∀ r, applyE A es 0 [] = some r → r.length ≤ 9223372036854775807 := by
        intro r hr
        have h1 := applyE_len A es 0 [] r HSm.out hr
        have h2 := HEds.out.length
        have h3 := HVl.out
        have h4 : es.length * (A.length + 50) ≤ 6 * 74 := Nat.mul_le_mul (by omega) (by omega)
        simp at h1; omega
      have HAp := Lib.hid hap
      have HRap := Lib.hid hrap
      have HTold := Lib.hid htold
      have HEr := Lib.hid (HE2.out.trans hEr)
      have HLen := Lib.hid hlen
      clear hap hrap htold hatM hEr hlen HO HEds HDis HSm HVl HA2 HL
      generalize applyE A es 0 [] = res at *
      have hexit : (k < nl ∧ decide ((k : Int) < 6) = false) ∨ ¬ k < nl := by
        by_cases h : k < nl
        · exact .inl ⟨h, by simp; omega⟩
        · exact .inr h
      cases res with
      | none =>
        rcases hexit with ⟨hx1, hx2⟩ | hx1
        all_goals
          go_wp2_with fail
          refine (HAp.out wr (Ext.refl wr)).mono ?_
          rintro e w3 ⟨hE3, rfl⟩
          have HE3 := Lib.hid hE3
          clear hE3
          go_wp2_with fail
          refine (HTold.out w3 HE3.out).mono ?_
          rintro e w4 ⟨v4, rfl, hown4⟩
          obtain ⟨aU, cU, rfl, hatU⟩ := hown4.atM
          have HE4 := Lib.hid (HE3.out.trans hown4.ext0)
          have HU := Lib.hid hatU
          clear hown4 hatU
          go_wp2_with fail
          refine (HRap.out w4 HE4.out aU cU HU.out).mono ?_
          rintro e w5 ⟨hE5, rfl⟩
          have HE5 := Lib.hid (HE4.out.trans hE5)
          clear hE5
          go_wp2_with fail
          refine (same_any none none 0 0 0 0 [] [] w5 rfl rfl (At.nil w5) (At.nil w5) (by omega)).mono ?_
          rintro e w6 ⟨rfl, n6, rfl⟩
          rw [show decide (([] : List ByteArray) = []) = true from by simp]
          go_wp2
          go_ret
          exact ⟨rfl, (HEr.out.trans HE5.out).drewN n6⟩
      | some r =>
        have hr := HLen.out r rfl
        rcases hexit with ⟨hx1, hx2⟩ | hx1
        all_goals
          go_wp2_with fail
          refine (HAp.out wr (Ext.refl wr)).mono ?_
          rintro e w3 ⟨hE3, a3, c3, rfl, hat3⟩
          have HE3 := Lib.hid hE3
          have HC3 := Lib.hid hat3
          clear hE3 hat3
          go_wp2_with fail
          refine (HTold.out w3 HE3.out).mono ?_
          rintro e w4 ⟨v4, rfl, hown4⟩
          obtain ⟨aU, cU, rfl, hatU⟩ := hown4.atM
          have HE4 := Lib.hid (HE3.out.trans hown4.ext0)
          have HC4 := Lib.hid (HC3.out.ext hown4.ext0)
          have HU := Lib.hid hatU
          clear hown4 hatU HC3
          go_wp2_with fail
          refine (HRap.out w4 HE4.out aU cU HU.out).mono ?_
          rintro e w5 ⟨hE5, a5, c5, rfl, hat5⟩
          have HE5 := Lib.hid (HE4.out.trans hE5)
          have HC5 := Lib.hid (HC4.out.ext hE5)
          have HD5 := Lib.hid hat5
          clear hE5 hat5 HC4
          go_wp2_with fail
          refine (same_any a3 a5 r.length r.length c3 c5 r r w5 rfl rfl HC5.out HD5.out hr).mono ?_
          rintro e w6 ⟨rfl, n6, rfl⟩
          rw [show decide (r = r) = true from by simp]
          go_wp2
          go_ret
          exact ⟨rfl, (HEr.out.trans HE5.out).drewN n6⟩

end Go.Proofs.Ythkkjbigfnimbaa
