/-
  PROVED: for every input RunNil returns true, and its arguments read afterwards as before; the package-level tables lie as the program's text lays them (the card ties them).
-/
import Derived.Test.YtkaeelafmohdhaaGreatDoorKLaw
import Derived.Test.YtkaeelafmohdhaaGreatDoorKFactsA
import Derived.Test.YtkaeelafmohdhaaGreatDoorKFactsB
import Derived.Test.YtkaeelafmohdhaaGreatDoorTie
import Derived.Test.YtkaeelafmohdhaaGreatDoorCards
import Derived.ProofKit
import Derived.OpenShut
import Derived.LaidMore
import Derived.Lay
import Derived.SevenTiedAt
import Derived.Stop.Joined
import Derived.ChangeOld
import Derived.Below
import Derived.Test.YtkaeelafmohdhaaGreatDoorX17
namespace Go.Proofs.YtkaeelafmohdhaaGreatDoor
open Go.ChangeShapes Go.WideShapes Go.ChangeAt Go.RowKit

theorem own : ownKnob Tryz.prog.godebug = none := by kernel_rfl
theorem laidOut : laidOutB Tryz.prog = true := by kernel_rfl
section
variable {H : Type} {enc : TypeId × Value → H} {W : World} {fuel : Nat} {x : DataW H × List MemPlace}
set_option maxRecDepth 100000 in
theorem wd_at {cs : List Value} (h : DataW.trod enc Tryz.prog W 0 (fun _ => true) true fuel 29 cs = some x) : ∃ a n, cs = a ++ [.int .u8 n] ∧ a.length = 5 := by
  obtain ⟨xs, n, _, _, hl, hx, hf⟩ := DataW.trod_struct Tryz.underlying29 h
  rw [show Tryz.prog.cellsOf 29 = 6 by kernel_rfl] at hl
  match cs, hl with
  | [c0, c1, c2, c3, c4, c5], _ =>
    have hx4 : xs.length = 4 := hx
    match xs, hx4 with
    | [y0, y1, y2, y3], _ =>
      have f3 : DataW.trod enc Tryz.prog W 0 (fun _ => true) true n 5 [c5] = some y3 := by
        have := hf 3 { name := "Horizon", type := 5, offset := 5, embedded := false, tag := "", pkgPath := "", byteOffset := 104 } rfl
        rw [show Tryz.prog.cellsOf 5 = 1 by kernel_rfl] at this
        exact this
      obtain ⟨m1, g1, g2⟩ := Ex.trod_kinds n 8 5 _ _ [.u8] f3 (by kernel_rfl) (by kernel_rfl)
      match m1, g1 with
      | [x1], _ =>
        cases g2
        exact ⟨[c0, c1, c2, c3, c4], x1, rfl, rfl⟩
end
set_option maxRecDepth 100000 in
theorem lifted (os : Os) (started : os.Started) (H : Type) (enc : TypeId × Value → H) :
    ReturnsInHanded {} Tryz.checked os 3 .any (fun w args => (Rows.runNilSpec.pre enc Tryz.prog Tryz.f3 [] false w args ∧ laidMetH Tryz.prog laid9 w) ∧ sizedMet enc Tryz.prog Tryz.f3 (OpenSpec.ofChange Rows.runNilSpec) false w args)
      (Rows.runNilSpec.post enc Tryz.prog Tryz.f3 false true false false) := by
  refine returnsInHanded_of_change_and (C := Tryz.checked) (X := fun w _ => laidMetH Tryz.prog laid9 w) (fun _ _ _ hh h => h.of_heap hh) own started (by kernel_rfl) Tryz.func3
    (ChangeSpec.witness_shaped (enc := enc) (C := Tryz.checked) (os := os) (X := fun w _ => laidMetH Tryz.prog laid9 w) false (World.laidAll Tryz.prog os laid9) #[.agg #[.int .u8 0, .slice none 0 0, .slice none 0 0, .slice none 0 0, .slice none 0 0, .int .u8 0]] 8 (World.laidAll_os _ _ _)
      (World.shaped_of_ZipB (by kernel_rfl) (by kernel_rfl)) (by kernel_rfl) (by kernel_rfl) (by kernel_rfl)
      (by rw [MakeChecks.laidMetH_plain _ _ _ (by kernel_rfl)]; exact laidMet_laidAll _ (by kernel_rfl) (by kernel_rfl))) ?_
  intro W base args ds gs before hval0 hW hcnd _ hL _
  have hval : ∀ (j : Nat) t v, Tryz.f3.params[j]? = some t → args[j]? = some v → Value.okWide Tryz.prog W .any base t v := hval0
  have hW' := hW
  obtain ⟨p, q, hA0, hV, rfl, hfz, hnd⟩ := hW
  have hA : DataW.TrodAll enc Tryz.prog W 0 (fun _ => true) true Tryz.f3.params.toList args.toList ds p := hA0
  rw [Tryz.params3] at hA hval
  obtain ⟨v0, vs0, d0, ds0, p0, q0, hargs, rfl, rfl, h0, r0⟩ := trodAll_cons hA
  obtain ⟨rfl, rfl, rfl⟩ := trodAll_nil r0
  obtain rfl : args = #[v0] := by cases args; simp_all
  obtain ⟨rfl, rfl⟩ := trodVars_none hV
  have k0 := h0
  have lt0 : ∀ x ∈ p0, x.block < W.heap.size := by obtain ⟨m, hm⟩ := k0; exact DataW.trod_lt m _ _ _ hm
  obtain ⟨cs0, rfl, _⟩ := okWide_struct Tryz.underlying29 (hval 0 29 v0 rfl rfl)
  obtain ⟨a, n, e0, ha⟩ : ∃ a n, cs0 = ⟨a ++ [.int .u8 n]⟩ ∧ a.length = 5 := by
    obtain ⟨m, hm⟩ := h0
    obtain ⟨a, n, e, ha⟩ := wd_at hm
    exact ⟨a, n, Array.toList_inj.1 e, ha⟩
  subst e0
  clear hA0 hval0
  refine (law_walk a ha n W (laidG hL)).mono fun e W' ⟨he, bel⟩ => ?_
  subst he
  exact ⟨_, rfl, _, _, _, [], _, [], hW', trodAll_mk1 (shut_bool Tryz.underlying4 _), (trodAll_cons_mk (Below.trod laidOut (by kernel_rfl) (of_decide_eq_true (by kernel_rfl)) k0 bel lt0) trodAll_mk0), rfl, bel.frame _, fun h => by cases h⟩

theorem over : Rows.RunNilSaid :=
  OpenClaim.holds_of_wide 3 Tryz.f3 rfl rfl rfl rfl rfl rfl rfl ⟨rfl, rfl, rfl, rfl, rfl⟩ rfl rfl rfl rfl rfl (by kernel_rfl) Tryz.func3 closedFacts
    (of_decide_eq_true (by kernel_rfl)) (by unfold Func.isWrapper; first | (rw [if_pos (by decide +kernel)]; kernel_rfl) | (rw [if_neg (by decide +kernel)]; exact ⟨rfl, rfl⟩))
    (fun os started H enc _ => lifted os started H enc)
/-- the statement -/
theorem proved : Rows.RunNilCardSaid :=
  Claim7.holds_tied_plain_at .later [] [.data, .data, .data, .data, .data, .data, .data, .data, .data] true (true, "9827d360d90187c7c7f6224cd2a0d2be664eb634441bdeea7e2b564c456deaf3") false
    over (fun _ h => by cases h) fact_wf (fun _ h => by cases h) runNil_row_tie rfl ⟨rfl, rfl⟩ fact_main rfl
    (fun f fn hf hfn => by
      obtain rfl : f = 3 := Option.some.inj ((show Tryz.prog.funcNamed "rootcause/rootcauselaw17.RunNil" = some 3 by kernel_rfl).symm.trans hf) |>.symm
      obtain rfl : fn = Tryz.f3 := (Option.some.inj (Tryz.func3.symm.trans hfn)).symm
      exact ⟨fact_looks, fun j t ht => by
        rw [Tryz.params3] at ht
        have hm : t ∈ [29] := by simpa using Array.mem_of_getElem? ht
        exact (show Tryz.prog.wantsStandIn t = false by simpa using List.all_eq_true.1 fact_stand t hm)⟩)
    fact_goes
#print axioms proved
end Go.Proofs.YtkaeelafmohdhaaGreatDoor
