/-
  PROVED: for every input DependNil returns true, and its arguments read afterwards as before; the package-level tables lie as the program's text lays them (the card ties them).
-/
import Derived.Test.YtanilhkjfdagpaaGreatDoorKLaw
import Derived.Test.YtanilhkjfdagpaaGreatDoorEv27
import Derived.Test.YtanilhkjfdagpaaGreatDoorTie
import Derived.Test.YtanilhkjfdagpaaGreatDoorCards
import Derived.ProofKit
import Derived.OpenShut
import Derived.LaidMore
import Derived.Lay
import Derived.SevenTiedAt
import Derived.Stop.Joined
import Derived.ChangeOld
import Derived.Below
namespace Go.Proofs.YtanilhkjfdagpaaGreatDoor
open Go.ChangeShapes Go.WideShapes Go.ChangeAt Go.RowKit

theorem own : ownKnob Tryz.prog.godebug = none := by kernel_rfl
theorem laidOut : laidOutB Tryz.prog = true := by kernel_rfl
section
variable {H : Type} {enc : TypeId × Value → H} {W : World} {fuel : Nat} {x : DataW H × List MemPlace}
theorem nd_at {cs : List Value} (h : DataW.trod enc Tryz.prog W 0 (fun _ => true) true fuel 24 cs = some x) : ∃ a0 a1 a2, cs = [.int .u8 a0, .int .i64 a1, .int .i64 a2] := by
  obtain ⟨ns, h1, h2⟩ := Ev.trod_kinds fuel 8 24 cs x [.u8, .i64, .i64] h (by kernel_rfl) (by kernel_rfl)
  match ns, h1 with
  | [a0, a1, a2], _ => exact ⟨a0, a1, a2, h2⟩
set_option maxRecDepth 100000 in
theorem ch_at {cs : List Value} (h : DataW.trod enc Tryz.prog W 0 (fun _ => true) true fuel 30 cs = some x) :
    ∃ k0 k1 k2 k3 x1 x2 xa xl xc, cs = [.int .u8 k0, .int .i64 k1, .int .i64 k2, .int .i64 k3, .int .i64 x1, .int .i64 x2, .slice xa xl xc] := by
  obtain ⟨xs, n, _, _, hl, hx, hf⟩ := DataW.trod_struct Tryz.underlying30 h
  have hx4 : xs.length = 4 := hx
  rw [show Tryz.prog.cellsOf 30 = 7 by kernel_rfl] at hl
  match xs, hx4 with
  | [y0, y1, y2, y3], _ =>
  match cs, hl with
  | [c0, c1, c2, c3, c4, c5, c6], _ =>
    have f0 : DataW.trod enc Tryz.prog W 0 (fun _ => true) true n 27 [c0, c1, c2, c3] = some y0 := by
      have := hf 0 { name := "Key", type := 27, offset := 0, embedded := false, tag := "", pkgPath := "", byteOffset := 0 } rfl
      rw [show Tryz.prog.cellsOf 27 = 4 by kernel_rfl] at this
      exact this
    have f1 : DataW.trod enc Tryz.prog W 0 (fun _ => true) true n 3 [c4] = some y1 := by
      have := hf 1 { name := "At", type := 3, offset := 4, embedded := false, tag := "", pkgPath := "", byteOffset := 32 } rfl
      rw [show Tryz.prog.cellsOf 3 = 1 by kernel_rfl] at this
      exact this
    have f2 : DataW.trod enc Tryz.prog W 0 (fun _ => true) true n 3 [c5] = some y2 := by
      have := hf 2 { name := "D", type := 3, offset := 5, embedded := false, tag := "", pkgPath := "", byteOffset := 40 } rfl
      rw [show Tryz.prog.cellsOf 3 = 1 by kernel_rfl] at this
      exact this
    have f3 : DataW.trod enc Tryz.prog W 0 (fun _ => true) true n 28 [c6] = some y3 := by
      have := hf 3 { name := "Args", type := 28, offset := 6, embedded := false, tag := "", pkgPath := "", byteOffset := 48 } rfl
      rw [show Tryz.prog.cellsOf 28 = 1 by kernel_rfl] at this
      exact this
    obtain ⟨ns, h1, h2⟩ := Ev.trod_kinds n 8 27 _ _ [.u8, .i64, .i64, .i64] f0 (by kernel_rfl) (by kernel_rfl)
    obtain ⟨m1, g1, g2⟩ := Ev.trod_kinds n 8 3 _ _ [.i64] f1 (by kernel_rfl) (by kernel_rfl)
    obtain ⟨m2, g3, g4⟩ := Ev.trod_kinds n 8 3 _ _ [.i64] f2 (by kernel_rfl) (by kernel_rfl)
    match ns, h1, m1, g1, m2, g3 with
    | [k0, k1, k2, k3], _, [x1], _, [x2], _ =>
      cases h2
      cases g2
      cases g4
      rcases DataW.trod_slice Tryz.underlying28 f3 with ⟨e, _⟩ | ⟨a, l, c, _, _, _, _, e, _⟩
      · cases e
        exact ⟨k0, k1, k2, k3, x1, x2, none, 0, 0, rfl⟩
      · cases e
        exact ⟨k0, k1, k2, k3, x1, x2, some a, l, c, rfl⟩
end

set_option maxRecDepth 100000 in
theorem lifted (os : Os) (started : os.Started) (H : Type) (enc : TypeId × Value → H) :
    ReturnsInHanded {} Tryz.checked os 3 .any (fun w args => (Rows.dependNilSpec.pre enc Tryz.prog Tryz.f3 [] false w args ∧ laidMetH Tryz.prog laid9 w) ∧ sizedMet enc Tryz.prog Tryz.f3 (OpenSpec.ofChange Rows.dependNilSpec) false w args)
      (Rows.dependNilSpec.post enc Tryz.prog Tryz.f3 false true false false) := by
  refine returnsInHanded_of_change_and (C := Tryz.checked) (X := fun w _ => laidMetH Tryz.prog laid9 w) (fun _ _ _ hh h => h.of_heap hh) own started (by kernel_rfl) Tryz.func3
    (ChangeSpec.witness_shaped (enc := enc) (C := Tryz.checked) (os := os) (X := fun w _ => laidMetH Tryz.prog laid9 w) false (World.laidAll Tryz.prog os laid9) #[nd 0 0 0, nd 0 0 0, .agg #[.int .u8 0, .int .i64 0, .int .i64 0, .int .i64 0, .int .i64 0, .int .i64 0, .slice none 0 0]] 8 (World.laidAll_os _ _ _)
      (World.shaped_of_ZipB (by kernel_rfl) (by kernel_rfl)) (by kernel_rfl) (by kernel_rfl) (by kernel_rfl)
      (by rw [MakeChecks.laidMetH_plain _ _ _ (by kernel_rfl)]; exact laidMet_laidAll _ (by kernel_rfl) (by kernel_rfl))) ?_
  intro W base args ds gs before hval0 hW hcnd _ hL _
  have hval : ∀ (j : Nat) t v, Tryz.f3.params[j]? = some t → args[j]? = some v → Value.okWide Tryz.prog W .any base t v := hval0
  have hW' := hW
  obtain ⟨p, q, hA0, hV, rfl, hfz, hnd⟩ := hW
  have hA : DataW.TrodAll enc Tryz.prog W 0 (fun _ => true) true Tryz.f3.params.toList args.toList ds p := hA0
  rw [Tryz.params3] at hA hval
  obtain ⟨v0, vs0, d0, ds0, p0, q0, hargs, rfl, rfl, h0, r0⟩ := trodAll_cons hA
  obtain ⟨v1, vs1, d1, ds1, p1, q1, rfl, rfl, rfl, h1, r1⟩ := trodAll_cons r0
  obtain ⟨v2, vs2, d2, ds2, p2, q2, rfl, rfl, rfl, h2, r2⟩ := trodAll_cons r1
  obtain ⟨rfl, rfl, rfl⟩ := trodAll_nil r2
  obtain rfl : args = #[v0, v1, v2] := by cases args; simp_all
  obtain ⟨rfl, rfl⟩ := trodVars_none hV
  have k0 := h0
  have k1 := h1
  have k2 := h2
  have lt0 : ∀ x ∈ p0, x.block < W.heap.size := by obtain ⟨m, hm⟩ := k0; exact DataW.trod_lt m _ _ _ hm
  have lt1 : ∀ x ∈ p1, x.block < W.heap.size := by obtain ⟨m, hm⟩ := k1; exact DataW.trod_lt m _ _ _ hm
  have lt2 : ∀ x ∈ p2, x.block < W.heap.size := by obtain ⟨m, hm⟩ := k2; exact DataW.trod_lt m _ _ _ hm
  obtain ⟨cs0, rfl, _⟩ := okWide_struct Tryz.underlying24 (hval 0 24 v0 rfl rfl)
  obtain ⟨cs1, rfl, _⟩ := okWide_struct Tryz.underlying24 (hval 1 24 v1 rfl rfl)
  obtain ⟨cs2, rfl, _⟩ := okWide_struct Tryz.underlying30 (hval 2 30 v2 rfl rfl)
  obtain ⟨a0, a1, a2, e0⟩ : ∃ a0 a1 a2, cs0 = #[.int .u8 a0, .int .i64 a1, .int .i64 a2] := by
    obtain ⟨m, hm⟩ := h0
    obtain ⟨a0, a1, a2, e⟩ := nd_at hm
    exact ⟨a0, a1, a2, Array.toList_inj.1 e⟩
  obtain ⟨b0, b1, b2, e1⟩ : ∃ a0 a1 a2, cs1 = #[.int .u8 a0, .int .i64 a1, .int .i64 a2] := by
    obtain ⟨m, hm⟩ := h1
    obtain ⟨a0, a1, a2, e⟩ := nd_at hm
    exact ⟨a0, a1, a2, Array.toList_inj.1 e⟩
  obtain ⟨y0, y1, y2, y3, x1, x2, xa, xl, xc, e2⟩ : ∃ k0 k1 k2 k3 x1 x2 xa xl xc, cs2 = #[.int .u8 k0, .int .i64 k1, .int .i64 k2, .int .i64 k3, .int .i64 x1, .int .i64 x2, .slice xa xl xc] := by
    obtain ⟨m, hm⟩ := h2
    obtain ⟨k0, k1, k2, k3, x1, x2, xa, xl, xc, e⟩ := ch_at hm
    exact ⟨k0, k1, k2, k3, x1, x2, xa, xl, xc, Array.toList_inj.1 e⟩
  subst e0
  subst e1
  subst e2
  clear hA0 hval0
  refine (law_walk a0 a1 a2 b0 b1 b2 y0 y1 y2 y3 x1 x2 xa xl xc W (laidG hL)).mono fun e W' ⟨he, bel⟩ => ?_
  subst he
  exact ⟨_, rfl, _, _, _, [], _, [], hW', trodAll_mk1 (shut_bool Tryz.underlying4 _), (trodAll_cons_mk (Below.trod laidOut (by kernel_rfl) (of_decide_eq_true (by kernel_rfl)) k0 bel lt0) (trodAll_cons_mk (Below.trod laidOut (by kernel_rfl) (of_decide_eq_true (by kernel_rfl)) k1 bel lt1) (trodAll_cons_mk (Below.trod laidOut (by kernel_rfl) (of_decide_eq_true (by kernel_rfl)) k2 bel lt2) trodAll_mk0))), rfl, bel.frame _, fun h => by cases h⟩

theorem over : Rows.DependNilSaid :=
  OpenClaim.holds_of_wide 3 Tryz.f3 rfl rfl rfl rfl rfl rfl rfl ⟨rfl, rfl, rfl, rfl, rfl⟩ rfl rfl rfl rfl rfl (by kernel_rfl) Tryz.func3 (by kernel_rfl)
    (of_decide_eq_true (by kernel_rfl)) (by unfold Func.isWrapper; first | (rw [if_pos (by decide +kernel)]; kernel_rfl) | (rw [if_neg (by decide +kernel)]; exact ⟨rfl, rfl⟩))
    (fun os started H enc _ => lifted os started H enc)
/-- the statement -/
theorem proved : Rows.DependNilCardSaid :=
  Claim7.holds_tied_plain_at .later [] [.data, .data, .data, .data, .data, .data, .data, .data, .data] true (true, "d55dc8d8687df008658d1c768f01cb8cc89a7e2eb584ae2dccae551b4569a1ff") false
    over (fun _ h => by cases h) (by kernel_rfl) (fun _ h => by cases h) dependNil_row_tie rfl ⟨rfl, rfl⟩ (by kernel_rfl) rfl
    (fun f fn hf hfn => by
      obtain rfl : f = 3 := Option.some.inj ((show Tryz.prog.funcNamed "rootcause/rootcauselaw39.DependNil" = some 3 by kernel_rfl).symm.trans hf) |>.symm
      obtain rfl : fn = Tryz.f3 := (Option.some.inj (Tryz.func3.symm.trans hfn)).symm
      exact ⟨by kernel_rfl, fun j t ht => by
        rw [Tryz.params3] at ht
        have hm : t ∈ [24, 24, 30] := by simpa using Array.mem_of_getElem? ht
        have hall : ([24, 24, 30].all fun u => !Tryz.prog.wantsStandIn u) = true := by kernel_rfl
        exact (show Tryz.prog.wantsStandIn t = false by simpa using List.all_eq_true.1 hall t hm)⟩)
    (by kernel_rfl)
#print axioms proved
end Go.Proofs.YtanilhkjfdagpaaGreatDoor
