/-
  PROVED: for every input ContrastLists returns true, and its arguments read afterwards as before; the package-level tables lie as the program's text lays them (the card ties them).
-/
import Derived.Test.YtcnhmjkmlncbhaaGreatDoorKLists
import Derived.Deep.Slices
import Derived.Deep.Strs
import Derived.SizedLaws
import Derived.Test.YtcnhmjkmlncbhaaGreatDoorKFactsA
import Derived.Test.YtcnhmjkmlncbhaaGreatDoorKFactsB
import Derived.Test.YtcnhmjkmlncbhaaGreatDoorTie
import Derived.Test.YtcnhmjkmlncbhaaGreatDoorCards
import Derived.ProofKit
import Derived.OpenShut
import Derived.LaidMore
import Derived.Lay
import Derived.SevenTiedAt
import Derived.Stop.Joined
import Derived.ChangeOld
import Derived.Below
import Derived.Test.YtcnhmjkmlncbhaaGreatDoorX17
namespace Go.Proofs.YtcnhmjkmlncbhaaGreatDoor
open Go.ChangeShapes Go.WideShapes Go.ChangeAt Go.RowKit

theorem own : ownKnob Tryz.prog.godebug = none := by kernel_rfl
theorem laidOut : laidOutB Tryz.prog = true := by kernel_rfl
section
variable {H : Type} {enc : TypeId × Value → H} {W : World} {fuel : Nat} {x : DataW H × List MemPlace}
set_option maxRecDepth 100000 in
theorem one_at {cs : List Value} (h : DataW.trod enc Tryz.prog W 0 (fun _ => true) true fuel 26 cs = some x) : ∃ v : FV, cs = fc v := by
  have h3 : Tryz.prog.cellsOf 3 = 1 := by kernel_rfl
  have h9 : Tryz.prog.cellsOf 9 = 1 := by kernel_rfl
  obtain ⟨y0, y1, y2, n', _, hlen, t0, t1, t2⟩ := Deep.trod_struct3 Tryz.underlying26 h
  rw [show Tryz.prog.cellsOf 26 = 3 by kernel_rfl] at hlen
  match cs, hlen with
  | [x0, x1, x2], _ =>
    have t0' : DataW.trod enc Tryz.prog W 0 (fun _ => true) true n' 3 [x0] = some y0 := by simpa [h3] using t0
    have t1' : DataW.trod enc Tryz.prog W 0 (fun _ => true) true n' 9 [x1] = some y1 := by simpa [h9] using t1
    have t2' : DataW.trod enc Tryz.prog W 0 (fun _ => true) true n' 9 [x2] = some y2 := by simpa [h9] using t2
    obtain ⟨z, hz, _, _⟩ := DataW.trod_int Tryz.underlying3 t0'
    obtain ⟨l, hl, _, _⟩ := DataW.trod_string Tryz.underlying9 t1'
    obtain ⟨r, hr, _, _⟩ := DataW.trod_string Tryz.underlying9 t2'
    simp at hz hl hr
    subst hz; subst hl; subst hr
    exact ⟨⟨z, l, r⟩, rfl⟩
theorem choose_list {α : Type} {p : Nat → α → Prop} : ∀ n, (∀ i, i < n → ∃ a, p i a) → ∃ l : List α, l.length = n ∧ ∀ i a, l[i]? = some a → p i a
  | 0, _ => ⟨[], rfl, fun i a h => by simp at h⟩
  | n + 1, h => by
    obtain ⟨l, h1, h2⟩ := choose_list n fun i hi => h i (by omega)
    obtain ⟨a, ha⟩ := h n (by omega)
    refine ⟨l ++ [a], by simp [h1], fun i b hb => ?_⟩
    by_cases hi : i < l.length
    · rw [List.getElem?_append_left hi] at hb; exact h2 i b hb
    · have hl := (List.getElem?_eq_some_iff.1 hb).1
      simp at hl
      have : i = l.length := by omega
      subst this
      simp at hb
      subst hb
      rw [h1]; exact ha
set_option maxRecDepth 100000 in
theorem list_at {a : Option Addr} {len cap : Nat} (h : DataW.trod enc Tryz.prog W 0 (fun _ => true) true fuel 22 [.slice a len cap] = some x) :
    ∃ vs : List FV, len = vs.length ∧ AtM W a (fcs vs) ∧ (len = 0 ∨ ∃ el sp, x.1 = .slice el sp ∧ len ≤ el.length + sp.length) := by
  have h26 : Tryz.prog.cellsOf 26 = 3 := by kernel_rfl
  rcases Deep.open_slice Tryz.underlying22 h with ⟨hcs, _⟩ | ⟨a', l, c, m, n, D, Pl, hcs, _, hl, hm, hmm, hx, hi⟩
  · simp at hcs
    obtain ⟨rfl, rfl, rfl⟩ := hcs
    exact ⟨[], rfl, .inl rfl, .inl rfl⟩
  · simp at hcs
    obtain ⟨rfl, rfl, rfl⟩ := hcs
    simp at hmm
    subst hmm
    by_cases h0 : len = 0
    · subst h0; exact ⟨[], rfl, .inl rfl, .inl rfl⟩
    have hspot : a'.spot = none := by
      obtain ⟨cs', hc, _⟩ := hi 0 (by omega)
      rw [h26] at hc
      obtain ⟨_, hlen, hat⟩ := World.cells?_some hc
      have h0 := hat 0 (by omega)
      rw [show (a'.add (0 * 3)).add 0 = a' by simp [Addr.add]] at h0
      have h1 : cs'[0]? = some (cs'[0]'(by omega)) := List.getElem?_eq_getElem (by omega)
      rw [h1] at h0
      unfold World.cell? at h0
      split at h0
      · by_cases hs : a'.spot.isSome
        · simp [hs] at h0
        · simpa using hs
      · cases h0
    obtain ⟨b, off, sp⟩ := a'
    simp only at hspot
    subst hspot
    obtain ⟨vs, hv1, hv2⟩ := choose_list (p := fun i v => W.cell? ⟨b, off + i * 3, none⟩ = some (.int .i64 v.t) ∧ W.cell? ⟨b, off + i * 3 + 1, none⟩ = some (.string v.l) ∧ W.cell? ⟨b, off + i * 3 + 2, none⟩ = some (.string v.r)) (α := FV) len (fun i hlt => by
      obtain ⟨cs', hc, ht⟩ := hi i (by omega)
      obtain ⟨v, rfl⟩ := one_at ht
      rw [h26] at hc
      obtain ⟨_, _, hat⟩ := World.cells?_some hc
      have c0 := hat 0 (by omega)
      have c1 := hat 1 (by omega)
      have c2 := hat 2 (by omega)
      rw [Addr.add_lit, Addr.add_lit] at c0 c1 c2
      exact ⟨v, c0, c1, c2⟩)
    refine ⟨vs, hv1.symm, .inr ⟨b, off, rfl, fun j hj => ?_⟩, .inr ⟨_, _, by rw [hx], by simp⟩⟩
    rw [fcs_length] at hj
    obtain ⟨k, hk⟩ : ∃ k, j = k * 3 ∨ j = k * 3 + 1 ∨ j = k * 3 + 2 := ⟨j / 3, by omega⟩
    have hlt : k < vs.length := by omega
    obtain ⟨c0, c1, c2⟩ := hv2 k _ (List.getElem?_eq_getElem hlt)
    obtain ⟨e0, e1, e2⟩ := fcs_get (List.getElem?_eq_getElem hlt)
    rcases hk with rfl | rfl | rfl
    · rw [e0]; exact c0
    · rw [e1]; exact c1
    · rw [e2]; exact c2
end
set_option maxRecDepth 100000 in
theorem lifted (os : Os) (started : os.Started) (H : Type) (enc : TypeId × Value → H) :
    ReturnsInHanded {} Tryz.checked os 3 .any (fun w args => (Rows.contrastListsSpec.pre enc Tryz.prog Tryz.f3 [] false w args ∧ laidMetH Tryz.prog laid9 w) ∧ sizedMet enc Tryz.prog Tryz.f3 (OpenSpec.ofChange Rows.contrastListsSpec) false w args)
      (Rows.contrastListsSpec.post enc Tryz.prog Tryz.f3 false true false false) := by
  refine returnsInHanded_of_change_and (C := Tryz.checked) (X := fun w _ => laidMetH Tryz.prog laid9 w) (fun _ _ _ hh h => h.of_heap hh) own started (by kernel_rfl) Tryz.func3
    (ChangeSpec.witness_shaped (enc := enc) (C := Tryz.checked) (os := os) (X := fun w _ => laidMetH Tryz.prog laid9 w) false (World.laidAll Tryz.prog os laid9) #[.slice none 0 0] 8 (World.laidAll_os _ _ _)
      (World.shaped_of_ZipB (by kernel_rfl) (by kernel_rfl)) (by kernel_rfl) (by kernel_rfl) (by kernel_rfl)
      (by rw [MakeChecks.laidMetH_plain _ _ _ (by kernel_rfl)]; exact laidMet_laidAll _ (by kernel_rfl) (by kernel_rfl))) ?_
  intro W base args ds gs before hval0 hW hcnd hsz hL _
  have hval : ∀ (j : Nat) t v, Tryz.f3.params[j]? = some t → args[j]? = some v → Value.okWide Tryz.prog W .any base t v := hval0
  have hW' := hW
  obtain ⟨p, q, hA0, hV, rfl, hfz, hnd⟩ := hW
  have hA : DataW.TrodAll enc Tryz.prog W 0 (fun _ => true) true Tryz.f3.params.toList args.toList ds p := hA0
  rw [Tryz.params3] at hA hval
  obtain ⟨v0, vs0, d0, ds0, p0, q0, hargs, rfl, rfl, h0, r0⟩ := trodAll_cons hA
  obtain ⟨rfl, rfl, rfl⟩ := trodAll_nil r0
  obtain rfl : args = #[v0] := by cases args; simp_all
  obtain ⟨rfl, rfl⟩ := trodVars_none hV
  have k0 := h0
  have lt0 : ∀ x ∈ p0, x.block < W.heap.size := by obtain ⟨m, hm⟩ := k0; exact DataW.trod_lt m _ _ _ hm
  obtain ⟨a0, len0, cap0, rfl⟩ := okWide_slice Tryz.underlying22 (hval 0 22 v0 rfl rfl)
  obtain ⟨vs, hlen, hat, hbig⟩ : ∃ vs : List FV, len0 = vs.length ∧ AtM W a0 (fcs vs) ∧ len0 * 40 ≤ 140737488355328 := by
    obtain ⟨m, hm⟩ := h0
    obtain ⟨vs, g1, g2, g3⟩ := list_at hm
    refine ⟨vs, g1, g2, ?_⟩
    rcases g3 with g3 | ⟨el, sp, g3, g4⟩
    · omega
    · have g3' : d0 = .slice el sp := g3
      subst g3'
      have := sized_slice hsz (j := 0) (t := 22) (e := 26) (elems := el) (spare := sp) (by rw [Tryz.params3]; rfl) rfl Tryz.underlying22
      rw [show Tryz.checked.prog.bytesOf 26 = 40 by kernel_rfl] at this
      have hr := reachBytes_lt
      have h5 : len0 * 40 ≤ (el.length + sp.length) * 40 := Nat.mul_le_mul_right _ g4
      omega
  clear hA0 hval0
  refine (lists_walk a0 len0 cap0 vs W hlen hbig hat (laidG hL)).mono fun e W' ⟨he, bel⟩ => ?_
  subst he
  exact ⟨_, rfl, _, _, _, [], _, [], hW', trodAll_mk1 (shut_bool Tryz.underlying4 _), (trodAll_cons_mk (Below.trod laidOut (by kernel_rfl) (of_decide_eq_true (by kernel_rfl)) k0 bel lt0) trodAll_mk0), rfl, bel.frame _, fun h => by cases h⟩

theorem over : Rows.ContrastListsSaid :=
  OpenClaim.holds_of_wide 3 Tryz.f3 rfl rfl rfl rfl rfl rfl rfl ⟨rfl, rfl, rfl, rfl, rfl⟩ rfl rfl rfl rfl rfl (by kernel_rfl) Tryz.func3 closedFacts
    (of_decide_eq_true (by kernel_rfl)) (by unfold Func.isWrapper; first | (rw [if_pos (by decide +kernel)]; kernel_rfl) | (rw [if_neg (by decide +kernel)]; exact ⟨rfl, rfl⟩))
    (fun os started H enc _ => lifted os started H enc)
/-- the statement -/
theorem proved : Rows.ContrastListsCardSaid :=
  Claim7.holds_tied_plain_at .later [] [.data, .data, .data, .data, .data, .data, .data, .data] true (true, "58e592eddfceee11e4eccbbeb52b0fa54999b30533ea539ed3f3d6108d5c32c7") false
    over (fun _ h => by cases h) fact_wf (fun _ h => by cases h) contrastLists_row_tie rfl ⟨rfl, rfl⟩ fact_main rfl
    (fun f fn hf hfn => by
      obtain rfl : f = 3 := Option.some.inj ((show Tryz.prog.funcNamed "rootcause/rootcauselaw47.ContrastLists" = some 3 by kernel_rfl).symm.trans hf) |>.symm
      obtain rfl : fn = Tryz.f3 := (Option.some.inj (Tryz.func3.symm.trans hfn)).symm
      exact ⟨fact_looks, fun j t ht => by
        rw [Tryz.params3] at ht
        have hm : t ∈ [22] := by simpa using Array.mem_of_getElem? ht
        exact (show Tryz.prog.wantsStandIn t = false by simpa using List.all_eq_true.1 fact_stand t hm)⟩)
    fact_goes
#print axioms proved
end Go.Proofs.YtcnhmjkmlncbhaaGreatDoor
