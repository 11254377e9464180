/- SnapshotNil: what it calls behind awake; the law -/
import Derived.Test.YtkpnmedaonmlaaaGreatDoorKAwake
import Derived.WalkKit
import Derived.WalkSpells
import Derived.WalkLawsBesides
import Derived.KernelRfl
import Derived.Lib.Hide
namespace Go.Proofs.YtkpnmedaonmlaaaGreatDoor
open Go.Ev Go.RowKit

noncomputable def EN : Env := mkEnv Tryz.prog 0 [285] []
theorem en_ok : EN.Ok Tryz.prog := by
  refine mkEnv_ok (by kernel_rfl) (fun fn h => by simpa using List.all_eq_true.1 noCount fn h) (fun f hf x w => ?_) (fun e u o h => by cases h) (by kernel_rfl)
  obtain rfl : f = 285 := by simpa using hf
  kernel_rfl
noncomputable def callN : Tgt → List Value → AW → Out Value := callA EN sq (drawA EN sq) noOrc 1000 20
theorem callN_ok : CallOk Tryz.prog EN callN := eval_ok en_ok (seq_ok (by kernel_rfl)) (noOrc_ok _ _) _ _
theorem callN_nil (w : World) : Inv w EN.G (ren0 []) (mkAW 6 []) w := start_inv (k := 6) (L := []) fun g hg => by cases hg
noncomputable def isNilS (v : Value) : Bool := match v with | .slice none 0 0 => true | _ => false
noncomputable def isNilF (v : Value) : Bool := match v with | .tuple ⟨[.pointer none, .bool false]⟩ => true | _ => false
noncomputable def isFalse (v : Value) : Bool := match v with | .bool b => not b | _ => false
theorem closed_at {f : FuncId} {args args' : List Value} {p : Value → Bool} {x : Value} (hp : ∀ β v v', p v = true → VRel β v v' → v' = x) (h : allB p (callN (.fn f) args (mkAW 6 [])) = true) (w : World) (ha : LRel (ren0 []) args args') :
    Calls Tryz.prog f ⟨args'⟩ w fun e w' => e = .returned x ∧ Below w.heap.size w w' := by
  unfold allB at h
  split at h
  · cases h
  · rename_i l hl
    refine (callN_ok w (.fn f) args _ l _ w args' hl (callN_nil w) ha).mono fun e w' ⟨q, hq, β', v', h1, h2, h3, _, _⟩ => ?_
    exact ⟨by rw [h1, hp β' _ _ (lall_eq _ _ h q hq) h2], h3.below⟩
theorem nilS_rel (β : Ren) (v v' : Value) (h : isNilS v = true) (hv : VRel β v v') : v' = .slice none 0 0 := by
  unfold isNilS at h
  split at h
  · cases hv; rfl
  · cases h
theorem nilF_rel (β : Ren) (v v' : Value) (h : isNilF v = true) (hv : VRel β v v') : v' = .tuple #[.pointer none, .bool false] := by
  unfold isNilF at h
  split at h
  · cases hv with
    | tuple _ l' hl ht =>
      match l', hl with
      | [x, y], _ =>
        have h0 := ht 0 _ _ rfl rfl
        have h1 := ht 1 _ _ rfl rfl
        cases h0
        cases h1
        rfl
  · cases h
theorem false_rel (β : Ren) (v v' : Value) (h : isFalse v = true) (hv : VRel β v v') : v' = .bool false := by
  unfold isFalse at h
  split at h
  · rename_i b; cases hv; cases b
    · rfl
    · cases h
  · cases h
theorem latest_nil (t : Int) (w : World) : Calls Tryz.prog 5 #[.pointer none, .int .i64 t] w fun e w' => e = .returned (.tuple #[.pointer none, .bool false]) ∧ Below w.heap.size w w' := by
  go_enter Tryz.func5, Tryz.ntmps5
  go_wp2_with fail
  (try simp only [Exit.inBlock, Exit.then])
  refine bodyPost_ret (v := .tuple #[.pointer none, .bool false]) ?_ rfl ⟨rfl, ?_⟩
  · simp only [results, show Tryz.f5.results = #[.cell 4 24, .cell 5 4] from rfl]
    go_simp
  · exact (((Below.refl _ w).alloc (Nat.le_refl _) _).alloc (by simp) _).alloc (by simp; omega) _
theorem offer_nil (w : World) : Calls Tryz.prog 6 #[.pointer none, .pointer none] w fun e w' => e = .returned (.bool false) ∧ Below w.heap.size w w' :=
  closed_at (args := [.pointer none, .pointer none]) false_rel (by kernel_rfl) w (.cons .ptr0 (.cons .ptr0 (.nil _)))
theorem ticks_nil (w : World) : Calls Tryz.prog 7 #[.pointer none] w fun e w' => e = .returned (.slice none 0 0) ∧ Below w.heap.size w w' :=
  closed_at (args := [.pointer none]) nilS_rel (by kernel_rfl) w (.cons .ptr0 (.nil _))
theorem keeper_none (every most : Int) (h : every < 1 ∨ most < 1) (w : World) : Calls Tryz.prog 8 #[.int .i64 every, .int .i64 most] w fun e w' => e = .returned (.pointer none) ∧ Below w.heap.size w w' := by
  go_enter Tryz.func8, Tryz.ntmps8
  by_cases h1 : every < 1
  · have d1 : decide (every < 1) = true := decide_eq_true h1
    go_wp2_with fail
    go_ret
    exact ⟨rfl, Below.refl _ w⟩
  · have d1 : decide (every < 1) = false := decide_eq_false h1
    have d2 : decide (most < 1) = true := decide_eq_true (h.resolve_left h1)
    go_wp2_with fail
    go_ret
    exact ⟨rfl, Below.refl _ w⟩
theorem keeper_some (every most : Int) (h1 : ¬ every < 1) (h2 : ¬ most < 1) (w : World) : Calls Tryz.prog 8 #[.int .i64 every, .int .i64 most] w fun e w' => (∃ a, e = .returned (.pointer (some a))) ∧ Below w.heap.size w w' := by
  have d1 : decide (every < 1) = false := decide_eq_false h1
  have d2 : decide (most < 1) = false := decide_eq_false h2
  go_enter Tryz.func8, Tryz.ntmps8
  go_wp2_with fail
  go_ret
  exact ⟨⟨_, rfl⟩, (Below.refl _ w).alloc (Nat.le_refl _) _⟩
set_option maxHeartbeats 1000000 in
set_option maxRecDepth 100000 in
theorem law_walk (every most tick : Int) (w : World) (hL : LaidG w) : Calls Tryz.prog 3 #[.int .i64 every, .int .i64 most, .int .i64 tick] w fun e w' => e = .returned (.bool true) ∧ Below w.heap.size w w' := by
  have H0 := Lib.hid (awake_walk hL)
  clear hL
  go_enter Tryz.func3, Tryz.ntmps3
  go_wp2_with fail
  refine H0.out.mono ?_
  rintro e wa ⟨rfl, hba⟩
  go_wp2_with fail
  refine (latest_nil _ wa).mono ?_
  rintro e wb ⟨rfl, hbb⟩
  have hb2 := hba.trans (hbb.mono hba.size)
  clear hba hbb
  go_wp2_with fail
  refine (offer_nil wb).mono ?_
  rintro e wc ⟨rfl, hbc⟩
  have hb3 := hb2.trans (hbc.mono hb2.size)
  clear hb2 hbc
  go_wp2_with fail
  refine (ticks_nil wc).mono ?_
  rintro e wd ⟨rfl, hbd⟩
  have hb4 := hb3.trans (hbd.mono hb3.size)
  clear hb3 hbd
  go_wp2_with fail
  by_cases h1 : every < 1
  · have d1 : decide (every < 1) = true := decide_eq_true h1
    refine (keeper_none every most (.inl h1) wd).mono ?_
    rintro e we ⟨rfl, hbe⟩
    have hb5 := hb4.trans (hbe.mono hb4.size)
    go_wp2_with fail
    go_ret
    exact ⟨rfl, hb5⟩
  · by_cases h2 : most < 1
    · have d1 : decide (every < 1) = false := decide_eq_false h1
      have d2 : decide (most < 1) = true := decide_eq_true h2
      refine (keeper_none every most (.inr h2) wd).mono ?_
      rintro e we ⟨rfl, hbe⟩
      have hb5 := hb4.trans (hbe.mono hb4.size)
      go_wp2_with fail
      go_ret
      exact ⟨rfl, hb5⟩
    · have d1 : decide (every < 1) = false := decide_eq_false h1
      have d2 : decide (most < 1) = false := decide_eq_false h2
      refine (keeper_some every most h1 h2 wd).mono ?_
      rintro e we ⟨⟨ad, rfl⟩, hbe⟩
      have hb5 := hb4.trans (hbe.mono hb4.size)
      go_wp2_with fail
      go_ret
      exact ⟨rfl, hb5⟩
#print axioms law_walk
end Go.Proofs.YtkpnmedaonmlaaaGreatDoor
