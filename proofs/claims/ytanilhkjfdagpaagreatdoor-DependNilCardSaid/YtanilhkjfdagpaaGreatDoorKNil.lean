/- DependNil: what it calls behind awake -/
import Derived.Test.YtanilhkjfdagpaaGreatDoorKAwake
import Derived.WalkKit
import Derived.WalkSpells
import Derived.WalkLawsBesides
import Derived.KernelRfl
import Derived.Lib.Hide
namespace Go.Proofs.YtanilhkjfdagpaaGreatDoor
open Go.Ev Go.RowKit

noncomputable def EN : Env := mkEnv Tryz.prog 0 [201] []
theorem en_ok : EN.Ok Tryz.prog := by
  refine mkEnv_ok (by kernel_rfl) (fun fn h => by simpa using List.all_eq_true.1 noCount fn h) (fun f hf x w => ?_) (fun e u o h => by cases h) (by kernel_rfl)
  obtain rfl : f = 201 := by simpa using hf
  kernel_rfl
noncomputable def callN : Tgt → List Value → AW → Out Value := callA EN sq (drawA EN sq) noOrc 1000 20
theorem callN_ok : CallOk Tryz.prog EN callN := eval_ok en_ok (seq_ok (by kernel_rfl)) (noOrc_ok _ _) _ _
theorem callN_nil (w : World) : Inv w EN.G (ren0 []) (mkAW 6 []) w := start_inv (k := 6) (L := []) fun g hg => by cases hg
noncomputable def isNilS (v : Value) : Bool := match v with | .slice none 0 0 => true | _ => false
noncomputable def isNilP (v : Value) : Bool := match v with | .pointer none => true | _ => false
noncomputable def isFalse (v : Value) : Bool := match v with | .bool b => not b | _ => false
theorem closed_at {f : FuncId} {args args' : List Value} {p : Value → Bool} {x : Value} (hp : ∀ β v v', p v = true → VRel β v v' → v' = x) (h : allB p (callN (.fn f) args (mkAW 6 [])) = true) (w : World) (ha : LRel (ren0 []) args args') :
    Calls Tryz.prog f ⟨args'⟩ w fun e w' => e = .returned x ∧ Below w.heap.size w w' := by
  unfold allB at h
  split at h
  · cases h
  · rename_i l hl
    refine (callN_ok w (.fn f) args _ l _ w args' hl (callN_nil w) ha).mono fun e w' ⟨q, hq, β', v', h1, h2, h3, _, _⟩ => ?_
    exact ⟨by rw [h1, hp β' _ _ (lall_eq _ _ h q hq) h2], h3.below⟩
theorem nilS_rel (β : Ren) (v v' : Value) (h : isNilS v = true) (hv : VRel β v v') : v' = .slice none 0 0 := by
  unfold isNilS at h
  split at h
  · cases hv; rfl
  · cases h
theorem nilP_rel (β : Ren) (v v' : Value) (h : isNilP v = true) (hv : VRel β v v') : v' = .pointer none := by
  unfold isNilP at h
  split at h
  · cases hv; rfl
  · cases h
theorem false_rel (β : Ren) (v v' : Value) (h : isFalse v = true) (hv : VRel β v v') : v' = .bool false := by
  unfold isFalse at h
  split at h
  · rename_i b; cases hv; cases b
    · rfl
    · cases h
  · cases h
theorem of_nil (w : World) : Calls Tryz.prog 5 #[.pointer none] w fun e w' => e = .returned (.pointer none) ∧ Below w.heap.size w w' :=
  closed_at (args := [.pointer none]) nilP_rel (by kernel_rfl) w (.cons .ptr0 (.nil _))
theorem nodes_nil (w : World) : Calls Tryz.prog 6 #[.pointer none] w fun e w' => e = .returned (.slice none 0 0) ∧ Below w.heap.size w w' :=
  closed_at (args := [.pointer none]) nilS_rel (by kernel_rfl) w (.cons .ptr0 (.nil _))
theorem edges_nil (a : List Value) (ha : a.length = 3) (w : World) : Calls Tryz.prog 7 #[.pointer none, .agg ⟨a⟩] w fun e w' => e = .returned (.slice none 0 0) ∧ Below w.heap.size w w' := by
  refine closed_at (args := [.pointer none, .agg ⟨[J, J, J]⟩]) nilS_rel (by kernel_rfl) w (.cons .ptr0 (.cons (.agg_of ?_) (.nil _)))
  match a, ha with
  | [x, y, z], _ => exact .cons (.junk _) (.cons (.junk _) (.cons (.junk _) (.nil _)))
theorem reach_nil (a b : List Value) (ha : a.length = 3) (hb : b.length = 3) (w : World) : Calls Tryz.prog 8 #[.pointer none, .agg ⟨a⟩, .agg ⟨b⟩] w fun e w' => e = .returned (.bool false) ∧ Below w.heap.size w w' := by
  refine closed_at (args := [.pointer none, .agg ⟨[J, J, J]⟩, .agg ⟨[J, J, J]⟩]) false_rel (by kernel_rfl) w (.cons .ptr0 (.cons (.agg_of ?_) (.cons (.agg_of ?_) (.nil _))))
  · match a, ha with
    | [x, y, z], _ => exact .cons (.junk _) (.cons (.junk _) (.cons (.junk _) (.nil _)))
  · match b, hb with
    | [x, y, z], _ => exact .cons (.junk _) (.cons (.junk _) (.cons (.junk _) (.nil _)))
theorem cone_nil (a : Value) (w : World) : Calls Tryz.prog 9 #[.pointer none, a] w fun e w' => e = .returned (.slice none 0 0) ∧ Below w.heap.size w w' :=
  closed_at (args := [.pointer none, J]) nilS_rel (by kernel_rfl) w (.cons .ptr0 (.cons (.junk _) (.nil _)))
theorem filter_nil (a : Value) (w : World) : Calls Tryz.prog 18 #[.pointer none, a] w fun e w' => e = .returned (.slice none 0 0) ∧ Below w.heap.size w w' :=
  closed_at (args := [.pointer none, J]) nilS_rel (by kernel_rfl) w (.cons .ptr0 (.cons (.junk _) (.nil _)))
set_option maxHeartbeats 400000 in
set_option maxRecDepth 100000 in
theorem source_nil (k0 k1 k2 k3 : Int) (x1 x2 x3 : Value) (w : World) : Calls Tryz.prog 10 #[.pointer none, .agg #[.int .u8 k0, .int .i64 k1, .int .i64 k2, .int .i64 k3, x1, x2, x3]] w fun e w' => e = .returned (.slice none 0 0) ∧ Below w.heap.size w w' := by
  go_enter Tryz.func10, Tryz.ntmps10
  go_wp2_with fail
  refine (filter_nil _ _).mono ?_
  rintro e w1 ⟨rfl, hb⟩
  go_wp2_with fail
  go_ret
  exact ⟨rfl, (((Below.refl _ w).alloc (Nat.le_refl _) _).alloc (by simp) _).trans (hb.mono (by simp; omega))⟩
end Go.Proofs.YtanilhkjfdagpaaGreatDoor
