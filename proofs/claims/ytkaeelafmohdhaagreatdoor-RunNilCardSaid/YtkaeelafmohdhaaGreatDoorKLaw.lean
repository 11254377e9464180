/- RunNil: the law, by the evaluator: the horizon is a symbol. -/
import Derived.Test.YtkaeelafmohdhaaGreatDoorKAwake
import Derived.KernelRfl
namespace Go.Proofs.YtkaeelafmohdhaaGreatDoor
open Go.Ex Go.RowKit
noncomputable def callL : Tgt → List Value → AW → Out Value := callA EE sq (drawA EE sq) (orcK 5 (.bool true)) 100000 60
theorem callL_ok : CallOk Tryz.prog EE callL := eval_ok env_ok sq_ok (orcK_ok env_ok (fun _ => .bool true) (fun _ h => awake_walk h)) _ _
def tapeL : List Ex.Node := [({ k := .cvI .i64, args := [.chan (some 1)], res := .chan (some 2) } : Ex.Node)]
def argL : List Value := [.agg ⟨[J, J, J, J, J, .chan (some 1)]⟩]
theorem hlaw : allB isTrue (callL (.fn 3) argL ((mkAW 12 gl9).pop tapeL)) = true := by kernel_rfl
def datL (n : Int) (c : Nat) : Option D := match c with | 0 => some (.int .u8 n) | 1 => some (.int .i64 (IntKind.i64.wrap n)) | _ => none
theorem law_walk (a : List Value) (ha : a.length = 5) (n : Int) (w : World) (h : LaidG w) : Calls Tryz.prog 3 #[.agg ⟨a ++ [.int .u8 n]⟩] w fun e w' => e = .returned (.bool true) ∧ Below w.heap.size w w' := by
  refine true_of_run callL_ok hlaw (start_inv (k := 12) (L := gl9) h GG.Q GG.L (datL n) (fun _ => none) tapeL h h.size (fun b cs h => by cases h) (fun nd hnd => ?_)) ?_ (fun k h => h)
  · obtain rfl : nd = ({ k := .cvI .i64, args := [.chan (some 1)], res := .chan (some 2) } : Ex.Node) := by simpa [tapeL] using hnd
    exact ⟨[.int .u8 n], .int .i64 (IntKind.i64.wrap n), rfl, rfl, rfl⟩
  · match a, ha with
    | [a0, a1, a2, a3, a4], _ =>
      refine (LRel.nil _).cons (VRel.agg_of ?_)
      exact (LRel.nil _).cons (.sym 0 (.int .u8 n) _ rfl rfl (.int _ _)) |>.cons (.junk _) |>.cons (.junk _) |>.cons (.junk _) |>.cons (.junk _) |>.cons (.junk _)
#print axioms law_walk
end Go.Proofs.YtkaeelafmohdhaaGreatDoor
