/- rootcause/rootcauselaw47.awake: the call itself -/
import Derived.Test.YtcnhmjkmlncbhaaGreatDoorKBase
import Derived.Test.YtcnhmjkmlncbhaaGreatDoorKP0
import Derived.Test.YtcnhmjkmlncbhaaGreatDoorKP1
import Derived.Test.YtcnhmjkmlncbhaaGreatDoorKR110
import Derived.Test.YtcnhmjkmlncbhaaGreatDoorKR1340
import Derived.Test.YtcnhmjkmlncbhaaGreatDoorKR1341
import Derived.Test.YtcnhmjkmlncbhaaGreatDoorKR1342
import Derived.Test.YtcnhmjkmlncbhaaGreatDoorKR70
import Derived.Test.YtcnhmjkmlncbhaaGreatDoorKR100
import Derived.Test.YtcnhmjkmlncbhaaGreatDoorKR101
import Derived.Test.YtcnhmjkmlncbhaaGreatDoorKRun
import Derived.Test.YtcnhmjkmlncbhaaGreatDoorRows
namespace Go.Proofs.YtcnhmjkmlncbhaaGreatDoor
open Go.Ex Go.RowKit
theorem noCount : (Tryz.prog.funcs.toList.all fun fn => !(fn.name == "runtime.NumGoroutine")) = true := by kernel_rfl
theorem env_ok : EE.Ok Tryz.prog := by
  refine mkEnv_ok (by kernel_rfl) (fun fn h => by simpa using List.all_eq_true.1 noCount fn h) (fun f hf x w => ?_) (fun e u o h => ?_) (by kernel_rfl) (fun δ nd h => h.op) (fun w w' h hb => ?_) (fun f hf args w => ?_) (fun f t h => ?_)
  · obtain rfl : f = 270 := by simpa using hf
    kernel_rfl
  · rcases (by simpa using h : (e = 153 ∧ u = 151 ∧ o = 0) ∨ (e = 151 ∧ u = 151 ∧ o = 0)) with ⟨rfl, rfl, rfl⟩ | ⟨rfl, rfl, rfl⟩ <;> kernel_rfl
  · refine ⟨?_, fun g hg => ?_⟩
    · have h6 := hb 6 (by show 6 < 7; decide)
      have hs : 7 ≤ w.heap.size := h.1
      rw [Array.getElem?_eq_getElem (show 6 < w.heap.size by omega)] at h6
      have h7 := (Array.getElem?_eq_some_iff.1 h6).1
      show 7 ≤ _; omega
    · rcases h.2 g hg with h1 | ⟨cs, es, h1, h2, e, fz, h3⟩
      · exact .inl h1
      · exact .inr ⟨cs, es, h1, h2, e, fz, (hb g hg).trans h3⟩
  · obtain rfl : f = 407 := by simpa using hf
    kernel_rfl
  · obtain ⟨rfl, rfl⟩ : f = 301 ∧ t = 91 := by simpa using h
    exact ⟨#[], fun args w => by kernel_rfl⟩
theorem sq_ok : EE.Seq Tryz.prog sq := seq_ok (by kernel_rfl)
theorem LaidG.size {w : World} (h : LaidG w) : gl9.length ≤ w.heap.size := h.1
theorem call00_ok : CallOk Tryz.prog EE call00 := eval_ok env_ok sq_ok (noOrc_ok _ _) _ _
theorem laid_all : ∀ w, LaidG w → gl9.length ≤ w.heap.size ∧ LaidAt gl9 w := fun w h => h
theorem call0_ok : CallOk Tryz.prog EE call0 := eval_ok env_ok sq_ok (orElse_ok (orcF_ok env_ok (ents_ok call00_ok rfl laid_all hp0)) (orcF_ok env_ok (ents_ok call00_ok rfl laid_all hp1))) _ _
theorem call1_ok : CallOk Tryz.prog EE call1 := eval_ok env_ok sq_ok (orElse_ok (orElse_ok (orcF_ok env_ok (ents_ok call00_ok rfl laid_all hp0)) (orcF_ok env_ok (ents_ok call00_ok rfl laid_all hp1))) (orElse_ok (Rec.ok call0_ok h11_0) (orElse_ok (Rec.ok call0_ok h134_0) (orElse_ok (Rec.ok call0_ok h134_1) (Rec.ok call0_ok h134_2))))) _ _
theorem call2_ok : CallOk Tryz.prog EE call2 := eval_ok env_ok sq_ok (orElse_ok (orElse_ok (orcF_ok env_ok (ents_ok call00_ok rfl laid_all hp0)) (orcF_ok env_ok (ents_ok call00_ok rfl laid_all hp1))) (Rec.ok call1_ok h7_0)) _ _
theorem call3_ok : CallOk Tryz.prog EE call3 := eval_ok env_ok sq_ok (orElse_ok (orElse_ok (orcF_ok env_ok (ents_ok call00_ok rfl laid_all hp0)) (orcF_ok env_ok (ents_ok call00_ok rfl laid_all hp1))) (orElse_ok (Rec.ok call2_ok h10_0) (orElse_ok (Rec.ok call2_ok h10_1) (Rec.ok call1_ok h7_0)))) _ _
abbrev laid9 : List (String × DataW Unit) := [("math/bits.deBruijn32tab", Rows.laid_math_bits_deBruijn32tab), ("math/bits.deBruijn64tab", Rows.laid_math_bits_deBruijn64tab), ("rootcause/digest.constants", Rows.laid_rootcause_digest_constants), ("rootcause/lexer.words", Rows.laid_rootcause_lexer_words), ("rootcause/lexer.symbols", Rows.laid_rootcause_lexer_symbols), ("rootcause/syntax.shapes", Rows.laid_rootcause_syntax_shapes), ("rootcause/syntax.forms", Rows.laid_rootcause_syntax_forms), ("rootcause/code.rows", Rows.laid_rootcause_code_rows)]
noncomputable def cellsAt (b : Option Blk) : List Value := match b with | some ⟨.cells cs, _, _, _, _⟩ => cs | _ => []
theorem laid_plain : (laid9.all fun x => x.2.handleName?.isNone) = true := by kernel_rfl
section
variable {w : World} (h : laidMetH Tryz.prog laid9 w)
include h
theorem g0 : ∃ e fz, w.heap[0]? = some (.cells ⟨cellsAt kb0⟩ e fz) := glob_cells h laid_plain 4 (n := "rootcause/lexer.symbols") (d := Rows.laid_rootcause_lexer_symbols) (t := (Tryz.prog.globals[0]?.map (·.type)).getD 0) (by simp [laid9]) (by kernel_rfl) (by kernel_rfl) (by kernel_rfl)
theorem g1 : ∃ e fz, w.heap[1]? = some (.cells ⟨cellsAt kb1⟩ e fz) := glob_cells h laid_plain 4 (n := "rootcause/digest.constants") (d := Rows.laid_rootcause_digest_constants) (t := (Tryz.prog.globals[1]?.map (·.type)).getD 0) (by simp [laid9]) (by kernel_rfl) (by kernel_rfl) (by kernel_rfl)
theorem g2 : ∃ e fz, w.heap[2]? = some (.cells ⟨cellsAt kb2⟩ e fz) := glob_cells h laid_plain 4 (n := "rootcause/lexer.words") (d := Rows.laid_rootcause_lexer_words) (t := (Tryz.prog.globals[2]?.map (·.type)).getD 0) (by simp [laid9]) (by kernel_rfl) (by kernel_rfl) (by kernel_rfl)
theorem g3 : ∃ e fz, w.heap[3]? = some (.cells ⟨cellsAt kb3⟩ e fz) := glob_cells h laid_plain 4 (n := "rootcause/syntax.forms") (d := Rows.laid_rootcause_syntax_forms) (t := (Tryz.prog.globals[3]?.map (·.type)).getD 0) (by simp [laid9]) (by kernel_rfl) (by kernel_rfl) (by kernel_rfl)
theorem g5 : ∃ e fz, w.heap[5]? = some (.cells ⟨cellsAt kb4⟩ e fz) := glob_cells h laid_plain 4 (n := "rootcause/syntax.shapes") (d := Rows.laid_rootcause_syntax_shapes) (t := (Tryz.prog.globals[5]?.map (·.type)).getD 0) (by simp [laid9]) (by kernel_rfl) (by kernel_rfl) (by kernel_rfl)
theorem g6 : ∃ e fz, w.heap[6]? = some (.cells ⟨cellsAt kb5⟩ e fz) := glob_cells h laid_plain 4 (n := "rootcause/code.rows") (d := Rows.laid_rootcause_code_rows) (t := (Tryz.prog.globals[6]?.map (·.type)).getD 0) (by simp [laid9]) (by kernel_rfl) (by kernel_rfl) (by kernel_rfl)
theorem laidG : LaidG w := ⟨(by obtain ⟨e, fz, h6⟩ := g6 h; exact (Array.getElem?_eq_some_iff.1 h6).1), fun g hg => by
  match g, hg with
  | 0, _ => exact .inr ⟨_, _, rfl, by kernel_rfl, g0 h⟩
  | 1, _ => exact .inr ⟨_, _, rfl, by kernel_rfl, g1 h⟩
  | 2, _ => exact .inr ⟨_, _, rfl, by kernel_rfl, g2 h⟩
  | 3, _ => exact .inr ⟨_, _, rfl, by kernel_rfl, g3 h⟩
  | 4, _ => exact .inl rfl
  | 5, _ => exact .inr ⟨_, _, rfl, by kernel_rfl, g5 h⟩
  | 6, _ => exact .inr ⟨_, _, rfl, by kernel_rfl, g6 h⟩
  | n + 7, hg => exact absurd hg (by simp)⟩
end
theorem LaidG.ext {w w' : World} (h : LaidG w) (hb : Below w.heap.size w w') : LaidG w' := ⟨Nat.le_trans h.1 hb.size, fun g hg => by
  rcases h.2 g hg with h1 | ⟨cs, es, h1, h2, e, fz, h3⟩
  · exact .inl h1
  · exact .inr ⟨cs, es, h1, h2, e, fz, by rw [hb.block g (Array.getElem?_eq_some_iff.1 h3).1]; exact h3⟩⟩
theorem awake_walk {w : World} (h : LaidG w) : Calls Tryz.prog 4 #[] w fun e w' => e = .returned (.bool true) ∧ Below w.heap.size w w' :=
  closed_true call3_ok hrun (start_inv (k := 13) (L := gl9) h.2 GG.Q GG.L (fun _ => none) (fun _ => none) [] h h.1 (fun b cs h => by cases h) (fun nd h => by cases h)) (fun k h => h)
#print axioms awake_walk
end Go.Proofs.YtcnhmjkmlncbhaaGreatDoor
