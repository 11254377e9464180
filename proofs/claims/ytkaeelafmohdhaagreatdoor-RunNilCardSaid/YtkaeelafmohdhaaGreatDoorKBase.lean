/- rootcause/rootcauselaw17.awake: the tables -/
import Derived.Test.YtkaeelafmohdhaaGreatDoorChecked
import Derived.Test.YtkaeelafmohdhaaGreatDoorKW
namespace Go.Proofs.YtkaeelafmohdhaaGreatDoor
open Go.Ex Go.RowKit
abbrev gl9 : List (Option Blk) := [kb0, kb1, kb2, kb3, kb4, kb5, kb6]
/-- the package's tables lie as the program's text lays them -/
def LaidG (w : World) : Prop := ∀ g, g < gl9.length → ∃ cs es, gl9[g]? = some (some ⟨.cells cs, es, false, true, ANY⟩) ∧ (cs.all scal) = true ∧ ∃ e fz, w.heap[g]? = some (.cells ⟨cs⟩ e fz)
def GG : GP := ⟨7, GQ Tryz.prog LaidG, LaidG⟩
noncomputable def EE : Env := mkEnv Tryz.prog GG [354] [(311, 309, 0)] [388]
def sq : List (Nat × List IntKind) := [(77, [.u8, .i64, .i64, .i64]), (78, [.u8, .i64, .i64, .i64]), (97, [.i64, .i64, .i64, .i64, .i64, .i64, .i64, .i64]), (120, [.i64, .i64, .i64]), (121, [.i64, .i64, .i64]), (154, [.i64, .i64, .i64]), (259, [.u8, .i64, .i64, .i64]), (260, [.u8, .i64, .i64, .i64]), (398, [.u32, .u32, .u32, .u32, .u32, .u32, .u32, .u32]), (409, [.i64, .i64, .i64, .i64, .i64, .i64]), (514, [.i64, .i64]), (515, [.i64, .i64])]
noncomputable def call00 : Tgt → List Value → AW → Out Value := callA EE sq (drawA EE sq) noOrc 100000 60
noncomputable def call0 : Tgt → List Value → AW → Out Value := callA EE sq (drawA EE sq) (orElse (orcF ents0) (orElse (orcF ents1) (orcF ents2))) 100000 60
noncomputable def call1 : Tgt → List Value → AW → Out Value := callA EE sq (drawA EE sq) (orElse (orElse (orcF ents0) (orElse (orcF ents1) (orcF ents2))) (orElse r66_0.orc (orElse r254_0.orc (orElse r254_1.orc (orElse r254_2.orc (orElse r254_3.orc r254_4.orc)))))) 100000 60
noncomputable def call2 : Tgt → List Value → AW → Out Value := callA EE sq (drawA EE sq) (orElse (orElse (orcF ents0) (orElse (orcF ents1) (orcF ents2))) (orElse r22_0.orc (orElse r254_0.orc (orElse r254_1.orc (orElse r254_2.orc (orElse r254_3.orc r254_4.orc)))))) 100000 60
noncomputable def call3 : Tgt → List Value → AW → Out Value := callA EE sq (drawA EE sq) (orElse (orElse (orcF ents0) (orElse (orcF ents1) (orcF ents2))) (orElse r23_0.orc (orElse r254_0.orc (orElse r254_1.orc (orElse r254_2.orc (orElse r254_3.orc (orElse r254_4.orc r22_0.orc))))))) 100000 60
noncomputable def call4 : Tgt → List Value → AW → Out Value := callA EE sq (drawA EE sq) (orElse (orElse (orcF ents0) (orElse (orcF ents1) (orcF ents2))) (orElse r31_0.orc (orElse r31_1.orc (orElse r31_2.orc (orElse r254_0.orc (orElse r254_1.orc (orElse r254_2.orc (orElse r254_3.orc (orElse r254_4.orc (orElse r22_0.orc r23_0.orc)))))))))) 100000 60
end Go.Proofs.YtkaeelafmohdhaaGreatDoor
