/- rootcause/rootcauselaw47.awake: the tables -/
import Derived.Test.YtcnhmjkmlncbhaaGreatDoorChecked
import Derived.Test.YtcnhmjkmlncbhaaGreatDoorKW
namespace Go.Proofs.YtcnhmjkmlncbhaaGreatDoor
open Go.Ex Go.RowKit
abbrev gl9 : List (Option Blk) := [kb0, kb1, kb2, kb3, none, kb4, kb5]
/-- the package's tables lie as the program's text lays them (of some nothing is told) -/
def LaidG (w : World) : Prop := gl9.length ≤ w.heap.size ∧ LaidAt gl9 w
def GG : GP := ⟨7, GQ Tryz.prog LaidG, LaidG⟩
noncomputable def EE : Env := mkEnv Tryz.prog GG [270] [(153, 151, 0), (151, 151, 0)] [407] [(301, 91)]
def sq : List (Nat × List IntKind) := [(44, [.u8, .i64, .i64, .i64]), (45, [.u8, .i64, .i64, .i64]), (88, [.u8, .u8, .u8, .u8, .u8, .u8, .u8, .u8, .u8, .u8, .u8, .u8, .u8, .u8, .u8, .u8, .u8, .u8, .u8, .u8, .u8, .u8, .u8, .u8, .u8, .u8, .u8, .u8, .u8, .u8, .u8, .u8]), (89, [.u8, .u8, .u8, .u8, .u8, .u8, .u8, .u8, .u8, .u8, .u8, .u8, .u8, .u8, .u8, .u8, .u8, .u8, .u8, .u8, .u8, .u8, .u8, .u8, .u8, .u8, .u8, .u8, .u8, .u8, .u8, .u8]), (210, [.i64, .i64, .i64, .i64, .i64, .i64, .i64, .i64]), (220, [.i64, .i64]), (221, [.i64, .i64]), (271, [.u32, .u32, .u32, .u32, .u32, .u32, .u32, .u32]), (291, [.i64, .i64, .i64]), (292, [.i64, .i64, .i64]), (404, [.u8, .i64, .i64, .i64]), (405, [.u8, .i64, .i64, .i64]), (423, [.u8, .u8, .u8, .u8, .u8, .u8, .u8, .u8, .u8, .u8, .u8, .u8, .u8, .u8, .u8, .u8, .u8, .u8, .u8, .u8, .u8, .u8, .u8, .u8]), (472, [.u64, .u64, .u64, .u64, .u64, .u64, .u64, .u64, .u64, .u64, .u64, .u64, .u64, .u64, .u64, .u64, .u64, .u64, .u64, .u64]), (492, [.i64, .i64, .i64, .i64, .i64, .i64]), (493, [.i64, .i64, .i64]), (551, [.i64, .i64]), (552, [.i64, .i64]), (555, [.u8, .u8]), (556, [.u8, .u8]), (557, [.u8, .u8, .u8, .u8, .u8, .u8, .u8, .u8, .u8, .u8, .u8, .u8, .u8, .u8, .u8, .u8, .u8, .u8, .u8, .u8, .u8, .u8, .u8, .u8, .u8, .u8, .u8, .u8, .u8, .u8, .u8, .u8])]
noncomputable def call00 : Tgt → List Value → AW → Out Value := callA EE sq (drawA EE sq) noOrc 100000 60
noncomputable def call0 : Tgt → List Value → AW → Out Value := callA EE sq (drawA EE sq) (orElse (orcF ents0) (orcF ents1)) 100000 60
noncomputable def call1 : Tgt → List Value → AW → Out Value := callA EE sq (drawA EE sq) (orElse (orElse (orcF ents0) (orcF ents1)) (orElse r11_0.orc (orElse r134_0.orc (orElse r134_1.orc r134_2.orc)))) 100000 60
noncomputable def call2 : Tgt → List Value → AW → Out Value := callA EE sq (drawA EE sq) (orElse (orElse (orcF ents0) (orcF ents1)) r7_0.orc) 100000 60
noncomputable def call3 : Tgt → List Value → AW → Out Value := callA EE sq (drawA EE sq) (orElse (orElse (orcF ents0) (orcF ents1)) (orElse r10_0.orc (orElse r10_1.orc r7_0.orc))) 100000 60
end Go.Proofs.YtcnhmjkmlncbhaaGreatDoor
