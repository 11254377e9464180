/- awake39: the tables -/
import Derived.Test.YtanilhkjfdagpaaGreatDoorChecked
import Derived.Test.YtanilhkjfdagpaaGreatDoorKW
namespace Go.Proofs.YtanilhkjfdagpaaGreatDoor
open Go.Ev
noncomputable def EE : Env := mkEnv Tryz.prog 9 [201] [(174, 172, 0)]
def sq : List (Nat × List IntKind) := [(23, [.u8, .i64, .i64]), (24, [.u8, .i64, .i64]), (26, [.u8, .i64, .i64, .i64]), (27, [.u8, .i64, .i64, .i64]), (105, [.u8, .i64, .i64, .u8, .i64, .i64]), (308, [.u8, .i64, .i64, .i64]), (309, [.u8, .i64, .i64, .i64])]
noncomputable def call0 : Tgt → List Value → AW → Out Value := callA EE sq (drawA EE sq) noOrc 100000 60
noncomputable def call1 : Tgt → List Value → AW → Out Value := callA EE sq (drawA EE sq) (orElse r27_0.orc (orElse r142_0.orc r142_1.orc)) 100000 60
noncomputable def call2 : Tgt → List Value → AW → Out Value := callA EE sq (drawA EE sq) r12_0.orc 100000 60
end Go.Proofs.YtanilhkjfdagpaaGreatDoor
