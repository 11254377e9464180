/- rootcause/rootcauselaw20.awake: the tables -/
import Derived.Test.YtkpnmedaonmlaaaGreatDoorChecked
import Derived.Test.YtkpnmedaonmlaaaGreatDoorKW
namespace Go.Proofs.YtkpnmedaonmlaaaGreatDoor
open Go.Ev Go.RowKit
noncomputable def EE : Env := mkEnv Tryz.prog 9 [285] [(247, 245, 0)]
def sq : List (Nat × List IntKind) := [(92, [.i64, .i64, .i64, .i64, .i64, .i64, .i64, .i64]), (109, [.i64, .i64, .i64]), (110, [.i64, .i64, .i64]), (114, [.i64, .i64, .i64, .i64]), (117, [.i64, .i64, .i64]), (155, [.u8, .i64, .i64, .i64]), (156, [.u8, .i64, .i64, .i64]), (206, [.i64, .i64, .i64, .i64, .i64, .i64]), (282, [.u8, .i64, .i64, .i64]), (283, [.u8, .i64, .i64, .i64]), (297, [.u32, .u32, .u32, .u32, .u32, .u32, .u32, .u32]), (488, [.i64, .i64]), (489, [.i64, .i64])]
noncomputable def call0 : Tgt → List Value → AW → Out Value := callA EE sq (drawA EE sq) noOrc 100000 60
noncomputable def call1 : Tgt → List Value → AW → Out Value := callA EE sq (drawA EE sq) (orElse r19_0.orc (orElse r142_0.orc r142_1.orc)) 100000 60
noncomputable def call2 : Tgt → List Value → AW → Out Value := callA EE sq (drawA EE sq) (orElse r9_0.orc (orElse r142_0.orc r142_1.orc)) 100000 60
end Go.Proofs.YtkpnmedaonmlaaaGreatDoor
