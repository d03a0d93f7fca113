/- 'GateOld': by the executor's tree; the listed variable tied to the program's text. -/
import Derived.Test.YtkglnkfoeedmoabDoorLaid
import Derived.Test.YtkglnkfoeedmoabDoorTie
import Derived.Test.YtkglnkfoeedmoabDoorCards
import Derived.SevenTiedAt
namespace Go.Proofs.YtkglnkfoeedmoabDoor.gateOld
open Go.ChangeShapes Go.WideShapes Go.ChangeAt Go.RowKit Go.Proofs.YtkglnkfoeedmoabDoorSx Go.Proofs.YtkglnkfoeedmoabDoor.Fit
set_option linter.unusedVariables false
set_option linter.unusedSimpArgs false
theorem own : ownKnob Tryd.prog.godebug = none := by kernel_rfl
theorem laid : laidOutB Tryd.prog = true := by kernel_rfl
theorem mixed : Tryd.prog.follows .mixedOrders = true := by kernel_rfl
noncomputable def cx (W : World) : Ctx := { P := Tryd.prog, ro := 0, glob := [(0, [.int .i64 (.lit 10), .int .i64 (.lit 0), .int .i64 (.lit 11), .int .i64 (.lit 1)])], con := [(7, conTold [pol] 200 fitKinds)], base := W.heap.size, bw := W }
def svs : List SV := [pol, (.agg [(.int .i64 (.var 56)), (.int .i64 (.var 57)), (.int .i64 (.var 58)), (.int .i64 (.var 59)), (.int .i64 (.var 60)), (.int .i64 (.var 61)), (.int .i64 (.var 62)), (.bool (.var 63)), (.int .i64 (.var 64)), (.int .i64 (.var 65)), (.int .i64 (.var 66))]), (.agg [(.int .i64 (.var 67)), (.int .i64 (.var 68)), (.int .i64 (.var 69)), (.int .i64 (.var 70)), (.int .i64 (.var 71)), (.int .i64 (.var 72)), (.int .i64 (.var 73)), (.bool (.var 74)), (.int .i64 (.var 75)), (.int .i64 (.var 76)), (.int .i64 (.var 77)), (.int .i64 (.var 78))])]
def ks : List CK := [(.int .i64), (.int .i64), (.int .i64), (.int .i64), (.int .i64), (.ints .u8), (.ints .u8), (.ints .u8), (.ints .u8), (.int .i64), (.int .i64), (.int .i64), (.int .i64), (.int .i64), (.int .i64), (.int .i64), (.int .i64), (.int .i64), (.int .i64), (.int .i64), (.int .i64), (.int .i64), (.int .i64), (.int .i64), (.int .i64), (.int .i64), (.int .i64), (.int .i64), (.int .i64), (.int .i64), (.int .i64), (.int .i64), (.int .i64), (.int .i64), (.int .i64), (.int .i64), (.int .i64), (.int .i64), (.int .i64), (.int .i64), (.int .i64), (.int .i64), (.int .i64), (.int .i64), (.int .i64), (.int .i64), (.int .i64), (.int .i64), (.int .i64), (.int .i64), (.int .i64), (.int .i64), (.int .i64), (.int .i64), (.int .i64), (.int .i64), (.int .i64), (.int .i64), (.int .i64), (.int .i64), (.int .i64), (.int .i64), (.int .i64), .bool, (.int .i64), (.int .i64), (.int .i64), (.int .i64), (.int .i64), (.int .i64), (.int .i64), (.int .i64), (.int .i64), (.int .i64), .bool, (.int .i64), (.int .i64), (.int .i64), (.int .i64)]
def tree : T SV :=
(.br
 (.and (.or (.eq (.lit 10) (.bin .add .i64 (.lit 10) (.bin .and .i64 (.var 67) (.lit 1)))) (.eq (.lit 11) (.bin .add .i64 (.lit 10) (.bin .and .i64 (.var 67) (.lit 1))))) (.and (.and (.and (.le (.lit 0) (.var 66)) (.lt (.var 66) (.lit 5))) (.and (.and (.le (.lit 0) (.var 65)) (.lt (.var 65) (.lit 4))) (.and (.and (.le (.lit 0) (.ite (.eq (.lit 10) (.bin .add .i64 (.lit 10) (.bin .and .i64 (.var 67) (.lit 1)))) (.bin .add .i64 (.bin .mul .i64 (.lit 0) (.var 73)) (.lit 0)) (.ite (.eq (.lit 11) (.bin .add .i64 (.lit 10) (.bin .and .i64 (.var 67) (.lit 1)))) (.bin .add .i64 (.bin .mul .i64 (.lit 1) (.var 73)) (.lit 0)) (.lit 0)))) (.lt (.ite (.eq (.lit 10) (.bin .add .i64 (.lit 10) (.bin .and .i64 (.var 67) (.lit 1)))) (.bin .add .i64 (.bin .mul .i64 (.lit 0) (.var 73)) (.lit 0)) (.ite (.eq (.lit 11) (.bin .add .i64 (.lit 10) (.bin .and .i64 (.var 67) (.lit 1)))) (.bin .add .i64 (.bin .mul .i64 (.lit 1) (.var 73)) (.lit 0)) (.lit 0))) (.lit 4))) (.and (.le (.lit 0) (.ite (.eq (.var 66) (.lit 4)) (.ite (.eq (.var 65) (.lit 3)) (.var 233) (.ite (.eq (.var 65) (.lit 2)) (.var 232) (.ite (.eq (.var 65) (.lit 1)) (.var 231) (.var 230)))) (.ite (.eq (.var 66) (.lit 3)) (.ite (.eq (.var 65) (.lit 3)) (.var 229) (.ite (.eq (.var 65) (.lit 2)) (.var 228) (.ite (.eq (.var 65) (.lit 1)) (.var 227) (.var 226)))) (.ite (.eq (.var 66) (.lit 2)) (.ite (.eq (.var 65) (.lit 3)) (.var 225) (.ite (.eq (.var 65) (.lit 2)) (.var 224) (.ite (.eq (.var 65) (.lit 1)) (.var 223) (.var 222)))) (.ite (.eq (.var 66) (.lit 1)) (.ite (.eq (.var 65) (.lit 3)) (.var 221) (.ite (.eq (.var 65) (.lit 2)) (.var 220) (.ite (.eq (.var 65) (.lit 1)) (.var 219) (.var 218)))) (.ite (.eq (.var 65) (.lit 3)) (.var 217) (.ite (.eq (.var 65) (.lit 2)) (.var 216) (.ite (.eq (.var 65) (.lit 1)) (.var 215) (.var 214))))))))) (.and (.le (.ite (.eq (.lit 10) (.bin .add .i64 (.lit 10) (.bin .and .i64 (.var 67) (.lit 1)))) (.bin .add .i64 (.bin .mul .i64 (.lit 0) (.var 73)) (.lit 0)) (.ite (.eq (.lit 11) (.bin .add .i64 (.lit 10) (.bin .and .i64 (.var 67) (.lit 1)))) (.bin .add .i64 (.bin .mul .i64 (.lit 1) (.var 73)) (.lit 0)) (.lit 0))) (.lit 62)) (.eq (.bin .and .i64 (.bin .shr .i64 (.ite (.eq (.var 66) (.lit 4)) (.ite (.eq (.var 65) (.lit 3)) (.var 233) (.ite (.eq (.var 65) (.lit 2)) (.var 232) (.ite (.eq (.var 65) (.lit 1)) (.var 231) (.var 230)))) (.ite (.eq (.var 66) (.lit 3)) (.ite (.eq (.var 65) (.lit 3)) (.var 229) (.ite (.eq (.var 65) (.lit 2)) (.var 228) (.ite (.eq (.var 65) (.lit 1)) (.var 227) (.var 226)))) (.ite (.eq (.var 66) (.lit 2)) (.ite (.eq (.var 65) (.lit 3)) (.var 225) (.ite (.eq (.var 65) (.lit 2)) (.var 224) (.ite (.eq (.var 65) (.lit 1)) (.var 223) (.var 222)))) (.ite (.eq (.var 66) (.lit 1)) (.ite (.eq (.var 65) (.lit 3)) (.var 221) (.ite (.eq (.var 65) (.lit 2)) (.var 220) (.ite (.eq (.var 65) (.lit 1)) (.var 219) (.var 218)))) (.ite (.eq (.var 65) (.lit 3)) (.var 217) (.ite (.eq (.var 65) (.lit 2)) (.var 216) (.ite (.eq (.var 65) (.lit 1)) (.var 215) (.var 214)))))))) (.ite (.eq (.lit 10) (.bin .add .i64 (.lit 10) (.bin .and .i64 (.var 67) (.lit 1)))) (.bin .add .i64 (.bin .mul .i64 (.lit 0) (.var 73)) (.lit 0)) (.ite (.eq (.lit 11) (.bin .add .i64 (.lit 10) (.bin .and .i64 (.var 67) (.lit 1)))) (.bin .add .i64 (.bin .mul .i64 (.lit 1) (.var 73)) (.lit 0)) (.lit 0)))) (.lit 1)) (.lit 1))))))) (.or (.not (.eq (.bin .add .i64 (.lit 10) (.bin .and .i64 (.var 67) (.lit 1))) (.lit 10))) (.and (.and (.le (.lit 0) (.var 72)) (.lt (.var 72) (.lit 5))) (.and (.le (.lit 0) (.ite (.eq (.var 66) (.lit 4)) (.var 238) (.ite (.eq (.var 66) (.lit 3)) (.var 237) (.ite (.eq (.var 66) (.lit 2)) (.var 236) (.ite (.eq (.var 66) (.lit 1)) (.var 235) (.var 234)))))) (.and (.le (.var 72) (.lit 62)) (.eq (.bin .and .i64 (.bin .shr .i64 (.ite (.eq (.var 66) (.lit 4)) (.var 238) (.ite (.eq (.var 66) (.lit 3)) (.var 237) (.ite (.eq (.var 66) (.lit 2)) (.var 236) (.ite (.eq (.var 66) (.lit 1)) (.var 235) (.var 234))))) (.var 72)) (.lit 1)) (.lit 1))))))))
 (.br
 (.and (.or (.eq (.lit 10) (.bin .add .i64 (.lit 10) (.bin .and .i64 (.var 67) (.lit 1)))) (.eq (.lit 11) (.bin .add .i64 (.lit 10) (.bin .and .i64 (.var 67) (.lit 1))))) (.not (.eq (.bin .xor .i64 (.var 56) (.lit 1)) (.var 56))))
 (.br
 (.and (.or (.eq (.lit 10) (.bin .add .i64 (.lit 10) (.bin .and .i64 (.var 67) (.lit 1)))) (.eq (.lit 11) (.bin .add .i64 (.lit 10) (.bin .and .i64 (.var 67) (.lit 1))))) (.not (.eq (.bin .xor .i64 (.var 57) (.lit 1)) (.var 57))))
 (.leaf (.bool (.and (.or (.eq (.lit 10) (.bin .add .i64 (.lit 10) (.bin .and .i64 (.var 67) (.lit 1)))) (.eq (.lit 11) (.bin .add .i64 (.lit 10) (.bin .and .i64 (.var 67) (.lit 1))))) (.not (.eq (.bin .xor .i64 (.var 56) (.lit 1)) (.var 56))))))
 (.leaf (.bool (.lit .false))))
 (.leaf (.bool (.lit .false))))
 (.br
 (.and (.or (.eq (.lit 10) (.bin .add .i64 (.lit 10) (.bin .and .i64 (.var 67) (.lit 1)))) (.eq (.lit 11) (.bin .add .i64 (.lit 10) (.bin .and .i64 (.var 67) (.lit 1))))) (.not (.and (.and (.le (.lit 0) (.var 66)) (.lt (.var 66) (.lit 5))) (.and (.and (.le (.lit 0) (.var 65)) (.lt (.var 65) (.lit 4))) (.and (.and (.le (.lit 0) (.ite (.eq (.lit 10) (.bin .add .i64 (.lit 10) (.bin .and .i64 (.var 67) (.lit 1)))) (.bin .add .i64 (.bin .mul .i64 (.lit 0) (.var 73)) (.lit 0)) (.ite (.eq (.lit 11) (.bin .add .i64 (.lit 10) (.bin .and .i64 (.var 67) (.lit 1)))) (.bin .add .i64 (.bin .mul .i64 (.lit 1) (.var 73)) (.lit 0)) (.lit 0)))) (.lt (.ite (.eq (.lit 10) (.bin .add .i64 (.lit 10) (.bin .and .i64 (.var 67) (.lit 1)))) (.bin .add .i64 (.bin .mul .i64 (.lit 0) (.var 73)) (.lit 0)) (.ite (.eq (.lit 11) (.bin .add .i64 (.lit 10) (.bin .and .i64 (.var 67) (.lit 1)))) (.bin .add .i64 (.bin .mul .i64 (.lit 1) (.var 73)) (.lit 0)) (.lit 0))) (.lit 4))) (.and (.le (.lit 0) (.ite (.eq (.var 66) (.lit 4)) (.ite (.eq (.var 65) (.lit 3)) (.var 233) (.ite (.eq (.var 65) (.lit 2)) (.var 232) (.ite (.eq (.var 65) (.lit 1)) (.var 231) (.var 230)))) (.ite (.eq (.var 66) (.lit 3)) (.ite (.eq (.var 65) (.lit 3)) (.var 229) (.ite (.eq (.var 65) (.lit 2)) (.var 228) (.ite (.eq (.var 65) (.lit 1)) (.var 227) (.var 226)))) (.ite (.eq (.var 66) (.lit 2)) (.ite (.eq (.var 65) (.lit 3)) (.var 225) (.ite (.eq (.var 65) (.lit 2)) (.var 224) (.ite (.eq (.var 65) (.lit 1)) (.var 223) (.var 222)))) (.ite (.eq (.var 66) (.lit 1)) (.ite (.eq (.var 65) (.lit 3)) (.var 221) (.ite (.eq (.var 65) (.lit 2)) (.var 220) (.ite (.eq (.var 65) (.lit 1)) (.var 219) (.var 218)))) (.ite (.eq (.var 65) (.lit 3)) (.var 217) (.ite (.eq (.var 65) (.lit 2)) (.var 216) (.ite (.eq (.var 65) (.lit 1)) (.var 215) (.var 214))))))))) (.and (.le (.ite (.eq (.lit 10) (.bin .add .i64 (.lit 10) (.bin .and .i64 (.var 67) (.lit 1)))) (.bin .add .i64 (.bin .mul .i64 (.lit 0) (.var 73)) (.lit 0)) (.ite (.eq (.lit 11) (.bin .add .i64 (.lit 10) (.bin .and .i64 (.var 67) (.lit 1)))) (.bin .add .i64 (.bin .mul .i64 (.lit 1) (.var 73)) (.lit 0)) (.lit 0))) (.lit 62)) (.eq (.bin .and .i64 (.bin .shr .i64 (.ite (.eq (.var 66) (.lit 4)) (.ite (.eq (.var 65) (.lit 3)) (.var 233) (.ite (.eq (.var 65) (.lit 2)) (.var 232) (.ite (.eq (.var 65) (.lit 1)) (.var 231) (.var 230)))) (.ite (.eq (.var 66) (.lit 3)) (.ite (.eq (.var 65) (.lit 3)) (.var 229) (.ite (.eq (.var 65) (.lit 2)) (.var 228) (.ite (.eq (.var 65) (.lit 1)) (.var 227) (.var 226)))) (.ite (.eq (.var 66) (.lit 2)) (.ite (.eq (.var 65) (.lit 3)) (.var 225) (.ite (.eq (.var 65) (.lit 2)) (.var 224) (.ite (.eq (.var 65) (.lit 1)) (.var 223) (.var 222)))) (.ite (.eq (.var 66) (.lit 1)) (.ite (.eq (.var 65) (.lit 3)) (.var 221) (.ite (.eq (.var 65) (.lit 2)) (.var 220) (.ite (.eq (.var 65) (.lit 1)) (.var 219) (.var 218)))) (.ite (.eq (.var 65) (.lit 3)) (.var 217) (.ite (.eq (.var 65) (.lit 2)) (.var 216) (.ite (.eq (.var 65) (.lit 1)) (.var 215) (.var 214)))))))) (.ite (.eq (.lit 10) (.bin .add .i64 (.lit 10) (.bin .and .i64 (.var 67) (.lit 1)))) (.bin .add .i64 (.bin .mul .i64 (.lit 0) (.var 73)) (.lit 0)) (.ite (.eq (.lit 11) (.bin .add .i64 (.lit 10) (.bin .and .i64 (.var 67) (.lit 1)))) (.bin .add .i64 (.bin .mul .i64 (.lit 1) (.var 73)) (.lit 0)) (.lit 0)))) (.lit 1)) (.lit 1)))))))))
 (.br
 (.and (.or (.eq (.lit 10) (.bin .add .i64 (.lit 10) (.bin .and .i64 (.var 67) (.lit 1)))) (.eq (.lit 11) (.bin .add .i64 (.lit 10) (.bin .and .i64 (.var 67) (.lit 1))))) (.not (.eq (.bin .xor .i64 (.var 56) (.lit 1)) (.var 56))))
 (.br
 (.and (.or (.eq (.lit 10) (.bin .add .i64 (.lit 10) (.bin .and .i64 (.var 67) (.lit 1)))) (.eq (.lit 11) (.bin .add .i64 (.lit 10) (.bin .and .i64 (.var 67) (.lit 1))))) (.not (.eq (.bin .xor .i64 (.var 57) (.lit 1)) (.var 57))))
 (.leaf (.bool (.and (.or (.eq (.lit 10) (.bin .add .i64 (.lit 10) (.bin .and .i64 (.var 67) (.lit 1)))) (.eq (.lit 11) (.bin .add .i64 (.lit 10) (.bin .and .i64 (.var 67) (.lit 1))))) (.not (.eq (.bin .xor .i64 (.var 56) (.lit 1)) (.var 56))))))
 (.leaf (.bool (.lit .false))))
 (.leaf (.bool (.lit .false))))
 (.br
 (.and (.or (.eq (.lit 10) (.bin .add .i64 (.lit 10) (.bin .and .i64 (.var 67) (.lit 1)))) (.eq (.lit 11) (.bin .add .i64 (.lit 10) (.bin .and .i64 (.var 67) (.lit 1))))) (.and (.and (.and (.le (.lit 0) (.var 66)) (.lt (.var 66) (.lit 5))) (.and (.and (.le (.lit 0) (.var 65)) (.lt (.var 65) (.lit 4))) (.and (.and (.le (.lit 0) (.ite (.eq (.lit 10) (.bin .add .i64 (.lit 10) (.bin .and .i64 (.var 67) (.lit 1)))) (.bin .add .i64 (.bin .mul .i64 (.lit 0) (.var 73)) (.lit 0)) (.ite (.eq (.lit 11) (.bin .add .i64 (.lit 10) (.bin .and .i64 (.var 67) (.lit 1)))) (.bin .add .i64 (.bin .mul .i64 (.lit 1) (.var 73)) (.lit 0)) (.lit 0)))) (.lt (.ite (.eq (.lit 10) (.bin .add .i64 (.lit 10) (.bin .and .i64 (.var 67) (.lit 1)))) (.bin .add .i64 (.bin .mul .i64 (.lit 0) (.var 73)) (.lit 0)) (.ite (.eq (.lit 11) (.bin .add .i64 (.lit 10) (.bin .and .i64 (.var 67) (.lit 1)))) (.bin .add .i64 (.bin .mul .i64 (.lit 1) (.var 73)) (.lit 0)) (.lit 0))) (.lit 4))) (.and (.le (.lit 0) (.ite (.eq (.var 66) (.lit 4)) (.ite (.eq (.var 65) (.lit 3)) (.var 233) (.ite (.eq (.var 65) (.lit 2)) (.var 232) (.ite (.eq (.var 65) (.lit 1)) (.var 231) (.var 230)))) (.ite (.eq (.var 66) (.lit 3)) (.ite (.eq (.var 65) (.lit 3)) (.var 229) (.ite (.eq (.var 65) (.lit 2)) (.var 228) (.ite (.eq (.var 65) (.lit 1)) (.var 227) (.var 226)))) (.ite (.eq (.var 66) (.lit 2)) (.ite (.eq (.var 65) (.lit 3)) (.var 225) (.ite (.eq (.var 65) (.lit 2)) (.var 224) (.ite (.eq (.var 65) (.lit 1)) (.var 223) (.var 222)))) (.ite (.eq (.var 66) (.lit 1)) (.ite (.eq (.var 65) (.lit 3)) (.var 221) (.ite (.eq (.var 65) (.lit 2)) (.var 220) (.ite (.eq (.var 65) (.lit 1)) (.var 219) (.var 218)))) (.ite (.eq (.var 65) (.lit 3)) (.var 217) (.ite (.eq (.var 65) (.lit 2)) (.var 216) (.ite (.eq (.var 65) (.lit 1)) (.var 215) (.var 214))))))))) (.and (.le (.ite (.eq (.lit 10) (.bin .add .i64 (.lit 10) (.bin .and .i64 (.var 67) (.lit 1)))) (.bin .add .i64 (.bin .mul .i64 (.lit 0) (.var 73)) (.lit 0)) (.ite (.eq (.lit 11) (.bin .add .i64 (.lit 10) (.bin .and .i64 (.var 67) (.lit 1)))) (.bin .add .i64 (.bin .mul .i64 (.lit 1) (.var 73)) (.lit 0)) (.lit 0))) (.lit 62)) (.eq (.bin .and .i64 (.bin .shr .i64 (.ite (.eq (.var 66) (.lit 4)) (.ite (.eq (.var 65) (.lit 3)) (.var 233) (.ite (.eq (.var 65) (.lit 2)) (.var 232) (.ite (.eq (.var 65) (.lit 1)) (.var 231) (.var 230)))) (.ite (.eq (.var 66) (.lit 3)) (.ite (.eq (.var 65) (.lit 3)) (.var 229) (.ite (.eq (.var 65) (.lit 2)) (.var 228) (.ite (.eq (.var 65) (.lit 1)) (.var 227) (.var 226)))) (.ite (.eq (.var 66) (.lit 2)) (.ite (.eq (.var 65) (.lit 3)) (.var 225) (.ite (.eq (.var 65) (.lit 2)) (.var 224) (.ite (.eq (.var 65) (.lit 1)) (.var 223) (.var 222)))) (.ite (.eq (.var 66) (.lit 1)) (.ite (.eq (.var 65) (.lit 3)) (.var 221) (.ite (.eq (.var 65) (.lit 2)) (.var 220) (.ite (.eq (.var 65) (.lit 1)) (.var 219) (.var 218)))) (.ite (.eq (.var 65) (.lit 3)) (.var 217) (.ite (.eq (.var 65) (.lit 2)) (.var 216) (.ite (.eq (.var 65) (.lit 1)) (.var 215) (.var 214)))))))) (.ite (.eq (.lit 10) (.bin .add .i64 (.lit 10) (.bin .and .i64 (.var 67) (.lit 1)))) (.bin .add .i64 (.bin .mul .i64 (.lit 0) (.var 73)) (.lit 0)) (.ite (.eq (.lit 11) (.bin .add .i64 (.lit 10) (.bin .and .i64 (.var 67) (.lit 1)))) (.bin .add .i64 (.bin .mul .i64 (.lit 1) (.var 73)) (.lit 0)) (.lit 0)))) (.lit 1)) (.lit 1))))))) (.and (.eq (.bin .add .i64 (.lit 10) (.bin .and .i64 (.var 67) (.lit 1))) (.lit 10)) (.not (.and (.and (.le (.lit 0) (.var 72)) (.lt (.var 72) (.lit 5))) (.and (.le (.lit 0) (.ite (.eq (.var 66) (.lit 4)) (.var 238) (.ite (.eq (.var 66) (.lit 3)) (.var 237) (.ite (.eq (.var 66) (.lit 2)) (.var 236) (.ite (.eq (.var 66) (.lit 1)) (.var 235) (.var 234)))))) (.and (.le (.var 72) (.lit 62)) (.eq (.bin .and .i64 (.bin .shr .i64 (.ite (.eq (.var 66) (.lit 4)) (.var 238) (.ite (.eq (.var 66) (.lit 3)) (.var 237) (.ite (.eq (.var 66) (.lit 2)) (.var 236) (.ite (.eq (.var 66) (.lit 1)) (.var 235) (.var 234))))) (.var 72)) (.lit 1)) (.lit 1)))))))))
 (.br
 (.and (.or (.eq (.lit 10) (.bin .add .i64 (.lit 10) (.bin .and .i64 (.var 67) (.lit 1)))) (.eq (.lit 11) (.bin .add .i64 (.lit 10) (.bin .and .i64 (.var 67) (.lit 1))))) (.not (.eq (.bin .xor .i64 (.var 56) (.lit 1)) (.var 56))))
 (.br
 (.and (.or (.eq (.lit 10) (.bin .add .i64 (.lit 10) (.bin .and .i64 (.var 67) (.lit 1)))) (.eq (.lit 11) (.bin .add .i64 (.lit 10) (.bin .and .i64 (.var 67) (.lit 1))))) (.not (.eq (.bin .xor .i64 (.var 57) (.lit 1)) (.var 57))))
 (.leaf (.bool (.and (.or (.eq (.lit 10) (.bin .add .i64 (.lit 10) (.bin .and .i64 (.var 67) (.lit 1)))) (.eq (.lit 11) (.bin .add .i64 (.lit 10) (.bin .and .i64 (.var 67) (.lit 1))))) (.not (.eq (.bin .xor .i64 (.var 56) (.lit 1)) (.var 56))))))
 (.leaf (.bool (.lit .false))))
 (.leaf (.bool (.lit .false))))
 (.leaf (.bool (.lit .false))))))
def tree2 : T SV :=
(.br
 (.and (.or (.eq (.lit 10) (.var 302)) (.eq (.lit 11) (.var 302))) (.and (.and (.and (.le (.lit 0) (.var 66)) (.lt (.var 66) (.lit 5))) (.and (.and (.le (.lit 0) (.var 65)) (.lt (.var 65) (.lit 4))) (.and (.and (.le (.lit 0) (.ite (.eq (.lit 10) (.var 302)) (.var 300) (.ite (.eq (.lit 11) (.var 302)) (.var 301) (.lit 0)))) (.lt (.ite (.eq (.lit 10) (.var 302)) (.var 300) (.ite (.eq (.lit 11) (.var 302)) (.var 301) (.lit 0))) (.lit 4))) (.and (.le (.lit 0) (.ite (.eq (.var 66) (.lit 4)) (.ite (.eq (.var 65) (.lit 3)) (.var 233) (.ite (.eq (.var 65) (.lit 2)) (.var 232) (.ite (.eq (.var 65) (.lit 1)) (.var 231) (.var 230)))) (.ite (.eq (.var 66) (.lit 3)) (.ite (.eq (.var 65) (.lit 3)) (.var 229) (.ite (.eq (.var 65) (.lit 2)) (.var 228) (.ite (.eq (.var 65) (.lit 1)) (.var 227) (.var 226)))) (.ite (.eq (.var 66) (.lit 2)) (.ite (.eq (.var 65) (.lit 3)) (.var 225) (.ite (.eq (.var 65) (.lit 2)) (.var 224) (.ite (.eq (.var 65) (.lit 1)) (.var 223) (.var 222)))) (.ite (.eq (.var 66) (.lit 1)) (.ite (.eq (.var 65) (.lit 3)) (.var 221) (.ite (.eq (.var 65) (.lit 2)) (.var 220) (.ite (.eq (.var 65) (.lit 1)) (.var 219) (.var 218)))) (.ite (.eq (.var 65) (.lit 3)) (.var 217) (.ite (.eq (.var 65) (.lit 2)) (.var 216) (.ite (.eq (.var 65) (.lit 1)) (.var 215) (.var 214))))))))) (.and (.le (.ite (.eq (.lit 10) (.var 302)) (.var 300) (.ite (.eq (.lit 11) (.var 302)) (.var 301) (.lit 0))) (.lit 62)) (.eq (.bin .and .i64 (.bin .shr .i64 (.ite (.eq (.var 66) (.lit 4)) (.ite (.eq (.var 65) (.lit 3)) (.var 233) (.ite (.eq (.var 65) (.lit 2)) (.var 232) (.ite (.eq (.var 65) (.lit 1)) (.var 231) (.var 230)))) (.ite (.eq (.var 66) (.lit 3)) (.ite (.eq (.var 65) (.lit 3)) (.var 229) (.ite (.eq (.var 65) (.lit 2)) (.var 228) (.ite (.eq (.var 65) (.lit 1)) (.var 227) (.var 226)))) (.ite (.eq (.var 66) (.lit 2)) (.ite (.eq (.var 65) (.lit 3)) (.var 225) (.ite (.eq (.var 65) (.lit 2)) (.var 224) (.ite (.eq (.var 65) (.lit 1)) (.var 223) (.var 222)))) (.ite (.eq (.var 66) (.lit 1)) (.ite (.eq (.var 65) (.lit 3)) (.var 221) (.ite (.eq (.var 65) (.lit 2)) (.var 220) (.ite (.eq (.var 65) (.lit 1)) (.var 219) (.var 218)))) (.ite (.eq (.var 65) (.lit 3)) (.var 217) (.ite (.eq (.var 65) (.lit 2)) (.var 216) (.ite (.eq (.var 65) (.lit 1)) (.var 215) (.var 214)))))))) (.ite (.eq (.lit 10) (.var 302)) (.var 300) (.ite (.eq (.lit 11) (.var 302)) (.var 301) (.lit 0)))) (.lit 1)) (.lit 1))))))) (.or (.not (.eq (.var 302) (.lit 10))) (.and (.and (.le (.lit 0) (.var 72)) (.lt (.var 72) (.lit 5))) (.and (.le (.lit 0) (.ite (.eq (.var 66) (.lit 4)) (.var 238) (.ite (.eq (.var 66) (.lit 3)) (.var 237) (.ite (.eq (.var 66) (.lit 2)) (.var 236) (.ite (.eq (.var 66) (.lit 1)) (.var 235) (.var 234)))))) (.and (.le (.var 72) (.lit 62)) (.eq (.bin .and .i64 (.bin .shr .i64 (.ite (.eq (.var 66) (.lit 4)) (.var 238) (.ite (.eq (.var 66) (.lit 3)) (.var 237) (.ite (.eq (.var 66) (.lit 2)) (.var 236) (.ite (.eq (.var 66) (.lit 1)) (.var 235) (.var 234))))) (.var 72)) (.lit 1)) (.lit 1))))))))
 (.br
 (.and (.or (.eq (.lit 10) (.var 302)) (.eq (.lit 11) (.var 302))) (.not (.var 303)))
 (.br
 (.and (.or (.eq (.lit 10) (.var 302)) (.eq (.lit 11) (.var 302))) (.not (.var 304)))
 (.leaf (.bool (.and (.or (.eq (.lit 10) (.var 302)) (.eq (.lit 11) (.var 302))) (.not (.var 303)))))
 (.leaf (.bool (.lit .false))))
 (.leaf (.bool (.lit .false))))
 (.br
 (.and (.or (.eq (.lit 10) (.var 302)) (.eq (.lit 11) (.var 302))) (.not (.and (.and (.le (.lit 0) (.var 66)) (.lt (.var 66) (.lit 5))) (.and (.and (.le (.lit 0) (.var 65)) (.lt (.var 65) (.lit 4))) (.and (.and (.le (.lit 0) (.ite (.eq (.lit 10) (.var 302)) (.var 300) (.ite (.eq (.lit 11) (.var 302)) (.var 301) (.lit 0)))) (.lt (.ite (.eq (.lit 10) (.var 302)) (.var 300) (.ite (.eq (.lit 11) (.var 302)) (.var 301) (.lit 0))) (.lit 4))) (.and (.le (.lit 0) (.ite (.eq (.var 66) (.lit 4)) (.ite (.eq (.var 65) (.lit 3)) (.var 233) (.ite (.eq (.var 65) (.lit 2)) (.var 232) (.ite (.eq (.var 65) (.lit 1)) (.var 231) (.var 230)))) (.ite (.eq (.var 66) (.lit 3)) (.ite (.eq (.var 65) (.lit 3)) (.var 229) (.ite (.eq (.var 65) (.lit 2)) (.var 228) (.ite (.eq (.var 65) (.lit 1)) (.var 227) (.var 226)))) (.ite (.eq (.var 66) (.lit 2)) (.ite (.eq (.var 65) (.lit 3)) (.var 225) (.ite (.eq (.var 65) (.lit 2)) (.var 224) (.ite (.eq (.var 65) (.lit 1)) (.var 223) (.var 222)))) (.ite (.eq (.var 66) (.lit 1)) (.ite (.eq (.var 65) (.lit 3)) (.var 221) (.ite (.eq (.var 65) (.lit 2)) (.var 220) (.ite (.eq (.var 65) (.lit 1)) (.var 219) (.var 218)))) (.ite (.eq (.var 65) (.lit 3)) (.var 217) (.ite (.eq (.var 65) (.lit 2)) (.var 216) (.ite (.eq (.var 65) (.lit 1)) (.var 215) (.var 214))))))))) (.and (.le (.ite (.eq (.lit 10) (.var 302)) (.var 300) (.ite (.eq (.lit 11) (.var 302)) (.var 301) (.lit 0))) (.lit 62)) (.eq (.bin .and .i64 (.bin .shr .i64 (.ite (.eq (.var 66) (.lit 4)) (.ite (.eq (.var 65) (.lit 3)) (.var 233) (.ite (.eq (.var 65) (.lit 2)) (.var 232) (.ite (.eq (.var 65) (.lit 1)) (.var 231) (.var 230)))) (.ite (.eq (.var 66) (.lit 3)) (.ite (.eq (.var 65) (.lit 3)) (.var 229) (.ite (.eq (.var 65) (.lit 2)) (.var 228) (.ite (.eq (.var 65) (.lit 1)) (.var 227) (.var 226)))) (.ite (.eq (.var 66) (.lit 2)) (.ite (.eq (.var 65) (.lit 3)) (.var 225) (.ite (.eq (.var 65) (.lit 2)) (.var 224) (.ite (.eq (.var 65) (.lit 1)) (.var 223) (.var 222)))) (.ite (.eq (.var 66) (.lit 1)) (.ite (.eq (.var 65) (.lit 3)) (.var 221) (.ite (.eq (.var 65) (.lit 2)) (.var 220) (.ite (.eq (.var 65) (.lit 1)) (.var 219) (.var 218)))) (.ite (.eq (.var 65) (.lit 3)) (.var 217) (.ite (.eq (.var 65) (.lit 2)) (.var 216) (.ite (.eq (.var 65) (.lit 1)) (.var 215) (.var 214)))))))) (.ite (.eq (.lit 10) (.var 302)) (.var 300) (.ite (.eq (.lit 11) (.var 302)) (.var 301) (.lit 0)))) (.lit 1)) (.lit 1)))))))))
 (.br
 (.and (.or (.eq (.lit 10) (.var 302)) (.eq (.lit 11) (.var 302))) (.not (.var 303)))
 (.br
 (.and (.or (.eq (.lit 10) (.var 302)) (.eq (.lit 11) (.var 302))) (.not (.var 304)))
 (.leaf (.bool (.and (.or (.eq (.lit 10) (.var 302)) (.eq (.lit 11) (.var 302))) (.not (.var 303)))))
 (.leaf (.bool (.lit .false))))
 (.leaf (.bool (.lit .false))))
 (.br
 (.and (.or (.eq (.lit 10) (.var 302)) (.eq (.lit 11) (.var 302))) (.and (.and (.and (.le (.lit 0) (.var 66)) (.lt (.var 66) (.lit 5))) (.and (.and (.le (.lit 0) (.var 65)) (.lt (.var 65) (.lit 4))) (.and (.and (.le (.lit 0) (.ite (.eq (.lit 10) (.var 302)) (.var 300) (.ite (.eq (.lit 11) (.var 302)) (.var 301) (.lit 0)))) (.lt (.ite (.eq (.lit 10) (.var 302)) (.var 300) (.ite (.eq (.lit 11) (.var 302)) (.var 301) (.lit 0))) (.lit 4))) (.and (.le (.lit 0) (.ite (.eq (.var 66) (.lit 4)) (.ite (.eq (.var 65) (.lit 3)) (.var 233) (.ite (.eq (.var 65) (.lit 2)) (.var 232) (.ite (.eq (.var 65) (.lit 1)) (.var 231) (.var 230)))) (.ite (.eq (.var 66) (.lit 3)) (.ite (.eq (.var 65) (.lit 3)) (.var 229) (.ite (.eq (.var 65) (.lit 2)) (.var 228) (.ite (.eq (.var 65) (.lit 1)) (.var 227) (.var 226)))) (.ite (.eq (.var 66) (.lit 2)) (.ite (.eq (.var 65) (.lit 3)) (.var 225) (.ite (.eq (.var 65) (.lit 2)) (.var 224) (.ite (.eq (.var 65) (.lit 1)) (.var 223) (.var 222)))) (.ite (.eq (.var 66) (.lit 1)) (.ite (.eq (.var 65) (.lit 3)) (.var 221) (.ite (.eq (.var 65) (.lit 2)) (.var 220) (.ite (.eq (.var 65) (.lit 1)) (.var 219) (.var 218)))) (.ite (.eq (.var 65) (.lit 3)) (.var 217) (.ite (.eq (.var 65) (.lit 2)) (.var 216) (.ite (.eq (.var 65) (.lit 1)) (.var 215) (.var 214))))))))) (.and (.le (.ite (.eq (.lit 10) (.var 302)) (.var 300) (.ite (.eq (.lit 11) (.var 302)) (.var 301) (.lit 0))) (.lit 62)) (.eq (.bin .and .i64 (.bin .shr .i64 (.ite (.eq (.var 66) (.lit 4)) (.ite (.eq (.var 65) (.lit 3)) (.var 233) (.ite (.eq (.var 65) (.lit 2)) (.var 232) (.ite (.eq (.var 65) (.lit 1)) (.var 231) (.var 230)))) (.ite (.eq (.var 66) (.lit 3)) (.ite (.eq (.var 65) (.lit 3)) (.var 229) (.ite (.eq (.var 65) (.lit 2)) (.var 228) (.ite (.eq (.var 65) (.lit 1)) (.var 227) (.var 226)))) (.ite (.eq (.var 66) (.lit 2)) (.ite (.eq (.var 65) (.lit 3)) (.var 225) (.ite (.eq (.var 65) (.lit 2)) (.var 224) (.ite (.eq (.var 65) (.lit 1)) (.var 223) (.var 222)))) (.ite (.eq (.var 66) (.lit 1)) (.ite (.eq (.var 65) (.lit 3)) (.var 221) (.ite (.eq (.var 65) (.lit 2)) (.var 220) (.ite (.eq (.var 65) (.lit 1)) (.var 219) (.var 218)))) (.ite (.eq (.var 65) (.lit 3)) (.var 217) (.ite (.eq (.var 65) (.lit 2)) (.var 216) (.ite (.eq (.var 65) (.lit 1)) (.var 215) (.var 214)))))))) (.ite (.eq (.lit 10) (.var 302)) (.var 300) (.ite (.eq (.lit 11) (.var 302)) (.var 301) (.lit 0)))) (.lit 1)) (.lit 1))))))) (.and (.eq (.var 302) (.lit 10)) (.not (.and (.and (.le (.lit 0) (.var 72)) (.lt (.var 72) (.lit 5))) (.and (.le (.lit 0) (.ite (.eq (.var 66) (.lit 4)) (.var 238) (.ite (.eq (.var 66) (.lit 3)) (.var 237) (.ite (.eq (.var 66) (.lit 2)) (.var 236) (.ite (.eq (.var 66) (.lit 1)) (.var 235) (.var 234)))))) (.and (.le (.var 72) (.lit 62)) (.eq (.bin .and .i64 (.bin .shr .i64 (.ite (.eq (.var 66) (.lit 4)) (.var 238) (.ite (.eq (.var 66) (.lit 3)) (.var 237) (.ite (.eq (.var 66) (.lit 2)) (.var 236) (.ite (.eq (.var 66) (.lit 1)) (.var 235) (.var 234))))) (.var 72)) (.lit 1)) (.lit 1)))))))))
 (.br
 (.and (.or (.eq (.lit 10) (.var 302)) (.eq (.lit 11) (.var 302))) (.not (.var 303)))
 (.br
 (.and (.or (.eq (.lit 10) (.var 302)) (.eq (.lit 11) (.var 302))) (.not (.var 304)))
 (.leaf (.bool (.and (.or (.eq (.lit 10) (.var 302)) (.eq (.lit 11) (.var 302))) (.not (.var 303)))))
 (.leaf (.bool (.lit .false))))
 (.leaf (.bool (.lit .false))))
 (.leaf (.bool (.lit .false))))))
def namesI : List (Nat × E) := [(300, (.bin .add .i64 (.bin .mul .i64 (.lit 0) (.var 73)) (.lit 0))), (301, (.bin .add .i64 (.bin .mul .i64 (.lit 1) (.var 73)) (.lit 0))), (302, (.bin .add .i64 (.lit 10) (.bin .and .i64 (.var 67) (.lit 1))))]
def namesB : List (Nat × B) := [(303, (.eq (.bin .xor .i64 (.var 56) (.lit 1)) (.var 56))), (304, (.eq (.bin .xor .i64 (.var 57) (.lit 1)) (.var 57)))]
theorem tree_named : tree = T.sub (nam namesI) (nam namesB) tree2 := by kernel_rfl
theorem tried : (allI 2 fun k => okTN (nam [(300, 0), (302, 10 + k)]) (nam []) [(.var 303, false), (.var 304, false)] (T.sub (nam [(301, .var 73)]) (nam []) tree2)) = true := by kernel_rfl
theorem xor_ne (x : Int) : bits .xor .i64 x 1 ≠ x := by
  intro h
  unfold bits at h
  have h : IntKind.i64.wrap (((BitVec.ofInt 64 x ^^^ BitVec.ofInt 64 1).toNat : Nat) : Int) = x := h
  have e : BitVec.ofInt 64 (IntKind.i64.wrap (((BitVec.ofInt 64 x ^^^ BitVec.ofInt 64 1).toNat : Nat) : Int)) = BitVec.ofInt 64 x ^^^ BitVec.ofInt 64 1 := by
    generalize BitVec.ofInt 64 x ^^^ BitVec.ofInt 64 1 = b
    apply BitVec.eq_of_toNat_eq
    rw [BitVec.toNat_ofInt, IntKind.wrap_i64]
    have := b.isLt
    omega
  rw [h] at e
  have e2 : BitVec.ofInt 64 x ^^^ BitVec.ofInt 64 x = BitVec.ofInt 64 x ^^^ (BitVec.ofInt 64 x ^^^ BitVec.ofInt 64 1) := by rw [← e]
  rw [← BitVec.xor_assoc, BitVec.xor_self, BitVec.zero_xor] at e2
  exact absurd e2 (by decide)
theorem ran (W : World) : ((execCall 30 20 (cx W) 4 svs [] 0 []).bind fun x => .leaf x.1) = tree := by kernel_rfl
set_option maxRecDepth 10000 in
theorem pure (ι : Env) (hs : Stands 200 56 fitCells ι) (h56 : (Lit.int .i64 (ι.int 56)).wf = true) (h57 : (Lit.int .i64 (ι.int 57)).wf = true) (h65 : (Lit.int .i64 (ι.int 65)).wf = true) (h66 : (Lit.int .i64 (ι.int 66)).wf = true) (h67 : (Lit.int .i64 (ι.int 67)).wf = true) (h72 : (Lit.int .i64 (ι.int 72)).wf = true) (h73 : (Lit.int .i64 (ι.int 73)).wf = true) : okT ι tree := by
  have h56 := bounds_i64 h56
  have h57 := bounds_i64 h57
  have h65 := bounds_i64 h65
  have h66 := bounds_i64 h66
  have h67 := bounds_i64 h67
  have h72 := bounds_i64 h72
  have h73 := bounds_i64 h73
  have h67b : 0 ≤ bits .and .i64 (ι.int 67) 1 ∧ bits .and .i64 (ι.int 67) 1 < 2 := by rw [and1_i64]; omega
  have t := allI_ok tried (bits .and .i64 (ι.int 67) 1) h67b.1 h67b.2
  rw [tree_named]
  refine okT_sub (okT_alias (s := [(301, .var 73)]) (okTN_ok (fun n p h => by cases nam_mem h) (fun n z h => ?_) (fun q v h => ?_) t) (fun n e h => ?_))
  · have hm := nam_mem h
    simp only [List.mem_cons, Prod.mk.injEq, List.not_mem_nil, or_false] at hm
    rcases hm with ⟨rfl, rfl⟩ | ⟨rfl, rfl⟩
    · show IntKind.i64.wrap (IntKind.i64.wrap (0 * ι.int 73) + 0) = 0
      rw [Int.zero_mul]; rfl
    · show IntKind.i64.wrap (10 + bits .and .i64 (ι.int 67) 1) = _
      rw [IntKind.wrap_i64]; omega
  · simp only [List.mem_cons, Prod.mk.injEq, List.not_mem_nil, or_false] at h
    rcases h with ⟨rfl, rfl⟩ | ⟨rfl, rfl⟩
    · show decide (bits .xor .i64 (ι.int 56) 1 = ι.int 56) = false
      exact decide_eq_false (xor_ne _)
    · show decide (bits .xor .i64 (ι.int 57) 1 = ι.int 57) = false
      exact decide_eq_false (xor_ne _)
  · simp only [List.mem_cons, Prod.mk.injEq, List.not_mem_nil, or_false] at h
    obtain ⟨rfl, rfl⟩ := h
    show IntKind.i64.wrap (IntKind.i64.wrap (1 * ι.int 73) + 0) = ι.int 73
    have w : IntKind.i64.wrap (ι.int 73) = ι.int 73 := by rw [IntKind.wrap_i64]; omega
    rw [Int.one_mul, Int.add_zero, w, w]

theorem main (W : World) (cells : List Value) (args : Array Value) (hc : AllIs W ks cells) (hden : ∀ ext β, SV.denL (envOf cells ext) β svs = args.toList) (hL : laidMet Tryd.prog Laid W) : IsTrue Tryd.prog 4 args W := by
  have hlen : ks.length = cells.length := hc.length
  have hge : 56 ≤ cells.length := by rw [← hlen]; decide
  let ext := extOf 200 fitCells (envOf cells ext0)
  have hst : Stands 200 56 fitCells (envOf cells ext) := stands_more hge (by rw [← hlen]; decide)
  have hrow : ∀ i, 5 ≤ i → i ≤ 8 → ∃ zs, IsRow .u8 W ((envOf cells ext).sa i) ((envOf cells ext).sl i) ((envOf cells ext).sc i) zs := by
    intro i h1 h2
    have hk : ks[i]? = some (.ints .u8) := by
      rcases (by omega : i = 5 ∨ i = 6 ∨ i = 7 ∨ i = 8) with rfl | rfl | rfl | rfl <;> rfl
    exact hc.row ext hk
  obtain ⟨v, h1, h2⟩ := okT_pick (pure (envOf cells ext) hst (hc.wf ext rfl) (hc.wf ext rfl) (hc.wf ext rfl) (hc.wf ext rfl) (hc.wf ext rfl) (hc.wf ext rfl) (hc.wf ext rfl))
  refine isTrue_of_pick (c := cx W) (hyp_fit mixed rfl rfl rfl rfl hrow hst) (Nat.le_refl _) (fun k _ => rfl) (fun g cs h => ?_) (hden ext) (by rw [ran]; exact h1) h2
  have h : (g, cs) ∈ [(0, [SV.int .i64 (.lit 10), SV.int .i64 (.lit 0), SV.int .i64 (.lit 11), SV.int .i64 (.lit 1)])] := h
  simp only [List.mem_singleton, Prod.mk.injEq] at h
  obtain ⟨rfl, rfl⟩ := h
  obtain ⟨T, fr, hT⟩ := cells_of_laid hL
  exact ⟨T, fr, fun β => hT⟩
set_option maxRecDepth 100000 in
theorem lifted (os : Os) (started : os.Started) (H : Type) (enc : TypeId × Value → H) :
    ReturnsInHanded {} Tryd.checked os 4 .any (fun w args => (Rows.gateOldSpec.pre enc Tryd.prog Tryd.f4 [] false w args ∧ laidMet Tryd.prog Laid w) ∧ sizedMet enc Tryd.prog Tryd.f4 (OpenSpec.ofChange Rows.gateOldSpec) false w args) (Rows.gateOldSpec.post enc Tryd.prog Tryd.f4 false true false false) :=
  lifted_laid (n := 3) (svs := svs) (ks := ks) own started (by kernel_rfl) Tryd.func4
    (ChangeSpec.witness_at (enc := enc) (C := Tryd.checked) (os := os) (X := fun w _ => laidMet Tryd.prog Laid w) false (laidWorld os) #[(.agg #[.int .i64 0, .int .i64 0, .int .i64 0, .int .i64 0, .int .i64 0, .slice none 0 0, .slice none 0 0, .slice none 0 0, .slice none 0 0, .int .i64 0, .int .i64 0, .int .i64 0, .int .i64 0, .int .i64 0, .int .i64 0, .int .i64 0, .int .i64 0, .int .i64 0, .int .i64 0, .int .i64 0, .int .i64 0, .int .i64 0, .int .i64 0, .int .i64 0, .int .i64 0, .int .i64 0, .int .i64 0, .int .i64 0, .int .i64 0, .int .i64 0, .int .i64 0, .int .i64 0, .int .i64 0, .int .i64 0, .int .i64 0, .int .i64 0, .int .i64 0, .int .i64 0, .int .i64 0, .int .i64 0, .int .i64 0, .int .i64 0, .int .i64 0, .int .i64 0, .int .i64 0, .int .i64 0, .int .i64 0, .int .i64 0, .int .i64 0, .int .i64 0, .int .i64 0, .int .i64 0, .int .i64 0, .int .i64 0, .int .i64 0, .int .i64 0]), (.agg #[.int .i64 0, .int .i64 0, .int .i64 0, .int .i64 0, .int .i64 0, .int .i64 0, .int .i64 0, .bool false, .int .i64 0, .int .i64 0, .int .i64 0]), (.agg #[.int .i64 0, .int .i64 0, .int .i64 0, .int .i64 0, .int .i64 0, .int .i64 0, .int .i64 0, .bool false, .int .i64 0, .int .i64 0, .int .i64 0, .int .i64 0])] 8 rfl (by kernel_rfl) (by kernel_rfl) (by kernel_rfl) (by kernel_rfl) (by kernel_rfl) (laidWorld_met os _))
    rfl rfl (by kernel_rfl) laid (by kernel_rfl) rfl (fun ds h => by
      match ds, h with
      | [d0, d1, d2], _ => exact ⟨rfl, rfl, rfl⟩)
    (by kernel_rfl) (fun W cells args ds p hc hden hL => main W cells args hc hden hL)
theorem over : Rows.gateOldRow.holds Tryd.pinned (OpenSpec.ofChange Rows.gateOldSpec) :=
  OpenClaim.holds_of_wide 4 Tryd.f4 rfl rfl rfl rfl rfl rfl rfl ⟨rfl, rfl, rfl, rfl, rfl⟩ rfl rfl rfl rfl rfl (by kernel_rfl) Tryd.func4 (by kernel_rfl)
    (of_decide_eq_true (by kernel_rfl)) (by unfold Func.isWrapper; first | (rw [if_pos (by decide +kernel)]; kernel_rfl) | (rw [if_neg (by decide +kernel)]; exact ⟨rfl, rfl⟩))
    (fun os started H enc _ => lifted os started H enc)
theorem stands : (Tryd.f4.params.toList.all fun t => !Tryd.prog.wantsStandIn t) = true := by kernel_rfl
theorem proved : Rows.GateOldCardSaid :=
  Claim7.holds_tied_plain_at .later [] [.data] true Rows.gateOldCard.stood.harness false
    over (fun _ h => by cases h) (by kernel_rfl) (fun _ h => by cases h) gateOld_row_tie rfl ⟨rfl, rfl⟩ (by kernel_rfl) rfl
    (fun f fn hf hfn => by
      obtain rfl : f = 4 := Option.some.inj ((show Tryd.prog.funcNamed "sidestick/sidesticklaw22.GateOld" = some 4 by kernel_rfl).symm.trans hf) |>.symm
      obtain rfl : fn = Tryd.f4 := (Option.some.inj (Tryd.func4.symm.trans hfn)).symm
      exact ⟨by kernel_rfl, fun j t ht => by
        have hm : t ∈ Tryd.f4.params.toList := List.mem_of_getElem? (by simpa using ht)
        have := List.all_eq_true.1 stands t hm
        exact (by simpa using this : Tryd.prog.wantsStandIn t = false)⟩)
    (by kernel_rfl)
#print axioms proved
end Go.Proofs.YtkglnkfoeedmoabDoor.gateOld
namespace Go.Proofs.YtkglnkfoeedmoabDoor
/-- The card, under a short name, for the claim. -/
theorem gateOld_holds : Rows.GateOldCardSaid := gateOld.proved
end Go.Proofs.YtkglnkfoeedmoabDoor
