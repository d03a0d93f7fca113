/- 'TokenSeizes': by the executor's tree. -/
import Derived.Test.YtkglnkfoeedmoabRows
import Derived.Test.YtkglnkfoeedmoabSx16

namespace Go.Proofs.Ytkglnkfoeedmoab.tokenSeizes
open Go.ChangeShapes Go.WideShapes Go.ChangeAt Go.RowKit Go.Proofs.YtkglnkfoeedmoabSx
set_option linter.unusedVariables false
set_option linter.unusedSimpArgs false
theorem own : ownKnob Try.prog.godebug = none := by kernel_rfl
theorem laid : laidOutB Try.prog = true := by kernel_rfl
theorem mixed : Try.prog.follows .mixedOrders = true := by kernel_rfl
noncomputable def cx : Ctx := { P := Try.prog, ro := 0, glob := [] }
def svs : List SV := [(.agg [(.int .u8 (.var 0)), (.int .u8 (.var 1))]), (.int .u16 (.var 2)), (.bool (.var 3))]
def ks : List CK := [(.int .u8), (.int .u8), (.int .u16), .bool]
def tree : T SV :=
(.br
 (.not (.eq (.bin .rem .i64 (.wrap .i64 (.var 0)) (.lit 5)) (.lit 4)))
 (.br
 (.lt (.var 2) (.lit 65535))
 (.br
 (.not (.and (.eq (.ite (.not (.eq (.bin .rem .i64 (.wrap .i64 (.var 0)) (.lit 5)) (.lit 4))) (.ite (.le (.lit 65535) (.wrap .i64 (.var 2))) (.lit 65535) (.bin .add .i64 (.wrap .i64 (.var 2)) (.lit 1))) (.wrap .i64 (.var 2))) (.bin .add .i64 (.wrap .i64 (.var 2)) (.lit 1))) (.beq (.var 3) (.var 3))))
 (.leaf (.bool (.lit .false)))
 (.br
 (.eq (.bin .add .i64 (.wrap .i64 (.var 2)) (.lit 1)) (.lit 65535))
 (.br
 (.and (.not (.lt (.bin .rem .i64 (.wrap .i64 (.var 1)) (.lit 4)) (.lit 0))) (.and (.not (.le (.lit 5) (.bin .rem .i64 (.wrap .i64 (.var 1)) (.lit 4)))) (.and (.not (.eq (.bin .rem .i64 (.wrap .i64 (.var 1)) (.lit 4)) (.lit 4))) (.le (.lit 65535) (.ite (.not (.eq (.bin .rem .i64 (.wrap .i64 (.var 0)) (.lit 5)) (.lit 4))) (.ite (.le (.lit 65535) (.wrap .i64 (.var 2))) (.lit 65535) (.bin .add .i64 (.wrap .i64 (.var 2)) (.lit 1))) (.wrap .i64 (.var 2)))))))
 (.leaf (.bool (.and (.eq (.ite (.lt (.bin .rem .i64 (.wrap .i64 (.var 1)) (.lit 4)) (.lit 0)) (.lit 4) (.ite (.le (.lit 5) (.bin .rem .i64 (.wrap .i64 (.var 1)) (.lit 4))) (.lit 4) (.ite (.eq (.bin .rem .i64 (.wrap .i64 (.var 1)) (.lit 4)) (.lit 4)) (.lit 4) (.ite (.le (.lit 65535) (.ite (.not (.eq (.bin .rem .i64 (.wrap .i64 (.var 0)) (.lit 5)) (.lit 4))) (.ite (.le (.lit 65535) (.wrap .i64 (.var 2))) (.lit 65535) (.bin .add .i64 (.wrap .i64 (.var 2)) (.lit 1))) (.wrap .i64 (.var 2)))) (.lit 4) (.bin .rem .i64 (.wrap .i64 (.var 1)) (.lit 4)))))) (.lit 4)) (.and (.eq (.ite (.lt (.bin .rem .i64 (.wrap .i64 (.var 1)) (.lit 4)) (.lit 0)) (.ite (.not (.eq (.bin .rem .i64 (.wrap .i64 (.var 0)) (.lit 5)) (.lit 4))) (.ite (.le (.lit 65535) (.wrap .i64 (.var 2))) (.lit 65535) (.bin .add .i64 (.wrap .i64 (.var 2)) (.lit 1))) (.wrap .i64 (.var 2))) (.ite (.le (.lit 5) (.bin .rem .i64 (.wrap .i64 (.var 1)) (.lit 4))) (.ite (.not (.eq (.bin .rem .i64 (.wrap .i64 (.var 0)) (.lit 5)) (.lit 4))) (.ite (.le (.lit 65535) (.wrap .i64 (.var 2))) (.lit 65535) (.bin .add .i64 (.wrap .i64 (.var 2)) (.lit 1))) (.wrap .i64 (.var 2))) (.ite (.eq (.bin .rem .i64 (.wrap .i64 (.var 1)) (.lit 4)) (.lit 4)) (.ite (.not (.eq (.bin .rem .i64 (.wrap .i64 (.var 0)) (.lit 5)) (.lit 4))) (.ite (.le (.lit 65535) (.wrap .i64 (.var 2))) (.lit 65535) (.bin .add .i64 (.wrap .i64 (.var 2)) (.lit 1))) (.wrap .i64 (.var 2))) (.ite (.le (.lit 65535) (.ite (.not (.eq (.bin .rem .i64 (.wrap .i64 (.var 0)) (.lit 5)) (.lit 4))) (.ite (.le (.lit 65535) (.wrap .i64 (.var 2))) (.lit 65535) (.bin .add .i64 (.wrap .i64 (.var 2)) (.lit 1))) (.wrap .i64 (.var 2)))) (.ite (.not (.eq (.bin .rem .i64 (.wrap .i64 (.var 0)) (.lit 5)) (.lit 4))) (.ite (.le (.lit 65535) (.wrap .i64 (.var 2))) (.lit 65535) (.bin .add .i64 (.wrap .i64 (.var 2)) (.lit 1))) (.wrap .i64 (.var 2))) (.bin .add .i64 (.ite (.not (.eq (.bin .rem .i64 (.wrap .i64 (.var 0)) (.lit 5)) (.lit 4))) (.ite (.le (.lit 65535) (.wrap .i64 (.var 2))) (.lit 65535) (.bin .add .i64 (.wrap .i64 (.var 2)) (.lit 1))) (.wrap .i64 (.var 2))) (.lit 1)))))) (.ite (.not (.eq (.bin .rem .i64 (.wrap .i64 (.var 0)) (.lit 5)) (.lit 4))) (.ite (.le (.lit 65535) (.wrap .i64 (.var 2))) (.lit 65535) (.bin .add .i64 (.wrap .i64 (.var 2)) (.lit 1))) (.wrap .i64 (.var 2)))) (.beq (.var 3) (.var 3))))))
 (.leaf (.bool (.lit .false))))
 (.br
 (.and (.not (.lt (.bin .rem .i64 (.wrap .i64 (.var 1)) (.lit 4)) (.lit 0))) (.and (.not (.le (.lit 5) (.bin .rem .i64 (.wrap .i64 (.var 1)) (.lit 4)))) (.and (.not (.eq (.bin .rem .i64 (.wrap .i64 (.var 1)) (.lit 4)) (.lit 4))) (.not (.le (.lit 65535) (.ite (.not (.eq (.bin .rem .i64 (.wrap .i64 (.var 0)) (.lit 5)) (.lit 4))) (.ite (.le (.lit 65535) (.wrap .i64 (.var 2))) (.lit 65535) (.bin .add .i64 (.wrap .i64 (.var 2)) (.lit 1))) (.wrap .i64 (.var 2))))))))
 (.br
 (.eq (.ite (.lt (.bin .rem .i64 (.wrap .i64 (.var 1)) (.lit 4)) (.lit 0)) (.lit 4) (.ite (.le (.lit 5) (.bin .rem .i64 (.wrap .i64 (.var 1)) (.lit 4))) (.lit 4) (.ite (.eq (.bin .rem .i64 (.wrap .i64 (.var 1)) (.lit 4)) (.lit 4)) (.lit 4) (.ite (.le (.lit 65535) (.ite (.not (.eq (.bin .rem .i64 (.wrap .i64 (.var 0)) (.lit 5)) (.lit 4))) (.ite (.le (.lit 65535) (.wrap .i64 (.var 2))) (.lit 65535) (.bin .add .i64 (.wrap .i64 (.var 2)) (.lit 1))) (.wrap .i64 (.var 2)))) (.lit 4) (.bin .rem .i64 (.wrap .i64 (.var 1)) (.lit 4)))))) (.bin .rem .i64 (.wrap .i64 (.var 1)) (.lit 4)))
 (.leaf (.bool (.eq (.ite (.lt (.bin .rem .i64 (.wrap .i64 (.var 1)) (.lit 4)) (.lit 0)) (.ite (.not (.eq (.bin .rem .i64 (.wrap .i64 (.var 0)) (.lit 5)) (.lit 4))) (.ite (.le (.lit 65535) (.wrap .i64 (.var 2))) (.lit 65535) (.bin .add .i64 (.wrap .i64 (.var 2)) (.lit 1))) (.wrap .i64 (.var 2))) (.ite (.le (.lit 5) (.bin .rem .i64 (.wrap .i64 (.var 1)) (.lit 4))) (.ite (.not (.eq (.bin .rem .i64 (.wrap .i64 (.var 0)) (.lit 5)) (.lit 4))) (.ite (.le (.lit 65535) (.wrap .i64 (.var 2))) (.lit 65535) (.bin .add .i64 (.wrap .i64 (.var 2)) (.lit 1))) (.wrap .i64 (.var 2))) (.ite (.eq (.bin .rem .i64 (.wrap .i64 (.var 1)) (.lit 4)) (.lit 4)) (.ite (.not (.eq (.bin .rem .i64 (.wrap .i64 (.var 0)) (.lit 5)) (.lit 4))) (.ite (.le (.lit 65535) (.wrap .i64 (.var 2))) (.lit 65535) (.bin .add .i64 (.wrap .i64 (.var 2)) (.lit 1))) (.wrap .i64 (.var 2))) (.ite (.le (.lit 65535) (.ite (.not (.eq (.bin .rem .i64 (.wrap .i64 (.var 0)) (.lit 5)) (.lit 4))) (.ite (.le (.lit 65535) (.wrap .i64 (.var 2))) (.lit 65535) (.bin .add .i64 (.wrap .i64 (.var 2)) (.lit 1))) (.wrap .i64 (.var 2)))) (.ite (.not (.eq (.bin .rem .i64 (.wrap .i64 (.var 0)) (.lit 5)) (.lit 4))) (.ite (.le (.lit 65535) (.wrap .i64 (.var 2))) (.lit 65535) (.bin .add .i64 (.wrap .i64 (.var 2)) (.lit 1))) (.wrap .i64 (.var 2))) (.bin .add .i64 (.ite (.not (.eq (.bin .rem .i64 (.wrap .i64 (.var 0)) (.lit 5)) (.lit 4))) (.ite (.le (.lit 65535) (.wrap .i64 (.var 2))) (.lit 65535) (.bin .add .i64 (.wrap .i64 (.var 2)) (.lit 1))) (.wrap .i64 (.var 2))) (.lit 1)))))) (.bin .add .i64 (.bin .add .i64 (.wrap .i64 (.var 2)) (.lit 1)) (.lit 1)))))
 (.leaf (.bool (.lit .false))))
 (.leaf (.bool (.lit .false))))))
 (.br
 (.not (.and (.eq (.ite (.not (.eq (.bin .rem .i64 (.wrap .i64 (.var 0)) (.lit 5)) (.lit 4))) (.ite (.le (.lit 65535) (.wrap .i64 (.var 2))) (.lit 65535) (.bin .add .i64 (.wrap .i64 (.var 2)) (.lit 1))) (.wrap .i64 (.var 2))) (.wrap .i64 (.var 2))) (.beq (.var 3) (.var 3))))
 (.leaf (.bool (.lit .false)))
 (.br
 (.eq (.wrap .i64 (.var 2)) (.lit 65535))
 (.br
 (.and (.not (.lt (.bin .rem .i64 (.wrap .i64 (.var 1)) (.lit 4)) (.lit 0))) (.and (.not (.le (.lit 5) (.bin .rem .i64 (.wrap .i64 (.var 1)) (.lit 4)))) (.and (.not (.eq (.bin .rem .i64 (.wrap .i64 (.var 1)) (.lit 4)) (.lit 4))) (.le (.lit 65535) (.ite (.not (.eq (.bin .rem .i64 (.wrap .i64 (.var 0)) (.lit 5)) (.lit 4))) (.ite (.le (.lit 65535) (.wrap .i64 (.var 2))) (.lit 65535) (.bin .add .i64 (.wrap .i64 (.var 2)) (.lit 1))) (.wrap .i64 (.var 2)))))))
 (.leaf (.bool (.and (.eq (.ite (.lt (.bin .rem .i64 (.wrap .i64 (.var 1)) (.lit 4)) (.lit 0)) (.lit 4) (.ite (.le (.lit 5) (.bin .rem .i64 (.wrap .i64 (.var 1)) (.lit 4))) (.lit 4) (.ite (.eq (.bin .rem .i64 (.wrap .i64 (.var 1)) (.lit 4)) (.lit 4)) (.lit 4) (.ite (.le (.lit 65535) (.ite (.not (.eq (.bin .rem .i64 (.wrap .i64 (.var 0)) (.lit 5)) (.lit 4))) (.ite (.le (.lit 65535) (.wrap .i64 (.var 2))) (.lit 65535) (.bin .add .i64 (.wrap .i64 (.var 2)) (.lit 1))) (.wrap .i64 (.var 2)))) (.lit 4) (.bin .rem .i64 (.wrap .i64 (.var 1)) (.lit 4)))))) (.lit 4)) (.and (.eq (.ite (.lt (.bin .rem .i64 (.wrap .i64 (.var 1)) (.lit 4)) (.lit 0)) (.ite (.not (.eq (.bin .rem .i64 (.wrap .i64 (.var 0)) (.lit 5)) (.lit 4))) (.ite (.le (.lit 65535) (.wrap .i64 (.var 2))) (.lit 65535) (.bin .add .i64 (.wrap .i64 (.var 2)) (.lit 1))) (.wrap .i64 (.var 2))) (.ite (.le (.lit 5) (.bin .rem .i64 (.wrap .i64 (.var 1)) (.lit 4))) (.ite (.not (.eq (.bin .rem .i64 (.wrap .i64 (.var 0)) (.lit 5)) (.lit 4))) (.ite (.le (.lit 65535) (.wrap .i64 (.var 2))) (.lit 65535) (.bin .add .i64 (.wrap .i64 (.var 2)) (.lit 1))) (.wrap .i64 (.var 2))) (.ite (.eq (.bin .rem .i64 (.wrap .i64 (.var 1)) (.lit 4)) (.lit 4)) (.ite (.not (.eq (.bin .rem .i64 (.wrap .i64 (.var 0)) (.lit 5)) (.lit 4))) (.ite (.le (.lit 65535) (.wrap .i64 (.var 2))) (.lit 65535) (.bin .add .i64 (.wrap .i64 (.var 2)) (.lit 1))) (.wrap .i64 (.var 2))) (.ite (.le (.lit 65535) (.ite (.not (.eq (.bin .rem .i64 (.wrap .i64 (.var 0)) (.lit 5)) (.lit 4))) (.ite (.le (.lit 65535) (.wrap .i64 (.var 2))) (.lit 65535) (.bin .add .i64 (.wrap .i64 (.var 2)) (.lit 1))) (.wrap .i64 (.var 2)))) (.ite (.not (.eq (.bin .rem .i64 (.wrap .i64 (.var 0)) (.lit 5)) (.lit 4))) (.ite (.le (.lit 65535) (.wrap .i64 (.var 2))) (.lit 65535) (.bin .add .i64 (.wrap .i64 (.var 2)) (.lit 1))) (.wrap .i64 (.var 2))) (.bin .add .i64 (.ite (.not (.eq (.bin .rem .i64 (.wrap .i64 (.var 0)) (.lit 5)) (.lit 4))) (.ite (.le (.lit 65535) (.wrap .i64 (.var 2))) (.lit 65535) (.bin .add .i64 (.wrap .i64 (.var 2)) (.lit 1))) (.wrap .i64 (.var 2))) (.lit 1)))))) (.ite (.not (.eq (.bin .rem .i64 (.wrap .i64 (.var 0)) (.lit 5)) (.lit 4))) (.ite (.le (.lit 65535) (.wrap .i64 (.var 2))) (.lit 65535) (.bin .add .i64 (.wrap .i64 (.var 2)) (.lit 1))) (.wrap .i64 (.var 2)))) (.beq (.var 3) (.var 3))))))
 (.leaf (.bool (.lit .false))))
 (.br
 (.and (.not (.lt (.bin .rem .i64 (.wrap .i64 (.var 1)) (.lit 4)) (.lit 0))) (.and (.not (.le (.lit 5) (.bin .rem .i64 (.wrap .i64 (.var 1)) (.lit 4)))) (.and (.not (.eq (.bin .rem .i64 (.wrap .i64 (.var 1)) (.lit 4)) (.lit 4))) (.not (.le (.lit 65535) (.ite (.not (.eq (.bin .rem .i64 (.wrap .i64 (.var 0)) (.lit 5)) (.lit 4))) (.ite (.le (.lit 65535) (.wrap .i64 (.var 2))) (.lit 65535) (.bin .add .i64 (.wrap .i64 (.var 2)) (.lit 1))) (.wrap .i64 (.var 2))))))))
 (.br
 (.eq (.ite (.lt (.bin .rem .i64 (.wrap .i64 (.var 1)) (.lit 4)) (.lit 0)) (.lit 4) (.ite (.le (.lit 5) (.bin .rem .i64 (.wrap .i64 (.var 1)) (.lit 4))) (.lit 4) (.ite (.eq (.bin .rem .i64 (.wrap .i64 (.var 1)) (.lit 4)) (.lit 4)) (.lit 4) (.ite (.le (.lit 65535) (.ite (.not (.eq (.bin .rem .i64 (.wrap .i64 (.var 0)) (.lit 5)) (.lit 4))) (.ite (.le (.lit 65535) (.wrap .i64 (.var 2))) (.lit 65535) (.bin .add .i64 (.wrap .i64 (.var 2)) (.lit 1))) (.wrap .i64 (.var 2)))) (.lit 4) (.bin .rem .i64 (.wrap .i64 (.var 1)) (.lit 4)))))) (.bin .rem .i64 (.wrap .i64 (.var 1)) (.lit 4)))
 (.leaf (.bool (.eq (.ite (.lt (.bin .rem .i64 (.wrap .i64 (.var 1)) (.lit 4)) (.lit 0)) (.ite (.not (.eq (.bin .rem .i64 (.wrap .i64 (.var 0)) (.lit 5)) (.lit 4))) (.ite (.le (.lit 65535) (.wrap .i64 (.var 2))) (.lit 65535) (.bin .add .i64 (.wrap .i64 (.var 2)) (.lit 1))) (.wrap .i64 (.var 2))) (.ite (.le (.lit 5) (.bin .rem .i64 (.wrap .i64 (.var 1)) (.lit 4))) (.ite (.not (.eq (.bin .rem .i64 (.wrap .i64 (.var 0)) (.lit 5)) (.lit 4))) (.ite (.le (.lit 65535) (.wrap .i64 (.var 2))) (.lit 65535) (.bin .add .i64 (.wrap .i64 (.var 2)) (.lit 1))) (.wrap .i64 (.var 2))) (.ite (.eq (.bin .rem .i64 (.wrap .i64 (.var 1)) (.lit 4)) (.lit 4)) (.ite (.not (.eq (.bin .rem .i64 (.wrap .i64 (.var 0)) (.lit 5)) (.lit 4))) (.ite (.le (.lit 65535) (.wrap .i64 (.var 2))) (.lit 65535) (.bin .add .i64 (.wrap .i64 (.var 2)) (.lit 1))) (.wrap .i64 (.var 2))) (.ite (.le (.lit 65535) (.ite (.not (.eq (.bin .rem .i64 (.wrap .i64 (.var 0)) (.lit 5)) (.lit 4))) (.ite (.le (.lit 65535) (.wrap .i64 (.var 2))) (.lit 65535) (.bin .add .i64 (.wrap .i64 (.var 2)) (.lit 1))) (.wrap .i64 (.var 2)))) (.ite (.not (.eq (.bin .rem .i64 (.wrap .i64 (.var 0)) (.lit 5)) (.lit 4))) (.ite (.le (.lit 65535) (.wrap .i64 (.var 2))) (.lit 65535) (.bin .add .i64 (.wrap .i64 (.var 2)) (.lit 1))) (.wrap .i64 (.var 2))) (.bin .add .i64 (.ite (.not (.eq (.bin .rem .i64 (.wrap .i64 (.var 0)) (.lit 5)) (.lit 4))) (.ite (.le (.lit 65535) (.wrap .i64 (.var 2))) (.lit 65535) (.bin .add .i64 (.wrap .i64 (.var 2)) (.lit 1))) (.wrap .i64 (.var 2))) (.lit 1)))))) (.bin .add .i64 (.wrap .i64 (.var 2)) (.lit 1)))))
 (.leaf (.bool (.lit .false))))
 (.leaf (.bool (.lit .false)))))))
 (.br
 (.not (.and (.eq (.ite (.not (.eq (.bin .rem .i64 (.wrap .i64 (.var 0)) (.lit 5)) (.lit 4))) (.ite (.le (.lit 65535) (.wrap .i64 (.var 2))) (.lit 65535) (.bin .add .i64 (.wrap .i64 (.var 2)) (.lit 1))) (.wrap .i64 (.var 2))) (.wrap .i64 (.var 2))) (.beq (.var 3) (.var 3))))
 (.leaf (.bool (.lit .false)))
 (.br
 (.eq (.wrap .i64 (.var 2)) (.lit 65535))
 (.br
 (.and (.not (.lt (.bin .rem .i64 (.wrap .i64 (.var 1)) (.lit 4)) (.lit 0))) (.and (.not (.le (.lit 5) (.bin .rem .i64 (.wrap .i64 (.var 1)) (.lit 4)))) (.and (.not (.eq (.bin .rem .i64 (.wrap .i64 (.var 1)) (.lit 4)) (.lit 4))) (.le (.lit 65535) (.ite (.not (.eq (.bin .rem .i64 (.wrap .i64 (.var 0)) (.lit 5)) (.lit 4))) (.ite (.le (.lit 65535) (.wrap .i64 (.var 2))) (.lit 65535) (.bin .add .i64 (.wrap .i64 (.var 2)) (.lit 1))) (.wrap .i64 (.var 2)))))))
 (.leaf (.bool (.and (.eq (.ite (.lt (.bin .rem .i64 (.wrap .i64 (.var 1)) (.lit 4)) (.lit 0)) (.lit 4) (.ite (.le (.lit 5) (.bin .rem .i64 (.wrap .i64 (.var 1)) (.lit 4))) (.lit 4) (.ite (.eq (.bin .rem .i64 (.wrap .i64 (.var 1)) (.lit 4)) (.lit 4)) (.lit 4) (.ite (.le (.lit 65535) (.ite (.not (.eq (.bin .rem .i64 (.wrap .i64 (.var 0)) (.lit 5)) (.lit 4))) (.ite (.le (.lit 65535) (.wrap .i64 (.var 2))) (.lit 65535) (.bin .add .i64 (.wrap .i64 (.var 2)) (.lit 1))) (.wrap .i64 (.var 2)))) (.lit 4) (.bin .rem .i64 (.wrap .i64 (.var 1)) (.lit 4)))))) (.lit 4)) (.and (.eq (.ite (.lt (.bin .rem .i64 (.wrap .i64 (.var 1)) (.lit 4)) (.lit 0)) (.ite (.not (.eq (.bin .rem .i64 (.wrap .i64 (.var 0)) (.lit 5)) (.lit 4))) (.ite (.le (.lit 65535) (.wrap .i64 (.var 2))) (.lit 65535) (.bin .add .i64 (.wrap .i64 (.var 2)) (.lit 1))) (.wrap .i64 (.var 2))) (.ite (.le (.lit 5) (.bin .rem .i64 (.wrap .i64 (.var 1)) (.lit 4))) (.ite (.not (.eq (.bin .rem .i64 (.wrap .i64 (.var 0)) (.lit 5)) (.lit 4))) (.ite (.le (.lit 65535) (.wrap .i64 (.var 2))) (.lit 65535) (.bin .add .i64 (.wrap .i64 (.var 2)) (.lit 1))) (.wrap .i64 (.var 2))) (.ite (.eq (.bin .rem .i64 (.wrap .i64 (.var 1)) (.lit 4)) (.lit 4)) (.ite (.not (.eq (.bin .rem .i64 (.wrap .i64 (.var 0)) (.lit 5)) (.lit 4))) (.ite (.le (.lit 65535) (.wrap .i64 (.var 2))) (.lit 65535) (.bin .add .i64 (.wrap .i64 (.var 2)) (.lit 1))) (.wrap .i64 (.var 2))) (.ite (.le (.lit 65535) (.ite (.not (.eq (.bin .rem .i64 (.wrap .i64 (.var 0)) (.lit 5)) (.lit 4))) (.ite (.le (.lit 65535) (.wrap .i64 (.var 2))) (.lit 65535) (.bin .add .i64 (.wrap .i64 (.var 2)) (.lit 1))) (.wrap .i64 (.var 2)))) (.ite (.not (.eq (.bin .rem .i64 (.wrap .i64 (.var 0)) (.lit 5)) (.lit 4))) (.ite (.le (.lit 65535) (.wrap .i64 (.var 2))) (.lit 65535) (.bin .add .i64 (.wrap .i64 (.var 2)) (.lit 1))) (.wrap .i64 (.var 2))) (.bin .add .i64 (.ite (.not (.eq (.bin .rem .i64 (.wrap .i64 (.var 0)) (.lit 5)) (.lit 4))) (.ite (.le (.lit 65535) (.wrap .i64 (.var 2))) (.lit 65535) (.bin .add .i64 (.wrap .i64 (.var 2)) (.lit 1))) (.wrap .i64 (.var 2))) (.lit 1)))))) (.ite (.not (.eq (.bin .rem .i64 (.wrap .i64 (.var 0)) (.lit 5)) (.lit 4))) (.ite (.le (.lit 65535) (.wrap .i64 (.var 2))) (.lit 65535) (.bin .add .i64 (.wrap .i64 (.var 2)) (.lit 1))) (.wrap .i64 (.var 2)))) (.beq (.var 3) (.var 3))))))
 (.leaf (.bool (.lit .false))))
 (.br
 (.and (.not (.lt (.bin .rem .i64 (.wrap .i64 (.var 1)) (.lit 4)) (.lit 0))) (.and (.not (.le (.lit 5) (.bin .rem .i64 (.wrap .i64 (.var 1)) (.lit 4)))) (.and (.not (.eq (.bin .rem .i64 (.wrap .i64 (.var 1)) (.lit 4)) (.lit 4))) (.not (.le (.lit 65535) (.ite (.not (.eq (.bin .rem .i64 (.wrap .i64 (.var 0)) (.lit 5)) (.lit 4))) (.ite (.le (.lit 65535) (.wrap .i64 (.var 2))) (.lit 65535) (.bin .add .i64 (.wrap .i64 (.var 2)) (.lit 1))) (.wrap .i64 (.var 2))))))))
 (.br
 (.eq (.ite (.lt (.bin .rem .i64 (.wrap .i64 (.var 1)) (.lit 4)) (.lit 0)) (.lit 4) (.ite (.le (.lit 5) (.bin .rem .i64 (.wrap .i64 (.var 1)) (.lit 4))) (.lit 4) (.ite (.eq (.bin .rem .i64 (.wrap .i64 (.var 1)) (.lit 4)) (.lit 4)) (.lit 4) (.ite (.le (.lit 65535) (.ite (.not (.eq (.bin .rem .i64 (.wrap .i64 (.var 0)) (.lit 5)) (.lit 4))) (.ite (.le (.lit 65535) (.wrap .i64 (.var 2))) (.lit 65535) (.bin .add .i64 (.wrap .i64 (.var 2)) (.lit 1))) (.wrap .i64 (.var 2)))) (.lit 4) (.bin .rem .i64 (.wrap .i64 (.var 1)) (.lit 4)))))) (.bin .rem .i64 (.wrap .i64 (.var 1)) (.lit 4)))
 (.leaf (.bool (.eq (.ite (.lt (.bin .rem .i64 (.wrap .i64 (.var 1)) (.lit 4)) (.lit 0)) (.ite (.not (.eq (.bin .rem .i64 (.wrap .i64 (.var 0)) (.lit 5)) (.lit 4))) (.ite (.le (.lit 65535) (.wrap .i64 (.var 2))) (.lit 65535) (.bin .add .i64 (.wrap .i64 (.var 2)) (.lit 1))) (.wrap .i64 (.var 2))) (.ite (.le (.lit 5) (.bin .rem .i64 (.wrap .i64 (.var 1)) (.lit 4))) (.ite (.not (.eq (.bin .rem .i64 (.wrap .i64 (.var 0)) (.lit 5)) (.lit 4))) (.ite (.le (.lit 65535) (.wrap .i64 (.var 2))) (.lit 65535) (.bin .add .i64 (.wrap .i64 (.var 2)) (.lit 1))) (.wrap .i64 (.var 2))) (.ite (.eq (.bin .rem .i64 (.wrap .i64 (.var 1)) (.lit 4)) (.lit 4)) (.ite (.not (.eq (.bin .rem .i64 (.wrap .i64 (.var 0)) (.lit 5)) (.lit 4))) (.ite (.le (.lit 65535) (.wrap .i64 (.var 2))) (.lit 65535) (.bin .add .i64 (.wrap .i64 (.var 2)) (.lit 1))) (.wrap .i64 (.var 2))) (.ite (.le (.lit 65535) (.ite (.not (.eq (.bin .rem .i64 (.wrap .i64 (.var 0)) (.lit 5)) (.lit 4))) (.ite (.le (.lit 65535) (.wrap .i64 (.var 2))) (.lit 65535) (.bin .add .i64 (.wrap .i64 (.var 2)) (.lit 1))) (.wrap .i64 (.var 2)))) (.ite (.not (.eq (.bin .rem .i64 (.wrap .i64 (.var 0)) (.lit 5)) (.lit 4))) (.ite (.le (.lit 65535) (.wrap .i64 (.var 2))) (.lit 65535) (.bin .add .i64 (.wrap .i64 (.var 2)) (.lit 1))) (.wrap .i64 (.var 2))) (.bin .add .i64 (.ite (.not (.eq (.bin .rem .i64 (.wrap .i64 (.var 0)) (.lit 5)) (.lit 4))) (.ite (.le (.lit 65535) (.wrap .i64 (.var 2))) (.lit 65535) (.bin .add .i64 (.wrap .i64 (.var 2)) (.lit 1))) (.wrap .i64 (.var 2))) (.lit 1)))))) (.bin .add .i64 (.wrap .i64 (.var 2)) (.lit 1)))))
 (.leaf (.bool (.lit .false))))
 (.leaf (.bool (.lit .false)))))))
theorem ran : ((execCall 30 20 cx 4 svs [] 0 []).bind fun x => .leaf x.1) = tree := by kernel_rfl
theorem pure (ι : Env) (h0 : (Lit.int .u8 (ι.int 0)).wf = true) (h1 : (Lit.int .u8 (ι.int 1)).wf = true) (h2 : (Lit.int .u16 (ι.int 2)).wf = true) : okT ι tree := by
  have h0 := bounds_u8 h0
  have h1 := bounds_u8 h1
  have h2 := bounds_u16 h2
  obtain ⟨x0, e0⟩ : ∃ x, ι.int 0 = x := ⟨_, rfl⟩
  obtain ⟨x1, e1⟩ : ∃ x, ι.int 1 = x := ⟨_, rfl⟩
  obtain ⟨x2, e2⟩ : ∃ x, ι.int 2 = x := ⟨_, rfl⟩
  rw [e0] at h0
  rw [e1] at h1
  rw [e2] at h2
  have w0 : IntKind.i64.wrap x0 = x0 := by rw [IntKind.wrap_i64]; omega
  have w1 : IntKind.i64.wrap x1 = x1 := by rw [IntKind.wrap_i64]; omega
  have w2 : IntKind.i64.wrap x2 = x2 := by rw [IntKind.wrap_i64]; omega
  have r0 : x0.tmod 5 = x0 % 5 := tmod_nonneg _ _ h0.1
  have r1 : x1.tmod 4 = x1 % 4 := tmod_nonneg _ _ h1.1
  have p2 : IntKind.i64.wrap (x2 + 1) = x2 + 1 := by rw [IntKind.wrap_i64]; omega
  have p3 : IntKind.i64.wrap (x2 + 1 + 1) = x2 + 2 := by rw [IntKind.wrap_i64]; omega
  have k0 : 0 ≤ x0 % 5 ∧ x0 % 5 < 5 := by omega
  have k1 : 0 ≤ x1 % 4 ∧ x1 % 4 < 4 := by omega
  simp only [tree, okT, b_true, b_false, b_var, b_lt, b_le, b_eq, b_not, b_and, b_or, b_beq, b_ite, e_lit, e_var, e_add, e_sub, e_rem, e_ite, e_mx, e_mn, e_wrap, e0, e1, e2, w0, w1, w2, r0, r1, p2, p3]
  obtain ⟨H, eH⟩ : ∃ H, x0 % 5 = H := ⟨_, rfl⟩
  obtain ⟨T, eT⟩ : ∃ T, x1 % 4 = T := ⟨_, rfl⟩
  rw [eH] at k0
  rw [eT] at k1
  simp only [eH, eT, IntKind.wrap_i64]
  clear w0 w1 w2 r0 r1 p2 p3 e0 e1 e2 eH eT h0 h1
  grind

theorem main (W : World) (cells : List Value) (args : Array Value) (hc : AllIs ks cells) (hden : ∀ ext β, SV.denL (envOf cells ext) β svs = args.toList) : IsTrue Try.prog 4 args W := by
  obtain ⟨v, h1, h2⟩ := okT_pick (pure (envOf cells ext0) (hc.wf ext0 rfl) (hc.wf ext0 rfl) (hc.wf ext0 rfl))
  exact isTrue_of_pick (c := cx) (Hyp.nil mixed) (fun g cs h => (by cases h)) (hden ext0) (by rw [ran]; exact h1) h2

set_option maxRecDepth 100000 in
theorem lifted (os : Os) (started : os.Started) (H : Type) (enc : TypeId × Value → H) :
    ReturnsInHanded {} Try.checked os 4 .any (Rows.tokenSeizesSpec.pre6 enc Try.prog Try.f4 Rows.tokenSeizesRow.domain false) (Rows.tokenSeizesSpec.post enc Try.prog Try.f4 false true false false) :=
  lifted_of (C := Try.checked) (n := 3) (svs := svs) (ks := ks) own started (by kernel_rfl) Try.func4
    (ChangeSpec.witness6 (enc := enc) (C := Try.checked) false ⟨#[], #[.agg #[.int .u8 0, .int .u8 0], .int .u16 0, .bool false], []⟩ 8 (by kernel_rfl) (by kernel_rfl) (by kernel_rfl) (by kernel_rfl))
    rfl rfl (by kernel_rfl) laid (by kernel_rfl) rfl (fun ds h => by
      match ds, h with
      | [d0, d1, d2], _ => exact ⟨rfl, rfl, rfl⟩)
    (by kernel_rfl) (fun W cells args ds p hc hden _ => main W cells args hc hden)
theorem over : Rows.tokenSeizesRow.holds Try.pinned (OpenSpec.ofChange Rows.tokenSeizesSpec) :=
  OpenClaim.holds_of_wide 4 Try.f4 rfl rfl rfl rfl rfl rfl rfl ⟨rfl, rfl, rfl, rfl, rfl⟩ rfl rfl rfl rfl rfl (by kernel_rfl) Try.func4 (by kernel_rfl)
    (of_decide_eq_true (by kernel_rfl)) (by unfold Func.isWrapper; first | (rw [if_pos (by decide +kernel)]; kernel_rfl) | (rw [if_neg (by decide +kernel)]; exact ⟨rfl, rfl⟩))
    (fun os started H enc _ => lifted os started H enc)
theorem proved : Rows.TokenSeizesSaid := over
#print axioms proved
end Go.Proofs.Ytkglnkfoeedmoab.tokenSeizes
namespace Go.Proofs.Ytkglnkfoeedmoab
/-- The row, under a short name, for the claim. -/
theorem tokenSeizes_holds : Rows.TokenSeizesSaid := tokenSeizes.proved
end Go.Proofs.Ytkglnkfoeedmoab
