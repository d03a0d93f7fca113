/- 'OfferErrors': by the executor's tree. -/
import Derived.Test.YtkglnkfoeedmoabRows
import Derived.Test.YtkglnkfoeedmoabSx16

namespace Go.Proofs.Ytkglnkfoeedmoab.offerErrors
open Go.ChangeShapes Go.WideShapes Go.ChangeAt Go.RowKit Go.Proofs.YtkglnkfoeedmoabSx
set_option linter.unusedVariables false
set_option linter.unusedSimpArgs false
theorem own : ownKnob Try.prog.godebug = none := by kernel_rfl
theorem laid : laidOutB Try.prog = true := by kernel_rfl
theorem mixed : Try.prog.follows .mixedOrders = true := by kernel_rfl
noncomputable def cx : Ctx := { P := Try.prog, ro := 0, glob := [], open_ := [33] }
def svs : List SV := [(.int .u8 (.var 0)), (.int .u8 (.var 1))]
def ks : List CK := [(.int .u8), (.int .u8)]
def tree : T SV :=
(.br
 (.not (.eq (.bin .and .u8 (.var 0) (.lit 16)) (.lit 0)))
 (.br
 (.not (.eq (.bin .and .u8 (.var 0) (.lit 8)) (.lit 0)))
 (.br
 (.not (.eq (.bin .and .u8 (.var 0) (.lit 4)) (.lit 0)))
 (.br
 (.not (.eq (.bin .and .u8 (.var 0) (.lit 2)) (.lit 0)))
 (.br
 (.not (.eq (.bin .and .u8 (.var 0) (.lit 1)) (.lit 0)))
 (.br
 (.not (.eq (.bin .add .i64 (.lit 1) (.bin .rem .i64 (.wrap .i64 (.var 1)) (.lit 3))) (.lit 0)))
 (.br
 (.and (.not (.and (.not (.eq (.bin .mul .i64 (.lit 4) (.wrap .i64 (.bin .and .u8 (.var 0) (.lit 1)))) (.bin .add .i64 (.lit 1) (.bin .rem .i64 (.wrap .i64 (.var 1)) (.lit 3))))) (.and (.le (.lit 1) (.bin .mul .i64 (.lit 4) (.wrap .i64 (.bin .and .u8 (.var 0) (.lit 1))))) (.le (.bin .mul .i64 (.lit 4) (.wrap .i64 (.bin .and .u8 (.var 0) (.lit 1)))) (.lit 3))))) (.and (.not (.eq (.bin .mul .i64 (.lit 4) (.wrap .i64 (.bin .and .u8 (.var 0) (.lit 1)))) (.bin .add .i64 (.lit 1) (.bin .rem .i64 (.wrap .i64 (.var 1)) (.lit 3))))) (.not (.and (.le (.lit 1) (.bin .mul .i64 (.lit 4) (.wrap .i64 (.bin .and .u8 (.var 0) (.lit 1))))) (.le (.bin .mul .i64 (.lit 4) (.wrap .i64 (.bin .and .u8 (.var 0) (.lit 1)))) (.lit 3))))))
 (.leaf (.bool (.eq (.ite (.not (.and (.not (.eq (.bin .mul .i64 (.lit 4) (.wrap .i64 (.bin .and .u8 (.var 0) (.lit 1)))) (.bin .add .i64 (.lit 1) (.bin .rem .i64 (.wrap .i64 (.var 1)) (.lit 3))))) (.and (.le (.lit 1) (.bin .mul .i64 (.lit 4) (.wrap .i64 (.bin .and .u8 (.var 0) (.lit 1))))) (.le (.bin .mul .i64 (.lit 4) (.wrap .i64 (.bin .and .u8 (.var 0) (.lit 1)))) (.lit 3))))) (.lit (-1)) (.bin .mul .i64 (.lit 4) (.wrap .i64 (.bin .and .u8 (.var 0) (.lit 1))))) (.lit (-1)))))
 (.leaf (.bool (.lit .false))))
 (.leaf (.bool (.lit .false))))
 (.br
 (.and (.not (.and (.not (.eq (.bin .mul .i64 (.lit 4) (.wrap .i64 (.bin .and .u8 (.var 0) (.lit 1)))) (.bin .add .i64 (.lit 1) (.bin .rem .i64 (.wrap .i64 (.var 1)) (.lit 3))))) (.and (.le (.lit 1) (.bin .mul .i64 (.lit 4) (.wrap .i64 (.bin .and .u8 (.var 0) (.lit 1))))) (.le (.bin .mul .i64 (.lit 4) (.wrap .i64 (.bin .and .u8 (.var 0) (.lit 1)))) (.lit 3))))) (.and (.not (.eq (.bin .mul .i64 (.lit 4) (.wrap .i64 (.bin .and .u8 (.var 0) (.lit 1)))) (.bin .add .i64 (.lit 1) (.bin .rem .i64 (.wrap .i64 (.var 1)) (.lit 3))))) (.not (.and (.le (.lit 1) (.bin .mul .i64 (.lit 4) (.wrap .i64 (.bin .and .u8 (.var 0) (.lit 1))))) (.le (.bin .mul .i64 (.lit 4) (.wrap .i64 (.bin .and .u8 (.var 0) (.lit 1)))) (.lit 3))))))
 (.leaf (.bool (.eq (.ite (.not (.and (.not (.eq (.bin .mul .i64 (.lit 4) (.wrap .i64 (.bin .and .u8 (.var 0) (.lit 1)))) (.bin .add .i64 (.lit 1) (.bin .rem .i64 (.wrap .i64 (.var 1)) (.lit 3))))) (.and (.le (.lit 1) (.bin .mul .i64 (.lit 4) (.wrap .i64 (.bin .and .u8 (.var 0) (.lit 1))))) (.le (.bin .mul .i64 (.lit 4) (.wrap .i64 (.bin .and .u8 (.var 0) (.lit 1)))) (.lit 3))))) (.lit (-1)) (.bin .mul .i64 (.lit 4) (.wrap .i64 (.bin .and .u8 (.var 0) (.lit 1))))) (.lit (-1)))))
 (.leaf (.bool (.lit .false)))))
 (.br
 (.not (.eq (.bin .and .u8 (.var 0) (.lit 1)) (.lit 0)))
 (.br
 (.not (.eq (.bin .add .i64 (.lit 1) (.bin .rem .i64 (.wrap .i64 (.var 1)) (.lit 3))) (.lit 0)))
 (.br
 (.and (.not (.and (.not (.eq (.bin .mul .i64 (.lit 4) (.wrap .i64 (.bin .and .u8 (.var 0) (.lit 1)))) (.bin .add .i64 (.lit 1) (.bin .rem .i64 (.wrap .i64 (.var 1)) (.lit 3))))) (.and (.le (.lit 1) (.bin .mul .i64 (.lit 4) (.wrap .i64 (.bin .and .u8 (.var 0) (.lit 1))))) (.le (.bin .mul .i64 (.lit 4) (.wrap .i64 (.bin .and .u8 (.var 0) (.lit 1)))) (.lit 3))))) (.and (.not (.eq (.bin .mul .i64 (.lit 4) (.wrap .i64 (.bin .and .u8 (.var 0) (.lit 1)))) (.bin .add .i64 (.lit 1) (.bin .rem .i64 (.wrap .i64 (.var 1)) (.lit 3))))) (.not (.and (.le (.lit 1) (.bin .mul .i64 (.lit 4) (.wrap .i64 (.bin .and .u8 (.var 0) (.lit 1))))) (.le (.bin .mul .i64 (.lit 4) (.wrap .i64 (.bin .and .u8 (.var 0) (.lit 1)))) (.lit 3))))))
 (.leaf (.bool (.eq (.ite (.not (.and (.not (.eq (.bin .mul .i64 (.lit 4) (.wrap .i64 (.bin .and .u8 (.var 0) (.lit 1)))) (.bin .add .i64 (.lit 1) (.bin .rem .i64 (.wrap .i64 (.var 1)) (.lit 3))))) (.and (.le (.lit 1) (.bin .mul .i64 (.lit 4) (.wrap .i64 (.bin .and .u8 (.var 0) (.lit 1))))) (.le (.bin .mul .i64 (.lit 4) (.wrap .i64 (.bin .and .u8 (.var 0) (.lit 1)))) (.lit 3))))) (.lit (-1)) (.bin .mul .i64 (.lit 4) (.wrap .i64 (.bin .and .u8 (.var 0) (.lit 1))))) (.lit (-1)))))
 (.leaf (.bool (.lit .false))))
 (.leaf (.bool (.lit .false))))
 (.br
 (.and (.not (.and (.not (.eq (.bin .mul .i64 (.lit 4) (.wrap .i64 (.bin .and .u8 (.var 0) (.lit 1)))) (.bin .add .i64 (.lit 1) (.bin .rem .i64 (.wrap .i64 (.var 1)) (.lit 3))))) (.and (.le (.lit 1) (.bin .mul .i64 (.lit 4) (.wrap .i64 (.bin .and .u8 (.var 0) (.lit 1))))) (.le (.bin .mul .i64 (.lit 4) (.wrap .i64 (.bin .and .u8 (.var 0) (.lit 1)))) (.lit 3))))) (.and (.not (.eq (.bin .mul .i64 (.lit 4) (.wrap .i64 (.bin .and .u8 (.var 0) (.lit 1)))) (.bin .add .i64 (.lit 1) (.bin .rem .i64 (.wrap .i64 (.var 1)) (.lit 3))))) (.not (.and (.le (.lit 1) (.bin .mul .i64 (.lit 4) (.wrap .i64 (.bin .and .u8 (.var 0) (.lit 1))))) (.le (.bin .mul .i64 (.lit 4) (.wrap .i64 (.bin .and .u8 (.var 0) (.lit 1)))) (.lit 3))))))
 (.leaf (.bool (.eq (.ite (.not (.and (.not (.eq (.bin .mul .i64 (.lit 4) (.wrap .i64 (.bin .and .u8 (.var 0) (.lit 1)))) (.bin .add .i64 (.lit 1) (.bin .rem .i64 (.wrap .i64 (.var 1)) (.lit 3))))) (.and (.le (.lit 1) (.bin .mul .i64 (.lit 4) (.wrap .i64 (.bin .and .u8 (.var 0) (.lit 1))))) (.le (.bin .mul .i64 (.lit 4) (.wrap .i64 (.bin .and .u8 (.var 0) (.lit 1)))) (.lit 3))))) (.lit (-1)) (.bin .mul .i64 (.lit 4) (.wrap .i64 (.bin .and .u8 (.var 0) (.lit 1))))) (.lit (-1)))))
 (.leaf (.bool (.lit .false))))))
 (.br
 (.not (.eq (.bin .and .u8 (.var 0) (.lit 2)) (.lit 0)))
 (.br
 (.not (.eq (.bin .and .u8 (.var 0) (.lit 1)) (.lit 0)))
 (.br
 (.not (.eq (.bin .add .i64 (.lit 1) (.bin .rem .i64 (.wrap .i64 (.var 1)) (.lit 3))) (.lit 0)))
 (.br
 (.and (.not (.and (.not (.eq (.bin .mul .i64 (.lit 4) (.wrap .i64 (.bin .and .u8 (.var 0) (.lit 1)))) (.bin .add .i64 (.lit 1) (.bin .rem .i64 (.wrap .i64 (.var 1)) (.lit 3))))) (.and (.le (.lit 1) (.bin .mul .i64 (.lit 4) (.wrap .i64 (.bin .and .u8 (.var 0) (.lit 1))))) (.le (.bin .mul .i64 (.lit 4) (.wrap .i64 (.bin .and .u8 (.var 0) (.lit 1)))) (.lit 3))))) (.and (.not (.eq (.bin .mul .i64 (.lit 4) (.wrap .i64 (.bin .and .u8 (.var 0) (.lit 1)))) (.bin .add .i64 (.lit 1) (.bin .rem .i64 (.wrap .i64 (.var 1)) (.lit 3))))) (.not (.and (.le (.lit 1) (.bin .mul .i64 (.lit 4) (.wrap .i64 (.bin .and .u8 (.var 0) (.lit 1))))) (.le (.bin .mul .i64 (.lit 4) (.wrap .i64 (.bin .and .u8 (.var 0) (.lit 1)))) (.lit 3))))))
 (.leaf (.bool (.eq (.ite (.not (.and (.not (.eq (.bin .mul .i64 (.lit 4) (.wrap .i64 (.bin .and .u8 (.var 0) (.lit 1)))) (.bin .add .i64 (.lit 1) (.bin .rem .i64 (.wrap .i64 (.var 1)) (.lit 3))))) (.and (.le (.lit 1) (.bin .mul .i64 (.lit 4) (.wrap .i64 (.bin .and .u8 (.var 0) (.lit 1))))) (.le (.bin .mul .i64 (.lit 4) (.wrap .i64 (.bin .and .u8 (.var 0) (.lit 1)))) (.lit 3))))) (.lit (-1)) (.bin .mul .i64 (.lit 4) (.wrap .i64 (.bin .and .u8 (.var 0) (.lit 1))))) (.lit (-1)))))
 (.leaf (.bool (.lit .false))))
 (.leaf (.bool (.lit .false))))
 (.br
 (.and (.not (.and (.not (.eq (.bin .mul .i64 (.lit 4) (.wrap .i64 (.bin .and .u8 (.var 0) (.lit 1)))) (.bin .add .i64 (.lit 1) (.bin .rem .i64 (.wrap .i64 (.var 1)) (.lit 3))))) (.and (.le (.lit 1) (.bin .mul .i64 (.lit 4) (.wrap .i64 (.bin .and .u8 (.var 0) (.lit 1))))) (.le (.bin .mul .i64 (.lit 4) (.wrap .i64 (.bin .and .u8 (.var 0) (.lit 1)))) (.lit 3))))) (.and (.not (.eq (.bin .mul .i64 (.lit 4) (.wrap .i64 (.bin .and .u8 (.var 0) (.lit 1)))) (.bin .add .i64 (.lit 1) (.bin .rem .i64 (.wrap .i64 (.var 1)) (.lit 3))))) (.not (.and (.le (.lit 1) (.bin .mul .i64 (.lit 4) (.wrap .i64 (.bin .and .u8 (.var 0) (.lit 1))))) (.le (.bin .mul .i64 (.lit 4) (.wrap .i64 (.bin .and .u8 (.var 0) (.lit 1)))) (.lit 3))))))
 (.leaf (.bool (.eq (.ite (.not (.and (.not (.eq (.bin .mul .i64 (.lit 4) (.wrap .i64 (.bin .and .u8 (.var 0) (.lit 1)))) (.bin .add .i64 (.lit 1) (.bin .rem .i64 (.wrap .i64 (.var 1)) (.lit 3))))) (.and (.le (.lit 1) (.bin .mul .i64 (.lit 4) (.wrap .i64 (.bin .and .u8 (.var 0) (.lit 1))))) (.le (.bin .mul .i64 (.lit 4) (.wrap .i64 (.bin .and .u8 (.var 0) (.lit 1)))) (.lit 3))))) (.lit (-1)) (.bin .mul .i64 (.lit 4) (.wrap .i64 (.bin .and .u8 (.var 0) (.lit 1))))) (.lit (-1)))))
 (.leaf (.bool (.lit .false)))))
 (.br
 (.not (.eq (.bin .and .u8 (.var 0) (.lit 1)) (.lit 0)))
 (.br
 (.not (.eq (.bin .add .i64 (.lit 1) (.bin .rem .i64 (.wrap .i64 (.var 1)) (.lit 3))) (.lit 0)))
 (.br
 (.and (.not (.and (.not (.eq (.bin .mul .i64 (.lit 4) (.wrap .i64 (.bin .and .u8 (.var 0) (.lit 1)))) (.bin .add .i64 (.lit 1) (.bin .rem .i64 (.wrap .i64 (.var 1)) (.lit 3))))) (.and (.le (.lit 1) (.bin .mul .i64 (.lit 4) (.wrap .i64 (.bin .and .u8 (.var 0) (.lit 1))))) (.le (.bin .mul .i64 (.lit 4) (.wrap .i64 (.bin .and .u8 (.var 0) (.lit 1)))) (.lit 3))))) (.and (.not (.eq (.bin .mul .i64 (.lit 4) (.wrap .i64 (.bin .and .u8 (.var 0) (.lit 1)))) (.bin .add .i64 (.lit 1) (.bin .rem .i64 (.wrap .i64 (.var 1)) (.lit 3))))) (.not (.and (.le (.lit 1) (.bin .mul .i64 (.lit 4) (.wrap .i64 (.bin .and .u8 (.var 0) (.lit 1))))) (.le (.bin .mul .i64 (.lit 4) (.wrap .i64 (.bin .and .u8 (.var 0) (.lit 1)))) (.lit 3))))))
 (.leaf (.bool (.eq (.ite (.not (.and (.not (.eq (.bin .mul .i64 (.lit 4) (.wrap .i64 (.bin .and .u8 (.var 0) (.lit 1)))) (.bin .add .i64 (.lit 1) (.bin .rem .i64 (.wrap .i64 (.var 1)) (.lit 3))))) (.and (.le (.lit 1) (.bin .mul .i64 (.lit 4) (.wrap .i64 (.bin .and .u8 (.var 0) (.lit 1))))) (.le (.bin .mul .i64 (.lit 4) (.wrap .i64 (.bin .and .u8 (.var 0) (.lit 1)))) (.lit 3))))) (.lit (-1)) (.bin .mul .i64 (.lit 4) (.wrap .i64 (.bin .and .u8 (.var 0) (.lit 1))))) (.lit (-1)))))
 (.leaf (.bool (.lit .false))))
 (.leaf (.bool (.lit .false))))
 (.br
 (.not (.eq (.bin .add .i64 (.lit 1) (.bin .rem .i64 (.bin .add .i64 (.lit 1) (.bin .rem .i64 (.wrap .i64 (.var 1)) (.lit 3))) (.lit 3))) (.bin .add .i64 (.lit 1) (.bin .rem .i64 (.wrap .i64 (.var 1)) (.lit 3)))))
 (.br
 (.and (.not (.and (.not (.eq (.bin .mul .i64 (.lit 4) (.wrap .i64 (.bin .and .u8 (.var 0) (.lit 1)))) (.bin .add .i64 (.lit 1) (.bin .rem .i64 (.wrap .i64 (.var 1)) (.lit 3))))) (.and (.le (.lit 1) (.bin .mul .i64 (.lit 4) (.wrap .i64 (.bin .and .u8 (.var 0) (.lit 1))))) (.le (.bin .mul .i64 (.lit 4) (.wrap .i64 (.bin .and .u8 (.var 0) (.lit 1)))) (.lit 3))))) (.and (.not (.eq (.bin .mul .i64 (.lit 4) (.wrap .i64 (.bin .and .u8 (.var 0) (.lit 1)))) (.bin .add .i64 (.lit 1) (.bin .rem .i64 (.wrap .i64 (.var 1)) (.lit 3))))) (.not (.and (.le (.lit 1) (.bin .mul .i64 (.lit 4) (.wrap .i64 (.bin .and .u8 (.var 0) (.lit 1))))) (.le (.bin .mul .i64 (.lit 4) (.wrap .i64 (.bin .and .u8 (.var 0) (.lit 1)))) (.lit 3))))))
 (.leaf (.bool (.eq (.ite (.not (.and (.not (.eq (.bin .mul .i64 (.lit 4) (.wrap .i64 (.bin .and .u8 (.var 0) (.lit 1)))) (.bin .add .i64 (.lit 1) (.bin .rem .i64 (.wrap .i64 (.var 1)) (.lit 3))))) (.and (.le (.lit 1) (.bin .mul .i64 (.lit 4) (.wrap .i64 (.bin .and .u8 (.var 0) (.lit 1))))) (.le (.bin .mul .i64 (.lit 4) (.wrap .i64 (.bin .and .u8 (.var 0) (.lit 1)))) (.lit 3))))) (.lit (-1)) (.bin .mul .i64 (.lit 4) (.wrap .i64 (.bin .and .u8 (.var 0) (.lit 1))))) (.lit (-1)))))
 (.leaf (.bool (.lit .false))))
 (.leaf (.bool (.lit .false)))))))
 (.br
 (.not (.eq (.bin .and .u8 (.var 0) (.lit 4)) (.lit 0)))
 (.br
 (.not (.eq (.bin .and .u8 (.var 0) (.lit 2)) (.lit 0)))
 (.br
 (.not (.eq (.bin .and .u8 (.var 0) (.lit 1)) (.lit 0)))
 (.br
 (.not (.eq (.bin .add .i64 (.lit 1) (.bin .rem .i64 (.wrap .i64 (.var 1)) (.lit 3))) (.lit 0)))
 (.br
 (.and (.not (.and (.not (.eq (.bin .mul .i64 (.lit 4) (.wrap .i64 (.bin .and .u8 (.var 0) (.lit 1)))) (.bin .add .i64 (.lit 1) (.bin .rem .i64 (.wrap .i64 (.var 1)) (.lit 3))))) (.and (.le (.lit 1) (.bin .mul .i64 (.lit 4) (.wrap .i64 (.bin .and .u8 (.var 0) (.lit 1))))) (.le (.bin .mul .i64 (.lit 4) (.wrap .i64 (.bin .and .u8 (.var 0) (.lit 1)))) (.lit 3))))) (.and (.not (.eq (.bin .mul .i64 (.lit 4) (.wrap .i64 (.bin .and .u8 (.var 0) (.lit 1)))) (.bin .add .i64 (.lit 1) (.bin .rem .i64 (.wrap .i64 (.var 1)) (.lit 3))))) (.not (.and (.le (.lit 1) (.bin .mul .i64 (.lit 4) (.wrap .i64 (.bin .and .u8 (.var 0) (.lit 1))))) (.le (.bin .mul .i64 (.lit 4) (.wrap .i64 (.bin .and .u8 (.var 0) (.lit 1)))) (.lit 3))))))
 (.leaf (.bool (.eq (.ite (.not (.and (.not (.eq (.bin .mul .i64 (.lit 4) (.wrap .i64 (.bin .and .u8 (.var 0) (.lit 1)))) (.bin .add .i64 (.lit 1) (.bin .rem .i64 (.wrap .i64 (.var 1)) (.lit 3))))) (.and (.le (.lit 1) (.bin .mul .i64 (.lit 4) (.wrap .i64 (.bin .and .u8 (.var 0) (.lit 1))))) (.le (.bin .mul .i64 (.lit 4) (.wrap .i64 (.bin .and .u8 (.var 0) (.lit 1)))) (.lit 3))))) (.lit (-1)) (.bin .mul .i64 (.lit 4) (.wrap .i64 (.bin .and .u8 (.var 0) (.lit 1))))) (.lit (-1)))))
 (.leaf (.bool (.lit .false))))
 (.leaf (.bool (.lit .false))))
 (.br
 (.and (.not (.and (.not (.eq (.bin .mul .i64 (.lit 4) (.wrap .i64 (.bin .and .u8 (.var 0) (.lit 1)))) (.bin .add .i64 (.lit 1) (.bin .rem .i64 (.wrap .i64 (.var 1)) (.lit 3))))) (.and (.le (.lit 1) (.bin .mul .i64 (.lit 4) (.wrap .i64 (.bin .and .u8 (.var 0) (.lit 1))))) (.le (.bin .mul .i64 (.lit 4) (.wrap .i64 (.bin .and .u8 (.var 0) (.lit 1)))) (.lit 3))))) (.and (.not (.eq (.bin .mul .i64 (.lit 4) (.wrap .i64 (.bin .and .u8 (.var 0) (.lit 1)))) (.bin .add .i64 (.lit 1) (.bin .rem .i64 (.wrap .i64 (.var 1)) (.lit 3))))) (.not (.and (.le (.lit 1) (.bin .mul .i64 (.lit 4) (.wrap .i64 (.bin .and .u8 (.var 0) (.lit 1))))) (.le (.bin .mul .i64 (.lit 4) (.wrap .i64 (.bin .and .u8 (.var 0) (.lit 1)))) (.lit 3))))))
 (.leaf (.bool (.eq (.ite (.not (.and (.not (.eq (.bin .mul .i64 (.lit 4) (.wrap .i64 (.bin .and .u8 (.var 0) (.lit 1)))) (.bin .add .i64 (.lit 1) (.bin .rem .i64 (.wrap .i64 (.var 1)) (.lit 3))))) (.and (.le (.lit 1) (.bin .mul .i64 (.lit 4) (.wrap .i64 (.bin .and .u8 (.var 0) (.lit 1))))) (.le (.bin .mul .i64 (.lit 4) (.wrap .i64 (.bin .and .u8 (.var 0) (.lit 1)))) (.lit 3))))) (.lit (-1)) (.bin .mul .i64 (.lit 4) (.wrap .i64 (.bin .and .u8 (.var 0) (.lit 1))))) (.lit (-1)))))
 (.leaf (.bool (.lit .false)))))
 (.br
 (.not (.eq (.bin .and .u8 (.var 0) (.lit 1)) (.lit 0)))
 (.br
 (.not (.eq (.bin .add .i64 (.lit 1) (.bin .rem .i64 (.wrap .i64 (.var 1)) (.lit 3))) (.lit 0)))
 (.br
 (.and (.not (.and (.not (.eq (.bin .mul .i64 (.lit 4) (.wrap .i64 (.bin .and .u8 (.var 0) (.lit 1)))) (.bin .add .i64 (.lit 1) (.bin .rem .i64 (.wrap .i64 (.var 1)) (.lit 3))))) (.and (.le (.lit 1) (.bin .mul .i64 (.lit 4) (.wrap .i64 (.bin .and .u8 (.var 0) (.lit 1))))) (.le (.bin .mul .i64 (.lit 4) (.wrap .i64 (.bin .and .u8 (.var 0) (.lit 1)))) (.lit 3))))) (.and (.not (.eq (.bin .mul .i64 (.lit 4) (.wrap .i64 (.bin .and .u8 (.var 0) (.lit 1)))) (.bin .add .i64 (.lit 1) (.bin .rem .i64 (.wrap .i64 (.var 1)) (.lit 3))))) (.not (.and (.le (.lit 1) (.bin .mul .i64 (.lit 4) (.wrap .i64 (.bin .and .u8 (.var 0) (.lit 1))))) (.le (.bin .mul .i64 (.lit 4) (.wrap .i64 (.bin .and .u8 (.var 0) (.lit 1)))) (.lit 3))))))
 (.leaf (.bool (.eq (.ite (.not (.and (.not (.eq (.bin .mul .i64 (.lit 4) (.wrap .i64 (.bin .and .u8 (.var 0) (.lit 1)))) (.bin .add .i64 (.lit 1) (.bin .rem .i64 (.wrap .i64 (.var 1)) (.lit 3))))) (.and (.le (.lit 1) (.bin .mul .i64 (.lit 4) (.wrap .i64 (.bin .and .u8 (.var 0) (.lit 1))))) (.le (.bin .mul .i64 (.lit 4) (.wrap .i64 (.bin .and .u8 (.var 0) (.lit 1)))) (.lit 3))))) (.lit (-1)) (.bin .mul .i64 (.lit 4) (.wrap .i64 (.bin .and .u8 (.var 0) (.lit 1))))) (.lit (-1)))))
 (.leaf (.bool (.lit .false))))
 (.leaf (.bool (.lit .false))))
 (.br
 (.and (.not (.and (.not (.eq (.bin .mul .i64 (.lit 4) (.wrap .i64 (.bin .and .u8 (.var 0) (.lit 1)))) (.bin .add .i64 (.lit 1) (.bin .rem .i64 (.wrap .i64 (.var 1)) (.lit 3))))) (.and (.le (.lit 1) (.bin .mul .i64 (.lit 4) (.wrap .i64 (.bin .and .u8 (.var 0) (.lit 1))))) (.le (.bin .mul .i64 (.lit 4) (.wrap .i64 (.bin .and .u8 (.var 0) (.lit 1)))) (.lit 3))))) (.and (.not (.eq (.bin .mul .i64 (.lit 4) (.wrap .i64 (.bin .and .u8 (.var 0) (.lit 1)))) (.bin .add .i64 (.lit 1) (.bin .rem .i64 (.wrap .i64 (.var 1)) (.lit 3))))) (.not (.and (.le (.lit 1) (.bin .mul .i64 (.lit 4) (.wrap .i64 (.bin .and .u8 (.var 0) (.lit 1))))) (.le (.bin .mul .i64 (.lit 4) (.wrap .i64 (.bin .and .u8 (.var 0) (.lit 1)))) (.lit 3))))))
 (.leaf (.bool (.eq (.ite (.not (.and (.not (.eq (.bin .mul .i64 (.lit 4) (.wrap .i64 (.bin .and .u8 (.var 0) (.lit 1)))) (.bin .add .i64 (.lit 1) (.bin .rem .i64 (.wrap .i64 (.var 1)) (.lit 3))))) (.and (.le (.lit 1) (.bin .mul .i64 (.lit 4) (.wrap .i64 (.bin .and .u8 (.var 0) (.lit 1))))) (.le (.bin .mul .i64 (.lit 4) (.wrap .i64 (.bin .and .u8 (.var 0) (.lit 1)))) (.lit 3))))) (.lit (-1)) (.bin .mul .i64 (.lit 4) (.wrap .i64 (.bin .and .u8 (.var 0) (.lit 1))))) (.lit (-1)))))
 (.leaf (.bool (.lit .false))))))
 (.br
 (.not (.eq (.bin .and .u8 (.var 0) (.lit 2)) (.lit 0)))
 (.br
 (.not (.eq (.bin .and .u8 (.var 0) (.lit 1)) (.lit 0)))
 (.br
 (.not (.eq (.bin .add .i64 (.lit 1) (.bin .rem .i64 (.wrap .i64 (.var 1)) (.lit 3))) (.lit 0)))
 (.br
 (.and (.not (.and (.not (.eq (.bin .mul .i64 (.lit 4) (.wrap .i64 (.bin .and .u8 (.var 0) (.lit 1)))) (.bin .add .i64 (.lit 1) (.bin .rem .i64 (.wrap .i64 (.var 1)) (.lit 3))))) (.and (.le (.lit 1) (.bin .mul .i64 (.lit 4) (.wrap .i64 (.bin .and .u8 (.var 0) (.lit 1))))) (.le (.bin .mul .i64 (.lit 4) (.wrap .i64 (.bin .and .u8 (.var 0) (.lit 1)))) (.lit 3))))) (.and (.not (.eq (.bin .mul .i64 (.lit 4) (.wrap .i64 (.bin .and .u8 (.var 0) (.lit 1)))) (.bin .add .i64 (.lit 1) (.bin .rem .i64 (.wrap .i64 (.var 1)) (.lit 3))))) (.not (.and (.le (.lit 1) (.bin .mul .i64 (.lit 4) (.wrap .i64 (.bin .and .u8 (.var 0) (.lit 1))))) (.le (.bin .mul .i64 (.lit 4) (.wrap .i64 (.bin .and .u8 (.var 0) (.lit 1)))) (.lit 3))))))
 (.leaf (.bool (.eq (.ite (.not (.and (.not (.eq (.bin .mul .i64 (.lit 4) (.wrap .i64 (.bin .and .u8 (.var 0) (.lit 1)))) (.bin .add .i64 (.lit 1) (.bin .rem .i64 (.wrap .i64 (.var 1)) (.lit 3))))) (.and (.le (.lit 1) (.bin .mul .i64 (.lit 4) (.wrap .i64 (.bin .and .u8 (.var 0) (.lit 1))))) (.le (.bin .mul .i64 (.lit 4) (.wrap .i64 (.bin .and .u8 (.var 0) (.lit 1)))) (.lit 3))))) (.lit (-1)) (.bin .mul .i64 (.lit 4) (.wrap .i64 (.bin .and .u8 (.var 0) (.lit 1))))) (.lit (-1)))))
 (.leaf (.bool (.lit .false))))
 (.leaf (.bool (.lit .false))))
 (.br
 (.and (.not (.and (.not (.eq (.bin .mul .i64 (.lit 4) (.wrap .i64 (.bin .and .u8 (.var 0) (.lit 1)))) (.bin .add .i64 (.lit 1) (.bin .rem .i64 (.wrap .i64 (.var 1)) (.lit 3))))) (.and (.le (.lit 1) (.bin .mul .i64 (.lit 4) (.wrap .i64 (.bin .and .u8 (.var 0) (.lit 1))))) (.le (.bin .mul .i64 (.lit 4) (.wrap .i64 (.bin .and .u8 (.var 0) (.lit 1)))) (.lit 3))))) (.and (.not (.eq (.bin .mul .i64 (.lit 4) (.wrap .i64 (.bin .and .u8 (.var 0) (.lit 1)))) (.bin .add .i64 (.lit 1) (.bin .rem .i64 (.wrap .i64 (.var 1)) (.lit 3))))) (.not (.and (.le (.lit 1) (.bin .mul .i64 (.lit 4) (.wrap .i64 (.bin .and .u8 (.var 0) (.lit 1))))) (.le (.bin .mul .i64 (.lit 4) (.wrap .i64 (.bin .and .u8 (.var 0) (.lit 1)))) (.lit 3))))))
 (.leaf (.bool (.eq (.ite (.not (.and (.not (.eq (.bin .mul .i64 (.lit 4) (.wrap .i64 (.bin .and .u8 (.var 0) (.lit 1)))) (.bin .add .i64 (.lit 1) (.bin .rem .i64 (.wrap .i64 (.var 1)) (.lit 3))))) (.and (.le (.lit 1) (.bin .mul .i64 (.lit 4) (.wrap .i64 (.bin .and .u8 (.var 0) (.lit 1))))) (.le (.bin .mul .i64 (.lit 4) (.wrap .i64 (.bin .and .u8 (.var 0) (.lit 1)))) (.lit 3))))) (.lit (-1)) (.bin .mul .i64 (.lit 4) (.wrap .i64 (.bin .and .u8 (.var 0) (.lit 1))))) (.lit (-1)))))
 (.leaf (.bool (.lit .false)))))
 (.br
 (.not (.eq (.bin .and .u8 (.var 0) (.lit 1)) (.lit 0)))
 (.br
 (.and (.not (.and (.eq (.bin .add .i64 (.lit 1) (.bin .rem .i64 (.wrap .i64 (.var 1)) (.lit 3))) (.lit 0)) (.and (.not (.eq (.bin .add .i64 (.lit 1) (.bin .rem .i64 (.bin .add .i64 (.lit 1) (.bin .rem .i64 (.wrap .i64 (.var 1)) (.lit 3))) (.lit 3))) (.bin .add .i64 (.lit 1) (.bin .rem .i64 (.wrap .i64 (.var 1)) (.lit 3))))) (.and (.and (.le (.lit 1) (.bin .add .i64 (.lit 1) (.bin .rem .i64 (.bin .add .i64 (.lit 1) (.bin .rem .i64 (.wrap .i64 (.var 1)) (.lit 3))) (.lit 3)))) (.le (.bin .add .i64 (.lit 1) (.bin .rem .i64 (.bin .add .i64 (.lit 1) (.bin .rem .i64 (.wrap .i64 (.var 1)) (.lit 3))) (.lit 3))) (.lit 3))) (.lt (.bin .add .i64 (.lit 1) (.bin .rem .i64 (.bin .add .i64 (.lit 1) (.bin .rem .i64 (.wrap .i64 (.var 1)) (.lit 3))) (.lit 3))) (.lit 0)))))) (.not (.eq (.bin .add .i64 (.lit 1) (.bin .rem .i64 (.wrap .i64 (.var 1)) (.lit 3))) (.lit 0))))
 (.br
 (.and (.not (.and (.not (.eq (.bin .mul .i64 (.lit 4) (.wrap .i64 (.bin .and .u8 (.var 0) (.lit 1)))) (.bin .add .i64 (.lit 1) (.bin .rem .i64 (.wrap .i64 (.var 1)) (.lit 3))))) (.and (.le (.lit 1) (.bin .mul .i64 (.lit 4) (.wrap .i64 (.bin .and .u8 (.var 0) (.lit 1))))) (.le (.bin .mul .i64 (.lit 4) (.wrap .i64 (.bin .and .u8 (.var 0) (.lit 1)))) (.lit 3))))) (.and (.not (.eq (.bin .mul .i64 (.lit 4) (.wrap .i64 (.bin .and .u8 (.var 0) (.lit 1)))) (.bin .add .i64 (.lit 1) (.bin .rem .i64 (.wrap .i64 (.var 1)) (.lit 3))))) (.not (.and (.le (.lit 1) (.bin .mul .i64 (.lit 4) (.wrap .i64 (.bin .and .u8 (.var 0) (.lit 1))))) (.le (.bin .mul .i64 (.lit 4) (.wrap .i64 (.bin .and .u8 (.var 0) (.lit 1)))) (.lit 3))))))
 (.leaf (.bool (.eq (.ite (.not (.and (.not (.eq (.bin .mul .i64 (.lit 4) (.wrap .i64 (.bin .and .u8 (.var 0) (.lit 1)))) (.bin .add .i64 (.lit 1) (.bin .rem .i64 (.wrap .i64 (.var 1)) (.lit 3))))) (.and (.le (.lit 1) (.bin .mul .i64 (.lit 4) (.wrap .i64 (.bin .and .u8 (.var 0) (.lit 1))))) (.le (.bin .mul .i64 (.lit 4) (.wrap .i64 (.bin .and .u8 (.var 0) (.lit 1)))) (.lit 3))))) (.lit (-1)) (.bin .mul .i64 (.lit 4) (.wrap .i64 (.bin .and .u8 (.var 0) (.lit 1))))) (.lit (-1)))))
 (.leaf (.bool (.lit .false))))
 (.leaf (.bool (.lit .false))))
 (.br
 (.and (.not (.and (.not (.eq (.bin .add .i64 (.lit 1) (.bin .rem .i64 (.bin .add .i64 (.lit 1) (.bin .rem .i64 (.wrap .i64 (.var 1)) (.lit 3))) (.lit 3))) (.bin .add .i64 (.lit 1) (.bin .rem .i64 (.wrap .i64 (.var 1)) (.lit 3))))) (.and (.and (.le (.lit 1) (.bin .add .i64 (.lit 1) (.bin .rem .i64 (.bin .add .i64 (.lit 1) (.bin .rem .i64 (.wrap .i64 (.var 1)) (.lit 3))) (.lit 3)))) (.le (.bin .add .i64 (.lit 1) (.bin .rem .i64 (.bin .add .i64 (.lit 1) (.bin .rem .i64 (.wrap .i64 (.var 1)) (.lit 3))) (.lit 3))) (.lit 3))) (.lt (.bin .add .i64 (.lit 1) (.bin .rem .i64 (.bin .add .i64 (.lit 1) (.bin .rem .i64 (.wrap .i64 (.var 1)) (.lit 3))) (.lit 3))) (.lit 0))))) (.and (.not (.eq (.bin .add .i64 (.lit 1) (.bin .rem .i64 (.bin .add .i64 (.lit 1) (.bin .rem .i64 (.wrap .i64 (.var 1)) (.lit 3))) (.lit 3))) (.bin .add .i64 (.lit 1) (.bin .rem .i64 (.wrap .i64 (.var 1)) (.lit 3))))) (.and (.and (.le (.lit 1) (.bin .add .i64 (.lit 1) (.bin .rem .i64 (.bin .add .i64 (.lit 1) (.bin .rem .i64 (.wrap .i64 (.var 1)) (.lit 3))) (.lit 3)))) (.le (.bin .add .i64 (.lit 1) (.bin .rem .i64 (.bin .add .i64 (.lit 1) (.bin .rem .i64 (.wrap .i64 (.var 1)) (.lit 3))) (.lit 3))) (.lit 3))) (.not (.lt (.bin .add .i64 (.lit 1) (.bin .rem .i64 (.bin .add .i64 (.lit 1) (.bin .rem .i64 (.wrap .i64 (.var 1)) (.lit 3))) (.lit 3))) (.lit 0))))))
 (.br
 (.and (.not (.and (.not (.eq (.bin .mul .i64 (.lit 4) (.wrap .i64 (.bin .and .u8 (.var 0) (.lit 1)))) (.bin .add .i64 (.lit 1) (.bin .rem .i64 (.wrap .i64 (.var 1)) (.lit 3))))) (.and (.le (.lit 1) (.bin .mul .i64 (.lit 4) (.wrap .i64 (.bin .and .u8 (.var 0) (.lit 1))))) (.le (.bin .mul .i64 (.lit 4) (.wrap .i64 (.bin .and .u8 (.var 0) (.lit 1)))) (.lit 3))))) (.and (.not (.eq (.bin .mul .i64 (.lit 4) (.wrap .i64 (.bin .and .u8 (.var 0) (.lit 1)))) (.bin .add .i64 (.lit 1) (.bin .rem .i64 (.wrap .i64 (.var 1)) (.lit 3))))) (.not (.and (.le (.lit 1) (.bin .mul .i64 (.lit 4) (.wrap .i64 (.bin .and .u8 (.var 0) (.lit 1))))) (.le (.bin .mul .i64 (.lit 4) (.wrap .i64 (.bin .and .u8 (.var 0) (.lit 1)))) (.lit 3))))))
 (.leaf (.bool (.eq (.ite (.not (.and (.not (.eq (.bin .mul .i64 (.lit 4) (.wrap .i64 (.bin .and .u8 (.var 0) (.lit 1)))) (.bin .add .i64 (.lit 1) (.bin .rem .i64 (.wrap .i64 (.var 1)) (.lit 3))))) (.and (.le (.lit 1) (.bin .mul .i64 (.lit 4) (.wrap .i64 (.bin .and .u8 (.var 0) (.lit 1))))) (.le (.bin .mul .i64 (.lit 4) (.wrap .i64 (.bin .and .u8 (.var 0) (.lit 1)))) (.lit 3))))) (.lit (-1)) (.bin .mul .i64 (.lit 4) (.wrap .i64 (.bin .and .u8 (.var 0) (.lit 1))))) (.lit (-1)))))
 (.leaf (.bool (.lit .false))))
 (.leaf (.bool (.lit .false))))))))
 (.br
 (.not (.eq (.bin .and .u8 (.var 0) (.lit 8)) (.lit 0)))
 (.br
 (.not (.eq (.bin .and .u8 (.var 0) (.lit 4)) (.lit 0)))
 (.br
 (.not (.eq (.bin .and .u8 (.var 0) (.lit 2)) (.lit 0)))
 (.br
 (.not (.eq (.bin .and .u8 (.var 0) (.lit 1)) (.lit 0)))
 (.br
 (.not (.eq (.bin .add .i64 (.lit 1) (.bin .rem .i64 (.wrap .i64 (.var 1)) (.lit 3))) (.lit 0)))
 (.br
 (.and (.not (.and (.not (.eq (.bin .mul .i64 (.lit 4) (.wrap .i64 (.bin .and .u8 (.var 0) (.lit 1)))) (.bin .add .i64 (.lit 1) (.bin .rem .i64 (.wrap .i64 (.var 1)) (.lit 3))))) (.and (.le (.lit 1) (.bin .mul .i64 (.lit 4) (.wrap .i64 (.bin .and .u8 (.var 0) (.lit 1))))) (.le (.bin .mul .i64 (.lit 4) (.wrap .i64 (.bin .and .u8 (.var 0) (.lit 1)))) (.lit 3))))) (.and (.not (.eq (.bin .mul .i64 (.lit 4) (.wrap .i64 (.bin .and .u8 (.var 0) (.lit 1)))) (.bin .add .i64 (.lit 1) (.bin .rem .i64 (.wrap .i64 (.var 1)) (.lit 3))))) (.not (.and (.le (.lit 1) (.bin .mul .i64 (.lit 4) (.wrap .i64 (.bin .and .u8 (.var 0) (.lit 1))))) (.le (.bin .mul .i64 (.lit 4) (.wrap .i64 (.bin .and .u8 (.var 0) (.lit 1)))) (.lit 3))))))
 (.leaf (.bool (.eq (.ite (.not (.and (.not (.eq (.bin .mul .i64 (.lit 4) (.wrap .i64 (.bin .and .u8 (.var 0) (.lit 1)))) (.bin .add .i64 (.lit 1) (.bin .rem .i64 (.wrap .i64 (.var 1)) (.lit 3))))) (.and (.le (.lit 1) (.bin .mul .i64 (.lit 4) (.wrap .i64 (.bin .and .u8 (.var 0) (.lit 1))))) (.le (.bin .mul .i64 (.lit 4) (.wrap .i64 (.bin .and .u8 (.var 0) (.lit 1)))) (.lit 3))))) (.lit (-1)) (.bin .mul .i64 (.lit 4) (.wrap .i64 (.bin .and .u8 (.var 0) (.lit 1))))) (.lit (-1)))))
 (.leaf (.bool (.lit .false))))
 (.leaf (.bool (.lit .false))))
 (.br
 (.and (.not (.and (.not (.eq (.bin .mul .i64 (.lit 4) (.wrap .i64 (.bin .and .u8 (.var 0) (.lit 1)))) (.bin .add .i64 (.lit 1) (.bin .rem .i64 (.wrap .i64 (.var 1)) (.lit 3))))) (.and (.le (.lit 1) (.bin .mul .i64 (.lit 4) (.wrap .i64 (.bin .and .u8 (.var 0) (.lit 1))))) (.le (.bin .mul .i64 (.lit 4) (.wrap .i64 (.bin .and .u8 (.var 0) (.lit 1)))) (.lit 3))))) (.and (.not (.eq (.bin .mul .i64 (.lit 4) (.wrap .i64 (.bin .and .u8 (.var 0) (.lit 1)))) (.bin .add .i64 (.lit 1) (.bin .rem .i64 (.wrap .i64 (.var 1)) (.lit 3))))) (.not (.and (.le (.lit 1) (.bin .mul .i64 (.lit 4) (.wrap .i64 (.bin .and .u8 (.var 0) (.lit 1))))) (.le (.bin .mul .i64 (.lit 4) (.wrap .i64 (.bin .and .u8 (.var 0) (.lit 1)))) (.lit 3))))))
 (.leaf (.bool (.eq (.ite (.not (.and (.not (.eq (.bin .mul .i64 (.lit 4) (.wrap .i64 (.bin .and .u8 (.var 0) (.lit 1)))) (.bin .add .i64 (.lit 1) (.bin .rem .i64 (.wrap .i64 (.var 1)) (.lit 3))))) (.and (.le (.lit 1) (.bin .mul .i64 (.lit 4) (.wrap .i64 (.bin .and .u8 (.var 0) (.lit 1))))) (.le (.bin .mul .i64 (.lit 4) (.wrap .i64 (.bin .and .u8 (.var 0) (.lit 1)))) (.lit 3))))) (.lit (-1)) (.bin .mul .i64 (.lit 4) (.wrap .i64 (.bin .and .u8 (.var 0) (.lit 1))))) (.lit (-1)))))
 (.leaf (.bool (.lit .false)))))
 (.br
 (.not (.eq (.bin .and .u8 (.var 0) (.lit 1)) (.lit 0)))
 (.br
 (.not (.eq (.bin .add .i64 (.lit 1) (.bin .rem .i64 (.wrap .i64 (.var 1)) (.lit 3))) (.lit 0)))
 (.br
 (.and (.not (.and (.not (.eq (.bin .mul .i64 (.lit 4) (.wrap .i64 (.bin .and .u8 (.var 0) (.lit 1)))) (.bin .add .i64 (.lit 1) (.bin .rem .i64 (.wrap .i64 (.var 1)) (.lit 3))))) (.and (.le (.lit 1) (.bin .mul .i64 (.lit 4) (.wrap .i64 (.bin .and .u8 (.var 0) (.lit 1))))) (.le (.bin .mul .i64 (.lit 4) (.wrap .i64 (.bin .and .u8 (.var 0) (.lit 1)))) (.lit 3))))) (.and (.not (.eq (.bin .mul .i64 (.lit 4) (.wrap .i64 (.bin .and .u8 (.var 0) (.lit 1)))) (.bin .add .i64 (.lit 1) (.bin .rem .i64 (.wrap .i64 (.var 1)) (.lit 3))))) (.not (.and (.le (.lit 1) (.bin .mul .i64 (.lit 4) (.wrap .i64 (.bin .and .u8 (.var 0) (.lit 1))))) (.le (.bin .mul .i64 (.lit 4) (.wrap .i64 (.bin .and .u8 (.var 0) (.lit 1)))) (.lit 3))))))
 (.leaf (.bool (.eq (.ite (.not (.and (.not (.eq (.bin .mul .i64 (.lit 4) (.wrap .i64 (.bin .and .u8 (.var 0) (.lit 1)))) (.bin .add .i64 (.lit 1) (.bin .rem .i64 (.wrap .i64 (.var 1)) (.lit 3))))) (.and (.le (.lit 1) (.bin .mul .i64 (.lit 4) (.wrap .i64 (.bin .and .u8 (.var 0) (.lit 1))))) (.le (.bin .mul .i64 (.lit 4) (.wrap .i64 (.bin .and .u8 (.var 0) (.lit 1)))) (.lit 3))))) (.lit (-1)) (.bin .mul .i64 (.lit 4) (.wrap .i64 (.bin .and .u8 (.var 0) (.lit 1))))) (.lit (-1)))))
 (.leaf (.bool (.lit .false))))
 (.leaf (.bool (.lit .false))))
 (.br
 (.and (.not (.and (.not (.eq (.bin .mul .i64 (.lit 4) (.wrap .i64 (.bin .and .u8 (.var 0) (.lit 1)))) (.bin .add .i64 (.lit 1) (.bin .rem .i64 (.wrap .i64 (.var 1)) (.lit 3))))) (.and (.le (.lit 1) (.bin .mul .i64 (.lit 4) (.wrap .i64 (.bin .and .u8 (.var 0) (.lit 1))))) (.le (.bin .mul .i64 (.lit 4) (.wrap .i64 (.bin .and .u8 (.var 0) (.lit 1)))) (.lit 3))))) (.and (.not (.eq (.bin .mul .i64 (.lit 4) (.wrap .i64 (.bin .and .u8 (.var 0) (.lit 1)))) (.bin .add .i64 (.lit 1) (.bin .rem .i64 (.wrap .i64 (.var 1)) (.lit 3))))) (.not (.and (.le (.lit 1) (.bin .mul .i64 (.lit 4) (.wrap .i64 (.bin .and .u8 (.var 0) (.lit 1))))) (.le (.bin .mul .i64 (.lit 4) (.wrap .i64 (.bin .and .u8 (.var 0) (.lit 1)))) (.lit 3))))))
 (.leaf (.bool (.eq (.ite (.not (.and (.not (.eq (.bin .mul .i64 (.lit 4) (.wrap .i64 (.bin .and .u8 (.var 0) (.lit 1)))) (.bin .add .i64 (.lit 1) (.bin .rem .i64 (.wrap .i64 (.var 1)) (.lit 3))))) (.and (.le (.lit 1) (.bin .mul .i64 (.lit 4) (.wrap .i64 (.bin .and .u8 (.var 0) (.lit 1))))) (.le (.bin .mul .i64 (.lit 4) (.wrap .i64 (.bin .and .u8 (.var 0) (.lit 1)))) (.lit 3))))) (.lit (-1)) (.bin .mul .i64 (.lit 4) (.wrap .i64 (.bin .and .u8 (.var 0) (.lit 1))))) (.lit (-1)))))
 (.leaf (.bool (.lit .false))))))
 (.br
 (.not (.eq (.bin .and .u8 (.var 0) (.lit 2)) (.lit 0)))
 (.br
 (.not (.eq (.bin .and .u8 (.var 0) (.lit 1)) (.lit 0)))
 (.br
 (.not (.eq (.bin .add .i64 (.lit 1) (.bin .rem .i64 (.wrap .i64 (.var 1)) (.lit 3))) (.lit 0)))
 (.br
 (.and (.not (.and (.not (.eq (.bin .mul .i64 (.lit 4) (.wrap .i64 (.bin .and .u8 (.var 0) (.lit 1)))) (.bin .add .i64 (.lit 1) (.bin .rem .i64 (.wrap .i64 (.var 1)) (.lit 3))))) (.and (.le (.lit 1) (.bin .mul .i64 (.lit 4) (.wrap .i64 (.bin .and .u8 (.var 0) (.lit 1))))) (.le (.bin .mul .i64 (.lit 4) (.wrap .i64 (.bin .and .u8 (.var 0) (.lit 1)))) (.lit 3))))) (.and (.not (.eq (.bin .mul .i64 (.lit 4) (.wrap .i64 (.bin .and .u8 (.var 0) (.lit 1)))) (.bin .add .i64 (.lit 1) (.bin .rem .i64 (.wrap .i64 (.var 1)) (.lit 3))))) (.not (.and (.le (.lit 1) (.bin .mul .i64 (.lit 4) (.wrap .i64 (.bin .and .u8 (.var 0) (.lit 1))))) (.le (.bin .mul .i64 (.lit 4) (.wrap .i64 (.bin .and .u8 (.var 0) (.lit 1)))) (.lit 3))))))
 (.leaf (.bool (.eq (.ite (.not (.and (.not (.eq (.bin .mul .i64 (.lit 4) (.wrap .i64 (.bin .and .u8 (.var 0) (.lit 1)))) (.bin .add .i64 (.lit 1) (.bin .rem .i64 (.wrap .i64 (.var 1)) (.lit 3))))) (.and (.le (.lit 1) (.bin .mul .i64 (.lit 4) (.wrap .i64 (.bin .and .u8 (.var 0) (.lit 1))))) (.le (.bin .mul .i64 (.lit 4) (.wrap .i64 (.bin .and .u8 (.var 0) (.lit 1)))) (.lit 3))))) (.lit (-1)) (.bin .mul .i64 (.lit 4) (.wrap .i64 (.bin .and .u8 (.var 0) (.lit 1))))) (.lit (-1)))))
 (.leaf (.bool (.lit .false))))
 (.leaf (.bool (.lit .false))))
 (.br
 (.and (.not (.and (.not (.eq (.bin .mul .i64 (.lit 4) (.wrap .i64 (.bin .and .u8 (.var 0) (.lit 1)))) (.bin .add .i64 (.lit 1) (.bin .rem .i64 (.wrap .i64 (.var 1)) (.lit 3))))) (.and (.le (.lit 1) (.bin .mul .i64 (.lit 4) (.wrap .i64 (.bin .and .u8 (.var 0) (.lit 1))))) (.le (.bin .mul .i64 (.lit 4) (.wrap .i64 (.bin .and .u8 (.var 0) (.lit 1)))) (.lit 3))))) (.and (.not (.eq (.bin .mul .i64 (.lit 4) (.wrap .i64 (.bin .and .u8 (.var 0) (.lit 1)))) (.bin .add .i64 (.lit 1) (.bin .rem .i64 (.wrap .i64 (.var 1)) (.lit 3))))) (.not (.and (.le (.lit 1) (.bin .mul .i64 (.lit 4) (.wrap .i64 (.bin .and .u8 (.var 0) (.lit 1))))) (.le (.bin .mul .i64 (.lit 4) (.wrap .i64 (.bin .and .u8 (.var 0) (.lit 1)))) (.lit 3))))))
 (.leaf (.bool (.eq (.ite (.not (.and (.not (.eq (.bin .mul .i64 (.lit 4) (.wrap .i64 (.bin .and .u8 (.var 0) (.lit 1)))) (.bin .add .i64 (.lit 1) (.bin .rem .i64 (.wrap .i64 (.var 1)) (.lit 3))))) (.and (.le (.lit 1) (.bin .mul .i64 (.lit 4) (.wrap .i64 (.bin .and .u8 (.var 0) (.lit 1))))) (.le (.bin .mul .i64 (.lit 4) (.wrap .i64 (.bin .and .u8 (.var 0) (.lit 1)))) (.lit 3))))) (.lit (-1)) (.bin .mul .i64 (.lit 4) (.wrap .i64 (.bin .and .u8 (.var 0) (.lit 1))))) (.lit (-1)))))
 (.leaf (.bool (.lit .false)))))
 (.br
 (.not (.eq (.bin .and .u8 (.var 0) (.lit 1)) (.lit 0)))
 (.br
 (.not (.eq (.bin .add .i64 (.lit 1) (.bin .rem .i64 (.wrap .i64 (.var 1)) (.lit 3))) (.lit 0)))
 (.br
 (.and (.not (.and (.not (.eq (.bin .mul .i64 (.lit 4) (.wrap .i64 (.bin .and .u8 (.var 0) (.lit 1)))) (.bin .add .i64 (.lit 1) (.bin .rem .i64 (.wrap .i64 (.var 1)) (.lit 3))))) (.and (.le (.lit 1) (.bin .mul .i64 (.lit 4) (.wrap .i64 (.bin .and .u8 (.var 0) (.lit 1))))) (.le (.bin .mul .i64 (.lit 4) (.wrap .i64 (.bin .and .u8 (.var 0) (.lit 1)))) (.lit 3))))) (.and (.not (.eq (.bin .mul .i64 (.lit 4) (.wrap .i64 (.bin .and .u8 (.var 0) (.lit 1)))) (.bin .add .i64 (.lit 1) (.bin .rem .i64 (.wrap .i64 (.var 1)) (.lit 3))))) (.not (.and (.le (.lit 1) (.bin .mul .i64 (.lit 4) (.wrap .i64 (.bin .and .u8 (.var 0) (.lit 1))))) (.le (.bin .mul .i64 (.lit 4) (.wrap .i64 (.bin .and .u8 (.var 0) (.lit 1)))) (.lit 3))))))
 (.leaf (.bool (.eq (.ite (.not (.and (.not (.eq (.bin .mul .i64 (.lit 4) (.wrap .i64 (.bin .and .u8 (.var 0) (.lit 1)))) (.bin .add .i64 (.lit 1) (.bin .rem .i64 (.wrap .i64 (.var 1)) (.lit 3))))) (.and (.le (.lit 1) (.bin .mul .i64 (.lit 4) (.wrap .i64 (.bin .and .u8 (.var 0) (.lit 1))))) (.le (.bin .mul .i64 (.lit 4) (.wrap .i64 (.bin .and .u8 (.var 0) (.lit 1)))) (.lit 3))))) (.lit (-1)) (.bin .mul .i64 (.lit 4) (.wrap .i64 (.bin .and .u8 (.var 0) (.lit 1))))) (.lit (-1)))))
 (.leaf (.bool (.lit .false))))
 (.leaf (.bool (.lit .false))))
 (.br
 (.not (.eq (.bin .add .i64 (.lit 1) (.bin .rem .i64 (.bin .add .i64 (.lit 1) (.bin .rem .i64 (.wrap .i64 (.var 1)) (.lit 3))) (.lit 3))) (.bin .add .i64 (.lit 1) (.bin .rem .i64 (.wrap .i64 (.var 1)) (.lit 3)))))
 (.br
 (.and (.not (.and (.not (.eq (.bin .mul .i64 (.lit 4) (.wrap .i64 (.bin .and .u8 (.var 0) (.lit 1)))) (.bin .add .i64 (.lit 1) (.bin .rem .i64 (.wrap .i64 (.var 1)) (.lit 3))))) (.and (.le (.lit 1) (.bin .mul .i64 (.lit 4) (.wrap .i64 (.bin .and .u8 (.var 0) (.lit 1))))) (.le (.bin .mul .i64 (.lit 4) (.wrap .i64 (.bin .and .u8 (.var 0) (.lit 1)))) (.lit 3))))) (.and (.not (.eq (.bin .mul .i64 (.lit 4) (.wrap .i64 (.bin .and .u8 (.var 0) (.lit 1)))) (.bin .add .i64 (.lit 1) (.bin .rem .i64 (.wrap .i64 (.var 1)) (.lit 3))))) (.not (.and (.le (.lit 1) (.bin .mul .i64 (.lit 4) (.wrap .i64 (.bin .and .u8 (.var 0) (.lit 1))))) (.le (.bin .mul .i64 (.lit 4) (.wrap .i64 (.bin .and .u8 (.var 0) (.lit 1)))) (.lit 3))))))
 (.leaf (.bool (.eq (.ite (.not (.and (.not (.eq (.bin .mul .i64 (.lit 4) (.wrap .i64 (.bin .and .u8 (.var 0) (.lit 1)))) (.bin .add .i64 (.lit 1) (.bin .rem .i64 (.wrap .i64 (.var 1)) (.lit 3))))) (.and (.le (.lit 1) (.bin .mul .i64 (.lit 4) (.wrap .i64 (.bin .and .u8 (.var 0) (.lit 1))))) (.le (.bin .mul .i64 (.lit 4) (.wrap .i64 (.bin .and .u8 (.var 0) (.lit 1)))) (.lit 3))))) (.lit (-1)) (.bin .mul .i64 (.lit 4) (.wrap .i64 (.bin .and .u8 (.var 0) (.lit 1))))) (.lit (-1)))))
 (.leaf (.bool (.lit .false))))
 (.leaf (.bool (.lit .false)))))))
 (.br
 (.not (.eq (.bin .and .u8 (.var 0) (.lit 4)) (.lit 0)))
 (.br
 (.not (.eq (.bin .and .u8 (.var 0) (.lit 2)) (.lit 0)))
 (.br
 (.not (.eq (.bin .and .u8 (.var 0) (.lit 1)) (.lit 0)))
 (.br
 (.not (.eq (.bin .add .i64 (.lit 1) (.bin .rem .i64 (.wrap .i64 (.var 1)) (.lit 3))) (.lit 0)))
 (.br
 (.and (.not (.and (.not (.eq (.bin .mul .i64 (.lit 4) (.wrap .i64 (.bin .and .u8 (.var 0) (.lit 1)))) (.bin .add .i64 (.lit 1) (.bin .rem .i64 (.wrap .i64 (.var 1)) (.lit 3))))) (.and (.le (.lit 1) (.bin .mul .i64 (.lit 4) (.wrap .i64 (.bin .and .u8 (.var 0) (.lit 1))))) (.le (.bin .mul .i64 (.lit 4) (.wrap .i64 (.bin .and .u8 (.var 0) (.lit 1)))) (.lit 3))))) (.and (.not (.eq (.bin .mul .i64 (.lit 4) (.wrap .i64 (.bin .and .u8 (.var 0) (.lit 1)))) (.bin .add .i64 (.lit 1) (.bin .rem .i64 (.wrap .i64 (.var 1)) (.lit 3))))) (.not (.and (.le (.lit 1) (.bin .mul .i64 (.lit 4) (.wrap .i64 (.bin .and .u8 (.var 0) (.lit 1))))) (.le (.bin .mul .i64 (.lit 4) (.wrap .i64 (.bin .and .u8 (.var 0) (.lit 1)))) (.lit 3))))))
 (.leaf (.bool (.eq (.ite (.not (.and (.not (.eq (.bin .mul .i64 (.lit 4) (.wrap .i64 (.bin .and .u8 (.var 0) (.lit 1)))) (.bin .add .i64 (.lit 1) (.bin .rem .i64 (.wrap .i64 (.var 1)) (.lit 3))))) (.and (.le (.lit 1) (.bin .mul .i64 (.lit 4) (.wrap .i64 (.bin .and .u8 (.var 0) (.lit 1))))) (.le (.bin .mul .i64 (.lit 4) (.wrap .i64 (.bin .and .u8 (.var 0) (.lit 1)))) (.lit 3))))) (.lit (-1)) (.bin .mul .i64 (.lit 4) (.wrap .i64 (.bin .and .u8 (.var 0) (.lit 1))))) (.lit (-1)))))
 (.leaf (.bool (.lit .false))))
 (.leaf (.bool (.lit .false))))
 (.br
 (.and (.not (.and (.not (.eq (.bin .mul .i64 (.lit 4) (.wrap .i64 (.bin .and .u8 (.var 0) (.lit 1)))) (.bin .add .i64 (.lit 1) (.bin .rem .i64 (.wrap .i64 (.var 1)) (.lit 3))))) (.and (.le (.lit 1) (.bin .mul .i64 (.lit 4) (.wrap .i64 (.bin .and .u8 (.var 0) (.lit 1))))) (.le (.bin .mul .i64 (.lit 4) (.wrap .i64 (.bin .and .u8 (.var 0) (.lit 1)))) (.lit 3))))) (.and (.not (.eq (.bin .mul .i64 (.lit 4) (.wrap .i64 (.bin .and .u8 (.var 0) (.lit 1)))) (.bin .add .i64 (.lit 1) (.bin .rem .i64 (.wrap .i64 (.var 1)) (.lit 3))))) (.not (.and (.le (.lit 1) (.bin .mul .i64 (.lit 4) (.wrap .i64 (.bin .and .u8 (.var 0) (.lit 1))))) (.le (.bin .mul .i64 (.lit 4) (.wrap .i64 (.bin .and .u8 (.var 0) (.lit 1)))) (.lit 3))))))
 (.leaf (.bool (.eq (.ite (.not (.and (.not (.eq (.bin .mul .i64 (.lit 4) (.wrap .i64 (.bin .and .u8 (.var 0) (.lit 1)))) (.bin .add .i64 (.lit 1) (.bin .rem .i64 (.wrap .i64 (.var 1)) (.lit 3))))) (.and (.le (.lit 1) (.bin .mul .i64 (.lit 4) (.wrap .i64 (.bin .and .u8 (.var 0) (.lit 1))))) (.le (.bin .mul .i64 (.lit 4) (.wrap .i64 (.bin .and .u8 (.var 0) (.lit 1)))) (.lit 3))))) (.lit (-1)) (.bin .mul .i64 (.lit 4) (.wrap .i64 (.bin .and .u8 (.var 0) (.lit 1))))) (.lit (-1)))))
 (.leaf (.bool (.lit .false)))))
 (.br
 (.not (.eq (.bin .and .u8 (.var 0) (.lit 1)) (.lit 0)))
 (.br
 (.not (.eq (.bin .add .i64 (.lit 1) (.bin .rem .i64 (.wrap .i64 (.var 1)) (.lit 3))) (.lit 0)))
 (.br
 (.and (.not (.and (.not (.eq (.bin .mul .i64 (.lit 4) (.wrap .i64 (.bin .and .u8 (.var 0) (.lit 1)))) (.bin .add .i64 (.lit 1) (.bin .rem .i64 (.wrap .i64 (.var 1)) (.lit 3))))) (.and (.le (.lit 1) (.bin .mul .i64 (.lit 4) (.wrap .i64 (.bin .and .u8 (.var 0) (.lit 1))))) (.le (.bin .mul .i64 (.lit 4) (.wrap .i64 (.bin .and .u8 (.var 0) (.lit 1)))) (.lit 3))))) (.and (.not (.eq (.bin .mul .i64 (.lit 4) (.wrap .i64 (.bin .and .u8 (.var 0) (.lit 1)))) (.bin .add .i64 (.lit 1) (.bin .rem .i64 (.wrap .i64 (.var 1)) (.lit 3))))) (.not (.and (.le (.lit 1) (.bin .mul .i64 (.lit 4) (.wrap .i64 (.bin .and .u8 (.var 0) (.lit 1))))) (.le (.bin .mul .i64 (.lit 4) (.wrap .i64 (.bin .and .u8 (.var 0) (.lit 1)))) (.lit 3))))))
 (.leaf (.bool (.eq (.ite (.not (.and (.not (.eq (.bin .mul .i64 (.lit 4) (.wrap .i64 (.bin .and .u8 (.var 0) (.lit 1)))) (.bin .add .i64 (.lit 1) (.bin .rem .i64 (.wrap .i64 (.var 1)) (.lit 3))))) (.and (.le (.lit 1) (.bin .mul .i64 (.lit 4) (.wrap .i64 (.bin .and .u8 (.var 0) (.lit 1))))) (.le (.bin .mul .i64 (.lit 4) (.wrap .i64 (.bin .and .u8 (.var 0) (.lit 1)))) (.lit 3))))) (.lit (-1)) (.bin .mul .i64 (.lit 4) (.wrap .i64 (.bin .and .u8 (.var 0) (.lit 1))))) (.lit (-1)))))
 (.leaf (.bool (.lit .false))))
 (.leaf (.bool (.lit .false))))
 (.br
 (.and (.not (.and (.not (.eq (.bin .mul .i64 (.lit 4) (.wrap .i64 (.bin .and .u8 (.var 0) (.lit 1)))) (.bin .add .i64 (.lit 1) (.bin .rem .i64 (.wrap .i64 (.var 1)) (.lit 3))))) (.and (.le (.lit 1) (.bin .mul .i64 (.lit 4) (.wrap .i64 (.bin .and .u8 (.var 0) (.lit 1))))) (.le (.bin .mul .i64 (.lit 4) (.wrap .i64 (.bin .and .u8 (.var 0) (.lit 1)))) (.lit 3))))) (.and (.not (.eq (.bin .mul .i64 (.lit 4) (.wrap .i64 (.bin .and .u8 (.var 0) (.lit 1)))) (.bin .add .i64 (.lit 1) (.bin .rem .i64 (.wrap .i64 (.var 1)) (.lit 3))))) (.not (.and (.le (.lit 1) (.bin .mul .i64 (.lit 4) (.wrap .i64 (.bin .and .u8 (.var 0) (.lit 1))))) (.le (.bin .mul .i64 (.lit 4) (.wrap .i64 (.bin .and .u8 (.var 0) (.lit 1)))) (.lit 3))))))
 (.leaf (.bool (.eq (.ite (.not (.and (.not (.eq (.bin .mul .i64 (.lit 4) (.wrap .i64 (.bin .and .u8 (.var 0) (.lit 1)))) (.bin .add .i64 (.lit 1) (.bin .rem .i64 (.wrap .i64 (.var 1)) (.lit 3))))) (.and (.le (.lit 1) (.bin .mul .i64 (.lit 4) (.wrap .i64 (.bin .and .u8 (.var 0) (.lit 1))))) (.le (.bin .mul .i64 (.lit 4) (.wrap .i64 (.bin .and .u8 (.var 0) (.lit 1)))) (.lit 3))))) (.lit (-1)) (.bin .mul .i64 (.lit 4) (.wrap .i64 (.bin .and .u8 (.var 0) (.lit 1))))) (.lit (-1)))))
 (.leaf (.bool (.lit .false))))))
 (.br
 (.not (.eq (.bin .and .u8 (.var 0) (.lit 2)) (.lit 0)))
 (.br
 (.not (.eq (.bin .and .u8 (.var 0) (.lit 1)) (.lit 0)))
 (.br
 (.not (.eq (.bin .add .i64 (.lit 1) (.bin .rem .i64 (.wrap .i64 (.var 1)) (.lit 3))) (.lit 0)))
 (.br
 (.and (.not (.and (.not (.eq (.bin .mul .i64 (.lit 4) (.wrap .i64 (.bin .and .u8 (.var 0) (.lit 1)))) (.bin .add .i64 (.lit 1) (.bin .rem .i64 (.wrap .i64 (.var 1)) (.lit 3))))) (.and (.le (.lit 1) (.bin .mul .i64 (.lit 4) (.wrap .i64 (.bin .and .u8 (.var 0) (.lit 1))))) (.le (.bin .mul .i64 (.lit 4) (.wrap .i64 (.bin .and .u8 (.var 0) (.lit 1)))) (.lit 3))))) (.and (.not (.eq (.bin .mul .i64 (.lit 4) (.wrap .i64 (.bin .and .u8 (.var 0) (.lit 1)))) (.bin .add .i64 (.lit 1) (.bin .rem .i64 (.wrap .i64 (.var 1)) (.lit 3))))) (.not (.and (.le (.lit 1) (.bin .mul .i64 (.lit 4) (.wrap .i64 (.bin .and .u8 (.var 0) (.lit 1))))) (.le (.bin .mul .i64 (.lit 4) (.wrap .i64 (.bin .and .u8 (.var 0) (.lit 1)))) (.lit 3))))))
 (.leaf (.bool (.eq (.ite (.not (.and (.not (.eq (.bin .mul .i64 (.lit 4) (.wrap .i64 (.bin .and .u8 (.var 0) (.lit 1)))) (.bin .add .i64 (.lit 1) (.bin .rem .i64 (.wrap .i64 (.var 1)) (.lit 3))))) (.and (.le (.lit 1) (.bin .mul .i64 (.lit 4) (.wrap .i64 (.bin .and .u8 (.var 0) (.lit 1))))) (.le (.bin .mul .i64 (.lit 4) (.wrap .i64 (.bin .and .u8 (.var 0) (.lit 1)))) (.lit 3))))) (.lit (-1)) (.bin .mul .i64 (.lit 4) (.wrap .i64 (.bin .and .u8 (.var 0) (.lit 1))))) (.lit (-1)))))
 (.leaf (.bool (.lit .false))))
 (.leaf (.bool (.lit .false))))
 (.br
 (.and (.not (.and (.not (.eq (.bin .mul .i64 (.lit 4) (.wrap .i64 (.bin .and .u8 (.var 0) (.lit 1)))) (.bin .add .i64 (.lit 1) (.bin .rem .i64 (.wrap .i64 (.var 1)) (.lit 3))))) (.and (.le (.lit 1) (.bin .mul .i64 (.lit 4) (.wrap .i64 (.bin .and .u8 (.var 0) (.lit 1))))) (.le (.bin .mul .i64 (.lit 4) (.wrap .i64 (.bin .and .u8 (.var 0) (.lit 1)))) (.lit 3))))) (.and (.not (.eq (.bin .mul .i64 (.lit 4) (.wrap .i64 (.bin .and .u8 (.var 0) (.lit 1)))) (.bin .add .i64 (.lit 1) (.bin .rem .i64 (.wrap .i64 (.var 1)) (.lit 3))))) (.not (.and (.le (.lit 1) (.bin .mul .i64 (.lit 4) (.wrap .i64 (.bin .and .u8 (.var 0) (.lit 1))))) (.le (.bin .mul .i64 (.lit 4) (.wrap .i64 (.bin .and .u8 (.var 0) (.lit 1)))) (.lit 3))))))
 (.leaf (.bool (.eq (.ite (.not (.and (.not (.eq (.bin .mul .i64 (.lit 4) (.wrap .i64 (.bin .and .u8 (.var 0) (.lit 1)))) (.bin .add .i64 (.lit 1) (.bin .rem .i64 (.wrap .i64 (.var 1)) (.lit 3))))) (.and (.le (.lit 1) (.bin .mul .i64 (.lit 4) (.wrap .i64 (.bin .and .u8 (.var 0) (.lit 1))))) (.le (.bin .mul .i64 (.lit 4) (.wrap .i64 (.bin .and .u8 (.var 0) (.lit 1)))) (.lit 3))))) (.lit (-1)) (.bin .mul .i64 (.lit 4) (.wrap .i64 (.bin .and .u8 (.var 0) (.lit 1))))) (.lit (-1)))))
 (.leaf (.bool (.lit .false)))))
 (.br
 (.not (.eq (.bin .and .u8 (.var 0) (.lit 1)) (.lit 0)))
 (.br
 (.and (.not (.and (.eq (.bin .add .i64 (.lit 1) (.bin .rem .i64 (.wrap .i64 (.var 1)) (.lit 3))) (.lit 0)) (.and (.not (.eq (.bin .add .i64 (.lit 1) (.bin .rem .i64 (.bin .add .i64 (.lit 1) (.bin .rem .i64 (.wrap .i64 (.var 1)) (.lit 3))) (.lit 3))) (.bin .add .i64 (.lit 1) (.bin .rem .i64 (.wrap .i64 (.var 1)) (.lit 3))))) (.and (.le (.lit 1) (.bin .add .i64 (.lit 1) (.bin .rem .i64 (.bin .add .i64 (.lit 1) (.bin .rem .i64 (.wrap .i64 (.var 1)) (.lit 3))) (.lit 3)))) (.le (.bin .add .i64 (.lit 1) (.bin .rem .i64 (.bin .add .i64 (.lit 1) (.bin .rem .i64 (.wrap .i64 (.var 1)) (.lit 3))) (.lit 3))) (.lit 3)))))) (.not (.eq (.bin .add .i64 (.lit 1) (.bin .rem .i64 (.wrap .i64 (.var 1)) (.lit 3))) (.lit 0))))
 (.br
 (.and (.eq (.ite (.not (.and (.eq (.bin .add .i64 (.lit 1) (.bin .rem .i64 (.wrap .i64 (.var 1)) (.lit 3))) (.lit 0)) (.and (.not (.eq (.bin .add .i64 (.lit 1) (.bin .rem .i64 (.bin .add .i64 (.lit 1) (.bin .rem .i64 (.wrap .i64 (.var 1)) (.lit 3))) (.lit 3))) (.bin .add .i64 (.lit 1) (.bin .rem .i64 (.wrap .i64 (.var 1)) (.lit 3))))) (.and (.le (.lit 1) (.bin .add .i64 (.lit 1) (.bin .rem .i64 (.bin .add .i64 (.lit 1) (.bin .rem .i64 (.wrap .i64 (.var 1)) (.lit 3))) (.lit 3)))) (.le (.bin .add .i64 (.lit 1) (.bin .rem .i64 (.bin .add .i64 (.lit 1) (.bin .rem .i64 (.wrap .i64 (.var 1)) (.lit 3))) (.lit 3))) (.lit 3)))))) (.lit (-1)) (.bin .add .i64 (.lit 1) (.bin .rem .i64 (.bin .add .i64 (.lit 1) (.bin .rem .i64 (.wrap .i64 (.var 1)) (.lit 3))) (.lit 3)))) (.lit (-1))) (.not (.and (.eq (.bin .add .i64 (.lit 1) (.bin .rem .i64 (.wrap .i64 (.var 1)) (.lit 3))) (.lit 0)) (.and (.not (.eq (.bin .add .i64 (.lit 1) (.bin .rem .i64 (.bin .add .i64 (.lit 1) (.bin .rem .i64 (.wrap .i64 (.var 1)) (.lit 3))) (.lit 3))) (.bin .add .i64 (.lit 1) (.bin .rem .i64 (.wrap .i64 (.var 1)) (.lit 3))))) (.and (.le (.lit 1) (.bin .add .i64 (.lit 1) (.bin .rem .i64 (.bin .add .i64 (.lit 1) (.bin .rem .i64 (.wrap .i64 (.var 1)) (.lit 3))) (.lit 3)))) (.le (.bin .add .i64 (.lit 1) (.bin .rem .i64 (.bin .add .i64 (.lit 1) (.bin .rem .i64 (.wrap .i64 (.var 1)) (.lit 3))) (.lit 3))) (.lit 3)))))))
 (.br
 (.and (.not (.and (.not (.eq (.bin .mul .i64 (.lit 4) (.wrap .i64 (.bin .and .u8 (.var 0) (.lit 1)))) (.bin .add .i64 (.lit 1) (.bin .rem .i64 (.wrap .i64 (.var 1)) (.lit 3))))) (.and (.le (.lit 1) (.bin .mul .i64 (.lit 4) (.wrap .i64 (.bin .and .u8 (.var 0) (.lit 1))))) (.le (.bin .mul .i64 (.lit 4) (.wrap .i64 (.bin .and .u8 (.var 0) (.lit 1)))) (.lit 3))))) (.and (.not (.eq (.bin .mul .i64 (.lit 4) (.wrap .i64 (.bin .and .u8 (.var 0) (.lit 1)))) (.bin .add .i64 (.lit 1) (.bin .rem .i64 (.wrap .i64 (.var 1)) (.lit 3))))) (.not (.and (.le (.lit 1) (.bin .mul .i64 (.lit 4) (.wrap .i64 (.bin .and .u8 (.var 0) (.lit 1))))) (.le (.bin .mul .i64 (.lit 4) (.wrap .i64 (.bin .and .u8 (.var 0) (.lit 1)))) (.lit 3))))))
 (.leaf (.bool (.eq (.ite (.not (.and (.not (.eq (.bin .mul .i64 (.lit 4) (.wrap .i64 (.bin .and .u8 (.var 0) (.lit 1)))) (.bin .add .i64 (.lit 1) (.bin .rem .i64 (.wrap .i64 (.var 1)) (.lit 3))))) (.and (.le (.lit 1) (.bin .mul .i64 (.lit 4) (.wrap .i64 (.bin .and .u8 (.var 0) (.lit 1))))) (.le (.bin .mul .i64 (.lit 4) (.wrap .i64 (.bin .and .u8 (.var 0) (.lit 1)))) (.lit 3))))) (.lit (-1)) (.bin .mul .i64 (.lit 4) (.wrap .i64 (.bin .and .u8 (.var 0) (.lit 1))))) (.lit (-1)))))
 (.leaf (.bool (.lit .false))))
 (.leaf (.bool (.lit .false))))
 (.leaf (.bool (.lit .false))))
 (.br
 (.or (.and (.not (.eq (.bin .add .i64 (.lit 1) (.bin .rem .i64 (.bin .add .i64 (.lit 1) (.bin .rem .i64 (.wrap .i64 (.var 1)) (.lit 3))) (.lit 3))) (.bin .add .i64 (.lit 1) (.bin .rem .i64 (.wrap .i64 (.var 1)) (.lit 3))))) (.and (.le (.lit 1) (.bin .add .i64 (.lit 1) (.bin .rem .i64 (.bin .add .i64 (.lit 1) (.bin .rem .i64 (.wrap .i64 (.var 1)) (.lit 3))) (.lit 3)))) (.le (.bin .add .i64 (.lit 1) (.bin .rem .i64 (.bin .add .i64 (.lit 1) (.bin .rem .i64 (.wrap .i64 (.var 1)) (.lit 3))) (.lit 3))) (.lit 3)))) (.and (.not (.eq (.bin .add .i64 (.lit 1) (.bin .rem .i64 (.bin .add .i64 (.lit 1) (.bin .rem .i64 (.wrap .i64 (.var 1)) (.lit 3))) (.lit 3))) (.bin .add .i64 (.lit 1) (.bin .rem .i64 (.wrap .i64 (.var 1)) (.lit 3))))) (.and (.le (.lit 1) (.bin .add .i64 (.lit 1) (.bin .rem .i64 (.bin .add .i64 (.lit 1) (.bin .rem .i64 (.wrap .i64 (.var 1)) (.lit 3))) (.lit 3)))) (.le (.bin .add .i64 (.lit 1) (.bin .rem .i64 (.bin .add .i64 (.lit 1) (.bin .rem .i64 (.wrap .i64 (.var 1)) (.lit 3))) (.lit 3))) (.lit 3)))))
 (.br
 (.or (.and (.not (.eq (.bin .add .i64 (.lit 1) (.bin .rem .i64 (.bin .add .i64 (.lit 1) (.bin .rem .i64 (.wrap .i64 (.var 1)) (.lit 3))) (.lit 3))) (.bin .add .i64 (.lit 1) (.bin .rem .i64 (.wrap .i64 (.var 1)) (.lit 3))))) (.and (.le (.lit 1) (.bin .add .i64 (.lit 1) (.bin .rem .i64 (.bin .add .i64 (.lit 1) (.bin .rem .i64 (.wrap .i64 (.var 1)) (.lit 3))) (.lit 3)))) (.le (.bin .add .i64 (.lit 1) (.bin .rem .i64 (.bin .add .i64 (.lit 1) (.bin .rem .i64 (.wrap .i64 (.var 1)) (.lit 3))) (.lit 3))) (.lit 3)))) (.and (.not (.eq (.bin .add .i64 (.lit 1) (.bin .rem .i64 (.bin .add .i64 (.lit 1) (.bin .rem .i64 (.wrap .i64 (.var 1)) (.lit 3))) (.lit 3))) (.bin .add .i64 (.lit 1) (.bin .rem .i64 (.wrap .i64 (.var 1)) (.lit 3))))) (.and (.le (.lit 1) (.bin .add .i64 (.lit 1) (.bin .rem .i64 (.bin .add .i64 (.lit 1) (.bin .rem .i64 (.wrap .i64 (.var 1)) (.lit 3))) (.lit 3)))) (.le (.bin .add .i64 (.lit 1) (.bin .rem .i64 (.bin .add .i64 (.lit 1) (.bin .rem .i64 (.wrap .i64 (.var 1)) (.lit 3))) (.lit 3))) (.lit 3)))))
 (.br
 (.and (.not (.and (.not (.eq (.bin .mul .i64 (.lit 4) (.wrap .i64 (.bin .and .u8 (.var 0) (.lit 1)))) (.bin .add .i64 (.lit 1) (.bin .rem .i64 (.wrap .i64 (.var 1)) (.lit 3))))) (.and (.le (.lit 1) (.bin .mul .i64 (.lit 4) (.wrap .i64 (.bin .and .u8 (.var 0) (.lit 1))))) (.le (.bin .mul .i64 (.lit 4) (.wrap .i64 (.bin .and .u8 (.var 0) (.lit 1)))) (.lit 3))))) (.and (.not (.eq (.bin .mul .i64 (.lit 4) (.wrap .i64 (.bin .and .u8 (.var 0) (.lit 1)))) (.bin .add .i64 (.lit 1) (.bin .rem .i64 (.wrap .i64 (.var 1)) (.lit 3))))) (.not (.and (.le (.lit 1) (.bin .mul .i64 (.lit 4) (.wrap .i64 (.bin .and .u8 (.var 0) (.lit 1))))) (.le (.bin .mul .i64 (.lit 4) (.wrap .i64 (.bin .and .u8 (.var 0) (.lit 1)))) (.lit 3))))))
 (.leaf (.bool (.eq (.ite (.not (.and (.not (.eq (.bin .mul .i64 (.lit 4) (.wrap .i64 (.bin .and .u8 (.var 0) (.lit 1)))) (.bin .add .i64 (.lit 1) (.bin .rem .i64 (.wrap .i64 (.var 1)) (.lit 3))))) (.and (.le (.lit 1) (.bin .mul .i64 (.lit 4) (.wrap .i64 (.bin .and .u8 (.var 0) (.lit 1))))) (.le (.bin .mul .i64 (.lit 4) (.wrap .i64 (.bin .and .u8 (.var 0) (.lit 1)))) (.lit 3))))) (.lit (-1)) (.bin .mul .i64 (.lit 4) (.wrap .i64 (.bin .and .u8 (.var 0) (.lit 1))))) (.lit (-1)))))
 (.leaf (.bool (.lit .false))))
 (.br
 (.and (.eq (.bin .add .i64 (.lit 1) (.bin .rem .i64 (.wrap .i64 (.var 1)) (.lit 3))) (.bin .add .i64 (.lit 1) (.bin .rem .i64 (.wrap .i64 (.var 1)) (.lit 3)))) (.and (.eq (.ite (.not (.and (.not (.eq (.bin .add .i64 (.lit 1) (.bin .rem .i64 (.bin .add .i64 (.lit 1) (.bin .rem .i64 (.wrap .i64 (.var 1)) (.lit 3))) (.lit 3))) (.bin .add .i64 (.lit 1) (.bin .rem .i64 (.wrap .i64 (.var 1)) (.lit 3))))) (.and (.le (.lit 1) (.bin .add .i64 (.lit 1) (.bin .rem .i64 (.bin .add .i64 (.lit 1) (.bin .rem .i64 (.wrap .i64 (.var 1)) (.lit 3))) (.lit 3)))) (.le (.bin .add .i64 (.lit 1) (.bin .rem .i64 (.bin .add .i64 (.lit 1) (.bin .rem .i64 (.wrap .i64 (.var 1)) (.lit 3))) (.lit 3))) (.lit 3))))) (.lit (-1)) (.bin .add .i64 (.lit 1) (.bin .rem .i64 (.bin .add .i64 (.lit 1) (.bin .rem .i64 (.wrap .i64 (.var 1)) (.lit 3))) (.lit 3)))) (.lit (-1))) (.not (.and (.not (.eq (.bin .add .i64 (.lit 1) (.bin .rem .i64 (.bin .add .i64 (.lit 1) (.bin .rem .i64 (.wrap .i64 (.var 1)) (.lit 3))) (.lit 3))) (.bin .add .i64 (.lit 1) (.bin .rem .i64 (.wrap .i64 (.var 1)) (.lit 3))))) (.and (.le (.lit 1) (.bin .add .i64 (.lit 1) (.bin .rem .i64 (.bin .add .i64 (.lit 1) (.bin .rem .i64 (.wrap .i64 (.var 1)) (.lit 3))) (.lit 3)))) (.le (.bin .add .i64 (.lit 1) (.bin .rem .i64 (.bin .add .i64 (.lit 1) (.bin .rem .i64 (.wrap .i64 (.var 1)) (.lit 3))) (.lit 3))) (.lit 3)))))))
 (.br
 (.and (.not (.and (.not (.eq (.bin .mul .i64 (.lit 4) (.wrap .i64 (.bin .and .u8 (.var 0) (.lit 1)))) (.bin .add .i64 (.lit 1) (.bin .rem .i64 (.wrap .i64 (.var 1)) (.lit 3))))) (.and (.le (.lit 1) (.bin .mul .i64 (.lit 4) (.wrap .i64 (.bin .and .u8 (.var 0) (.lit 1))))) (.le (.bin .mul .i64 (.lit 4) (.wrap .i64 (.bin .and .u8 (.var 0) (.lit 1)))) (.lit 3))))) (.and (.not (.eq (.bin .mul .i64 (.lit 4) (.wrap .i64 (.bin .and .u8 (.var 0) (.lit 1)))) (.bin .add .i64 (.lit 1) (.bin .rem .i64 (.wrap .i64 (.var 1)) (.lit 3))))) (.not (.and (.le (.lit 1) (.bin .mul .i64 (.lit 4) (.wrap .i64 (.bin .and .u8 (.var 0) (.lit 1))))) (.le (.bin .mul .i64 (.lit 4) (.wrap .i64 (.bin .and .u8 (.var 0) (.lit 1)))) (.lit 3))))))
 (.leaf (.bool (.eq (.ite (.not (.and (.not (.eq (.bin .mul .i64 (.lit 4) (.wrap .i64 (.bin .and .u8 (.var 0) (.lit 1)))) (.bin .add .i64 (.lit 1) (.bin .rem .i64 (.wrap .i64 (.var 1)) (.lit 3))))) (.and (.le (.lit 1) (.bin .mul .i64 (.lit 4) (.wrap .i64 (.bin .and .u8 (.var 0) (.lit 1))))) (.le (.bin .mul .i64 (.lit 4) (.wrap .i64 (.bin .and .u8 (.var 0) (.lit 1)))) (.lit 3))))) (.lit (-1)) (.bin .mul .i64 (.lit 4) (.wrap .i64 (.bin .and .u8 (.var 0) (.lit 1))))) (.lit (-1)))))
 (.leaf (.bool (.lit .false))))
 (.leaf (.bool (.lit .false)))))
 (.leaf (.bool (.lit .false)))))))))
theorem ran : ((execCall 30 20 cx 7 svs [] 0 []).bind fun x => .leaf x.1) = tree := by kernel_rfl
theorem pure (ι : Env) (h0 : (Lit.int .u8 (ι.int 0)).wf = true) (h1 : (Lit.int .u8 (ι.int 1)).wf = true) : okT ι tree := by
  have h0 := bounds_u8 h0
  have h1 := bounds_u8 h1
  obtain ⟨x0, e0⟩ : ∃ x, ι.int 0 = x := ⟨_, rfl⟩
  obtain ⟨x1, e1⟩ : ∃ x, ι.int 1 = x := ⟨_, rfl⟩
  rw [e0] at h0
  rw [e1] at h1
  have w1 : IntKind.i64.wrap x1 = x1 := by rw [IntKind.wrap_i64]; omega
  have r1 : x1.tmod 3 = x1 % 3 := tmod_nonneg _ _ h1.1
  obtain ⟨a16, e16⟩ : ∃ a, bits .and .u8 x0 16 = a := ⟨_, rfl⟩
  obtain ⟨a8, e8⟩ : ∃ a, bits .and .u8 x0 8 = a := ⟨_, rfl⟩
  obtain ⟨a4, e4⟩ : ∃ a, bits .and .u8 x0 4 = a := ⟨_, rfl⟩
  obtain ⟨a2, e2⟩ : ∃ a, bits .and .u8 x0 2 = a := ⟨_, rfl⟩
  obtain ⟨a1, e1'⟩ : ∃ a, bits .and .u8 x0 1 = a := ⟨_, rfl⟩
  have ha1 : a1 = 0 ∨ a1 = 1 := by rw [← e1', and1_u8]; omega
  simp only [tree, okT, b_true, b_false, b_var, b_lt, b_le, b_eq, b_not, b_and, b_or, b_beq, b_ite, e_lit, e_var, e_add, e_sub, e_mul, e_rem, e_and, e_ite, e_mx, e_mn, e_wrap, e0, e1, e16, e8, e4, e2, e1', w1, r1]
  obtain ⟨H, eH⟩ : ∃ H, x1 % 3 = H := ⟨_, rfl⟩
  have k1 : H = 0 ∨ H = 1 ∨ H = 2 := by omega
  simp only [eH]
  clear w1 r1 e0 e1 e16 e8 e4 e2 e1' eH h0 h1
  rcases k1 with rfl | rfl | rfl <;> rcases ha1 with rfl | rfl <;> simp [IntKind.wrap_i64] <;> grind

theorem main (W : World) (cells : List Value) (args : Array Value) (hc : AllIs ks cells) (hden : ∀ ext β, SV.denL (envOf cells ext) β svs = args.toList) : IsTrue Try.prog 7 args W := by
  obtain ⟨v, h1, h2⟩ := okT_pick (pure (envOf cells ext0) (hc.wf ext0 rfl) (hc.wf ext0 rfl))
  exact isTrue_of_pick (c := cx) (Hyp.nil mixed) (fun g cs h => (by cases h)) (hden ext0) (by rw [ran]; exact h1) h2

set_option maxRecDepth 100000 in
theorem lifted (os : Os) (started : os.Started) (H : Type) (enc : TypeId × Value → H) :
    ReturnsInHanded {} Try.checked os 7 .any (Rows.offerErrorsSpec.pre6 enc Try.prog Try.f7 Rows.offerErrorsRow.domain false) (Rows.offerErrorsSpec.post enc Try.prog Try.f7 false true false false) :=
  lifted_of (C := Try.checked) (n := 2) (svs := svs) (ks := ks) own started (by kernel_rfl) Try.func7
    (ChangeSpec.witness6 (enc := enc) (C := Try.checked) false ⟨#[], #[.int .u8 0, .int .u8 0], []⟩ 8 (by kernel_rfl) (by kernel_rfl) (by kernel_rfl) (by kernel_rfl))
    rfl rfl (by kernel_rfl) laid (by kernel_rfl) rfl (fun ds h => by
      match ds, h with
      | [d0, d1], _ => exact ⟨rfl, rfl, rfl⟩)
    (by kernel_rfl) (fun W cells args ds p hc hden _ => main W cells args hc hden)
theorem over : Rows.offerErrorsRow.holds Try.pinned (OpenSpec.ofChange Rows.offerErrorsSpec) :=
  OpenClaim.holds_of_wide 7 Try.f7 rfl rfl rfl rfl rfl rfl rfl ⟨rfl, rfl, rfl, rfl, rfl⟩ rfl rfl rfl rfl rfl (by kernel_rfl) Try.func7 (by kernel_rfl)
    (of_decide_eq_true (by kernel_rfl)) (by unfold Func.isWrapper; first | (rw [if_pos (by decide +kernel)]; kernel_rfl) | (rw [if_neg (by decide +kernel)]; exact ⟨rfl, rfl⟩))
    (fun os started H enc _ => lifted os started H enc)
theorem proved : Rows.OfferErrorsSaid := over
#print axioms proved
end Go.Proofs.Ytkglnkfoeedmoab.offerErrors
namespace Go.Proofs.Ytkglnkfoeedmoab
/-- The row, under a short name, for the claim. -/
theorem offerErrors_holds : Rows.OfferErrorsSaid := offerErrors.proved
end Go.Proofs.Ytkglnkfoeedmoab
