/- StickRuns: its loop, as it is told of: how many samples in a row counted, and what is told of them. -/
import Derived.Test.YtkglnkfoeedmoaaRows
import Derived.Test.YtkglnkfoeedmoaaSy24
namespace Go.Proofs.Ytkglnkfoeedmoaa.Sr
open Go.RowKit Go.Proofs.YtkglnkfoeedmoaaSy
set_option linter.unusedVariables false
set_option linter.unusedSimpArgs false
def st : E := .bin .add .i64 (.lit 1) (.bin .rem .i64 (.wrap .i64 (.var 0)) (.lit 16))
def bd : E := .bin .rem .i64 (.wrap .i64 (.var 1)) (.lit 1001)
def polC (s b : E) : List SV := List.replicate 5 (.int .i64 (.lit 0)) ++ List.replicate 4 .nilslice ++ List.replicate 37 (.int .i64 (.lit 0)) ++ [.int .i64 s, .int .i64 b] ++ List.replicate 8 (.int .i64 (.lit 0))
def L : LoopSpec where
  nt := 103
  nxt := 1
  live := [(2, .slc 2), (7, .bool (.lit true)), (8, .ptr 0 0), (9, .int .i64 (.lit 0)), (10, .int .i64 (.lit 0)), (11, .int .i64 (.lit 0))]
  mem := [(0, polC st bd)]
  head := (List.range 103).map fun i => match i with | 2 => SV.slc 2 | 7 => .bool (.lit true) | 8 => .ptr 0 0 | 9 => .int .i64 (.var 70) | 10 => .int .i64 (.var 71) | 11 => .int .i64 (.var 72) | i => .any (1 + i)
  headM := [(0, polC (.var 73) (.var 74))]
  headA := []
  out := (List.range 103).map fun i => match i with | 7 => SV.bool (.lit true) | i => .any (1 + i)
  outM := []
  outA := []
  ex := .exit 0
theorem fine : L.fine = true := by kernel_rfl
def rk : List RK := [.bool, .int .i64, .int .i64, .int .i64, .int .i64, .bool]
noncomputable def c0 (W : World) : Ctx := { P := Try.prog, ro := 0, glob := [], rows := [(2, rk)], base := W.heap.size, bw := W }
noncomputable def fB (W : World) : St → T (Exit × St) := execCode (execCall 30 19) (c0 W) 30 8 (loopAt Try.prog 8 6)
noncomputable def round (W : World) : T Prj := proj 103 [2, 7, 8, 9, 10, 11] [0] (fB W (headSt L))
noncomputable def cx (W : World) : Ctx := { P := Try.prog, ro := 0, glob := [], rows := [(2, rk)], base := W.heap.size, bw := W, lps := [((8, 6), loopF L)] }
def svs : List SV := [.int .u8 (.var 0), .int .u16 (.var 1), .slc 2]
theorem one_loop : (loopsAt Try.prog 8 6).length = 1 := by kernel_rfl
def PP : List SV := polC (.var 73) (.var 74)
def roundT : T Prj := (.br
 (.lt (.var 72) (.slen 2))
 (.br
 (.lt (.var 72) (.lit 60))
 (.need (.le (.lit 0) (.var 72)) (.need (.le (.lit 0) (.var 72)) (.need (.le (.lit 0) (.var 72)) (.need (.le (.lit 0) (.var 72)) (.br
 (.lt (.var 74) (.app 129 (.var 72)))
 (.need (.le (.lit 0) (.var 72)) (.need (.le (.lit 0) (.var 72)) (.need (.le (.lit 0) (.var 72)) (.br
 (.not (.eq (.app 128 (.var 72)) (.lit 1)))
 (.need (.le (.lit 0) (.var 72)) (.need (.le (.lit 0) (.var 72)) (.br
 (.le (.var 73) (.lit 0))
 (.leaf (.ret, ([(.some (.slc 2)), (.some (.bool (.lit .true))), (.some (.ptr 0 0)), (.some (.int .i64 (.var 70))), (.some (.int .i64 (.lit 0))), (.some (.int .i64 (.var 72)))], [(.some PP)])))
 (.br
 (.not (.eq (.lit 0) (.mn (.lit 0) (.var 73))))
 (.leaf (.ret, ([(.some (.slc 2)), (.some (.bool (.lit .true))), (.some (.ptr 0 0)), (.some (.int .i64 (.var 70))), (.some (.int .i64 (.lit 0))), (.some (.int .i64 (.var 72)))], [(.some PP)])))
 (.leaf (.normal, ([(.some (.slc 2)), (.some (.bool (.lit .true))), (.some (.ptr 0 0)), (.some (.int .i64 (.lit 0))), (.some (.int .i64 (.lit 0))), (.some (.int .i64 (.bin .add .i64 (.var 72) (.lit 1))))], [(.some PP)])))))))
 (.need (.le (.lit 0) (.var 72)) (.need (.le (.lit 0) (.var 72)) (.br
 (.not (.beq (.le (.var 73) (.ite (.le (.var 73) (.mx (.var 70) (.lit 0))) (.var 73) (.bin .add .i64 (.mx (.var 70) (.lit 0)) (.lit 1)))) (.le (.var 73) (.bin .add .i64 (.var 71) (.lit 1)))))
 (.leaf (.ret, ([(.some (.slc 2)), (.some (.bool (.lit .true))), (.some (.ptr 0 0)), (.some (.int .i64 (.var 70))), (.some (.int .i64 (.bin .add .i64 (.var 71) (.lit 1)))), (.some (.int .i64 (.var 72)))], [(.some PP)])))
 (.br
 (.not (.eq (.ite (.le (.var 73) (.mx (.var 70) (.lit 0))) (.var 73) (.bin .add .i64 (.mx (.var 70) (.lit 0)) (.lit 1))) (.mn (.bin .add .i64 (.var 71) (.lit 1)) (.var 73))))
 (.leaf (.ret, ([(.some (.slc 2)), (.some (.bool (.lit .true))), (.some (.ptr 0 0)), (.some (.int .i64 (.var 70))), (.some (.int .i64 (.bin .add .i64 (.var 71) (.lit 1)))), (.some (.int .i64 (.var 72)))], [(.some PP)])))
 (.leaf (.normal, ([(.some (.slc 2)), (.some (.bool (.lit .true))), (.some (.ptr 0 0)), (.some (.int .i64 (.ite (.le (.var 73) (.mx (.var 70) (.lit 0))) (.var 73) (.bin .add .i64 (.mx (.var 70) (.lit 0)) (.lit 1))))), (.some (.int .i64 (.bin .add .i64 (.var 71) (.lit 1)))), (.some (.int .i64 (.bin .add .i64 (.var 72) (.lit 1))))], [(.some PP)])))))))))))
 (.need (.le (.lit 0) (.var 72)) (.need (.le (.lit 0) (.var 72)) (.need (.le (.lit 0) (.var 72)) (.need (.le (.lit 0) (.var 72)) (.br
 (.lt (.app 129 (.var 72)) (.bin .sub .i64 (.lit 0) (.var 74)))
 (.need (.le (.lit 0) (.var 72)) (.need (.le (.lit 0) (.var 72)) (.need (.le (.lit 0) (.var 72)) (.br
 (.not (.eq (.app 128 (.var 72)) (.lit 1)))
 (.need (.le (.lit 0) (.var 72)) (.need (.le (.lit 0) (.var 72)) (.br
 (.le (.var 73) (.lit 0))
 (.leaf (.ret, ([(.some (.slc 2)), (.some (.bool (.lit .true))), (.some (.ptr 0 0)), (.some (.int .i64 (.var 70))), (.some (.int .i64 (.lit 0))), (.some (.int .i64 (.var 72)))], [(.some PP)])))
 (.br
 (.not (.eq (.lit 0) (.mn (.lit 0) (.var 73))))
 (.leaf (.ret, ([(.some (.slc 2)), (.some (.bool (.lit .true))), (.some (.ptr 0 0)), (.some (.int .i64 (.var 70))), (.some (.int .i64 (.lit 0))), (.some (.int .i64 (.var 72)))], [(.some PP)])))
 (.leaf (.normal, ([(.some (.slc 2)), (.some (.bool (.lit .true))), (.some (.ptr 0 0)), (.some (.int .i64 (.lit 0))), (.some (.int .i64 (.lit 0))), (.some (.int .i64 (.bin .add .i64 (.var 72) (.lit 1))))], [(.some PP)])))))))
 (.need (.le (.lit 0) (.var 72)) (.need (.le (.lit 0) (.var 72)) (.br
 (.not (.beq (.le (.var 73) (.ite (.le (.var 73) (.mx (.var 70) (.lit 0))) (.var 73) (.bin .add .i64 (.mx (.var 70) (.lit 0)) (.lit 1)))) (.le (.var 73) (.bin .add .i64 (.var 71) (.lit 1)))))
 (.leaf (.ret, ([(.some (.slc 2)), (.some (.bool (.lit .true))), (.some (.ptr 0 0)), (.some (.int .i64 (.var 70))), (.some (.int .i64 (.bin .add .i64 (.var 71) (.lit 1)))), (.some (.int .i64 (.var 72)))], [(.some PP)])))
 (.br
 (.not (.eq (.ite (.le (.var 73) (.mx (.var 70) (.lit 0))) (.var 73) (.bin .add .i64 (.mx (.var 70) (.lit 0)) (.lit 1))) (.mn (.bin .add .i64 (.var 71) (.lit 1)) (.var 73))))
 (.leaf (.ret, ([(.some (.slc 2)), (.some (.bool (.lit .true))), (.some (.ptr 0 0)), (.some (.int .i64 (.var 70))), (.some (.int .i64 (.bin .add .i64 (.var 71) (.lit 1)))), (.some (.int .i64 (.var 72)))], [(.some PP)])))
 (.leaf (.normal, ([(.some (.slc 2)), (.some (.bool (.lit .true))), (.some (.ptr 0 0)), (.some (.int .i64 (.ite (.le (.var 73) (.mx (.var 70) (.lit 0))) (.var 73) (.bin .add .i64 (.mx (.var 70) (.lit 0)) (.lit 1))))), (.some (.int .i64 (.bin .add .i64 (.var 71) (.lit 1)))), (.some (.int .i64 (.bin .add .i64 (.var 72) (.lit 1))))], [(.some PP)])))))))))))
 (.need (.le (.lit 0) (.var 72)) (.need (.le (.lit 0) (.var 72)) (.need (.le (.lit 0) (.var 72)) (.need (.le (.lit 0) (.var 72)) (.br
 (.lt (.var 74) (.app 130 (.var 72)))
 (.need (.le (.lit 0) (.var 72)) (.need (.le (.lit 0) (.var 72)) (.need (.le (.lit 0) (.var 72)) (.br
 (.not (.eq (.app 128 (.var 72)) (.lit 1)))
 (.need (.le (.lit 0) (.var 72)) (.need (.le (.lit 0) (.var 72)) (.br
 (.le (.var 73) (.lit 0))
 (.leaf (.ret, ([(.some (.slc 2)), (.some (.bool (.lit .true))), (.some (.ptr 0 0)), (.some (.int .i64 (.var 70))), (.some (.int .i64 (.lit 0))), (.some (.int .i64 (.var 72)))], [(.some PP)])))
 (.br
 (.not (.eq (.lit 0) (.mn (.lit 0) (.var 73))))
 (.leaf (.ret, ([(.some (.slc 2)), (.some (.bool (.lit .true))), (.some (.ptr 0 0)), (.some (.int .i64 (.var 70))), (.some (.int .i64 (.lit 0))), (.some (.int .i64 (.var 72)))], [(.some PP)])))
 (.leaf (.normal, ([(.some (.slc 2)), (.some (.bool (.lit .true))), (.some (.ptr 0 0)), (.some (.int .i64 (.lit 0))), (.some (.int .i64 (.lit 0))), (.some (.int .i64 (.bin .add .i64 (.var 72) (.lit 1))))], [(.some PP)])))))))
 (.need (.le (.lit 0) (.var 72)) (.need (.le (.lit 0) (.var 72)) (.br
 (.not (.beq (.le (.var 73) (.ite (.le (.var 73) (.mx (.var 70) (.lit 0))) (.var 73) (.bin .add .i64 (.mx (.var 70) (.lit 0)) (.lit 1)))) (.le (.var 73) (.bin .add .i64 (.var 71) (.lit 1)))))
 (.leaf (.ret, ([(.some (.slc 2)), (.some (.bool (.lit .true))), (.some (.ptr 0 0)), (.some (.int .i64 (.var 70))), (.some (.int .i64 (.bin .add .i64 (.var 71) (.lit 1)))), (.some (.int .i64 (.var 72)))], [(.some PP)])))
 (.br
 (.not (.eq (.ite (.le (.var 73) (.mx (.var 70) (.lit 0))) (.var 73) (.bin .add .i64 (.mx (.var 70) (.lit 0)) (.lit 1))) (.mn (.bin .add .i64 (.var 71) (.lit 1)) (.var 73))))
 (.leaf (.ret, ([(.some (.slc 2)), (.some (.bool (.lit .true))), (.some (.ptr 0 0)), (.some (.int .i64 (.var 70))), (.some (.int .i64 (.bin .add .i64 (.var 71) (.lit 1)))), (.some (.int .i64 (.var 72)))], [(.some PP)])))
 (.leaf (.normal, ([(.some (.slc 2)), (.some (.bool (.lit .true))), (.some (.ptr 0 0)), (.some (.int .i64 (.ite (.le (.var 73) (.mx (.var 70) (.lit 0))) (.var 73) (.bin .add .i64 (.mx (.var 70) (.lit 0)) (.lit 1))))), (.some (.int .i64 (.bin .add .i64 (.var 71) (.lit 1)))), (.some (.int .i64 (.bin .add .i64 (.var 72) (.lit 1))))], [(.some PP)])))))))))))
 (.need (.le (.lit 0) (.var 72)) (.need (.le (.lit 0) (.var 72)) (.need (.le (.lit 0) (.var 72)) (.need (.le (.lit 0) (.var 72)) (.br
 (.lt (.app 130 (.var 72)) (.bin .sub .i64 (.lit 0) (.var 74)))
 (.need (.le (.lit 0) (.var 72)) (.need (.le (.lit 0) (.var 72)) (.need (.le (.lit 0) (.var 72)) (.br
 (.not (.eq (.app 128 (.var 72)) (.lit 1)))
 (.need (.le (.lit 0) (.var 72)) (.need (.le (.lit 0) (.var 72)) (.br
 (.le (.var 73) (.lit 0))
 (.leaf (.ret, ([(.some (.slc 2)), (.some (.bool (.lit .true))), (.some (.ptr 0 0)), (.some (.int .i64 (.var 70))), (.some (.int .i64 (.lit 0))), (.some (.int .i64 (.var 72)))], [(.some PP)])))
 (.br
 (.not (.eq (.lit 0) (.mn (.lit 0) (.var 73))))
 (.leaf (.ret, ([(.some (.slc 2)), (.some (.bool (.lit .true))), (.some (.ptr 0 0)), (.some (.int .i64 (.var 70))), (.some (.int .i64 (.lit 0))), (.some (.int .i64 (.var 72)))], [(.some PP)])))
 (.leaf (.normal, ([(.some (.slc 2)), (.some (.bool (.lit .true))), (.some (.ptr 0 0)), (.some (.int .i64 (.lit 0))), (.some (.int .i64 (.lit 0))), (.some (.int .i64 (.bin .add .i64 (.var 72) (.lit 1))))], [(.some PP)])))))))
 (.need (.le (.lit 0) (.var 72)) (.need (.le (.lit 0) (.var 72)) (.br
 (.not (.beq (.le (.var 73) (.ite (.le (.var 73) (.mx (.var 70) (.lit 0))) (.var 73) (.bin .add .i64 (.mx (.var 70) (.lit 0)) (.lit 1)))) (.le (.var 73) (.bin .add .i64 (.var 71) (.lit 1)))))
 (.leaf (.ret, ([(.some (.slc 2)), (.some (.bool (.lit .true))), (.some (.ptr 0 0)), (.some (.int .i64 (.var 70))), (.some (.int .i64 (.bin .add .i64 (.var 71) (.lit 1)))), (.some (.int .i64 (.var 72)))], [(.some PP)])))
 (.br
 (.not (.eq (.ite (.le (.var 73) (.mx (.var 70) (.lit 0))) (.var 73) (.bin .add .i64 (.mx (.var 70) (.lit 0)) (.lit 1))) (.mn (.bin .add .i64 (.var 71) (.lit 1)) (.var 73))))
 (.leaf (.ret, ([(.some (.slc 2)), (.some (.bool (.lit .true))), (.some (.ptr 0 0)), (.some (.int .i64 (.var 70))), (.some (.int .i64 (.bin .add .i64 (.var 71) (.lit 1)))), (.some (.int .i64 (.var 72)))], [(.some PP)])))
 (.leaf (.normal, ([(.some (.slc 2)), (.some (.bool (.lit .true))), (.some (.ptr 0 0)), (.some (.int .i64 (.ite (.le (.var 73) (.mx (.var 70) (.lit 0))) (.var 73) (.bin .add .i64 (.mx (.var 70) (.lit 0)) (.lit 1))))), (.some (.int .i64 (.bin .add .i64 (.var 71) (.lit 1)))), (.some (.int .i64 (.bin .add .i64 (.var 72) (.lit 1))))], [(.some PP)])))))))))))
 (.need (.le (.lit 0) (.var 72)) (.need (.le (.lit 0) (.var 72)) (.need (.le (.lit 0) (.var 72)) (.need (.le (.lit 0) (.var 72)) (.br
 (.lt (.var 74) (.app 131 (.var 72)))
 (.need (.le (.lit 0) (.var 72)) (.need (.le (.lit 0) (.var 72)) (.need (.le (.lit 0) (.var 72)) (.br
 (.not (.eq (.app 128 (.var 72)) (.lit 1)))
 (.need (.le (.lit 0) (.var 72)) (.need (.le (.lit 0) (.var 72)) (.br
 (.le (.var 73) (.lit 0))
 (.leaf (.ret, ([(.some (.slc 2)), (.some (.bool (.lit .true))), (.some (.ptr 0 0)), (.some (.int .i64 (.var 70))), (.some (.int .i64 (.lit 0))), (.some (.int .i64 (.var 72)))], [(.some PP)])))
 (.br
 (.not (.eq (.lit 0) (.mn (.lit 0) (.var 73))))
 (.leaf (.ret, ([(.some (.slc 2)), (.some (.bool (.lit .true))), (.some (.ptr 0 0)), (.some (.int .i64 (.var 70))), (.some (.int .i64 (.lit 0))), (.some (.int .i64 (.var 72)))], [(.some PP)])))
 (.leaf (.normal, ([(.some (.slc 2)), (.some (.bool (.lit .true))), (.some (.ptr 0 0)), (.some (.int .i64 (.lit 0))), (.some (.int .i64 (.lit 0))), (.some (.int .i64 (.bin .add .i64 (.var 72) (.lit 1))))], [(.some PP)])))))))
 (.need (.le (.lit 0) (.var 72)) (.need (.le (.lit 0) (.var 72)) (.br
 (.not (.beq (.le (.var 73) (.ite (.le (.var 73) (.mx (.var 70) (.lit 0))) (.var 73) (.bin .add .i64 (.mx (.var 70) (.lit 0)) (.lit 1)))) (.le (.var 73) (.bin .add .i64 (.var 71) (.lit 1)))))
 (.leaf (.ret, ([(.some (.slc 2)), (.some (.bool (.lit .true))), (.some (.ptr 0 0)), (.some (.int .i64 (.var 70))), (.some (.int .i64 (.bin .add .i64 (.var 71) (.lit 1)))), (.some (.int .i64 (.var 72)))], [(.some PP)])))
 (.br
 (.not (.eq (.ite (.le (.var 73) (.mx (.var 70) (.lit 0))) (.var 73) (.bin .add .i64 (.mx (.var 70) (.lit 0)) (.lit 1))) (.mn (.bin .add .i64 (.var 71) (.lit 1)) (.var 73))))
 (.leaf (.ret, ([(.some (.slc 2)), (.some (.bool (.lit .true))), (.some (.ptr 0 0)), (.some (.int .i64 (.var 70))), (.some (.int .i64 (.bin .add .i64 (.var 71) (.lit 1)))), (.some (.int .i64 (.var 72)))], [(.some PP)])))
 (.leaf (.normal, ([(.some (.slc 2)), (.some (.bool (.lit .true))), (.some (.ptr 0 0)), (.some (.int .i64 (.ite (.le (.var 73) (.mx (.var 70) (.lit 0))) (.var 73) (.bin .add .i64 (.mx (.var 70) (.lit 0)) (.lit 1))))), (.some (.int .i64 (.bin .add .i64 (.var 71) (.lit 1)))), (.some (.int .i64 (.bin .add .i64 (.var 72) (.lit 1))))], [(.some PP)])))))))))))
 (.need (.le (.lit 0) (.var 72)) (.need (.le (.lit 0) (.var 72)) (.need (.le (.lit 0) (.var 72)) (.need (.le (.lit 0) (.var 72)) (.br
 (.lt (.app 131 (.var 72)) (.bin .sub .i64 (.lit 0) (.var 74)))
 (.need (.le (.lit 0) (.var 72)) (.need (.le (.lit 0) (.var 72)) (.need (.le (.lit 0) (.var 72)) (.br
 (.not (.eq (.app 128 (.var 72)) (.lit 1)))
 (.need (.le (.lit 0) (.var 72)) (.need (.le (.lit 0) (.var 72)) (.br
 (.le (.var 73) (.lit 0))
 (.leaf (.ret, ([(.some (.slc 2)), (.some (.bool (.lit .true))), (.some (.ptr 0 0)), (.some (.int .i64 (.var 70))), (.some (.int .i64 (.lit 0))), (.some (.int .i64 (.var 72)))], [(.some PP)])))
 (.br
 (.not (.eq (.lit 0) (.mn (.lit 0) (.var 73))))
 (.leaf (.ret, ([(.some (.slc 2)), (.some (.bool (.lit .true))), (.some (.ptr 0 0)), (.some (.int .i64 (.var 70))), (.some (.int .i64 (.lit 0))), (.some (.int .i64 (.var 72)))], [(.some PP)])))
 (.leaf (.normal, ([(.some (.slc 2)), (.some (.bool (.lit .true))), (.some (.ptr 0 0)), (.some (.int .i64 (.lit 0))), (.some (.int .i64 (.lit 0))), (.some (.int .i64 (.bin .add .i64 (.var 72) (.lit 1))))], [(.some PP)])))))))
 (.need (.le (.lit 0) (.var 72)) (.need (.le (.lit 0) (.var 72)) (.br
 (.not (.beq (.le (.var 73) (.ite (.le (.var 73) (.mx (.var 70) (.lit 0))) (.var 73) (.bin .add .i64 (.mx (.var 70) (.lit 0)) (.lit 1)))) (.le (.var 73) (.bin .add .i64 (.var 71) (.lit 1)))))
 (.leaf (.ret, ([(.some (.slc 2)), (.some (.bool (.lit .true))), (.some (.ptr 0 0)), (.some (.int .i64 (.var 70))), (.some (.int .i64 (.bin .add .i64 (.var 71) (.lit 1)))), (.some (.int .i64 (.var 72)))], [(.some PP)])))
 (.br
 (.not (.eq (.ite (.le (.var 73) (.mx (.var 70) (.lit 0))) (.var 73) (.bin .add .i64 (.mx (.var 70) (.lit 0)) (.lit 1))) (.mn (.bin .add .i64 (.var 71) (.lit 1)) (.var 73))))
 (.leaf (.ret, ([(.some (.slc 2)), (.some (.bool (.lit .true))), (.some (.ptr 0 0)), (.some (.int .i64 (.var 70))), (.some (.int .i64 (.bin .add .i64 (.var 71) (.lit 1)))), (.some (.int .i64 (.var 72)))], [(.some PP)])))
 (.leaf (.normal, ([(.some (.slc 2)), (.some (.bool (.lit .true))), (.some (.ptr 0 0)), (.some (.int .i64 (.ite (.le (.var 73) (.mx (.var 70) (.lit 0))) (.var 73) (.bin .add .i64 (.mx (.var 70) (.lit 0)) (.lit 1))))), (.some (.int .i64 (.bin .add .i64 (.var 71) (.lit 1)))), (.some (.int .i64 (.bin .add .i64 (.var 72) (.lit 1))))], [(.some PP)])))))))))))
 (.need (.le (.lit 0) (.var 72)) (.need (.le (.lit 0) (.var 72)) (.need (.le (.lit 0) (.var 72)) (.need (.le (.lit 0) (.var 72)) (.br
 (.lt (.var 74) (.app 132 (.var 72)))
 (.need (.le (.lit 0) (.var 72)) (.need (.le (.lit 0) (.var 72)) (.need (.le (.lit 0) (.var 72)) (.br
 (.not (.eq (.app 128 (.var 72)) (.lit 1)))
 (.need (.le (.lit 0) (.var 72)) (.need (.le (.lit 0) (.var 72)) (.br
 (.le (.var 73) (.lit 0))
 (.leaf (.ret, ([(.some (.slc 2)), (.some (.bool (.lit .true))), (.some (.ptr 0 0)), (.some (.int .i64 (.var 70))), (.some (.int .i64 (.lit 0))), (.some (.int .i64 (.var 72)))], [(.some PP)])))
 (.br
 (.not (.eq (.lit 0) (.mn (.lit 0) (.var 73))))
 (.leaf (.ret, ([(.some (.slc 2)), (.some (.bool (.lit .true))), (.some (.ptr 0 0)), (.some (.int .i64 (.var 70))), (.some (.int .i64 (.lit 0))), (.some (.int .i64 (.var 72)))], [(.some PP)])))
 (.leaf (.normal, ([(.some (.slc 2)), (.some (.bool (.lit .true))), (.some (.ptr 0 0)), (.some (.int .i64 (.lit 0))), (.some (.int .i64 (.lit 0))), (.some (.int .i64 (.bin .add .i64 (.var 72) (.lit 1))))], [(.some PP)])))))))
 (.need (.le (.lit 0) (.var 72)) (.need (.le (.lit 0) (.var 72)) (.br
 (.not (.beq (.le (.var 73) (.ite (.le (.var 73) (.mx (.var 70) (.lit 0))) (.var 73) (.bin .add .i64 (.mx (.var 70) (.lit 0)) (.lit 1)))) (.le (.var 73) (.bin .add .i64 (.var 71) (.lit 1)))))
 (.leaf (.ret, ([(.some (.slc 2)), (.some (.bool (.lit .true))), (.some (.ptr 0 0)), (.some (.int .i64 (.var 70))), (.some (.int .i64 (.bin .add .i64 (.var 71) (.lit 1)))), (.some (.int .i64 (.var 72)))], [(.some PP)])))
 (.br
 (.not (.eq (.ite (.le (.var 73) (.mx (.var 70) (.lit 0))) (.var 73) (.bin .add .i64 (.mx (.var 70) (.lit 0)) (.lit 1))) (.mn (.bin .add .i64 (.var 71) (.lit 1)) (.var 73))))
 (.leaf (.ret, ([(.some (.slc 2)), (.some (.bool (.lit .true))), (.some (.ptr 0 0)), (.some (.int .i64 (.var 70))), (.some (.int .i64 (.bin .add .i64 (.var 71) (.lit 1)))), (.some (.int .i64 (.var 72)))], [(.some PP)])))
 (.leaf (.normal, ([(.some (.slc 2)), (.some (.bool (.lit .true))), (.some (.ptr 0 0)), (.some (.int .i64 (.ite (.le (.var 73) (.mx (.var 70) (.lit 0))) (.var 73) (.bin .add .i64 (.mx (.var 70) (.lit 0)) (.lit 1))))), (.some (.int .i64 (.bin .add .i64 (.var 71) (.lit 1)))), (.some (.int .i64 (.bin .add .i64 (.var 72) (.lit 1))))], [(.some PP)])))))))))))
 (.need (.le (.lit 0) (.var 72)) (.need (.le (.lit 0) (.var 72)) (.need (.le (.lit 0) (.var 72)) (.need (.le (.lit 0) (.var 72)) (.br
 (.not (.lt (.app 132 (.var 72)) (.bin .sub .i64 (.lit 0) (.var 74))))
 (.need (.le (.lit 0) (.var 72)) (.need (.le (.lit 0) (.var 72)) (.br
 (.le (.var 73) (.lit 0))
 (.leaf (.ret, ([(.some (.slc 2)), (.some (.bool (.lit .true))), (.some (.ptr 0 0)), (.some (.int .i64 (.var 70))), (.some (.int .i64 (.lit 0))), (.some (.int .i64 (.var 72)))], [(.some PP)])))
 (.br
 (.not (.eq (.lit 0) (.mn (.lit 0) (.var 73))))
 (.leaf (.ret, ([(.some (.slc 2)), (.some (.bool (.lit .true))), (.some (.ptr 0 0)), (.some (.int .i64 (.var 70))), (.some (.int .i64 (.lit 0))), (.some (.int .i64 (.var 72)))], [(.some PP)])))
 (.leaf (.normal, ([(.some (.slc 2)), (.some (.bool (.lit .true))), (.some (.ptr 0 0)), (.some (.int .i64 (.lit 0))), (.some (.int .i64 (.lit 0))), (.some (.int .i64 (.bin .add .i64 (.var 72) (.lit 1))))], [(.some PP)])))))))
 (.need (.le (.lit 0) (.var 72)) (.need (.le (.lit 0) (.var 72)) (.need (.le (.lit 0) (.var 72)) (.br
 (.not (.eq (.app 128 (.var 72)) (.lit 1)))
 (.need (.le (.lit 0) (.var 72)) (.need (.le (.lit 0) (.var 72)) (.br
 (.le (.var 73) (.lit 0))
 (.leaf (.ret, ([(.some (.slc 2)), (.some (.bool (.lit .true))), (.some (.ptr 0 0)), (.some (.int .i64 (.var 70))), (.some (.int .i64 (.lit 0))), (.some (.int .i64 (.var 72)))], [(.some PP)])))
 (.br
 (.not (.eq (.lit 0) (.mn (.lit 0) (.var 73))))
 (.leaf (.ret, ([(.some (.slc 2)), (.some (.bool (.lit .true))), (.some (.ptr 0 0)), (.some (.int .i64 (.var 70))), (.some (.int .i64 (.lit 0))), (.some (.int .i64 (.var 72)))], [(.some PP)])))
 (.leaf (.normal, ([(.some (.slc 2)), (.some (.bool (.lit .true))), (.some (.ptr 0 0)), (.some (.int .i64 (.lit 0))), (.some (.int .i64 (.lit 0))), (.some (.int .i64 (.bin .add .i64 (.var 72) (.lit 1))))], [(.some PP)])))))))
 (.need (.le (.lit 0) (.var 72)) (.need (.le (.lit 0) (.var 72)) (.br
 (.not (.beq (.le (.var 73) (.ite (.le (.var 73) (.mx (.var 70) (.lit 0))) (.var 73) (.bin .add .i64 (.mx (.var 70) (.lit 0)) (.lit 1)))) (.le (.var 73) (.bin .add .i64 (.var 71) (.lit 1)))))
 (.leaf (.ret, ([(.some (.slc 2)), (.some (.bool (.lit .true))), (.some (.ptr 0 0)), (.some (.int .i64 (.var 70))), (.some (.int .i64 (.bin .add .i64 (.var 71) (.lit 1)))), (.some (.int .i64 (.var 72)))], [(.some PP)])))
 (.br
 (.not (.eq (.ite (.le (.var 73) (.mx (.var 70) (.lit 0))) (.var 73) (.bin .add .i64 (.mx (.var 70) (.lit 0)) (.lit 1))) (.mn (.bin .add .i64 (.var 71) (.lit 1)) (.var 73))))
 (.leaf (.ret, ([(.some (.slc 2)), (.some (.bool (.lit .true))), (.some (.ptr 0 0)), (.some (.int .i64 (.var 70))), (.some (.int .i64 (.bin .add .i64 (.var 71) (.lit 1)))), (.some (.int .i64 (.var 72)))], [(.some PP)])))
 (.leaf (.normal, ([(.some (.slc 2)), (.some (.bool (.lit .true))), (.some (.ptr 0 0)), (.some (.int .i64 (.ite (.le (.var 73) (.mx (.var 70) (.lit 0))) (.var 73) (.bin .add .i64 (.mx (.var 70) (.lit 0)) (.lit 1))))), (.some (.int .i64 (.bin .add .i64 (.var 71) (.lit 1)))), (.some (.int .i64 (.bin .add .i64 (.var 72) (.lit 1))))], [(.some PP)])))))))))))))))))))))))))))))))))))))))))))))))))))
 (.leaf ((.exit 0), ([(.some (.slc 2)), (.some (.bool (.lit .true))), (.some (.ptr 0 0)), (.some (.int .i64 (.var 70))), (.some (.int .i64 (.var 71))), (.some (.int .i64 (.var 72)))], [(.some PP)]))))
 (.leaf ((.exit 0), ([(.some (.slc 2)), (.some (.bool (.lit .true))), (.some (.ptr 0 0)), (.some (.int .i64 (.var 70))), (.some (.int .i64 (.var 71))), (.some (.int .i64 (.var 72)))], [(.some PP)]))))
theorem round_is (W : World) : round W = roundT := by kernel_rfl
def tree : T SV := (.leaf (.bool (.lit .true)))
theorem ran (W : World) : ((execCall 30 20 (cx W) 8 svs [] 0 []).bind fun x => .leaf x.1) = tree := by kernel_rfl
theorem head_get {i : Nat} {v : SV} (h : L.head[i]? = some v) (hn : ∀ n, v ≠ SV.any n) :
    (i = 2 ∧ v = .slc 2) ∨ (i = 7 ∧ v = .bool (.lit true)) ∨ (i = 8 ∧ v = .ptr 0 0) ∨ (i = 9 ∧ v = .int .i64 (.var 70)) ∨ (i = 10 ∧ v = .int .i64 (.var 71)) ∨ (i = 11 ∧ v = .int .i64 (.var 72)) := by
  simp only [L, List.getElem?_map] at h
  have hi : i < 103 := by
    rcases Nat.lt_or_ge i 103 with h' | h'
    · exact h'
    · rw [List.getElem?_eq_none (by simpa using h')] at h; cases h
  rw [List.getElem?_range hi] at h
  simp only [Option.map_some, Option.some.injEq] at h
  split at h
  · exact .inl ⟨rfl, h.symm⟩
  · exact .inr (.inl ⟨rfl, h.symm⟩)
  · exact .inr (.inr (.inl ⟨rfl, h.symm⟩))
  · exact .inr (.inr (.inr (.inl ⟨rfl, h.symm⟩)))
  · exact .inr (.inr (.inr (.inr (.inl ⟨rfl, h.symm⟩))))
  · exact .inr (.inr (.inr (.inr (.inr ⟨rfl, h.symm⟩))))
  · exact absurd h.symm (hn _)
theorem out_get {i : Nat} {v : SV} (h : L.out[i]? = some v) (hn : ∀ n, v ≠ SV.any n) : i = 7 ∧ v = .bool (.lit true) := by
  simp only [L, List.getElem?_map] at h
  have hi : i < 103 := by
    rcases Nat.lt_or_ge i 103 with h' | h'
    · exact h'
    · rw [List.getElem?_eq_none (by simpa using h')] at h; cases h
  rw [List.getElem?_range hi] at h
  simp only [Option.map_some, Option.some.injEq] at h
  split at h
  · exact ⟨rfl, h.symm⟩
  · exact absurd h.symm (hn _)
theorem nth_get {s : List SV} {n : Nat} {o : Option SV} (h : nthSV s n = o) : s[n]? = o := by rw [← nthSV_eq]; exact h
section
variable (ι : Env) (B S : Int)
/-- Sample i counts. -/
def farP (i : Nat) : Prop := (B < ι.fn 129 i ∨ ι.fn 129 i < -B) ∨ (B < ι.fn 130 i ∨ ι.fn 130 i < -B) ∨ (B < ι.fn 131 i ∨ ι.fn 131 i < -B) ∨ (B < ι.fn 132 i ∨ ι.fn 132 i < -B)
open Classical in
/-- How many in a row. -/
noncomputable def row : Nat → Int
  | 0 => 0
  | i + 1 => if farP ι B i ∧ ι.fn 128 i = 1 then row i + 1 else 0
theorem row_in : ∀ i : Nat, 0 ≤ row ι B i ∧ row ι B i ≤ i
  | 0 => by simp [row]
  | i + 1 => by
    have := row_in i
    unfold row
    split <;> omega
def runOf (r : Int) : Int := if S ≤ r then S else r
/-- The names at the head of round i. -/
noncomputable def atR (i : Nat) : Env := { ι with int := fun n => match n with | 70 => runOf S (row ι B i) | 71 => row ι B i | 72 => (i : Int) | 73 => S | 74 => B | n => ι.int n }
end
def QQ (ι' : Env) (i n : Nat) (r1 r0 : Int) : Prj → Prop
  | (.normal, [some (.slc 2), some (.bool (.lit true)), some (.ptr 0 0), some (.int .i64 a), some (.int .i64 b), some (.int .i64 c)], [some m]) => i < n ∧ a.den ι' = r1 ∧ b.den ι' = r0 ∧ c.den ι' = (i : Int) + 1 ∧ m = PP
  | (.exit 0, [_, some (.bool (.lit true)), _, _, _, _], _) => ¬ i < n
  | _ => False
theorem e_app {ι : Env} {f : Nat} {a : E} : (E.app f a).den ι = ι.fn f (a.den ι) := rfl
set_option maxHeartbeats 8000000 in
set_option maxRecDepth 100000 in
theorem round_ok' {ι : Env} {B S : Int} {n i : Nat} (hB : 0 ≤ B ∧ B ≤ 1000) (hS : 1 ≤ S ∧ S ≤ 16) (hn : n = min (ι.sl 2) 60) (hi : i ≤ n) (hx : ∀ j, 129 ≤ j → j ≤ 132 → i < n → -9223372036854775808 ≤ ι.fn j i ∧ ι.fn j i ≤ 9223372036854775807) :
    okP (atR ι B S i) (QQ (atR ι B S i) i n (runOf S (row ι B (i + 1))) (row ι B (i + 1))) roundT := by
  have r0 := row_in ι B i
  have hr1 : farP ι B i ∧ ι.fn 128 i = 1 → row ι B (i + 1) = row ι B i + 1 := fun h => by rw [row, if_pos h]
  have hr2 : ¬ (farP ι B i ∧ ι.fn 128 i = 1) → row ι B (i + 1) = 0 := fun h => by rw [row, if_neg h]
  unfold farP at hr1 hr2
  have x1 := hx 129 (by omega) (by omega)
  have x2 := hx 130 (by omega) (by omega)
  have x3 := hx 131 (by omega) (by omega)
  have x4 := hx 132 (by omega) (by omega)
  have v70 : (atR ι B S i).int 70 = runOf S (row ι B i) := rfl
  have v71 : (atR ι B S i).int 71 = row ι B i := rfl
  have v72 : (atR ι B S i).int 72 = (i : Int) := rfl
  have v73 : (atR ι B S i).int 73 = S := rfl
  have v74 : (atR ι B S i).int 74 = B := rfl
  have f : ∀ j z, (atR ι B S i).fn j z = ι.fn j z := fun _ _ => rfl
  have l : (atR ι B S i).sl 2 = ι.sl 2 := rfl
  simp only [roundT, okP, QQ, b_true, b_false, b_lt, b_le, b_eq, b_not, b_and, b_or, b_beq, b_ite, e_lit, e_var, e_add, e_sub, e_mx, e_mn, e_ite, e_slen, e_app, v70, v71, v72, v73, v74, f, l]
  generalize ι.fn 128 i = V at *
  generalize ι.fn 129 i = X1 at *
  generalize ι.fn 130 i = X2 at *
  generalize ι.fn 131 i = X3 at *
  generalize ι.fn 132 i = X4 at *
  generalize row ι B (i + 1) = R1 at *
  generalize row ι B i = R0 at *
  generalize ι.sl 2 = len at *
  simp only [IntKind.wrap_i64, runOf]
  have hi60 : i ≤ 60 := by omega
  clear hx f l v70 v71 v72 v73 v74
  repeat' (first | apply And.intro | intro _)
  all_goals (first | exact True.intro | omega | (split <;> omega) | (split <;> split <;> omega) | rfl | skip)
set_option maxRecDepth 100000 in
set_option maxHeartbeats 4000000 in
theorem loop_ok {ι : Env} {W : World} {B S : Int} (hm : Try.prog.follows .mixedOrders = true) (eS : st.den ι = S) (eB : bd.den ι = B) (hB : 0 ≤ B ∧ B ≤ 1000) (hS : 1 ≤ S ∧ S ≤ 16) (hR : RowsOk (c0 W) ι)
    (hx : ∀ i j : Nat, 129 ≤ j → j ≤ 132 → i < ι.sl 2 → -9223372036854775808 ≤ ι.fn j i ∧ ι.fn j i ≤ 9223372036854775807) (w0 : World) (X : Nat → Prop) :
    CodeOk { cx W with ro := 0 } w0 X ι (.loop (loopAt Try.prog 8 6)) (loopF L) := by
  obtain ⟨n, hn⟩ : ∃ n, n = min (ι.sl 2) 60 := ⟨_, rfl⟩
  have q9 : ∀ i, (atR ι B S i).int 70 = runOf S (row ι B i) := fun _ => rfl
  have q10 : ∀ i, (atR ι B S i).int 71 = row ι B i := fun _ => rfl
  have q11 : ∀ i, (atR ι B S i).int 72 = (i : Int) := fun _ => rfl
  refine loop_told (fB := fB W) rfl fine (fun ι' => ∃ i, i ≤ n ∧ ι' = atR ι B S i) (fun ι' => n - (ι'.int 72).toNat) ?_ ?_ ?_
  · rintro ι' ⟨i, _, rfl⟩
    have hR' : RowsOk (c0 W) (atR ι B S i) := hR
    exact round_ok (c := c0 W) (c1 := { cx W with ro := 0 }) hm rfl rfl hR' rfl rfl rfl rfl rfl w0 X
  · refine ⟨atR ι B S 0, ⟨0, Nat.zero_le _, rfl⟩, AsmOk.nil, fun i v hv hna => ?_, fun b cs hb => ?_⟩
    · rcases head_get hv hna with ⟨rfl, rfl⟩ | ⟨rfl, rfl⟩ | ⟨rfl, rfl⟩ | ⟨rfl, rfl⟩ | ⟨rfl, rfl⟩ | ⟨rfl, rfl⟩
      · exact ⟨.slc 2, by simp [L], fun _ => rfl⟩
      · exact ⟨.bool (.lit true), by simp [L], fun _ => rfl⟩
      · exact ⟨.ptr 0 0, by simp [L], fun _ => rfl⟩
      · refine ⟨.int .i64 (.lit 0), by simp [L], fun β => ?_⟩
        have e : runOf S (row ι B 0) = 0 := by
          show (if S ≤ 0 then S else 0) = 0
          rw [if_neg (by omega)]
        simp only [SV.den, e_var, e_lit, q9, e]
      · exact ⟨.int .i64 (.lit 0), by simp [L], fun β => by simp only [SV.den, e_var, e_lit, q10]; rfl⟩
      · exact ⟨.int .i64 (.lit 0), by simp [L], fun β => by simp only [SV.den, e_var, e_lit, q11]; rfl⟩
    · simp only [L, List.mem_cons, Prod.mk.injEq, List.not_mem_nil, or_false] at hb
      obtain ⟨rfl, rfl⟩ := hb
      refine ⟨polC st bd, by simp [L], fun β => ?_⟩
      have e1 : (E.var 73).den (atR ι B S 0) = st.den ι := by rw [eS]; rfl
      have e2 : (E.var 74).den (atR ι B S 0) = bd.den ι := by rw [eB]; rfl
      simp only [polC, denL_append, SV.denL, SV.den, e1, e2]
      rfl
  · rintro ι' ⟨i, hi, rfl⟩
    have hp := round_ok' (ι := ι) hB hS hn hi (fun j h1 h2 h3 => hx i j h1 h2 (by omega))
    obtain ⟨⟨e, vs, ms⟩, hpk, hQ⟩ := okP_pick hp
    have hpick : (proj 103 [2, 7, 8, 9, 10, 11] [0] (fB W (headSt L))).pick (atR ι B S i) = some (e, vs, ms) := (congrArg (T.pick (atR ι B S i)) (round_is W)).trans hpk
    obtain ⟨s', hs, hlen, hsl, hbl⟩ := proj_pick hpick
    have hsl : [nthSV s'.tmps 2, nthSV s'.tmps 7, nthSV s'.tmps 8, nthSV s'.tmps 9, nthSV s'.tmps 10, nthSV s'.tmps 11] = vs := hsl
    have hbl : [mget 0 s'.mem] = ms := hbl
    unfold QQ at hQ
    split at hQ
    · rename_i a b c m heq
      injection heq with e1 e2
      injection e2 with e2 e3
      subst e1
      rw [e2] at hsl
      rw [e3] at hbl
      simp only [List.cons.injEq, and_true] at hsl hbl
      obtain ⟨g2, g7, g8, g9, g10, g11⟩ := hsl
      obtain ⟨hin, h9, h10, h11, hm0⟩ := hQ
      rw [hm0] at hbl
      refine ⟨.normal, s', hs, .inl ⟨rfl, atR ι B S (i + 1), ⟨i + 1, hin, rfl⟩, ?_, AsmOk.nil, ⟨hlen, fun j v hv hna => ?_, fun b' cs hb => ?_⟩⟩⟩
      · show n - (((i + 1 : Nat) : Int)).toNat < n - ((i : Int)).toNat
        omega
      · rcases head_get hv hna with ⟨rfl, rfl⟩ | ⟨rfl, rfl⟩ | ⟨rfl, rfl⟩ | ⟨rfl, rfl⟩ | ⟨rfl, rfl⟩ | ⟨rfl, rfl⟩
        · exact ⟨_, nth_get g2, fun _ => rfl⟩
        · exact ⟨_, nth_get g7, fun _ => rfl⟩
        · exact ⟨_, nth_get g8, fun _ => rfl⟩
        · exact ⟨_, nth_get g9, fun β => by simp only [SV.den, h9, e_var, q9]⟩
        · exact ⟨_, nth_get g10, fun β => by simp only [SV.den, h10, e_var, q10]⟩
        · exact ⟨_, nth_get g11, fun β => by simp only [SV.den, h11, e_var, q11]; rfl⟩
      · simp only [L, List.mem_cons, Prod.mk.injEq, List.not_mem_nil, or_false] at hb
        obtain ⟨rfl, rfl⟩ := hb
        exact ⟨_, mget_mem _ _ _ hbl, fun β => rfl⟩
    · rename_i x1 x2 x3 x4 x5 x6 heq
      injection heq with e1 e2
      injection e2 with e2 e3
      subst e1
      rw [e2] at hsl
      simp only [List.cons.injEq, and_true] at hsl
      refine ⟨.exit 0, s', hs, .inr ⟨rfl, (by intro h; cases h), AsmOk.nil, ⟨hlen, fun j v hv hna => ?_, fun b' cs hb => ?_⟩⟩⟩
      · obtain ⟨rfl, rfl⟩ := out_get hv hna
        exact ⟨_, nth_get hsl.2.1, fun _ => rfl⟩
      · simp [L] at hb
    · exact hQ.elim
end Go.Proofs.Ytkglnkfoeedmoaa.Sr
