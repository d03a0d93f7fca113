/- LimitHolds: its second loop, as it is told of. -/
import Derived.Test.YtkglnkfoeedmoabFitOrder
import Derived.Test.YtkglnkfoeedmoabSx23
namespace Go.Proofs.Ytkglnkfoeedmoab.Lh
open Go.RowKit Go.Proofs.YtkglnkfoeedmoabSx Go.Proofs.Ytkglnkfoeedmoab.Fit
set_option linter.unusedVariables false
set_option linter.unusedSimpArgs false
def polR : List SV := [(.int .i64 (.var 200)), (.int .i64 (.var 201)), (.int .i64 (.var 202)), (.int .i64 (.var 203)), (.int .i64 (.var 204)), (.opq 7), (.opq 8), (.opq 9), (.opq 10)] ++ ((List.range 47).map fun i => SV.int .i64 (.var (209 + i)))
def nw (i : Nat) : E := .bin .rem .i64 (.var i) (.lit 1000)
def up (e : E) (i : Nat) : E := .mx (.mx e (nw i)) (.bin .sub .i64 (.lit 0) (nw i))
def far : E := up (up (up (up (.lit 0) 61) 62) 63) 64
def xHead : List SV := [.int .i64 (.var 56), .int .i64 (.lit 0), .int .i64 (.lit 0), .int .i64 (.lit 0), .int .i64 (.lit 0), .int .i64 (.var 72), .int .i64 (.var 73), .int .i64 (.var 74), .int .i64 (.var 75), .int .i64 (.var 76), .int .i64 (.lit 4), .int .i64 (.lit 0)]
def xIn : List SV := [.int .i64 (.var 56), .int .i64 (.lit 0), .int .i64 (.lit 0), .int .i64 (.lit 0), .int .i64 (.lit 0), .int .i64 (nw 61), .int .i64 (nw 62), .int .i64 (nw 63), .int .i64 (nw 64), .int .i64 (.lit 3), .int .i64 (.lit 4), .int .i64 (.lit 0)]
def xOut : List SV := [.int .i64 (.var 56), .int .i64 (.lit 0), .int .i64 (.lit 0), .int .i64 (.lit 0), .int .i64 (.lit 0), .int .i64 (.lit 0), .int .i64 (.lit 0), .int .i64 (.lit 0), .int .i64 (.lit 0), .int .i64 (.ite (.lt (.lit 0) far) (.lit 4) (.lit 3)), .int .i64 (.lit 4), .int .i64 (.lit 0)]
def L : LoopSpec where
  nt := 108
  nxt := 61
  live := [(5, .bool (.lit true)), (6, .ptr 58 0), (7, .int .i64 far), (10, .ptr 60 0), (11, .int .i64 (.lit 0))]
  mem := [(60, xIn), (58, polR)]
  head := (List.range 108).map fun i => match i with | 5 => SV.bool (.lit true) | 6 => .ptr 58 0 | 7 => .int .i64 (.var 70) | 10 => .ptr 60 0 | 11 => .int .i64 (.var 71) | i => .any (61 + i)
  headM := [(60, xHead), (58, polR)]
  headA := []
  out := (List.range 108).map fun i => match i with | 5 => SV.bool (.lit true) | 6 => .ptr 58 0 | 7 => .int .i64 far | 10 => .ptr 60 0 | i => .any (61 + i)
  outM := [(60, xOut), (58, polR)]
  outA := []
  ex := .exit 2
theorem fine : L.fine = true := by kernel_rfl
noncomputable def c0 (W : World) : Ctx := { P := Try.prog, ro := 0, glob := [], base := W.heap.size, bw := W }
noncomputable def fB (W : World) : St → T (Exit × St) := execCode (execCall 30 19) (c0 W) 30 6 (loopAt Try.prog 6 14)
noncomputable def round (W : World) : T Prj := proj 108 [5, 6, 7, 10, 11] [60, 58] (fB W (headSt L))
def tw (i : Nat) : E := (.ite (.lt (.var 254) (.lit 1)) (.var i) (.ite (.lt (.var i) (.lit 0)) (.ite (.lt (.wrap .u64 (.var 254)) (.bin .sub .u64 (.lit 0) (.wrap .u64 (.var i)))) (.bin .add .i64 (.var i) (.var 254)) (.lit 0)) (.ite (.lt (.lit 0) (.var i)) (.ite (.lt (.wrap .u64 (.var 254)) (.bin .sub .u64 (.wrap .u64 (.var i)) (.lit 0))) (.bin .sub .i64 (.var i) (.var 254)) (.lit 0)) (.lit 0))))
def xNew : List SV := [(.int .i64 (.var 56)), (.int .i64 (.lit 0)), (.int .i64 (.lit 0)), (.int .i64 (.lit 0)), (.int .i64 (.lit 0)), (.int .i64 (tw 72)), (.int .i64 (tw 73)), (.int .i64 (tw 74)), (.int .i64 (tw 75)), (.int .i64 (.ite (.not (.and (.eq (tw 72) (.var 72)) (.and (.eq (tw 73) (.var 73)) (.and (.eq (tw 74) (.var 74)) (.eq (tw 75) (.var 75)))))) (.lit 4) (.var 76))), (.int .i64 (.lit 4)), (.int .i64 (.lit 0))]
def roundT : T Prj := (.need (.not (.eq (.var 254) (.lit 0))) (.br
 (.lt (.var 71) (.bin .quo .i64 (.bin .sub .i64 (.bin .add .i64 (.var 70) (.var 254)) (.lit 1)) (.var 254)))
 (.br
 (.and (.eq (.var 72) (.lit 0)) (.and (.eq (.var 73) (.lit 0)) (.and (.eq (.var 74) (.lit 0)) (.eq (.var 75) (.lit 0)))))
 (.leaf (.ret, ([(.some (.bool (.lit .true))), (.some (.ptr 58 0)), (.some (.int .i64 (.var 70))), (.some (.ptr 60 0)), (.some (.int .i64 (.var 71)))], [(.some xHead), (.some polR)])))
 (.leaf (.normal, ([(.some (.bool (.lit .true))), (.some (.ptr 58 0)), (.some (.int .i64 (.var 70))), (.some (.ptr 60 0)), (.some (.int .i64 (.bin .add .i64 (.var 71) (.lit 1))))], [(.some xNew), (.some polR)]))))
 (.leaf ((.exit 2), ([(.some (.bool (.lit .true))), (.some (.ptr 58 0)), (.some (.int .i64 (.var 70))), (.some (.ptr 60 0)), (.some (.int .i64 (.var 71)))], [(.some xHead), (.some polR)])))))
theorem round_is (W : World) : round W = roundT := by kernel_rfl
noncomputable def cx (W : World) : Ctx := { P := Try.prog, ro := 0, glob := [], con := [(13, conTold [pol] 200 fitKinds)], base := W.heap.size, bw := W, lps := [((6, 14), loopF L)] }
def svs : List SV := [pol, .agg [(.int .i64 (.var 56)), (.int .i64 (.var 57)), (.int .i64 (.var 58)), (.int .i64 (.var 59)), (.int .i64 (.var 60)), (.int .i64 (.var 61)), (.int .i64 (.var 62)), (.int .i64 (.var 63)), (.int .i64 (.var 64)), (.int .i64 (.var 65)), (.int .i64 (.var 66)), (.int .i64 (.var 67))]]
def tree : T SV := (.leaf (.bool (.beq (.lt (.lit 0) (.mx (.mx (.mx (.mx (.mx (.mx (.mx (.mx (.lit 0) (.bin .rem .i64 (.var 61) (.lit 1000))) (.bin .sub .i64 (.lit 0) (.bin .rem .i64 (.var 61) (.lit 1000)))) (.bin .rem .i64 (.var 62) (.lit 1000))) (.bin .sub .i64 (.lit 0) (.bin .rem .i64 (.var 62) (.lit 1000)))) (.bin .rem .i64 (.var 63) (.lit 1000))) (.bin .sub .i64 (.lit 0) (.bin .rem .i64 (.var 63) (.lit 1000)))) (.bin .rem .i64 (.var 64) (.lit 1000))) (.bin .sub .i64 (.lit 0) (.bin .rem .i64 (.var 64) (.lit 1000))))) (.lt (.lit 0) (.mx (.mx (.mx (.mx (.mx (.mx (.mx (.mx (.lit 0) (.bin .rem .i64 (.var 61) (.lit 1000))) (.bin .sub .i64 (.lit 0) (.bin .rem .i64 (.var 61) (.lit 1000)))) (.bin .rem .i64 (.var 62) (.lit 1000))) (.bin .sub .i64 (.lit 0) (.bin .rem .i64 (.var 62) (.lit 1000)))) (.bin .rem .i64 (.var 63) (.lit 1000))) (.bin .sub .i64 (.lit 0) (.bin .rem .i64 (.var 63) (.lit 1000)))) (.bin .rem .i64 (.var 64) (.lit 1000))) (.bin .sub .i64 (.lit 0) (.bin .rem .i64 (.var 64) (.lit 1000))))))))
theorem ran (W : World) : ((execCall 30 20 (cx W) 6 svs [] 0 []).bind fun x => .leaf x.1) = tree := by kernel_rfl
theorem one_loop : (loopsAt Try.prog 6 14).length = 1 := by kernel_rfl
end Go.Proofs.Ytkglnkfoeedmoab.Lh
