/- RuleParts: how its runs are tried, one mode at a time. -/
import Derived.Test.YtkglnkfoeedmoaaSums
namespace Go.Proofs.Ytkglnkfoeedmoaa.Parts
open Go.RowKit Go.Proofs.YtkglnkfoeedmoaaSx Go.Proofs.Ytkglnkfoeedmoaa.Fit Go.Proofs.Ytkglnkfoeedmoaa.Sums
set_option linter.unusedVariables false
set_option linter.unusedSimpArgs false
noncomputable def cx (W : World) : Ctx := { P := Try.prog, ro := 0, glob := [], con := [(20, conTold [pol] 200 fitKinds), (30, conSum shMay vMay), (31, conSum shGoes vGoes), (32, conSum shTakes vTakes)], base := W.heap.size, bw := W }
def svs : List SV := [pol, .agg [.int .u8 (.var 56), .int .u8 (.var 57), .int .u8 (.var 58), .int .u8 (.var 59)], .int .u8 (.var 60)]
def mo : E := .bin .rem .i64 (.wrap .i64 (.var 56)) (.lit 5)
def ro : E := .bin .rem .i64 (.wrap .i64 (.var 57)) (.lit 4)
def cl : E := .bin .rem .i64 (.wrap .i64 (.var 58)) (.lit 4)
def so : E := .bin .rem .i64 (.wrap .i64 (.var 59)) (.lit 5)
def s15 : E := .bin .and .i64 (.wrap .i64 (.var 60)) (.lit 15)
def s31 : E := .bin .and .i64 (.wrap .i64 (.var 60)) (.lit 31)
def asm0 (m z : Int) : Asm := [(.eq (.bin .rem .i64 (.wrap .i64 (.var 56)) (.lit 5)) (.lit m), true), (.eq (.bin .rem .i64 (.wrap .i64 (.var 59)) (.lit 5)) (.lit z), true)]
def asm1 (m z : Int) : Asm := (.or (.eq ro (.lit 0)) (.or (.eq ro (.lit 1)) (.or (.eq ro (.lit 2)) (.eq ro (.lit 3)))), true) :: asm0 m z
def tm (m z : Int) : List (E × E) := [(mo, .lit m), (so, .lit z), (.bin .and .i64 (.bin .shr .i64 s15 cl) (.lit 1), .bin .and .u8 (.bin .shr .u8 (.var 60) cl) (.lit 1)), (.bin .and .i64 (.bin .shr .i64 s15 ro) (.lit 1), .bin .and .u8 (.bin .shr .u8 (.var 60) ro) (.lit 1)),
  (.bin .and .i64 (.bin .shr .i64 s31 cl) (.lit 1), .bin .and .u8 (.bin .shr .u8 (.var 60) cl) (.lit 1))]
def bnd : List (Nat × Iv) := [(56, (0, 255)), (57, (0, 255)), (58, (0, 255)), (59, (0, 255)), (60, (0, 255))]
noncomputable def run (W : World) (m z : Int) : T SV := (execCall 30 20 (cx W) 13 svs [] 0 (asm0 m z)).bind fun x => .leaf x.1
end Go.Proofs.Ytkglnkfoeedmoaa.Parts
