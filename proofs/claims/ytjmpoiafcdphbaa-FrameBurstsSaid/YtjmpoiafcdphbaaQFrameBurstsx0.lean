/- The walks of FrameBursts (print.sh wrote the lines; bytes.IndexByte and slices.Clone are ours). -/
import Derived.Test.YtjmpoiafcdphbaaProg
import Derived.Below
import Derived.Deep.Draws
import Derived.Deep.AppendLies
import Derived.Maps.AppendAt
import Derived.OwnWalk
import Derived.Laws.BytesArg
import Derived.Laws.MakeOwn
import Derived.Laws.OwnMore
import Derived.Deep.OwnRows
import Derived.Tactics
import Derived.Lib.ConvBytes
import Derived.Laws.Slices
import Derived.WalkKit
import Derived.KernelRfl
import Derived.RowKit3
import Derived.Deep.LoopGhost
import Derived.Deep.QuietTactic
import Derived.BigQuiet
import Derived.WideLaws
import Derived.Deep.DeepCutAuto
import Derived.Deep.CutBlock
import Derived.Deep.RegionHeld3
import Derived.Laws.Rows
import Derived.Lib.AppendStr
import Derived.ArgAppend
import Derived.Laws.IdiomCopy
import Derived.OrdersHeld
import Derived.Laws.BitsLemmas
import Derived.RowKit
import Derived.Test.YtjmpoiafcdphbaaWWords
import Derived.Test.YtjmpoiafcdphbaaWLast
import Derived.Test.YtjmpoiafcdphbaaWTab
import Derived.Test.YtjmpoiafcdphbaaWFour
import Derived.Test.YtjmpoiafcdphbaaWQPut
import Derived.Test.YtjmpoiafcdphbaaWApart
import Derived.Test.YtjmpoiafcdphbaaWArr
import Derived.Test.YtjmpoiafcdphbaaWZeros
import Derived.Test.YtjmpoiafcdphbaaWFoot
import Derived.Test.YtjmpoiafcdphbaaWKept
import Derived.Test.YtjmpoiafcdphbaaWShare
import Derived.Test.YtjmpoiafcdphbaaWN
import Derived.Test.YtjmpoiafcdphbaaWFootNe
import Derived.Test.YtjmpoiafcdphbaaWAt
import Derived.Test.YtjmpoiafcdphbaaWEqStruct
import Derived.Test.YtjmpoiafcdphbaaWRepsOne
import Derived.Test.YtjmpoiafcdphbaaWInv
import Derived.Test.YtjmpoiafcdphbaaWInvWords
import Derived.Test.YtjmpoiafcdphbaaWGuard
import Derived.Test.YtjmpoiafcdphbaaWNEv
import Derived.Test.YtjmpoiafcdphbaaWMore
namespace Go.Proofs.Ytjmpoiafcdphbaa.PFrameBursts
open Go.RowKit Go.Proofs.YtjmpoiafcdphbaaW.PrintWords Go.Proofs.YtjmpoiafcdphbaaW.PrintLast Go.Proofs.YtjmpoiafcdphbaaW.PrintMore
attribute [local go_sem] max2_int min2_int max_two min_two max_three min_three max_four min_four   -- for this text's walks alone
set_option linter.unusedVariables false
set_option linter.unusedSimpArgs false



def errW : Option Int → Value
  | none => .nilIface
  | some c => .iface 0 (.int .i64 c)
theorem errW_none : errW none = .nilIface := rfl
theorem errW_some (c : Int) : errW (some c) = .iface 0 (.int .i64 c) := rfl

theorem info5 : (Try.prog.info? 5).map (fun i => (i.zero, i.size, i.bytes)) = some (some (.int .u8 0), 1, 1) := by kernel_rfl
-- the values' own types

end Go.Proofs.Ytjmpoiafcdphbaa.PFrameBursts
