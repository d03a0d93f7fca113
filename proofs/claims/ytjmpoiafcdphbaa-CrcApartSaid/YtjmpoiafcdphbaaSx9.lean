/- What the executor says of a region, of code, of a call is so. -/
import Derived.Test.YtjmpoiafcdphbaaSx8
namespace Go.Proofs.YtjmpoiafcdphbaaSx
open Go.RowKit
set_option linter.unusedVariables false
set_option linter.unusedSimpArgs false

section
variable {c : Ctx} {w0 : World} {X : Nat → Prop} {ι : Env} {β : Bt} {mem : Mem} {nxt : Nat} {w : World} {s : List SV} {a : Act} {asm : Asm} {r : R}
variable {dst : Option Tmp} {type : TypeId} {pos : String} {after : Array Edge} {guard : Option (Nat × Bool)}

/-- One operation. -/
theorem opStep_ok (hs : a.tmps.toList = SV.denL ι β s) (hl : AsmOk ι asm) (hR : RowsOk c ι) {op : Op} (hM : quietOp op = false → AbsM c w0 X ι β mem nxt w) (h : (opStep c asm nxt mem s op).pick ι = some r) :
    RunsTo ι β nxt w ((execOp a.eval ⟨dst, op, type, pos, after, guard⟩).run c.P w) r := by
  cases op with
  | move x => exact (opMove_ok hs h).1
  | assign x => exact (opMove_ok hs h).2
  | pick q x y => exact opPick_ok hs hl h
  | alloc t => exact opAlloc_ok h
  | box t x => exact opBox_ok hs h
  | build t ps => exact opBuild_ok hs h
  | buildSlice t n ps => exact opBuildSlice_ok hs h
  | load t x => exact (opLoad_ok hs hl hR (hM rfl) h).choose_spec.2
  | store t x y =>
    obtain ⟨b, cs, _, _, _, h⟩ := opStore_ok hs hl (hM rfl) h
    exact h
  | nilCheck x => exact opNilCheck_ok hs h
  | binOp op t x y yt => exact opBin_ok hs hl h
  | unOp op t x => exact opUn_ok hs h
  | convert src dst x => exact opConvert_ok hs h
  | makeFunc fn first captured => exact opMakeFunc_ok hs h
  | slice t x lo hi mx =>
    cases mx with
    | none => exact opSlice_ok hs h
    | some m => cases h
  | fieldAddr t x f => exact opFieldAddr_ok hs hl hR h
  | field t x f => exact opField_ok hs h
  | indexAddr t x ix => exact opIndexAddr_ok hs hl hR h
  | index t x ix => exact opIndex_ok hs hl h
  | extract x i => exact opExtract_ok hs h
  | call q =>
    obtain ⟨callee, args, ts⟩ := q
    cases callee with
    | value f =>
      obtain ⟨g, vs, _, h⟩ := opCallV_ok (ts := ts) hs h
      exact h
    | builtin b =>
      cases b with
      | len => exact opLen_ok hs h
      | max => exact opMax_ok hs h
      | min => exact opMin_ok hs h
      | _ => cases h
    | _ => cases h
  | _ => cases h
end
end Go.Proofs.YtjmpoiafcdphbaaSx
