/-
  NARROWER THAN 'FOR EVERY INPUT', by the rows' own cells (each row's printed sentence says how): GateHolds: laid · GateOld: laid · GateOrders: laid.
  DERIVED. THE GIVEN ROWS OF THIS SEAT. 3 by the template 'for every input the law returns true; each argument reads behind the call as it read before'; 0 by the template 'total and deterministic' (their statements: YtkglnkfoeedmoabDoorTotals.lean).
  GIVEN WITH THE SEED: the statements are not yours to turn. If you find one false, say at which input.
  Laid BY PROGRAM, IN A SANDBOX (cutbox-rows.mjs): the forced cells as the released guide's own fill.sh prints them over the translation 15a61921cb04af5e… (all of the seat's roots in one cut). By AI agents, Wed Nov 11 2026. No macro, syntax, notation, axiom, sorry.
-/
import Derived.Test.YtkglnkfoeedmoabDoorChecked
import GoSem.Claim
import GoSem.ClaimJoined
import GoSem.ClaimMapViews
import Derived.JoinedTies
import Derived.KernelRfl
namespace Go.Proofs.YtkglnkfoeedmoabDoor
/- THE CELL 'sum', in the pinned program and in every row, IS THE sha256 OF THE DUMP (.gsa) THAT YtkglnkfoeedmoabDoorProg.lean LOADS. Nothing in Lean hashes anything: it is a label: what it is worth is what the hold of that sum in a sandbox is worth. -/
noncomputable def Tryd.pinned : Pinned := { name := "ytkglnkfoeedmoabdoor", sum := "15a61921cb04af5e487fbface8d03cb6f4de71c99b7b9dd95bc7d527232b3839", checked := Tryd.checked }
namespace Rows
def none {H : Type} : Left H := { results := [], args := [] }

/- WHAT THE LISTED PACKAGE-LEVEL VARIABLES READ AS WHEN THE CALL BEGINS. Each datum BY PROGRAM (the guide's laid-datum.mjs) off the statement by which the dump's own 'gosem.cut.vars' lays the variable. In a bare row this is a premise. The card (YtkglnkfoeedmoabDoorCards.lean) ties it to the program's text. -/
def laid_sidestick_gate_kinds {H : Type} : DataW H := .agg [.agg [.lit (.int .i64 10), .lit (.int .i64 0)], .agg [.lit (.int .i64 11), .lit (.int .i64 1)]]

/-- 'sidesticklaw22.GateHolds': WHATEVER THE INPUT: true; the input reads as it did. -/
def gateHoldsSpec : ChangeSpec := { name := "gateHolds", fn := fun _ => fun
  | [d1, d2, d3] => { results := [.lit (.bool true)], args := [d1, d2, d3] }
  | _ => none }
def gateHoldsRow : OpenClaim := { program := "ytkglnkfoeedmoabdoor", sum := "15a61921cb04af5e487fbface8d03cb6f4de71c99b7b9dd95bc7d527232b3839", func := "sidestick/sidesticklaw22.GateHolds", spec := "gateHolds", unfollowed := true, recurses := true, named := ["sidestick/gate.kinds"], apart := false, laid := [("sidestick/gate.kinds", laid_sidestick_gate_kinds)] }
def GateHoldsSaid : Prop := gateHoldsRow.holds Tryd.pinned (OpenSpec.ofChange gateHoldsSpec)

/-- ITS FALSE NEIGHBOUR: 'it returns false'. Refute it at one input. -/
def gateHoldsWrong : ChangeSpec := { name := "gateHolds", fn := fun _ => fun
  | [d1, d2, d3] => { results := [.lit (.bool false)], args := [d1, d2, d3] }
  | _ => none }
def GateHoldsWrongFalsely : Prop := gateHoldsRow.holds Tryd.pinned (OpenSpec.ofChange gateHoldsWrong)

/-- 'sidesticklaw22.GateOld': WHATEVER THE INPUT: true; the input reads as it did. -/
def gateOldSpec : ChangeSpec := { name := "gateOld", fn := fun _ => fun
  | [d1, d2, d3] => { results := [.lit (.bool true)], args := [d1, d2, d3] }
  | _ => none }
def gateOldRow : OpenClaim := { program := "ytkglnkfoeedmoabdoor", sum := "15a61921cb04af5e487fbface8d03cb6f4de71c99b7b9dd95bc7d527232b3839", func := "sidestick/sidesticklaw22.GateOld", spec := "gateOld", unfollowed := true, recurses := true, named := ["sidestick/gate.kinds"], apart := false, laid := [("sidestick/gate.kinds", laid_sidestick_gate_kinds)] }
def GateOldSaid : Prop := gateOldRow.holds Tryd.pinned (OpenSpec.ofChange gateOldSpec)

/-- ITS FALSE NEIGHBOUR: 'it returns false'. Refute it at one input. -/
def gateOldWrong : ChangeSpec := { name := "gateOld", fn := fun _ => fun
  | [d1, d2, d3] => { results := [.lit (.bool false)], args := [d1, d2, d3] }
  | _ => none }
def GateOldWrongFalsely : Prop := gateOldRow.holds Tryd.pinned (OpenSpec.ofChange gateOldWrong)

/-- 'sidesticklaw22.GateOrders': WHATEVER THE INPUT: true; the input reads as it did. -/
def gateOrdersSpec : ChangeSpec := { name := "gateOrders", fn := fun _ => fun
  | [d1, d2, d3] => { results := [.lit (.bool true)], args := [d1, d2, d3] }
  | _ => none }
def gateOrdersRow : OpenClaim := { program := "ytkglnkfoeedmoabdoor", sum := "15a61921cb04af5e487fbface8d03cb6f4de71c99b7b9dd95bc7d527232b3839", func := "sidestick/sidesticklaw22.GateOrders", spec := "gateOrders", unfollowed := true, recurses := true, named := ["sidestick/gate.kinds"], apart := false, laid := [("sidestick/gate.kinds", laid_sidestick_gate_kinds)] }
def GateOrdersSaid : Prop := gateOrdersRow.holds Tryd.pinned (OpenSpec.ofChange gateOrdersSpec)

/-- ITS FALSE NEIGHBOUR: 'it returns false'. Refute it at one input. -/
def gateOrdersWrong : ChangeSpec := { name := "gateOrders", fn := fun _ => fun
  | [d1, d2, d3] => { results := [.lit (.bool false)], args := [d1, d2, d3] }
  | _ => none }
def GateOrdersWrongFalsely : Prop := gateOrdersRow.holds Tryd.pinned (OpenSpec.ofChange gateOrdersWrong)

/- THE SECOND FORM. 'bulk': how many values and letters a reading holds, each counted each time it is reached (what is shared counts as often as it is met; a slice's spare places count too). A statement '..UptoSaid' is the law's where the arguments, and the package variables that the reading takes, are together of bulk at most 1048576: NARROWER than '..Said'. Prove '..Said' where nothing that the law and all that it calls make is longer than what came in: it says more and counts as full. Else prove '..UptoSaid'. A law counts once. -/
mutual
def uptoBulk {H : Type} : DataW H → Nat
  | .lit (.string bytes) => bytes.length + 1
  | .lit _ => 1
  | .nil => 1
  | .ptr d => uptoBulk d + 1
  | .slice elems spare => uptoBulkAll elems + uptoBulkAll spare + 1
  | .agg parts => uptoBulkAll parts + 1
  | .iface _ d => uptoBulk d + 1
  | .map entries => uptoBulkEntries entries + 1
  | .held _ => 1
def uptoBulkAll {H : Type} : List (DataW H) → Nat
  | [] => 0
  | d :: r => uptoBulk d + uptoBulkAll r
def uptoBulkEntries {H : Type} : List (Lit × DataW H) → Nat
  | [] => 0
  | x :: r => uptoBulkEntry x + uptoBulkEntries r
def uptoBulkEntry {H : Type} : Lit × DataW H → Nat
  | (.string bytes, d) => bytes.length + uptoBulk d + 1
  | (_, d) => uptoBulk d + 1
 end
def uptoSmall : (H : Type) → List (DataW H) → Bool := fun _ ds => decide (uptoBulkAll ds ≤ 1048576)
def OpenSpec.upto (s : _root_.Go.ChangeSpec) : _root_.Go.OpenSpec := { _root_.Go.OpenSpec.ofChange s with cond := some uptoSmall }

/-- 'sidesticklaw22.GateHolds', WHERE WHAT IT READS IS OF BULK AT MOST 1048576: true; the input reads as it did. -/
def gateHoldsUptoRow : OpenClaim := { program := "ytkglnkfoeedmoabdoor", sum := "15a61921cb04af5e487fbface8d03cb6f4de71c99b7b9dd95bc7d527232b3839", func := "sidestick/sidesticklaw22.GateHolds", spec := "gateHolds", unfollowed := true, recurses := true, named := ["sidestick/gate.kinds"], apart := false, laid := [("sidestick/gate.kinds", laid_sidestick_gate_kinds)], narrowed := true }
def GateHoldsUptoSaid : Prop := gateHoldsUptoRow.holds Tryd.pinned (OpenSpec.upto gateHoldsSpec)

/-- 'sidesticklaw22.GateOld', WHERE WHAT IT READS IS OF BULK AT MOST 1048576: true; the input reads as it did. -/
def gateOldUptoRow : OpenClaim := { program := "ytkglnkfoeedmoabdoor", sum := "15a61921cb04af5e487fbface8d03cb6f4de71c99b7b9dd95bc7d527232b3839", func := "sidestick/sidesticklaw22.GateOld", spec := "gateOld", unfollowed := true, recurses := true, named := ["sidestick/gate.kinds"], apart := false, laid := [("sidestick/gate.kinds", laid_sidestick_gate_kinds)], narrowed := true }
def GateOldUptoSaid : Prop := gateOldUptoRow.holds Tryd.pinned (OpenSpec.upto gateOldSpec)

/-- 'sidesticklaw22.GateOrders', WHERE WHAT IT READS IS OF BULK AT MOST 1048576: true; the input reads as it did. -/
def gateOrdersUptoRow : OpenClaim := { program := "ytkglnkfoeedmoabdoor", sum := "15a61921cb04af5e487fbface8d03cb6f4de71c99b7b9dd95bc7d527232b3839", func := "sidestick/sidesticklaw22.GateOrders", spec := "gateOrders", unfollowed := true, recurses := true, named := ["sidestick/gate.kinds"], apart := false, laid := [("sidestick/gate.kinds", laid_sidestick_gate_kinds)], narrowed := true }
def GateOrdersUptoSaid : Prop := gateOrdersUptoRow.holds Tryd.pinned (OpenSpec.upto gateOrdersSpec)

end Rows
end Go.Proofs.YtkglnkfoeedmoabDoor
