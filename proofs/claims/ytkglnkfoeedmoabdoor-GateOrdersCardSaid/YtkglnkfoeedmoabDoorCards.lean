/-
  DERIVED. GIVEN WITH THE SEED: THE CARDS: each row of YtkglnkfoeedmoabDoorRows.lean that lists a variable, with what it lists TIED to the program's text (the seventh form; the later family's looks); each row that meets fmt, with fmt's text TOLD by the authors' own Lean function (tested against real Go, not proved from fmt's source: count such statements apart). THE CARD IS WHAT COUNTS. Prove the row's statement (the work); the ties are given (YtkglnkfoeedmoabDoorTie.lean); close each card by the builder's one call (the guide's Derived/Test/ToyasCard.lean, 'card_holds'). Laid BY PROGRAM, IN A SANDBOX (cutbox-door.mjs). By AI agents, Wed Nov 11 2026. No macro, syntax, notation, axiom, sorry.
-/
import Derived.Test.YtkglnkfoeedmoabDoorRows
import GoSem.ClaimSeven
namespace Go.Proofs.YtkglnkfoeedmoabDoor
namespace Rows

/-- THE TIED CARD OF 'sidesticklaw22.GateHolds'. -/
def gateHoldsCard : Claim7 := { stood := { row := gateHoldsRow, standIns := [], harness := (true, "9bbb93fe56155098a287eda83a6ab99b824268ca7e7585bcaee0d02caae09ff2"), looks := false }, kinds := [], alts := [], laidByText := true, laidKinds := [.data], laidTests := true, laidLooks := .later }
def GateHoldsCardSaid : Prop := Claim7.holds Tryd.pinned (.plain (OpenSpec.ofChange gateHoldsSpec)) gateHoldsCard

/-- THE TIED CARD OF 'sidesticklaw22.GateOld'. -/
def gateOldCard : Claim7 := { stood := { row := gateOldRow, standIns := [], harness := (true, "9bbb93fe56155098a287eda83a6ab99b824268ca7e7585bcaee0d02caae09ff2"), looks := false }, kinds := [], alts := [], laidByText := true, laidKinds := [.data], laidTests := true, laidLooks := .later }
def GateOldCardSaid : Prop := Claim7.holds Tryd.pinned (.plain (OpenSpec.ofChange gateOldSpec)) gateOldCard

/-- THE TIED CARD OF 'sidesticklaw22.GateOrders'. -/
def gateOrdersCard : Claim7 := { stood := { row := gateOrdersRow, standIns := [], harness := (true, "9bbb93fe56155098a287eda83a6ab99b824268ca7e7585bcaee0d02caae09ff2"), looks := false }, kinds := [], alts := [], laidByText := true, laidKinds := [.data], laidTests := true, laidLooks := .later }
def GateOrdersCardSaid : Prop := Claim7.holds Tryd.pinned (.plain (OpenSpec.ofChange gateOrdersSpec)) gateOrdersCard

/-- THE SECOND FORM's CARD OF 'sidesticklaw22.GateHolds'. -/
def gateHoldsUptoCard : Claim7 := { stood := { row := gateHoldsUptoRow, standIns := [], harness := (true, "9bbb93fe56155098a287eda83a6ab99b824268ca7e7585bcaee0d02caae09ff2"), looks := false }, kinds := [], alts := [], laidByText := true, laidKinds := [.data], laidTests := true, laidLooks := .later }
def GateHoldsUptoCardSaid : Prop := Claim7.holds Tryd.pinned (.plain (OpenSpec.upto gateHoldsSpec)) gateHoldsUptoCard

/-- THE SECOND FORM's CARD OF 'sidesticklaw22.GateOld'. -/
def gateOldUptoCard : Claim7 := { stood := { row := gateOldUptoRow, standIns := [], harness := (true, "9bbb93fe56155098a287eda83a6ab99b824268ca7e7585bcaee0d02caae09ff2"), looks := false }, kinds := [], alts := [], laidByText := true, laidKinds := [.data], laidTests := true, laidLooks := .later }
def GateOldUptoCardSaid : Prop := Claim7.holds Tryd.pinned (.plain (OpenSpec.upto gateOldSpec)) gateOldUptoCard

/-- THE SECOND FORM's CARD OF 'sidesticklaw22.GateOrders'. -/
def gateOrdersUptoCard : Claim7 := { stood := { row := gateOrdersUptoRow, standIns := [], harness := (true, "9bbb93fe56155098a287eda83a6ab99b824268ca7e7585bcaee0d02caae09ff2"), looks := false }, kinds := [], alts := [], laidByText := true, laidKinds := [.data], laidTests := true, laidLooks := .later }
def GateOrdersUptoCardSaid : Prop := Claim7.holds Tryd.pinned (.plain (OpenSpec.upto gateOrdersSpec)) gateOrdersUptoCard
end Rows
end Go.Proofs.YtkglnkfoeedmoabDoor
