/-
  No cell of these rows narrows 'for every input' (looked for: loops, veiled, ifaces, maps, wideKeys, modest, calm, conditions, laid).
  DERIVED. THE GIVEN ROWS OF THIS SEAT. 12 by the template 'for every input the law returns true; each argument reads behind the call as it read before'; 0 by the template 'total and deterministic' (their statements: YtkglnkfoeedmoaaTotals.lean).
  GIVEN WITH THE SEED: the statements are not yours to turn. If you find one false, say at which input.
  Laid BY PROGRAM, IN A SANDBOX (cutbox-rows.mjs): the forced cells as the released guide's own fill.sh prints them over the translation 32cc9a43891a77e7… (all of the seat's roots in one cut). By AI agents, Wed Nov 11 2026. No macro, syntax, notation, axiom, sorry.
-/
import Derived.Test.YtkglnkfoeedmoaaChecked
import GoSem.Claim
import GoSem.ClaimJoined
import GoSem.ClaimMapViews
import Derived.JoinedTies
import Derived.KernelRfl
namespace Go.Proofs.Ytkglnkfoeedmoaa
/- THE CELL 'sum', in the pinned program and in every row, IS THE sha256 OF THE DUMP (.gsa) THAT YtkglnkfoeedmoaaProg.lean LOADS. Nothing in Lean hashes anything: it is a label: what it is worth is what the hold of that sum in a sandbox is worth. -/
noncomputable def Try.pinned : Pinned := { name := "ytkglnkfoeedmoaa", sum := "32cc9a43891a77e74bcbb78cca45faf7e5aa8613b9d6c8c3f34005c1d7d8040c", checked := Try.checked }
namespace Rows
def none {H : Type} : Left H := { results := [], args := [] }

/-- 'sidesticklaw11.TickEnds': WHATEVER THE INPUT: true; the input reads as it did. -/
def tickEndsSpec : ChangeSpec := { name := "tickEnds", fn := fun _ => fun
  | [d] => { results := [.lit (.bool true)], args := [d] }
  | _ => none }
def tickEndsRow : OpenClaim := { program := "ytkglnkfoeedmoaa", sum := "32cc9a43891a77e74bcbb78cca45faf7e5aa8613b9d6c8c3f34005c1d7d8040c", func := "sidestick/sidesticklaw11.TickEnds", spec := "tickEnds", apart := false }
def TickEndsSaid : Prop := tickEndsRow.holds Try.pinned (OpenSpec.ofChange tickEndsSpec)

/-- ITS FALSE NEIGHBOUR: 'it returns false'. Refute it at one input. -/
def tickEndsWrong : ChangeSpec := { name := "tickEnds", fn := fun _ => fun
  | [d] => { results := [.lit (.bool false)], args := [d] }
  | _ => none }
def TickEndsWrongFalsely : Prop := tickEndsRow.holds Try.pinned (OpenSpec.ofChange tickEndsWrong)

/-- 'sidesticklaw11.TickKeeps': WHATEVER THE INPUT: true; the input reads as it did. -/
def tickKeepsSpec : ChangeSpec := { name := "tickKeeps", fn := fun _ => fun
  | [d] => { results := [.lit (.bool true)], args := [d] }
  | _ => none }
def tickKeepsRow : OpenClaim := { program := "ytkglnkfoeedmoaa", sum := "32cc9a43891a77e74bcbb78cca45faf7e5aa8613b9d6c8c3f34005c1d7d8040c", func := "sidestick/sidesticklaw11.TickKeeps", spec := "tickKeeps", apart := false }
def TickKeepsSaid : Prop := tickKeepsRow.holds Try.pinned (OpenSpec.ofChange tickKeepsSpec)

/-- ITS FALSE NEIGHBOUR: 'it returns false'. Refute it at one input. -/
def tickKeepsWrong : ChangeSpec := { name := "tickKeeps", fn := fun _ => fun
  | [d] => { results := [.lit (.bool false)], args := [d] }
  | _ => none }
def TickKeepsWrongFalsely : Prop := tickKeepsRow.holds Try.pinned (OpenSpec.ofChange tickKeepsWrong)

/-- 'sidesticklaw13.RuleOrders': WHATEVER THE INPUT: true; the input reads as it did. -/
def ruleOrdersSpec : ChangeSpec := { name := "ruleOrders", fn := fun _ => fun
  | [d1, d2] => { results := [.lit (.bool true)], args := [d1, d2] }
  | _ => none }
def ruleOrdersRow : OpenClaim := { program := "ytkglnkfoeedmoaa", sum := "32cc9a43891a77e74bcbb78cca45faf7e5aa8613b9d6c8c3f34005c1d7d8040c", func := "sidestick/sidesticklaw13.RuleOrders", spec := "ruleOrders", apart := false }
def RuleOrdersSaid : Prop := ruleOrdersRow.holds Try.pinned (OpenSpec.ofChange ruleOrdersSpec)

/-- ITS FALSE NEIGHBOUR: 'it returns false'. Refute it at one input. -/
def ruleOrdersWrong : ChangeSpec := { name := "ruleOrders", fn := fun _ => fun
  | [d1, d2] => { results := [.lit (.bool false)], args := [d1, d2] }
  | _ => none }
def RuleOrdersWrongFalsely : Prop := ruleOrdersRow.holds Try.pinned (OpenSpec.ofChange ruleOrdersWrong)

/-- 'sidesticklaw01.NumComes': WHATEVER THE INPUT: true; the input reads as it did. -/
def numComesSpec : ChangeSpec := { name := "numComes", fn := fun _ => fun
  | [d1, d2, d3] => { results := [.lit (.bool true)], args := [d1, d2, d3] }
  | _ => none }
def numComesRow : OpenClaim := { program := "ytkglnkfoeedmoaa", sum := "32cc9a43891a77e74bcbb78cca45faf7e5aa8613b9d6c8c3f34005c1d7d8040c", func := "sidestick/sidesticklaw01.NumComes", spec := "numComes", apart := false }
def NumComesSaid : Prop := numComesRow.holds Try.pinned (OpenSpec.ofChange numComesSpec)

/-- ITS FALSE NEIGHBOUR: 'it returns false'. Refute it at one input. -/
def numComesWrong : ChangeSpec := { name := "numComes", fn := fun _ => fun
  | [d1, d2, d3] => { results := [.lit (.bool false)], args := [d1, d2, d3] }
  | _ => none }
def NumComesWrongFalsely : Prop := numComesRow.holds Try.pinned (OpenSpec.ofChange numComesWrong)

/-- 'sidesticklaw01.NumSets': WHATEVER THE INPUT: true; the input reads as it did. -/
def numSetsSpec : ChangeSpec := { name := "numSets", fn := fun _ => fun
  | [d1, d2] => { results := [.lit (.bool true)], args := [d1, d2] }
  | _ => none }
def numSetsRow : OpenClaim := { program := "ytkglnkfoeedmoaa", sum := "32cc9a43891a77e74bcbb78cca45faf7e5aa8613b9d6c8c3f34005c1d7d8040c", func := "sidestick/sidesticklaw01.NumSets", spec := "numSets", apart := false }
def NumSetsSaid : Prop := numSetsRow.holds Try.pinned (OpenSpec.ofChange numSetsSpec)

/-- ITS FALSE NEIGHBOUR: 'it returns false'. Refute it at one input. -/
def numSetsWrong : ChangeSpec := { name := "numSets", fn := fun _ => fun
  | [d1, d2] => { results := [.lit (.bool false)], args := [d1, d2] }
  | _ => none }
def NumSetsWrongFalsely : Prop := numSetsRow.holds Try.pinned (OpenSpec.ofChange numSetsWrong)

/-- 'sidesticklaw17.StickRuns': WHATEVER THE INPUT: true; the input reads as it did. -/
def stickRunsSpec : ChangeSpec := { name := "stickRuns", fn := fun _ => fun
  | [d1, d2, d3] => { results := [.lit (.bool true)], args := [d1, d2, d3] }
  | _ => none }
def stickRunsRow : OpenClaim := { program := "ytkglnkfoeedmoaa", sum := "32cc9a43891a77e74bcbb78cca45faf7e5aa8613b9d6c8c3f34005c1d7d8040c", func := "sidestick/sidesticklaw17.StickRuns", spec := "stickRuns", unfollowed := true, recurses := true, apart := false }
def StickRunsSaid : Prop := stickRunsRow.holds Try.pinned (OpenSpec.ofChange stickRunsSpec)

/-- ITS FALSE NEIGHBOUR: 'it returns false'. Refute it at one input. -/
def stickRunsWrong : ChangeSpec := { name := "stickRuns", fn := fun _ => fun
  | [d1, d2, d3] => { results := [.lit (.bool false)], args := [d1, d2, d3] }
  | _ => none }
def StickRunsWrongFalsely : Prop := stickRunsRow.holds Try.pinned (OpenSpec.ofChange stickRunsWrong)

/-- 'sidesticklaw17.StickSides': WHATEVER THE INPUT: true; the input reads as it did. -/
def stickSidesSpec : ChangeSpec := { name := "stickSides", fn := fun _ => fun
  | [d1, d2, d3] => { results := [.lit (.bool true)], args := [d1, d2, d3] }
  | _ => none }
def stickSidesRow : OpenClaim := { program := "ytkglnkfoeedmoaa", sum := "32cc9a43891a77e74bcbb78cca45faf7e5aa8613b9d6c8c3f34005c1d7d8040c", func := "sidestick/sidesticklaw17.StickSides", spec := "stickSides", unfollowed := true, recurses := true, apart := false }
def StickSidesSaid : Prop := stickSidesRow.holds Try.pinned (OpenSpec.ofChange stickSidesSpec)

/-- ITS FALSE NEIGHBOUR: 'it returns false'. Refute it at one input. -/
def stickSidesWrong : ChangeSpec := { name := "stickSides", fn := fun _ => fun
  | [d1, d2, d3] => { results := [.lit (.bool false)], args := [d1, d2, d3] }
  | _ => none }
def StickSidesWrongFalsely : Prop := stickSidesRow.holds Try.pinned (OpenSpec.ofChange stickSidesWrong)

/-- 'sidesticklaw17.StickRests': WHATEVER THE INPUT: true; the input reads as it did. -/
def stickRestsSpec : ChangeSpec := { name := "stickRests", fn := fun _ => fun
  | [d1, d2, d3] => { results := [.lit (.bool true)], args := [d1, d2, d3] }
  | _ => none }
def stickRestsRow : OpenClaim := { program := "ytkglnkfoeedmoaa", sum := "32cc9a43891a77e74bcbb78cca45faf7e5aa8613b9d6c8c3f34005c1d7d8040c", func := "sidestick/sidesticklaw17.StickRests", spec := "stickRests", unfollowed := true, recurses := true, apart := false }
def StickRestsSaid : Prop := stickRestsRow.holds Try.pinned (OpenSpec.ofChange stickRestsSpec)

/-- ITS FALSE NEIGHBOUR: 'it returns false'. Refute it at one input. -/
def stickRestsWrong : ChangeSpec := { name := "stickRests", fn := fun _ => fun
  | [d1, d2, d3] => { results := [.lit (.bool false)], args := [d1, d2, d3] }
  | _ => none }
def StickRestsWrongFalsely : Prop := stickRestsRow.holds Try.pinned (OpenSpec.ofChange stickRestsWrong)

/-- 'sidesticklaw01.NumBounds': WHATEVER THE INPUT: true; the input reads as it did. -/
def numBoundsSpec : ChangeSpec := { name := "numBounds", fn := fun _ => fun
  | [d1, d2, d3] => { results := [.lit (.bool true)], args := [d1, d2, d3] }
  | _ => none }
def numBoundsRow : OpenClaim := { program := "ytkglnkfoeedmoaa", sum := "32cc9a43891a77e74bcbb78cca45faf7e5aa8613b9d6c8c3f34005c1d7d8040c", func := "sidestick/sidesticklaw01.NumBounds", spec := "numBounds", apart := false }
def NumBoundsSaid : Prop := numBoundsRow.holds Try.pinned (OpenSpec.ofChange numBoundsSpec)

/-- ITS FALSE NEIGHBOUR: 'it returns false'. Refute it at one input. -/
def numBoundsWrong : ChangeSpec := { name := "numBounds", fn := fun _ => fun
  | [d1, d2, d3] => { results := [.lit (.bool false)], args := [d1, d2, d3] }
  | _ => none }
def NumBoundsWrongFalsely : Prop := numBoundsRow.holds Try.pinned (OpenSpec.ofChange numBoundsWrong)

/-- 'sidesticklaw01.NumMirrors': WHATEVER THE INPUT: true; the input reads as it did. -/
def numMirrorsSpec : ChangeSpec := { name := "numMirrors", fn := fun _ => fun
  | [d1, d2, d3] => { results := [.lit (.bool true)], args := [d1, d2, d3] }
  | _ => none }
def numMirrorsRow : OpenClaim := { program := "ytkglnkfoeedmoaa", sum := "32cc9a43891a77e74bcbb78cca45faf7e5aa8613b9d6c8c3f34005c1d7d8040c", func := "sidestick/sidesticklaw01.NumMirrors", spec := "numMirrors", apart := false }
def NumMirrorsSaid : Prop := numMirrorsRow.holds Try.pinned (OpenSpec.ofChange numMirrorsSpec)

/-- ITS FALSE NEIGHBOUR: 'it returns false'. Refute it at one input. -/
def numMirrorsWrong : ChangeSpec := { name := "numMirrors", fn := fun _ => fun
  | [d1, d2, d3] => { results := [.lit (.bool false)], args := [d1, d2, d3] }
  | _ => none }
def NumMirrorsWrongFalsely : Prop := numMirrorsRow.holds Try.pinned (OpenSpec.ofChange numMirrorsWrong)

/-- 'sidesticklaw13.RuleParts': WHATEVER THE INPUT: true; the input reads as it did. -/
def rulePartsSpec : ChangeSpec := { name := "ruleParts", fn := fun _ => fun
  | [d1, d2, d3] => { results := [.lit (.bool true)], args := [d1, d2, d3] }
  | _ => none }
def rulePartsRow : OpenClaim := { program := "ytkglnkfoeedmoaa", sum := "32cc9a43891a77e74bcbb78cca45faf7e5aa8613b9d6c8c3f34005c1d7d8040c", func := "sidestick/sidesticklaw13.RuleParts", spec := "ruleParts", unfollowed := true, recurses := true, apart := false }
def RulePartsSaid : Prop := rulePartsRow.holds Try.pinned (OpenSpec.ofChange rulePartsSpec)

/-- ITS FALSE NEIGHBOUR: 'it returns false'. Refute it at one input. -/
def rulePartsWrong : ChangeSpec := { name := "ruleParts", fn := fun _ => fun
  | [d1, d2, d3] => { results := [.lit (.bool false)], args := [d1, d2, d3] }
  | _ => none }
def RulePartsWrongFalsely : Prop := rulePartsRow.holds Try.pinned (OpenSpec.ofChange rulePartsWrong)

/-- 'sidesticklaw13.RuleNone': WHATEVER THE INPUT: true; the input reads as it did. -/
def ruleNoneSpec : ChangeSpec := { name := "ruleNone", fn := fun _ => fun
  | [d1, d2, d3] => { results := [.lit (.bool true)], args := [d1, d2, d3] }
  | _ => none }
def ruleNoneRow : OpenClaim := { program := "ytkglnkfoeedmoaa", sum := "32cc9a43891a77e74bcbb78cca45faf7e5aa8613b9d6c8c3f34005c1d7d8040c", func := "sidestick/sidesticklaw13.RuleNone", spec := "ruleNone", unfollowed := true, recurses := true, apart := false }
def RuleNoneSaid : Prop := ruleNoneRow.holds Try.pinned (OpenSpec.ofChange ruleNoneSpec)

/-- ITS FALSE NEIGHBOUR: 'it returns false'. Refute it at one input. -/
def ruleNoneWrong : ChangeSpec := { name := "ruleNone", fn := fun _ => fun
  | [d1, d2, d3] => { results := [.lit (.bool false)], args := [d1, d2, d3] }
  | _ => none }
def RuleNoneWrongFalsely : Prop := ruleNoneRow.holds Try.pinned (OpenSpec.ofChange ruleNoneWrong)

/- THE SECOND FORM. 'bulk': how many values and letters a reading holds, each counted each time it is reached (what is shared counts as often as it is met; a slice's spare places count too). A statement '..UptoSaid' is the law's where the arguments, and the package variables that the reading takes, are together of bulk at most 1048576: NARROWER than '..Said'. Prove '..Said' where nothing that the law and all that it calls make is longer than what came in: it says more and counts as full. Else prove '..UptoSaid'. A law counts once. -/
mutual
def uptoBulk {H : Type} : DataW H → Nat
  | .lit (.string bytes) => bytes.length + 1
  | .lit _ => 1
  | .nil => 1
  | .ptr d => uptoBulk d + 1
  | .slice elems spare => uptoBulkAll elems + uptoBulkAll spare + 1
  | .agg parts => uptoBulkAll parts + 1
  | .iface _ d => uptoBulk d + 1
  | .map entries => uptoBulkEntries entries + 1
  | .held _ => 1
def uptoBulkAll {H : Type} : List (DataW H) → Nat
  | [] => 0
  | d :: r => uptoBulk d + uptoBulkAll r
def uptoBulkEntries {H : Type} : List (Lit × DataW H) → Nat
  | [] => 0
  | x :: r => uptoBulkEntry x + uptoBulkEntries r
def uptoBulkEntry {H : Type} : Lit × DataW H → Nat
  | (.string bytes, d) => bytes.length + uptoBulk d + 1
  | (_, d) => uptoBulk d + 1
 end
def uptoSmall : (H : Type) → List (DataW H) → Bool := fun _ ds => decide (uptoBulkAll ds ≤ 1048576)
def OpenSpec.upto (s : _root_.Go.ChangeSpec) : _root_.Go.OpenSpec := { _root_.Go.OpenSpec.ofChange s with cond := some uptoSmall }

/-- 'sidesticklaw11.TickEnds', WHERE WHAT IT READS IS OF BULK AT MOST 1048576: true; the input reads as it did. -/
def tickEndsUptoRow : OpenClaim := { program := "ytkglnkfoeedmoaa", sum := "32cc9a43891a77e74bcbb78cca45faf7e5aa8613b9d6c8c3f34005c1d7d8040c", func := "sidestick/sidesticklaw11.TickEnds", spec := "tickEnds", apart := false, narrowed := true }
def TickEndsUptoSaid : Prop := tickEndsUptoRow.holds Try.pinned (OpenSpec.upto tickEndsSpec)

/-- 'sidesticklaw11.TickKeeps', WHERE WHAT IT READS IS OF BULK AT MOST 1048576: true; the input reads as it did. -/
def tickKeepsUptoRow : OpenClaim := { program := "ytkglnkfoeedmoaa", sum := "32cc9a43891a77e74bcbb78cca45faf7e5aa8613b9d6c8c3f34005c1d7d8040c", func := "sidestick/sidesticklaw11.TickKeeps", spec := "tickKeeps", apart := false, narrowed := true }
def TickKeepsUptoSaid : Prop := tickKeepsUptoRow.holds Try.pinned (OpenSpec.upto tickKeepsSpec)

/-- 'sidesticklaw13.RuleOrders', WHERE WHAT IT READS IS OF BULK AT MOST 1048576: true; the input reads as it did. -/
def ruleOrdersUptoRow : OpenClaim := { program := "ytkglnkfoeedmoaa", sum := "32cc9a43891a77e74bcbb78cca45faf7e5aa8613b9d6c8c3f34005c1d7d8040c", func := "sidestick/sidesticklaw13.RuleOrders", spec := "ruleOrders", apart := false, narrowed := true }
def RuleOrdersUptoSaid : Prop := ruleOrdersUptoRow.holds Try.pinned (OpenSpec.upto ruleOrdersSpec)

/-- 'sidesticklaw01.NumComes', WHERE WHAT IT READS IS OF BULK AT MOST 1048576: true; the input reads as it did. -/
def numComesUptoRow : OpenClaim := { program := "ytkglnkfoeedmoaa", sum := "32cc9a43891a77e74bcbb78cca45faf7e5aa8613b9d6c8c3f34005c1d7d8040c", func := "sidestick/sidesticklaw01.NumComes", spec := "numComes", apart := false, narrowed := true }
def NumComesUptoSaid : Prop := numComesUptoRow.holds Try.pinned (OpenSpec.upto numComesSpec)

/-- 'sidesticklaw01.NumSets', WHERE WHAT IT READS IS OF BULK AT MOST 1048576: true; the input reads as it did. -/
def numSetsUptoRow : OpenClaim := { program := "ytkglnkfoeedmoaa", sum := "32cc9a43891a77e74bcbb78cca45faf7e5aa8613b9d6c8c3f34005c1d7d8040c", func := "sidestick/sidesticklaw01.NumSets", spec := "numSets", apart := false, narrowed := true }
def NumSetsUptoSaid : Prop := numSetsUptoRow.holds Try.pinned (OpenSpec.upto numSetsSpec)

/-- 'sidesticklaw17.StickRuns', WHERE WHAT IT READS IS OF BULK AT MOST 1048576: true; the input reads as it did. -/
def stickRunsUptoRow : OpenClaim := { program := "ytkglnkfoeedmoaa", sum := "32cc9a43891a77e74bcbb78cca45faf7e5aa8613b9d6c8c3f34005c1d7d8040c", func := "sidestick/sidesticklaw17.StickRuns", spec := "stickRuns", unfollowed := true, recurses := true, apart := false, narrowed := true }
def StickRunsUptoSaid : Prop := stickRunsUptoRow.holds Try.pinned (OpenSpec.upto stickRunsSpec)

/-- 'sidesticklaw17.StickSides', WHERE WHAT IT READS IS OF BULK AT MOST 1048576: true; the input reads as it did. -/
def stickSidesUptoRow : OpenClaim := { program := "ytkglnkfoeedmoaa", sum := "32cc9a43891a77e74bcbb78cca45faf7e5aa8613b9d6c8c3f34005c1d7d8040c", func := "sidestick/sidesticklaw17.StickSides", spec := "stickSides", unfollowed := true, recurses := true, apart := false, narrowed := true }
def StickSidesUptoSaid : Prop := stickSidesUptoRow.holds Try.pinned (OpenSpec.upto stickSidesSpec)

/-- 'sidesticklaw17.StickRests', WHERE WHAT IT READS IS OF BULK AT MOST 1048576: true; the input reads as it did. -/
def stickRestsUptoRow : OpenClaim := { program := "ytkglnkfoeedmoaa", sum := "32cc9a43891a77e74bcbb78cca45faf7e5aa8613b9d6c8c3f34005c1d7d8040c", func := "sidestick/sidesticklaw17.StickRests", spec := "stickRests", unfollowed := true, recurses := true, apart := false, narrowed := true }
def StickRestsUptoSaid : Prop := stickRestsUptoRow.holds Try.pinned (OpenSpec.upto stickRestsSpec)

/-- 'sidesticklaw01.NumBounds', WHERE WHAT IT READS IS OF BULK AT MOST 1048576: true; the input reads as it did. -/
def numBoundsUptoRow : OpenClaim := { program := "ytkglnkfoeedmoaa", sum := "32cc9a43891a77e74bcbb78cca45faf7e5aa8613b9d6c8c3f34005c1d7d8040c", func := "sidestick/sidesticklaw01.NumBounds", spec := "numBounds", apart := false, narrowed := true }
def NumBoundsUptoSaid : Prop := numBoundsUptoRow.holds Try.pinned (OpenSpec.upto numBoundsSpec)

/-- 'sidesticklaw01.NumMirrors', WHERE WHAT IT READS IS OF BULK AT MOST 1048576: true; the input reads as it did. -/
def numMirrorsUptoRow : OpenClaim := { program := "ytkglnkfoeedmoaa", sum := "32cc9a43891a77e74bcbb78cca45faf7e5aa8613b9d6c8c3f34005c1d7d8040c", func := "sidestick/sidesticklaw01.NumMirrors", spec := "numMirrors", apart := false, narrowed := true }
def NumMirrorsUptoSaid : Prop := numMirrorsUptoRow.holds Try.pinned (OpenSpec.upto numMirrorsSpec)

/-- 'sidesticklaw13.RuleParts', WHERE WHAT IT READS IS OF BULK AT MOST 1048576: true; the input reads as it did. -/
def rulePartsUptoRow : OpenClaim := { program := "ytkglnkfoeedmoaa", sum := "32cc9a43891a77e74bcbb78cca45faf7e5aa8613b9d6c8c3f34005c1d7d8040c", func := "sidestick/sidesticklaw13.RuleParts", spec := "ruleParts", unfollowed := true, recurses := true, apart := false, narrowed := true }
def RulePartsUptoSaid : Prop := rulePartsUptoRow.holds Try.pinned (OpenSpec.upto rulePartsSpec)

/-- 'sidesticklaw13.RuleNone', WHERE WHAT IT READS IS OF BULK AT MOST 1048576: true; the input reads as it did. -/
def ruleNoneUptoRow : OpenClaim := { program := "ytkglnkfoeedmoaa", sum := "32cc9a43891a77e74bcbb78cca45faf7e5aa8613b9d6c8c3f34005c1d7d8040c", func := "sidestick/sidesticklaw13.RuleNone", spec := "ruleNone", unfollowed := true, recurses := true, apart := false, narrowed := true }
def RuleNoneUptoSaid : Prop := ruleNoneUptoRow.holds Try.pinned (OpenSpec.upto ruleNoneSpec)

end Rows
end Go.Proofs.Ytkglnkfoeedmoaa
