/-
  No cell of these rows narrows 'for every input' (looked for: loops, veiled, ifaces, maps, wideKeys, modest, calm, conditions, laid).
  DERIVED. THE GIVEN ROWS OF THIS SEAT. 5 by the template 'for every input the law returns true; each argument reads behind the call as it read before'; 0 by the template 'total and deterministic' (their statements: YtkglnkfoeedmoabTotals.lean).
  GIVEN WITH THE SEED: the statements are not yours to turn. If you find one false, say at which input.
  Laid BY PROGRAM, IN A SANDBOX (cutbox-rows.mjs): the forced cells as the released guide's own fill.sh prints them over the translation bceaaa9e6fd6c35b… (all of the seat's roots in one cut). By AI agents, Wed Nov 11 2026. No macro, syntax, notation, axiom, sorry.
-/
import Derived.Test.YtkglnkfoeedmoabChecked
import GoSem.Claim
import GoSem.ClaimJoined
import GoSem.ClaimMapViews
import Derived.JoinedTies
import Derived.KernelRfl
namespace Go.Proofs.Ytkglnkfoeedmoab
/- THE CELL 'sum', in the pinned program and in every row, IS THE sha256 OF THE DUMP (.gsa) THAT YtkglnkfoeedmoabProg.lean LOADS. Nothing in Lean hashes anything: it is a label: what it is worth is what the hold of that sum in a sandbox is worth. -/
noncomputable def Try.pinned : Pinned := { name := "ytkglnkfoeedmoab", sum := "bceaaa9e6fd6c35b29c92f95bb3bda4c806e28af714af0d0722e1287681f2643", checked := Try.checked }
namespace Rows
def none {H : Type} : Left H := { results := [], args := [] }

/-- 'sidesticklaw18.TokenKeeps': WHATEVER THE INPUT: true; the input reads as it did. -/
def tokenKeepsSpec : ChangeSpec := { name := "tokenKeeps", fn := fun _ => fun
  | [d1, d2] => { results := [.lit (.bool true)], args := [d1, d2] }
  | _ => none }
def tokenKeepsRow : OpenClaim := { program := "ytkglnkfoeedmoab", sum := "bceaaa9e6fd6c35b29c92f95bb3bda4c806e28af714af0d0722e1287681f2643", func := "sidestick/sidesticklaw18.TokenKeeps", spec := "tokenKeeps", unfollowed := true, recurses := true, apart := false }
def TokenKeepsSaid : Prop := tokenKeepsRow.holds Try.pinned (OpenSpec.ofChange tokenKeepsSpec)

/-- ITS FALSE NEIGHBOUR: 'it returns false'. Refute it at one input. -/
def tokenKeepsWrong : ChangeSpec := { name := "tokenKeeps", fn := fun _ => fun
  | [d1, d2] => { results := [.lit (.bool false)], args := [d1, d2] }
  | _ => none }
def TokenKeepsWrongFalsely : Prop := tokenKeepsRow.holds Try.pinned (OpenSpec.ofChange tokenKeepsWrong)

/-- 'sidesticklaw18.TokenSeizes': WHATEVER THE INPUT: true; the input reads as it did. -/
def tokenSeizesSpec : ChangeSpec := { name := "tokenSeizes", fn := fun _ => fun
  | [d1, d2, d3] => { results := [.lit (.bool true)], args := [d1, d2, d3] }
  | _ => none }
def tokenSeizesRow : OpenClaim := { program := "ytkglnkfoeedmoab", sum := "bceaaa9e6fd6c35b29c92f95bb3bda4c806e28af714af0d0722e1287681f2643", func := "sidestick/sidesticklaw18.TokenSeizes", spec := "tokenSeizes", unfollowed := true, recurses := true, apart := false }
def TokenSeizesSaid : Prop := tokenSeizesRow.holds Try.pinned (OpenSpec.ofChange tokenSeizesSpec)

/-- ITS FALSE NEIGHBOUR: 'it returns false'. Refute it at one input. -/
def tokenSeizesWrong : ChangeSpec := { name := "tokenSeizes", fn := fun _ => fun
  | [d1, d2, d3] => { results := [.lit (.bool false)], args := [d1, d2, d3] }
  | _ => none }
def TokenSeizesWrongFalsely : Prop := tokenSeizesRow.holds Try.pinned (OpenSpec.ofChange tokenSeizesWrong)

/-- 'sidesticklaw21.LimitAxes': WHATEVER THE INPUT: true; the input reads as it did. -/
def limitAxesSpec : ChangeSpec := { name := "limitAxes", fn := fun _ => fun
  | [d1, d2, d3] => { results := [.lit (.bool true)], args := [d1, d2, d3] }
  | _ => none }
def limitAxesRow : OpenClaim := { program := "ytkglnkfoeedmoab", sum := "bceaaa9e6fd6c35b29c92f95bb3bda4c806e28af714af0d0722e1287681f2643", func := "sidestick/sidesticklaw21.LimitAxes", spec := "limitAxes", apart := false }
def LimitAxesSaid : Prop := limitAxesRow.holds Try.pinned (OpenSpec.ofChange limitAxesSpec)

/-- ITS FALSE NEIGHBOUR: 'it returns false'. Refute it at one input. -/
def limitAxesWrong : ChangeSpec := { name := "limitAxes", fn := fun _ => fun
  | [d1, d2, d3] => { results := [.lit (.bool false)], args := [d1, d2, d3] }
  | _ => none }
def LimitAxesWrongFalsely : Prop := limitAxesRow.holds Try.pinned (OpenSpec.ofChange limitAxesWrong)

/-- 'sidesticklaw21.LimitHolds': WHATEVER THE INPUT: true; the input reads as it did. -/
def limitHoldsSpec : ChangeSpec := { name := "limitHolds", fn := fun _ => fun
  | [d1, d2] => { results := [.lit (.bool true)], args := [d1, d2] }
  | _ => none }
def limitHoldsRow : OpenClaim := { program := "ytkglnkfoeedmoab", sum := "bceaaa9e6fd6c35b29c92f95bb3bda4c806e28af714af0d0722e1287681f2643", func := "sidestick/sidesticklaw21.LimitHolds", spec := "limitHolds", apart := false }
def LimitHoldsSaid : Prop := limitHoldsRow.holds Try.pinned (OpenSpec.ofChange limitHoldsSpec)

/-- ITS FALSE NEIGHBOUR: 'it returns false'. Refute it at one input. -/
def limitHoldsWrong : ChangeSpec := { name := "limitHolds", fn := fun _ => fun
  | [d1, d2] => { results := [.lit (.bool false)], args := [d1, d2] }
  | _ => none }
def LimitHoldsWrongFalsely : Prop := limitHoldsRow.holds Try.pinned (OpenSpec.ofChange limitHoldsWrong)

/-- 'sidesticklaw19.OfferErrors': WHATEVER THE INPUT: true; the input reads as it did. -/
def offerErrorsSpec : ChangeSpec := { name := "offerErrors", fn := fun _ => fun
  | [d1, d2] => { results := [.lit (.bool true)], args := [d1, d2] }
  | _ => none }
def offerErrorsRow : OpenClaim := { program := "ytkglnkfoeedmoab", sum := "bceaaa9e6fd6c35b29c92f95bb3bda4c806e28af714af0d0722e1287681f2643", func := "sidestick/sidesticklaw19.OfferErrors", spec := "offerErrors", unfollowed := true, recurses := true, apart := false }
def OfferErrorsSaid : Prop := offerErrorsRow.holds Try.pinned (OpenSpec.ofChange offerErrorsSpec)

/-- ITS FALSE NEIGHBOUR: 'it returns false'. Refute it at one input. -/
def offerErrorsWrong : ChangeSpec := { name := "offerErrors", fn := fun _ => fun
  | [d1, d2] => { results := [.lit (.bool false)], args := [d1, d2] }
  | _ => none }
def OfferErrorsWrongFalsely : Prop := offerErrorsRow.holds Try.pinned (OpenSpec.ofChange offerErrorsWrong)

/- THE SECOND FORM. 'bulk': how many values and letters a reading holds, each counted each time it is reached (what is shared counts as often as it is met; a slice's spare places count too). A statement '..UptoSaid' is the law's where the arguments, and the package variables that the reading takes, are together of bulk at most 1048576: NARROWER than '..Said'. Prove '..Said' where nothing that the law and all that it calls make is longer than what came in: it says more and counts as full. Else prove '..UptoSaid'. A law counts once. -/
mutual
def uptoBulk {H : Type} : DataW H → Nat
  | .lit (.string bytes) => bytes.length + 1
  | .lit _ => 1
  | .nil => 1
  | .ptr d => uptoBulk d + 1
  | .slice elems spare => uptoBulkAll elems + uptoBulkAll spare + 1
  | .agg parts => uptoBulkAll parts + 1
  | .iface _ d => uptoBulk d + 1
  | .map entries => uptoBulkEntries entries + 1
  | .held _ => 1
def uptoBulkAll {H : Type} : List (DataW H) → Nat
  | [] => 0
  | d :: r => uptoBulk d + uptoBulkAll r
def uptoBulkEntries {H : Type} : List (Lit × DataW H) → Nat
  | [] => 0
  | x :: r => uptoBulkEntry x + uptoBulkEntries r
def uptoBulkEntry {H : Type} : Lit × DataW H → Nat
  | (.string bytes, d) => bytes.length + uptoBulk d + 1
  | (_, d) => uptoBulk d + 1
 end
def uptoSmall : (H : Type) → List (DataW H) → Bool := fun _ ds => decide (uptoBulkAll ds ≤ 1048576)
def OpenSpec.upto (s : _root_.Go.ChangeSpec) : _root_.Go.OpenSpec := { _root_.Go.OpenSpec.ofChange s with cond := some uptoSmall }

/-- 'sidesticklaw18.TokenKeeps', WHERE WHAT IT READS IS OF BULK AT MOST 1048576: true; the input reads as it did. -/
def tokenKeepsUptoRow : OpenClaim := { program := "ytkglnkfoeedmoab", sum := "bceaaa9e6fd6c35b29c92f95bb3bda4c806e28af714af0d0722e1287681f2643", func := "sidestick/sidesticklaw18.TokenKeeps", spec := "tokenKeeps", unfollowed := true, recurses := true, apart := false, narrowed := true }
def TokenKeepsUptoSaid : Prop := tokenKeepsUptoRow.holds Try.pinned (OpenSpec.upto tokenKeepsSpec)

/-- 'sidesticklaw18.TokenSeizes', WHERE WHAT IT READS IS OF BULK AT MOST 1048576: true; the input reads as it did. -/
def tokenSeizesUptoRow : OpenClaim := { program := "ytkglnkfoeedmoab", sum := "bceaaa9e6fd6c35b29c92f95bb3bda4c806e28af714af0d0722e1287681f2643", func := "sidestick/sidesticklaw18.TokenSeizes", spec := "tokenSeizes", unfollowed := true, recurses := true, apart := false, narrowed := true }
def TokenSeizesUptoSaid : Prop := tokenSeizesUptoRow.holds Try.pinned (OpenSpec.upto tokenSeizesSpec)

/-- 'sidesticklaw21.LimitAxes', WHERE WHAT IT READS IS OF BULK AT MOST 1048576: true; the input reads as it did. -/
def limitAxesUptoRow : OpenClaim := { program := "ytkglnkfoeedmoab", sum := "bceaaa9e6fd6c35b29c92f95bb3bda4c806e28af714af0d0722e1287681f2643", func := "sidestick/sidesticklaw21.LimitAxes", spec := "limitAxes", apart := false, narrowed := true }
def LimitAxesUptoSaid : Prop := limitAxesUptoRow.holds Try.pinned (OpenSpec.upto limitAxesSpec)

/-- 'sidesticklaw21.LimitHolds', WHERE WHAT IT READS IS OF BULK AT MOST 1048576: true; the input reads as it did. -/
def limitHoldsUptoRow : OpenClaim := { program := "ytkglnkfoeedmoab", sum := "bceaaa9e6fd6c35b29c92f95bb3bda4c806e28af714af0d0722e1287681f2643", func := "sidestick/sidesticklaw21.LimitHolds", spec := "limitHolds", apart := false, narrowed := true }
def LimitHoldsUptoSaid : Prop := limitHoldsUptoRow.holds Try.pinned (OpenSpec.upto limitHoldsSpec)

/-- 'sidesticklaw19.OfferErrors', WHERE WHAT IT READS IS OF BULK AT MOST 1048576: true; the input reads as it did. -/
def offerErrorsUptoRow : OpenClaim := { program := "ytkglnkfoeedmoab", sum := "bceaaa9e6fd6c35b29c92f95bb3bda4c806e28af714af0d0722e1287681f2643", func := "sidestick/sidesticklaw19.OfferErrors", spec := "offerErrors", unfollowed := true, recurses := true, apart := false, narrowed := true }
def OfferErrorsUptoSaid : Prop := offerErrorsUptoRow.holds Try.pinned (OpenSpec.upto offerErrorsSpec)

end Rows
end Go.Proofs.Ytkglnkfoeedmoab
