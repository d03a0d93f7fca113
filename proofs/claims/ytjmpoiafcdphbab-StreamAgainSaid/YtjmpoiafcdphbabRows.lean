/-
  No cell of these rows narrows 'for every input' (looked for: loops, veiled, ifaces, maps, wideKeys, modest, calm, conditions, laid).
  DERIVED. THE GIVEN ROWS OF THIS SEAT. 4 by the template 'for every input the law returns true; each argument reads behind the call as it read before'; 0 by the template 'total and deterministic' (their statements: YtjmpoiafcdphbabTotals.lean).
  GIVEN WITH THE SEED: the statements are not yours to turn. If you find one false, say at which input.
  Laid BY PROGRAM, IN A SANDBOX (cutbox-rows.mjs): the forced cells as the released guide's own fill.sh prints them over the translation 23e108a88b064310… (all of the seat's roots in one cut). By AI agents, Wed Nov 11 2026. No macro, syntax, notation, axiom, sorry.
-/
import Derived.Test.YtjmpoiafcdphbabChecked
import GoSem.Claim
import GoSem.ClaimJoined
import GoSem.ClaimMapViews
import Derived.JoinedTies
import Derived.KernelRfl
namespace Go.Proofs.Ytjmpoiafcdphbab
/- THE CELL 'sum', in the pinned program and in every row, IS THE sha256 OF THE DUMP (.gsa) THAT YtjmpoiafcdphbabProg.lean LOADS. Nothing in Lean hashes anything: it is a label: what it is worth is what the hold of that sum in a sandbox is worth. -/
noncomputable def Try.pinned : Pinned := { name := "ytjmpoiafcdphbab", sum := "23e108a88b064310344fce8dd3b88a14d325ce5ec3a392a912eb0083bc55c017", checked := Try.checked }
namespace Rows
def none {H : Type} : Left H := { results := [], args := [] }

/-- 'sidesticklaw07.StreamFrames': WHATEVER THE INPUT: true; the input reads as it did. -/
def streamFramesSpec : ChangeSpec := { name := "streamFrames", fn := fun _ => fun
  | [d1, d2] => { results := [.lit (.bool true)], args := [d1, d2] }
  | _ => none }
def streamFramesRow : OpenClaim := { program := "ytjmpoiafcdphbab", sum := "23e108a88b064310344fce8dd3b88a14d325ce5ec3a392a912eb0083bc55c017", func := "sidestick/sidesticklaw07.StreamFrames", spec := "streamFrames", inPlace := ["internal/bytealg.IndexByte"], apart := false }
def StreamFramesSaid : Prop := streamFramesRow.holds Try.pinned (OpenSpec.ofChange streamFramesSpec)

/-- ITS FALSE NEIGHBOUR: 'it returns false'. Refute it at one input. -/
def streamFramesWrong : ChangeSpec := { name := "streamFrames", fn := fun _ => fun
  | [d1, d2] => { results := [.lit (.bool false)], args := [d1, d2] }
  | _ => none }
def StreamFramesWrongFalsely : Prop := streamFramesRow.holds Try.pinned (OpenSpec.ofChange streamFramesWrong)

/-- 'sidesticklaw07.StreamAgain': WHATEVER THE INPUT: true; the input reads as it did. -/
def streamAgainSpec : ChangeSpec := { name := "streamAgain", fn := fun _ => fun
  | [d1, d2, d3] => { results := [.lit (.bool true)], args := [d1, d2, d3] }
  | _ => none }
def streamAgainRow : OpenClaim := { program := "ytjmpoiafcdphbab", sum := "23e108a88b064310344fce8dd3b88a14d325ce5ec3a392a912eb0083bc55c017", func := "sidestick/sidesticklaw07.StreamAgain", spec := "streamAgain", inPlace := ["internal/bytealg.IndexByte"], apart := false }
def StreamAgainSaid : Prop := streamAgainRow.holds Try.pinned (OpenSpec.ofChange streamAgainSpec)

/-- ITS FALSE NEIGHBOUR: 'it returns false'. Refute it at one input. -/
def streamAgainWrong : ChangeSpec := { name := "streamAgain", fn := fun _ => fun
  | [d1, d2, d3] => { results := [.lit (.bool false)], args := [d1, d2, d3] }
  | _ => none }
def StreamAgainWrongFalsely : Prop := streamAgainRow.holds Try.pinned (OpenSpec.ofChange streamAgainWrong)

/-- 'sidesticklaw07.StreamRests': WHATEVER THE INPUT: true; the input reads as it did. -/
def streamRestsSpec : ChangeSpec := { name := "streamRests", fn := fun _ => fun
  | [d1, d2] => { results := [.lit (.bool true)], args := [d1, d2] }
  | _ => none }
def streamRestsRow : OpenClaim := { program := "ytjmpoiafcdphbab", sum := "23e108a88b064310344fce8dd3b88a14d325ce5ec3a392a912eb0083bc55c017", func := "sidestick/sidesticklaw07.StreamRests", spec := "streamRests", inPlace := ["internal/bytealg.IndexByte"], apart := false }
def StreamRestsSaid : Prop := streamRestsRow.holds Try.pinned (OpenSpec.ofChange streamRestsSpec)

/-- ITS FALSE NEIGHBOUR: 'it returns false'. Refute it at one input. -/
def streamRestsWrong : ChangeSpec := { name := "streamRests", fn := fun _ => fun
  | [d1, d2] => { results := [.lit (.bool false)], args := [d1, d2] }
  | _ => none }
def StreamRestsWrongFalsely : Prop := streamRestsRow.holds Try.pinned (OpenSpec.ofChange streamRestsWrong)

/-- 'sidesticklaw07.StreamNoise': WHATEVER THE INPUT: true; the input reads as it did. -/
def streamNoiseSpec : ChangeSpec := { name := "streamNoise", fn := fun _ => fun
  | [d1, d2] => { results := [.lit (.bool true)], args := [d1, d2] }
  | _ => none }
def streamNoiseRow : OpenClaim := { program := "ytjmpoiafcdphbab", sum := "23e108a88b064310344fce8dd3b88a14d325ce5ec3a392a912eb0083bc55c017", func := "sidestick/sidesticklaw07.StreamNoise", spec := "streamNoise", inPlace := ["internal/bytealg.IndexByte"], apart := false }
def StreamNoiseSaid : Prop := streamNoiseRow.holds Try.pinned (OpenSpec.ofChange streamNoiseSpec)

/-- ITS FALSE NEIGHBOUR: 'it returns false'. Refute it at one input. -/
def streamNoiseWrong : ChangeSpec := { name := "streamNoise", fn := fun _ => fun
  | [d1, d2] => { results := [.lit (.bool false)], args := [d1, d2] }
  | _ => none }
def StreamNoiseWrongFalsely : Prop := streamNoiseRow.holds Try.pinned (OpenSpec.ofChange streamNoiseWrong)

/- THE SECOND FORM. 'bulk': how many values and letters a reading holds, each counted each time it is reached (what is shared counts as often as it is met; a slice's spare places count too). A statement '..UptoSaid' is the law's where the arguments, and the package variables that the reading takes, are together of bulk at most 1048576: NARROWER than '..Said'. Prove '..Said' where nothing that the law and all that it calls make is longer than what came in: it says more and counts as full. Else prove '..UptoSaid'. A law counts once. -/
mutual
def uptoBulk {H : Type} : DataW H → Nat
  | .lit (.string bytes) => bytes.length + 1
  | .lit _ => 1
  | .nil => 1
  | .ptr d => uptoBulk d + 1
  | .slice elems spare => uptoBulkAll elems + uptoBulkAll spare + 1
  | .agg parts => uptoBulkAll parts + 1
  | .iface _ d => uptoBulk d + 1
  | .map entries => uptoBulkEntries entries + 1
  | .held _ => 1
def uptoBulkAll {H : Type} : List (DataW H) → Nat
  | [] => 0
  | d :: r => uptoBulk d + uptoBulkAll r
def uptoBulkEntries {H : Type} : List (Lit × DataW H) → Nat
  | [] => 0
  | x :: r => uptoBulkEntry x + uptoBulkEntries r
def uptoBulkEntry {H : Type} : Lit × DataW H → Nat
  | (.string bytes, d) => bytes.length + uptoBulk d + 1
  | (_, d) => uptoBulk d + 1
 end
def uptoSmall : (H : Type) → List (DataW H) → Bool := fun _ ds => decide (uptoBulkAll ds ≤ 1048576)
def OpenSpec.upto (s : _root_.Go.ChangeSpec) : _root_.Go.OpenSpec := { _root_.Go.OpenSpec.ofChange s with cond := some uptoSmall }

/-- 'sidesticklaw07.StreamFrames', WHERE WHAT IT READS IS OF BULK AT MOST 1048576: true; the input reads as it did. -/
def streamFramesUptoRow : OpenClaim := { program := "ytjmpoiafcdphbab", sum := "23e108a88b064310344fce8dd3b88a14d325ce5ec3a392a912eb0083bc55c017", func := "sidestick/sidesticklaw07.StreamFrames", spec := "streamFrames", inPlace := ["internal/bytealg.IndexByte"], apart := false, narrowed := true }
def StreamFramesUptoSaid : Prop := streamFramesUptoRow.holds Try.pinned (OpenSpec.upto streamFramesSpec)

/-- 'sidesticklaw07.StreamAgain', WHERE WHAT IT READS IS OF BULK AT MOST 1048576: true; the input reads as it did. -/
def streamAgainUptoRow : OpenClaim := { program := "ytjmpoiafcdphbab", sum := "23e108a88b064310344fce8dd3b88a14d325ce5ec3a392a912eb0083bc55c017", func := "sidestick/sidesticklaw07.StreamAgain", spec := "streamAgain", inPlace := ["internal/bytealg.IndexByte"], apart := false, narrowed := true }
def StreamAgainUptoSaid : Prop := streamAgainUptoRow.holds Try.pinned (OpenSpec.upto streamAgainSpec)

/-- 'sidesticklaw07.StreamRests', WHERE WHAT IT READS IS OF BULK AT MOST 1048576: true; the input reads as it did. -/
def streamRestsUptoRow : OpenClaim := { program := "ytjmpoiafcdphbab", sum := "23e108a88b064310344fce8dd3b88a14d325ce5ec3a392a912eb0083bc55c017", func := "sidestick/sidesticklaw07.StreamRests", spec := "streamRests", inPlace := ["internal/bytealg.IndexByte"], apart := false, narrowed := true }
def StreamRestsUptoSaid : Prop := streamRestsUptoRow.holds Try.pinned (OpenSpec.upto streamRestsSpec)

/-- 'sidesticklaw07.StreamNoise', WHERE WHAT IT READS IS OF BULK AT MOST 1048576: true; the input reads as it did. -/
def streamNoiseUptoRow : OpenClaim := { program := "ytjmpoiafcdphbab", sum := "23e108a88b064310344fce8dd3b88a14d325ce5ec3a392a912eb0083bc55c017", func := "sidestick/sidesticklaw07.StreamNoise", spec := "streamNoise", inPlace := ["internal/bytealg.IndexByte"], apart := false, narrowed := true }
def StreamNoiseUptoSaid : Prop := streamNoiseUptoRow.holds Try.pinned (OpenSpec.upto streamNoiseSpec)

end Rows
end Go.Proofs.Ytjmpoiafcdphbab
