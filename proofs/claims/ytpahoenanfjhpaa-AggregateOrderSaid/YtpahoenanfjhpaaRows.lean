/-
  No cell of these rows narrows 'for every input' (looked for: loops, veiled, ifaces, maps, wideKeys, modest, calm, conditions, laid).
  DERIVED. THE GIVEN ROWS OF THIS SEAT. 4 by the template 'for every input the law returns true; each argument reads behind the call as it read before'; 0 by the template 'total and deterministic' (their statements: YtpahoenanfjhpaaTotals.lean).
  GIVEN WITH THE SEED: the statements are not yours to turn. If you find one false, say at which input.
  Laid BY PROGRAM, IN A SANDBOX (cutbox-rows.mjs): the forced cells as the released guide's own fill.sh prints them over the translation edd5204471244534… (all of the seat's roots in one cut). By AI agents, Wed Nov 11 2026. No macro, syntax, notation, axiom, sorry.
-/
import Derived.Test.YtpahoenanfjhpaaChecked
import GoSem.Claim
import GoSem.ClaimJoined
import GoSem.ClaimMapViews
import Derived.JoinedTies
import Derived.KernelRfl
namespace Go.Proofs.Ytpahoenanfjhpaa
/- THE CELL 'sum', in the pinned program and in every row, IS THE sha256 OF THE DUMP (.gsa) THAT YtpahoenanfjhpaaProg.lean LOADS. Nothing in Lean hashes anything: it is a label: what it is worth is what the hold of that sum in a sandbox is worth. -/
noncomputable def Try.pinned : Pinned := { name := "ytpahoenanfjhpaa", sum := "edd520447124453411dead08ce60ac643f0bf4acdb8f70b0db36470f3c129ce0", checked := Try.checked }
namespace Rows
def none {H : Type} : Left H := { results := [], args := [] }

/-- 'micropartlaw26.AggregateExamples': WHATEVER THE INPUT: true; the input reads as it did. -/
def aggregateExamplesSpec : ChangeSpec := { name := "aggregateExamples", fn := fun _ => fun
  | [] => { results := [.lit (.bool true)], args := [] }
  | _ => none }
def aggregateExamplesRow : OpenClaim := { program := "ytpahoenanfjhpaa", sum := "edd520447124453411dead08ce60ac643f0bf4acdb8f70b0db36470f3c129ce0", func := "micropart/micropartlaw26.AggregateExamples", spec := "aggregateExamples", inPlace := ["math/bits.Add64"], unfollowed := true, recurses := true, apart := false }
def AggregateExamplesSaid : Prop := aggregateExamplesRow.holds Try.pinned (OpenSpec.ofChange aggregateExamplesSpec)

/-- ITS FALSE NEIGHBOUR: 'it returns false'. Refute it at one input. -/
def aggregateExamplesWrong : ChangeSpec := { name := "aggregateExamples", fn := fun _ => fun
  | [] => { results := [.lit (.bool false)], args := [] }
  | _ => none }
def AggregateExamplesWrongFalsely : Prop := aggregateExamplesRow.holds Try.pinned (OpenSpec.ofChange aggregateExamplesWrong)

/-- 'micropartlaw26.AggregateOrder': WHATEVER THE INPUT: true; the input reads as it did. -/
def aggregateOrderSpec : ChangeSpec := { name := "aggregateOrder", fn := fun _ => fun
  | [d1, d2, d3, d4] => { results := [.lit (.bool true)], args := [d1, d2, d3, d4] }
  | _ => none }
def aggregateOrderRow : OpenClaim := { program := "ytpahoenanfjhpaa", sum := "edd520447124453411dead08ce60ac643f0bf4acdb8f70b0db36470f3c129ce0", func := "micropart/micropartlaw26.AggregateOrder", spec := "aggregateOrder", inPlace := ["math/bits.Add64"], unfollowed := true, recurses := true, apart := false }
def AggregateOrderSaid : Prop := aggregateOrderRow.holds Try.pinned (OpenSpec.ofChange aggregateOrderSpec)

/-- ITS FALSE NEIGHBOUR: 'it returns false'. Refute it at one input. -/
def aggregateOrderWrong : ChangeSpec := { name := "aggregateOrder", fn := fun _ => fun
  | [d1, d2, d3, d4] => { results := [.lit (.bool false)], args := [d1, d2, d3, d4] }
  | _ => none }
def AggregateOrderWrongFalsely : Prop := aggregateOrderRow.holds Try.pinned (OpenSpec.ofChange aggregateOrderWrong)

/-- 'micropartlaw26.AggregateCounts': WHATEVER THE INPUT: true; the input reads as it did. -/
def aggregateCountsSpec : ChangeSpec := { name := "aggregateCounts", fn := fun _ => fun
  | [d1, d2, d3, d4] => { results := [.lit (.bool true)], args := [d1, d2, d3, d4] }
  | _ => none }
def aggregateCountsRow : OpenClaim := { program := "ytpahoenanfjhpaa", sum := "edd520447124453411dead08ce60ac643f0bf4acdb8f70b0db36470f3c129ce0", func := "micropart/micropartlaw26.AggregateCounts", spec := "aggregateCounts", inPlace := ["math/bits.Add64"], unfollowed := true, recurses := true, apart := false }
def AggregateCountsSaid : Prop := aggregateCountsRow.holds Try.pinned (OpenSpec.ofChange aggregateCountsSpec)

/-- ITS FALSE NEIGHBOUR: 'it returns false'. Refute it at one input. -/
def aggregateCountsWrong : ChangeSpec := { name := "aggregateCounts", fn := fun _ => fun
  | [d1, d2, d3, d4] => { results := [.lit (.bool false)], args := [d1, d2, d3, d4] }
  | _ => none }
def AggregateCountsWrongFalsely : Prop := aggregateCountsRow.holds Try.pinned (OpenSpec.ofChange aggregateCountsWrong)

/-- 'micropartlaw26.AggregateSums': WHATEVER THE INPUT: true; the input reads as it did. -/
def aggregateSumsSpec : ChangeSpec := { name := "aggregateSums", fn := fun _ => fun
  | [d1, d2] => { results := [.lit (.bool true)], args := [d1, d2] }
  | _ => none }
def aggregateSumsRow : OpenClaim := { program := "ytpahoenanfjhpaa", sum := "edd520447124453411dead08ce60ac643f0bf4acdb8f70b0db36470f3c129ce0", func := "micropart/micropartlaw26.AggregateSums", spec := "aggregateSums", inPlace := ["math/bits.Add64"], unfollowed := true, recurses := true, apart := false }
def AggregateSumsSaid : Prop := aggregateSumsRow.holds Try.pinned (OpenSpec.ofChange aggregateSumsSpec)

/-- ITS FALSE NEIGHBOUR: 'it returns false'. Refute it at one input. -/
def aggregateSumsWrong : ChangeSpec := { name := "aggregateSums", fn := fun _ => fun
  | [d1, d2] => { results := [.lit (.bool false)], args := [d1, d2] }
  | _ => none }
def AggregateSumsWrongFalsely : Prop := aggregateSumsRow.holds Try.pinned (OpenSpec.ofChange aggregateSumsWrong)

/- THE SECOND FORM. 'bulk': how many values and letters a reading holds, each counted each time it is reached (what is shared counts as often as it is met; a slice's spare places count too). A statement '..UptoSaid' is the law's where the arguments, and the package variables that the reading takes, are together of bulk at most 1048576: NARROWER than '..Said'. Prove '..Said' where nothing that the law and all that it calls make is longer than what came in: it says more and counts as full. Else prove '..UptoSaid'. A law counts once. -/
mutual
def uptoBulk {H : Type} : DataW H → Nat
  | .lit (.string bytes) => bytes.length + 1
  | .lit _ => 1
  | .nil => 1
  | .ptr d => uptoBulk d + 1
  | .slice elems spare => uptoBulkAll elems + uptoBulkAll spare + 1
  | .agg parts => uptoBulkAll parts + 1
  | .iface _ d => uptoBulk d + 1
  | .map entries => uptoBulkEntries entries + 1
  | .held _ => 1
def uptoBulkAll {H : Type} : List (DataW H) → Nat
  | [] => 0
  | d :: r => uptoBulk d + uptoBulkAll r
def uptoBulkEntries {H : Type} : List (Lit × DataW H) → Nat
  | [] => 0
  | x :: r => uptoBulkEntry x + uptoBulkEntries r
def uptoBulkEntry {H : Type} : Lit × DataW H → Nat
  | (.string bytes, d) => bytes.length + uptoBulk d + 1
  | (_, d) => uptoBulk d + 1
 end
def uptoSmall : (H : Type) → List (DataW H) → Bool := fun _ ds => decide (uptoBulkAll ds ≤ 1048576)
def OpenSpec.upto (s : _root_.Go.ChangeSpec) : _root_.Go.OpenSpec := { _root_.Go.OpenSpec.ofChange s with cond := some uptoSmall }

/-- 'micropartlaw26.AggregateExamples', WHERE WHAT IT READS IS OF BULK AT MOST 1048576: true; the input reads as it did. -/
def aggregateExamplesUptoRow : OpenClaim := { program := "ytpahoenanfjhpaa", sum := "edd520447124453411dead08ce60ac643f0bf4acdb8f70b0db36470f3c129ce0", func := "micropart/micropartlaw26.AggregateExamples", spec := "aggregateExamples", inPlace := ["math/bits.Add64"], unfollowed := true, recurses := true, apart := false, narrowed := true }
def AggregateExamplesUptoSaid : Prop := aggregateExamplesUptoRow.holds Try.pinned (OpenSpec.upto aggregateExamplesSpec)

/-- 'micropartlaw26.AggregateOrder', WHERE WHAT IT READS IS OF BULK AT MOST 1048576: true; the input reads as it did. -/
def aggregateOrderUptoRow : OpenClaim := { program := "ytpahoenanfjhpaa", sum := "edd520447124453411dead08ce60ac643f0bf4acdb8f70b0db36470f3c129ce0", func := "micropart/micropartlaw26.AggregateOrder", spec := "aggregateOrder", inPlace := ["math/bits.Add64"], unfollowed := true, recurses := true, apart := false, narrowed := true }
def AggregateOrderUptoSaid : Prop := aggregateOrderUptoRow.holds Try.pinned (OpenSpec.upto aggregateOrderSpec)

/-- 'micropartlaw26.AggregateCounts', WHERE WHAT IT READS IS OF BULK AT MOST 1048576: true; the input reads as it did. -/
def aggregateCountsUptoRow : OpenClaim := { program := "ytpahoenanfjhpaa", sum := "edd520447124453411dead08ce60ac643f0bf4acdb8f70b0db36470f3c129ce0", func := "micropart/micropartlaw26.AggregateCounts", spec := "aggregateCounts", inPlace := ["math/bits.Add64"], unfollowed := true, recurses := true, apart := false, narrowed := true }
def AggregateCountsUptoSaid : Prop := aggregateCountsUptoRow.holds Try.pinned (OpenSpec.upto aggregateCountsSpec)

/-- 'micropartlaw26.AggregateSums', WHERE WHAT IT READS IS OF BULK AT MOST 1048576: true; the input reads as it did. -/
def aggregateSumsUptoRow : OpenClaim := { program := "ytpahoenanfjhpaa", sum := "edd520447124453411dead08ce60ac643f0bf4acdb8f70b0db36470f3c129ce0", func := "micropart/micropartlaw26.AggregateSums", spec := "aggregateSums", inPlace := ["math/bits.Add64"], unfollowed := true, recurses := true, apart := false, narrowed := true }
def AggregateSumsUptoSaid : Prop := aggregateSumsUptoRow.holds Try.pinned (OpenSpec.upto aggregateSumsSpec)

end Rows
end Go.Proofs.Ytpahoenanfjhpaa
