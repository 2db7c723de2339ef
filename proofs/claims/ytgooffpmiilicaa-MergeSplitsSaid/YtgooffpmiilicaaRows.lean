/-
  No cell of these rows narrows 'for every input' (looked for: loops, veiled, ifaces, maps, wideKeys, modest, calm, conditions, laid).
  DERIVED. THE GIVEN ROWS OF THIS SEAT. 7 by the template 'for every input the law returns true; each argument reads behind the call as it read before'; 0 by the template 'total and deterministic' (their statements: YtgooffpmiilicaaTotals.lean).
  GIVEN WITH THE SEED: the statements are not yours to turn. If you find one false, say at which input.
  Laid BY PROGRAM, IN A SANDBOX (cutbox-rows.mjs): the forced cells as the released guide's own fill.sh prints them over the translation 027e1eecb84b7f19… (all of the seat's roots in one cut). By AI agents, Wed Nov 11 2026. No macro, syntax, notation, axiom, sorry.
-/
import Derived.Test.YtgooffpmiilicaaChecked
import GoSem.Claim
import GoSem.ClaimJoined
import GoSem.ClaimMapViews
import Derived.JoinedTies
import Derived.KernelRfl
namespace Go.Proofs.Ytgooffpmiilicaa
/- THE CELL 'sum', in the pinned program and in every row, IS THE sha256 OF THE DUMP (.gsa) THAT YtgooffpmiilicaaProg.lean LOADS. Nothing in Lean hashes anything: it is a label: what it is worth is what the hold of that sum in a sandbox is worth. -/
noncomputable def Try.pinned : Pinned := { name := "ytgooffpmiilicaa", sum := "027e1eecb84b7f1955748bddec1e7a506614c15fb40d5df1fa80d881019bbf23", checked := Try.checked }
namespace Rows
def none {H : Type} : Left H := { results := [], args := [] }

/-- 'micropartlaw29.MergeExamples': WHATEVER THE INPUT: true; the input reads as it did. -/
def mergeExamplesSpec : ChangeSpec := { name := "mergeExamples", fn := fun _ => fun
  | [] => { results := [.lit (.bool true)], args := [] }
  | _ => none }
def mergeExamplesRow : OpenClaim := { program := "ytgooffpmiilicaa", sum := "027e1eecb84b7f1955748bddec1e7a506614c15fb40d5df1fa80d881019bbf23", func := "micropart/micropartlaw29.MergeExamples", spec := "mergeExamples", unfollowed := true, recurses := true, apart := false }
def MergeExamplesSaid : Prop := mergeExamplesRow.holds Try.pinned (OpenSpec.ofChange mergeExamplesSpec)

/-- ITS FALSE NEIGHBOUR: 'it returns false'. Refute it at one input. -/
def mergeExamplesWrong : ChangeSpec := { name := "mergeExamples", fn := fun _ => fun
  | [] => { results := [.lit (.bool false)], args := [] }
  | _ => none }
def MergeExamplesWrongFalsely : Prop := mergeExamplesRow.holds Try.pinned (OpenSpec.ofChange mergeExamplesWrong)

/-- 'micropartlaw29.MergeMerges': WHATEVER THE INPUT: true; the input reads as it did. -/
def mergeMergesSpec : ChangeSpec := { name := "mergeMerges", fn := fun _ => fun
  | [d1, d2, d3, d4, d5] => { results := [.lit (.bool true)], args := [d1, d2, d3, d4, d5] }
  | _ => none }
def mergeMergesRow : OpenClaim := { program := "ytgooffpmiilicaa", sum := "027e1eecb84b7f1955748bddec1e7a506614c15fb40d5df1fa80d881019bbf23", func := "micropart/micropartlaw29.MergeMerges", spec := "mergeMerges", unfollowed := true, recurses := true, apart := false }
def MergeMergesSaid : Prop := mergeMergesRow.holds Try.pinned (OpenSpec.ofChange mergeMergesSpec)

/-- ITS FALSE NEIGHBOUR: 'it returns false'. Refute it at one input. -/
def mergeMergesWrong : ChangeSpec := { name := "mergeMerges", fn := fun _ => fun
  | [d1, d2, d3, d4, d5] => { results := [.lit (.bool false)], args := [d1, d2, d3, d4, d5] }
  | _ => none }
def MergeMergesWrongFalsely : Prop := mergeMergesRow.holds Try.pinned (OpenSpec.ofChange mergeMergesWrong)

/-- 'micropartlaw29.MergeLimits': WHATEVER THE INPUT: true; the input reads as it did. -/
def mergeLimitsSpec : ChangeSpec := { name := "mergeLimits", fn := fun _ => fun
  | [d1, d2] => { results := [.lit (.bool true)], args := [d1, d2] }
  | _ => none }
def mergeLimitsRow : OpenClaim := { program := "ytgooffpmiilicaa", sum := "027e1eecb84b7f1955748bddec1e7a506614c15fb40d5df1fa80d881019bbf23", func := "micropart/micropartlaw29.MergeLimits", spec := "mergeLimits", unfollowed := true, recurses := true, apart := false }
def MergeLimitsSaid : Prop := mergeLimitsRow.holds Try.pinned (OpenSpec.ofChange mergeLimitsSpec)

/-- ITS FALSE NEIGHBOUR: 'it returns false'. Refute it at one input. -/
def mergeLimitsWrong : ChangeSpec := { name := "mergeLimits", fn := fun _ => fun
  | [d1, d2] => { results := [.lit (.bool false)], args := [d1, d2] }
  | _ => none }
def MergeLimitsWrongFalsely : Prop := mergeLimitsRow.holds Try.pinned (OpenSpec.ofChange mergeLimitsWrong)

/-- 'micropartlaw29.MergeLeast': WHATEVER THE INPUT: true; the input reads as it did. -/
def mergeLeastSpec : ChangeSpec := { name := "mergeLeast", fn := fun _ => fun
  | [d1, d2, d3] => { results := [.lit (.bool true)], args := [d1, d2, d3] }
  | _ => none }
def mergeLeastRow : OpenClaim := { program := "ytgooffpmiilicaa", sum := "027e1eecb84b7f1955748bddec1e7a506614c15fb40d5df1fa80d881019bbf23", func := "micropart/micropartlaw29.MergeLeast", spec := "mergeLeast", unfollowed := true, recurses := true, apart := false }
def MergeLeastSaid : Prop := mergeLeastRow.holds Try.pinned (OpenSpec.ofChange mergeLeastSpec)

/-- ITS FALSE NEIGHBOUR: 'it returns false'. Refute it at one input. -/
def mergeLeastWrong : ChangeSpec := { name := "mergeLeast", fn := fun _ => fun
  | [d1, d2, d3] => { results := [.lit (.bool false)], args := [d1, d2, d3] }
  | _ => none }
def MergeLeastWrongFalsely : Prop := mergeLeastRow.holds Try.pinned (OpenSpec.ofChange mergeLeastWrong)

/-- 'micropartlaw29.MergeKeepsAll': WHATEVER THE INPUT: true; the input reads as it did. -/
def mergeKeepsAllSpec : ChangeSpec := { name := "mergeKeepsAll", fn := fun _ => fun
  | [d1, d2] => { results := [.lit (.bool true)], args := [d1, d2] }
  | _ => none }
def mergeKeepsAllRow : OpenClaim := { program := "ytgooffpmiilicaa", sum := "027e1eecb84b7f1955748bddec1e7a506614c15fb40d5df1fa80d881019bbf23", func := "micropart/micropartlaw29.MergeKeepsAll", spec := "mergeKeepsAll", unfollowed := true, recurses := true, apart := false }
def MergeKeepsAllSaid : Prop := mergeKeepsAllRow.holds Try.pinned (OpenSpec.ofChange mergeKeepsAllSpec)

/-- ITS FALSE NEIGHBOUR: 'it returns false'. Refute it at one input. -/
def mergeKeepsAllWrong : ChangeSpec := { name := "mergeKeepsAll", fn := fun _ => fun
  | [d1, d2] => { results := [.lit (.bool false)], args := [d1, d2] }
  | _ => none }
def MergeKeepsAllWrongFalsely : Prop := mergeKeepsAllRow.holds Try.pinned (OpenSpec.ofChange mergeKeepsAllWrong)

/-- 'micropartlaw29.MergeInSteps': WHATEVER THE INPUT: true; the input reads as it did. -/
def mergeInStepsSpec : ChangeSpec := { name := "mergeInSteps", fn := fun _ => fun
  | [d1, d2] => { results := [.lit (.bool true)], args := [d1, d2] }
  | _ => none }
def mergeInStepsRow : OpenClaim := { program := "ytgooffpmiilicaa", sum := "027e1eecb84b7f1955748bddec1e7a506614c15fb40d5df1fa80d881019bbf23", func := "micropart/micropartlaw29.MergeInSteps", spec := "mergeInSteps", unfollowed := true, recurses := true, apart := false }
def MergeInStepsSaid : Prop := mergeInStepsRow.holds Try.pinned (OpenSpec.ofChange mergeInStepsSpec)

/-- ITS FALSE NEIGHBOUR: 'it returns false'. Refute it at one input. -/
def mergeInStepsWrong : ChangeSpec := { name := "mergeInSteps", fn := fun _ => fun
  | [d1, d2] => { results := [.lit (.bool false)], args := [d1, d2] }
  | _ => none }
def MergeInStepsWrongFalsely : Prop := mergeInStepsRow.holds Try.pinned (OpenSpec.ofChange mergeInStepsWrong)

/-- 'micropartlaw29.MergeSplits': WHATEVER THE INPUT: true; the input reads as it did. -/
def mergeSplitsSpec : ChangeSpec := { name := "mergeSplits", fn := fun _ => fun
  | [d1, d2, d3, d4] => { results := [.lit (.bool true)], args := [d1, d2, d3, d4] }
  | _ => none }
def mergeSplitsRow : OpenClaim := { program := "ytgooffpmiilicaa", sum := "027e1eecb84b7f1955748bddec1e7a506614c15fb40d5df1fa80d881019bbf23", func := "micropart/micropartlaw29.MergeSplits", spec := "mergeSplits", unfollowed := true, recurses := true, apart := false }
def MergeSplitsSaid : Prop := mergeSplitsRow.holds Try.pinned (OpenSpec.ofChange mergeSplitsSpec)

/-- ITS FALSE NEIGHBOUR: 'it returns false'. Refute it at one input. -/
def mergeSplitsWrong : ChangeSpec := { name := "mergeSplits", fn := fun _ => fun
  | [d1, d2, d3, d4] => { results := [.lit (.bool false)], args := [d1, d2, d3, d4] }
  | _ => none }
def MergeSplitsWrongFalsely : Prop := mergeSplitsRow.holds Try.pinned (OpenSpec.ofChange mergeSplitsWrong)

/- THE SECOND FORM. 'bulk': how many values and letters a reading holds, each counted each time it is reached (what is shared counts as often as it is met; a slice's spare places count too). A statement '..UptoSaid' is the law's where the arguments, and the package variables that the reading takes, are together of bulk at most 1048576: NARROWER than '..Said'. Prove '..Said' where nothing that the law and all that it calls make is longer than what came in: it says more and counts as full. Else prove '..UptoSaid'. A law counts once. -/
mutual
def uptoBulk {H : Type} : DataW H → Nat
  | .lit (.string bytes) => bytes.length + 1
  | .lit _ => 1
  | .nil => 1
  | .ptr d => uptoBulk d + 1
  | .slice elems spare => uptoBulkAll elems + uptoBulkAll spare + 1
  | .agg parts => uptoBulkAll parts + 1
  | .iface _ d => uptoBulk d + 1
  | .map entries => uptoBulkEntries entries + 1
  | .held _ => 1
def uptoBulkAll {H : Type} : List (DataW H) → Nat
  | [] => 0
  | d :: r => uptoBulk d + uptoBulkAll r
def uptoBulkEntries {H : Type} : List (Lit × DataW H) → Nat
  | [] => 0
  | x :: r => uptoBulkEntry x + uptoBulkEntries r
def uptoBulkEntry {H : Type} : Lit × DataW H → Nat
  | (.string bytes, d) => bytes.length + uptoBulk d + 1
  | (_, d) => uptoBulk d + 1
 end
def uptoSmall : (H : Type) → List (DataW H) → Bool := fun _ ds => decide (uptoBulkAll ds ≤ 1048576)
def OpenSpec.upto (s : _root_.Go.ChangeSpec) : _root_.Go.OpenSpec := { _root_.Go.OpenSpec.ofChange s with cond := some uptoSmall }

/-- 'micropartlaw29.MergeExamples', WHERE WHAT IT READS IS OF BULK AT MOST 1048576: true; the input reads as it did. -/
def mergeExamplesUptoRow : OpenClaim := { program := "ytgooffpmiilicaa", sum := "027e1eecb84b7f1955748bddec1e7a506614c15fb40d5df1fa80d881019bbf23", func := "micropart/micropartlaw29.MergeExamples", spec := "mergeExamples", unfollowed := true, recurses := true, apart := false, narrowed := true }
def MergeExamplesUptoSaid : Prop := mergeExamplesUptoRow.holds Try.pinned (OpenSpec.upto mergeExamplesSpec)

/-- 'micropartlaw29.MergeMerges', WHERE WHAT IT READS IS OF BULK AT MOST 1048576: true; the input reads as it did. -/
def mergeMergesUptoRow : OpenClaim := { program := "ytgooffpmiilicaa", sum := "027e1eecb84b7f1955748bddec1e7a506614c15fb40d5df1fa80d881019bbf23", func := "micropart/micropartlaw29.MergeMerges", spec := "mergeMerges", unfollowed := true, recurses := true, apart := false, narrowed := true }
def MergeMergesUptoSaid : Prop := mergeMergesUptoRow.holds Try.pinned (OpenSpec.upto mergeMergesSpec)

/-- 'micropartlaw29.MergeLimits', WHERE WHAT IT READS IS OF BULK AT MOST 1048576: true; the input reads as it did. -/
def mergeLimitsUptoRow : OpenClaim := { program := "ytgooffpmiilicaa", sum := "027e1eecb84b7f1955748bddec1e7a506614c15fb40d5df1fa80d881019bbf23", func := "micropart/micropartlaw29.MergeLimits", spec := "mergeLimits", unfollowed := true, recurses := true, apart := false, narrowed := true }
def MergeLimitsUptoSaid : Prop := mergeLimitsUptoRow.holds Try.pinned (OpenSpec.upto mergeLimitsSpec)

/-- 'micropartlaw29.MergeLeast', WHERE WHAT IT READS IS OF BULK AT MOST 1048576: true; the input reads as it did. -/
def mergeLeastUptoRow : OpenClaim := { program := "ytgooffpmiilicaa", sum := "027e1eecb84b7f1955748bddec1e7a506614c15fb40d5df1fa80d881019bbf23", func := "micropart/micropartlaw29.MergeLeast", spec := "mergeLeast", unfollowed := true, recurses := true, apart := false, narrowed := true }
def MergeLeastUptoSaid : Prop := mergeLeastUptoRow.holds Try.pinned (OpenSpec.upto mergeLeastSpec)

/-- 'micropartlaw29.MergeKeepsAll', WHERE WHAT IT READS IS OF BULK AT MOST 1048576: true; the input reads as it did. -/
def mergeKeepsAllUptoRow : OpenClaim := { program := "ytgooffpmiilicaa", sum := "027e1eecb84b7f1955748bddec1e7a506614c15fb40d5df1fa80d881019bbf23", func := "micropart/micropartlaw29.MergeKeepsAll", spec := "mergeKeepsAll", unfollowed := true, recurses := true, apart := false, narrowed := true }
def MergeKeepsAllUptoSaid : Prop := mergeKeepsAllUptoRow.holds Try.pinned (OpenSpec.upto mergeKeepsAllSpec)

/-- 'micropartlaw29.MergeInSteps', WHERE WHAT IT READS IS OF BULK AT MOST 1048576: true; the input reads as it did. -/
def mergeInStepsUptoRow : OpenClaim := { program := "ytgooffpmiilicaa", sum := "027e1eecb84b7f1955748bddec1e7a506614c15fb40d5df1fa80d881019bbf23", func := "micropart/micropartlaw29.MergeInSteps", spec := "mergeInSteps", unfollowed := true, recurses := true, apart := false, narrowed := true }
def MergeInStepsUptoSaid : Prop := mergeInStepsUptoRow.holds Try.pinned (OpenSpec.upto mergeInStepsSpec)

/-- 'micropartlaw29.MergeSplits', WHERE WHAT IT READS IS OF BULK AT MOST 1048576: true; the input reads as it did. -/
def mergeSplitsUptoRow : OpenClaim := { program := "ytgooffpmiilicaa", sum := "027e1eecb84b7f1955748bddec1e7a506614c15fb40d5df1fa80d881019bbf23", func := "micropart/micropartlaw29.MergeSplits", spec := "mergeSplits", unfollowed := true, recurses := true, apart := false, narrowed := true }
def MergeSplitsUptoSaid : Prop := mergeSplitsUptoRow.holds Try.pinned (OpenSpec.upto mergeSplitsSpec)

end Rows
end Go.Proofs.Ytgooffpmiilicaa
