/-
  No cell of these rows narrows 'for every input' (looked for: loops, veiled, ifaces, maps, wideKeys, modest, calm, conditions, laid).
  DERIVED. THE GIVEN ROWS OF THIS SEAT. 9 by the template 'for every input the law returns true; each argument reads behind the call as it read before'; 0 by the template 'total and deterministic' (their statements: YtkblkjfejaflkaaTotals.lean).
  GIVEN WITH THE SEED: the statements are not yours to turn. If you find one false, say at which input.
  Laid BY PROGRAM, IN A SANDBOX (cutbox-rows.mjs): the forced cells as the released guide's own fill.sh prints them over the translation 57a51adee3a0dd72… (all of the seat's roots in one cut). By AI agents, Wed Nov 11 2026. No macro, syntax, notation, axiom, sorry.
-/
import Derived.Test.YtkblkjfejaflkaaChecked
import GoSem.Claim
import GoSem.ClaimJoined
import GoSem.ClaimMapViews
import Derived.JoinedTies
import Derived.KernelRfl
namespace Go.Proofs.Ytkblkjfejaflkaa
/- THE CELL 'sum', in the pinned program and in every row, IS THE sha256 OF THE DUMP (.gsa) THAT YtkblkjfejaflkaaProg.lean LOADS. Nothing in Lean hashes anything: it is a label: what it is worth is what the hold of that sum in a sandbox is worth. -/
noncomputable def Try.pinned : Pinned := { name := "ytkblkjfejaflkaa", sum := "57a51adee3a0dd7299e55a5cbf8529e6a5538927ae1f0a3c828490c7f2fdd672", checked := Try.checked }
namespace Rows
def none {H : Type} : Left H := { results := [], args := [] }

/-- 'micropartlaw15.BatchExamples': WHATEVER THE INPUT: true; the input reads as it did. -/
def batchExamplesSpec : ChangeSpec := { name := "batchExamples", fn := fun _ => fun
  | [] => { results := [.lit (.bool true)], args := [] }
  | _ => none }
def batchExamplesRow : OpenClaim := { program := "ytkblkjfejaflkaa", sum := "57a51adee3a0dd7299e55a5cbf8529e6a5538927ae1f0a3c828490c7f2fdd672", func := "micropart/micropartlaw15.BatchExamples", spec := "batchExamples", unfollowed := true, recurses := true, apart := false }
def BatchExamplesSaid : Prop := batchExamplesRow.holds Try.pinned (OpenSpec.ofChange batchExamplesSpec)

/-- ITS FALSE NEIGHBOUR: 'it returns false'. Refute it at one input. -/
def batchExamplesWrong : ChangeSpec := { name := "batchExamples", fn := fun _ => fun
  | [] => { results := [.lit (.bool false)], args := [] }
  | _ => none }
def BatchExamplesWrongFalsely : Prop := batchExamplesRow.holds Try.pinned (OpenSpec.ofChange batchExamplesWrong)

/-- 'micropartlaw15.BatchRanks': WHATEVER THE INPUT: true; the input reads as it did. -/
def batchRanksSpec : ChangeSpec := { name := "batchRanks", fn := fun _ => fun
  | [d1, d2, d3, d4, d5, d6, d7] => { results := [.lit (.bool true)], args := [d1, d2, d3, d4, d5, d6, d7] }
  | _ => none }
def batchRanksRow : OpenClaim := { program := "ytkblkjfejaflkaa", sum := "57a51adee3a0dd7299e55a5cbf8529e6a5538927ae1f0a3c828490c7f2fdd672", func := "micropart/micropartlaw15.BatchRanks", spec := "batchRanks", unfollowed := true, recurses := true, apart := false }
def BatchRanksSaid : Prop := batchRanksRow.holds Try.pinned (OpenSpec.ofChange batchRanksSpec)

/-- ITS FALSE NEIGHBOUR: 'it returns false'. Refute it at one input. -/
def batchRanksWrong : ChangeSpec := { name := "batchRanks", fn := fun _ => fun
  | [d1, d2, d3, d4, d5, d6, d7] => { results := [.lit (.bool false)], args := [d1, d2, d3, d4, d5, d6, d7] }
  | _ => none }
def BatchRanksWrongFalsely : Prop := batchRanksRow.holds Try.pinned (OpenSpec.ofChange batchRanksWrong)

/-- 'micropartlaw15.BatchSorts': WHATEVER THE INPUT: true; the input reads as it did. -/
def batchSortsSpec : ChangeSpec := { name := "batchSorts", fn := fun _ => fun
  | [d1, d2, d3, d4] => { results := [.lit (.bool true)], args := [d1, d2, d3, d4] }
  | _ => none }
def batchSortsRow : OpenClaim := { program := "ytkblkjfejaflkaa", sum := "57a51adee3a0dd7299e55a5cbf8529e6a5538927ae1f0a3c828490c7f2fdd672", func := "micropart/micropartlaw15.BatchSorts", spec := "batchSorts", unfollowed := true, recurses := true, apart := false }
def BatchSortsSaid : Prop := batchSortsRow.holds Try.pinned (OpenSpec.ofChange batchSortsSpec)

/-- ITS FALSE NEIGHBOUR: 'it returns false'. Refute it at one input. -/
def batchSortsWrong : ChangeSpec := { name := "batchSorts", fn := fun _ => fun
  | [d1, d2, d3, d4] => { results := [.lit (.bool false)], args := [d1, d2, d3, d4] }
  | _ => none }
def BatchSortsWrongFalsely : Prop := batchSortsRow.holds Try.pinned (OpenSpec.ofChange batchSortsWrong)

/-- 'micropartlaw15.BatchSortIsPermutation': WHATEVER THE INPUT: true; the input reads as it did. -/
def batchSortIsPermutationSpec : ChangeSpec := { name := "batchSortIsPermutation", fn := fun _ => fun
  | [d1, d2] => { results := [.lit (.bool true)], args := [d1, d2] }
  | _ => none }
def batchSortIsPermutationRow : OpenClaim := { program := "ytkblkjfejaflkaa", sum := "57a51adee3a0dd7299e55a5cbf8529e6a5538927ae1f0a3c828490c7f2fdd672", func := "micropart/micropartlaw15.BatchSortIsPermutation", spec := "batchSortIsPermutation", unfollowed := true, recurses := true, apart := false }
def BatchSortIsPermutationSaid : Prop := batchSortIsPermutationRow.holds Try.pinned (OpenSpec.ofChange batchSortIsPermutationSpec)

/-- ITS FALSE NEIGHBOUR: 'it returns false'. Refute it at one input. -/
def batchSortIsPermutationWrong : ChangeSpec := { name := "batchSortIsPermutation", fn := fun _ => fun
  | [d1, d2] => { results := [.lit (.bool false)], args := [d1, d2] }
  | _ => none }
def BatchSortIsPermutationWrongFalsely : Prop := batchSortIsPermutationRow.holds Try.pinned (OpenSpec.ofChange batchSortIsPermutationWrong)

/-- 'micropartlaw15.BatchSortOnce': WHATEVER THE INPUT: true; the input reads as it did. -/
def batchSortOnceSpec : ChangeSpec := { name := "batchSortOnce", fn := fun _ => fun
  | [d1, d2] => { results := [.lit (.bool true)], args := [d1, d2] }
  | _ => none }
def batchSortOnceRow : OpenClaim := { program := "ytkblkjfejaflkaa", sum := "57a51adee3a0dd7299e55a5cbf8529e6a5538927ae1f0a3c828490c7f2fdd672", func := "micropart/micropartlaw15.BatchSortOnce", spec := "batchSortOnce", unfollowed := true, recurses := true, apart := false }
def BatchSortOnceSaid : Prop := batchSortOnceRow.holds Try.pinned (OpenSpec.ofChange batchSortOnceSpec)

/-- ITS FALSE NEIGHBOUR: 'it returns false'. Refute it at one input. -/
def batchSortOnceWrong : ChangeSpec := { name := "batchSortOnce", fn := fun _ => fun
  | [d1, d2] => { results := [.lit (.bool false)], args := [d1, d2] }
  | _ => none }
def BatchSortOnceWrongFalsely : Prop := batchSortOnceRow.holds Try.pinned (OpenSpec.ofChange batchSortOnceWrong)

/-- 'micropartlaw15.BatchChecks': WHATEVER THE INPUT: true; the input reads as it did. -/
def batchChecksSpec : ChangeSpec := { name := "batchChecks", fn := fun _ => fun
  | [d1, d2, d3, d4, d5, d6, d7, d8] => { results := [.lit (.bool true)], args := [d1, d2, d3, d4, d5, d6, d7, d8] }
  | _ => none }
def batchChecksRow : OpenClaim := { program := "ytkblkjfejaflkaa", sum := "57a51adee3a0dd7299e55a5cbf8529e6a5538927ae1f0a3c828490c7f2fdd672", func := "micropart/micropartlaw15.BatchChecks", spec := "batchChecks", unfollowed := true, recurses := true, apart := false }
def BatchChecksSaid : Prop := batchChecksRow.holds Try.pinned (OpenSpec.ofChange batchChecksSpec)

/-- ITS FALSE NEIGHBOUR: 'it returns false'. Refute it at one input. -/
def batchChecksWrong : ChangeSpec := { name := "batchChecks", fn := fun _ => fun
  | [d1, d2, d3, d4, d5, d6, d7, d8] => { results := [.lit (.bool false)], args := [d1, d2, d3, d4, d5, d6, d7, d8] }
  | _ => none }
def BatchChecksWrongFalsely : Prop := batchChecksRow.holds Try.pinned (OpenSpec.ofChange batchChecksWrong)

/-- 'micropartlaw15.BatchSplitIsWhole': WHATEVER THE INPUT: true; the input reads as it did. -/
def batchSplitIsWholeSpec : ChangeSpec := { name := "batchSplitIsWhole", fn := fun _ => fun
  | [d1, d2, d3] => { results := [.lit (.bool true)], args := [d1, d2, d3] }
  | _ => none }
def batchSplitIsWholeRow : OpenClaim := { program := "ytkblkjfejaflkaa", sum := "57a51adee3a0dd7299e55a5cbf8529e6a5538927ae1f0a3c828490c7f2fdd672", func := "micropart/micropartlaw15.BatchSplitIsWhole", spec := "batchSplitIsWhole", unfollowed := true, recurses := true, apart := false }
def BatchSplitIsWholeSaid : Prop := batchSplitIsWholeRow.holds Try.pinned (OpenSpec.ofChange batchSplitIsWholeSpec)

/-- ITS FALSE NEIGHBOUR: 'it returns false'. Refute it at one input. -/
def batchSplitIsWholeWrong : ChangeSpec := { name := "batchSplitIsWhole", fn := fun _ => fun
  | [d1, d2, d3] => { results := [.lit (.bool false)], args := [d1, d2, d3] }
  | _ => none }
def BatchSplitIsWholeWrongFalsely : Prop := batchSplitIsWholeRow.holds Try.pinned (OpenSpec.ofChange batchSplitIsWholeWrong)

/-- 'micropartlaw15.BatchSplits': WHATEVER THE INPUT: true; the input reads as it did. -/
def batchSplitsSpec : ChangeSpec := { name := "batchSplits", fn := fun _ => fun
  | [d1, d2, d3, d4] => { results := [.lit (.bool true)], args := [d1, d2, d3, d4] }
  | _ => none }
def batchSplitsRow : OpenClaim := { program := "ytkblkjfejaflkaa", sum := "57a51adee3a0dd7299e55a5cbf8529e6a5538927ae1f0a3c828490c7f2fdd672", func := "micropart/micropartlaw15.BatchSplits", spec := "batchSplits", unfollowed := true, recurses := true, apart := false }
def BatchSplitsSaid : Prop := batchSplitsRow.holds Try.pinned (OpenSpec.ofChange batchSplitsSpec)

/-- ITS FALSE NEIGHBOUR: 'it returns false'. Refute it at one input. -/
def batchSplitsWrong : ChangeSpec := { name := "batchSplits", fn := fun _ => fun
  | [d1, d2, d3, d4] => { results := [.lit (.bool false)], args := [d1, d2, d3, d4] }
  | _ => none }
def BatchSplitsWrongFalsely : Prop := batchSplitsRow.holds Try.pinned (OpenSpec.ofChange batchSplitsWrong)

/-- 'micropartlaw15.BatchKeepsArguments': WHATEVER THE INPUT: true; the input reads as it did. -/
def batchKeepsArgumentsSpec : ChangeSpec := { name := "batchKeepsArguments", fn := fun _ => fun
  | [d1, d2, d3] => { results := [.lit (.bool true)], args := [d1, d2, d3] }
  | _ => none }
def batchKeepsArgumentsRow : OpenClaim := { program := "ytkblkjfejaflkaa", sum := "57a51adee3a0dd7299e55a5cbf8529e6a5538927ae1f0a3c828490c7f2fdd672", func := "micropart/micropartlaw15.BatchKeepsArguments", spec := "batchKeepsArguments", unfollowed := true, recurses := true, apart := false }
def BatchKeepsArgumentsSaid : Prop := batchKeepsArgumentsRow.holds Try.pinned (OpenSpec.ofChange batchKeepsArgumentsSpec)

/-- ITS FALSE NEIGHBOUR: 'it returns false'. Refute it at one input. -/
def batchKeepsArgumentsWrong : ChangeSpec := { name := "batchKeepsArguments", fn := fun _ => fun
  | [d1, d2, d3] => { results := [.lit (.bool false)], args := [d1, d2, d3] }
  | _ => none }
def BatchKeepsArgumentsWrongFalsely : Prop := batchKeepsArgumentsRow.holds Try.pinned (OpenSpec.ofChange batchKeepsArgumentsWrong)

/- THE SECOND FORM. 'bulk': how many values and letters a reading holds, each counted each time it is reached (what is shared counts as often as it is met; a slice's spare places count too). A statement '..UptoSaid' is the law's where the arguments, and the package variables that the reading takes, are together of bulk at most 1048576: NARROWER than '..Said'. Prove '..Said' where nothing that the law and all that it calls make is longer than what came in: it says more and counts as full. Else prove '..UptoSaid'. A law counts once. -/
mutual
def uptoBulk {H : Type} : DataW H → Nat
  | .lit (.string bytes) => bytes.length + 1
  | .lit _ => 1
  | .nil => 1
  | .ptr d => uptoBulk d + 1
  | .slice elems spare => uptoBulkAll elems + uptoBulkAll spare + 1
  | .agg parts => uptoBulkAll parts + 1
  | .iface _ d => uptoBulk d + 1
  | .map entries => uptoBulkEntries entries + 1
  | .held _ => 1
def uptoBulkAll {H : Type} : List (DataW H) → Nat
  | [] => 0
  | d :: r => uptoBulk d + uptoBulkAll r
def uptoBulkEntries {H : Type} : List (Lit × DataW H) → Nat
  | [] => 0
  | x :: r => uptoBulkEntry x + uptoBulkEntries r
def uptoBulkEntry {H : Type} : Lit × DataW H → Nat
  | (.string bytes, d) => bytes.length + uptoBulk d + 1
  | (_, d) => uptoBulk d + 1
 end
def uptoSmall : (H : Type) → List (DataW H) → Bool := fun _ ds => decide (uptoBulkAll ds ≤ 1048576)
def OpenSpec.upto (s : _root_.Go.ChangeSpec) : _root_.Go.OpenSpec := { _root_.Go.OpenSpec.ofChange s with cond := some uptoSmall }

/-- 'micropartlaw15.BatchExamples', WHERE WHAT IT READS IS OF BULK AT MOST 1048576: true; the input reads as it did. -/
def batchExamplesUptoRow : OpenClaim := { program := "ytkblkjfejaflkaa", sum := "57a51adee3a0dd7299e55a5cbf8529e6a5538927ae1f0a3c828490c7f2fdd672", func := "micropart/micropartlaw15.BatchExamples", spec := "batchExamples", unfollowed := true, recurses := true, apart := false, narrowed := true }
def BatchExamplesUptoSaid : Prop := batchExamplesUptoRow.holds Try.pinned (OpenSpec.upto batchExamplesSpec)

/-- 'micropartlaw15.BatchRanks', WHERE WHAT IT READS IS OF BULK AT MOST 1048576: true; the input reads as it did. -/
def batchRanksUptoRow : OpenClaim := { program := "ytkblkjfejaflkaa", sum := "57a51adee3a0dd7299e55a5cbf8529e6a5538927ae1f0a3c828490c7f2fdd672", func := "micropart/micropartlaw15.BatchRanks", spec := "batchRanks", unfollowed := true, recurses := true, apart := false, narrowed := true }
def BatchRanksUptoSaid : Prop := batchRanksUptoRow.holds Try.pinned (OpenSpec.upto batchRanksSpec)

/-- 'micropartlaw15.BatchSorts', WHERE WHAT IT READS IS OF BULK AT MOST 1048576: true; the input reads as it did. -/
def batchSortsUptoRow : OpenClaim := { program := "ytkblkjfejaflkaa", sum := "57a51adee3a0dd7299e55a5cbf8529e6a5538927ae1f0a3c828490c7f2fdd672", func := "micropart/micropartlaw15.BatchSorts", spec := "batchSorts", unfollowed := true, recurses := true, apart := false, narrowed := true }
def BatchSortsUptoSaid : Prop := batchSortsUptoRow.holds Try.pinned (OpenSpec.upto batchSortsSpec)

/-- 'micropartlaw15.BatchSortIsPermutation', WHERE WHAT IT READS IS OF BULK AT MOST 1048576: true; the input reads as it did. -/
def batchSortIsPermutationUptoRow : OpenClaim := { program := "ytkblkjfejaflkaa", sum := "57a51adee3a0dd7299e55a5cbf8529e6a5538927ae1f0a3c828490c7f2fdd672", func := "micropart/micropartlaw15.BatchSortIsPermutation", spec := "batchSortIsPermutation", unfollowed := true, recurses := true, apart := false, narrowed := true }
def BatchSortIsPermutationUptoSaid : Prop := batchSortIsPermutationUptoRow.holds Try.pinned (OpenSpec.upto batchSortIsPermutationSpec)

/-- 'micropartlaw15.BatchSortOnce', WHERE WHAT IT READS IS OF BULK AT MOST 1048576: true; the input reads as it did. -/
def batchSortOnceUptoRow : OpenClaim := { program := "ytkblkjfejaflkaa", sum := "57a51adee3a0dd7299e55a5cbf8529e6a5538927ae1f0a3c828490c7f2fdd672", func := "micropart/micropartlaw15.BatchSortOnce", spec := "batchSortOnce", unfollowed := true, recurses := true, apart := false, narrowed := true }
def BatchSortOnceUptoSaid : Prop := batchSortOnceUptoRow.holds Try.pinned (OpenSpec.upto batchSortOnceSpec)

/-- 'micropartlaw15.BatchChecks', WHERE WHAT IT READS IS OF BULK AT MOST 1048576: true; the input reads as it did. -/
def batchChecksUptoRow : OpenClaim := { program := "ytkblkjfejaflkaa", sum := "57a51adee3a0dd7299e55a5cbf8529e6a5538927ae1f0a3c828490c7f2fdd672", func := "micropart/micropartlaw15.BatchChecks", spec := "batchChecks", unfollowed := true, recurses := true, apart := false, narrowed := true }
def BatchChecksUptoSaid : Prop := batchChecksUptoRow.holds Try.pinned (OpenSpec.upto batchChecksSpec)

/-- 'micropartlaw15.BatchSplitIsWhole', WHERE WHAT IT READS IS OF BULK AT MOST 1048576: true; the input reads as it did. -/
def batchSplitIsWholeUptoRow : OpenClaim := { program := "ytkblkjfejaflkaa", sum := "57a51adee3a0dd7299e55a5cbf8529e6a5538927ae1f0a3c828490c7f2fdd672", func := "micropart/micropartlaw15.BatchSplitIsWhole", spec := "batchSplitIsWhole", unfollowed := true, recurses := true, apart := false, narrowed := true }
def BatchSplitIsWholeUptoSaid : Prop := batchSplitIsWholeUptoRow.holds Try.pinned (OpenSpec.upto batchSplitIsWholeSpec)

/-- 'micropartlaw15.BatchSplits', WHERE WHAT IT READS IS OF BULK AT MOST 1048576: true; the input reads as it did. -/
def batchSplitsUptoRow : OpenClaim := { program := "ytkblkjfejaflkaa", sum := "57a51adee3a0dd7299e55a5cbf8529e6a5538927ae1f0a3c828490c7f2fdd672", func := "micropart/micropartlaw15.BatchSplits", spec := "batchSplits", unfollowed := true, recurses := true, apart := false, narrowed := true }
def BatchSplitsUptoSaid : Prop := batchSplitsUptoRow.holds Try.pinned (OpenSpec.upto batchSplitsSpec)

/-- 'micropartlaw15.BatchKeepsArguments', WHERE WHAT IT READS IS OF BULK AT MOST 1048576: true; the input reads as it did. -/
def batchKeepsArgumentsUptoRow : OpenClaim := { program := "ytkblkjfejaflkaa", sum := "57a51adee3a0dd7299e55a5cbf8529e6a5538927ae1f0a3c828490c7f2fdd672", func := "micropart/micropartlaw15.BatchKeepsArguments", spec := "batchKeepsArguments", unfollowed := true, recurses := true, apart := false, narrowed := true }
def BatchKeepsArgumentsUptoSaid : Prop := batchKeepsArgumentsUptoRow.holds Try.pinned (OpenSpec.upto batchKeepsArgumentsSpec)

end Rows
end Go.Proofs.Ytkblkjfejaflkaa
