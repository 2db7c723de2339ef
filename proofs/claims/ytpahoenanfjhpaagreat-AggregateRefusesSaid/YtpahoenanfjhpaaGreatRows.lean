/-
  No cell of these rows narrows 'for every input' (looked for: loops, veiled, ifaces, maps, wideKeys, modest, calm, conditions, laid).
  DERIVED. THE GIVEN ROWS OF THIS SEAT. 4 by the template 'for every input the law returns true; each argument reads behind the call as it read before'; 0 by the template 'total and deterministic' (their statements: YtpahoenanfjhpaaGreatTotals.lean).
  GIVEN WITH THE SEED: the statements are not yours to turn. If you find one false, say at which input.
  Laid BY PROGRAM, IN A SANDBOX (cutbox-rows.mjs): the forced cells as the released guide's own fill.sh prints them over the translation e3f03f6d9c0ede7d… (all of the seat's roots in one cut). By AI agents, Wed Nov 11 2026. No macro, syntax, notation, axiom, sorry.
-/
import Derived.Test.YtpahoenanfjhpaaGreatChecked
import GoSem.Claim
import GoSem.ClaimJoined
import GoSem.ClaimMapViews
import Derived.JoinedTies
import Derived.KernelRfl
namespace Go.Proofs.YtpahoenanfjhpaaGreat
/- THE CELL 'sum', in the pinned program and in every row, IS THE sha256 OF THE DUMP (.gsa) THAT YtpahoenanfjhpaaGreatProg.lean LOADS. Nothing in Lean hashes anything: it is a label: what it is worth is what the hold of that sum in a sandbox is worth. -/
noncomputable def Tryz.pinned : Pinned := { name := "ytpahoenanfjhpaagreat", sum := "e3f03f6d9c0ede7dc74bb40336364b4fdc0684db39658e113f4cbb4dab55c536", checked := Tryz.checked }
namespace Rows
def none {H : Type} : Left H := { results := [], args := [] }

/-- 'micropartlaw26.AggregateRuns': WHATEVER THE INPUT: true; the input reads as it did. -/
def aggregateRunsSpec : ChangeSpec := { name := "aggregateRuns", fn := fun _ => fun
  | [d1, d2, d3, d4, d5, d6] => { results := [.lit (.bool true)], args := [d1, d2, d3, d4, d5, d6] }
  | _ => none }
def aggregateRunsRow : OpenClaim := { program := "ytpahoenanfjhpaagreat", sum := "e3f03f6d9c0ede7dc74bb40336364b4fdc0684db39658e113f4cbb4dab55c536", func := "micropart/micropartlaw26.AggregateRuns", spec := "aggregateRuns", inPlace := ["math/bits.Add64"], unfollowed := true, recurses := true, apart := false }
def AggregateRunsSaid : Prop := aggregateRunsRow.holds Tryz.pinned (OpenSpec.ofChange aggregateRunsSpec)

/-- ITS FALSE NEIGHBOUR: 'it returns false'. Refute it at one input. -/
def aggregateRunsWrong : ChangeSpec := { name := "aggregateRuns", fn := fun _ => fun
  | [d1, d2, d3, d4, d5, d6] => { results := [.lit (.bool false)], args := [d1, d2, d3, d4, d5, d6] }
  | _ => none }
def AggregateRunsWrongFalsely : Prop := aggregateRunsRow.holds Tryz.pinned (OpenSpec.ofChange aggregateRunsWrong)

/-- 'micropartlaw26.AggregateChecks': WHATEVER THE INPUT: true; the input reads as it did. -/
def aggregateChecksSpec : ChangeSpec := { name := "aggregateChecks", fn := fun _ => fun
  | [d1, d2, d3, d4, d5] => { results := [.lit (.bool true)], args := [d1, d2, d3, d4, d5] }
  | _ => none }
def aggregateChecksRow : OpenClaim := { program := "ytpahoenanfjhpaagreat", sum := "e3f03f6d9c0ede7dc74bb40336364b4fdc0684db39658e113f4cbb4dab55c536", func := "micropart/micropartlaw26.AggregateChecks", spec := "aggregateChecks", inPlace := ["math/bits.Add64"], unfollowed := true, recurses := true, apart := false }
def AggregateChecksSaid : Prop := aggregateChecksRow.holds Tryz.pinned (OpenSpec.ofChange aggregateChecksSpec)

/-- ITS FALSE NEIGHBOUR: 'it returns false'. Refute it at one input. -/
def aggregateChecksWrong : ChangeSpec := { name := "aggregateChecks", fn := fun _ => fun
  | [d1, d2, d3, d4, d5] => { results := [.lit (.bool false)], args := [d1, d2, d3, d4, d5] }
  | _ => none }
def AggregateChecksWrongFalsely : Prop := aggregateChecksRow.holds Tryz.pinned (OpenSpec.ofChange aggregateChecksWrong)

/-- 'micropartlaw26.AggregateStates': WHATEVER THE INPUT: true; the input reads as it did. -/
def aggregateStatesSpec : ChangeSpec := { name := "aggregateStates", fn := fun _ => fun
  | [d1, d2, d3, d4, d5, d6] => { results := [.lit (.bool true)], args := [d1, d2, d3, d4, d5, d6] }
  | _ => none }
def aggregateStatesRow : OpenClaim := { program := "ytpahoenanfjhpaagreat", sum := "e3f03f6d9c0ede7dc74bb40336364b4fdc0684db39658e113f4cbb4dab55c536", func := "micropart/micropartlaw26.AggregateStates", spec := "aggregateStates", inPlace := ["math/bits.Add64"], unfollowed := true, recurses := true, apart := false }
def AggregateStatesSaid : Prop := aggregateStatesRow.holds Tryz.pinned (OpenSpec.ofChange aggregateStatesSpec)

/-- ITS FALSE NEIGHBOUR: 'it returns false'. Refute it at one input. -/
def aggregateStatesWrong : ChangeSpec := { name := "aggregateStates", fn := fun _ => fun
  | [d1, d2, d3, d4, d5, d6] => { results := [.lit (.bool false)], args := [d1, d2, d3, d4, d5, d6] }
  | _ => none }
def AggregateStatesWrongFalsely : Prop := aggregateStatesRow.holds Tryz.pinned (OpenSpec.ofChange aggregateStatesWrong)

/-- 'micropartlaw26.AggregateRefuses': WHATEVER THE INPUT: true; the input reads as it did. -/
def aggregateRefusesSpec : ChangeSpec := { name := "aggregateRefuses", fn := fun _ => fun
  | [d1, d2, d3, d4, d5] => { results := [.lit (.bool true)], args := [d1, d2, d3, d4, d5] }
  | _ => none }
def aggregateRefusesRow : OpenClaim := { program := "ytpahoenanfjhpaagreat", sum := "e3f03f6d9c0ede7dc74bb40336364b4fdc0684db39658e113f4cbb4dab55c536", func := "micropart/micropartlaw26.AggregateRefuses", spec := "aggregateRefuses", inPlace := ["math/bits.Add64"], unfollowed := true, recurses := true, apart := false }
def AggregateRefusesSaid : Prop := aggregateRefusesRow.holds Tryz.pinned (OpenSpec.ofChange aggregateRefusesSpec)

/-- ITS FALSE NEIGHBOUR: 'it returns false'. Refute it at one input. -/
def aggregateRefusesWrong : ChangeSpec := { name := "aggregateRefuses", fn := fun _ => fun
  | [d1, d2, d3, d4, d5] => { results := [.lit (.bool false)], args := [d1, d2, d3, d4, d5] }
  | _ => none }
def AggregateRefusesWrongFalsely : Prop := aggregateRefusesRow.holds Tryz.pinned (OpenSpec.ofChange aggregateRefusesWrong)

/- THE SECOND FORM. 'bulk': how many values and letters a reading holds, each counted each time it is reached (what is shared counts as often as it is met; a slice's spare places count too). A statement '..UptoSaid' is the law's where the arguments, and the package variables that the reading takes, are together of bulk at most 1048576: NARROWER than '..Said'. Prove '..Said' where nothing that the law and all that it calls make is longer than what came in: it says more and counts as full. Else prove '..UptoSaid'. A law counts once. -/
mutual
def uptoBulk {H : Type} : DataW H → Nat
  | .lit (.string bytes) => bytes.length + 1
  | .lit _ => 1
  | .nil => 1
  | .ptr d => uptoBulk d + 1
  | .slice elems spare => uptoBulkAll elems + uptoBulkAll spare + 1
  | .agg parts => uptoBulkAll parts + 1
  | .iface _ d => uptoBulk d + 1
  | .map entries => uptoBulkEntries entries + 1
  | .held _ => 1
def uptoBulkAll {H : Type} : List (DataW H) → Nat
  | [] => 0
  | d :: r => uptoBulk d + uptoBulkAll r
def uptoBulkEntries {H : Type} : List (Lit × DataW H) → Nat
  | [] => 0
  | x :: r => uptoBulkEntry x + uptoBulkEntries r
def uptoBulkEntry {H : Type} : Lit × DataW H → Nat
  | (.string bytes, d) => bytes.length + uptoBulk d + 1
  | (_, d) => uptoBulk d + 1
 end
def uptoSmall : (H : Type) → List (DataW H) → Bool := fun _ ds => decide (uptoBulkAll ds ≤ 1048576)
def OpenSpec.upto (s : _root_.Go.ChangeSpec) : _root_.Go.OpenSpec := { _root_.Go.OpenSpec.ofChange s with cond := some uptoSmall }

/-- 'micropartlaw26.AggregateRuns', WHERE WHAT IT READS IS OF BULK AT MOST 1048576: true; the input reads as it did. -/
def aggregateRunsUptoRow : OpenClaim := { program := "ytpahoenanfjhpaagreat", sum := "e3f03f6d9c0ede7dc74bb40336364b4fdc0684db39658e113f4cbb4dab55c536", func := "micropart/micropartlaw26.AggregateRuns", spec := "aggregateRuns", inPlace := ["math/bits.Add64"], unfollowed := true, recurses := true, apart := false, narrowed := true }
def AggregateRunsUptoSaid : Prop := aggregateRunsUptoRow.holds Tryz.pinned (OpenSpec.upto aggregateRunsSpec)

/-- 'micropartlaw26.AggregateChecks', WHERE WHAT IT READS IS OF BULK AT MOST 1048576: true; the input reads as it did. -/
def aggregateChecksUptoRow : OpenClaim := { program := "ytpahoenanfjhpaagreat", sum := "e3f03f6d9c0ede7dc74bb40336364b4fdc0684db39658e113f4cbb4dab55c536", func := "micropart/micropartlaw26.AggregateChecks", spec := "aggregateChecks", inPlace := ["math/bits.Add64"], unfollowed := true, recurses := true, apart := false, narrowed := true }
def AggregateChecksUptoSaid : Prop := aggregateChecksUptoRow.holds Tryz.pinned (OpenSpec.upto aggregateChecksSpec)

/-- 'micropartlaw26.AggregateStates', WHERE WHAT IT READS IS OF BULK AT MOST 1048576: true; the input reads as it did. -/
def aggregateStatesUptoRow : OpenClaim := { program := "ytpahoenanfjhpaagreat", sum := "e3f03f6d9c0ede7dc74bb40336364b4fdc0684db39658e113f4cbb4dab55c536", func := "micropart/micropartlaw26.AggregateStates", spec := "aggregateStates", inPlace := ["math/bits.Add64"], unfollowed := true, recurses := true, apart := false, narrowed := true }
def AggregateStatesUptoSaid : Prop := aggregateStatesUptoRow.holds Tryz.pinned (OpenSpec.upto aggregateStatesSpec)

/-- 'micropartlaw26.AggregateRefuses', WHERE WHAT IT READS IS OF BULK AT MOST 1048576: true; the input reads as it did. -/
def aggregateRefusesUptoRow : OpenClaim := { program := "ytpahoenanfjhpaagreat", sum := "e3f03f6d9c0ede7dc74bb40336364b4fdc0684db39658e113f4cbb4dab55c536", func := "micropart/micropartlaw26.AggregateRefuses", spec := "aggregateRefuses", inPlace := ["math/bits.Add64"], unfollowed := true, recurses := true, apart := false, narrowed := true }
def AggregateRefusesUptoSaid : Prop := aggregateRefusesUptoRow.holds Tryz.pinned (OpenSpec.upto aggregateRefusesSpec)

end Rows
end Go.Proofs.YtpahoenanfjhpaaGreat
