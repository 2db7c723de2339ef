/-
  No cell of these rows narrows 'for every input' (looked for: loops, veiled, ifaces, maps, wideKeys, modest, calm, conditions, laid).
  DERIVED. THE GIVEN ROWS OF THIS SEAT. 7 by the template 'for every input the law returns true; each argument reads behind the call as it read before'; 0 by the template 'total and deterministic' (their statements: YtfemekmkmiljdaaTotals.lean).
  GIVEN WITH THE SEED: the statements are not yours to turn. If you find one false, say at which input.
  Laid BY PROGRAM, IN A SANDBOX (cutbox-rows.mjs): the forced cells as the released guide's own fill.sh prints them over the translation 2ffb5184d538d9b6… (all of the seat's roots in one cut). By AI agents, Wed Nov 11 2026. No macro, syntax, notation, axiom, sorry.
-/
import Derived.Test.YtfemekmkmiljdaaChecked
import GoSem.Claim
import GoSem.ClaimJoined
import GoSem.ClaimMapViews
import Derived.JoinedTies
import Derived.KernelRfl
namespace Go.Proofs.Ytfemekmkmiljdaa
/- THE CELL 'sum', in the pinned program and in every row, IS THE sha256 OF THE DUMP (.gsa) THAT YtfemekmkmiljdaaProg.lean LOADS. Nothing in Lean hashes anything: it is a label: what it is worth is what the hold of that sum in a sandbox is worth. -/
noncomputable def Try.pinned : Pinned := { name := "ytfemekmkmiljdaa", sum := "2ffb5184d538d9b6299de11bdec12e8b69caba8b9aa9b84b7e27ba5c8109247a", checked := Try.checked }
namespace Rows
def none {H : Type} : Left H := { results := [], args := [] }

/-- 'micropartlaw24.PruneExamples': WHATEVER THE INPUT: true; the input reads as it did. -/
def pruneExamplesSpec : ChangeSpec := { name := "pruneExamples", fn := fun _ => fun
  | [] => { results := [.lit (.bool true)], args := [] }
  | _ => none }
def pruneExamplesRow : OpenClaim := { program := "ytfemekmkmiljdaa", sum := "2ffb5184d538d9b6299de11bdec12e8b69caba8b9aa9b84b7e27ba5c8109247a", func := "micropart/micropartlaw24.PruneExamples", spec := "pruneExamples", unfollowed := true, recurses := true, apart := false }
def PruneExamplesSaid : Prop := pruneExamplesRow.holds Try.pinned (OpenSpec.ofChange pruneExamplesSpec)

/-- ITS FALSE NEIGHBOUR: 'it returns false'. Refute it at one input. -/
def pruneExamplesWrong : ChangeSpec := { name := "pruneExamples", fn := fun _ => fun
  | [] => { results := [.lit (.bool false)], args := [] }
  | _ => none }
def PruneExamplesWrongFalsely : Prop := pruneExamplesRow.holds Try.pinned (OpenSpec.ofChange pruneExamplesWrong)

/-- 'micropartlaw24.PruneRaw': WHATEVER THE INPUT: true; the input reads as it did. -/
def pruneRawSpec : ChangeSpec := { name := "pruneRaw", fn := fun _ => fun
  | [d1, d2, d3, d4, d5, d6] => { results := [.lit (.bool true)], args := [d1, d2, d3, d4, d5, d6] }
  | _ => none }
def pruneRawRow : OpenClaim := { program := "ytfemekmkmiljdaa", sum := "2ffb5184d538d9b6299de11bdec12e8b69caba8b9aa9b84b7e27ba5c8109247a", func := "micropart/micropartlaw24.PruneRaw", spec := "pruneRaw", unfollowed := true, recurses := true, apart := false }
def PruneRawSaid : Prop := pruneRawRow.holds Try.pinned (OpenSpec.ofChange pruneRawSpec)

/-- ITS FALSE NEIGHBOUR: 'it returns false'. Refute it at one input. -/
def pruneRawWrong : ChangeSpec := { name := "pruneRaw", fn := fun _ => fun
  | [d1, d2, d3, d4, d5, d6] => { results := [.lit (.bool false)], args := [d1, d2, d3, d4, d5, d6] }
  | _ => none }
def PruneRawWrongFalsely : Prop := pruneRawRow.holds Try.pinned (OpenSpec.ofChange pruneRawWrong)

/-- 'micropartlaw24.PruneGenerated': WHATEVER THE INPUT: true; the input reads as it did. -/
def pruneGeneratedSpec : ChangeSpec := { name := "pruneGenerated", fn := fun _ => fun
  | [d1, d2, d3, d4, d5] => { results := [.lit (.bool true)], args := [d1, d2, d3, d4, d5] }
  | _ => none }
def pruneGeneratedRow : OpenClaim := { program := "ytfemekmkmiljdaa", sum := "2ffb5184d538d9b6299de11bdec12e8b69caba8b9aa9b84b7e27ba5c8109247a", func := "micropart/micropartlaw24.PruneGenerated", spec := "pruneGenerated", unfollowed := true, recurses := true, apart := false }
def PruneGeneratedSaid : Prop := pruneGeneratedRow.holds Try.pinned (OpenSpec.ofChange pruneGeneratedSpec)

/-- ITS FALSE NEIGHBOUR: 'it returns false'. Refute it at one input. -/
def pruneGeneratedWrong : ChangeSpec := { name := "pruneGenerated", fn := fun _ => fun
  | [d1, d2, d3, d4, d5] => { results := [.lit (.bool false)], args := [d1, d2, d3, d4, d5] }
  | _ => none }
def PruneGeneratedWrongFalsely : Prop := pruneGeneratedRow.holds Try.pinned (OpenSpec.ofChange pruneGeneratedWrong)

/-- 'micropartlaw24.PruneLeaves': WHATEVER THE INPUT: true; the input reads as it did. -/
def pruneLeavesSpec : ChangeSpec := { name := "pruneLeaves", fn := fun _ => fun
  | [d1, d2, d3, d4, d5, d6, d7] => { results := [.lit (.bool true)], args := [d1, d2, d3, d4, d5, d6, d7] }
  | _ => none }
def pruneLeavesRow : OpenClaim := { program := "ytfemekmkmiljdaa", sum := "2ffb5184d538d9b6299de11bdec12e8b69caba8b9aa9b84b7e27ba5c8109247a", func := "micropart/micropartlaw24.PruneLeaves", spec := "pruneLeaves", unfollowed := true, recurses := true, apart := false }
def PruneLeavesSaid : Prop := pruneLeavesRow.holds Try.pinned (OpenSpec.ofChange pruneLeavesSpec)

/-- ITS FALSE NEIGHBOUR: 'it returns false'. Refute it at one input. -/
def pruneLeavesWrong : ChangeSpec := { name := "pruneLeaves", fn := fun _ => fun
  | [d1, d2, d3, d4, d5, d6, d7] => { results := [.lit (.bool false)], args := [d1, d2, d3, d4, d5, d6, d7] }
  | _ => none }
def PruneLeavesWrongFalsely : Prop := pruneLeavesRow.holds Try.pinned (OpenSpec.ofChange pruneLeavesWrong)

/-- 'micropartlaw24.PruneIsSound': WHATEVER THE INPUT: true; the input reads as it did. -/
def pruneIsSoundSpec : ChangeSpec := { name := "pruneIsSound", fn := fun _ => fun
  | [d1, d2, d3] => { results := [.lit (.bool true)], args := [d1, d2, d3] }
  | _ => none }
def pruneIsSoundRow : OpenClaim := { program := "ytfemekmkmiljdaa", sum := "2ffb5184d538d9b6299de11bdec12e8b69caba8b9aa9b84b7e27ba5c8109247a", func := "micropart/micropartlaw24.PruneIsSound", spec := "pruneIsSound", unfollowed := true, recurses := true, apart := false }
def PruneIsSoundSaid : Prop := pruneIsSoundRow.holds Try.pinned (OpenSpec.ofChange pruneIsSoundSpec)

/-- ITS FALSE NEIGHBOUR: 'it returns false'. Refute it at one input. -/
def pruneIsSoundWrong : ChangeSpec := { name := "pruneIsSound", fn := fun _ => fun
  | [d1, d2, d3] => { results := [.lit (.bool false)], args := [d1, d2, d3] }
  | _ => none }
def PruneIsSoundWrongFalsely : Prop := pruneIsSoundRow.holds Try.pinned (OpenSpec.ofChange pruneIsSoundWrong)

/-- 'micropartlaw24.PruneNever': WHATEVER THE INPUT: true; the input reads as it did. -/
def pruneNeverSpec : ChangeSpec := { name := "pruneNever", fn := fun _ => fun
  | [d1, d2, d3, d4] => { results := [.lit (.bool true)], args := [d1, d2, d3, d4] }
  | _ => none }
def pruneNeverRow : OpenClaim := { program := "ytfemekmkmiljdaa", sum := "2ffb5184d538d9b6299de11bdec12e8b69caba8b9aa9b84b7e27ba5c8109247a", func := "micropart/micropartlaw24.PruneNever", spec := "pruneNever", unfollowed := true, recurses := true, apart := false }
def PruneNeverSaid : Prop := pruneNeverRow.holds Try.pinned (OpenSpec.ofChange pruneNeverSpec)

/-- ITS FALSE NEIGHBOUR: 'it returns false'. Refute it at one input. -/
def pruneNeverWrong : ChangeSpec := { name := "pruneNever", fn := fun _ => fun
  | [d1, d2, d3, d4] => { results := [.lit (.bool false)], args := [d1, d2, d3, d4] }
  | _ => none }
def PruneNeverWrongFalsely : Prop := pruneNeverRow.holds Try.pinned (OpenSpec.ofChange pruneNeverWrong)

/-- 'micropartlaw24.PruneExact': WHATEVER THE INPUT: true; the input reads as it did. -/
def pruneExactSpec : ChangeSpec := { name := "pruneExact", fn := fun _ => fun
  | [d1, d2, d3, d4, d5] => { results := [.lit (.bool true)], args := [d1, d2, d3, d4, d5] }
  | _ => none }
def pruneExactRow : OpenClaim := { program := "ytfemekmkmiljdaa", sum := "2ffb5184d538d9b6299de11bdec12e8b69caba8b9aa9b84b7e27ba5c8109247a", func := "micropart/micropartlaw24.PruneExact", spec := "pruneExact", unfollowed := true, recurses := true, apart := false }
def PruneExactSaid : Prop := pruneExactRow.holds Try.pinned (OpenSpec.ofChange pruneExactSpec)

/-- ITS FALSE NEIGHBOUR: 'it returns false'. Refute it at one input. -/
def pruneExactWrong : ChangeSpec := { name := "pruneExact", fn := fun _ => fun
  | [d1, d2, d3, d4, d5] => { results := [.lit (.bool false)], args := [d1, d2, d3, d4, d5] }
  | _ => none }
def PruneExactWrongFalsely : Prop := pruneExactRow.holds Try.pinned (OpenSpec.ofChange pruneExactWrong)

/- THE SECOND FORM. 'bulk': how many values and letters a reading holds, each counted each time it is reached (what is shared counts as often as it is met; a slice's spare places count too). A statement '..UptoSaid' is the law's where the arguments, and the package variables that the reading takes, are together of bulk at most 1048576: NARROWER than '..Said'. Prove '..Said' where nothing that the law and all that it calls make is longer than what came in: it says more and counts as full. Else prove '..UptoSaid'. A law counts once. -/
mutual
def uptoBulk {H : Type} : DataW H → Nat
  | .lit (.string bytes) => bytes.length + 1
  | .lit _ => 1
  | .nil => 1
  | .ptr d => uptoBulk d + 1
  | .slice elems spare => uptoBulkAll elems + uptoBulkAll spare + 1
  | .agg parts => uptoBulkAll parts + 1
  | .iface _ d => uptoBulk d + 1
  | .map entries => uptoBulkEntries entries + 1
  | .held _ => 1
def uptoBulkAll {H : Type} : List (DataW H) → Nat
  | [] => 0
  | d :: r => uptoBulk d + uptoBulkAll r
def uptoBulkEntries {H : Type} : List (Lit × DataW H) → Nat
  | [] => 0
  | x :: r => uptoBulkEntry x + uptoBulkEntries r
def uptoBulkEntry {H : Type} : Lit × DataW H → Nat
  | (.string bytes, d) => bytes.length + uptoBulk d + 1
  | (_, d) => uptoBulk d + 1
 end
def uptoSmall : (H : Type) → List (DataW H) → Bool := fun _ ds => decide (uptoBulkAll ds ≤ 1048576)
def OpenSpec.upto (s : _root_.Go.ChangeSpec) : _root_.Go.OpenSpec := { _root_.Go.OpenSpec.ofChange s with cond := some uptoSmall }

/-- 'micropartlaw24.PruneExamples', WHERE WHAT IT READS IS OF BULK AT MOST 1048576: true; the input reads as it did. -/
def pruneExamplesUptoRow : OpenClaim := { program := "ytfemekmkmiljdaa", sum := "2ffb5184d538d9b6299de11bdec12e8b69caba8b9aa9b84b7e27ba5c8109247a", func := "micropart/micropartlaw24.PruneExamples", spec := "pruneExamples", unfollowed := true, recurses := true, apart := false, narrowed := true }
def PruneExamplesUptoSaid : Prop := pruneExamplesUptoRow.holds Try.pinned (OpenSpec.upto pruneExamplesSpec)

/-- 'micropartlaw24.PruneRaw', WHERE WHAT IT READS IS OF BULK AT MOST 1048576: true; the input reads as it did. -/
def pruneRawUptoRow : OpenClaim := { program := "ytfemekmkmiljdaa", sum := "2ffb5184d538d9b6299de11bdec12e8b69caba8b9aa9b84b7e27ba5c8109247a", func := "micropart/micropartlaw24.PruneRaw", spec := "pruneRaw", unfollowed := true, recurses := true, apart := false, narrowed := true }
def PruneRawUptoSaid : Prop := pruneRawUptoRow.holds Try.pinned (OpenSpec.upto pruneRawSpec)

/-- 'micropartlaw24.PruneGenerated', WHERE WHAT IT READS IS OF BULK AT MOST 1048576: true; the input reads as it did. -/
def pruneGeneratedUptoRow : OpenClaim := { program := "ytfemekmkmiljdaa", sum := "2ffb5184d538d9b6299de11bdec12e8b69caba8b9aa9b84b7e27ba5c8109247a", func := "micropart/micropartlaw24.PruneGenerated", spec := "pruneGenerated", unfollowed := true, recurses := true, apart := false, narrowed := true }
def PruneGeneratedUptoSaid : Prop := pruneGeneratedUptoRow.holds Try.pinned (OpenSpec.upto pruneGeneratedSpec)

/-- 'micropartlaw24.PruneLeaves', WHERE WHAT IT READS IS OF BULK AT MOST 1048576: true; the input reads as it did. -/
def pruneLeavesUptoRow : OpenClaim := { program := "ytfemekmkmiljdaa", sum := "2ffb5184d538d9b6299de11bdec12e8b69caba8b9aa9b84b7e27ba5c8109247a", func := "micropart/micropartlaw24.PruneLeaves", spec := "pruneLeaves", unfollowed := true, recurses := true, apart := false, narrowed := true }
def PruneLeavesUptoSaid : Prop := pruneLeavesUptoRow.holds Try.pinned (OpenSpec.upto pruneLeavesSpec)

/-- 'micropartlaw24.PruneIsSound', WHERE WHAT IT READS IS OF BULK AT MOST 1048576: true; the input reads as it did. -/
def pruneIsSoundUptoRow : OpenClaim := { program := "ytfemekmkmiljdaa", sum := "2ffb5184d538d9b6299de11bdec12e8b69caba8b9aa9b84b7e27ba5c8109247a", func := "micropart/micropartlaw24.PruneIsSound", spec := "pruneIsSound", unfollowed := true, recurses := true, apart := false, narrowed := true }
def PruneIsSoundUptoSaid : Prop := pruneIsSoundUptoRow.holds Try.pinned (OpenSpec.upto pruneIsSoundSpec)

/-- 'micropartlaw24.PruneNever', WHERE WHAT IT READS IS OF BULK AT MOST 1048576: true; the input reads as it did. -/
def pruneNeverUptoRow : OpenClaim := { program := "ytfemekmkmiljdaa", sum := "2ffb5184d538d9b6299de11bdec12e8b69caba8b9aa9b84b7e27ba5c8109247a", func := "micropart/micropartlaw24.PruneNever", spec := "pruneNever", unfollowed := true, recurses := true, apart := false, narrowed := true }
def PruneNeverUptoSaid : Prop := pruneNeverUptoRow.holds Try.pinned (OpenSpec.upto pruneNeverSpec)

/-- 'micropartlaw24.PruneExact', WHERE WHAT IT READS IS OF BULK AT MOST 1048576: true; the input reads as it did. -/
def pruneExactUptoRow : OpenClaim := { program := "ytfemekmkmiljdaa", sum := "2ffb5184d538d9b6299de11bdec12e8b69caba8b9aa9b84b7e27ba5c8109247a", func := "micropart/micropartlaw24.PruneExact", spec := "pruneExact", unfollowed := true, recurses := true, apart := false, narrowed := true }
def PruneExactUptoSaid : Prop := pruneExactUptoRow.holds Try.pinned (OpenSpec.upto pruneExactSpec)

end Rows
end Go.Proofs.Ytfemekmkmiljdaa
