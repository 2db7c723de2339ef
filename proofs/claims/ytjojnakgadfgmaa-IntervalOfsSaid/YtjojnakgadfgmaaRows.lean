/-
  No cell of these rows narrows 'for every input' (looked for: loops, veiled, ifaces, maps, wideKeys, modest, calm, conditions, laid).
  DERIVED. THE GIVEN ROWS OF THIS SEAT. 8 by the template 'for every input the law returns true; each argument reads behind the call as it read before'; 0 by the template 'total and deterministic' (their statements: YtjojnakgadfgmaaTotals.lean).
  GIVEN WITH THE SEED: the statements are not yours to turn. If you find one false, say at which input.
  Laid BY PROGRAM, IN A SANDBOX (cutbox-rows.mjs): the forced cells as the released guide's own fill.sh prints them over the translation 667cfe3e728d9bb2… (all of the seat's roots in one cut). By AI agents, Wed Nov 11 2026. No macro, syntax, notation, axiom, sorry.
-/
import Derived.Test.YtjojnakgadfgmaaChecked
import GoSem.Claim
import GoSem.ClaimJoined
import GoSem.ClaimMapViews
import Derived.JoinedTies
import Derived.KernelRfl
namespace Go.Proofs.Ytjojnakgadfgmaa
/- THE CELL 'sum', in the pinned program and in every row, IS THE sha256 OF THE DUMP (.gsa) THAT YtjojnakgadfgmaaProg.lean LOADS. Nothing in Lean hashes anything: it is a label: what it is worth is what the hold of that sum in a sandbox is worth. -/
noncomputable def Try.pinned : Pinned := { name := "ytjojnakgadfgmaa", sum := "667cfe3e728d9bb25abc57681e722ccd1bb6b5c3fb09f2d45367c4d5245c5da6", checked := Try.checked }
namespace Rows
def none {H : Type} : Left H := { results := [], args := [] }

/-- 'micropartlaw23.IntervalBasics': WHATEVER THE INPUT: true; the input reads as it did. -/
def intervalBasicsSpec : ChangeSpec := { name := "intervalBasics", fn := fun _ => fun
  | [d1, d2, d3, d4, d5, d6, d7, d8] => { results := [.lit (.bool true)], args := [d1, d2, d3, d4, d5, d6, d7, d8] }
  | _ => none }
def intervalBasicsRow : OpenClaim := { program := "ytjojnakgadfgmaa", sum := "667cfe3e728d9bb25abc57681e722ccd1bb6b5c3fb09f2d45367c4d5245c5da6", func := "micropart/micropartlaw23.IntervalBasics", spec := "intervalBasics", apart := false }
def IntervalBasicsSaid : Prop := intervalBasicsRow.holds Try.pinned (OpenSpec.ofChange intervalBasicsSpec)

/-- ITS FALSE NEIGHBOUR: 'it returns false'. Refute it at one input. -/
def intervalBasicsWrong : ChangeSpec := { name := "intervalBasics", fn := fun _ => fun
  | [d1, d2, d3, d4, d5, d6, d7, d8] => { results := [.lit (.bool false)], args := [d1, d2, d3, d4, d5, d6, d7, d8] }
  | _ => none }
def IntervalBasicsWrongFalsely : Prop := intervalBasicsRow.holds Try.pinned (OpenSpec.ofChange intervalBasicsWrong)

/-- 'micropartlaw23.IntervalTouches': WHATEVER THE INPUT: true; the input reads as it did. -/
def intervalTouchesSpec : ChangeSpec := { name := "intervalTouches", fn := fun _ => fun
  | [d1, d2, d3, d4, d5] => { results := [.lit (.bool true)], args := [d1, d2, d3, d4, d5] }
  | _ => none }
def intervalTouchesRow : OpenClaim := { program := "ytjojnakgadfgmaa", sum := "667cfe3e728d9bb25abc57681e722ccd1bb6b5c3fb09f2d45367c4d5245c5da6", func := "micropart/micropartlaw23.IntervalTouches", spec := "intervalTouches", apart := false }
def IntervalTouchesSaid : Prop := intervalTouchesRow.holds Try.pinned (OpenSpec.ofChange intervalTouchesSpec)

/-- ITS FALSE NEIGHBOUR: 'it returns false'. Refute it at one input. -/
def intervalTouchesWrong : ChangeSpec := { name := "intervalTouches", fn := fun _ => fun
  | [d1, d2, d3, d4, d5] => { results := [.lit (.bool false)], args := [d1, d2, d3, d4, d5] }
  | _ => none }
def IntervalTouchesWrongFalsely : Prop := intervalTouchesRow.holds Try.pinned (OpenSpec.ofChange intervalTouchesWrong)

/-- 'micropartlaw23.IntervalMeetIsAnd': WHATEVER THE INPUT: true; the input reads as it did. -/
def intervalMeetIsAndSpec : ChangeSpec := { name := "intervalMeetIsAnd", fn := fun _ => fun
  | [d1, d2, d3, d4] => { results := [.lit (.bool true)], args := [d1, d2, d3, d4] }
  | _ => none }
def intervalMeetIsAndRow : OpenClaim := { program := "ytjojnakgadfgmaa", sum := "667cfe3e728d9bb25abc57681e722ccd1bb6b5c3fb09f2d45367c4d5245c5da6", func := "micropart/micropartlaw23.IntervalMeetIsAnd", spec := "intervalMeetIsAnd", apart := false }
def IntervalMeetIsAndSaid : Prop := intervalMeetIsAndRow.holds Try.pinned (OpenSpec.ofChange intervalMeetIsAndSpec)

/-- ITS FALSE NEIGHBOUR: 'it returns false'. Refute it at one input. -/
def intervalMeetIsAndWrong : ChangeSpec := { name := "intervalMeetIsAnd", fn := fun _ => fun
  | [d1, d2, d3, d4] => { results := [.lit (.bool false)], args := [d1, d2, d3, d4] }
  | _ => none }
def IntervalMeetIsAndWrongFalsely : Prop := intervalMeetIsAndRow.holds Try.pinned (OpenSpec.ofChange intervalMeetIsAndWrong)

/-- 'micropartlaw23.IntervalJoinIsLeast': WHATEVER THE INPUT: true; the input reads as it did. -/
def intervalJoinIsLeastSpec : ChangeSpec := { name := "intervalJoinIsLeast", fn := fun _ => fun
  | [d1, d2, d3, d4, d5] => { results := [.lit (.bool true)], args := [d1, d2, d3, d4, d5] }
  | _ => none }
def intervalJoinIsLeastRow : OpenClaim := { program := "ytjojnakgadfgmaa", sum := "667cfe3e728d9bb25abc57681e722ccd1bb6b5c3fb09f2d45367c4d5245c5da6", func := "micropart/micropartlaw23.IntervalJoinIsLeast", spec := "intervalJoinIsLeast", apart := false }
def IntervalJoinIsLeastSaid : Prop := intervalJoinIsLeastRow.holds Try.pinned (OpenSpec.ofChange intervalJoinIsLeastSpec)

/-- ITS FALSE NEIGHBOUR: 'it returns false'. Refute it at one input. -/
def intervalJoinIsLeastWrong : ChangeSpec := { name := "intervalJoinIsLeast", fn := fun _ => fun
  | [d1, d2, d3, d4, d5] => { results := [.lit (.bool false)], args := [d1, d2, d3, d4, d5] }
  | _ => none }
def IntervalJoinIsLeastWrongFalsely : Prop := intervalJoinIsLeastRow.holds Try.pinned (OpenSpec.ofChange intervalJoinIsLeastWrong)

/-- 'micropartlaw23.IntervalExamples': WHATEVER THE INPUT: true; the input reads as it did. -/
def intervalExamplesSpec : ChangeSpec := { name := "intervalExamples", fn := fun _ => fun
  | [] => { results := [.lit (.bool true)], args := [] }
  | _ => none }
def intervalExamplesRow : OpenClaim := { program := "ytjojnakgadfgmaa", sum := "667cfe3e728d9bb25abc57681e722ccd1bb6b5c3fb09f2d45367c4d5245c5da6", func := "micropart/micropartlaw23.IntervalExamples", spec := "intervalExamples", unfollowed := true, recurses := true, apart := false }
def IntervalExamplesSaid : Prop := intervalExamplesRow.holds Try.pinned (OpenSpec.ofChange intervalExamplesSpec)

/-- ITS FALSE NEIGHBOUR: 'it returns false'. Refute it at one input. -/
def intervalExamplesWrong : ChangeSpec := { name := "intervalExamples", fn := fun _ => fun
  | [] => { results := [.lit (.bool false)], args := [] }
  | _ => none }
def IntervalExamplesWrongFalsely : Prop := intervalExamplesRow.holds Try.pinned (OpenSpec.ofChange intervalExamplesWrong)

/-- 'micropartlaw23.IntervalOfs': WHATEVER THE INPUT: true; the input reads as it did. -/
def intervalOfsSpec : ChangeSpec := { name := "intervalOfs", fn := fun _ => fun
  | [d1, d2, d3, d4, d5] => { results := [.lit (.bool true)], args := [d1, d2, d3, d4, d5] }
  | _ => none }
def intervalOfsRow : OpenClaim := { program := "ytjojnakgadfgmaa", sum := "667cfe3e728d9bb25abc57681e722ccd1bb6b5c3fb09f2d45367c4d5245c5da6", func := "micropart/micropartlaw23.IntervalOfs", spec := "intervalOfs", unfollowed := true, recurses := true, apart := false }
def IntervalOfsSaid : Prop := intervalOfsRow.holds Try.pinned (OpenSpec.ofChange intervalOfsSpec)

/-- ITS FALSE NEIGHBOUR: 'it returns false'. Refute it at one input. -/
def intervalOfsWrong : ChangeSpec := { name := "intervalOfs", fn := fun _ => fun
  | [d1, d2, d3, d4, d5] => { results := [.lit (.bool false)], args := [d1, d2, d3, d4, d5] }
  | _ => none }
def IntervalOfsWrongFalsely : Prop := intervalOfsRow.holds Try.pinned (OpenSpec.ofChange intervalOfsWrong)

/-- 'micropartlaw23.IntervalIsSound': WHATEVER THE INPUT: true; the input reads as it did. -/
def intervalIsSoundSpec : ChangeSpec := { name := "intervalIsSound", fn := fun _ => fun
  | [d1, d2, d3] => { results := [.lit (.bool true)], args := [d1, d2, d3] }
  | _ => none }
def intervalIsSoundRow : OpenClaim := { program := "ytjojnakgadfgmaa", sum := "667cfe3e728d9bb25abc57681e722ccd1bb6b5c3fb09f2d45367c4d5245c5da6", func := "micropart/micropartlaw23.IntervalIsSound", spec := "intervalIsSound", unfollowed := true, recurses := true, apart := false }
def IntervalIsSoundSaid : Prop := intervalIsSoundRow.holds Try.pinned (OpenSpec.ofChange intervalIsSoundSpec)

/-- ITS FALSE NEIGHBOUR: 'it returns false'. Refute it at one input. -/
def intervalIsSoundWrong : ChangeSpec := { name := "intervalIsSound", fn := fun _ => fun
  | [d1, d2, d3] => { results := [.lit (.bool false)], args := [d1, d2, d3] }
  | _ => none }
def IntervalIsSoundWrongFalsely : Prop := intervalIsSoundRow.holds Try.pinned (OpenSpec.ofChange intervalIsSoundWrong)

/-- 'micropartlaw23.IntervalNegation': WHATEVER THE INPUT: true; the input reads as it did. -/
def intervalNegationSpec : ChangeSpec := { name := "intervalNegation", fn := fun _ => fun
  | [d1, d2, d3, d4] => { results := [.lit (.bool true)], args := [d1, d2, d3, d4] }
  | _ => none }
def intervalNegationRow : OpenClaim := { program := "ytjojnakgadfgmaa", sum := "667cfe3e728d9bb25abc57681e722ccd1bb6b5c3fb09f2d45367c4d5245c5da6", func := "micropart/micropartlaw23.IntervalNegation", spec := "intervalNegation", unfollowed := true, recurses := true, apart := false }
def IntervalNegationSaid : Prop := intervalNegationRow.holds Try.pinned (OpenSpec.ofChange intervalNegationSpec)

/-- ITS FALSE NEIGHBOUR: 'it returns false'. Refute it at one input. -/
def intervalNegationWrong : ChangeSpec := { name := "intervalNegation", fn := fun _ => fun
  | [d1, d2, d3, d4] => { results := [.lit (.bool false)], args := [d1, d2, d3, d4] }
  | _ => none }
def IntervalNegationWrongFalsely : Prop := intervalNegationRow.holds Try.pinned (OpenSpec.ofChange intervalNegationWrong)

/- THE SECOND FORM. 'bulk': how many values and letters a reading holds, each counted each time it is reached (what is shared counts as often as it is met; a slice's spare places count too). A statement '..UptoSaid' is the law's where the arguments, and the package variables that the reading takes, are together of bulk at most 1048576: NARROWER than '..Said'. Prove '..Said' where nothing that the law and all that it calls make is longer than what came in: it says more and counts as full. Else prove '..UptoSaid'. A law counts once. -/
mutual
def uptoBulk {H : Type} : DataW H → Nat
  | .lit (.string bytes) => bytes.length + 1
  | .lit _ => 1
  | .nil => 1
  | .ptr d => uptoBulk d + 1
  | .slice elems spare => uptoBulkAll elems + uptoBulkAll spare + 1
  | .agg parts => uptoBulkAll parts + 1
  | .iface _ d => uptoBulk d + 1
  | .map entries => uptoBulkEntries entries + 1
  | .held _ => 1
def uptoBulkAll {H : Type} : List (DataW H) → Nat
  | [] => 0
  | d :: r => uptoBulk d + uptoBulkAll r
def uptoBulkEntries {H : Type} : List (Lit × DataW H) → Nat
  | [] => 0
  | x :: r => uptoBulkEntry x + uptoBulkEntries r
def uptoBulkEntry {H : Type} : Lit × DataW H → Nat
  | (.string bytes, d) => bytes.length + uptoBulk d + 1
  | (_, d) => uptoBulk d + 1
 end
def uptoSmall : (H : Type) → List (DataW H) → Bool := fun _ ds => decide (uptoBulkAll ds ≤ 1048576)
def OpenSpec.upto (s : _root_.Go.ChangeSpec) : _root_.Go.OpenSpec := { _root_.Go.OpenSpec.ofChange s with cond := some uptoSmall }

/-- 'micropartlaw23.IntervalBasics', WHERE WHAT IT READS IS OF BULK AT MOST 1048576: true; the input reads as it did. -/
def intervalBasicsUptoRow : OpenClaim := { program := "ytjojnakgadfgmaa", sum := "667cfe3e728d9bb25abc57681e722ccd1bb6b5c3fb09f2d45367c4d5245c5da6", func := "micropart/micropartlaw23.IntervalBasics", spec := "intervalBasics", apart := false, narrowed := true }
def IntervalBasicsUptoSaid : Prop := intervalBasicsUptoRow.holds Try.pinned (OpenSpec.upto intervalBasicsSpec)

/-- 'micropartlaw23.IntervalTouches', WHERE WHAT IT READS IS OF BULK AT MOST 1048576: true; the input reads as it did. -/
def intervalTouchesUptoRow : OpenClaim := { program := "ytjojnakgadfgmaa", sum := "667cfe3e728d9bb25abc57681e722ccd1bb6b5c3fb09f2d45367c4d5245c5da6", func := "micropart/micropartlaw23.IntervalTouches", spec := "intervalTouches", apart := false, narrowed := true }
def IntervalTouchesUptoSaid : Prop := intervalTouchesUptoRow.holds Try.pinned (OpenSpec.upto intervalTouchesSpec)

/-- 'micropartlaw23.IntervalMeetIsAnd', WHERE WHAT IT READS IS OF BULK AT MOST 1048576: true; the input reads as it did. -/
def intervalMeetIsAndUptoRow : OpenClaim := { program := "ytjojnakgadfgmaa", sum := "667cfe3e728d9bb25abc57681e722ccd1bb6b5c3fb09f2d45367c4d5245c5da6", func := "micropart/micropartlaw23.IntervalMeetIsAnd", spec := "intervalMeetIsAnd", apart := false, narrowed := true }
def IntervalMeetIsAndUptoSaid : Prop := intervalMeetIsAndUptoRow.holds Try.pinned (OpenSpec.upto intervalMeetIsAndSpec)

/-- 'micropartlaw23.IntervalJoinIsLeast', WHERE WHAT IT READS IS OF BULK AT MOST 1048576: true; the input reads as it did. -/
def intervalJoinIsLeastUptoRow : OpenClaim := { program := "ytjojnakgadfgmaa", sum := "667cfe3e728d9bb25abc57681e722ccd1bb6b5c3fb09f2d45367c4d5245c5da6", func := "micropart/micropartlaw23.IntervalJoinIsLeast", spec := "intervalJoinIsLeast", apart := false, narrowed := true }
def IntervalJoinIsLeastUptoSaid : Prop := intervalJoinIsLeastUptoRow.holds Try.pinned (OpenSpec.upto intervalJoinIsLeastSpec)

/-- 'micropartlaw23.IntervalExamples', WHERE WHAT IT READS IS OF BULK AT MOST 1048576: true; the input reads as it did. -/
def intervalExamplesUptoRow : OpenClaim := { program := "ytjojnakgadfgmaa", sum := "667cfe3e728d9bb25abc57681e722ccd1bb6b5c3fb09f2d45367c4d5245c5da6", func := "micropart/micropartlaw23.IntervalExamples", spec := "intervalExamples", unfollowed := true, recurses := true, apart := false, narrowed := true }
def IntervalExamplesUptoSaid : Prop := intervalExamplesUptoRow.holds Try.pinned (OpenSpec.upto intervalExamplesSpec)

/-- 'micropartlaw23.IntervalOfs', WHERE WHAT IT READS IS OF BULK AT MOST 1048576: true; the input reads as it did. -/
def intervalOfsUptoRow : OpenClaim := { program := "ytjojnakgadfgmaa", sum := "667cfe3e728d9bb25abc57681e722ccd1bb6b5c3fb09f2d45367c4d5245c5da6", func := "micropart/micropartlaw23.IntervalOfs", spec := "intervalOfs", unfollowed := true, recurses := true, apart := false, narrowed := true }
def IntervalOfsUptoSaid : Prop := intervalOfsUptoRow.holds Try.pinned (OpenSpec.upto intervalOfsSpec)

/-- 'micropartlaw23.IntervalIsSound', WHERE WHAT IT READS IS OF BULK AT MOST 1048576: true; the input reads as it did. -/
def intervalIsSoundUptoRow : OpenClaim := { program := "ytjojnakgadfgmaa", sum := "667cfe3e728d9bb25abc57681e722ccd1bb6b5c3fb09f2d45367c4d5245c5da6", func := "micropart/micropartlaw23.IntervalIsSound", spec := "intervalIsSound", unfollowed := true, recurses := true, apart := false, narrowed := true }
def IntervalIsSoundUptoSaid : Prop := intervalIsSoundUptoRow.holds Try.pinned (OpenSpec.upto intervalIsSoundSpec)

/-- 'micropartlaw23.IntervalNegation', WHERE WHAT IT READS IS OF BULK AT MOST 1048576: true; the input reads as it did. -/
def intervalNegationUptoRow : OpenClaim := { program := "ytjojnakgadfgmaa", sum := "667cfe3e728d9bb25abc57681e722ccd1bb6b5c3fb09f2d45367c4d5245c5da6", func := "micropart/micropartlaw23.IntervalNegation", spec := "intervalNegation", unfollowed := true, recurses := true, apart := false, narrowed := true }
def IntervalNegationUptoSaid : Prop := intervalNegationUptoRow.holds Try.pinned (OpenSpec.upto intervalNegationSpec)

end Rows
end Go.Proofs.Ytjojnakgadfgmaa
