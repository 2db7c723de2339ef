/-
  No cell of these rows narrows 'for every input' (looked for: loops, veiled, ifaces, maps, wideKeys, modest, calm, conditions, laid).
  DERIVED. THE GIVEN ROWS OF THIS SEAT. 6 by the template 'for every input the law returns true; each argument reads behind the call as it read before'; 0 by the template 'total and deterministic' (their statements: YtploieofmnlomaaTotals.lean).
  GIVEN WITH THE SEED: the statements are not yours to turn. If you find one false, say at which input.
  Laid BY PROGRAM, IN A SANDBOX (cutbox-rows.mjs): the forced cells as the released guide's own fill.sh prints them over the translation 97ab511e31b97754… (all of the seat's roots in one cut). By AI agents, Wed Nov 11 2026. No macro, syntax, notation, axiom, sorry.
-/
import Derived.Test.YtploieofmnlomaaChecked
import GoSem.Claim
import GoSem.ClaimJoined
import GoSem.ClaimMapViews
import Derived.JoinedTies
import Derived.KernelRfl
namespace Go.Proofs.Ytploieofmnlomaa
/- THE CELL 'sum', in the pinned program and in every row, IS THE sha256 OF THE DUMP (.gsa) THAT YtploieofmnlomaaProg.lean LOADS. Nothing in Lean hashes anything: it is a label: what it is worth is what the hold of that sum in a sandbox is worth. -/
noncomputable def Try.pinned : Pinned := { name := "ytploieofmnlomaa", sum := "97ab511e31b977543ca687f9ccbcfdb02f9cdfe58474439646805b5e1a4fbbf8", checked := Try.checked }
namespace Rows
def none {H : Type} : Left H := { results := [], args := [] }

/-- 'micropartlaw25.VectorExamples': WHATEVER THE INPUT: true; the input reads as it did. -/
def vectorExamplesSpec : ChangeSpec := { name := "vectorExamples", fn := fun _ => fun
  | [] => { results := [.lit (.bool true)], args := [] }
  | _ => none }
def vectorExamplesRow : OpenClaim := { program := "ytploieofmnlomaa", sum := "97ab511e31b977543ca687f9ccbcfdb02f9cdfe58474439646805b5e1a4fbbf8", func := "micropart/micropartlaw25.VectorExamples", spec := "vectorExamples", apart := false }
def VectorExamplesSaid : Prop := vectorExamplesRow.holds Try.pinned (OpenSpec.ofChange vectorExamplesSpec)

/-- ITS FALSE NEIGHBOUR: 'it returns false'. Refute it at one input. -/
def vectorExamplesWrong : ChangeSpec := { name := "vectorExamples", fn := fun _ => fun
  | [] => { results := [.lit (.bool false)], args := [] }
  | _ => none }
def VectorExamplesWrongFalsely : Prop := vectorExamplesRow.holds Try.pinned (OpenSpec.ofChange vectorExamplesWrong)

/-- 'micropartlaw25.VectorFilters': WHATEVER THE INPUT: true; the input reads as it did. -/
def vectorFiltersSpec : ChangeSpec := { name := "vectorFilters", fn := fun _ => fun
  | [d1, d2, d3, d4, d5, d6, d7, d8, d9] => { results := [.lit (.bool true)], args := [d1, d2, d3, d4, d5, d6, d7, d8, d9] }
  | _ => none }
def vectorFiltersRow : OpenClaim := { program := "ytploieofmnlomaa", sum := "97ab511e31b977543ca687f9ccbcfdb02f9cdfe58474439646805b5e1a4fbbf8", func := "micropart/micropartlaw25.VectorFilters", spec := "vectorFilters", unfollowed := true, recurses := true, apart := false }
def VectorFiltersSaid : Prop := vectorFiltersRow.holds Try.pinned (OpenSpec.ofChange vectorFiltersSpec)

/-- ITS FALSE NEIGHBOUR: 'it returns false'. Refute it at one input. -/
def vectorFiltersWrong : ChangeSpec := { name := "vectorFilters", fn := fun _ => fun
  | [d1, d2, d3, d4, d5, d6, d7, d8, d9] => { results := [.lit (.bool false)], args := [d1, d2, d3, d4, d5, d6, d7, d8, d9] }
  | _ => none }
def VectorFiltersWrongFalsely : Prop := vectorFiltersRow.holds Try.pinned (OpenSpec.ofChange vectorFiltersWrong)

/-- 'micropartlaw25.VectorIsRowwise': WHATEVER THE INPUT: true; the input reads as it did. -/
def vectorIsRowwiseSpec : ChangeSpec := { name := "vectorIsRowwise", fn := fun _ => fun
  | [d1, d2, d3] => { results := [.lit (.bool true)], args := [d1, d2, d3] }
  | _ => none }
def vectorIsRowwiseRow : OpenClaim := { program := "ytploieofmnlomaa", sum := "97ab511e31b977543ca687f9ccbcfdb02f9cdfe58474439646805b5e1a4fbbf8", func := "micropart/micropartlaw25.VectorIsRowwise", spec := "vectorIsRowwise", unfollowed := true, recurses := true, apart := false }
def VectorIsRowwiseSaid : Prop := vectorIsRowwiseRow.holds Try.pinned (OpenSpec.ofChange vectorIsRowwiseSpec)

/-- ITS FALSE NEIGHBOUR: 'it returns false'. Refute it at one input. -/
def vectorIsRowwiseWrong : ChangeSpec := { name := "vectorIsRowwise", fn := fun _ => fun
  | [d1, d2, d3] => { results := [.lit (.bool false)], args := [d1, d2, d3] }
  | _ => none }
def VectorIsRowwiseWrongFalsely : Prop := vectorIsRowwiseRow.holds Try.pinned (OpenSpec.ofChange vectorIsRowwiseWrong)

/-- 'micropartlaw25.VectorParts': WHATEVER THE INPUT: true; the input reads as it did. -/
def vectorPartsSpec : ChangeSpec := { name := "vectorParts", fn := fun _ => fun
  | [d1, d2, d3, d4] => { results := [.lit (.bool true)], args := [d1, d2, d3, d4] }
  | _ => none }
def vectorPartsRow : OpenClaim := { program := "ytploieofmnlomaa", sum := "97ab511e31b977543ca687f9ccbcfdb02f9cdfe58474439646805b5e1a4fbbf8", func := "micropart/micropartlaw25.VectorParts", spec := "vectorParts", unfollowed := true, recurses := true, apart := false }
def VectorPartsSaid : Prop := vectorPartsRow.holds Try.pinned (OpenSpec.ofChange vectorPartsSpec)

/-- ITS FALSE NEIGHBOUR: 'it returns false'. Refute it at one input. -/
def vectorPartsWrong : ChangeSpec := { name := "vectorParts", fn := fun _ => fun
  | [d1, d2, d3, d4] => { results := [.lit (.bool false)], args := [d1, d2, d3, d4] }
  | _ => none }
def VectorPartsWrongFalsely : Prop := vectorPartsRow.holds Try.pinned (OpenSpec.ofChange vectorPartsWrong)

/-- 'micropartlaw25.VectorChosen': WHATEVER THE INPUT: true; the input reads as it did. -/
def vectorChosenSpec : ChangeSpec := { name := "vectorChosen", fn := fun _ => fun
  | [d1, d2, d3] => { results := [.lit (.bool true)], args := [d1, d2, d3] }
  | _ => none }
def vectorChosenRow : OpenClaim := { program := "ytploieofmnlomaa", sum := "97ab511e31b977543ca687f9ccbcfdb02f9cdfe58474439646805b5e1a4fbbf8", func := "micropart/micropartlaw25.VectorChosen", spec := "vectorChosen", unfollowed := true, recurses := true, apart := false }
def VectorChosenSaid : Prop := vectorChosenRow.holds Try.pinned (OpenSpec.ofChange vectorChosenSpec)

/-- ITS FALSE NEIGHBOUR: 'it returns false'. Refute it at one input. -/
def vectorChosenWrong : ChangeSpec := { name := "vectorChosen", fn := fun _ => fun
  | [d1, d2, d3] => { results := [.lit (.bool false)], args := [d1, d2, d3] }
  | _ => none }
def VectorChosenWrongFalsely : Prop := vectorChosenRow.holds Try.pinned (OpenSpec.ofChange vectorChosenWrong)

/-- 'micropartlaw25.VectorSelects': WHATEVER THE INPUT: true; the input reads as it did. -/
def vectorSelectsSpec : ChangeSpec := { name := "vectorSelects", fn := fun _ => fun
  | [d1, d2, d3, d4, d5, d6] => { results := [.lit (.bool true)], args := [d1, d2, d3, d4, d5, d6] }
  | _ => none }
def vectorSelectsRow : OpenClaim := { program := "ytploieofmnlomaa", sum := "97ab511e31b977543ca687f9ccbcfdb02f9cdfe58474439646805b5e1a4fbbf8", func := "micropart/micropartlaw25.VectorSelects", spec := "vectorSelects", unfollowed := true, recurses := true, apart := false }
def VectorSelectsSaid : Prop := vectorSelectsRow.holds Try.pinned (OpenSpec.ofChange vectorSelectsSpec)

/-- ITS FALSE NEIGHBOUR: 'it returns false'. Refute it at one input. -/
def vectorSelectsWrong : ChangeSpec := { name := "vectorSelects", fn := fun _ => fun
  | [d1, d2, d3, d4, d5, d6] => { results := [.lit (.bool false)], args := [d1, d2, d3, d4, d5, d6] }
  | _ => none }
def VectorSelectsWrongFalsely : Prop := vectorSelectsRow.holds Try.pinned (OpenSpec.ofChange vectorSelectsWrong)

/- THE SECOND FORM. 'bulk': how many values and letters a reading holds, each counted each time it is reached (what is shared counts as often as it is met; a slice's spare places count too). A statement '..UptoSaid' is the law's where the arguments, and the package variables that the reading takes, are together of bulk at most 1048576: NARROWER than '..Said'. Prove '..Said' where nothing that the law and all that it calls make is longer than what came in: it says more and counts as full. Else prove '..UptoSaid'. A law counts once. -/
mutual
def uptoBulk {H : Type} : DataW H → Nat
  | .lit (.string bytes) => bytes.length + 1
  | .lit _ => 1
  | .nil => 1
  | .ptr d => uptoBulk d + 1
  | .slice elems spare => uptoBulkAll elems + uptoBulkAll spare + 1
  | .agg parts => uptoBulkAll parts + 1
  | .iface _ d => uptoBulk d + 1
  | .map entries => uptoBulkEntries entries + 1
  | .held _ => 1
def uptoBulkAll {H : Type} : List (DataW H) → Nat
  | [] => 0
  | d :: r => uptoBulk d + uptoBulkAll r
def uptoBulkEntries {H : Type} : List (Lit × DataW H) → Nat
  | [] => 0
  | x :: r => uptoBulkEntry x + uptoBulkEntries r
def uptoBulkEntry {H : Type} : Lit × DataW H → Nat
  | (.string bytes, d) => bytes.length + uptoBulk d + 1
  | (_, d) => uptoBulk d + 1
 end
def uptoSmall : (H : Type) → List (DataW H) → Bool := fun _ ds => decide (uptoBulkAll ds ≤ 1048576)
def OpenSpec.upto (s : _root_.Go.ChangeSpec) : _root_.Go.OpenSpec := { _root_.Go.OpenSpec.ofChange s with cond := some uptoSmall }

/-- 'micropartlaw25.VectorExamples', WHERE WHAT IT READS IS OF BULK AT MOST 1048576: true; the input reads as it did. -/
def vectorExamplesUptoRow : OpenClaim := { program := "ytploieofmnlomaa", sum := "97ab511e31b977543ca687f9ccbcfdb02f9cdfe58474439646805b5e1a4fbbf8", func := "micropart/micropartlaw25.VectorExamples", spec := "vectorExamples", apart := false, narrowed := true }
def VectorExamplesUptoSaid : Prop := vectorExamplesUptoRow.holds Try.pinned (OpenSpec.upto vectorExamplesSpec)

/-- 'micropartlaw25.VectorFilters', WHERE WHAT IT READS IS OF BULK AT MOST 1048576: true; the input reads as it did. -/
def vectorFiltersUptoRow : OpenClaim := { program := "ytploieofmnlomaa", sum := "97ab511e31b977543ca687f9ccbcfdb02f9cdfe58474439646805b5e1a4fbbf8", func := "micropart/micropartlaw25.VectorFilters", spec := "vectorFilters", unfollowed := true, recurses := true, apart := false, narrowed := true }
def VectorFiltersUptoSaid : Prop := vectorFiltersUptoRow.holds Try.pinned (OpenSpec.upto vectorFiltersSpec)

/-- 'micropartlaw25.VectorIsRowwise', WHERE WHAT IT READS IS OF BULK AT MOST 1048576: true; the input reads as it did. -/
def vectorIsRowwiseUptoRow : OpenClaim := { program := "ytploieofmnlomaa", sum := "97ab511e31b977543ca687f9ccbcfdb02f9cdfe58474439646805b5e1a4fbbf8", func := "micropart/micropartlaw25.VectorIsRowwise", spec := "vectorIsRowwise", unfollowed := true, recurses := true, apart := false, narrowed := true }
def VectorIsRowwiseUptoSaid : Prop := vectorIsRowwiseUptoRow.holds Try.pinned (OpenSpec.upto vectorIsRowwiseSpec)

/-- 'micropartlaw25.VectorParts', WHERE WHAT IT READS IS OF BULK AT MOST 1048576: true; the input reads as it did. -/
def vectorPartsUptoRow : OpenClaim := { program := "ytploieofmnlomaa", sum := "97ab511e31b977543ca687f9ccbcfdb02f9cdfe58474439646805b5e1a4fbbf8", func := "micropart/micropartlaw25.VectorParts", spec := "vectorParts", unfollowed := true, recurses := true, apart := false, narrowed := true }
def VectorPartsUptoSaid : Prop := vectorPartsUptoRow.holds Try.pinned (OpenSpec.upto vectorPartsSpec)

/-- 'micropartlaw25.VectorChosen', WHERE WHAT IT READS IS OF BULK AT MOST 1048576: true; the input reads as it did. -/
def vectorChosenUptoRow : OpenClaim := { program := "ytploieofmnlomaa", sum := "97ab511e31b977543ca687f9ccbcfdb02f9cdfe58474439646805b5e1a4fbbf8", func := "micropart/micropartlaw25.VectorChosen", spec := "vectorChosen", unfollowed := true, recurses := true, apart := false, narrowed := true }
def VectorChosenUptoSaid : Prop := vectorChosenUptoRow.holds Try.pinned (OpenSpec.upto vectorChosenSpec)

/-- 'micropartlaw25.VectorSelects', WHERE WHAT IT READS IS OF BULK AT MOST 1048576: true; the input reads as it did. -/
def vectorSelectsUptoRow : OpenClaim := { program := "ytploieofmnlomaa", sum := "97ab511e31b977543ca687f9ccbcfdb02f9cdfe58474439646805b5e1a4fbbf8", func := "micropart/micropartlaw25.VectorSelects", spec := "vectorSelects", unfollowed := true, recurses := true, apart := false, narrowed := true }
def VectorSelectsUptoSaid : Prop := vectorSelectsUptoRow.holds Try.pinned (OpenSpec.upto vectorSelectsSpec)

end Rows
end Go.Proofs.Ytploieofmnlomaa
