/-
  No cell of these rows narrows 'for every input' (looked for: loops, veiled, ifaces, maps, wideKeys, modest, calm, conditions, laid).
  DERIVED. THE GIVEN ROWS OF THIS SEAT. 6 by the template 'for every input the law returns true; each argument reads behind the call as it read before'; 0 by the template 'total and deterministic' (their statements: YtapjndhbdpbjcaaTotals.lean).
  GIVEN WITH THE SEED: the statements are not yours to turn. If you find one false, say at which input.
  Laid BY PROGRAM, IN A SANDBOX (cutbox-rows.mjs): the forced cells as the released guide's own fill.sh prints them over the translation 50c3dd3fe79fbc7f… (all of the seat's roots in one cut). By AI agents, Wed Nov 11 2026. No macro, syntax, notation, axiom, sorry.
-/
import Derived.Test.YtapjndhbdpbjcaaChecked
import GoSem.Claim
import GoSem.ClaimJoined
import GoSem.ClaimMapViews
import Derived.JoinedTies
import Derived.KernelRfl
namespace Go.Proofs.Ytapjndhbdpbjcaa
/- THE CELL 'sum', in the pinned program and in every row, IS THE sha256 OF THE DUMP (.gsa) THAT YtapjndhbdpbjcaaProg.lean LOADS. Nothing in Lean hashes anything: it is a label: what it is worth is what the hold of that sum in a sandbox is worth. -/
noncomputable def Try.pinned : Pinned := { name := "ytapjndhbdpbjcaa", sum := "50c3dd3fe79fbc7f3fac2245dce2389e14990185be42fa1365a06144d766946f", checked := Try.checked }
namespace Rows
def none {H : Type} : Left H := { results := [], args := [] }

/-- 'micropartlaw13.WideGroup': WHATEVER THE INPUT: true; the input reads as it did. -/
def wideGroupSpec : ChangeSpec := { name := "wideGroup", fn := fun _ => fun
  | [d1, d2, d3] => { results := [.lit (.bool true)], args := [d1, d2, d3] }
  | _ => none }
def wideGroupRow : OpenClaim := { program := "ytapjndhbdpbjcaa", sum := "50c3dd3fe79fbc7f3fac2245dce2389e14990185be42fa1365a06144d766946f", func := "micropart/micropartlaw13.WideGroup", spec := "wideGroup", inPlace := ["math/bits.Add64"], named := ["math/bits.divideError", "math/bits.overflowError"], apart := false }
def WideGroupSaid : Prop := wideGroupRow.holds Try.pinned (OpenSpec.ofChange wideGroupSpec)

/-- ITS FALSE NEIGHBOUR: 'it returns false'. Refute it at one input. -/
def wideGroupWrong : ChangeSpec := { name := "wideGroup", fn := fun _ => fun
  | [d1, d2, d3] => { results := [.lit (.bool false)], args := [d1, d2, d3] }
  | _ => none }
def WideGroupWrongFalsely : Prop := wideGroupRow.holds Try.pinned (OpenSpec.ofChange wideGroupWrong)

/-- 'micropartlaw13.WideSum': WHATEVER THE INPUT: true; the input reads as it did. -/
def wideSumSpec : ChangeSpec := { name := "wideSum", fn := fun _ => fun
  | [d1, d2] => { results := [.lit (.bool true)], args := [d1, d2] }
  | _ => none }
def wideSumRow : OpenClaim := { program := "ytapjndhbdpbjcaa", sum := "50c3dd3fe79fbc7f3fac2245dce2389e14990185be42fa1365a06144d766946f", func := "micropart/micropartlaw13.WideSum", spec := "wideSum", inPlace := ["math/bits.Add64"], named := ["math/bits.divideError", "math/bits.overflowError"], apart := false }
def WideSumSaid : Prop := wideSumRow.holds Try.pinned (OpenSpec.ofChange wideSumSpec)

/-- ITS FALSE NEIGHBOUR: 'it returns false'. Refute it at one input. -/
def wideSumWrong : ChangeSpec := { name := "wideSum", fn := fun _ => fun
  | [d1, d2] => { results := [.lit (.bool false)], args := [d1, d2] }
  | _ => none }
def WideSumWrongFalsely : Prop := wideSumRow.holds Try.pinned (OpenSpec.ofChange wideSumWrong)

/-- 'micropartlaw13.WideExamples': WHATEVER THE INPUT: true; the input reads as it did. -/
def wideExamplesSpec : ChangeSpec := { name := "wideExamples", fn := fun _ => fun
  | [] => { results := [.lit (.bool true)], args := [] }
  | _ => none }
def wideExamplesRow : OpenClaim := { program := "ytapjndhbdpbjcaa", sum := "50c3dd3fe79fbc7f3fac2245dce2389e14990185be42fa1365a06144d766946f", func := "micropart/micropartlaw13.WideExamples", spec := "wideExamples", inPlace := ["math/bits.Add64"], named := ["math/bits.divideError", "math/bits.overflowError"], apart := false }
def WideExamplesSaid : Prop := wideExamplesRow.holds Try.pinned (OpenSpec.ofChange wideExamplesSpec)

/-- ITS FALSE NEIGHBOUR: 'it returns false'. Refute it at one input. -/
def wideExamplesWrong : ChangeSpec := { name := "wideExamples", fn := fun _ => fun
  | [] => { results := [.lit (.bool false)], args := [] }
  | _ => none }
def WideExamplesWrongFalsely : Prop := wideExamplesRow.holds Try.pinned (OpenSpec.ofChange wideExamplesWrong)

/-- 'micropartlaw13.WideOrder': WHATEVER THE INPUT: true; the input reads as it did. -/
def wideOrderSpec : ChangeSpec := { name := "wideOrder", fn := fun _ => fun
  | [d1, d2] => { results := [.lit (.bool true)], args := [d1, d2] }
  | _ => none }
def wideOrderRow : OpenClaim := { program := "ytapjndhbdpbjcaa", sum := "50c3dd3fe79fbc7f3fac2245dce2389e14990185be42fa1365a06144d766946f", func := "micropart/micropartlaw13.WideOrder", spec := "wideOrder", inPlace := ["math/bits.Add64"], named := ["math/bits.divideError", "math/bits.overflowError"], apart := false }
def WideOrderSaid : Prop := wideOrderRow.holds Try.pinned (OpenSpec.ofChange wideOrderSpec)

/-- ITS FALSE NEIGHBOUR: 'it returns false'. Refute it at one input. -/
def wideOrderWrong : ChangeSpec := { name := "wideOrder", fn := fun _ => fun
  | [d1, d2] => { results := [.lit (.bool false)], args := [d1, d2] }
  | _ => none }
def WideOrderWrongFalsely : Prop := wideOrderRow.holds Try.pinned (OpenSpec.ofChange wideOrderWrong)

/-- 'micropartlaw13.WideArithmetic': WHATEVER THE INPUT: true; the input reads as it did. -/
def wideArithmeticSpec : ChangeSpec := { name := "wideArithmetic", fn := fun _ => fun
  | [d1, d2, d3] => { results := [.lit (.bool true)], args := [d1, d2, d3] }
  | _ => none }
def wideArithmeticRow : OpenClaim := { program := "ytapjndhbdpbjcaa", sum := "50c3dd3fe79fbc7f3fac2245dce2389e14990185be42fa1365a06144d766946f", func := "micropart/micropartlaw13.WideArithmetic", spec := "wideArithmetic", inPlace := ["math/bits.Add64"], named := ["math/bits.divideError", "math/bits.overflowError"], apart := false }
def WideArithmeticSaid : Prop := wideArithmeticRow.holds Try.pinned (OpenSpec.ofChange wideArithmeticSpec)

/-- ITS FALSE NEIGHBOUR: 'it returns false'. Refute it at one input. -/
def wideArithmeticWrong : ChangeSpec := { name := "wideArithmetic", fn := fun _ => fun
  | [d1, d2, d3] => { results := [.lit (.bool false)], args := [d1, d2, d3] }
  | _ => none }
def WideArithmeticWrongFalsely : Prop := wideArithmeticRow.holds Try.pinned (OpenSpec.ofChange wideArithmeticWrong)

/-- 'micropartlaw13.WideSmall': WHATEVER THE INPUT: true; the input reads as it did. -/
def wideSmallSpec : ChangeSpec := { name := "wideSmall", fn := fun _ => fun
  | [d1, d2] => { results := [.lit (.bool true)], args := [d1, d2] }
  | _ => none }
def wideSmallRow : OpenClaim := { program := "ytapjndhbdpbjcaa", sum := "50c3dd3fe79fbc7f3fac2245dce2389e14990185be42fa1365a06144d766946f", func := "micropart/micropartlaw13.WideSmall", spec := "wideSmall", inPlace := ["math/bits.Add64"], named := ["math/bits.divideError", "math/bits.overflowError"], apart := false }
def WideSmallSaid : Prop := wideSmallRow.holds Try.pinned (OpenSpec.ofChange wideSmallSpec)

/-- ITS FALSE NEIGHBOUR: 'it returns false'. Refute it at one input. -/
def wideSmallWrong : ChangeSpec := { name := "wideSmall", fn := fun _ => fun
  | [d1, d2] => { results := [.lit (.bool false)], args := [d1, d2] }
  | _ => none }
def WideSmallWrongFalsely : Prop := wideSmallRow.holds Try.pinned (OpenSpec.ofChange wideSmallWrong)

/- THE SECOND FORM. 'bulk': how many values and letters a reading holds, each counted each time it is reached (what is shared counts as often as it is met; a slice's spare places count too). A statement '..UptoSaid' is the law's where the arguments, and the package variables that the reading takes, are together of bulk at most 1048576: NARROWER than '..Said'. Prove '..Said' where nothing that the law and all that it calls make is longer than what came in: it says more and counts as full. Else prove '..UptoSaid'. A law counts once. -/
mutual
def uptoBulk {H : Type} : DataW H → Nat
  | .lit (.string bytes) => bytes.length + 1
  | .lit _ => 1
  | .nil => 1
  | .ptr d => uptoBulk d + 1
  | .slice elems spare => uptoBulkAll elems + uptoBulkAll spare + 1
  | .agg parts => uptoBulkAll parts + 1
  | .iface _ d => uptoBulk d + 1
  | .map entries => uptoBulkEntries entries + 1
  | .held _ => 1
def uptoBulkAll {H : Type} : List (DataW H) → Nat
  | [] => 0
  | d :: r => uptoBulk d + uptoBulkAll r
def uptoBulkEntries {H : Type} : List (Lit × DataW H) → Nat
  | [] => 0
  | x :: r => uptoBulkEntry x + uptoBulkEntries r
def uptoBulkEntry {H : Type} : Lit × DataW H → Nat
  | (.string bytes, d) => bytes.length + uptoBulk d + 1
  | (_, d) => uptoBulk d + 1
 end
def uptoSmall : (H : Type) → List (DataW H) → Bool := fun _ ds => decide (uptoBulkAll ds ≤ 1048576)
def OpenSpec.upto (s : _root_.Go.ChangeSpec) : _root_.Go.OpenSpec := { _root_.Go.OpenSpec.ofChange s with cond := some uptoSmall }

/-- 'micropartlaw13.WideGroup', WHERE WHAT IT READS IS OF BULK AT MOST 1048576: true; the input reads as it did. -/
def wideGroupUptoRow : OpenClaim := { program := "ytapjndhbdpbjcaa", sum := "50c3dd3fe79fbc7f3fac2245dce2389e14990185be42fa1365a06144d766946f", func := "micropart/micropartlaw13.WideGroup", spec := "wideGroup", inPlace := ["math/bits.Add64"], named := ["math/bits.divideError", "math/bits.overflowError"], apart := false, narrowed := true }
def WideGroupUptoSaid : Prop := wideGroupUptoRow.holds Try.pinned (OpenSpec.upto wideGroupSpec)

/-- 'micropartlaw13.WideSum', WHERE WHAT IT READS IS OF BULK AT MOST 1048576: true; the input reads as it did. -/
def wideSumUptoRow : OpenClaim := { program := "ytapjndhbdpbjcaa", sum := "50c3dd3fe79fbc7f3fac2245dce2389e14990185be42fa1365a06144d766946f", func := "micropart/micropartlaw13.WideSum", spec := "wideSum", inPlace := ["math/bits.Add64"], named := ["math/bits.divideError", "math/bits.overflowError"], apart := false, narrowed := true }
def WideSumUptoSaid : Prop := wideSumUptoRow.holds Try.pinned (OpenSpec.upto wideSumSpec)

/-- 'micropartlaw13.WideExamples', WHERE WHAT IT READS IS OF BULK AT MOST 1048576: true; the input reads as it did. -/
def wideExamplesUptoRow : OpenClaim := { program := "ytapjndhbdpbjcaa", sum := "50c3dd3fe79fbc7f3fac2245dce2389e14990185be42fa1365a06144d766946f", func := "micropart/micropartlaw13.WideExamples", spec := "wideExamples", inPlace := ["math/bits.Add64"], named := ["math/bits.divideError", "math/bits.overflowError"], apart := false, narrowed := true }
def WideExamplesUptoSaid : Prop := wideExamplesUptoRow.holds Try.pinned (OpenSpec.upto wideExamplesSpec)

/-- 'micropartlaw13.WideOrder', WHERE WHAT IT READS IS OF BULK AT MOST 1048576: true; the input reads as it did. -/
def wideOrderUptoRow : OpenClaim := { program := "ytapjndhbdpbjcaa", sum := "50c3dd3fe79fbc7f3fac2245dce2389e14990185be42fa1365a06144d766946f", func := "micropart/micropartlaw13.WideOrder", spec := "wideOrder", inPlace := ["math/bits.Add64"], named := ["math/bits.divideError", "math/bits.overflowError"], apart := false, narrowed := true }
def WideOrderUptoSaid : Prop := wideOrderUptoRow.holds Try.pinned (OpenSpec.upto wideOrderSpec)

/-- 'micropartlaw13.WideArithmetic', WHERE WHAT IT READS IS OF BULK AT MOST 1048576: true; the input reads as it did. -/
def wideArithmeticUptoRow : OpenClaim := { program := "ytapjndhbdpbjcaa", sum := "50c3dd3fe79fbc7f3fac2245dce2389e14990185be42fa1365a06144d766946f", func := "micropart/micropartlaw13.WideArithmetic", spec := "wideArithmetic", inPlace := ["math/bits.Add64"], named := ["math/bits.divideError", "math/bits.overflowError"], apart := false, narrowed := true }
def WideArithmeticUptoSaid : Prop := wideArithmeticUptoRow.holds Try.pinned (OpenSpec.upto wideArithmeticSpec)

/-- 'micropartlaw13.WideSmall', WHERE WHAT IT READS IS OF BULK AT MOST 1048576: true; the input reads as it did. -/
def wideSmallUptoRow : OpenClaim := { program := "ytapjndhbdpbjcaa", sum := "50c3dd3fe79fbc7f3fac2245dce2389e14990185be42fa1365a06144d766946f", func := "micropart/micropartlaw13.WideSmall", spec := "wideSmall", inPlace := ["math/bits.Add64"], named := ["math/bits.divideError", "math/bits.overflowError"], apart := false, narrowed := true }
def WideSmallUptoSaid : Prop := wideSmallUptoRow.holds Try.pinned (OpenSpec.upto wideSmallSpec)

end Rows
end Go.Proofs.Ytapjndhbdpbjcaa
