/-
  keep.Value; keep.value of a value that is known. Conditions: each theorem states its own.
-/
import Derived.Test.YtgooffpmiilicaaKeep
set_option linter.unusedVariables false
set_option linter.unusedSimpArgs false
namespace Go.Proofs.Ytgooffpmiilicaa
open Go.RowKit
theorem value_eq {ty : Int} {nu : Bool} {r rr : List Int} {vn : Bool} {vi : Int} {vs : ByteArray} (hv : valF ty nu r = (⟨vn, vi, vs⟩, rr)) (sb : Nat) (n1 : ByteArray) (sc : Int) (w : World) (h : SrcAt w sb r) :
    Calls Try.prog 60 #[.pointer (some ⟨sb, 0, none⟩), .agg #[.string n1, .int .i64 ty, .int .i64 sc, .bool nu]] w fun e w' => e = .returned (.agg #[.bool vn, .int .i64 vi, .string vs]) ∧ Moved sb w w' ∧ SrcAt w' sb rr := by
  have := value_any sb r n1 ty sc nu w h
  rw [hv] at this
  exact this
end Go.Proofs.Ytgooffpmiilicaa
