/-
  MERGEEXAMPLES: the statement. Conditions: none.
-/
import Derived.Test.YtgooffpmiilicaaMex
namespace Go.Proofs.Ytgooffpmiilicaa
open Go.RowKit Go.ChangeShapes Go.WideShapes Go.ChangeAt
set_option maxRecDepth 100000 in
theorem mergeExamples_lifted (os : Os) (started : os.Started) (H : Type) (enc : TypeId × Value → H) :
    ReturnsInHanded {} Try.checked os 3 .any (Rows.mergeExamplesSpec.pre6 enc Try.prog Try.f3 Rows.mergeExamplesRow.domain false) (Rows.mergeExamplesSpec.post enc Try.prog Try.f3 false true false false) := by
  refine lifted_of_walk (C := Try.checked) (tb := 4) own started (by kernel_rfl) Try.func3
    (ChangeSpec.witness6 (enc := enc) (C := Try.checked) false ⟨#[], #[], []⟩ 8 (by kernel_rfl) (by kernel_rfl) (by kernel_rfl) (by kernel_rfl))
    laid (params_ok (by kernel_rfl)) (by kernel_rfl) Try.underlying4 rfl
    (fun ds hds => by match ds, hds with | [], _ => exact ⟨rfl, rfl, rfl⟩) ?_
  intro W base args ds ps hval0 hA0
  have hval : ∀ (j : Nat) t v, Try.f3.params[j]? = some t → args[j]? = some v → Value.okWide Try.prog W .any base t v := hval0
  have hA : DataW.TrodAll enc Try.prog W 0 (fun _ => true) true Try.f3.params.toList args.toList ds ps := hA0
  rw [Try.params3] at hA hval
  obtain ⟨hargs, rfl, rfl⟩ := trodAll_nil hA
  obtain rfl : args = #[] := by cases args; simp_all
  exact mex_walk _

theorem mergeExamples_holds : Rows.MergeExamplesSaid :=
  OpenClaim.holds_of_wide 3 Try.f3 rfl rfl rfl rfl rfl rfl rfl ⟨rfl, rfl, rfl, rfl, rfl⟩ rfl rfl rfl rfl rfl (by kernel_rfl) Try.func3 (by kernel_rfl)
    (of_decide_eq_true (by kernel_rfl)) (by unfold Func.isWrapper; first | (rw [if_pos (by decide +kernel)]; kernel_rfl) | (rw [if_neg (by decide +kernel)]; exact ⟨rfl, rfl⟩))
    (fun os started H enc _ => mergeExamples_lifted os started H enc)
#print axioms mergeExamples_holds
end Go.Proofs.Ytgooffpmiilicaa
