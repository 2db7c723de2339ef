/-
  AGGREGATESUMS: the statement. Conditions: none.
-/
import Derived.Test.YtpahoenanfjhpaaSuwz
import Derived.Test.YtpahoenanfjhpaaOpuz
set_option linter.unusedVariables false
set_option linter.unusedSimpArgs false
namespace Go.Proofs.Ytpahoenanfjhpaa
open Go.RowKit Go.ChangeShapes Go.WideShapes Go.ChangeAt
set_option maxRecDepth 100000 in
theorem aggregateSums_lifted (os : Os) (started : os.Started) (H : Type) (enc : TypeId × Value → H) :
    ReturnsInHanded {} Try.checked os 6 .any (Rows.aggregateSumsSpec.pre6 enc Try.prog Try.f6 Rows.aggregateSumsRow.domain false) (Rows.aggregateSumsSpec.post enc Try.prog Try.f6 false true false false) := by
  refine lifted_of_walk (C := Try.checked) (tb := 4) own started (by kernel_rfl) Try.func6
    (ChangeSpec.witness6 (enc := enc) (C := Try.checked) false ⟨#[], #[.slice none 0 0, .int .u8 0], []⟩ 8 (by kernel_rfl) (by kernel_rfl) (by kernel_rfl) (by kernel_rfl))
    laid (params_ok (by kernel_rfl)) (by kernel_rfl) Try.underlying4 rfl
    (fun ds hds => by match ds, hds with | [d0, d1], _ => exact ⟨rfl, rfl, rfl⟩) ?_
  intro W base args ds ps hval0 hA0
  have hval : ∀ (j : Nat) t v, Try.f6.params[j]? = some t → args[j]? = some v → Value.okWide Try.prog W .any base t v := hval0
  have hA : DataW.TrodAll enc Try.prog W 0 (fun _ => true) true Try.f6.params.toList args.toList ds ps := hA0
  rw [Try.params6] at hA hval
  obtain ⟨v0, vs0, d0, ds0, p0, q0, hargs, rfl, rfl, h0, r0⟩ := trodAll_cons hA
  obtain ⟨v1, vs1, d1, ds1, p1, q1, rfl, rfl, rfl, h1, r1⟩ := trodAll_cons r0
  obtain ⟨rfl, rfl, rfl⟩ := trodAll_nil r1
  obtain rfl : args = #[v0, v1] := by cases args; simp_all
  obtain ⟨l0, y0⟩ := open_intsv Try.underlying37 Try.underlying2 (by kernel_rfl) (hval 0 _ v0 rfl rfl) h0
  obtain ⟨bg, rfl, hb0, hb1⟩ := open_u8 Try.underlying5 (hval 1 _ v1 rfl rfl) h1
  exact suw_walk _ _ _ _ y0 hb0 hb1

theorem aggregateSums_holds : Rows.AggregateSumsSaid :=
  OpenClaim.holds_of_wide 6 Try.f6 rfl rfl rfl rfl rfl rfl rfl ⟨rfl, rfl, rfl, rfl, rfl⟩ rfl rfl rfl rfl rfl (by kernel_rfl) Try.func6 (by kernel_rfl)
    (of_decide_eq_true (by kernel_rfl)) (by unfold Func.isWrapper; first | (rw [if_pos (by decide +kernel)]; kernel_rfl) | (rw [if_neg (by decide +kernel)]; exact ⟨rfl, rfl⟩))
    (fun os started H enc _ => aggregateSums_lifted os started H enc)
#print axioms aggregateSums_holds
end Go.Proofs.Ytpahoenanfjhpaa
