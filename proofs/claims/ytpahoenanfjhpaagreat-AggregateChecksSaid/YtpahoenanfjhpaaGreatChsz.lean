/-
  AGGREGATECHECKS: the statement. Conditions: none.
-/
import Derived.Test.YtpahoenanfjhpaaGreatAcwz
import Derived.Test.YtpahoenanfjhpaaGreatOpsz
set_option linter.unusedVariables false
set_option linter.unusedSimpArgs false
namespace Go.Proofs.YtpahoenanfjhpaaGreat
open Go.RowKit Go.ChangeShapes Go.WideShapes Go.ChangeAt
set_option maxRecDepth 100000 in
theorem aggregateChecks_lifted (os : Os) (started : os.Started) (H : Type) (enc : TypeId × Value → H) :
    ReturnsInHanded {} Tryz.checked os 4 .any (Rows.aggregateChecksSpec.pre6 enc Tryz.prog Tryz.f4 Rows.aggregateChecksRow.domain false) (Rows.aggregateChecksSpec.post enc Tryz.prog Tryz.f4 false true false false) := by
  refine lifted_of_walk (C := Tryz.checked) (tb := 4) own started (by kernel_rfl) Tryz.func4
    (ChangeSpec.witness6 (enc := enc) (C := Tryz.checked) false ⟨#[], #[.slice none 0 0, .slice none 0 0, .slice none 0 0, .int .i64 0, .int .i64 0], []⟩ 8 (by kernel_rfl) (by kernel_rfl) (by kernel_rfl) (by kernel_rfl))
    laid (params_ok (by kernel_rfl)) (by kernel_rfl) Tryz.underlying4 rfl
    (fun ds hds => by match ds, hds with | [d0, d1, d2, d3, d4], _ => exact ⟨rfl, rfl, rfl⟩) ?_
  intro W base args ds ps hval0 hA0
  have hval : ∀ (j : Nat) t v, Tryz.f4.params[j]? = some t → args[j]? = some v → Value.okWide Tryz.prog W .any base t v := hval0
  have hA : DataW.TrodAll enc Tryz.prog W 0 (fun _ => true) true Tryz.f4.params.toList args.toList ds ps := hA0
  rw [Tryz.params4] at hA hval
  obtain ⟨v0, vs0, d0, ds0, p0, q0, hargs, rfl, rfl, h0, r0⟩ := trodAll_cons hA
  obtain ⟨v1, vs1, d1, ds1, p1, q1, rfl, rfl, rfl, h1, r1⟩ := trodAll_cons r0
  obtain ⟨v2, vs2, d2, ds2, p2, q2, rfl, rfl, rfl, h2, r2⟩ := trodAll_cons r1
  obtain ⟨v3, vs3, d3, ds3, p3, q3, rfl, rfl, rfl, h3, r3⟩ := trodAll_cons r2
  obtain ⟨v4, vs4, d4, ds4, p4, q4, rfl, rfl, rfl, h4, r4⟩ := trodAll_cons r3
  obtain ⟨rfl, rfl, rfl⟩ := trodAll_nil r4
  obtain rfl : args = #[v0, v1, v2, v3, v4] := by cases args; simp_all
  obtain ⟨l0, y0⟩ := open_intsv Tryz.underlying26 Tryz.underlying3 cells3 (hval 0 _ v0 rfl rfl) h0
  obtain ⟨l1, y1⟩ := open_intsv Tryz.underlying26 Tryz.underlying3 cells3 (hval 1 _ v1 rfl rfl) h1
  obtain ⟨l2, y2⟩ := open_intsv Tryz.underlying26 Tryz.underlying3 cells3 (hval 2 _ v2 rfl rfl) h2
  obtain ⟨kh, rfl, hkh⟩ := open_i64 Tryz.underlying3 (hval 3 _ v3 rfl rfl) h3
  obtain ⟨kn, rfl, hkn⟩ := open_i64 Tryz.underlying3 (hval 4 _ v4 rfl rfl) h4
  exact acw_walk _ _ _ _ _ _ _ _ _ y0 y1 y2

theorem aggregateChecks_holds : Rows.AggregateChecksSaid :=
  OpenClaim.holds_of_wide 4 Tryz.f4 rfl rfl rfl rfl rfl rfl rfl ⟨rfl, rfl, rfl, rfl, rfl⟩ rfl rfl rfl rfl rfl (by kernel_rfl) Tryz.func4 (by kernel_rfl)
    (of_decide_eq_true (by kernel_rfl)) (by unfold Func.isWrapper; first | (rw [if_pos (by decide +kernel)]; kernel_rfl) | (rw [if_neg (by decide +kernel)]; exact ⟨rfl, rfl⟩))
    (fun os started H enc _ => aggregateChecks_lifted os started H enc)
#print axioms aggregateChecks_holds
end Go.Proofs.YtpahoenanfjhpaaGreat
