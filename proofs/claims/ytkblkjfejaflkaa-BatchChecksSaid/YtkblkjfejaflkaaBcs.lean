/-
  BATCHCHECKS: the statement. Conditions: none.
-/
import Derived.Test.YtkblkjfejaflkaaBcw
import Derived.Test.YtkblkjfejaflkaaOrc
namespace Go.Proofs.Ytkblkjfejaflkaa
open Go.RowKit Go.ChangeShapes Go.WideShapes Go.ChangeAt
set_option maxRecDepth 100000 in
theorem batchChecks_lifted (os : Os) (started : os.Started) (H : Type) (enc : TypeId × Value → H) :
    ReturnsInHanded {} Try.checked os 8 .any (Rows.batchChecksSpec.pre6 enc Try.prog Try.f8 Rows.batchChecksRow.domain false) (Rows.batchChecksSpec.post enc Try.prog Try.f8 false true false false) := by
  refine lifted_of_walk (C := Try.checked) (tb := 4) own started (by kernel_rfl) Try.func8
    (ChangeSpec.witness6 (enc := enc) (C := Try.checked) false ⟨#[], #[.agg #[.slice none 0 0, .int .i64 0], .slice none 0 0, .slice none 0 0, .slice none 0 0, .int .i64 0, .int .i64 0, .agg #[.bool false, .int .i64 0, .string ByteArray.empty], .bool false], []⟩ 8 (by kernel_rfl) (by kernel_rfl) (by kernel_rfl) (by kernel_rfl))
    laid (params_ok (by kernel_rfl)) (by kernel_rfl) Try.underlying4 rfl
    (fun ds hds => by match ds, hds with | [d0, d1, d2, d3, d4, d5, d6, d7], _ => exact ⟨rfl, rfl, rfl⟩) ?_
  intro W base args ds ps hval0 hA0
  have hval : ∀ (j : Nat) t v, Try.f8.params[j]? = some t → args[j]? = some v → Value.okWide Try.prog W .any base t v := hval0
  have hA : DataW.TrodAll enc Try.prog W 0 (fun _ => true) true Try.f8.params.toList args.toList ds ps := hA0
  rw [Try.params8] at hA hval
  obtain ⟨v0, vs0, d0, ds0, p0, q0, hargs, rfl, rfl, h0, r0⟩ := trodAll_cons hA
  obtain ⟨v1, vs1, d1, ds1, p1, q1, rfl, rfl, rfl, h1, r1⟩ := trodAll_cons r0
  obtain ⟨v2, vs2, d2, ds2, p2, q2, rfl, rfl, rfl, h2, r2⟩ := trodAll_cons r1
  obtain ⟨v3, vs3, d3, ds3, p3, q3, rfl, rfl, rfl, h3, r3⟩ := trodAll_cons r2
  obtain ⟨v4, vs4, d4, ds4, p4, q4, rfl, rfl, rfl, h4, r4⟩ := trodAll_cons r3
  obtain ⟨v5, vs5, d5, ds5, p5, q5, rfl, rfl, rfl, h5, r5⟩ := trodAll_cons r4
  obtain ⟨v6, vs6, d6, ds6, p6, q6, rfl, rfl, rfl, h6, r6⟩ := trodAll_cons r5
  obtain ⟨v7, vs7, d7, ds7, p7, q7, rfl, rfl, rfl, h7, r7⟩ := trodAll_cons r6
  obtain ⟨rfl, rfl, rfl⟩ := trodAll_nil r7
  obtain rfl : args = #[v0, v1, v2, v3, v4, v5, v6, v7] := by cases args; simp_all
  obtain ⟨scv, scs, sk, rfl, hsc⟩ := open_schema (hval 0 _ v0 rfl rfl) h0
  obtain ⟨rws, hrw⟩ := open_rows (hval 1 _ v1 rfl rfl) h1
  obtain ⟨l2, y2⟩ := open_intsv Try.underlying36 Try.underlying3 cells3 (hval 2 _ v2 rfl rfl) h2
  obtain ⟨l3, y3⟩ := open_intsv Try.underlying36 Try.underlying3 cells3 (hval 3 _ v3 rfl rfl) h3
  obtain ⟨ak, rfl, hak⟩ := open_i64 Try.underlying3 (hval 4 _ v4 rfl rfl) h4
  obtain ⟨ck, rfl, hck⟩ := open_i64 Try.underlying3 (hval 5 _ v5 rfl rfl) h5
  obtain ⟨vb, vi, vs, rfl⟩ := open_val (hval 6 _ v6 rfl rfl) h6
  obtain ⟨ct, rfl⟩ := open_boolv Try.underlying4 (hval 7 _ v7 rfl rfl) h7
  exact bcw_walk _ _ _ _ _ _ _ _ _ _ _ _ _ _ _ _ hsc hrw y2 y3

theorem batchChecks_holds : Rows.BatchChecksSaid :=
  OpenClaim.holds_of_wide 8 Try.f8 rfl rfl rfl rfl rfl rfl rfl ⟨rfl, rfl, rfl, rfl, rfl⟩ rfl rfl rfl rfl rfl (by kernel_rfl) Try.func8 (by kernel_rfl)
    (of_decide_eq_true (by kernel_rfl)) (by unfold Func.isWrapper; first | (rw [if_pos (by decide +kernel)]; kernel_rfl) | (rw [if_neg (by decide +kernel)]; exact ⟨rfl, rfl⟩))
    (fun os started H enc _ => batchChecks_lifted os started H enc)
#print axioms batchChecks_holds
end Go.Proofs.Ytkblkjfejaflkaa
