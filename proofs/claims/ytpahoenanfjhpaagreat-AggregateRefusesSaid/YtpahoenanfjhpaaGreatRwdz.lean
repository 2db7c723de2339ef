/-
  128-bit numbers of the reference: WideOf, AddWide, WideInt. Conditions: the low limbs are numbers of 64 bits.
-/
import Derived.Test.YtpahoenanfjhpaaGreatZo
set_option linter.unusedVariables false
set_option linter.unusedSimpArgs false
namespace Go.Proofs.YtpahoenanfjhpaaGreat
open Go.RowKit
namespace Wd
set_option maxHeartbeats 400000 in
theorem refOf_any (n : Int) (w : World) :
    Calls Tryz.prog 105 #[.int .i64 n] w fun e w' => e = .returned (.agg #[.int .i64 (ofHi n), .int .u64 (ofLo n)]) ∧ Below w.heap.size w w' := by
  go_enter Tryz.func105, Tryz.ntmps105
  go_wp2
  exact bodyPost_ret (v := .agg #[.int .i64 (ofHi n), .int .u64 (ofLo n)]) (by simp [results, Tryz.results105, go_sem, ofHi, ofLo]) rfl ⟨rfl, by repeat (first | exact Below.refl _ _ | apply Below.al | apply Below.on | (refine Below.st ?_ (by simp) _) | apply Below.drew)⟩

theorem refAdd_lo {l1 l2 : Int} : IntKind.u64.wrap (l1 + l2) = addLo l1 l2 := by rw [wrapU_eq, addLo_eq]
theorem refAdd_yes {h1 l1 h2 l2 : Int} (b1 : isU l1) (b2 : isU l2) (h : addLo l1 l2 < l1) : wrap64 (wrap64 (h1 + h2) + 1) = addHi h1 l1 h2 l2 := by
  unfold isU at b1 b2; rw [addLo_eq] at h; rw [addHi_eq, wrap64_eq, wrap64_eq]; omega
theorem refAdd_no {h1 l1 h2 l2 : Int} (b1 : isU l1) (b2 : isU l2) (h : ¬ addLo l1 l2 < l1) : wrap64 (h1 + h2) = addHi h1 l1 h2 l2 := by
  unfold isU at b1 b2; rw [addLo_eq] at h; rw [addHi_eq, wrap64_eq]; omega

set_option maxHeartbeats 400000 in
theorem refAdd_any (h1 l1 h2 l2 : Int) (b1 : isU l1) (b2 : isU l2) (w : World) :
    Calls Tryz.prog 104 #[.agg #[.int .i64 h1, .int .u64 l1], .agg #[.int .i64 h2, .int .u64 l2]] w fun e w' =>
      e = .returned (.agg #[.int .i64 (addHi h1 l1 h2 l2), .int .u64 (addLo l1 l2)]) ∧ Below w.heap.size w w' := by
  have e0 := @refAdd_lo l1 l2
  by_cases h : addLo l1 l2 < l1
  · have e1 := @refAdd_yes h1 l1 h2 l2 b1 b2 h
    clear b1 b2
    go_enter Tryz.func104, Tryz.ntmps104
    go_wp2
    exact bodyPost_ret (v := .agg #[.int .i64 (addHi h1 l1 h2 l2), .int .u64 (addLo l1 l2)]) (by simp [results, Tryz.results104, go_sem]) rfl ⟨rfl, by repeat (first | exact Below.refl _ _ | apply Below.al | apply Below.on | (refine Below.st ?_ (by simp) _) | apply Below.drew)⟩
  · have e1 := @refAdd_no h1 l1 h2 l2 b1 b2 h
    clear b1 b2
    go_enter Tryz.func104, Tryz.ntmps104
    go_wp2
    exact bodyPost_ret (v := .agg #[.int .i64 (addHi h1 l1 h2 l2), .int .u64 (addLo l1 l2)]) (by simp [results, Tryz.results104, go_sem]) rfl ⟨rfl, by repeat (first | exact Below.refl _ _ | apply Below.al | apply Below.on | (refine Below.st ?_ (by simp) _) | apply Below.drew)⟩

set_option maxHeartbeats 400000 in
theorem refInt_any (h l : Int) (w : World) :
    Calls Tryz.prog 106 #[.agg #[.int .i64 h, .int .u64 l]] w fun e w' =>
      e = .returned (.tuple #[.int .i64 (intN h l), .bool (fitsB h l)]) ∧ Below w.heap.size w w' := by
  cases hf : fitsB h l with
  | true =>
    rw [intN_yes hf]
    have h0 := fitsB_yes hf
    clear hf
    go_enter Tryz.func106, Tryz.ntmps106
    go_wp2
    refine wp_region_ext (by kernel_rfl) (by kernel_rfl) ?_
    repeat (go_big_quiet_step ((go_at_call 105; exact Calls.ext (refOf_any _ _))))
    refine wpQuiet_nil ?_
    rintro _ ⟨x, rfl⟩
    go_wp2
    go_ret2
    exact ⟨rfl, by repeat (first | exact Below.refl _ _ | apply Below.al | apply Below.on | (refine Below.st ?_ (by simp) _) | apply Below.drew)⟩
  | false =>
    rw [intN_no hf]
    have h0 := fitsB_no hf
    clear hf
    go_enter Tryz.func106, Tryz.ntmps106
    go_wp2
    refine wp_region_ext (by kernel_rfl) (by kernel_rfl) ?_
    repeat (go_big_quiet_step ((go_at_call 105; exact Calls.ext (refOf_any _ _))))
    refine wpQuiet_nil ?_
    rintro _ ⟨x, rfl⟩
    go_wp2
    go_ret2
    exact ⟨rfl, by repeat (first | exact Below.refl _ _ | apply Below.al | apply Below.on | (refine Below.st ?_ (by simp) _) | apply Below.drew)⟩
end Wd
end Go.Proofs.YtpahoenanfjhpaaGreat
