/-
  THE WALKS of wide.Compare, wide.Int and of the references' numbers.
  Conditions: the low limbs are numbers of 64 bits.
-/
import Derived.Test.YtapjndhbdpbjcaaWalks
namespace Go.Proofs.Ytapjndhbdpbjcaa
open Go.RowKit

set_option maxHeartbeats 400000 in
theorem compare_any (h1 l1 h2 l2 : Int) (w : World) :
    Calls Try.prog 16 #[.agg #[.int .i64 h1, .int .u64 l1], .agg #[.int .i64 h2, .int .u64 l2]] w fun e w' =>
      e = .returned (.int .i64 (orI (cmpI h1 h2) (cmpI l1 l2))) ∧ Below w.heap.size w w' := by
  go_enter Try.func16, Try.ntmps16
  go_wp2
  refine wp_region_ext_tail 10 (by kernel_rfl) (by kernel_rfl) ?_
  dsimp only [List.take, List.drop]
  repeat (go_big_quiet_step ((first
    | (go_at_call 25; exact Calls.ext_same (cmpI_any _ _ _))
    | (go_at_call 26; exact Calls.ext_same (cmpU_any _ _ _)))))
  refine wpQuiet_nil ?_
  rintro _ ⟨x, rfl⟩
  go_wp2_with (go_at_call 24; refine (or_any _ (cmpI h1 h2) (cmpI l1 l2) _ (by simp) (by simp)).mono ?_; rintro e w1 ⟨rfl, rfl⟩)
  go_ret
  exact ⟨rfl, by repeat (first | exact Below.refl _ _ | apply Below.al | apply Below.on | (refine Below.st ?_ (by simp) _) | apply Below.drew)⟩

set_option maxHeartbeats 400000 in
theorem int_any (h l : Int) (w : World) :
    Calls Try.prog 14 #[.agg #[.int .i64 h, .int .u64 l]] w fun e w' =>
      e = .returned (.tuple #[.int .i64 (intN h l), .bool (fitsB h l)]) ∧ Below w.heap.size w w' := by
  cases hf : fitsB h l with
  | true =>
    rw [intN_yes hf]
    have h0 := fitsB_yes hf
    clear hf
    go_enter Try.func14, Try.ntmps14
    go_wp2
    refine wp_region_ext (by kernel_rfl) (by kernel_rfl) ?_
    repeat (go_big_quiet_step ((go_at_call 12; exact Calls.ext (of_any _ _))))
    refine wpQuiet_nil ?_
    rintro _ ⟨x, rfl⟩
    go_wp2
    go_ret2
    exact ⟨rfl, by repeat (first | exact Below.refl _ _ | apply Below.al | apply Below.on | (refine Below.st ?_ (by simp) _) | apply Below.drew)⟩
  | false =>
    rw [intN_no hf]
    have h0 := fitsB_no hf
    clear hf
    go_enter Try.func14, Try.ntmps14
    go_wp2
    refine wp_region_ext (by kernel_rfl) (by kernel_rfl) ?_
    repeat (go_big_quiet_step ((go_at_call 12; exact Calls.ext (of_any _ _))))
    refine wpQuiet_nil ?_
    rintro _ ⟨x, rfl⟩
    go_wp2
    go_ret2
    exact ⟨rfl, by repeat (first | exact Below.refl _ _ | apply Below.al | apply Below.on | (refine Below.st ?_ (by simp) _) | apply Below.drew)⟩

/-! ### The references -/
set_option maxHeartbeats 400000 in
theorem refOf_any (n : Int) (w : World) :
    Calls Try.prog 18 #[.int .i64 n] w fun e w' => e = .returned (.agg #[.int .i64 (ofHi n), .int .u64 (ofLo n)]) ∧ Below w.heap.size w w' := by
  go_enter Try.func18, Try.ntmps18
  go_wp2
  exact bodyPost_ret (v := .agg #[.int .i64 (ofHi n), .int .u64 (ofLo n)]) (by simp [results, Try.results18, go_sem, ofHi, ofLo]) rfl ⟨rfl, by repeat (first | exact Below.refl _ _ | apply Below.al | apply Below.on | (refine Below.st ?_ (by simp) _) | apply Below.drew)⟩

theorem refAdd_lo {l1 l2 : Int} : IntKind.u64.wrap (l1 + l2) = addLo l1 l2 := by rw [wrapU_eq, addLo_eq]
theorem refAdd_yes {h1 l1 h2 l2 : Int} (b1 : isU l1) (b2 : isU l2) (h : addLo l1 l2 < l1) : wrap64 (wrap64 (h1 + h2) + 1) = addHi h1 l1 h2 l2 := by
  unfold isU at b1 b2; rw [addLo_eq] at h; rw [addHi_eq, wrap64_eq, wrap64_eq]; omega
theorem refAdd_no {h1 l1 h2 l2 : Int} (b1 : isU l1) (b2 : isU l2) (h : ¬ addLo l1 l2 < l1) : wrap64 (h1 + h2) = addHi h1 l1 h2 l2 := by
  unfold isU at b1 b2; rw [addLo_eq] at h; rw [addHi_eq, wrap64_eq]; omega

set_option maxHeartbeats 400000 in
theorem refAdd_any (h1 l1 h2 l2 : Int) (b1 : isU l1) (b2 : isU l2) (w : World) :
    Calls Try.prog 19 #[.agg #[.int .i64 h1, .int .u64 l1], .agg #[.int .i64 h2, .int .u64 l2]] w fun e w' =>
      e = .returned (.agg #[.int .i64 (addHi h1 l1 h2 l2), .int .u64 (addLo l1 l2)]) ∧ Below w.heap.size w w' := by
  have e0 := @refAdd_lo l1 l2
  by_cases h : addLo l1 l2 < l1
  · have e1 := @refAdd_yes h1 l1 h2 l2 b1 b2 h
    clear b1 b2
    go_enter Try.func19, Try.ntmps19
    go_wp2
    exact bodyPost_ret (v := .agg #[.int .i64 (addHi h1 l1 h2 l2), .int .u64 (addLo l1 l2)]) (by simp [results, Try.results19, go_sem]) rfl ⟨rfl, by repeat (first | exact Below.refl _ _ | apply Below.al | apply Below.on | (refine Below.st ?_ (by simp) _) | apply Below.drew)⟩
  · have e1 := @refAdd_no h1 l1 h2 l2 b1 b2 h
    clear b1 b2
    go_enter Try.func19, Try.ntmps19
    go_wp2
    exact bodyPost_ret (v := .agg #[.int .i64 (addHi h1 l1 h2 l2), .int .u64 (addLo l1 l2)]) (by simp [results, Try.results19, go_sem]) rfl ⟨rfl, by repeat (first | exact Below.refl _ _ | apply Below.al | apply Below.on | (refine Below.st ?_ (by simp) _) | apply Below.drew)⟩

theorem refNeg_hi (h l : Int) : addHi (notHi h) (notLo l) 0 1 = negHi h l := by unfold negHi; rw [ofHi1, ofLo1]
theorem refNeg_lo (l : Int) : addLo (notLo l) 1 = negLo l := by unfold negLo; rw [ofLo1]
theorem isU_1 : isU 1 := by unfold isU; omega
set_option maxHeartbeats 400000 in
theorem refNeg_any (h l : Int) (a : isI h) (b : isU l) (w : World) :
    Calls Try.prog 20 #[.agg #[.int .i64 h, .int .u64 l]] w fun e w' => e = .returned (.agg #[.int .i64 (negHi h l), .int .u64 (negLo l)]) ∧ Below w.heap.size w w' := by
  have x1 := not_hi h a
  have x2 := not_lo l b
  have un := isU_notLo b
  have y1 := refNeg_hi h l
  have y2 := refNeg_lo l
  clear a b
  have s1 : IntKind.i64.signed = true := rfl
  have s2 : IntKind.u64.signed = false := rfl
  go_enter Try.func20, Try.ntmps20
  go_wp2_with (go_at_call 19; refine (refAdd_any _ _ _ _ un isU_1 _).mono ?_; rintro e w1 ⟨rfl, hb1⟩; obtain ⟨x1, rfl⟩ := Ext.of hb1)
  refine bodyPost_ret (v := .agg #[.int .i64 (negHi h l), .int .u64 (negLo l)]) (by simp [results, Try.results20, go_sem]) rfl ⟨rfl, by repeat (first | exact Below.refl _ _ | apply Below.al | apply Below.on | (refine Below.st ?_ (by simp) _) | apply Below.drew)⟩

set_option maxHeartbeats 400000 in
theorem refInt_any (h l : Int) (w : World) :
    Calls Try.prog 17 #[.agg #[.int .i64 h, .int .u64 l]] w fun e w' =>
      e = .returned (.tuple #[.int .i64 (intN h l), .bool (fitsB h l)]) ∧ Below w.heap.size w w' := by
  cases hf : fitsB h l with
  | true =>
    rw [intN_yes hf]
    have h0 := fitsB_yes hf
    clear hf
    go_enter Try.func17, Try.ntmps17
    go_wp2
    refine wp_region_ext (by kernel_rfl) (by kernel_rfl) ?_
    repeat (go_big_quiet_step ((go_at_call 18; exact Calls.ext (refOf_any _ _))))
    refine wpQuiet_nil ?_
    rintro _ ⟨x, rfl⟩
    go_wp2
    go_ret2
    exact ⟨rfl, by repeat (first | exact Below.refl _ _ | apply Below.al | apply Below.on | (refine Below.st ?_ (by simp) _) | apply Below.drew)⟩
  | false =>
    rw [intN_no hf]
    have h0 := fitsB_no hf
    clear hf
    go_enter Try.func17, Try.ntmps17
    go_wp2
    refine wp_region_ext (by kernel_rfl) (by kernel_rfl) ?_
    repeat (go_big_quiet_step ((go_at_call 18; exact Calls.ext (refOf_any _ _))))
    refine wpQuiet_nil ?_
    rintro _ ⟨x, rfl⟩
    go_wp2
    go_ret2
    exact ⟨rfl, by repeat (first | exact Below.refl _ _ | apply Below.al | apply Below.on | (refine Below.st ?_ (by simp) _) | apply Below.drew)⟩
end Go.Proofs.Ytapjndhbdpbjcaa
