/-
  THE WALKS of wide.Compare, wide.Int and of the references' numbers.
  Conditions: the low limbs are numbers of 64 bits.
-/
import Derived.Test.YtapjndhbdpbjcaaDoorWalks
namespace Go.Proofs.YtapjndhbdpbjcaaDoor
open Go.RowKit

theorem refAdd_lo {l1 l2 : Int} : IntKind.u64.wrap (l1 + l2) = addLo l1 l2 := by rw [wrapU_eq, addLo_eq]
theorem refAdd_yes {h1 l1 h2 l2 : Int} (b1 : isU l1) (b2 : isU l2) (h : addLo l1 l2 < l1) : wrap64 (wrap64 (h1 + h2) + 1) = addHi h1 l1 h2 l2 := by
  unfold isU at b1 b2; rw [addLo_eq] at h; rw [addHi_eq, wrap64_eq, wrap64_eq]; omega
theorem refAdd_no {h1 l1 h2 l2 : Int} (b1 : isU l1) (b2 : isU l2) (h : ¬ addLo l1 l2 < l1) : wrap64 (h1 + h2) = addHi h1 l1 h2 l2 := by
  unfold isU at b1 b2; rw [addLo_eq] at h; rw [addHi_eq, wrap64_eq]; omega

set_option maxHeartbeats 400000 in
theorem refAdd_any (h1 l1 h2 l2 : Int) (b1 : isU l1) (b2 : isU l2) (w : World) :
    Calls Tryd.prog 29 #[.agg #[.int .i64 h1, .int .u64 l1], .agg #[.int .i64 h2, .int .u64 l2]] w fun e w' =>
      e = .returned (.agg #[.int .i64 (addHi h1 l1 h2 l2), .int .u64 (addLo l1 l2)]) ∧ Below w.heap.size w w' := by
  have e0 := @refAdd_lo l1 l2
  by_cases h : addLo l1 l2 < l1
  · have e1 := @refAdd_yes h1 l1 h2 l2 b1 b2 h
    clear b1 b2
    go_enter Tryd.func29, Tryd.ntmps29
    go_wp2
    exact bodyPost_ret (v := .agg #[.int .i64 (addHi h1 l1 h2 l2), .int .u64 (addLo l1 l2)]) (by simp [results, Tryd.results29, go_sem]) rfl ⟨rfl, by repeat (first | exact Below.refl _ _ | apply Below.al | apply Below.on | (refine Below.st ?_ (by simp) _) | apply Below.drew)⟩
  · have e1 := @refAdd_no h1 l1 h2 l2 b1 b2 h
    clear b1 b2
    go_enter Tryd.func29, Tryd.ntmps29
    go_wp2
    exact bodyPost_ret (v := .agg #[.int .i64 (addHi h1 l1 h2 l2), .int .u64 (addLo l1 l2)]) (by simp [results, Tryd.results29, go_sem]) rfl ⟨rfl, by repeat (first | exact Below.refl _ _ | apply Below.al | apply Below.on | (refine Below.st ?_ (by simp) _) | apply Below.drew)⟩

theorem refNeg_hi (h l : Int) : addHi (notHi h) (notLo l) 0 1 = negHi h l := by unfold negHi; rw [ofHi1, ofLo1]
theorem refNeg_lo (l : Int) : addLo (notLo l) 1 = negLo l := by unfold negLo; rw [ofLo1]
theorem isU_1 : isU 1 := by unfold isU; omega
set_option maxHeartbeats 400000 in
theorem refNeg_any (h l : Int) (a : isI h) (b : isU l) (w : World) :
    Calls Tryd.prog 17 #[.agg #[.int .i64 h, .int .u64 l]] w fun e w' => e = .returned (.agg #[.int .i64 (negHi h l), .int .u64 (negLo l)]) ∧ Below w.heap.size w w' := by
  have x1 := not_hi h a
  have x2 := not_lo l b
  have un := isU_notLo b
  have y1 := refNeg_hi h l
  have y2 := refNeg_lo l
  clear a b
  have s1 : IntKind.i64.signed = true := rfl
  have s2 : IntKind.u64.signed = false := rfl
  go_enter Tryd.func17, Tryd.ntmps17
  go_wp2_with (go_at_call 29; refine (refAdd_any _ _ _ _ un isU_1 _).mono ?_; rintro e w1 ⟨rfl, hb1⟩; obtain ⟨x1, rfl⟩ := Ext.of hb1)
  refine bodyPost_ret (v := .agg #[.int .i64 (negHi h l), .int .u64 (negLo l)]) (by simp [results, Tryd.results17, go_sem]) rfl ⟨rfl, by repeat (first | exact Below.refl _ _ | apply Below.al | apply Below.on | (refine Below.st ?_ (by simp) _) | apply Below.drew)⟩

end Go.Proofs.YtapjndhbdpbjcaaDoor
