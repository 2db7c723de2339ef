/-
  THE WALK of the law's own 'awake'. Conditions: none.
-/
import Derived.Test.YtapjndhbdpbjcaaDoorFormat
namespace Go.Proofs.YtapjndhbdpbjcaaDoor
open Go.RowKit
theorem isI_0 : isI 0 := by unfold isI; omega
theorem isU_10 : isU 10 := by unfold isU; omega
set_option maxHeartbeats 400000 in
theorem awake_any (w : World) : Calls Tryd.prog 8 #[] w fun e w' => e = .returned (.bool true) ∧ Below w.heap.size w w' := by
  have q1 : eqW (ofHi (-1)) (ofLo (-1)) (-1) 18446744073709551615 = true := by decide
  have q2 : sgnTxt 0 ++ fmtTxt (absN 0 10) = ⟨#[49, 48]⟩ := by decide +kernel
  go_enter Tryd.func8, Tryd.ntmps8
  go_wp2_with (first
    | (go_at_call 18; refine (of_any _ _).mono ?_; rintro e w1 ⟨rfl, hb1⟩; obtain ⟨x1, rfl⟩ := Ext.of hb1)
    | (go_at_call 9; refine (format_any _ _ isI_0 isU_10 _).mono ?_; rintro e w2 ⟨rfl, hb2⟩; obtain ⟨x2, rfl⟩ := Ext.of hb2))
  go_ret
  exact ⟨rfl, by repeat (first | exact Below.refl _ _ | apply Below.al | apply Below.on | (refine Below.st ?_ (by simp) _) | apply Below.drew)⟩
end Go.Proofs.YtapjndhbdpbjcaaDoor
