/-
  THE WALK of the reference's comparison. Conditions: none.
-/
import Derived.Test.YtapjndhbdpbjcaaDoorWalks2
namespace Go.Proofs.YtapjndhbdpbjcaaDoor
open Go.RowKit

theorem eqW_no {a b c d : Int} (h : ¬ (a = c ∧ b = d)) : eqW a b c d = false := by
  cases e : eqW a b c d with
  | false => rfl
  | true => exact absurd (eqW_iff.1 e) h
theorem cmp_1 {h1 l1 h2 l2 : Int} (c : h1 < h2) : orI (cmpI h1 h2) (cmpI l1 l2) = -1 := by unfold orI cmpI; simp [c]
theorem cmp_2 {h1 l1 l2 : Int} (d : l1 < l2) : orI (cmpI h1 h1) (cmpI l1 l2) = -1 := by unfold orI cmpI; simp [d]
theorem cmp_3 (h1 l1 : Int) : orI (cmpI h1 h1) (cmpI l1 l1) = 0 := by unfold orI cmpI; simp
theorem cmp_4 {h1 l1 l2 : Int} (d : l2 < l1) : orI (cmpI h1 h1) (cmpI l1 l2) = 1 := by
  unfold orI cmpI; rw [if_neg (by omega : ¬ h1 < h1), if_pos rfl, if_pos rfl, if_neg (by omega), if_neg (by omega)]
theorem cmp_5 {h1 l1 h2 l2 : Int} (c : h2 < h1) : orI (cmpI h1 h2) (cmpI l1 l2) = 1 := by
  unfold orI cmpI; rw [if_neg (by omega : ¬ h1 < h2), if_neg (by omega : ¬ h1 = h2), if_neg (by decide)]

end Go.Proofs.YtapjndhbdpbjcaaDoor
