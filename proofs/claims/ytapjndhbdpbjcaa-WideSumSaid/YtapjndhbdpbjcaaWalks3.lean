/-
  THE WALK of the reference's comparison. Conditions: none.
-/
import Derived.Test.YtapjndhbdpbjcaaWalks2
namespace Go.Proofs.Ytapjndhbdpbjcaa
open Go.RowKit

theorem eqW_no {a b c d : Int} (h : ¬ (a = c ∧ b = d)) : eqW a b c d = false := by
  cases e : eqW a b c d with
  | false => rfl
  | true => exact absurd (eqW_iff.1 e) h
theorem cmp_1 {h1 l1 h2 l2 : Int} (c : h1 < h2) : orI (cmpI h1 h2) (cmpI l1 l2) = -1 := by unfold orI cmpI; simp [c]
theorem cmp_2 {h1 l1 l2 : Int} (d : l1 < l2) : orI (cmpI h1 h1) (cmpI l1 l2) = -1 := by unfold orI cmpI; simp [d]
theorem cmp_3 (h1 l1 : Int) : orI (cmpI h1 h1) (cmpI l1 l1) = 0 := by unfold orI cmpI; simp
theorem cmp_4 {h1 l1 l2 : Int} (d : l2 < l1) : orI (cmpI h1 h1) (cmpI l1 l2) = 1 := by
  unfold orI cmpI; rw [if_neg (by omega : ¬ h1 < h1), if_pos rfl, if_pos rfl, if_neg (by omega), if_neg (by omega)]
theorem cmp_5 {h1 l1 h2 l2 : Int} (c : h2 < h1) : orI (cmpI h1 h2) (cmpI l1 l2) = 1 := by
  unfold orI cmpI; rw [if_neg (by omega : ¬ h1 < h2), if_neg (by omega : ¬ h1 = h2), if_neg (by decide)]

set_option maxHeartbeats 400000 in
theorem refCompare_any (h1 l1 h2 l2 : Int) (w : World) :
    Calls Try.prog 21 #[.agg #[.int .i64 h1, .int .u64 l1], .agg #[.int .i64 h2, .int .u64 l2]] w fun e w' =>
      e = .returned (.int .i64 (orI (cmpI h1 h2) (cmpI l1 l2))) ∧ Below w.heap.size w w' := by
  rcases Int.lt_trichotomy h1 h2 with c | c | c
  · rw [cmp_1 c]
    go_enter Try.func21, Try.ntmps21
    go_wp2
    go_ret
    exact ⟨rfl, by repeat (first | exact Below.refl _ _ | apply Below.al | apply Below.on | (refine Below.st ?_ (by simp) _) | apply Below.drew)⟩
  · subst c
    rcases Int.lt_trichotomy l1 l2 with d | d | d
    · rw [cmp_2 d]
      go_enter Try.func21, Try.ntmps21
      go_wp2
      go_ret
      exact ⟨rfl, by repeat (first | exact Below.refl _ _ | apply Below.al | apply Below.on | (refine Below.st ?_ (by simp) _) | apply Below.drew)⟩
    · subst d
      rw [cmp_3]
      have q : eqW h1 l1 h1 l1 = true := eqW_of rfl rfl
      go_enter Try.func21, Try.ntmps21
      go_wp2
      go_ret
      exact ⟨rfl, by repeat (first | exact Below.refl _ _ | apply Below.al | apply Below.on | (refine Below.st ?_ (by simp) _) | apply Below.drew)⟩
    · rw [cmp_4 d]
      have q : eqW h1 l1 h1 l2 = false := eqW_no (by omega)
      go_enter Try.func21, Try.ntmps21
      go_wp2
      go_ret
      exact ⟨rfl, by repeat (first | exact Below.refl _ _ | apply Below.al | apply Below.on | (refine Below.st ?_ (by simp) _) | apply Below.drew)⟩
  · rw [cmp_5 c]
    have q : eqW h1 l1 h2 l2 = false := eqW_no (by omega)
    go_enter Try.func21, Try.ntmps21
    go_wp2
    go_ret
    exact ⟨rfl, by repeat (first | exact Below.refl _ _ | apply Below.al | apply Below.on | (refine Below.st ?_ (by simp) _) | apply Below.drew)⟩
end Go.Proofs.Ytapjndhbdpbjcaa
