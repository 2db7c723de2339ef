/-
  PLAIN: one element that is carried up or down a row by exchanges. Conditions: each theorem states its own; no program in sight.
-/
import Derived.Test.YtkblkjfejaflkaaSs2
set_option linter.unusedVariables false
set_option linter.unusedSimpArgs false
namespace Go.Proofs.Ytkblkjfejaflkaa
namespace Srt
variable {α : Type}
/-- The element at a carried up to k. -/
def upF (f : Nat → α) (a k : Nat) : Nat → α := fun x => if a ≤ x ∧ x < k then f (x + 1) else if x = k then f a else f x
theorem upF_zero (f : Nat → α) (a : Nat) : upF f a a = f := by
  funext x; unfold upF
  rw [if_neg (by omega)]
  by_cases h : x = a
  · rw [if_pos h, h]
  · rw [if_neg h]
theorem upF_succ (f : Nat → α) {a k : Nat} (h : a ≤ k) : upF f a (k + 1) = swp (upF f a k) k (k + 1) := by
  funext x; unfold swp upF
  by_cases e1 : x = k
  · subst e1; rw [if_pos (by omega), if_pos rfl, if_neg (by omega), if_neg (by omega)]
  by_cases e2 : x = k + 1
  · subst e2; rw [if_neg (by omega), if_pos rfl, if_neg (by omega), if_pos rfl, if_neg (by omega), if_pos rfl]
  rw [if_neg e1, if_neg e2]
  by_cases c1 : a ≤ x ∧ x < k
  · rw [if_pos (by omega), if_neg e2, if_pos c1]
  · rw [if_neg (by omega), if_neg e2, if_neg c1, if_neg e1]
theorem upF_sw (f : Nat → α) {a b : Nat} : ∀ d, a + d < b → Sw a b f (upF f a (a + d))
  | 0, _ => by rw [Nat.add_zero, upF_zero]; exact .refl _
  | d + 1, h => by rw [← Nat.add_assoc, upF_succ f (by omega)]; exact .step _ _ (upF_sw f d (by omega)) (by omega) (by omega) (by omega) (by omega)
/-- The element at m carried down to i. -/
def dnF (f : Nat → α) (m i : Nat) : Nat → α := fun x => if x = i then f m else if i < x ∧ x ≤ m then f (x - 1) else f x
theorem dnF_zero (f : Nat → α) (m : Nat) : dnF f m m = f := by
  funext x; unfold dnF
  by_cases h : x = m
  · rw [if_pos h, h]
  · rw [if_neg h, if_neg (by omega)]
theorem dnF_succ (f : Nat → α) {m i : Nat} (h : i + 1 ≤ m) : dnF f m i = swp (dnF f m (i + 1)) (i + 1) i := by
  funext x; unfold swp dnF
  by_cases e1 : x = i + 1
  · subst e1; rw [if_neg (by omega), if_pos (by omega), if_pos rfl, if_neg (by omega), if_neg (by omega)]; congr 1
  by_cases e2 : x = i
  · subst e2; rw [if_pos rfl, if_neg (by omega), if_pos rfl, if_pos rfl]
  rw [if_neg e2, if_neg e1, if_neg e2, if_neg e1]
  by_cases c1 : i + 1 < x ∧ x ≤ m
  · rw [if_pos (by omega), if_pos c1]
  · rw [if_neg (by omega), if_neg c1]
theorem dnF_sw (f : Nat → α) {a m : Nat} : ∀ d, a + d ≤ m → Sw a (m + 1) f (dnF f m (m - d))
  | 0, _ => by rw [Nat.sub_zero, dnF_zero]; exact .refl _
  | d + 1, h => by
    rw [dnF_succ f (show m - (d + 1) + 1 ≤ m by omega), show m - (d + 1) + 1 = m - d by omega]
    exact .step _ _ (dnF_sw f d (by omega)) (by omega) (by omega) (by omega) (by omega)
end Srt
end Go.Proofs.Ytkblkjfejaflkaa
