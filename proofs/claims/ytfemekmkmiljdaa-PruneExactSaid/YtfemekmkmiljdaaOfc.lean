/-
  What a valid predicate is, plainly; a block that is there. Conditions: each theorem states its own.
-/
import Derived.Test.YtfemekmkmiljdaaPck
import Derived.Deep.MidRow
set_option linter.unusedVariables false
set_option linter.unusedSimpArgs false
namespace Go.Proofs.Ytfemekmkmiljdaa
open Go.RowKit
theorem there_new {w : World} (c : Array Value) (t : TypeId) (n : Nat) (hn : n = w.heap.size) : (w.alloc (.cells c t)).there n 0 c.size := by
  intro j hj
  subst hn
  rw [World.cell?_alloc_at _ _ _ _ rfl, World.frozen?_alloc_at _ _ _ _ rfl]
  exact ⟨by simp [hj], rfl⟩
theorem nodsE_all {cs : List Col} : ∀ (ns : List Nod) (i : Int), nodsE cs i ns = 0 → ∀ j (h : j < ns.length), nodE cs (i + j) (ns[j]'h) = 0
  | [], _, _, j, h => absurd h (by simp)
  | d :: r, i, h0, j, h => by
    simp only [nodsE] at h0
    by_cases e : nodE cs i d = 0
    · rw [if_pos e] at h0
      cases j with
      | zero => simpa using e
      | succ j =>
        have := nodsE_all r (i + 1) h0 j (by simpa using h)
        rw [show i + ((j + 1 : Nat) : Int) = i + 1 + (j : Int) by omega]
        simpa using this
    · rw [if_neg e] at h0; exact absurd h0 e
theorem predF_all {cs : List Col} {key : Int} {ns : List Nod} (h : predF cs key ns = 0) : ns.length ≤ 64 ∧ ∀ j (hj : j < ns.length), nodE cs j (ns[j]'hj) = 0 := by
  unfold predF at h
  split at h
  · split at h
    · omega
    · rename_i h64
      refine ⟨by omega, fun j hj => ?_⟩
      have := nodsE_all ns 0 h j hj
      simpa using this
  · rename_i h0; exact absurd h h0
theorem nodE_ok {cs : List Col} {i : Int} {d : Nod} (h : nodE cs i d = 0) : 1 ≤ d.op ∧ d.op ≤ 11 ∧ (9 ≤ d.op → 0 ≤ d.a ∧ d.a < i) ∧ (9 ≤ d.op → ¬ d.op = 11 → 0 ≤ d.b ∧ d.b < i) := by
  unfold nodE at h
  split at h
  · omega
  · rename_i h0
    by_cases h9 : 9 ≤ d.op
    · rw [if_pos h9] at h
      split at h
      · omega
      · rename_i h1
        exact ⟨by omega, by omega, fun _ => by omega, fun _ _ => by omega⟩
    · exact ⟨by omega, by omega, fun q => absurd q h9, fun q => absurd q h9⟩
end Go.Proofs.Ytfemekmkmiljdaa
