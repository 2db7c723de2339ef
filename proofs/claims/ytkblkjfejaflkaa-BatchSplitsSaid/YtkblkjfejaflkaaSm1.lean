/-
  SORTING IN MEMORY: a row of records that is exchanged in place. Conditions: each theorem states its own.
-/
import Derived.Test.YtkblkjfejaflkaaRcs
import Derived.Test.YtkblkjfejaflkaaSs2
set_option linter.unusedVariables false
set_option linter.unusedSimpArgs false
namespace Go.Proofs.Ytkblkjfejaflkaa
open Go.RowKit
/-- The block's cells from off on hold the n elements. -/
structure RowM {α : Type} (sq : α → Int) (lv : α → Value) (w : World) (blk off n : Nat) (f : Nat → α) : Prop where
  lt : blk < w.heap.size
  c0 : ∀ k, k < n → w.cell? ⟨blk, off + k * 2, none⟩ = some (.int .i64 (sq (f k)))
  c1 : ∀ k, k < n → w.cell? ⟨blk, off + k * 2 + 1, none⟩ = some (lv (f k))
  fr : ∀ q, w.frozen? ⟨blk, q, none⟩ = false
variable {α : Type} {sq : α → Int} {lv : α → Value} {w W : World} {blk off n : Nat} {f : Nat → α}
theorem RowM.on (h : RowM sq lv w blk off n f) (hb : Below w.heap.size w W) : RowM sq lv W blk off n f :=
  ⟨Nat.lt_of_lt_of_le h.lt hb.size, fun k hk => (hb.cell (p := ⟨blk, _, none⟩) h.lt).trans (h.c0 k hk), fun k hk => (hb.cell (p := ⟨blk, _, none⟩) h.lt).trans (h.c1 k hk), fun q => (hb.frozen (p := ⟨blk, q, none⟩) h.lt).trans (h.fr q)⟩
theorem RowM.congr {g : Nat → α} (h : RowM sq lv w blk off n f) (e : ∀ k, k < n → g k = f k) : RowM sq lv w blk off n g :=
  ⟨h.lt, fun k hk => by rw [e k hk]; exact h.c0 k hk, fun k hk => by rw [e k hk]; exact h.c1 k hk, h.fr⟩
theorem RowM.st {i : Nat} {x : α} {u v : Value} (h : RowM sq lv w blk off n f) (hi : i < n) (e0 : u = .int .i64 (sq x)) (e1 : v = lv x) :
    RowM sq lv ((w.setCell ⟨blk, off + i * 2, none⟩ u).setCell ⟨blk, off + i * 2 + 1, none⟩ v) blk off n (fun k => if k = i then x else f k) := by
  subst e0 e1
  refine ⟨by simpa using h.lt, fun k hk => ?_, fun k hk => ?_, fun q => by rw [World.frozen?_setCell, World.frozen?_setCell]; exact h.fr q⟩
  · have q0 := h.c0 i hi
    rw [World.cell?_setCell_other (h := by intro e; simp only [Addr.mk.injEq] at e; omega)]
    by_cases e : k = i
    · subst e
      rw [if_pos rfl]
      exact World.cell?_setCell_same' _ _ _ (by rw [q0]; rfl)
    · rw [if_neg e, World.cell?_setCell_other (h := by intro e'; simp only [Addr.mk.injEq] at e'; omega)]
      exact h.c0 k hk
  · by_cases e : k = i
    · subst e
      rw [if_pos rfl]
      exact World.cell?_setCell_same' _ _ _ (by rw [World.cell?_setCell_other (h := by intro e; simp only [Addr.mk.injEq] at e; omega), h.c1 k hk]; rfl)
    · rw [if_neg e, World.cell?_setCell_other (h := by intro e'; simp only [Addr.mk.injEq] at e'; omega), World.cell?_setCell_other (h := by intro e'; simp only [Addr.mk.injEq] at e'; omega)]
      exact h.c1 k hk
theorem RowM.ap {g : Nat → α} (h : RowM sq lv w blk off n f) (e : g = f) : RowM sq lv w blk off n g := e ▸ h
end Go.Proofs.Ytkblkjfejaflkaa
