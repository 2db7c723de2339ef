/-
  GENERAL TOOLS for functions that draw choices from a source and append to a slice of their own, part 2. Conditions: each theorem states its own.
-/
import Derived.Test.YtgooffpmiilicaaMak
set_option linter.unusedVariables false
set_option linter.unusedSimpArgs false
namespace Go.Proofs.Ytgooffpmiilicaa
open Go.RowKit
/-- A function that draws from the source sb and appends to a slice of its own: what it has in memory. -/
structure KpMem {α : Type} (f : α → List Value) (T : TypeId) (size : Nat) (w0 : World) (sb : Nat) (wr : World) (v : Value) (l : List α) (r : List Int) : Prop where
  mv : Mv (fun k => k = sb) w0 wr
  lt : sb < w0.heap.size
  src : SrcAt wr sb r
  own : wr.ownsRow w0.heap.size T size v l.length (l.flatMap f)
theorem KpMem.to {α : Type} {f : α → List Value} {T : TypeId} {size : Nat} {w0 : World} {sb : Nat} {wr wx : World} {v : Value} {l : List α} {r r' : List Int} (h : KpMem f T size w0 sb wr v l r) (hm : Mv (fun k => k = sb) wr wx) (hs : SrcAt wx sb r') : KpMem f T size w0 sb wx v l r' :=
  ⟨h.mv.trans hm, h.lt, hs, own_mv h.own hm fun k hk => by have := h.lt; omega⟩
theorem KpMem.al {α : Type} {f : α → List Value} {T : TypeId} {size : Nat} {w0 : World} {sb : Nat} {wr : World} {v : Value} {l : List α} {r : List Int} (h : KpMem f T size w0 sb wr v l r) (o : Obj) : KpMem f T size w0 sb (wr.alloc o) v l r :=
  h.to ((Mv.refl _ _).al o) (h.src.al o)
theorem KpMem.step {α : Type} {f : α → List Value} {T : TypeId} {size : Nat} {w0 : World} {sb : Nat} {wr w1 : World} {v v1 : Value} {l : List α} {c : α} {r : List Int} (h : KpMem f T size w0 sb wr v l r) (hg : wr.grownBy w1 v.ownBlock) (ho : w1.ownsRow w0.heap.size T size v1 (l.length + 1) (l.flatMap f ++ f c)) : KpMem f T size w0 sb w1 v1 (l ++ [c]) r := by
  have hrow : ∀ k, v.ownBlock = some k → w0.heap.size ≤ k := fun k hk => (h.own.lt k hk).1
  have lt := h.lt
  refine ⟨h.mv.gr hg hrow, h.lt, h.src.grw hg fun k hk => by have := hrow k hk; omega, ?_⟩
  rw [List.length_append, List.flatMap_append, List.flatMap_cons, List.flatMap_nil, List.append_nil]
  exact ho
theorem Mv.moved {sb : Nat} {w w' : World} (h : Mv (fun k => k = sb) w w') : Moved sb w w' := ⟨h.os, h.tape, h.output, h.size, h.block⟩
theorem ValsAt.keep {w w' : World} {B : Nat} {v : Value} {l : List Val} (h : ValsAt w B v l) (hk : ∀ k, k < B → v.ownBlock = some k → w'.heap[k]? = w.heap[k]?) : ValsAt w' B v l := by
  refine ⟨h.1, h.2.imp id ?_⟩
  rintro ⟨b, o, c, rfl, h2, h3, h4⟩
  have hb := hk b h3 rfl
  exact ⟨b, o, c, rfl, h2, h3, fun j hj => ⟨(World.cell?_of_block (w := w) hb).trans (h4 j hj).1, (World.cell?_of_block (w := w) hb).trans (h4 j hj).2.1, (World.cell?_of_block (w := w) hb).trans (h4 j hj).2.2⟩⟩
theorem ValsAt.up {w : World} {B B' : Nat} {v : Value} {l : List Val} (h : ValsAt w B v l) (hB : B ≤ B') : ValsAt w B' v l := h.mono (Below.refl _ _) hB
theorem ColsAt.mv {w w' : World} {sb : Nat} {v : Value} {cs : List Col} (h : ColsAt w sb v cs) (hm : Moved sb w w') (hl : sb ≤ w.heap.size) : ColsAt w' sb v cs :=
  h.mono ⟨hm.os, hm.tape, hm.output, hm.size, fun k hk => hm.block k (by omega) (by omega)⟩ (Nat.le_refl _)
end Go.Proofs.Ytgooffpmiilicaa
