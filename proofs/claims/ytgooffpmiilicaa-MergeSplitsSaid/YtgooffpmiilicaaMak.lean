/-
  GENERAL TOOLS for functions that draw choices from a source and append to a slice of their own. Conditions: each theorem states its own.
-/
import Derived.Test.YtgooffpmiilicaaKeep
import Derived.Test.YtgooffpmiilicaaPrd
import Derived.Deep.AppendLies
set_option linter.unusedVariables false
set_option linter.unusedSimpArgs false
namespace Go.Proofs.Ytgooffpmiilicaa
open Go.RowKit
theorem captureM {P : Program} {c : Code} {Q : Exit → Act → World → Prop} {a : Act} {W : World} (h : ∀ y : World, y = W → c.wp P Q a y) : c.wp P Q a W := h W rfl
/-- Nothing that was there has turned but the blocks of S. -/
structure Mv (S : Nat → Prop) (w w' : World) : Prop where
  os : w'.os = w.os
  tape : w'.tape = w.tape
  output : w'.output = w.output
  size : w.heap.size ≤ w'.heap.size
  block : ∀ k, k < w.heap.size → ¬ S k → w'.heap[k]? = w.heap[k]?
theorem Mv.refl (S : Nat → Prop) (w : World) : Mv S w w := ⟨rfl, rfl, rfl, Nat.le_refl _, fun _ _ _ => rfl⟩
theorem Mv.trans {S : Nat → Prop} {a b c : World} (h : Mv S a b) (k : Mv S b c) : Mv S a c :=
  ⟨k.os.trans h.os, k.tape.trans h.tape, k.output.trans h.output, Nat.le_trans h.size k.size, fun i hi hs => (k.block i (Nat.lt_of_lt_of_le hi h.size) hs).trans (h.block i hi hs)⟩
theorem Mv.of_below {S : Nat → Prop} {w w' : World} (h : Below w.heap.size w w') : Mv S w w' := ⟨h.os, h.tape, h.output, h.size, fun k hk _ => h.block k hk⟩
theorem Mv.of_moved {S : Nat → Prop} {sb : Nat} {w w' : World} (h : Moved sb w w') (hs : S sb) : Mv S w w' := ⟨h.os, h.tape, h.output, h.size, fun k hk hn => h.block k hk (fun e => hn (e ▸ hs))⟩
theorem Mv.on {S : Nat → Prop} {a w w' : World} (h : Mv S a w) (k : Below w.heap.size w w') : Mv S a w' := h.trans (Mv.of_below k)
theorem Mv.mv {S : Nat → Prop} {sb : Nat} {a w w' : World} (h : Mv S a w) (k : Moved sb w w') (hs : S sb) : Mv S a w' := h.trans (Mv.of_moved k hs)
theorem Mv.al {S : Nat → Prop} {a w : World} (h : Mv S a w) (o : Obj) : Mv S a (w.alloc o) := h.on ((Below.refl _ _).alloc (Nat.le_refl _) o)
theorem Mv.drew {S : Nat → Prop} {a w : World} (h : Mv S a w) : Mv S a w.drew := ⟨h.os, h.tape, h.output, h.size, h.block⟩
theorem Mv.st {S : Nat → Prop} {a w : World} (h : Mv S a w) {p : Addr} (hp : S p.block ∨ a.heap.size ≤ p.block) (u : Value) : Mv S a (w.setCell p u) :=
  ⟨h.os, h.tape, h.output, by simpa [World.setCell] using h.size, fun k hk hs => (Below.heap_setCell _ _ _ _ (fun e => by rcases hp with q | q; exact hs (e ▸ q); omega)).trans (h.block k hk hs)⟩
theorem Mv.gr {S : Nat → Prop} {a w w' : World} {row : Option Nat} (h : Mv S a w) (hg : w.grownBy w' row) (hr : ∀ k, row = some k → a.heap.size ≤ k) : Mv S a w' :=
  ⟨hg.os.trans h.os, hg.tape.trans h.tape, hg.output.trans h.output, Nat.le_trans h.size hg.size, fun k hk hs => (hg.block k (Nat.lt_of_lt_of_le hk h.size) (fun e => by have := hr k e.symm; omega)).trans (h.block k hk hs)⟩
theorem Mv.cell {S : Nat → Prop} {a w : World} (h : Mv S a w) {b : Nat} (o : Nat) (hb : b < a.heap.size) (hs : ¬ S b) : w.cell? ⟨b, o, none⟩ = a.cell? ⟨b, o, none⟩ := World.cell?_of_block (w := a) (h.block b hb hs)
theorem Mv.frozen {S : Nat → Prop} {a w : World} (h : Mv S a w) {b : Nat} (o : Nat) (hb : b < a.heap.size) (hs : ¬ S b) : w.frozen? ⟨b, o, none⟩ = a.frozen? ⟨b, o, none⟩ := World.frozen?_of_block (w := a) (h.block b hb hs)
theorem Mv.below {S : Nat → Prop} {a w w' : World} (h : Mv S w w') (ha : Below a.heap.size a w) (hs : ∀ k, S k → a.heap.size ≤ k) : Below a.heap.size a w' :=
  ha.trans ⟨h.os, h.tape, h.output, h.size, fun i hi => h.block i (Nat.lt_of_lt_of_le hi ha.size) (fun q => by have := hs i q; omega)⟩
theorem Mv.mono {S T : Nat → Prop} {a w : World} (h : Mv S a w) (hst : ∀ k, k < a.heap.size → S k → T k) : Mv T a w := ⟨h.os, h.tape, h.output, h.size, fun k hk ht => h.block k hk (fun q => ht (hst k hk q))⟩
theorem SrcAt.grw {w w' : World} {sb : Nat} {r : List Int} {row : Option Nat} (h : SrcAt w sb r) (hg : w.grownBy w' row) (hr : ∀ k, row = some k → sb < k) : SrcAt w' sb r := by
  obtain ⟨zs, i, lv, h1, h2, h3, h4, h5, h6, h7⟩ := h
  have hb : ∀ k, k ≤ sb → w'.heap[k]? = w.heap[k]? := fun k hk => hg.block k (by omega) (fun e => by have := hr k e.symm; omega)
  exact ⟨zs, i, lv, h1, h2, Nat.lt_of_lt_of_le h3 hg.size, (World.cell?_of_block (w := w) (hb sb (Nat.le_refl _))).trans h4, (World.cell?_of_block (w := w) (hb sb (Nat.le_refl _))).trans h5,
    fun j => (World.frozen?_of_block (w := w) (hb sb (Nat.le_refl _))).trans (h6 j), h7.to fun k hk => hb k (by omega)⟩
theorem own_mv {S : Nat → Prop} {w w1 : World} {base : Nat} {e : TypeId} {size : Nat} {v : Value} {n : Nat} {xs : List Value} (h : w.ownsRow base e size v n xs) (hm : Mv S w w1) (hs : ∀ k, S k → k < base) : w1.ownsRow base e size v n xs := by
  refine ⟨h.1, h.2.imp id ?_⟩
  rintro ⟨g, cap, cur, h1, h2, h3, h4⟩
  exact ⟨g, cap, cur, h1, h2, by rw [hm.block g (Array.getElem?_eq_some_iff.1 h3).1 (fun q => by have := hs g q; omega)]; exact h3, h4⟩
theorem own_st {w : World} {base : Nat} {e : TypeId} {size : Nat} {v : Value} {n : Nat} {xs : List Value} (h : w.ownsRow base e size v n xs) {p : Addr} (hp : ∀ k, v.ownBlock = some k → k ≠ p.block) (u : Value) : (w.setCell p u).ownsRow base e size v n xs := by
  refine ⟨h.1, h.2.imp id ?_⟩
  rintro ⟨g, cap, cur, h1, h2, h3, h4⟩
  exact ⟨g, cap, cur, h1, h2, by rw [Below.heap_setCell _ _ _ _ (hp g (by rw [h1]; rfl))]; exact h3, h4⟩
theorem own_form {w : World} {base : Nat} {e : TypeId} {size : Nat} {v : Value} {n : Nat} {xs : List Value} (h : w.ownsRow base e size v n xs) : ∃ a c, v = .slice a n c := by
  rcases h.2 with ⟨rfl, rfl⟩ | ⟨g, cap, cur, rfl, _⟩
  · exact ⟨_, _, rfl⟩
  · exact ⟨_, _, rfl⟩
theorem flat_get {α : Type} (f : α → List Value) (k : Nat) (hk : ∀ a, (f a).length = k) : ∀ (l : List α) (j i : Nat) (hj : j < l.length), i < k → (l.flatMap f)[j * k + i]? = (f (l[j]'hj))[i]?
  | [], j, i, hj, _ => absurd hj (by simp)
  | a :: l, 0, i, _, hi => by
    rw [List.flatMap_cons, List.getElem?_append_left (by rw [hk]; omega)]
    simp
  | a :: l, j + 1, i, hj, hi => by
    rw [List.flatMap_cons, List.getElem?_append_right (by rw [hk, Nat.add_mul]; omega), hk, show (j + 1) * k + i - k = j * k + i by rw [Nat.add_mul]; omega]
    exact flat_get f k hk l j i (by simpa using hj) hi
theorem flat_len {α : Type} (f : α → List Value) (k : Nat) (hk : ∀ a, (f a).length = k) : ∀ (l : List α), (l.flatMap f).length = l.length * k
  | [] => by simp
  | a :: l => by rw [List.flatMap_cons, List.length_append, hk, flat_len f k hk l, List.length_cons, Nat.add_mul]; omega
/-- What a row of one's own holds, cell by cell. -/
theorem own_at {α : Type} {f : α → List Value} {k : Nat} (hk : ∀ a, (f a).length = k) {w : World} {base : Nat} {e : TypeId} {v : Value} {l : List α} (h : w.ownsRow base e k v l.length (l.flatMap f)) :
    (l = [] ∧ v = .slice none 0 0) ∨ ∃ g c, v = .slice (some ⟨g, 0, none⟩) l.length c ∧ l.length ≤ c ∧ base ≤ g ∧ g < w.heap.size ∧ ∀ j (hj : j < l.length) i u, i < k → (f (l[j]'hj))[i]? = some u → w.cell? ⟨g, j * k + i, none⟩ = some u := by
  have hx := h
  rcases h.2 with ⟨rfl, h0⟩ | ⟨g, cap, cur, rfl, hb, hg, hnc, _⟩
  · exact .inl ⟨List.eq_nil_of_length_eq_zero h0, rfl⟩
  · refine .inr ⟨g, cap, rfl, hnc, hb, (Array.getElem?_eq_some_iff.1 hg).1, fun j hj i u hi hu => ?_⟩
    have := World.ownsRow.cells hx (g := g) rfl (j * k + i) u (by rw [flat_get f k hk l j i hj hi]; exact hu)
    have hadd : (⟨g, 0, none⟩ : Addr).add (j * k + i) = ⟨g, j * k + i, none⟩ := by unfold Addr.add; split <;> simp_all
    rwa [hadd] at this
def colC (c : Col) : List Value := [.string c.nm, .int .i64 c.ty, .int .i64 c.sc, .bool c.nul]
theorem own_cols {w : World} {base : Nat} {e : TypeId} {v : Value} {cs : List Col} (hl : cs.length ≤ 9223372036854775807) (h : w.ownsRow base e 4 v cs.length (cs.flatMap colC)) : ColsAt w w.heap.size v cs := by
  rcases own_at (f := colC) (fun _ => rfl) h with ⟨rfl, rfl⟩ | ⟨g, c, rfl, hc, _, hg, H⟩
  · exact ⟨hl, .inl ⟨rfl, none, 0, rfl⟩⟩
  · exact ⟨hl, .inr ⟨g, 0, c, rfl, hc, hg, fun j hj => by
      simp only [Nat.zero_add]
      exact ⟨H j hj 0 _ (by omega) rfl, H j hj 1 _ (by omega) rfl, H j hj 2 _ (by omega) rfl, H j hj 3 _ (by omega) rfl⟩⟩⟩
def valC (c : Val) : List Value := [.bool c.null, .int .i64 c.n, .string c.s]
theorem own_vals {w : World} {base : Nat} {e : TypeId} {v : Value} {cs : List Val} (hl : cs.length ≤ 9223372036854775807) (h : w.ownsRow base e 3 v cs.length (cs.flatMap valC)) : ValsAt w w.heap.size v cs := by
  rcases own_at (f := valC) (fun _ => rfl) h with ⟨rfl, rfl⟩ | ⟨g, c, rfl, hc, _, hg, H⟩
  · exact ⟨hl, .inl ⟨rfl, none, 0, rfl⟩⟩
  · exact ⟨hl, .inr ⟨g, 0, c, rfl, hc, hg, fun j hj => by
      simp only [Nat.zero_add]
      exact ⟨H j hj 0 _ (by omega) rfl, H j hj 1 _ (by omega) rfl, H j hj 2 _ (by omega) rfl⟩⟩⟩
theorem next_2 (sb : Nat) (r : List Int) (w : World) (h : SrcAt w sb r) : Calls Try.prog 37 #[.pointer (some ⟨sb, 0, none⟩), .int .i64 2] w fun e w' => e = .returned (.int .i64 (nextF 2 r).1) ∧ Moved sb w w' ∧ SrcAt w' sb (nextF 2 r).2 := next_any sb r 2 (by decide) (by decide) w h
theorem next_3 (sb : Nat) (r : List Int) (w : World) (h : SrcAt w sb r) : Calls Try.prog 37 #[.pointer (some ⟨sb, 0, none⟩), .int .i64 3] w fun e w' => e = .returned (.int .i64 (nextF 3 r).1) ∧ Moved sb w w' ∧ SrcAt w' sb (nextF 3 r).2 := next_any sb r 3 (by decide) (by decide) w h
theorem next_4 (sb : Nat) (r : List Int) (w : World) (h : SrcAt w sb r) : Calls Try.prog 37 #[.pointer (some ⟨sb, 0, none⟩), .int .i64 4] w fun e w' => e = .returned (.int .i64 (nextF 4 r).1) ∧ Moved sb w w' ∧ SrcAt w' sb (nextF 4 r).2 := next_any sb r 4 (by decide) (by decide) w h
theorem next_5 (sb : Nat) (r : List Int) (w : World) (h : SrcAt w sb r) : Calls Try.prog 37 #[.pointer (some ⟨sb, 0, none⟩), .int .i64 5] w fun e w' => e = .returned (.int .i64 (nextF 5 r).1) ∧ Moved sb w w' ∧ SrcAt w' sb (nextF 5 r).2 := next_any sb r 5 (by decide) (by decide) w h
theorem next_7 (sb : Nat) (r : List Int) (w : World) (h : SrcAt w sb r) : Calls Try.prog 37 #[.pointer (some ⟨sb, 0, none⟩), .int .i64 7] w fun e w' => e = .returned (.int .i64 (nextF 7 r).1) ∧ Moved sb w w' ∧ SrcAt w' sb (nextF 7 r).2 := next_any sb r 7 (by decide) (by decide) w h
theorem next_8 (sb : Nat) (r : List Int) (w : World) (h : SrcAt w sb r) : Calls Try.prog 37 #[.pointer (some ⟨sb, 0, none⟩), .int .i64 8] w fun e w' => e = .returned (.int .i64 (nextF 8 r).1) ∧ Moved sb w w' ∧ SrcAt w' sb (nextF 8 r).2 := next_any sb r 8 (by decide) (by decide) w h
theorem next_11 (sb : Nat) (r : List Int) (w : World) (h : SrcAt w sb r) : Calls Try.prog 37 #[.pointer (some ⟨sb, 0, none⟩), .int .i64 11] w fun e w' => e = .returned (.int .i64 (nextF 11 r).1) ∧ Moved sb w w' ∧ SrcAt w' sb (nextF 11 r).2 := next_any sb r 11 (by decide) (by decide) w h
theorem next_40 (sb : Nat) (r : List Int) (w : World) (h : SrcAt w sb r) : Calls Try.prog 37 #[.pointer (some ⟨sb, 0, none⟩), .int .i64 40] w fun e w' => e = .returned (.int .i64 (nextF 40 r).1) ∧ Moved sb w w' ∧ SrcAt w' sb (nextF 40 r).2 := next_any sb r 40 (by decide) (by decide) w h
end Go.Proofs.Ytgooffpmiilicaa
