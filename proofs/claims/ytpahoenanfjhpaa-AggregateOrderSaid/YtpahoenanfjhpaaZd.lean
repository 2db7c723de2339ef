/-
  CHAPTER 26: Mak, Mk2, Int3, Krw, Krs (several texts in one). Conditions: each theorem states its own.
-/
import Derived.Test.YtpahoenanfjhpaaZb
import Derived.Test.YtpahoenanfjhpaaPrdz
import Derived.Deep.AppendLies
import Derived.Test.YtpahoenanfjhpaaZc
set_option linter.unusedVariables false
set_option linter.unusedSimpArgs false
namespace Go.Proofs.Ytpahoenanfjhpaa
open Go.RowKit
theorem captureM {P : Program} {c : Code} {Q : Exit → Act → World → Prop} {a : Act} {W : World} (h : ∀ y : World, y = W → c.wp P Q a y) : c.wp P Q a W := h W rfl
/-- Nothing that was there has turned but the blocks of S. -/
structure Mv (S : Nat → Prop) (w w' : World) : Prop where
  os : w'.os = w.os
  tape : w'.tape = w.tape
  output : w'.output = w.output
  size : w.heap.size ≤ w'.heap.size
  block : ∀ k, k < w.heap.size → ¬ S k → w'.heap[k]? = w.heap[k]?
theorem Mv.refl (S : Nat → Prop) (w : World) : Mv S w w := ⟨rfl, rfl, rfl, Nat.le_refl _, fun _ _ _ => rfl⟩
theorem Mv.trans {S : Nat → Prop} {a b c : World} (h : Mv S a b) (k : Mv S b c) : Mv S a c :=
  ⟨k.os.trans h.os, k.tape.trans h.tape, k.output.trans h.output, Nat.le_trans h.size k.size, fun i hi hs => (k.block i (Nat.lt_of_lt_of_le hi h.size) hs).trans (h.block i hi hs)⟩
theorem Mv.of_below {S : Nat → Prop} {w w' : World} (h : Below w.heap.size w w') : Mv S w w' := ⟨h.os, h.tape, h.output, h.size, fun k hk _ => h.block k hk⟩
theorem Mv.of_moved {S : Nat → Prop} {sb : Nat} {w w' : World} (h : Moved sb w w') (hs : S sb) : Mv S w w' := ⟨h.os, h.tape, h.output, h.size, fun k hk hn => h.block k hk (fun e => hn (e ▸ hs))⟩
theorem Mv.on {S : Nat → Prop} {a w w' : World} (h : Mv S a w) (k : Below w.heap.size w w') : Mv S a w' := h.trans (Mv.of_below k)
theorem Mv.mv {S : Nat → Prop} {sb : Nat} {a w w' : World} (h : Mv S a w) (k : Moved sb w w') (hs : S sb) : Mv S a w' := h.trans (Mv.of_moved k hs)
theorem Mv.al {S : Nat → Prop} {a w : World} (h : Mv S a w) (o : Obj) : Mv S a (w.alloc o) := h.on ((Below.refl _ _).alloc (Nat.le_refl _) o)
theorem Mv.drew {S : Nat → Prop} {a w : World} (h : Mv S a w) : Mv S a w.drew := ⟨h.os, h.tape, h.output, h.size, h.block⟩
theorem Mv.st {S : Nat → Prop} {a w : World} (h : Mv S a w) {p : Addr} (hp : S p.block ∨ a.heap.size ≤ p.block) (u : Value) : Mv S a (w.setCell p u) :=
  ⟨h.os, h.tape, h.output, by simpa [World.setCell] using h.size, fun k hk hs => (Below.heap_setCell _ _ _ _ (fun e => by rcases hp with q | q; exact hs (e ▸ q); omega)).trans (h.block k hk hs)⟩
theorem Mv.gr {S : Nat → Prop} {a w w' : World} {row : Option Nat} (h : Mv S a w) (hg : w.grownBy w' row) (hr : ∀ k, row = some k → a.heap.size ≤ k) : Mv S a w' :=
  ⟨hg.os.trans h.os, hg.tape.trans h.tape, hg.output.trans h.output, Nat.le_trans h.size hg.size, fun k hk hs => (hg.block k (Nat.lt_of_lt_of_le hk h.size) (fun e => by have := hr k e.symm; omega)).trans (h.block k hk hs)⟩
theorem Mv.cell {S : Nat → Prop} {a w : World} (h : Mv S a w) {b : Nat} (o : Nat) (hb : b < a.heap.size) (hs : ¬ S b) : w.cell? ⟨b, o, none⟩ = a.cell? ⟨b, o, none⟩ := World.cell?_of_block (w := a) (h.block b hb hs)
theorem Mv.frozen {S : Nat → Prop} {a w : World} (h : Mv S a w) {b : Nat} (o : Nat) (hb : b < a.heap.size) (hs : ¬ S b) : w.frozen? ⟨b, o, none⟩ = a.frozen? ⟨b, o, none⟩ := World.frozen?_of_block (w := a) (h.block b hb hs)
theorem Mv.below {S : Nat → Prop} {a w w' : World} (h : Mv S w w') (ha : Below a.heap.size a w) (hs : ∀ k, S k → a.heap.size ≤ k) : Below a.heap.size a w' :=
  ha.trans ⟨h.os, h.tape, h.output, h.size, fun i hi => h.block i (Nat.lt_of_lt_of_le hi ha.size) (fun q => by have := hs i q; omega)⟩
theorem Mv.mono {S T : Nat → Prop} {a w : World} (h : Mv S a w) (hst : ∀ k, k < a.heap.size → S k → T k) : Mv T a w := ⟨h.os, h.tape, h.output, h.size, fun k hk ht => h.block k hk (fun q => ht (hst k hk q))⟩
theorem SrcAt.grw {w w' : World} {sb : Nat} {r : List Int} {row : Option Nat} (h : SrcAt w sb r) (hg : w.grownBy w' row) (hr : ∀ k, row = some k → sb < k) : SrcAt w' sb r := by
  obtain ⟨zs, i, lv, h1, h2, h3, h4, h5, h6, h7⟩ := h
  have hb : ∀ k, k ≤ sb → w'.heap[k]? = w.heap[k]? := fun k hk => hg.block k (by omega) (fun e => by have := hr k e.symm; omega)
  exact ⟨zs, i, lv, h1, h2, Nat.lt_of_lt_of_le h3 hg.size, (World.cell?_of_block (w := w) (hb sb (Nat.le_refl _))).trans h4, (World.cell?_of_block (w := w) (hb sb (Nat.le_refl _))).trans h5,
    fun j => (World.frozen?_of_block (w := w) (hb sb (Nat.le_refl _))).trans (h6 j), h7.to fun k hk => hb k (by omega)⟩
theorem own_mv {S : Nat → Prop} {w w1 : World} {base : Nat} {e : TypeId} {size : Nat} {v : Value} {n : Nat} {xs : List Value} (h : w.ownsRow base e size v n xs) (hm : Mv S w w1) (hs : ∀ k, S k → k < base) : w1.ownsRow base e size v n xs := by
  refine ⟨h.1, h.2.imp id ?_⟩
  rintro ⟨g, cap, cur, h1, h2, h3, h4⟩
  exact ⟨g, cap, cur, h1, h2, by rw [hm.block g (Array.getElem?_eq_some_iff.1 h3).1 (fun q => by have := hs g q; omega)]; exact h3, h4⟩
theorem own_st {w : World} {base : Nat} {e : TypeId} {size : Nat} {v : Value} {n : Nat} {xs : List Value} (h : w.ownsRow base e size v n xs) {p : Addr} (hp : ∀ k, v.ownBlock = some k → k ≠ p.block) (u : Value) : (w.setCell p u).ownsRow base e size v n xs := by
  refine ⟨h.1, h.2.imp id ?_⟩
  rintro ⟨g, cap, cur, h1, h2, h3, h4⟩
  exact ⟨g, cap, cur, h1, h2, by rw [Below.heap_setCell _ _ _ _ (hp g (by rw [h1]; rfl))]; exact h3, h4⟩
theorem own_form {w : World} {base : Nat} {e : TypeId} {size : Nat} {v : Value} {n : Nat} {xs : List Value} (h : w.ownsRow base e size v n xs) : ∃ a c, v = .slice a n c := by
  rcases h.2 with ⟨rfl, rfl⟩ | ⟨g, cap, cur, rfl, _⟩
  · exact ⟨_, _, rfl⟩
  · exact ⟨_, _, rfl⟩
theorem flat_get {α : Type} (f : α → List Value) (k : Nat) (hk : ∀ a, (f a).length = k) : ∀ (l : List α) (j i : Nat) (hj : j < l.length), i < k → (l.flatMap f)[j * k + i]? = (f (l[j]'hj))[i]?
  | [], j, i, hj, _ => absurd hj (by simp)
  | a :: l, 0, i, _, hi => by
    rw [List.flatMap_cons, List.getElem?_append_left (by rw [hk]; omega)]
    simp
  | a :: l, j + 1, i, hj, hi => by
    rw [List.flatMap_cons, List.getElem?_append_right (by rw [hk, Nat.add_mul]; omega), hk, show (j + 1) * k + i - k = j * k + i by rw [Nat.add_mul]; omega]
    exact flat_get f k hk l j i (by simpa using hj) hi
theorem flat_len {α : Type} (f : α → List Value) (k : Nat) (hk : ∀ a, (f a).length = k) : ∀ (l : List α), (l.flatMap f).length = l.length * k
  | [] => by simp
  | a :: l => by rw [List.flatMap_cons, List.length_append, hk, flat_len f k hk l, List.length_cons, Nat.add_mul]; omega
/-- What a row of one's own holds, cell by cell. -/
theorem own_at {α : Type} {f : α → List Value} {k : Nat} (hk : ∀ a, (f a).length = k) {w : World} {base : Nat} {e : TypeId} {v : Value} {l : List α} (h : w.ownsRow base e k v l.length (l.flatMap f)) :
    (l = [] ∧ v = .slice none 0 0) ∨ ∃ g c, v = .slice (some ⟨g, 0, none⟩) l.length c ∧ l.length ≤ c ∧ base ≤ g ∧ g < w.heap.size ∧ ∀ j (hj : j < l.length) i u, i < k → (f (l[j]'hj))[i]? = some u → w.cell? ⟨g, j * k + i, none⟩ = some u := by
  have hx := h
  rcases h.2 with ⟨rfl, h0⟩ | ⟨g, cap, cur, rfl, hb, hg, hnc, _⟩
  · exact .inl ⟨List.eq_nil_of_length_eq_zero h0, rfl⟩
  · refine .inr ⟨g, cap, rfl, hnc, hb, (Array.getElem?_eq_some_iff.1 hg).1, fun j hj i u hi hu => ?_⟩
    have := World.ownsRow.cells hx (g := g) rfl (j * k + i) u (by rw [flat_get f k hk l j i hj hi]; exact hu)
    have hadd : (⟨g, 0, none⟩ : Addr).add (j * k + i) = ⟨g, j * k + i, none⟩ := by unfold Addr.add; split <;> simp_all
    rwa [hadd] at this
def colC (c : Col) : List Value := [.string c.nm, .int .i64 c.ty, .int .i64 c.sc, .bool c.nul]
theorem own_cols {w : World} {base : Nat} {e : TypeId} {v : Value} {cs : List Col} (hl : cs.length ≤ 9223372036854775807) (h : w.ownsRow base e 4 v cs.length (cs.flatMap colC)) : ColsAt w w.heap.size v cs := by
  rcases own_at (f := colC) (fun _ => rfl) h with ⟨rfl, rfl⟩ | ⟨g, c, rfl, hc, _, hg, H⟩
  · exact ⟨hl, .inl ⟨rfl, none, 0, rfl⟩⟩
  · exact ⟨hl, .inr ⟨g, 0, c, rfl, hc, hg, fun j hj => by
      simp only [Nat.zero_add]
      exact ⟨H j hj 0 _ (by omega) rfl, H j hj 1 _ (by omega) rfl, H j hj 2 _ (by omega) rfl, H j hj 3 _ (by omega) rfl⟩⟩⟩
def valC (c : Val) : List Value := [.bool c.null, .int .i64 c.n, .string c.s]
theorem own_vals {w : World} {base : Nat} {e : TypeId} {v : Value} {cs : List Val} (hl : cs.length ≤ 9223372036854775807) (h : w.ownsRow base e 3 v cs.length (cs.flatMap valC)) : ValsAt w w.heap.size v cs := by
  rcases own_at (f := valC) (fun _ => rfl) h with ⟨rfl, rfl⟩ | ⟨g, c, rfl, hc, _, hg, H⟩
  · exact ⟨hl, .inl ⟨rfl, none, 0, rfl⟩⟩
  · exact ⟨hl, .inr ⟨g, 0, c, rfl, hc, hg, fun j hj => by
      simp only [Nat.zero_add]
      exact ⟨H j hj 0 _ (by omega) rfl, H j hj 1 _ (by omega) rfl, H j hj 2 _ (by omega) rfl⟩⟩⟩
theorem next_2 (sb : Nat) (r : List Int) (w : World) (h : SrcAt w sb r) : Calls Try.prog 24 #[.pointer (some ⟨sb, 0, none⟩), .int .i64 2] w fun e w' => e = .returned (.int .i64 (nextF 2 r).1) ∧ Moved sb w w' ∧ SrcAt w' sb (nextF 2 r).2 := next_any sb r 2 (by decide) (by decide) w h
theorem next_3 (sb : Nat) (r : List Int) (w : World) (h : SrcAt w sb r) : Calls Try.prog 24 #[.pointer (some ⟨sb, 0, none⟩), .int .i64 3] w fun e w' => e = .returned (.int .i64 (nextF 3 r).1) ∧ Moved sb w w' ∧ SrcAt w' sb (nextF 3 r).2 := next_any sb r 3 (by decide) (by decide) w h
theorem next_4 (sb : Nat) (r : List Int) (w : World) (h : SrcAt w sb r) : Calls Try.prog 24 #[.pointer (some ⟨sb, 0, none⟩), .int .i64 4] w fun e w' => e = .returned (.int .i64 (nextF 4 r).1) ∧ Moved sb w w' ∧ SrcAt w' sb (nextF 4 r).2 := next_any sb r 4 (by decide) (by decide) w h
theorem next_5 (sb : Nat) (r : List Int) (w : World) (h : SrcAt w sb r) : Calls Try.prog 24 #[.pointer (some ⟨sb, 0, none⟩), .int .i64 5] w fun e w' => e = .returned (.int .i64 (nextF 5 r).1) ∧ Moved sb w w' ∧ SrcAt w' sb (nextF 5 r).2 := next_any sb r 5 (by decide) (by decide) w h
theorem next_7 (sb : Nat) (r : List Int) (w : World) (h : SrcAt w sb r) : Calls Try.prog 24 #[.pointer (some ⟨sb, 0, none⟩), .int .i64 7] w fun e w' => e = .returned (.int .i64 (nextF 7 r).1) ∧ Moved sb w w' ∧ SrcAt w' sb (nextF 7 r).2 := next_any sb r 7 (by decide) (by decide) w h
theorem next_8 (sb : Nat) (r : List Int) (w : World) (h : SrcAt w sb r) : Calls Try.prog 24 #[.pointer (some ⟨sb, 0, none⟩), .int .i64 8] w fun e w' => e = .returned (.int .i64 (nextF 8 r).1) ∧ Moved sb w w' ∧ SrcAt w' sb (nextF 8 r).2 := next_any sb r 8 (by decide) (by decide) w h
theorem next_11 (sb : Nat) (r : List Int) (w : World) (h : SrcAt w sb r) : Calls Try.prog 24 #[.pointer (some ⟨sb, 0, none⟩), .int .i64 11] w fun e w' => e = .returned (.int .i64 (nextF 11 r).1) ∧ Moved sb w w' ∧ SrcAt w' sb (nextF 11 r).2 := next_any sb r 11 (by decide) (by decide) w h
theorem next_40 (sb : Nat) (r : List Int) (w : World) (h : SrcAt w sb r) : Calls Try.prog 24 #[.pointer (some ⟨sb, 0, none⟩), .int .i64 40] w fun e w' => e = .returned (.int .i64 (nextF 40 r).1) ∧ Moved sb w w' ∧ SrcAt w' sb (nextF 40 r).2 := next_any sb r 40 (by decide) (by decide) w h
end Go.Proofs.Ytpahoenanfjhpaa
namespace Go.Proofs.Ytpahoenanfjhpaa
open Go.RowKit
/-- A function that draws from the source sb and appends to a slice of its own: what it has in memory. -/
structure KpMem {α : Type} (f : α → List Value) (T : TypeId) (size : Nat) (w0 : World) (sb : Nat) (wr : World) (v : Value) (l : List α) (r : List Int) : Prop where
  mv : Mv (fun k => k = sb) w0 wr
  lt : sb < w0.heap.size
  src : SrcAt wr sb r
  own : wr.ownsRow w0.heap.size T size v l.length (l.flatMap f)
theorem KpMem.to {α : Type} {f : α → List Value} {T : TypeId} {size : Nat} {w0 : World} {sb : Nat} {wr wx : World} {v : Value} {l : List α} {r r' : List Int} (h : KpMem f T size w0 sb wr v l r) (hm : Mv (fun k => k = sb) wr wx) (hs : SrcAt wx sb r') : KpMem f T size w0 sb wx v l r' :=
  ⟨h.mv.trans hm, h.lt, hs, own_mv h.own hm fun k hk => by have := h.lt; omega⟩
theorem KpMem.al {α : Type} {f : α → List Value} {T : TypeId} {size : Nat} {w0 : World} {sb : Nat} {wr : World} {v : Value} {l : List α} {r : List Int} (h : KpMem f T size w0 sb wr v l r) (o : Obj) : KpMem f T size w0 sb (wr.alloc o) v l r :=
  h.to ((Mv.refl _ _).al o) (h.src.al o)
theorem KpMem.step {α : Type} {f : α → List Value} {T : TypeId} {size : Nat} {w0 : World} {sb : Nat} {wr w1 : World} {v v1 : Value} {l : List α} {c : α} {r : List Int} (h : KpMem f T size w0 sb wr v l r) (hg : wr.grownBy w1 v.ownBlock) (ho : w1.ownsRow w0.heap.size T size v1 (l.length + 1) (l.flatMap f ++ f c)) : KpMem f T size w0 sb w1 v1 (l ++ [c]) r := by
  have hrow : ∀ k, v.ownBlock = some k → w0.heap.size ≤ k := fun k hk => (h.own.lt k hk).1
  have lt := h.lt
  refine ⟨h.mv.gr hg hrow, h.lt, h.src.grw hg fun k hk => by have := hrow k hk; omega, ?_⟩
  rw [List.length_append, List.flatMap_append, List.flatMap_cons, List.flatMap_nil, List.append_nil]
  exact ho
theorem Mv.moved {sb : Nat} {w w' : World} (h : Mv (fun k => k = sb) w w') : Moved sb w w' := ⟨h.os, h.tape, h.output, h.size, h.block⟩
theorem ValsAt.keep {w w' : World} {B : Nat} {v : Value} {l : List Val} (h : ValsAt w B v l) (hk : ∀ k, k < B → v.ownBlock = some k → w'.heap[k]? = w.heap[k]?) : ValsAt w' B v l := by
  refine ⟨h.1, h.2.imp id ?_⟩
  rintro ⟨b, o, c, rfl, h2, h3, h4⟩
  have hb := hk b h3 rfl
  exact ⟨b, o, c, rfl, h2, h3, fun j hj => ⟨(World.cell?_of_block (w := w) hb).trans (h4 j hj).1, (World.cell?_of_block (w := w) hb).trans (h4 j hj).2.1, (World.cell?_of_block (w := w) hb).trans (h4 j hj).2.2⟩⟩
theorem ValsAt.up {w : World} {B B' : Nat} {v : Value} {l : List Val} (h : ValsAt w B v l) (hB : B ≤ B') : ValsAt w B' v l := h.mono (Below.refl _ _) hB
theorem ColsAt.mv {w w' : World} {sb : Nat} {v : Value} {cs : List Col} (h : ColsAt w sb v cs) (hm : Moved sb w w') (hl : sb ≤ w.heap.size) : ColsAt w' sb v cs :=
  h.mono ⟨hm.os, hm.tape, hm.output, hm.size, fun k hk => hm.block k (by omega) (by omega)⟩ (Nat.le_refl _)
end Go.Proofs.Ytpahoenanfjhpaa
namespace Go.Proofs.Ytpahoenanfjhpaa
open Go.RowKit
theorem value_eq {ty : Int} {nu : Bool} {r rr : List Int} {vn : Bool} {vi : Int} {vs : ByteArray} (hv : valF ty nu r = (⟨vn, vi, vs⟩, rr)) (sb : Nat) (n1 : ByteArray) (sc : Int) (w : World) (h : SrcAt w sb r) :
    Calls Try.prog 46 #[.pointer (some ⟨sb, 0, none⟩), .agg #[.string n1, .int .i64 ty, .int .i64 sc, .bool nu]] w fun e w' => e = .returned (.agg #[.bool vn, .int .i64 vi, .string vs]) ∧ Moved sb w w' ∧ SrcAt w' sb rr := by
  have := value_any sb r n1 ty sc nu w h
  rw [hv] at this
  exact this
end Go.Proofs.Ytpahoenanfjhpaa
namespace Go.Proofs.Ytpahoenanfjhpaa
open Go.RowKit
theorem infoVal : (Try.prog.info? 40).map (fun i => (i.zero, i.size, i.bytes)) = some (some (.agg #[.bool false, .int .i64 0, .string ⟨#[]⟩]), 3, 32) := by kernel_rfl
/-- The first values of a row fit their columns. -/
def RowPre (cs : List Col) (vs : List Val) : Prop := ∀ j (h : j < vs.length) (h' : j < cs.length), vchk (cs[j]'(h')).ty (cs[j]'(h')).nul (vs[j]'h).null (vs[j]'h).n (vs[j]'h).s = 0
theorem RowPre.snoc {cs : List Col} {vs : List Val} {k : Nat} (h : RowPre cs vs) (hk : vs.length = k) (hkl : k < cs.length) {v : Val} (hv : vchk (cs[k]'hkl).ty (cs[k]'hkl).nul v.null v.n v.s = 0) : RowPre cs (vs ++ [v]) := by
  intro j hj hj'
  rcases Nat.lt_or_ge j vs.length with q | q
  · rw [List.getElem_append_left q]; exact h j q hj'
  · obtain rfl : j = k := by simp at hj; omega
    subst hk
    simpa using hv
set_option maxRecDepth 8000 in
set_option maxHeartbeats 2000000 in
theorem row_any (sb : Nat) (r : List Int) (cv : Value) (cs : List Col) (key : Int) (w : World) (hs : SrcAt w sb r) (hc : ColsAt w sb cv cs) (hty : ∀ j (h : j < cs.length), 1 ≤ (cs[j]'h).ty ∧ (cs[j]'h).ty ≤ 5) (h12 : cs.length ≤ 12) :
    Calls Try.prog 27 #[.pointer (some ⟨sb, 0, none⟩), .agg #[cv, .int .i64 key]] w fun e w' => ∃ v vs r', e = .returned v ∧ Moved sb w w' ∧ SrcAt w' sb r' ∧ w'.ownsRow w.heap.size 40 3 v vs.length (vs.flatMap valC) ∧ vs.length = cs.length ∧ RowPre cs vs := by
  obtain ⟨i0, hi, hz0, hz1, hz2⟩ := info_parts infoVal
  obtain ⟨ca, cc, rfl⟩ := cols_end hc
  obtain ⟨n, hl⟩ : ∃ n, cs.length = n := ⟨_, rfl⟩
  have HL := Lib.hid hl
  have HC : Hid (ColsAt w sb (.slice ca n cc) cs) := Lib.hid (by rw [← hl]; exact hc)
  rw [hl] at h12 ⊢
  have HT := Lib.hid hty
  have hsl := hs.lt
  have HS := Lib.hid hs
  clear hl hc hty hs
  go_enter Try.func27, Try.ntmps27
  go_upto_region 2 with fail
  refine captureM ?_
  intro y ey
  have M0 : KpMem valC 40 3 y sb y (.slice none 0 0) [] r := by rw [ey]; exact ⟨Mv.refl _ _, by simp; omega, HS.out.al _, World.ownsRow_nil _ _ _ _⟩
  have yw : Below w.heap.size w y := by rw [ey]; exact (by repeat (first | with_reducible exact Below.refl _ _ | with_reducible assumption | with_reducible refine Below.al ?_ _ | with_reducible refine Below.on ?_ _ | with_reducible refine Below.st ?_ (by first | assumption | (simp; done) | (simp; omega)) _ | with_reducible refine Below.drew ?_))
  have y0 : y.cell? ⟨w.heap.size, 0, none⟩ = some (.slice ca n cc) := by rw [ey]; simp [go_sem]
  have y1 : y.cell? ⟨w.heap.size, 1, none⟩ = some (.int .i64 key) := by rw [ey]; simp [go_sem]
  have yl : w.heap.size < y.heap.size := by rw [ey]; simp
  have M0' := Lib.hid M0
  clear ey M0
  go_wp2_with fail
  go_loopg [5, 11] n (fun g v i wr => ∃ (k : Nat) (vs : List Val) (r' : List Int), k + g = n ∧ i = .int .i64 (k : Int) ∧ vs.length = k ∧ RowPre cs vs ∧ KpMem valC 40 3 y sb wr v vs r')
  case atStart => exact ⟨0, [], r, by omega, rfl, rfl, fun j hj => absurd hj (by simp), M0'.out⟩
  case round =>
    obtain ⟨k, vs, r', hk, rfl, hvl, hp, M⟩ := hrel
    clear M0'
    by_cases hg0 : gk = 0
    · subst hg0
      obtain rfl : k = n := by omega
      have MO := Lib.hid M
      clear M
      go_wp2
      refine bodyPost_ret (v := u5) ?_ rfl ⟨u5, vs, r', rfl, ?_, MO.out.src, ?_, hvl, hp⟩
      · simp (maxDischargeDepth := 9) [results, Try.results27, go_sem, *]
      · exact (Moved.of_below yw).trans MO.out.mv.moved
      · have := MO.out.own
        refine ⟨this.1, this.2.imp id ?_⟩
        rintro ⟨g, cap, cur, h1, h2, h3⟩
        exact ⟨g, cap, cur, h1, by omega, h3⟩
    · have hkn : k < n := by omega
      have hkn' : (k : Int) < (n : Int) := by omega
      have hkl : k < cs.length := by rw [HL.out]; exact hkn
      obtain ⟨cb, co, rfl, hcap, hcb, c0, c1, c2, c3⟩ := cols_in HC.out hkl
      have TK := HT.out k hkl
      obtain ⟨d, hd⟩ : ∃ d, cs[k]'hkl = d := ⟨_, rfl⟩
      have HP := Lib.hid (And.intro hp (And.intro hvl hd))
      rw [hd] at c0 c1 c2 c3 TK
      obtain ⟨cn, ty, sc, nul⟩ := d
      dsimp only at c0 c1 c2 c3 TK
      have bw : cb < w.heap.size := by omega
      have by' : cb < y.heap.size := by omega
      have bn : ¬ cb = sb := by omega
      have f0 := ((M.mv.cell (co + k * 4) by' bn).trans (yw.cell (p := ⟨cb, co + k * 4, none⟩) bw)).trans c0
      have f1 := ((M.mv.cell (co + k * 4 + 1) by' bn).trans (yw.cell (p := ⟨cb, co + k * 4 + 1, none⟩) bw)).trans c1
      have f2 := ((M.mv.cell (co + k * 4 + 2) by' bn).trans (yw.cell (p := ⟨cb, co + k * 4 + 2, none⟩) bw)).trans c2
      have f3 := ((M.mv.cell (co + k * 4 + 3) by' bn).trans (yw.cell (p := ⟨cb, co + k * 4 + 3, none⟩) bw)).trans c3
      have fz : cb < wr.heap.size := Nat.lt_of_lt_of_le by' M.mv.size
      clear c0 c1 c2 c3 hd hp
      obtain ⟨⟨⟨vn, vi, vS⟩, rr⟩, hv0⟩ : ∃ p, valF ty nul r' = p := ⟨_, rfl⟩
      have VOK := valF_ok (ty := ty) nul r' TK.1 TK.2
      rw [hv0] at VOK
      have hv := Lib.hid hv0
      have HV := Lib.hid VOK
      have ML := Lib.hid M
      have k12 : k + 1 ≤ 12 := by omega
      have HG := Lib.hid (And.intro hk hg0)
      have Hvl := Lib.hid hvl
      have ysz := M.mv.size
      clear hv0 VOK M hk hg0 hvl
      go_wp2_with (first | (go_at_call 46; refine Calls.mono (value_eq hv.out sb cn sc _ (ML.out.src.al _)) ?_; rintro e w3 ⟨rfl, hm3, hs3⟩; have MK := (ML.out.al _).to (Mv.of_moved hm3 rfl) hs3; have MKH := Lib.hid MK; have zz := MK.mv.size; clear MK hm3 hs3) | (at_builtin; go_must (refine wpList_append_lies _ rfl _ _ 41 rfl y.heap.size 40 i0 _ 3 32 Try.underlying41 hi hz0 hz1 hz2 rfl (by decide) u5 vs.length (vs.flatMap valC) rfl (MKH.out.own.alloc _) ⟨w3.heap.size, 0, none⟩ 1 1 (valC ⟨vn, vi, vS⟩) rfl rfl (World.news_of_block (heap_alloc_new w3 _)) (by simp [valC, Value.oneCell']) (by omega) (by rw [Hvl.out]; unfold maxLen; omega) (by rw [Hvl.out]; omega) (by simp; omega) (w3.heap.size + 1) (by simp) ?_); intro gb cap w4 hown hgrow hat hlt; have MS := Lib.hid ((MKH.out.al _).step hgrow hown); clear hown hgrow hat hlt))
      go_roundg (gk - 1)
      case measure => have := HG.out; omega
      case rel =>
        exact ⟨k + 1, vs ++ [⟨vn, vi, vS⟩], rr, by have := HG.out; omega, by go_num, by rw [List.length_append, Hvl.out]; rfl, HP.out.1.snoc Hvl.out hkl (by rw [HP.out.2.2]; exact HV.out), MS.out⟩
end Go.Proofs.Ytpahoenanfjhpaa
namespace Go.Proofs.Ytpahoenanfjhpaa
open Go.RowKit
/-- In world w the value v is a slice of the rows. -/
def RowsAt (w : World) (B : Nat) (v : Value) (rows : List (List Val)) : Prop :=
  rows.length ≤ 9223372036854775807 ∧
    ((rows = [] ∧ ∃ a c, v = .slice a 0 c) ∨ ∃ b o c, v = .slice (some ⟨b, o, none⟩) rows.length c ∧ rows.length ≤ c ∧ b < B ∧ ∀ j (h : j < rows.length), ∃ lv, w.cell? ⟨b, o + j, none⟩ = some lv ∧ ValsAt w B lv (rows[j]'h))
theorem rows_end {w : World} {B : Nat} {v : Value} {cs : List (List Val)} (h : RowsAt w B v cs) : ∃ a c, v = .slice a cs.length c := by
  rcases h.2 with ⟨e, a, c, rfl⟩ | ⟨b, o, c, rfl, _⟩
  · exact ⟨a, c, by rw [e]; rfl⟩
  · exact ⟨_, c, rfl⟩
theorem rows_in {w : World} {B : Nat} {a : Option Addr} {n c : Nat} {cs : List (List Val)} (h : RowsAt w B (.slice a n c) cs) {i : Nat} (hi : i < cs.length) : ∃ b o, a = some ⟨b, o, none⟩ ∧ cs.length ≤ c ∧ b < B ∧ ∃ lv, w.cell? ⟨b, o + i, none⟩ = some lv ∧ ValsAt w B lv (cs[i]'hi) := by
  rcases h.2 with ⟨e, _⟩ | ⟨b, o, c, hv, hcap, hb, hc⟩
  · subst e; exact absurd hi (by simp)
  · injection hv with h1 h2 h3
    subst h3
    exact ⟨b, o, h1, hcap, hb, hc i hi⟩
theorem RowsAt.mono {w w' : World} {B B' : Nat} {v : Value} {cs : List (List Val)} (h : RowsAt w B v cs) (hb : Below B w w') (hB : B ≤ B') : RowsAt w' B' v cs := by
  refine ⟨h.1, h.2.imp id ?_⟩
  rintro ⟨b, o, c, hv, hcap, hlt, hc⟩
  refine ⟨b, o, c, hv, hcap, Nat.lt_of_lt_of_le hlt hB, fun j hj => ?_⟩
  obtain ⟨lv, h1, h2⟩ := hc j hj
  exact ⟨lv, (hb.cell (p := ⟨b, o + j, none⟩) hlt).trans h1, h2.mono hb hB⟩
def one1 (v : Value) : List Value := [v]
/-- The rows that a list of values stands for; none lies in the block of the outer slice. -/
def Inn (B0 : Nat) (w : World) (v : Value) (lvs : List Value) (rows : List (List Val)) : Prop :=
  lvs.length = rows.length ∧ ∀ j (h : j < lvs.length) (h' : j < rows.length), ValsAt w w.heap.size (lvs[j]'h) (rows[j]'(h')) ∧ (∀ k, (lvs[j]'h).ownBlock = some k → B0 ≤ k ∧ k < w.heap.size ∧ v.ownBlock ≠ some k)
theorem Inn.mv {B0 sb : Nat} {w w' : World} {v : Value} {lvs : List Value} {rows : List (List Val)} (h : Inn B0 w v lvs rows) (hm : Mv (fun k => k = sb) w w') (hs : sb < B0) : Inn B0 w' v lvs rows := by
  refine ⟨h.1, fun j hj hj' => ?_⟩
  obtain ⟨h1, h2⟩ := h.2 j hj hj'
  exact ⟨(h1.keep fun k hk hq => hm.block k hk (by have := (h2 k hq).1; omega)).up hm.size, fun k hk => ⟨(h2 k hk).1, Nat.lt_of_lt_of_le (h2 k hk).2.1 hm.size, (h2 k hk).2.2⟩⟩
theorem Inn.step {B0 : Nat} {w w1 : World} {v v1 lv : Value} {lvs : List Value} {rows : List (List Val)} {rw' : List Val} (h : Inn B0 w v lvs rows) (hv : ValsAt w w.heap.size lv rw') (hl : ∀ k, lv.ownBlock = some k → B0 ≤ k ∧ k < w.heap.size ∧ v.ownBlock ≠ some k)
    (hg : w.grownBy w1 v.ownBlock) (ha : v.ownBlock = v1.ownBlock ∨ v1.ownBlock = some w.heap.size) : Inn B0 w1 v1 (lvs ++ [lv]) (rows ++ [rw']) := by
  have key : ∀ (lv : Value) (rw' : List Val), ValsAt w w.heap.size lv rw' → (∀ k, lv.ownBlock = some k → B0 ≤ k ∧ k < w.heap.size ∧ v.ownBlock ≠ some k) → ValsAt w1 w1.heap.size lv rw' ∧ (∀ k, lv.ownBlock = some k → B0 ≤ k ∧ k < w1.heap.size ∧ v1.ownBlock ≠ some k) := by
    intro lv rw' hv hl
    refine ⟨(hv.keep fun k hk hq => hg.block k hk (fun e => (hl k hq).2.2 e.symm)).up hg.size, fun k hk => ⟨(hl k hk).1, Nat.lt_of_lt_of_le (hl k hk).2.1 hg.size, ?_⟩⟩
    rcases ha with q | q
    · rw [← q]; exact (hl k hk).2.2
    · rw [q]; intro e; injection e with e; have := (hl k hk).2.1; omega
  refine ⟨by simp [h.1], fun j hj hj' => ?_⟩
  rcases Nat.lt_or_ge j lvs.length with q | q
  · have q' : j < rows.length := by rw [← h.1]; exact q
    rw [List.getElem_append_left q, List.getElem_append_left q']
    exact key _ _ (h.2 j q q').1 (h.2 j q q').2
  · obtain rfl : j = lvs.length := by simp at hj; omega
    have e1 : (lvs ++ [lv])[lvs.length]'hj = lv := by simp
    have e2 : (rows ++ [rw'])[lvs.length]'hj' = rw' := by simp [h.1]
    rw [e1, e2]
    exact key _ _ hv hl
theorem inn_rows {B0 : Nat} {w : World} {base : Nat} {T : TypeId} {v : Value} {lvs : List Value} {rows : List (List Val)} (hl : rows.length ≤ 9223372036854775807) (hi : Inn B0 w v lvs rows) (h : w.ownsRow base T 1 v lvs.length (lvs.flatMap one1)) : RowsAt w w.heap.size v rows := by
  rcases own_at (f := one1) (k := 1) (fun _ => rfl) h with ⟨rfl, rfl⟩ | ⟨g, c, rfl, hc, _, hg, H⟩
  · have : rows = [] := List.eq_nil_of_length_eq_zero hi.1.symm
    subst this
    exact ⟨hl, .inl ⟨rfl, none, 0, rfl⟩⟩
  · refine ⟨hl, .inr ⟨g, 0, c, by rw [hi.1], by rw [← hi.1]; exact hc, hg, fun j hj => ?_⟩⟩
    have hj' : j < lvs.length := by rw [hi.1]; exact hj
    refine ⟨lvs[j]'hj', ?_, (hi.2 j hj' hj).1⟩
    have := H j hj' 0 _ (by omega) rfl
    simpa using this
theorem infoRow : (Try.prog.info? 41).map (fun i => (i.zero, i.size, i.bytes)) = some (some (.slice none 0 0), 1, 24) := by kernel_rfl
set_option maxRecDepth 8000 in
set_option maxHeartbeats 2000000 in
theorem rows_any (cv : Value) (cs : List Col) (key : Int) (lv : Value) (zs : List Int) (n : Int) (w : World) (hc : ColsAt w w.heap.size cv cs) (h : IntsAt w w.heap.size lv zs) (h0 : 0 ≤ n) (h1 : n ≤ 100) (hty : ∀ j (h : j < cs.length), 1 ≤ (cs[j]'h).ty ∧ (cs[j]'h).ty ≤ 5) (h12 : cs.length ≤ 12) :
    Calls Try.prog 14 #[.agg #[cv, .int .i64 key], lv, .int .i64 n] w fun e w' => ∃ v rows, e = .returned v ∧ RowsAt w' w'.heap.size v rows ∧ (rows.length : Int) ≤ n ∧ (∀ rw' ∈ rows, rw'.length = cs.length ∧ RowPre cs rw') ∧ Below w.heap.size w w' := by
  obtain ⟨i0, hi, hz0, hz1, hz2⟩ := info_parts infoRow
  obtain ⟨ca, cc, rfl⟩ := cols_end hc
  obtain ⟨m, hl⟩ : ∃ m, cs.length = m := ⟨_, rfl⟩
  have HL := Lib.hid hl
  have HC : Hid (ColsAt w w.heap.size (.slice ca m cc) cs) := Lib.hid (by rw [← hl]; exact hc)
  have HT := Lib.hid (And.intro hty h12)
  rw [hl]
  have h2 : IntsAt (w.alloc (.cells #[.slice ca m cc, .int .i64 key] 28)) (w.alloc (.cells #[.slice ca m cc, .int .i64 key] 28)).heap.size lv zs := (h.to (fun k hk => Below.heap_alloc _ _ _ hk)).mono (by simp)
  clear hl hc hty h12 h
  go_enter Try.func14, Try.ntmps14
  go_upto_region 3 with (go_at_call 23; refine (from_any lv zs _ h2).mono ?_; rintro e w1 ⟨rfl, hb1, hs1⟩; obtain ⟨x1, rfl⟩ := Ext.of hb1; have z0 : w.heap.size < x1.it.heap.size := x1.lt (by simp))
  simp only [World.size_alloc] at hs1
  have y0 : x1.it.cell? ⟨w.heap.size, 0, none⟩ = some (.slice ca m cc) := (x1.cell w.heap.size 0 (by simp)).trans (by simp [go_sem])
  have y1 : x1.it.cell? ⟨w.heap.size, 1, none⟩ = some (.int .i64 key) := (x1.cell w.heap.size 1 (by simp)).trans (by simp [go_sem])
  have yw : Below w.heap.size w x1.it := (by repeat (first | with_reducible exact Below.refl _ _ | with_reducible assumption | with_reducible refine Below.al ?_ _ | with_reducible refine Below.on ?_ _ | with_reducible refine Below.st ?_ (by first | assumption | (simp; done) | (simp; omega)) _ | with_reducible refine Below.drew ?_))
  have HS := Lib.hid hs1
  have ysb := hs1.lt
  clear hb1 hs1 h2
  generalize x1.it = y at *
  clear x1
  go_wp2_with (go_at_call 24; refine Calls.mono (next_any _ zs (n + 1) (by omega) (by omega) _ HS.out) ?_; rintro e w3 ⟨rfl, hm3, hs3⟩; have MK : Hid (KpMem one1 41 1 y (w.heap.size + 1) w3 (.slice none 0 0) [] (nextF (n + 1) zs).2) := Lib.hid ⟨Mv.of_moved hm3 rfl, ysb, hs3, World.ownsRow_nil _ _ _ _⟩; clear hm3 hs3)
  have nb := nextF_bd zs (n := n + 1) (by omega)
  obtain ⟨N0, hN0⟩ : ∃ N0 : Nat, (nextF (n + 1) zs).1 = N0 := ⟨(nextF (n + 1) zs).1.toNat, by omega⟩
  have hN1 : (N0 : Int) ≤ n := by omega
  generalize (nextF (n + 1) zs).2 = r0 at *
  rw [hN0]
  clear hN0 nb HS
  go_loopg [8, 9] N0 (fun g v i wr => ∃ (lvs : List Value) (rows : List (List Val)) (r' : List Int), rows.length + g = N0 ∧ i = .int .i64 (g : Int) ∧ KpMem one1 41 1 y (w.heap.size + 1) wr v lvs r' ∧ Inn y.heap.size wr v lvs rows ∧ ∀ rw' ∈ rows, rw'.length = m ∧ RowPre cs rw')
  case atStart => exact ⟨[], [], r0, by simp, rfl, MK.out, ⟨rfl, fun j hj => absurd hj (by simp)⟩, fun a ha => absurd ha (by simp)⟩
  case round =>
    obtain ⟨lvs, rows, r', hk, rfl, M, I, hp⟩ := hrel
    clear MK
    have MO := Lib.hid (And.intro M (And.intro I hp))
    clear M I hp
    by_cases hg0 : gk = 0
    · subst hg0
      have HK := Lib.hid hk
      clear hk
      go_wp2
      refine bodyPost_ret (v := u8) ?_ rfl ⟨u8, rows, rfl, inn_rows (by have := HK.out; omega) MO.out.2.1 MO.out.1.own, by have := HK.out; omega, MO.out.2.2, ?_⟩
      · simp (maxDischargeDepth := 9) [results, Try.results14, go_sem, *]
      · exact Mv.below MO.out.1.mv yw (fun k hk => by omega)
    · have hlt : (0 : Int) < (gk : Int) := by omega
      have hlt1 : (1 : Int) ≤ (gk : Int) := by omega
      have hlt2 : (gk : Int) ≤ 100 := by omega
      have HK := Lib.hid (And.intro hk hg0)
      have f0 := (MO.out.1.mv.cell 0 (b := w.heap.size) (by omega) (by omega)).trans y0
      have f1 := (MO.out.1.mv.cell 1 (b := w.heap.size) (by omega) (by omega)).trans y1
      have fz : w.heap.size < wr.heap.size := by have := MO.out.1.mv.size; omega
      have HCr : Hid (ColsAt wr (w.heap.size + 1) (.slice ca m cc) cs) := Lib.hid ((HC.out.mono (B' := w.heap.size + 1) yw (by omega)).mv MO.out.1.mv.moved (by omega))
      have hyz : y.heap.size ≤ wr.heap.size := MO.out.1.mv.size
      have HV := Lib.hid (fun k (hk : u8.ownBlock = some k) => (MO.out.1.own.lt k hk).2)
      have RL : lvs.length ≤ 100 := by have := MO.out.2.1.1; omega
      have RG := Lib.hid RL
      clear hk hg0 RL
      go_wp2_with (first | (go_at_call 27; refine Calls.mono (row_any _ r' _ cs key _ MO.out.1.src HCr.out HT.out.1 HT.out.2) ?_; rintro e w3 ⟨v3, vs3, r3, rfl, hm3, hs3, ho3, hl3, hp3⟩; obtain ⟨a3, q3, rfl⟩ := own_form ho3; have MK := (MO.out.1.to (Mv.of_moved hm3 rfl) hs3); have IK := (MO.out.2.1.mv (Mv.of_moved (S := fun k => k = w.heap.size + 1) hm3 rfl) (by omega)); have VK := Lib.hid (And.intro (own_vals (by rw [hl3]; have := HT.out.2; omega) ho3) (And.intro (fun k (hk : Value.ownBlock (.slice a3 vs3.length q3) = some k) => (⟨by have := (ho3.lt k hk).1; omega, (ho3.lt k hk).2, fun e => by have := HV.out k e; have := (ho3.lt k hk).1; omega⟩ : y.heap.size ≤ k ∧ k < w3.heap.size ∧ u8.ownBlock ≠ some k)) (And.intro hl3 hp3))); have MKH := Lib.hid (And.intro MK IK); have zz := MK.mv.size; clear MK IK hm3 hs3 ho3 hl3 hp3) | (at_builtin; go_must (refine wpList_append_lies _ rfl _ _ 22 rfl y.heap.size 41 i0 _ 1 24 Try.underlying22 hi hz0 hz1 hz2 rfl (by decide) u8 lvs.length (lvs.flatMap one1) rfl (MKH.out.1.own.alloc _) ⟨w3.heap.size, 0, none⟩ 1 1 [.slice a3 vs3.length q3] rfl rfl (World.news_of_block (heap_alloc_new w3 _)) (by simp [Value.oneCell']) (by omega) (by have := RG.out; unfold maxLen; omega) (by have := RG.out; omega) (by simp; omega) (w3.heap.size + 1) (by simp) ?_); intro gb cap w4 hown hgrow hat hlt4; go_must (have MS := Lib.hid (And.intro ((MKH.out.1.al _).step (c := .slice a3 vs3.length q3) hgrow hown) (Inn.step (v1 := .slice (some ⟨gb, 0, none⟩) (lvs.length + 1) cap) (MKH.out.2.mv (Mv.al (Mv.refl _ _) _) (by omega)) ((VK.out.1.mono ((Below.refl _ _).alloc (Nat.le_refl _) _) (by simp))) (fun k hk => ⟨(VK.out.2.1 k hk).1, by have := (VK.out.2.1 k hk).2.1; simp; omega, (VK.out.2.1 k hk).2.2⟩) hgrow (hat.imp (fun q => q.trans rfl) (fun q => by rw [q]; simp [Value.ownBlock]))))); clear hown hgrow hat hlt4))
      go_roundg (gk - 1)
      case measure => have := HK.out; omega
      case rel =>
        exact ⟨lvs ++ [.slice a3 vs3.length q3], rows ++ [vs3], r3, by have := HK.out; simp; omega, by go_num, MS.out.1, MS.out.2, fun a ha => by
          rcases List.mem_append.1 ha with q | q
          · exact MO.out.2.2 a q
          · rw [List.mem_singleton.1 q]; exact ⟨by rw [VK.out.2.2.1]; exact HL.out, VK.out.2.2.2⟩⟩
end Go.Proofs.Ytpahoenanfjhpaa
