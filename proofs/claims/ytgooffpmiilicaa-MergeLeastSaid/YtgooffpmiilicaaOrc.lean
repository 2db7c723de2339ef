/-
  OPENERS for raw records, lists of records, ranks. Conditions: none.
-/
import Derived.Test.YtgooffpmiilicaaVop
import Derived.Test.YtgooffpmiilicaaRcs
set_option linter.unusedVariables false
set_option linter.unusedSimpArgs false
namespace Go.Proofs.Ytgooffpmiilicaa
open Go.RowKit Go.ChangeShapes Go.WideShapes Go.ChangeAt
theorem cRec : Try.prog.cellsOf 35 = 2 := by kernel_rfl
theorem cRcs : Try.prog.cellsOf 22 = 1 := by kernel_rfl
section
variable {H : Type} {enc : TypeId × Value → H} {w : World} {spare : Nat → Bool} {held : Bool}
set_option maxRecDepth 100000 in
theorem rec_of {fuel : Nat} {cs : List Value} {x : DataW H × List MemPlace}
    (h : DataW.trod enc Try.prog w 0 spare held fuel 35 cs = some x) : ∃ u : Rc, ∃ lv, cs = [.int .i64 u.seq, lv] ∧ ValsAt w w.heap.size lv u.row := by
  obtain ⟨xs, n, _, _, hl, hlen, hf⟩ := DataW.trod_struct Try.underlying35 h
  rw [cRec] at hl
  obtain ⟨x0, e0⟩ := some_of (i := 0) hlen (by decide)
  obtain ⟨x1, e1⟩ := some_of (i := 1) hlen (by decide)
  match cs, hl with
  | [c0, c1], _ =>
    obtain ⟨i, h0, _⟩ := DataW.trod_int Try.underlying2 ((hf 0 _ rfl).trans e0)
    obtain ⟨lv, us, h1, hvs⟩ := vals_of ((hf 1 _ rfl).trans e1)
    simp [cInt64, cVls] at h0 h1
    exact ⟨⟨i, us⟩, lv, by rw [h0, h1], hvs⟩
set_option maxRecDepth 100000 in
theorem rcs_of {fuel : Nat} {cs : List Value} {x : DataW H × List MemPlace}
    (h : DataW.trod enc Try.prog w 0 spare held fuel 22 cs = some x) : ∃ lv us, cs = [lv] ∧ RecsAt w w.heap.size lv us := by
  obtain ⟨us, v, rfl, hl, hv⟩ := rowG (α := Rc) Try.underlying22 (by rw [cRec]; decide) (fun cs u => ∃ lv, cs = [.int .i64 u.seq, lv] ∧ ValsAt w w.heap.size lv u.row) (fun _ _ _ h => rec_of h) h
  refine ⟨v, us, rfl, hl, hv.imp id ?_⟩
  rintro ⟨b, o, c, h1, h2, h3, h4⟩
  refine ⟨b, o, c, h1, h2, h3, fun j hj => ?_⟩
  obtain ⟨cj, ⟨lv, rfl, hlv⟩, _, h5⟩ := h4 j hj
  rw [cRec] at h5
  exact ⟨h5 0 (by decide), lv, h5 1 (by decide), hlv⟩
set_option maxRecDepth 100000 in
theorem open_recs {r : Reach} {b0 : Nat} {v : Value} {d : DataW H} {p : List MemPlace} (hv : Value.okWide Try.prog w r b0 22 v) (h : DataW.Trod enc Try.prog w 0 spare held 22 v d p) : ∃ us, RecsAt w w.heap.size v us :=
  open_one (Q := fun v => ∃ us, RecsAt w w.heap.size v us) Try.underlying22 hv h fun _ _ _ h => by obtain ⟨lv, us, h1, h2⟩ := rcs_of h; exact ⟨lv, h1, us, h2⟩
set_option maxRecDepth 100000 in
theorem open_rec {r : Reach} {b0 : Nat} {v : Value} {d : DataW H} {p : List MemPlace} (hv : Value.okWide Try.prog w r b0 35 v) (h : DataW.Trod enc Try.prog w 0 spare held 35 v d p) :
    ∃ (sq : Int) (lv : Value) (row : List Val), v = .agg #[.int .i64 sq, lv] ∧ ValsAt w w.heap.size lv row := by
  obtain ⟨cs, rfl, hsz⟩ := okWide_struct Try.underlying35 hv
  obtain ⟨fuel, hfu⟩ := h
  obtain ⟨u, lv, e, hvs⟩ := rec_of hfu
  refine ⟨u.seq, lv, u.row, ?_, hvs⟩
  simp only [Value.cells] at e
  congr 1
  exact Array.toList_inj.1 (by simpa using e)
theorem cRk : Try.prog.cellsOf 50 = 4 := by kernel_rfl
set_option maxRecDepth 100000 in
theorem open_rank {r : Reach} {b0 base : Nat} {v : Value} {d : DataW H} {p : List MemPlace} (hv : Value.okWide Try.prog w r b0 50 v) (h : DataW.Trod enc Try.prog w base spare held 50 v d p) :
    ∃ (b : Bool) (i : Int) (s : ByteArray) (q : Int), v = .agg #[.bool b, .int .i64 i, .string s, .int .i64 q] := by
  obtain ⟨cs, rfl, hsz⟩ := okWide_struct Try.underlying50 hv
  obtain ⟨fuel, hfu⟩ := h
  obtain ⟨xs, n, _, _, hl, hlen, hf⟩ := DataW.trod_struct Try.underlying50 hfu
  rw [cRk] at hl
  obtain ⟨x0, e0⟩ := some_of (i := 0) hlen (by decide)
  obtain ⟨x1, e1⟩ := some_of (i := 1) hlen (by decide)
  obtain ⟨cl⟩ := cs
  simp only [Value.cells] at hl hf
  match cl, hl with
  | [c0, c1, c2, c3], _ =>
    obtain ⟨u, h0⟩ := val_of ((hf 0 _ rfl).trans e0)
    obtain ⟨q, h1, _⟩ := DataW.trod_int Try.underlying2 ((hf 1 _ rfl).trans e1)
    simp [cVal, cInt64] at h0 h1
    obtain ⟨k0, k1, k2⟩ := h0
    exact ⟨u.null, u.n, u.s, q, by rw [k0, k1, k2, h1]⟩
end
end Go.Proofs.Ytgooffpmiilicaa
