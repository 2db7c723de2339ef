/-
  OPENERS for a Value and for Bounds handed in by value. Conditions: none.
-/
import Derived.Test.YtjojnakgadfgmaaInt4
import Derived.ChangeSlices
set_option linter.unusedVariables false
set_option linter.unusedSimpArgs false
namespace Go.Proofs.Ytjojnakgadfgmaa
open Go.RowKit Go.ChangeShapes Go.WideShapes Go.ChangeAt
theorem cBool : Try.prog.cellsOf 4 = 1 := by kernel_rfl
theorem cInt : Try.prog.cellsOf 2 = 1 := by kernel_rfl
theorem cStr : Try.prog.cellsOf 9 = 1 := by kernel_rfl
theorem cVal : Try.prog.cellsOf 23 = 3 := by kernel_rfl
theorem cBnd : Try.prog.cellsOf 25 = 10 := by kernel_rfl
theorem some_of {α : Type} {xs : List α} {n i : Nat} (h : xs.length = n) (hi : i < n) : ∃ y, xs[i]? = some y := ⟨xs[i], List.getElem?_eq_getElem (by omega)⟩
set_option maxRecDepth 100000 in
theorem val_of {H : Type} {enc : TypeId × Value → H} {w : World} {base fuel : Nat} {spare : Nat → Bool} {held : Bool} {cs : List Value} {x : DataW H × List MemPlace}
    (h : DataW.trod enc Try.prog w base spare held fuel 23 cs = some x) : ∃ (b : Bool) (i : Int) (s : ByteArray), cs = [.bool b, .int .i64 i, .string s] := by
  obtain ⟨xs, n, _, _, hl, hlen, hf⟩ := DataW.trod_struct Try.underlying23 h
  rw [cVal] at hl
  obtain ⟨x0, e0⟩ := some_of (i := 0) hlen (by decide)
  obtain ⟨x1, e1⟩ := some_of (i := 1) hlen (by decide)
  obtain ⟨x2, e2⟩ := some_of (i := 2) hlen (by decide)
  match cs, hl with
  | [c0, c1, c2], _ =>
    obtain ⟨b, hb, _⟩ := DataW.trod_bool Try.underlying4 ((hf 0 _ rfl).trans e0)
    obtain ⟨i, hi, _⟩ := DataW.trod_int Try.underlying2 ((hf 1 _ rfl).trans e1)
    obtain ⟨s, hs, _⟩ := DataW.trod_string Try.underlying9 ((hf 2 _ rfl).trans e2)
    simp [cBool, cInt, cStr] at hb hi hs
    exact ⟨b, i, s, by rw [hb, hi, hs]⟩
set_option maxRecDepth 100000 in
theorem open_val {H : Type} {enc : TypeId × Value → H} {w : World} {r : Reach} {b0 base : Nat} {spare : Nat → Bool} {held : Bool} {v : Value} {d : DataW H} {p : List MemPlace}
    (hv : Value.okWide Try.prog w r b0 23 v) (h : DataW.Trod enc Try.prog w base spare held 23 v d p) : ∃ (b : Bool) (i : Int) (s : ByteArray), v = .agg #[.bool b, .int .i64 i, .string s] := by
  obtain ⟨cs, rfl, hsz⟩ := okWide_struct Try.underlying23 hv
  obtain ⟨fuel, hf⟩ := h
  obtain ⟨b, i, s, e⟩ := val_of hf
  refine ⟨b, i, s, ?_⟩
  simp only [Value.cells] at e
  congr 1
  exact Array.toList_inj.1 (by simpa using e)
set_option maxRecDepth 100000 in
theorem open_bnd {H : Type} {enc : TypeId × Value → H} {w : World} {r : Reach} {b0 base : Nat} {spare : Nat → Bool} {held : Bool} {v : Value} {d : DataW H} {p : List MemPlace}
    (hv : Value.okWide Try.prog w r b0 25 v) (h : DataW.Trod enc Try.prog w base spare held 25 v d p) :
    ∃ (an as' al ah ln : Bool) (l : Int) (ls : ByteArray) (hn : Bool) (h : Int) (hs : ByteArray), v = .agg #[.bool an, .bool as', .bool al, .bool ah, .bool ln, .int .i64 l, .string ls, .bool hn, .int .i64 h, .string hs] := by
  obtain ⟨cs, rfl, hsz⟩ := okWide_struct Try.underlying25 hv
  obtain ⟨fuel, hfu⟩ := h
  obtain ⟨xs, n, _, _, hl, hlen, hf⟩ := DataW.trod_struct Try.underlying25 hfu
  rw [cBnd] at hl
  simp only [Value.cells] at hl hf
  obtain ⟨x0, e0⟩ := some_of (i := 0) hlen (by decide)
  obtain ⟨x1, e1⟩ := some_of (i := 1) hlen (by decide)
  obtain ⟨x2, e2⟩ := some_of (i := 2) hlen (by decide)
  obtain ⟨x3, e3⟩ := some_of (i := 3) hlen (by decide)
  obtain ⟨x4, e4⟩ := some_of (i := 4) hlen (by decide)
  obtain ⟨x5, e5⟩ := some_of (i := 5) hlen (by decide)
  obtain ⟨cl⟩ := cs
  match cl, hl with
  | [c0, c1, c2, c3, c4, c5, c6, c7, c8, c9], _ =>
    obtain ⟨a0, h0, _⟩ := DataW.trod_bool Try.underlying4 ((hf 0 _ rfl).trans e0)
    obtain ⟨a1, h1, _⟩ := DataW.trod_bool Try.underlying4 ((hf 1 _ rfl).trans e1)
    obtain ⟨a2, h2, _⟩ := DataW.trod_bool Try.underlying4 ((hf 2 _ rfl).trans e2)
    obtain ⟨a3, h3, _⟩ := DataW.trod_bool Try.underlying4 ((hf 3 _ rfl).trans e3)
    obtain ⟨a4, a5, a6, h4⟩ := val_of ((hf 4 _ rfl).trans e4)
    obtain ⟨a7, a8, a9, h5⟩ := val_of ((hf 5 _ rfl).trans e5)
    simp [cBool, cVal] at h0 h1 h2 h3 h4 h5
    obtain ⟨k4, k5, k6⟩ := h4
    obtain ⟨k7, k8, k9⟩ := h5
    exact ⟨a0, a1, a2, a3, a4, a5, a6, a7, a8, a9, by rw [h0, h1, h2, h3, k4, k5, k6, k7, k8, k9]⟩
end Go.Proofs.Ytjojnakgadfgmaa
