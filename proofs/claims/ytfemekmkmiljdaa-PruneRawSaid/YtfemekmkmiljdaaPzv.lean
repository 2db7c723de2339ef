/-
  OPENER for raw zones. Conditions: none.
-/
import Derived.Test.YtfemekmkmiljdaaVop
import Derived.Test.YtfemekmkmiljdaaPop
set_option linter.unusedVariables false
set_option linter.unusedSimpArgs false
namespace Go.Proofs.Ytfemekmkmiljdaa
open Go.RowKit Go.ChangeShapes Go.WideShapes Go.ChangeAt
theorem cZon : Try.prog.cellsOf 46 = 8 := by kernel_rfl
section
variable {H : Type} {enc : TypeId × Value → H} {w : World} {spare : Nat → Bool} {held : Bool}
set_option maxRecDepth 100000 in
theorem zon_of {base fuel : Nat} {cs : List Value} {x : DataW H × List MemPlace}
    (h : DataW.trod enc Try.prog w base spare held fuel 46 cs = some x) : ∃ u : Zon, cs = [.int .i64 u.rows, .int .i64 u.nulls, .bool u.min.null, .int .i64 u.min.n, .string u.min.s, .bool u.max.null, .int .i64 u.max.n, .string u.max.s] := by
  obtain ⟨xs, n, _, _, hl, hlen, hf⟩ := DataW.trod_struct Try.underlying46 h
  rw [cZon] at hl
  obtain ⟨x0, e0⟩ := some_of (i := 0) hlen (by decide)
  obtain ⟨x1, e1⟩ := some_of (i := 1) hlen (by decide)
  obtain ⟨x2, e2⟩ := some_of (i := 2) hlen (by decide)
  obtain ⟨x3, e3⟩ := some_of (i := 3) hlen (by decide)
  match cs, hl with
  | [c0, c1, c2, c3, c4, c5, c6, c7], _ =>
    obtain ⟨a0, h0, _⟩ := DataW.trod_int Try.underlying3 ((hf 0 _ rfl).trans e0)
    obtain ⟨a1, h1, _⟩ := DataW.trod_int Try.underlying3 ((hf 1 _ rfl).trans e1)
    obtain ⟨a2, h2⟩ := val_of ((hf 2 _ rfl).trans e2)
    obtain ⟨a3, h3⟩ := val_of ((hf 3 _ rfl).trans e3)
    simp [cells3, cVal] at h0 h1 h2 h3
    obtain ⟨k2, k3, k4⟩ := h2
    obtain ⟨k5, k6, k7⟩ := h3
    exact ⟨⟨a0, a1, a2, a3⟩, by rw [h0, h1, k2, k3, k4, k5, k6, k7]⟩
set_option maxRecDepth 100000 in
theorem zns_of {fuel : Nat} {cs : List Value} {x : DataW H × List MemPlace}
    (h : DataW.trod enc Try.prog w 0 spare held fuel 31 cs = some x) : ∃ lv us, cs = [lv] ∧ ZonsAt w w.heap.size lv us := by
  obtain ⟨us, v, rfl, hl, hv⟩ := rowG (α := Zon) Try.underlying31 (by rw [cZon]; decide) (fun cs u => cs = [.int .i64 u.rows, .int .i64 u.nulls, .bool u.min.null, .int .i64 u.min.n, .string u.min.s, .bool u.max.null, .int .i64 u.max.n, .string u.max.s]) (fun _ _ _ h => zon_of h) h
  refine ⟨v, us, rfl, hl, hv.imp id ?_⟩
  rintro ⟨b, o, c, h1, h2, h3, h4⟩
  refine ⟨b, o, c, h1, h2, h3, fun j hj => ?_⟩
  obtain ⟨cj, rfl, _, h5⟩ := h4 j hj
  rw [cZon] at h5
  exact ⟨h5 0 (by decide), h5 1 (by decide), h5 2 (by decide), h5 3 (by decide), h5 4 (by decide), h5 5 (by decide), h5 6 (by decide), h5 7 (by decide)⟩
set_option maxRecDepth 100000 in
theorem open_zons {r : Reach} {b0 : Nat} {v : Value} {d : DataW H} {p : List MemPlace} (hv : Value.okWide Try.prog w r b0 31 v) (h : DataW.Trod enc Try.prog w 0 spare held 31 v d p) : ∃ us, ZonsAt w w.heap.size v us :=
  open_one (Q := fun v => ∃ us, ZonsAt w w.heap.size v us) Try.underlying31 hv h fun _ _ _ h => by obtain ⟨lv, us, h1, h2⟩ := zns_of h; exact ⟨lv, h1, us, h2⟩
end
end Go.Proofs.Ytfemekmkmiljdaa
