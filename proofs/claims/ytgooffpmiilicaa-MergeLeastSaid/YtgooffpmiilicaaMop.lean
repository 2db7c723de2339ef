/-
  OPENERS for lists of ranks and lists of lists of records. Conditions: none.
-/
import Derived.Test.YtgooffpmiilicaaOrc
import Derived.Test.YtgooffpmiilicaaMle
set_option linter.unusedVariables false
set_option linter.unusedSimpArgs false
namespace Go.Proofs.Ytgooffpmiilicaa
open Go.RowKit Go.ChangeShapes Go.WideShapes Go.ChangeAt
section
variable {H : Type} {enc : TypeId × Value → H} {w : World} {spare : Nat → Bool} {held : Bool}
set_option maxRecDepth 100000 in
theorem rk_of {fuel : Nat} {cs : List Value} {x : DataW H × List MemPlace}
    (h : DataW.trod enc Try.prog w 0 spare held fuel 50 cs = some x) : ∃ u : Rk, cs = rkC u := by
  obtain ⟨xs, n, _, _, hl, hlen, hf⟩ := DataW.trod_struct Try.underlying50 h
  rw [cRk] at hl
  obtain ⟨x0, e0⟩ := some_of (i := 0) hlen (by decide)
  obtain ⟨x1, e1⟩ := some_of (i := 1) hlen (by decide)
  match cs, hl with
  | [c0, c1, c2, c3], _ =>
    obtain ⟨u, h0⟩ := val_of ((hf 0 _ rfl).trans e0)
    obtain ⟨q, h1, _⟩ := DataW.trod_int Try.underlying2 ((hf 1 _ rfl).trans e1)
    simp [cVal, cInt64] at h0 h1
    obtain ⟨k0, k1, k2⟩ := h0
    exact ⟨⟨u, q⟩, by rw [k0, k1, k2, h1]; rfl⟩
set_option maxRecDepth 100000 in
theorem rks_of {fuel : Nat} {cs : List Value} {x : DataW H × List MemPlace}
    (h : DataW.trod enc Try.prog w 0 spare held fuel 46 cs = some x) : ∃ lv us, cs = [lv] ∧ RksAt w w.heap.size lv us := by
  obtain ⟨us, v, rfl, hl, hv⟩ := rowG (α := Rk) Try.underlying46 (by rw [cRk]; decide) (fun cs u => cs = rkC u) (fun _ _ _ h => rk_of h) h
  refine ⟨v, us, rfl, hl, hv.imp id ?_⟩
  rintro ⟨b, o, c, h1, h2, h3, h4⟩
  refine ⟨b, o, c, h1, h2, h3, fun j hj => ?_⟩
  obtain ⟨cj, rfl, _, h5⟩ := h4 j hj
  rw [cRk] at h5
  exact ⟨h5 0 (by decide), h5 1 (by decide), h5 2 (by decide), h5 3 (by decide)⟩
set_option maxRecDepth 100000 in
theorem open_rks {r : Reach} {b0 : Nat} {v : Value} {d : DataW H} {p : List MemPlace} (hv : Value.okWide Try.prog w r b0 46 v) (h : DataW.Trod enc Try.prog w 0 spare held 46 v d p) : ∃ us, RksAt w w.heap.size v us :=
  open_one (Q := fun v => ∃ us, RksAt w w.heap.size v us) Try.underlying46 hv h fun _ _ _ h => by obtain ⟨lv, us, h1, h2⟩ := rks_of h; exact ⟨lv, h1, us, h2⟩
set_option maxRecDepth 100000 in
theorem pts_of {fuel : Nat} {cs : List Value} {x : DataW H × List MemPlace}
    (h : DataW.trod enc Try.prog w 0 spare held fuel 31 cs = some x) : ∃ lv us, cs = [lv] ∧ PartsAt w w.heap.size lv us := by
  obtain ⟨us, v, rfl, hl, hv⟩ := rowG (α := List Rc) Try.underlying31 (by rw [cRcs]; decide) (fun cs u => ∃ lv, cs = [lv] ∧ RecsAt w w.heap.size lv u) (fun _ _ _ h => by obtain ⟨lv, us, h1, h2⟩ := rcs_of h; exact ⟨us, lv, h1, h2⟩) h
  refine ⟨v, us, rfl, hl, hv.imp id ?_⟩
  rintro ⟨b, o, c, h1, h2, h3, h4⟩
  refine ⟨b, o, c, h1, h2, h3, fun j hj => ?_⟩
  obtain ⟨cj, ⟨lv, rfl, hlv⟩, _, h5⟩ := h4 j hj
  rw [cRcs] at h5
  exact ⟨lv, by have := h5 0 (by decide); simpa using this, hlv⟩
set_option maxRecDepth 100000 in
theorem open_parts {r : Reach} {b0 : Nat} {v : Value} {d : DataW H} {p : List MemPlace} (hv : Value.okWide Try.prog w r b0 31 v) (h : DataW.Trod enc Try.prog w 0 spare held 31 v d p) : ∃ us, PartsAt w w.heap.size v us :=
  open_one (Q := fun v => ∃ us, PartsAt w w.heap.size v us) Try.underlying31 hv h fun _ _ _ h => by obtain ⟨lv, us, h1, h2⟩ := pts_of h; exact ⟨lv, h1, us, h2⟩
end
end Go.Proofs.Ytgooffpmiilicaa
