/-
  OPENERS for raw schemas, predicates, lists of values, and lists of such lists. Conditions: none.
-/
import Derived.Test.YtpahoenanfjhpaaGreatOpsz
import Derived.Test.YtpahoenanfjhpaaGreatZd
import Derived.Test.YtpahoenanfjhpaaGreatZe
import Derived.Deep.Slices
set_option linter.unusedVariables false
set_option linter.unusedSimpArgs false
namespace Go.Proofs.YtpahoenanfjhpaaGreat
open Go.RowKit Go.ChangeShapes Go.WideShapes Go.ChangeAt
theorem cBool : Tryz.prog.cellsOf 4 = 1 := by kernel_rfl
theorem cInt64 : Tryz.prog.cellsOf 2 = 1 := by kernel_rfl
theorem cStr : Tryz.prog.cellsOf 9 = 1 := by kernel_rfl
theorem cVal : Tryz.prog.cellsOf 41 = 3 := by kernel_rfl
theorem cCol : Tryz.prog.cellsOf 58 = 4 := by kernel_rfl
theorem cNod : Tryz.prog.cellsOf 44 = 8 := by kernel_rfl
theorem cSch : Tryz.prog.cellsOf 24 = 2 := by kernel_rfl
theorem cVls : Tryz.prog.cellsOf 42 = 1 := by kernel_rfl
theorem cCls : Tryz.prog.cellsOf 22 = 1 := by kernel_rfl
theorem some_of {α : Type} {xs : List α} {n i : Nat} (h : xs.length = n) (hi : i < n) : ∃ y, xs[i]? = some y := ⟨xs[i], List.getElem?_eq_getElem (by omega)⟩
theorem list_of {α : Type} {n : Nat} {p : Nat → α → Prop} (h : ∀ i, i < n → ∃ x, p i x) : ∃ us : List α, us.length = n ∧ ∀ j (hj : j < us.length), p j (us[j]'hj) := by
  induction n with
  | zero => exact ⟨[], rfl, fun j hj => absurd hj (by simp)⟩
  | succ n ih =>
    obtain ⟨us, hl, hu⟩ := ih fun i hi => h i (by omega)
    obtain ⟨x, hx⟩ := h n (by omega)
    refine ⟨us ++ [x], by simp [hl], fun j hj => ?_⟩
    rcases Nat.lt_or_ge j us.length with q | q
    · rw [List.getElem_append_left q]; exact hu j q
    · obtain rfl : j = us.length := by simp at hj; omega
      have e : (us ++ [x])[us.length]'hj = x := by simp
      rw [e, hl]; exact hx
section
variable {H : Type} {enc : TypeId × Value → H} {w : World} {spare : Nat → Bool} {held : Bool}
theorem rowG {α : Type} {P : Program} {fuel : Nat} {t e : TypeId} {cs : List Value} {x : DataW H × List MemPlace} (ht : P.underlying t = some (.slice e)) (hpos : 0 < P.cellsOf e) (C : List Value → α → Prop)
    (hel : ∀ n cs y, DataW.trod enc P w 0 spare held n e cs = some y → ∃ u, C cs u) (h : DataW.trod enc P w 0 spare held fuel t cs = some x) :
    ∃ (us : List α) (v : Value), cs = [v] ∧ us.length ≤ 9223372036854775807 ∧ ((us = [] ∧ ∃ a c, v = .slice a 0 c) ∨ ∃ b o c, v = .slice (some ⟨b, o, none⟩) us.length c ∧ us.length ≤ c ∧ b < w.heap.size ∧
      ∀ j (hj : j < us.length), ∃ cj, C cj (us[j]'hj) ∧ cj.length = P.cellsOf e ∧ ∀ i, i < P.cellsOf e → w.cell? ⟨b, o + j * P.cellsOf e + i, none⟩ = cj[i]?) := by
  rcases Deep.open_slice ht h with ⟨rfl, _⟩ | ⟨a, len, cap, m, n, D, Pl, rfl, _, hl, hm, hmm, _, hx⟩
  · exact ⟨[], _, rfl, by simp, .inl ⟨rfl, _, _, rfl⟩⟩
  have hlm : len ≤ m := by rw [hmm]; split <;> omega
  obtain ⟨us, hul, hus⟩ := list_of (n := len) (p := fun i u => ∃ cj, C cj u ∧ cj.length = P.cellsOf e ∧ ∀ q, q < P.cellsOf e → w.cell? ((a.add (i * P.cellsOf e)).add q) = cj[q]?) (fun i hi => by
    obtain ⟨cj, h1, h2⟩ := hx i (by omega)
    obtain ⟨u, hu⟩ := hel _ _ _ h2
    obtain ⟨_, h3, h4⟩ := World.cells?_some h1
    exact ⟨u, cj, hu, h3, h4⟩)
  refine ⟨us, _, rfl, by rw [hul]; unfold maxLen at hm; omega, ?_⟩
  by_cases h0 : len = 0
  · subst h0; exact .inl ⟨List.eq_nil_of_length_eq_zero hul, _, _, rfl⟩
  obtain ⟨b, o, s⟩ := a
  obtain ⟨c0, _, l0, k0⟩ := hus 0 (by omega)
  obtain ⟨y, hy⟩ := some_of l0 hpos
  have k1 := (k0 0 hpos).trans hy
  have hs : s = none := by
    cases s with
    | none => rfl
    | some s => exfalso; simp only [World.cell?, Addr.add] at k1; split at k1 <;> simp at k1
  subst hs
  refine .inr ⟨b, o, cap, by rw [hul], by omega, ?_, fun j hj => ?_⟩
  · rcases Nat.lt_or_ge b w.heap.size with h1 | h1
    · exact h1
    · have : w.heap[b]? = none := Array.getElem?_eq_none h1
      simp [World.cell?, Addr.add, this] at k1
  · obtain ⟨cj, g1, g2, g3⟩ := hus j hj
    refine ⟨cj, g1, g2, fun i hi => ?_⟩
    have hadd : ((⟨b, o, none⟩ : Addr).add (j * P.cellsOf e)).add i = ⟨b, o + j * P.cellsOf e + i, none⟩ := by
      unfold Addr.add; split <;> split <;> simp_all
    rw [← hadd]; exact g3 i hi
set_option maxRecDepth 100000 in
theorem val_of {base fuel : Nat} {cs : List Value} {x : DataW H × List MemPlace}
    (h : DataW.trod enc Tryz.prog w base spare held fuel 41 cs = some x) : ∃ u : Val, cs = [.bool u.null, .int .i64 u.n, .string u.s] := by
  obtain ⟨xs, n, _, _, hl, hlen, hf⟩ := DataW.trod_struct Tryz.underlying41 h
  rw [cVal] at hl
  obtain ⟨x0, e0⟩ := some_of (i := 0) hlen (by decide)
  obtain ⟨x1, e1⟩ := some_of (i := 1) hlen (by decide)
  obtain ⟨x2, e2⟩ := some_of (i := 2) hlen (by decide)
  match cs, hl with
  | [c0, c1, c2], _ =>
    obtain ⟨b, hb, _⟩ := DataW.trod_bool Tryz.underlying4 ((hf 0 _ rfl).trans e0)
    obtain ⟨i, hi, _⟩ := DataW.trod_int Tryz.underlying2 ((hf 1 _ rfl).trans e1)
    obtain ⟨s, hs, _⟩ := DataW.trod_string Tryz.underlying9 ((hf 2 _ rfl).trans e2)
    simp [cBool, cInt64, cStr] at hb hi hs
    exact ⟨⟨b, i, s⟩, by rw [hb, hi, hs]⟩
set_option maxRecDepth 100000 in
theorem vals_of {fuel : Nat} {cs : List Value} {x : DataW H × List MemPlace}
    (h : DataW.trod enc Tryz.prog w 0 spare held fuel 42 cs = some x) : ∃ lv us, cs = [lv] ∧ ValsAt w w.heap.size lv us := by
  obtain ⟨us, v, rfl, hl, hv⟩ := rowG (α := Val) Tryz.underlying42 (by rw [cVal]; decide) (fun cs u => cs = [.bool u.null, .int .i64 u.n, .string u.s]) (fun _ _ _ h => val_of h) h
  refine ⟨v, us, rfl, hl, hv.imp id ?_⟩
  rintro ⟨b, o, c, h1, h2, h3, h4⟩
  refine ⟨b, o, c, h1, h2, h3, fun j hj => ?_⟩
  obtain ⟨cj, rfl, _, h5⟩ := h4 j hj
  rw [cVal] at h5
  exact ⟨h5 0 (by decide), h5 1 (by decide), h5 2 (by decide)⟩
set_option maxRecDepth 100000 in
theorem rws_of {fuel : Nat} {cs : List Value} {x : DataW H × List MemPlace}
    (h : DataW.trod enc Tryz.prog w 0 spare held fuel 30 cs = some x) : ∃ lv us, cs = [lv] ∧ RowsAt w w.heap.size lv us := by
  obtain ⟨us, v, rfl, hl, hv⟩ := rowG (α := List Val) Tryz.underlying30 (by rw [cVls]; decide) (fun cs u => ∃ lv, cs = [lv] ∧ ValsAt w w.heap.size lv u) (fun _ _ _ h => by obtain ⟨lv, us, h1, h2⟩ := vals_of h; exact ⟨us, lv, h1, h2⟩) h
  refine ⟨v, us, rfl, hl, hv.imp id ?_⟩
  rintro ⟨b, o, c, h1, h2, h3, h4⟩
  refine ⟨b, o, c, h1, h2, h3, fun j hj => ?_⟩
  obtain ⟨cj, ⟨lv, rfl, hlv⟩, _, h5⟩ := h4 j hj
  rw [cVls] at h5
  exact ⟨lv, by have := h5 0 (by decide); simpa using this, hlv⟩
set_option maxRecDepth 100000 in
theorem col_of {base fuel : Nat} {cs : List Value} {x : DataW H × List MemPlace}
    (h : DataW.trod enc Tryz.prog w base spare held fuel 58 cs = some x) : ∃ u : Col, cs = [.string u.nm, .int .i64 u.ty, .int .i64 u.sc, .bool u.nul] := by
  obtain ⟨xs, n, _, _, hl, hlen, hf⟩ := DataW.trod_struct Tryz.underlying58 h
  rw [cCol] at hl
  obtain ⟨x0, e0⟩ := some_of (i := 0) hlen (by decide)
  obtain ⟨x1, e1⟩ := some_of (i := 1) hlen (by decide)
  obtain ⟨x2, e2⟩ := some_of (i := 2) hlen (by decide)
  obtain ⟨x3, e3⟩ := some_of (i := 3) hlen (by decide)
  match cs, hl with
  | [c0, c1, c2, c3], _ =>
    obtain ⟨s, hs, _⟩ := DataW.trod_string Tryz.underlying9 ((hf 0 _ rfl).trans e0)
    obtain ⟨i, hi, _⟩ := DataW.trod_int Tryz.underlying3 ((hf 1 _ rfl).trans e1)
    obtain ⟨j, hj, _⟩ := DataW.trod_int Tryz.underlying3 ((hf 2 _ rfl).trans e2)
    obtain ⟨b, hb, _⟩ := DataW.trod_bool Tryz.underlying4 ((hf 3 _ rfl).trans e3)
    simp [cBool, cells3, cStr] at hb hi hj hs
    exact ⟨⟨s, i, j, b⟩, by rw [hb, hi, hj, hs]⟩
set_option maxRecDepth 100000 in
theorem cls_of {fuel : Nat} {cs : List Value} {x : DataW H × List MemPlace}
    (h : DataW.trod enc Tryz.prog w 0 spare held fuel 22 cs = some x) : ∃ lv us, cs = [lv] ∧ ColsAt w w.heap.size lv us := by
  obtain ⟨us, v, rfl, hl, hv⟩ := rowG (α := Col) Tryz.underlying22 (by rw [cCol]; decide) (fun cs u => cs = [.string u.nm, .int .i64 u.ty, .int .i64 u.sc, .bool u.nul]) (fun _ _ _ h => col_of h) h
  refine ⟨v, us, rfl, hl, hv.imp id ?_⟩
  rintro ⟨b, o, c, h1, h2, h3, h4⟩
  refine ⟨b, o, c, h1, h2, h3, fun j hj => ?_⟩
  obtain ⟨cj, rfl, _, h5⟩ := h4 j hj
  rw [cCol] at h5
  exact ⟨h5 0 (by decide), h5 1 (by decide), h5 2 (by decide), h5 3 (by decide)⟩
set_option maxRecDepth 100000 in
theorem open_schema {r : Reach} {b0 : Nat} {v : Value} {d : DataW H} {p : List MemPlace} (hv : Value.okWide Tryz.prog w r b0 24 v) (h : DataW.Trod enc Tryz.prog w 0 spare held 24 v d p) :
    ∃ (cv : Value) (cs : List Col) (key : Int), v = .agg #[cv, .int .i64 key] ∧ ColsAt w w.heap.size cv cs := by
  obtain ⟨cs, rfl, hsz⟩ := okWide_struct Tryz.underlying24 hv
  obtain ⟨fuel, hfu⟩ := h
  obtain ⟨xs, n, _, _, hl, hlen, hf⟩ := DataW.trod_struct Tryz.underlying24 hfu
  rw [cSch] at hl
  simp only [Value.cells] at hl hf
  obtain ⟨x0, e0⟩ := some_of (i := 0) hlen (by decide)
  obtain ⟨x1, e1⟩ := some_of (i := 1) hlen (by decide)
  obtain ⟨cl⟩ := cs
  match cl, hl with
  | [c0, c1], _ =>
    obtain ⟨lv, us, h0, hc⟩ := cls_of ((hf 0 _ rfl).trans e0)
    obtain ⟨i, h1, _⟩ := DataW.trod_int Tryz.underlying3 ((hf 1 _ rfl).trans e1)
    simp [cCls, cells3] at h0 h1
    exact ⟨lv, us, i, by rw [h0, h1], hc⟩
set_option maxRecDepth 100000 in
theorem nod_of {fuel : Nat} {cs : List Value} {x : DataW H × List MemPlace}
    (h : DataW.trod enc Tryz.prog w 0 spare held fuel 44 cs = some x) : ∃ u : Nod, ∃ lv, cs = [.int .i64 u.op, .int .i64 u.col, .bool u.v.null, .int .i64 u.v.n, .string u.v.s, lv, .int .i64 u.a, .int .i64 u.b] ∧ ValsAt w w.heap.size lv u.ls := by
  obtain ⟨xs, n, _, _, hl, hlen, hf⟩ := DataW.trod_struct Tryz.underlying44 h
  rw [cNod] at hl
  obtain ⟨x0, e0⟩ := some_of (i := 0) hlen (by decide)
  obtain ⟨x1, e1⟩ := some_of (i := 1) hlen (by decide)
  obtain ⟨x2, e2⟩ := some_of (i := 2) hlen (by decide)
  obtain ⟨x3, e3⟩ := some_of (i := 3) hlen (by decide)
  obtain ⟨x4, e4⟩ := some_of (i := 4) hlen (by decide)
  obtain ⟨x5, e5⟩ := some_of (i := 5) hlen (by decide)
  match cs, hl with
  | [c0, c1, c2, c3, c4, c5, c6, c7], _ =>
    obtain ⟨a0, h0, _⟩ := DataW.trod_int Tryz.underlying3 ((hf 0 _ rfl).trans e0)
    obtain ⟨a1, h1, _⟩ := DataW.trod_int Tryz.underlying3 ((hf 1 _ rfl).trans e1)
    obtain ⟨a2, h2⟩ := val_of ((hf 2 _ rfl).trans e2)
    obtain ⟨lv, us, h3, hvs⟩ := vals_of ((hf 3 _ rfl).trans e3)
    obtain ⟨a4, h4, _⟩ := DataW.trod_int Tryz.underlying3 ((hf 4 _ rfl).trans e4)
    obtain ⟨a5, h5, _⟩ := DataW.trod_int Tryz.underlying3 ((hf 5 _ rfl).trans e5)
    simp [cells3, cVal, cVls] at h0 h1 h2 h3 h4 h5
    obtain ⟨k2, k3, k4⟩ := h2
    exact ⟨⟨a0, a1, a2, us, a4, a5⟩, lv, by rw [h0, h1, h3, h4, h5, k2, k3, k4], hvs⟩
set_option maxRecDepth 100000 in
theorem nds_of {fuel : Nat} {cs : List Value} {x : DataW H × List MemPlace}
    (h : DataW.trod enc Tryz.prog w 0 spare held fuel 25 cs = some x) : ∃ lv us, cs = [lv] ∧ NodsAt w w.heap.size lv us := by
  obtain ⟨us, v, rfl, hl, hv⟩ := rowG (α := Nod) Tryz.underlying25 (by rw [cNod]; decide) (fun cs u => ∃ lv, cs = [.int .i64 u.op, .int .i64 u.col, .bool u.v.null, .int .i64 u.v.n, .string u.v.s, lv, .int .i64 u.a, .int .i64 u.b] ∧ ValsAt w w.heap.size lv u.ls) (fun _ _ _ h => nod_of h) h
  refine ⟨v, us, rfl, hl, hv.imp id ?_⟩
  rintro ⟨b, o, c, h1, h2, h3, h4⟩
  refine ⟨b, o, c, h1, h2, h3, fun j hj => ?_⟩
  obtain ⟨cj, ⟨lv, rfl, hlv⟩, _, h5⟩ := h4 j hj
  rw [cNod] at h5
  exact ⟨lv, h5 0 (by decide), h5 1 (by decide), h5 2 (by decide), h5 3 (by decide), h5 4 (by decide), h5 5 (by decide), h5 6 (by decide), h5 7 (by decide), hlv⟩
set_option maxRecDepth 100000 in
theorem open_one {r : Reach} {b0 : Nat} {t e : TypeId} {v : Value} {d : DataW H} {p : List MemPlace} {Q : Value → Prop} (ht : Tryz.prog.underlying t = some (.slice e)) (hv : Value.okWide Tryz.prog w r b0 t v) (h : DataW.Trod enc Tryz.prog w 0 spare held t v d p)
    (k : ∀ fuel cs x, DataW.trod enc Tryz.prog w 0 spare held fuel t cs = some x → ∃ lv, cs = [lv] ∧ Q lv) : Q v := by
  obtain ⟨a, l, c, rfl⟩ := okWide_slice ht hv
  obtain ⟨fuel, hf⟩ := h
  obtain ⟨lv, e, hq⟩ := k _ _ _ hf
  simp [Value.cells] at e
  rw [e]; exact hq
set_option maxRecDepth 100000 in
theorem open_vals {r : Reach} {b0 : Nat} {v : Value} {d : DataW H} {p : List MemPlace} (hv : Value.okWide Tryz.prog w r b0 42 v) (h : DataW.Trod enc Tryz.prog w 0 spare held 42 v d p) : ∃ us, ValsAt w w.heap.size v us :=
  open_one (Q := fun v => ∃ us, ValsAt w w.heap.size v us) Tryz.underlying42 hv h fun _ _ _ h => by obtain ⟨lv, us, h1, h2⟩ := vals_of h; exact ⟨lv, h1, us, h2⟩
set_option maxRecDepth 100000 in
theorem open_rows {r : Reach} {b0 : Nat} {v : Value} {d : DataW H} {p : List MemPlace} (hv : Value.okWide Tryz.prog w r b0 30 v) (h : DataW.Trod enc Tryz.prog w 0 spare held 30 v d p) : ∃ us, RowsAt w w.heap.size v us :=
  open_one (Q := fun v => ∃ us, RowsAt w w.heap.size v us) Tryz.underlying30 hv h fun _ _ _ h => by obtain ⟨lv, us, h1, h2⟩ := rws_of h; exact ⟨lv, h1, us, h2⟩
set_option maxRecDepth 100000 in
theorem open_nods {r : Reach} {b0 : Nat} {v : Value} {d : DataW H} {p : List MemPlace} (hv : Value.okWide Tryz.prog w r b0 25 v) (h : DataW.Trod enc Tryz.prog w 0 spare held 25 v d p) : ∃ us, NodsAt w w.heap.size v us :=
  open_one (Q := fun v => ∃ us, NodsAt w w.heap.size v us) Tryz.underlying25 hv h fun _ _ _ h => by obtain ⟨lv, us, h1, h2⟩ := nds_of h; exact ⟨lv, h1, us, h2⟩
set_option maxRecDepth 100000 in
theorem open_val {r : Reach} {b0 base : Nat} {v : Value} {d : DataW H} {p : List MemPlace}
    (hv : Value.okWide Tryz.prog w r b0 41 v) (h : DataW.Trod enc Tryz.prog w base spare held 41 v d p) : ∃ (b : Bool) (i : Int) (s : ByteArray), v = .agg #[.bool b, .int .i64 i, .string s] := by
  obtain ⟨cs, rfl, hsz⟩ := okWide_struct Tryz.underlying41 hv
  obtain ⟨fuel, hf⟩ := h
  obtain ⟨⟨b, i, s⟩, e⟩ := val_of hf
  refine ⟨b, i, s, ?_⟩
  simp only [Value.cells] at e
  congr 1
  exact Array.toList_inj.1 (by simpa using e)
end
end Go.Proofs.YtpahoenanfjhpaaGreat
