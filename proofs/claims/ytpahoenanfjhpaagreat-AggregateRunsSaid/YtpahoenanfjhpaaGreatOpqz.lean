/-
  OPENERS for raw queries: their lists in memory, and how long the lists of the nodes can be. Conditions: none.
-/
import Derived.Test.YtpahoenanfjhpaaGreatVopz
import Derived.Test.YtpahoenanfjhpaaGreatZh
set_option linter.unusedVariables false
set_option linter.unusedSimpArgs false
namespace Go.Proofs.YtpahoenanfjhpaaGreat
open Go.RowKit Go.ChangeShapes Go.WideShapes Go.ChangeAt
theorem cAgg : Tryz.prog.cellsOf 39 = 2 := by kernel_rfl
theorem cQry : Tryz.prog.cellsOf 29 = 4 := by kernel_rfl
theorem cNds : Tryz.prog.cellsOf 25 = 1 := by kernel_rfl
theorem cIns : Tryz.prog.cellsOf 26 = 1 := by kernel_rfl
theorem cAgs : Tryz.prog.cellsOf 27 = 1 := by kernel_rfl
theorem bVal2 : Tryz.prog.bytesOf 41 = 32 := by kernel_rfl
theorem weightsAll_all {H : Type} {P : Program} {e : TypeId} {q : Nat → Bool} : ∀ {l : List (DataW H)}, (DataW.weightsAll P e l).all q = true → ∀ d ∈ l, (d.weights P e).all q = true
  | [], _, d, hd => absurd hd (by simp)
  | y :: r, h, d, hd => by
    rw [DataW.weightsAll, List.all_append, Bool.and_eq_true] at h
    rcases List.mem_cons.1 hd with e | hd
    · rw [e]; exact h.1
    · exact weightsAll_all h.2 d hd
section
variable {H : Type} {enc : TypeId × Value → H} {w : World} {spare : Nat → Bool} {held : Bool}
/-- rowG with the elements' weights. -/
theorem rowGS {α : Type} {P : Program} {fuel : Nat} {t e : TypeId} {cs : List Value} {x : DataW H × List MemPlace} {q : Nat → Bool} (ht : P.underlying t = some (.slice e)) (hpos : 0 < P.cellsOf e) (C : List Value → α → Prop)
    (hel : ∀ n cs y, DataW.trod enc P w 0 spare held n e cs = some y → (y.1.weights P e).all q = true → ∃ u, C cs u) (h : DataW.trod enc P w 0 spare held fuel t cs = some x) (hsz : (x.1.weights P t).all q = true) :
    ∃ (us : List α) (v : Value), cs = [v] ∧ us.length ≤ 9223372036854775807 ∧ (us = [] ∨ ∃ n, us.length ≤ n ∧ q (n * P.bytesOf e) = true) ∧ ((us = [] ∧ ∃ a c, v = .slice a 0 c) ∨ ∃ b o c, v = .slice (some ⟨b, o, none⟩) us.length c ∧ us.length ≤ c ∧ b < w.heap.size ∧
      ∀ j (hj : j < us.length), ∃ cj, C cj (us[j]'hj) ∧ cj.length = P.cellsOf e ∧ ∀ i, i < P.cellsOf e → w.cell? ⟨b, o + j * P.cellsOf e + i, none⟩ = cj[i]?) := by
  rcases Deep.open_slice ht h with ⟨rfl, _⟩ | ⟨a, len, cap, m, n, D, Pl, rfl, _, hl, hm, hmm, hd, hx⟩
  · exact ⟨[], _, rfl, by simp, .inl rfl, .inl ⟨rfl, _, _, rfl⟩⟩
  have hlm : len ≤ m := by rw [hmm]; split <;> omega
  have hd1 : x.1 = .slice ((List.range len).map D) ((List.range (m - len)).map fun j => D (len + j)) := congrArg Prod.fst hd
  rw [hd1] at hsz
  unfold DataW.weights at hsz
  simp only [ht] at hsz
  rw [List.all_cons, Bool.and_eq_true, List.all_append, Bool.and_eq_true] at hsz
  obtain ⟨hs1, hs2, _⟩ := hsz
  obtain ⟨us, hul, hus⟩ := list_of (n := len) (p := fun i u => ∃ cj, C cj u ∧ cj.length = P.cellsOf e ∧ ∀ q, q < P.cellsOf e → w.cell? ((a.add (i * P.cellsOf e)).add q) = cj[q]?) (fun i hi => by
    obtain ⟨cj, h1, h2⟩ := hx i (by omega)
    obtain ⟨u, hu⟩ := hel _ _ _ h2 (weightsAll_all hs2 (D i) (List.mem_map.2 ⟨i, List.mem_range.2 hi, rfl⟩))
    obtain ⟨_, h3, h4⟩ := World.cells?_some h1
    exact ⟨u, cj, hu, h3, h4⟩)
  refine ⟨us, _, rfl, by rw [hul]; unfold maxLen at hm; omega, .inr ⟨_, by rw [hul, List.length_map, List.length_map, List.length_range]; omega, hs1⟩, ?_⟩
  by_cases h0 : len = 0
  · subst h0; exact .inl ⟨List.eq_nil_of_length_eq_zero hul, _, _, rfl⟩
  obtain ⟨b, o, s⟩ := a
  obtain ⟨c0, _, l0, k0⟩ := hus 0 (by omega)
  obtain ⟨y, hy⟩ := some_of l0 hpos
  have k1 := (k0 0 hpos).trans hy
  have hs : s = none := by
    cases s with
    | none => rfl
    | some s => exfalso; simp only [World.cell?, Addr.add] at k1; split at k1 <;> simp at k1
  subst hs
  refine .inr ⟨b, o, cap, by rw [hul], by omega, ?_, fun j hj => ?_⟩
  · rcases Nat.lt_or_ge b w.heap.size with h1 | h1
    · exact h1
    · have : w.heap[b]? = none := Array.getElem?_eq_none h1
      simp [World.cell?, Addr.add, this] at k1
  · obtain ⟨cj, g1, g2, g3⟩ := hus j hj
    refine ⟨cj, g1, g2, fun i hi => ?_⟩
    have hadd : ((⟨b, o, none⟩ : Addr).add (j * P.cellsOf e)).add i = ⟨b, o + j * P.cellsOf e + i, none⟩ := by
      unfold Addr.add; split <;> split <;> simp_all
    rw [← hadd]; exact g3 i hi
set_option maxRecDepth 100000 in
theorem valsS_of {fuel : Nat} {cs : List Value} {x : DataW H × List MemPlace}
    (h : DataW.trod enc Tryz.prog w 0 spare held fuel 42 cs = some x) (hsz : (x.1.weights Tryz.prog 42).all (· ≤ reachBytes) = true) : ∃ lv us, cs = [lv] ∧ ValsAt w w.heap.size lv us ∧ us.length ≤ 4398046511104 := by
  obtain ⟨us, v, rfl, hl, hw, hv⟩ := rowGS (α := Val) Tryz.underlying42 (by rw [cVal]; decide) (fun cs u => cs = [.bool u.null, .int .i64 u.n, .string u.s]) (fun _ _ _ h _ => val_of h) h hsz
  refine ⟨v, us, rfl, ⟨hl, hv.imp id ?_⟩, ?_⟩
  · rintro ⟨b, o, c, h1, h2, h3, h4⟩
    refine ⟨b, o, c, h1, h2, h3, fun j hj => ?_⟩
    obtain ⟨cj, rfl, _, h5⟩ := h4 j hj
    rw [cVal] at h5
    exact ⟨h5 0 (by decide), h5 1 (by decide), h5 2 (by decide)⟩
  · rcases hw with e | ⟨n, h1, h2⟩
    · rw [e]; decide
    · have h3 := of_decide_eq_true h2
      rw [bVal2] at h3
      simp [reachBytes] at h3
      omega
set_option maxRecDepth 100000 in
theorem nodS_of {fuel : Nat} {cs : List Value} {x : DataW H × List MemPlace}
    (h : DataW.trod enc Tryz.prog w 0 spare held fuel 44 cs = some x) (hsz : (x.1.weights Tryz.prog 44).all (· ≤ reachBytes) = true) : ∃ u : Nod, ∃ lv, cs = [.int .i64 u.op, .int .i64 u.col, .bool u.v.null, .int .i64 u.v.n, .string u.v.s, lv, .int .i64 u.a, .int .i64 u.b] ∧ ValsAt w w.heap.size lv u.ls ∧ u.ls.length ≤ 4398046511104 := by
  obtain ⟨xs, n, _, hx, hl, hlen, hf⟩ := DataW.trod_struct Tryz.underlying44 h
  rw [cNod] at hl
  have hl6 : xs.length = 6 := hlen
  obtain ⟨x0, e0⟩ := some_of (i := 0) hl6 (by decide)
  obtain ⟨x1, e1⟩ := some_of (i := 1) hl6 (by decide)
  obtain ⟨x2, e2⟩ := some_of (i := 2) hl6 (by decide)
  obtain ⟨x3, e3⟩ := some_of (i := 3) hl6 (by decide)
  obtain ⟨x4, e4⟩ := some_of (i := 4) hl6 (by decide)
  obtain ⟨x5, e5⟩ := some_of (i := 5) hl6 (by decide)
  have hxs : xs = [x0, x1, x2, x3, x4, x5] := by
    match xs, hl6 with
    | [y0, y1, y2, y3, y4, y5], _ => simp at e0 e1 e2 e3 e4 e5; rw [e0, e1, e2, e3, e4, e5]
  have hw3 : (x3.1.weights Tryz.prog 42).all (· ≤ reachBytes) = true := by
    rw [hx, hxs] at hsz
    unfold DataW.weights at hsz
    simp only [Tryz.underlying44] at hsz
    simp only [List.map_cons, List.map_nil, DataW.weightsEach, List.all_append, Bool.and_eq_true] at hsz
    exact hsz.2.2.2.1
  match cs, hl with
  | [c0, c1, c2, c3, c4, c5, c6, c7], _ =>
    obtain ⟨a0, h0, _⟩ := DataW.trod_int Tryz.underlying3 ((hf 0 _ rfl).trans e0)
    obtain ⟨a1, h1, _⟩ := DataW.trod_int Tryz.underlying3 ((hf 1 _ rfl).trans e1)
    obtain ⟨a2, h2⟩ := val_of ((hf 2 _ rfl).trans e2)
    obtain ⟨lv, us, h3, hvs, hus⟩ := valsS_of ((hf 3 _ rfl).trans e3) hw3
    obtain ⟨a4, h4, _⟩ := DataW.trod_int Tryz.underlying3 ((hf 4 _ rfl).trans e4)
    obtain ⟨a5, h5, _⟩ := DataW.trod_int Tryz.underlying3 ((hf 5 _ rfl).trans e5)
    simp [cells3, cVal, cVls] at h0 h1 h2 h3 h4 h5
    obtain ⟨k2, k3, k4⟩ := h2
    exact ⟨⟨a0, a1, a2, us, a4, a5⟩, lv, by rw [h0, h1, h3, h4, h5, k2, k3, k4], hvs, hus⟩
set_option maxRecDepth 100000 in
theorem ndsS_of {fuel : Nat} {cs : List Value} {x : DataW H × List MemPlace}
    (h : DataW.trod enc Tryz.prog w 0 spare held fuel 25 cs = some x) (hsz : (x.1.weights Tryz.prog 25).all (· ≤ reachBytes) = true) : ∃ lv us, cs = [lv] ∧ NodsAt w w.heap.size lv us ∧ ∀ d ∈ us, d.ls.length ≤ 4398046511104 := by
  obtain ⟨us, v, rfl, hl, _, hv⟩ := rowGS (α := Nod) Tryz.underlying25 (by rw [cNod]; decide) (fun cs u => ∃ lv, cs = [.int .i64 u.op, .int .i64 u.col, .bool u.v.null, .int .i64 u.v.n, .string u.v.s, lv, .int .i64 u.a, .int .i64 u.b] ∧ ValsAt w w.heap.size lv u.ls ∧ u.ls.length ≤ 4398046511104) (fun _ _ _ h hs => nodS_of h hs) h hsz
  refine ⟨v, us, rfl, ⟨hl, hv.imp id ?_⟩, fun d hd => ?_⟩
  · rintro ⟨b, o, c, h1, h2, h3, h4⟩
    refine ⟨b, o, c, h1, h2, h3, fun j hj => ?_⟩
    obtain ⟨cj, ⟨lv, rfl, hlv, _⟩, _, h5⟩ := h4 j hj
    rw [cNod] at h5
    exact ⟨lv, h5 0 (by decide), h5 1 (by decide), h5 2 (by decide), h5 3 (by decide), h5 4 (by decide), h5 5 (by decide), h5 6 (by decide), h5 7 (by decide), hlv⟩
  · obtain ⟨j, hj, rfl⟩ := List.getElem_of_mem hd
    rcases hv with ⟨e, _⟩ | ⟨b, o, c, h1, h2, h3, h4⟩
    · subst e; exact absurd hj (by simp)
    · obtain ⟨cj, ⟨lv, _, _, hs⟩, _⟩ := h4 j hj
      exact hs
set_option maxRecDepth 100000 in
theorem ins_of {fuel : Nat} {cs : List Value} {x : DataW H × List MemPlace}
    (h : DataW.trod enc Tryz.prog w 0 spare held fuel 26 cs = some x) : ∃ lv us, cs = [lv] ∧ IntsAt w w.heap.size lv us := by
  obtain ⟨us, v, rfl, hl, hv⟩ := rowG (α := Int) Tryz.underlying26 (by rw [cells3]; decide) (fun cs u => cs = [.int .i64 u] ∧ isI u) (fun _ _ _ h => by
    obtain ⟨a0, h0, _, hw⟩ := DataW.trod_int Tryz.underlying3 h
    refine ⟨a0, h0, ?_⟩
    simp [Lit.wf, IntKind.min, IntKind.max, IntKind.signed, IntKind.bits] at hw
    unfold isI; omega) h
  refine ⟨v, us, rfl, fun z hz => ?_, hl, hv.imp id ?_⟩
  · obtain ⟨j, hj, rfl⟩ := List.getElem_of_mem hz
    rcases hv with ⟨e, _⟩ | ⟨b, o, c, h1, h2, h3, h4⟩
    · subst e; exact absurd hj (by simp)
    · obtain ⟨cj, ⟨_, hi⟩, _⟩ := h4 j hj
      exact hi
  · rintro ⟨b, o, c, h1, h2, h3, h4⟩
    refine ⟨b, o, c, h1, h3, fun j hj => ?_⟩
    obtain ⟨cj, ⟨rfl, _⟩, _, h5⟩ := h4 j hj
    rw [cells3] at h5
    have := h5 0 (by decide)
    rw [List.getD_eq_getElem?_getD, List.getElem?_eq_getElem hj]
    simpa using this
set_option maxRecDepth 100000 in
theorem ags_of {fuel : Nat} {cs : List Value} {x : DataW H × List MemPlace}
    (h : DataW.trod enc Tryz.prog w 0 spare held fuel 27 cs = some x) : ∃ lv us, cs = [lv] ∧ AgsAt w w.heap.size lv us := by
  obtain ⟨us, v, rfl, hl, hv⟩ := rowG (α := Ag) Tryz.underlying27 (by rw [cAgg]; decide) (fun cs u => cs = [.int .i64 u.op, .int .i64 u.col]) (fun _ cs' _ h => by
    obtain ⟨xs, n, _, _, hl, hlen, hf⟩ := DataW.trod_struct Tryz.underlying39 h
    rw [cAgg] at hl
    obtain ⟨x0, e0⟩ := some_of (i := 0) hlen (by decide)
    obtain ⟨x1, e1⟩ := some_of (i := 1) hlen (by decide)
    match cs', hl with
    | [c0, c1], _ =>
      obtain ⟨a0, h0, _⟩ := DataW.trod_int Tryz.underlying3 ((hf 0 _ rfl).trans e0)
      obtain ⟨a1, h1, _⟩ := DataW.trod_int Tryz.underlying3 ((hf 1 _ rfl).trans e1)
      simp [cells3] at h0 h1
      exact ⟨⟨a0, a1⟩, by rw [h0, h1]⟩) h
  refine ⟨v, us, rfl, hl, hv.imp id ?_⟩
  rintro ⟨b, o, c, h1, h2, h3, h4⟩
  refine ⟨b, o, c, h1, h2, h3, fun j hj => ?_⟩
  obtain ⟨cj, rfl, _, h5⟩ := h4 j hj
  rw [cAgg] at h5
  exact ⟨h5 0 (by decide), h5 1 (by decide)⟩
set_option maxRecDepth 100000 in
theorem open_query {r : Reach} {b0 : Nat} {v : Value} {d : DataW H} {p : List MemPlace} (hv : Value.okWide Tryz.prog w r b0 29 v) (h : DataW.Trod enc Tryz.prog w 0 spare held 29 v d p) (hsz : (d.weights Tryz.prog 29).all (· ≤ reachBytes) = true) :
    ∃ (nv : Value) (ns : List Nod) (pv : Value) (pr : List Int) (gv : Value) (gr : List Int) (av : Value) (ag : List Ag), v = .agg #[nv, pv, gv, av] ∧ NodsAt w w.heap.size nv ns ∧ IntsAt w w.heap.size pv pr ∧ IntsAt w w.heap.size gv gr ∧ AgsAt w w.heap.size av ag ∧ ∀ d ∈ ns, d.ls.length ≤ 4398046511104 := by
  obtain ⟨cs, rfl, hsz2⟩ := okWide_struct Tryz.underlying29 hv
  obtain ⟨fuel, hfu⟩ := h
  obtain ⟨xs, n, _, hx, hl, hlen, hf⟩ := DataW.trod_struct Tryz.underlying29 hfu
  rw [cQry] at hl
  have hl4 : xs.length = 4 := hlen
  obtain ⟨x0, e0⟩ := some_of (i := 0) hl4 (by decide)
  obtain ⟨x1, e1⟩ := some_of (i := 1) hl4 (by decide)
  obtain ⟨x2, e2⟩ := some_of (i := 2) hl4 (by decide)
  obtain ⟨x3, e3⟩ := some_of (i := 3) hl4 (by decide)
  have hxs : xs = [x0, x1, x2, x3] := by
    match xs, hl4 with
    | [y0, y1, y2, y3], _ => simp at e0 e1 e2 e3; rw [e0, e1, e2, e3]
  have hw0 : (x0.1.weights Tryz.prog 25).all (· ≤ reachBytes) = true := by
    have hd : d = .agg (xs.map (·.1)) := congrArg Prod.fst hx
    rw [hd, hxs] at hsz
    unfold DataW.weights at hsz
    simp only [Tryz.underlying29] at hsz
    simp only [List.map_cons, List.map_nil, DataW.weightsEach, List.all_append, Bool.and_eq_true] at hsz
    exact hsz.1
  simp only [Value.cells] at hl hf
  obtain ⟨cl⟩ := cs
  match cl, hl with
  | [c0, c1, c2, c3], _ =>
    obtain ⟨nv, ns, h0, hn, hns⟩ := ndsS_of ((hf 0 _ rfl).trans e0) hw0
    obtain ⟨pv, pr, h1, hp⟩ := ins_of ((hf 1 _ rfl).trans e1)
    obtain ⟨gv, gr, h2, hg⟩ := ins_of ((hf 2 _ rfl).trans e2)
    obtain ⟨av, ag, h3, ha⟩ := ags_of ((hf 3 _ rfl).trans e3)
    simp [cNds, cIns, cAgs] at h0 h1 h2 h3
    exact ⟨nv, ns, pv, pr, gv, gr, av, ag, by rw [h0, h1, h2, h3], hn, hp, hg, ha, hns⟩
end
end Go.Proofs.YtpahoenanfjhpaaGreat
