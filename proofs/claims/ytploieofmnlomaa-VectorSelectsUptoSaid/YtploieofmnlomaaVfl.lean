/-
  FILTERS: the truth values node by node and row by row, and the memory that vector.Filter keeps, plainly. Conditions: each theorem states its own.
-/
import Derived.Test.YtploieofmnlomaaVch
set_option linter.unusedVariables false
set_option linter.unusedSimpArgs false
namespace Go.Proofs.Ytploieofmnlomaa
open Go.RowKit
/-- The truth value of node j in row k. -/
def vT (cs : List Col) (ns : List Nod) (cols : List (List Val)) (j k : Nat) : Int := (accT cs (rowOf cols k) ns).getD j 0
theorem accT_take (cs : List Col) (row : List Val) (ns : List Nod) (k : Nat) : ∀ n, n ≤ ns.length → k ≤ n → (accT cs row (ns.take n)).take k = accT cs row (ns.take k)
  | 0, _, hk => by obtain rfl : k = 0 := by omega
                   rfl
  | n + 1, hn, hk => by
    have ln : (accT cs row (ns.take n)).length = n := by rw [accT_len, List.length_take]; omega
    rcases Nat.lt_or_ge n k with q | q
    · obtain rfl : k = n + 1 := by omega
      rw [List.take_of_length_le (by rw [accT_len, List.length_take]; omega)]
    · rw [accT_succ cs row (by omega : n < ns.length), List.take_append_of_le_length (by omega)]
      exact accT_take cs row ns k n (by omega) q
theorem accT_at {cs : List Col} {row : List Val} {ns : List Nod} {i j : Nat} (hi : i ≤ ns.length) (hj : j < i) : (accT cs row (ns.take i)).getD j 0 = (accT cs row ns).getD j 0 := by
  have h := accT_take cs row ns i ns.length (Nat.le_refl _) hi
  rw [List.take_of_length_le (Nat.le_refl _)] at h
  rw [← h, List.getD_eq_getElem?_getD, List.getD_eq_getElem?_getD, List.getElem?_take_of_lt hj]
theorem accT_3 (cs : List Col) (row : List Val) (ns : List Nod) : ∀ n, n ≤ ns.length → ∀ a ∈ accT cs row (ns.take n), T3 a
  | 0, _, a, ha => absurd ha (by simp [accT])
  | n + 1, hn, a, ha => by
    rw [accT_succ cs row (by omega : n < ns.length)] at ha
    rcases List.mem_append.1 ha with q | q
    · exact accT_3 cs row ns n (by omega) a q
    · rw [List.mem_singleton.1 q]; exact stepT_3 cs row (accT_3 cs row ns n (by omega)) _
theorem vT_3 (cs : List Col) (ns : List Nod) (cols : List (List Val)) (j k : Nat) : T3 (vT cs ns cols j k) := by
  have h := accT_3 cs (rowOf cols k) ns ns.length (Nat.le_refl _)
  rw [List.take_of_length_le (Nat.le_refl _)] at h
  exact getD_3 h j
theorem vT_step {cs : List Col} {ns : List Nod} {cols : List (List Val)} {i : Nat} (k : Nat) (hi : i < ns.length) (hn : nodE cs i (ns[i]'hi) = 0) :
    vT cs ns cols i k = if (ns[i]'hi).op = 9 then andT (vT cs ns cols (ns[i]'hi).a.toNat k) (vT cs ns cols (ns[i]'hi).b.toNat k) else if (ns[i]'hi).op = 10 then orT (vT cs ns cols (ns[i]'hi).a.toNat k) (vT cs ns cols (ns[i]'hi).b.toNat k) else if (ns[i]'hi).op = 11 then notT (vT cs ns cols (ns[i]'hi).a.toNat k) else leafT (colTy cs (ns[i]'hi).col) (ns[i]'hi) ((rowOf cols k).getD (ns[i]'hi).col.toNat Val.zero) := by
  have hd := nodE_ok hn
  have e : vT cs ns cols i k = stepT cs (rowOf cols k) (accT cs (rowOf cols k) (ns.take i)) (ns[i]'hi) := by
    unfold vT
    rw [← accT_at (i := i + 1) (by omega) (by omega), accT_succ cs (rowOf cols k) hi]
    have ln : (accT cs (rowOf cols k) (ns.take i)).length = i := by rw [accT_len, List.length_take]; omega
    rw [List.getD_eq_getElem?_getD, List.getElem?_append_right (by omega), ln, Nat.sub_self]; rfl
  rw [e]
  unfold stepT
  by_cases o9 : (ns[i]'hi).op = 9
  · have a := hd.2.2.1 (by omega)
    have b := hd.2.2.2 (by omega) (by omega)
    rw [if_pos o9, if_pos o9, accT_at (by omega) (by omega), accT_at (by omega) (by omega)]; rfl
  rw [if_neg o9, if_neg o9]
  by_cases o10 : (ns[i]'hi).op = 10
  · have a := hd.2.2.1 (by omega)
    have b := hd.2.2.2 (by omega) (by omega)
    rw [if_pos o10, if_pos o10, accT_at (by omega) (by omega), accT_at (by omega) (by omega)]; rfl
  rw [if_neg o10, if_neg o10]
  by_cases o11 : (ns[i]'hi).op = 11
  · have a := hd.2.2.1 (by omega)
    rw [if_pos o11, if_pos o11, accT_at (by omega) (by omega)]; rfl
  rw [if_neg o11, if_neg o11]
/-- The truth values of node j, row by row. -/
def vR (cs : List Col) (ns : List Nod) (cols : List (List Val)) (N j : Nat) : List Int := (List.range N).map fun k => vT cs ns cols j k
theorem vR_len (cs : List Col) (ns : List Nod) (cols : List (List Val)) (N j : Nat) : (vR cs ns cols N j).length = N := by simp [vR]
theorem vR_at {cs : List Col} {ns : List Nod} {cols : List (List Val)} {N j k : Nat} (h : k < (vR cs ns cols N j).length) : (vR cs ns cols N j)[k]'h = vT cs ns cols j k := by simp [vR]
theorem vR_3 (cs : List Col) (ns : List Nod) (cols : List (List Val)) (N j : Nat) : ∀ a ∈ vR cs ns cols N j, T3 a := by
  intro a ha
  obtain ⟨k, _, rfl⟩ := List.mem_map.1 ha
  exact vT_3 _ _ _ _ _
theorem vR_take {cs : List Col} {ns : List Nod} {cols : List (List Val)} {N j k : Nat} (h : k < N) : (vR cs ns cols N j).take (k + 1) = (vR cs ns cols N j).take k ++ [vT cs ns cols j k] := by
  rw [List.take_succ_eq_append_getElem (by rw [vR_len]; exact h), vR_at]
/-- What is returned when i nodes are done. -/
def outT (cs : List Col) (ns : List Nod) (cols : List (List Val)) (N i : Nat) : List Int := if i = 0 then List.replicate N 1 else vR cs ns cols N (i - 1)
theorem outT_all (cs : List Col) (ns : List Nod) (cols : List (List Val)) : outT cs ns cols (cols.headD []).length ns.length = filtF cs ns cols := by
  unfold outT filtF
  by_cases h : ns.length = 0
  · have e : ns = [] := List.eq_nil_of_length_eq_zero h
    subst e
    rw [if_pos (show ([] : List Nod).length = 0 from rfl)]
    refine List.ext_getElem (by simp) fun i h1 h2 => ?_
    simp [evalF, accT]
  · rw [if_neg h]
    unfold vR
    refine List.map_congr_left fun k _ => ?_
    unfold vT evalF
    rw [List.getLast?_eq_getElem?, List.getD_eq_getElem?_getD, accT_len, List.getElem?_eq_getElem (by rw [accT_len]; omega)]
    rfl
/-- The results so far, in the blocks bl; their list in block TB. -/
structure FlMem (w : World) (TB m N : Nat) (R : Nat → List Int) (bl : List Nat) : Prop where
  lt : TB < w.heap.size
  le : bl.length ≤ m
  th : ∀ j, j < m → (∃ u, w.cell? ⟨TB, j, none⟩ = some u) ∧ w.frozen? ⟨TB, j, none⟩ = false
  lv : ∀ i (h : i < bl.length), w.cell? ⟨TB, i, none⟩ = some (.slice (some ⟨bl[i]'h, 0, none⟩) N N) ∧ bl[i]'h < w.heap.size ∧ bl[i]'h ≠ TB ∧ ∀ k, k < N → w.cell? ⟨bl[i]'h, k, none⟩ = some (.int .i64 ((R i).getD k 0))
theorem FlMem.to {w w' : World} {TB m N : Nat} {R : Nat → List Int} {bl : List Nat} (h : FlMem w TB m N R bl) (hb : Below w.heap.size w w') : FlMem w' TB m N R bl :=
  ⟨Nat.lt_of_lt_of_le h.lt hb.size, h.le, fun j hj => ⟨(h.th j hj).1.imp fun u hu => (hb.cell (p := ⟨TB, j, none⟩) h.lt).trans hu, (hb.frozen (p := ⟨TB, j, none⟩) h.lt).trans (h.th j hj).2⟩,
    fun i hi => ⟨(hb.cell (p := ⟨TB, i, none⟩) h.lt).trans (h.lv i hi).1, Nat.lt_of_lt_of_le (h.lv i hi).2.1 hb.size, (h.lv i hi).2.2.1, fun k hk => (hb.cell (p := ⟨bl[i]'hi, k, none⟩) (h.lv i hi).2.1).trans ((h.lv i hi).2.2.2 k hk)⟩⟩
theorem FlMem.step {w : World} {TB LB m N : Nat} {R : Nat → List Int} {bl : List Nat} (h : FlMem w TB m N R bl) (hm : bl.length < m) (hl : LB < w.heap.size) (hne : LB ≠ TB) (hR : ∀ k, k < N → w.cell? ⟨LB, k, none⟩ = some (.int .i64 ((R bl.length).getD k 0))) :
    FlMem (w.setCell ⟨TB, bl.length, none⟩ (.slice (some ⟨LB, 0, none⟩) N N)) TB m N R (bl ++ [LB]) := by
  obtain ⟨⟨u, hu⟩, hf⟩ := h.th bl.length hm
  have same := World.cell?_setCell_same w ⟨TB, bl.length, none⟩ (.slice (some ⟨LB, 0, none⟩) N N) hu
  have other : ∀ j, j ≠ bl.length → (w.setCell ⟨TB, bl.length, none⟩ (.slice (some ⟨LB, 0, none⟩) N N)).cell? ⟨TB, j, none⟩ = w.cell? ⟨TB, j, none⟩ := fun j hj => World.cell?_setCell_other _ _ _ _ (by intro e; injection e with _ e; exact hj e.symm)
  have far : ∀ b j, b ≠ TB → (w.setCell ⟨TB, bl.length, none⟩ (.slice (some ⟨LB, 0, none⟩) N N)).cell? ⟨b, j, none⟩ = w.cell? ⟨b, j, none⟩ := fun b j hb => World.cell?_setCell_other _ _ _ _ (by intro e; injection e with e; exact hb e.symm)
  have sz : (w.setCell ⟨TB, bl.length, none⟩ (.slice (some ⟨LB, 0, none⟩) N N)).heap.size = w.heap.size := World.size_setCell _ _ _
  refine ⟨by rw [sz]; exact h.lt, by simp; omega, fun j hj => ⟨?_, by rw [World.frozen?_setCell]; exact (h.th j hj).2⟩, fun i hi => ?_⟩
  · by_cases e : j = bl.length
    · subst e; exact ⟨_, same⟩
    · rw [other j e]; exact (h.th j hj).1
  · rcases Nat.lt_or_ge i bl.length with q | q
    · rw [List.getElem_append_left q, other i (by omega), sz]
      obtain ⟨h1, h2, h3, h4⟩ := h.lv i q
      exact ⟨h1, h2, h3, fun k hk => (far _ k h3).trans (h4 k hk)⟩
    · obtain rfl : i = bl.length := by simp at hi; omega
      have e : (bl ++ [LB])[bl.length]'hi = LB := by simp
      rw [e, sz]
      exact ⟨same, hl, hne, fun k hk => (far _ k hne).trans (hR k hk)⟩
/-- A list of truth values in block OB. -/
def OutAt (w : World) (OB N : Nat) (l : List Int) : Prop := OB < w.heap.size ∧ l.length = N ∧ ∀ k, k < N → w.cell? ⟨OB, k, none⟩ = some (.int .i64 (l.getD k 0))
theorem OutAt.to {w w' : World} {OB N : Nat} {l : List Int} (h : OutAt w OB N l) (hb : Below w.heap.size w w') : OutAt w' OB N l :=
  ⟨Nat.lt_of_lt_of_le h.1 hb.size, h.2.1, fun k hk => (hb.cell (p := ⟨OB, k, none⟩) h.1).trans (h.2.2 k hk)⟩
theorem OutAt.of {w : World} {OB N : Nat} {l : List Int} (h : EvMem w OB N l) (hl : l.length = N) : OutAt w OB N l :=
  ⟨h.lt, hl, fun k hk => by
    have := h.lv k (by omega)
    rw [List.getD_eq_getElem?_getD, List.getElem?_eq_getElem (by omega)]; exact this⟩
theorem OutAt.ints {w : World} {OB N : Nat} {l : List Int} (h : OutAt w OB N l) (hN : N ≤ 9223372036854775807) (h3 : ∀ a ∈ l, T3 a) : IntsAt w w.heap.size (.slice (some ⟨OB, 0, none⟩) N N) l := by
  refine ⟨fun z hz => by rcases h3 z hz with rfl | rfl | rfl <;> unfold isI <;> omega, by rw [h.2.1]; exact hN, .inr ⟨OB, 0, N, by rw [h.2.1], h.1, fun j hj => ?_⟩⟩
  rw [Nat.zero_add]
  exact h.2.2 j (by rw [← h.2.1]; exact hj)
theorem outT_3 (cs : List Col) (ns : List Nod) (cols : List (List Val)) (N i : Nat) : ∀ a ∈ outT cs ns cols N i, T3 a := by
  unfold outT
  split
  · intro a ha; rw [List.eq_of_mem_replicate ha]; exact .inr (.inl rfl)
  · exact vR_3 _ _ _ _ _
end Go.Proofs.Ytploieofmnlomaa
