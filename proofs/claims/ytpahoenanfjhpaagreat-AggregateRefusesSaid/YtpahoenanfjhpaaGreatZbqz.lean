/-
  CHAPTER 26: a law's schema and query in memory, and one field of the query stored anew. Conditions: each theorem states its own.
-/
import Derived.Test.YtpahoenanfjhpaaGreatNewz
import Derived.Test.YtpahoenanfjhpaaGreatKqyz
import Derived.Test.YtpahoenanfjhpaaGreatZj
import Derived.Test.YtpahoenanfjhpaaGreatZk
set_option linter.unusedVariables false
set_option linter.unusedSimpArgs false
namespace Go.Proofs.YtpahoenanfjhpaaGreat
open Go.RowKit
/-- The schema's cells, and the query's; their lists lie below the query's block. -/
structure ZB (w z : World) (SB QB : Nat) (cv : Value) (cs : List Col) (key : Int) (vm : Value) (zm : List Int) (nv : Value) (ns : List Nod) (pv : Value) (pr : List Int) (gv : Value) (gr : List Int) (av : Value) (ag : List Ag) : Prop where
  bel : Below w.heap.size w z
  wQ : w.heap.size ≤ QB
  SQ : SB < QB
  zQ : QB < z.heap.size
  s0 : z.cell? ⟨SB, 0, none⟩ = some cv
  s1 : z.cell? ⟨SB, 1, none⟩ = some (.int .i64 key)
  q0 : z.cell? ⟨QB, 0, none⟩ = some nv
  q1 : z.cell? ⟨QB, 1, none⟩ = some pv
  q2 : z.cell? ⟨QB, 2, none⟩ = some gv
  q3 : z.cell? ⟨QB, 3, none⟩ = some av
  fr : ∀ q, z.frozen? ⟨QB, q, none⟩ = false
  hc : ColsAt z QB cv cs
  hn : NodsAt z QB nv ns
  hp : IntsAt z QB pv pr
  hg : IntsAt z QB gv gr
  ha : AgsAt z QB av ag
  hm : IntsAt z QB vm zm
  hl : ∀ d ∈ ns, d.ls.length ≤ 16
/-- The same, whatever the query. -/
structure QSt (w : World) (SB QB : Nat) (cv : Value) (cs : List Col) (key : Int) (vm : Value) (zm : List Int) (W : World) : Prop where
  bel : Below w.heap.size w W
  zS : SB < W.heap.size
  zQ : QB < W.heap.size
  s0 : W.cell? ⟨SB, 0, none⟩ = some cv
  s1 : W.cell? ⟨SB, 1, none⟩ = some (.int .i64 key)
  hc : ColsAt W W.heap.size cv cs
  hm : IntsAt W W.heap.size vm zm
  q : ∃ nv ns pv pr gv gr av ag, W.cell? ⟨QB, 0, none⟩ = some nv ∧ W.cell? ⟨QB, 1, none⟩ = some pv ∧ W.cell? ⟨QB, 2, none⟩ = some gv ∧ W.cell? ⟨QB, 3, none⟩ = some av ∧ NodsAt W W.heap.size nv ns ∧ IntsAt W W.heap.size pv pr ∧ IntsAt W W.heap.size gv gr ∧ AgsAt W W.heap.size av ag ∧ (∀ d ∈ ns, d.ls.length ≤ 16)
section
variable {w z : World} {SB QB : Nat} {cv : Value} {cs : List Col} {key : Int} {vm : Value} {zm : List Int} {nv : Value} {ns : List Nod} {pv : Value} {pr : List Int} {gv : Value} {gr : List Int} {av : Value} {ag : List Ag}
theorem ZB.on (h : ZB w z SB QB cv cs key vm zm nv ns pv pr gv gr av ag) {W : World} (hb : Below z.heap.size z W) : ZB w W SB QB cv cs key vm zm nv ns pv pr gv gr av ag := by
  have hS : SB < z.heap.size := Nat.lt_trans h.SQ h.zQ
  have hq : Below QB z W := hb.mono (Nat.le_of_lt h.zQ)
  exact ⟨Below.to h.bel hb, h.wQ, h.SQ, Nat.lt_of_lt_of_le h.zQ hb.size, (hb.cell (p := ⟨SB, 0, none⟩) hS).trans h.s0, (hb.cell (p := ⟨SB, 1, none⟩) hS).trans h.s1, (hb.cell (p := ⟨QB, 0, none⟩) h.zQ).trans h.q0, (hb.cell (p := ⟨QB, 1, none⟩) h.zQ).trans h.q1, (hb.cell (p := ⟨QB, 2, none⟩) h.zQ).trans h.q2, (hb.cell (p := ⟨QB, 3, none⟩) h.zQ).trans h.q3, fun q => (hb.frozen (p := ⟨QB, q, none⟩) h.zQ).trans (h.fr q),
    h.hc.mono hq (Nat.le_refl _), h.hn.mono hq (Nat.le_refl _), ints_on h.hp hq (Nat.le_refl _), ints_on h.hg hq (Nat.le_refl _), h.ha.mono hq (Nat.le_refl _), ints_on h.hm hq (Nat.le_refl _), h.hl⟩
theorem ZB.st (h : ZB w z SB QB cv cs key vm zm nv ns pv pr gv gr av ag) (i : Nat) (u : Value) : Below QB z (z.setCell ⟨QB, i, none⟩ u) ∧ Below w.heap.size w (z.setCell ⟨QB, i, none⟩ u) :=
  ⟨(Below.refl _ _).setCell (p := ⟨QB, i, none⟩) (Nat.le_refl _) u, h.bel.setCell (p := ⟨QB, i, none⟩) h.wQ u⟩
theorem ZB.fin (h : ZB w z SB QB cv cs key vm zm nv ns pv pr gv gr av ag) {W : World} (bQ : Below QB z W) (bw : Below w.heap.size w W) {nv' : Value} {ns' : List Nod} {pv' : Value} {pr' : List Int} {gv' : Value} {gr' : List Int} {av' : Value} {ag' : List Ag}
    (k0 : W.cell? ⟨QB, 0, none⟩ = some nv') (k1 : W.cell? ⟨QB, 1, none⟩ = some pv') (k2 : W.cell? ⟨QB, 2, none⟩ = some gv') (k3 : W.cell? ⟨QB, 3, none⟩ = some av') (hn : NodsAt W W.heap.size nv' ns') (hp : IntsAt W W.heap.size pv' pr') (hg : IntsAt W W.heap.size gv' gr') (ha : AgsAt W W.heap.size av' ag') (hl : ∀ d ∈ ns', d.ls.length ≤ 16) : QSt w SB QB cv cs key vm zm W := by
  have hQ : QB ≤ W.heap.size := Nat.le_trans (Nat.le_of_lt h.zQ) bQ.size
  exact ⟨bw, Nat.lt_of_lt_of_le (Nat.lt_trans h.SQ h.zQ) bQ.size, Nat.lt_of_lt_of_le h.zQ bQ.size, (bQ.cell (p := ⟨SB, 0, none⟩) h.SQ).trans h.s0, (bQ.cell (p := ⟨SB, 1, none⟩) h.SQ).trans h.s1, h.hc.mono bQ hQ, ints_on h.hm bQ hQ, _, _, _, _, _, _, _, _, k0, k1, k2, k3, hn, hp, hg, ha, hl⟩
theorem cell_other {w : World} {b i j : Nat} {u v : Value} (h : w.cell? ⟨b, j, none⟩ = some v) (hij : i ≠ j) : (w.setCell ⟨b, i, none⟩ u).cell? ⟨b, j, none⟩ = some v := (World.cell?_setCell_other _ _ _ _ (by intro e; injection e with _ e; exact hij e)).trans h
theorem cell_same {w : World} {b i : Nat} {u v : Value} (h : w.cell? ⟨b, i, none⟩ = some v) : (w.setCell ⟨b, i, none⟩ u).cell? ⟨b, i, none⟩ = some u := World.cell?_setCell_same w _ _ h
theorem ZB.qN (h : ZB w z SB QB cv cs key vm zm nv ns pv pr gv gr av ag) {u : Value} {l : List Nod} (hu : NodsAt (z.setCell ⟨QB, 0, none⟩ u) (z.setCell ⟨QB, 0, none⟩ u).heap.size u l) (hl : ∀ d ∈ l, d.ls.length ≤ 16) : QSt w SB QB cv cs key vm zm (z.setCell ⟨QB, 0, none⟩ u) := by
  obtain ⟨bQ, bw⟩ := h.st 0 u
  have hQ : QB ≤ (z.setCell ⟨QB, 0, none⟩ u).heap.size := Nat.le_trans (Nat.le_of_lt h.zQ) bQ.size
  exact h.fin bQ bw (cell_same h.q0) (cell_other h.q1 (by decide)) (cell_other h.q2 (by decide)) (cell_other h.q3 (by decide)) hu (ints_on h.hp bQ hQ) (ints_on h.hg bQ hQ) (h.ha.mono bQ hQ) hl
theorem ZB.qP (h : ZB w z SB QB cv cs key vm zm nv ns pv pr gv gr av ag) {u : Value} {l : List Int} (hu : IntsAt (z.setCell ⟨QB, 1, none⟩ u) (z.setCell ⟨QB, 1, none⟩ u).heap.size u l) : QSt w SB QB cv cs key vm zm (z.setCell ⟨QB, 1, none⟩ u) := by
  obtain ⟨bQ, bw⟩ := h.st 1 u
  have hQ : QB ≤ (z.setCell ⟨QB, 1, none⟩ u).heap.size := Nat.le_trans (Nat.le_of_lt h.zQ) bQ.size
  exact h.fin bQ bw (cell_other h.q0 (by decide)) (cell_same h.q1) (cell_other h.q2 (by decide)) (cell_other h.q3 (by decide)) (h.hn.mono bQ hQ) hu (ints_on h.hg bQ hQ) (h.ha.mono bQ hQ) h.hl
theorem ZB.qG (h : ZB w z SB QB cv cs key vm zm nv ns pv pr gv gr av ag) {u : Value} {l : List Int} (hu : IntsAt (z.setCell ⟨QB, 2, none⟩ u) (z.setCell ⟨QB, 2, none⟩ u).heap.size u l) : QSt w SB QB cv cs key vm zm (z.setCell ⟨QB, 2, none⟩ u) := by
  obtain ⟨bQ, bw⟩ := h.st 2 u
  have hQ : QB ≤ (z.setCell ⟨QB, 2, none⟩ u).heap.size := Nat.le_trans (Nat.le_of_lt h.zQ) bQ.size
  exact h.fin bQ bw (cell_other h.q0 (by decide)) (cell_other h.q1 (by decide)) (cell_same h.q2) (cell_other h.q3 (by decide)) (h.hn.mono bQ hQ) (ints_on h.hp bQ hQ) hu (h.ha.mono bQ hQ) h.hl
theorem ZB.qA (h : ZB w z SB QB cv cs key vm zm nv ns pv pr gv gr av ag) {u : Value} {l : List Ag} (hu : AgsAt (z.setCell ⟨QB, 3, none⟩ u) (z.setCell ⟨QB, 3, none⟩ u).heap.size u l) : QSt w SB QB cv cs key vm zm (z.setCell ⟨QB, 3, none⟩ u) := by
  obtain ⟨bQ, bw⟩ := h.st 3 u
  have hQ : QB ≤ (z.setCell ⟨QB, 3, none⟩ u).heap.size := Nat.le_trans (Nat.le_of_lt h.zQ) bQ.size
  exact h.fin bQ bw (cell_other h.q0 (by decide)) (cell_other h.q1 (by decide)) (cell_other h.q2 (by decide)) (cell_same h.q3) (h.hn.mono bQ hQ) (ints_on h.hp bQ hQ) (ints_on h.hg bQ hQ) hu h.hl
end
/-- Nodes as a source of an append: their lists' slices. -/
theorem nods_row {w : World} {B : Nat} {v : Value} {ns : List Nod} (h : NodsAt w B v ns) : ∃ dl : List (Nod × Value), dl.map Prod.fst = ns ∧ (∀ p ∈ dl, ValsAt w B p.2 p.1.ls) ∧ SrcRow w v ns.length 8 (dl.flatMap nodC) := by
  rcases h.2 with ⟨rfl, a, c, rfl⟩ | ⟨b, o, c, rfl, _, _, hc⟩
  · exact ⟨[], rfl, fun p hp => absurd hp (by simp), rfl, fun u hu => absurd hu (by simp), .inl ⟨rfl, a, c, rfl⟩⟩
  · have key : ∀ n, n ≤ ns.length → ∃ dl : List (Nod × Value), dl.map Prod.fst = ns.take n ∧ ∀ j (hj : j < dl.length), ValsAt w B (dl[j]'hj).2 (dl[j]'hj).1.ls ∧ ∀ i (u : Value), (nodC (dl[j]'hj))[i]? = some u → w.cell? ⟨b, o + j * 8 + i, none⟩ = some u := by
      intro n
      induction n with
      | zero => intro _; exact ⟨[], by simp, fun j hj => absurd hj (by simp)⟩
      | succ n ih =>
        intro hn
        obtain ⟨dl, h1, h2⟩ := ih (by omega)
        have hlen : dl.length = n := by have := congrArg List.length h1; simp at this; omega
        obtain ⟨lv, k0, k1, k2, k3, k4, k5, k6, k7, k8⟩ := hc n (by omega)
        refine ⟨dl ++ [(ns[n]'(by omega), lv)], by rw [List.map_append, h1, List.take_succ_eq_append_getElem (by omega)]; rfl, fun j hj => ?_⟩
        rcases Nat.lt_or_ge j dl.length with q | q
        · rw [List.getElem_append_left q]; exact h2 j q
        · obtain rfl : j = dl.length := by simp at hj; omega
          have e : (dl ++ [(ns[n]'(by omega), lv)])[dl.length]'hj = (ns[n]'(by omega), lv) := by simp
          rw [e]
          refine ⟨k8, fun i u hu => ?_⟩
          rw [hlen]
          unfold nodC at hu
          rcases i with _ | _ | _ | _ | _ | _ | _ | _ | i <;> simp at hu <;> rw [← hu] <;> assumption
    obtain ⟨dl, h1, h2⟩ := key ns.length (Nat.le_refl _)
    rw [List.take_length] at h1
    have hlen : dl.length = ns.length := by have := congrArg List.length h1; simpa using this
    refine ⟨dl, h1, fun p hp => ?_, ?_⟩
    · obtain ⟨j, hj, rfl⟩ := List.getElem_of_mem hp
      exact (h2 j hj).1
    · rw [← hlen]
      have one : ∀ p ∈ dl, p.2.oneCell' = true := fun p hp => by obtain ⟨j, hj, rfl⟩ := List.getElem_of_mem hp; exact vals_one (h2 j hj).1
      refine ⟨flat_len nodC 8 (fun _ => rfl) dl, fun u hu => ?_, ?_⟩
      · obtain ⟨p, hp, hc⟩ := List.mem_flatMap.1 hu
        have := one p hp
        unfold nodC at hc
        simp only [List.mem_cons, List.not_mem_nil, or_false] at hc
        rcases hc with rfl | rfl | rfl | rfl | rfl | rfl | rfl | rfl <;> first | rfl | assumption
      · have base : SrcRow w (.slice (some ⟨b, o, none⟩) dl.length c) dl.length 8 (dl.flatMap nodC) := by
          refine ⟨flat_len nodC 8 (fun _ => rfl) dl, fun u hu => ?_, .inr ⟨⟨b, o, none⟩, c, rfl, fun j u hj => ?_⟩⟩
          · obtain ⟨p, hp, hc⟩ := List.mem_flatMap.1 hu
            have := one p hp
            unfold nodC at hc
            simp only [List.mem_cons, List.not_mem_nil, or_false] at hc
            rcases hc with rfl | rfl | rfl | rfl | rfl | rfl | rfl | rfl <;> first | rfl | assumption
          · have hjl := (List.getElem?_eq_some_iff.1 hj).1
            rw [flat_len nodC 8 (fun _ => rfl)] at hjl
            have hd : j / 8 < dl.length := by omega
            have hm : j % 8 < 8 := Nat.mod_lt _ (by decide)
            have e : j = j / 8 * 8 + j % 8 := by omega
            have hg := flat_get nodC 8 (fun _ => rfl) dl (j / 8) (j % 8) hd hm
            rw [← e, hj] at hg
            rw [add_nil]
            have := (h2 (j / 8) hd).2 (j % 8) u hg.symm
            rwa [Nat.add_assoc, ← e] at this
        exact base.2.2
theorem own_nods {w : World} {base : Nat} {T : TypeId} {v : Value} {dl : List (Nod × Value)} (hl : dl.length ≤ 9223372036854775807) (hv : ∀ p ∈ dl, ValsAt w w.heap.size p.2 p.1.ls) (h : w.ownsRow base T 8 v dl.length (dl.flatMap nodC)) : NodsAt w w.heap.size v (dl.map Prod.fst) := by
  rcases own_at (f := nodC) (k := 8) (fun _ => rfl) h with ⟨rfl, rfl⟩ | ⟨g, c, rfl, hc, _, hg, H⟩
  · exact ⟨by simp, .inl ⟨rfl, none, 0, rfl⟩⟩
  · refine ⟨by rw [List.length_map]; exact hl, .inr ⟨g, 0, c, by rw [List.length_map], by rw [List.length_map]; exact hc, hg, fun j hj => ?_⟩⟩
    have hj' : j < dl.length := by simpa using hj
    have e1 : (dl.map Prod.fst)[j]'hj = (dl[j]'hj').1 := by simp
    rw [e1]
    have k := fun i u hi hu => H j hj' i u hi hu
    refine ⟨(dl[j]'hj').2, ?_, ?_, ?_, ?_, ?_, ?_, ?_, ?_, hv _ (List.getElem_mem _)⟩
    · have := k 0 _ (by decide) rfl; simpa using this
    · have := k 1 _ (by decide) rfl; simpa using this
    · have := k 2 _ (by decide) rfl; simpa using this
    · have := k 3 _ (by decide) rfl; simpa using this
    · have := k 4 _ (by decide) rfl; simpa using this
    · have := k 5 _ (by decide) rfl; simpa using this
    · have := k 6 _ (by decide) rfl; simpa using this
    · have := k 7 _ (by decide) rfl; simpa using this
/-- A made list of aggregates, the first k of them counts. -/
structure MkAg (W : World) (g n k : Nat) : Prop where
  lt : g < W.heap.size
  fr : ∀ q, W.frozen? ⟨g, q, none⟩ = false
  c0 : ∀ j, j < n → W.cell? ⟨g, j * 2, none⟩ = some (.int .i64 (if j < k then 1 else 0))
  c1 : ∀ j, j < n → W.cell? ⟨g, j * 2 + 1, none⟩ = some (.int .i64 0)
theorem MkAg.step {W : World} {g n k : Nat} (h : MkAg W g n k) (hk : k < n) : MkAg (W.setCell ⟨g, k * 2, none⟩ (.int .i64 1)) g n (k + 1) := by
  refine ⟨by rw [World.size_setCell]; exact h.lt, fun q => by rw [World.frozen?_setCell]; exact h.fr q, fun j hj => ?_, fun j hj => ?_⟩
  · by_cases e : j = k
    · subst e; rw [if_pos (Nat.lt_succ_self _)]; exact cell_same (h.c0 j hj)
    · have hc := h.c0 j hj
      have q : (if j < k + 1 then (1 : Int) else 0) = if j < k then 1 else 0 := by
        by_cases h1 : j < k
        · rw [if_pos h1, if_pos (by omega)]
        · rw [if_neg h1, if_neg (by omega)]
      rw [q]
      exact cell_other hc (by omega)
  · exact cell_other (h.c1 j hj) (by omega)
theorem MkAg.ags {W : World} {g n : Nat} (h : MkAg W g n n) (hn : n ≤ 1000) : AgsAt W W.heap.size (.slice (some ⟨g, 0, none⟩) n n) (List.replicate n ⟨1, 0⟩) := by
  refine ⟨by simp; omega, .inr ⟨g, 0, n, by simp, by simp, h.lt, fun j hj => ?_⟩⟩
  have hj' : j < n := by simpa using hj
  rw [List.getElem_replicate]
  refine ⟨?_, ?_⟩
  · have := h.c0 j hj'; rw [if_pos hj'] at this; simpa using this
  · have := h.c1 j hj'; simpa using this
theorem make_ints (p : Nat) (hp : p ≤ 1000) (W : World) : (Instr.makeSlice 26 (.int .i64 (16 + (p : Int))) (.int .i64 (16 + (p : Int)))).run Tryz.prog W = .ok (.slice (some ⟨W.heap.size, 0, none⟩) (16 + p) (16 + p)) (W.alloc (.cells (madeCells #[.int .i64 0] (16 + p)) 3)) := by
  obtain ⟨i1, hj, hy0, hy1, hy2⟩ := info_parts infoInt1
  have h := run_make (P := Tryz.prog) (w := W) 26 3 i1 _ Tryz.underlying26 hj hy0 .i64 .i64 (16 + (p : Int)) (16 + (p : Int)) (by omega) (Int.le_refl _) (by rw [hy2]; omega) (by omega)
  rw [show (16 + (p : Int)).toNat = 16 + p by omega, hy1, Nat.mul_one] at h
  exact h
theorem make_ags (p : Nat) (hp : p ≤ 1000) (W : World) : (Instr.makeSlice 27 (.int .i64 (16 + (p : Int))) (.int .i64 (16 + (p : Int)))).run Tryz.prog W = .ok (.slice (some ⟨W.heap.size, 0, none⟩) (16 + p) (16 + p)) (W.alloc (.cells (madeCells #[.int .i64 0, .int .i64 0] ((16 + p) * 2)) 39)) := by
  obtain ⟨i1, hj, hy0, hy1, hy2⟩ := info_parts infoAg
  have h := run_make (P := Tryz.prog) (w := W) 27 39 i1 _ Tryz.underlying27 hj hy0 .i64 .i64 (16 + (p : Int)) (16 + (p : Int)) (by omega) (Int.le_refl _) (by rw [hy2]; omega) (by omega)
  rw [show (16 + (p : Int)).toNat = 16 + p by omega, hy1] at h
  exact h
theorem made_int (w : World) (T : TypeId) (m k : Nat) (hk : k < m) : (w.alloc (.cells (madeCells #[.int .i64 0] m) T)).cell? ⟨w.heap.size, k, none⟩ = some (.int .i64 0) := by
  rw [cell_of_row _ w.heap.size k _ T (0, 0) (heap_alloc_new w _)]
  simp [madeCells, hk, Nat.mod_one]
theorem made_int2 (w : World) (T : TypeId) (m k : Nat) (hk : k < m) : (w.alloc (.cells (madeCells #[.int .i64 0, .int .i64 0] m) T)).cell? ⟨w.heap.size, k, none⟩ = some (.int .i64 0) := by
  rw [cell_of_row _ w.heap.size k _ T (0, 0) (heap_alloc_new w _)]
  have h : k % 2 = 0 ∨ k % 2 = 1 := by omega
  rcases h with h | h <;> simp [madeCells, hk, h]
theorem cell_far {w : World} {b c i j : Nat} {u v : Value} (h : w.cell? ⟨c, j, none⟩ = some v) (hbc : b ≠ c) : (w.setCell ⟨b, i, none⟩ u).cell? ⟨c, j, none⟩ = some v := (World.cell?_setCell_other _ _ _ _ (by intro e; injection e with e _; exact hbc e)).trans h
end Go.Proofs.YtpahoenanfjhpaaGreat
