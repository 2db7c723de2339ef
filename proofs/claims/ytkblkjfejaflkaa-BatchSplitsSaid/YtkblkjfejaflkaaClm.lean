/-
  COLUMNS: batch.Columns ('colsF'). Conditions: the records lie in memory; at most 2^42 of them.
-/
import Derived.Test.YtkblkjfejaflkaaRst
import Derived.Deep.RegionLaw
set_option linter.unusedVariables false
set_option linter.unusedSimpArgs false
namespace Go.Proofs.Ytkblkjfejaflkaa
open Go.RowKit
def nullV : Val := ⟨true, 0, ⟨#[]⟩⟩
def cellF (i : Nat) (r : Rc) : Val := r.row[i]?.getD nullV
/-- The first n columns. -/
def colsF (rs : List Rc) (n : Nat) : List (List Val) := (List.range n).map fun i => rs.map (cellF i)
/-- The columns under way: n slices in block g0, each the call's own. -/
structure CM (B1 g0 n : Nat) (W : World) (vs : Nat → Value) (ls : Nat → List Val) : Prop where
  z : g0 < W.heap.size
  lo : g0 < B1
  c : ∀ k, k < n → W.cell? ⟨g0, k, none⟩ = some (vs k)
  f : ∀ q, W.frozen? ⟨g0, q, none⟩ = false
  o : ∀ k, k < n → W.ownsRow B1 33 3 (vs k) (ls k).length ((ls k).flatMap valC)
  d : ∀ k k' b, k < n → k' < n → k ≠ k' → (vs k).ownBlock = some b → (vs k').ownBlock ≠ some b
theorem CM.on {B1 g0 n : Nat} {W W' : World} {vs : Nat → Value} {ls : Nat → List Val} (h : CM B1 g0 n W vs ls) (hb : Below W.heap.size W W') : CM B1 g0 n W' vs ls :=
  ⟨Nat.lt_of_lt_of_le h.z hb.size, h.lo, fun k hk => (hb.cell (p := ⟨g0, k, none⟩) h.z).trans (h.c k hk), fun q => (hb.frozen (p := ⟨g0, q, none⟩) h.z).trans (h.f q), fun k hk => own_to (h.o k hk) hb, h.d⟩
theorem CM.congr {B1 g0 n : Nat} {W : World} {vs : Nat → Value} {ls ls' : Nat → List Val} (h : CM B1 g0 n W vs ls) (e : ∀ k, k < n → ls' k = ls k) : CM B1 g0 n W vs ls' :=
  ⟨h.z, h.lo, h.c, h.f, fun k hk => by rw [e k hk]; exact h.o k hk, h.d⟩
theorem own_keep' {w w' : World} {base : Nat} {e : TypeId} {size : Nat} {v : Value} {n : Nat} {xs : List Value} (h : w.ownsRow base e size v n xs) (hk : ∀ k, v.ownBlock = some k → w'.heap[k]? = w.heap[k]?) : w'.ownsRow base e size v n xs := by
  refine ⟨h.1, h.2.imp id ?_⟩
  rintro ⟨g, cap, cur, rfl, h2, h3, h4⟩
  exact ⟨g, cap, cur, rfl, h2, by rw [hk g rfl]; exact h3, h4⟩
theorem CM.step {B1 g0 n i gb cap : Nat} {W w1 : World} {vs : Nat → Value} {ls : Nat → List Val} {x : Val} (h : CM B1 g0 n W vs ls) (hi : i < n) (hown : w1.ownsRow B1 33 3 (.slice (some ⟨gb, 0, none⟩) ((ls i).length + 1) cap) ((ls i).length + 1) ((ls i).flatMap valC ++ valC x)) (hg : W.grownBy w1 (vs i).ownBlock) (hat : (vs i).ownBlock = some gb ∨ gb = W.heap.size) :
    CM B1 g0 n (w1.setCell ⟨g0, i, none⟩ (.slice (some ⟨gb, 0, none⟩) ((ls i).length + 1) cap)) (fun k => if k = i then .slice (some ⟨gb, 0, none⟩) ((ls i).length + 1) cap else vs k) (fun k => if k = i then ls i ++ [x] else ls k) := by
  have hb : ∀ k b, k < n → (vs k).ownBlock = some b → B1 ≤ b ∧ b < W.heap.size := fun k b hk e => ⟨own_base (h.o k hk) b e, ((h.o k hk).lt b e).2⟩
  have hg0 : some g0 ≠ (vs i).ownBlock := fun e => by have := (hb i g0 hi e.symm).1; have := h.lo; omega
  have blk : w1.heap[g0]? = W.heap[g0]? := hg.block g0 h.z hg0
  have cc : ∀ k, k < n → w1.cell? ⟨g0, k, none⟩ = some (vs k) := fun k hk => (World.cell?_of_block (w := W) blk).trans (h.c k hk)
  have hgb : gb ≠ g0 := by
    have := own_base hown gb rfl
    have := h.lo
    omega
  refine ⟨by rw [World.size_setCell]; exact Nat.lt_of_lt_of_le h.z hg.size, h.lo, fun k hk => ?_, fun q => ?_, fun k hk => ?_, fun k k' b hk hk' hne => ?_⟩
  · by_cases e : k = i
    · subst e; rw [if_pos rfl]; exact World.cell?_setCell_same w1 ⟨g0, k, none⟩ _ (cc k hk)
    · rw [if_neg e]; exact (World.cell?_setCell_other _ _ _ _ (by intro q; injection q with _ q; exact e q.symm)).trans (cc k hk)
  · rw [World.frozen?_setCell]; exact (World.frozen?_of_block (w := W) blk).trans (h.f q)
  · have far : ∀ b, b ≠ g0 → (w1.setCell ⟨g0, i, none⟩ (.slice (some ⟨gb, 0, none⟩) ((ls i).length + 1) cap)).heap[b]? = w1.heap[b]? := fun b hb' => Below.heap_setCell _ _ _ b hb'
    by_cases e : k = i
    · subst e
      simp only [if_true, List.length_append, List.length_cons, List.length_nil, List.flatMap_append, List.flatMap_cons, List.flatMap_nil, List.append_nil]
      refine own_keep' hown fun b hb' => far b ?_
      have e1 : gb = b := by simpa [Value.ownBlock] using hb'
      omega
    · simp only [if_neg e]
      refine own_keep' (h.o k hk) fun b hb' => ?_
      have h1 := hb k b hk hb'
      have h2 := h.lo
      exact (far b (by omega)).trans (hg.block b h1.2 (fun q => h.d k i b hk hi e hb' q.symm))
  · by_cases e : k = i
    · subst e
      simp only [if_true, if_neg (fun q : k' = k => hne q.symm)]
      intro q1 q2
      have e1 : gb = b := by simpa [Value.ownBlock] using q1
      subst e1
      rcases hat with q | q
      · exact h.d k k' gb hk hk' hne q q2
      · have := (hb k' gb hk' q2).2; omega
    · by_cases e' : k' = i
      · subst e'
        simp only [if_true, if_neg e]
        intro q1 q2
        have e1 : gb = b := by simpa [Value.ownBlock] using q2
        subst e1
        rcases hat with q | q
        · exact h.d k k' gb hk hk' hne q1 q
        · have := (hb k gb hk q1).2; omega
      · simp only [if_neg e, if_neg e']
        exact h.d k k' b hk hk' hne
theorem CM.step' {B1 g0 n i gb cap j : Nat} {W w1 : World} {vs : Nat → Value} {ls : Nat → List Val} {x : Val} {l : List Val} {v : Value} (h : CM B1 g0 n W vs ls) (hi : i < n) (hli : ls i = l) (hlen : l.length = j) (hvi : vs i = v) (hown : w1.ownsRow B1 33 3 (.slice (some ⟨gb, 0, none⟩) (j + 1) cap) (j + 1) (l.flatMap valC ++ valC x)) (hg : W.grownBy w1 v.ownBlock) (hat : v.ownBlock = some gb ∨ gb = W.heap.size) :
    ∃ vs', CM B1 g0 n (w1.setCell ⟨g0, i, none⟩ (.slice (some ⟨gb, 0, none⟩) (j + 1) cap)) vs' (fun k => if k = i then l ++ [x] else ls k) := by
  subst hli hlen hvi
  exact ⟨_, h.step hi hown hg hat⟩
theorem CM.rows {B1 g0 n : Nat} {W : World} {vs : Nat → Value} {ls : Nat → List Val} (h : CM B1 g0 n W vs ls) (hn : n ≤ 12) (hl : ∀ k, k < n → (ls k).length ≤ 9223372036854775807) : RowsAt W W.heap.size (.slice (some ⟨g0, 0, none⟩) n n) ((List.range n).map ls) := by
  refine ⟨by simp; omega, .inr ⟨g0, 0, n, by simp, by simp, h.z, fun j hj => ?_⟩⟩
  have hj' : j < n := by simpa using hj
  refine ⟨vs j, by rw [Nat.zero_add]; exact h.c j hj', ?_⟩
  have := own_vals (hl j hj') (h.o j hj')
  simpa using this
theorem infoVlC : (Try.prog.info? 29).map (fun i => (i.zero, i.size, i.bytes)) = some (some (.slice none 0 0), 1, 24) := by kernel_rfl
theorem made_nil (w : World) (T : TypeId) (m k : Nat) (hk : k < m) : (w.alloc (.cells (madeCells #[.slice none 0 0] m) T)).cell? ⟨w.heap.size, k, none⟩ = some (.slice none 0 0) := by
  rw [cell_of_row _ w.heap.size k _ T (0, 0) (heap_alloc_new w _)]
  simp [madeCells, Value.cells, Nat.mul_one, hk, Nat.mod_one]
def ClmPost (w : World) (cols : List (List Val)) (e : Ending) (w' : World) : Prop := ∃ v, e = .returned v ∧ RowsAt w' w'.heap.size v cols ∧ Below w.heap.size w w'
set_option maxRecDepth 8000 in
set_option maxHeartbeats 2000000 in
theorem columns_any (v : Value) (rs : List Rc) (n : Int) (w : World) (h : RecsAt w w.heap.size v rs) (hb : rs.length ≤ 4398046511104) :
    Calls Try.prog 35 #[v, .int .i64 n] w (ClmPost w (if 1 ≤ n ∧ n ≤ 12 then colsF rs n.toNat else [])) := by
  obtain ⟨a, c, rfl⟩ := recs_end h
  obtain ⟨L, hL⟩ : ∃ L, rs.length = L := ⟨_, rfl⟩
  rw [hL] at hb h ⊢
  have HR := Lib.hid h
  have HL := Lib.hid hL
  clear h hL
  have NILP : Hid (∀ W : World, Below w.heap.size w W → ClmPost w [] (.returned (.slice none 0 0)) W) := Lib.hid fun W hW => ⟨_, rfl, ⟨by simp, .inl ⟨rfl, none, 0, rfl⟩⟩, hW⟩
  by_cases hn1 : n < 1
  · rw [if_neg (by omega)]
    have t : n < 1 := hn1
    go_enter Try.func35, Try.ntmps35
    go_wp2
    refine bodyPost_ret (v := .slice none 0 0) ?_ rfl (NILP.out _ (Below.refl _ _))
    simp (maxDischargeDepth := 9) [results, Try.results35, go_sem, *]
  by_cases hn2 : 12 < n
  · rw [if_neg (by omega)]
    have t : ¬ n < 1 := hn1
    have t2 : 12 < n := hn2
    go_enter Try.func35, Try.ntmps35
    go_wp2
    refine bodyPost_ret (v := .slice none 0 0) ?_ rfl (NILP.out _ (Below.refl _ _))
    simp (maxDischargeDepth := 9) [results, Try.results35, go_sem, *]
  rw [if_pos (by omega)]
  obtain ⟨N, rfl⟩ : ∃ N : Nat, n = (N : Int) := ⟨n.toNat, by omega⟩
  rw [Int.toNat_natCast]
  have N1 : 1 ≤ N := by omega
  have N12 : N ≤ 12 := by omega
  have t : ¬ (N : Int) < 1 := hn1
  have t2 : ¬ 12 < (N : Int) := hn2
  obtain ⟨i0, hi, hz0, hz1, hz2⟩ := info_parts infoVal
  obtain ⟨i1, hj, hy0, hy1, hy2⟩ := info_parts infoVlC
  have hmk := fun w => run_make (P := Try.prog) w 50 29 i1 _ Try.underlying50 hj hy0 .i64 .i64 (N : Int) (N : Int) (by omega) (Int.le_refl _) (by rw [hy2]; omega) (by omega)
  simp only [Int.toNat_natCast, hy1] at hmk
  clear NILP
  go_enter Try.func35, Try.ntmps35
  go_upto_region 4 with fail
  refine captureM ?_
  intro y ey
  have C0 : Hid (CM (w.heap.size + 1) w.heap.size N y (fun _ => .slice none 0 0) (fun _ => [])) := Lib.hid (by
    rw [ey]
    exact ⟨by simp, by omega, fun k hk => made_nil w _ N k hk, fun q => by simp [go_sem], fun k hk => World.ownsRow_nil _ _ _ _, fun k k' b _ _ _ e => by simp [Value.ownBlock] at e⟩)
  have B0 : Below w.heap.size w y := by rw [ey]; exact (by repeat (first | with_reducible exact Below.refl _ _ | with_reducible assumption | with_reducible refine Below.al ?_ _ | with_reducible refine Below.on ?_ _ | with_reducible refine Below.st ?_ (by first | assumption | (simp; done) | (simp; omega)) _ | with_reducible refine Below.drew ?_))
  have Y0 := Lib.hid B0
  clear ey hmk B0
  go_wp2_with fail
  go_loopg [20] N (fun g s20 wr => ∃ (i : Nat) (vs : Nat → Value), s20 = .int .i64 (i : Int) ∧ i + g = N ∧ CM (w.heap.size + 1) w.heap.size N wr vs (fun k => if k < i then rs.map (cellF k) else []) ∧ Below w.heap.size w wr)
  case atStart => exact ⟨0, _, rfl, by omega, C0.out.congr (fun k _ => by simp), Y0.out⟩
  case round =>
    obtain ⟨i, vs, rfl, hig, hC, hB⟩ := hrel
    have OC := Lib.hid (And.intro hC hB)
    have HIG := Lib.hid hig
    obtain ⟨G, hG⟩ : ∃ G, G = gk := ⟨gk, rfl⟩
    subst hG
    clear hC hB hig C0 Y0
    by_cases hiN : i < N
    · have ti : (i : Int) < (N : Int) := by omega
      go_wp2_with fail
      go_loopg [25] L (fun g s25 wi => ∃ (j : Nat) (vs : Nat → Value), s25 = .int .i64 (j : Int) ∧ j + g = L ∧ CM (w.heap.size + 1) w.heap.size N wi vs (fun k => if k < i then rs.map (cellF k) else if k = i then (rs.take j).map (cellF i) else []) ∧ Below w.heap.size w wi)
      case atStart => exact ⟨0, vs, rfl, by omega, OC.out.1.congr (fun k _ => by by_cases q : k < i <;> by_cases q2 : k = i <;> simp [q, q2]), OC.out.2⟩
      case round =>
        obtain ⟨j, vi, rfl, hjg, hC, hB⟩ := hrel
        have IC := Lib.hid (And.intro hC hB)
        have HJG := Lib.hid hjg
        clear hC hB hjg OC
        by_cases hjL : j < L
        · have tj : (j : Int) < (L : Int) := by omega
          obtain ⟨b, off, rfl, hLc, hb', k0, lv, k1, hv⟩ := recs_in HR.out (i := j) (by rw [HL.out]; exact hjL)
          obtain ⟨r, hr⟩ : ∃ r, rs[j]'(by rw [HL.out]; exact hjL) = r := ⟨_, rfl⟩
          rw [hr] at k0 hv
          rw [HL.out] at hLc
          have ET : Hid (rs.take (j + 1) = rs.take j ++ [r]) := Lib.hid (by rw [← hr]; exact List.take_succ_eq_append_getElem (by rw [HL.out]; exact hjL))
          obtain ⟨sq, row⟩ := r
          dsimp only at k0 k1 hv
          obtain ⟨la, lc, rfl⟩ := vals_end hv
          obtain ⟨rl, hrl⟩ : ∃ rl, row.length = rl := ⟨_, rfl⟩
          rw [hrl] at k1 hv
          have HRL := Lib.hid hrl
          have f0 : wr.cell? ⟨b, off + j * 2, none⟩ = some (.int .i64 sq) := (IC.out.2.cell (p := ⟨b, off + j * 2, none⟩) hb').trans k0
          have f1 : wr.cell? ⟨b, off + j * 2 + 1, none⟩ = some (.slice la rl lc) := (IC.out.2.cell (p := ⟨b, off + j * 2 + 1, none⟩) hb').trans k1
          have zb : b < wr.heap.size := Nat.lt_of_lt_of_le hb' IC.out.2.size
          have HV := Lib.hid hv
          have tc : (j : Int) < (c : Int) := by omega
          have r63 : rl ≤ 9223372036854775807 := by rw [← hrl]; exact hv.1
          clear hr k0 k1 hv hrl
          go_upto_region 11 with fail
          refine captureM ?_
          intro y1 ey
          have yb : Below wr.heap.size wr y1 := by rw [ey]; exact (by repeat (first | with_reducible exact Below.refl _ _ | with_reducible assumption | with_reducible refine Below.al ?_ _ | with_reducible refine Below.on ?_ _ | with_reducible refine Below.st ?_ (by first | assumption | (simp; done) | (simp; omega)) _ | with_reducible refine Below.drew ?_))
          have z1 : wr.heap.size < y1.heap.size := by rw [ey]; simp <;> omega
          have z2 : wr.heap.size + 1 < y1.heap.size := by rw [ey]; simp <;> omega
          have d1 : y1.cell? ⟨wr.heap.size, 1, none⟩ = some (.slice la rl lc) := by rw [ey]; simp (maxDischargeDepth := 9) [go_sem, *]
          have e0 : y1.cell? ⟨wr.heap.size + 1, 0, none⟩ = some (.bool true) := by rw [ey]; simp (maxDischargeDepth := 9) [go_sem, *]
          have e1 : y1.cell? ⟨wr.heap.size + 1, 1, none⟩ = some (.int .i64 0) := by rw [ey]; simp (maxDischargeDepth := 9) [go_sem, *]
          have e2 : y1.cell? ⟨wr.heap.size + 1, 2, none⟩ = some (.string ⟨#[]⟩) := by rw [ey]; simp (maxDischargeDepth := 9) [go_sem, *]
          have g0 : y1.frozen? ⟨wr.heap.size + 1, 0, none⟩ = false := by rw [ey]; simp (maxDischargeDepth := 9) [go_sem, *]
          have g1 : y1.frozen? ⟨wr.heap.size + 1, 1, none⟩ = false := by rw [ey]; simp (maxDischargeDepth := 9) [go_sem, *]
          have g2 : y1.frozen? ⟨wr.heap.size + 1, 2, none⟩ = false := by rw [ey]; simp (maxDischargeDepth := 9) [go_sem, *]
          have YB := Lib.hid yb
          have WZ : w.heap.size < wr.heap.size := IC.out.1.z
          clear ey yb f0 f1 zb
          obtain ⟨VB, hVB⟩ : ∃ VB, wr.heap.size + 1 = VB := ⟨_, rfl⟩
          rw [hVB] at z2 e0 e1 e2 g0 g1 g2
          have hVw : wr.heap.size ≤ VB := by omega
          have VBH := Lib.hid hVB
          by_cases hir : i < rl
          · have tr : (i : Int) < (rl : Int) := by omega
            obtain ⟨b2, o2, rfl, hrc, hb2, v0, v1, v2⟩ := vals_in HV.out (i := i) (by rw [HRL.out]; exact hir)
            rw [HRL.out] at hrc
            have W1 : Below w.heap.size w y1 := Below.to IC.out.2 YB.out
            have q0 := (W1.cell (p := ⟨b2, o2 + i * 3, none⟩) hb2).trans v0
            have q1 := (W1.cell (p := ⟨b2, o2 + i * 3 + 1, none⟩) hb2).trans v1
            have q2 := (W1.cell (p := ⟨b2, o2 + i * 3 + 2, none⟩) hb2).trans v2
            have zb2 : b2 < y1.heap.size := Nat.lt_of_lt_of_le hb2 W1.size
            have trc : (i : Int) < (lc : Int) := by omega
            obtain ⟨x, hx⟩ : ∃ x, row[i]'(by rw [HRL.out]; exact hir) = x := ⟨_, rfl⟩
            rw [hx] at q0 q1 q2
            have EX : Hid (cellF i ⟨sq, row⟩ = x) := Lib.hid (by unfold cellF; simp only; rw [List.getElem?_eq_getElem (by rw [HRL.out]; exact hir), hx]; rfl)
            obtain ⟨xn, xi, xs⟩ := x
            dsimp only at q0 q1 q2
            clear v0 v1 v2 W1 hx hb2
            go_upto_region 13 with fail
            refine captureM ?_
            intro y2 ey
            have yb2 : Below wr.heap.size wr y2 := by rw [ey]; have qq := YB.out; exact (by repeat (first | with_reducible exact Below.refl _ _ | with_reducible assumption | with_reducible refine Below.al ?_ _ | with_reducible refine Below.on ?_ _ | with_reducible refine Below.st ?_ (by first | assumption | (simp; done) | (simp; omega)) _ | with_reducible refine Below.drew ?_))
            have p0 : y2.cell? ⟨VB, 0, none⟩ = some (.bool xn) := by rw [ey]; simp (maxDischargeDepth := 9) [go_sem, *]
            have p1 : y2.cell? ⟨VB, 1, none⟩ = some (.int .i64 xi) := by rw [ey]; simp (maxDischargeDepth := 9) [go_sem, *]
            have p2 : y2.cell? ⟨VB, 2, none⟩ = some (.string xs) := by rw [ey]; simp (maxDischargeDepth := 9) [go_sem, *]
            have zV : VB < y2.heap.size := by rw [ey]; (first | with_reducible assumption | (simp only [World.size_setCell, World.size_alloc, World.size_drew]; first | with_reducible assumption | omega))
            have C2 := IC.out.1.on yb2
            have ho := C2.o i hiN
            have hc := C2.c i hiN
            have hf := C2.f i
            have zw := C2.z
            obtain ⟨va, vc, hvi⟩ := own_form ho
            have hlen : ((rs.take j).map (cellF i)).length = j := by rw [List.length_map, List.length_take, HL.out]; omega
            simp only [Nat.lt_irrefl, if_false, if_true, hlen] at ho hvi
            rw [hvi] at ho hc
            have HO := Lib.hid ho
            have LEN := Lib.hid hlen
            have HC2 := Lib.hid C2
            have HVI := Lib.hid hvi
            have YB2 := Lib.hid yb2
            have OV : Hid (∀ k, Value.ownBlock (.slice va j vc) = some k → w.heap.size + 1 ≤ k ∧ k < wr.heap.size) := Lib.hid (fun k hk => by have h1 := (IC.out.1.o i hiN).lt k (by rw [hvi]; exact hk); exact ⟨own_base ho k hk, h1.2⟩)
            clear ey ho C2 hvi hlen yb2 d1 e0 e1 e2 g0 g1 g2 z1 z2 q0 q1 q2 zb2
            go_region_law ((first | (refine step_append_lies _ (by rfl) _ _ 29 (by rfl) (w.heap.size + 1) 33 i0 _ 3 32 Try.underlying29 hi hz0 hz1 hz2 rfl (by decide) (.slice va j vc) j (((rs.take j).map (cellF i)).flatMap valC) (by rfl) (own_to HO.out ((Below.refl _ _).drew.alloc (Nat.le_refl _) _)) ⟨y2.heap.size, 0, none⟩ 1 1 (valC ⟨xn, xi, xs⟩) (by rfl) rfl (World.news_of_block (heap_alloc_new y2.drew _)) (by simp [valC, Value.oneCell']) (by omega) (by unfold maxLen; omega) (by omega) (by simp; omega) (y2.heap.size + 1) (by simp) ?_; intro gb cap w7 hown hgrow hat hlt7; have u0 : w7.cell? ⟨w.heap.size, i, none⟩ = some (.slice va j vc) := hgrow.cell (a := ⟨w.heap.size, i, none⟩) (by simp (maxDischargeDepth := 9) [go_sem, *]) (fun e => by have := OV.out w.heap.size e.symm; omega); have u1 : w7.frozen? ⟨w.heap.size, i, none⟩ = false := (hgrow.frozen_far ⟨w.heap.size, i, none⟩ (by simp; omega) (fun e => by have := OV.out w.heap.size e.symm; omega)).trans (by simp (maxDischargeDepth := 9) [go_sem, *]); have u2 : w7.cell? ⟨VB, 0, none⟩ = some (.bool xn) := hgrow.cell (a := ⟨VB, 0, none⟩) (by simp (maxDischargeDepth := 9) [go_sem, *]) (fun e => by have := OV.out VB e.symm; omega); have u3 : w7.cell? ⟨VB, 1, none⟩ = some (.int .i64 xi) := hgrow.cell (a := ⟨VB, 1, none⟩) (by simp (maxDischargeDepth := 9) [go_sem, *]) (fun e => by have := OV.out VB e.symm; omega); have u4 : w7.cell? ⟨VB, 2, none⟩ = some (.string xs) := hgrow.cell (a := ⟨VB, 2, none⟩) (by simp (maxDischargeDepth := 9) [go_sem, *]) (fun e => by have := OV.out VB e.symm; omega)) | fail))
            all_goals (have MS := Lib.hid ((HC2.out.on ((Below.refl _ _).drew.alloc (Nat.le_refl _) _)).step' hiN (by simp) LEN.out HVI.out hown hgrow (hat.imp id (fun q => by rw [q]; simp))); have BS := Lib.hid ((Below.gr ((Below.to IC.out.2 YB2.out).drew.alloc (by have := YB2.out.size; have := IC.out.2.size; show w.heap.size ≤ y2.heap.size; omega) _) (own_baseM (own_to HO.out ((Below.refl _ _).drew.alloc (Nat.le_refl _) (.cells #[.bool xn, .int .i64 xi, .string xs] 33))) (Nat.le_succ _)) hgrow).setCell (p := ⟨w.heap.size, i, none⟩) (Nat.le_refl _) (.slice (some ⟨gb, 0, none⟩) (j + 1) cap)); clear hown hgrow hat hlt7 u0 u1 u2 u3 u4)
            all_goals go_wp2_with fail
            all_goals go_roundg (gk - 1)
            all_goals (first
              | (have := HJG.out; omega)
              | (obtain ⟨vs', hcm⟩ := MS.out; exact ⟨j + 1, vs', by go_num, by have := HJG.out; omega, hcm.congr (fun k _ => by (by_cases e1 : k = i; (subst e1; rw [if_neg (Nat.lt_irrefl _), if_pos rfl, if_pos rfl, ET.out, List.map_append, List.map_cons, List.map_nil, EX.out]); (simp only [if_neg e1]))), BS.out⟩))
          · have tr : ¬ (i : Int) < (rl : Int) := by omega
            have EX : Hid (cellF i ⟨sq, row⟩ = ⟨true, 0, ⟨#[]⟩⟩) := Lib.hid (by unfold cellF; simp only; rw [List.getElem?_eq_none (by rw [HRL.out]; omega)]; rfl)
            go_upto_region 13 with fail
            refine captureM ?_
            intro y2 ey
            have yb2 : Below wr.heap.size wr y2 := by rw [ey]; have qq := YB.out; exact (by repeat (first | with_reducible exact Below.refl _ _ | with_reducible assumption | with_reducible refine Below.al ?_ _ | with_reducible refine Below.on ?_ _ | with_reducible refine Below.st ?_ (by first | assumption | (simp; done) | (simp; omega)) _ | with_reducible refine Below.drew ?_))
            have p0 : y2.cell? ⟨VB, 0, none⟩ = some (.bool true) := by rw [ey]; simp (maxDischargeDepth := 9) [go_sem, *]
            have p1 : y2.cell? ⟨VB, 1, none⟩ = some (.int .i64 0) := by rw [ey]; simp (maxDischargeDepth := 9) [go_sem, *]
            have p2 : y2.cell? ⟨VB, 2, none⟩ = some (.string ⟨#[]⟩) := by rw [ey]; simp (maxDischargeDepth := 9) [go_sem, *]
            have zV : VB < y2.heap.size := by rw [ey]; (first | with_reducible assumption | (simp only [World.size_setCell, World.size_alloc, World.size_drew]; first | with_reducible assumption | omega))
            have C2 := IC.out.1.on yb2
            have ho := C2.o i hiN
            have hc := C2.c i hiN
            have hf := C2.f i
            have zw := C2.z
            obtain ⟨va, vc, hvi⟩ := own_form ho
            have hlen : ((rs.take j).map (cellF i)).length = j := by rw [List.length_map, List.length_take, HL.out]; omega
            simp only [Nat.lt_irrefl, if_false, if_true, hlen] at ho hvi
            rw [hvi] at ho hc
            have HO := Lib.hid ho
            have LEN := Lib.hid hlen
            have HC2 := Lib.hid C2
            have HVI := Lib.hid hvi
            have YB2 := Lib.hid yb2
            have OV : Hid (∀ k, Value.ownBlock (.slice va j vc) = some k → w.heap.size + 1 ≤ k ∧ k < wr.heap.size) := Lib.hid (fun k hk => by have h1 := (IC.out.1.o i hiN).lt k (by rw [hvi]; exact hk); exact ⟨own_base ho k hk, h1.2⟩)
            clear ey ho C2 hvi hlen yb2 d1 e0 e1 e2 g0 g1 g2 z1 z2
            go_region_law ((first | (refine step_append_lies _ (by rfl) _ _ 29 (by rfl) (w.heap.size + 1) 33 i0 _ 3 32 Try.underlying29 hi hz0 hz1 hz2 rfl (by decide) (.slice va j vc) j (((rs.take j).map (cellF i)).flatMap valC) (by rfl) (own_to HO.out ((Below.refl _ _).drew.alloc (Nat.le_refl _) _)) ⟨y2.heap.size, 0, none⟩ 1 1 (valC ⟨true, 0, ⟨#[]⟩⟩) (by rfl) rfl (World.news_of_block (heap_alloc_new y2.drew _)) (by simp [valC, Value.oneCell']) (by omega) (by unfold maxLen; omega) (by omega) (by simp; omega) (y2.heap.size + 1) (by simp) ?_; intro gb cap w7 hown hgrow hat hlt7; have u0 : w7.cell? ⟨w.heap.size, i, none⟩ = some (.slice va j vc) := hgrow.cell (a := ⟨w.heap.size, i, none⟩) (by simp (maxDischargeDepth := 9) [go_sem, *]) (fun e => by have := OV.out w.heap.size e.symm; omega); have u1 : w7.frozen? ⟨w.heap.size, i, none⟩ = false := (hgrow.frozen_far ⟨w.heap.size, i, none⟩ (by simp; omega) (fun e => by have := OV.out w.heap.size e.symm; omega)).trans (by simp (maxDischargeDepth := 9) [go_sem, *]); have u2 : w7.cell? ⟨VB, 0, none⟩ = some (.bool true) := hgrow.cell (a := ⟨VB, 0, none⟩) (by simp (maxDischargeDepth := 9) [go_sem, *]) (fun e => by have := OV.out VB e.symm; omega); have u3 : w7.cell? ⟨VB, 1, none⟩ = some (.int .i64 0) := hgrow.cell (a := ⟨VB, 1, none⟩) (by simp (maxDischargeDepth := 9) [go_sem, *]) (fun e => by have := OV.out VB e.symm; omega); have u4 : w7.cell? ⟨VB, 2, none⟩ = some (.string ⟨#[]⟩) := hgrow.cell (a := ⟨VB, 2, none⟩) (by simp (maxDischargeDepth := 9) [go_sem, *]) (fun e => by have := OV.out VB e.symm; omega)) | fail))
            all_goals (have MS := Lib.hid ((HC2.out.on ((Below.refl _ _).drew.alloc (Nat.le_refl _) _)).step' hiN (by simp) LEN.out HVI.out hown hgrow (hat.imp id (fun q => by rw [q]; simp))); have BS := Lib.hid ((Below.gr ((Below.to IC.out.2 YB2.out).drew.alloc (by have := YB2.out.size; have := IC.out.2.size; show w.heap.size ≤ y2.heap.size; omega) _) (own_baseM (own_to HO.out ((Below.refl _ _).drew.alloc (Nat.le_refl _) (.cells #[.bool true, .int .i64 0, .string ⟨#[]⟩] 33))) (Nat.le_succ _)) hgrow).setCell (p := ⟨w.heap.size, i, none⟩) (Nat.le_refl _) (.slice (some ⟨gb, 0, none⟩) (j + 1) cap)); clear hown hgrow hat hlt7 u0 u1 u2 u3 u4)
            all_goals go_wp2_with fail
            all_goals go_roundg (gk - 1)
            all_goals (first
              | (have := HJG.out; omega)
              | (obtain ⟨vs', hcm⟩ := MS.out; exact ⟨j + 1, vs', by go_num, by have := HJG.out; omega, hcm.congr (fun k _ => by (by_cases e1 : k = i; (subst e1; rw [if_neg (Nat.lt_irrefl _), if_pos rfl, if_pos rfl, ET.out, List.map_append, List.map_cons, List.map_nil, EX.out]); (simp only [if_neg e1]))), BS.out⟩))
        · have tj : ¬ (j : Int) < (L : Int) := by omega
          obtain rfl : j = L := by have := HJG.out; omega
          go_wp2_with fail
          go_roundg (G - 1)
          case measure => have := HIG.out; omega
          case rel => exact ⟨i + 1, vi, by go_num, by have := HIG.out; omega, IC.out.1.congr (fun k _ => by
            have e : rs.take j = rs := List.take_of_length_le (by rw [HL.out]; exact Nat.le_refl _)
            rw [e]
            by_cases q : k < i
            · rw [if_pos q, if_pos (by omega)]
            · by_cases q2 : k = i
              · subst q2; rw [if_neg q, if_pos rfl, if_pos (by omega)]
              · rw [if_neg q, if_neg q2, if_neg (by omega)]), IC.out.2⟩
    · have ti : ¬ (i : Int) < (N : Int) := by omega
      obtain rfl : i = N := by have := HIG.out; omega
      have RR : Hid (RowsAt wr wr.heap.size (.slice (some ⟨w.heap.size, 0, none⟩) i i) (colsF rs i)) := Lib.hid (by
        have h1 : CM (w.heap.size + 1) w.heap.size i wr vs (fun k => rs.map (cellF k)) := OC.out.1.congr (fun k hk => by rw [if_pos hk])
        exact h1.rows N12 (fun k hk => by rw [List.length_map, HL.out]; omega))
      go_wp2
      refine bodyPost_ret (v := .slice (some ⟨w.heap.size, 0, none⟩) i i) ?_ rfl ⟨_, rfl, RR.out, OC.out.2⟩
      simp (maxDischargeDepth := 9) [results, Try.results35, go_sem, *]
end Go.Proofs.Ytkblkjfejaflkaa
