/-
  CHAPTER 25: keep.Same of integers, awake; the columns of valid rows are valid, and their filter is the rows' evaluation. Conditions: each theorem states its own.
-/
import Derived.Test.YtploieofmnlomaaCol
set_option linter.unusedVariables false
set_option linter.unusedSimpArgs false
namespace Go.Proofs.Ytploieofmnlomaa
open Go.RowKit
set_option maxRecDepth 8000 in
set_option maxHeartbeats 2000000 in
theorem same_any (va vb : Value) (xs ys : List Int) (w : World) (ha : IntsAt w w.heap.size va xs) (hb : IntsAt w w.heap.size vb ys) :
    Calls Try.prog 9 #[va, vb] w fun e w' => e = .returned (.bool (decide (xs = ys))) ∧ Below w.heap.size w w' := by
  obtain ⟨aa, ac, rfl⟩ := ints_end ha
  obtain ⟨ba, bc, rfl⟩ := ints_end hb
  obtain ⟨n, hn⟩ : ∃ n, xs.length = n := ⟨_, rfl⟩
  obtain ⟨m, hm⟩ : ∃ m, ys.length = m := ⟨_, rfl⟩
  have n63 := ha.2.1
  have HA : Hid (IntsAt w w.heap.size (.slice aa n ac) xs) := Lib.hid (by rw [← hn]; exact ha)
  have HB : Hid (IntsAt w w.heap.size (.slice ba m bc) ys) := Lib.hid (by rw [← hm]; exact hb)
  have HN := Lib.hid hn
  have HM := Lib.hid hm
  rw [hn] at n63 ⊢
  rw [hm]
  obtain ⟨R, hR⟩ : ∃ R, decide (xs = ys) = R := ⟨_, rfl⟩
  rw [hR]
  have HR := Lib.hid hR
  clear ha hb hn hm hR
  by_cases hnm : n = m
  · have q0 : ((n : Int) != (m : Int)) = false := by simp; omega
    subst hnm
    go_enter Try.func9, Try.ntmps9
    go_wp2_with fail
    go_loopg [13] n (fun g st wr => ∃ k : Nat, k + g = n ∧ st = .int .i64 (k : Int) ∧ xs.take k = ys.take k ∧ ∃ x : Ext w, x.it = wr)
    case atStart => exact ⟨0, by omega, rfl, rfl, ⟨w, Below.refl _ _⟩, rfl⟩
    case round =>
      obtain ⟨k, hk, rfl, hT, x, rfl⟩ := hrel
      have hx := x.below
      by_cases hg0 : gk = 0
      · subst hg0
        obtain rfl : k = n := by omega
        have e : xs = ys := by rw [← List.take_of_length_le (l := xs) (by rw [HN.out]; exact Nat.le_refl _), ← List.take_of_length_le (l := ys) (by rw [HM.out]; exact Nat.le_refl _)]; exact hT
        obtain rfl : true = R := by rw [← HR.out, decide_eq_true e]
        clear hT hk e
        go_wp2
        exact bodyPost_ret (v := .bool true) (by simp [results, Try.results9, go_sem, *]) rfl (⟨rfl, by repeat (first | with_reducible exact Below.refl _ _ | with_reducible assumption | with_reducible refine Below.al ?_ _ | with_reducible refine Below.on ?_ _ | with_reducible refine Below.st ?_ (by first | assumption | (simp; done) | (simp; omega)) _ | with_reducible refine Below.drew ?_)⟩)
      · have hkm : k < n := by omega
        have hkm' : (k : Int) < (n : Int) := by omega
        have hkx : k < xs.length := by rw [HN.out]; exact hkm
        have hky : k < ys.length := by rw [HM.out]; exact hkm
        obtain ⟨b1, o1, c1, e1, hb1, hc1⟩ := ints_in HA.out hkx
        injection e1 with e1 e2 e3
        subst e1 e3
        obtain ⟨b2, o2, c2, e1', hb2, hc2⟩ := ints_in HB.out hky
        injection e1' with e1' e2' e3'
        subst e1' e3'
        have f1 := (hx.cell (p := ⟨b1, o1 + k, none⟩) hb1).trans (hc1 k hkx)
        have f2 := (hx.cell (p := ⟨b2, o2 + k, none⟩) hb2).trans (hc2 k hky)
        have z1 : b1 < x.it.heap.size := Nat.lt_of_lt_of_le hb1 hx.size
        have z2 : b2 < x.it.heap.size := Nat.lt_of_lt_of_le hb2 hx.size
        obtain ⟨u, hu⟩ : ∃ u, xs.getD k 0 = u := ⟨_, rfl⟩
        obtain ⟨v, hv⟩ : ∃ v, ys.getD k 0 = v := ⟨_, rfl⟩
        rw [hu] at f1
        rw [hv] at f2
        have gx : xs[k]'hkx = u := by rw [← hu, List.getD_eq_getElem?_getD, List.getElem?_eq_getElem hkx]; rfl
        have gy : ys[k]'hky = v := by rw [← hv, List.getD_eq_getElem?_getD, List.getElem?_eq_getElem hky]; rfl
        have HK := Lib.hid (And.intro hk hg0)
        have TS : Hid (u = v → xs.take (k + 1) = ys.take (k + 1)) := Lib.hid fun q => by rw [List.take_succ_eq_append_getElem hkx, List.take_succ_eq_append_getElem hky, hT, gx, gy, q]
        have TN : Hid (¬ u = v → ¬ xs = ys) := Lib.hid fun q e => by subst e; exact q (gx.symm.trans gy)
        clear hk hg0 hT hc1 hc2 hu hv gx gy e2 e2'
        go_upto_region 6 with fail
        refine wp_region_ext (by kernel_rfl) (by kernel_rfl) ?_
        repeat (go_big_quiet_step ((fail)))
        refine wpQuiet_nil ?_
        rintro _ ⟨x5, rfl⟩
        by_cases huv : u = v
        · have q1 : (u != v) = false := by simpa using huv
          have TS' := Lib.hid (TS.out huv)
          clear huv
          go_wp2
          go_roundg (gk - 1)
          case measure => have := HK.out; omega
          case rel => exact ⟨k + 1, by have := HK.out; omega, by go_num, TS'.out, ⟨x5.it, Below.on hx x5⟩, rfl⟩
        · have q1 : (u != v) = true := by simpa using huv
          obtain rfl : false = R := by rw [← HR.out, decide_eq_false (TN.out huv)]
          clear huv
          go_wp2
          exact bodyPost_ret (v := .bool false) (by simp [results, Try.results9, go_sem, *]) rfl (⟨rfl, by repeat (first | with_reducible exact Below.refl _ _ | with_reducible assumption | with_reducible refine Below.al ?_ _ | with_reducible refine Below.on ?_ _ | with_reducible refine Below.st ?_ (by first | assumption | (simp; done) | (simp; omega)) _ | with_reducible refine Below.drew ?_)⟩)
  · have q0 : ((n : Int) != (m : Int)) = true := by simp; omega
    obtain rfl : false = R := by rw [← HR.out, decide_eq_false]; intro e; subst e; exact hnm (HN.out.symm.trans HM.out)
    go_enter Try.func9, Try.ntmps9
    go_wp2
    exact bodyPost_ret (v := .bool false) (by simp [results, Try.results9, go_sem, *]) rfl (⟨rfl, by repeat (first | with_reducible exact Below.refl _ _ | with_reducible assumption | with_reducible refine Below.al ?_ _ | with_reducible refine Below.on ?_ _ | with_reducible refine Below.st ?_ (by first | assumption | (simp; done) | (simp; omega)) _ | with_reducible refine Below.drew ?_)⟩)
/-! ### What the columns of valid rows are -/
theorem colsOf_at {n k : Nat} {rows : List (List Val)} (h : k < (colsOf n rows).length) : (colsOf n rows)[k]'h = colOf k rows := by simp [colsOf]
theorem colsOf_len (n : Nat) (rows : List (List Val)) : (colsOf n rows).length = n := by simp [colsOf]
theorem colOf_len (k : Nat) (rows : List (List Val)) : (colOf k rows).length = rows.length := by simp [colOf]
theorem listErr_0 {c : Col} : ∀ {l : List Val}, (∀ v ∈ l, vchk c.ty c.nul v.null v.n v.s = 0) → listErr c l = 0
  | [], _ => rfl
  | v :: r, h => by
    simp only [listErr]
    rw [if_pos (h v (by simp))]
    exact listErr_0 fun u hu => h u (by simp [hu])
theorem valsErr_0 : ∀ {cs : List Col} {ls : List (List Val)}, (∀ k (h : k < cs.length) (h' : k < ls.length), listErr (cs[k]'h) (ls[k]'(h')) = 0) → valsErr cs ls = 0
  | [], _, _ => rfl
  | _ :: _, [], _ => rfl
  | c :: cs, l :: ls, h => by
    have h0 := h 0 (by simp) (by simp)
    simp only [List.getElem_cons_zero] at h0
    simp only [valsErr]
    rw [if_pos h0]
    exact valsErr_0 fun k hk hk' => h (k + 1) (by simpa using hk) (by simpa using hk')
theorem colsOf_ok {cs : List Col} {rows : List (List Val)} (h1 : 1 ≤ cs.length) (h4 : rows.length ≤ 4096) (hv : ∀ r ∈ rows, r.length = cs.length ∧ RowPre cs r) : colsErr cs (colsOf cs.length rows) = 0 := by
  have h0 : 0 < (colsOf cs.length rows).length := by rw [colsOf_len]; exact h1
  rw [colsErr_eq (n := rows.length) (colsOf_len _ _) h0 (by rw [colsOf_at, colOf_len])]
  have LF : lenOff rows.length (colsOf cs.length rows) = false := by
    unfold lenOff
    rw [List.any_eq_false]
    intro l hl
    obtain ⟨k, _, rfl⟩ := List.mem_map.1 hl
    simp [colOf_len]
  rw [LF, if_neg (by simp), if_neg (by omega)]
  refine valsErr_0 fun k hk hk' => listErr_0 fun v hvv => ?_
  rw [colsOf_at] at hvv
  obtain ⟨r, hr, rfl⟩ := List.mem_map.1 hvv
  obtain ⟨q1, q2⟩ := hv r hr
  rw [getDv_in (by rw [q1]; exact hk)]
  exact q2 k (by rw [q1]; exact hk) hk
theorem rowOf_colsOf {n k : Nat} {rows : List (List Val)} (hk : k < rows.length) (hl : (rows[k]'hk).length = n) : rowOf (colsOf n rows) k = rows[k]'hk := by
  refine List.ext_getElem (by simp [rowOf, colsOf, hl]) fun i h1 h2 => ?_
  have hi : i < n := by rw [← hl]; exact h2
  simp only [rowOf, colsOf, List.getElem_map, List.getElem_range]
  rw [getDv_in (by rw [colOf_len]; exact hk)]
  simp only [colOf, List.getElem_map]
  rw [getDv_in h2]
theorem filt_rows {cs : List Col} {ns : List Nod} {rows : List (List Val)} (h1 : 1 ≤ cs.length) (hl : ∀ r ∈ rows, r.length = cs.length) : filtF cs ns (colsOf cs.length rows) = rows.map fun r => evalF cs r ns := by
  have h0 : 0 < (colsOf cs.length rows).length := by rw [colsOf_len]; exact h1
  have hh : ((colsOf cs.length rows).headD []).length = rows.length := by rw [headD_at h0, colsOf_at, colOf_len]
  unfold filtF
  rw [hh]
  refine List.ext_getElem (by simp) fun i h1 h2 => ?_
  have hi : i < rows.length := by simpa using h1
  simp only [List.getElem_map, List.getElem_range]
  rw [rowOf_colsOf hi (hl _ (List.getElem_mem hi))]
end Go.Proofs.Ytploieofmnlomaa
