/-
  CHAPTER 26: Ves, Vch, Vfl (several texts in one). Conditions: each theorem states its own.
-/
import Derived.Test.YtpahoenanfjhpaaTstz
import Derived.Test.YtpahoenanfjhpaaZd
import Derived.Test.YtpahoenanfjhpaaZf
set_option linter.unusedVariables false
set_option linter.unusedSimpArgs false
namespace Go.Proofs.Ytpahoenanfjhpaa
open Go.RowKit
def listErr (c : Col) : List Val → Int
  | [] => 0
  | v :: r => if vchk c.ty c.nul v.null v.n v.s = 0 then listErr c r else vchk c.ty c.nul v.null v.n v.s
def valsErr : List Col → List (List Val) → Int
  | c :: cs, l :: ls => if listErr c l = 0 then valsErr cs ls else listErr c l
  | _, _ => 0
def lenOff (n : Nat) (cols : List (List Val)) : Bool := cols.any fun l => !decide (l.length = n)
/-- The first error of columns. -/
def colsErr (cs : List Col) (cols : List (List Val)) : Int :=
  if ¬ cols.length = cs.length then 1 else if lenOff (cols.headD []).length cols = true then 1 else if 4096 < (cols.headD []).length then 7 else valsErr cs cols
theorem listErr_ok {c : Col} {l : List Val} {k : Nat} (h : k < l.length) (h0 : vchk c.ty c.nul (l[k]'h).null (l[k]'h).n (l[k]'h).s = 0) : listErr c (l.drop k) = listErr c (l.drop (k + 1)) := by
  rw [List.drop_eq_getElem_cons h]
  simp only [listErr]
  rw [if_pos h0]
theorem listErr_bad {c : Col} {l : List Val} {k : Nat} (h : k < l.length) (h0 : ¬ vchk c.ty c.nul (l[k]'h).null (l[k]'h).n (l[k]'h).s = 0) : listErr c (l.drop k) = vchk c.ty c.nul (l[k]'h).null (l[k]'h).n (l[k]'h).s := by
  rw [List.drop_eq_getElem_cons h]
  simp only [listErr]
  rw [if_neg h0]
theorem valsErr_ok {cs : List Col} {ls : List (List Val)} {k : Nat} (h : k < cs.length) (h' : k < ls.length) (h0 : listErr (cs[k]'h) (ls[k]'(h')) = 0) : valsErr (cs.drop k) (ls.drop k) = valsErr (cs.drop (k + 1)) (ls.drop (k + 1)) := by
  rw [List.drop_eq_getElem_cons h, List.drop_eq_getElem_cons h']
  simp only [valsErr]
  rw [if_pos h0]
theorem valsErr_bad {cs : List Col} {ls : List (List Val)} {k : Nat} (h : k < cs.length) (h' : k < ls.length) (h0 : ¬ listErr (cs[k]'h) (ls[k]'(h')) = 0) : valsErr (cs.drop k) (ls.drop k) = listErr (cs[k]'h) (ls[k]'(h')) := by
  rw [List.drop_eq_getElem_cons h, List.drop_eq_getElem_cons h']
  simp only [valsErr]
  rw [if_neg h0]
theorem lenOff_step {n : Nat} {ls : List (List Val)} {k : Nat} (h : k < ls.length) : lenOff n (ls.drop k) = (!decide ((ls[k]'h).length = n) || lenOff n (ls.drop (k + 1))) := by
  unfold lenOff
  rw [List.drop_eq_getElem_cons h, List.any_cons]
theorem headD_at {ls : List (List Val)} (h : 0 < ls.length) : ls.headD [] = ls[0]'h := by
  cases ls with
  | nil => exact absurd h (by simp)
  | cons a r => rfl
/-- Row k of columns. -/
def rowOf (cols : List (List Val)) (k : Nat) : List Val := cols.map fun l => l.getD k Val.zero
/-- The truth values of the rows. -/
def filtF (cs : List Col) (ns : List Nod) (cols : List (List Val)) : List Int := (List.range (cols.headD []).length).map fun k => evalF cs (rowOf cols k) ns
end Go.Proofs.Ytpahoenanfjhpaa
namespace Go.Proofs.Ytpahoenanfjhpaa
open Go.RowKit
theorem colsErr_eq {cs : List Col} {cols : List (List Val)} {n : Nat} (h : cols.length = cs.length) (h0 : 0 < cols.length) (hn : (cols[0]'h0).length = n) : colsErr cs cols = if lenOff n cols = true then 1 else if 4096 < n then 7 else valsErr cs cols := by
  unfold colsErr
  rw [headD_at h0, hn, if_neg (by simpa using h)]
set_option maxRecDepth 8000 in
set_option maxHeartbeats 4000000 in
theorem colcheck_any (cv : Value) (cs : List Col) (key : Int) (rv : Value) (cols : List (List Val)) (w : World) (hc : ColsAt w w.heap.size cv cs) (hr : RowsAt w w.heap.size rv cols) (hc1 : 1 ≤ cs.length) :
    Calls Try.prog 59 #[.agg #[cv, .int .i64 key], rv] w fun e w' => e = .returned (.int .i64 (colsErr cs cols)) ∧ Below w.heap.size w w' := by
  obtain ⟨ca, cc, rfl⟩ := cols_end hc
  obtain ⟨ra, rc, rfl⟩ := rows_end hr
  obtain ⟨nc, hl⟩ : ∃ nc, cs.length = nc := ⟨_, rfl⟩
  obtain ⟨m, hm⟩ : ∃ m, cols.length = m := ⟨_, rfl⟩
  have h63 := hr.1
  have HC : Hid (ColsAt w w.heap.size (.slice ca nc cc) cs) := Lib.hid (by rw [← hl]; exact hc)
  have HRW : Hid (RowsAt w w.heap.size (.slice ra m rc) cols) := Lib.hid (by rw [← hm]; exact hr)
  have HM := Lib.hid hm
  have HL := Lib.hid hl
  rw [hl, hm]
  rw [hm] at h63
  rw [hl] at hc1
  obtain ⟨R, hR⟩ : ∃ R, colsErr cs cols = R := ⟨_, rfl⟩
  rw [hR]
  have HR := Lib.hid hR
  clear hc hr hl hm hR
  by_cases hne : m = nc
  · have hne' : ((m : Int) != (nc : Int)) = false := by simp; omega
    subst hne
    have hm0 : 0 < cols.length := by rw [HM.out]; exact hc1
    obtain ⟨b, o, rfl, _, hb, lv0, c0, hl0⟩ := rows_in HRW.out hm0
    obtain ⟨n, hn⟩ : ∃ n, (cols[0]'hm0).length = n := ⟨_, rfl⟩
    obtain ⟨la0, lc0, rfl⟩ := vals_end hl0
    rw [hn] at c0
    have n63 : n ≤ 9223372036854775807 := hn ▸ hl0.1
    have HE : Hid ((if lenOff n cols = true then 1 else if 4096 < n then 7 else valsErr cs cols) = R) := Lib.hid (by rw [← HR.out]; exact (colsErr_eq (by rw [HM.out, HL.out]) hm0 hn).symm)
    clear HR hl0
    go_enter Try.func59, Try.ntmps59
    go_upto_region 3 with fail
    refine captureP ?_
    intro y ey
    have yb : Below w.heap.size w y.it := by rw [ey]; exact (by repeat (first | with_reducible exact Below.refl _ _ | with_reducible assumption | with_reducible refine Below.al ?_ _ | with_reducible refine Below.on ?_ _ | with_reducible refine Below.st ?_ (by first | assumption | (simp; done) | (simp; omega)) _ | with_reducible refine Below.drew ?_))
    have y0 : y.it.cell? ⟨w.heap.size, 0, none⟩ = some (.slice ca m cc) := by rw [ey]; simp (maxDischargeDepth := 9) [go_sem, *]
    have yz : w.heap.size < y.it.heap.size := by rw [ey]; simp
    have k0 := (yb.cell (p := ⟨b, o, none⟩) hb).trans c0
    have zb : b < y.it.heap.size := by omega
    clear ey c0
    go_wp2_with fail
    go_loopg [20] m (fun g st wr => ∃ k : Nat, k + g = m ∧ st = .int .i64 (k : Int) ∧ lenOff n cols = lenOff n (cols.drop k) ∧ ∃ x : Ext y.it, x.it = wr)
    case atStart => exact ⟨0, by omega, rfl, by simp, ext_of (Below.refl _ _)⟩
    case round =>
      obtain ⟨k, hk, rfl, hF, x, rfl⟩ := hrel
      have hx := Below.on yb x
      have s0 := (x.cell w.heap.size 0 yz).trans y0
      have s1 := (x.cell b o zb).trans k0
      have zw := x.lt yz
      have zb' := x.lt zb
      by_cases hg0 : gk = 0
      · subst hg0
        obtain rfl : m = k := by omega
        have LF : lenOff n cols = false := by rw [hF, List.drop_of_length_le (by rw [HM.out]; exact Nat.le_refl _)]; rfl
        have HF : Hid ((if 4096 < n then 7 else valsErr cs cols) = R) := Lib.hid (by have h := HE.out; rw [LF, if_neg (by simp)] at h; exact h)
        clear LF
        clear hF hk HE
        by_cases n4 : 4096 < n
        · have n4' : (4096 : Int) < (n : Int) := by omega
          obtain rfl : 7 = R := by rw [← HF.out, if_pos n4]
          go_wp2
          exact bodyPost_ret (v := .int .i64 7) (by simp [results, Try.results59, go_sem, *]) rfl (⟨rfl, by repeat (first | with_reducible exact Below.refl _ _ | with_reducible assumption | with_reducible refine Below.al ?_ _ | with_reducible refine Below.on ?_ _ | with_reducible refine Below.st ?_ (by first | assumption | (simp; done) | (simp; omega)) _ | with_reducible refine Below.drew ?_)⟩)
        · have n4' : ¬ (4096 : Int) < (n : Int) := by omega
          have HV : Hid (valsErr cs cols = R) := Lib.hid (by have h := HF.out; rw [if_neg n4] at h; exact h)
          clear HF
          go_wp2_with fail
          go_loopg [39] m (fun g st wr => ∃ k : Nat, k + g = m ∧ st = .int .i64 (k : Int) ∧ valsErr (cs.drop k) (cols.drop k) = R ∧ ∃ x' : Ext y.it, x'.it = wr)
          case atStart => exact ⟨0, by omega, rfl, by simpa using HV.out, x, rfl⟩
          case round =>
            clear HV s0 s1 zw zb' hx x
            obtain ⟨k, hk, rfl, hF, x, rfl⟩ := hrel
            obtain ⟨og, rfl⟩ : ∃ og, og = gk := ⟨_, rfl⟩
            have hx := Below.on yb x
            have s0 := (x.cell w.heap.size 0 yz).trans y0
            have zw := x.lt yz
            by_cases hg0 : og = 0
            · subst hg0
              obtain rfl : k = m := by omega
              obtain rfl : 0 = R := by rw [← hF, List.drop_of_length_le (by rw [HL.out]; exact Nat.le_refl _)]; rfl
              clear hF hk
              go_wp2
              exact bodyPost_ret (v := .int .i64 0) (by simp [results, Try.results59, go_sem, *]) rfl (⟨rfl, by repeat (first | with_reducible exact Below.refl _ _ | with_reducible assumption | with_reducible refine Below.al ?_ _ | with_reducible refine Below.on ?_ _ | with_reducible refine Below.st ?_ (by first | assumption | (simp; done) | (simp; omega)) _ | with_reducible refine Below.drew ?_)⟩)
            · have hkm : k < m := by omega
              have hkm' : (k : Int) < (m : Int) := by omega
              have hkr : k < cols.length := by rw [HM.out]; exact hkm
              have hkc : k < cs.length := by rw [HL.out]; exact hkm
              obtain ⟨rb, ro, hab, _, hrb, lv, e0, hl⟩ := rows_in HRW.out hkr
              injection hab with hab
              injection hab with hb1 hb2
              subst hb1 hb2
              obtain ⟨la, lc, rfl⟩ := vals_end hl
              have OKL := Lib.hid (valsErr_ok hkc hkr)
              have BDL := Lib.hid (valsErr_bad hkc hkr)
              obtain ⟨cb, co, rfl, _, hcb, d0, d1, d2, d3⟩ := cols_in HC.out hkc
              obtain ⟨c, hcc⟩ : ∃ c, cs[k]'hkc = c := ⟨_, rfl⟩
              obtain ⟨l, hll⟩ : ∃ l, cols[k]'hkr = l := ⟨_, rfl⟩
              rw [hcc] at OKL BDL d0 d1 d2 d3
              rw [hll] at OKL BDL hl e0
              obtain ⟨nl, hnl⟩ : ∃ nl, l.length = nl := ⟨_, rfl⟩
              rw [hnl] at e0 hl
              have HNL := Lib.hid hnl
              have nl63 : nl ≤ 9223372036854775807 := hnl ▸ hl.1
              have HLV := Lib.hid hl
              obtain ⟨cn, ty, sc, nul⟩ := c
              dsimp only at d0 d1 d2 d3
              have g0 := (hx.cell (p := ⟨b, o + k, none⟩) hrb).trans e0
              have zr := Nat.lt_of_lt_of_le hrb hx.size
              have HK := Lib.hid (And.intro hk hg0)
              have HF := Lib.hid hF
              clear e0 hl hnl hk hg0 hcc hll hF
              go_upto_region 14 with fail
              go_wp2_with fail
              go_loopg [46] nl (fun g st wr => ∃ j : Nat, j + g = nl ∧ st = .int .i64 (j : Int) ∧ listErr ⟨cn, ty, sc, nul⟩ l = listErr ⟨cn, ty, sc, nul⟩ (l.drop j) ∧ ∃ x' : Ext y.it, x'.it = wr)
              case atStart => exact ⟨0, by omega, rfl, by simp, x, rfl⟩
              case round =>
                clear s0 zw g0 zr hx x
                obtain ⟨j, hj, rfl, hG, x, rfl⟩ := hrel
                have hx := Below.on yb x
                have s0 := (x.cell w.heap.size 0 yz).trans y0
                have zw := x.lt yz
                by_cases hgi : gk = 0
                · subst hgi
                  obtain rfl : j = nl := by omega
                  have E0 : listErr ⟨cn, ty, sc, nul⟩ l = 0 := by rw [hG, List.drop_of_length_le (by rw [HNL.out]; exact Nat.le_refl _)]; rfl
                  have HF2 := Lib.hid ((OKL.out E0).symm.trans HF.out)
                  clear hG hj E0
                  go_wp2_with fail
                  go_roundg (og - 1)
                  case measure => have := HK.out; omega
                  case rel => exact ⟨k + 1, by have := HK.out; omega, by go_num, HF2.out, x, rfl⟩
                · have hjm : j < nl := by omega
                  have hjm' : (j : Int) < (nl : Int) := by omega
                  have hjl : j < l.length := by rw [HNL.out]; exact hjm
                  obtain ⟨vb, vo, rfl, _, hvb, f0, f1, f2⟩ := vals_in HLV.out hjl
                  have OKV := listErr_ok (c := ⟨cn, ty, sc, nul⟩) hjl
                  have BDV := listErr_bad (c := ⟨cn, ty, sc, nul⟩) hjl
                  obtain ⟨u, hu⟩ : ∃ u, l[j]'hjl = u := ⟨_, rfl⟩
                  rw [hu] at OKV BDV f0 f1 f2
                  rw [← hG] at OKV BDV
                  obtain ⟨un, ui, us⟩ := u
                  dsimp only at OKV BDV f0 f1 f2
                  have c0 := (hx.cell (p := ⟨cb, co + k * 4, none⟩) hcb).trans d0
                  have c1 := (hx.cell (p := ⟨cb, co + k * 4 + 1, none⟩) hcb).trans d1
                  have c2 := (hx.cell (p := ⟨cb, co + k * 4 + 2, none⟩) hcb).trans d2
                  have c3 := (hx.cell (p := ⟨cb, co + k * 4 + 3, none⟩) hcb).trans d3
                  have k0' := (hx.cell (p := ⟨vb, vo + j * 3, none⟩) hvb).trans f0
                  have k1' := (hx.cell (p := ⟨vb, vo + j * 3 + 1, none⟩) hvb).trans f1
                  have k2' := (hx.cell (p := ⟨vb, vo + j * 3 + 2, none⟩) hvb).trans f2
                  have zc : cb < x.it.heap.size := Nat.lt_of_lt_of_le hcb hx.size
                  have zv : vb < x.it.heap.size := Nat.lt_of_lt_of_le hvb hx.size
                  have HJ := Lib.hid (And.intro hj hgi)
                  obtain ⟨ve, hve⟩ : ∃ ve, vchk ty nul un ui us = ve := ⟨_, rfl⟩
                  rw [hve] at OKV BDV
                  have RV := Lib.hid (fun W => (by have h := vcheck_any cn ty sc nul un ui us W; rw [hve] at h; exact h : Calls Try.prog 78 #[.agg #[.string cn, .int .i64 ty, .int .i64 sc, .bool nul], .agg #[.bool un, .int .i64 ui, .string us]] W fun e w' => e = .returned (.int .i64 ve) ∧ Below W.heap.size W w'))
                  clear f0 f1 f2 hu hj hgi hG hve
                  go_upto_region 17 with fail
                  refine wp_region_ext (by kernel_rfl) (by kernel_rfl) ?_
                  repeat (go_big_quiet_step (((go_at_call 78; exact Calls.ext (RV.out _)))))
                  refine wpQuiet_nil ?_
                  rintro _ ⟨x5, rfl⟩
                  by_cases v0 : ve = 0
                  · have v0' : (ve != 0) = false := by simpa using v0
                    have OK := Lib.hid (OKV v0)
                    clear OKV BDV
                    go_wp2_with fail
                    go_roundg (gk - 1)
                    case measure => have := HJ.out; omega
                    case rel => exact ⟨j + 1, by have := HJ.out; omega, by go_num, OK.out, ext_of (Below.on (Below.al x.below _) x5)⟩
                  · have v0' : (ve != 0) = true := by simpa using v0
                    have BD := BDV v0
                    obtain rfl : ve = R := by rw [← HF.out, BDL.out (by rw [BD]; exact v0), BD]
                    clear OKV BDV BD
                    go_wp2
                    exact bodyPost_ret (v := .int .i64 ve) (by simp [results, Try.results59, go_sem, *]) rfl (⟨rfl, by repeat (first | with_reducible exact Below.refl _ _ | with_reducible assumption | with_reducible refine Below.al ?_ _ | with_reducible refine Below.on ?_ _ | with_reducible refine Below.st ?_ (by first | assumption | (simp; done) | (simp; omega)) _ | with_reducible refine Below.drew ?_)⟩)
      · have hkm : k < m := by omega
        have hkm' : (k : Int) < (m : Int) := by omega
        have hkr : k < cols.length := by rw [HM.out]; exact hkm
        obtain ⟨rb, ro, hab, _, hrb, lv, e0, hl⟩ := rows_in HRW.out hkr
        injection hab with hab
        injection hab with hb1 hb2
        subst hb1 hb2
        obtain ⟨la, lc, rfl⟩ := vals_end hl
        rw [lenOff_step hkr] at hF
        obtain ⟨nl, hnl⟩ : ∃ nl, (cols[k]'hkr).length = nl := ⟨_, rfl⟩
        rw [hnl] at hF e0
        have g0 := (hx.cell (p := ⟨b, o + k, none⟩) hrb).trans e0
        have HK := Lib.hid (And.intro hk hg0)
        clear e0 hl hnl hk hg0
        by_cases hq : nl = n
        · have hq' : ((nl : Int) != (n : Int)) = false := by simp; omega
          have HF := Lib.hid (show lenOff n cols = lenOff n (cols.drop (k + 1)) by rw [hF, decide_eq_true hq]; rfl)
          subst hq
          clear hF
          go_wp2
          go_roundg (gk - 1)
          case measure => have := HK.out; omega
          case rel => exact ⟨k + 1, by have := HK.out; omega, by go_num, HF.out, x, rfl⟩
        · have hq' : ((nl : Int) != (n : Int)) = true := by simp; omega
          obtain rfl : 1 = R := by rw [← HE.out, if_pos (by rw [hF, decide_eq_false hq]; rfl)]
          clear hF HE hq
          go_wp2
          exact bodyPost_ret (v := .int .i64 1) (by simp [results, Try.results59, go_sem, *]) rfl (⟨rfl, by repeat (first | with_reducible exact Below.refl _ _ | with_reducible assumption | with_reducible refine Below.al ?_ _ | with_reducible refine Below.on ?_ _ | with_reducible refine Below.st ?_ (by first | assumption | (simp; done) | (simp; omega)) _ | with_reducible refine Below.drew ?_)⟩)
  · have hne' : ((m : Int) != (nc : Int)) = true := by simp; omega
    obtain rfl : 1 = R := by rw [← HR.out]; unfold colsErr; rw [if_pos (by rw [HM.out, HL.out]; exact hne)]
    clear HR hne
    go_enter Try.func59, Try.ntmps59
    go_wp2
    exact bodyPost_ret (v := .int .i64 1) (by simp [results, Try.results59, go_sem, *]) rfl (⟨rfl, by repeat (first | with_reducible exact Below.refl _ _ | with_reducible assumption | with_reducible refine Below.al ?_ _ | with_reducible refine Below.on ?_ _ | with_reducible refine Below.st ?_ (by first | assumption | (simp; done) | (simp; omega)) _ | with_reducible refine Below.drew ?_)⟩)
end Go.Proofs.Ytpahoenanfjhpaa
namespace Go.Proofs.Ytpahoenanfjhpaa
open Go.RowKit
/-- The truth value of node j in row k. -/
def vT (cs : List Col) (ns : List Nod) (cols : List (List Val)) (j k : Nat) : Int := (accT cs (rowOf cols k) ns).getD j 0
theorem accT_take (cs : List Col) (row : List Val) (ns : List Nod) (k : Nat) : ∀ n, n ≤ ns.length → k ≤ n → (accT cs row (ns.take n)).take k = accT cs row (ns.take k)
  | 0, _, hk => by obtain rfl : k = 0 := by omega
                   rfl
  | n + 1, hn, hk => by
    have ln : (accT cs row (ns.take n)).length = n := by rw [accT_len, List.length_take]; omega
    rcases Nat.lt_or_ge n k with q | q
    · obtain rfl : k = n + 1 := by omega
      rw [List.take_of_length_le (by rw [accT_len, List.length_take]; omega)]
    · rw [accT_succ cs row (by omega : n < ns.length), List.take_append_of_le_length (by omega)]
      exact accT_take cs row ns k n (by omega) q
theorem accT_at {cs : List Col} {row : List Val} {ns : List Nod} {i j : Nat} (hi : i ≤ ns.length) (hj : j < i) : (accT cs row (ns.take i)).getD j 0 = (accT cs row ns).getD j 0 := by
  have h := accT_take cs row ns i ns.length (Nat.le_refl _) hi
  rw [List.take_of_length_le (Nat.le_refl _)] at h
  rw [← h, List.getD_eq_getElem?_getD, List.getD_eq_getElem?_getD, List.getElem?_take_of_lt hj]
theorem accT_3 (cs : List Col) (row : List Val) (ns : List Nod) : ∀ n, n ≤ ns.length → ∀ a ∈ accT cs row (ns.take n), T3 a
  | 0, _, a, ha => absurd ha (by simp [accT])
  | n + 1, hn, a, ha => by
    rw [accT_succ cs row (by omega : n < ns.length)] at ha
    rcases List.mem_append.1 ha with q | q
    · exact accT_3 cs row ns n (by omega) a q
    · rw [List.mem_singleton.1 q]; exact stepT_3 cs row (accT_3 cs row ns n (by omega)) _
theorem vT_3 (cs : List Col) (ns : List Nod) (cols : List (List Val)) (j k : Nat) : T3 (vT cs ns cols j k) := by
  have h := accT_3 cs (rowOf cols k) ns ns.length (Nat.le_refl _)
  rw [List.take_of_length_le (Nat.le_refl _)] at h
  exact getD_3 h j
theorem vT_step {cs : List Col} {ns : List Nod} {cols : List (List Val)} {i : Nat} (k : Nat) (hi : i < ns.length) (hn : nodE cs i (ns[i]'hi) = 0) :
    vT cs ns cols i k = if (ns[i]'hi).op = 9 then andT (vT cs ns cols (ns[i]'hi).a.toNat k) (vT cs ns cols (ns[i]'hi).b.toNat k) else if (ns[i]'hi).op = 10 then orT (vT cs ns cols (ns[i]'hi).a.toNat k) (vT cs ns cols (ns[i]'hi).b.toNat k) else if (ns[i]'hi).op = 11 then notT (vT cs ns cols (ns[i]'hi).a.toNat k) else leafT (colTy cs (ns[i]'hi).col) (ns[i]'hi) ((rowOf cols k).getD (ns[i]'hi).col.toNat Val.zero) := by
  have hd := nodE_ok hn
  have e : vT cs ns cols i k = stepT cs (rowOf cols k) (accT cs (rowOf cols k) (ns.take i)) (ns[i]'hi) := by
    unfold vT
    rw [← accT_at (i := i + 1) (by omega) (by omega), accT_succ cs (rowOf cols k) hi]
    have ln : (accT cs (rowOf cols k) (ns.take i)).length = i := by rw [accT_len, List.length_take]; omega
    rw [List.getD_eq_getElem?_getD, List.getElem?_append_right (by omega), ln, Nat.sub_self]; rfl
  rw [e]
  unfold stepT
  by_cases o9 : (ns[i]'hi).op = 9
  · have a := hd.2.2.1 (by omega)
    have b := hd.2.2.2 (by omega) (by omega)
    rw [if_pos o9, if_pos o9, accT_at (by omega) (by omega), accT_at (by omega) (by omega)]; rfl
  rw [if_neg o9, if_neg o9]
  by_cases o10 : (ns[i]'hi).op = 10
  · have a := hd.2.2.1 (by omega)
    have b := hd.2.2.2 (by omega) (by omega)
    rw [if_pos o10, if_pos o10, accT_at (by omega) (by omega), accT_at (by omega) (by omega)]; rfl
  rw [if_neg o10, if_neg o10]
  by_cases o11 : (ns[i]'hi).op = 11
  · have a := hd.2.2.1 (by omega)
    rw [if_pos o11, if_pos o11, accT_at (by omega) (by omega)]; rfl
  rw [if_neg o11, if_neg o11]
/-- The truth values of node j, row by row. -/
def vR (cs : List Col) (ns : List Nod) (cols : List (List Val)) (N j : Nat) : List Int := (List.range N).map fun k => vT cs ns cols j k
theorem vR_len (cs : List Col) (ns : List Nod) (cols : List (List Val)) (N j : Nat) : (vR cs ns cols N j).length = N := by simp [vR]
theorem vR_at {cs : List Col} {ns : List Nod} {cols : List (List Val)} {N j k : Nat} (h : k < (vR cs ns cols N j).length) : (vR cs ns cols N j)[k]'h = vT cs ns cols j k := by simp [vR]
theorem vR_3 (cs : List Col) (ns : List Nod) (cols : List (List Val)) (N j : Nat) : ∀ a ∈ vR cs ns cols N j, T3 a := by
  intro a ha
  obtain ⟨k, _, rfl⟩ := List.mem_map.1 ha
  exact vT_3 _ _ _ _ _
theorem vR_take {cs : List Col} {ns : List Nod} {cols : List (List Val)} {N j k : Nat} (h : k < N) : (vR cs ns cols N j).take (k + 1) = (vR cs ns cols N j).take k ++ [vT cs ns cols j k] := by
  rw [List.take_succ_eq_append_getElem (by rw [vR_len]; exact h), vR_at]
/-- What is returned when i nodes are done. -/
def outT (cs : List Col) (ns : List Nod) (cols : List (List Val)) (N i : Nat) : List Int := if i = 0 then List.replicate N 1 else vR cs ns cols N (i - 1)
theorem outT_all (cs : List Col) (ns : List Nod) (cols : List (List Val)) : outT cs ns cols (cols.headD []).length ns.length = filtF cs ns cols := by
  unfold outT filtF
  by_cases h : ns.length = 0
  · have e : ns = [] := List.eq_nil_of_length_eq_zero h
    subst e
    rw [if_pos (show ([] : List Nod).length = 0 from rfl)]
    refine List.ext_getElem (by simp) fun i h1 h2 => ?_
    simp [evalF, accT]
  · rw [if_neg h]
    unfold vR
    refine List.map_congr_left fun k _ => ?_
    unfold vT evalF
    rw [List.getLast?_eq_getElem?, List.getD_eq_getElem?_getD, accT_len, List.getElem?_eq_getElem (by rw [accT_len]; omega)]
    rfl
/-- The results so far, in the blocks bl; their list in block TB. -/
structure FlMem (w : World) (TB m N : Nat) (R : Nat → List Int) (bl : List Nat) : Prop where
  lt : TB < w.heap.size
  le : bl.length ≤ m
  th : ∀ j, j < m → (∃ u, w.cell? ⟨TB, j, none⟩ = some u) ∧ w.frozen? ⟨TB, j, none⟩ = false
  lv : ∀ i (h : i < bl.length), w.cell? ⟨TB, i, none⟩ = some (.slice (some ⟨bl[i]'h, 0, none⟩) N N) ∧ bl[i]'h < w.heap.size ∧ bl[i]'h ≠ TB ∧ ∀ k, k < N → w.cell? ⟨bl[i]'h, k, none⟩ = some (.int .i64 ((R i).getD k 0))
theorem FlMem.to {w w' : World} {TB m N : Nat} {R : Nat → List Int} {bl : List Nat} (h : FlMem w TB m N R bl) (hb : Below w.heap.size w w') : FlMem w' TB m N R bl :=
  ⟨Nat.lt_of_lt_of_le h.lt hb.size, h.le, fun j hj => ⟨(h.th j hj).1.imp fun u hu => (hb.cell (p := ⟨TB, j, none⟩) h.lt).trans hu, (hb.frozen (p := ⟨TB, j, none⟩) h.lt).trans (h.th j hj).2⟩,
    fun i hi => ⟨(hb.cell (p := ⟨TB, i, none⟩) h.lt).trans (h.lv i hi).1, Nat.lt_of_lt_of_le (h.lv i hi).2.1 hb.size, (h.lv i hi).2.2.1, fun k hk => (hb.cell (p := ⟨bl[i]'hi, k, none⟩) (h.lv i hi).2.1).trans ((h.lv i hi).2.2.2 k hk)⟩⟩
theorem FlMem.step {w : World} {TB LB m N : Nat} {R : Nat → List Int} {bl : List Nat} (h : FlMem w TB m N R bl) (hm : bl.length < m) (hl : LB < w.heap.size) (hne : LB ≠ TB) (hR : ∀ k, k < N → w.cell? ⟨LB, k, none⟩ = some (.int .i64 ((R bl.length).getD k 0))) :
    FlMem (w.setCell ⟨TB, bl.length, none⟩ (.slice (some ⟨LB, 0, none⟩) N N)) TB m N R (bl ++ [LB]) := by
  obtain ⟨⟨u, hu⟩, hf⟩ := h.th bl.length hm
  have same := World.cell?_setCell_same w ⟨TB, bl.length, none⟩ (.slice (some ⟨LB, 0, none⟩) N N) hu
  have other : ∀ j, j ≠ bl.length → (w.setCell ⟨TB, bl.length, none⟩ (.slice (some ⟨LB, 0, none⟩) N N)).cell? ⟨TB, j, none⟩ = w.cell? ⟨TB, j, none⟩ := fun j hj => World.cell?_setCell_other _ _ _ _ (by intro e; injection e with _ e; exact hj e.symm)
  have far : ∀ b j, b ≠ TB → (w.setCell ⟨TB, bl.length, none⟩ (.slice (some ⟨LB, 0, none⟩) N N)).cell? ⟨b, j, none⟩ = w.cell? ⟨b, j, none⟩ := fun b j hb => World.cell?_setCell_other _ _ _ _ (by intro e; injection e with e; exact hb e.symm)
  have sz : (w.setCell ⟨TB, bl.length, none⟩ (.slice (some ⟨LB, 0, none⟩) N N)).heap.size = w.heap.size := World.size_setCell _ _ _
  refine ⟨by rw [sz]; exact h.lt, by simp; omega, fun j hj => ⟨?_, by rw [World.frozen?_setCell]; exact (h.th j hj).2⟩, fun i hi => ?_⟩
  · by_cases e : j = bl.length
    · subst e; exact ⟨_, same⟩
    · rw [other j e]; exact (h.th j hj).1
  · rcases Nat.lt_or_ge i bl.length with q | q
    · rw [List.getElem_append_left q, other i (by omega), sz]
      obtain ⟨h1, h2, h3, h4⟩ := h.lv i q
      exact ⟨h1, h2, h3, fun k hk => (far _ k h3).trans (h4 k hk)⟩
    · obtain rfl : i = bl.length := by simp at hi; omega
      have e : (bl ++ [LB])[bl.length]'hi = LB := by simp
      rw [e, sz]
      exact ⟨same, hl, hne, fun k hk => (far _ k hne).trans (hR k hk)⟩
/-- A list of truth values in block OB. -/
def OutAt (w : World) (OB N : Nat) (l : List Int) : Prop := OB < w.heap.size ∧ l.length = N ∧ ∀ k, k < N → w.cell? ⟨OB, k, none⟩ = some (.int .i64 (l.getD k 0))
theorem OutAt.to {w w' : World} {OB N : Nat} {l : List Int} (h : OutAt w OB N l) (hb : Below w.heap.size w w') : OutAt w' OB N l :=
  ⟨Nat.lt_of_lt_of_le h.1 hb.size, h.2.1, fun k hk => (hb.cell (p := ⟨OB, k, none⟩) h.1).trans (h.2.2 k hk)⟩
theorem OutAt.of {w : World} {OB N : Nat} {l : List Int} (h : EvMem w OB N l) (hl : l.length = N) : OutAt w OB N l :=
  ⟨h.lt, hl, fun k hk => by
    have := h.lv k (by omega)
    rw [List.getD_eq_getElem?_getD, List.getElem?_eq_getElem (by omega)]; exact this⟩
theorem OutAt.ints {w : World} {OB N : Nat} {l : List Int} (h : OutAt w OB N l) (hN : N ≤ 9223372036854775807) (h3 : ∀ a ∈ l, T3 a) : IntsAt w w.heap.size (.slice (some ⟨OB, 0, none⟩) N N) l := by
  refine ⟨fun z hz => by rcases h3 z hz with rfl | rfl | rfl <;> unfold isI <;> omega, by rw [h.2.1]; exact hN, .inr ⟨OB, 0, N, by rw [h.2.1], h.1, fun j hj => ?_⟩⟩
  rw [Nat.zero_add]
  exact h.2.2 j (by rw [← h.2.1]; exact hj)
theorem outT_3 (cs : List Col) (ns : List Nod) (cols : List (List Val)) (N i : Nat) : ∀ a ∈ outT cs ns cols N i, T3 a := by
  unfold outT
  split
  · intro a ha; rw [List.eq_of_mem_replicate ha]; exact .inr (.inl rfl)
  · exact vR_3 _ _ _ _ _
end Go.Proofs.Ytpahoenanfjhpaa
