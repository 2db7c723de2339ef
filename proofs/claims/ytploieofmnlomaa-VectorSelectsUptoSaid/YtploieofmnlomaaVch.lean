/-
  FILTERS: vector.check of whatever columns: 'colsErr'. Conditions: the schema has a column; it and the columns lie in memory as 'ColsAt', 'RowsAt' say.
-/
import Derived.Test.YtploieofmnlomaaVes
set_option linter.unusedVariables false
set_option linter.unusedSimpArgs false
namespace Go.Proofs.Ytploieofmnlomaa
open Go.RowKit
theorem colsErr_eq {cs : List Col} {cols : List (List Val)} {n : Nat} (h : cols.length = cs.length) (h0 : 0 < cols.length) (hn : (cols[0]'h0).length = n) : colsErr cs cols = if lenOff n cols = true then 1 else if 4096 < n then 7 else valsErr cs cols := by
  unfold colsErr
  rw [headD_at h0, hn, if_neg (by simpa using h)]
set_option maxRecDepth 8000 in
set_option maxHeartbeats 4000000 in
theorem colcheck_any (cv : Value) (cs : List Col) (key : Int) (rv : Value) (cols : List (List Val)) (w : World) (hc : ColsAt w w.heap.size cv cs) (hr : RowsAt w w.heap.size rv cols) (hc1 : 1 ≤ cs.length) :
    Calls Try.prog 33 #[.agg #[cv, .int .i64 key], rv] w fun e w' => e = .returned (.int .i64 (colsErr cs cols)) ∧ Below w.heap.size w w' := by
  obtain ⟨ca, cc, rfl⟩ := cols_end hc
  obtain ⟨ra, rc, rfl⟩ := rows_end hr
  obtain ⟨nc, hl⟩ : ∃ nc, cs.length = nc := ⟨_, rfl⟩
  obtain ⟨m, hm⟩ : ∃ m, cols.length = m := ⟨_, rfl⟩
  have h63 := hr.1
  have HC : Hid (ColsAt w w.heap.size (.slice ca nc cc) cs) := Lib.hid (by rw [← hl]; exact hc)
  have HRW : Hid (RowsAt w w.heap.size (.slice ra m rc) cols) := Lib.hid (by rw [← hm]; exact hr)
  have HM := Lib.hid hm
  have HL := Lib.hid hl
  rw [hl, hm]
  rw [hm] at h63
  rw [hl] at hc1
  obtain ⟨R, hR⟩ : ∃ R, colsErr cs cols = R := ⟨_, rfl⟩
  rw [hR]
  have HR := Lib.hid hR
  clear hc hr hl hm hR
  by_cases hne : m = nc
  · have hne' : ((m : Int) != (nc : Int)) = false := by simp; omega
    subst hne
    have hm0 : 0 < cols.length := by rw [HM.out]; exact hc1
    obtain ⟨b, o, rfl, _, hb, lv0, c0, hl0⟩ := rows_in HRW.out hm0
    obtain ⟨n, hn⟩ : ∃ n, (cols[0]'hm0).length = n := ⟨_, rfl⟩
    obtain ⟨la0, lc0, rfl⟩ := vals_end hl0
    rw [hn] at c0
    have n63 : n ≤ 9223372036854775807 := hn ▸ hl0.1
    have HE : Hid ((if lenOff n cols = true then 1 else if 4096 < n then 7 else valsErr cs cols) = R) := Lib.hid (by rw [← HR.out]; exact (colsErr_eq (by rw [HM.out, HL.out]) hm0 hn).symm)
    clear HR hl0
    go_enter Try.func33, Try.ntmps33
    go_upto_region 3 with fail
    refine captureP ?_
    intro y ey
    have yb : Below w.heap.size w y.it := by rw [ey]; exact (by repeat (first | with_reducible exact Below.refl _ _ | with_reducible assumption | with_reducible refine Below.al ?_ _ | with_reducible refine Below.on ?_ _ | with_reducible refine Below.st ?_ (by first | assumption | (simp; done) | (simp; omega)) _ | with_reducible refine Below.drew ?_))
    have y0 : y.it.cell? ⟨w.heap.size, 0, none⟩ = some (.slice ca m cc) := by rw [ey]; simp (maxDischargeDepth := 9) [go_sem, *]
    have yz : w.heap.size < y.it.heap.size := by rw [ey]; simp
    have k0 := (yb.cell (p := ⟨b, o, none⟩) hb).trans c0
    have zb : b < y.it.heap.size := by omega
    clear ey c0
    go_wp2_with fail
    go_loopg [20] m (fun g st wr => ∃ k : Nat, k + g = m ∧ st = .int .i64 (k : Int) ∧ lenOff n cols = lenOff n (cols.drop k) ∧ ∃ x : Ext y.it, x.it = wr)
    case atStart => exact ⟨0, by omega, rfl, by simp, ext_of (Below.refl _ _)⟩
    case round =>
      obtain ⟨k, hk, rfl, hF, x, rfl⟩ := hrel
      have hx := Below.on yb x
      have s0 := (x.cell w.heap.size 0 yz).trans y0
      have s1 := (x.cell b o zb).trans k0
      have zw := x.lt yz
      have zb' := x.lt zb
      by_cases hg0 : gk = 0
      · subst hg0
        obtain rfl : m = k := by omega
        have LF : lenOff n cols = false := by rw [hF, List.drop_of_length_le (by rw [HM.out]; exact Nat.le_refl _)]; rfl
        have HF : Hid ((if 4096 < n then 7 else valsErr cs cols) = R) := Lib.hid (by have h := HE.out; rw [LF, if_neg (by simp)] at h; exact h)
        clear LF
        clear hF hk HE
        by_cases n4 : 4096 < n
        · have n4' : (4096 : Int) < (n : Int) := by omega
          obtain rfl : 7 = R := by rw [← HF.out, if_pos n4]
          go_wp2
          exact bodyPost_ret (v := .int .i64 7) (by simp [results, Try.results33, go_sem, *]) rfl (⟨rfl, by repeat (first | with_reducible exact Below.refl _ _ | with_reducible assumption | with_reducible refine Below.al ?_ _ | with_reducible refine Below.on ?_ _ | with_reducible refine Below.st ?_ (by first | assumption | (simp; done) | (simp; omega)) _ | with_reducible refine Below.drew ?_)⟩)
        · have n4' : ¬ (4096 : Int) < (n : Int) := by omega
          have HV : Hid (valsErr cs cols = R) := Lib.hid (by have h := HF.out; rw [if_neg n4] at h; exact h)
          clear HF
          go_wp2_with fail
          go_loopg [39] m (fun g st wr => ∃ k : Nat, k + g = m ∧ st = .int .i64 (k : Int) ∧ valsErr (cs.drop k) (cols.drop k) = R ∧ ∃ x' : Ext y.it, x'.it = wr)
          case atStart => exact ⟨0, by omega, rfl, by simpa using HV.out, x, rfl⟩
          case round =>
            clear HV s0 s1 zw zb' hx x
            obtain ⟨k, hk, rfl, hF, x, rfl⟩ := hrel
            obtain ⟨og, rfl⟩ : ∃ og, og = gk := ⟨_, rfl⟩
            have hx := Below.on yb x
            have s0 := (x.cell w.heap.size 0 yz).trans y0
            have zw := x.lt yz
            by_cases hg0 : og = 0
            · subst hg0
              obtain rfl : k = m := by omega
              obtain rfl : 0 = R := by rw [← hF, List.drop_of_length_le (by rw [HL.out]; exact Nat.le_refl _)]; rfl
              clear hF hk
              go_wp2
              exact bodyPost_ret (v := .int .i64 0) (by simp [results, Try.results33, go_sem, *]) rfl (⟨rfl, by repeat (first | with_reducible exact Below.refl _ _ | with_reducible assumption | with_reducible refine Below.al ?_ _ | with_reducible refine Below.on ?_ _ | with_reducible refine Below.st ?_ (by first | assumption | (simp; done) | (simp; omega)) _ | with_reducible refine Below.drew ?_)⟩)
            · have hkm : k < m := by omega
              have hkm' : (k : Int) < (m : Int) := by omega
              have hkr : k < cols.length := by rw [HM.out]; exact hkm
              have hkc : k < cs.length := by rw [HL.out]; exact hkm
              obtain ⟨rb, ro, hab, _, hrb, lv, e0, hl⟩ := rows_in HRW.out hkr
              injection hab with hab
              injection hab with hb1 hb2
              subst hb1 hb2
              obtain ⟨la, lc, rfl⟩ := vals_end hl
              have OKL := Lib.hid (valsErr_ok hkc hkr)
              have BDL := Lib.hid (valsErr_bad hkc hkr)
              obtain ⟨cb, co, rfl, _, hcb, d0, d1, d2, d3⟩ := cols_in HC.out hkc
              obtain ⟨c, hcc⟩ : ∃ c, cs[k]'hkc = c := ⟨_, rfl⟩
              obtain ⟨l, hll⟩ : ∃ l, cols[k]'hkr = l := ⟨_, rfl⟩
              rw [hcc] at OKL BDL d0 d1 d2 d3
              rw [hll] at OKL BDL hl e0
              obtain ⟨nl, hnl⟩ : ∃ nl, l.length = nl := ⟨_, rfl⟩
              rw [hnl] at e0 hl
              have HNL := Lib.hid hnl
              have nl63 : nl ≤ 9223372036854775807 := hnl ▸ hl.1
              have HLV := Lib.hid hl
              obtain ⟨cn, ty, sc, nul⟩ := c
              dsimp only at d0 d1 d2 d3
              have g0 := (hx.cell (p := ⟨b, o + k, none⟩) hrb).trans e0
              have zr := Nat.lt_of_lt_of_le hrb hx.size
              have HK := Lib.hid (And.intro hk hg0)
              have HF := Lib.hid hF
              clear e0 hl hnl hk hg0 hcc hll hF
              go_upto_region 14 with fail
              go_wp2_with fail
              go_loopg [46] nl (fun g st wr => ∃ j : Nat, j + g = nl ∧ st = .int .i64 (j : Int) ∧ listErr ⟨cn, ty, sc, nul⟩ l = listErr ⟨cn, ty, sc, nul⟩ (l.drop j) ∧ ∃ x' : Ext y.it, x'.it = wr)
              case atStart => exact ⟨0, by omega, rfl, by simp, x, rfl⟩
              case round =>
                clear s0 zw g0 zr hx x
                obtain ⟨j, hj, rfl, hG, x, rfl⟩ := hrel
                have hx := Below.on yb x
                have s0 := (x.cell w.heap.size 0 yz).trans y0
                have zw := x.lt yz
                by_cases hgi : gk = 0
                · subst hgi
                  obtain rfl : j = nl := by omega
                  have E0 : listErr ⟨cn, ty, sc, nul⟩ l = 0 := by rw [hG, List.drop_of_length_le (by rw [HNL.out]; exact Nat.le_refl _)]; rfl
                  have HF2 := Lib.hid ((OKL.out E0).symm.trans HF.out)
                  clear hG hj E0
                  go_wp2_with fail
                  go_roundg (og - 1)
                  case measure => have := HK.out; omega
                  case rel => exact ⟨k + 1, by have := HK.out; omega, by go_num, HF2.out, x, rfl⟩
                · have hjm : j < nl := by omega
                  have hjm' : (j : Int) < (nl : Int) := by omega
                  have hjl : j < l.length := by rw [HNL.out]; exact hjm
                  obtain ⟨vb, vo, rfl, _, hvb, f0, f1, f2⟩ := vals_in HLV.out hjl
                  have OKV := listErr_ok (c := ⟨cn, ty, sc, nul⟩) hjl
                  have BDV := listErr_bad (c := ⟨cn, ty, sc, nul⟩) hjl
                  obtain ⟨u, hu⟩ : ∃ u, l[j]'hjl = u := ⟨_, rfl⟩
                  rw [hu] at OKV BDV f0 f1 f2
                  rw [← hG] at OKV BDV
                  obtain ⟨un, ui, us⟩ := u
                  dsimp only at OKV BDV f0 f1 f2
                  have c0 := (hx.cell (p := ⟨cb, co + k * 4, none⟩) hcb).trans d0
                  have c1 := (hx.cell (p := ⟨cb, co + k * 4 + 1, none⟩) hcb).trans d1
                  have c2 := (hx.cell (p := ⟨cb, co + k * 4 + 2, none⟩) hcb).trans d2
                  have c3 := (hx.cell (p := ⟨cb, co + k * 4 + 3, none⟩) hcb).trans d3
                  have k0' := (hx.cell (p := ⟨vb, vo + j * 3, none⟩) hvb).trans f0
                  have k1' := (hx.cell (p := ⟨vb, vo + j * 3 + 1, none⟩) hvb).trans f1
                  have k2' := (hx.cell (p := ⟨vb, vo + j * 3 + 2, none⟩) hvb).trans f2
                  have zc : cb < x.it.heap.size := Nat.lt_of_lt_of_le hcb hx.size
                  have zv : vb < x.it.heap.size := Nat.lt_of_lt_of_le hvb hx.size
                  have HJ := Lib.hid (And.intro hj hgi)
                  obtain ⟨ve, hve⟩ : ∃ ve, vchk ty nul un ui us = ve := ⟨_, rfl⟩
                  rw [hve] at OKV BDV
                  have RV := Lib.hid (fun W => (by have h := vcheck_any cn ty sc nul un ui us W; rw [hve] at h; exact h : Calls Try.prog 44 #[.agg #[.string cn, .int .i64 ty, .int .i64 sc, .bool nul], .agg #[.bool un, .int .i64 ui, .string us]] W fun e w' => e = .returned (.int .i64 ve) ∧ Below W.heap.size W w'))
                  clear f0 f1 f2 hu hj hgi hG hve
                  go_upto_region 17 with fail
                  refine wp_region_ext (by kernel_rfl) (by kernel_rfl) ?_
                  repeat (go_big_quiet_step (((go_at_call 44; exact Calls.ext (RV.out _)))))
                  refine wpQuiet_nil ?_
                  rintro _ ⟨x5, rfl⟩
                  by_cases v0 : ve = 0
                  · have v0' : (ve != 0) = false := by simpa using v0
                    have OK := Lib.hid (OKV v0)
                    clear OKV BDV
                    go_wp2_with fail
                    go_roundg (gk - 1)
                    case measure => have := HJ.out; omega
                    case rel => exact ⟨j + 1, by have := HJ.out; omega, by go_num, OK.out, ext_of (Below.on (Below.al x.below _) x5)⟩
                  · have v0' : (ve != 0) = true := by simpa using v0
                    have BD := BDV v0
                    obtain rfl : ve = R := by rw [← HF.out, BDL.out (by rw [BD]; exact v0), BD]
                    clear OKV BDV BD
                    go_wp2
                    exact bodyPost_ret (v := .int .i64 ve) (by simp [results, Try.results33, go_sem, *]) rfl (⟨rfl, by repeat (first | with_reducible exact Below.refl _ _ | with_reducible assumption | with_reducible refine Below.al ?_ _ | with_reducible refine Below.on ?_ _ | with_reducible refine Below.st ?_ (by first | assumption | (simp; done) | (simp; omega)) _ | with_reducible refine Below.drew ?_)⟩)
      · have hkm : k < m := by omega
        have hkm' : (k : Int) < (m : Int) := by omega
        have hkr : k < cols.length := by rw [HM.out]; exact hkm
        obtain ⟨rb, ro, hab, _, hrb, lv, e0, hl⟩ := rows_in HRW.out hkr
        injection hab with hab
        injection hab with hb1 hb2
        subst hb1 hb2
        obtain ⟨la, lc, rfl⟩ := vals_end hl
        rw [lenOff_step hkr] at hF
        obtain ⟨nl, hnl⟩ : ∃ nl, (cols[k]'hkr).length = nl := ⟨_, rfl⟩
        rw [hnl] at hF e0
        have g0 := (hx.cell (p := ⟨b, o + k, none⟩) hrb).trans e0
        have HK := Lib.hid (And.intro hk hg0)
        clear e0 hl hnl hk hg0
        by_cases hq : nl = n
        · have hq' : ((nl : Int) != (n : Int)) = false := by simp; omega
          have HF := Lib.hid (show lenOff n cols = lenOff n (cols.drop (k + 1)) by rw [hF, decide_eq_true hq]; rfl)
          subst hq
          clear hF
          go_wp2
          go_roundg (gk - 1)
          case measure => have := HK.out; omega
          case rel => exact ⟨k + 1, by have := HK.out; omega, by go_num, HF.out, x, rfl⟩
        · have hq' : ((nl : Int) != (n : Int)) = true := by simp; omega
          obtain rfl : 1 = R := by rw [← HE.out, if_pos (by rw [hF, decide_eq_false hq]; rfl)]
          clear hF HE hq
          go_wp2
          exact bodyPost_ret (v := .int .i64 1) (by simp [results, Try.results33, go_sem, *]) rfl (⟨rfl, by repeat (first | with_reducible exact Below.refl _ _ | with_reducible assumption | with_reducible refine Below.al ?_ _ | with_reducible refine Below.on ?_ _ | with_reducible refine Below.st ?_ (by first | assumption | (simp; done) | (simp; omega)) _ | with_reducible refine Below.drew ?_)⟩)
  · have hne' : ((m : Int) != (nc : Int)) = true := by simp; omega
    obtain rfl : 1 = R := by rw [← HR.out]; unfold colsErr; rw [if_pos (by rw [HM.out, HL.out]; exact hne)]
    clear HR hne
    go_enter Try.func33, Try.ntmps33
    go_wp2
    exact bodyPost_ret (v := .int .i64 1) (by simp [results, Try.results33, go_sem, *]) rfl (⟨rfl, by repeat (first | with_reducible exact Below.refl _ _ | with_reducible assumption | with_reducible refine Below.al ?_ _ | with_reducible refine Below.on ?_ _ | with_reducible refine Below.st ?_ (by first | assumption | (simp; done) | (simp; omega)) _ | with_reducible refine Below.drew ?_)⟩)
end Go.Proofs.Ytploieofmnlomaa
