/-
  CHAPTER 25'S REFERENCE: Filter of a valid predicate. Conditions: all lie in memory.
-/
import Derived.Test.YtploieofmnlomaaVrr
set_option linter.unusedVariables false
set_option linter.unusedSimpArgs false
namespace Go.Proofs.Ytploieofmnlomaa
open Go.RowKit
theorem evalF_3 (cs : List Col) (row : List Val) (ns : List Nod) : T3 (evalF cs row ns) := by
  unfold evalF
  split
  · rename_i t ht
    have := accT_3 cs row ns ns.length (Nat.le_refl _) t (by rw [List.take_length]; exact List.mem_of_getLast? ht)
    exact this
  · exact .inr (.inl rfl)
set_option maxRecDepth 8000 in
set_option maxHeartbeats 1000000 in
theorem reffilter_ok (cv : Value) (cs : List Col) (key : Int) (nv : Value) (ns : List Nod) (rv : Value) (cols : List (List Val)) (V : List Int) (w : World) (hc : ColsAt w w.heap.size cv cs) (hn : NodsAt w w.heap.size nv ns) (hr : RowsAt w w.heap.size rv cols) (hp : predF cs key ns = 0) (hc1 : 1 ≤ cs.length) (h12 : cs.length ≤ 12) (v0 : ¬ colsErr cs cols = 0 → V = []) (v1 : colsErr cs cols = 0 → V = filtF cs ns cols) :
    Calls Try.prog 31 #[.agg #[cv, .int .i64 key], nv, rv] w fun e w' => ∃ v, e = .returned (.tuple #[v, .int .i64 (colsErr cs cols)]) ∧ IntsAt w' w'.heap.size v V ∧ Below w.heap.size w w' := by
  have HNN : Hid (NodsAt (w.alloc (.cells #[cv, .int .i64 key] 28)) (w.alloc (.cells #[cv, .int .i64 key] 28)).heap.size nv ns) := Lib.hid (hn.mono ((Below.refl w.heap.size w).alloc (Nat.le_refl _) _) (by simp))
  have HCC : Hid (ColsAt (w.alloc (.cells #[cv, .int .i64 key] 28)) (w.alloc (.cells #[cv, .int .i64 key] 28)).heap.size cv cs) := Lib.hid (hc.mono ((Below.refl w.heap.size w).alloc (Nat.le_refl _) _) (by simp))
  have HP := Lib.hid hp
  have V0 := Lib.hid v0
  have V1 := Lib.hid v1
  clear v0 v1 hn hp
  obtain ⟨ca, cc, rfl⟩ := cols_end hc
  obtain ⟨ra, rc, rfl⟩ := rows_end hr
  obtain ⟨nc, hl⟩ : ∃ nc, cs.length = nc := ⟨_, rfl⟩
  obtain ⟨m, hm⟩ : ∃ m, cols.length = m := ⟨_, rfl⟩
  have h63 := hr.1
  have HC : Hid (ColsAt w w.heap.size (.slice ca nc cc) cs) := Lib.hid (by rw [← hl]; exact hc)
  have HRW : Hid (RowsAt w w.heap.size (.slice ra m rc) cols) := Lib.hid (by rw [← hm]; exact hr)
  have HM := Lib.hid hm
  have HL := Lib.hid hl
  rw [hl] at HCC HNN ⊢
  rw [hm]
  rw [hm] at h63
  rw [hl] at hc1
  obtain ⟨R, hR⟩ : ∃ R, colsErr cs cols = R := ⟨_, rfl⟩
  rw [hR] at V0 V1 ⊢
  have HR := Lib.hid hR
  clear hc hr hl hm hR
  by_cases hne : m = nc
  · have hne' : ((m : Int) != (nc : Int)) = false := by simp; omega
    subst hne
    have hm0 : 0 < cols.length := by rw [HM.out]; exact hc1
    obtain ⟨b, o, rfl, _, hb, lv0, c0, hl0⟩ := rows_in HRW.out hm0
    obtain ⟨n, hn⟩ : ∃ n, (cols[0]'hm0).length = n := ⟨_, rfl⟩
    obtain ⟨la0, lc0, rfl⟩ := vals_end hl0
    rw [hn] at c0
    have n63 : n ≤ 9223372036854775807 := hn ▸ hl0.1
    have HE : Hid ((if lenOff n cols = true then 1 else if 4096 < n then 7 else valsErr cs cols) = R) := Lib.hid (by rw [← HR.out]; exact (colsErr_eq (by rw [HM.out, HL.out]) hm0 hn).symm)
    clear HR hl0
    go_enter Try.func31, Try.ntmps31
    go_upto_region 6 with (go_at_call 36; refine Calls.mono (refPredCheck_any _ cs key _ ns _ HCC.out HNN.out) ?_; rw [HP.out]; rintro e w1 ⟨rfl, hb1⟩; obtain ⟨x1, rfl⟩ := Ext.of hb1; have z1 : w.heap.size < x1.it.heap.size := x1.lt (by simp))
    refine captureP ?_
    intro y ey
    have yb : Below w.heap.size w y.it := by rw [ey]; exact (by repeat (first | with_reducible exact Below.refl _ _ | with_reducible assumption | with_reducible refine Below.al ?_ _ | with_reducible refine Below.on ?_ _ | with_reducible refine Below.st ?_ (by first | assumption | (simp; done) | (simp; omega)) _ | with_reducible refine Below.drew ?_))
    have y0 : y.it.cell? ⟨w.heap.size, 0, none⟩ = some (.slice ca m cc) := by rw [ey]; simp (maxDischargeDepth := 9) [go_sem, *]
    have yz : w.heap.size < y.it.heap.size := by rw [ey]; first | exact z1 | simp
    have y1 : y.it.cell? ⟨w.heap.size, 1, none⟩ = some (.int .i64 key) := by rw [ey]; simp (maxDischargeDepth := 9) [go_sem, *]
    have k0 := (yb.cell (p := ⟨b, o, none⟩) hb).trans c0
    have zb : b < y.it.heap.size := by omega
    clear ey c0
    go_wp2_with fail
    go_loopg [37] m (fun g st wr => ∃ k : Nat, k + g = m ∧ st = .int .i64 (k : Int) ∧ lenOff n cols = lenOff n (cols.drop k) ∧ ∃ x : Ext y.it, x.it = wr)
    case atStart => exact ⟨0, by omega, rfl, by simp, ext_of (Below.refl _ _)⟩
    case round =>
      obtain ⟨k, hk, rfl, hF, x, rfl⟩ := hrel
      have hx := Below.on yb x
      have s0 := (x.cell w.heap.size 0 yz).trans y0
      have s1 := (x.cell b o zb).trans k0
      have zw := x.lt yz
      have zb' := x.lt zb
      by_cases hg0 : gk = 0
      · subst hg0
        obtain rfl : m = k := by omega
        have LF : lenOff n cols = false := by rw [hF, List.drop_of_length_le (by rw [HM.out]; exact Nat.le_refl _)]; rfl
        have HF : Hid ((if 4096 < n then 7 else valsErr cs cols) = R) := Lib.hid (by have h := HE.out; rw [LF, if_neg (by simp)] at h; exact h)
        have LN : Hid (∀ j (h : j < cols.length), (cols[j]'h).length = n) := Lib.hid (by intro j h; unfold lenOff at LF; rw [List.any_eq_false] at LF; have := LF _ (List.getElem_mem h); simpa using this)
        clear LF
        clear hF hk HE
        by_cases n4 : 4096 < n
        · have n4' : (4096 : Int) < (n : Int) := by omega
          obtain rfl : 7 = R := by rw [← HF.out, if_pos n4]
          go_wp2
          obtain rfl : V = [] := V0.out (by first | decide | assumption)
          exact bodyPost_ret (v := .tuple #[.slice none 0 0, .int .i64 7]) (by simp [results, Try.results31, go_sem, *]) rfl (⟨_, rfl, ints_nil _ _, by repeat (first | with_reducible exact Below.refl _ _ | with_reducible assumption | with_reducible refine Below.al ?_ _ | with_reducible refine Below.on ?_ _ | with_reducible refine Below.st ?_ (by first | assumption | (simp; done) | (simp; omega)) _ | with_reducible refine Below.drew ?_)⟩)
        · have n4' : ¬ (4096 : Int) < (n : Int) := by omega
          have HV : Hid (valsErr cs cols = R) := Lib.hid (by have h := HF.out; rw [if_neg n4] at h; exact h)
          clear HF
          go_wp2_with fail
          go_loopg [50] m (fun g st wr => ∃ k : Nat, k + g = m ∧ st = .int .i64 (k : Int) ∧ valsErr (cs.drop k) (cols.drop k) = R ∧ ∃ x' : Ext y.it, x'.it = wr)
          case atStart => exact ⟨0, by omega, rfl, by simpa using HV.out, x, rfl⟩
          case round =>
            clear HV s0 s1 zw zb' hx x
            obtain ⟨k, hk, rfl, hF, x, rfl⟩ := hrel
            obtain ⟨og, rfl⟩ : ∃ og, og = gk := ⟨_, rfl⟩
            have hx := Below.on yb x
            have s0 := (x.cell w.heap.size 0 yz).trans y0
            have zw := x.lt yz
            by_cases hg0 : og = 0
            · subst hg0
              obtain rfl : k = m := by omega
              obtain rfl : 0 = R := by rw [← hF, List.drop_of_length_le (by rw [HL.out]; exact Nat.le_refl _)]; rfl
              clear hF hk
              have VF := V1.out rfl
              have s1 := (x.cell w.heap.size 1 yz).trans y1
              have hn0' : (cols.headD []).length = n := by rw [headD_at hm0]; exact LN.out 0 hm0
              have FE : V = (List.range n).map fun k => evalF cs (rowOf cols k) ns := by rw [VF]; unfold filtF; rw [hn0']
              have FEH := Lib.hid FE
              have RX := Lib.hid (HRW.out.mono hx hx.size)
              have CX := Lib.hid (HC.out.mono hx hx.size)
              have b1x : Below (w.alloc (.cells #[.slice ca k cc, .int .i64 key] 28)).heap.size (w.alloc (.cells #[.slice ca k cc, .int .i64 key] 28)) x.it := x1.below.trans ((y.below.trans (x.below.mono y.below.size)).mono x1.below.size)
              have NX := Lib.hid (HNN.out.mono b1x b1x.size)
              have PX := Lib.hid (predF_all HP.out)
              have hx' := Lib.hid hx
              have n4k : n ≤ 4096 := by omega
              obtain ⟨i0, hi, hz0, hz1, hz2⟩ := info_parts infoInt1
              obtain ⟨mm, rfl⟩ : ∃ mm, mm = k := ⟨_, rfl⟩
              clear VF FE V1 V0 b1x hn0' n4 hx k0 zb
              generalize x.it = X at *
              clear x
              go_wp2_with fail
              go_loopg [17, 18] n (fun g v st wr => ∃ k : Nat, k + g = n ∧ st = .int .i64 (k : Int) ∧ ∃ z : Ext X, z.it = wr ∧ wr.ownsRow X.heap.size 3 1 v k (((List.range k).map fun k => evalF cs (rowOf cols k) ns).flatMap intC))
              case atStart => exact ⟨0, by omega, rfl, ⟨X, Below.refl _ _⟩, rfl, World.ownsRow_nil _ _ _ _⟩
              case round =>
                obtain ⟨k, hk, rfl, z, rfl, hown⟩ := hrel
                have hz := z.below
                by_cases hgz : gk = 0
                · subst hgz
                  obtain rfl : k = n := by omega
                  have IOh := Lib.hid (own_ints (cs := (List.range k).map fun k => evalF cs (rowOf cols k) ns) (fun q hq => by obtain ⟨i, _, rfl⟩ := List.mem_map.1 hq; have := evalF_3 cs (rowOf cols i) ns; unfold isI; rcases this with h | h | h <;> rw [h] <;> omega) (by simp; omega) (by rw [List.length_map, List.length_range]; exact hown))
                  have hxz : Below w.heap.size w z.it := hx'.out.trans (hz.mono hx'.out.size)
                  clear hown hk
                  go_wp2
                  refine bodyPost_ret (v := .tuple #[u17, .int .i64 0]) ?_ rfl ⟨u17, rfl, by rw [FEH.out]; exact IOh.out, hxz⟩
                  simp (maxDischargeDepth := 9) [results, Try.results31, go_sem, *]
                · have hkm : k < n := by omega
                  have hkm' : (k : Int) < (n : Int) := by omega
                  have zs0 := (z.cell w.heap.size 0 zw).trans s0
                  have zs1 := (z.cell w.heap.size 1 zw).trans s1
                  have zzw := z.lt zw
                  have ST := Lib.hid (show (List.range (k + 1)).map (fun k => evalF cs (rowOf cols k) ns) = (List.range k).map (fun k => evalF cs (rowOf cols k) ns) ++ [evalF cs (rowOf cols k) ns] by rw [List.range_succ, List.map_append]; rfl)
                  have OW := Lib.hid hown
                  have RZ := Lib.hid (RX.out.mono hz hz.size)
                  have CZ := Lib.hid (CX.out.mono hz hz.size)
                  have NZ := Lib.hid (NX.out.mono hz hz.size)
                  have RL : Hid (∀ j (h : j < cols.length), k < (cols[j]'h).length) := Lib.hid fun j h => by rw [LN.out j h]; exact hkm
                  have HK := Lib.hid (And.intro hk hgz)
                  clear hown hk hgz s0 s1
                  obtain ⟨EV, hEV⟩ : ∃ EV, evalF cs (rowOf cols k) ns = EV := ⟨_, rfl⟩
                  obtain ⟨LS, hLS⟩ : ∃ LS, (List.range k).map (fun k => evalF cs (rowOf cols k) ns) = LS := ⟨_, rfl⟩
                  rw [hLS] at OW ST
                  rw [hEV] at ST
                  have HEV := Lib.hid hEV
                  have zx := hz.size
                  have ZB := Lib.hid hz
                  clear hEV hLS hz
                  go_upto_region 30 with fail
                  go_region_law ((first | ((refine step_append_lies _ (by rfl) _ _ 23 (by rfl) X.heap.size 3 i0 _ 1 8 Try.underlying23 hi hz0 hz1 hz2 rfl (by decide) u17 k (LS.flatMap intC) (by rfl) (O6.out.alloc _) ⟨x6.it.heap.size, 0, none⟩ 1 1 [.int .i64 EV] (by rfl) rfl (World.news_of_block (heap_alloc_new x6.it _)) (by simp [Value.oneCell']) (by omega) (by unfold maxLen; omega) (by omega) (by simp; omega) (x6.it.heap.size + 1) (by simp) ?_; intro gb cap w7 hown hgrow hat hlt7; have MS := Lib.hid (And.intro hown (show Below X.heap.size X w7 from Below.gr (Below.al (ZB6.out) _) O6.out hgrow)))) | (go_simp; go_at_call 39; refine Calls.mono (refRow_any _ cols k _ (RZ.out.mono (by repeat (first | with_reducible exact Below.refl _ _ | with_reducible assumption | with_reducible refine Below.al ?_ _ | with_reducible refine Below.on ?_ _ | with_reducible refine Below.st ?_ (by first | assumption | (simp; done) | (simp; omega)) _ | with_reducible refine Below.drew ?_)) (by simp)) (by rw [HM.out, ← HL.out]; exact h12) RL.out) ?_; rintro e w5 ⟨rv5, rfl, hv5, hb5⟩; obtain ⟨x5, rfl⟩ := Ext.of hb5; have HV5 := Lib.hid hv5; clear hv5; have q5 : x5.it.cell? ⟨w.heap.size, 0, none⟩ = some (.slice ca mm cc) := (x5.cell w.heap.size 0 (by simpa using zzw)).trans zs0; have q6 : x5.it.cell? ⟨w.heap.size, 1, none⟩ = some (.int .i64 key) := (x5.cell w.heap.size 1 (by simpa using zzw)).trans zs1) | (go_simp; go_at_call 38; refine Calls.mono (evalRow_any _ cs key _ ns _ (rowOf cols k) _ (CZ.out.mono (by repeat (first | with_reducible exact Below.refl _ _ | with_reducible assumption | with_reducible refine Below.al ?_ _ | with_reducible refine Below.on ?_ _ | with_reducible refine Below.st ?_ (by first | assumption | (simp; done) | (simp; omega)) _ | with_reducible refine Below.drew ?_)) (by simpa using x5.below.size)) (NZ.out.mono (by repeat (first | with_reducible exact Below.refl _ _ | with_reducible assumption | with_reducible refine Below.al ?_ _ | with_reducible refine Below.on ?_ _ | with_reducible refine Below.st ?_ (by first | assumption | (simp; done) | (simp; omega)) _ | with_reducible refine Below.drew ?_)) (by simpa using x5.below.size)) HV5.out PX.out (by unfold rowOf; rw [List.length_map, HM.out, HL.out])) ?_; rw [HEV.out]; rintro e w6 ⟨rfl, hb6⟩; obtain ⟨x6, rfl⟩ := Ext.of hb6; have ZB6 := Lib.hid (show Below X.heap.size X x6.it from (by repeat (first | with_reducible exact Below.refl _ _ | with_reducible assumption | with_reducible refine Below.al ?_ _ | with_reducible refine Below.on ?_ _ | with_reducible refine Below.st ?_ (by first | assumption | (simp; done) | (simp; omega)) _ | with_reducible refine Below.drew ?_))); have zs6 := ZB6.out.size; have O6 := Lib.hid (own_to OW.out (show Below z.it.heap.size z.it x6.it from (by repeat (first | with_reducible exact Below.refl _ _ | with_reducible assumption | with_reducible refine Below.al ?_ _ | with_reducible refine Below.on ?_ _ | with_reducible refine Below.st ?_ (by first | assumption | (simp; done) | (simp; omega)) _ | with_reducible refine Below.drew ?_)))))))
                  all_goals
                    clear hown hgrow hat hlt7
                    go_wp2
                    go_roundg (gk - 1)
                    case measure => have := HK.out; omega
                    case rel => exact ⟨k + 1, by have := HK.out; omega, by go_num, ⟨_, MS.out.2⟩, rfl, by rw [ST.out, List.flatMap_append]; exact MS.out.1⟩
            · have hkm : k < m := by omega
              have hkm' : (k : Int) < (m : Int) := by omega
              have hkr : k < cols.length := by rw [HM.out]; exact hkm
              have hkc : k < cs.length := by rw [HL.out]; exact hkm
              obtain ⟨rb, ro, hab, _, hrb, lv, e0, hl⟩ := rows_in HRW.out hkr
              injection hab with hab
              injection hab with hb1 hb2
              subst hb1 hb2
              obtain ⟨la, lc, rfl⟩ := vals_end hl
              have OKL := Lib.hid (valsErr_ok hkc hkr)
              have BDL := Lib.hid (valsErr_bad hkc hkr)
              obtain ⟨cb, co, rfl, _, hcb, d0, d1, d2, d3⟩ := cols_in HC.out hkc
              obtain ⟨c, hcc⟩ : ∃ c, cs[k]'hkc = c := ⟨_, rfl⟩
              obtain ⟨l, hll⟩ : ∃ l, cols[k]'hkr = l := ⟨_, rfl⟩
              rw [hcc] at OKL BDL d0 d1 d2 d3
              rw [hll] at OKL BDL hl e0
              obtain ⟨nl, hnl⟩ : ∃ nl, l.length = nl := ⟨_, rfl⟩
              rw [hnl] at e0 hl
              have HNL := Lib.hid hnl
              have nl63 : nl ≤ 9223372036854775807 := hnl ▸ hl.1
              have HLV := Lib.hid hl
              obtain ⟨cn, ty, sc, nul⟩ := c
              dsimp only at d0 d1 d2 d3
              have g0 := (hx.cell (p := ⟨b, o + k, none⟩) hrb).trans e0
              have zr := Nat.lt_of_lt_of_le hrb hx.size
              have HK := Lib.hid (And.intro hk hg0)
              have HF := Lib.hid hF
              clear e0 hl hnl hk hg0 hcc hll hF
              go_upto_region 18 with fail
              go_wp2_with fail
              go_loopg [57] nl (fun g st wr => ∃ j : Nat, j + g = nl ∧ st = .int .i64 (j : Int) ∧ listErr ⟨cn, ty, sc, nul⟩ l = listErr ⟨cn, ty, sc, nul⟩ (l.drop j) ∧ ∃ x' : Ext y.it, x'.it = wr)
              case atStart => exact ⟨0, by omega, rfl, by simp, x, rfl⟩
              case round =>
                clear s0 zw g0 zr hx x
                obtain ⟨j, hj, rfl, hG, x, rfl⟩ := hrel
                have hx := Below.on yb x
                have s0 := (x.cell w.heap.size 0 yz).trans y0
                have zw := x.lt yz
                by_cases hgi : gk = 0
                · subst hgi
                  obtain rfl : j = nl := by omega
                  have E0 : listErr ⟨cn, ty, sc, nul⟩ l = 0 := by rw [hG, List.drop_of_length_le (by rw [HNL.out]; exact Nat.le_refl _)]; rfl
                  have HF2 := Lib.hid ((OKL.out E0).symm.trans HF.out)
                  clear hG hj E0
                  go_wp2_with fail
                  go_roundg (og - 1)
                  case measure => have := HK.out; omega
                  case rel => exact ⟨k + 1, by have := HK.out; omega, by go_num, HF2.out, x, rfl⟩
                · have hjm : j < nl := by omega
                  have hjm' : (j : Int) < (nl : Int) := by omega
                  have hjl : j < l.length := by rw [HNL.out]; exact hjm
                  obtain ⟨vb, vo, rfl, _, hvb, f0, f1, f2⟩ := vals_in HLV.out hjl
                  have OKV := listErr_ok (c := ⟨cn, ty, sc, nul⟩) hjl
                  have BDV := listErr_bad (c := ⟨cn, ty, sc, nul⟩) hjl
                  obtain ⟨u, hu⟩ : ∃ u, l[j]'hjl = u := ⟨_, rfl⟩
                  rw [hu] at OKV BDV f0 f1 f2
                  rw [← hG] at OKV BDV
                  obtain ⟨un, ui, us⟩ := u
                  dsimp only at OKV BDV f0 f1 f2
                  have c0 := (hx.cell (p := ⟨cb, co + k * 4, none⟩) hcb).trans d0
                  have c1 := (hx.cell (p := ⟨cb, co + k * 4 + 1, none⟩) hcb).trans d1
                  have c2 := (hx.cell (p := ⟨cb, co + k * 4 + 2, none⟩) hcb).trans d2
                  have c3 := (hx.cell (p := ⟨cb, co + k * 4 + 3, none⟩) hcb).trans d3
                  have k0' := (hx.cell (p := ⟨vb, vo + j * 3, none⟩) hvb).trans f0
                  have k1' := (hx.cell (p := ⟨vb, vo + j * 3 + 1, none⟩) hvb).trans f1
                  have k2' := (hx.cell (p := ⟨vb, vo + j * 3 + 2, none⟩) hvb).trans f2
                  have zc : cb < x.it.heap.size := Nat.lt_of_lt_of_le hcb hx.size
                  have zv : vb < x.it.heap.size := Nat.lt_of_lt_of_le hvb hx.size
                  have HJ := Lib.hid (And.intro hj hgi)
                  obtain ⟨ve, hve⟩ : ∃ ve, vchk ty nul un ui us = ve := ⟨_, rfl⟩
                  rw [hve] at OKV BDV
                  have RV := Lib.hid (fun W => (by have h := refVcheck_any cn ty sc nul un ui us W; rw [hve] at h; exact h : Calls Try.prog 41 #[.agg #[.string cn, .int .i64 ty, .int .i64 sc, .bool nul], .agg #[.bool un, .int .i64 ui, .string us]] W fun e w' => e = .returned (.int .i64 ve) ∧ Below W.heap.size W w'))
                  clear f0 f1 f2 hu hj hgi hG hve
                  go_upto_region 21 with fail
                  refine wp_region_ext (by kernel_rfl) (by kernel_rfl) ?_
                  repeat (go_big_quiet_step (((go_at_call 41; exact Calls.ext (RV.out _)))))
                  refine wpQuiet_nil ?_
                  rintro _ ⟨x5, rfl⟩
                  by_cases v0 : ve = 0
                  · have v0' : (ve != 0) = false := by simpa using v0
                    have OK := Lib.hid (OKV v0)
                    clear OKV BDV
                    go_wp2_with fail
                    go_roundg (gk - 1)
                    case measure => have := HJ.out; omega
                    case rel => exact ⟨j + 1, by have := HJ.out; omega, by go_num, OK.out, ext_of (Below.on (Below.al x.below _) x5)⟩
                  · have v0' : (ve != 0) = true := by simpa using v0
                    have BD := BDV v0
                    obtain rfl : ve = R := by rw [← HF.out, BDL.out (by rw [BD]; exact v0), BD]
                    clear OKV BDV BD
                    go_wp2
                    obtain rfl : V = [] := V0.out (by first | decide | assumption)
                    exact bodyPost_ret (v := .tuple #[.slice none 0 0, .int .i64 ve]) (by simp [results, Try.results31, go_sem, *]) rfl (⟨_, rfl, ints_nil _ _, by repeat (first | with_reducible exact Below.refl _ _ | with_reducible assumption | with_reducible refine Below.al ?_ _ | with_reducible refine Below.on ?_ _ | with_reducible refine Below.st ?_ (by first | assumption | (simp; done) | (simp; omega)) _ | with_reducible refine Below.drew ?_)⟩)
      · have hkm : k < m := by omega
        have hkm' : (k : Int) < (m : Int) := by omega
        have hkr : k < cols.length := by rw [HM.out]; exact hkm
        obtain ⟨rb, ro, hab, _, hrb, lv, e0, hl⟩ := rows_in HRW.out hkr
        injection hab with hab
        injection hab with hb1 hb2
        subst hb1 hb2
        obtain ⟨la, lc, rfl⟩ := vals_end hl
        rw [lenOff_step hkr] at hF
        obtain ⟨nl, hnl⟩ : ∃ nl, (cols[k]'hkr).length = nl := ⟨_, rfl⟩
        rw [hnl] at hF e0
        have g0 := (hx.cell (p := ⟨b, o + k, none⟩) hrb).trans e0
        have HK := Lib.hid (And.intro hk hg0)
        clear e0 hl hnl hk hg0
        by_cases hq : nl = n
        · have hq' : ((nl : Int) != (n : Int)) = false := by simp; omega
          have HF := Lib.hid (show lenOff n cols = lenOff n (cols.drop (k + 1)) by rw [hF, decide_eq_true hq]; rfl)
          subst hq
          clear hF
          go_wp2
          go_roundg (gk - 1)
          case measure => have := HK.out; omega
          case rel => exact ⟨k + 1, by have := HK.out; omega, by go_num, HF.out, x, rfl⟩
        · have hq' : ((nl : Int) != (n : Int)) = true := by simp; omega
          obtain rfl : 1 = R := by rw [← HE.out, if_pos (by rw [hF, decide_eq_false hq]; rfl)]
          clear hF HE hq
          go_wp2
          obtain rfl : V = [] := V0.out (by first | decide | assumption)
          exact bodyPost_ret (v := .tuple #[.slice none 0 0, .int .i64 1]) (by simp [results, Try.results31, go_sem, *]) rfl (⟨_, rfl, ints_nil _ _, by repeat (first | with_reducible exact Below.refl _ _ | with_reducible assumption | with_reducible refine Below.al ?_ _ | with_reducible refine Below.on ?_ _ | with_reducible refine Below.st ?_ (by first | assumption | (simp; done) | (simp; omega)) _ | with_reducible refine Below.drew ?_)⟩)
  · have hne' : ((m : Int) != (nc : Int)) = true := by simp; omega
    obtain rfl : 1 = R := by rw [← HR.out]; unfold colsErr; rw [if_pos (by rw [HM.out, HL.out]; exact hne)]
    clear HR hne
    go_enter Try.func31, Try.ntmps31
    go_wp2_with (go_at_call 36; refine Calls.mono (refPredCheck_any _ cs key _ ns _ HCC.out HNN.out) ?_; rw [HP.out]; rintro e w1 ⟨rfl, hb1⟩; obtain ⟨x1, rfl⟩ := Ext.of hb1; have z1 : w.heap.size < x1.it.heap.size := x1.lt (by simp))
    obtain rfl : V = [] := V0.out (by first | decide | assumption)
    exact bodyPost_ret (v := .tuple #[.slice none 0 0, .int .i64 1]) (by simp [results, Try.results31, go_sem, *]) rfl (⟨_, rfl, ints_nil _ _, by repeat (first | with_reducible exact Below.refl _ _ | with_reducible assumption | with_reducible refine Below.al ?_ _ | with_reducible refine Below.on ?_ _ | with_reducible refine Below.st ?_ (by first | assumption | (simp; done) | (simp; omega)) _ | with_reducible refine Below.drew ?_)⟩)
end Go.Proofs.Ytploieofmnlomaa
