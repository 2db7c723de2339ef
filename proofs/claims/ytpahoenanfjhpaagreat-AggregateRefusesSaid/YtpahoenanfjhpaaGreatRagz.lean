/-
  CHAPTER 26: the reference's aggregate. Conditions: the schema and the rows lie in memory; the aggregate is valid; each row has the columns.
-/
import Derived.Test.YtpahoenanfjhpaaGreatZo
import Derived.Test.YtpahoenanfjhpaaGreatZonz
import Derived.Test.YtpahoenanfjhpaaGreatRwdz
import Derived.BigRegion
set_option linter.unusedVariables false
set_option linter.unusedSimpArgs false
namespace Go.Proofs.YtpahoenanfjhpaaGreat
open Go.RowKit
theorem zone_fold (ty : Int) : ∀ (l : List Val) (z : Zon), (∀ v ∈ l, v.null = false) → z.min.null = false → z.max.null = false →
    (l.foldl (zstep ty) z).min = l.foldl (fun m x => if decide (cmpV ty x m < 0) = true then x else m) z.min ∧ (l.foldl (zstep ty) z).max = l.foldl (fun m x => if decide (0 < cmpV ty x m) = true then x else m) z.max
  | [], _, _, _, _ => ⟨rfl, rfl⟩
  | v :: l, z, h, h1, h2 => by
    have hv := h v (by simp)
    have e1 : (zstep ty z v).min = if decide (cmpV ty v z.min < 0) = true then v else z.min := by
      have c := cmpV_3 ty v z.min
      by_cases q : cmpV ty v z.min = -1
      · simp [zstep, pickF, hv, h1, q]
      · have q2 : ¬ cmpV ty v z.min < 0 := by omega
        simp [zstep, pickF, hv, h1, q, q2]
    have e2 : (zstep ty z v).max = if decide (0 < cmpV ty v z.max) = true then v else z.max := by
      have c := cmpV_3 ty v z.max
      by_cases q : cmpV ty v z.max = 1
      · simp [zstep, pickF, hv, h2, q]
      · have q2 : ¬ 0 < cmpV ty v z.max := by omega
        simp [zstep, pickF, hv, h2, q, q2]
    rw [List.foldl_cons, List.foldl_cons, List.foldl_cons, ← e1, ← e2]
    exact zone_fold ty l (zstep ty z v) (fun u hu => h u (List.mem_cons_of_mem _ hu)) (by rw [e1]; split <;> assumption) (by rw [e2]; split <;> assumption)
theorem zone_ends (ty : Int) {l : List Val} (h : ¬ l = []) (hn : ∀ v ∈ l, v.null = false) : (zoneF ty l).min = minV ty l ∧ (zoneF ty l).max = maxV ty l := by
  cases l with
  | nil => exact absurd rfl h
  | cons v l =>
    have hv := hn v (by simp)
    obtain ⟨N, hN⟩ : ∃ N : Int, ((v :: l).length : Int) = N := ⟨_, rfl⟩
    have e : zstep ty ⟨N, 0, nulV, nulV⟩ v = ⟨N, 0, v, v⟩ := by simp [zstep, pickF, hv, nulV]
    unfold zoneF zoneK
    rw [hN, List.foldl_cons, e]
    exact zone_fold ty l ⟨N, 0, v, v⟩ (fun u hu => hn u (List.mem_cons_of_mem _ hu)) hv hv
set_option maxRecDepth 8000 in
set_option maxHeartbeats 2000000 in
theorem refagg_any (cv : Value) (cs : List Col) (key : Int) (op : Int) (K : Nat) (rv : Value) (rows : List (List Val)) (w : World)
    (hc : ColsAt w w.heap.size cv cs) (hr : RowsAt w w.heap.size rv rows) (hK : K < cs.length) (h1 : 1 ≤ op) (h5 : op ≤ 5) (hrl : ∀ r ∈ rows, r.length = cs.length) (h9 : rows.length ≤ 1099511627776) :
    Calls Tryz.prog 69 #[.agg #[cv, .int .i64 key], .agg #[.int .i64 op, .int .i64 (K : Int)], rv] w fun e w' => e = .returned (.tuple #[.agg #[.bool (aggF cs ⟨op, K⟩ rows).1.null, .int .i64 (aggF cs ⟨op, K⟩ rows).1.n, .string (aggF cs ⟨op, K⟩ rows).1.s], .int .i64 (aggF cs ⟨op, K⟩ rows).2]) ∧ Below w.heap.size w w' := by
  obtain ⟨i0, hi, hz0, hz1, hz2⟩ := info_parts infoVal
  obtain ⟨ca, cc, rfl⟩ := cols_end hc
  obtain ⟨ra, rc, rfl⟩ := rows_end hr
  obtain ⟨nc, hnc⟩ : ∃ n, cs.length = n := ⟨_, rfl⟩
  obtain ⟨n, hn⟩ : ∃ n, rows.length = n := ⟨_, rfl⟩
  obtain ⟨cb, co, rfl, _, hcb, e0, e1, e2, e3⟩ := cols_in hc hK
  have hty : colTy cs (K : Int) = (cs[K]'hK).ty := colTy_at hK
  obtain ⟨ty, hty'⟩ : ∃ t, (cs[K]'hK).ty = t := ⟨_, rfl⟩
  rw [hty'] at e1 hty
  rw [hn] at hr h9 ⊢
  rw [hnc] at hc hrl hK ⊢
  have hK' : (K : Int) < (nc : Int) := by omega
  have HR := Lib.hid hr
  have HN := Lib.hid hn
  have HRL := Lib.hid hrl
  obtain ⟨R, hR⟩ : ∃ R, aggF cs ⟨op, K⟩ rows = R := ⟨_, rfl⟩
  rw [hR]
  have HRR : Hid ((if op = 1 then ((⟨false, n, ⟨#[]⟩⟩, 0) : Val × Int)
    else if op = 2 then (⟨false, (valsC rows K).length, ⟨#[]⟩⟩, 0)
    else if valsC rows K = [] then (⟨true, 0, ⟨#[]⟩⟩, 0)
    else if op = 4 then (minV ty (valsC rows K), 0)
    else if op = 5 then (maxV ty (valsC rows K), 0)
    else if Wd.fitsB (sumW (valsC rows K)).1 (sumW (valsC rows K)).2 = true then (⟨false, Wd.intN (sumW (valsC rows K)).1 (sumW (valsC rows K)).2, ⟨#[]⟩⟩, 0)
    else (⟨false, 0, ⟨#[]⟩⟩, 8)) = R) := Lib.hid (by
      rw [← hR, ← hn]; unfold aggF; dsimp only; rw [hty, Int.toNat_natCast])
  have HC := Lib.hid hc
  clear hc hr hn hnc hrl hR hty hty' e0 e2 e3
  have k0 : (0 : Int) ≤ (K : Int) := by omega
  go_enter Tryz.func69, Tryz.ntmps69
  go_upto_region 1 with fail
  refine captureP ?_
  intro y ey
  have yb : Below w.heap.size w y.it := by rw [ey]; exact (by with_reducible repeat (first | exact Below.refl _ _ | assumption | refine Below.al ?_ _ | refine Below.on ?_ _ | refine Below.st ?_ (by first | assumption | (simp; done) | (simp; omega)) _ | refine Below.drew ?_))
  have s0 : y.it.cell? ⟨w.heap.size, 0, none⟩ = some (.slice (some ⟨cb, co, none⟩) nc cc) := by rw [ey]; simp (maxDischargeDepth := 9) [go_sem, *]
  have y0 : y.it.cell? ⟨w.heap.size + 1, 0, none⟩ = some (.int .i64 op) := by rw [ey]; simp (maxDischargeDepth := 9) [go_sem, *]
  have y1 : y.it.cell? ⟨w.heap.size + 1, 1, none⟩ = some (.int .i64 (K : Int)) := by rw [ey]; simp (maxDischargeDepth := 9) [go_sem, *]
  have z0 : y.it.cell? ⟨w.heap.size + 2, 0, none⟩ = some (.bool false) := by rw [ey]; simp (maxDischargeDepth := 9) [go_sem, *]
  have z1 : y.it.cell? ⟨w.heap.size + 2, 1, none⟩ = some (.int .i64 0) := by rw [ey]; simp (maxDischargeDepth := 9) [go_sem, *]
  have z2 : y.it.cell? ⟨w.heap.size + 2, 2, none⟩ = some (.string ⟨#[]⟩) := by rw [ey]; simp (maxDischargeDepth := 9) [go_sem, *]
  have zf : ∀ q, y.it.frozen? ⟨w.heap.size + 2, q, none⟩ = false := fun q => by rw [ey]; simp (maxDischargeDepth := 9) [go_sem, *]
  have yz : w.heap.size + 2 < y.it.heap.size := by rw [ey]; simp
  have ZF := Lib.hid zf
  clear ey
  obtain ⟨A, hA⟩ : ∃ b, w.heap.size = b := ⟨_, rfl⟩
  rw [hA] at s0 y0 y1 z0 z1 z2 yz ZF zf ⊢
  have HA := Lib.hid hA
  have hAw : w.heap.size ≤ A + 2 := by omega
  clear hA
  have yzA : A < y.it.heap.size := by omega
  have yzB : A + 1 < y.it.heap.size := by omega
  by_cases o1 : op = 1
  · have t1 : (op == 1) = true := by simpa using o1
    obtain rfl : ((⟨false, n, ⟨#[]⟩⟩, 0) : Val × Int) = R := by rw [← HRR.out, if_pos o1]
    clear HRR
    go_wp2
    exact bodyPost_ret (v := .tuple #[.agg #[.bool false, .int .i64 (n : Int), .string ⟨#[]⟩], .int .i64 0]) (by simp (maxDischargeDepth := 9) [results, Tryz.results69, go_sem, *]) rfl (⟨rfl, (by with_reducible repeat (first | exact Below.refl _ _ | assumption | refine Below.al ?_ _ | refine Below.on ?_ _ | refine Below.st ?_ (by first | assumption | (simp; done) | (simp; omega)) _ | refine Below.drew ?_))⟩)
  have t1 : (op == 1) = false := by simpa using o1
  clear zf
  go_wp2_with fail
  go_loopg [8, 25] n (fun g v st wr => ∃ k : Nat, k + g = n ∧ st = .int .i64 (k : Int) ∧ ∃ x : Ext y.it, x.it = wr ∧ wr.ownsRow y.it.heap.size 41 3 v (valsC (rows.take k) K).length ((valsC (rows.take k) K).flatMap valC))
  case atStart => exact ⟨0, by omega, rfl, ⟨y.it, Below.refl _ _⟩, rfl, World.ownsRow_nil _ _ _ _⟩
  case round =>
    obtain ⟨k, hk, rfl, x, rfl, hown⟩ := hrel
    have hx := Below.on yb x
    have s0' := (x.cell A 0 yzA).trans s0
    have q0 := (x.cell (A + 1) 0 yzB).trans y0
    have q1 := (x.cell (A + 1) 1 yzB).trans y1
    have zw := x.lt yzA
    have zwB := x.lt yzB
    by_cases hg0 : gk = 0
    · subst hg0
      obtain rfl : k = n := by omega
      rw [List.take_of_length_le (by rw [HN.out]; exact Nat.le_refl _)] at hown
      have LL : (valsC rows K).length ≤ 1099511627776 := Nat.le_trans (valsC_len _ _) (by rw [HN.out]; exact h9)
      have NN : ∀ v ∈ valsC rows K, v.null = false := fun v hv => by unfold valsC at hv; simpa using (List.mem_filter.1 hv).2
      obtain ⟨L, hL⟩ : ∃ l, valsC rows K = l := ⟨_, rfl⟩
      rw [hL] at hown LL HRR NN
      obtain ⟨la, lc, rfl⟩ := own_form hown
      have HV := Lib.hid (own_vals (by omega) hown)
      obtain ⟨m, hm⟩ : ∃ m, L.length = m := ⟨_, rfl⟩
      rw [hm] at HV LL ⊢
      have HM := Lib.hid hm
      have HNN := Lib.hid NN
      have r0 := (x.cell (A + 2) 0 yz).trans z0
      have r1 := (x.cell (A + 2) 1 yz).trans z1
      have r2 := (x.cell (A + 2) 2 yz).trans z2
      have rf : ∀ q, x.it.frozen? ⟨A + 2, q, none⟩ = false := fun q => (x.frozen (A + 2) q yz).trans (ZF.out q)
      have zr := x.lt yz
      have c1 := (hx.cell (p := ⟨cb, co + K * 4 + 1, none⟩) hcb).trans e1
      have zc : cb < x.it.heap.size := Nat.lt_of_lt_of_le hcb hx.size
      have tk : ¬ (k : Int) < (k : Int) := by omega
      clear hown hk hL hm NN y0 y1 z0 z1 z2
      by_cases o2 : op = 2
      · have t2 : (op == 2) = true := by simpa using o2
        obtain rfl : ((⟨false, m, ⟨#[]⟩⟩, 0) : Val × Int) = R := by rw [← HRR.out, if_neg o1, if_pos o2, HM.out]
        clear HRR
        go_wp2
        exact bodyPost_ret (v := .tuple #[.agg #[.bool false, .int .i64 (m : Int), .string ⟨#[]⟩], .int .i64 0]) (by simp (maxDischargeDepth := 9) [results, Tryz.results69, go_sem, *]) rfl (⟨rfl, (by with_reducible repeat (first | exact Below.refl _ _ | assumption | refine Below.al ?_ _ | refine Below.on ?_ _ | refine Below.st ?_ (by first | assumption | (simp; done) | (simp; omega)) _ | refine Below.drew ?_))⟩)
      have t2 : (op == 2) = false := by simpa using o2
      by_cases o3 : m = 0
      · obtain rfl : ((⟨true, 0, ⟨#[]⟩⟩, 0) : Val × Int) = R := by rw [← HRR.out, if_neg o1, if_neg o2, if_pos (List.eq_nil_of_length_eq_zero (HM.out.trans o3))]
        subst o3
        have t3 : (((0 : Nat) : Int) == 0) = true := rfl
        clear HRR
        go_wp2
        exact bodyPost_ret (v := .tuple #[.agg #[.bool true, .int .i64 0, .string ⟨#[]⟩], .int .i64 0]) (by simp (maxDischargeDepth := 9) [results, Tryz.results69, go_sem, *]) rfl (⟨rfl, (by with_reducible repeat (first | exact Below.refl _ _ | assumption | refine Below.al ?_ _ | refine Below.on ?_ _ | refine Below.st ?_ (by first | assumption | (simp; done) | (simp; omega)) _ | refine Below.drew ?_))⟩)
      have t3 : ((m : Int) == 0) = false := by simp; omega
      have hL0 : ¬ L = [] := by intro e; apply o3; rw [← HM.out, e]; rfl
      by_cases o6 : op = 3
      · have t6 : (op == 3) = true := by simpa using o6
        have HS : Hid ((if Wd.fitsB (sumW L).1 (sumW L).2 = true then ((⟨false, Wd.intN (sumW L).1 (sumW L).2, ⟨#[]⟩⟩, 0) : Val × Int) else (⟨false, 0, ⟨#[]⟩⟩, 8)) = R) := Lib.hid (by have := HRR.out; rwa [if_neg o1, if_neg o2, if_neg hL0, if_neg (by omega), if_neg (by omega)] at this)
        clear HRR hL0
        go_upto_region 16 with fail
        refine captureM ?_
        intro U eU
        have Ub : Below x.it.heap.size x.it U := by rw [eU]; exact (by with_reducible repeat (first | exact Below.refl _ _ | assumption | refine Below.al ?_ _ | refine Below.on ?_ _ | refine Below.st ?_ (by first | assumption | (simp; done) | (simp; omega)) _ | refine Below.drew ?_))
        have zU : x.it.heap.size < U.heap.size := by rw [eU]; simp
        have U0 : U.cell? ⟨x.it.heap.size, 0, none⟩ = some (.int .i64 0) := by rw [eU]; simp (maxDischargeDepth := 9) [go_sem, *]
        have U1 : U.cell? ⟨x.it.heap.size, 1, none⟩ = some (.int .u64 0) := by rw [eU]; simp (maxDischargeDepth := 9) [go_sem, *]
        have UF : ∀ q, U.frozen? ⟨x.it.heap.size, q, none⟩ = false := fun q => by rw [eU]; simp (maxDischargeDepth := 9) [go_sem, *]
        have HU := Lib.hid (And.intro Ub (And.intro zU (And.intro U0 (And.intro U1 UF))))
        clear eU Ub zU U0 U1 UF
        have Yb := hx
        obtain ⟨Y, hY⟩ : ∃ q, x.it = q := ⟨_, rfl⟩
        rw [hY] at Yb r0 r1 r2 rf zr c1 zc HV HU zw zwB q0 q1 s0' ⊢
        have HV2 := HV
        clear hY hx HV
        obtain ⟨D, hD⟩ : ∃ b, Y.heap.size = b := ⟨_, rfl⟩
        have HD := Lib.hid hD
        have hD0 : A + 2 < D := by rw [← hD]; exact zr
        have hDw : w.heap.size ≤ D := by omega
        rw [hD] at HU ⊢
        clear hD
        go_wp2_with fail
        go_loopg [64] m (fun g st wr => ∃ j : Nat, j + g = m ∧ st = .int .i64 (j : Int) ∧ Below Y.heap.size Y wr ∧ D < wr.heap.size ∧ wr.cell? ⟨D, 0, none⟩ = some (.int .i64 (sumW (L.take j)).1) ∧ wr.cell? ⟨D, 1, none⟩ = some (.int .u64 (sumW (L.take j)).2) ∧ ∀ q, wr.frozen? ⟨D, q, none⟩ = false)
        case atStart => exact ⟨0, by omega, rfl, by rw [HD.out]; exact HU.out.1, HU.out.2.1, HU.out.2.2.1, HU.out.2.2.2.1, HU.out.2.2.2.2⟩
        case round =>
          clear HU
          obtain ⟨j, hj, rfl, hbw, hDz, d0, d1, df⟩ := hrel
          have Wb := Below.to Yb hbw
          by_cases hg0 : gk = 0
          · subst hg0
            obtain rfl : j = m := by omega
            rw [List.take_of_length_le (by rw [HM.out]; exact Nat.le_refl _)] at d0 d1
            have r0 := (hbw.cell (p := ⟨A + 2, 0, none⟩) zr).trans r0
            have r1 := (hbw.cell (p := ⟨A + 2, 1, none⟩) zr).trans r1
            have r2 := (hbw.cell (p := ⟨A + 2, 2, none⟩) zr).trans r2
            have rf : ∀ q, wr.frozen? ⟨A + 2, q, none⟩ = false := fun q => (hbw.frozen (p := ⟨A + 2, q, none⟩) zr).trans (rf q)
            have zr : A + 2 < wr.heap.size := Nat.lt_of_lt_of_le zr hbw.size
            obtain ⟨h1', hh1⟩ : ∃ z, (sumW L).1 = z := ⟨_, rfl⟩
            obtain ⟨l1', hl1⟩ : ∃ z, (sumW L).2 = z := ⟨_, rfl⟩
            rw [hh1] at d0 HS
            rw [hl1] at d1 HS
            have tj : ¬ (j : Int) < (j : Int) := by omega
            clear hj hh1 hl1
            cases hf : Wd.fitsB h1' l1' with
            | true =>
              have IN := Lib.hid (fun W => (by have q := Wd.refInt_any h1' l1' W; rw [hf] at q; exact q : Calls Tryz.prog 106 #[.agg #[.int .i64 h1', .int .u64 l1']] W fun e w' => e = .returned (.tuple #[.int .i64 (Wd.intN h1' l1'), .bool true]) ∧ Below W.heap.size W w'))
              obtain ⟨N, hN⟩ : ∃ N, Wd.intN h1' l1' = N := ⟨_, rfl⟩
              obtain rfl : ((⟨false, N, ⟨#[]⟩⟩, 0) : Val × Int) = R := by rw [← HS.out, if_pos hf, hN]
              rw [hN] at IN
              clear HS hf hN
              go_wp2_with (go_at_call 106; refine Calls.mono (IN.out _) ?_; rintro e w7 ⟨rfl, hb7⟩; obtain ⟨x7, rfl⟩ := Ext.of hb7; have z7 := x7.lt zr)
              exact bodyPost_ret (v := .tuple #[.agg #[.bool false, .int .i64 N, .string ⟨#[]⟩], .int .i64 0]) (by simp (maxDischargeDepth := 9) [results, Tryz.results69, go_sem, *]) rfl (⟨rfl, (by with_reducible repeat (first | exact Below.refl _ _ | assumption | refine Below.al ?_ _ | refine Below.on ?_ _ | refine Below.st ?_ (by first | assumption | (simp; done) | (simp; omega)) _ | refine Below.drew ?_))⟩)
            | false =>
              obtain rfl : ((⟨false, 0, ⟨#[]⟩⟩, 8) : Val × Int) = R := by rw [← HS.out, if_neg (by rw [hf]; decide)]
              have IN := Lib.hid (fun W => (by have q := Wd.refInt_any h1' l1' W; rw [hf] at q; exact q : Calls Tryz.prog 106 #[.agg #[.int .i64 h1', .int .u64 l1']] W fun e w' => e = .returned (.tuple #[.int .i64 (Wd.intN h1' l1'), .bool false]) ∧ Below W.heap.size W w'))
              try dsimp only
              clear HS hf
              go_wp2_with (go_at_call 106; refine Calls.mono (IN.out _) ?_; rintro e w7 ⟨rfl, hb7⟩; obtain ⟨x7, rfl⟩ := Ext.of hb7; have z7 := x7.lt zr)
              exact bodyPost_ret (v := .tuple #[.agg #[.bool false, .int .i64 0, .string ⟨#[]⟩], .int .i64 8]) (by simp (maxDischargeDepth := 9) [results, Tryz.results69, go_sem, *]) rfl (⟨rfl, (by with_reducible repeat (first | exact Below.refl _ _ | assumption | refine Below.al ?_ _ | refine Below.on ?_ _ | refine Below.st ?_ (by first | assumption | (simp; done) | (simp; omega)) _ | refine Below.drew ?_))⟩)
          · have hjm : j < m := by omega
            have hjm' : (j : Int) < (m : Int) := by omega
            have hjL : j < L.length := by rw [HM.out]; exact hjm
            obtain ⟨vb, vo, rfl, _, hvb, k0, k1, k2⟩ := vals_in HV2.out hjL
            have SU := sumW_succ hjL
            have LO := sumW_lo (L.take j)
            obtain ⟨u, hu⟩ : ∃ u, L[j]'hjL = u := ⟨_, rfl⟩
            rw [hu] at k0 k1 k2 SU
            obtain ⟨un, ui, us⟩ := u
            dsimp only at k0 k1 k2 SU
            obtain ⟨S, hS2⟩ : ∃ z, sumW (L.take j) = z := ⟨_, rfl⟩
            rw [hS2] at d0 d1 SU LO
            obtain ⟨sh, sl⟩ := S
            dsimp only at d0 d1 SU LO
            have f0 := (hbw.cell (p := ⟨vb, vo + j * 3, none⟩) hvb).trans k0
            have f1 := (hbw.cell (p := ⟨vb, vo + j * 3 + 1, none⟩) hvb).trans k1
            have f2 := (hbw.cell (p := ⟨vb, vo + j * 3 + 2, none⟩) hvb).trans k2
            have zv : vb < wr.heap.size := Nat.lt_of_lt_of_le hvb hbw.size
            have HK := Lib.hid (And.intro hj hg0)
            have HSU := Lib.hid SU
            have HB := Lib.hid (And.intro hbw Wb)
            have hDY : Y.heap.size ≤ D := by rw [HD.out]; exact Nat.le_refl _
            have OF := Lib.hid (fun W => Wd.refOf_any ui W)
            have AD := Lib.hid (fun W => Wd.refAdd_any sh sl (Wd.ofHi ui) (Wd.ofLo ui) LO (Wd.isU_ofLo ui) W)
            obtain ⟨oh, hoh⟩ : ∃ z, Wd.ofHi ui = z := ⟨_, rfl⟩
            obtain ⟨ol, hol⟩ : ∃ z, Wd.ofLo ui = z := ⟨_, rfl⟩
            rw [hoh] at OF AD HSU
            rw [hol] at OF AD HSU
            obtain ⟨nh, hnh⟩ : ∃ z, Wd.addHi sh sl oh ol = z := ⟨_, rfl⟩
            obtain ⟨nl, hnl⟩ : ∃ z, Wd.addLo sl ol = z := ⟨_, rfl⟩
            rw [hnh, hnl] at AD HSU
            clear k0 k1 k2 hu hj hg0 SU hS2 hbw Wb LO hoh hol hnh hnl
            go_upto_region 19 with fail
            refine wp_region_ext_tail 5 (by kernel_rfl) (by kernel_rfl) ?_
            dsimp only [List.take, List.drop]
            repeat (go_big_quiet_step ((first | (go_at_call 105; exact Calls.ext (OF.out _)) | (go_at_call 104; exact Calls.ext (AD.out _)))))
            refine wpQuiet_nil ?_
            rintro _ ⟨x7, rfl⟩
            have z7 := x7.lt (show D < (wr.alloc (.cells #[.bool un, .int .i64 ui, .string us] 41)).heap.size by simp; omega)
            have zA := Nat.lt_of_lt_of_le zw HB.out.1.size
            have f7 : ∀ q, x7.it.frozen? ⟨D, q, none⟩ = false := fun q => (x7.frozen D q (by simp; omega)).trans (by simp (maxDischargeDepth := 9) [go_sem, *])
            have hbY := HB.out.1
            go_wp2
            go_roundg (gk - 1)
            case measure => have := HK.out; omega
            case rel =>
              refine ⟨j + 1, by have := HK.out; omega, by go_num, (by with_reducible repeat (first | exact Below.refl _ _ | assumption | refine Below.al ?_ _ | refine Below.on ?_ _ | refine Below.st ?_ (by first | assumption | (simp; done) | (simp; omega)) _ | refine Below.drew ?_)), by simpa using z7, ?_, ?_, fun q => ?_⟩
              · rw [HSU.out]; simp (maxDischargeDepth := 9) [go_sem, *]
              · rw [HSU.out]; simp (maxDischargeDepth := 9) [go_sem, *]
              · rw [World.frozen?_setCell, World.frozen?_setCell]; exact f7 q
      have t6 : (op == 3) = false := by simpa using o6
      have HZ : Hid ((if op = 4 then ((minV ty L, 0) : Val × Int) else (maxV ty L, 0)) = R) := Lib.hid (by
        have := HRR.out
        rw [if_neg o1, if_neg o2, if_neg hL0] at this
        by_cases q : op = 4
        · rwa [if_pos q] at this ⊢
        · rw [if_neg q, if_pos (by omega)] at this
          rwa [if_neg q])
      clear HRR
      have ZO := Lib.hid (fun (W : World) (hb : Below x.it.heap.size x.it W) => (by have q := zoneOf_any ty (.slice la m lc) L W (HV.out.mono hb hb.size); exact q : Calls Tryz.prog 107 #[.int .i64 ty, .slice la m lc] W fun e w' => e = .returned (zonV (zoneF ty L)) ∧ Below W.heap.size W w'))
      obtain ⟨hmn, hmx⟩ := zone_ends ty hL0 HNN.out
      obtain ⟨Z, hZ⟩ : ∃ z, zoneF ty L = z := ⟨_, rfl⟩
      rw [hZ] at ZO hmn hmx
      obtain ⟨zr1, zn1, ⟨an, ai, sa⟩, ⟨bn, bi, sb⟩⟩ := Z
      dsimp only at hmn hmx
      rw [← hmn, ← hmx] at HZ
      unfold zonV at ZO
      dsimp only at ZO
      clear hmn hmx hZ hL0
      by_cases o4 : op = 4
      · have t4 : (op == 4) = true := by simpa using o4
        obtain rfl : ((⟨an, ai, sa⟩, 0) : Val × Int) = R := by rw [← HZ.out, if_pos o4]
        clear HZ
        go_wp2_with (go_at_call 107; refine Calls.mono (ZO.out _ (by with_reducible repeat (first | exact Below.refl _ _ | assumption | refine Below.al ?_ _ | refine Below.on ?_ _ | refine Below.st ?_ (by first | assumption | (simp; done) | (simp; omega)) _ | refine Below.drew ?_))) ?_; rintro e w7 ⟨rfl, hb7⟩; obtain ⟨x7, rfl⟩ := Ext.of hb7; have z7 := x7.lt zr; have z8 := x7.lt zwB)
        exact bodyPost_ret (v := .tuple #[.agg #[.bool an, .int .i64 ai, .string sa], .int .i64 0]) (by simp (maxDischargeDepth := 9) [results, Tryz.results69, go_sem, *]) rfl (⟨rfl, (by with_reducible repeat (first | exact Below.refl _ _ | assumption | refine Below.al ?_ _ | refine Below.on ?_ _ | refine Below.st ?_ (by first | assumption | (simp; done) | (simp; omega)) _ | refine Below.drew ?_))⟩)
      · have t4 : (op == 4) = false := by simpa using o4
        obtain rfl : ((⟨bn, bi, sb⟩, 0) : Val × Int) = R := by rw [← HZ.out, if_neg o4]
        clear HZ
        go_wp2_with (go_at_call 107; refine Calls.mono (ZO.out _ (by with_reducible repeat (first | exact Below.refl _ _ | assumption | refine Below.al ?_ _ | refine Below.on ?_ _ | refine Below.st ?_ (by first | assumption | (simp; done) | (simp; omega)) _ | refine Below.drew ?_))) ?_; rintro e w7 ⟨rfl, hb7⟩; obtain ⟨x7, rfl⟩ := Ext.of hb7; have z7 := x7.lt zr; have z8 := x7.lt zwB)
        exact bodyPost_ret (v := .tuple #[.agg #[.bool bn, .int .i64 bi, .string sb], .int .i64 0]) (by simp (maxDischargeDepth := 9) [results, Tryz.results69, go_sem, *]) rfl (⟨rfl, (by with_reducible repeat (first | exact Below.refl _ _ | assumption | refine Below.al ?_ _ | refine Below.on ?_ _ | refine Below.st ?_ (by first | assumption | (simp; done) | (simp; omega)) _ | refine Below.drew ?_))⟩)
    · have hkm : k < n := by omega
      have hkm' : (k : Int) < (n : Int) := by omega
      have hkx : k < rows.length := by rw [HN.out]; exact hkm
      obtain ⟨rb, ro, rfl, _, hrb, lv, f0, hlv⟩ := rows_in HR.out hkx
      have hrl := HRL.out _ (List.getElem_mem hkx)
      have TS := valsC_succ (c := K) hkx
      obtain ⟨r, hr⟩ : ∃ r, rows[k]'hkx = r := ⟨_, rfl⟩
      rw [hr] at hlv hrl TS
      obtain ⟨la, lc, rfl⟩ := vals_end hlv
      have hKr : K < r.length := by omega
      obtain ⟨vb, vo, rfl, _, hvb, d0, d1, d2⟩ := vals_in hlv hKr
      rw [getDv_in hKr] at TS
      obtain ⟨u, hu⟩ : ∃ u, r[K]'hKr = u := ⟨_, rfl⟩
      rw [hu] at d0 d1 d2 TS
      rw [hrl] at f0
      obtain ⟨un, ui, us⟩ := u
      dsimp only at d0 d1 d2 TS
      have f1 := (hx.cell (p := ⟨rb, ro + k, none⟩) hrb).trans f0
      have g1 := (hx.cell (p := ⟨vb, vo + K * 3, none⟩) hvb).trans d0
      have g2 := (hx.cell (p := ⟨vb, vo + K * 3 + 1, none⟩) hvb).trans d1
      have g3 := (hx.cell (p := ⟨vb, vo + K * 3 + 2, none⟩) hvb).trans d2
      have zb1 : rb < x.it.heap.size := Nat.lt_of_lt_of_le hrb hx.size
      have zb2 : vb < x.it.heap.size := Nat.lt_of_lt_of_le hvb hx.size
      have hlk : (valsC (rows.take k) K).length ≤ k := Nat.le_trans (valsC_len _ _) (by simp; omega)
      obtain ⟨vs, hvs⟩ : ∃ vs, valsC (rows.take k) K = vs := ⟨_, rfl⟩
      rw [hvs] at hown TS hlk
      have OW := Lib.hid hown
      have XB := Lib.hid hx
      have HK := Lib.hid (And.intro hk hg0)
      have HXS := x.below.size
      have HXW := hx.size
      clear f0 d0 d1 d2 hlv hr hu hown hvs hk hg0 hrl hKr
      cases un with
      | true =>
        have SO := Lib.hid (TS.trans (by rw [if_pos rfl, List.append_nil]))
        clear TS
        go_wp2
        go_roundg (gk - 1)
        case measure => have := HK.out; omega
        case rel => exact ⟨k + 1, by have := HK.out; omega, by go_num, x, rfl, by rw [SO.out]; exact OW.out⟩
      | false =>
        have SO := Lib.hid (TS.trans (by rw [if_neg (by decide)]))
        clear TS
        have XBW := Lib.hid x.below
        go_wp2_with (at_builtin; go_must (refine wpList_append_lies _ rfl _ _ 42 rfl y.it.heap.size 41 i0 _ 3 32 Tryz.underlying42 hi hz0 hz1 hz2 rfl (by decide) u8 vs.length (vs.flatMap valC) rfl (OW.out.alloc _) ⟨x.it.heap.size, 0, none⟩ 1 1 (valC ⟨false, ui, us⟩) rfl rfl (World.news_of_block (heap_alloc_new x.it _)) (by simp [valC, Value.oneCell']) (by omega) (by unfold maxLen; omega) (by omega) (by simp; omega) (x.it.heap.size + 1) (by simp) ?_); intro gb cap w4 hown hgrow hat hlt4; go_must (have MS := Lib.hid (And.intro hown (show Below y.it.heap.size y.it w4 from Below.gr (Below.al XBW.out _) OW.out hgrow))); clear hown hgrow hat hlt4)
        go_roundg (gk - 1)
        case measure => have := HK.out; omega
        case rel => exact ⟨k + 1, by have := HK.out; omega, by go_num, ⟨_, MS.out.2⟩, rfl, by rw [SO.out, List.flatMap_append, List.length_append]; exact MS.out.1⟩
end Go.Proofs.YtpahoenanfjhpaaGreat
