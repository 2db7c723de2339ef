/-
  CHAPTER 26: Asw, Sts (several texts in one). Conditions: each theorem states its own.
-/
import Derived.Test.YtpahoenanfjhpaaGreatZv
import Derived.Test.YtpahoenanfjhpaaGreatZt
import Derived.Test.YtpahoenanfjhpaaGreatKqyz
import Derived.Test.YtpahoenanfjhpaaGreatZk
import Derived.Test.YtpahoenanfjhpaaGreatZbqz
import Derived.Test.YtpahoenanfjhpaaGreatZj
import Derived.Test.YtpahoenanfjhpaaGreatOpsz
set_option linter.unusedVariables false
set_option linter.unusedSimpArgs false
namespace Go.Proofs.YtpahoenanfjhpaaGreat
open Go.RowKit
set_option maxRecDepth 8000 in
set_option maxHeartbeats 4000000 in
theorem asw_walk (vx vl vm vn : Value) (zx zl zm zn : List Int) (col : Int) (tw : Bool) (w : World) (h0 : IntsAt w w.heap.size vx zx) (h1 : IntsAt w w.heap.size vl zl) (h2 : IntsAt w w.heap.size vm zm) (h3 : IntsAt w w.heap.size vn zn) :
    Calls Tryz.prog 5 #[vx, vl, vm, vn, .int .i64 col, .bool tw] w fun e w' => e = .returned (.bool true) ∧ Below w.heap.size w w' := by
  obtain ⟨i1, hj, hy0, hy1, hy2⟩ := info_parts infoRow
  have H0 := Lib.hid h0
  have H1 := Lib.hid h1
  have H2 := Lib.hid h2
  have H3 := Lib.hid h3
  clear h0 h1 h2 h3
  go_enter Tryz.func5, Tryz.ntmps5
  go_upto_region 2 with (go_at_call 7; refine (keepSchema_any _ _ _ H0.out).mono ?_; rintro e w1 ⟨cv, cs, key, rfl, hc1, hs1, hl1, hb1⟩; obtain ⟨x1, rfl⟩ := Ext.of hb1; obtain ⟨ca, cc, rfl⟩ := cols_end hc1; obtain ⟨nn, hnn⟩ : ∃ nn, cs.length = nn := ⟨_, rfl⟩; rw [hnn] at hc1 hl1 ⊢; have HNN := Lib.hid hnn; clear hnn)
  refine captureM ?_
  intro y ey
  have yb1 : Below x1.it.heap.size x1.it y := by rw [ey]; exact (by with_reducible repeat (first | exact Below.refl _ _ | assumption | refine Below.al ?_ _ | refine Below.on ?_ _ | refine Below.st ?_ (by first | assumption | (simp; done) | (simp; omega)) _ | refine Below.drew ?_))
  have yb : Below w.heap.size w y := by rw [ey]; exact (by with_reducible repeat (first | exact Below.refl _ _ | assumption | refine Below.al ?_ _ | refine Below.on ?_ _ | refine Below.st ?_ (by first | assumption | (simp; done) | (simp; omega)) _ | refine Below.drew ?_))
  have z0 : x1.it.heap.size < y.heap.size := by rw [ey]; simp
  have s0 : y.cell? ⟨x1.it.heap.size, 0, none⟩ = some (.slice ca nn cc) := by rw [ey]; simp (maxDischargeDepth := 9) [go_sem, *]
  have s1 : y.cell? ⟨x1.it.heap.size, 1, none⟩ = some (.int .i64 key) := by rw [ey]; simp (maxDischargeDepth := 9) [go_sem, *]
  have HC := Lib.hid (hc1.mono yb1 yb1.size)
  have HS := Lib.hid hs1
  have I1 := Lib.hid ((H1.out.to fun k hk => yb.block k hk).mono yb.size)
  have I2 := Lib.hid (H2.out)
  have I3 := Lib.hid (H3.out)
  have YW := Lib.hid yb
  clear ey hc1 hs1 hb1 yb1 H0 H1 H2 H3
  generalize x1.it.heap.size = SB at *
  clear x1
  have KQ := Lib.hid (kquery_any (.slice ca nn cc) cs key vl zl y HC.out I1.out HS.out)
  have SP := Lib.hid (schema_parts HS.out)
  go_upto_region 3 with (go_at_call 8; refine Calls.mono KQ.out ?_; rintro e w2 ⟨nv, ns, pv, pr, gv, gr, av, ag, rfl, hn2, hp2, hg2, ha2, hq2, hl2, hb2⟩; obtain ⟨x2, rfl⟩ := Ext.of hb2; obtain ⟨na, nc, rfl⟩ := nods_end hn2; obtain ⟨pa, pc, rfl⟩ := ints_end hp2; obtain ⟨ga, gc, rfl⟩ := ints_end hg2; obtain ⟨aa, ac, rfl⟩ := ags_end ha2; have HN2 := Lib.hid hn2; have HP2 := Lib.hid hp2; have HG2 := Lib.hid hg2; have HA2 := Lib.hid ha2; have HQ2 := Lib.hid hq2; have HL2 := Lib.hid hl2; clear hn2 hp2 hg2 ha2 hq2 hl2)
  refine captureM ?_
  intro z ez
  have wx0 := Below.to YW.out x2.below
  have zZ : ZB w z SB x2.it.heap.size (.slice ca nn cc) cs key vm zm (.slice na ns.length nc) ns (.slice pa pr.length pc) pr (.slice ga gr.length gc) gr (.slice aa ag.length ac) ag := by
    have xz : Below x2.it.heap.size x2.it z := by rw [ez]; with_reducible repeat (first | exact Below.refl _ _ | assumption | refine Below.al ?_ _ | refine Below.on ?_ _ | refine Below.st ?_ (by first | assumption | (simp; done) | (simp; omega)) _ | refine Below.drew ?_)
    have yx := x2.below
    have yw := YW.out
    have u0 := (yx.cell (p := ⟨SB, 0, none⟩) z0).trans s0
    have u1 := (yx.cell (p := ⟨SB, 1, none⟩) z0).trans s1
    have uz := Nat.lt_of_lt_of_le z0 yx.size
    have wx := Below.to yw yx
    refine ⟨Below.to wx xz, wx.size, uz, by rw [ez]; simp, (xz.cell (p := ⟨SB, 0, none⟩) uz).trans u0, (xz.cell (p := ⟨SB, 1, none⟩) uz).trans u1, ?_, ?_, ?_, ?_, fun q => ?_, HC.out.mono (Below.trans yx (xz.mono yx.size)) yx.size, HN2.out.mono xz (Nat.le_refl _), ints_on HP2.out xz (Nat.le_refl _), ints_on HG2.out xz (Nat.le_refl _), HA2.out.mono xz (Nat.le_refl _), ints_on I2.out (Below.trans wx (xz.mono wx.size)) wx.size, HL2.out⟩
    all_goals (rw [ez]; simp (maxDischargeDepth := 9) [go_sem, *])
  have N3 : Hid (IntsAt z x2.it.heap.size vn zn) := Lib.hid (by
    have xz : Below x2.it.heap.size x2.it z := by rw [ez]; with_reducible repeat (first | exact Below.refl _ _ | assumption | refine Below.al ?_ _ | refine Below.on ?_ _ | refine Below.st ?_ (by first | assumption | (simp; done) | (simp; omega)) _ | refine Below.drew ?_)
    exact ints_on I3.out (Below.trans wx0 (xz.mono wx0.size)) wx0.size)
  have HZ := Lib.hid zZ
  have QO := Lib.hid (queryE_ok HQ2.out)
  have QE := Lib.hid HQ2.out
  have QL : Hid (∀ d ∈ ns, d.ls.length ≤ 4398046511104) := Lib.hid (fun d hd => Nat.le_trans (HL2.out d hd) (by decide))
  have SC0 := Lib.hid HS.out
  clear ez z0 s0 s1 HC I1 I2 I3 KQ hb2 HN2 HP2 HG2 HA2 HL2 YW HQ2 zZ wx0 HS
  generalize pr.length = np at HZ
  generalize gr.length = ng at HZ
  generalize ag.length = nA at HZ
  generalize ns.length = nN at HZ
  generalize x2.it.heap.size = QB at *
  clear x2
  have as0 := HZ.out.s0
  have as1 := HZ.out.s1
  have aq0 := HZ.out.q0
  have aq1 := HZ.out.q1
  have aq2 := HZ.out.q2
  have aq3 := HZ.out.q3
  have aQ := HZ.out.zQ
  have aS : SB < z.heap.size := Nat.lt_trans HZ.out.SQ HZ.out.zQ
  have RM := Lib.hid (fun (W : World) (hb : Below z.heap.size z W) => (by
    have h := HZ.out.on hb
    have hq := Nat.le_of_lt h.zQ
    exact rows_any (.slice ca nn cc) cs key vm zm 8 W (h.hc.mono (Below.refl _ _) hq) (ints_on h.hm (Below.refl _ _) hq) (by decide) (by decide) SP.out.1 SP.out.2.2.1))
  have RN := Lib.hid (fun (W : World) (hb : Below z.heap.size z W) => (by
    have h := HZ.out.on hb
    have hq := Nat.le_of_lt h.zQ
    exact rows_any (.slice ca nn cc) cs key vn zn 8 W (h.hc.mono (Below.refl _ _) hq) (ints_on N3.out (hb.mono (Nat.le_of_lt HZ.out.zQ)) hq) (by decide) (by decide) SP.out.1 SP.out.2.2.1))
  go_wp2_with fail
  go_region_held3 (fun w' => w'.cell? ⟨SB, 0, none⟩ = some (.slice ca nn cc) ∧ w'.cell? ⟨SB, 1, none⟩ = some (.int .i64 key)) (first | exact ⟨by assumption, by assumption⟩ | (refine ⟨?_, ?_⟩ <;> simp [go_sem, *]))
    (first
      | (go_at_call 9; (with_reducible refine Calls.mono (RM.out _ (by with_reducible repeat (first | exact Below.refl _ _ | assumption | refine Below.al ?_ _ | refine Below.on ?_ _ | refine Below.st ?_ (by first | assumption | (simp; done) | (simp; omega)) _ | refine Below.drew ?_))) ?_); rintro e w3 ⟨rv, rows, rfl, hr3, hl3, hv3, hb3⟩; obtain ⟨x3, rfl⟩ := Ext.of hb3; obtain ⟨ra, rc, rfl⟩ := rows_end hr3; have HR3 := Lib.hid hr3; have HL3 := Lib.hid hl3; have HV3 := Lib.hid hv3; clear hr3 hl3 hv3; have pS : SB < x3.it.heap.size := x3.lt (by simpa using aS); have p0 : x3.it.cell? ⟨SB, 0, none⟩ = some (.slice ca nn cc) := (x3.cell SB 0 (by simpa using aS)).trans as0; have p1 : x3.it.cell? ⟨SB, 1, none⟩ = some (.int .i64 key) := (x3.cell SB 1 (by simpa using aS)).trans as1)
      | (go_at_call 9; (with_reducible refine Calls.mono (RN.out _ (by with_reducible repeat (first | exact Below.refl _ _ | assumption | refine Below.al ?_ _ | refine Below.on ?_ _ | refine Below.st ?_ (by first | assumption | (simp; done) | (simp; omega)) _ | refine Below.drew ?_))) ?_); rintro e w4 ⟨rv, srows, rfl, hr4, hl4, hv4, hb4⟩; obtain ⟨x4, rfl⟩ := Ext.of hb4; obtain ⟨sa, sc, rfl⟩ := rows_end hr4; have HR4 := Lib.hid hr4; have HL4 := Lib.hid hl4; have HV4 := Lib.hid hv4; clear hr4 hl4 hv4; have HR3' := Lib.hid (HR3.out.mono x4.below x4.below.size); have oS : SB < x4.it.heap.size := x4.lt (by simpa using pS); have o0 : x4.it.cell? ⟨SB, 0, none⟩ = some (.slice ca nn cc) := (x4.cell SB 0 (by simpa using pS)).trans p0; have o1 : x4.it.cell? ⟨SB, 1, none⟩ = some (.int .i64 key) := (x4.cell SB 1 (by simpa using pS)).trans p1))
  go_upto_region 4 with fail
  refine captureM ?_
  intro t et
  have zt : Below z.heap.size z t := by rw [et]; with_reducible repeat (first | exact Below.refl _ _ | assumption | refine Below.al ?_ _ | refine Below.on ?_ _ | refine Below.st ?_ (by first | assumption | (simp; done) | (simp; omega)) _ | refine Below.drew ?_)
  have xt : Below x4.it.heap.size x4.it t := by rw [et]; with_reducible repeat (first | exact Below.refl _ _ | assumption | refine Below.al ?_ _ | refine Below.on ?_ _ | refine Below.st ?_ (by first | assumption | (simp; done) | (simp; omega)) _ | refine Below.drew ?_)
  have HT := Lib.hid (HZ.out.on zt)
  have nr8 : rows.length ≤ 8 := by have := HL3.out; omega
  have ns8 : srows.length ≤ 8 := by have := HL4.out; omega
  have RR := Lib.hid (HR3'.out.mono xt xt.size)
  have RS := Lib.hid (HR4.out.mono xt xt.size)
  clear as0 as1 aq0 aq1 aq2 aq3 aQ aS
  clear et zt xt HR3 HR4 HR3' HL3 HL4 pS p0 p1 oS o0 o1 RM RN HZ N3
  obtain ⟨nr, hnr⟩ : ∃ n, rows.length = n := ⟨_, rfl⟩
  obtain ⟨nS, hnS⟩ : ∃ n, srows.length = n := ⟨_, rfl⟩
  have LR := Lib.hid hnr
  have LS := Lib.hid hnS
  rw [hnr] at nr8 RR ⊢
  rw [hnS] at ns8 RS ⊢
  clear hnr hnS
  have bs0 := HT.out.s0
  have bs1 := HT.out.s1
  have bq0 := HT.out.q0
  have bq1 := HT.out.q1
  have bq2 := HT.out.q2
  have bq3 := HT.out.q3
  have bQ := HT.out.zQ
  have bS : SB < t.heap.size := Nat.lt_trans HT.out.SQ HT.out.zQ
  have NW := Lib.hid (fun (W : World) (h : ZB w W SB QB (.slice ca nn cc) cs key vm zm (.slice na nN nc) ns (.slice pa np pc) pr (.slice ga ng gc) gr (.slice aa nA ac) ag) => (by
    have hq := Nat.le_of_lt h.zQ
    have q := anew2_any (.slice ca nn cc) cs key (.slice na nN nc) ns (.slice pa np pc) pr (.slice ga ng gc) gr (.slice aa nA ac) ag W (h.hc.mono (Below.refl _ _) hq) (h.hn.mono (Below.refl _ _) hq) (ints_on h.hp (Below.refl _ _) hq) (ints_on h.hg (Below.refl _ _) hq) (h.ha.mono (Below.refl _ _) hq) QL.out
    rw [QE.out] at q; exact q : Calls Tryz.prog 13 #[.agg #[.slice ca nn cc, .int .i64 key], .agg #[.slice na nN nc, .slice pa np pc, .slice ga ng gc, .slice aa nA ac]] W (NewPost2 W cs key ns pr gr ag 0)))
  have NT := Lib.hid (NW.out t HT.out)
  go_upto_region 5 with (go_at_call 13; refine Calls.mono NT.out ?_; intro e w1 hq1; unfold NewPost2 at hq1; rw [if_pos rfl] at hq1; obtain ⟨SA, rfl, hlA, hstA, hbA, _⟩ := hq1; have STA := Lib.hid hstA; have HLA := Lib.hid hlA; have HBA := Lib.hid hbA; clear hstA hlA hbA)
  have HT1 := Lib.hid (HT.out.on HBA.out)
  clear bs0 bs1 bq0 bq1 bq2 bq3 bQ bS
  clear NT
  have cs0 := HT1.out.s0
  have cs1 := HT1.out.s1
  have cq0 := HT1.out.q0
  have cq1 := HT1.out.q1
  have cq2 := HT1.out.q2
  have cq3 := HT1.out.q3
  have cQ := HT1.out.zQ
  have cS : SB < w1.heap.size := Nat.lt_trans HT1.out.SQ HT1.out.zQ
  have NT := Lib.hid (NW.out w1 HT1.out)
  go_upto_region 6 with (go_at_call 13; refine Calls.mono NT.out ?_; intro e w2 hq1; unfold NewPost2 at hq1; rw [if_pos rfl] at hq1; obtain ⟨SC, rfl, hlB, hstB, hbB, hfB⟩ := hq1; have STB := Lib.hid hstB; have HLB := Lib.hid hlB; have HBB := Lib.hid hbB; have HFB := Lib.hid hfB; clear hstB hlB hbB hfB)
  clear cs0 cs1 cq0 cq1 cq2 cq3 cQ cS
  have T0 := Lib.hid (Two.init STA.out (Nat.le_refl _) HBB.out STB.out HFB.out HLB.out)
  have B2 : Hid (Below t.heap.size t w2) := Lib.hid (Below.to HBA.out HBB.out)
  have OUT : Hid (t.heap.size ≤ SA ∧ t.heap.size ≤ SC ∧ t.heap.size ≤ w2.heap.size) := Lib.hid ⟨HLA.out, by have := HLA.out; have := HLB.out; have := HBA.out.size; omega, B2.out.size⟩
  clear NT NW STA STB HFB HLA HLB HBA HBB HT1
  generalize w1.heap.size = lo at *
  obtain ⟨LA, hLA⟩ : ∃ n, lo = n := ⟨_, rfl⟩
  have T1 : Hid (Two lo cs key ns pr gr ag w2 SA lo (.slice none 0 0) [] [] SC w2.heap.size (.slice none 0 0) [] []) := T0
  clear T0 hLA LA
  obtain ⟨LB, hLB⟩ : ∃ n, w2.heap.size = n := ⟨_, rfl⟩
  rw [hLB] at T1 OUT
  clear hLB
  obtain ⟨K, hKK⟩ : ∃ K : Nat, pickI col ((nr : Int) + 1) = (K : Int) := ⟨(pickI col ((nr : Int) + 1)).toNat, by have := (pickI_bd col (n := (nr : Int) + 1) (by omega)).1; omega⟩
  have hKn : K ≤ nr := by have := (pickI_bd col (n := (nr : Int) + 1) (by omega)).2; omega
  have PK := Lib.hid (fun W => (by have q := pick_any col ((nr : Int) + 1) (by omega) (by omega) W; rw [hKK] at q; exact q : Calls Tryz.prog 12 #[.int .i64 col, .int .i64 ((nr : Int) + 1)] W fun e w' => e = .returned (.int .i64 (K : Int)) ∧ W = w'))
  have RT := Lib.hid (rows_take RR.out LR.out hKn)
  have RD := Lib.hid (rows_drop RR.out LR.out hKn)
  have hrc : nr ≤ rc := by
    by_cases q : 0 < nr
    · obtain ⟨_, _, _, hmc, _⟩ := rows_in RR.out (i := 0) (by rw [LR.out]; exact q)
      rw [LR.out] at hmc; exact hmc
    · omega
  obtain ⟨sT, hsT⟩ : ∃ s, sliced ra 0 K rc 1 = s := ⟨_, rfl⟩
  obtain ⟨sD, hsD⟩ : ∃ s, sliced ra K nr rc 1 = s := ⟨_, rfl⟩
  have slT : ∀ W : World, (Instr.slice 30 (.slice ra nr rc) none (some (.int .i64 (K : Int))) none).run Tryz.prog W = .ok sT W := fun W => by rw [← hsT]; exact run_rows_h (Nat.le_trans hKn hrc) W
  have slD : ∀ W : World, (Instr.slice 30 (.slice ra nr rc) (some (.int .i64 (K : Int))) none none).run Tryz.prog W = .ok sD W := fun W => by rw [← hsD]; exact run_rows_l hKn W
  rw [hsT] at RT
  rw [hsD] at RD
  have SEL : Hid (selR cs ns (rows.take K) ++ selR cs ns (rows.drop K) = selR cs ns rows) := Lib.hid (by rw [← selR_app, List.take_append_drop])
  have A1 := Lib.hid (fun (W : World) (hb : Below t.heap.size t W) (T : Two lo cs key ns pr gr ag W SA lo (.slice none 0 0) [] [] SC LB (.slice none 0 0) [] []) => (aadd_ok T.a (RT.out.mono hb hb.size) QO.out.pred SC0.out (by rw [List.length_take, LR.out]; omega) (fun r hr => HV3.out r (List.mem_of_mem_take hr)) (by simp) : Calls Tryz.prog 14 #[.pointer (some ⟨SA, 0, none⟩), sT] W (AddOk W SA lo cs key ns pr gr ag (.slice none 0 0) [] ([] ++ selR cs ns (rows.take K)))))
  have A2 := Lib.hid (fun (W : World) (vA : Value) (lA : List Value) (hb : Below t.heap.size t W) (T : Two lo cs key ns pr gr ag W SA lo vA lA ([] ++ selR cs ns (rows.take K)) SC LB (.slice none 0 0) [] []) => (aadd_ok T.a (RD.out.mono hb hb.size) QO.out.pred SC0.out (by rw [List.length_drop, LR.out]; omega) (fun r hr => HV3.out r (List.mem_of_mem_drop hr)) (by have := selR_len cs ns (rows.take K); rw [List.length_take, LR.out] at this; simp; omega) : Calls Tryz.prog 14 #[.pointer (some ⟨SA, 0, none⟩), sD] W (AddOk W SA lo cs key ns pr gr ag vA lA ([] ++ selR cs ns (rows.take K) ++ selR cs ns (rows.drop K)))))
  have A3 := Lib.hid (fun (W : World) (vA : Value) (lA : List Value) (rA : List (List Val)) (hb : Below t.heap.size t W) (T : Two lo cs key ns pr gr ag W SA lo vA lA rA SC LB (.slice none 0 0) [] []) => (aadd_ok T.b (RS.out.mono hb hb.size) QO.out.pred SC0.out (by rw [LS.out]; omega) HV4.out (by simp) : Calls Tryz.prog 14 #[.pointer (some ⟨SC, 0, none⟩), .slice sa nS sc] W (AddOk W SC LB cs key ns pr gr ag (.slice none 0 0) [] ([] ++ selR cs ns srows))))
  clear hKK hsT hsD
  go_upto_region 9 with (go_at_call 12; refine Calls.mono (PK.out _) ?_; rintro e w' ⟨rfl, rfl⟩)
  go_upto_region 11 with (first
    | (go_at_call 14; have hh := T3.out; refine Calls.mono (A3.out _ _ _ _ B4.out T3.out) ?_; clear hh; rintro e w5 ⟨rv5, ps5, rfl, hst, hm, hv, hp, hc⟩; have T4 := Lib.hid (T3.out.addB hst hm hv hp hc); have B5 : Hid (Below t.heap.size t w5) := Lib.hid (Mv.below hm B4.out (fun k hk => hk.elim (fun e => by have := OUT.out.2.1; omega) (fun e => by simp [Value.ownBlock] at e))); clear hst hm hv hp hc)
    | (go_at_call 14; have hh := T2.out; refine Calls.mono (A2.out _ _ _ B3.out T2.out) ?_; clear hh; rintro e w4 ⟨rv4, ps4, rfl, hst, hm, hv, hp, hc⟩; have T3 := Lib.hid (T2.out.addA hst hm hv hp); have B4 : Hid (Below t.heap.size t w4) := Lib.hid (Mv.below hm B3.out (fun k hk => hk.elim (fun e => by have := OUT.out.1; omega) (fun e => by have := T2.out.va k e; have := OUT.out.2.2; omega))); clear hst hm hv hp hc)
    | (go_at_call 14; refine Calls.mono (A1.out _ B2.out T1.out) ?_; rintro e w3 ⟨rv3, ps3, rfl, hst, hm, hv, hp, hc⟩; have T2 := Lib.hid (T1.out.addA hst hm hv hp); have B3 : Hid (Below t.heap.size t w3) := Lib.hid (Mv.below hm B2.out (fun k hk => hk.elim (fun e => by have := OUT.out.1; omega) (fun e => by simp [Value.ownBlock] at e))); clear hst hm hv hp hc))
  have T5 : Hid (Two lo cs key ns pr gr ag w5 SA lo rv4 ([] ++ ps3 ++ ps4) (selR cs ns rows) SC LB rv5 ([] ++ ps5) (selR cs ns srows)) := Lib.hid (by
    have q := T4.out
    rw [List.nil_append (selR cs ns (rows.take K)), SEL.out, List.nil_append (selR cs ns srows)] at q
    exact q)
  generalize [] ++ ps3 ++ ps4 = lA at T5
  generalize [] ++ ps5 = lB at T5
  clear T1 T2 T3 T4 A1 A2 A3 PK RT RD SEL B2 B3 B4
  have HT5 := Lib.hid (HT.out.on B5.out)
  have ds0 := HT5.out.s0
  have ds1 := HT5.out.s1
  have dq0 := HT5.out.q0
  have dq1 := HT5.out.q1
  have dq2 := HT5.out.q2
  have dq3 := HT5.out.q3
  have dQ := HT5.out.zQ
  have dS : SB < w5.heap.size := Nat.lt_trans HT5.out.SQ HT5.out.zQ
  obtain ⟨⟨R1, R2⟩, hR⟩ : ∃ R, resF cs pr gr ag (selR cs ns rows) = R := ⟨_, rfl⟩
  have FR := Lib.hid (selR_fit (ns := ns) HV3.out)
  have FSh := Lib.hid (selR_fit (ns := ns) HV4.out)
  have KR : (selR cs ns rows).length ≤ 8 := Nat.le_trans (selR_len _ _ _) (by rw [LR.out]; exact nr8)
  have KS : (selR cs ns srows).length ≤ 8 := Nat.le_trans (selR_len _ _ _) (by rw [LS.out]; exact ns8)
  have C1 := Lib.hid (stres_ok T5.out.a QO.out FR.out (by omega) hR)
  have C2 := Lib.hid (fun (W : World) (hb : Below w5.heap.size w5 W) => (by
    have h := HT5.out.on hb
    have hq := Nat.le_of_lt h.zQ
    have hbt := Below.to B5.out hb
    exact refrun_ok (rv := .slice ra nr rc) (h.hc.mono (Below.refl _ _) hq) (h.hn.mono (Below.refl _ _) hq) (ints_on h.hp (Below.refl _ _) hq) (ints_on h.hg (Below.refl _ _) hq) (h.ha.mono (Below.refl _ _) hq) (RR.out.mono hbt hbt.size) SC0.out QE.out (by rw [LR.out]; omega) HV3.out hR))
  have tR : (R2 != R2) = false := by simp
  clear hR
  go_upto_region 13 with (first
    | (go_at_call 15; refine Calls.mono C1.out ?_; rintro e w6 ⟨v6, rfl, hr6, hb6⟩; obtain ⟨x6, rfl⟩ := Ext.of hb6; have R6 := Lib.hid hr6; clear hr6; have eQ := x6.lt dQ; have eS := x6.lt dS)
    | (go_at_call 16; refine Calls.mono (C2.out _ (by with_reducible repeat (first | exact Below.refl _ _ | assumption | refine Below.al ?_ _ | refine Below.on ?_ _ | refine Below.st ?_ (by first | assumption | (simp; done) | (simp; omega)) _ | refine Below.drew ?_))) ?_; rintro e w7 ⟨v7, rfl, hr7, hb7⟩; obtain ⟨x7, rfl⟩ := Ext.of hb7; have R7 := Lib.hid hr7; have R6' := Lib.hid (R6.out.mono x7.below x7.below.size); clear hr7))
  have b57 : Below w5.heap.size w5 x7.it := by with_reducible repeat (first | exact Below.refl _ _ | assumption | refine Below.al ?_ _ | refine Below.on ?_ _ | refine Below.st ?_ (by first | assumption | (simp; done) | (simp; omega)) _ | refine Below.drew ?_)
  have T7 := Lib.hid (T5.out.on b57)
  have B7 := Lib.hid (Below.to B5.out b57)
  have MG := Lib.hid (fun (W : World) (hb : Below x7.it.heap.size x7.it W) => amerge_any SA lo SC LB cs key ns pr gr ag rv4 rv5 lA lB (selR cs ns rows) (selR cs ns srows) W (T7.out.on hb).a (T7.out.on hb).b T7.out.ll (by omega))
  clear ds0 ds1 dq0 dq1 dq2 dq3 dQ dS
  clear C1 C2 b57 eQ eS T5
  go_upto_region 15 with (first
    | (go_at_call 17; refine Calls.mono (same_lists v6 v7 R1 _ R6'.out R7.out) ?_; rintro e w8 ⟨rfl, hb8⟩; obtain ⟨x8, rfl⟩ := Ext.of hb8)
    | (go_at_call 18; refine Calls.mono (MG.out _ (by with_reducible repeat (first | exact Below.refl _ _ | assumption | refine Below.al ?_ _ | refine Below.on ?_ _ | refine Below.st ?_ (by first | assumption | (simp; done) | (simp; omega)) _ | refine Below.drew ?_))) ?_; rintro e w9 ⟨rv9, rfl, hst, hm, hv⟩; have T9 := Lib.hid ((T7.out.on (show Below x7.it.heap.size x7.it _ from (by with_reducible repeat (first | exact Below.refl _ _ | assumption | refine Below.al ?_ _ | refine Below.on ?_ _ | refine Below.st ?_ (by first | assumption | (simp; done) | (simp; omega)) _ | refine Below.drew ?_)))).mrg hst (.inr rfl) hm hv); have B9 : Hid (Below t.heap.size t w9) := Lib.hid (Mv.below hm (Below.to B7.out (show Below x7.it.heap.size x7.it _ from (by with_reducible repeat (first | exact Below.refl _ _ | assumption | refine Below.al ?_ _ | refine Below.on ?_ _ | refine Below.st ?_ (by first | assumption | (simp; done) | (simp; omega)) _ | refine Below.drew ?_)))) (fun k hk => by rw [hk]; exact OUT.out.1)); clear hst hm hv))
  have SRC := Lib.hid (rows_src RR.out)
  have SRD := Lib.hid (rows_src RS.out)
  obtain ⟨psR, LVR, SRR⟩ := SRC.out
  obtain ⟨psS, LVS, SRS⟩ := SRD.out
  have HSRR : Hid (∀ W, Below t.heap.size t W → SrcRow W (.slice ra nr rc) nr 1 psR) := Lib.hid (fun W h => by have := SRR W h; rwa [LR.out] at this)
  have HSRS : Hid (∀ W, Below t.heap.size t W → SrcRow W (.slice sa nS sc) nS 1 psS) := Lib.hid (fun W h => by have := SRS W h; rwa [LS.out] at this)
  have LVX : Hid (Lvs t t.heap.size (psR ++ psS) (rows ++ srows)) := Lib.hid (LVR.app LVS)
  have PL : Hid (psR.length = nr ∧ psS.length = nS) := Lib.hid ⟨LVR.1.trans LR.out, LVS.1.trans LS.out⟩
  clear SRC SRD LVR LVS SRR SRS MG R6 R7 R6' T7 B7
  go_upto_region 16 with (first
    | (at_builtin; have hh := O10.out; go_must (refine wpList_append_row (by rfl) _ _ 30 (by rfl) w9.heap.size 42 i1 _ 1 24 Tryz.underlying30 hj hy0 hy1 hy2 rfl (by decide) (.slice a10 nr c10) nr psR (by rfl) O10.out (.slice sa nS sc) nS psS (by rfl) (HSRS.out _ K10.out) (by unfold maxLen; omega) (by omega) G10.out.size ?_); intro v11 w11 hown hgrow hat; clear hh; have O11 := Lib.hid hown; have G11 : Hid (Below w9.heap.size w9 w11) := Lib.hid (Below.gr G10.out O10.out hgrow); obtain ⟨a11, c11, rfl⟩ := own_form O11.out; clear hown hgrow hat)
    | (at_builtin; go_must (refine wpList_append_row (by rfl) _ _ 30 (by rfl) w9.heap.size 42 i1 _ 1 24 Tryz.underlying30 hj hy0 hy1 hy2 rfl (by decide) (.slice none 0 0) 0 [] (by rfl) (World.ownsRow_nil _ _ _ _) (.slice ra nr rc) nr psR (by rfl) (HSRR.out _ B9.out) (by unfold maxLen; omega) (by omega) (Nat.le_refl _) ?_); intro v10 w10 hown hgrow hat; have O10 : Hid (w10.ownsRow w9.heap.size 42 1 v10 nr psR) := Lib.hid (by simpa using hown); have G10 : Hid (Below w9.heap.size w9 w10) := Lib.hid (Below.gr (Below.refl _ _) (World.ownsRow_nil w9 _ 42 1) hgrow); have K10 := Lib.hid (Below.to B9.out G10.out); obtain ⟨a10, c10, rfl⟩ := own_form O10.out; clear hown hgrow hat))
  have HVX : Hid (∀ r ∈ rows ++ srows, r.length = cs.length ∧ RowPre cs r) := Lib.hid (fun r hr => by rcases List.mem_append.1 hr with q | q; exact HV3.out r q; exact HV4.out r q)
  have LX : Hid ((rows ++ srows).length = nr + nS) := Lib.hid (by rw [List.length_append, LR.out, LS.out])
  have T11 : Hid (Two lo cs key ns pr gr ag w11 SA lo rv9 (lA ++ lB) (selR cs ns (rows ++ srows)) SC LB rv5 lB (selR cs ns srows)) := Lib.hid (by rw [selR_app]; exact T9.out.on G11.out)
  have OX : Hid (w11.ownsRow t.heap.size 42 1 (.slice a11 (nr + nS) c11) (nr + nS) (psR ++ psS)) := Lib.hid (own_low O11.out B9.out.size)
  have OXB : Hid (∀ k, Value.ownBlock (.slice a11 (nr + nS) c11) = some k → k ≠ SA) := Lib.hid (fun k hk e => by have := (O11.out.lt k hk).1; have := (T9.out.a.lt); have := T9.out.a.up; omega)
  have B11 := Lib.hid (Below.to B9.out G11.out)
  obtain ⟨ALL, hALL⟩ : ∃ l, rows ++ srows = l := ⟨_, rfl⟩
  obtain ⟨psX, hpsX⟩ : ∃ l, psR ++ psS = l := ⟨_, rfl⟩
  obtain ⟨nX, hnX⟩ : ∃ n, nr + nS = n := ⟨_, rfl⟩
  rw [hALL] at LVX HVX LX T11
  rw [hpsX] at LVX OX
  rw [hnX] at OX LX OXB ⊢
  have nX16 : nX ≤ 16 := by omega
  clear hALL hpsX hnX O11 G11 T9 B9 PL HSRR HSRS
  generalize lA ++ lB = lX at T11
  have CB := Lib.hid (fun (W : World) (rvX : Value) (lX : List Value) (rX : List (List Val)) (T : Two lo cs key ns pr gr ag W SA lo rvX lX rX SC LB rv5 lB (selR cs ns srows)) (R1 : List (List Val)) (R2 : Int) (hR : resF cs pr gr ag (selR cs ns srows) = (R1, R2)) => stres_ok T.b QO.out FSh.out (by omega) hR)
  have CR := Lib.hid (fun (W : World) (hb : Below t.heap.size t W) (R1 : List (List Val)) (R2 : Int) (hR : resF cs pr gr ag (selR cs ns srows) = (R1, R2)) => (by
    have h := HT.out.on hb
    have hq := Nat.le_of_lt h.zQ
    exact refrun_ok (rv := .slice sa nS sc) (h.hc.mono (Below.refl _ _) hq) (h.hn.mono (Below.refl _ _) hq) (ints_on h.hp (Below.refl _ _) hq) (ints_on h.hg (Below.refl _ _) hq) (h.ha.mono (Below.refl _ _) hq) (RS.out.mono hb hb.size) SC0.out QE.out (by rw [LS.out]; omega) HV4.out hR : Calls Tryz.prog 16 #[.agg #[.slice ca nn cc, .int .i64 key], .agg #[.slice na nN nc, .slice pa np pc, .slice ga ng gc, .slice aa nA ac], .slice sa nS sc] W (ResPost W R1 R2)))
  cases tw with
  | false =>
    have RX := Lib.hid (own_rowsL (rs := ALL) (by rw [LX.out]; omega) (LVX.out.mono B11.out B11.out.size) (by rw [LVX.out.1, LX.out]; exact OX.out))
    have HTX := Lib.hid (HT.out.on B11.out)
    have fs0 := HTX.out.s0
    have fs1 := HTX.out.s1
    have fq0 := HTX.out.q0
    have fq1 := HTX.out.q1
    have fq2 := HTX.out.q2
    have fq3 := HTX.out.q3
    have fQ := HTX.out.zQ
    have fS : SB < w11.heap.size := Nat.lt_trans HTX.out.SQ HTX.out.zQ
    obtain ⟨⟨U1, U2⟩, hU⟩ : ∃ R, resF cs pr gr ag (selR cs ns ALL) = R := ⟨_, rfl⟩
    obtain ⟨⟨V1, V2⟩, hV⟩ : ∃ R, resF cs pr gr ag (selR cs ns srows) = R := ⟨_, rfl⟩
    have D1 := Lib.hid (stres_ok T11.out.a QO.out (selR_fit (ns := ns) HVX.out) (by have := selR_len cs ns ALL; rw [LX.out] at this; omega) hU)
    have D2 := Lib.hid (fun (W : World) (hb : Below w11.heap.size w11 W) => (by
      have h := HTX.out.on hb
      have hq := Nat.le_of_lt h.zQ
      exact refrun_ok (rv := .slice a11 nX c11) (h.hc.mono (Below.refl _ _) hq) (h.hn.mono (Below.refl _ _) hq) (ints_on h.hp (Below.refl _ _) hq) (ints_on h.hg (Below.refl _ _) hq) (h.ha.mono (Below.refl _ _) hq) (RX.out.mono hb hb.size) SC0.out QE.out (by rw [LX.out]; omega) HVX.out hU : Calls Tryz.prog 16 #[.agg #[.slice ca nn cc, .int .i64 key], .agg #[.slice na nN nc, .slice pa np pc, .slice ga ng gc, .slice aa nA ac], .slice a11 nX c11] W (ResPost W U1 U2)))
    have D3 := Lib.hid (fun (W : World) (hb : Below w11.heap.size w11 W) => CB.out W _ _ _ (T11.out.on hb) V1 V2 hV)
    have D4 := Lib.hid (fun (W : World) (hb : Below w11.heap.size w11 W) => CR.out W (Below.to B11.out hb) V1 V2 hV)
    have tU : (U2 != U2) = false := by simp
    have tV : (V2 == V2) = true := by simp
    clear hU hV RX
    go_upto_region 22 with (first
      | (go_at_call 15; refine Calls.mono D1.out ?_; rintro e w16 ⟨v16, rfl, hr16, hb16⟩; obtain ⟨x16, rfl⟩ := Ext.of hb16; have R16 := Lib.hid hr16; clear hr16; have gQ := x16.lt fQ; have gS := x16.lt fS)
      | (go_at_call 16; refine Calls.mono (D2.out _ (by with_reducible repeat (first | exact Below.refl _ _ | assumption | refine Below.al ?_ _ | refine Below.on ?_ _ | refine Below.st ?_ (by first | assumption | (simp; done) | (simp; omega)) _ | refine Below.drew ?_))) ?_; rintro e w17 ⟨v17, rfl, hr17, hb17⟩; obtain ⟨x17, rfl⟩ := Ext.of hb17; have R17 := Lib.hid hr17; have R16' := Lib.hid (R16.out.mono x17.below x17.below.size); clear hr17; have hQ := x17.lt gQ; have hS := x17.lt gS))
    go_upto_region 24 with (go_at_call 17; refine Calls.mono (same_lists v16 v17 U1 _ R16'.out R17.out) ?_; rintro e w18 ⟨rfl, hb18⟩; obtain ⟨x18, rfl⟩ := Ext.of hb18; have iQ := x18.lt hQ; have iS := x18.lt hS)
    go_upto_region 26 with (first
      | (go_at_call 15; refine Calls.mono (D3.out _ (by with_reducible repeat (first | exact Below.refl _ _ | assumption | refine Below.al ?_ _ | refine Below.on ?_ _ | refine Below.st ?_ (by first | assumption | (simp; done) | (simp; omega)) _ | refine Below.drew ?_))) ?_; rintro e w19 ⟨v19, rfl, hr19, hb19⟩; obtain ⟨x19, rfl⟩ := Ext.of hb19; have R19 := Lib.hid hr19; clear hr19; have jQ := x19.lt iQ; have jS := x19.lt iS)
      | (go_at_call 16; refine Calls.mono (D4.out _ (by with_reducible repeat (first | exact Below.refl _ _ | assumption | refine Below.al ?_ _ | refine Below.on ?_ _ | refine Below.st ?_ (by first | assumption | (simp; done) | (simp; omega)) _ | refine Below.drew ?_))) ?_; rintro e w20 ⟨v20, rfl, hr20, hb20⟩; obtain ⟨x20, rfl⟩ := Ext.of hb20; have R20 := Lib.hid hr20; have R19' := Lib.hid (R19.out.mono x20.below x20.below.size); clear hr20))
    have SM := Lib.hid (fun (W : World) (hb : Below x20.it.heap.size x20.it W) => same_lists v19 v20 V1 W (R19'.out.mono hb hb.size) (R20.out.mono hb hb.size))
    have zwx : Below w11.heap.size w11 x20.it := by with_reducible repeat (first | exact Below.refl _ _ | assumption | refine Below.al ?_ _ | refine Below.on ?_ _ | refine Below.st ?_ (by first | assumption | (simp; done) | (simp; omega)) _ | refine Below.drew ?_)
    have zww : Below w.heap.size w x20.it := Below.to HTX.out.bel zwx
    go_wp2_with (first
      | (go_at_call 10; refine Calls.mono (awake26 _) ?_; rintro e w21 ⟨rfl, hb21⟩; obtain ⟨x21, rfl⟩ := Ext.of hb21)
      | (go_at_call 17; refine Calls.mono (SM.out _ (by with_reducible repeat (first | exact Below.refl _ _ | assumption | refine Below.al ?_ _ | refine Below.on ?_ _ | refine Below.st ?_ (by first | assumption | (simp; done) | (simp; omega)) _ | refine Below.drew ?_))) ?_; rintro e w22 ⟨rfl, hb22⟩; obtain ⟨x22, rfl⟩ := Ext.of hb22))
    clear zwx
    exact bodyPost_ret (v := .bool true) (by simp [results, Tryz.results5, go_sem, *]) rfl (⟨rfl, by with_reducible repeat (first | exact Below.refl _ _ | assumption | refine Below.al ?_ _ | refine Below.on ?_ _ | refine Below.st ?_ (by first | assumption | (simp; done) | (simp; omega)) _ | refine Below.drew ?_)⟩)
  | true =>
    have MG := Lib.hid (amerge_any SA lo SA lo cs key ns pr gr ag rv9 rv9 lX lX _ _ w11 T11.out.a T11.out.a (Nat.le_refl _) (by have := selR_len cs ns ALL; rw [LX.out] at this; omega))
    go_upto_region 19 with (go_at_call 18; refine Calls.mono MG.out ?_; rintro e w12 ⟨rv12, rfl, hst, hm, hv⟩; have T12 := Lib.hid (T11.out.mrg hst (.inl rfl) hm hv); have B12 : Hid (Below t.heap.size t w12) := Lib.hid (Mv.below hm B11.out (fun k hk => by rw [hk]; exact OUT.out.1)); have OY : Hid (w12.ownsRow t.heap.size 42 1 (.slice a11 nX c11) nX psX) := Lib.hid (own_mvn OX.out hm (fun k hk e => OXB.out k hk e)); clear hst hm hv)
    have SRX : Hid (∀ W, Below w12.heap.size w12 W → SrcRow W (.slice a11 nX c11) nX 1 psX) := Lib.hid (fun W h => own_src1 OY.out LVX.out.one h)
    have PL : Hid (psX.length = nX) := Lib.hid (LVX.out.1.trans LX.out)
    have B12' := Lib.hid (Below.refl w12.heap.size w12)
    clear MG T11 B11 OX OXB
    go_upto_region 20 with (first
      | (at_builtin; have hh := O13.out; go_must (refine wpList_append_row (by rfl) _ _ 30 (by rfl) w12.heap.size 42 i1 _ 1 24 Tryz.underlying30 hj hy0 hy1 hy2 rfl (by decide) (.slice a13 nX c13) nX psX (by rfl) O13.out (.slice a11 nX c11) nX psX (by rfl) (SRX.out _ K13.out) (by unfold maxLen; omega) (by omega) G13.out.size ?_); intro v14 w14 hown hgrow hat; clear hh; have O14 := Lib.hid hown; have G14 : Hid (Below w12.heap.size w12 w14) := Lib.hid (Below.gr G13.out O13.out hgrow); obtain ⟨a14, c14, rfl⟩ := own_form O14.out; clear hown hgrow hat)
      | (at_builtin; go_must (refine wpList_append_row (by rfl) _ _ 30 (by rfl) w12.heap.size 42 i1 _ 1 24 Tryz.underlying30 hj hy0 hy1 hy2 rfl (by decide) (.slice none 0 0) 0 [] (by rfl) (World.ownsRow_nil _ _ _ _) (.slice a11 nX c11) nX psX (by rfl) (SRX.out _ B12'.out) (by unfold maxLen; omega) (by omega) (Nat.le_refl _) ?_); intro v13 w13 hown hgrow hat; have O13 : Hid (w13.ownsRow w12.heap.size 42 1 v13 nX psX) := Lib.hid (by simpa using hown); have G13 : Hid (Below w12.heap.size w12 w13) := Lib.hid (Below.gr (Below.refl _ _) (World.ownsRow_nil w12 _ 42 1) hgrow); have K13 := Lib.hid (Below.to B12'.out G13.out); obtain ⟨a13, c13, rfl⟩ := own_form O13.out; clear hown hgrow hat))
    have HVY : Hid (∀ r ∈ ALL ++ ALL, r.length = cs.length ∧ RowPre cs r) := Lib.hid (fun r hr => by rcases List.mem_append.1 hr with q | q <;> exact HVX.out r q)
    have LY : Hid ((ALL ++ ALL).length = nX + nX) := Lib.hid (by rw [List.length_append, LX.out])
    have T14 : Hid (Two lo cs key ns pr gr ag w14 SA lo rv12 (lX ++ lX) (selR cs ns (ALL ++ ALL)) SC LB rv5 lB (selR cs ns srows)) := Lib.hid (by rw [selR_app]; exact T12.out.on G14.out)
    have LVY : Hid (Lvs t t.heap.size (psX ++ psX) (ALL ++ ALL)) := Lib.hid (LVX.out.app LVX.out)
    have OZ : Hid (w14.ownsRow t.heap.size 42 1 (.slice a14 (nX + nX) c14) (nX + nX) (psX ++ psX)) := Lib.hid (own_low O14.out B12.out.size)
    have B14 := Lib.hid (Below.to B12.out G14.out)
    obtain ⟨AL2, hAL2⟩ : ∃ l, ALL ++ ALL = l := ⟨_, rfl⟩
    obtain ⟨psY, hpsY⟩ : ∃ l, psX ++ psX = l := ⟨_, rfl⟩
    obtain ⟨nY, hnY⟩ : ∃ n, nX + nX = n := ⟨_, rfl⟩
    rw [hAL2] at HVY LY T14 LVY
    rw [hpsY] at LVY OZ
    rw [hnY] at OZ LY ⊢
    have nY32 : nY ≤ 32 := by omega
    clear hAL2 hpsY hnY O14 G14 T12 B12 B12' OY SRX PL HVX LX LVX
    have RX := Lib.hid (own_rowsL (rs := AL2) (by rw [LY.out]; omega) (LVY.out.mono B14.out B14.out.size) (by rw [LVY.out.1, LY.out]; exact OZ.out))
    have HTX := Lib.hid (HT.out.on B14.out)
    have fs0 := HTX.out.s0
    have fs1 := HTX.out.s1
    have fq0 := HTX.out.q0
    have fq1 := HTX.out.q1
    have fq2 := HTX.out.q2
    have fq3 := HTX.out.q3
    have fQ := HTX.out.zQ
    have fS : SB < w14.heap.size := Nat.lt_trans HTX.out.SQ HTX.out.zQ
    obtain ⟨⟨U1, U2⟩, hU⟩ : ∃ R, resF cs pr gr ag (selR cs ns AL2) = R := ⟨_, rfl⟩
    obtain ⟨⟨V1, V2⟩, hV⟩ : ∃ R, resF cs pr gr ag (selR cs ns srows) = R := ⟨_, rfl⟩
    have D1 := Lib.hid (stres_ok T14.out.a QO.out (selR_fit (ns := ns) HVY.out) (by have := selR_len cs ns AL2; rw [LY.out] at this; omega) hU)
    have D2 := Lib.hid (fun (W : World) (hb : Below w14.heap.size w14 W) => (by
      have h := HTX.out.on hb
      have hq := Nat.le_of_lt h.zQ
      exact refrun_ok (rv := .slice a14 nY c14) (h.hc.mono (Below.refl _ _) hq) (h.hn.mono (Below.refl _ _) hq) (ints_on h.hp (Below.refl _ _) hq) (ints_on h.hg (Below.refl _ _) hq) (h.ha.mono (Below.refl _ _) hq) (RX.out.mono hb hb.size) SC0.out QE.out (by rw [LY.out]; omega) HVY.out hU : Calls Tryz.prog 16 #[.agg #[.slice ca nn cc, .int .i64 key], .agg #[.slice na nN nc, .slice pa np pc, .slice ga ng gc, .slice aa nA ac], .slice a14 nY c14] W (ResPost W U1 U2)))
    have D3 := Lib.hid (fun (W : World) (hb : Below w14.heap.size w14 W) => CB.out W _ _ _ (T14.out.on hb) V1 V2 hV)
    have D4 := Lib.hid (fun (W : World) (hb : Below w14.heap.size w14 W) => CR.out W (Below.to B14.out hb) V1 V2 hV)
    have tU : (U2 != U2) = false := by simp
    have tV : (V2 == V2) = true := by simp
    clear hU hV RX
    go_upto_region 22 with (first
      | (go_at_call 15; refine Calls.mono D1.out ?_; rintro e w16 ⟨v16, rfl, hr16, hb16⟩; obtain ⟨x16, rfl⟩ := Ext.of hb16; have R16 := Lib.hid hr16; clear hr16; have gQ := x16.lt fQ; have gS := x16.lt fS)
      | (go_at_call 16; refine Calls.mono (D2.out _ (by with_reducible repeat (first | exact Below.refl _ _ | assumption | refine Below.al ?_ _ | refine Below.on ?_ _ | refine Below.st ?_ (by first | assumption | (simp; done) | (simp; omega)) _ | refine Below.drew ?_))) ?_; rintro e w17 ⟨v17, rfl, hr17, hb17⟩; obtain ⟨x17, rfl⟩ := Ext.of hb17; have R17 := Lib.hid hr17; have R16' := Lib.hid (R16.out.mono x17.below x17.below.size); clear hr17; have hQ := x17.lt gQ; have hS := x17.lt gS))
    go_upto_region 24 with (go_at_call 17; refine Calls.mono (same_lists v16 v17 U1 _ R16'.out R17.out) ?_; rintro e w18 ⟨rfl, hb18⟩; obtain ⟨x18, rfl⟩ := Ext.of hb18; have iQ := x18.lt hQ; have iS := x18.lt hS)
    go_upto_region 26 with (first
      | (go_at_call 15; refine Calls.mono (D3.out _ (by with_reducible repeat (first | exact Below.refl _ _ | assumption | refine Below.al ?_ _ | refine Below.on ?_ _ | refine Below.st ?_ (by first | assumption | (simp; done) | (simp; omega)) _ | refine Below.drew ?_))) ?_; rintro e w19 ⟨v19, rfl, hr19, hb19⟩; obtain ⟨x19, rfl⟩ := Ext.of hb19; have R19 := Lib.hid hr19; clear hr19; have jQ := x19.lt iQ; have jS := x19.lt iS)
      | (go_at_call 16; refine Calls.mono (D4.out _ (by with_reducible repeat (first | exact Below.refl _ _ | assumption | refine Below.al ?_ _ | refine Below.on ?_ _ | refine Below.st ?_ (by first | assumption | (simp; done) | (simp; omega)) _ | refine Below.drew ?_))) ?_; rintro e w20 ⟨v20, rfl, hr20, hb20⟩; obtain ⟨x20, rfl⟩ := Ext.of hb20; have R20 := Lib.hid hr20; have R19' := Lib.hid (R19.out.mono x20.below x20.below.size); clear hr20))
    have SM := Lib.hid (fun (W : World) (hb : Below x20.it.heap.size x20.it W) => same_lists v19 v20 V1 W (R19'.out.mono hb hb.size) (R20.out.mono hb hb.size))
    have zwx : Below w14.heap.size w14 x20.it := by with_reducible repeat (first | exact Below.refl _ _ | assumption | refine Below.al ?_ _ | refine Below.on ?_ _ | refine Below.st ?_ (by first | assumption | (simp; done) | (simp; omega)) _ | refine Below.drew ?_)
    have zww : Below w.heap.size w x20.it := Below.to HTX.out.bel zwx
    go_wp2_with (first
      | (go_at_call 10; refine Calls.mono (awake26 _) ?_; rintro e w21 ⟨rfl, hb21⟩; obtain ⟨x21, rfl⟩ := Ext.of hb21)
      | (go_at_call 17; refine Calls.mono (SM.out _ (by with_reducible repeat (first | exact Below.refl _ _ | assumption | refine Below.al ?_ _ | refine Below.on ?_ _ | refine Below.st ?_ (by first | assumption | (simp; done) | (simp; omega)) _ | refine Below.drew ?_))) ?_; rintro e w22 ⟨rfl, hb22⟩; obtain ⟨x22, rfl⟩ := Ext.of hb22))
    clear zwx
    exact bodyPost_ret (v := .bool true) (by simp [results, Tryz.results5, go_sem, *]) rfl (⟨rfl, by with_reducible repeat (first | exact Below.refl _ _ | assumption | refine Below.al ?_ _ | refine Below.on ?_ _ | refine Below.st ?_ (by first | assumption | (simp; done) | (simp; omega)) _ | refine Below.drew ?_)⟩)
end Go.Proofs.YtpahoenanfjhpaaGreat
namespace Go.Proofs.YtpahoenanfjhpaaGreat
open Go.RowKit Go.ChangeShapes Go.WideShapes Go.ChangeAt
set_option maxRecDepth 100000 in
theorem aggregateStates_lifted (os : Os) (started : os.Started) (H : Type) (enc : TypeId × Value → H) :
    ReturnsInHanded {} Tryz.checked os 5 .any (Rows.aggregateStatesSpec.pre6 enc Tryz.prog Tryz.f5 Rows.aggregateStatesRow.domain false) (Rows.aggregateStatesSpec.post enc Tryz.prog Tryz.f5 false true false false) := by
  refine lifted_of_walk (C := Tryz.checked) (tb := 4) own started (by kernel_rfl) Tryz.func5
    (ChangeSpec.witness6 (enc := enc) (C := Tryz.checked) false ⟨#[], #[.slice none 0 0, .slice none 0 0, .slice none 0 0, .slice none 0 0, .int .i64 0, .bool false], []⟩ 8 (by kernel_rfl) (by kernel_rfl) (by kernel_rfl) (by kernel_rfl))
    laid (params_ok (by kernel_rfl)) (by kernel_rfl) Tryz.underlying4 rfl
    (fun ds hds => by match ds, hds with | [d0, d1, d2, d3, d4, d5], _ => exact ⟨rfl, rfl, rfl⟩) ?_
  intro W base args ds ps hval0 hA0
  have hval : ∀ (j : Nat) t v, Tryz.f5.params[j]? = some t → args[j]? = some v → Value.okWide Tryz.prog W .any base t v := hval0
  have hA : DataW.TrodAll enc Tryz.prog W 0 (fun _ => true) true Tryz.f5.params.toList args.toList ds ps := hA0
  rw [Tryz.params5] at hA hval
  obtain ⟨v0, vs0, d0, ds0, p0, q0, hargs, rfl, rfl, h0, r0⟩ := trodAll_cons hA
  obtain ⟨v1, vs1, d1, ds1, p1, q1, rfl, rfl, rfl, h1, r1⟩ := trodAll_cons r0
  obtain ⟨v2, vs2, d2, ds2, p2, q2, rfl, rfl, rfl, h2, r2⟩ := trodAll_cons r1
  obtain ⟨v3, vs3, d3, ds3, p3, q3, rfl, rfl, rfl, h3, r3⟩ := trodAll_cons r2
  obtain ⟨v4, vs4, d4, ds4, p4, q4, rfl, rfl, rfl, h4, r4⟩ := trodAll_cons r3
  obtain ⟨v5, vs5, d5, ds5, p5, q5, rfl, rfl, rfl, h5, r5⟩ := trodAll_cons r4
  obtain ⟨rfl, rfl, rfl⟩ := trodAll_nil r5
  obtain rfl : args = #[v0, v1, v2, v3, v4, v5] := by cases args; simp_all
  obtain ⟨l0, y0⟩ := open_intsv Tryz.underlying26 Tryz.underlying3 cells3 (hval 0 _ v0 rfl rfl) h0
  obtain ⟨l1, y1⟩ := open_intsv Tryz.underlying26 Tryz.underlying3 cells3 (hval 1 _ v1 rfl rfl) h1
  obtain ⟨l2, y2⟩ := open_intsv Tryz.underlying26 Tryz.underlying3 cells3 (hval 2 _ v2 rfl rfl) h2
  obtain ⟨l3, y3⟩ := open_intsv Tryz.underlying26 Tryz.underlying3 cells3 (hval 3 _ v3 rfl rfl) h3
  obtain ⟨kn, rfl, hkn⟩ := open_i64 Tryz.underlying3 (hval 4 _ v4 rfl rfl) h4
  obtain ⟨kb, rfl⟩ := open_boolv Tryz.underlying4 (hval 5 _ v5 rfl rfl) h5
  exact asw_walk _ _ _ _ _ _ _ _ _ _ _ y0 y1 y2 y3

theorem aggregateStates_holds : Rows.AggregateStatesSaid :=
  OpenClaim.holds_of_wide 5 Tryz.f5 rfl rfl rfl rfl rfl rfl rfl ⟨rfl, rfl, rfl, rfl, rfl⟩ rfl rfl rfl rfl rfl (by kernel_rfl) Tryz.func5 (by kernel_rfl)
    (of_decide_eq_true (by kernel_rfl)) (by unfold Func.isWrapper; first | (rw [if_pos (by decide +kernel)]; kernel_rfl) | (rw [if_neg (by decide +kernel)]; exact ⟨rfl, rfl⟩))
    (fun os started H enc _ => aggregateStates_lifted os started H enc)
#print axioms aggregateStates_holds
end Go.Proofs.YtpahoenanfjhpaaGreat
