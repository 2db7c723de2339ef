/-
  BATCHCHECKS: the walk. Conditions: the raw schema and rows lie in memory.
-/
import Derived.Test.YtkblkjfejaflkaaAwk
import Derived.Test.YtkblkjfejaflkaaKrc
import Derived.Test.YtkblkjfejaflkaaBcl
import Derived.Test.YtkblkjfejaflkaaKsc
set_option linter.unusedVariables false
set_option linter.unusedSimpArgs false
namespace Go.Proofs.Ytkblkjfejaflkaa
open Go.RowKit Go.ChangeShapes Go.WideShapes Go.ChangeAt Srt
set_option maxRecDepth 8000 in
set_option maxHeartbeats 4000000 in
theorem bcw_walk (scv : Value) (scs : List Col) (skey : Int) (rwv : Value) (rws : List (List Val)) (vx vl : Value) (zx zl : List Int) (at' col : Int) (vn : Bool) (vi : Int) (vS : ByteArray) (cut : Bool) (w : World)
    (hsc : ColsAt w w.heap.size scv scs) (hrw : RowsAt w w.heap.size rwv rws) (h0 : IntsAt w w.heap.size vx zx) (h1 : IntsAt w w.heap.size vl zl) :
    Calls Try.prog 8 #[.agg #[scv, .int .i64 skey], rwv, vx, vl, .int .i64 at', .int .i64 col, .agg #[.bool vn, .int .i64 vi, .string vS], .bool cut] w fun e w' => e = .returned (.bool true) ∧ Below w.heap.size w w' := by
  obtain ⟨ra, rc, rfl⟩ := rows_end hrw
  obtain ⟨sca, scc, rfl⟩ := cols_end hsc
  obtain ⟨rl, hrl⟩ : ∃ rl, rws.length = rl := ⟨_, rfl⟩
  obtain ⟨sl, hsl⟩ : ∃ sl, scs.length = sl := ⟨_, rfl⟩
  rw [hrl] at hrw ⊢
  rw [hsl] at hsc ⊢
  have GR := Lib.hid hrw
  have GC := Lib.hid hsc
  have H0 := Lib.hid h0
  have H1 := Lib.hid h1
  clear h0 h1 hsc hrw hrl hsl
  go_enter Try.func8, Try.ntmps8
  go_upto_region 1 with fail
  refine captureM ?_
  intro yA eA
  have ya : Below w.heap.size w yA := by rw [eA]; exact (by repeat (first | with_reducible exact Below.refl _ _ | with_reducible assumption | with_reducible refine Below.al ?_ _ | with_reducible refine Below.on ?_ _ | with_reducible refine Below.st ?_ (by first | assumption | (simp; done) | (simp; omega)) _ | with_reducible refine Below.drew ?_))
  have k00 := Lib.hid (by rw [eA]; simp (maxDischargeDepth := 9) [go_sem, *] : yA.cell? ⟨w.heap.size, 0, none⟩ = some (.slice sca sl scc))
  have k01 := Lib.hid (by rw [eA]; simp (maxDischargeDepth := 9) [go_sem, *] : yA.cell? ⟨w.heap.size, 1, none⟩ = some (.int .i64 skey))
  have kz0 := Lib.hid (by rw [eA]; simp <;> omega : w.heap.size < yA.heap.size)
  have k10 := Lib.hid (by rw [eA]; simp (maxDischargeDepth := 9) [go_sem, *] : yA.cell? ⟨w.heap.size + 1, 0, none⟩ = some (.bool vn))
  have k11 := Lib.hid (by rw [eA]; simp (maxDischargeDepth := 9) [go_sem, *] : yA.cell? ⟨w.heap.size + 1, 1, none⟩ = some (.int .i64 vi))
  have k12 := Lib.hid (by rw [eA]; simp (maxDischargeDepth := 9) [go_sem, *] : yA.cell? ⟨w.heap.size + 1, 2, none⟩ = some (.string vS))
  have kz1 := Lib.hid (by rw [eA]; simp <;> omega : w.heap.size + 1 < yA.heap.size)
  have J0 := Lib.hid ((H0.out.to fun k hk => ya.block k hk).mono ya.size)
  clear eA H0
  go_upto_region 2 with (go_at_call 13; refine (keepSchema_any _ _ _ J0.out).mono ?_; rintro e w1 ⟨cv, cs, key, rfl, hc1, hs1, hl1, hb1⟩; obtain ⟨x1, rfl⟩ := Ext.of hb1; obtain ⟨ca, cc, rfl⟩ := cols_end hc1; obtain ⟨nn, hnn⟩ : ∃ nn, cs.length = nn := ⟨_, rfl⟩; rw [hnn] at hc1 hl1 ⊢; have HNN := Lib.hid hnn; clear hnn)
  refine captureM ?_
  intro y0 ey
  have yb1 : Below x1.it.heap.size x1.it y0 := by rw [ey]; exact (by repeat (first | with_reducible exact Below.refl _ _ | with_reducible assumption | with_reducible refine Below.al ?_ _ | with_reducible refine Below.on ?_ _ | with_reducible refine Below.st ?_ (by first | assumption | (simp; done) | (simp; omega)) _ | with_reducible refine Below.drew ?_))
  have yb : Below w.heap.size w y0 := by rw [ey]; exact (by repeat (first | with_reducible exact Below.refl _ _ | with_reducible assumption | with_reducible refine Below.al ?_ _ | with_reducible refine Below.on ?_ _ | with_reducible refine Below.st ?_ (by first | assumption | (simp; done) | (simp; omega)) _ | with_reducible refine Below.drew ?_))
  have yAb : Below yA.heap.size yA y0 := by rw [ey]; exact (by repeat (first | with_reducible exact Below.refl _ _ | with_reducible assumption | with_reducible refine Below.al ?_ _ | with_reducible refine Below.on ?_ _ | with_reducible refine Below.st ?_ (by first | assumption | (simp; done) | (simp; omega)) _ | with_reducible refine Below.drew ?_))
  have zS0 : x1.it.heap.size < y0.heap.size := by rw [ey]; simp
  have s00 : y0.cell? ⟨x1.it.heap.size, 0, none⟩ = some (.slice ca nn cc) := by rw [ey]; simp (maxDischargeDepth := 9) [go_sem, *]
  have s10 : y0.cell? ⟨x1.it.heap.size, 1, none⟩ = some (.int .i64 key) := by rw [ey]; simp (maxDischargeDepth := 9) [go_sem, *]
  have HC := Lib.hid (hc1.mono yb1 yb1.size)
  have SP := Lib.hid (schema_parts hs1)
  have HS := Lib.hid hs1
  clear ey hc1 hs1 hb1 yb1
  generalize x1.it.heap.size = SB at *
  clear x1
  have I1 := Lib.hid ((H1.out.to fun k hk => yb.block k hk).mono yb.size)
  have AB0 : Hid (Below yA.heap.size yA y0) := Lib.hid yAb
  clear H1 J0 yAb
  go_upto_region 3 with (go_at_call 28; refine Calls.mono (rows_own _ cs key vl zl 6 _ HC.out I1.out (by decide) (by decide) SP.out.1 SP.out.2.2.1) ?_; rintro e w2 ⟨v2, lvs, rows, rfl, ho2, hi2, hl2, hp2, hb2⟩; obtain ⟨za, zc, rfl⟩ := own_form ho2; obtain ⟨nr, hnr⟩ : ∃ nr, lvs.length = nr := ⟨_, rfl⟩; have HO2 := Lib.hid ho2; have HI2 := Lib.hid hi2; have HP2 := Lib.hid hp2; have HB2 := Lib.hid hb2; have HLR := Lib.hid hi2.1; rw [hnr] at HLR ⊢; have HNR := Lib.hid hnr; clear ho2 hi2 hp2 hb2 hnr)
  have zS2 := Nat.lt_of_lt_of_le zS0 (HB2.out).size
  have s02 := ((HB2.out).cell (p := ⟨SB, 0, none⟩) zS0).trans s00
  have s12 := ((HB2.out).cell (p := ⟨SB, 1, none⟩) zS0).trans s10
  have BW := Lib.hid (Below.to yb HB2.out)
  have AB := Lib.hid (Below.to AB0.out HB2.out)
  have HC2 := Lib.hid (HC.out.mono HB2.out HB2.out.size)
  have nr6 : nr ≤ 6 := by have := HLR.out; omega
  have NN1 : 1 ≤ nn := by rw [← HNN.out]; exact SP.out.2.1
  have NN12 : nn ≤ 12 := by rw [← HNN.out]; exact SP.out.2.2.1
  have YB := Lib.hid yb
  obtain ⟨E1v, hE1⟩ : ∃ e, batchE scs skey rws = e := ⟨_, rfl⟩
  obtain ⟨E3v, hE3⟩ : ∃ e, batchE cs key rws = e := ⟨_, rfl⟩
  have E10 := Lib.hid (fun (W : World) (h : Below y0.heap.size y0 W) => (by have q := bcheck_any (.slice sca sl scc) scs skey (.slice ra rl rc) rws W (GC.out.mono (Below.to YB.out h) (Below.to YB.out h).size) (GR.out.mono (Below.to YB.out h) (Below.to YB.out h).size); rw [hE1] at q; exact q : Calls Try.prog 30 #[.agg #[.slice sca sl scc, .int .i64 skey], .slice ra rl rc] W fun e w' => e = .returned (.int .i64 E1v) ∧ Below W.heap.size W w'))
  have E11 := Lib.hid (fun (W : World) (h : Below y0.heap.size y0 W) => (by have q := refBatch_any (.slice sca sl scc) scs skey (.slice ra rl rc) rws W (GC.out.mono (Below.to YB.out h) (Below.to YB.out h).size) (GR.out.mono (Below.to YB.out h) (Below.to YB.out h).size); rw [hE1] at q; exact q : Calls Try.prog 31 #[.agg #[.slice sca sl scc, .int .i64 skey], .slice ra rl rc] W fun e w' => e = .returned (.int .i64 E1v) ∧ Below W.heap.size W w'))
  have E30 := Lib.hid (fun (W : World) (h : Below y0.heap.size y0 W) => (by have q := bcheck_any (.slice ca nn cc) cs key (.slice ra rl rc) rws W (HC.out.mono h h.size) (GR.out.mono (Below.to YB.out h) (Below.to YB.out h).size); rw [hE3] at q; exact q : Calls Try.prog 30 #[.agg #[.slice ca nn cc, .int .i64 key], .slice ra rl rc] W fun e w' => e = .returned (.int .i64 E3v) ∧ Below W.heap.size W w'))
  have E31 := Lib.hid (fun (W : World) (h : Below y0.heap.size y0 W) => (by have q := refBatch_any (.slice ca nn cc) cs key (.slice ra rl rc) rws W (HC.out.mono h h.size) (GR.out.mono (Below.to YB.out h) (Below.to YB.out h).size); rw [hE3] at q; exact q : Calls Try.prog 31 #[.agg #[.slice ca nn cc, .int .i64 key], .slice ra rl rc] W fun e w' => e = .returned (.int .i64 E3v) ∧ Below W.heap.size W w'))
  clear hE1 hE3 yb ya I1
  have RA2 : Hid (RowsAt w2 w2.heap.size (.slice za nr zc) rows) := Lib.hid (by have h := inn_rows (by rw [← HI2.out.1, HNR.out]; omega) HI2.out HO2.out; rw [HNR.out] at h; exact h)
  by_cases h2 : nr = 0
  · have n2 : ¬ (0 : Int) < (nr : Int) := by omega
    have VB : Hid (Below y0.heap.size y0 w2) := HB2
    have VR := RA2
    generalize rows = rowsF at *
    clear h2
    go_upto_region 10 with fail
    refine captureM ?_
    intro v ev
    have vw2 : Below y0.heap.size y0 v := by rw [ev]; exact VB.out
    have HRF : RowsAt v v.heap.size (.slice za nr zc) rowsF := by rw [ev]; exact VR.out
    have VW := Lib.hid vw2
    have v0 := (vw2.cell (p := ⟨SB, 0, none⟩) zS0).trans s00
    have v1 := (vw2.cell (p := ⟨SB, 1, none⟩) zS0).trans s10
    have vz := Nat.lt_of_lt_of_le zS0 vw2.size
    have AV := Below.to AB0.out vw2
    have c0 := (AV.cell (p := ⟨w.heap.size, 0, none⟩) kz0.out).trans k00.out
    have c1 := (AV.cell (p := ⟨w.heap.size, 1, none⟩) kz0.out).trans k01.out
    have cz := Nat.lt_of_lt_of_le kz0.out AV.size
    obtain ⟨E2v, hE2⟩ : ∃ e, batchE cs key rowsF = e := ⟨_, rfl⟩
    have E20 := Lib.hid (fun (W : World) (h : Below v.heap.size v W) => (by have q := bcheck_any (.slice ca nn cc) cs key (.slice za nr zc) rowsF W (HC.out.mono (Below.to VW.out h) (Below.to VW.out h).size) (HRF.mono h h.size); rw [hE2] at q; exact q : Calls Try.prog 30 #[.agg #[.slice ca nn cc, .int .i64 key], .slice za nr zc] W fun e w' => e = .returned (.int .i64 E2v) ∧ Below W.heap.size W w'))
    have E21 := Lib.hid (fun (W : World) (h : Below v.heap.size v W) => (by have q := refBatch_any (.slice ca nn cc) cs key (.slice za nr zc) rowsF W (HC.out.mono (Below.to VW.out h) (Below.to VW.out h).size) (HRF.mono h h.size); rw [hE2] at q; exact q : Calls Try.prog 31 #[.agg #[.slice ca nn cc, .int .i64 key], .slice za nr zc] W fun e w' => e = .returned (.int .i64 E2v) ∧ Below W.heap.size W w'))
    have t1 : (E1v == E1v) = true := by simp
    have t2 : (E2v == E2v) = true := by simp
    have t3 : (E3v == E3v) = true := by simp
    clear ev vw2 HRF AV hE2
    refine wp_region_ext (by kernel_rfl) (by kernel_rfl) ?_
    repeat (go_big_quiet_step ((first | (go_at_call 20; exact Calls.ext (awake15 _)) | (go_at_call 30; with_reducible exact Calls.ext (E10.out _ (Below.to VW.out (Ext.below _)))) | (go_at_call 31; with_reducible exact Calls.ext (E11.out _ (Below.to VW.out (Ext.below _)))) | (go_at_call 30; with_reducible exact Calls.ext (E20.out _ (Ext.below _))) | (go_at_call 31; with_reducible exact Calls.ext (E21.out _ (Ext.below _))) | (go_at_call 30; with_reducible exact Calls.ext (E30.out _ (Below.to VW.out (Ext.below _)))) | (go_at_call 31; with_reducible exact Calls.ext (E31.out _ (Below.to VW.out (Ext.below _)))))))
    refine wpQuiet_nil ?_
    rintro _ ⟨x9, rfl⟩
    have BB : Below w.heap.size w x9.it := Below.to YB.out (Below.to VW.out x9.below)
    go_wp2_with fail
    exact bodyPost_ret (v := .bool true) (by simp [results, Try.results8, go_sem, *]) rfl (⟨rfl, BB⟩)
  · have n2 : (0 : Int) < (nr : Int) := by omega
    obtain ⟨i0, hi, hz0, hz1, hz2⟩ := info_parts infoVal
    obtain ⟨g, rfl, hgc, hgb, hgl, hcells⟩ : ∃ g, za = some ⟨g, 0, none⟩ ∧ lvs.length ≤ zc ∧ y0.heap.size ≤ g ∧ g < w2.heap.size ∧ ∀ j (hj : j < lvs.length), w2.cell? ⟨g, j, none⟩ = some (lvs[j]'hj) := by
      rcases own_at (f := one1) (k := 1) (fun _ => rfl) HO2.out with ⟨e0, _⟩ | ⟨g, c, hv, hc, hb, hg, H⟩
      · have := HNR.out; rw [e0] at this; simp at this; omega
      · injection hv with hv1 hv2 hv3
        subst hv3
        exact ⟨g, hv1, hc, hb, hg, fun j hj => by have := H j hj 0 _ (by omega) rfl; simpa using this⟩
    have FZ : ∀ j, w2.frozen? ⟨g, j, none⟩ = false := fun j => World.ownsRow.frozenAt HO2.out j
    obtain ⟨K, hK⟩ : ∃ K : Nat, pickI at' (nr : Int) = (K : Int) := ⟨(pickI at' (nr : Int)).toNat, by have := pickI_bd at' (n := (nr : Int)) (by omega); omega⟩
    have hKn : K < nr := by have := pickI_bd at' (n := (nr : Int)) (by omega); omega
    have hKn' : (K : Int) < (nr : Int) := by omega
    have PK1 := Lib.hid (fun (W : World) => (by have h := pick_any at' (nr : Int) (by omega) (by omega) W; rw [hK] at h; exact h : Calls Try.prog 29 #[.int .i64 at', .int .i64 (nr : Int)] W fun e w' => e = .returned (.int .i64 (K : Int)) ∧ W = w'))
    have hKl : K < lvs.length := by rw [HNR.out]; exact hKn
    have hKc : K < rows.length := by rw [← HLR.out]; exact hKn
    obtain ⟨hvk, hbk⟩ := HI2.out.2 K hKl hKc
    have hck := hcells K hKl
    have hrp := HP2.out _ (List.getElem_mem hKc)
    obtain ⟨lv, hlv⟩ : ∃ lv, lvs[K]'hKl = lv := ⟨_, rfl⟩
    obtain ⟨row, hrow⟩ : ∃ row, rows[K]'hKc = row := ⟨_, rfl⟩
    rw [hlv] at hvk hck
    rw [hrow] at hvk hrp
    obtain ⟨la, lc, rfl⟩ := vals_end hvk
    have RL : row.length = nn := by rw [hrp.1]; exact HNN.out
    rw [RL] at hvk hck
    have HVK := Lib.hid (vals_row hvk)
    have HRL := Lib.hid RL
    have HCE := Lib.hid hcells
    have HFZ := Lib.hid FZ
    have gSB : g ≠ SB := by omega
    rw [RL] at HVK
    clear hK hvk hbk hlv hrow hrp RL hcells FZ
    go_upto_region 6 with (first | (go_at_call 29; (with_reducible refine Calls.mono (PK1.out _) ?_); rintro e w7 ⟨rfl, rfl⟩) | (at_builtin; go_must (refine wpList_append_row (by rfl) _ _ 29 rfl w2.heap.size 33 i0 _ 3 32 Try.underlying29 hi hz0 hz1 hz2 rfl (by decide) (.slice none 0 0) 0 [] rfl (World.ownsRow_nil _ _ _ _) (.slice la nn lc) nn (row.flatMap valC) rfl HVK.out (by unfold maxLen; omega) (by omega) (Nat.le_refl _) ?_); intro v5 w5 hown5 hg5 ha5; rw [Nat.zero_add, List.nil_append] at hown5; obtain ⟨a5, c5, rfl⟩ := own_form hown5; have OW5 := Lib.hid hown5; have B5 : Hid (Below w2.heap.size w2 w5) := Lib.hid (Below.gr (Below.refl w2.heap.size w2) (World.ownsRow_nil _ _ _ _ : w2.ownsRow w2.heap.size 33 3 (.slice none 0 0) 0 []) hg5); clear hown5 hg5 ha5))
    have V5 : ValsAt w5 w5.heap.size (.slice a5 nn c5) row := by have := own_vals (cs := row) (by rw [HRL.out]; omega) (by rw [HRL.out]; exact OW5.out); exact this
    have NC5 := own_cap OW5.out
    obtain ⟨gb, rfl, hgb1, hgb2, HGB⟩ : ∃ gb, a5 = some ⟨gb, 0, none⟩ ∧ w2.heap.size ≤ gb ∧ gb < w5.heap.size ∧ ∀ j (hj : j < row.length), ValCells w5 gb (j * 3) (row[j]'hj) := by
      rcases own_at (f := valC) (fun _ => rfl) (by rw [HRL.out]; exact OW5.out) with ⟨e0, _⟩ | ⟨q, c, hv, _, h3, h4, H⟩
      · have := HRL.out; rw [e0] at this; simp at this; omega
      · injection hv with hv; exact ⟨q, hv, h3, h4, fun j hj => ⟨H j hj 0 _ (by omega) rfl, H j hj 1 _ (by omega) rfl, H j hj 2 _ (by omega) rfl⟩⟩
    have FZ8 : ∀ j, w5.frozen? ⟨gb, j, none⟩ = false := fun j => World.ownsRow.frozenAt OW5.out j
    have HV5 := Lib.hid V5
    have c50 := (B5.out.cell (p := ⟨g, K, none⟩) hgl).trans hck
    have f50 := (B5.out.frozen (p := ⟨g, K, none⟩) hgl).trans (HFZ.out K)
    have z50 := Nat.lt_of_lt_of_le hgl B5.out.size
    have s50 := (B5.out.cell (p := ⟨SB, 0, none⟩) zS2).trans s02
    have s51 := (B5.out.cell (p := ⟨SB, 1, none⟩) zS2).trans s12
    have AB5 := Below.to AB.out B5.out
    have e0 := (AB5.cell (p := ⟨w.heap.size + 1, 0, none⟩) kz1.out).trans k10.out
    have e1 := (AB5.cell (p := ⟨w.heap.size + 1, 1, none⟩) kz1.out).trans k11.out
    have e2 := (AB5.cell (p := ⟨w.heap.size + 1, 2, none⟩) kz1.out).trans k12.out
    have ez := Nat.lt_of_lt_of_le kz1.out AB5.size
    have gg : gb ≠ g := by omega
    have gg' : g ≠ gb := by omega
    have ge1 : gb ≠ w.heap.size + 1 := by have := kz1.out; have := AB.out.size; omega
    have STEP := Lib.hid (fun (W : World) (lv' : Value) (new : List Val) (hb : Below w2.heap.size w2 W) (hv : ValsAt W W.heap.size lv' new) (hne : ∀ q, lv'.ownBlock = some q → q ≠ g) (hgW : g < W.heap.size) (hgc' : W.cell? ⟨g, K, none⟩ = some (.slice la nn lc)) => (by
      have hbk : ∀ q, q ≠ g → (W.setCell ⟨g, K, none⟩ lv').heap[q]? = W.heap[q]? := fun q hq => Below.heap_setCell _ _ _ _ hq
      have RC := rows_changed (W' := W.setCell ⟨g, K, none⟩ lv') (k := K) (lv := lv') (new := new) HI2.out (by rfl) (by exact hgc) hgl (by rw [← HI2.out.1, HNR.out]; omega) (by simpa using hb.size) (fun q hq hne' => (hbk q hne').trans (hb.block q hq)) (fun j hj hne' => by
        rw [World.cell?_setCell_other (h := by intro e; simp only [Addr.mk.injEq] at e; omega)]
        exact (hb.cell (p := ⟨g, j, none⟩) hgl).trans (HCE.out j hj)) (World.cell?_setCell_same' _ _ _ (by rw [hgc']; rfl)) ((hv.keep fun q hq ho => hbk q (hne q ho)).up (by simp))
      have : Below y0.heap.size y0 (W.setCell ⟨g, K, none⟩ lv') := Below.st (Below.to HB2.out hb) hgb _
      rw [HNR.out] at RC
      exact ⟨RC, this⟩ : RowsAt (W.setCell ⟨g, K, none⟩ lv') (W.setCell ⟨g, K, none⟩ lv').heap.size (.slice (some ⟨g, 0, none⟩) nr zc) (rows.set K new) ∧ Below y0.heap.size y0 (W.setCell ⟨g, K, none⟩ lv')))
    cases cut with
    | true =>
      obtain ⟨P, hP⟩ : ∃ P : Nat, pickI col ((nn : Int) + 1) = (P : Int) := ⟨(pickI col ((nn : Int) + 1)).toNat, by have := pickI_bd col (n := (nn : Int) + 1) (by omega); omega⟩
      have hPn : P ≤ nn := by have := pickI_bd col (n := (nn : Int) + 1) (by omega); omega
      have PK2 := Lib.hid (fun (W : World) => (by have h := pick_any col ((nn : Int) + 1) (by omega) (by omega) W; rw [hP] at h; exact h : Calls Try.prog 29 #[.int .i64 col, .int .i64 ((nn : Int) + 1)] W fun e w' => e = .returned (.int .i64 (P : Int)) ∧ W = w'))
      have jcz : (P : Int) ≤ (c5 : Int) := by omega
      have SL : ∀ W, (Instr.slice 29 (.slice (some ⟨gb, 0, none⟩) nn c5) none (some (.int .i64 (P : Int))) none).run Try.prog W = .ok (.slice (some ⟨gb, 0, none⟩) P c5) W := fun W => run_vals_h (by omega) W
      obtain ⟨VR0, VB0⟩ := STEP.out w5 (.slice (some ⟨gb, 0, none⟩) P c5) (row.take P) B5.out (vals_cut HV5.out HRL.out hPn) (fun q hq => by cases hq; exact gg) z50 c50
      have VR := Lib.hid VR0
      have VB := Lib.hid VB0
      obtain ⟨rowsF, hrF⟩ : ∃ r, rows.set K (row.take P) = r := ⟨_, rfl⟩
      rw [hrF] at VR
      clear hP hrF VR0 VB0 HGB V5
      go_upto_region 10 with (go_at_call 29; (with_reducible refine Calls.mono (PK2.out _) ?_); rintro e w7 ⟨rfl, rfl⟩)
      refine captureM ?_
      intro v ev
      have vw2 : Below y0.heap.size y0 v := by rw [ev]; exact VB.out
      have HRF : RowsAt v v.heap.size (.slice (some ⟨g, 0, none⟩) nr zc) rowsF := by rw [ev]; exact VR.out
      have VW := Lib.hid vw2
      have v0 := (vw2.cell (p := ⟨SB, 0, none⟩) zS0).trans s00
      have v1 := (vw2.cell (p := ⟨SB, 1, none⟩) zS0).trans s10
      have vz := Nat.lt_of_lt_of_le zS0 vw2.size
      have AV := Below.to AB0.out vw2
      have c0 := (AV.cell (p := ⟨w.heap.size, 0, none⟩) kz0.out).trans k00.out
      have c1 := (AV.cell (p := ⟨w.heap.size, 1, none⟩) kz0.out).trans k01.out
      have cz := Nat.lt_of_lt_of_le kz0.out AV.size
      obtain ⟨E2v, hE2⟩ : ∃ e, batchE cs key rowsF = e := ⟨_, rfl⟩
      have E20 := Lib.hid (fun (W : World) (h : Below v.heap.size v W) => (by have q := bcheck_any (.slice ca nn cc) cs key (.slice (some ⟨g, 0, none⟩) nr zc) rowsF W (HC.out.mono (Below.to VW.out h) (Below.to VW.out h).size) (HRF.mono h h.size); rw [hE2] at q; exact q : Calls Try.prog 30 #[.agg #[.slice ca nn cc, .int .i64 key], .slice (some ⟨g, 0, none⟩) nr zc] W fun e w' => e = .returned (.int .i64 E2v) ∧ Below W.heap.size W w'))
      have E21 := Lib.hid (fun (W : World) (h : Below v.heap.size v W) => (by have q := refBatch_any (.slice ca nn cc) cs key (.slice (some ⟨g, 0, none⟩) nr zc) rowsF W (HC.out.mono (Below.to VW.out h) (Below.to VW.out h).size) (HRF.mono h h.size); rw [hE2] at q; exact q : Calls Try.prog 31 #[.agg #[.slice ca nn cc, .int .i64 key], .slice (some ⟨g, 0, none⟩) nr zc] W fun e w' => e = .returned (.int .i64 E2v) ∧ Below W.heap.size W w'))
      have t1 : (E1v == E1v) = true := by simp
      have t2 : (E2v == E2v) = true := by simp
      have t3 : (E3v == E3v) = true := by simp
      clear ev vw2 HRF AV hE2
      refine wp_region_ext (by kernel_rfl) (by kernel_rfl) ?_
      repeat (go_big_quiet_step ((first | (go_at_call 20; exact Calls.ext (awake15 _)) | (go_at_call 30; with_reducible exact Calls.ext (E10.out _ (Below.to VW.out (Ext.below _)))) | (go_at_call 31; with_reducible exact Calls.ext (E11.out _ (Below.to VW.out (Ext.below _)))) | (go_at_call 30; with_reducible exact Calls.ext (E20.out _ (Ext.below _))) | (go_at_call 31; with_reducible exact Calls.ext (E21.out _ (Ext.below _))) | (go_at_call 30; with_reducible exact Calls.ext (E30.out _ (Below.to VW.out (Ext.below _)))) | (go_at_call 31; with_reducible exact Calls.ext (E31.out _ (Below.to VW.out (Ext.below _)))))))
      refine wpQuiet_nil ?_
      rintro _ ⟨x9, rfl⟩
      have BB : Below w.heap.size w x9.it := Below.to YB.out (Below.to VW.out x9.below)
      go_wp2_with fail
      exact bodyPost_ret (v := .bool true) (by simp [results, Try.results8, go_sem, *]) rfl (⟨rfl, BB⟩)
    | false =>
      obtain ⟨P, hP⟩ : ∃ P : Nat, pickI col (nn : Int) = (P : Int) := ⟨(pickI col (nn : Int)).toNat, by have := pickI_bd col (n := (nn : Int)) (by omega); omega⟩
      have hPn : P < nn := by have := pickI_bd col (n := (nn : Int)) (by omega); omega
      have hPn' : (P : Int) < (nn : Int) := by omega
      have PK2 := Lib.hid (fun (W : World) => (by have h := pick_any col (nn : Int) (by omega) (by omega) W; rw [hP] at h; exact h : Calls Try.prog 29 #[.int .i64 col, .int .i64 (nn : Int)] W fun e w' => e = .returned (.int .i64 (P : Int)) ∧ W = w'))
      clear hP
      have HGP := HGB P (by rw [HRL.out]; exact hPn)
      obtain ⟨gp0, gp1, gp2⟩ := HGP
      go_upto_region 8 with fail
      refine wp_region_ext_tail 7 (by kernel_rfl) (by kernel_rfl) ?_
      dsimp only [List.take, List.drop]
      repeat (go_big_quiet_step (((go_at_call 29; exact Calls.ext_same (PK2.out _)))))
      refine wpQuiet_nil ?_
      rintro _ ⟨x, rfl⟩
      have x50 := (x.cell g K z50).trans c50
      have xf0 := (x.frozen g K z50).trans f50
      have xz0 := x.lt z50
      have xg0 := (x.cell gb (P * 3) hgb2).trans gp0
      have xg1 := (x.cell gb (P * 3 + 1) hgb2).trans gp1
      have xg2 := (x.cell gb (P * 3 + 2) hgb2).trans gp2
      have xgz := x.lt hgb2
      have xfz : ∀ j, x.it.frozen? ⟨gb, j, none⟩ = false := fun j => (x.frozen gb j hgb2).trans (FZ8 j)
      clear gp0 gp1 gp2 c50 f50 s50 s51 e0 e1 e2 ez
      go_upto_region 9 with fail
      refine captureM ?_
      intro u eu
      have ub : Below w2.heap.size w2 u := by rw [eu]; exact Below.st (Below.st (Below.st (Below.to B5.out x.below) hgb1 _) hgb1 _) hgb1 _
      have uz : u.heap.size = x.it.heap.size := by rw [eu]; simp
      have u50 : u.cell? ⟨g, K, none⟩ = some (.slice la nn lc) := by rw [eu]; simp (maxDischargeDepth := 9) [go_sem, *]
      have uf0 : u.frozen? ⟨g, K, none⟩ = false := by rw [eu]; simp (maxDischargeDepth := 9) [go_sem, *]
      have ug0 : u.cell? ⟨gb, P * 3, none⟩ = some (.bool vn) := by rw [eu]; simp (maxDischargeDepth := 9) [go_sem, *]
      have ug1 : u.cell? ⟨gb, P * 3 + 1, none⟩ = some (.int .i64 vi) := by rw [eu]; simp (maxDischargeDepth := 9) [go_sem, *]
      have ug2 : u.cell? ⟨gb, P * 3 + 2, none⟩ = some (.string vS) := by rw [eu]; simp (maxDischargeDepth := 9) [go_sem, *]
      have uo : ∀ o, o ≠ P * 3 → o ≠ P * 3 + 1 → o ≠ P * 3 + 2 → u.cell? ⟨gb, o, none⟩ = w5.cell? ⟨gb, o, none⟩ := fun o h1 h2 h3 => by
        rw [eu, World.cell?_setCell_other (h := by intro e; simp only [Addr.mk.injEq] at e; omega), World.cell?_setCell_other (h := by intro e; simp only [Addr.mk.injEq] at e; omega), World.cell?_setCell_other (h := by intro e; simp only [Addr.mk.injEq] at e; omega)]
        exact x.cell gb o hgb2
      have UV : ValsAt u u.heap.size (.slice (some ⟨gb, 0, none⟩) row.length c5) (row.set P ⟨vn, vi, vS⟩) := vals_stored (w := w5) (by rw [HRL.out]; omega) (by rw [HRL.out]; exact NC5) (by rw [uz]; exact xgz) HGB uo ⟨ug0, ug1, ug2⟩
      rw [HRL.out] at UV
      have uzg : g < u.heap.size := by rw [uz]; exact xz0
      obtain ⟨VR0, VB0⟩ := STEP.out u (.slice (some ⟨gb, 0, none⟩) nn c5) (row.set P ⟨vn, vi, vS⟩) ub UV (fun q hq => by cases hq; exact gg) uzg u50
      have VR := Lib.hid VR0
      have VB := Lib.hid VB0
      obtain ⟨rowsF, hrF⟩ : ∃ r, rows.set K (row.set P ⟨vn, vi, vS⟩) = r := ⟨_, rfl⟩
      rw [hrF] at VR
      clear hrF VR0 VB0 HGB V5 eu UV uo x50 xf0 xg0 xg1 xg2 xfz ug0 ug1 ug2
      go_upto_region 10 with fail
      refine captureM ?_
      intro v ev
      have vw2 : Below y0.heap.size y0 v := by rw [ev]; exact VB.out
      have HRF : RowsAt v v.heap.size (.slice (some ⟨g, 0, none⟩) nr zc) rowsF := by rw [ev]; exact VR.out
      have VW := Lib.hid vw2
      have v0 := (vw2.cell (p := ⟨SB, 0, none⟩) zS0).trans s00
      have v1 := (vw2.cell (p := ⟨SB, 1, none⟩) zS0).trans s10
      have vz := Nat.lt_of_lt_of_le zS0 vw2.size
      have AV := Below.to AB0.out vw2
      have c0 := (AV.cell (p := ⟨w.heap.size, 0, none⟩) kz0.out).trans k00.out
      have c1 := (AV.cell (p := ⟨w.heap.size, 1, none⟩) kz0.out).trans k01.out
      have cz := Nat.lt_of_lt_of_le kz0.out AV.size
      obtain ⟨E2v, hE2⟩ : ∃ e, batchE cs key rowsF = e := ⟨_, rfl⟩
      have E20 := Lib.hid (fun (W : World) (h : Below v.heap.size v W) => (by have q := bcheck_any (.slice ca nn cc) cs key (.slice (some ⟨g, 0, none⟩) nr zc) rowsF W (HC.out.mono (Below.to VW.out h) (Below.to VW.out h).size) (HRF.mono h h.size); rw [hE2] at q; exact q : Calls Try.prog 30 #[.agg #[.slice ca nn cc, .int .i64 key], .slice (some ⟨g, 0, none⟩) nr zc] W fun e w' => e = .returned (.int .i64 E2v) ∧ Below W.heap.size W w'))
      have E21 := Lib.hid (fun (W : World) (h : Below v.heap.size v W) => (by have q := refBatch_any (.slice ca nn cc) cs key (.slice (some ⟨g, 0, none⟩) nr zc) rowsF W (HC.out.mono (Below.to VW.out h) (Below.to VW.out h).size) (HRF.mono h h.size); rw [hE2] at q; exact q : Calls Try.prog 31 #[.agg #[.slice ca nn cc, .int .i64 key], .slice (some ⟨g, 0, none⟩) nr zc] W fun e w' => e = .returned (.int .i64 E2v) ∧ Below W.heap.size W w'))
      have t1 : (E1v == E1v) = true := by simp
      have t2 : (E2v == E2v) = true := by simp
      have t3 : (E3v == E3v) = true := by simp
      clear ev vw2 HRF AV hE2
      refine wp_region_ext (by kernel_rfl) (by kernel_rfl) ?_
      repeat (go_big_quiet_step ((first | (go_at_call 20; exact Calls.ext (awake15 _)) | (go_at_call 30; with_reducible exact Calls.ext (E10.out _ (Below.to VW.out (Ext.below _)))) | (go_at_call 31; with_reducible exact Calls.ext (E11.out _ (Below.to VW.out (Ext.below _)))) | (go_at_call 30; with_reducible exact Calls.ext (E20.out _ (Ext.below _))) | (go_at_call 31; with_reducible exact Calls.ext (E21.out _ (Ext.below _))) | (go_at_call 30; with_reducible exact Calls.ext (E30.out _ (Below.to VW.out (Ext.below _)))) | (go_at_call 31; with_reducible exact Calls.ext (E31.out _ (Below.to VW.out (Ext.below _)))))))
      refine wpQuiet_nil ?_
      rintro _ ⟨x9, rfl⟩
      have BB : Below w.heap.size w x9.it := Below.to YB.out (Below.to VW.out x9.below)
      go_wp2_with fail
      exact bodyPost_ret (v := .bool true) (by simp [results, Try.results8, go_sem, *]) rfl (⟨rfl, BB⟩)
end Go.Proofs.Ytkblkjfejaflkaa
