/-
  CHAPTER 26: the walk of AggregateChecks. Conditions: the lists lie in memory.
-/
import Derived.Test.YtpahoenanfjhpaaGreatAgrz
import Derived.Test.YtpahoenanfjhpaaGreatZt
import Derived.Test.YtpahoenanfjhpaaGreatKqyz
import Derived.Test.YtpahoenanfjhpaaGreatZk
import Derived.Test.YtpahoenanfjhpaaGreatZbqz
set_option linter.unusedVariables false
set_option linter.unusedSimpArgs false
namespace Go.Proofs.YtpahoenanfjhpaaGreat
open Go.RowKit
set_option maxRecDepth 8000 in
set_option maxHeartbeats 1000000 in
theorem acw_walk (vx vl vm : Value) (zx zl zm : List Int) (how col : Int) (w : World) (h0 : IntsAt w w.heap.size vx zx) (h1 : IntsAt w w.heap.size vl zl) (h2 : IntsAt w w.heap.size vm zm) :
    Calls Tryz.prog 4 #[vx, vl, vm, .int .i64 how, .int .i64 col] w fun e w' => e = .returned (.bool true) ∧ Below w.heap.size w w' := by
  obtain ⟨i1, hj, hy0, hy1, hy2⟩ := info_parts infoInt1
  obtain ⟨ig, hgi, hg0, hg1, hg2⟩ := info_parts infoAg
  obtain ⟨im, hmi, hm0, hm1, hm2⟩ := info_parts infoNod
  have H0 := Lib.hid h0
  have H1 := Lib.hid h1
  have H2 := Lib.hid h2
  clear h0 h1 h2
  go_enter Tryz.func4, Tryz.ntmps4
  go_upto_region 2 with (go_at_call 7; refine (keepSchema_any _ _ _ H0.out).mono ?_; rintro e w1 ⟨cv, cs, key, rfl, hc1, hs1, hl1, hb1⟩; obtain ⟨x1, rfl⟩ := Ext.of hb1; obtain ⟨ca, cc, rfl⟩ := cols_end hc1; obtain ⟨nn, hnn⟩ : ∃ nn, cs.length = nn := ⟨_, rfl⟩; rw [hnn] at hc1 hl1 ⊢; have HNN := Lib.hid hnn; clear hnn)
  refine captureM ?_
  intro y ey
  have yb1 : Below x1.it.heap.size x1.it y := by rw [ey]; exact (by repeat (first | with_reducible exact Below.refl _ _ | with_reducible assumption | with_reducible refine Below.al ?_ _ | with_reducible refine Below.on ?_ _ | with_reducible refine Below.st ?_ (by first | assumption | (simp; done) | (simp; omega)) _ | with_reducible refine Below.drew ?_))
  have yb : Below w.heap.size w y := by rw [ey]; exact (by repeat (first | with_reducible exact Below.refl _ _ | with_reducible assumption | with_reducible refine Below.al ?_ _ | with_reducible refine Below.on ?_ _ | with_reducible refine Below.st ?_ (by first | assumption | (simp; done) | (simp; omega)) _ | with_reducible refine Below.drew ?_))
  have z0 : x1.it.heap.size < y.heap.size := by rw [ey]; simp
  have s0 : y.cell? ⟨x1.it.heap.size, 0, none⟩ = some (.slice ca nn cc) := by rw [ey]; simp (maxDischargeDepth := 9) [go_sem, *]
  have s1 : y.cell? ⟨x1.it.heap.size, 1, none⟩ = some (.int .i64 key) := by rw [ey]; simp (maxDischargeDepth := 9) [go_sem, *]
  have HC := Lib.hid (hc1.mono yb1 yb1.size)
  have HS := Lib.hid hs1
  have I1 := Lib.hid ((H1.out.to fun k hk => yb.block k hk).mono yb.size)
  have I2 := Lib.hid (H2.out)
  have YW := Lib.hid yb
  clear ey hc1 hs1 hb1 yb1 H0 H1 H2
  generalize x1.it.heap.size = SB at *
  clear x1
  have KQ := Lib.hid (kquery_any (.slice ca nn cc) cs key vl zl y HC.out I1.out HS.out)
  have SP := Lib.hid (schema_parts HS.out)
  go_upto_region 3 with (go_at_call 8; refine Calls.mono KQ.out ?_; rintro e w2 ⟨nv, ns, pv, pr, gv, gr, av, ag, rfl, hn2, hp2, hg2, ha2, hq2, hl2, hb2⟩; obtain ⟨x2, rfl⟩ := Ext.of hb2; obtain ⟨na, nc, rfl⟩ := nods_end hn2; obtain ⟨pa, pc, rfl⟩ := ints_end hp2; obtain ⟨ga, gc, rfl⟩ := ints_end hg2; obtain ⟨aa, ac, rfl⟩ := ags_end ha2; have HN2 := Lib.hid hn2; have HP2 := Lib.hid hp2; have HG2 := Lib.hid hg2; have HA2 := Lib.hid ha2; have HQ2 := Lib.hid hq2; have HL2 := Lib.hid hl2; clear hn2 hp2 hg2 ha2 hq2 hl2)
  refine captureM ?_
  intro z ez
  have zZ : ZB w z SB x2.it.heap.size (.slice ca nn cc) cs key vm zm (.slice na ns.length nc) ns (.slice pa pr.length pc) pr (.slice ga gr.length gc) gr (.slice aa ag.length ac) ag := by
    have xz : Below x2.it.heap.size x2.it z := by rw [ez]; repeat (first | with_reducible exact Below.refl _ _ | with_reducible assumption | with_reducible refine Below.al ?_ _ | with_reducible refine Below.on ?_ _ | with_reducible refine Below.st ?_ (by first | assumption | (simp; done) | (simp; omega)) _ | with_reducible refine Below.drew ?_)
    have yx := x2.below
    have yw := YW.out
    have u0 := (yx.cell (p := ⟨SB, 0, none⟩) z0).trans s0
    have u1 := (yx.cell (p := ⟨SB, 1, none⟩) z0).trans s1
    have uz := Nat.lt_of_lt_of_le z0 yx.size
    have wx := Below.to yw yx
    refine ⟨Below.to wx xz, wx.size, uz, by rw [ez]; simp, (xz.cell (p := ⟨SB, 0, none⟩) uz).trans u0, (xz.cell (p := ⟨SB, 1, none⟩) uz).trans u1, ?_, ?_, ?_, ?_, fun q => ?_, HC.out.mono (Below.trans yx (xz.mono yx.size)) yx.size, HN2.out.mono xz (Nat.le_refl _), ints_on HP2.out xz (Nat.le_refl _), ints_on HG2.out xz (Nat.le_refl _), HA2.out.mono xz (Nat.le_refl _), ints_on I2.out (Below.trans wx (xz.mono wx.size)) wx.size, HL2.out⟩
    all_goals (rw [ez]; simp (maxDischargeDepth := 9) [go_sem, *])
  have HZ := Lib.hid zZ
  have q16 := Lib.hid (queryE_ok HQ2.out)
  have n64 := (predF_all q16.out.pred).1
  have p16 := q16.out.p16
  have g16 := q16.out.g16
  have a16 := q16.out.a16
  have NR := nods_row HZ.out.hn
  have AR := ags_row HZ.out.ha
  have PR := ints_row HZ.out.hp
  have GR := ints_row HZ.out.hg
  obtain ⟨dl, hdl, hdv, NR⟩ := NR
  have dll : dl.length = ns.length := by rw [← hdl, List.length_map]
  have HDL := Lib.hid (And.intro hdl (And.intro hdv dll))
  have HLN := Lib.hid (show (pr.length = pr.length) from rfl)
  clear ez z0 s0 s1 HC I1 I2 KQ hb2 HN2 HP2 HG2 HA2 HL2 YW hdl hdv dll HQ2
  obtain ⟨np, hnp⟩ : ∃ n, pr.length = n := ⟨_, rfl⟩
  obtain ⟨ng, hng⟩ : ∃ n, gr.length = n := ⟨_, rfl⟩
  obtain ⟨nA, hnA⟩ : ∃ n, ag.length = n := ⟨_, rfl⟩
  obtain ⟨nN, hnN⟩ : ∃ n, ns.length = n := ⟨_, rfl⟩
  have LP := Lib.hid hnp
  have LG := Lib.hid hng
  have LA := Lib.hid hnA
  have LNN := Lib.hid hnN
  rw [hnp, hng, hnA, hnN] at HZ zZ
  rw [hnp] at p16 PR
  rw [hng] at g16 GR
  rw [hnA] at a16 AR
  rw [hnN] at n64 NR HDL
  generalize x2.it.heap.size = QB at *
  have q0 := zZ.q0
  have q1 := zZ.q1
  have q2 := zZ.q2
  have q3 := zZ.q3
  have zQ := zZ.zQ
  have HNR := Lib.hid NR
  have HAR := Lib.hid AR
  have HPR := Lib.hid PR
  have HGR := Lib.hid GR
  clear zZ hnp hng hnA hnN NR AR PR GR x2
  have PKN := Lib.hid (fun (c n : Int) (h0 : 0 < n) (h1 : n < 9223372036854775808) (W : World) => (by
    refine Calls.mono (pick_any c n h0 h1 W) ?_
    rintro e w' ⟨rfl, rfl⟩
    exact ⟨pickI c n, rfl, rfl, (pickI_bd c h0).1, (pickI_bd c h0).2⟩ : Calls Tryz.prog 12 #[.int .i64 c, .int .i64 n] W fun e w' => ∃ P : Int, e = .returned (.int .i64 P) ∧ W = w' ∧ 0 ≤ P ∧ P < n))
  go_upto_block 0 with (go_at_call 12; refine Calls.mono (PKN.out _ _ (by decide) (by decide) _) ?_; rintro e w' ⟨T, rfl, rfl, hT0, hT1⟩)
  go_cut [] from 21 to 97 (fun wx => QSt w SB QB (.slice ca nn cc) cs key vm zm wx)
  case first =>
    have hT : T = 0 ∨ T = 1 ∨ T = 2 ∨ T = 3 ∨ T = 4 ∨ T = 5 ∨ T = 6 := by omega
    clear hT0 hT1
    rcases hT with rfl | rfl | rfl | rfl | rfl | rfl | rfl
    · go_wp2_with (first
          | (at_builtin; have o7t := O7.out; go_must (refine wpList_append_lies _ rfl _ _ 26 rfl z.heap.size 3 i1 _ 1 8 Tryz.underlying26 hj hy0 hy1 hy2 rfl (by decide) (.slice a7 np c7) np (pr.flatMap intC) rfl (O7.out.alloc _) ⟨w7.heap.size, 0, none⟩ 1 1 [.int .i64 (P - 1)] rfl rfl (World.news_of_block (heap_alloc_new w7 _)) (by simp [Value.oneCell', nodC]) (by omega) (by unfold maxLen; omega) (by omega) (by simp; omega) (w7.heap.size + 1) (by simp) ?_); intro gb cap w8 hown hgrow hat hlt8; clear o7t; go_must (have O8 := Lib.hid hown; have G8 : Hid (Below z.heap.size z w8) := Lib.hid (Below.gr (G7.out.alloc g7s _) O7.out hgrow); have Z8 := Lib.hid (HZ.out.on G8.out); have k8 := Z8.out.q1; have f8 := Z8.out.fr 1; have z8 := Z8.out.zQ); clear hown hgrow hat hlt8)
          | (go_at_call 12; refine Calls.mono (PKN.out _ _ (by decide) (by decide) _) ?_; rintro e w' ⟨P, rfl, rfl, hP0, hP1⟩)
          | (at_builtin; go_must (refine wpList_append_row (by rfl) _ _ 26 (by rfl) z.heap.size 3 i1 _ 1 8 Tryz.underlying26 hj hy0 hy1 hy2 rfl (by decide) (.slice none 0 0) 0 [] (by rfl) (World.ownsRow_nil _ _ _ _) _ np (pr.flatMap intC) (by rfl) HPR.out (by unfold maxLen; omega) (by omega) (Nat.le_refl _) ?_); intro v7 w7 hown hgrow hat; go_must (have O7 : Hid (w7.ownsRow z.heap.size 3 1 v7 np (pr.flatMap intC)) := Lib.hid (by simpa using hown); have G7 : Hid (Below z.heap.size z w7) := Lib.hid (Below.gr (Below.refl _ _) (World.ownsRow_nil z _ 3 1) hgrow); have g7s := G7.out.size); obtain ⟨a7, c7, rfl⟩ := own_form O7.out; clear hown hgrow hat))
      go_meet
      exact Z8.out.qP (own_ints (cs := pr ++ [P - 1]) (fun u hu => by rcases List.mem_append.1 hu with q | q; exact HZ.out.hp.1 u q; (simp at q; rw [q]; unfold isI; omega)) (by rw [List.length_append, LP.out]; simp; omega) (by rw [List.length_append, LP.out, List.flatMap_append]; exact own_st O8.out (fun k hk => by have := (O8.out.lt k hk).1; intro e; have e' : k = QB := e; omega) _))
    · go_wp2_with (first
          | (at_builtin; have o7t := O7.out; go_must (refine wpList_append_lies _ rfl _ _ 26 rfl z.heap.size 3 i1 _ 1 8 Tryz.underlying26 hj hy0 hy1 hy2 rfl (by decide) (.slice a7 ng c7) ng (gr.flatMap intC) rfl (O7.out.alloc _) ⟨w7.heap.size, 0, none⟩ 1 1 [.int .i64 (P - 1)] rfl rfl (World.news_of_block (heap_alloc_new w7 _)) (by simp [Value.oneCell', nodC]) (by omega) (by unfold maxLen; omega) (by omega) (by simp; omega) (w7.heap.size + 1) (by simp) ?_); intro gb cap w8 hown hgrow hat hlt8; clear o7t; go_must (have O8 := Lib.hid hown; have G8 : Hid (Below z.heap.size z w8) := Lib.hid (Below.gr (G7.out.alloc g7s _) O7.out hgrow); have Z8 := Lib.hid (HZ.out.on G8.out); have k8 := Z8.out.q2; have f8 := Z8.out.fr 2; have z8 := Z8.out.zQ); clear hown hgrow hat hlt8)
          | (go_at_call 12; refine Calls.mono (PKN.out _ _ (by decide) (by decide) _) ?_; rintro e w' ⟨P, rfl, rfl, hP0, hP1⟩)
          | (at_builtin; go_must (refine wpList_append_row (by rfl) _ _ 26 (by rfl) z.heap.size 3 i1 _ 1 8 Tryz.underlying26 hj hy0 hy1 hy2 rfl (by decide) (.slice none 0 0) 0 [] (by rfl) (World.ownsRow_nil _ _ _ _) _ ng (gr.flatMap intC) (by rfl) HGR.out (by unfold maxLen; omega) (by omega) (Nat.le_refl _) ?_); intro v7 w7 hown hgrow hat; go_must (have O7 : Hid (w7.ownsRow z.heap.size 3 1 v7 ng (gr.flatMap intC)) := Lib.hid (by simpa using hown); have G7 : Hid (Below z.heap.size z w7) := Lib.hid (Below.gr (Below.refl _ _) (World.ownsRow_nil z _ 3 1) hgrow); have g7s := G7.out.size); obtain ⟨a7, c7, rfl⟩ := own_form O7.out; clear hown hgrow hat))
      go_meet
      exact Z8.out.qG (own_ints (cs := gr ++ [P - 1]) (fun u hu => by rcases List.mem_append.1 hu with q | q; exact HZ.out.hg.1 u q; (simp at q; rw [q]; unfold isI; omega)) (by rw [List.length_append, LG.out]; simp; omega) (by rw [List.length_append, LG.out, List.flatMap_append]; exact own_st O8.out (fun k hk => by have := (O8.out.lt k hk).1; intro e; have e' : k = QB := e; omega) _))
    · go_wp2_with (first
          | (at_builtin; have o7t := O7.out; go_must (refine wpList_append_lies _ rfl _ _ 27 rfl z.heap.size 39 ig _ 2 16 Tryz.underlying27 hgi hg0 hg1 hg2 rfl (by decide) (.slice a7 nA c7) nA (ag.flatMap agC) rfl (O7.out.alloc _) ⟨w7.heap.size, 0, none⟩ 1 1 [.int .i64 (P - 1), .int .i64 (P2 - 1)] rfl rfl (World.news_of_block (heap_alloc_new w7 _)) (by simp [Value.oneCell', nodC]) (by omega) (by unfold maxLen; omega) (by omega) (by simp; omega) (w7.heap.size + 1) (by simp) ?_); intro gb cap w8 hown hgrow hat hlt8; clear o7t; go_must (have O8 := Lib.hid hown; have G8 : Hid (Below z.heap.size z w8) := Lib.hid (Below.gr (G7.out.alloc g7s _) O7.out hgrow); have Z8 := Lib.hid (HZ.out.on G8.out); have k8 := Z8.out.q3; have f8 := Z8.out.fr 3; have z8 := Z8.out.zQ); clear hown hgrow hat hlt8)
          | (go_at_call 12; have hh := hP1; refine Calls.mono (PKN.out _ _ (by decide) (by decide) _) ?_; rintro e w' ⟨P2, rfl, rfl, hP2, hP3⟩; clear hh)
          | (go_at_call 12; refine Calls.mono (PKN.out _ _ (by decide) (by decide) _) ?_; rintro e w' ⟨P, rfl, rfl, hP0, hP1⟩)
          | (at_builtin; go_must (refine wpList_append_row (by rfl) _ _ 27 (by rfl) z.heap.size 39 ig _ 2 16 Tryz.underlying27 hgi hg0 hg1 hg2 rfl (by decide) (.slice none 0 0) 0 [] (by rfl) (World.ownsRow_nil _ _ _ _) _ nA (ag.flatMap agC) (by rfl) HAR.out (by unfold maxLen; omega) (by omega) (Nat.le_refl _) ?_); intro v7 w7 hown hgrow hat; go_must (have O7 : Hid (w7.ownsRow z.heap.size 39 2 v7 nA (ag.flatMap agC)) := Lib.hid (by simpa using hown); have G7 : Hid (Below z.heap.size z w7) := Lib.hid (Below.gr (Below.refl _ _) (World.ownsRow_nil z _ 39 2) hgrow); have g7s := G7.out.size); obtain ⟨a7, c7, rfl⟩ := own_form O7.out; clear hown hgrow hat))
      go_meet
      exact Z8.out.qA (own_ags (l := ag ++ [⟨P - 1, P2 - 1⟩]) (by rw [List.length_append, LA.out]; simp; omega) (by rw [List.length_append, LA.out, List.flatMap_append]; exact own_st O8.out (fun k hk => by have := (O8.out.lt k hk).1; intro e; have e' : k = QB := e; omega) _))
    · have fz := HZ.out.fr 1
      go_upto_region 12 with fail
      go_wp2_with (go_at_call 12; refine Calls.mono (PKN.out _ _ (by decide) (by decide) _) ?_; rintro e w' ⟨P, rfl, rfl, hP0, hP1⟩; obtain ⟨p, rfl⟩ : ∃ p : Nat, P = (p : Int) := ⟨P.toNat, by omega⟩; have mk3 := make_ints p (by omega))
      go_meet
      have zl := HZ.out.zQ
      obtain ⟨Y, hY⟩ : ∃ Y : World, Y = z.setCell ⟨QB, 1, none⟩ (.slice (some ⟨z.heap.size, 0, none⟩) (16 + p) (16 + p)) := ⟨_, rfl⟩
      rw [← hY]
      have ys : Y.heap.size = z.heap.size := by rw [hY, World.size_setCell]
      have yQ : Below QB z Y := by rw [hY]; exact (HZ.out.st 1 (.slice (some ⟨z.heap.size, 0, none⟩) (16 + p) (16 + p))).1
      have yw : Below w.heap.size w Y := by rw [hY]; exact (HZ.out.st 1 (.slice (some ⟨z.heap.size, 0, none⟩) (16 + p) (16 + p))).2
      have r0 : Y.cell? ⟨QB, 0, none⟩ = some (.slice na nN nc) := by rw [hY]; exact cell_other HZ.out.q0 (by decide)
      have r1 : Y.cell? ⟨QB, 1, none⟩ = some (.slice (some ⟨z.heap.size, 0, none⟩) (16 + p) (16 + p)) := by rw [hY]; exact cell_same HZ.out.q1
      have r2 : Y.cell? ⟨QB, 2, none⟩ = some (.slice ga ng gc) := by rw [hY]; exact cell_other HZ.out.q2 (by decide)
      have r3 : Y.cell? ⟨QB, 3, none⟩ = some (.slice aa nA ac) := by rw [hY]; exact cell_other HZ.out.q3 (by decide)
      have ya : Below Y.heap.size Y (Y.alloc (.cells (madeCells #[.int .i64 0] (16 + p)) 3)) := (Below.refl _ _).alloc (Nat.le_refl _) _
      have yQ2 : QB < Y.heap.size := by omega
      have bQ := yQ.trans (ya.mono (Nat.le_of_lt yQ2))
      have hQ := Nat.le_trans (Nat.le_of_lt zl) bQ.size
      exact HZ.out.fin bQ (Below.to yw ya) ((ya.cell (p := ⟨QB, 0, none⟩) yQ2).trans r0) ((ya.cell (p := ⟨QB, 1, none⟩) yQ2).trans r1) ((ya.cell (p := ⟨QB, 2, none⟩) yQ2).trans r2) ((ya.cell (p := ⟨QB, 3, none⟩) yQ2).trans r3) (HZ.out.hn.mono bQ hQ) (pr' := List.replicate (16 + p) 0) ⟨fun u hu => by rw [(List.mem_replicate.1 hu).2]; unfold isI; omega, by simp; omega, .inr ⟨z.heap.size, 0, 16 + p, by simp, by simp; omega, fun j hj => by
        have hj' : j < 16 + p := by simpa using hj
        rw [List.getD_eq_getElem?_getD, List.getElem?_replicate, if_pos hj', Nat.zero_add, ← ys]
        exact made_int Y _ _ _ hj'⟩⟩ (ints_on HZ.out.hg bQ hQ) (HZ.out.ha.mono bQ hQ) HZ.out.hl
    · have fz := HZ.out.fr 3
      go_upto_region 14 with fail
      go_wp2_with (go_at_call 12; refine Calls.mono (PKN.out _ _ (by decide) (by decide) _) ?_; rintro e w' ⟨P, rfl, rfl, hP0, hP1⟩; obtain ⟨p, rfl⟩ : ∃ p : Nat, P = (p : Int) := ⟨P.toNat, by omega⟩; have mk3 := make_ags p (by omega))
      have zl := HZ.out.zQ
      have VS : ∃ Y : World, Y = z.setCell ⟨QB, 3, none⟩ (.slice (some ⟨z.heap.size, 0, none⟩) (16 + p) (16 + p)) := ⟨_, rfl⟩
      obtain ⟨Y, hY⟩ := VS
      have ys : Y.heap.size = z.heap.size := by rw [hY, World.size_setCell]
      have yQ : Below QB z Y := by rw [hY]; exact (HZ.out.st 3 (.slice (some ⟨z.heap.size, 0, none⟩) (16 + p) (16 + p))).1
      have yw : Below w.heap.size w Y := by rw [hY]; exact (HZ.out.st 3 (.slice (some ⟨z.heap.size, 0, none⟩) (16 + p) (16 + p))).2
      have r0 : Y.cell? ⟨QB, 0, none⟩ = some (.slice na nN nc) := by rw [hY]; exact cell_other HZ.out.q0 (by decide)
      have r1 : Y.cell? ⟨QB, 1, none⟩ = some (.slice pa np pc) := by rw [hY]; exact cell_other HZ.out.q1 (by decide)
      have r2 : Y.cell? ⟨QB, 2, none⟩ = some (.slice ga ng gc) := by rw [hY]; exact cell_other HZ.out.q2 (by decide)
      have r3 : Y.cell? ⟨QB, 3, none⟩ = some (.slice (some ⟨z.heap.size, 0, none⟩) (16 + p) (16 + p)) := by rw [hY]; exact cell_same HZ.out.q3
      have ya : Below Y.heap.size Y (Y.alloc (.cells (madeCells #[.int .i64 0, .int .i64 0] ((16 + p) * 2)) 39)) := (Below.refl _ _).alloc (Nat.le_refl _) _
      have yQ2 : QB < Y.heap.size := by omega
      have INI := Lib.hid (And.intro (show MkAg (Y.alloc (.cells (madeCells #[.int .i64 0, .int .i64 0] ((16 + p) * 2)) 39)) z.heap.size (16 + p) 0 from ⟨by simp; omega, fun q => by rw [← ys]; simp (maxDischargeDepth := 9) [go_sem], fun j hj => by rw [if_neg (by omega), ← ys]; exact made_int2 Y _ _ _ (by omega), fun j hj => by rw [← ys]; exact made_int2 Y _ _ _ (by omega)⟩) (And.intro (yQ.trans (ya.mono (Nat.le_of_lt yQ2))) (And.intro (Below.to yw ya) (And.intro ((ya.cell (p := ⟨QB, 0, none⟩) yQ2).trans r0) (And.intro ((ya.cell (p := ⟨QB, 1, none⟩) yQ2).trans r1) (And.intro ((ya.cell (p := ⟨QB, 2, none⟩) yQ2).trans r2) ((ya.cell (p := ⟨QB, 3, none⟩) yQ2).trans r3)))))))
      rw [hY] at INI
      clear hY ys yQ yw r0 r1 r2 r3 ya yQ2 Y mk3
      obtain ⟨n, hn⟩ : ∃ n, 16 + p = n := ⟨_, rfl⟩
      rw [hn] at INI ⊢
      have hn9 : n ≤ 1000 := by omega
      obtain ⟨gB, hgB⟩ : ∃ b, z.heap.size = b := ⟨_, rfl⟩
      rw [hgB] at INI zl ⊢
      have HWQ := Lib.hid HZ.out.wQ
      go_loopg [77] n (fun g st wr => ∃ k : Nat, k + g = n ∧ st = .int .i64 (k : Int) ∧ MkAg wr gB n k ∧ Below QB z wr ∧ Below w.heap.size w wr ∧ wr.cell? ⟨QB, 0, none⟩ = some (.slice na nN nc) ∧ wr.cell? ⟨QB, 1, none⟩ = some (.slice pa np pc) ∧ wr.cell? ⟨QB, 2, none⟩ = some (.slice ga ng gc) ∧ wr.cell? ⟨QB, 3, none⟩ = some (.slice (some ⟨gB, 0, none⟩) n n))
      case atStart => exact ⟨0, by omega, rfl, INI.out⟩
      case round =>
        clear INI
        obtain ⟨k, hk, rfl, hmk, hbQ, hbw, j0, j1, j2, j3⟩ := hrel
        by_cases hg0 : gk = 0
        · subst hg0
          obtain rfl : k = n := by omega
          have tk : ¬ (k : Int) < (k : Int) := by omega
          have FIN : Hid (QSt w SB QB (.slice ca nn cc) cs key vm zm wr) := Lib.hid (by
            have hQ : QB ≤ wr.heap.size := Nat.le_trans (Nat.le_of_lt HZ.out.zQ) hbQ.size
            exact HZ.out.fin hbQ hbw j0 j1 j2 j3 (HZ.out.hn.mono hbQ hQ) (ints_on HZ.out.hp hbQ hQ) (ints_on HZ.out.hg hbQ hQ) (hmk.ags hn9) HZ.out.hl)
          clear hk hmk hbQ hbw j0 j1 j2
          go_wp2
          go_meet
          exact FIN.out
        · have hkm : k < n := by omega
          have hkm' : (k : Int) < (n : Int) := by omega
          have c0 := hmk.c0 k hkm
          rw [if_neg (Nat.lt_irrefl k)] at c0
          have fr := hmk.fr
          have lt := hmk.lt
          have zQw : QB < wr.heap.size := by omega
          have HK := Lib.hid (And.intro hk hg0)
          have HM := Lib.hid (And.intro (hmk.step hkm) (And.intro hbQ (And.intro hbw (And.intro j0 (And.intro j1 j2)))))
          have J3 := Lib.hid j3
          clear hk hg0 hmk hbQ hbw j0 j1 j2
          go_wp2
          go_roundg (gk - 1)
          case measure => have := HK.out; omega
          case rel => exact ⟨k + 1, by have := HK.out; omega, by go_num, HM.out.1, HM.out.2.1.setCell (p := ⟨gB, k * 2, none⟩) (by show QB ≤ gB; omega) _, HM.out.2.2.1.setCell (p := ⟨gB, k * 2, none⟩) (by show w.heap.size ≤ gB; have := HWQ.out; omega) _, cell_far HM.out.2.2.2.1 (by omega), cell_far HM.out.2.2.2.2.1 (by omega), cell_far HM.out.2.2.2.2.2 (by omega), cell_far J3.out (by omega)⟩
    · go_wp2_with (first
          | (at_builtin; have o7t := O7.out; go_must (refine wpList_append_lies _ rfl _ _ 25 rfl z.heap.size 44 im _ 8 88 Tryz.underlying25 hmi hm0 hm1 hm2 rfl (by decide) (.slice a7 nN c7) nN (dl.flatMap nodC) rfl (O7.out.alloc _) ⟨w7.heap.size, 0, none⟩ 1 1 (nodC (⟨11, 0, ⟨false, 0, ⟨#[]⟩⟩, [], P - 1, 0⟩, .slice none 0 0)) rfl rfl (World.news_of_block (heap_alloc_new w7 _)) (by simp [Value.oneCell', nodC]) (by omega) (by unfold maxLen; omega) (by omega) (by simp; omega) (w7.heap.size + 1) (by simp) ?_); intro gb cap w8 hown hgrow hat hlt8; clear o7t; go_must (have O8 := Lib.hid hown; have G8 : Hid (Below z.heap.size z w8) := Lib.hid (Below.gr (G7.out.alloc g7s _) O7.out hgrow); have Z8 := Lib.hid (HZ.out.on G8.out); have k8 := Z8.out.q0; have f8 := Z8.out.fr 0; have z8 := Z8.out.zQ); clear hown hgrow hat hlt8)
          | (go_at_call 12; refine Calls.mono (PKN.out _ _ (by decide) (by decide) _) ?_; rintro e w' ⟨P, rfl, rfl, hP0, hP1⟩)
          | (at_builtin; go_must (refine wpList_append_row (by rfl) _ _ 25 (by rfl) z.heap.size 44 im _ 8 88 Tryz.underlying25 hmi hm0 hm1 hm2 rfl (by decide) (.slice none 0 0) 0 [] (by rfl) (World.ownsRow_nil _ _ _ _) _ nN (dl.flatMap nodC) (by rfl) HNR.out (by unfold maxLen; omega) (by omega) (Nat.le_refl _) ?_); intro v7 w7 hown hgrow hat; go_must (have O7 : Hid (w7.ownsRow z.heap.size 44 8 v7 nN (dl.flatMap nodC)) := Lib.hid (by simpa using hown); have G7 : Hid (Below z.heap.size z w7) := Lib.hid (Below.gr (Below.refl _ _) (World.ownsRow_nil z _ 44 8) hgrow); have g7s := G7.out.size); obtain ⟨a7, c7, rfl⟩ := own_form O7.out; clear hown hgrow hat))
      go_meet
      have DD := HDL.out
      have wl8 := G8.out.size
      exact Z8.out.qN (l := ns ++ [⟨11, 0, ⟨false, 0, ⟨#[]⟩⟩, [], P - 1, 0⟩]) (by
        have q := own_nods (dl := dl ++ [(⟨11, 0, ⟨false, 0, ⟨#[]⟩⟩, [], P - 1, 0⟩, .slice none 0 0)]) (w := w8.setCell ⟨QB, 0, none⟩ (.slice (some ⟨gb, 0, none⟩) (nN + 1) cap)) (by rw [List.length_append, DD.2.2]; simp; omega) (fun p hp => by
          have bq : Below QB z (w8.setCell ⟨QB, 0, none⟩ (.slice (some ⟨gb, 0, none⟩) (nN + 1) cap)) := (G8.out.mono (Nat.le_of_lt HZ.out.zQ)).setCell (p := ⟨QB, 0, none⟩) (Nat.le_refl _) _
          rcases List.mem_append.1 hp with q | q
          · exact (DD.2.1 p q).mono bq (Nat.le_trans (Nat.le_of_lt HZ.out.zQ) bq.size)
          · rw [List.mem_singleton.1 q]; exact ⟨by simp, .inl ⟨rfl, none, 0, rfl⟩⟩) (by
          rw [List.length_append, DD.2.2, List.flatMap_append]
          exact own_st O8.out (fun k hk => by have := (O8.out.lt k hk).1; have := HZ.out.zQ; intro e; have e' : k = QB := e; omega) _)
        rw [List.map_append, DD.1] at q
        exact q) (fun d hd => by
        rcases List.mem_append.1 hd with q | q
        · exact HZ.out.hl d q
        · rw [List.mem_singleton.1 q]; simp)
    · have fz := HZ.out.fr 3
      go_wp2
      go_meet
      exact HZ.out.qA ⟨by simp, .inl ⟨rfl, none, 0, rfl⟩⟩
  case rest =>
  clear HZ HNR HAR HPR HGR HDL PKN q16 q0 q1 q2 q3
  rename_i W
  obtain ⟨bel, zS, zQ2, s0, s1, hc, hm, nv, ns', pv, pr', gv, gr', av, ag', k0, k1, k2, k3, hn, hp, hg, ha, hl⟩ := hcut
  have KC := Lib.hid hc
  have KM := Lib.hid hm
  have KN := Lib.hid hn
  have KP := Lib.hid hp
  have KG := Lib.hid hg
  have KA := Lib.hid ha
  have KL := Lib.hid hl
  have KB := Lib.hid bel
  clear hc hm hn hp hg ha hl
  go_wp2_with fail
  go_region_held3 (fun w' => w'.cell? ⟨SB, 0, none⟩ = some (.slice ca nn cc) ∧ w'.cell? ⟨SB, 1, none⟩ = some (.int .i64 key) ∧ w'.cell? ⟨QB, 0, none⟩ = some nv ∧ w'.cell? ⟨QB, 1, none⟩ = some pv ∧ w'.cell? ⟨QB, 2, none⟩ = some gv ∧ w'.cell? ⟨QB, 3, none⟩ = some av) (first | exact ⟨by assumption, by assumption, by assumption, by assumption, by assumption, by assumption⟩ | (refine ⟨?_, ?_, ?_, ?_, ?_, ?_⟩ <;> simp [go_sem, *]))
    (first
      | (go_at_call 10; refine Calls.mono (awake26 _) ?_; rintro e w9 ⟨rfl, hb9⟩; obtain ⟨x9, rfl⟩ := Ext.of hb9; have mS : SB < x9.it.heap.size := x9.lt (by simpa using zS); have mQ : QB < x9.it.heap.size := x9.lt (by simpa using zQ2); have m0 : x9.it.cell? ⟨SB, 0, none⟩ = some (.slice ca nn cc) := (x9.cell SB 0 (by simpa using zS)).trans s0; have m1 : x9.it.cell? ⟨SB, 1, none⟩ = some (.int .i64 key) := (x9.cell SB 1 (by simpa using zS)).trans s1; have m2 : x9.it.cell? ⟨QB, 0, none⟩ = some (nv) := (x9.cell QB 0 (by simpa using zQ2)).trans k0; have m3 : x9.it.cell? ⟨QB, 1, none⟩ = some (pv) := (x9.cell QB 1 (by simpa using zQ2)).trans k1; have m4 : x9.it.cell? ⟨QB, 2, none⟩ = some (gv) := (x9.cell QB 2 (by simpa using zQ2)).trans k2; have m5 : x9.it.cell? ⟨QB, 3, none⟩ = some (av) := (x9.cell QB 3 (by simpa using zQ2)).trans k3)
      | (go_at_call 9; refine Calls.mono (rows_any _ cs key vm zm 5 _ (KC.out.mono (by repeat (first | with_reducible exact Below.refl _ _ | with_reducible assumption | with_reducible refine Below.al ?_ _ | with_reducible refine Below.on ?_ _ | with_reducible refine Below.st ?_ (by first | assumption | (simp; done) | (simp; omega)) _ | with_reducible refine Below.drew ?_)) (by first | (simp; done) | exact (x9.below.size) | (simp; omega))) (ints_on KM.out (by repeat (first | with_reducible exact Below.refl _ _ | with_reducible assumption | with_reducible refine Below.al ?_ _ | with_reducible refine Below.on ?_ _ | with_reducible refine Below.st ?_ (by first | assumption | (simp; done) | (simp; omega)) _ | with_reducible refine Below.drew ?_)) (by first | (simp; done) | exact (x9.below.size) | (simp; omega))) (by decide) (by decide) SP.out.1 SP.out.2.2.1) ?_; rintro e w3 ⟨rv, rows, rfl, hr3, hl3, hv3, hb3⟩; obtain ⟨x3, rfl⟩ := Ext.of hb3; have KR := Lib.hid hr3; clear hr3 hl3 hv3; have oS : SB < x3.it.heap.size := x3.lt (by simpa using mS); have oQ : QB < x3.it.heap.size := x3.lt (by simpa using mQ); have o0 : x3.it.cell? ⟨SB, 0, none⟩ = some (.slice ca nn cc) := (x3.cell SB 0 (by simpa using mS)).trans m0; have o1 : x3.it.cell? ⟨SB, 1, none⟩ = some (.int .i64 key) := (x3.cell SB 1 (by simpa using mS)).trans m1; have o2 : x3.it.cell? ⟨QB, 0, none⟩ = some (nv) := (x3.cell QB 0 (by simpa using mQ)).trans m2; have o3 : x3.it.cell? ⟨QB, 1, none⟩ = some (pv) := (x3.cell QB 1 (by simpa using mQ)).trans m3; have o4 : x3.it.cell? ⟨QB, 2, none⟩ = some (gv) := (x3.cell QB 2 (by simpa using mQ)).trans m4; have o5 : x3.it.cell? ⟨QB, 3, none⟩ = some (av) := (x3.cell QB 3 (by simpa using mQ)).trans m5)
      | (go_at_call 11; refine Calls.mono (agrees26_any _ cs key nv ns' pv pr' gv gr' av ag' _ rows _ (KC.out.mono (by repeat (first | with_reducible exact Below.refl _ _ | with_reducible assumption | with_reducible refine Below.al ?_ _ | with_reducible refine Below.on ?_ _ | with_reducible refine Below.st ?_ (by first | assumption | (simp; done) | (simp; omega)) _ | with_reducible refine Below.drew ?_)) (Below.size (by repeat (first | with_reducible exact Below.refl _ _ | with_reducible assumption | with_reducible refine Below.al ?_ _ | with_reducible refine Below.on ?_ _ | with_reducible refine Below.st ?_ (by first | assumption | (simp; done) | (simp; omega)) _ | with_reducible refine Below.drew ?_)))) (KN.out.mono (by repeat (first | with_reducible exact Below.refl _ _ | with_reducible assumption | with_reducible refine Below.al ?_ _ | with_reducible refine Below.on ?_ _ | with_reducible refine Below.st ?_ (by first | assumption | (simp; done) | (simp; omega)) _ | with_reducible refine Below.drew ?_)) (Below.size (by repeat (first | with_reducible exact Below.refl _ _ | with_reducible assumption | with_reducible refine Below.al ?_ _ | with_reducible refine Below.on ?_ _ | with_reducible refine Below.st ?_ (by first | assumption | (simp; done) | (simp; omega)) _ | with_reducible refine Below.drew ?_)))) (ints_on KP.out (by repeat (first | with_reducible exact Below.refl _ _ | with_reducible assumption | with_reducible refine Below.al ?_ _ | with_reducible refine Below.on ?_ _ | with_reducible refine Below.st ?_ (by first | assumption | (simp; done) | (simp; omega)) _ | with_reducible refine Below.drew ?_)) (Below.size (by repeat (first | with_reducible exact Below.refl _ _ | with_reducible assumption | with_reducible refine Below.al ?_ _ | with_reducible refine Below.on ?_ _ | with_reducible refine Below.st ?_ (by first | assumption | (simp; done) | (simp; omega)) _ | with_reducible refine Below.drew ?_)))) (ints_on KG.out (by repeat (first | with_reducible exact Below.refl _ _ | with_reducible assumption | with_reducible refine Below.al ?_ _ | with_reducible refine Below.on ?_ _ | with_reducible refine Below.st ?_ (by first | assumption | (simp; done) | (simp; omega)) _ | with_reducible refine Below.drew ?_)) (Below.size (by repeat (first | with_reducible exact Below.refl _ _ | with_reducible assumption | with_reducible refine Below.al ?_ _ | with_reducible refine Below.on ?_ _ | with_reducible refine Below.st ?_ (by first | assumption | (simp; done) | (simp; omega)) _ | with_reducible refine Below.drew ?_)))) (KA.out.mono (by repeat (first | with_reducible exact Below.refl _ _ | with_reducible assumption | with_reducible refine Below.al ?_ _ | with_reducible refine Below.on ?_ _ | with_reducible refine Below.st ?_ (by first | assumption | (simp; done) | (simp; omega)) _ | with_reducible refine Below.drew ?_)) (Below.size (by repeat (first | with_reducible exact Below.refl _ _ | with_reducible assumption | with_reducible refine Below.al ?_ _ | with_reducible refine Below.on ?_ _ | with_reducible refine Below.st ?_ (by first | assumption | (simp; done) | (simp; omega)) _ | with_reducible refine Below.drew ?_)))) KR.out (fun d hd => Nat.le_trans (KL.out d hd) (by decide))) ?_; rintro e w4 ⟨rfl, hb4⟩; obtain ⟨x4, rfl⟩ := Ext.of hb4; have rS : SB < x4.it.heap.size := x4.lt (by simpa using oS); have rQ : QB < x4.it.heap.size := x4.lt (by simpa using oQ); have r0 : x4.it.cell? ⟨SB, 0, none⟩ = some (.slice ca nn cc) := (x4.cell SB 0 (by simpa using oS)).trans o0; have r1 : x4.it.cell? ⟨SB, 1, none⟩ = some (.int .i64 key) := (x4.cell SB 1 (by simpa using oS)).trans o1; have r2 : x4.it.cell? ⟨QB, 0, none⟩ = some (nv) := (x4.cell QB 0 (by simpa using oQ)).trans o2; have r3 : x4.it.cell? ⟨QB, 1, none⟩ = some (pv) := (x4.cell QB 1 (by simpa using oQ)).trans o3; have r4 : x4.it.cell? ⟨QB, 2, none⟩ = some (gv) := (x4.cell QB 2 (by simpa using oQ)).trans o4; have r5 : x4.it.cell? ⟨QB, 3, none⟩ = some (av) := (x4.cell QB 3 (by simpa using oQ)).trans o5))
  have bw := KB.out
  go_wp2
  exact bodyPost_ret (v := .bool true) (by simp [results, Tryz.results4, go_sem, *]) rfl (⟨rfl, by repeat (first | with_reducible exact Below.refl _ _ | with_reducible assumption | with_reducible refine Below.al ?_ _ | with_reducible refine Below.on ?_ _ | with_reducible refine Below.st ?_ (by first | assumption | (simp; done) | (simp; omega)) _ | with_reducible refine Below.drew ?_)⟩)
end Go.Proofs.YtpahoenanfjhpaaGreat
