/-
  THE MAKERS: keep.Query: a valid query. Conditions: the schema is valid; it and the choices lie in memory as 'ColsAt', 'IntsAt' say.
-/
import Derived.Test.YtpahoenanfjhpaaGreatKqsz
set_option linter.unusedVariables false
set_option linter.unusedSimpArgs false
namespace Go.Proofs.YtpahoenanfjhpaaGreat
open Go.RowKit
def QryPost (w : World) (cs : List Col) (key : Int) (e : Ending) (w' : World) : Prop :=
  ∃ nv ns pv pr gv gr av ag, e = .returned (.agg #[nv, pv, gv, av]) ∧ NodsAt w' w'.heap.size nv ns ∧ IntsAt w' w'.heap.size pv pr ∧ IntsAt w' w'.heap.size gv gr ∧ AgsAt w' w'.heap.size av ag ∧ queryE cs key ns pr gr ag = 0 ∧ (∀ d ∈ ns, d.ls.length ≤ 16) ∧ Below w.heap.size w w'
theorem raw_isI {w : World} {sb : Nat} {r : List Int} (h : SrcAt w sb r) : isI (rawF r).1 := by
  obtain ⟨zs, i, lv, _, rfl, _, _, _, _, h7⟩ := h
  cases e : zs.drop i with
  | nil => unfold isI; simp [rawF]
  | cons z t => exact h7.1 z (List.mem_of_mem_drop (by rw [e]; simp))
theorem QS.congr {W3 : World} {RB sb QB : Nat} {W : World} {c c' : Nat → Value} {r : List Int} (h : QS W3 RB sb QB W c r) (e : ∀ i, i < 4 → c' i = c i) : QS W3 RB sb QB W c' r := ⟨h.mv, h.src, fun i hi => by rw [e i hi]; exact h.q i hi, h.fr⟩
theorem infoAg : (Tryz.prog.info? 39).map (fun i => (i.zero, i.size, i.bytes)) = some (some (.agg #[.int .i64 0, .int .i64 0]), 2, 16) := by kernel_rfl
theorem ints_nil (w : World) (B : Nat) : IntsAt w B (.slice none 0 0) [] := ⟨fun z hz => absurd hz (by simp), by simp, .inl ⟨rfl, none, 0, rfl⟩⟩
theorem ags_nil (w : World) (B : Nat) : AgsAt w B (.slice none 0 0) [] := ⟨by simp, .inl ⟨rfl, none, 0, rfl⟩⟩
def QryPostN (w : World) (cs : List Col) (key : Int) (e : Ending) (w' : World) : Prop :=
  ∃ nv ns pv pr gv gr av ag, e = .returned (.agg #[nv, pv, gv, av]) ∧ NodsAt w' w'.heap.size nv ns ∧ IntsAt w' w'.heap.size pv pr ∧ IntsAt w' w'.heap.size gv gr ∧ AgsAt w' w'.heap.size av ag ∧ queryE cs key ns pr gr ag = 0 ∧ ns.length ≤ 7 ∧ (∀ d ∈ ns, d.ls.length ≤ 16) ∧ Below w.heap.size w w'
set_option maxRecDepth 8000 in
set_option maxHeartbeats 4000000 in
theorem kqueryN_any (cv : Value) (cs : List Col) (key : Int) (lv : Value) (zs : List Int) (w : World) (hc : ColsAt w w.heap.size cv cs) (h : IntsAt w w.heap.size lv zs) (hsc : schemaF cs key = 0) :
    Calls Tryz.prog 8 #[.agg #[cv, .int .i64 key], lv] w (QryPostN w cs key) := by
  obtain ⟨i0, hi, hz0, hz1, hz2⟩ := info_parts infoInt1
  obtain ⟨ca, cc, rfl⟩ := cols_end hc
  obtain ⟨nn, hnn⟩ : ∃ n, cs.length = n := ⟨_, rfl⟩
  have HNN := Lib.hid hnn
  rw [hnn] at hc ⊢
  have HC := Lib.hid hc
  have SP := Lib.hid (schema_parts hsc)
  have HSC := Lib.hid hsc
  have FR := Lib.hid (fun (W : World) (hW : Below w.heap.size w W) => from_any lv zs W (ints_on h hW hW.size))
  have nn1 : 1 ≤ nn := by have := SP.out.2.1; omega
  have nn12 : nn ≤ 12 := by have := SP.out.2.2.1; omega
  clear hnn hc h hsc
  go_enter Tryz.func8, Tryz.ntmps8
  go_upto_region 3 with (go_at_call 19; refine Calls.mono (FR.out _ (by with_reducible repeat (first | exact Below.refl _ _ | assumption | refine Below.al ?_ _ | refine Below.on ?_ _ | refine Below.st ?_ (by first | assumption | (simp; done) | (simp; omega)) _ | refine Below.drew ?_))) ?_; rintro e w1 ⟨rfl, hb1, hs1⟩; obtain ⟨x1, rfl⟩ := Ext.of hb1; (try simp only [World.size_alloc] at hs1); have z1 := hs1.lt; have S1 := Lib.hid hs1; clear hs1)
  refine captureM ?_
  intro y ey
  have zz0 : w.heap.size < x1.it.heap.size := by omega
  have zz1 : w.heap.size + 1 < x1.it.heap.size := by omega
  have yw : Below w.heap.size w y := by rw [ey]; with_reducible repeat (first | exact Below.refl _ _ | assumption | refine Below.al ?_ _ | refine Below.on ?_ _ | refine Below.st ?_ (by first | assumption | (simp; done) | (simp; omega)) _ | refine Below.drew ?_)
  have x0 : y.cell? ⟨w.heap.size, 0, none⟩ = some (.slice ca nn cc) := by rw [ey]; simp (maxDischargeDepth := 9) [go_sem, *]
  have x1' : y.cell? ⟨w.heap.size, 1, none⟩ = some (.int .i64 key) := by rw [ey]; simp (maxDischargeDepth := 9) [go_sem, *]
  have b0 : y.cell? ⟨w.heap.size + 1, 0, none⟩ = some (.slice none 0 0) := by rw [ey]; simp (maxDischargeDepth := 9) [go_sem, *]
  have b1 : y.cell? ⟨w.heap.size + 1, 1, none⟩ = some (.slice none 0 0) := by rw [ey]; simp (maxDischargeDepth := 9) [go_sem, *]
  have b2 : y.cell? ⟨w.heap.size + 1, 2, none⟩ = some (.slice none 0 0) := by rw [ey]; simp (maxDischargeDepth := 9) [go_sem, *]
  have b3 : y.cell? ⟨w.heap.size + 1, 3, none⟩ = some (.slice none 0 0) := by rw [ey]; simp (maxDischargeDepth := 9) [go_sem, *]
  have bf : ∀ i, y.frozen? ⟨w.heap.size + 1, i, none⟩ = false := fun i => by rw [ey]; simp (maxDischargeDepth := 9) [go_sem, *]
  have q0 : y.cell? ⟨x1.it.heap.size, 0, none⟩ = some (.slice none 0 0) := by rw [ey]; simp (maxDischargeDepth := 9) [go_sem, *]
  have q1 : y.cell? ⟨x1.it.heap.size, 1, none⟩ = some (.slice none 0 0) := by rw [ey]; simp (maxDischargeDepth := 9) [go_sem, *]
  have q2 : y.cell? ⟨x1.it.heap.size, 2, none⟩ = some (.slice none 0 0) := by rw [ey]; simp (maxDischargeDepth := 9) [go_sem, *]
  have q3 : y.cell? ⟨x1.it.heap.size, 3, none⟩ = some (.slice none 0 0) := by rw [ey]; simp (maxDischargeDepth := 9) [go_sem, *]
  have qf : ∀ i, y.frozen? ⟨x1.it.heap.size, i, none⟩ = false := fun i => by rw [ey]; simp (maxDischargeDepth := 9) [go_sem, *]
  have zQ : x1.it.heap.size < y.heap.size := by rw [ey]; simp
  have S2 : Hid (SrcAt y (w.heap.size + 1 + 1) zs) := Lib.hid (by rw [ey]; (repeat (refine SrcAt.stn ?_ z1 _)); exact S1.out.al _)
  obtain ⟨QB, hQB⟩ : ∃ q, x1.it.heap.size = q := ⟨_, rfl⟩
  rw [hQB] at q0 q1 q2 q3 qf zQ z1 ⊢
  obtain ⟨sb, hsb⟩ : ∃ q, w.heap.size + 1 + 1 = q := ⟨_, rfl⟩
  rw [hsb] at S2 z1 ⊢
  have hsb' : w.heap.size + 2 = sb := hsb
  have HQF := Lib.hid (And.intro qf bf)
  clear ey S1 hb1 hQB hsb zz0 zz1 x1 qf bf FR
  go_wp2_with fail
  go_loopg [7, 8] 12 (fun g v i wr => ∃ (k : Nat) (l r' : List Int), k + g = 12 ∧ i = .int .i64 (k : Int) ∧ l.length = k ∧ (∀ z ∈ l, isI z) ∧ KpMem intC 3 1 y sb wr v l r')
  case atStart => exact ⟨0, [], zs, by omega, rfl, rfl, fun z hz => absurd hz (by simp), ⟨Mv.refl _ _, S2.out.lt, S2.out, World.ownsRow_nil _ _ _ _⟩⟩
  case round =>
    obtain ⟨k, l, r', hk, rfl, hl, hli, M⟩ := hrel
    have MO := Lib.hid M
    have HLI := Lib.hid hli
    have hyr := M.mv.size
    clear S2
    by_cases hg0 : gk = 0
    · subst hg0
      obtain rfl : k = 12 := by omega
      obtain ⟨va, vc, rfl⟩ := own_form M.own
      have nX : ¬ w.heap.size = sb := by omega
      have nR : ¬ w.heap.size + 1 = sb := by omega
      have nQ : ¬ QB = sb := by omega
      have zX : w.heap.size < y.heap.size := by omega
      have zR : w.heap.size + 1 < y.heap.size := by omega
      have c0 := (M.mv.cell 0 zX nX).trans x0
      have c1 := (M.mv.cell 1 zX nX).trans x1'
      have d0 := (M.mv.cell 0 zR nR).trans b0
      have d1 := (M.mv.cell 1 zR nR).trans b1
      have d2 := (M.mv.cell 2 zR nR).trans b2
      have d3 := (M.mv.cell 3 zR nR).trans b3
      have e0 := (M.mv.cell 0 zQ nQ).trans q0
      have e1 := (M.mv.cell 1 zQ nQ).trans q1
      have e2 := (M.mv.cell 2 zQ nQ).trans q2
      have e3 := (M.mv.cell 3 zQ nQ).trans q3
      have fQ : ∀ i, wr.frozen? ⟨QB, i, none⟩ = false := fun i => (M.mv.frozen i zQ nQ).trans (HQF.out.1 i)
      have fR : ∀ i, wr.frozen? ⟨w.heap.size + 1, i, none⟩ = false := fun i => (M.mv.frozen i zR nR).trans (HQF.out.2 i)
      have zQr : QB < wr.heap.size := by omega
      have zXr : w.heap.size < wr.heap.size := by omega
      have BW : Hid (Below w.heap.size w wr) := Lib.hid (Mv.below M.mv yw (fun k hk => by omega))
      have CW := Lib.hid (HC.out.mono BW.out BW.out.size)
      have KP := Lib.hid (kpredo_any (.slice ca cs.length cc) cs key (.slice va l.length vc) l wr (by rw [HNN.out]; exact CW.out) (own_ints HLI.out (by omega) M.own) HSC.out)
      rw [HNN.out] at KP
      have SR := Lib.hid M.src
      have tk : ¬ ((12 : Nat) : Int) < 12 := by omega
      have FQ := Lib.hid fQ
      have FRR := Lib.hid fR
      clear hk hl hli M x0 x1' b0 b1 b2 b3 q0 q1 q2 q3 fR HQF
      go_upto_region 9 with (go_at_call 22; refine Calls.mono KP.out ?_; rintro e w3 ⟨nv, dl, rfl, hon, hin, hpr, hdl, hls, hb3⟩; obtain ⟨x3, rfl⟩ := Ext.of hb3; obtain ⟨na, nc, rfl⟩ := own_form hon; have ON := Lib.hid hon; have IN := Lib.hid hin; have PR := Lib.hid hpr; have LS := Lib.hid hls; have DL := Lib.hid hdl; have hB3 := x3.below.size; clear hon hin hpr hls)
      refine captureM ?_
      intro z ez
      have Q0 : Hid (QS x3.it QB sb QB x3.it (fun _ => .slice none 0 0) r') := Lib.hid ⟨Mv.refl _ _, SR.out.to x3.below, fun i hi => by
        have h4 : i = 0 ∨ i = 1 ∨ i = 2 ∨ i = 3 := by omega
        rcases h4 with rfl | rfl | rfl | rfl
        · exact (x3.below.cell (p := ⟨QB, 0, none⟩) zQr).trans e0
        · exact (x3.below.cell (p := ⟨QB, 1, none⟩) zQr).trans e1
        · exact (x3.below.cell (p := ⟨QB, 2, none⟩) zQr).trans e2
        · exact (x3.below.cell (p := ⟨QB, 3, none⟩) zQr).trans e3, fun i => (x3.below.frozen (p := ⟨QB, i, none⟩) zQr).trans (FQ.out i)⟩
      have Q1 : Hid (QS x3.it QB sb QB z (fun k => if k = 0 then .slice na dl.length nc else .slice none 0 0) r') := Lib.hid (by rw [ez]; exact Q0.out.st z1 _)
      have g0 := (x3.below.cell (p := ⟨w.heap.size, 0, none⟩) zXr).trans c0
      have g1 := (x3.below.cell (p := ⟨w.heap.size, 1, none⟩) zXr).trans c1
      have zRr : w.heap.size + 1 < wr.heap.size := by omega
      have h0 := (x3.below.cell (p := ⟨w.heap.size + 1, 0, none⟩) zRr).trans d0
      have h1 := (x3.below.cell (p := ⟨w.heap.size + 1, 1, none⟩) zRr).trans d1
      have h2 := (x3.below.cell (p := ⟨w.heap.size + 1, 2, none⟩) zRr).trans d2
      have h3 := (x3.below.cell (p := ⟨w.heap.size + 1, 3, none⟩) zRr).trans d3
      have hf : ∀ i, x3.it.frozen? ⟨w.heap.size + 1, i, none⟩ = false := fun i => (x3.below.frozen (p := ⟨w.heap.size + 1, i, none⟩) zRr).trans (FRR.out i)
      have HF := Lib.hid hf
      have B3 : Hid (Below w.heap.size w x3.it) := Lib.hid (Below.to BW.out x3.below)
      have zQ3 : QB < x3.it.heap.size := by omega
      have zX3 : w.heap.size < x3.it.heap.size := by omega
      have zR3 : w.heap.size + 1 < x3.it.heap.size := by omega
      have CS : Hid (∀ W, Mv (fun k => k = QB ∨ k = sb ∨ k = QB) x3.it W → ColsAt W sb (.slice ca cs.length cc) cs) := Lib.hid (fun W hm => by
        have hb : Below w.heap.size w W := Mv.below hm B3.out (fun k hk => by omega)
        rw [HNN.out]
        exact HC.out.mono hb (by omega))
      have XC : Hid (∀ W, Mv (fun k => k = QB ∨ k = sb ∨ k = QB) x3.it W → W.cell? ⟨w.heap.size, 0, none⟩ = some (.slice ca nn cc) ∧ W.cell? ⟨w.heap.size, 1, none⟩ = some (.int .i64 key) ∧ x3.it.heap.size ≤ W.heap.size) := Lib.hid (fun W hm => ⟨(hm.cell 0 zX3 (by omega)).trans g0, (hm.cell 1 zX3 (by omega)).trans g1, hm.size⟩)
      have RC : Hid (∀ W, Mv (fun k => k = QB ∨ k = sb ∨ k = QB) x3.it W → W.cell? ⟨w.heap.size + 1, 0, none⟩ = some (.slice none 0 0) ∧ W.cell? ⟨w.heap.size + 1, 1, none⟩ = some (.slice none 0 0) ∧ W.cell? ⟨w.heap.size + 1, 2, none⟩ = some (.slice none 0 0) ∧ W.cell? ⟨w.heap.size + 1, 3, none⟩ = some (.slice none 0 0) ∧ ∀ i, W.frozen? ⟨w.heap.size + 1, i, none⟩ = false) := Lib.hid (fun W hm => ⟨(hm.cell 0 zR3 (by omega)).trans h0, (hm.cell 1 zR3 (by omega)).trans h1, (hm.cell 2 zR3 (by omega)).trans h2, (hm.cell 3 zR3 (by omega)).trans h3, fun i => (hm.frozen i zR3 (by omega)).trans (HF.out i)⟩)
      have NO : Hid (∀ W, Mv (fun k => k = w.heap.size + 1 ∨ k = QB ∨ k = sb) x3.it W → NodsAt W W.heap.size (.slice na dl.length nc) (dl.map Prod.fst)) := Lib.hid (fun W hm => inn_nods (by have := DL.out; omega) (inn_mvS IN.out hm (fun k hk => by omega)) (own_mv ON.out hm (fun k hk => by omega)))
      have NL : Hid ((dl.map Prod.fst).length ≤ 7 ∧ ∀ d ∈ dl.map Prod.fst, d.ls.length ≤ 16) := Lib.hid ⟨by rw [List.length_map]; exact DL.out, fun d hd => by obtain ⟨p, hp, rfl⟩ := List.mem_map.1 hd; exact LS.out p hp⟩
      clear ez Q0 c0 c1 d0 d1 d2 d3 e0 e1 e2 e3 fQ g0 g1 h0 h1 h2 h3 hf KP MO HLI CW FQ FRR IN ON LS SR hb3 HF
      have nb2 := nextF_bd r' (n := 2) (by decide)
      obtain ⟨v2, hv2⟩ : ∃ q, (nextF 2 r').1 = q := ⟨_, rfl⟩
      have NX2 := Lib.hid (by have q := next_any sb r' 2 (by decide) (by decide) z Q1.out.src; rw [hv2] at q; exact q)
      rw [hv2] at nb2
      generalize (nextF 2 r').2 = r2 at *
      clear hv2
      have zz := (XC.out z Q1.out.mv).2.2
      by_cases hv : v2 = 0
      · subst hv
        go_upto_region 10 with (go_at_call 20; refine Calls.mono NX2.out ?_; rintro e w4 ⟨rfl, hm4, hs4⟩; have Q4 := Lib.hid (Q1.out.to z1 (by omega) hm4 hs4); clear hm4 hs4)
        obtain ⟨c40, c41, z4⟩ := XC.out w4 Q4.out.mv
        have zX4 : w.heap.size < w4.heap.size := by omega
        have q41 := Q4.out.q 1 (by omega)
        have f41 := Q4.out.fr 1
        simp only [Nat.one_ne_zero, if_false] at q41
        have zQ4 : QB < w4.heap.size := by omega
        have KC := Lib.hid (kcols_any sb r2 (.slice ca cs.length cc) cs key w4 Q4.out.src (CS.out w4 Q4.out.mv) (by rw [HNN.out]; exact nn1) (by rw [HNN.out]; exact nn12))
        rw [HNN.out] at KC
        go_upto_region 11 with (go_at_call 23; refine Calls.mono KC.out ?_; rintro e w5 ⟨pv, L, r5, rfl, hm5, hs5, ho5, hl5, hi5⟩; obtain ⟨pa, pc, rfl⟩ := own_form ho5; have Q5 := Lib.hid (Q4.out.to z1 zQ4 hm5 hs5); have O5 := Lib.hid ho5; have I5 := Lib.hid hi5; have L5 := Lib.hid hl5; have q51 := Q5.out.q 1 (by omega); have f51 := Q5.out.fr 1; simp only [Nat.one_ne_zero, if_false] at q51; have z5 := hm5.size; clear hm5 hs5 ho5 hi5 hl5)
        refine captureM ?_
        intro z6 e6
        have Q6 : Hid (QS x3.it QB sb QB z6 (fun k => if k = 1 then .slice pa L.length pc else if k = 0 then .slice na dl.length nc else .slice none 0 0) r5) := Lib.hid (by rw [e6]; exact Q5.out.st z1 _)
        have O6 : Hid (z6.ownsRow w4.heap.size 3 1 (.slice pa L.length pc) L.length (L.flatMap intC)) := Lib.hid (by rw [e6]; exact own_st O5.out (fun k hk => by have := (O5.out.lt k hk).1; show k ≠ QB; omega) _)
        have m0 := Q6.out.q 0 (by omega)
        have m1 := Q6.out.q 1 (by omega)
        have m2 := Q6.out.q 2 (by omega)
        have m3 := Q6.out.q 3 (by omega)
        simp at m0 m1 m2 m3
        obtain ⟨t0, t1, t2, t3, tf⟩ := RC.out z6 Q6.out.mv
        have tf0 := tf 0
        have tf1 := tf 1
        have tf2 := tf 2
        have tf3 := tf 3
        have z6' := (XC.out z6 Q6.out.mv).2.2
        have zR6 : w.heap.size + 1 < z6.heap.size := by omega
        have zQ6 : QB < z6.heap.size := by omega
        have FIN : Hid (∀ G, Mv (fun k => k = w.heap.size + 1) z6 G → QryPostN w cs key (.returned (.agg #[.slice na dl.length nc, .slice pa L.length pc, .slice none 0 0, .slice none 0 0])) G) := Lib.hid (fun G hG => by
          have hm : Mv (fun k => k = w.heap.size + 1 ∨ k = QB ∨ k = sb) x3.it G := (Q6.out.mv.mono (fun k _ hk => by omega)).trans (hG.mono (fun k _ hk => .inl hk))
          refine ⟨_, dl.map Prod.fst, _, L, _, [], _, [], rfl, NO.out G hm, own_ints (fun q hq => by have := I5.out q hq; unfold isI; omega) (by have := L5.out; omega) (own_mv O6.out hG (fun k hk => by omega)), ints_nil _ _, ags_nil _ _, queryE_mk PR.out (by have := L5.out; omega) (by simp) (by simp) (by simp) (by rw [HNN.out]; exact I5.out) (fun q hq => absurd hq (by simp)) (fun q hq => absurd hq (by simp)), NL.out.1, NL.out.2, Mv.below hm B3.out (fun k hk => by omega)⟩)
        clear e6 Q5 O5 q51 f51 q41 f41 c40 c41 tf Q4 KC Q1 NX2
        go_wp2
        refine bodyPost_ret (v := .agg #[.slice na dl.length nc, .slice pa L.length pc, .slice none 0 0, .slice none 0 0]) ?_ rfl (FIN.out _ (mv_st (mv_st (mv_st (mv_st (Mv.refl _ _))))))
        simp (maxDischargeDepth := 9) [results, Tryz.results8, go_sem, *]
      · have tv : (v2 == 0) = false := by simpa using hv
        obtain ⟨iA, hiA, hA0, hA1, hA2⟩ := info_parts infoAg
        go_upto_region 12 with (go_at_call 20; refine Calls.mono NX2.out ?_; rintro e w4 ⟨rfl, hm4, hs4⟩; have Q4 := Lib.hid (Q1.out.to z1 (by omega) hm4 hs4); clear hm4 hs4)
        obtain ⟨c40, c41, z4⟩ := XC.out w4 Q4.out.mv
        have zX4 : w.heap.size < w4.heap.size := by omega
        have q41 := Q4.out.q 2 (by omega)
        have f41 := Q4.out.fr 2
        simp at q41
        have zQ4 : QB < w4.heap.size := by omega
        have KC := Lib.hid (kcols_any sb r2 (.slice ca cs.length cc) cs key w4 Q4.out.src (CS.out w4 Q4.out.mv) (by rw [HNN.out]; exact nn1) (by rw [HNN.out]; exact nn12))
        rw [HNN.out] at KC
        go_upto_region 13 with (go_at_call 23; refine Calls.mono KC.out ?_; rintro e w5 ⟨gv, L, r5, rfl, hm5, hs5, ho5, hl5, hi5⟩; obtain ⟨ga, gc, rfl⟩ := own_form ho5; have Q5 := Lib.hid (Q4.out.to z1 zQ4 hm5 hs5); have O5 := Lib.hid ho5; have I5 := Lib.hid hi5; have L5 := Lib.hid hl5; have q51 := Q5.out.q 2 (by omega); have f51 := Q5.out.fr 2; (simp at q51); have z5 := hm5.size; clear hm5 hs5 ho5 hi5 hl5)
        refine captureM ?_
        intro z6 e6
        have Q6 : Hid (QS x3.it QB sb QB z6 (fun k => if k = 2 then .slice ga L.length gc else if k = 0 then .slice na dl.length nc else .slice none 0 0) r5) := Lib.hid (by rw [e6]; exact Q5.out.st z1 _)
        have O6 : Hid (z6.ownsRow w4.heap.size 3 1 (.slice ga L.length gc) L.length (L.flatMap intC)) := Lib.hid (by rw [e6]; exact own_st O5.out (fun k hk => by have := (O5.out.lt k hk).1; show k ≠ QB; omega) _)
        have zz6 := (XC.out z6 Q6.out.mv).2.2
        have zQ6 : QB < z6.heap.size := by omega
        have nb3 := nextF_bd r5 (n := 3) (by decide)
        obtain ⟨N, hN⟩ : ∃ N : Nat, 1 + (nextF 3 r5).1 = (N : Int) := ⟨(1 + (nextF 3 r5).1).toNat, by omega⟩
        have NX3 := Lib.hid (next_any sb r5 3 (by decide) (by decide) z6 Q6.out.src)
        obtain ⟨v3, hv3⟩ : ∃ q, (nextF 3 r5).1 = q := ⟨_, rfl⟩
        rw [hv3] at NX3 nb3 hN
        generalize (nextF 3 r5).2 = r7 at *
        have hN3 : N ≤ 3 := by omega
        have hN1 : 1 ≤ N := by omega
        have hv3b : v3 ≤ 10 := by omega
        clear hv3 e6 q51 f51 q41 f41 c40 c41 O5 Q5 Q4 KC Q1 NX2
        go_wp2_with (go_at_call 20; refine Calls.mono NX3.out ?_; rintro e W7 ⟨rfl, hm7, hs7⟩; have Q7 := Lib.hid (Q6.out.to z1 zQ6 hm7 hs7); have O7 := Lib.hid (own_mvn O6.out (Mv.of_moved (S := fun k => k = sb) hm7 rfl) (fun k hk e => by have := (O6.out.lt k hk).1; omega)); have z7 := hm7.size; clear hm7 hs7)
        go_loopg [9] N (fun g st wr => ∃ (l : List Ag) (av : Value) (r' : List Int), l.length + g = N ∧ st = .int .i64 (g : Int) ∧ QS x3.it QB sb QB wr (fun k => if k = 3 then av else if k = 2 then .slice ga L.length gc else if k = 0 then .slice na dl.length nc else .slice none 0 0) r' ∧ wr.ownsRow W7.heap.size 39 2 av l.length (l.flatMap agC) ∧ (∀ a ∈ l, agE cs a = 0) ∧ Mv (fun k => k = QB ∨ k = sb ∨ k = QB) W7 wr)
        case atStart => exact ⟨[], .slice none 0 0, r7, by simp, rfl, Q7.out.congr (fun i hi => by (by_cases q : i = 3; (subst q; simp); simp [q])), World.ownsRow_nil _ _ _ _, fun a ha => absurd ha (by simp), Mv.refl _ _⟩
        case round =>
          obtain ⟨l, av, r', hk, rfl, hQ, hown, hag, hm⟩ := hrel
          obtain ⟨aa, ac, rfl⟩ := own_form hown
          have HAG := Lib.hid hag
          have HO := Lib.hid hown
          have HQ := Lib.hid hQ
          have HM := Lib.hid hm
          have z8 := hm.size
          have zQ8 : QB < wr.heap.size := by omega
          obtain ⟨c40, c41, z9⟩ := XC.out wr hQ.mv
          have zX8 : w.heap.size < wr.heap.size := by omega
          have m0 := hQ.q 0 (by omega)
          have m1 := hQ.q 1 (by omega)
          have m2 := hQ.q 2 (by omega)
          have m3 := hQ.q 3 (by omega)
          simp at m0 m1 m2 m3
          by_cases hg0 : gk = 0
          · subst hg0
            obtain ⟨t0, t1, t2, t3, tf⟩ := RC.out wr hQ.mv
            have tf0 := tf 0
            have tf1 := tf 1
            have tf2 := tf 2
            have tf3 := tf 3
            have zR8 : w.heap.size + 1 < wr.heap.size := by omega
            have HK := Lib.hid hk
            have FIN : Hid (∀ G, Mv (fun k => k = w.heap.size + 1) wr G → QryPostN w cs key (.returned (.agg #[.slice na dl.length nc, .slice none 0 0, .slice ga L.length gc, .slice aa l.length ac])) G) := Lib.hid (fun G hG => by
              have hm : Mv (fun k => k = w.heap.size + 1 ∨ k = QB ∨ k = sb) x3.it G := (HQ.out.mv.mono (fun k _ hk => by omega)).trans (hG.mono (fun k _ hk => .inl hk))
              have hm7 : Mv (fun k => k = w.heap.size + 1 ∨ k = QB ∨ k = sb) W7 G := (HM.out.mono (fun k _ hk => by omega)).trans (hG.mono (fun k _ hk => .inl hk))
              refine ⟨_, dl.map Prod.fst, _, [], _, L, _, l, rfl, NO.out G hm, ints_nil _ _, own_ints (fun q hq => by have := I5.out q hq; unfold isI; omega) (by have := L5.out; omega) (own_mv O7.out hm7 (fun k hk => by omega)), own_ags (by have := HK.out; omega) (own_mv HO.out hG (fun k (hk : k = w.heap.size + 1) => by omega)), queryE_mk PR.out (by simp) (by have := L5.out; omega) (by have := HK.out; omega) (fun e => by have := HK.out; (rcases e with ⟨_, e⟩ | ⟨e, _⟩; simp at e; omega)) (fun q hq => absurd hq (by simp)) (by rw [HNN.out]; exact I5.out) HAG.out, NL.out.1, NL.out.2, Mv.below hm B3.out (fun k hk => by omega)⟩)
            clear hk hQ hown hag hm tf
            go_wp2
            refine bodyPost_ret (v := .agg #[.slice na dl.length nc, .slice none 0 0, .slice ga L.length gc, .slice aa l.length ac]) ?_ rfl (FIN.out _ (mv_st (mv_st (mv_st (mv_st (Mv.refl _ _))))))
            simp (maxDischargeDepth := 9) [results, Tryz.results8, go_sem, *]
          · have hlt : (0 : Int) < (gk : Int) := by omega
            have hlt1 : (1 : Int) ≤ (gk : Int) := by omega
            have hlt2 : (gk : Int) ≤ 3 := by omega
            have hl3 : l.length ≤ 3 := by omega
            have HK := Lib.hid (And.intro hk hg0)
            have nb5 := nextF_bd r' (n := 5) (by decide)
            have NX5 := Lib.hid (next_any sb r' 5 (by decide) (by decide) wr hQ.src)
            obtain ⟨v5, hv5⟩ : ∃ q, (nextF 5 r').1 = q := ⟨_, rfl⟩
            rw [hv5] at NX5 nb5
            generalize (nextF 5 r').2 = r8 at *
            obtain ⟨o, ho⟩ : ∃ o : Int, 1 + v5 = o := ⟨_, rfl⟩
            have ho1 : 1 ≤ o := by omega
            have ho5 : o ≤ 5 := by omega
            have hv5b : v5 ≤ 10 := by omega
            clear hv5 hk hg0 hQ hown hag hm c40 c41 m0 m1 m2 m3
            go_upto_region 17 with (go_at_call 20; refine Calls.mono NX5.out ?_; rintro e w8 ⟨rfl, hm8, hs8⟩; have Q8 := Lib.hid (HQ.out.to z1 zQ8 hm8 hs8); have M88 := Lib.hid (Mv.of_moved (S := fun k => k = sb ∨ k = w8.heap.size) hm8 (.inl rfl)); have M8 := Lib.hid (HM.out.trans (Mv.of_moved (S := fun k => k = QB ∨ k = sb ∨ k = QB) hm8 (.inr (.inl rfl)))); have W8 := hm8.size; clear hm8 hs8)
            obtain ⟨AB, hAB⟩ : ∃ q, w8.heap.size = q := ⟨_, rfl⟩
            refine captureM ?_
            intro z ez
            have zW7 : W7.heap.size ≤ AB := by omega
            have zx7 : x3.it.heap.size ≤ W7.heap.size := (XC.out W7 Q7.out.mv).2.2
            have zQA : QB < AB := by omega
            have zsA : sb < AB := by omega
            have zsA' : ¬ AB = sb := by omega
            have a0 : z.cell? ⟨w8.heap.size, 0, none⟩ = some (.int .i64 o) := by rw [ez]; simp (maxDischargeDepth := 9) [go_sem, *]
            have a1 : z.cell? ⟨w8.heap.size, 1, none⟩ = some (.int .i64 0) := by rw [ez]; simp (maxDischargeDepth := 9) [go_sem, *]
            have af : ∀ i, z.frozen? ⟨w8.heap.size, i, none⟩ = false := fun i => by rw [ez]; simp (maxDischargeDepth := 9) [go_sem, *]
            have zA : w8.heap.size < z.heap.size := by rw [ez]; simp
            have Q9 : Hid (QS x3.it QB sb QB z (fun k => if k = 3 then .slice aa l.length ac else if k = 2 then .slice ga L.length gc else if k = 0 then .slice na dl.length nc else .slice none 0 0) r8) := Lib.hid (by rw [ez]; exact Q8.out.al (by omega) _)
            have M9 : Hid (Mv (fun k => k = QB ∨ k = sb ∨ k = QB) W7 z) := Lib.hid (by rw [ez]; exact M8.out.al _)
            have OW : Hid (∀ W, Mv (fun k => k = sb ∨ k = AB) z W → W.ownsRow W7.heap.size 39 2 (.slice aa l.length ac) l.length (l.flatMap agC)) := Lib.hid (fun W hm => by
              have h1 : Mv (fun k => k = sb ∨ k = AB) wr z := by
                have q8 : Mv (fun k => k = sb ∨ k = AB) wr w8 := by rw [← hAB]; exact M88.out
                rw [ez]
                exact q8.al _
              exact own_mvn HO.out (h1.trans hm) (fun k hk e => by have := (HO.out.lt k hk).1; have := (HO.out.lt k hk).2; omega))
            rw [hAB] at a0 a1 af zA ⊢
            have AF := Lib.hid af
            have zQz : QB < z.heap.size := by omega
            clear ez af hAB
            obtain ⟨xc0, xc1, xz⟩ := XC.out z Q9.out.mv
            have zXz : w.heap.size < z.heap.size := by omega
            have CSZ := Lib.hid (CS.out z Q9.out.mv)
            rw [HNN.out] at CSZ
            by_cases o1 : o = 1
            · subst o1
              have t1 : ((1 : Int) != 1) = false := rfl
              have t2 : ((1 : Int) == 3) = false := rfl
              obtain ⟨cb, co, rfl, hcap, hcb, k0, k1, k2, k3⟩ := cols_in CSZ.out (i := 0) (by rw [HNN.out]; exact nn1)
              have tc0 : (0 : Int) < (nn : Int) := by omega
              have zcb : cb < z.heap.size := by omega
              simp only [Nat.zero_mul, Nat.add_zero] at k1
              have AE : Hid (agE cs ⟨1, 0⟩ = 0) := Lib.hid (by unfold agE; rw [if_neg (fun e => by (rcases e with e | e | e; simp at e; simp at e; simp at e)), if_neg (fun e => by (rw [HNN.out] at e; rcases e with e | e; simp at e; simp only at e; omega)), if_neg (fun e => by simp at e)])
              clear k0 k2 k3
              go_upto_region 22 with fail
              refine captureM ?_
              intro Z eZ
              have QZ : Hid (QS x3.it QB sb QB Z (fun k => if k = 3 then .slice aa l.length ac else if k = 2 then .slice ga L.length gc else if k = 0 then .slice na dl.length nc else .slice none 0 0) r8) := Lib.hid (by rw [eZ]; exact Q9.out)
              have u0 : Z.cell? ⟨AB, 0, none⟩ = some (.int .i64 (1)) := by rw [eZ]; (first | assumption | simp (maxDischargeDepth := 9) [go_sem, *])
              have u1 : Z.cell? ⟨AB, 1, none⟩ = some (.int .i64 (0)) := by rw [eZ]; (first | assumption | simp (maxDischargeDepth := 9) [go_sem, *])
              have MZ : Hid (Mv (fun k => k = QB ∨ k = sb ∨ k = QB) W7 Z) := Lib.hid (by rw [eZ]; exact M9.out)
              have OZ : Hid (Z.ownsRow W7.heap.size 39 2 (.slice aa l.length ac) l.length (l.flatMap agC)) := Lib.hid (by rw [eZ]; exact OW.out _ (Mv.refl _ _))
              have uA : AB < Z.heap.size := by rw [eZ]; exact zA
              have n3 := QZ.out.q 3 (by omega)
              simp at n3
              have nf := QZ.out.fr 3
              have zZ : QB < Z.heap.size := by omega
              have zW : W7.heap.size ≤ Z.heap.size := by omega
              clear eZ
              go_wp2_with (at_builtin; go_must (refine wpList_append_lies _ rfl _ _ 27 rfl W7.heap.size 39 iA _ 2 16 Tryz.underlying27 hiA hA0 hA1 hA2 rfl (by decide) (.slice aa l.length ac) l.length (l.flatMap agC) rfl (OZ.out.alloc _) ⟨Z.heap.size, 0, none⟩ 1 1 (agC ⟨1, 0⟩) rfl rfl (World.news_of_block (heap_alloc_new Z _)) (by simp [agC, Value.oneCell']) (by omega) (by unfold maxLen; omega) (by omega) (by simp; omega) (Z.heap.size + 1) (by simp) ?_); intro gb cap w10 hown hgrow hat hlt4; go_must (have QG := Lib.hid (QS.gr (QZ.out.al zZ _) z1 (by simp; omega) zQ3 hgrow (fun k hk => by have := (OZ.out.lt k hk).1; omega))); have g3 := QG.out.q 3 (by omega); (simp at g3); have gf := QG.out.fr 3; have OW := Lib.hid hown; have MW := Lib.hid (((MZ.out.al _).gr hgrow (fun k hk => (OZ.out.lt k hk).1))); have lt10 := (fun k (hk : Value.ownBlock (.slice (some ⟨gb, 0, none⟩) (l.length + 1) cap) = some k) => (hown.lt k hk).1); clear hown hgrow hat hlt4)
              go_roundg (gk - 1)
              case measure => have := HK.out; omega
              case rel => exact ⟨l ++ [⟨1, 0⟩], .slice (some ⟨gb, 0, none⟩) (l.length + 1) cap, _, by have := HK.out; simp; omega, by go_num, (QG.out.st z1 (i := 3) _).congr (fun i hi => by by_cases q : i = 3 <;> simp [q]), by (rw [List.length_append, List.flatMap_append]; have q := own_st OW.out (p := ⟨QB, 3, none⟩) (fun k hk => by have := lt10 k hk; show k ≠ QB; omega) (.slice (some ⟨gb, 0, none⟩) (l.length + 1) cap); simpa using q), fun a ha => by (rcases List.mem_append.1 ha with q | q; exact HAG.out a q; rw [List.mem_singleton.1 q]; exact AE.out), MW.out.st (p := ⟨QB, 3, none⟩) (.inl (.inl rfl)) _⟩
            · have t1 : (o != 1) = true := by simpa using o1
              have nbn := nextF_bd r8 (n := (nn : Int)) (by omega)
              have NXn := Lib.hid (next_any sb r8 (nn : Int) (by omega) (by omega) z Q9.out.src)
              obtain ⟨C, hC⟩ : ∃ C : Nat, (nextF (nn : Int) r8).1 = (C : Int) := ⟨(nextF (nn : Int) r8).1.toNat, by omega⟩
              rw [hC] at NXn nbn
              generalize (nextF (nn : Int) r8).2 = r9 at *
              clear hC
              have hCn : C < nn := by omega
              go_upto_region 19 with (go_at_call 20; refine Calls.mono NXn.out ?_; rintro e w9 ⟨rfl, hm9, hs9⟩; have QA := Lib.hid (Q9.out.to z1 zQz hm9 hs9); have MA := Lib.hid (M9.out.trans (Mv.of_moved (S := fun k => k = QB ∨ k = sb ∨ k = QB) hm9 (.inr (.inl rfl)))); have MB2 := Lib.hid hm9; have MB := Lib.hid (Mv.of_moved (S := fun k => k = sb ∨ k = AB) hm9 (.inl rfl)); have W9 := hm9.size; have e0 := ((Mv.of_moved (S := fun k => k = sb) hm9 rfl).cell 0 zA zsA').trans a0; have e1 := ((Mv.of_moved (S := fun k => k = sb) hm9 rfl).cell 1 zA zsA').trans a1; have e2 := ((Mv.of_moved (S := fun k => k = sb) hm9 rfl).frozen 1 zA zsA').trans (AF.out 1); clear hm9 hs9)
              refine captureM ?_
              intro z10 e10
              have QC : Hid (QS x3.it QB sb QB z10 (fun k => if k = 3 then .slice aa l.length ac else if k = 2 then .slice ga L.length gc else if k = 0 then .slice na dl.length nc else .slice none 0 0) r9) := Lib.hid (by rw [e10]; exact QA.out.sto z1 zQA (by omega) _)
              have MC : Hid (Mv (fun k => k = QB ∨ k = sb ∨ k = QB) W7 z10) := Lib.hid (by rw [e10]; exact Mv.st (p := ⟨AB, 1, none⟩) MA.out (.inr (by show W7.heap.size ≤ AB; omega)) _)
              have MD : Hid (Mv (fun k => k = sb ∨ k = AB) z z10) := Lib.hid (by rw [e10]; exact Mv.st (p := ⟨AB, 1, none⟩) MB.out (.inl (.inr rfl)) _)
              have g0 : z10.cell? ⟨AB, 0, none⟩ = some (.int .i64 o) := by rw [e10]; simp (maxDischargeDepth := 9) [go_sem, *]
              have g1 : z10.cell? ⟨AB, 1, none⟩ = some (.int .i64 (C : Int)) := by rw [e10]; simp (maxDischargeDepth := 9) [go_sem, *]
              have gf : ∀ i, z10.frozen? ⟨AB, i, none⟩ = false := fun i => by
                have q : w9.frozen? ⟨AB, i, none⟩ = false := ((Mv.of_moved (S := fun k => k = sb) MB2.out rfl).frozen i zA zsA').trans (AF.out i)
                rw [e10, World.frozen?_setCell]; exact q
              have gA : AB < z10.heap.size := by rw [e10]; simp; omega
              obtain ⟨yc0, yc1, yz⟩ := XC.out z10 QC.out.mv
              have zXy : w.heap.size < z10.heap.size := by omega
              have CSY := Lib.hid (CS.out z10 QC.out.mv)
              rw [HNN.out] at CSY
              obtain ⟨cb, co, rfl, hcap, hcb, k0, k1, k2, k3⟩ := cols_in CSY.out (i := C) (by rw [HNN.out]; exact hCn)
              have hty := colTy_at (cs := cs) (K := C) (by rw [HNN.out]; exact hCn)
              obtain ⟨ty, hty2⟩ : ∃ t, (cs[C]'(by rw [HNN.out]; exact hCn)).ty = t := ⟨_, rfl⟩
              rw [hty2] at k1 hty
              have tC : (C : Int) < (nn : Int) := by omega
              have zcb : cb < z10.heap.size := by omega
              have gf0 := gf 0
              have gf1 := gf 1
              have HTY := Lib.hid hty
              clear k0 k2 k3 e10 e0 e1 e2 a0 a1 NXn gf hty hty2 xc0 xc1 QA MA
              have AEc : Hid (∀ p : Int, 1 ≤ p → p ≤ 5 → ¬ p = 1 → (p = 3 → ty = 1 ∨ ty = 5) → agE cs ⟨p, (C : Int)⟩ = 0) := Lib.hid (fun p p1 p5 pn p3 => by
                unfold agE
                rw [if_neg (fun e => by (rcases e with e | e | e; (simp only at e; omega); (simp only at e; omega); exact pn e.1)), if_neg (fun e => by (rw [HNN.out] at e; rcases e with e | e; (simp only at e; omega); (simp only at e; omega))), if_neg (fun e => by (obtain ⟨e1, e2, e3⟩ := e; simp only at e1 e2 e3; rw [HTY.out] at e2 e3; rcases p3 e1 with q | q; exact e2 q; exact e3 q))])
              by_cases o3 : o = 3
              · subst o3
                have t3 : ((3 : Int) == 3) = true := rfl
                by_cases y1 : ty = 1
                · have y1' : (ty != 1) = false := by simpa using y1
                  have AE : Hid (agE cs ⟨3, (C : Int)⟩ = 0) := Lib.hid (AEc.out 3 (by omega) (by omega) (by omega) (fun _ => .inl y1))
                  go_upto_region 22 with fail
                  refine captureM ?_
                  intro Z eZ
                  have QZ : Hid (QS x3.it QB sb QB Z (fun k => if k = 3 then .slice aa l.length ac else if k = 2 then .slice ga L.length gc else if k = 0 then .slice na dl.length nc else .slice none 0 0) r9) := Lib.hid (by rw [eZ]; exact QC.out)
                  have u0 : Z.cell? ⟨AB, 0, none⟩ = some (.int .i64 (3)) := by rw [eZ]; (first | assumption | simp (maxDischargeDepth := 9) [go_sem, *])
                  have u1 : Z.cell? ⟨AB, 1, none⟩ = some (.int .i64 ((C : Int))) := by rw [eZ]; (first | assumption | simp (maxDischargeDepth := 9) [go_sem, *])
                  have MZ : Hid (Mv (fun k => k = QB ∨ k = sb ∨ k = QB) W7 Z) := Lib.hid (by rw [eZ]; exact MC.out)
                  have OZ : Hid (Z.ownsRow W7.heap.size 39 2 (.slice aa l.length ac) l.length (l.flatMap agC)) := Lib.hid (by rw [eZ]; exact OW.out _ MD.out)
                  have uA : AB < Z.heap.size := by rw [eZ]; exact gA
                  have n3 := QZ.out.q 3 (by omega)
                  simp at n3
                  have nf := QZ.out.fr 3
                  have zZ : QB < Z.heap.size := by omega
                  have zW : W7.heap.size ≤ Z.heap.size := by omega
                  clear eZ
                  go_wp2_with (at_builtin; go_must (refine wpList_append_lies _ rfl _ _ 27 rfl W7.heap.size 39 iA _ 2 16 Tryz.underlying27 hiA hA0 hA1 hA2 rfl (by decide) (.slice aa l.length ac) l.length (l.flatMap agC) rfl (OZ.out.alloc _) ⟨Z.heap.size, 0, none⟩ 1 1 (agC ⟨3, (C : Int)⟩) rfl rfl (World.news_of_block (heap_alloc_new Z _)) (by simp [agC, Value.oneCell']) (by omega) (by unfold maxLen; omega) (by omega) (by simp; omega) (Z.heap.size + 1) (by simp) ?_); intro gb cap w10 hown hgrow hat hlt4; go_must (have QG := Lib.hid (QS.gr (QZ.out.al zZ _) z1 (by simp; omega) zQ3 hgrow (fun k hk => by have := (OZ.out.lt k hk).1; omega))); have g3 := QG.out.q 3 (by omega); (simp at g3); have gf := QG.out.fr 3; have OW := Lib.hid hown; have MW := Lib.hid (((MZ.out.al _).gr hgrow (fun k hk => (OZ.out.lt k hk).1))); have lt10 := (fun k (hk : Value.ownBlock (.slice (some ⟨gb, 0, none⟩) (l.length + 1) cap) = some k) => (hown.lt k hk).1); clear hown hgrow hat hlt4)
                  go_roundg (gk - 1)
                  case measure => have := HK.out; omega
                  case rel => exact ⟨l ++ [⟨3, (C : Int)⟩], .slice (some ⟨gb, 0, none⟩) (l.length + 1) cap, _, by have := HK.out; simp; omega, by go_num, (QG.out.st z1 (i := 3) _).congr (fun i hi => by by_cases q : i = 3 <;> simp [q]), by (rw [List.length_append, List.flatMap_append]; have q := own_st OW.out (p := ⟨QB, 3, none⟩) (fun k hk => by have := lt10 k hk; show k ≠ QB; omega) (.slice (some ⟨gb, 0, none⟩) (l.length + 1) cap); simpa using q), fun a ha => by (rcases List.mem_append.1 ha with q | q; exact HAG.out a q; rw [List.mem_singleton.1 q]; exact AE.out), MW.out.st (p := ⟨QB, 3, none⟩) (.inl (.inl rfl)) _⟩
                · have y1' : (ty != 1) = true := by simpa using y1
                  by_cases y5 : ty = 5
                  · have y5' : (ty != 5) = false := by simpa using y5
                    have AE : Hid (agE cs ⟨3, (C : Int)⟩ = 0) := Lib.hid (AEc.out 3 (by omega) (by omega) (by omega) (fun _ => .inr y5))
                    go_upto_region 22 with fail
                    refine captureM ?_
                    intro Z eZ
                    have QZ : Hid (QS x3.it QB sb QB Z (fun k => if k = 3 then .slice aa l.length ac else if k = 2 then .slice ga L.length gc else if k = 0 then .slice na dl.length nc else .slice none 0 0) r9) := Lib.hid (by rw [eZ]; exact QC.out)
                    have u0 : Z.cell? ⟨AB, 0, none⟩ = some (.int .i64 (3)) := by rw [eZ]; (first | assumption | simp (maxDischargeDepth := 9) [go_sem, *])
                    have u1 : Z.cell? ⟨AB, 1, none⟩ = some (.int .i64 ((C : Int))) := by rw [eZ]; (first | assumption | simp (maxDischargeDepth := 9) [go_sem, *])
                    have MZ : Hid (Mv (fun k => k = QB ∨ k = sb ∨ k = QB) W7 Z) := Lib.hid (by rw [eZ]; exact MC.out)
                    have OZ : Hid (Z.ownsRow W7.heap.size 39 2 (.slice aa l.length ac) l.length (l.flatMap agC)) := Lib.hid (by rw [eZ]; exact OW.out _ MD.out)
                    have uA : AB < Z.heap.size := by rw [eZ]; exact gA
                    have n3 := QZ.out.q 3 (by omega)
                    simp at n3
                    have nf := QZ.out.fr 3
                    have zZ : QB < Z.heap.size := by omega
                    have zW : W7.heap.size ≤ Z.heap.size := by omega
                    clear eZ
                    go_wp2_with (at_builtin; go_must (refine wpList_append_lies _ rfl _ _ 27 rfl W7.heap.size 39 iA _ 2 16 Tryz.underlying27 hiA hA0 hA1 hA2 rfl (by decide) (.slice aa l.length ac) l.length (l.flatMap agC) rfl (OZ.out.alloc _) ⟨Z.heap.size, 0, none⟩ 1 1 (agC ⟨3, (C : Int)⟩) rfl rfl (World.news_of_block (heap_alloc_new Z _)) (by simp [agC, Value.oneCell']) (by omega) (by unfold maxLen; omega) (by omega) (by simp; omega) (Z.heap.size + 1) (by simp) ?_); intro gb cap w10 hown hgrow hat hlt4; go_must (have QG := Lib.hid (QS.gr (QZ.out.al zZ _) z1 (by simp; omega) zQ3 hgrow (fun k hk => by have := (OZ.out.lt k hk).1; omega))); have g3 := QG.out.q 3 (by omega); (simp at g3); have gf := QG.out.fr 3; have OW := Lib.hid hown; have MW := Lib.hid (((MZ.out.al _).gr hgrow (fun k hk => (OZ.out.lt k hk).1))); have lt10 := (fun k (hk : Value.ownBlock (.slice (some ⟨gb, 0, none⟩) (l.length + 1) cap) = some k) => (hown.lt k hk).1); clear hown hgrow hat hlt4)
                    go_roundg (gk - 1)
                    case measure => have := HK.out; omega
                    case rel => exact ⟨l ++ [⟨3, (C : Int)⟩], .slice (some ⟨gb, 0, none⟩) (l.length + 1) cap, _, by have := HK.out; simp; omega, by go_num, (QG.out.st z1 (i := 3) _).congr (fun i hi => by by_cases q : i = 3 <;> simp [q]), by (rw [List.length_append, List.flatMap_append]; have q := own_st OW.out (p := ⟨QB, 3, none⟩) (fun k hk => by have := lt10 k hk; show k ≠ QB; omega) (.slice (some ⟨gb, 0, none⟩) (l.length + 1) cap); simpa using q), fun a ha => by (rcases List.mem_append.1 ha with q | q; exact HAG.out a q; rw [List.mem_singleton.1 q]; exact AE.out), MW.out.st (p := ⟨QB, 3, none⟩) (.inl (.inl rfl)) _⟩
                  · have y5' : (ty != 5) = true := by simpa using y5
                    have AE : Hid (agE cs ⟨5, (C : Int)⟩ = 0) := Lib.hid (AEc.out 5 (by omega) (by omega) (by omega) (fun e => absurd e (by decide)))
                    go_upto_region 22 with fail
                    refine captureM ?_
                    intro Z eZ
                    have QZ : Hid (QS x3.it QB sb QB Z (fun k => if k = 3 then .slice aa l.length ac else if k = 2 then .slice ga L.length gc else if k = 0 then .slice na dl.length nc else .slice none 0 0) r9) := Lib.hid (by rw [eZ]; exact QC.out.sto z1 zQA (by omega) _)
                    have u0 : Z.cell? ⟨AB, 0, none⟩ = some (.int .i64 (5)) := by rw [eZ]; (first | assumption | simp (maxDischargeDepth := 9) [go_sem, *])
                    have u1 : Z.cell? ⟨AB, 1, none⟩ = some (.int .i64 ((C : Int))) := by rw [eZ]; (first | assumption | simp (maxDischargeDepth := 9) [go_sem, *])
                    have MZ : Hid (Mv (fun k => k = QB ∨ k = sb ∨ k = QB) W7 Z) := Lib.hid (by rw [eZ]; exact Mv.st (p := ⟨AB, 0, none⟩) MC.out (.inr (by show W7.heap.size ≤ AB; omega)) _)
                    have OZ : Hid (Z.ownsRow W7.heap.size 39 2 (.slice aa l.length ac) l.length (l.flatMap agC)) := Lib.hid (by rw [eZ]; exact OW.out _ (Mv.st (p := ⟨AB, 0, none⟩) MD.out (.inl (.inr rfl)) _))
                    have uA : AB < Z.heap.size := by rw [eZ]; simp; omega
                    have n3 := QZ.out.q 3 (by omega)
                    simp at n3
                    have nf := QZ.out.fr 3
                    have zZ : QB < Z.heap.size := by omega
                    have zW : W7.heap.size ≤ Z.heap.size := by omega
                    clear eZ
                    go_wp2_with (at_builtin; go_must (refine wpList_append_lies _ rfl _ _ 27 rfl W7.heap.size 39 iA _ 2 16 Tryz.underlying27 hiA hA0 hA1 hA2 rfl (by decide) (.slice aa l.length ac) l.length (l.flatMap agC) rfl (OZ.out.alloc _) ⟨Z.heap.size, 0, none⟩ 1 1 (agC ⟨5, (C : Int)⟩) rfl rfl (World.news_of_block (heap_alloc_new Z _)) (by simp [agC, Value.oneCell']) (by omega) (by unfold maxLen; omega) (by omega) (by simp; omega) (Z.heap.size + 1) (by simp) ?_); intro gb cap w10 hown hgrow hat hlt4; go_must (have QG := Lib.hid (QS.gr (QZ.out.al zZ _) z1 (by simp; omega) zQ3 hgrow (fun k hk => by have := (OZ.out.lt k hk).1; omega))); have g3 := QG.out.q 3 (by omega); (simp at g3); have gf := QG.out.fr 3; have OW := Lib.hid hown; have MW := Lib.hid (((MZ.out.al _).gr hgrow (fun k hk => (OZ.out.lt k hk).1))); have lt10 := (fun k (hk : Value.ownBlock (.slice (some ⟨gb, 0, none⟩) (l.length + 1) cap) = some k) => (hown.lt k hk).1); clear hown hgrow hat hlt4)
                    go_roundg (gk - 1)
                    case measure => have := HK.out; omega
                    case rel => exact ⟨l ++ [⟨5, (C : Int)⟩], .slice (some ⟨gb, 0, none⟩) (l.length + 1) cap, _, by have := HK.out; simp; omega, by go_num, (QG.out.st z1 (i := 3) _).congr (fun i hi => by by_cases q : i = 3 <;> simp [q]), by (rw [List.length_append, List.flatMap_append]; have q := own_st OW.out (p := ⟨QB, 3, none⟩) (fun k hk => by have := lt10 k hk; show k ≠ QB; omega) (.slice (some ⟨gb, 0, none⟩) (l.length + 1) cap); simpa using q), fun a ha => by (rcases List.mem_append.1 ha with q | q; exact HAG.out a q; rw [List.mem_singleton.1 q]; exact AE.out), MW.out.st (p := ⟨QB, 3, none⟩) (.inl (.inl rfl)) _⟩
              · have t3 : (o == 3) = false := by simpa using o3
                have AE : Hid (agE cs ⟨o, (C : Int)⟩ = 0) := Lib.hid (AEc.out o ho1 ho5 o1 (fun e => absurd e o3))
                go_upto_region 22 with fail
                refine captureM ?_
                intro Z eZ
                have QZ : Hid (QS x3.it QB sb QB Z (fun k => if k = 3 then .slice aa l.length ac else if k = 2 then .slice ga L.length gc else if k = 0 then .slice na dl.length nc else .slice none 0 0) r9) := Lib.hid (by rw [eZ]; exact QC.out)
                have u0 : Z.cell? ⟨AB, 0, none⟩ = some (.int .i64 (o)) := by rw [eZ]; (first | assumption | simp (maxDischargeDepth := 9) [go_sem, *])
                have u1 : Z.cell? ⟨AB, 1, none⟩ = some (.int .i64 ((C : Int))) := by rw [eZ]; (first | assumption | simp (maxDischargeDepth := 9) [go_sem, *])
                have MZ : Hid (Mv (fun k => k = QB ∨ k = sb ∨ k = QB) W7 Z) := Lib.hid (by rw [eZ]; exact MC.out)
                have OZ : Hid (Z.ownsRow W7.heap.size 39 2 (.slice aa l.length ac) l.length (l.flatMap agC)) := Lib.hid (by rw [eZ]; exact OW.out _ MD.out)
                have uA : AB < Z.heap.size := by rw [eZ]; exact gA
                have n3 := QZ.out.q 3 (by omega)
                simp at n3
                have nf := QZ.out.fr 3
                have zZ : QB < Z.heap.size := by omega
                have zW : W7.heap.size ≤ Z.heap.size := by omega
                clear eZ
                go_wp2_with (at_builtin; go_must (refine wpList_append_lies _ rfl _ _ 27 rfl W7.heap.size 39 iA _ 2 16 Tryz.underlying27 hiA hA0 hA1 hA2 rfl (by decide) (.slice aa l.length ac) l.length (l.flatMap agC) rfl (OZ.out.alloc _) ⟨Z.heap.size, 0, none⟩ 1 1 (agC ⟨o, (C : Int)⟩) rfl rfl (World.news_of_block (heap_alloc_new Z _)) (by simp [agC, Value.oneCell']) (by omega) (by unfold maxLen; omega) (by omega) (by simp; omega) (Z.heap.size + 1) (by simp) ?_); intro gb cap w10 hown hgrow hat hlt4; go_must (have QG := Lib.hid (QS.gr (QZ.out.al zZ _) z1 (by simp; omega) zQ3 hgrow (fun k hk => by have := (OZ.out.lt k hk).1; omega))); have g3 := QG.out.q 3 (by omega); (simp at g3); have gf := QG.out.fr 3; have OW := Lib.hid hown; have MW := Lib.hid (((MZ.out.al _).gr hgrow (fun k hk => (OZ.out.lt k hk).1))); have lt10 := (fun k (hk : Value.ownBlock (.slice (some ⟨gb, 0, none⟩) (l.length + 1) cap) = some k) => (hown.lt k hk).1); clear hown hgrow hat hlt4)
                go_roundg (gk - 1)
                case measure => have := HK.out; omega
                case rel => exact ⟨l ++ [⟨o, (C : Int)⟩], .slice (some ⟨gb, 0, none⟩) (l.length + 1) cap, _, by have := HK.out; simp; omega, by go_num, (QG.out.st z1 (i := 3) _).congr (fun i hi => by by_cases q : i = 3 <;> simp [q]), by (rw [List.length_append, List.flatMap_append]; have q := own_st OW.out (p := ⟨QB, 3, none⟩) (fun k hk => by have := lt10 k hk; show k ≠ QB; omega) (.slice (some ⟨gb, 0, none⟩) (l.length + 1) cap); simpa using q), fun a ha => by (rcases List.mem_append.1 ha with q | q; exact HAG.out a q; rw [List.mem_singleton.1 q]; exact AE.out), MW.out.st (p := ⟨QB, 3, none⟩) (.inl (.inl rfl)) _⟩
    · have hkm : (k : Int) < 12 := by omega
      have k12 : (k : Int) ≤ 12 := by omega
      have hl12 : l.length ≤ 12 := by omega
      have RA := Lib.hid (raw_any sb r' wr M.src)
      have RI := Lib.hid (raw_isI M.src)
      have HK := Lib.hid (And.intro (And.intro hk hg0) hl)
      generalize (rawF r').1 = rv at *
      generalize (rawF r').2 = r2 at *
      clear hk hg0 hl hli M
      go_wp2_with (first
        | (go_at_call 21; refine Calls.mono RA.out ?_; rintro e w3 ⟨rfl, hm3, hs3⟩; have M3 := Lib.hid (MO.out.to (Mv.of_moved hm3 rfl) hs3); have z3 := hm3.size; clear hm3 hs3)
        | (at_builtin; go_must (refine wpList_append_lies _ rfl _ _ 26 rfl y.heap.size 3 i0 _ 1 8 Tryz.underlying26 hi hz0 hz1 hz2 rfl (by decide) u7 l.length (l.flatMap intC) rfl (M3.out.own.alloc _) ⟨w3.heap.size, 0, none⟩ 1 1 (intC rv) rfl rfl (World.news_of_block (heap_alloc_new w3 _)) (by simp [intC, Value.oneCell']) (by omega) (by unfold maxLen; omega) (by omega) (by simp; omega) (w3.heap.size + 1) (by simp) ?_); intro gb cap w4 hown hgrow hat hlt4; go_must (have MS := Lib.hid ((M3.out.al _).step (c := rv) hgrow hown)); clear hown hgrow hat hlt4))
      go_roundg (gk - 1)
      case measure => have := HK.out; omega
      case rel => exact ⟨k + 1, l ++ [rv], r2, by have := HK.out; omega, by go_num, by have := HK.out; simp; omega, fun z hz => by (rcases List.mem_append.1 hz with h | h; exact HLI.out z h; rw [List.mem_singleton.1 h]; exact RI.out), MS.out⟩
theorem kquery_any (cv : Value) (cs : List Col) (key : Int) (lv : Value) (zs : List Int) (w : World) (hc : ColsAt w w.heap.size cv cs) (h : IntsAt w w.heap.size lv zs) (hsc : schemaF cs key = 0) :
    Calls Tryz.prog 8 #[.agg #[cv, .int .i64 key], lv] w (QryPost w cs key) := by
  refine (kqueryN_any cv cs key lv zs w hc h hsc).mono ?_
  rintro e w' ⟨nv, ns, pv, pr, gv, gr, av, ag, h1, h2, h3, h4, h5, h6, _, h8, h9⟩
  exact ⟨nv, ns, pv, pr, gv, gr, av, ag, h1, h2, h3, h4, h5, h6, h8, h9⟩
end Go.Proofs.YtpahoenanfjhpaaGreat
