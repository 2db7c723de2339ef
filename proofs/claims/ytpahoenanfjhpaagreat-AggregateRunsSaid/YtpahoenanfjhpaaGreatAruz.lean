/-
  CHAPTER 26: the walk of AggregateRuns. Conditions: the arguments lie in memory; the lists of the raw nodes have at most 2^42 values.
-/
import Derived.Test.YtpahoenanfjhpaaGreatAgrz
import Derived.Test.YtpahoenanfjhpaaGreatZt
import Derived.Test.YtpahoenanfjhpaaGreatKqyz
import Derived.Test.YtpahoenanfjhpaaGreatZk
set_option linter.unusedVariables false
set_option linter.unusedSimpArgs false
namespace Go.Proofs.YtpahoenanfjhpaaGreat
open Go.RowKit
set_option maxRecDepth 8000 in
set_option maxHeartbeats 4000000 in
theorem aru_walk (rcv : Value) (rcs : List Col) (rkey : Int) (rnv : Value) (rns : List Nod) (rpv : Value) (rpr : List Int) (rgv : Value) (rgr : List Int) (rav : Value) (rag : List Ag) (rrv : Value) (rrows : List (List Val)) (vx vl vm : Value) (zx zl zm : List Int) (w : World)
    (hc : ColsAt w w.heap.size rcv rcs) (hn : NodsAt w w.heap.size rnv rns) (hp : IntsAt w w.heap.size rpv rpr) (hg : IntsAt w w.heap.size rgv rgr) (ha : AgsAt w w.heap.size rav rag) (hr : RowsAt w w.heap.size rrv rrows) (hls : ∀ d ∈ rns, d.ls.length ≤ 4398046511104)
    (h0 : IntsAt w w.heap.size vx zx) (h1 : IntsAt w w.heap.size vl zl) (h2 : IntsAt w w.heap.size vm zm) :
    Calls Tryz.prog 3 #[.agg #[rcv, .int .i64 rkey], .agg #[rnv, rpv, rgv, rav], rrv, vx, vl, vm] w fun e w' => e = .returned (.bool true) ∧ Below w.heap.size w w' := by
  have H0 := Lib.hid h0
  have H1 := Lib.hid h1
  have H2 := Lib.hid h2
  have AG := Lib.hid (fun (W : World) (hb : Below w.heap.size w W) => agrees26_any rcv rcs rkey rnv rns rpv rpr rgv rgr rav rag rrv rrows W (hc.mono hb hb.size) (hn.mono hb hb.size) (ints_on hp hb hb.size) (ints_on hg hb hb.size) (ha.mono hb hb.size) (hr.mono hb hb.size) hls)
  have PN := Lib.hid hn
  have PP := Lib.hid hp
  have PG := Lib.hid hg
  have PA := Lib.hid ha
  have PR := Lib.hid hr
  have PL := Lib.hid hls
  clear hc hn hp hg ha hr hls h0 h1 h2
  go_enter Tryz.func3, Tryz.ntmps3
  go_upto_region 1 with fail
  refine captureM ?_
  intro y0 ey
  have b0 : Below w.heap.size w y0 := by rw [ey]; repeat (first | with_reducible exact Below.refl _ _ | with_reducible assumption | with_reducible refine Below.al ?_ _ | with_reducible refine Below.on ?_ _ | with_reducible refine Below.st ?_ (by first | assumption | (simp; done) | (simp; omega)) _ | with_reducible refine Below.drew ?_)
  obtain ⟨SB0, hSB0⟩ : ∃ q, w.heap.size = q := ⟨_, rfl⟩
  obtain ⟨QB0, hQB0⟩ : ∃ q, w.heap.size + 1 = q := ⟨_, rfl⟩
  have a0 : y0.cell? ⟨SB0, 0, none⟩ = some (rcv) := by rw [ey, ← hSB0]; simp (maxDischargeDepth := 9) [go_sem]
  have a1 : y0.cell? ⟨SB0, 1, none⟩ = some (.int .i64 rkey) := by rw [ey, ← hSB0]; simp (maxDischargeDepth := 9) [go_sem]
  have a2 : y0.cell? ⟨QB0, 0, none⟩ = some (rnv) := by rw [ey, ← hQB0]; simp (maxDischargeDepth := 9) [go_sem]
  have a3 : y0.cell? ⟨QB0, 1, none⟩ = some (rpv) := by rw [ey, ← hQB0]; simp (maxDischargeDepth := 9) [go_sem]
  have a4 : y0.cell? ⟨QB0, 2, none⟩ = some (rgv) := by rw [ey, ← hQB0]; simp (maxDischargeDepth := 9) [go_sem]
  have a5 : y0.cell? ⟨QB0, 3, none⟩ = some (rav) := by rw [ey, ← hQB0]; simp (maxDischargeDepth := 9) [go_sem]
  have aQB0 : QB0 < y0.heap.size := by rw [ey, ← hQB0]; simp
  have aSB0 : SB0 < y0.heap.size := by omega
  have I0 := Lib.hid (ints_on H0.out b0 b0.size)
  have I1 := Lib.hid (ints_on H1.out b0 b0.size)
  have I2 := Lib.hid (ints_on H2.out b0 b0.size)
  have B0 := Lib.hid b0
  rw [hQB0, hSB0]
  clear ey b0 H0 H1 H2 hSB0 hQB0
  go_upto_region 2 with (go_at_call 7; refine (keepSchema_any _ _ _ I0.out).mono ?_; rintro e w1 ⟨cv, cs, key, rfl, hc1, hs1, hl1, hb1⟩; obtain ⟨x1, rfl⟩ := Ext.of hb1; obtain ⟨ca, cc, rfl⟩ := cols_end hc1; obtain ⟨nn, hnn⟩ : ∃ nn, cs.length = nn := ⟨_, rfl⟩; rw [hnn] at hc1 hl1 ⊢; have HNN := Lib.hid hnn; clear hnn)
  refine captureM ?_
  intro y ey
  have yb1 : Below x1.it.heap.size x1.it y := by rw [ey]; exact (by repeat (first | with_reducible exact Below.refl _ _ | with_reducible assumption | with_reducible refine Below.al ?_ _ | with_reducible refine Below.on ?_ _ | with_reducible refine Below.st ?_ (by first | assumption | (simp; done) | (simp; omega)) _ | with_reducible refine Below.drew ?_))
  have yb : Below y0.heap.size y0 y := by rw [ey]; exact (by repeat (first | with_reducible exact Below.refl _ _ | with_reducible assumption | with_reducible refine Below.al ?_ _ | with_reducible refine Below.on ?_ _ | with_reducible refine Below.st ?_ (by first | assumption | (simp; done) | (simp; omega)) _ | with_reducible refine Below.drew ?_))
  have b0 : y.cell? ⟨SB0, 0, none⟩ = some (rcv) := (yb.cell (p := ⟨SB0, 0, none⟩) aSB0).trans a0
  have b1 : y.cell? ⟨SB0, 1, none⟩ = some (.int .i64 rkey) := (yb.cell (p := ⟨SB0, 1, none⟩) aSB0).trans a1
  have b2 : y.cell? ⟨QB0, 0, none⟩ = some (rnv) := (yb.cell (p := ⟨QB0, 0, none⟩) aQB0).trans a2
  have b3 : y.cell? ⟨QB0, 1, none⟩ = some (rpv) := (yb.cell (p := ⟨QB0, 1, none⟩) aQB0).trans a3
  have b4 : y.cell? ⟨QB0, 2, none⟩ = some (rgv) := (yb.cell (p := ⟨QB0, 2, none⟩) aQB0).trans a4
  have b5 : y.cell? ⟨QB0, 3, none⟩ = some (rav) := (yb.cell (p := ⟨QB0, 3, none⟩) aQB0).trans a5
  have bSB : x1.it.heap.size < y.heap.size := by rw [ey]; simp
  have b6 : y.cell? ⟨x1.it.heap.size, 0, none⟩ = some (.slice ca nn cc) := by rw [ey]; simp (maxDischargeDepth := 9) [go_sem, *]
  have b7 : y.cell? ⟨x1.it.heap.size, 1, none⟩ = some (.int .i64 key) := by rw [ey]; simp (maxDischargeDepth := 9) [go_sem, *]
  have bSB0 := Nat.lt_of_lt_of_le aSB0 yb.size
  have bQB0 := Nat.lt_of_lt_of_le aQB0 yb.size
  have HC := Lib.hid (hc1.mono yb1 yb1.size)
  have HS := Lib.hid hs1
  have J1 := Lib.hid (ints_on I1.out yb yb.size)
  have J2 := Lib.hid (ints_on I2.out yb yb.size)
  have BY := Lib.hid (Below.to B0.out yb)
  clear ey hc1 hs1 hb1 yb1 yb I0 I1 I2 a0 a1 a2 a3 a4 a5 aSB0 aQB0 B0
  generalize x1.it.heap.size = SB at *
  clear x1
  have KQ := Lib.hid (kquery_any (.slice ca nn cc) cs key vl zl y HC.out J1.out HS.out)
  have SP := Lib.hid (schema_parts HS.out)
  go_upto_region 3 with (go_at_call 8; refine Calls.mono KQ.out ?_; rintro e w2 ⟨nv, ns, pv, pr, gv, gr, av, ag, rfl, hn2, hp2, hg2, ha2, hq2, hl2, hb2⟩; obtain ⟨x2, rfl⟩ := Ext.of hb2; obtain ⟨na, nc, rfl⟩ := nods_end hn2; obtain ⟨pa, pc, rfl⟩ := ints_end hp2; obtain ⟨ga, gc, rfl⟩ := ints_end hg2; obtain ⟨aa, ac, rfl⟩ := ags_end ha2; have HL2 := Lib.hid hl2; clear hq2 hl2; generalize ns.length = qn at hn2 ⊢; generalize pr.length = qp at hp2 ⊢; generalize gr.length = qg at hg2 ⊢; generalize ag.length = qa at ha2 ⊢; have HN2 := Lib.hid hn2; have HP2 := Lib.hid hp2; have HG2 := Lib.hid hg2; have HA2 := Lib.hid ha2; clear hn2 hp2 hg2 ha2)
  refine captureM ?_
  intro z ez
  have xz : Below x2.it.heap.size x2.it z := by rw [ez]; repeat (first | with_reducible exact Below.refl _ _ | with_reducible assumption | with_reducible refine Below.al ?_ _ | with_reducible refine Below.on ?_ _ | with_reducible refine Below.st ?_ (by first | assumption | (simp; done) | (simp; omega)) _ | with_reducible refine Below.drew ?_)
  have yz : Below y.heap.size y z := by rw [ez]; repeat (first | with_reducible exact Below.refl _ _ | with_reducible assumption | with_reducible refine Below.al ?_ _ | with_reducible refine Below.on ?_ _ | with_reducible refine Below.st ?_ (by first | assumption | (simp; done) | (simp; omega)) _ | with_reducible refine Below.drew ?_)
  have c0 : z.cell? ⟨SB0, 0, none⟩ = some (rcv) := (yz.cell (p := ⟨SB0, 0, none⟩) bSB0).trans b0
  have c1 : z.cell? ⟨SB0, 1, none⟩ = some (.int .i64 rkey) := (yz.cell (p := ⟨SB0, 1, none⟩) bSB0).trans b1
  have c2 : z.cell? ⟨QB0, 0, none⟩ = some (rnv) := (yz.cell (p := ⟨QB0, 0, none⟩) bQB0).trans b2
  have c3 : z.cell? ⟨QB0, 1, none⟩ = some (rpv) := (yz.cell (p := ⟨QB0, 1, none⟩) bQB0).trans b3
  have c4 : z.cell? ⟨QB0, 2, none⟩ = some (rgv) := (yz.cell (p := ⟨QB0, 2, none⟩) bQB0).trans b4
  have c5 : z.cell? ⟨QB0, 3, none⟩ = some (rav) := (yz.cell (p := ⟨QB0, 3, none⟩) bQB0).trans b5
  have c6 : z.cell? ⟨SB, 0, none⟩ = some (.slice ca nn cc) := (yz.cell (p := ⟨SB, 0, none⟩) bSB).trans b6
  have c7 : z.cell? ⟨SB, 1, none⟩ = some (.int .i64 key) := (yz.cell (p := ⟨SB, 1, none⟩) bSB).trans b7
  have c8 : z.cell? ⟨x2.it.heap.size, 0, none⟩ = some (.slice na qn nc) := by rw [ez]; simp (maxDischargeDepth := 9) [go_sem, *]
  have c9 : z.cell? ⟨x2.it.heap.size, 1, none⟩ = some (.slice pa qp pc) := by rw [ez]; simp (maxDischargeDepth := 9) [go_sem, *]
  have c10 : z.cell? ⟨x2.it.heap.size, 2, none⟩ = some (.slice ga qg gc) := by rw [ez]; simp (maxDischargeDepth := 9) [go_sem, *]
  have c11 : z.cell? ⟨x2.it.heap.size, 3, none⟩ = some (.slice aa qa ac) := by rw [ez]; simp (maxDischargeDepth := 9) [go_sem, *]
  have cQB : x2.it.heap.size < z.heap.size := by rw [ez]; simp
  have cSB0 := Nat.lt_of_lt_of_le bSB0 yz.size
  have cQB0 := Nat.lt_of_lt_of_le bQB0 yz.size
  have cSB := Nat.lt_of_lt_of_le bSB yz.size
  have HNz := Lib.hid (HN2.out.mono xz xz.size)
  have HPz := Lib.hid (ints_on HP2.out xz xz.size)
  have HGz := Lib.hid (ints_on HG2.out xz xz.size)
  have HAz := Lib.hid (HA2.out.mono xz xz.size)
  have HCz := Lib.hid (HC.out.mono yz yz.size)
  have K2 := Lib.hid (ints_on J2.out yz yz.size)
  have BZ := Lib.hid (Below.to BY.out yz)
  clear ez xz yz HC J1 J2 KQ hb2 HN2 HP2 HG2 HA2 BY b0 b1 b2 b3 b4 b5 b6 b7 bSB0 bQB0 bSB
  generalize x2.it.heap.size = QB at *
  clear x2
  go_upto_region 4 with (go_at_call 9; refine Calls.mono (rows_any _ cs key vm zm 10 _ HCz.out K2.out (by decide) (by decide) SP.out.1 SP.out.2.2.1) ?_; rintro e w3 ⟨rv, rows, rfl, hr3, hl3, hv3, hb3⟩; obtain ⟨ra, rc, rfl⟩ := rows_end hr3; generalize rows.length = kr at hr3 hl3 ⊢; have HR3 := Lib.hid hr3; have HB3 := Lib.hid hb3; clear hr3 hv3 hb3 hl3)
  have b3 := HB3.out
  have d0 : w3.cell? ⟨SB0, 0, none⟩ = some (rcv) := (b3.cell (p := ⟨SB0, 0, none⟩) cSB0).trans c0
  have d1 : w3.cell? ⟨SB0, 1, none⟩ = some (.int .i64 rkey) := (b3.cell (p := ⟨SB0, 1, none⟩) cSB0).trans c1
  have d2 : w3.cell? ⟨QB0, 0, none⟩ = some (rnv) := (b3.cell (p := ⟨QB0, 0, none⟩) cQB0).trans c2
  have d3 : w3.cell? ⟨QB0, 1, none⟩ = some (rpv) := (b3.cell (p := ⟨QB0, 1, none⟩) cQB0).trans c3
  have d4 : w3.cell? ⟨QB0, 2, none⟩ = some (rgv) := (b3.cell (p := ⟨QB0, 2, none⟩) cQB0).trans c4
  have d5 : w3.cell? ⟨QB0, 3, none⟩ = some (rav) := (b3.cell (p := ⟨QB0, 3, none⟩) cQB0).trans c5
  have d6 : w3.cell? ⟨SB, 0, none⟩ = some (.slice ca nn cc) := (b3.cell (p := ⟨SB, 0, none⟩) cSB).trans c6
  have d7 : w3.cell? ⟨SB, 1, none⟩ = some (.int .i64 key) := (b3.cell (p := ⟨SB, 1, none⟩) cSB).trans c7
  have d8 : w3.cell? ⟨QB, 0, none⟩ = some (.slice na qn nc) := (b3.cell (p := ⟨QB, 0, none⟩) cQB).trans c8
  have d9 : w3.cell? ⟨QB, 1, none⟩ = some (.slice pa qp pc) := (b3.cell (p := ⟨QB, 1, none⟩) cQB).trans c9
  have d10 : w3.cell? ⟨QB, 2, none⟩ = some (.slice ga qg gc) := (b3.cell (p := ⟨QB, 2, none⟩) cQB).trans c10
  have d11 : w3.cell? ⟨QB, 3, none⟩ = some (.slice aa qa ac) := (b3.cell (p := ⟨QB, 3, none⟩) cQB).trans c11
  have dSB0 := Nat.lt_of_lt_of_le cSB0 b3.size
  have dQB0 := Nat.lt_of_lt_of_le cQB0 b3.size
  have dSB := Nat.lt_of_lt_of_le cSB b3.size
  have dQB := Nat.lt_of_lt_of_le cQB b3.size
  have BW := Lib.hid (Below.to BZ.out b3)
  have A0 := Lib.hid (fun (W : World) (hb : Below w3.heap.size w3 W) => AG.out W (Below.to BW.out hb))
  have A1 := Lib.hid (fun (W : World) (hb : Below w3.heap.size w3 W) => (by have hz := Below.to b3 hb; exact agrees26_any (.slice ca nn cc) cs key (.slice na qn nc) ns (.slice pa qp pc) pr (.slice ga qg gc) gr (.slice aa qa ac) ag (.slice ra kr rc) rows W (HCz.out.mono hz hz.size) (HNz.out.mono hz hz.size) (ints_on HPz.out hz hz.size) (ints_on HGz.out hz hz.size) (HAz.out.mono hz hz.size) (HR3.out.mono hb hb.size) (fun d hd => Nat.le_trans (HL2.out d hd) (by decide)) : Calls Tryz.prog 11 #[.agg #[.slice ca nn cc, .int .i64 key], .agg #[.slice na qn nc, .slice pa qp pc, .slice ga qg gc, .slice aa qa ac], .slice ra kr rc] W fun e w' => e = .returned (.bool true) ∧ Below W.heap.size W w'))
  have A2 := Lib.hid (fun (W : World) (hb : Below w3.heap.size w3 W) => (by have hz := Below.to b3 hb; have hw := Below.to BW.out hb; exact agrees26_any (.slice ca nn cc) cs key rnv rns rpv rpr rgv rgr rav rag (.slice ra kr rc) rows W (HCz.out.mono hz hz.size) (PN.out.mono hw hw.size) (ints_on PP.out hw hw.size) (ints_on PG.out hw hw.size) (PA.out.mono hw hw.size) (HR3.out.mono hb hb.size) PL.out : Calls Tryz.prog 11 #[.agg #[.slice ca nn cc, .int .i64 key], .agg #[rnv, rpv, rgv, rav], .slice ra kr rc] W fun e w' => e = .returned (.bool true) ∧ Below W.heap.size W w'))
  have A3 := Lib.hid (fun (W : World) (hb : Below w3.heap.size w3 W) => (by have hz := Below.to b3 hb; have hw := Below.to BW.out hb; exact agrees26_any (.slice ca nn cc) cs key (.slice na qn nc) ns (.slice pa qp pc) pr (.slice ga qg gc) gr (.slice aa qa ac) ag rrv rrows W (HCz.out.mono hz hz.size) (HNz.out.mono hz hz.size) (ints_on HPz.out hz hz.size) (ints_on HGz.out hz hz.size) (HAz.out.mono hz hz.size) (PR.out.mono hw hw.size) (fun d hd => Nat.le_trans (HL2.out d hd) (by decide)) : Calls Tryz.prog 11 #[.agg #[.slice ca nn cc, .int .i64 key], .agg #[.slice na qn nc, .slice pa qp pc, .slice ga qg gc, .slice aa qa ac], rrv] W fun e w' => e = .returned (.bool true) ∧ Below W.heap.size W w'))
  have bw := BW.out
  clear AG PN PP PG PA PR PL HNz HPz HGz HAz HCz K2 BZ HR3 HL2 SP HS b3 HB3 BW c0 c1 c2 c3 c4 c5 c6 c7 c8 c9 c10 c11 cSB0 cQB0 cSB cQB
  go_wp2_with (first
    | (go_at_call 10; with_reducible refine Calls.mono (awake26 _) ?_; (rintro e w4 ⟨rfl, hb4⟩; obtain ⟨x4, rfl⟩ := Ext.of hb4; have eSB0 := x4.lt dSB0; have eQB0 := x4.lt dQB0; have eSB := x4.lt dSB; have eQB := x4.lt dQB))
    | (go_at_call 11; with_reducible refine Calls.mono (A0.out _ (by repeat (first | with_reducible exact Below.refl _ _ | with_reducible assumption | with_reducible refine Below.al ?_ _ | with_reducible refine Below.on ?_ _ | with_reducible refine Below.st ?_ (by first | assumption | (simp; done) | (simp; omega)) _ | with_reducible refine Below.drew ?_))) ?_; (rintro e w5 ⟨rfl, hb5⟩; obtain ⟨x5, rfl⟩ := Ext.of hb5; have fSB0 := x5.lt eSB0; have fQB0 := x5.lt eQB0; have fSB := x5.lt eSB; have fQB := x5.lt eQB))
    | (go_at_call 11; with_reducible refine Calls.mono (A1.out _ (by repeat (first | with_reducible exact Below.refl _ _ | with_reducible assumption | with_reducible refine Below.al ?_ _ | with_reducible refine Below.on ?_ _ | with_reducible refine Below.st ?_ (by first | assumption | (simp; done) | (simp; omega)) _ | with_reducible refine Below.drew ?_))) ?_; (rintro e w6 ⟨rfl, hb6⟩; obtain ⟨x6, rfl⟩ := Ext.of hb6; have gSB0 := x6.lt fSB0; have gQB0 := x6.lt fQB0; have gSB := x6.lt fSB; have gQB := x6.lt fQB))
    | (go_at_call 11; with_reducible refine Calls.mono (A2.out _ (by repeat (first | with_reducible exact Below.refl _ _ | with_reducible assumption | with_reducible refine Below.al ?_ _ | with_reducible refine Below.on ?_ _ | with_reducible refine Below.st ?_ (by first | assumption | (simp; done) | (simp; omega)) _ | with_reducible refine Below.drew ?_))) ?_; (rintro e w7 ⟨rfl, hb7⟩; obtain ⟨x7, rfl⟩ := Ext.of hb7; have hSB0 := x7.lt gSB0; have hQB0 := x7.lt gQB0; have hSB := x7.lt gSB; have hQB := x7.lt gQB))
    | (go_at_call 11; with_reducible refine Calls.mono (A3.out _ (by repeat (first | with_reducible exact Below.refl _ _ | with_reducible assumption | with_reducible refine Below.al ?_ _ | with_reducible refine Below.on ?_ _ | with_reducible refine Below.st ?_ (by first | assumption | (simp; done) | (simp; omega)) _ | with_reducible refine Below.drew ?_))) ?_; (rintro e w8 ⟨rfl, hb8⟩; obtain ⟨x8, rfl⟩ := Ext.of hb8; have kSB0 := x8.lt hSB0; have kQB0 := x8.lt hQB0; have kSB := x8.lt hSB; have kQB := x8.lt hQB)))
  exact bodyPost_ret (v := .bool true) (by simp [results, Tryz.results3, go_sem, *]) rfl (⟨rfl, by repeat (first | with_reducible exact Below.refl _ _ | with_reducible assumption | with_reducible refine Below.al ?_ _ | with_reducible refine Below.on ?_ _ | with_reducible refine Below.st ?_ (by first | assumption | (simp; done) | (simp; omega)) _ | with_reducible refine Below.drew ?_)⟩)
end Go.Proofs.YtpahoenanfjhpaaGreat
