/-
  PRUNEISSOUND: the walk. Conditions: none.
-/
import Derived.Test.YtfemekmkmiljdaaPso
import Derived.Test.YtfemekmkmiljdaaOps
import Derived.Test.YtfemekmkmiljdaaCkr
set_option linter.unusedVariables false
set_option linter.unusedSimpArgs false
namespace Go.Proofs.Ytfemekmkmiljdaa
open Go.RowKit Go.ChangeShapes Go.WideShapes Go.ChangeAt
set_option maxRecDepth 8000 in
set_option maxHeartbeats 2000000 in
theorem piw_walk (vx vl vm : Value) (zx zl zm : List Int) (w : World) (h0 : IntsAt w w.heap.size vx zx) (h1 : IntsAt w w.heap.size vl zl) (h2 : IntsAt w w.heap.size vm zm) :
    Calls Try.prog 7 #[vx, vl, vm] w fun e w' => e = .returned (.bool true) ∧ Below w.heap.size w w' := by
  have H0 := Lib.hid h0
  have H1 := Lib.hid h1
  have H2 := Lib.hid h2
  clear h0 h1 h2
  go_enter Try.func7, Try.ntmps7
  go_upto_region 2 with (go_at_call 14; refine (keepSchema_any _ _ _ H0.out).mono ?_; rintro e w1 ⟨cv, cs, key, rfl, hc1, hs1, hl1, hb1⟩; obtain ⟨x1, rfl⟩ := Ext.of hb1; obtain ⟨ca, cc, rfl⟩ := cols_end hc1; obtain ⟨nn, hnn⟩ : ∃ nn, cs.length = nn := ⟨_, rfl⟩; rw [hnn] at hc1 hl1 ⊢; have HNN := Lib.hid hnn; clear hnn)
  refine captureM ?_
  intro y ey
  have yb1 : Below x1.it.heap.size x1.it y := by rw [ey]; exact (by repeat (first | with_reducible exact Below.refl _ _ | with_reducible assumption | with_reducible refine Below.al ?_ _ | with_reducible refine Below.on ?_ _ | with_reducible refine Below.st ?_ (by first | assumption | (simp; done) | (simp; omega)) _ | with_reducible refine Below.drew ?_))
  have yb : Below w.heap.size w y := by rw [ey]; exact (by repeat (first | with_reducible exact Below.refl _ _ | with_reducible assumption | with_reducible refine Below.al ?_ _ | with_reducible refine Below.on ?_ _ | with_reducible refine Below.st ?_ (by first | assumption | (simp; done) | (simp; omega)) _ | with_reducible refine Below.drew ?_))
  have z0 : x1.it.heap.size < y.heap.size := by rw [ey]; simp
  have s0 : y.cell? ⟨x1.it.heap.size, 0, none⟩ = some (.slice ca nn cc) := by rw [ey]; simp (maxDischargeDepth := 9) [go_sem, *]
  have s1 : y.cell? ⟨x1.it.heap.size, 1, none⟩ = some (.int .i64 key) := by rw [ey]; simp (maxDischargeDepth := 9) [go_sem, *]
  have HC := Lib.hid (hc1.mono yb1 yb1.size)
  have HS := Lib.hid hs1
  have I1 := Lib.hid ((H1.out.to fun k hk => yb.block k hk).mono yb.size)
  have I2 := Lib.hid (H2.out)
  clear ey hc1 hs1 hb1 yb1 H0 H1 H2
  generalize x1.it.heap.size = SB at *
  clear x1
  go_upto_region 3 with (go_at_call 19; refine Calls.mono (kpred_any _ cs key vl zl _ HC.out I1.out HS.out) ?_; rintro e w2 ⟨pv, ns, rfl, hn2, hp2, hl2, hb2⟩; obtain ⟨pa, pc, rfl⟩ := nods_end hn2; obtain ⟨np, hnp⟩ : ∃ np, ns.length = np := ⟨_, rfl⟩; rw [hnp] at hn2 hl2 ⊢; have HN2 := Lib.hid hn2; have HP2 := Lib.hid hp2; have HB2 := Lib.hid hb2; have HNP := Lib.hid hnp; have t0 := (hb2.cell (p := ⟨SB, 0, none⟩) z0).trans s0; have t1 := (hb2.cell (p := ⟨SB, 1, none⟩) z0).trans s1; have z2 := Nat.lt_of_lt_of_le z0 hb2.size; clear hn2 hp2 hnp)
  have HC2 := Lib.hid (HC.out.mono HB2.out HB2.out.size)
  have yb2 : Below w.heap.size w w2 := yb.trans (HB2.out.mono yb.size)
  have J2 := Lib.hid ((I2.out.to fun k hk => yb2.block k hk).mono yb2.size)
  have SP := Lib.hid (schema_parts HS.out)
  clear s0 s1 z0 hb2 I1 I2
  go_upto_region 4 with (go_at_call 18; refine Calls.mono (rows_any _ cs key vm zm 7 _ HC2.out J2.out (by decide) (by decide) SP.out.1 SP.out.2.2.1) ?_; rintro e w3 ⟨rv, rows, rfl, hr3, hl3, hv3, hb3⟩; obtain ⟨ra, rc, rfl⟩ := rows_end hr3; obtain ⟨nr, hnr⟩ : ∃ nr, rows.length = nr := ⟨_, rfl⟩; rw [hnr] at hr3 hl3 ⊢; have HR3 := Lib.hid hr3; have HV3 := Lib.hid hv3; have HB3 := Lib.hid hb3; have HNR := Lib.hid hnr; have q0 := (hb3.cell (p := ⟨SB, 0, none⟩) z2).trans t0; have q1 := (hb3.cell (p := ⟨SB, 1, none⟩) z2).trans t1; have z3 := Nat.lt_of_lt_of_le z2 hb3.size; clear hr3 hv3 hnr hb3)
  have HC3 := Lib.hid (HC2.out.mono HB3.out HB3.out.size)
  have HN3 := Lib.hid (HN2.out.mono HB3.out HB3.out.size)
  have yb3 : Below w.heap.size w w3 := yb2.trans (HB3.out.mono yb2.size)
  have L4 : rows.length ≤ 4096 := by rw [HNR.out]; omega
  have ZV : zsE cs (zonsOf cs rows) = 0 := zs_ok SP.out.1 L4 HV3.out
  obtain ⟨ts, hts⟩ : ∃ ts, posS cs (zonsOf cs rows) ns = ts := ⟨_, rfl⟩
  have PF : posF cs key ns (zonsOf cs rows) = (ts.int, 0) := by unfold posF; rw [if_pos HP2.out, if_pos ZV, hts]
  have SND := Lib.hid (fun (row : List Val) (hr : row ∈ rows) => (by rw [← hts]; exact pos_sound (key := key) hr HP2.out : ts.has (evalF cs row ns) = true))
  have HPF := Lib.hid PF
  have ZL : Hid ((zonsOf cs rows).length = cs.length) := Lib.hid (by unfold zonsOf; rw [zonsK_len])
  have L4' := Lib.hid L4
  clear t0 t1 z2 yb yb2 HC HC2 HN2 HB2 HB3 J2 L4 ZV PF hts
  go_wp2_with fail
  go_region_held3 (fun w' => w'.cell? ⟨SB, 0, none⟩ = some (.slice ca nn cc) ∧ w'.cell? ⟨SB, 1, none⟩ = some (.int .i64 key)) (first | exact ⟨by assumption, by assumption⟩ | (refine ⟨?_, ?_⟩ <;> simp [go_sem, *]))
    (first | (go_at_call 17; refine Calls.mono (zones_any _ cs key _ rows _ (HC3.out.mono (by repeat (first | with_reducible exact Below.refl _ _ | with_reducible assumption | with_reducible refine Below.al ?_ _ | with_reducible refine Below.on ?_ _ | with_reducible refine Below.st ?_ (by first | assumption | (simp; done) | (simp; omega)) _ | with_reducible refine Below.drew ?_)) (by simp)) (HR3.out.mono (by repeat (first | with_reducible exact Below.refl _ _ | with_reducible assumption | with_reducible refine Below.al ?_ _ | with_reducible refine Below.on ?_ _ | with_reducible refine Below.st ?_ (by first | assumption | (simp; done) | (simp; omega)) _ | with_reducible refine Below.drew ?_)) (by simp)) SP.out.2.2.1 L4'.out (fun r hr => (HV3.out r hr).1)) ?_; rintro e w4 ⟨colv, rfl, ho4, hb4⟩; obtain ⟨x4, rfl⟩ := Ext.of hb4; have HR4 := Lib.hid (own_zons (zs := zonsOf cs rows) (by have := SP.out.2.2.1; rw [ZL.out]; omega) (by rw [ZL.out]; exact ho4)); clear ho4; have z4 : SB < x4.it.heap.size := x4.lt (by simpa using z3); have p0 : x4.it.cell? ⟨SB, 0, none⟩ = some (.slice ca nn cc) := (x4.cell SB 0 (by simpa using z3)).trans q0; have p1 : x4.it.cell? ⟨SB, 1, none⟩ = some (.int .i64 key) := (x4.cell SB 1 (by simpa using z3)).trans q1) | (go_at_call 10; refine Calls.mono (possible_any _ cs key _ ns _ (zonsOf cs rows) _ (HC3.out.mono (by repeat (first | with_reducible exact Below.refl _ _ | with_reducible assumption | with_reducible refine Below.al ?_ _ | with_reducible refine Below.on ?_ _ | with_reducible refine Below.st ?_ (by first | assumption | (simp; done) | (simp; omega)) _ | with_reducible refine Below.drew ?_)) (by simpa using x4.below.size)) (HN3.out.mono (by repeat (first | with_reducible exact Below.refl _ _ | with_reducible assumption | with_reducible refine Below.al ?_ _ | with_reducible refine Below.on ?_ _ | with_reducible refine Below.st ?_ (by first | assumption | (simp; done) | (simp; omega)) _ | with_reducible refine Below.drew ?_)) (by simpa using x4.below.size)) HR4.out) ?_; rw [HPF.out]; rintro e w5 ⟨rfl, hb5⟩; obtain ⟨x5, rfl⟩ := Ext.of hb5; have z5 : SB < x5.it.heap.size := x5.lt (by simpa using z4); have r0 : x5.it.cell? ⟨SB, 0, none⟩ = some (.slice ca nn cc) := (x5.cell SB 0 (by simpa using z4)).trans p0; have r1 : x5.it.cell? ⟨SB, 1, none⟩ = some (.int .i64 key) := (x5.cell SB 1 (by simpa using z4)).trans p1))
  have b35 : Below w3.heap.size w3 x5.it := by repeat (first | with_reducible exact Below.refl _ _ | with_reducible assumption | with_reducible refine Below.al ?_ _ | with_reducible refine Below.on ?_ _ | with_reducible refine Below.st ?_ (by first | assumption | (simp; done) | (simp; omega)) _ | with_reducible refine Below.drew ?_)
  have HC5 := Lib.hid (HC3.out.mono b35 b35.size)
  have HN5 := Lib.hid (HN3.out.mono b35 b35.size)
  have HR5 := Lib.hid (HR3.out.mono b35 b35.size)
  have B5 := Lib.hid (yb3.trans (b35.mono yb3.size))
  have nr9 : (nr : Int) ≤ 7 := hl3
  clear q0 q1 z3 z4 p0 p1 HR4 L4' HC3 HN3 HR3 b35 yb3
  go_wp2_with fail
  go_loopg [37] nr (fun g st wr => ∃ k : Nat, k + g = nr ∧ st = .int .i64 (k : Int) ∧ ∃ x : Ext x5.it, x.it = wr)
  case atStart => exact ⟨0, by omega, rfl, ⟨x5.it, Below.refl _ _⟩, rfl⟩
  case round =>
    obtain ⟨k, hk, rfl, x, rfl⟩ := hrel
    have hx := x.below
    have hxw : Below w.heap.size w x.it := B5.out.trans (hx.mono B5.out.size)
    by_cases hg0 : gk = 0
    · subst hg0
      obtain rfl : k = nr := by omega
      clear hk
      go_wp2_with (go_at_call 15; refine (awake24 _).mono ?_; rintro e w6 ⟨rfl, hb6⟩; obtain ⟨x6, rfl⟩ := Ext.of hb6)
      exact bodyPost_ret (v := .bool true) (by simp [results, Try.results7, go_sem, *]) rfl (⟨rfl, by repeat (first | with_reducible exact Below.refl _ _ | with_reducible assumption | with_reducible refine Below.al ?_ _ | with_reducible refine Below.on ?_ _ | with_reducible refine Below.st ?_ (by first | assumption | (simp; done) | (simp; omega)) _ | with_reducible refine Below.drew ?_)⟩)
    · have hkm : k < nr := by omega
      have hkm' : (k : Int) < (nr : Int) := by omega
      have hkl : k < rows.length := by rw [HNR.out]; exact hkm
      obtain ⟨rb, ro, rfl, _, hrb, lv, e0, hlv⟩ := rows_in HR5.out hkl
      have RV := HV3.out _ (List.getElem_mem hkl)
      have SH := SND.out _ (List.getElem_mem hkl)
      obtain ⟨row, hrow⟩ : ∃ row, rows[k]'hkl = row := ⟨_, rfl⟩
      rw [hrow] at hlv RV SH
      obtain ⟨la, lc, rfl⟩ := vals_end hlv
      have HLi := Lib.hid (hlv.mono hx hx.size)
      have HCi := Lib.hid (HC5.out.mono hx hx.size)
      have HNi := Lib.hid (HN5.out.mono hx hx.size)
      obtain ⟨tr, htr⟩ : ∃ tr, evalF cs row ns = tr := ⟨_, rfl⟩
      have T3 := eval_3 cs row ns
      have EP : evalP cs key ns row = (tr, 0) := by
        have e1 : rowE cs row = 0 := by unfold rowE; rw [if_pos RV.1]; exact rowEs_pre fun i h h' => RV.2 i h' h
        unfold evalP
        rw [if_pos HP2.out, if_pos e1, htr]
      have EV := Lib.hid (by have h := refEval_any _ cs key _ ns _ row x.it HCi.out HNi.out HLi.out; rw [EP] at h; exact h)
      rw [htr] at SH T3
      obtain ⟨t, rfl, ht3⟩ : ∃ t : Nat, tr = (t : Int) ∧ t < 3 := by
        rcases T3 with q | q | q
        · exact ⟨0, q, by decide⟩
        · exact ⟨1, q, by decide⟩
        · exact ⟨2, q, by decide⟩
      have AN : bits .and .i64 (ts.int / 2 ^ t) 1 = 1 := by rw [ts_shr ts ht3, if_pos SH]
      have g0 := (hx.cell (p := ⟨SB, 0, none⟩) z5).trans r0
      have g1 := (hx.cell (p := ⟨SB, 1, none⟩) z5).trans r1
      have ge := (hx.cell (p := ⟨rb, ro + k, none⟩) hrb).trans e0
      have zs : SB < x.it.heap.size := Nat.lt_of_lt_of_le z5 hx.size
      have zr : rb < x.it.heap.size := Nat.lt_of_lt_of_le hrb hx.size
      have HK := Lib.hid (And.intro hk hg0)
      clear hk hg0 e0 hlv hrow RV htr EP r0 r1 HLi HCi HNi SH T3
      go_wp2_with (go_at_call 21; refine Calls.mono EV.out ?_; rintro e w6 ⟨rfl, hb6⟩; obtain ⟨x6, rfl⟩ := Ext.of hb6)
      go_roundg (gk - 1)
      case measure => have := HK.out; omega
      case rel => exact ⟨k + 1, by have := HK.out; omega, by go_num, ⟨x6.it, Below.on hx x6⟩, rfl⟩
end Go.Proofs.Ytfemekmkmiljdaa
