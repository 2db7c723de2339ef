/-
  INTERVALISSOUND: the walk and the statement. Conditions: none.
-/
import Derived.Test.YtjojnakgadfgmaaSnd
import Derived.Test.YtjojnakgadfgmaaKsc
import Derived.Test.YtjojnakgadfgmaaKpr
import Derived.Test.YtjojnakgadfgmaaIntA
import Derived.Test.YtjojnakgadfgmaaOpn
set_option linter.unusedVariables false
set_option linter.unusedSimpArgs false
namespace Go.Proofs.Ytjojnakgadfgmaa
open Go.RowKit Go.ChangeShapes Go.WideShapes Go.ChangeAt
set_option maxRecDepth 8000 in
set_option maxHeartbeats 4000000 in
theorem isd_walk (vx vl vm : Value) (zx zl zm : List Int) (w : World) (h0 : IntsAt w w.heap.size vx zx) (h1 : IntsAt w w.heap.size vl zl) (h2 : IntsAt w w.heap.size vm zm) :
    Calls Try.prog 9 #[vx, vl, vm] w fun e w' => e = .returned (.bool true) ∧ Below w.heap.size w w' := by
  have H0 := Lib.hid h0
  have H1 := Lib.hid h1
  have H2 := Lib.hid h2
  clear h0 h1 h2
  go_enter Try.func9, Try.ntmps9
  go_upto_region 2 with (go_at_call 26; refine (keepSchema_any _ _ _ H0.out).mono ?_; rintro e w1 ⟨cv, cs, key, rfl, hc1, hs1, hl1, hb1⟩; obtain ⟨x1, rfl⟩ := Ext.of hb1; obtain ⟨ca, cc, rfl⟩ := cols_end hc1; obtain ⟨nn, hnn⟩ : ∃ nn, cs.length = nn := ⟨_, rfl⟩; rw [hnn] at hc1 hl1 ⊢; have HNN := Lib.hid hnn; clear hnn)
  refine captureM ?_
  intro y ey
  have yb1 : Below x1.it.heap.size x1.it y := by rw [ey]; exact (by repeat (first | with_reducible exact Below.refl _ _ | with_reducible assumption | with_reducible refine Below.al ?_ _ | with_reducible refine Below.on ?_ _ | with_reducible refine Below.st ?_ (by first | assumption | (simp; done) | (simp; omega)) _ | with_reducible refine Below.drew ?_))
  have yb : Below w.heap.size w y := by rw [ey]; exact (by repeat (first | with_reducible exact Below.refl _ _ | with_reducible assumption | with_reducible refine Below.al ?_ _ | with_reducible refine Below.on ?_ _ | with_reducible refine Below.st ?_ (by first | assumption | (simp; done) | (simp; omega)) _ | with_reducible refine Below.drew ?_))
  have z0 : x1.it.heap.size < y.heap.size := by rw [ey]; simp
  have s0 : y.cell? ⟨x1.it.heap.size, 0, none⟩ = some (.slice ca nn cc) := by rw [ey]; simp (maxDischargeDepth := 9) [go_sem, *]
  have s1 : y.cell? ⟨x1.it.heap.size, 1, none⟩ = some (.int .i64 key) := by rw [ey]; simp (maxDischargeDepth := 9) [go_sem, *]
  have HC := Lib.hid (hc1.mono yb1 yb1.size)
  have HS := Lib.hid hs1
  have I1 := Lib.hid ((H1.out.to fun k hk => yb.block k hk).mono yb.size)
  have I2 := Lib.hid (H2.out)
  clear ey hc1 hs1 hb1 yb1 H0 H1 H2
  generalize x1.it.heap.size = SB at *
  clear x1
  go_upto_region 3 with (go_at_call 27; refine Calls.mono (kpred_any _ cs key vl zl _ HC.out I1.out HS.out) ?_; rintro e w2 ⟨pv, ns, rfl, hn2, hp2, hl2, hb2⟩; obtain ⟨pa, pc, rfl⟩ := nods_end hn2; obtain ⟨np, hnp⟩ : ∃ np, ns.length = np := ⟨_, rfl⟩; rw [hnp] at hn2 hl2 ⊢; have HN2 := Lib.hid hn2; have HP2 := Lib.hid hp2; have HB2 := Lib.hid hb2; have HNP := Lib.hid hnp; have t0 := (hb2.cell (p := ⟨SB, 0, none⟩) z0).trans s0; have t1 := (hb2.cell (p := ⟨SB, 1, none⟩) z0).trans s1; have z2 := Nat.lt_of_lt_of_le z0 hb2.size; clear hn2 hp2 hnp)
  have HC2 := Lib.hid (HC.out.mono HB2.out HB2.out.size)
  have yb2 : Below w.heap.size w w2 := yb.trans (HB2.out.mono yb.size)
  have J2 := Lib.hid ((I2.out.to fun k hk => yb2.block k hk).mono yb2.size)
  have SP := Lib.hid (schema_parts HS.out)
  clear s0 s1 z0 hb2 I1 I2
  go_upto_region 4 with (go_at_call 30; refine Calls.mono (rows_any _ cs key vm zm 8 _ HC2.out J2.out (by decide) (by decide) SP.out.1 SP.out.2.2.1) ?_; rintro e w3 ⟨rv, rows, rfl, hr3, hl3, hv3, hb3⟩; obtain ⟨ra, rc, rfl⟩ := rows_end hr3; obtain ⟨nr, hnr⟩ : ∃ nr, rows.length = nr := ⟨_, rfl⟩; rw [hnr] at hr3 hl3 ⊢; have HR3 := Lib.hid hr3; have HV3 := Lib.hid hv3; have HB3 := Lib.hid hb3; have HNR := Lib.hid hnr; have q0 := (hb3.cell (p := ⟨SB, 0, none⟩) z2).trans t0; have q1 := (hb3.cell (p := ⟨SB, 1, none⟩) z2).trans t1; have z3 := Nat.lt_of_lt_of_le z2 hb3.size; clear hr3 hv3 hnr hb3)
  have HC3 := Lib.hid (HC2.out.mono HB3.out HB3.out.size)
  have HN3 := Lib.hid (HN2.out.mono HB3.out HB3.out.size)
  have yb3 : Below w.heap.size w w3 := yb2.trans (HB3.out.mono yb2.size)
  clear t0 t1 z2 yb yb2 HC HC2 HN2 HB2 HB3 J2
  go_wp2_with fail
  go_loopg [29] nn (fun g st wr => ∃ k : Nat, k + g = nn ∧ st = .int .i64 (k : Int) ∧ ∃ x : Ext w3, x.it = wr)
  case atStart => exact ⟨0, by omega, rfl, ⟨w3, Below.refl _ _⟩, rfl⟩
  case round =>
    obtain ⟨k, hk, rfl, x, rfl⟩ := hrel
    obtain ⟨og, rfl⟩ : ∃ og, og = gk := ⟨_, rfl⟩
    have hx := x.below
    have hxw : Below w.heap.size w x.it := yb3.trans (hx.mono yb3.size)
    by_cases hg0 : og = 0
    · subst hg0
      obtain rfl : k = nn := by omega
      clear hk
      go_wp2_with (go_at_call 15; refine (awake_any _).mono ?_; rintro e w6 ⟨rfl, hb6⟩; obtain ⟨x6, rfl⟩ := Ext.of hb6)
      exact bodyPost_ret (v := .bool true) (by simp [results, Try.results9, go_sem, *]) rfl (⟨rfl, by repeat (first | with_reducible exact Below.refl _ _ | with_reducible assumption | with_reducible refine Below.al ?_ _ | with_reducible refine Below.on ?_ _ | with_reducible refine Below.st ?_ (by first | assumption | (simp; done) | (simp; omega)) _ | with_reducible refine Below.drew ?_)⟩)
    · have hkm : k < nn := by omega
      have hkm' : (k : Int) < (nn : Int) := by omega
      have hkl : k < cs.length := by rw [HNN.out]; exact hkm
      obtain ⟨cb, co, rfl, _, hcb, c0, c1, c2, c3⟩ := cols_in HC3.out hkl
      obtain ⟨⟨b0, b1, b2, b3, ⟨b4, b5, b6⟩, ⟨b7, b8, b9⟩⟩, hB⟩ : ∃ B, outG (cs[k]'hkl).ty k ns = B := ⟨_, rfl⟩
      have SND := Lib.hid (fun row : List Val => of_sound (row := row) HP2.out hkl)
      have CKF : checkF (cs[k]'hkl).ty ⟨b0, b1, b2, b3, ⟨b4, b5, b6⟩, ⟨b7, b8, b9⟩⟩ = true := by have := (SND.out []).1; rw [hB] at this; exact this
      obtain ⟨ty, hty⟩ : ∃ ty, (cs[k]'hkl).ty = ty := ⟨_, rfl⟩
      rw [hty] at c1 CKF
      obtain ⟨cn, hcn⟩ : ∃ cn, (cs[k]'hkl).nm = cn := ⟨_, rfl⟩
      obtain ⟨sc, hsc⟩ : ∃ sc, (cs[k]'hkl).sc = sc := ⟨_, rfl⟩
      obtain ⟨nul, hnul⟩ : ∃ nul, (cs[k]'hkl).nul = nul := ⟨_, rfl⟩
      rw [hcn] at c0
      rw [hsc] at c2
      rw [hnul] at c3
      have CK := Lib.hid (fun W => (by have h := check_any ty b0 b1 b2 b3 b4 b5 b6 b7 b8 b9 W; rw [CKF] at h; exact h : Calls Try.prog 16 #[.int .i64 ty, .agg #[.bool b0, .bool b1, .bool b2, .bool b3, .bool b4, .int .i64 b5, .string b6, .bool b7, .int .i64 b8, .string b9]] W fun e w' => e = .returned (.bool true) ∧ Below W.heap.size W w'))
      have HB := Lib.hid hB
      have HTY := Lib.hid hty
      have HK := Lib.hid (And.intro hk hg0)
      have f0 := (hx.cell (p := ⟨cb, co + k * 4, none⟩) hcb).trans c0
      have f1 := (hx.cell (p := ⟨cb, co + k * 4 + 1, none⟩) hcb).trans c1
      have f2 := (hx.cell (p := ⟨cb, co + k * 4 + 2, none⟩) hcb).trans c2
      have f3 := (hx.cell (p := ⟨cb, co + k * 4 + 3, none⟩) hcb).trans c3
      have g0 := (hx.cell (p := ⟨SB, 0, none⟩) z3).trans q0
      have g1 := (hx.cell (p := ⟨SB, 1, none⟩) z3).trans q1
      have zc : cb < x.it.heap.size := Nat.lt_of_lt_of_le hcb hx.size
      have zs : SB < x.it.heap.size := Nat.lt_of_lt_of_le z3 hx.size
      clear c0 c1 c2 c3 hB hty hcn hsc hnul CKF hk hg0
      go_upto_region 7 with fail
      refine captureM ?_
      intro v ev
      have vb : Below x.it.heap.size x.it v := by rw [ev]; exact (by repeat (first | with_reducible exact Below.refl _ _ | with_reducible assumption | with_reducible refine Below.al ?_ _ | with_reducible refine Below.on ?_ _ | with_reducible refine Below.st ?_ (by first | assumption | (simp; done) | (simp; omega)) _ | with_reducible refine Below.drew ?_))
      have vbw : Below w.heap.size w v := by rw [ev]; exact (by repeat (first | with_reducible exact Below.refl _ _ | with_reducible assumption | with_reducible refine Below.al ?_ _ | with_reducible refine Below.on ?_ _ | with_reducible refine Below.st ?_ (by first | assumption | (simp; done) | (simp; omega)) _ | with_reducible refine Below.drew ?_))
      have vs0 : v.cell? ⟨SB, 0, none⟩ = some (.slice (some ⟨cb, co, none⟩) nn cc) := (vb.cell (p := ⟨SB, 0, none⟩) zs).trans g0
      have vs1 : v.cell? ⟨SB, 1, none⟩ = some (.int .i64 key) := (vb.cell (p := ⟨SB, 1, none⟩) zs).trans g1
      have vt : v.cell? ⟨x.it.heap.size, 1, none⟩ = some (.int .i64 ty) := by rw [ev]; simp (maxDischargeDepth := 9) [go_sem, *]
      have vz : x.it.heap.size < v.heap.size := by rw [ev]; simp
      have vzs : SB < v.heap.size := by omega
      have v3 : Below w3.heap.size w3 v := hx.trans (vb.mono hx.size)
      have HCv := Lib.hid (HC3.out.mono v3 v3.size)
      have HNv := Lib.hid (HN3.out.mono v3 v3.size)
      have OF := Lib.hid (by have h := ofG_ok (.slice (some ⟨cb, co, none⟩) nn cc) cs key (.slice pa np pc) ns k v HCv.out HNv.out HP2.out hkl; rw [HB.out] at h; exact h)
      clear ev f0 f1 f2 f3 g0 g1 zs
      generalize x.it.heap.size = CB at *
      go_upto_region 8 with (go_at_call 24; refine Calls.mono OF.out ?_; rintro e w4 ⟨rfl, hb4⟩; have hb4' := Lib.hid hb4; obtain ⟨x4, rfl⟩ := Ext.of hb4; dsimp only [bndC])
      have r0 := (x4.cell SB 0 vzs).trans vs0
      have r1 := (x4.cell SB 1 vzs).trans vs1
      have r2 := (x4.cell CB 1 vz).trans vt
      have r3 := x4.lt vzs
      have r4 := x4.lt vz
      refine captureM ?_
      intro u eu
      have ub : Below v.heap.size v u := by rw [eu]; exact (by repeat (first | with_reducible exact Below.refl _ _ | with_reducible assumption | with_reducible refine Below.al ?_ _ | with_reducible refine Below.on ?_ _ | with_reducible refine Below.st ?_ (by first | assumption | (simp; done) | (simp; omega)) _ | with_reducible refine Below.drew ?_))
      have ubw : Below w.heap.size w u := vbw.trans (ub.mono vbw.size)
      have us0 : u.cell? ⟨SB, 0, none⟩ = some (.slice (some ⟨cb, co, none⟩) nn cc) := by rw [eu]; simp (maxDischargeDepth := 9) [go_sem, *]
      have us1 : u.cell? ⟨SB, 1, none⟩ = some (.int .i64 key) := by rw [eu]; simp (maxDischargeDepth := 9) [go_sem, *]
      have ut : u.cell? ⟨CB, 1, none⟩ = some (.int .i64 ty) := by rw [eu]; simp (maxDischargeDepth := 9) [go_sem, *]
      have m0 : u.cell? ⟨x4.it.heap.size, 0, none⟩ = some (.bool b0) := by rw [eu]; simp (maxDischargeDepth := 9) [go_sem]
      have m1 : u.cell? ⟨x4.it.heap.size, 1, none⟩ = some (.bool b1) := by rw [eu]; simp (maxDischargeDepth := 9) [go_sem]
      have m2 : u.cell? ⟨x4.it.heap.size, 2, none⟩ = some (.bool b2) := by rw [eu]; simp (maxDischargeDepth := 9) [go_sem]
      have m3 : u.cell? ⟨x4.it.heap.size, 3, none⟩ = some (.bool b3) := by rw [eu]; simp (maxDischargeDepth := 9) [go_sem]
      have m4 : u.cell? ⟨x4.it.heap.size, 4, none⟩ = some (.bool b4) := by rw [eu]; simp (maxDischargeDepth := 9) [go_sem]
      have m5 : u.cell? ⟨x4.it.heap.size, 5, none⟩ = some (.int .i64 b5) := by rw [eu]; simp (maxDischargeDepth := 9) [go_sem]
      have m6 : u.cell? ⟨x4.it.heap.size, 6, none⟩ = some (.string b6) := by rw [eu]; simp (maxDischargeDepth := 9) [go_sem]
      have m7 : u.cell? ⟨x4.it.heap.size, 7, none⟩ = some (.bool b7) := by rw [eu]; simp (maxDischargeDepth := 9) [go_sem]
      have m8 : u.cell? ⟨x4.it.heap.size, 8, none⟩ = some (.int .i64 b8) := by rw [eu]; simp (maxDischargeDepth := 9) [go_sem]
      have m9 : u.cell? ⟨x4.it.heap.size, 9, none⟩ = some (.string b9) := by rw [eu]; simp (maxDischargeDepth := 9) [go_sem]
      have uz : x4.it.heap.size < u.heap.size := by rw [eu]; simp
      have uzs : SB < u.heap.size := by omega
      have uzc : CB < u.heap.size := by omega
      have u3 : Below w3.heap.size w3 u := v3.trans (ub.mono v3.size)
      have HCu := Lib.hid (HC3.out.mono u3 u3.size)
      have HNu := Lib.hid (HN3.out.mono u3 u3.size)
      have HRu := Lib.hid (HR3.out.mono u3 u3.size)
      have U3 := Lib.hid u3
      clear eu r0 r1 r2 r3 r4 vs0 vs1 vt vz vzs OF HCv HNv v3 vb vbw ub hb4
      generalize x4.it.heap.size = BB at *
      go_upto_region 10 with (go_at_call 16; refine Calls.mono (CK.out _) ?_; rintro e w5 ⟨rfl, hb5⟩; obtain ⟨x5, rfl⟩ := Ext.of hb5)
      have zz0 := x5.lt uzs
      have zz1 := x5.lt uzc
      have zz2 := x5.lt uz
      go_wp2_with fail
      go_loopg [52] nr (fun g st wr => ∃ j : Nat, j + g = nr ∧ st = .int .i64 (j : Int) ∧ ∃ xi : Ext u, xi.it = wr)
      case atStart => exact ⟨0, by omega, rfl, x5, rfl⟩
      case round =>
        obtain ⟨j, hj, rfl, xi, rfl⟩ := hrel
        clear zz0 zz1 zz2
        have hxi := xi.below
        by_cases hgi : gk = 0
        · subst hgi
          obtain rfl : j = nr := by omega
          clear hj
          go_wp2_with fail
          go_roundg (og - 1)
          case measure => have := HK.out; omega
          case rel => exact ⟨k + 1, by have := HK.out; omega, by go_num, ⟨xi.it, U3.out.trans (hxi.mono U3.out.size)⟩, rfl⟩
        · have hjm : j < nr := by omega
          have hjm' : (j : Int) < (nr : Int) := by omega
          have hjl : j < rows.length := by rw [HNR.out]; exact hjm
          obtain ⟨rb, ro, rfl, _, hrb, lv, e0, hlv⟩ := rows_in HRu.out hjl
          have RV := HV3.out _ (List.getElem_mem hjl)
          obtain ⟨row, hrow⟩ : ∃ row, rows[j]'hjl = row := ⟨_, rfl⟩
          rw [hrow] at hlv RV
          obtain ⟨la, lc, rfl⟩ := vals_end hlv
          rw [RV.1, HNN.out] at hlv e0
          have HLi := Lib.hid (hlv.mono hxi hxi.size)
          have HCi := Lib.hid (HCu.out.mono hxi hxi.size)
          have HNi := Lib.hid (HNu.out.mono hxi hxi.size)
          have hkr : k < row.length := by rw [RV.1]; exact hkl
          obtain ⟨tb, to', rfl, _, htb, d0, d1, d2⟩ := vals_in HLi.out hkr
          obtain ⟨uu, huu⟩ : ∃ uu, row[k]'hkr = uu := ⟨_, rfl⟩
          have HUU := Lib.hid huu
          rw [huu] at d0 d1 d2
          obtain ⟨un, ui, us⟩ := uu
          dsimp only at d0 d1 d2
          obtain ⟨tr, htr⟩ : ∃ tr, evalF cs row ns = tr := ⟨_, rfl⟩
          have EP : evalP cs key ns row = (tr, 0) := by
            have e1 : rowE cs row = 0 := by unfold rowE; rw [if_pos RV.1]; exact rowEs_pre fun i h h' => RV.2 i h' h
            unfold evalP
            rw [if_pos HP2.out, if_pos e1, htr]
          have EV := Lib.hid (by have h := refEval_any _ cs key _ ns _ row xi.it HCi.out HNi.out HLi.out; rw [EP] at h; exact h)
          have g0 := (xi.cell SB 0 uzs).trans us0
          have g1 := (xi.cell SB 1 uzs).trans us1
          have gt := (xi.cell CB 1 uzc).trans ut
          have ge := (xi.cell rb (ro + j) hrb).trans e0
          have zr := xi.lt hrb
          have zs := xi.lt uzs
          have zc' := xi.lt uzc
          have zB := xi.lt uz
          have n0 := (xi.cell BB 0 uz).trans m0
          have n1 := (xi.cell BB 1 uz).trans m1
          have n2 := (xi.cell BB 2 uz).trans m2
          have n3 := (xi.cell BB 3 uz).trans m3
          have n4 := (xi.cell BB 4 uz).trans m4
          have n5 := (xi.cell BB 5 uz).trans m5
          have n6 := (xi.cell BB 6 uz).trans m6
          have n7 := (xi.cell BB 7 uz).trans m7
          have n8 := (xi.cell BB 8 uz).trans m8
          have n9 := (xi.cell BB 9 uz).trans m9
          have TF : tr = 1 → touchF ty ⟨b0, b1, b2, b3, ⟨b4, b5, b6⟩, ⟨b7, b8, b9⟩⟩ ⟨un, ui, us⟩ ⟨un, ui, us⟩ = true := fun q => by
            have h := (SND.out row).2 (by rw [htr]; exact q)
            rw [HB.out, HTY.out] at h
            have e2 : row.getD k Val.zero = ⟨un, ui, us⟩ := by rw [getD_in hkr]; exact HUU.out
            rw [e2] at h
            exact h
          have HJ := Lib.hid (And.intro hj hgi)
          have TFH := Lib.hid TF
          clear TF hj hgi e0 hlv hrow RV huu htr EP
          go_upto_region 13 with fail
          go_upto_region 14 with (go_at_call 31; refine Calls.mono EV.out ?_; rintro e w6 ⟨rfl, hb6⟩; obtain ⟨x6, rfl⟩ := Ext.of hb6)
          have c0 := x6.lt zs
          have c1 := x6.lt zc'
          have c2 := x6.lt zB
          have c3 := x6.lt htb
          by_cases t1 : tr = 1
          · subst t1
            have HE := Lib.hid (fun W => has_eq (w := W) (TFH.out rfl))
            refine wp_region_ext (by kernel_rfl) (by kernel_rfl) ?_
            repeat (go_big_quiet_step (((go_at_call 18; exact Calls.ext (HE.out _)))))
            refine wpQuiet_nil ?_
            rintro _ ⟨x7, rfl⟩
            go_wp2_with fail
            go_roundg (gk - 1)
            case measure => have := HJ.out; omega
            case rel => exact ⟨j + 1, by have := HJ.out; omega, by go_num, ⟨x7.it, Below.on (Below.on hxi x6) x7⟩, rfl⟩
          · have t1' : (tr == 1) = false := by simpa using t1
            refine wp_region_ext (by kernel_rfl) (by kernel_rfl) ?_
            repeat (go_big_quiet_step ((fail)))
            refine wpQuiet_nil ?_
            rintro _ ⟨x7, rfl⟩
            go_wp2_with fail
            go_roundg (gk - 1)
            case measure => have := HJ.out; omega
            case rel => exact ⟨j + 1, by have := HJ.out; omega, by go_num, ⟨x7.it, Below.on (Below.on hxi x6) x7⟩, rfl⟩
set_option maxRecDepth 100000 in
theorem intervalIsSound_lifted (os : Os) (started : os.Started) (H : Type) (enc : TypeId × Value → H) :
    ReturnsInHanded {} Try.checked os 9 .any (Rows.intervalIsSoundSpec.pre6 enc Try.prog Try.f9 Rows.intervalIsSoundRow.domain false) (Rows.intervalIsSoundSpec.post enc Try.prog Try.f9 false true false false) := by
  refine lifted_of_walk (C := Try.checked) (tb := 4) own started (by kernel_rfl) Try.func9
    (ChangeSpec.witness6 (enc := enc) (C := Try.checked) false ⟨#[], #[.slice none 0 0, .slice none 0 0, .slice none 0 0], []⟩ 8 (by kernel_rfl) (by kernel_rfl) (by kernel_rfl) (by kernel_rfl))
    laid (params_ok (by kernel_rfl)) (by kernel_rfl) Try.underlying4 rfl
    (fun ds hds => by match ds, hds with | [d0, d1, d2], _ => exact ⟨rfl, rfl, rfl⟩) ?_
  intro W base args ds ps hval0 hA0
  have hval : ∀ (j : Nat) t v, Try.f9.params[j]? = some t → args[j]? = some v → Value.okWide Try.prog W .any base t v := hval0
  have hA : DataW.TrodAll enc Try.prog W 0 (fun _ => true) true Try.f9.params.toList args.toList ds ps := hA0
  rw [Try.params9] at hA hval
  obtain ⟨v0, vs0, d0, ds0, p0, q0, hargs, rfl, rfl, h0, r0⟩ := trodAll_cons hA
  obtain ⟨v1, vs1, d1, ds1, p1, q1, rfl, rfl, rfl, h1, r1⟩ := trodAll_cons r0
  obtain ⟨v2, vs2, d2, ds2, p2, q2, rfl, rfl, rfl, h2, r2⟩ := trodAll_cons r1
  obtain ⟨rfl, rfl, rfl⟩ := trodAll_nil r2
  obtain rfl : args = #[v0, v1, v2] := by cases args; simp_all
  obtain ⟨l0, y0⟩ := open_intsv Try.underlying26 Try.underlying3 cells3 (hval 0 _ v0 rfl rfl) h0
  obtain ⟨l1, y1⟩ := open_intsv Try.underlying26 Try.underlying3 cells3 (hval 1 _ v1 rfl rfl) h1
  obtain ⟨l2, y2⟩ := open_intsv Try.underlying26 Try.underlying3 cells3 (hval 2 _ v2 rfl rfl) h2
  exact isd_walk _ _ _ _ _ _ _ y0 y1 y2

theorem intervalIsSound_holds : Rows.IntervalIsSoundSaid :=
  OpenClaim.holds_of_wide 9 Try.f9 rfl rfl rfl rfl rfl rfl rfl ⟨rfl, rfl, rfl, rfl, rfl⟩ rfl rfl rfl rfl rfl (by kernel_rfl) Try.func9 (by kernel_rfl)
    (of_decide_eq_true (by kernel_rfl)) (by unfold Func.isWrapper; first | (rw [if_pos (by decide +kernel)]; kernel_rfl) | (rw [if_neg (by decide +kernel)]; exact ⟨rfl, rfl⟩))
    (fun os started H enc _ => intervalIsSound_lifted os started H enc)
#print axioms intervalIsSound_holds
end Go.Proofs.Ytjojnakgadfgmaa
