/-
  PRUNENEVER: the walk. Conditions: none.
-/
import Derived.Test.YtfemekmkmiljdaaPso
import Derived.Test.YtfemekmkmiljdaaOps
import Derived.Test.YtfemekmkmiljdaaCkr
set_option linter.unusedVariables false
set_option linter.unusedSimpArgs false
namespace Go.Proofs.Ytfemekmkmiljdaa
open Go.RowKit Go.ChangeShapes Go.WideShapes Go.ChangeAt
theorem never_may (f t u : Bool) : decide (TS.int ⟨f, t, u⟩ = 2) = true → t = true := by revert f t u; decide
theorem never_row {x : Int} {f t u : Bool} (h3 : T3 x) (h : TS.has ⟨f, t, u⟩ x = true) : (t = false → ¬ x = 1) ∧ (decide (TS.int ⟨f, t, u⟩ = 2) = true → x = 1) := by
  rcases h3 with rfl | rfl | rfl <;> (revert f t u; decide)
theorem never_three (t mu : Bool) : (mu = true → t = true) → (t = false ∧ mu = false) ∨ (t = true ∧ mu = false) ∨ (t = true ∧ mu = true) := by revert t mu; decide
theorem sliced_rows {a : Option Addr} {c K : Nat} : (sliced a 0 K c 1) = .slice a K c := by
  unfold sliced
  by_cases q : c = 0
  · simp [q]
  · rw [if_neg q]; cases a <;> simp [Addr.add]
theorem run_rows24 {a : Option Addr} {n c K : Nat} (hK : K ≤ c) (W : World) : (Instr.slice 38 (.slice a n c) none (some (.int .i64 (K : Int))) none).run Try.prog W = .ok (.slice a K c) W := by
  have ht : Try.prog.underlying 38 = some (.slice (Try.prog.elem 38)) := by kernel_rfl
  have he : Try.prog.elem 38 = 50 := by kernel_rfl
  obtain ⟨i1, hj, hy0, hy1, hy2⟩ := info_parts infoRow
  rw [run_slice_h (ht := ht) (h0 := by omega) (h2 := by omega), he]
  simp [sizeOf, typeInfo, hj, hy1, Result.andThen]
  exact sliced_rows
set_option maxRecDepth 8000 in
set_option maxHeartbeats 2000000 in
theorem pnw_walk (vx vl vm : Value) (zx zl zm : List Int) (pk : Int) (w : World) (h0 : IntsAt w w.heap.size vx zx) (h1 : IntsAt w w.heap.size vl zl) (h2 : IntsAt w w.heap.size vm zm) :
    Calls Try.prog 8 #[vx, vl, vm, .int .i64 pk] w fun e w' => e = .returned (.bool true) ∧ Below w.heap.size w w' := by
  have H0 := Lib.hid h0
  have H1 := Lib.hid h1
  have H2 := Lib.hid h2
  clear h0 h1 h2
  go_enter Try.func8, Try.ntmps8
  go_upto_region 2 with (go_at_call 14; refine (keepSchema_any _ _ _ H0.out).mono ?_; rintro e w1 ⟨cv, cs, key, rfl, hc1, hs1, hl1, hb1⟩; obtain ⟨x1, rfl⟩ := Ext.of hb1; obtain ⟨ca, cc, rfl⟩ := cols_end hc1; obtain ⟨nn, hnn⟩ : ∃ nn, cs.length = nn := ⟨_, rfl⟩; rw [hnn] at hc1 hl1 ⊢; have HNN := Lib.hid hnn; clear hnn)
  refine captureM ?_
  intro y ey
  have yb1 : Below x1.it.heap.size x1.it y := by rw [ey]; exact (by repeat (first | with_reducible exact Below.refl _ _ | with_reducible assumption | with_reducible refine Below.al ?_ _ | with_reducible refine Below.on ?_ _ | with_reducible refine Below.st ?_ (by first | assumption | (simp; done) | (simp; omega)) _ | with_reducible refine Below.drew ?_))
  have yb : Below w.heap.size w y := by rw [ey]; exact (by repeat (first | with_reducible exact Below.refl _ _ | with_reducible assumption | with_reducible refine Below.al ?_ _ | with_reducible refine Below.on ?_ _ | with_reducible refine Below.st ?_ (by first | assumption | (simp; done) | (simp; omega)) _ | with_reducible refine Below.drew ?_))
  have z0 : x1.it.heap.size < y.heap.size := by rw [ey]; simp
  have s0 : y.cell? ⟨x1.it.heap.size, 0, none⟩ = some (.slice ca nn cc) := by rw [ey]; simp (maxDischargeDepth := 9) [go_sem, *]
  have s1 : y.cell? ⟨x1.it.heap.size, 1, none⟩ = some (.int .i64 key) := by rw [ey]; simp (maxDischargeDepth := 9) [go_sem, *]
  have HC := Lib.hid (hc1.mono yb1 yb1.size)
  have HS := Lib.hid hs1
  have I1 := Lib.hid ((H1.out.to fun k hk => yb.block k hk).mono yb.size)
  have I2 := Lib.hid (H2.out)
  clear ey hc1 hs1 hb1 yb1 H0 H1 H2
  generalize x1.it.heap.size = SB at *
  clear x1
  go_upto_region 3 with (go_at_call 19; refine Calls.mono (kpred_any _ cs key vl zl _ HC.out I1.out HS.out) ?_; rintro e w2 ⟨pv, ns, rfl, hn2, hp2, hl2, hb2⟩; obtain ⟨pa, pc, rfl⟩ := nods_end hn2; obtain ⟨np, hnp⟩ : ∃ np, ns.length = np := ⟨_, rfl⟩; rw [hnp] at hn2 hl2 ⊢; have HN2 := Lib.hid hn2; have HP2 := Lib.hid hp2; have HB2 := Lib.hid hb2; have HNP := Lib.hid hnp; have t0 := (hb2.cell (p := ⟨SB, 0, none⟩) z0).trans s0; have t1 := (hb2.cell (p := ⟨SB, 1, none⟩) z0).trans s1; have z2 := Nat.lt_of_lt_of_le z0 hb2.size; clear hn2 hp2 hnp)
  have HC2 := Lib.hid (HC.out.mono HB2.out HB2.out.size)
  have yb2 : Below w.heap.size w w2 := yb.trans (HB2.out.mono yb.size)
  have J2 := Lib.hid ((I2.out.to fun k hk => yb2.block k hk).mono yb2.size)
  have SP := Lib.hid (schema_parts HS.out)
  clear s0 s1 z0 hb2 I1 I2
  go_upto_region 4 with (go_at_call 18; refine Calls.mono (rows_any _ cs key vm zm 7 _ HC2.out J2.out (by decide) (by decide) SP.out.1 SP.out.2.2.1) ?_; rintro e w3 ⟨rv, rows, rfl, hr3, hl3, hv3, hb3⟩; obtain ⟨ra, rc, rfl⟩ := rows_end hr3; obtain ⟨nr, hnr⟩ : ∃ nr, rows.length = nr := ⟨_, rfl⟩; rw [hnr] at hr3 hl3 ⊢; have HR3 := Lib.hid hr3; have HV3 := Lib.hid hv3; have HB3 := Lib.hid hb3; have HNR := Lib.hid hnr; have q0 := (hb3.cell (p := ⟨SB, 0, none⟩) z2).trans t0; have q1 := (hb3.cell (p := ⟨SB, 1, none⟩) z2).trans t1; have z3 := Nat.lt_of_lt_of_le z2 hb3.size; clear hr3 hv3 hnr hb3)
  have HC3 := Lib.hid (HC2.out.mono HB3.out HB3.out.size)
  have HN3 := Lib.hid (HN2.out.mono HB3.out HB3.out.size)
  have yb3 : Below w.heap.size w w3 := yb2.trans (HB3.out.mono yb2.size)
  have L4 : rows.length ≤ 4096 := by rw [HNR.out]; omega
  have ZV : zsE cs (zonsOf cs rows) = 0 := zs_ok SP.out.1 L4 HV3.out
  obtain ⟨ts, hts⟩ : ∃ ts, posS cs (zonsOf cs rows) ns = ts := ⟨_, rfl⟩
  have PF : (posF cs key ns (zonsOf cs rows)).2 = 0 := by unfold posF; rw [if_pos HP2.out, if_pos ZV]
  have PT : posT cs key ns (zonsOf cs rows) = ts := by unfold posT; rw [if_pos ⟨HP2.out, ZV⟩, hts]
  have SND := Lib.hid (fun (row : List Val) (hr : row ∈ rows) => (by rw [← hts]; exact pos_sound (key := key) hr HP2.out : ts.has (evalF cs row ns) = true))
  have HPF := Lib.hid PF
  have HPT := Lib.hid PT
  have ZL : Hid ((zonsOf cs rows).length = cs.length) := Lib.hid (by unfold zonsOf; rw [zonsK_len])
  have L4' := Lib.hid L4
  obtain ⟨K, hK⟩ : ∃ K : Nat, pickI pk ((nr : Int) + 1) = (K : Int) := ⟨(pickI pk ((nr : Int) + 1)).toNat, by have := pickI_bd pk (n := (nr : Int) + 1) (by omega); omega⟩
  have hKn : K ≤ nr := by have := pickI_bd pk (n := (nr : Int) + 1) (by omega); omega
  have hKc : K ≤ rc := by
    rcases HR3.out.2 with ⟨e0, _⟩ | ⟨b, o, c, hv, hc, _⟩
    · have := HNR.out; rw [e0] at this; simp at this; omega
    · injection hv with _ _ e3; subst e3; have := HNR.out; omega
  have hw1 : IntKind.i64.wrap ((nr : Int) + 1) = (nr : Int) + 1 := IntWalk.i64_in _ (by omega)
  have slT : ∀ W : World, (Instr.slice 38 (.slice ra nr rc) none (some (.int .i64 (K : Int))) none).run Try.prog W = .ok (.slice ra K rc) W := fun W => run_rows24 hKc W
  have hn0 : (0 : Int) < (nr : Int) + 1 := by omega
  have hn1 : (nr : Int) + 1 < 9223372036854775808 := by omega
  have PKC := Lib.hid (fun (W : World) => (by have h := pick_any pk ((nr : Int) + 1) hn0 hn1 W; rw [hK] at h; exact h : Calls Try.prog 20 #[.int .i64 pk, .int .i64 ((nr : Int) + 1)] W fun e w' => e = .returned (.int .i64 (K : Int)) ∧ W = w'))
  clear t0 t1 z2 yb yb2 HC HC2 HN2 HB2 HB3 J2 L4 ZV PF PT hts hK hn0 hn1
  go_upto_region 5 with (go_at_call 17; refine Calls.mono (zones_any _ cs key _ rows _ HC3.out HR3.out SP.out.2.2.1 L4'.out (fun r hr => (HV3.out r hr).1)) ?_; rintro e w4 ⟨colv, rfl, ho4, hb4⟩; obtain ⟨x4, rfl⟩ := Ext.of hb4; have HR4 := Lib.hid (own_zons (zs := zonsOf cs rows) (by have := SP.out.2.2.1; rw [ZL.out]; omega) (by rw [ZL.out]; exact ho4)); clear ho4; have z4 : SB < x4.it.heap.size := x4.lt z3; have p0 : x4.it.cell? ⟨SB, 0, none⟩ = some (.slice ca nn cc) := (x4.cell SB 0 z3).trans q0; have p1 : x4.it.cell? ⟨SB, 1, none⟩ = some (.int .i64 key) := (x4.cell SB 1 z3).trans q1)
  have b34 : Below w3.heap.size w3 x4.it := x4.below
  have HC4 := Lib.hid (HC3.out.mono b34 b34.size)
  have HN4 := Lib.hid (HN3.out.mono b34 b34.size)
  have HR4' := Lib.hid (HR3.out.mono b34 b34.size)
  have yb4 := yb3.trans (b34.mono yb3.size)
  clear q0 q1 z3 HC3 HN3 HR3 yb3 b34 hb4 L4'
  go_upto_region 6 with (go_at_call 22; refine Calls.mono (may_any _ cs key _ ns _ (zonsOf cs rows) _ HC4.out HN4.out HR4.out) ?_; rw [HPF.out, HPT.out]; rintro e w5 ⟨rfl, hb5⟩; obtain ⟨x5, rfl⟩ := Ext.of hb5; have z5 : SB < x5.it.heap.size := x5.lt z4; have r0 : x5.it.cell? ⟨SB, 0, none⟩ = some (.slice ca nn cc) := (x5.cell SB 0 z4).trans p0; have r1 : x5.it.cell? ⟨SB, 1, none⟩ = some (.int .i64 key) := (x5.cell SB 1 z4).trans p1)
  have b45 : Below x4.it.heap.size x4.it x5.it := x5.below
  have HC5 := Lib.hid (HC4.out.mono b45 b45.size)
  have HN5 := Lib.hid (HN4.out.mono b45 b45.size)
  have HZ5 := Lib.hid (HR4.out.mono b45 b45.size)
  have HR5 := Lib.hid (HR4'.out.mono b45 b45.size)
  have yb5 := yb4.trans (b45.mono yb4.size)
  clear p0 p1 z4 HC4 HN4 HR4 HR4' yb4 b45 hb5
  go_upto_region 7 with (go_at_call 23; refine Calls.mono (must_any _ cs key _ ns _ (zonsOf cs rows) _ HC5.out HN5.out HZ5.out) ?_; rw [HPF.out, HPT.out]; rintro e w6 ⟨rfl, hb6⟩; obtain ⟨x6, rfl⟩ := Ext.of hb6; have z6 : SB < x6.it.heap.size := x6.lt z5; have s0 : x6.it.cell? ⟨SB, 0, none⟩ = some (.slice ca nn cc) := (x6.cell SB 0 z5).trans r0; have s1 : x6.it.cell? ⟨SB, 1, none⟩ = some (.int .i64 key) := (x6.cell SB 1 z5).trans r1)
  have b56 : Below x5.it.heap.size x5.it x6.it := x6.below
  have HC6 := Lib.hid (HC5.out.mono b56 b56.size)
  have HN6 := Lib.hid (HN5.out.mono b56 b56.size)
  have HR6 := Lib.hid (HR5.out.mono b56 b56.size)
  have B6 := Lib.hid (yb5.trans (b56.mono yb5.size))
  have nr9 : (nr : Int) ≤ 7 := hl3
  have HKn := Lib.hid hKn
  clear r0 r1 z5 HC5 HN5 HZ5 HR5 yb5 b56 hb6 HPF HPT ZL hl3 hKn hKc
  generalize x6.it = w6 at *
  clear x6
  clear x5
  clear x4
  obtain ⟨f, t, u⟩ := ts
  have SND2 : Hid (∀ r ∈ rows, (t = false → ¬ evalF cs r ns = 1) ∧ (decide (TS.int ⟨f, t, u⟩ = 2) = true → evalF cs r ns = 1)) := Lib.hid fun r hr => never_row (eval_3 cs r ns) (SND.out r hr)
  clear SND
  have hmm : decide (TS.int ⟨f, t, u⟩ = 2) = true → t = true := never_may f t u
  obtain ⟨mu, hmu⟩ : ∃ b, decide (TS.int ⟨f, t, u⟩ = 2) = b := ⟨_, rfl⟩
  rw [hmu] at SND2 hmm ⊢
  clear hmu
  obtain ⟨rfl, rfl⟩ | ⟨rfl, rfl⟩ | ⟨rfl, rfl⟩ : (t = false ∧ mu = false) ∨ (t = true ∧ mu = false) ∨ (t = true ∧ mu = true) := never_three t mu hmm
  all_goals
    clear hmm
    go_wp2_with (go_at_call 20; (with_reducible refine Calls.mono (PKC.out _) ?_); rintro e w7 ⟨rfl, rfl⟩)
    go_loopg [67] K (fun g st wr => ∃ k : Nat, k + g = K ∧ st = .int .i64 (k : Int) ∧ ∃ x : Ext w6, x.it = wr)
    case atStart => exact ⟨0, by omega, rfl, ⟨w6, Below.refl _ _⟩, rfl⟩
    case round =>
      obtain ⟨k, hk, rfl, x, rfl⟩ := hrel
      have hx := x.below
      have hxw : Below w.heap.size w x.it := B6.out.trans (hx.mono B6.out.size)
      by_cases hg0 : gk = 0
      · subst hg0
        obtain rfl : k = K := by omega
        clear hk
        go_wp2_with (go_at_call 15; refine (awake24 _).mono ?_; rintro e w6 ⟨rfl, hb6⟩; obtain ⟨x6, rfl⟩ := Ext.of hb6)
        exact bodyPost_ret (v := .bool true) (by simp [results, Try.results8, go_sem, *]) rfl (⟨rfl, by repeat (first | with_reducible exact Below.refl _ _ | with_reducible assumption | with_reducible refine Below.al ?_ _ | with_reducible refine Below.on ?_ _ | with_reducible refine Below.st ?_ (by first | assumption | (simp; done) | (simp; omega)) _ | with_reducible refine Below.drew ?_)⟩)
      · have hkm : k < K := by omega
        have hkm' : (k : Int) < (K : Int) := by omega
        have hK63 : (K : Int) ≤ 7 := by have := HKn.out; omega
        have hkl : k < rows.length := by have := HKn.out; rw [HNR.out]; omega
        obtain ⟨rb, ro, rfl, _, hrb, lv, e0, hlv⟩ := rows_in HR6.out hkl
        have RV := HV3.out _ (List.getElem_mem hkl)
        have SH := SND2.out _ (List.getElem_mem hkl)
        obtain ⟨row, hrow⟩ : ∃ row, rows[k]'hkl = row := ⟨_, rfl⟩
        rw [hrow] at hlv RV SH
        obtain ⟨la, lc, rfl⟩ := vals_end hlv
        have HLi := Lib.hid (hlv.mono hx hx.size)
        have HCi := Lib.hid (HC6.out.mono hx hx.size)
        have HNi := Lib.hid (HN6.out.mono hx hx.size)
        obtain ⟨tr, htr⟩ : ∃ tr, evalF cs row ns = tr := ⟨_, rfl⟩
        have T3 := eval_3 cs row ns
        have EP : evalP cs key ns row = (tr, 0) := by
          have e1 : rowE cs row = 0 := by unfold rowE; rw [if_pos RV.1]; exact rowEs_pre fun i h h' => RV.2 i h' h
          unfold evalP
          rw [if_pos HP2.out, if_pos e1, htr]
        have EV := Lib.hid (by have h := refEval_any _ cs key _ ns _ row x.it HCi.out HNi.out HLi.out; rw [EP] at h; exact h)
        rw [htr] at SH T3
        have g0 := (hx.cell (p := ⟨SB, 0, none⟩) z6).trans s0
        have g1 := (hx.cell (p := ⟨SB, 1, none⟩) z6).trans s1
        have ge := (hx.cell (p := ⟨rb, ro + k, none⟩) hrb).trans e0
        have zs : SB < x.it.heap.size := Nat.lt_of_lt_of_le z6 hx.size
        have zr : rb < x.it.heap.size := Nat.lt_of_lt_of_le hrb hx.size
        have HK := Lib.hid (And.intro hk hg0)
        clear hk hg0 e0 hlv hrow RV htr EP s0 s1 HLi HCi HNi
        simp only [reduceCtorEq, false_implies, forall_const, true_and, and_true, Bool.false_eq_true] at SH
        rcases T3 with rfl | rfl | rfl <;> first | (exfalso; first | exact absurd SH (by decide) | exact SH rfl) | (clear SH; go_wp2_with (go_at_call 21; refine Calls.mono EV.out ?_; rintro e w7 ⟨rfl, hb7⟩; obtain ⟨x7, rfl⟩ := Ext.of hb7))
        all_goals
          go_roundg (gk - 1)
          case measure => have := HK.out; omega
          case rel => exact ⟨k + 1, by have := HK.out; omega, by go_num, ⟨_, by repeat (first | with_reducible exact Below.refl _ _ | with_reducible assumption | with_reducible refine Below.al ?_ _ | with_reducible refine Below.on ?_ _ | with_reducible refine Below.st ?_ (by first | assumption | (simp; done) | (simp; omega)) _ | with_reducible refine Below.drew ?_)⟩, rfl⟩
end Go.Proofs.Ytfemekmkmiljdaa
