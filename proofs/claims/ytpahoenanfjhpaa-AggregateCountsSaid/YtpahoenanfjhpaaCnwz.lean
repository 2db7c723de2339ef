/-
  CHAPTER 26: the walk of AggregateCounts. Conditions: the lists lie in memory.
-/
import Derived.Test.YtpahoenanfjhpaaZt
import Derived.Test.YtpahoenanfjhpaaZu
import Derived.Test.YtpahoenanfjhpaaZk
import Derived.Laws.StructEq
set_option linter.unusedVariables false
set_option linter.unusedSimpArgs false
namespace Go.Proofs.Ytpahoenanfjhpaa
open Go.RowKit
def eqV (a b : Val) : Bool := decide (a.null = b.null) && (decide (a.n = b.n) && decide (a.s.toList = b.s.toList))
theorem bytes_inj {a b : ByteArray} (h : a.toList = b.toList) : a = b := by
  rw [ByteArray.toList_eq, ByteArray.toList_eq] at h
  cases a; cases b
  simp only [ByteArray.mk.injEq]
  exact Array.toList_inj.1 h
theorem eqV_ne {a b : Val} (h : a ≠ b) : eqV a b = false := by
  cases q : eqV a b with
  | false => rfl
  | true =>
    exfalso; apply h
    obtain ⟨a1, a2, a3⟩ := a
    obtain ⟨b1, b2, b3⟩ := b
    simp [eqV] at q
    obtain ⟨h1, h2, h3⟩ := q
    rw [h1, h2, bytes_inj h3]
@[go_sem high] theorem run_eqV (an : Bool) (a : Int) (as' : ByteArray) (bn : Bool) (b : Int) (bs' : ByteArray) (w : World) :
    (binOp .eql 40 (.agg #[.bool an, .int .i64 a, .string as']) (.agg #[.bool bn, .int .i64 b, .string bs'])).run Try.prog w = .ok (.bool (eqV ⟨an, a, as'⟩ ⟨bn, b, bs'⟩)) w := by
  rw [run_eql_struct]
  unfold eqV
  simp [go_sem]
  repeat' split
  all_goals simp [*]
theorem runF_cnt {cs : List Col} {key : Int} {ns : List Nod} {rows : List (List Val)} {K : Nat} (hs : schemaF cs key = 0) (hp : predF cs key ns = 0) (h1 : 1 ≤ cs.length) (hK : K < cs.length) (h4 : rows.length ≤ 4096) (hr : ∀ r ∈ rows, r.length = cs.length ∧ RowPre cs r) : runF cs key ns [] [(K : Int)] [⟨1, 0⟩] rows = (cntR cs K (selR cs ns rows), 0) := by
  unfold runF
  rw [if_pos (queryE_cnt hp h1 _ (by simp) (fun i hi => by rw [List.mem_singleton.1 hi]; omega)), if_pos (batchE_rows hs h4 hr), resF_cnt]
theorem runF_cnt1 {cs : List Col} {key : Int} {ns : List Nod} {rows : List (List Val)} (hs : schemaF cs key = 0) (hp : predF cs key ns = 0) (h1 : 1 ≤ cs.length) (h4 : rows.length ≤ 4096) (hr : ∀ r ∈ rows, r.length = cs.length ∧ RowPre cs r) : runF cs key ns [] [] [⟨1, 0⟩] rows = ([[⟨false, ((selR cs ns rows).length : Int), ⟨#[]⟩⟩]], 0) := by
  unfold runF
  rw [if_pos (queryE_cnt hp h1 _ (by simp) (fun i hi => absurd hi (by simp))), if_pos (batchE_rows hs h4 hr), resF_one]
set_option maxRecDepth 8000 in
set_option maxHeartbeats 4000000 in
theorem cnw_walk (vx vl vm : Value) (zx zl zm : List Int) (col : Int) (w : World) (h0 : IntsAt w w.heap.size vx zx) (h1 : IntsAt w w.heap.size vl zl) (h2 : IntsAt w w.heap.size vm zm) :
    Calls Try.prog 5 #[vx, vl, vm, .int .i64 col] w fun e w' => e = .returned (.bool true) ∧ Below w.heap.size w w' := by
  have H0 := Lib.hid h0
  have H1 := Lib.hid h1
  have H2 := Lib.hid h2
  clear h0 h1 h2
  go_enter Try.func5, Try.ntmps5
  go_upto_region 2 with (go_at_call 12; refine (keepSchema_any _ _ _ H0.out).mono ?_; rintro e w1 ⟨cv, cs, key, rfl, hc1, hs1, hl1, hb1⟩; obtain ⟨x1, rfl⟩ := Ext.of hb1; obtain ⟨ca, cc, rfl⟩ := cols_end hc1; obtain ⟨nn, hnn⟩ : ∃ nn, cs.length = nn := ⟨_, rfl⟩; rw [hnn] at hc1 hl1 ⊢; have HNN := Lib.hid hnn; clear hnn)
  refine captureM ?_
  intro y ey
  have yb1 : Below x1.it.heap.size x1.it y := by rw [ey]; exact (by repeat (first | with_reducible exact Below.refl _ _ | with_reducible assumption | with_reducible refine Below.al ?_ _ | with_reducible refine Below.on ?_ _ | with_reducible refine Below.st ?_ (by first | assumption | (simp; done) | (simp; omega)) _ | with_reducible refine Below.drew ?_))
  have yb : Below w.heap.size w y := by rw [ey]; exact (by repeat (first | with_reducible exact Below.refl _ _ | with_reducible assumption | with_reducible refine Below.al ?_ _ | with_reducible refine Below.on ?_ _ | with_reducible refine Below.st ?_ (by first | assumption | (simp; done) | (simp; omega)) _ | with_reducible refine Below.drew ?_))
  have z0 : x1.it.heap.size < y.heap.size := by rw [ey]; simp
  have s0 : y.cell? ⟨x1.it.heap.size, 0, none⟩ = some (.slice ca nn cc) := by rw [ey]; simp (maxDischargeDepth := 9) [go_sem, *]
  have s1 : y.cell? ⟨x1.it.heap.size, 1, none⟩ = some (.int .i64 key) := by rw [ey]; simp (maxDischargeDepth := 9) [go_sem, *]
  have HC := Lib.hid (hc1.mono yb1 yb1.size)
  have HS := Lib.hid hs1
  have I1 := Lib.hid ((H1.out.to fun k hk => yb.block k hk).mono yb.size)
  have I2 := Lib.hid (H2.out)
  clear ey hc1 hs1 hb1 yb1 H0 H1 H2
  generalize x1.it.heap.size = SB at *
  clear x1
  go_upto_region 3 with (go_at_call 18; refine Calls.mono (kpredb_any _ cs key vl zl _ HC.out I1.out HS.out) ?_; rintro e w2 ⟨pv, ns, rfl, hn2, hp2, hl2, hbl, hb2⟩; have HBL := Lib.hid hbl; clear hbl; obtain ⟨pa, pc, rfl⟩ := nods_end hn2; obtain ⟨np, hnp⟩ : ∃ np, ns.length = np := ⟨_, rfl⟩; rw [hnp] at hn2 hl2 ⊢; have HN2 := Lib.hid hn2; have HP2 := Lib.hid hp2; have HB2 := Lib.hid hb2; have HNP := Lib.hid hnp; have t0 := (hb2.cell (p := ⟨SB, 0, none⟩) z0).trans s0; have t1 := (hb2.cell (p := ⟨SB, 1, none⟩) z0).trans s1; have z2 := Nat.lt_of_lt_of_le z0 hb2.size; clear hn2 hp2 hnp)
  have HC2 := Lib.hid (HC.out.mono HB2.out HB2.out.size)
  have yb2 : Below w.heap.size w w2 := yb.trans (HB2.out.mono yb.size)
  have J2 := Lib.hid ((I2.out.to fun k hk => yb2.block k hk).mono yb2.size)
  have SP := Lib.hid (schema_parts HS.out)
  clear s0 s1 z0 hb2 I1 I2
  go_upto_region 4 with (go_at_call 14; refine Calls.mono (rows_any _ cs key vm zm 10 _ HC2.out J2.out (by decide) (by decide) SP.out.1 SP.out.2.2.1) ?_; rintro e w3 ⟨rv, rows, rfl, hr3, hl3, hv3, hb3⟩; obtain ⟨ra, rc, rfl⟩ := rows_end hr3; obtain ⟨nr, hnr⟩ : ∃ nr, rows.length = nr := ⟨_, rfl⟩; rw [hnr] at hr3 hl3 ⊢; have HR3 := Lib.hid hr3; have HV3 := Lib.hid hv3; have HB3 := Lib.hid hb3; have HNR := Lib.hid hnr; have q0 := (hb3.cell (p := ⟨SB, 0, none⟩) z2).trans t0; have q1 := (hb3.cell (p := ⟨SB, 1, none⟩) z2).trans t1; have z3 := Nat.lt_of_lt_of_le z2 hb3.size; clear hr3 hv3 hnr hb3)
  have HC3 := Lib.hid (HC2.out.mono HB3.out HB3.out.size)
  have HN3 := Lib.hid (HN2.out.mono HB3.out HB3.out.size)
  have yb3 : Below w.heap.size w w3 := yb2.trans (HB3.out.mono yb2.size)
  have L4 := Lib.hid (show rows.length ≤ 4096 by rw [HNR.out]; omega)
  have YB3 := Lib.hid yb3
  have nn1 : 1 ≤ nn := by have := SP.out.2.1; rw [HNN.out] at this; exact this
  have nn12 : nn ≤ 12 := by have := SP.out.2.2.1; rw [HNN.out] at this; exact this
  have nr10 : nr ≤ 10 := by omega
  clear t0 t1 z2 yb yb2 HC HC2 HN2 HB2 HB3 J2 yb3
  obtain ⟨K, hKK⟩ : ∃ K : Nat, pickI col (nn : Int) = (K : Int) := ⟨(pickI col (nn : Int)).toNat, by have := (pickI_bd col (n := (nn : Int)) (by omega)).1; omega⟩
  have hKn : K < nn := by have := (pickI_bd col (n := (nn : Int)) (by omega)).2; omega
  have PK := Lib.hid (fun W => (by have q := pick_any col (nn : Int) (by omega) (by omega) W; rw [hKK] at q; exact q : Calls Try.prog 15 #[.int .i64 col, .int .i64 (nn : Int)] W fun e w' => e = .returned (.int .i64 (K : Int)) ∧ W = w'))
  obtain ⟨sel, hsel⟩ : ∃ sel, selR cs ns rows = sel := ⟨_, rfl⟩
  have HSEL := Lib.hid hsel
  have LSL : Hid (sel.length ≤ 10) := Lib.hid (by rw [← hsel]; have := List.length_filter_le (fun r => evalF cs r ns == 1) rows; rw [HNR.out] at this; unfold selR; omega)
  have RUN1 : Hid (∀ (W : World) (gv av : Value), Below w3.heap.size w3 W → IntsAt W W.heap.size gv [(K : Int)] → AgsAt W W.heap.size av [⟨1, 0⟩] → Calls Try.prog 7 #[.agg #[.slice ca nn cc, .int .i64 key], .agg #[.slice pa np pc, .slice none 0 0, gv, av], .slice ra nr rc] W (ResPost W (cntR cs K sel) 0)) := Lib.hid (fun W gv av hW hg ha => by
    have q := arun_any (.slice ca nn cc) cs key (.slice pa np pc) ns (.slice none 0 0) [] gv [(K : Int)] av [⟨1, 0⟩] (.slice ra nr rc) rows W (HC3.out.mono hW hW.size) (HN3.out.mono hW hW.size) ⟨fun z hz => absurd hz (by simp), by simp, .inl ⟨rfl, none, 0, rfl⟩⟩ hg ha (HR3.out.mono hW hW.size) (fun d hd => Nat.le_trans (HBL.out d hd) (by decide))
    rw [runF_cnt HS.out HP2.out SP.out.2.1 (by rw [HNN.out]; exact hKn) L4.out HV3.out, hsel] at q
    exact q)
  have RUN2 : Hid (∀ (W : World) (av : Value), Below w3.heap.size w3 W → AgsAt W W.heap.size av [⟨1, 0⟩] → Calls Try.prog 7 #[.agg #[.slice ca nn cc, .int .i64 key], .agg #[.slice pa np pc, .slice none 0 0, .slice none 0 0, av], .slice ra nr rc] W (ResPost W [[⟨false, (sel.length : Int), ⟨#[]⟩⟩]] 0)) := Lib.hid (fun W av hW ha => by
    have q := arun_any (.slice ca nn cc) cs key (.slice pa np pc) ns (.slice none 0 0) [] (.slice none 0 0) [] av [⟨1, 0⟩] (.slice ra nr rc) rows W (HC3.out.mono hW hW.size) (HN3.out.mono hW hW.size) ⟨fun z hz => absurd hz (by simp), by simp, .inl ⟨rfl, none, 0, rfl⟩⟩ ⟨fun z hz => absurd hz (by simp), by simp, .inl ⟨rfl, none, 0, rfl⟩⟩ ha (HR3.out.mono hW hW.size) (fun d hd => Nat.le_trans (HBL.out d hd) (by decide))
    rw [runF_cnt1 HS.out HP2.out SP.out.2.1 L4.out HV3.out, hsel] at q
    exact q)
  clear hsel hKK
  go_upto_region 5 with (go_at_call 15; refine Calls.mono (PK.out _) ?_; rintro e w' ⟨rfl, rfl⟩)
  refine captureM ?_
  intro y ey
  have yb : Below w3.heap.size w3 y := by rw [ey]; repeat (first | with_reducible exact Below.refl _ _ | with_reducible assumption | with_reducible refine Below.al ?_ _ | with_reducible refine Below.on ?_ _ | with_reducible refine Below.st ?_ (by first | assumption | (simp; done) | (simp; omega)) _ | with_reducible refine Below.drew ?_)
  have p0 := (yb.cell (p := ⟨SB, 0, none⟩) z3).trans q0
  have p1 := (yb.cell (p := ⟨SB, 1, none⟩) z3).trans q1
  have k0 : y.cell? ⟨w3.heap.size, 0, none⟩ = some (.int .i64 (K : Int)) := by rw [ey]; simp (maxDischargeDepth := 9) [go_sem, *]
  have k1 : y.cell? ⟨w3.heap.size + 1, 0, none⟩ = some (.int .i64 1) := by rw [ey]; simp (maxDischargeDepth := 9) [go_sem, *]
  have k2 : y.cell? ⟨w3.heap.size + 1, 1, none⟩ = some (.int .i64 0) := by rw [ey]; simp (maxDischargeDepth := 9) [go_sem, *]
  have m0 : y.cell? ⟨w3.heap.size + 2, 0, none⟩ = some (.slice pa np pc) := by rw [ey]; simp (maxDischargeDepth := 9) [go_sem, *]
  have m1 : y.cell? ⟨w3.heap.size + 2, 1, none⟩ = some (.slice none 0 0) := by rw [ey]; simp (maxDischargeDepth := 9) [go_sem, *]
  have m2 : y.cell? ⟨w3.heap.size + 2, 2, none⟩ = some (.slice (some ⟨w3.heap.size, 0, none⟩) 1 1) := by rw [ey]; simp (maxDischargeDepth := 9) [go_sem, *]
  have m3 : y.cell? ⟨w3.heap.size + 2, 3, none⟩ = some (.slice (some ⟨w3.heap.size + 1, 0, none⟩) 1 1) := by rw [ey]; simp (maxDischargeDepth := 9) [go_sem, *]
  have mf : y.frozen? ⟨w3.heap.size + 2, 2, none⟩ = false := by rw [ey]; simp (maxDischargeDepth := 9) [go_sem, *]
  have zy : w3.heap.size + 2 < y.heap.size := by rw [ey]; simp <;> omega
  have zS : SB < y.heap.size := Nat.lt_of_lt_of_le z3 yb.size
  have IK : Hid (IntsAt y y.heap.size (.slice (some ⟨w3.heap.size, 0, none⟩) 1 1) [(K : Int)]) := Lib.hid (lit_ints rfl (by omega) (fun z hz => by rw [List.mem_singleton.1 hz]; unfold isI; omega) (by omega) (fun j hj => by (obtain rfl : j = 0 := (by omega)); exact k0))
  have AK : Hid (AgsAt y y.heap.size (.slice (some ⟨w3.heap.size + 1, 0, none⟩) 1 1) [⟨1, 0⟩]) := Lib.hid ⟨by simp, .inr ⟨w3.heap.size + 1, 0, 1, rfl, by simp, by omega, fun j hj => by (obtain rfl : j = 0 := (by simp at hj; omega)); exact ⟨k1, k2⟩⟩⟩
  have YB := Lib.hid yb
  clear ey yb k0 q0 q1 PK
  go_upto_region 6 with (go_at_call 7; refine Calls.mono (RUN1.out _ _ _ YB.out IK.out AK.out) ?_; rintro e w5 ⟨v5, rfl, hr5, hb5⟩; obtain ⟨x5, rfl⟩ := Ext.of hb5; obtain ⟨a5, c5, rfl⟩ := rows_end hr5; have R5 := Lib.hid hr5; clear hr5)
  obtain ⟨ng, hng⟩ : ∃ n, (cntR cs K sel).length = n := ⟨_, rfl⟩
  rw [hng] at R5 ⊢
  have LNG := Lib.hid hng
  obtain ⟨gs, hgs⟩ : ∃ gs, grps cs K sel = gs := ⟨_, rfl⟩
  have LGS : Hid (gs.length = ng) := Lib.hid (by rw [← hng, ← hgs]; unfold cntR; rw [List.length_map])
  have RR5 : Hid (RowsAt x5.it x5.it.heap.size (.slice a5 ng c5) (gs.map (cntF K))) := Lib.hid (by rw [← hgs]; exact R5.out)
  have KNE : Hid (∀ j (h : j + 1 < gs.length), keyF K (gs[j + 1]'h) ≠ keyF K (gs[j]'(by omega))) := Lib.hid (by subst hgs; exact fun j h => keys_ne h)
  have CPO : Hid (∀ j (h : j < gs.length), 1 ≤ (gs[j]'h).length) := Lib.hid (by subst hgs; exact fun j h => cnt_pos h)
  have TOT : Hid (gs.flatten.length = sel.length) := Lib.hid (by rw [← hgs]; exact grps_flat cs K sel)
  have ng10 : ng ≤ 10 := by have := grps_le cs K sel; rw [hgs, LGS.out] at this; have := LSL.out; omega
  clear hng hgs R5 LNG RUN1 IK hb5
  go_wp2_with fail
  go_loopg [15, 52] ng (fun g s15 s52 wr => ∃ j : Nat, j + g = ng ∧ s52 = .int .i64 (j : Int) ∧ s15 = .int .i64 (totL (gs.take j)) ∧ ∃ x : Ext x5.it, x.it = wr)
  case atStart => exact ⟨0, by omega, rfl, rfl, ⟨x5.it, Below.refl _ _⟩, rfl⟩
  case round =>
    obtain ⟨j, hj, rfl, rfl, x, rfl⟩ := hrel
    by_cases hg0 : gk = 0
    · subst hg0
      obtain rfl : j = ng := by omega
      have tj : ¬ (j : Int) < (j : Int) := by omega
      have ET : totL (gs.take j) = (sel.length : Int) := by rw [List.take_of_length_le (by rw [LGS.out]; exact Nat.le_refl _)]; unfold totL; rw [TOT.out]
      rw [ET]
      obtain ⟨T, hT⟩ : ∃ T : Nat, sel.length = T := ⟨_, rfl⟩
      rw [hT] at RUN2 LSL ⊢
      have HT := Lib.hid hT
      have t10 := LSL.out
      clear ET hT hj
      have ybb := YB.out
      have bzx : Below w3.heap.size w3 x.it := Below.on (Below.on ybb x5) x
      have bzy : Below y.heap.size y x.it := Below.on x5.below x
      have BZX := Lib.hid bzx
      have BZY := Lib.hid bzy
      clear bzx bzy RR5 KNE CPO
      go_wp2_with fail
      go_loopg [18, 93] nr (fun g s18 s93 wr => ∃ k : Nat, k + g = nr ∧ s93 = .int .i64 (k : Int) ∧ s18 = .int .i64 ((selR cs ns (rows.take k)).length : Int) ∧ ∃ x2 : Ext x.it, x2.it = wr)
      case atStart => exact ⟨0, by omega, rfl, rfl, ⟨x.it, Below.refl _ _⟩, rfl⟩
      case round =>
        obtain ⟨k, hk, rfl, rfl, x2, rfl⟩ := hrel
        have b3 : Below w3.heap.size w3 x2.it := Below.on BZX.out x2
        have by3 : Below y.heap.size y x2.it := Below.on BZY.out x2
        have B3 := Lib.hid b3
        have r0 := (b3.cell (p := ⟨SB, 0, none⟩) z3).trans ((YB.out.cell (p := ⟨SB, 0, none⟩) z3).symm.trans p0)
        have r1 := (b3.cell (p := ⟨SB, 1, none⟩) z3).trans ((YB.out.cell (p := ⟨SB, 1, none⟩) z3).symm.trans p1)
        have zs : SB < x2.it.heap.size := Nat.lt_of_lt_of_le z3 b3.size
        by_cases hg0 : gk = 0
        · subst hg0
          obtain rfl : k = nr := by omega
          have tk : ¬ (k : Int) < (k : Int) := by omega
          have EW : (selR cs ns (rows.take k)).length = T := by rw [List.take_of_length_le (by rw [HNR.out]; exact Nat.le_refl _), HSEL.out, HT.out]
          rw [EW]
          have n0 := (by3.cell (p := ⟨w3.heap.size + 2, 0, none⟩) zy).trans m0
          have n1 := (by3.cell (p := ⟨w3.heap.size + 2, 1, none⟩) zy).trans m1
          have n2 := (by3.cell (p := ⟨w3.heap.size + 2, 2, none⟩) zy).trans m2
          have n3 := (by3.cell (p := ⟨w3.heap.size + 2, 3, none⟩) zy).trans m3
          have nf := (by3.frozen (p := ⟨w3.heap.size + 2, 2, none⟩) zy).trans mf
          have zy1 : w3.heap.size + 1 < y.heap.size := by omega
          have o1 := (by3.cell (p := ⟨w3.heap.size + 1, 0, none⟩) zy1).trans k1
          have o2 := (by3.cell (p := ⟨w3.heap.size + 1, 1, none⟩) zy1).trans k2
          have zq : w3.heap.size + 2 < x2.it.heap.size := Nat.lt_of_lt_of_le zy by3.size
          have hS3 : SB ≠ w3.heap.size + 2 := by omega
          clear hk EW by3
          go_upto_region 23 with fail
          refine captureM ?_
          intro Z eZ
          have bz : Below w3.heap.size w3 Z := by rw [eZ]; exact Below.st b3 (by first | omega | (simp; omega)) _
          have Z0 : Z.cell? ⟨SB, 0, none⟩ = some (.slice ca nn cc) := by rw [eZ]; simp (maxDischargeDepth := 9) [go_sem, *]
          have Z1 : Z.cell? ⟨SB, 1, none⟩ = some (.int .i64 key) := by rw [eZ]; simp (maxDischargeDepth := 9) [go_sem, *]
          have Q0 : Z.cell? ⟨w3.heap.size + 2, 0, none⟩ = some (.slice pa np pc) := by rw [eZ]; simp (maxDischargeDepth := 9) [go_sem, *]
          have Q1 : Z.cell? ⟨w3.heap.size + 2, 1, none⟩ = some (.slice none 0 0) := by rw [eZ]; simp (maxDischargeDepth := 9) [go_sem, *]
          have Q2 : Z.cell? ⟨w3.heap.size + 2, 2, none⟩ = some (.slice none 0 0) := by rw [eZ]; simp (maxDischargeDepth := 9) [go_sem, *]
          have Q3 : Z.cell? ⟨w3.heap.size + 2, 3, none⟩ = some (.slice (some ⟨w3.heap.size + 1, 0, none⟩) 1 1) := by rw [eZ]; simp (maxDischargeDepth := 9) [go_sem, *]
          have O1 : Z.cell? ⟨w3.heap.size + 1, 0, none⟩ = some (.int .i64 1) := by rw [eZ]; simp (maxDischargeDepth := 9) [go_sem, *]
          have O2 : Z.cell? ⟨w3.heap.size + 1, 1, none⟩ = some (.int .i64 0) := by rw [eZ]; simp (maxDischargeDepth := 9) [go_sem, *]
          have zZ : w3.heap.size + 2 < Z.heap.size := by rw [eZ]; simpa using zq
          have zZS : SB < Z.heap.size := by omega
          have AZ : Hid (AgsAt Z Z.heap.size (.slice (some ⟨w3.heap.size + 1, 0, none⟩) 1 1) [⟨1, 0⟩]) := Lib.hid ⟨by simp, .inr ⟨w3.heap.size + 1, 0, 1, rfl, by simp, by omega, fun j hj => by (obtain rfl : j = 0 := (by simp at hj; omega)); exact ⟨O1, O2⟩⟩⟩
          have BZ := Lib.hid bz
          have bwz : Below w.heap.size w Z := YB3.out.trans (bz.mono YB3.out.size)
          clear eZ n0 n1 n2 n3 nf o1 o2 O1 O2 bz b3 B3 r0 r1 ybb p0 p1 m0 m1 m2 m3 mf k1 k2
          go_wp2_with (first
            | (go_at_call 7; refine Calls.mono (RUN2.out _ _ BZ.out AZ.out) ?_; rintro e w6 ⟨v6, rfl, hr6, hb6⟩; obtain ⟨x6, rfl⟩ := Ext.of hb6; have R6 := Lib.hid hr6; clear hr6)
            | (go_at_call 16; refine Calls.mono (awake26 _) ?_; rintro e w9 ⟨rfl, hb9⟩; obtain ⟨x9, rfl⟩ := Ext.of hb9; have R9 := Lib.hid (R6.out.mono x9.below x9.below.size))
            | (go_at_call 11; refine Calls.mono (same_lists _ _ [[⟨false, (T : Int), ⟨#[]⟩⟩]] _ (R9.out.mono (((Below.refl _ _).alloc (Nat.le_refl _) _).alloc (by simp) _) (by simp; omega)) (lit_alloc2 x9.it ⟨false, (T : Int), ⟨#[]⟩⟩ _ _)) ?_; rintro e w10 ⟨rfl, hb10⟩; obtain ⟨x10, rfl⟩ := Ext.of hb10))
          exact bodyPost_ret (v := .bool true) (by simp [results, Try.results5, go_sem, *]) rfl (⟨rfl, by repeat (first | with_reducible exact Below.refl _ _ | with_reducible assumption | with_reducible refine Below.al ?_ _ | with_reducible refine Below.on ?_ _ | with_reducible refine Below.st ?_ (by first | assumption | (simp; done) | (simp; omega)) _ | with_reducible refine Below.drew ?_)⟩)
        · have hkm : k < nr := by omega
          have hkm' : (k : Int) < (nr : Int) := by omega
          have hkl : k < rows.length := by rw [HNR.out]; exact hkm
          obtain ⟨rb, ro, rfl, _, hrb, lv, e0, hlr⟩ := rows_in HR3.out hkl
          have RV := HV3.out _ (List.getElem_mem hkl)
          have WT : selR cs ns (rows.take (k + 1)) = selR cs ns (rows.take k) ++ [rows[k]'hkl].filter (fun r => evalF cs r ns == 1) := by unfold selR; rw [List.take_succ_eq_append_getElem hkl, List.filter_append]
          obtain ⟨row, hrow⟩ : ∃ row, rows[k]'hkl = row := ⟨_, rfl⟩
          rw [hrow] at hlr RV WT
          obtain ⟨la, lc, rfl⟩ := vals_end hlr
          have HLi := Lib.hid (hlr.mono b3 b3.size)
          have HCi := Lib.hid (HC3.out.mono b3 b3.size)
          have HNi := Lib.hid (HN3.out.mono b3 b3.size)
          obtain ⟨tr, htr⟩ : ∃ tr, evalF cs row ns = tr := ⟨_, rfl⟩
          have EP : evalP cs key ns row = (tr, 0) := by
            have e1 : rowE cs row = 0 := by unfold rowE; rw [if_pos RV.1]; exact rowEs_pre fun i h h' => RV.2 i h' h
            unfold evalP
            rw [if_pos HP2.out, if_pos e1, htr]
          have EV := Lib.hid (by have h := refEval_any _ cs key _ ns _ row x2.it HCi.out HNi.out HLi.out; rw [EP] at h; exact h)
          obtain ⟨rl, hrl⟩ : ∃ rl, row.length = rl := ⟨_, rfl⟩
          rw [hrl] at e0 HLi EV
          have ge := (b3.cell (p := ⟨rb, ro + k, none⟩) hrb).trans e0
          have zr : rb < x2.it.heap.size := Nat.lt_of_lt_of_le hrb b3.size
          have HK := Lib.hid (And.intro hk hg0)
          have wl : (selR cs ns (rows.take k)).length ≤ k := by have := List.length_filter_le (fun r => evalF cs r ns == 1) (rows.take k); rw [List.length_take] at this; unfold selR; omega
          obtain ⟨W0, hW0⟩ : ∃ n : Nat, (selR cs ns (rows.take k)).length = n := ⟨_, rfl⟩
          have WT2 : (selR cs ns (rows.take (k + 1))).length = W0 + ([row].filter (fun r => evalF cs r ns == 1)).length := by rw [WT, List.length_append, hW0]
          rw [hW0] at wl ⊢
          have w10 : (W0 : Int) ≤ 10 := by omega
          have HTR := Lib.hid htr
          have WTT := Lib.hid WT2
          clear hk hg0 e0 hlr hrow RV EP htr HCi hrl WT WT2 hW0
          go_upto_region 19 with (go_at_call 17; refine Calls.mono EV.out ?_; rintro e w6 ⟨rfl, hb6⟩; obtain ⟨x6, rfl⟩ := Ext.of hb6)
          by_cases t1 : tr = 1
          · subst t1
            have W1 : ((selR cs ns (rows.take (k + 1))).length : Int) = (W0 : Int) + 1 := by rw [WTT.out]; simp [List.filter, HTR.out]
            go_wp2
            go_roundg (gk - 1)
            case measure => have := HK.out; omega
            case rel => exact ⟨k + 1, by have := HK.out; omega, by go_num, by rw [W1], ext_of (Below.on x2.below x6)⟩
          · have t1' : (tr == 1) = false := by simpa using t1
            have W1 : (selR cs ns (rows.take (k + 1))).length = W0 := by rw [WTT.out]; simp [List.filter, HTR.out, t1']
            go_wp2
            go_roundg (gk - 1)
            case measure => have := HK.out; omega
            case rel => exact ⟨k + 1, by have := HK.out; omega, by go_num, by rw [W1], ext_of (Below.on x2.below x6)⟩
    · have hjm : j < ng := by omega
      have hjm' : (j : Int) < (ng : Int) := by omega
      have hjl : j < gs.length := by rw [LGS.out]; exact hjm
      have hjl' : j < (gs.map (cntF K)).length := by rw [List.length_map]; exact hjl
      obtain ⟨ab, ao, rfl, hac, hab, lv, c0, hlv⟩ := rows_in RR5.out hjl'
      have hac' : (j : Int) < (c5 : Int) := by rw [List.length_map, LGS.out] at hac; omega
      rw [List.getElem_map] at hlv
      obtain ⟨la, lc, rfl⟩ := vals_end hlv
      have l2 : (cntF K (gs[j]'hjl)).length = 2 := rfl
      rw [l2] at c0 hlv
      obtain ⟨vb, vo, rfl, hvc, hvb, d0, d1, d2⟩ := vals_in hlv (i := 0) (by rw [l2]; omega)
      obtain ⟨vb', vo', e', _, _, d3, d4, d5⟩ := vals_in hlv (i := 1) (by rw [l2]; omega)
      injection e' with e'
      injection e' with e1 e2
      subst e1 e2
      have TS := totL_succ (gs := gs) hjl
      have KN0 := KNE.out
      have cp := CPO.out j hjl
      have tb := totL_le gs j
      rw [TOT.out] at tb
      have ls := LSL.out
      obtain ⟨gl, hgl⟩ : ∃ gl : Nat, (gs[j]'hjl).length = gl := ⟨_, rfl⟩
      obtain ⟨kv, hkv⟩ : ∃ kv, keyF K (gs[j]'hjl) = kv := ⟨_, rfl⟩
      have glt : gl ≤ 10 := by
        have := totL_le gs (j + 1)
        rw [TS, TOT.out, hgl] at this
        omega
      have D0 : (cntF K (gs[j]'hjl))[0]'(by rw [l2]; omega) = kv := hkv
      have D1 : (cntF K (gs[j]'hjl))[1]'(by rw [l2]; omega) = ⟨false, (gl : Int), ⟨#[]⟩⟩ := by rw [← hgl]; rfl
      rw [D0] at d0 d1 d2
      rw [D1] at d3 d4 d5
      obtain ⟨T, hT⟩ : ∃ T, totL (gs.take j) = T := ⟨_, rfl⟩
      rw [hT] at TS tb ⊢
      rw [hgl] at TS cp
      have hxx := x.below
      have f0 := (hxx.cell (p := ⟨ab, ao + j, none⟩) hab).trans c0
      have f1 := (hxx.cell (p := ⟨vb, vo + 0 * 3, none⟩) hvb).trans d0
      have f2 := (hxx.cell (p := ⟨vb, vo + 0 * 3 + 1, none⟩) hvb).trans d1
      have f3 := (hxx.cell (p := ⟨vb, vo + 0 * 3 + 2, none⟩) hvb).trans d2
      have f4 := (hxx.cell (p := ⟨vb, vo + 1 * 3, none⟩) hvb).trans d3
      have f5 := (hxx.cell (p := ⟨vb, vo + 1 * 3 + 1, none⟩) hvb).trans d4
      have f6 := (hxx.cell (p := ⟨vb, vo + 1 * 3 + 2, none⟩) hvb).trans d5
      simp only [Nat.zero_mul, Nat.one_mul, Nat.add_zero] at f1 f2 f3 f4 f5 f6
      have za : ab < x.it.heap.size := Nat.lt_of_lt_of_le hab hxx.size
      have zv : vb < x.it.heap.size := Nat.lt_of_lt_of_le hvb hxx.size
      have w1 : wrap64 (T + (gl : Int)) = T + (gl : Int) := by rw [Wd.wrap64_eq]; omega
      have ge0 : ¬ gl = 0 := by omega
      have ge1 : ((gl : Int) < 1) = False := by simp; omega
      have ge3 : (gl < 1) = False := by simp; omega
      have lc2 : (1 : Int) < (lc : Int) := by rw [l2] at hvc; omega
      have HJ := Lib.hid (And.intro (And.intro hj hg0) TS)
      by_cases hj0 : j = 0
      · have tz : ¬ (j : Int) > 0 := by omega
        have tz2 : ((0 : Int) < (j : Int)) = False := by simp; omega
        have tz3 : (0 < j) = False := by simp; omega
        clear c0 hlv d0 d1 d2 d3 d4 d5 D0 D1 hgl hkv TS hj hg0 KN0 hac hvc cp tb ls hT hj0
        go_wp2_with fail
        refine wp_region_ext (by kernel_rfl) (by kernel_rfl) ?_
        repeat (go_big_quiet_step ((fail)))
        refine wpQuiet_nil ?_
        rintro _ ⟨x10, rfl⟩
        go_wp2_with fail
        go_roundg (gk - 1)
        case measure => have := HJ.out; omega
        case rel => exact ⟨j + 1, by have := HJ.out; omega, by go_num, by rw [HJ.out.2, w1], ext_of (Below.on x.below x10)⟩
      · obtain ⟨i, hi⟩ : ∃ i, j = i + 1 := ⟨j - 1, by omega⟩
        have hil : i < gs.length := by omega
        have hil' : i < (gs.map (cntF K)).length := by rw [List.length_map]; exact hil
        obtain ⟨ab', ao', e', _, _, lp, p0', hlp⟩ := rows_in RR5.out hil'
        injection e' with e'
        injection e' with e1 e2
        subst e1 e2
        rw [List.getElem_map] at hlp
        obtain ⟨pa2, pc2, rfl⟩ := vals_end hlp
        have l3 : (cntF K (gs[i]'hil)).length = 2 := rfl
        rw [l3] at p0' hlp
        obtain ⟨ub, uo, rfl, _, hub, u0', u1', u2'⟩ := vals_in hlp (i := 0) (by rw [l3]; omega)
        obtain ⟨kp, hkp⟩ : ∃ kp, keyF K (gs[i]'hil) = kp := ⟨_, rfl⟩
        have U0 : (cntF K (gs[i]'hil))[0]'(by rw [l3]; omega) = kp := hkp
        rw [U0] at u0' u1' u2'
        have NE : eqV kv kp = false := eqV_ne (by rw [← hkv, ← hkp]; subst hi; exact KN0 i (by omega))
        obtain ⟨kn, ki, ks⟩ := kv
        obtain ⟨pn, pi, ps⟩ := kp
        dsimp only at f1 f2 f3 u0' u1' u2'
        have h0' := (hxx.cell (p := ⟨ab, ao + i, none⟩) hab).trans p0'
        have h1' := (hxx.cell (p := ⟨ub, uo + 0 * 3, none⟩) hub).trans u0'
        have h2' := (hxx.cell (p := ⟨ub, uo + 0 * 3 + 1, none⟩) hub).trans u1'
        have h3' := (hxx.cell (p := ⟨ub, uo + 0 * 3 + 2, none⟩) hub).trans u2'
        simp only [Nat.zero_mul, Nat.add_zero] at h1' h2' h3'
        have zu : ub < x.it.heap.size := Nat.lt_of_lt_of_le hub hxx.size
        have tz : (j : Int) > 0 := by omega
        have tz2 : (0 : Int) < (j : Int) := by omega
        have tz3 : 0 < j := by omega
        have ti : (j : Int) - 1 = (i : Int) := by omega
        have tin : (i : Int) < (ng : Int) := by omega
        have ti9 : (i : Int) ≤ 10 := by omega
        clear c0 hlv d0 d1 d2 d3 d4 d5 D0 D1 hgl hkv TS hj hg0 KN0 hac hvc cp tb ls hT hlp p0' u0' u1' u2' U0 hkp hi hj0
        go_wp2_with fail
        refine wp_region_ext (by kernel_rfl) (by kernel_rfl) ?_
        repeat (go_big_quiet_step ((fail)))
        refine wpQuiet_nil ?_
        rintro _ ⟨x10, rfl⟩
        go_wp2_with fail
        go_roundg (gk - 1)
        case measure => have := HJ.out; omega
        case rel => exact ⟨j + 1, by have := HJ.out; omega, by go_num, by rw [HJ.out.2, w1], ext_of (Below.on x.below x10)⟩
end Go.Proofs.Ytpahoenanfjhpaa
