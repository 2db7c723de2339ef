/-
  CHAPTER 24: leaf of prune. Conditions: the list of a node lies in memory; the operator belongs to a column.
-/
import Derived.Test.YtfemekmkmiljdaaPle
set_option linter.unusedVariables false
set_option linter.unusedSimpArgs false
namespace Go.Proofs.Ytfemekmkmiljdaa
open Go.RowKit
theorem or_u (p : Bool) (s : TS) : bits .or .i64 (if p = true then 4 else 0) s.int = TS.int ⟨s.f, s.t, p || s.u⟩ := by
  obtain ⟨f, t, u⟩ := s
  cases p <;> cases f <;> cases t <;> cases u <;> rfl
set_option maxRecDepth 8000 in
set_option maxHeartbeats 1000000 in
theorem leaf_any (ty : Int) (op col : Int) (vn : Bool) (n : Int) (s : ByteArray) (lv : Value) (ls : List Val) (na nb : Int) (zr zn : Int) (an : Bool) (a : Int) (sa : ByteArray) (bn : Bool) (b : Int) (sb : ByteArray) (w : World) (hv : ValsAt w w.heap.size lv ls) (h1 : 1 ≤ op) (h8 : op ≤ 8) :
    Calls Try.prog 29 #[.int .i64 ty, .agg #[.int .i64 op, .int .i64 col, .bool vn, .int .i64 n, .string s, lv, .int .i64 na, .int .i64 nb], .agg #[.int .i64 zr, .int .i64 zn, .bool an, .int .i64 a, .string sa, .bool bn, .int .i64 b, .string sb]] w fun e w' => e = .returned (.int .i64 (leafS ty ⟨op, col, ⟨vn, n, s⟩, ls, na, nb⟩ ⟨zr, zn, ⟨an, a, sa⟩, ⟨bn, b, sb⟩⟩).int) ∧ Below w.heap.size w w' := by
  obtain ⟨la, lc, rfl⟩ := vals_end hv
  obtain ⟨R, hR⟩ : ∃ R, leafS ty ⟨op, col, ⟨vn, n, s⟩, ls, na, nb⟩ ⟨zr, zn, ⟨an, a, sa⟩, ⟨bn, b, sb⟩⟩ = R := ⟨_, rfl⟩
  rw [hR]
  have HR := Lib.hid hR
  have HV := Lib.hid hv
  obtain ⟨m, hm⟩ : ∃ m, ls.length = m := ⟨_, rfl⟩
  rw [hm] at HV ⊢
  clear hR hv hm
  go_enter Try.func29, Try.ntmps29
  go_upto_region 1 with fail
  refine captureM ?_
  intro y ey
  have yb : Below w.heap.size w y := by rw [ey]; exact (by repeat (first | with_reducible exact Below.refl _ _ | with_reducible assumption | with_reducible refine Below.al ?_ _ | with_reducible refine Below.on ?_ _ | with_reducible refine Below.st ?_ (by first | assumption | (simp; done) | (simp; omega)) _ | with_reducible refine Below.drew ?_))
  have p0 : y.cell? ⟨w.heap.size, 0, none⟩ = some (.int .i64 op) := by rw [ey]; simp (maxDischargeDepth := 9) [go_sem, *]
  have p1 : y.cell? ⟨w.heap.size, 1, none⟩ = some (.int .i64 col) := by rw [ey]; simp (maxDischargeDepth := 9) [go_sem, *]
  have p2 : y.cell? ⟨w.heap.size, 2, none⟩ = some (.bool vn) := by rw [ey]; simp (maxDischargeDepth := 9) [go_sem, *]
  have p3 : y.cell? ⟨w.heap.size, 3, none⟩ = some (.int .i64 n) := by rw [ey]; simp (maxDischargeDepth := 9) [go_sem, *]
  have p4 : y.cell? ⟨w.heap.size, 4, none⟩ = some (.string s) := by rw [ey]; simp (maxDischargeDepth := 9) [go_sem, *]
  have p5 : y.cell? ⟨w.heap.size, 5, none⟩ = some (.slice la m lc) := by rw [ey]; simp (maxDischargeDepth := 9) [go_sem, *]
  have p6 : y.cell? ⟨w.heap.size, 6, none⟩ = some (.int .i64 na) := by rw [ey]; simp (maxDischargeDepth := 9) [go_sem, *]
  have p7 : y.cell? ⟨w.heap.size, 7, none⟩ = some (.int .i64 nb) := by rw [ey]; simp (maxDischargeDepth := 9) [go_sem, *]
  have q0 : y.cell? ⟨w.heap.size + 1, 0, none⟩ = some (.int .i64 zr) := by rw [ey]; simp (maxDischargeDepth := 9) [go_sem, *]
  have q1 : y.cell? ⟨w.heap.size + 1, 1, none⟩ = some (.int .i64 zn) := by rw [ey]; simp (maxDischargeDepth := 9) [go_sem, *]
  have q2 : y.cell? ⟨w.heap.size + 1, 2, none⟩ = some (.bool an) := by rw [ey]; simp (maxDischargeDepth := 9) [go_sem, *]
  have q3 : y.cell? ⟨w.heap.size + 1, 3, none⟩ = some (.int .i64 a) := by rw [ey]; simp (maxDischargeDepth := 9) [go_sem, *]
  have q4 : y.cell? ⟨w.heap.size + 1, 4, none⟩ = some (.string sa) := by rw [ey]; simp (maxDischargeDepth := 9) [go_sem, *]
  have q5 : y.cell? ⟨w.heap.size + 1, 5, none⟩ = some (.bool bn) := by rw [ey]; simp (maxDischargeDepth := 9) [go_sem, *]
  have q6 : y.cell? ⟨w.heap.size + 1, 6, none⟩ = some (.int .i64 b) := by rw [ey]; simp (maxDischargeDepth := 9) [go_sem, *]
  have q7 : y.cell? ⟨w.heap.size + 1, 7, none⟩ = some (.string sb) := by rw [ey]; simp (maxDischargeDepth := 9) [go_sem, *]
  have yz : w.heap.size < y.heap.size := by rw [ey]; simp; omega
  have yz1 : w.heap.size + 1 < y.heap.size := by rw [ey]; simp
  have HVy := Lib.hid (HV.out.mono yb yb.size)
  clear ey HV
  obtain ⟨bz, hbz⟩ : ∃ bb, decide (0 < zn) = bb := ⟨_, rfl⟩
  obtain ⟨bs, hbs⟩ : ∃ bb, decide (zn < zr) = bb := ⟨_, rfl⟩
  have HZ := Lib.hid hbz
  have HS := Lib.hid hbs
  clear hbz hbs
  by_cases o8 : op = 8
  · subst o8
    have HE := Lib.hid (show R = ⟨bs, bz, false⟩ by rw [← HR.out]; unfold leafS; rw [if_pos rfl]; dsimp only; rw [HS.out, HZ.out])
    clear HR
    cases bz <;> cases bs
    all_goals
      have hz := HZ.out
      have hs := HS.out
      simp only [decide_eq_true_eq, decide_eq_false_iff_not] at hz hs
      clear HZ HS
      go_wp2_with (first | (go_at_call 27; (with_reducible refine Calls.mono (one_any (t := 1) (by omega) _) ?_); rintro e w11 ⟨rfl, hb11⟩; obtain ⟨x11, rfl⟩ := Ext.of hb11; have z11a : w.heap.size < x11.it.heap.size := x11.lt (by first | assumption | (simp; done) | (simp; omega)); have z11b : w.heap.size + 1 < x11.it.heap.size := x11.lt (by first | assumption | (simp; done) | (simp; omega))) | (go_at_call 27; (with_reducible refine Calls.mono (one_any (t := 0) (by omega) _) ?_); rintro e w12 ⟨rfl, hb12⟩; obtain ⟨x12, rfl⟩ := Ext.of hb12; have z12a : w.heap.size < x12.it.heap.size := x12.lt (by first | assumption | (simp; done) | (simp; omega)); have z12b : w.heap.size + 1 < x12.it.heap.size := x12.lt (by first | assumption | (simp; done) | (simp; omega))) | (go_at_call 27; (with_reducible refine Calls.mono (one_any (t := 2) (by omega) _) ?_); rintro e w13 ⟨rfl, hb13⟩; obtain ⟨x13, rfl⟩ := Ext.of hb13; have z13a : w.heap.size < x13.it.heap.size := x13.lt (by first | assumption | (simp; done) | (simp; omega)); have z13b : w.heap.size + 1 < x13.it.heap.size := x13.lt (by first | assumption | (simp; done) | (simp; omega))))
      go_ret
      exact ⟨by rw [HE.out]; rfl, by repeat (first | with_reducible exact Below.refl _ _ | with_reducible assumption | with_reducible refine Below.al ?_ _ | with_reducible refine Below.on ?_ _ | with_reducible refine Below.st ?_ (by first | assumption | (simp; done) | (simp; omega)) _ | with_reducible refine Below.drew ?_)⟩
  · cases bs with
    | true =>
      have hs := HS.out
      simp only [decide_eq_true_eq] at hs
      clear HS
      by_cases o7 : op = 7
      · subst o7
        have LF := Lib.hid (fun (x : Ext y) => list_any ty 7 col vn n s (.slice la m lc) ls na nb zr zn an a sa bn b sb x.it (HVy.out.mono x.below x.below.size))
        obtain ⟨L, hL⟩ : ∃ L, listS ty ⟨zr, zn, ⟨an, a, sa⟩, ⟨bn, b, sb⟩⟩ ls = L := ⟨_, rfl⟩
        rw [hL] at LF
        have E : leafS ty ⟨7, col, ⟨vn, n, s⟩, ls, na, nb⟩ ⟨zr, zn, ⟨an, a, sa⟩, ⟨bn, b, sb⟩⟩ = ⟨L.f, L.t, bz || L.u⟩ := by unfold leafS; rw [if_neg (show ¬ (7 : Int) = 8 by decide), if_pos hs, if_pos rfl, hL, HZ.out]
        have OU := or_u bz L
        obtain ⟨lv, hlv⟩ : ∃ v, L.int = v := ⟨_, rfl⟩
        obtain ⟨rv, hrv⟩ : ∃ v, TS.int ⟨L.f, L.t, bz || L.u⟩ = v := ⟨_, rfl⟩
        rw [hlv] at LF OU
        rw [hrv] at OU
        have HE := Lib.hid (show R.int = rv by rw [← HR.out, E, hrv])
        have y0 := Lib.hid (LF.out ⟨y, Below.refl _ _⟩)
        clear E hL hlv hrv HR
        cases bz with
        | true =>
          have hz := HZ.out
          simp only [decide_eq_true_eq] at hz
          clear HZ
          rw [if_pos rfl] at OU
          go_upto_region 17 with (first | (go_at_call 27; (with_reducible refine Calls.mono (one_any (t := 1) (by omega) _) ?_); rintro e w11 ⟨rfl, hb11⟩; obtain ⟨x11, rfl⟩ := Ext.of hb11; have z11a : w.heap.size < x11.it.heap.size := x11.lt (by first | assumption | (simp; done) | (simp; omega)); have z11b : w.heap.size + 1 < x11.it.heap.size := x11.lt (by first | assumption | (simp; done) | (simp; omega))) | (go_at_call 27; (with_reducible refine Calls.mono (one_any (t := 0) (by omega) _) ?_); rintro e w12 ⟨rfl, hb12⟩; obtain ⟨x12, rfl⟩ := Ext.of hb12; have z12a : w.heap.size < x12.it.heap.size := x12.lt (by first | assumption | (simp; done) | (simp; omega)); have z12b : w.heap.size + 1 < x12.it.heap.size := x12.lt (by first | assumption | (simp; done) | (simp; omega))) | (go_at_call 27; (with_reducible refine Calls.mono (one_any (t := 2) (by omega) _) ?_); rintro e w13 ⟨rfl, hb13⟩; obtain ⟨x13, rfl⟩ := Ext.of hb13; have z13a : w.heap.size < x13.it.heap.size := x13.lt (by first | assumption | (simp; done) | (simp; omega)); have z13b : w.heap.size + 1 < x13.it.heap.size := x13.lt (by first | assumption | (simp; done) | (simp; omega))))
          go_wp2_with (go_at_call 47; refine Calls.mono (LF.out x13) ?_; rintro e w20 ⟨rfl, hb20⟩; obtain ⟨x20, rfl⟩ := Ext.of hb20)
          go_ret
          exact ⟨by rw [HE.out, ← OU]; rfl, by repeat (first | with_reducible exact Below.refl _ _ | with_reducible assumption | with_reducible refine Below.al ?_ _ | with_reducible refine Below.on ?_ _ | with_reducible refine Below.st ?_ (by first | assumption | (simp; done) | (simp; omega)) _ | with_reducible refine Below.drew ?_)⟩
        | false =>
          have hz := HZ.out
          simp only [decide_eq_false_iff_not] at hz
          clear HZ
          rw [if_neg (by decide)] at OU
          go_wp2_with (go_at_call 47; refine Calls.mono y0.out ?_; rintro e w20 ⟨rfl, hb20⟩; obtain ⟨x20, rfl⟩ := Ext.of hb20)
          go_ret
          exact ⟨by rw [HE.out, ← OU]; rfl, by repeat (first | with_reducible exact Below.refl _ _ | with_reducible assumption | with_reducible refine Below.al ?_ _ | with_reducible refine Below.on ?_ _ | with_reducible refine Below.st ?_ (by first | assumption | (simp; done) | (simp; omega)) _ | with_reducible refine Below.drew ?_)⟩
      · have h6 : op ≤ 6 := by omega
        have CN1 := can_any ty op zr zn an a sa bn b sb vn n s h1 h6
        have CN2 := can_any ty (oppF op) zr zn an a sa bn b sb vn n s (oppF_bd h1 h6).1 (oppF_bd h1 h6).2
        have OP := Lib.hid (fun W => opp_any h1 h6 W)
        have E : leafS ty ⟨op, col, ⟨vn, n, s⟩, ls, na, nb⟩ ⟨zr, zn, ⟨an, a, sa⟩, ⟨bn, b, sb⟩⟩ = ⟨canF ty (oppF op) ⟨zr, zn, ⟨an, a, sa⟩, ⟨bn, b, sb⟩⟩ ⟨vn, n, s⟩, canF ty op ⟨zr, zn, ⟨an, a, sa⟩, ⟨bn, b, sb⟩⟩ ⟨vn, n, s⟩, bz⟩ := by unfold leafS; rw [if_neg o8, if_pos hs, if_neg o7, ← HZ.out]
        obtain ⟨c1, hc1⟩ : ∃ bb, canF ty op ⟨zr, zn, ⟨an, a, sa⟩, ⟨bn, b, sb⟩⟩ ⟨vn, n, s⟩ = bb := ⟨_, rfl⟩
        obtain ⟨c2, hc2⟩ : ∃ bb, canF ty (oppF op) ⟨zr, zn, ⟨an, a, sa⟩, ⟨bn, b, sb⟩⟩ ⟨vn, n, s⟩ = bb := ⟨_, rfl⟩
        rw [hc1] at CN1
        rw [hc2] at CN2
        rw [hc1, hc2] at E
        obtain ⟨op2, hop2⟩ : ∃ o, oppF op = o := ⟨_, rfl⟩
        rw [hop2] at CN2 OP
        have K1 := Lib.hid CN1
        have K2 := Lib.hid CN2
        have HE := Lib.hid (HR.out.symm.trans E)
        clear CN1 CN2 hc1 hc2 hop2 E HR
        cases bz <;> cases c1
        all_goals
          have hz := HZ.out
          simp only [decide_eq_true_eq, decide_eq_false_iff_not] at hz
          clear HZ
          go_upto_region 13 with (first | (go_at_call 48; (with_reducible refine Calls.mono (K1.out _) ?_); rintro e w30 ⟨rfl, hb30⟩; obtain ⟨x30, rfl⟩ := Ext.of hb30; have z30a : w.heap.size < x30.it.heap.size := x30.lt (by first | assumption | (simp; done) | (simp; omega)); have z30b : w.heap.size + 1 < x30.it.heap.size := x30.lt (by first | assumption | (simp; done) | (simp; omega))) | (go_at_call 27; (with_reducible refine Calls.mono (one_any (t := 1) (by omega) _) ?_); rintro e w11 ⟨rfl, hb11⟩; obtain ⟨x11, rfl⟩ := Ext.of hb11; have z11a : w.heap.size < x11.it.heap.size := x11.lt (by first | assumption | (simp; done) | (simp; omega)); have z11b : w.heap.size + 1 < x11.it.heap.size := x11.lt (by first | assumption | (simp; done) | (simp; omega))) | (go_at_call 27; (with_reducible refine Calls.mono (one_any (t := 0) (by omega) _) ?_); rintro e w12 ⟨rfl, hb12⟩; obtain ⟨x12, rfl⟩ := Ext.of hb12; have z12a : w.heap.size < x12.it.heap.size := x12.lt (by first | assumption | (simp; done) | (simp; omega)); have z12b : w.heap.size + 1 < x12.it.heap.size := x12.lt (by first | assumption | (simp; done) | (simp; omega))) | (go_at_call 27; (with_reducible refine Calls.mono (one_any (t := 2) (by omega) _) ?_); rintro e w13 ⟨rfl, hb13⟩; obtain ⟨x13, rfl⟩ := Ext.of hb13; have z13a : w.heap.size < x13.it.heap.size := x13.lt (by first | assumption | (simp; done) | (simp; omega)); have z13b : w.heap.size + 1 < x13.it.heap.size := x13.lt (by first | assumption | (simp; done) | (simp; omega))))
          refine wp_region_ext (by kernel_rfl) (by kernel_rfl) ?_
          repeat (go_big_quiet_step (((first | (go_at_call 49; exact Calls.ext (OP.out _)) | (go_at_call 48; (with_reducible exact Calls.ext (K2.out _)))))))
          refine wpQuiet_nil ?_
          rintro _ ⟨x40, rfl⟩
          have z40a : w.heap.size < x40.it.heap.size := by first | exact x40.lt z11a | exact x40.lt z30a
          have z40b : w.heap.size + 1 < x40.it.heap.size := by first | exact x40.lt z11b | exact x40.lt z30b
          cases c2
          all_goals
            go_wp2_with (first | (go_at_call 27; (with_reducible refine Calls.mono (one_any (t := 1) (by omega) _) ?_); rintro e w11 ⟨rfl, hb11⟩; obtain ⟨x11, rfl⟩ := Ext.of hb11; have z11a : w.heap.size < x11.it.heap.size := x11.lt (by first | assumption | (simp; done) | (simp; omega)); have z11b : w.heap.size + 1 < x11.it.heap.size := x11.lt (by first | assumption | (simp; done) | (simp; omega))) | (go_at_call 27; (with_reducible refine Calls.mono (one_any (t := 0) (by omega) _) ?_); rintro e w12 ⟨rfl, hb12⟩; obtain ⟨x12, rfl⟩ := Ext.of hb12; have z12a : w.heap.size < x12.it.heap.size := x12.lt (by first | assumption | (simp; done) | (simp; omega)); have z12b : w.heap.size + 1 < x12.it.heap.size := x12.lt (by first | assumption | (simp; done) | (simp; omega))) | (go_at_call 27; (with_reducible refine Calls.mono (one_any (t := 2) (by omega) _) ?_); rintro e w13 ⟨rfl, hb13⟩; obtain ⟨x13, rfl⟩ := Ext.of hb13; have z13a : w.heap.size < x13.it.heap.size := x13.lt (by first | assumption | (simp; done) | (simp; omega)); have z13b : w.heap.size + 1 < x13.it.heap.size := x13.lt (by first | assumption | (simp; done) | (simp; omega))))
            go_ret
            exact ⟨by rw [HE.out]; rfl, by repeat (first | with_reducible exact Below.refl _ _ | with_reducible assumption | with_reducible refine Below.al ?_ _ | with_reducible refine Below.on ?_ _ | with_reducible refine Below.st ?_ (by first | assumption | (simp; done) | (simp; omega)) _ | with_reducible refine Below.drew ?_)⟩
    | false =>
      have hs := HS.out
      simp only [decide_eq_false_iff_not] at hs
      have E : leafS ty ⟨op, col, ⟨vn, n, s⟩, ls, na, nb⟩ ⟨zr, zn, ⟨an, a, sa⟩, ⟨bn, b, sb⟩⟩ = ⟨false, false, bz⟩ := by unfold leafS; rw [if_neg o8, if_neg hs, ← HZ.out]
      have HE := Lib.hid (HR.out.symm.trans E)
      clear E HR HS
      cases bz
      all_goals
        have hz := HZ.out
        simp only [decide_eq_true_eq, decide_eq_false_iff_not] at hz
        clear HZ
        go_wp2_with (first | (go_at_call 27; (with_reducible refine Calls.mono (one_any (t := 1) (by omega) _) ?_); rintro e w11 ⟨rfl, hb11⟩; obtain ⟨x11, rfl⟩ := Ext.of hb11; have z11a : w.heap.size < x11.it.heap.size := x11.lt (by first | assumption | (simp; done) | (simp; omega)); have z11b : w.heap.size + 1 < x11.it.heap.size := x11.lt (by first | assumption | (simp; done) | (simp; omega))) | (go_at_call 27; (with_reducible refine Calls.mono (one_any (t := 0) (by omega) _) ?_); rintro e w12 ⟨rfl, hb12⟩; obtain ⟨x12, rfl⟩ := Ext.of hb12; have z12a : w.heap.size < x12.it.heap.size := x12.lt (by first | assumption | (simp; done) | (simp; omega)); have z12b : w.heap.size + 1 < x12.it.heap.size := x12.lt (by first | assumption | (simp; done) | (simp; omega))) | (go_at_call 27; (with_reducible refine Calls.mono (one_any (t := 2) (by omega) _) ?_); rintro e w13 ⟨rfl, hb13⟩; obtain ⟨x13, rfl⟩ := Ext.of hb13; have z13a : w.heap.size < x13.it.heap.size := x13.lt (by first | assumption | (simp; done) | (simp; omega)); have z13b : w.heap.size + 1 < x13.it.heap.size := x13.lt (by first | assumption | (simp; done) | (simp; omega))))
        go_ret
        exact ⟨by rw [HE.out]; rfl, by repeat (first | with_reducible exact Below.refl _ _ | with_reducible assumption | with_reducible refine Below.al ?_ _ | with_reducible refine Below.on ?_ _ | with_reducible refine Below.st ?_ (by first | assumption | (simp; done) | (simp; omega)) _ | with_reducible refine Below.drew ?_)⟩
end Go.Proofs.Ytfemekmkmiljdaa
