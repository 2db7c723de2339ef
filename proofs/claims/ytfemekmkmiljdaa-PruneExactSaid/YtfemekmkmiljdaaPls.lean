/-
  CHAPTER 24: leafSet of the reference. Conditions: the list of a node lies in memory; the operator belongs to a column.
-/
import Derived.Test.YtfemekmkmiljdaaPlf
set_option linter.unusedVariables false
set_option linter.unusedSimpArgs false
namespace Go.Proofs.Ytfemekmkmiljdaa
open Go.RowKit
def addI (s : TS) (t : Int) (b : Bool) : TS := if b = true then s.add t else s
theorem addI_any (s : TS) {t : Int} (h : t = 0 ∨ t = 1 ∨ t = 2) (b : Bool) {n n' : Int} (hn : s.int = n) (hn' : (addI s t b).int = n') (w : World) : Calls Try.prog 51 #[.int .i64 n, .int .i64 t, .bool b] w fun e w' => e = .returned (.int .i64 n') ∧ Below w.heap.size w w' := by
  subst hn hn'
  have h := add_any s h b w
  have e : (if b = true then (s.add t).int else s.int) = (addI s t b).int := by unfold addI; split <;> rfl
  rw [e] at h
  exact h
set_option maxRecDepth 8000 in
set_option maxHeartbeats 1000000 in
theorem leafSet_any (ty : Int) (op col : Int) (vn : Bool) (n : Int) (s : ByteArray) (lv : Value) (ls : List Val) (na nb : Int) (zr zn : Int) (an : Bool) (a : Int) (sa : ByteArray) (bn : Bool) (b : Int) (sb : ByteArray) (w : World) (hv : ValsAt w w.heap.size lv ls) (h1 : 1 ≤ op) (h8 : op ≤ 8) :
    Calls Try.prog 54 #[.int .i64 ty, .agg #[.int .i64 op, .int .i64 col, .bool vn, .int .i64 n, .string s, lv, .int .i64 na, .int .i64 nb], .agg #[.int .i64 zr, .int .i64 zn, .bool an, .int .i64 a, .string sa, .bool bn, .int .i64 b, .string sb]] w fun e w' => e = .returned (.int .i64 (leafS ty ⟨op, col, ⟨vn, n, s⟩, ls, na, nb⟩ ⟨zr, zn, ⟨an, a, sa⟩, ⟨bn, b, sb⟩⟩).int) ∧ Below w.heap.size w w' := by
  obtain ⟨la, lc, rfl⟩ := vals_end hv
  obtain ⟨R, hR⟩ : ∃ R, leafS ty ⟨op, col, ⟨vn, n, s⟩, ls, na, nb⟩ ⟨zr, zn, ⟨an, a, sa⟩, ⟨bn, b, sb⟩⟩ = R := ⟨_, rfl⟩
  rw [hR]
  have HR := Lib.hid hR
  have HV := Lib.hid hv
  obtain ⟨m, hm⟩ : ∃ m, ls.length = m := ⟨_, rfl⟩
  have HM := Lib.hid hm
  have m63 := hv.1
  rw [hm] at HV m63 ⊢
  clear hR hv hm
  go_enter Try.func54, Try.ntmps54
  go_upto_region 1 with fail
  refine captureM ?_
  intro y ey
  have yb : Below w.heap.size w y := by rw [ey]; exact (by repeat (first | with_reducible exact Below.refl _ _ | with_reducible assumption | with_reducible refine Below.al ?_ _ | with_reducible refine Below.on ?_ _ | with_reducible refine Below.st ?_ (by first | assumption | (simp; done) | (simp; omega)) _ | with_reducible refine Below.drew ?_))
  have p0 : y.cell? ⟨w.heap.size, 0, none⟩ = some (.int .i64 op) := by rw [ey]; simp (maxDischargeDepth := 9) [go_sem, *]
  have p1 : y.cell? ⟨w.heap.size, 1, none⟩ = some (.int .i64 col) := by rw [ey]; simp (maxDischargeDepth := 9) [go_sem, *]
  have p2 : y.cell? ⟨w.heap.size, 2, none⟩ = some (.bool vn) := by rw [ey]; simp (maxDischargeDepth := 9) [go_sem, *]
  have p3 : y.cell? ⟨w.heap.size, 3, none⟩ = some (.int .i64 n) := by rw [ey]; simp (maxDischargeDepth := 9) [go_sem, *]
  have p4 : y.cell? ⟨w.heap.size, 4, none⟩ = some (.string s) := by rw [ey]; simp (maxDischargeDepth := 9) [go_sem, *]
  have p5 : y.cell? ⟨w.heap.size, 5, none⟩ = some (.slice la m lc) := by rw [ey]; simp (maxDischargeDepth := 9) [go_sem, *]
  have p6 : y.cell? ⟨w.heap.size, 6, none⟩ = some (.int .i64 na) := by rw [ey]; simp (maxDischargeDepth := 9) [go_sem, *]
  have p7 : y.cell? ⟨w.heap.size, 7, none⟩ = some (.int .i64 nb) := by rw [ey]; simp (maxDischargeDepth := 9) [go_sem, *]
  have q0 : y.cell? ⟨w.heap.size + 1, 0, none⟩ = some (.int .i64 zr) := by rw [ey]; simp (maxDischargeDepth := 9) [go_sem, *]
  have q1 : y.cell? ⟨w.heap.size + 1, 1, none⟩ = some (.int .i64 zn) := by rw [ey]; simp (maxDischargeDepth := 9) [go_sem, *]
  have q2 : y.cell? ⟨w.heap.size + 1, 2, none⟩ = some (.bool an) := by rw [ey]; simp (maxDischargeDepth := 9) [go_sem, *]
  have q3 : y.cell? ⟨w.heap.size + 1, 3, none⟩ = some (.int .i64 a) := by rw [ey]; simp (maxDischargeDepth := 9) [go_sem, *]
  have q4 : y.cell? ⟨w.heap.size + 1, 4, none⟩ = some (.string sa) := by rw [ey]; simp (maxDischargeDepth := 9) [go_sem, *]
  have q5 : y.cell? ⟨w.heap.size + 1, 5, none⟩ = some (.bool bn) := by rw [ey]; simp (maxDischargeDepth := 9) [go_sem, *]
  have q6 : y.cell? ⟨w.heap.size + 1, 6, none⟩ = some (.int .i64 b) := by rw [ey]; simp (maxDischargeDepth := 9) [go_sem, *]
  have q7 : y.cell? ⟨w.heap.size + 1, 7, none⟩ = some (.string sb) := by rw [ey]; simp (maxDischargeDepth := 9) [go_sem, *]
  have yz : w.heap.size < y.heap.size := by rw [ey]; simp; omega
  have yz1 : w.heap.size + 1 < y.heap.size := by rw [ey]; simp
  have HVy := Lib.hid (HV.out.mono yb yb.size)
  clear ey HV
  obtain ⟨bz, hbz⟩ : ∃ bb, decide (0 < zn) = bb := ⟨_, rfl⟩
  obtain ⟨bs, hbs⟩ : ∃ bb, decide (zn < zr) = bb := ⟨_, rfl⟩
  have HZ := Lib.hid hbz
  have HS := Lib.hid hbs
  clear hbz hbs
  by_cases o8 : op = 8
  · subst o8
    have HE := Lib.hid (show R = ⟨bs, bz, false⟩ by rw [← HR.out]; unfold leafS; rw [if_pos rfl]; dsimp only; rw [HS.out, HZ.out])
    obtain ⟨v1, hv1⟩ : ∃ v, (addI TS.non 1 bz).int = v := ⟨_, rfl⟩
    obtain ⟨v2, hv2⟩ : ∃ v, (addI (addI TS.non 1 bz) 0 bs).int = v := ⟨_, rfl⟩
    have A1 := Lib.hid (fun W => addI_any TS.non (t := 1) (.inr (.inl rfl)) bz (n := 0) rfl hv1 W)
    have A2 := Lib.hid (fun W => addI_any (addI TS.non 1 bz) (t := 0) (.inl rfl) bs hv1 hv2 W)
    have HF := Lib.hid (show R.int = v2 by rw [HE.out, ← hv2]; cases bz <;> cases bs <;> rfl)
    clear HR hv1 hv2
    cases bz <;> cases bs
    all_goals
      have hz := HZ.out
      have hs := HS.out
      simp only [decide_eq_true_eq, decide_eq_false_iff_not] at hz hs
      clear HZ HS
      go_wp2_with (first | (go_at_call 51; (with_reducible refine Calls.mono (A1.out _) ?_); rintro e w11 ⟨rfl, hb11⟩; obtain ⟨x11, rfl⟩ := Ext.of hb11; have z11a : w.heap.size < x11.it.heap.size := x11.lt (by first | assumption | (simp; done) | (simp; omega)); have z11b : w.heap.size + 1 < x11.it.heap.size := x11.lt (by first | assumption | (simp; done) | (simp; omega))) | (go_at_call 51; (with_reducible refine Calls.mono (A2.out _) ?_); rintro e w12 ⟨rfl, hb12⟩; obtain ⟨x12, rfl⟩ := Ext.of hb12; have z12a : w.heap.size < x12.it.heap.size := x12.lt (by first | assumption | (simp; done) | (simp; omega)); have z12b : w.heap.size + 1 < x12.it.heap.size := x12.lt (by first | assumption | (simp; done) | (simp; omega))))
      go_ret
      exact ⟨by rw [HF.out]; rfl, by repeat (first | with_reducible exact Below.refl _ _ | with_reducible assumption | with_reducible refine Below.al ?_ _ | with_reducible refine Below.on ?_ _ | with_reducible refine Below.st ?_ (by first | assumption | (simp; done) | (simp; omega)) _ | with_reducible refine Below.drew ?_)⟩
  · obtain ⟨v0, hv0⟩ : ∃ v, (addI TS.non 2 bz).int = v := ⟨_, rfl⟩
    have A0 := Lib.hid (fun W => addI_any TS.non (t := 2) (.inr (.inr rfl)) bz (n := 0) rfl hv0 W)
    have HV0 := Lib.hid hv0
    clear hv0
    cases bs with
    | false =>
      have hs := HS.out
      simp only [decide_eq_false_iff_not] at hs
      have E : leafS ty ⟨op, col, ⟨vn, n, s⟩, ls, na, nb⟩ ⟨zr, zn, ⟨an, a, sa⟩, ⟨bn, b, sb⟩⟩ = ⟨false, false, bz⟩ := by unfold leafS; rw [if_neg o8, if_neg hs, ← HZ.out]
      have HF := Lib.hid (show R.int = v0 by rw [← HR.out, E, ← HV0.out]; cases bz <;> rfl)
      clear E HR HS
      cases bz
      all_goals
        have hz := HZ.out
        simp only [decide_eq_true_eq, decide_eq_false_iff_not] at hz
        clear HZ
        go_wp2_with (go_at_call 51; (with_reducible refine Calls.mono (A0.out _) ?_); rintro e w10 ⟨rfl, hb10⟩; obtain ⟨x10, rfl⟩ := Ext.of hb10; have z10a : w.heap.size < x10.it.heap.size := x10.lt (by first | assumption | (simp; done) | (simp; omega)); have z10b : w.heap.size + 1 < x10.it.heap.size := x10.lt (by first | assumption | (simp; done) | (simp; omega)))
        go_ret
        exact ⟨by rw [HF.out]; rfl, by repeat (first | with_reducible exact Below.refl _ _ | with_reducible assumption | with_reducible refine Below.al ?_ _ | with_reducible refine Below.on ?_ _ | with_reducible refine Below.st ?_ (by first | assumption | (simp; done) | (simp; omega)) _ | with_reducible refine Below.drew ?_)⟩
    | true =>
      have hs := HS.out
      simp only [decide_eq_true_eq] at hs
      clear HS
      have HZ2 := HZ
      by_cases o7 : op = 7
      · subst o7
        have HE := Lib.hid (show R = ⟨(listS ty ⟨zr, zn, ⟨an, a, sa⟩, ⟨bn, b, sb⟩⟩ ls).f, (listS ty ⟨zr, zn, ⟨an, a, sa⟩, ⟨bn, b, sb⟩⟩ ls).t, bz || (listS ty ⟨zr, zn, ⟨an, a, sa⟩, ⟨bn, b, sb⟩⟩ ls).u⟩ by rw [← HR.out]; unfold leafS; rw [if_neg (show ¬ (7 : Int) = 8 by decide), if_pos hs, if_pos rfl, HZ.out])
        obtain ⟨T, hT⟩ : ∃ T : TS, addI TS.non 2 bz = T := ⟨_, rfl⟩
        rw [hT] at HV0
        have HT := Lib.hid hT
        have CB := Lib.hid (fun W => (comparisonB_any 7 W : Calls Try.prog 72 #[.int .i64 7] W fun e w' => e = .returned (.bool false) ∧ Below W.heap.size W w'))
        have A0' := Lib.hid (fun W => (by rw [HZ.out]; exact A0.out W : Calls Try.prog 51 #[.int .i64 0, .int .i64 2, .bool (decide (0 < zn))] W fun e w' => e = .returned (.int .i64 v0) ∧ Below W.heap.size W w'))
        clear HR hT A0 HZ HZ2
        go_upto_region 10 with (first | (go_at_call 72; (with_reducible refine Calls.mono (CB.out _) ?_); rintro e w15 ⟨rfl, hb15⟩; obtain ⟨x15, rfl⟩ := Ext.of hb15; have z15a : w.heap.size < x15.it.heap.size := x15.lt (by first | assumption | (simp; done) | (simp; omega)); have z15b : w.heap.size + 1 < x15.it.heap.size := x15.lt (by first | assumption | (simp; done) | (simp; omega))) | (go_at_call 51; (with_reducible refine Calls.mono (A0'.out _) ?_); rintro e w10 ⟨rfl, hb10⟩; obtain ⟨x10, rfl⟩ := Ext.of hb10; have z10a : w.heap.size < x10.it.heap.size := x10.lt (by first | assumption | (simp; done) | (simp; omega)); have z10b : w.heap.size + 1 < x10.it.heap.size := x10.lt (by first | assumption | (simp; done) | (simp; omega))))
        refine captureM ?_
        intro Y eY
        have Yb : Below y.heap.size y Y := by rw [eY]; exact (by repeat (first | with_reducible exact Below.refl _ _ | with_reducible assumption | with_reducible refine Below.al ?_ _ | with_reducible refine Below.on ?_ _ | with_reducible refine Below.st ?_ (by first | assumption | (simp; done) | (simp; omega)) _ | with_reducible refine Below.drew ?_))
        have r0 := (Yb.cell (p := ⟨w.heap.size + 1, 0, none⟩) yz1).trans q0
        have r1 := (Yb.cell (p := ⟨w.heap.size + 1, 1, none⟩) yz1).trans q1
        have r2 := (Yb.cell (p := ⟨w.heap.size + 1, 2, none⟩) yz1).trans q2
        have r3 := (Yb.cell (p := ⟨w.heap.size + 1, 3, none⟩) yz1).trans q3
        have r4 := (Yb.cell (p := ⟨w.heap.size + 1, 4, none⟩) yz1).trans q4
        have r5' := (Yb.cell (p := ⟨w.heap.size + 1, 5, none⟩) yz1).trans q5
        have r6 := (Yb.cell (p := ⟨w.heap.size + 1, 6, none⟩) yz1).trans q6
        have r7 := (Yb.cell (p := ⟨w.heap.size + 1, 7, none⟩) yz1).trans q7
        have r5 := (Yb.cell (p := ⟨w.heap.size, 5, none⟩) yz).trans p5
        have Yz : w.heap.size < Y.heap.size := Nat.lt_of_lt_of_le yz Yb.size
        have Yz1 : w.heap.size + 1 < Y.heap.size := Nat.lt_of_lt_of_le yz1 Yb.size
        have YB : Below w.heap.size w Y := yb.trans (Yb.mono yb.size)
        have HVY := Lib.hid (HVy.out.mono Yb Yb.size)
        clear eY p0 p1 p2 p3 p4 p5 p6 p7 q0 q1 q2 q3 q4 q5 q6 q7 yz yz1 yb Yb HVy
        generalize w.heap.size + 1 = ZB at *
        go_wp2_with fail
        go_loopg [9, 10, 11, 60] m (fun g s9 s10 s11 st wr => ∃ k : Nat, k + g = m ∧ st = .int .i64 (k : Int) ∧ s9 = .bool (yesF ty ⟨zr, zn, ⟨an, a, sa⟩, ⟨bn, b, sb⟩⟩ (ls.take k)) ∧ s10 = .bool (allF ty ⟨zr, zn, ⟨an, a, sa⟩, ⟨bn, b, sb⟩⟩ (ls.take k)) ∧ s11 = .bool (nulF (ls.take k)) ∧ ∃ x : Ext Y, x.it = wr)
        case atStart => exact ⟨0, by omega, rfl, rfl, rfl, rfl, ⟨Y, Below.refl _ _⟩, rfl⟩
        case round =>
          obtain ⟨k, hk, rfl, rfl, rfl, rfl, x, rfl⟩ := hrel
          have hx := x.below
          have hxw : Below w.heap.size w x.it := YB.trans (hx.mono YB.size)
          by_cases hg0 : gk = 0
          · subst hg0
            obtain rfl : k = m := by omega
            have TK : ls.take k = ls := List.take_of_length_le (by rw [HM.out]; exact Nat.le_refl _)
            rw [TK]
            have E : R = ⟨!allF ty ⟨zr, zn, ⟨an, a, sa⟩, ⟨bn, b, sb⟩⟩ ls && !nulF ls, yesF ty ⟨zr, zn, ⟨an, a, sa⟩, ⟨bn, b, sb⟩⟩ ls, bz || (!allF ty ⟨zr, zn, ⟨an, a, sa⟩, ⟨bn, b, sb⟩⟩ ls && nulF ls)⟩ := HE.out
            obtain ⟨yk, hyk⟩ : ∃ bb, yesF ty ⟨zr, zn, ⟨an, a, sa⟩, ⟨bn, b, sb⟩⟩ ls = bb := ⟨_, rfl⟩
            obtain ⟨nk, hnk⟩ : ∃ bb, nulF ls = bb := ⟨_, rfl⟩
            obtain ⟨ak, hak⟩ : ∃ bb, allF ty ⟨zr, zn, ⟨an, a, sa⟩, ⟨bn, b, sb⟩⟩ ls = bb := ⟨_, rfl⟩
            rw [hyk, hnk, hak] at E
            rw [hyk, hnk, hak]
            obtain ⟨v1, hv1⟩ : ∃ v, (addI T 1 yk).int = v := ⟨_, rfl⟩
            have A1 := Lib.hid (fun W => addI_any T (t := 1) (.inr (.inl rfl)) yk HV0.out hv1 W)
            clear hk TK hyk hnk hak HE
            cases nk with
            | true =>
              obtain ⟨v2, hv2⟩ : ∃ v, (addI (addI T 1 yk) 2 (!ak)).int = v := ⟨_, rfl⟩
              have A2 := Lib.hid (fun W => addI_any (addI T 1 yk) (t := 2) (.inr (.inr rfl)) (!ak) hv1 hv2 W)
              have HF := Lib.hid (show R.int = v2 by rw [E, ← hv2, ← HT.out]; cases bz <;> cases yk <;> cases ak <;> rfl)
              clear E hv1 hv2
              go_wp2_with (first | (go_at_call 51; (with_reducible refine Calls.mono (A1.out _) ?_); rintro e w11 ⟨rfl, hb11⟩; obtain ⟨x11, rfl⟩ := Ext.of hb11) | (go_at_call 51; (with_reducible refine Calls.mono (A2.out _) ?_); rintro e w12 ⟨rfl, hb12⟩; obtain ⟨x12, rfl⟩ := Ext.of hb12))
              go_ret
              exact ⟨by rw [HF.out]; rfl, by repeat (first | with_reducible exact Below.refl _ _ | with_reducible assumption | with_reducible refine Below.al ?_ _ | with_reducible refine Below.on ?_ _ | with_reducible refine Below.st ?_ (by first | assumption | (simp; done) | (simp; omega)) _ | with_reducible refine Below.drew ?_)⟩
            | false =>
              obtain ⟨v2, hv2⟩ : ∃ v, (addI (addI T 1 yk) 0 (!ak)).int = v := ⟨_, rfl⟩
              have A2 := Lib.hid (fun W => addI_any (addI T 1 yk) (t := 0) (.inl rfl) (!ak) hv1 hv2 W)
              have HF := Lib.hid (show R.int = v2 by rw [E, ← hv2, ← HT.out]; cases bz <;> cases yk <;> cases ak <;> rfl)
              clear E hv1 hv2
              go_wp2_with (first | (go_at_call 51; (with_reducible refine Calls.mono (A1.out _) ?_); rintro e w11 ⟨rfl, hb11⟩; obtain ⟨x11, rfl⟩ := Ext.of hb11) | (go_at_call 51; (with_reducible refine Calls.mono (A2.out _) ?_); rintro e w12 ⟨rfl, hb12⟩; obtain ⟨x12, rfl⟩ := Ext.of hb12))
              go_ret
              exact ⟨by rw [HF.out]; rfl, by repeat (first | with_reducible exact Below.refl _ _ | with_reducible assumption | with_reducible refine Below.al ?_ _ | with_reducible refine Below.on ?_ _ | with_reducible refine Below.st ?_ (by first | assumption | (simp; done) | (simp; omega)) _ | with_reducible refine Below.drew ?_)⟩
          · have hkm : k < m := by omega
            have hkm' : (k : Int) < (m : Int) := by omega
            have hkl : k < ls.length := by rw [HM.out]; exact hkm
            obtain ⟨rb, ro, rfl, _, hrb, d0, d1, d2⟩ := vals_in HVY.out hkl
            have Y1 : yesF ty ⟨zr, zn, ⟨an, a, sa⟩, ⟨bn, b, sb⟩⟩ (ls.take (k + 1)) = _ := any_succ hkl
            have N1 : nulF (ls.take (k + 1)) = _ := any_succ hkl
            have A1 : allF ty ⟨zr, zn, ⟨an, a, sa⟩, ⟨bn, b, sb⟩⟩ (ls.take (k + 1)) = _ := any_succ hkl
            obtain ⟨u, hu⟩ : ∃ u, ls[k]'hkl = u := ⟨_, rfl⟩
            rw [hu] at d0 d1 d2 Y1 N1 A1
            obtain ⟨un, ui, us⟩ := u
            dsimp only at d0 d1 d2 Y1 N1 A1
            have CN1 := inside_any ty zr zn an a sa bn b sb un ui us
            have CN2 := single_any ty zr zn an a sa bn b sb un ui us
            obtain ⟨c1, hc1⟩ : ∃ bb, canF ty 1 ⟨zr, zn, ⟨an, a, sa⟩, ⟨bn, b, sb⟩⟩ ⟨un, ui, us⟩ = bb := ⟨_, rfl⟩
            obtain ⟨c2, hc2⟩ : ∃ bb, (!canF ty 2 ⟨zr, zn, ⟨an, a, sa⟩, ⟨bn, b, sb⟩⟩ ⟨un, ui, us⟩) = bb := ⟨_, rfl⟩
            rw [hc1] at CN1 Y1
            rw [hc2] at CN2 A1
            obtain ⟨yk, hyk⟩ : ∃ bb, yesF ty ⟨zr, zn, ⟨an, a, sa⟩, ⟨bn, b, sb⟩⟩ (ls.take k) = bb := ⟨_, rfl⟩
            obtain ⟨nk, hnk⟩ : ∃ bb, nulF (ls.take k) = bb := ⟨_, rfl⟩
            obtain ⟨ak, hak⟩ : ∃ bb, allF ty ⟨zr, zn, ⟨an, a, sa⟩, ⟨bn, b, sb⟩⟩ (ls.take k) = bb := ⟨_, rfl⟩
            have hyk' : ((ls.take k).any fun v => !v.null && canF ty 1 ⟨zr, zn, ⟨an, a, sa⟩, ⟨bn, b, sb⟩⟩ v) = yk := hyk
            have hnk' : ((ls.take k).any fun v => v.null) = nk := hnk
            have hak' : ((ls.take k).any fun v => !v.null && !canF ty 2 ⟨zr, zn, ⟨an, a, sa⟩, ⟨bn, b, sb⟩⟩ v) = ak := hak
            rw [hyk'] at Y1
            rw [hnk'] at N1
            rw [hak'] at A1
            rw [hyk, hnk, hak]
            have g0 := (hx.cell (p := ⟨rb, ro + k * 3, none⟩) hrb).trans d0
            have g1 := (hx.cell (p := ⟨rb, ro + k * 3 + 1, none⟩) hrb).trans d1
            have g2 := (hx.cell (p := ⟨rb, ro + k * 3 + 2, none⟩) hrb).trans d2
            have zr' : rb < x.it.heap.size := Nat.lt_of_lt_of_le hrb hx.size
            have hc1' := Lib.hid CN1
            have hc2' := Lib.hid CN2
            have HRR := Lib.hid (And.intro Y1 (And.intro N1 A1))
            have HK := Lib.hid (And.intro hk hg0)
            have s0 := (x.cell ZB 0 Yz1).trans r0
            have s1 := (x.cell ZB 1 Yz1).trans r1
            have s2 := (x.cell ZB 2 Yz1).trans r2
            have s3 := (x.cell ZB 3 Yz1).trans r3
            have s4 := (x.cell ZB 4 Yz1).trans r4
            have s5 := (x.cell ZB 5 Yz1).trans r5'
            have s6 := (x.cell ZB 6 Yz1).trans r6
            have s7 := (x.cell ZB 7 Yz1).trans r7
            have xz1 := x.lt Yz1
            clear d0 d1 d2 hu hc1 hc2 hyk hnk hak hyk' hnk' hak' CN1 CN2 Y1 N1 A1 hk hg0 r0 r1 r2 r3 r4 r5' r6 r7 r5
            go_upto_region 13 with fail
            refine captureM ?_
            intro v ev
            have vb : Below x.it.heap.size x.it v := by rw [ev]; exact (by repeat (first | with_reducible exact Below.refl _ _ | with_reducible assumption | with_reducible refine Below.al ?_ _ | with_reducible refine Below.on ?_ _ | with_reducible refine Below.st ?_ (by first | assumption | (simp; done) | (simp; omega)) _ | with_reducible refine Below.drew ?_))
            have v0' : v.cell? ⟨x.it.heap.size, 0, none⟩ = some (.bool un) := by rw [ev]; simp (maxDischargeDepth := 9) [go_sem, *]
            have v1 : v.cell? ⟨x.it.heap.size, 1, none⟩ = some (.int .i64 ui) := by rw [ev]; simp (maxDischargeDepth := 9) [go_sem, *]
            have v2 : v.cell? ⟨x.it.heap.size, 2, none⟩ = some (.string us) := by rw [ev]; simp (maxDischargeDepth := 9) [go_sem, *]
            have vz : x.it.heap.size < v.heap.size := by rw [ev]; simp
            have t0 := (vb.cell (p := ⟨ZB, 0, none⟩) xz1).trans s0
            have t1 := (vb.cell (p := ⟨ZB, 1, none⟩) xz1).trans s1
            have t2 := (vb.cell (p := ⟨ZB, 2, none⟩) xz1).trans s2
            have t3 := (vb.cell (p := ⟨ZB, 3, none⟩) xz1).trans s3
            have t4 := (vb.cell (p := ⟨ZB, 4, none⟩) xz1).trans s4
            have t5 := (vb.cell (p := ⟨ZB, 5, none⟩) xz1).trans s5
            have t6 := (vb.cell (p := ⟨ZB, 6, none⟩) xz1).trans s6
            have t7 := (vb.cell (p := ⟨ZB, 7, none⟩) xz1).trans s7
            have vz1 : ZB < v.heap.size := by omega
            have VB := Lib.hid (hx.trans (vb.mono hx.size))
            clear ev s0 s1 s2 s3 s4 s5 s6 s7 g0 g1 g2
            generalize x.it.heap.size = XS at *
            cases un with
            | true =>
              cases nk <;> cases yk <;> cases ak
              all_goals
                go_wp2
                have VBO := VB.out
                go_roundg (gk - 1)
                case measure => have := HK.out; omega
                case rel => exact ⟨k + 1, by have := HK.out; omega, by go_num, by rw [HRR.out.1]; rfl, by rw [HRR.out.2.2]; rfl, by rw [HRR.out.2.1]; rfl, ⟨_, by repeat (first | with_reducible exact Below.refl _ _ | with_reducible assumption | with_reducible refine Below.al ?_ _ | with_reducible refine Below.on ?_ _ | with_reducible refine Below.st ?_ (by first | assumption | (simp; done) | (simp; omega)) _ | with_reducible refine Below.drew ?_)⟩, rfl⟩
            | false =>
              cases nk <;> cases yk <;> cases c1 <;> cases ak <;> cases c2
              all_goals
                go_wp2_with (first | (go_at_call 75; (with_reducible refine Calls.mono (hc1'.out _) ?_); rintro e w21 ⟨rfl, hb21⟩; obtain ⟨x21, rfl⟩ := Ext.of hb21; have r21a : ZB < x21.it.heap.size := x21.lt (by first | assumption | (simp; done) | (simp; omega)); have r21b : XS < x21.it.heap.size := x21.lt (by first | assumption | (simp; done) | (simp; omega))) | (go_at_call 76; (with_reducible refine Calls.mono (hc2'.out _) ?_); rintro e w22 ⟨rfl, hb22⟩; obtain ⟨x22, rfl⟩ := Ext.of hb22; have r22a : ZB < x22.it.heap.size := x22.lt (by first | assumption | (simp; done) | (simp; omega)); have r22b : XS < x22.it.heap.size := x22.lt (by first | assumption | (simp; done) | (simp; omega))))
                have VBO := VB.out
                go_roundg (gk - 1)
                case measure => have := HK.out; omega
                case rel => exact ⟨k + 1, by have := HK.out; omega, by go_num, by rw [HRR.out.1]; rfl, by rw [HRR.out.2.2]; rfl, by rw [HRR.out.2.1]; rfl, ⟨_, by repeat (first | with_reducible exact Below.refl _ _ | with_reducible assumption | with_reducible refine Below.al ?_ _ | with_reducible refine Below.on ?_ _ | with_reducible refine Below.st ?_ (by first | assumption | (simp; done) | (simp; omega)) _ | with_reducible refine Below.drew ?_)⟩, rfl⟩
      · have h6 : op ≤ 6 := by omega
        have d16 : (decide (1 ≤ op) && decide (op ≤ 6)) = true := by simp [h1, h6]
        have CN1 := refcan_any ty op zr zn an a sa bn b sb vn n s h1 h6
        have CN2 := refcan_any ty (oppF op) zr zn an a sa bn b sb vn n s (oppF_bd h1 h6).1 (oppF_bd h1 h6).2
        have OP := Lib.hid (fun W => opp_ref h1 h6 W)
        have CB := Lib.hid (fun W => (by have h := comparisonB_any op W; rw [d16] at h; exact h : Calls Try.prog 72 #[.int .i64 op] W fun e w' => e = .returned (.bool true) ∧ Below W.heap.size W w'))
        have E : leafS ty ⟨op, col, ⟨vn, n, s⟩, ls, na, nb⟩ ⟨zr, zn, ⟨an, a, sa⟩, ⟨bn, b, sb⟩⟩ = ⟨canF ty (oppF op) ⟨zr, zn, ⟨an, a, sa⟩, ⟨bn, b, sb⟩⟩ ⟨vn, n, s⟩, canF ty op ⟨zr, zn, ⟨an, a, sa⟩, ⟨bn, b, sb⟩⟩ ⟨vn, n, s⟩, bz⟩ := by unfold leafS; rw [if_neg o8, if_pos hs, if_neg o7, ← HZ.out]
        obtain ⟨c1, hc1⟩ : ∃ bb, canF ty op ⟨zr, zn, ⟨an, a, sa⟩, ⟨bn, b, sb⟩⟩ ⟨vn, n, s⟩ = bb := ⟨_, rfl⟩
        obtain ⟨c2, hc2⟩ : ∃ bb, canF ty (oppF op) ⟨zr, zn, ⟨an, a, sa⟩, ⟨bn, b, sb⟩⟩ ⟨vn, n, s⟩ = bb := ⟨_, rfl⟩
        rw [hc1] at CN1
        rw [hc2] at CN2
        rw [hc1, hc2] at E
        obtain ⟨op2, hop2⟩ : ∃ o, oppF op = o := ⟨_, rfl⟩
        rw [hop2] at CN2 OP
        have K1 := Lib.hid CN1
        have K2 := Lib.hid CN2
        obtain ⟨v1, hv1⟩ : ∃ v, (addI (addI TS.non 2 bz) 1 c1).int = v := ⟨_, rfl⟩
        obtain ⟨v2, hv2⟩ : ∃ v, (addI (addI (addI TS.non 2 bz) 1 c1) 0 c2).int = v := ⟨_, rfl⟩
        have A1 := Lib.hid (fun W => addI_any (addI TS.non 2 bz) (t := 1) (.inr (.inl rfl)) c1 HV0.out hv1 W)
        have A2 := Lib.hid (fun W => addI_any (addI (addI TS.non 2 bz) 1 c1) (t := 0) (.inl rfl) c2 hv1 hv2 W)
        have HF := Lib.hid (show R.int = v2 by rw [← HR.out, E, ← hv2]; cases bz <;> cases c1 <;> cases c2 <;> rfl)
        clear CN1 CN2 hc1 hc2 hop2 E HR hv1 hv2 HZ2 d16
        cases bz
        all_goals
          have hz := HZ.out
          simp only [decide_eq_true_eq, decide_eq_false_iff_not] at hz
          clear HZ
          go_upto_region 8 with (first | (go_at_call 72; (with_reducible refine Calls.mono (CB.out _) ?_); rintro e w15 ⟨rfl, hb15⟩; obtain ⟨x15, rfl⟩ := Ext.of hb15; have z15a : w.heap.size < x15.it.heap.size := x15.lt (by first | assumption | (simp; done) | (simp; omega)); have z15b : w.heap.size + 1 < x15.it.heap.size := x15.lt (by first | assumption | (simp; done) | (simp; omega))) | (go_at_call 51; (with_reducible refine Calls.mono (A0.out _) ?_); rintro e w10 ⟨rfl, hb10⟩; obtain ⟨x10, rfl⟩ := Ext.of hb10; have z10a : w.heap.size < x10.it.heap.size := x10.lt (by first | assumption | (simp; done) | (simp; omega)); have z10b : w.heap.size + 1 < x10.it.heap.size := x10.lt (by first | assumption | (simp; done) | (simp; omega))))
          refine wp_region_ext (by kernel_rfl) (by kernel_rfl) ?_
          repeat (go_big_quiet_step (((first | (go_at_call 74; exact Calls.ext (OP.out _)) | (go_at_call 73; (with_reducible exact Calls.ext (K1.out _))) | (go_at_call 73; (with_reducible exact Calls.ext (K2.out _))) | (go_at_call 51; (with_reducible exact Calls.ext (A1.out _))) | (go_at_call 51; (with_reducible exact Calls.ext (A2.out _)))))))
          refine wpQuiet_nil ?_
          rintro _ ⟨x40, rfl⟩
          go_wp2
          go_ret
          exact ⟨by rw [HF.out]; rfl, by repeat (first | with_reducible exact Below.refl _ _ | with_reducible assumption | with_reducible refine Below.al ?_ _ | with_reducible refine Below.on ?_ _ | with_reducible refine Below.st ?_ (by first | assumption | (simp; done) | (simp; omega)) _ | with_reducible refine Below.drew ?_)⟩
end Go.Proofs.Ytfemekmkmiljdaa
