/-
  CHAPTER 24: list and leaf. Conditions: the list of a node lies in memory.
-/
import Derived.Test.YtfemekmkmiljdaaPcd
import Derived.Test.YtfemekmkmiljdaaEvr
import Derived.Test.YtfemekmkmiljdaaMak
set_option linter.unusedVariables false
set_option linter.unusedSimpArgs false
namespace Go.Proofs.Ytfemekmkmiljdaa
open Go.RowKit
def yesF (ty : Int) (z : Zon) (ls : List Val) : Bool := ls.any fun v => !v.null && canF ty 1 z v
def nulF (ls : List Val) : Bool := ls.any fun v => v.null
def allF (ty : Int) (z : Zon) (ls : List Val) : Bool := ls.any fun v => !v.null && !canF ty 2 z v
def listS (ty : Int) (z : Zon) (ls : List Val) : TS := ⟨!allF ty z ls && !nulF ls, yesF ty z ls, !allF ty z ls && nulF ls⟩
def leafS (ty : Int) (d : Nod) (z : Zon) : TS :=
  if d.op = 8 then ⟨decide (z.nulls < z.rows), decide (0 < z.nulls), false⟩ else
  if z.nulls < z.rows then
    (if d.op = 7 then ⟨(listS ty z d.ls).f, (listS ty z d.ls).t, decide (0 < z.nulls) || (listS ty z d.ls).u⟩ else ⟨canF ty (oppF d.op) z d.v, canF ty d.op z d.v, decide (0 < z.nulls)⟩)
  else ⟨false, false, decide (0 < z.nulls)⟩
theorem any_succ {p : Val → Bool} {l : List Val} {k : Nat} (h : k < l.length) : (l.take (k + 1)).any p = ((l.take k).any p || p (l[k]'h)) := by
  rw [List.take_succ_eq_append_getElem h, List.any_append]; simp
set_option maxRecDepth 8000 in
set_option maxHeartbeats 1000000 in
theorem list_any (ty : Int) (op col : Int) (vn : Bool) (n : Int) (s : ByteArray) (lv : Value) (ls : List Val) (na nb : Int) (zr zn : Int) (an : Bool) (a : Int) (sa : ByteArray) (bn : Bool) (b : Int) (sb : ByteArray) (w : World) (hv : ValsAt w w.heap.size lv ls) :
    Calls Try.prog 47 #[.int .i64 ty, .agg #[.int .i64 op, .int .i64 col, .bool vn, .int .i64 n, .string s, lv, .int .i64 na, .int .i64 nb], .agg #[.int .i64 zr, .int .i64 zn, .bool an, .int .i64 a, .string sa, .bool bn, .int .i64 b, .string sb]] w fun e w' => e = .returned (.int .i64 (listS ty ⟨zr, zn, ⟨an, a, sa⟩, ⟨bn, b, sb⟩⟩ ls).int) ∧ Below w.heap.size w w' := by
  obtain ⟨la, lc, rfl⟩ := vals_end hv
  obtain ⟨m, hm⟩ : ∃ m, ls.length = m := ⟨_, rfl⟩
  have HV : Hid (ValsAt w w.heap.size (.slice la m lc) ls) := Lib.hid (by rw [← hm]; exact hv)
  have HM := Lib.hid hm
  have m63 := hv.1
  rw [hm] at m63 ⊢
  clear hv hm
  go_enter Try.func47, Try.ntmps47
  go_upto_region 2 with (go_at_call 27; refine Calls.mono (one_any (t := 0) (.inl rfl) _) ?_; rintro e w1 ⟨rfl, hb1⟩; obtain ⟨x1, rfl⟩ := Ext.of hb1; have z0 : w.heap.size < x1.it.heap.size := x1.lt (by simp; omega); have z1 : w.heap.size + 1 < x1.it.heap.size := x1.lt (by simp))
  refine captureM ?_
  intro y ey
  have yb : Below w.heap.size w y := by rw [ey]; exact (by repeat (first | with_reducible exact Below.refl _ _ | with_reducible assumption | with_reducible refine Below.al ?_ _ | with_reducible refine Below.on ?_ _ | with_reducible refine Below.st ?_ (by first | assumption | (simp; done) | (simp; omega)) _ | with_reducible refine Below.drew ?_))
  have y5 : y.cell? ⟨w.heap.size, 5, none⟩ = some (.slice la m lc) := by rw [ey]; simp (maxDischargeDepth := 9) [go_sem, *]
  have q0 : y.cell? ⟨w.heap.size + 1, 0, none⟩ = some (.int .i64 zr) := by rw [ey]; simp (maxDischargeDepth := 9) [go_sem, *]
  have q1 : y.cell? ⟨w.heap.size + 1, 1, none⟩ = some (.int .i64 zn) := by rw [ey]; simp (maxDischargeDepth := 9) [go_sem, *]
  have q2 : y.cell? ⟨w.heap.size + 1, 2, none⟩ = some (.bool an) := by rw [ey]; simp (maxDischargeDepth := 9) [go_sem, *]
  have q3 : y.cell? ⟨w.heap.size + 1, 3, none⟩ = some (.int .i64 a) := by rw [ey]; simp (maxDischargeDepth := 9) [go_sem, *]
  have q4 : y.cell? ⟨w.heap.size + 1, 4, none⟩ = some (.string sa) := by rw [ey]; simp (maxDischargeDepth := 9) [go_sem, *]
  have q5 : y.cell? ⟨w.heap.size + 1, 5, none⟩ = some (.bool bn) := by rw [ey]; simp (maxDischargeDepth := 9) [go_sem, *]
  have q6 : y.cell? ⟨w.heap.size + 1, 6, none⟩ = some (.int .i64 b) := by rw [ey]; simp (maxDischargeDepth := 9) [go_sem, *]
  have q7 : y.cell? ⟨w.heap.size + 1, 7, none⟩ = some (.string sb) := by rw [ey]; simp (maxDischargeDepth := 9) [go_sem, *]
  have yz : w.heap.size < y.heap.size := by rw [ey]; exact z0
  have yz1 : w.heap.size + 1 < y.heap.size := by rw [ey]; exact z1
  clear ey z0 z1 hb1
  clear x1
  go_wp2_with fail
  go_loopg [7, 8, 9, 16] m (fun g s o sr st wr => ∃ k : Nat, k + g = m ∧ st = .int .i64 (k : Int) ∧ s = .int .i64 (if yesF ty ⟨zr, zn, ⟨an, a, sa⟩, ⟨bn, b, sb⟩⟩ (ls.take k) = true then 2 else 0) ∧ o = .int .i64 (if nulF (ls.take k) = true then 4 else 1) ∧ sr = .bool (allF ty ⟨zr, zn, ⟨an, a, sa⟩, ⟨bn, b, sb⟩⟩ (ls.take k)) ∧ ∃ x : Ext y, x.it = wr)
  case atStart => exact ⟨0, by omega, rfl, rfl, rfl, rfl, ⟨y, Below.refl _ _⟩, rfl⟩
  case round =>
    obtain ⟨k, hk, rfl, rfl, rfl, rfl, x, rfl⟩ := hrel
    have hx := x.below
    have hxw : Below w.heap.size w x.it := yb.trans (hx.mono yb.size)
    by_cases hg0 : gk = 0
    · subst hg0
      obtain rfl : k = m := by omega
      have TK : ls.take k = ls := List.take_of_length_le (by rw [HM.out]; exact Nat.le_refl _)
      rw [TK]
      have E := Lib.hid (show (listS ty ⟨zr, zn, ⟨an, a, sa⟩, ⟨bn, b, sb⟩⟩ ls).int = (TS.int ⟨!allF ty ⟨zr, zn, ⟨an, a, sa⟩, ⟨bn, b, sb⟩⟩ ls && !nulF ls, yesF ty ⟨zr, zn, ⟨an, a, sa⟩, ⟨bn, b, sb⟩⟩ ls, !allF ty ⟨zr, zn, ⟨an, a, sa⟩, ⟨bn, b, sb⟩⟩ ls && nulF ls⟩) from rfl)
      obtain ⟨yk, hyk⟩ : ∃ bb, yesF ty ⟨zr, zn, ⟨an, a, sa⟩, ⟨bn, b, sb⟩⟩ ls = bb := ⟨_, rfl⟩
      obtain ⟨nk, hnk⟩ : ∃ b, nulF ls = b := ⟨_, rfl⟩
      obtain ⟨ak, hak⟩ : ∃ bb, allF ty ⟨zr, zn, ⟨an, a, sa⟩, ⟨bn, b, sb⟩⟩ ls = bb := ⟨_, rfl⟩
      rw [hyk, hnk, hak] at E ⊢
      clear hk TK hyk hnk hak
      cases yk <;> cases nk <;> cases ak <;> simp only [if_true, if_false, reduceCtorEq, Bool.false_eq_true]
      all_goals
        go_wp2
        go_ret
        exact ⟨by rw [E.out]; rfl, by repeat (first | with_reducible exact Below.refl _ _ | with_reducible assumption | with_reducible refine Below.al ?_ _ | with_reducible refine Below.on ?_ _ | with_reducible refine Below.st ?_ (by first | assumption | (simp; done) | (simp; omega)) _ | with_reducible refine Below.drew ?_)⟩
    · have hkm : k < m := by omega
      have hkm' : (k : Int) < (m : Int) := by omega
      have hkl : k < ls.length := by rw [HM.out]; exact hkm
      obtain ⟨rb, ro, rfl, _, hrb, d0, d1, d2⟩ := vals_in HV.out hkl
      have Y1 : yesF ty ⟨zr, zn, ⟨an, a, sa⟩, ⟨bn, b, sb⟩⟩ (ls.take (k + 1)) = _ := any_succ hkl
      have N1 : nulF (ls.take (k + 1)) = _ := any_succ hkl
      have A1 : allF ty ⟨zr, zn, ⟨an, a, sa⟩, ⟨bn, b, sb⟩⟩ (ls.take (k + 1)) = _ := any_succ hkl
      obtain ⟨u, hu⟩ : ∃ u, ls[k]'hkl = u := ⟨_, rfl⟩
      rw [hu] at d0 d1 d2 Y1 N1 A1
      obtain ⟨un, ui, us⟩ := u
      dsimp only at d0 d1 d2 Y1 N1 A1
      have CN1 := can_any ty 1 zr zn an a sa bn b sb un ui us (by decide) (by decide)
      have CN2 := can_any ty 2 zr zn an a sa bn b sb un ui us (by decide) (by decide)
      obtain ⟨c1, hc1⟩ : ∃ bb, canF ty 1 ⟨zr, zn, ⟨an, a, sa⟩, ⟨bn, b, sb⟩⟩ ⟨un, ui, us⟩ = bb := ⟨_, rfl⟩
      obtain ⟨c2, hc2⟩ : ∃ bb, canF ty 2 ⟨zr, zn, ⟨an, a, sa⟩, ⟨bn, b, sb⟩⟩ ⟨un, ui, us⟩ = bb := ⟨_, rfl⟩
      rw [hc1] at CN1 Y1
      rw [hc2] at CN2 A1
      obtain ⟨yk, hyk⟩ : ∃ bb, yesF ty ⟨zr, zn, ⟨an, a, sa⟩, ⟨bn, b, sb⟩⟩ (ls.take k) = bb := ⟨_, rfl⟩
      obtain ⟨nk, hnk⟩ : ∃ b, nulF (ls.take k) = b := ⟨_, rfl⟩
      obtain ⟨ak, hak⟩ : ∃ bb, allF ty ⟨zr, zn, ⟨an, a, sa⟩, ⟨bn, b, sb⟩⟩ (ls.take k) = bb := ⟨_, rfl⟩
      have hyk' : ((ls.take k).any fun v => !v.null && canF ty 1 ⟨zr, zn, ⟨an, a, sa⟩, ⟨bn, b, sb⟩⟩ v) = yk := hyk
      have hnk' : ((ls.take k).any fun v => v.null) = nk := hnk
      have hak' : ((ls.take k).any fun v => !v.null && !canF ty 2 ⟨zr, zn, ⟨an, a, sa⟩, ⟨bn, b, sb⟩⟩ v) = ak := hak
      rw [hyk'] at Y1
      rw [hnk'] at N1
      rw [hak'] at A1
      rw [hyk, hnk, hak]
      have g0 := (hxw.cell (p := ⟨rb, ro + k * 3, none⟩) hrb).trans d0
      have g1 := (hxw.cell (p := ⟨rb, ro + k * 3 + 1, none⟩) hrb).trans d1
      have g2 := (hxw.cell (p := ⟨rb, ro + k * 3 + 2, none⟩) hrb).trans d2
      have zr' : rb < x.it.heap.size := Nat.lt_of_lt_of_le hrb hxw.size
      have hc1' := Lib.hid CN1
      have hc2' := Lib.hid CN2
      have HR := Lib.hid (And.intro Y1 (And.intro N1 A1))
      have HK := Lib.hid (And.intro hk hg0)
      have s0 := (x.cell (w.heap.size + 1) 0 yz1).trans q0
      have s1 := (x.cell (w.heap.size + 1) 1 yz1).trans q1
      have s2 := (x.cell (w.heap.size + 1) 2 yz1).trans q2
      have s3 := (x.cell (w.heap.size + 1) 3 yz1).trans q3
      have s4 := (x.cell (w.heap.size + 1) 4 yz1).trans q4
      have s5 := (x.cell (w.heap.size + 1) 5 yz1).trans q5
      have s6 := (x.cell (w.heap.size + 1) 6 yz1).trans q6
      have s7 := (x.cell (w.heap.size + 1) 7 yz1).trans q7
      have xz1 := x.lt yz1
      clear d0 d1 d2 hu hc1 hc2 hyk hnk hak hyk' hnk' hak' CN1 CN2 Y1 N1 A1 hk hg0 q0 q1 q2 q3 q4 q5 q6 q7 y5
      go_upto_region 5 with fail
      refine captureM ?_
      intro v ev
      have vb : Below x.it.heap.size x.it v := by rw [ev]; exact (by repeat (first | with_reducible exact Below.refl _ _ | with_reducible assumption | with_reducible refine Below.al ?_ _ | with_reducible refine Below.on ?_ _ | with_reducible refine Below.st ?_ (by first | assumption | (simp; done) | (simp; omega)) _ | with_reducible refine Below.drew ?_))
      have v0 : v.cell? ⟨x.it.heap.size, 0, none⟩ = some (.bool un) := by rw [ev]; simp (maxDischargeDepth := 9) [go_sem, *]
      have v1 : v.cell? ⟨x.it.heap.size, 1, none⟩ = some (.int .i64 ui) := by rw [ev]; simp (maxDischargeDepth := 9) [go_sem, *]
      have v2 : v.cell? ⟨x.it.heap.size, 2, none⟩ = some (.string us) := by rw [ev]; simp (maxDischargeDepth := 9) [go_sem, *]
      have vz : x.it.heap.size < v.heap.size := by rw [ev]; simp
      have t0 := (vb.cell (p := ⟨w.heap.size + 1, 0, none⟩) xz1).trans s0
      have t1 := (vb.cell (p := ⟨w.heap.size + 1, 1, none⟩) xz1).trans s1
      have t2 := (vb.cell (p := ⟨w.heap.size + 1, 2, none⟩) xz1).trans s2
      have t3 := (vb.cell (p := ⟨w.heap.size + 1, 3, none⟩) xz1).trans s3
      have t4 := (vb.cell (p := ⟨w.heap.size + 1, 4, none⟩) xz1).trans s4
      have t5 := (vb.cell (p := ⟨w.heap.size + 1, 5, none⟩) xz1).trans s5
      have t6 := (vb.cell (p := ⟨w.heap.size + 1, 6, none⟩) xz1).trans s6
      have t7 := (vb.cell (p := ⟨w.heap.size + 1, 7, none⟩) xz1).trans s7
      have vz1 : w.heap.size + 1 < v.heap.size := by omega
      have VB := Lib.hid (hx.trans (vb.mono hx.size))
      clear ev s0 s1 s2 s3 s4 s5 s6 s7 g0 g1 g2
      generalize x.it.heap.size = XS at *
      cases un with
      | true =>
        obtain ⟨sv, hsv⟩ : ∃ o : Int, (if yk = true then 2 else 0 : Int) = o := ⟨_, rfl⟩
        obtain ⟨ov, hov⟩ : ∃ o : Int, (if nk = true then 4 else 1 : Int) = o := ⟨_, rfl⟩
        rw [hsv, hov]
        have HSV := Lib.hid hsv
        clear hsv hov
        go_wp2_with (go_at_call 27; refine Calls.mono (one_any (t := 2) (.inr (.inr rfl)) _) ?_; rintro e w1 ⟨rfl, hb1⟩; obtain ⟨x1, rfl⟩ := Ext.of hb1)
        have VBO := VB.out
        go_roundg (gk - 1)
        case measure => have := HK.out; omega
        case rel => exact ⟨k + 1, by have := HK.out; omega, by go_num, by rw [HR.out.1, ← HSV.out]; simp, by rw [HR.out.2.1]; simp [oneF], by rw [HR.out.2.2]; simp, ⟨_, by repeat (first | with_reducible exact Below.refl _ _ | with_reducible assumption | with_reducible refine Below.al ?_ _ | with_reducible refine Below.on ?_ _ | with_reducible refine Below.st ?_ (by first | assumption | (simp; done) | (simp; omega)) _ | with_reducible refine Below.drew ?_)⟩, rfl⟩
      | false =>
        obtain ⟨ov, hov⟩ : ∃ o : Int, (if nk = true then 4 else 1 : Int) = o := ⟨_, rfl⟩
        rw [hov]
        have HOV := Lib.hid hov
        clear hov
        cases yk <;> cases c1 <;> cases ak <;> cases c2 <;> simp only [if_true, if_false, reduceCtorEq, Bool.false_eq_true]
        all_goals
          go_wp2_with (first | (go_at_call 27; refine Calls.mono (one_any (t := 1) (.inr (.inl rfl)) _) ?_; rintro e w1 ⟨rfl, hb1⟩; obtain ⟨x1, rfl⟩ := Ext.of hb1; have z1 : w.heap.size + 1 < x1.it.heap.size := x1.lt (by first | assumption | (simp; done) | (simp; omega)); have z2 : XS < x1.it.heap.size := x1.lt (by first | assumption | (simp; done) | (simp; omega))) | (go_at_call 48; (with_reducible refine Calls.mono (hc1'.out _) ?_); rintro e w2 ⟨rfl, hb2⟩; obtain ⟨x2, rfl⟩ := Ext.of hb2; have r1 : w.heap.size + 1 < x2.it.heap.size := x2.lt (by first | assumption | (simp; done) | (simp; omega)); have r2 : XS < x2.it.heap.size := x2.lt (by first | assumption | (simp; done) | (simp; omega))) | (go_at_call 48; (with_reducible refine Calls.mono (hc2'.out _) ?_); rintro e w3 ⟨rfl, hb3⟩; obtain ⟨x3, rfl⟩ := Ext.of hb3))
          have VBO := VB.out
          go_roundg (gk - 1)
          case measure => have := HK.out; omega
          case rel => exact ⟨k + 1, by have := HK.out; omega, by go_num, by rw [HR.out.1]; rfl, by rw [HR.out.2.1, ← HOV.out]; simp, by rw [HR.out.2.2]; rfl, ⟨_, by repeat (first | with_reducible exact Below.refl _ _ | with_reducible assumption | with_reducible refine Below.al ?_ _ | with_reducible refine Below.on ?_ _ | with_reducible refine Below.st ?_ (by first | assumption | (simp; done) | (simp; omega)) _ | with_reducible refine Below.drew ?_)⟩, rfl⟩
end Go.Proofs.Ytfemekmkmiljdaa
