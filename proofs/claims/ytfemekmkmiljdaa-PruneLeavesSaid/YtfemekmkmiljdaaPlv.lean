/-
  PRUNELEAVES: the walk. Conditions: none.
-/
import Derived.Test.YtfemekmkmiljdaaPex
import Derived.Test.YtfemekmkmiljdaaKpr
import Derived.Test.YtfemekmkmiljdaaOps
set_option linter.unusedVariables false
set_option linter.unusedSimpArgs false
namespace Go.Proofs.Ytfemekmkmiljdaa
open Go.RowKit Go.ChangeShapes Go.WideShapes Go.ChangeAt
def nulW : Val := ⟨true, 0, ⟨#[]⟩⟩
def lCol : Col := ⟨⟨#[97]⟩, 1, 0, true⟩
set_option maxRecDepth 8000 in
set_option maxHeartbeats 2000000 in
theorem plv_walk (lo width v w0 nulls op : Int) (nt : Bool) (w : World) :
    Calls Try.prog 6 #[.int .i64 lo, .int .i64 width, .int .i64 v, .int .i64 w0, .int .i64 nulls, .int .i64 op, .bool nt] w fun e w' => e = .returned (.bool true) ∧ Below w.heap.size w w' := by
  obtain ⟨qa, hqa⟩ : ∃ qa, pickI lo 10 = qa := ⟨_, rfl⟩
  have bqa := pickI_bd (lo) (n := 10) (by omega)
  have P1 := Lib.hid (fun (W : World) => (by have h := pick_any (lo) 10 (by omega) (by omega) W; rw [hqa] at h; exact h : Calls Try.prog 20 #[.int .i64 (lo), .int .i64 10] W fun e w' => e = .returned (.int .i64 qa) ∧ W = w'))
  rw [hqa] at bqa
  clear hqa
  obtain ⟨qb, hqb⟩ : ∃ qb, pickI width 4 = qb := ⟨_, rfl⟩
  have bqb := pickI_bd (width) (n := 4) (by omega)
  have P2 := Lib.hid (fun (W : World) => (by have h := pick_any (width) 4 (by omega) (by omega) W; rw [hqb] at h; exact h : Calls Try.prog 20 #[.int .i64 (width), .int .i64 4] W fun e w' => e = .returned (.int .i64 qb) ∧ W = w'))
  rw [hqb] at bqb
  clear hqb
  obtain ⟨qn, hqn⟩ : ∃ qn, pickI nulls 3 = qn := ⟨_, rfl⟩
  have bqn := pickI_bd (nulls) (n := 3) (by omega)
  have P3 := Lib.hid (fun (W : World) => (by have h := pick_any (nulls) 3 (by omega) (by omega) W; rw [hqn] at h; exact h : Calls Try.prog 20 #[.int .i64 (nulls), .int .i64 3] W fun e w' => e = .returned (.int .i64 qn) ∧ W = w'))
  rw [hqn] at bqn
  clear hqn
  obtain ⟨qo, hqo⟩ : ∃ qo, pickI op 8 = qo := ⟨_, rfl⟩
  have bqo := pickI_bd (op) (n := 8) (by omega)
  have P4 := Lib.hid (fun (W : World) => (by have h := pick_any (op) 8 (by omega) (by omega) W; rw [hqo] at h; exact h : Calls Try.prog 20 #[.int .i64 (op), .int .i64 8] W fun e w' => e = .returned (.int .i64 qo) ∧ W = w'))
  rw [hqo] at bqo
  clear hqo
  obtain ⟨qv, hqv⟩ : ∃ qv, pickI v 14 = qv := ⟨_, rfl⟩
  have bqv := pickI_bd (v) (n := 14) (by omega)
  have P5 := Lib.hid (fun (W : World) => (by have h := pick_any (v) 14 (by omega) (by omega) W; rw [hqv] at h; exact h : Calls Try.prog 20 #[.int .i64 (v), .int .i64 14] W fun e w' => e = .returned (.int .i64 qv) ∧ W = w'))
  rw [hqv] at bqv
  clear hqv
  obtain ⟨qw, hqw⟩ : ∃ qw, pickI w0 14 = qw := ⟨_, rfl⟩
  have bqw := pickI_bd (w0) (n := 14) (by omega)
  have P6 := Lib.hid (fun (W : World) => (by have h := pick_any (w0) 14 (by omega) (by omega) W; rw [hqw] at h; exact h : Calls Try.prog 20 #[.int .i64 (w0), .int .i64 14] W fun e w' => e = .returned (.int .i64 qw) ∧ W = w'))
  rw [hqw] at bqw
  clear hqw
  obtain ⟨qz, hqz⟩ : ∃ qz, pickI (wrap64 (w0.tdiv 14)) 3 = qz := ⟨_, rfl⟩
  have bqz := pickI_bd ((wrap64 (w0.tdiv 14))) (n := 3) (by omega)
  have P7 := Lib.hid (fun (W : World) => (by have h := pick_any ((wrap64 (w0.tdiv 14))) 3 (by omega) (by omega) W; rw [hqz] at h; exact h : Calls Try.prog 20 #[.int .i64 ((wrap64 (w0.tdiv 14))), .int .i64 3] W fun e w' => e = .returned (.int .i64 qz) ∧ W = w'))
  rw [hqz] at bqz
  clear hqz
  obtain ⟨iN, hj, hy0, hy1, hy2⟩ := info_parts infoNod
  go_enter Try.func6, Try.ntmps6
  go_upto_region 7 with (first | (go_at_call 20; (with_reducible refine Calls.mono (P1.out _) ?_); rintro e w7 ⟨rfl, rfl⟩) | (go_at_call 20; (with_reducible refine Calls.mono (P2.out _) ?_); rintro e w7 ⟨rfl, rfl⟩) | (go_at_call 20; (with_reducible refine Calls.mono (P3.out _) ?_); rintro e w7 ⟨rfl, rfl⟩) | (go_at_call 20; (with_reducible refine Calls.mono (P4.out _) ?_); rintro e w7 ⟨rfl, rfl⟩) | (go_at_call 20; (with_reducible refine Calls.mono (P5.out _) ?_); rintro e w7 ⟨rfl, rfl⟩))
  refine captureM ?_
  intro y ey
  have yb : Below w.heap.size w y := by rw [ey]; exact (by repeat (first | with_reducible exact Below.refl _ _ | with_reducible assumption | with_reducible refine Below.al ?_ _ | with_reducible refine Below.on ?_ _ | with_reducible refine Below.st ?_ (by first | assumption | (simp; done) | (simp; omega)) _ | with_reducible refine Below.drew ?_))
  have ysz : y.heap.size = w.heap.size + 4 := by rw [ey]; simp
  have HC : Hid (ColsAt y (w.heap.size + 1 + 1 + 1) (.slice (some ⟨w.heap.size, 0, none⟩) 1 1) [lCol]) := Lib.hid ⟨by simp, .inr ⟨w.heap.size, 0, 1, rfl, by simp, by omega, fun j hj => by (obtain rfl : j = 0 := by (simp at hj; omega)); exact ⟨by rw [ey]; simp [go_sem, lCol], by rw [ey]; simp [go_sem, lCol], by rw [ey]; simp [go_sem, lCol], by rw [ey]; simp [go_sem, lCol]⟩⟩⟩
  have HZ : Hid (ZonsAt y (w.heap.size + 1 + 1 + 1) (.slice (some ⟨w.heap.size + 1 + 1, 0, none⟩) 1 1) [⟨qn + 2, qn, ⟨false, qa, ⟨#[]⟩⟩, ⟨false, qa + qb, ⟨#[]⟩⟩⟩]) := Lib.hid ⟨by simp, .inr ⟨w.heap.size + 1 + 1, 0, 1, rfl, by simp, by omega, fun j hj => by (obtain rfl : j = 0 := by (simp at hj; omega)); exact ⟨by rw [ey]; simp (maxDischargeDepth := 9) [go_sem, *], by rw [ey]; simp (maxDischargeDepth := 9) [go_sem, *], by rw [ey]; simp (maxDischargeDepth := 9) [go_sem, *], by rw [ey]; simp (maxDischargeDepth := 9) [go_sem, *], by rw [ey]; simp (maxDischargeDepth := 9) [go_sem, *], by rw [ey]; simp (maxDischargeDepth := 9) [go_sem, *], by rw [ey]; simp (maxDischargeDepth := 9) [go_sem, *], by rw [ey]; simp (maxDischargeDepth := 9) [go_sem, *]⟩⟩⟩
  have s0 : y.cell? ⟨w.heap.size + 1, 0, none⟩ = some (.slice (some ⟨w.heap.size, 0, none⟩) 1 1) := by rw [ey]; simp (maxDischargeDepth := 9) [go_sem, *]
  have s1 : y.cell? ⟨w.heap.size + 1, 1, none⟩ = some (.int .i64 0) := by rw [ey]; simp (maxDischargeDepth := 9) [go_sem, *]
  have n0 : y.cell? ⟨w.heap.size + 1 + 1 + 1, 0, none⟩ = some (.int .i64 (1 + qo)) := by rw [ey]; simp (maxDischargeDepth := 9) [go_sem, *]
  have n1 : y.cell? ⟨w.heap.size + 1 + 1 + 1, 1, none⟩ = some (.int .i64 0) := by rw [ey]; simp (maxDischargeDepth := 9) [go_sem, *]
  have n2 : y.cell? ⟨w.heap.size + 1 + 1 + 1, 2, none⟩ = some (.bool false) := by rw [ey]; simp (maxDischargeDepth := 9) [go_sem, *]
  have n3 : y.cell? ⟨w.heap.size + 1 + 1 + 1, 3, none⟩ = some (.int .i64 (qv - 1)) := by rw [ey]; simp (maxDischargeDepth := 9) [go_sem, *]
  have n4 : y.cell? ⟨w.heap.size + 1 + 1 + 1, 4, none⟩ = some (.string ⟨#[]⟩) := by rw [ey]; simp (maxDischargeDepth := 9) [go_sem, *]
  have n5 : y.cell? ⟨w.heap.size + 1 + 1 + 1, 5, none⟩ = some (.slice none 0 0) := by rw [ey]; simp (maxDischargeDepth := 9) [go_sem, *]
  have n6 : y.cell? ⟨w.heap.size + 1 + 1 + 1, 6, none⟩ = some (.int .i64 0) := by rw [ey]; simp (maxDischargeDepth := 9) [go_sem, *]
  have n7 : y.cell? ⟨w.heap.size + 1 + 1 + 1, 7, none⟩ = some (.int .i64 0) := by rw [ey]; simp (maxDischargeDepth := 9) [go_sem, *]
  have nf : ∀ j, y.frozen? ⟨w.heap.size + 1 + 1 + 1, j, none⟩ = false := fun j => by rw [ey]; simp (maxDischargeDepth := 9) [go_sem, *]
  clear ey
  have eSB : ∃ SB, w.heap.size + 1 = SB := ⟨_, rfl⟩
  obtain ⟨SB, hSB⟩ := eSB
  have eXB : ∃ XB, SB + 1 + 1 = XB := ⟨_, rfl⟩
  obtain ⟨XB, hXB⟩ := eXB
  simp only [hSB, hXB] at HC HZ n0 n1 n2 n3 n4 n5 n6 n7 nf s0 s1
  simp only [hSB, hXB]
  have zS : SB < y.heap.size := by omega
  have zX : XB < y.heap.size := by omega
  have nSX : SB ≠ XB := by omega
  have nXS : XB ≠ SB := by omega
  have oX : w.heap.size ≤ XB := by omega
  have oS : SB < XB := by omega
  clear hSB hXB ysz
  refine wp_region_ext_tail 6 (by kernel_rfl) (by kernel_rfl) ?_
  dsimp only [List.take, List.drop]
  repeat (go_big_quiet_step (((go_at_call 20; refine Calls.mono (P6.out _) ?_; rintro e w11 ⟨rfl, rfl⟩; exact ⟨rfl, _, rfl⟩))))
  refine wpQuiet_nil ?_
  rintro _ ⟨x2, rfl⟩
  have zx := x2.lt zX
  have zxS := x2.lt zS
  have k0 := (x2.cell XB 0 zX).trans n0
  have k1 := (x2.cell XB 1 zX).trans n1
  have k2 := (x2.cell XB 2 zX).trans n2
  have k3 := (x2.cell XB 3 zX).trans n3
  have k4 := (x2.cell XB 4 zX).trans n4
  have k5 := (x2.cell XB 5 zX).trans n5
  have k6 := (x2.cell XB 6 zX).trans n6
  have k7 := (x2.cell XB 7 zX).trans n7
  have kf : ∀ j, x2.it.frozen? ⟨XB, j, none⟩ = false := fun j => (x2.frozen XB j zX).trans (nf j)
  have q0 := (x2.cell SB 0 zS).trans s0
  have q1 := (x2.cell SB 1 zS).trans s1
  clear n0 n1 n2 n3 n4 n5 n6 n7 nf s0 s1
  go_upto_region 8 with fail
  refine captureM ?_
  intro Y eY
  have nLX : x2.it.heap.size ≠ XB := by omega
  have nXL : XB ≠ x2.it.heap.size := by omega
  have bY : Below XB y Y := by rw [eY]; refine Below.alloc (Below.setCell (p := ⟨XB, 5, none⟩) (x2.below.mono (Nat.le_of_lt zX)) (Nat.le_refl _) _) ?_ _; simp only [World.size_setCell]; exact Nat.le_of_lt (x2.lt zX)
  have YS : Y.heap.size = x2.it.heap.size + 1 := by rw [eY]; simp
  have l0 : Y.cell? ⟨x2.it.heap.size, 0, none⟩ = some (.bool false) := by rw [eY]; simp (maxDischargeDepth := 9) [go_sem, *]
  have l1 : Y.cell? ⟨x2.it.heap.size, 1, none⟩ = some (.int .i64 (qv - 1)) := by rw [eY]; simp (maxDischargeDepth := 9) [go_sem, *]
  have l2 : Y.cell? ⟨x2.it.heap.size, 2, none⟩ = some (.string ⟨#[]⟩) := by rw [eY]; simp (maxDischargeDepth := 9) [go_sem, *]
  have l3 : Y.cell? ⟨x2.it.heap.size, 3, none⟩ = some (.bool false) := by rw [eY]; simp (maxDischargeDepth := 9) [go_sem, *]
  have l4 : Y.cell? ⟨x2.it.heap.size, 4, none⟩ = some (.int .i64 (qw - 1)) := by rw [eY]; simp (maxDischargeDepth := 9) [go_sem, *]
  have l5 : Y.cell? ⟨x2.it.heap.size, 5, none⟩ = some (.string ⟨#[]⟩) := by rw [eY]; simp (maxDischargeDepth := 9) [go_sem, *]
  have lf : ∀ j, Y.frozen? ⟨x2.it.heap.size, j, none⟩ = false := fun j => by rw [eY]; simp (maxDischargeDepth := 9) [go_sem, *]
  have m0 : Y.cell? ⟨XB, 0, none⟩ = some (.int .i64 (1 + qo)) := by rw [eY]; simp (maxDischargeDepth := 9) [go_sem, *]
  have m1 : Y.cell? ⟨XB, 1, none⟩ = some (.int .i64 0) := by rw [eY]; simp (maxDischargeDepth := 9) [go_sem, *]
  have m2 : Y.cell? ⟨XB, 2, none⟩ = some (.bool false) := by rw [eY]; simp (maxDischargeDepth := 9) [go_sem, *]
  have m3 : Y.cell? ⟨XB, 3, none⟩ = some (.int .i64 (qv - 1)) := by rw [eY]; simp (maxDischargeDepth := 9) [go_sem, *]
  have m4 : Y.cell? ⟨XB, 4, none⟩ = some (.string ⟨#[]⟩) := by rw [eY]; simp (maxDischargeDepth := 9) [go_sem, *]
  have m5 : Y.cell? ⟨XB, 5, none⟩ = some (.slice (some ⟨x2.it.heap.size, 0, none⟩) 2 2) := by rw [eY]; simp (maxDischargeDepth := 9) [go_sem, *]
  have m6 : Y.cell? ⟨XB, 6, none⟩ = some (.int .i64 0) := by rw [eY]; simp (maxDischargeDepth := 9) [go_sem, *]
  have m7 : Y.cell? ⟨XB, 7, none⟩ = some (.int .i64 0) := by rw [eY]; simp (maxDischargeDepth := 9) [go_sem, *]
  have t0 := (bY.cell (p := ⟨SB, 0, none⟩) oS)
  have t1 := (bY.cell (p := ⟨SB, 1, none⟩) oS)
  have u0 : Y.cell? ⟨SB, 0, none⟩ = some (.slice (some ⟨w.heap.size, 0, none⟩) 1 1) := by rw [eY]; simp (maxDischargeDepth := 9) [go_sem, *]
  have u1 : Y.cell? ⟨SB, 1, none⟩ = some (.int .i64 0) := by rw [eY]; simp (maxDischargeDepth := 9) [go_sem, *]
  have zL : x2.it.heap.size < Y.heap.size := by omega
  have zXY : XB < Y.heap.size := by omega
  have zSY : SB < Y.heap.size := by omega
  clear eY k0 k1 k2 k3 k4 k5 k6 k7 kf q0 q1 zx zxS YS t0 t1
  have eLB : ∃ LB, x2.it.heap.size = LB := ⟨_, rfl⟩
  obtain ⟨LB, hLB⟩ := eLB
  have oL : XB < LB := by rw [← hLB]; exact x2.lt zX
  rw [hLB] at l0 l1 l2 l3 l4 l5 m5 zL nLX nXL
  simp only [hLB] at lf
  simp only [hLB]
  clear hLB
  clear x2
  have HCY := Lib.hid (HC.out.mono bY (Nat.le_refl _))
  have HZY := Lib.hid (HZ.out.mono bY (Nat.le_refl _))
  have BW := Lib.hid (yb.trans (bY.mono oX))
  clear HC HZ yb bY zS zX
  by_cases hz : qz = 0
  · subst hz
    go_upto_region 10 with (go_at_call 20; (with_reducible refine Calls.mono (P7.out _) ?_); rintro e w7 ⟨rfl, rfl⟩)
    refine captureM ?_
    intro Z eZ
    have bZ : Below LB Y Z := by rw [eZ]; exact Below.setCell (p := ⟨LB, 5, none⟩) (Below.setCell (p := ⟨LB, 4, none⟩) (Below.setCell (p := ⟨LB, 3, none⟩) (Below.mono (Below.refl Y.heap.size Y) (Nat.le_of_lt zL)) (Nat.le_refl _) _) (Nat.le_refl _) _) (Nat.le_refl _) _
    have j0 : Z.cell? ⟨LB, 0, none⟩ = some (.bool false) := by rw [eZ]; simp (maxDischargeDepth := 9) [go_sem, *]
    have j1 : Z.cell? ⟨LB, 1, none⟩ = some (.int .i64 (qv - 1)) := by rw [eZ]; simp (maxDischargeDepth := 9) [go_sem, *]
    have j2 : Z.cell? ⟨LB, 2, none⟩ = some (.string ⟨#[]⟩) := by rw [eZ]; simp (maxDischargeDepth := 9) [go_sem, *]
    have j3 : Z.cell? ⟨LB, 3, none⟩ = some (.bool true) := by rw [eZ]; simp (maxDischargeDepth := 9) [go_sem, *]
    have j4 : Z.cell? ⟨LB, 4, none⟩ = some (.int .i64 0) := by rw [eZ]; simp (maxDischargeDepth := 9) [go_sem, *]
    have j5 : Z.cell? ⟨LB, 5, none⟩ = some (.string ⟨#[]⟩) := by rw [eZ]; simp (maxDischargeDepth := 9) [go_sem, *]
    have zs : Z.heap.size = Y.heap.size := by rw [eZ]; simp
    have i0 := (bZ.cell (p := ⟨XB, 0, none⟩) oL).trans m0
    have i1 := (bZ.cell (p := ⟨XB, 1, none⟩) oL).trans m1
    have i2 := (bZ.cell (p := ⟨XB, 2, none⟩) oL).trans m2
    have i3 := (bZ.cell (p := ⟨XB, 3, none⟩) oL).trans m3
    have i4 := (bZ.cell (p := ⟨XB, 4, none⟩) oL).trans m4
    have i5 := (bZ.cell (p := ⟨XB, 5, none⟩) oL).trans m5
    have i6 := (bZ.cell (p := ⟨XB, 6, none⟩) oL).trans m6
    have i7 := (bZ.cell (p := ⟨XB, 7, none⟩) oL).trans m7
    have g0 := (bZ.cell (p := ⟨SB, 0, none⟩) (show SB < LB by omega)).trans u0
    have g1 := (bZ.cell (p := ⟨SB, 1, none⟩) (show SB < LB by omega)).trans u1
    have zXZ : XB < Z.heap.size := by omega
    have zSZ : SB < Z.heap.size := by omega
    have zLZ : LB < Z.heap.size := by omega
    have HCZ := Lib.hid (HCY.out.mono (bZ.mono (Nat.le_of_lt oL)) (show XB ≤ Z.heap.size by omega))
    have HQZ := Lib.hid (HZY.out.mono (bZ.mono (Nat.le_of_lt oL)) (show XB ≤ Z.heap.size by omega))
    have BWZ := Lib.hid (BW.out.trans (bZ.mono (by omega)))
    have VZ : Hid (ValsAt Z Z.heap.size (.slice (some ⟨LB, 0, none⟩) 2 2) [⟨false, qv - 1, ⟨#[]⟩⟩, nulW]) := Lib.hid ⟨by simp, .inr ⟨LB, 0, 2, rfl, by simp, zLZ, fun j hj => by (rcases j with _ | _ | j); exact ⟨by simpa using j0, by simpa using j1, by simpa using j2⟩; exact ⟨by simpa [nulW] using j3, by simpa [nulW] using j4, by simpa [nulW] using j5⟩; (simp at hj; omega)⟩⟩
    clear eZ bZ j0 j1 j2 j3 j4 j5 l0 l1 l2 l3 l4 l5 lf m0 m1 m2 m3 m4 m5 m6 m7 u0 u1 zs zL zXY zSY HCY HZY BW
    have NC : ∀ W : World, Below Z.heap.size Z W → ColsAt W W.heap.size (.slice (some ⟨w.heap.size, 0, none⟩) 1 1) [lCol] := fun W hb => HCZ.out.mono hb hb.size
    have NZ : ∀ W : World, Below Z.heap.size Z W → ZonsAt W W.heap.size (.slice (some ⟨SB + 1, 0, none⟩) 1 1) [⟨qn + 2, qn, ⟨false, qa, ⟨#[]⟩⟩, ⟨false, qa + qb, ⟨#[]⟩⟩⟩] := fun W hb => HQZ.out.mono hb hb.size
    go_upto_region 11 with fail
    refine captureM ?_
    intro V eV
    have bV : Below Z.heap.size Z V := by rw [eV]; exact Below.al (Below.refl _ _) _
    have cV : ∀ i u, (#[Value.int .i64 (1 + qo), .int .i64 0, .bool false, .int .i64 (qv - 1), .string ⟨#[]⟩, .slice (some ⟨LB, 0, none⟩) 2 2, .int .i64 0, .int .i64 0] : Array Value)[i]? = some u → V.cell? ⟨Z.heap.size, i, none⟩ = some u := fun i u h => by rw [eV, World.cell?_alloc_at _ _ _ _ rfl]; exact h
    have hV : V.heap[Z.heap.size]? = some (.cells #[.int .i64 (1 + qo), .int .i64 0, .bool false, .int .i64 (qv - 1), .string ⟨#[]⟩, .slice (some ⟨LB, 0, none⟩) 2 2, .int .i64 0, .int .i64 0] 52 (0, 0)) := by rw [eV]; exact heap_alloc_new _ _
    have ND : Hid (NodsAt V V.heap.size (.slice (some ⟨Z.heap.size, 0, none⟩) 1 1) [⟨1 + qo, 0, ⟨false, qv - 1, ⟨#[]⟩⟩, [⟨false, qv - 1, ⟨#[]⟩⟩, nulW], 0, 0⟩]) := Lib.hid ⟨by simp, .inr ⟨Z.heap.size, 0, 1, rfl, by simp, by rw [eV]; simp, fun j hj => by (obtain rfl : j = 0 := by (simp at hj; omega)); exact ⟨_, cV 0 _ rfl, cV 1 _ rfl, cV 2 _ rfl, cV 3 _ rfl, cV 4 _ rfl, cV 5 _ rfl, cV 6 _ rfl, cV 7 _ rfl, VZ.out.mono bV bV.size⟩⟩⟩
    have OWN : Hid (V.ownsRow Z.heap.size 52 8 (.slice (some ⟨Z.heap.size, 0, none⟩) 1 1) 1 [.int .i64 (1 + qo), .int .i64 0, .bool false, .int .i64 (qv - 1), .string ⟨#[]⟩, .slice (some ⟨LB, 0, none⟩) 2 2, .int .i64 0, .int .i64 0]) := Lib.hid ⟨rfl, .inr ⟨Z.heap.size, 1, _, rfl, Nat.le_refl _, hV, Nat.le_refl _, by decide, rfl, rfl⟩⟩
    have h0 := (bV.cell (p := ⟨SB, 0, none⟩) zSZ).trans g0
    have h1 := (bV.cell (p := ⟨SB, 1, none⟩) zSZ).trans g1
    have zy : SB < V.heap.size := Nat.lt_of_lt_of_le zSZ bV.size
    have bVs := bV.size
    have NCH := Lib.hid NC
    have NZH := Lib.hid NZ
    have BWV := Lib.hid (BWZ.out.trans (bV.mono BWZ.out.size))
    have BWZ' := BWZ.out
    have BVH := Lib.hid bV
    clear eV cV hV NC NZ i0 i1 i2 i3 i4 i5 i6 i7
    cases nt with
    | false =>
      have AGF := Lib.hid (fun (W : World) (hb : Below V.heap.size V W) => agrees24_any (.slice (some ⟨w.heap.size, 0, none⟩) 1 1) [lCol] 0 (.slice (some ⟨Z.heap.size, 0, none⟩) 1 1) [⟨1 + qo, 0, ⟨false, qv - 1, ⟨#[]⟩⟩, [⟨false, qv - 1, ⟨#[]⟩⟩, nulW], 0, 0⟩] (.slice (some ⟨SB + 1, 0, none⟩) 1 1) [⟨qn + 2, qn, ⟨false, qa, ⟨#[]⟩⟩, ⟨false, qa + qb, ⟨#[]⟩⟩⟩] W (NCH.out W (BVH.out.trans (hb.mono bVs))) (ND.out.mono hb hb.size) (NZH.out W (BVH.out.trans (hb.mono bVs))))
      have BX := BWV.out
      go_wp2_with (first | (go_at_call 15; refine (awake24 _).mono ?_; rintro e w19 ⟨rfl, hb19⟩; obtain ⟨x19, rfl⟩ := Ext.of hb19; have z19 : SB < x19.it.heap.size := x19.lt zy) | (go_at_call 16; (with_reducible refine Calls.mono (AGF.out _ ?_) ?_); (focus (repeat (first | with_reducible exact Below.refl _ _ | with_reducible assumption | with_reducible refine Below.al ?_ _ | with_reducible refine Below.on ?_ _ | with_reducible refine Below.st ?_ (by first | assumption | (simp; done) | (simp; omega)) _ | with_reducible refine Below.drew ?_))); rintro e w20 ⟨rfl, hb20⟩; obtain ⟨x20, rfl⟩ := Ext.of hb20))
      exact bodyPost_ret (v := .bool true) (by simp [results, Try.results6, go_sem, *]) rfl (⟨rfl, by repeat (first | with_reducible exact Below.refl _ _ | with_reducible assumption | with_reducible refine Below.al ?_ _ | with_reducible refine Below.on ?_ _ | with_reducible refine Below.st ?_ (by first | assumption | (simp; done) | (simp; omega)) _ | with_reducible refine Below.drew ?_)⟩)
    | true =>
      go_upto_region 13 with (at_builtin; go_must (refine wpList_append_lies _ rfl _ _ 29 rfl Z.heap.size 52 iN _ 8 88 Try.underlying29 hj hy0 hy1 hy2 rfl (by decide) (.slice (some ⟨Z.heap.size, 0, none⟩) 1 1) 1 [.int .i64 (1 + qo), .int .i64 0, .bool false, .int .i64 (qv - 1), .string ⟨#[]⟩, .slice (some ⟨LB, 0, none⟩) 2 2, .int .i64 0, .int .i64 0] rfl (OWN.out.alloc _) ⟨V.heap.size, 0, none⟩ 1 1 [.int .i64 11, .int .i64 0, .bool false, .int .i64 0, .string ⟨#[]⟩, .slice none 0 0, .int .i64 0, .int .i64 0] rfl rfl (World.news_of_block (heap_alloc_new V _)) (by simp [Value.oneCell']) (by omega) (by unfold maxLen; omega) (by omega) (by simp; omega) (V.heap.size + 1) (by simp) ?_); intro gb cap w9 hown hgrow hat hlt9; go_must (have b9 : Hid (Below Z.heap.size Z w9) := Lib.hid (Below.gr (Below.al BVH.out _) OWN.out hgrow); have O9 := Lib.hid hown); clear hown hgrow hat hlt9)
      have zy9 : SB < w9.heap.size := Nat.lt_of_lt_of_le zSZ b9.out.size
      have e0 := (b9.out.cell (p := ⟨SB, 0, none⟩) zSZ).trans g0
      have e1 := (b9.out.cell (p := ⟨SB, 1, none⟩) zSZ).trans g1
      have b9s := b9.out.size
      have NT : Hid (NodsAt w9 w9.heap.size (.slice (some ⟨gb, 0, none⟩) 2 cap) [⟨1 + qo, 0, ⟨false, qv - 1, ⟨#[]⟩⟩, [⟨false, qv - 1, ⟨#[]⟩⟩, nulW], 0, 0⟩, ⟨11, 0, ⟨false, 0, ⟨#[]⟩⟩, [], 0, 0⟩]) := Lib.hid (by
        have h : w9.ownsRow Z.heap.size 52 8 (.slice (some ⟨gb, 0, none⟩) 2 cap) ([((⟨1 + qo, 0, ⟨false, qv - 1, ⟨#[]⟩⟩, [⟨false, qv - 1, ⟨#[]⟩⟩, nulW], 0, 0⟩ : Nod), Value.slice (some ⟨LB, 0, none⟩) 2 2), ((⟨11, 0, ⟨false, 0, ⟨#[]⟩⟩, [], 0, 0⟩ : Nod), Value.slice none 0 0)] : List (Nod × Value)).length (([((⟨1 + qo, 0, ⟨false, qv - 1, ⟨#[]⟩⟩, [⟨false, qv - 1, ⟨#[]⟩⟩, nulW], 0, 0⟩ : Nod), Value.slice (some ⟨LB, 0, none⟩) 2 2), ((⟨11, 0, ⟨false, 0, ⟨#[]⟩⟩, [], 0, 0⟩ : Nod), Value.slice none 0 0)] : List (Nod × Value)).flatMap nodC) := O9.out
        rcases own_at (f := nodC) (k := 8) (fun _ => rfl) h with ⟨q, _⟩ | ⟨g, c, hv, hc, _, hg, H⟩
        · cases q
        · injection hv with hv _ hcap
          injection hv with hv
          injection hv with hv
          subst hv hcap
          refine ⟨by simp, .inr ⟨gb, 0, cap, rfl, hc, hg, fun j hj => ?_⟩⟩
          simp only [Nat.zero_add]
          rcases j with _ | _ | j
          · exact ⟨_, H 0 (by simp) 0 _ (by omega) rfl, H 0 (by simp) 1 _ (by omega) rfl, H 0 (by simp) 2 _ (by omega) rfl, H 0 (by simp) 3 _ (by omega) rfl, H 0 (by simp) 4 _ (by omega) rfl, H 0 (by simp) 5 _ (by omega) rfl, H 0 (by simp) 6 _ (by omega) rfl, H 0 (by simp) 7 _ (by omega) rfl, VZ.out.mono b9.out b9s⟩
          · exact ⟨_, H 1 (by simp) 0 _ (by omega) rfl, H 1 (by simp) 1 _ (by omega) rfl, H 1 (by simp) 2 _ (by omega) rfl, H 1 (by simp) 3 _ (by omega) rfl, H 1 (by simp) 4 _ (by omega) rfl, H 1 (by simp) 5 _ (by omega) rfl, H 1 (by simp) 6 _ (by omega) rfl, H 1 (by simp) 7 _ (by omega) rfl, ⟨by simp, .inl ⟨rfl, none, 0, rfl⟩⟩⟩
          · simp at hj; omega)
      have AGF := Lib.hid (fun (W : World) (hb : Below w9.heap.size w9 W) => agrees24_any (.slice (some ⟨w.heap.size, 0, none⟩) 1 1) [lCol] 0 (.slice (some ⟨gb, 0, none⟩) 2 cap) [⟨1 + qo, 0, ⟨false, qv - 1, ⟨#[]⟩⟩, [⟨false, qv - 1, ⟨#[]⟩⟩, nulW], 0, 0⟩, ⟨11, 0, ⟨false, 0, ⟨#[]⟩⟩, [], 0, 0⟩] (.slice (some ⟨SB + 1, 0, none⟩) 1 1) [⟨qn + 2, qn, ⟨false, qa, ⟨#[]⟩⟩, ⟨false, qa + qb, ⟨#[]⟩⟩⟩] W (NCH.out W (b9.out.trans (hb.mono b9s))) (NT.out.mono hb hb.size) (NZH.out W (b9.out.trans (hb.mono b9s))))
      have BX : Below w.heap.size w w9 := BWZ'.trans (b9.out.mono BWZ'.size)
      clear O9 OWN ND BWV h0 h1 zy
      go_wp2_with (first | (go_at_call 15; refine (awake24 _).mono ?_; rintro e w19 ⟨rfl, hb19⟩; obtain ⟨x19, rfl⟩ := Ext.of hb19; have z19 : SB < x19.it.heap.size := x19.lt zy9) | (go_at_call 16; (with_reducible refine Calls.mono (AGF.out _ ?_) ?_); (focus (repeat (first | with_reducible exact Below.refl _ _ | with_reducible assumption | with_reducible refine Below.al ?_ _ | with_reducible refine Below.on ?_ _ | with_reducible refine Below.st ?_ (by first | assumption | (simp; done) | (simp; omega)) _ | with_reducible refine Below.drew ?_))); rintro e w20 ⟨rfl, hb20⟩; obtain ⟨x20, rfl⟩ := Ext.of hb20))
      exact bodyPost_ret (v := .bool true) (by simp [results, Try.results6, go_sem, *]) rfl (⟨rfl, by repeat (first | with_reducible exact Below.refl _ _ | with_reducible assumption | with_reducible refine Below.al ?_ _ | with_reducible refine Below.on ?_ _ | with_reducible refine Below.st ?_ (by first | assumption | (simp; done) | (simp; omega)) _ | with_reducible refine Below.drew ?_)⟩)
  · have hz' : (qz == 0) = false := by simpa using hz
    go_upto_region 10 with (go_at_call 20; (with_reducible refine Calls.mono (P7.out _) ?_); rintro e w7 ⟨rfl, rfl⟩)
    have VZ : Hid (ValsAt Y Y.heap.size (.slice (some ⟨LB, 0, none⟩) 2 2) [⟨false, qv - 1, ⟨#[]⟩⟩, ⟨false, qw - 1, ⟨#[]⟩⟩]) := Lib.hid ⟨by simp, .inr ⟨LB, 0, 2, rfl, by simp, zL, fun j hj => by (rcases j with _ | _ | j); exact ⟨by simpa using l0, by simpa using l1, by simpa using l2⟩; exact ⟨by simpa using l3, by simpa using l4, by simpa using l5⟩; (simp at hj; omega)⟩⟩
    have HCZ := Lib.hid (HCY.out.mono (Below.mono (Below.refl Y.heap.size Y) (Nat.le_of_lt zXY)) (Nat.le_of_lt zXY))
    have HQZ := Lib.hid (HZY.out.mono (Below.mono (Below.refl Y.heap.size Y) (Nat.le_of_lt zXY)) (Nat.le_of_lt zXY))
    have BWZ := BW
    clear l0 l1 l2 l3 l4 l5 lf HCY HZY
    have NC : ∀ W : World, Below Y.heap.size Y W → ColsAt W W.heap.size (.slice (some ⟨w.heap.size, 0, none⟩) 1 1) [lCol] := fun W hb => HCZ.out.mono hb hb.size
    have NZ : ∀ W : World, Below Y.heap.size Y W → ZonsAt W W.heap.size (.slice (some ⟨SB + 1, 0, none⟩) 1 1) [⟨qn + 2, qn, ⟨false, qa, ⟨#[]⟩⟩, ⟨false, qa + qb, ⟨#[]⟩⟩⟩] := fun W hb => HQZ.out.mono hb hb.size
    go_upto_region 11 with fail
    refine captureM ?_
    intro V eV
    have bV : Below Y.heap.size Y V := by rw [eV]; exact Below.al (Below.refl _ _) _
    have cV : ∀ i u, (#[Value.int .i64 (1 + qo), .int .i64 0, .bool false, .int .i64 (qv - 1), .string ⟨#[]⟩, .slice (some ⟨LB, 0, none⟩) 2 2, .int .i64 0, .int .i64 0] : Array Value)[i]? = some u → V.cell? ⟨Y.heap.size, i, none⟩ = some u := fun i u h => by rw [eV, World.cell?_alloc_at _ _ _ _ rfl]; exact h
    have hV : V.heap[Y.heap.size]? = some (.cells #[.int .i64 (1 + qo), .int .i64 0, .bool false, .int .i64 (qv - 1), .string ⟨#[]⟩, .slice (some ⟨LB, 0, none⟩) 2 2, .int .i64 0, .int .i64 0] 52 (0, 0)) := by rw [eV]; exact heap_alloc_new _ _
    have ND : Hid (NodsAt V V.heap.size (.slice (some ⟨Y.heap.size, 0, none⟩) 1 1) [⟨1 + qo, 0, ⟨false, qv - 1, ⟨#[]⟩⟩, [⟨false, qv - 1, ⟨#[]⟩⟩, ⟨false, qw - 1, ⟨#[]⟩⟩], 0, 0⟩]) := Lib.hid ⟨by simp, .inr ⟨Y.heap.size, 0, 1, rfl, by simp, by rw [eV]; simp, fun j hj => by (obtain rfl : j = 0 := by (simp at hj; omega)); exact ⟨_, cV 0 _ rfl, cV 1 _ rfl, cV 2 _ rfl, cV 3 _ rfl, cV 4 _ rfl, cV 5 _ rfl, cV 6 _ rfl, cV 7 _ rfl, VZ.out.mono bV bV.size⟩⟩⟩
    have OWN : Hid (V.ownsRow Y.heap.size 52 8 (.slice (some ⟨Y.heap.size, 0, none⟩) 1 1) 1 [.int .i64 (1 + qo), .int .i64 0, .bool false, .int .i64 (qv - 1), .string ⟨#[]⟩, .slice (some ⟨LB, 0, none⟩) 2 2, .int .i64 0, .int .i64 0]) := Lib.hid ⟨rfl, .inr ⟨Y.heap.size, 1, _, rfl, Nat.le_refl _, hV, Nat.le_refl _, by decide, rfl, rfl⟩⟩
    have h0 := (bV.cell (p := ⟨SB, 0, none⟩) zSY).trans u0
    have h1 := (bV.cell (p := ⟨SB, 1, none⟩) zSY).trans u1
    have zy : SB < V.heap.size := Nat.lt_of_lt_of_le zSY bV.size
    have bVs := bV.size
    have NCH := Lib.hid NC
    have NZH := Lib.hid NZ
    have BWV := Lib.hid (BWZ.out.trans (bV.mono BWZ.out.size))
    have BWZ' := BWZ.out
    have BVH := Lib.hid bV
    clear eV cV hV NC NZ m0 m1 m2 m3 m4 m5 m6 m7
    cases nt with
    | false =>
      have AGF := Lib.hid (fun (W : World) (hb : Below V.heap.size V W) => agrees24_any (.slice (some ⟨w.heap.size, 0, none⟩) 1 1) [lCol] 0 (.slice (some ⟨Y.heap.size, 0, none⟩) 1 1) [⟨1 + qo, 0, ⟨false, qv - 1, ⟨#[]⟩⟩, [⟨false, qv - 1, ⟨#[]⟩⟩, ⟨false, qw - 1, ⟨#[]⟩⟩], 0, 0⟩] (.slice (some ⟨SB + 1, 0, none⟩) 1 1) [⟨qn + 2, qn, ⟨false, qa, ⟨#[]⟩⟩, ⟨false, qa + qb, ⟨#[]⟩⟩⟩] W (NCH.out W (BVH.out.trans (hb.mono bVs))) (ND.out.mono hb hb.size) (NZH.out W (BVH.out.trans (hb.mono bVs))))
      have BX := BWV.out
      go_wp2_with (first | (go_at_call 15; refine (awake24 _).mono ?_; rintro e w19 ⟨rfl, hb19⟩; obtain ⟨x19, rfl⟩ := Ext.of hb19; have z19 : SB < x19.it.heap.size := x19.lt zy) | (go_at_call 16; (with_reducible refine Calls.mono (AGF.out _ ?_) ?_); (focus (repeat (first | with_reducible exact Below.refl _ _ | with_reducible assumption | with_reducible refine Below.al ?_ _ | with_reducible refine Below.on ?_ _ | with_reducible refine Below.st ?_ (by first | assumption | (simp; done) | (simp; omega)) _ | with_reducible refine Below.drew ?_))); rintro e w20 ⟨rfl, hb20⟩; obtain ⟨x20, rfl⟩ := Ext.of hb20))
      exact bodyPost_ret (v := .bool true) (by simp [results, Try.results6, go_sem, *]) rfl (⟨rfl, by repeat (first | with_reducible exact Below.refl _ _ | with_reducible assumption | with_reducible refine Below.al ?_ _ | with_reducible refine Below.on ?_ _ | with_reducible refine Below.st ?_ (by first | assumption | (simp; done) | (simp; omega)) _ | with_reducible refine Below.drew ?_)⟩)
    | true =>
      go_upto_region 13 with (at_builtin; go_must (refine wpList_append_lies _ rfl _ _ 29 rfl Y.heap.size 52 iN _ 8 88 Try.underlying29 hj hy0 hy1 hy2 rfl (by decide) (.slice (some ⟨Y.heap.size, 0, none⟩) 1 1) 1 [.int .i64 (1 + qo), .int .i64 0, .bool false, .int .i64 (qv - 1), .string ⟨#[]⟩, .slice (some ⟨LB, 0, none⟩) 2 2, .int .i64 0, .int .i64 0] rfl (OWN.out.alloc _) ⟨V.heap.size, 0, none⟩ 1 1 [.int .i64 11, .int .i64 0, .bool false, .int .i64 0, .string ⟨#[]⟩, .slice none 0 0, .int .i64 0, .int .i64 0] rfl rfl (World.news_of_block (heap_alloc_new V _)) (by simp [Value.oneCell']) (by omega) (by unfold maxLen; omega) (by omega) (by simp; omega) (V.heap.size + 1) (by simp) ?_); intro gb cap w9 hown hgrow hat hlt9; go_must (have b9 : Hid (Below Y.heap.size Y w9) := Lib.hid (Below.gr (Below.al BVH.out _) OWN.out hgrow); have O9 := Lib.hid hown); clear hown hgrow hat hlt9)
      have zy9 : SB < w9.heap.size := Nat.lt_of_lt_of_le zSY b9.out.size
      have e0 := (b9.out.cell (p := ⟨SB, 0, none⟩) zSY).trans u0
      have e1 := (b9.out.cell (p := ⟨SB, 1, none⟩) zSY).trans u1
      have b9s := b9.out.size
      have NT : Hid (NodsAt w9 w9.heap.size (.slice (some ⟨gb, 0, none⟩) 2 cap) [⟨1 + qo, 0, ⟨false, qv - 1, ⟨#[]⟩⟩, [⟨false, qv - 1, ⟨#[]⟩⟩, ⟨false, qw - 1, ⟨#[]⟩⟩], 0, 0⟩, ⟨11, 0, ⟨false, 0, ⟨#[]⟩⟩, [], 0, 0⟩]) := Lib.hid (by
        have h : w9.ownsRow Y.heap.size 52 8 (.slice (some ⟨gb, 0, none⟩) 2 cap) ([((⟨1 + qo, 0, ⟨false, qv - 1, ⟨#[]⟩⟩, [⟨false, qv - 1, ⟨#[]⟩⟩, ⟨false, qw - 1, ⟨#[]⟩⟩], 0, 0⟩ : Nod), Value.slice (some ⟨LB, 0, none⟩) 2 2), ((⟨11, 0, ⟨false, 0, ⟨#[]⟩⟩, [], 0, 0⟩ : Nod), Value.slice none 0 0)] : List (Nod × Value)).length (([((⟨1 + qo, 0, ⟨false, qv - 1, ⟨#[]⟩⟩, [⟨false, qv - 1, ⟨#[]⟩⟩, ⟨false, qw - 1, ⟨#[]⟩⟩], 0, 0⟩ : Nod), Value.slice (some ⟨LB, 0, none⟩) 2 2), ((⟨11, 0, ⟨false, 0, ⟨#[]⟩⟩, [], 0, 0⟩ : Nod), Value.slice none 0 0)] : List (Nod × Value)).flatMap nodC) := O9.out
        rcases own_at (f := nodC) (k := 8) (fun _ => rfl) h with ⟨q, _⟩ | ⟨g, c, hv, hc, _, hg, H⟩
        · cases q
        · injection hv with hv _ hcap
          injection hv with hv
          injection hv with hv
          subst hv hcap
          refine ⟨by simp, .inr ⟨gb, 0, cap, rfl, hc, hg, fun j hj => ?_⟩⟩
          simp only [Nat.zero_add]
          rcases j with _ | _ | j
          · exact ⟨_, H 0 (by simp) 0 _ (by omega) rfl, H 0 (by simp) 1 _ (by omega) rfl, H 0 (by simp) 2 _ (by omega) rfl, H 0 (by simp) 3 _ (by omega) rfl, H 0 (by simp) 4 _ (by omega) rfl, H 0 (by simp) 5 _ (by omega) rfl, H 0 (by simp) 6 _ (by omega) rfl, H 0 (by simp) 7 _ (by omega) rfl, VZ.out.mono b9.out b9s⟩
          · exact ⟨_, H 1 (by simp) 0 _ (by omega) rfl, H 1 (by simp) 1 _ (by omega) rfl, H 1 (by simp) 2 _ (by omega) rfl, H 1 (by simp) 3 _ (by omega) rfl, H 1 (by simp) 4 _ (by omega) rfl, H 1 (by simp) 5 _ (by omega) rfl, H 1 (by simp) 6 _ (by omega) rfl, H 1 (by simp) 7 _ (by omega) rfl, ⟨by simp, .inl ⟨rfl, none, 0, rfl⟩⟩⟩
          · simp at hj; omega)
      have AGF := Lib.hid (fun (W : World) (hb : Below w9.heap.size w9 W) => agrees24_any (.slice (some ⟨w.heap.size, 0, none⟩) 1 1) [lCol] 0 (.slice (some ⟨gb, 0, none⟩) 2 cap) [⟨1 + qo, 0, ⟨false, qv - 1, ⟨#[]⟩⟩, [⟨false, qv - 1, ⟨#[]⟩⟩, ⟨false, qw - 1, ⟨#[]⟩⟩], 0, 0⟩, ⟨11, 0, ⟨false, 0, ⟨#[]⟩⟩, [], 0, 0⟩] (.slice (some ⟨SB + 1, 0, none⟩) 1 1) [⟨qn + 2, qn, ⟨false, qa, ⟨#[]⟩⟩, ⟨false, qa + qb, ⟨#[]⟩⟩⟩] W (NCH.out W (b9.out.trans (hb.mono b9s))) (NT.out.mono hb hb.size) (NZH.out W (b9.out.trans (hb.mono b9s))))
      have BX : Below w.heap.size w w9 := BWZ'.trans (b9.out.mono BWZ'.size)
      clear O9 OWN ND BWV h0 h1 zy
      go_wp2_with (first | (go_at_call 15; refine (awake24 _).mono ?_; rintro e w19 ⟨rfl, hb19⟩; obtain ⟨x19, rfl⟩ := Ext.of hb19; have z19 : SB < x19.it.heap.size := x19.lt zy9) | (go_at_call 16; (with_reducible refine Calls.mono (AGF.out _ ?_) ?_); (focus (repeat (first | with_reducible exact Below.refl _ _ | with_reducible assumption | with_reducible refine Below.al ?_ _ | with_reducible refine Below.on ?_ _ | with_reducible refine Below.st ?_ (by first | assumption | (simp; done) | (simp; omega)) _ | with_reducible refine Below.drew ?_))); rintro e w20 ⟨rfl, hb20⟩; obtain ⟨x20, rfl⟩ := Ext.of hb20))
      exact bodyPost_ret (v := .bool true) (by simp [results, Try.results6, go_sem, *]) rfl (⟨rfl, by repeat (first | with_reducible exact Below.refl _ _ | with_reducible assumption | with_reducible refine Below.al ?_ _ | with_reducible refine Below.on ?_ _ | with_reducible refine Below.st ?_ (by first | assumption | (simp; done) | (simp; omega)) _ | with_reducible refine Below.drew ?_)⟩)
end Go.Proofs.Ytfemekmkmiljdaa
