/-
  WIDELIMITS: the walk, the statement and its card. Conditions: none beyond the row's own (two variables of unicode/utf8 as laid).
-/
import Derived.Test.YtapjndhbdpbjcaaDoorLft
set_option linter.unusedVariables false
set_option linter.unusedSimpArgs false
namespace Go.Proofs.YtapjndhbdpbjcaaDoor
open Go.RowKit Go.ChangeShapes Go.WideShapes Go.ChangeAt Go.Shelf
theorem back_pos : ∃ S : ByteArray, sgnTxt 9223372036854775807 ++ fmtTxt (absN 9223372036854775807 18446744073709551615) = S ∧ 1 ≤ S.size ∧ S.size ≤ 41 ∧ parseB S = (9223372036854775807, 18446744073709551615, 0) := by
  have a : isI 9223372036854775807 := by unfold isI; omega
  have b : isU 18446744073709551615 := by unfold isU; omega
  have BK := back a b
  have ND : absN 9223372036854775807 18446744073709551615 < 340282366920938463463374607431768211456 := by
    by_cases hn : (9223372036854775807 : Int) < 0
    · exact (hl_neg b (by omega) a).2.2
    · exact (hl_pos b (by omega) a).2.2
  have h39 := nd_39 ND
  have h1 := (nd_spec ND).1
  have hlen := Rk_len (absN 9223372036854775807 18446744073709551615) (nd (absN 9223372036854775807 18446744073709551615))
  have hall := Rk_all (absN 9223372036854775807 18446744073709551615) (nd (absN 9223372036854775807 18446744073709551615))
  have T0 : fmtTxt (absN 9223372036854775807 18446744073709551615) = ⟨(Rk (absN 9223372036854775807 18446744073709551615) (nd (absN 9223372036854775807 18446744073709551615))).toArray⟩ := rfl
  generalize Rk (absN 9223372036854775807 18446744073709551615) (nd (absN 9223372036854775807 18446744073709551615)) = D at *
  refine ⟨_, rfl, ?_⟩
  rw [T0]
  rw [show sgnTxt 9223372036854775807 = ⟨#[]⟩ from if_neg (by omega), show (⟨#[]⟩ : ByteArray) ++ ⟨D.toArray⟩ = ⟨D.toArray⟩ by simp [ByteArray.ext_iff]]
  rw [decide_eq_false (show ¬ (9223372036854775807 : Int) < 0 by omega)] at BK
  refine ⟨by simp [ByteArray.size]; omega, by simp [ByteArray.size]; omega, ?_⟩
  rw [← BK]
  unfold parseB
  cases D with
  | nil => simp at hlen; omega
  | cons c r =>
    have hc : 48 ≤ c.toNat := by
      have := List.all_eq_true.1 hall c (by simp)
      revert this; simp [digB]; intro q _; exact q
    have hc45 : c ≠ 45 := by rintro rfl; revert hc; decide
    simp [hc45]
set_option maxRecDepth 8000 in
set_option maxHeartbeats 2000000 in
theorem limits_pos (n : Int) (w : World) :
    Calls Tryd.prog 4 #[.int .i64 n, .bool false] w fun e w' => e = .returned (.bool true) ∧ Below w.heap.size w w' := by
  obtain ⟨S, hS, s1, s41, PB⟩ := back_pos
  have FA := fun w => format_any 9223372036854775807 18446744073709551615 (by unfold isI; omega) (by unfold isU; omega) w
  have FR := fun w => reffmt_any 9223372036854775807 18446744073709551615 (by unfold isI; omega) (by unfold isU; omega) w
  have PA := fun w => par_any S (by omega) w
  rw [hS] at FA FR
  rw [PB] at PA
  dsimp only at PA
  obtain ⟨m, hm⟩ : ∃ m, S.size = m + 1 := ⟨S.size - 1, by omega⟩
  obtain ⟨K, hK⟩ : ∃ K : Nat, pickI n 10 = K := ⟨(pickI n 10).toNat, by have := pickI_bd n (n := 10) (by omega); omega⟩
  have K10 : K < 10 := by have := pickI_bd n (n := 10) (by omega); omega
  have PK := fun w => pick_any n 10 (by omega) (by omega) w
  rw [hK] at PK
  have M1 : ((m + 1 : Nat) : Int) - 1 = (m : Int) := by omega
  have ds := dig_size K10
  have es : (S.extract 0 m).size = m := by simp [hm]
  have hadd := fun w => run_string_add_sum (P := Tryd.prog) w (S.extract 0 m) ((⟨#[48, 49, 50, 51, 52, 53, 54, 55, 56, 57]⟩ : ByteArray).extract K (K + 1)) (by rw [ds, es]; omega)
  have TT : (S.extract 0 m ++ (⟨#[48, 49, 50, 51, 52, 53, 54, 55, 56, 57]⟩ : ByteArray).extract K (K + 1)).size ≤ 9223372036854775807 := by rw [ByteArray.size_append, ds, es]; omega
  have PT := fun w => par_any _ TT w
  have RT := fun w => refpar_any _ TT w
  generalize parseB (S.extract 0 m ++ (⟨#[48, 49, 50, 51, 52, 53, 54, 55, 56, 57]⟩ : ByteArray).extract K (K + 1)) = p at PT RT
  obtain ⟨p1, p2, p3⟩ := p
  have K1 : (K : Int) ≤ (K : Int) + 1 := by omega
  have K2 : (K : Int) + 1 ≤ 10 := by omega
  have KW : wrap64 ((K : Int) + 1) = (K : Int) + 1 := by rw [wrap64_eq]; omega
  have hm0 : (0 : Int) ≤ (m : Int) := by omega
  have MW : wrap64 (m : Int) = (m : Int) := by rw [wrap64_eq]; omega
  have ML : (m : Int) ≤ (m : Int) + 1 := by omega
  have EP : eqW p1 p2 p1 p2 = true := eqW_of rfl rfl
  have FA' := Lib.hid FA; have FR' := Lib.hid FR; have PA' := Lib.hid PA; have PT' := Lib.hid PT; have RT' := Lib.hid RT; have PK' := Lib.hid PK
  clear FA FR PA PT RT PK hK hS PB TT es ds s1 s41
  go_enter Tryd.func4, Tryd.ntmps4
  go_upto_region 5 with (go_at_call 10; refine (FR'.out _).mono ?_; rintro e w0 ⟨rfl, hb0⟩; obtain ⟨x0, rfl⟩ := Ext.of hb0; have z0 : w.heap.size < x0.it.heap.size := x0.lt (by simp))
  refine wp_region_ext (by kernel_rfl) (by kernel_rfl) ?_
  repeat (go_big_quiet_step (((go_at_call 11; exact Calls.ext_same (PK'.out _)))))
  refine wpQuiet_nil ?_
  rintro _ ⟨x9, rfl⟩
  have z9 : w.heap.size < x9.it.heap.size := x9.lt z0
  go_upto_region 7 with (go_at_call 6; refine (PT'.out _).mono ?_; rintro e w1 ⟨rfl, hb1⟩; obtain ⟨x1, rfl⟩ := Ext.of hb1; have za : w.heap.size < x1.it.heap.size := x1.lt z9)
  go_upto_region 8 with (go_at_call 7; refine (RT'.out _).mono ?_; rintro e w2 ⟨rfl, hb2⟩; obtain ⟨x2, rfl⟩ := Ext.of hb2; have zb : w.heap.size < x2.it.heap.size := x2.lt (by (first | with_reducible assumption | (simp only [World.size_setCell, World.size_alloc, World.size_drew]; first | with_reducible assumption | omega))); have zc : x1.it.heap.size < x2.it.heap.size := x2.lt (by simp))
  go_upto_region 9 with (go_at_call 6; refine (PA'.out _).mono ?_; rintro e w3 ⟨rfl, hb3⟩; obtain ⟨x3, rfl⟩ := Ext.of hb3; have zd : w.heap.size < x3.it.heap.size := x3.lt (by (first | with_reducible assumption | (simp only [World.size_setCell, World.size_alloc, World.size_drew]; first | with_reducible assumption | omega))); have ze : x1.it.heap.size < x3.it.heap.size := x3.lt (by (first | with_reducible assumption | (simp only [World.size_setCell, World.size_alloc, World.size_drew]; first | with_reducible assumption | omega))); have zf : x2.it.heap.size < x3.it.heap.size := x3.lt (by simp))
  refine captureE ?_
  intro y ey
  have c0 : y.it.cell? ⟨w.heap.size, 0, none⟩ = some (.int .i64 9223372036854775807) := by simp (maxDischargeDepth := 9) [go_sem, *]
  have c1 : y.it.cell? ⟨w.heap.size, 1, none⟩ = some (.int .u64 18446744073709551615) := by simp (maxDischargeDepth := 9) [go_sem, *]
  have c2 : y.it.cell? ⟨x1.it.heap.size, 0, none⟩ = some (.int .i64 p1) := by simp (maxDischargeDepth := 9) [go_sem, *]
  have c3 : y.it.cell? ⟨x1.it.heap.size, 1, none⟩ = some (.int .u64 p2) := by simp (maxDischargeDepth := 9) [go_sem, *]
  have c4 : y.it.cell? ⟨x2.it.heap.size, 0, none⟩ = some (.int .i64 p1) := by simp (maxDischargeDepth := 9) [go_sem, *]
  have c5 : y.it.cell? ⟨x2.it.heap.size, 1, none⟩ = some (.int .u64 p2) := by simp (maxDischargeDepth := 9) [go_sem, *]
  have c6 : y.it.cell? ⟨x3.it.heap.size, 0, none⟩ = some (.int .i64 9223372036854775807) := by simp (maxDischargeDepth := 9) [go_sem, *]
  have c7 : y.it.cell? ⟨x3.it.heap.size, 1, none⟩ = some (.int .u64 18446744073709551615) := by simp (maxDischargeDepth := 9) [go_sem, *]
  have y0 : w.heap.size < y.it.heap.size := by rw [ey]; (first | with_reducible assumption | (simp only [World.size_setCell, World.size_alloc, World.size_drew]; first | with_reducible assumption | omega))
  have y1 : x1.it.heap.size < y.it.heap.size := by rw [ey]; (first | with_reducible assumption | (simp only [World.size_setCell, World.size_alloc, World.size_drew]; first | with_reducible assumption | omega))
  have y2 : x2.it.heap.size < y.it.heap.size := by rw [ey]; (first | with_reducible assumption | (simp only [World.size_setCell, World.size_alloc, World.size_drew]; first | with_reducible assumption | omega))
  have y3 : x3.it.heap.size < y.it.heap.size := by rw [ey]; (first | with_reducible assumption | (simp only [World.size_setCell, World.size_alloc, World.size_drew]; first | with_reducible assumption | omega))
  have yb : Below w.heap.size w y.it := by rw [ey]; exact (by repeat (first | with_reducible exact Below.refl _ _ | with_reducible assumption | with_reducible refine Below.al ?_ _ | with_reducible refine Below.on ?_ _ | with_reducible refine Below.st ?_ (by first | assumption | (simp; done) | (simp; omega)) _ | with_reducible refine Below.drew ?_))
  have EQ : eqW 9223372036854775807 18446744073709551615 9223372036854775807 18446744073709551615 = true := eqW_of rfl rfl
  clear ey
  go_wp2_with (first | (go_at_call 8; refine (awake_any _).mono ?_; rintro e w6 ⟨rfl, hb6⟩; obtain ⟨x6, rfl⟩ := Ext.of hb6) | (go_at_call 9; refine (FA'.out _).mono ?_; rintro e w7 ⟨rfl, hb7⟩; obtain ⟨x7, rfl⟩ := Ext.of hb7))
  exact bodyPost_ret (v := .bool true) (by simp [results, Tryd.results4, go_sem, *]) rfl (⟨rfl, by repeat (first | with_reducible exact Below.refl _ _ | with_reducible assumption | with_reducible refine Below.al ?_ _ | with_reducible refine Below.on ?_ _ | with_reducible refine Below.st ?_ (by first | assumption | (simp; done) | (simp; omega)) _ | with_reducible refine Below.drew ?_)⟩)
theorem back_neg : ∃ S : ByteArray, sgnTxt (-9223372036854775808) ++ fmtTxt (absN (-9223372036854775808) 0) = S ∧ 1 ≤ S.size ∧ S.size ≤ 41 ∧ parseB S = ((-9223372036854775808), 0, 0) := by
  have a : isI (-9223372036854775808) := by unfold isI; omega
  have b : isU 0 := by unfold isU; omega
  have BK := back a b
  have ND : absN (-9223372036854775808) 0 < 340282366920938463463374607431768211456 := by
    by_cases hn : ((-9223372036854775808) : Int) < 0
    · exact (hl_neg b (by omega) a).2.2
    · exact (hl_pos b (by omega) a).2.2
  have h39 := nd_39 ND
  have h1 := (nd_spec ND).1
  have hlen := Rk_len (absN (-9223372036854775808) 0) (nd (absN (-9223372036854775808) 0))
  have hall := Rk_all (absN (-9223372036854775808) 0) (nd (absN (-9223372036854775808) 0))
  have T0 : fmtTxt (absN (-9223372036854775808) 0) = ⟨(Rk (absN (-9223372036854775808) 0) (nd (absN (-9223372036854775808) 0))).toArray⟩ := rfl
  generalize Rk (absN (-9223372036854775808) 0) (nd (absN (-9223372036854775808) 0)) = D at *
  refine ⟨_, rfl, ?_⟩
  rw [T0]
  rw [show sgnTxt (-9223372036854775808) = ⟨#[45]⟩ from if_pos (by omega), show (⟨#[45]⟩ : ByteArray) ++ ⟨D.toArray⟩ = ⟨(45 :: D).toArray⟩ by simp [ByteArray.ext_iff]]
  rw [decide_eq_true (show ((-9223372036854775808) : Int) < 0 by omega)] at BK
  refine ⟨by simp [ByteArray.size], by simp [ByteArray.size]; omega, ?_⟩
  rw [← BK]
  simp [parseB]
set_option maxRecDepth 8000 in
set_option maxHeartbeats 2000000 in
theorem limits_neg (n : Int) (w : World) :
    Calls Tryd.prog 4 #[.int .i64 n, .bool true] w fun e w' => e = .returned (.bool true) ∧ Below w.heap.size w w' := by
  obtain ⟨S, hS, s1, s41, PB⟩ := back_neg
  have FA := fun w => format_any (-9223372036854775808) 0 (by unfold isI; omega) (by unfold isU; omega) w
  have FR := fun w => reffmt_any (-9223372036854775808) 0 (by unfold isI; omega) (by unfold isU; omega) w
  have PA := fun w => par_any S (by omega) w
  rw [hS] at FA FR
  rw [PB] at PA
  dsimp only at PA
  obtain ⟨m, hm⟩ : ∃ m, S.size = m + 1 := ⟨S.size - 1, by omega⟩
  obtain ⟨K, hK⟩ : ∃ K : Nat, pickI n 10 = K := ⟨(pickI n 10).toNat, by have := pickI_bd n (n := 10) (by omega); omega⟩
  have K10 : K < 10 := by have := pickI_bd n (n := 10) (by omega); omega
  have PK := fun w => pick_any n 10 (by omega) (by omega) w
  rw [hK] at PK
  have M1 : ((m + 1 : Nat) : Int) - 1 = (m : Int) := by omega
  have ds := dig_size K10
  have es : (S.extract 0 m).size = m := by simp [hm]
  have hadd := fun w => run_string_add_sum (P := Tryd.prog) w (S.extract 0 m) ((⟨#[48, 49, 50, 51, 52, 53, 54, 55, 56, 57]⟩ : ByteArray).extract K (K + 1)) (by rw [ds, es]; omega)
  have TT : (S.extract 0 m ++ (⟨#[48, 49, 50, 51, 52, 53, 54, 55, 56, 57]⟩ : ByteArray).extract K (K + 1)).size ≤ 9223372036854775807 := by rw [ByteArray.size_append, ds, es]; omega
  have PT := fun w => par_any _ TT w
  have RT := fun w => refpar_any _ TT w
  generalize parseB (S.extract 0 m ++ (⟨#[48, 49, 50, 51, 52, 53, 54, 55, 56, 57]⟩ : ByteArray).extract K (K + 1)) = p at PT RT
  obtain ⟨p1, p2, p3⟩ := p
  have K1 : (K : Int) ≤ (K : Int) + 1 := by omega
  have K2 : (K : Int) + 1 ≤ 10 := by omega
  have KW : wrap64 ((K : Int) + 1) = (K : Int) + 1 := by rw [wrap64_eq]; omega
  have hm0 : (0 : Int) ≤ (m : Int) := by omega
  have MW : wrap64 (m : Int) = (m : Int) := by rw [wrap64_eq]; omega
  have ML : (m : Int) ≤ (m : Int) + 1 := by omega
  have EP : eqW p1 p2 p1 p2 = true := eqW_of rfl rfl
  have FA' := Lib.hid FA; have FR' := Lib.hid FR; have PA' := Lib.hid PA; have PT' := Lib.hid PT; have RT' := Lib.hid RT; have PK' := Lib.hid PK
  clear FA FR PA PT RT PK hK hS PB TT es ds s1 s41
  go_enter Tryd.func4, Tryd.ntmps4
  go_upto_region 5 with (go_at_call 10; refine (FR'.out _).mono ?_; rintro e w0 ⟨rfl, hb0⟩; obtain ⟨x0, rfl⟩ := Ext.of hb0; have z0 : w.heap.size < x0.it.heap.size := x0.lt (by simp))
  refine wp_region_ext (by kernel_rfl) (by kernel_rfl) ?_
  repeat (go_big_quiet_step (((go_at_call 11; exact Calls.ext_same (PK'.out _)))))
  refine wpQuiet_nil ?_
  rintro _ ⟨x9, rfl⟩
  have z9 : w.heap.size < x9.it.heap.size := x9.lt z0
  go_upto_region 7 with (go_at_call 6; refine (PT'.out _).mono ?_; rintro e w1 ⟨rfl, hb1⟩; obtain ⟨x1, rfl⟩ := Ext.of hb1; have za : w.heap.size < x1.it.heap.size := x1.lt z9)
  go_upto_region 8 with (go_at_call 7; refine (RT'.out _).mono ?_; rintro e w2 ⟨rfl, hb2⟩; obtain ⟨x2, rfl⟩ := Ext.of hb2; have zb : w.heap.size < x2.it.heap.size := x2.lt (by (first | with_reducible assumption | (simp only [World.size_setCell, World.size_alloc, World.size_drew]; first | with_reducible assumption | omega))); have zc : x1.it.heap.size < x2.it.heap.size := x2.lt (by simp))
  go_upto_region 9 with (go_at_call 6; refine (PA'.out _).mono ?_; rintro e w3 ⟨rfl, hb3⟩; obtain ⟨x3, rfl⟩ := Ext.of hb3; have zd : w.heap.size < x3.it.heap.size := x3.lt (by (first | with_reducible assumption | (simp only [World.size_setCell, World.size_alloc, World.size_drew]; first | with_reducible assumption | omega))); have ze : x1.it.heap.size < x3.it.heap.size := x3.lt (by (first | with_reducible assumption | (simp only [World.size_setCell, World.size_alloc, World.size_drew]; first | with_reducible assumption | omega))); have zf : x2.it.heap.size < x3.it.heap.size := x3.lt (by simp))
  refine captureE ?_
  intro y ey
  have c0 : y.it.cell? ⟨w.heap.size, 0, none⟩ = some (.int .i64 (-9223372036854775808)) := by simp (maxDischargeDepth := 9) [go_sem, *]
  have c1 : y.it.cell? ⟨w.heap.size, 1, none⟩ = some (.int .u64 0) := by simp (maxDischargeDepth := 9) [go_sem, *]
  have c2 : y.it.cell? ⟨x1.it.heap.size, 0, none⟩ = some (.int .i64 p1) := by simp (maxDischargeDepth := 9) [go_sem, *]
  have c3 : y.it.cell? ⟨x1.it.heap.size, 1, none⟩ = some (.int .u64 p2) := by simp (maxDischargeDepth := 9) [go_sem, *]
  have c4 : y.it.cell? ⟨x2.it.heap.size, 0, none⟩ = some (.int .i64 p1) := by simp (maxDischargeDepth := 9) [go_sem, *]
  have c5 : y.it.cell? ⟨x2.it.heap.size, 1, none⟩ = some (.int .u64 p2) := by simp (maxDischargeDepth := 9) [go_sem, *]
  have c6 : y.it.cell? ⟨x3.it.heap.size, 0, none⟩ = some (.int .i64 (-9223372036854775808)) := by simp (maxDischargeDepth := 9) [go_sem, *]
  have c7 : y.it.cell? ⟨x3.it.heap.size, 1, none⟩ = some (.int .u64 0) := by simp (maxDischargeDepth := 9) [go_sem, *]
  have y0 : w.heap.size < y.it.heap.size := by rw [ey]; (first | with_reducible assumption | (simp only [World.size_setCell, World.size_alloc, World.size_drew]; first | with_reducible assumption | omega))
  have y1 : x1.it.heap.size < y.it.heap.size := by rw [ey]; (first | with_reducible assumption | (simp only [World.size_setCell, World.size_alloc, World.size_drew]; first | with_reducible assumption | omega))
  have y2 : x2.it.heap.size < y.it.heap.size := by rw [ey]; (first | with_reducible assumption | (simp only [World.size_setCell, World.size_alloc, World.size_drew]; first | with_reducible assumption | omega))
  have y3 : x3.it.heap.size < y.it.heap.size := by rw [ey]; (first | with_reducible assumption | (simp only [World.size_setCell, World.size_alloc, World.size_drew]; first | with_reducible assumption | omega))
  have yb : Below w.heap.size w y.it := by rw [ey]; exact (by repeat (first | with_reducible exact Below.refl _ _ | with_reducible assumption | with_reducible refine Below.al ?_ _ | with_reducible refine Below.on ?_ _ | with_reducible refine Below.st ?_ (by first | assumption | (simp; done) | (simp; omega)) _ | with_reducible refine Below.drew ?_))
  have EQ : eqW (-9223372036854775808) 0 (-9223372036854775808) 0 = true := eqW_of rfl rfl
  clear ey
  go_wp2_with (first | (go_at_call 8; refine (awake_any _).mono ?_; rintro e w6 ⟨rfl, hb6⟩; obtain ⟨x6, rfl⟩ := Ext.of hb6) | (go_at_call 9; refine (FA'.out _).mono ?_; rintro e w7 ⟨rfl, hb7⟩; obtain ⟨x7, rfl⟩ := Ext.of hb7))
  exact bodyPost_ret (v := .bool true) (by simp [results, Tryd.results4, go_sem, *]) rfl (⟨rfl, by repeat (first | with_reducible exact Below.refl _ _ | with_reducible assumption | with_reducible refine Below.al ?_ _ | with_reducible refine Below.on ?_ _ | with_reducible refine Below.st ?_ (by first | assumption | (simp; done) | (simp; omega)) _ | with_reducible refine Below.drew ?_)⟩)
theorem met_wideLimits (os : Os) (args : Array Value) : laidMetH Tryd.prog Rows.wideLimitsRow.laid ((World.laidAll Tryd.prog os Rows.wideLimitsRow.laid).forCall (fun _ _ => 0) ⟨#[], args, []⟩).memory := by
  unfold laidMetH
  rw [show (Rows.wideLimitsRow.laid.filter fun x => x.2.handleName?.isSome) = [] by kernel_rfl]
  exact laidMet_laidAll args (by kernel_rfl) (by kernel_rfl)
set_option maxRecDepth 100000 in
theorem wideLimits_lifted (os : Os) (started : os.Started) (H : Type) (enc : TypeId × Value → H) :
    ReturnsInHanded {} Tryd.checked os 4 .any (fun w args => (Rows.wideLimitsSpec.pre enc Tryd.prog Tryd.f4 [] false w args ∧ laidMetH Tryd.prog Rows.wideLimitsRow.laid w) ∧ sizedMet enc Tryd.prog Tryd.f4 (OpenSpec.ofChange Rows.wideLimitsSpec) false w args) (Rows.wideLimitsSpec.post enc Tryd.prog Tryd.f4 false true false false) := by
  refine lifted_of_walk_laid (C := Tryd.checked) (tb := 4) own started (by kernel_rfl) Tryd.func4
    (ChangeSpec.witness_at (enc := enc) (C := Tryd.checked) (os := os) (X := fun w _ => laidMetH Tryd.prog Rows.wideLimitsRow.laid w) false (World.laidAll Tryd.prog os Rows.wideLimitsRow.laid) #[.int .i64 0, .bool false] 8 (World.laidAll_os _ _ _) (by kernel_rfl) (by kernel_rfl) (by kernel_rfl) (by kernel_rfl) (by kernel_rfl) (met_wideLimits os _))
    laid (params_ok (by kernel_rfl)) (by kernel_rfl) Tryd.underlying4 rfl
    (fun ds hds => by match ds, hds with | [d0, d1], _ => exact ⟨rfl, rfl, rfl⟩) ?_
  intro W base args ds ps hval0 hA0
  have hval : ∀ (j : Nat) t v, Tryd.f4.params[j]? = some t → args[j]? = some v → Value.okWide Tryd.prog W .any base t v := hval0
  have hA : DataW.TrodAll enc Tryd.prog W 0 (fun _ => true) true Tryd.f4.params.toList args.toList ds ps := hA0
  rw [Tryd.params4] at hA hval
  obtain ⟨v0, vs0, d0, ds0, p0, q0, hargs, rfl, rfl, h0, r0⟩ := trodAll_cons hA
  obtain ⟨v1, vs1, d1, ds1, p1, q1, rfl, rfl, rfl, h1, r1⟩ := trodAll_cons r0
  obtain ⟨rfl, rfl, rfl⟩ := trodAll_nil r1
  obtain rfl : args = #[v0, v1] := by cases args; simp_all
  obtain ⟨n, rfl, hn0, hn1⟩ := open_i64 Tryd.underlying3 (hval 0 _ v0 rfl rfl) h0
  obtain ⟨neg, rfl⟩ := open_boolv Tryd.underlying4 (hval 1 _ v1 rfl rfl) h1
  cases neg
  · exact limits_pos _ W
  · exact limits_neg _ W
theorem wideLimits_holds : Rows.WideLimitsSaid :=
  OpenClaim.holds_of_wide 4 Tryd.f4 rfl rfl rfl rfl rfl rfl rfl ⟨rfl, rfl, rfl, rfl, rfl⟩ rfl rfl rfl rfl rfl (by kernel_rfl) Tryd.func4 (by kernel_rfl)
    (of_decide_eq_true (by kernel_rfl)) (by unfold Func.isWrapper; first | (rw [if_pos (by decide +kernel)]; kernel_rfl) | (rw [if_neg (by decide +kernel)]; exact ⟨rfl, rfl⟩))
    (fun os started H enc _ => wideLimits_lifted os started H enc)
theorem wideLimits_card : Rows.WideLimitsCardSaid :=
  Claim7.holds_tied_plain_at .later [] [.data, .pinned] true (true, "60e13fc1cc16a2a06dd77961917d5475e1b8bbd80645c04080f207bc6d7b31de") false
    wideLimits_holds (fun _ h => by cases h) (by kernel_rfl) (fun _ h => by cases h) wideLimits_row_tie rfl ⟨rfl, rfl⟩ (by kernel_rfl) rfl
    (fun f fn hf hfn => by
      obtain rfl : f = 4 := Option.some.inj ((show Tryd.prog.funcNamed "micropart/micropartlaw13.WideLimits" = some 4 by kernel_rfl).symm.trans hf) |>.symm
      obtain rfl : fn = Tryd.f4 := (Option.some.inj (Tryd.func4.symm.trans hfn)).symm
      exact ⟨by kernel_rfl, fun j t ht => by
        rw [Tryd.params4] at ht
        rcases j with _ | _ | j
        · obtain rfl : 3 = t := by simpa using ht
          exact (show Tryd.prog.wantsStandIn 3 = false by kernel_rfl)
        · obtain rfl : 4 = t := by simpa using ht
          exact (show Tryd.prog.wantsStandIn 4 = false by kernel_rfl)
        · simp at ht⟩)
    (by kernel_rfl)
#print axioms wideLimits_card
end Go.Proofs.YtapjndhbdpbjcaaDoor
