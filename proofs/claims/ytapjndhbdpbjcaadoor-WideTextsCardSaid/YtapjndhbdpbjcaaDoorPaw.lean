/-
  wide.Parse: the walk. Conditions: the text is no longer than 2^63 - 2 bytes.
-/
import Derived.Test.YtapjndhbdpbjcaaDoorPar
set_option linter.unusedVariables false
set_option linter.unusedSimpArgs false
namespace Go.Proofs.YtapjndhbdpbjcaaDoor
open Go.RowKit Go.Shelf
set_option maxRecDepth 8000 in
set_option maxHeartbeats 1000000 in
theorem par_false (t : List UInt8) (ht : t.head? ≠ some 45) (hl : t.length ≤ 9223372036854775807) (w : World) :
    Calls Tryd.prog 6 #[.string ⟨t.toArray⟩] w fun e w' => e = .returned (.tuple #[.agg #[.int .i64 (parseF false t).1, .int .u64 (parseF false t).2.1], .int .i64 (parseF false t).2.2]) ∧ Below w.heap.size w w' := by
  have CUT := cut_pos t ht
  have TRIM := fun w => trim_any ⟨t.toArray⟩ w (by simp [ByteArray.size]; omega)
  have RL : (⟨(Lib.trimS (⟨t.toArray⟩ : ByteArray).data.toList [48, 49, 50, 51, 52, 53, 54, 55, 56, 57]).toArray⟩ : ByteArray).toList = Lib.trimS t [48, 49, 50, 51, 52, 53, 54, 55, 56, 57] := by rw [ByteArray.toList_eq]
  generalize (⟨(Lib.trimS (⟨t.toArray⟩ : ByteArray).data.toList [48, 49, 50, 51, 52, 53, 54, 55, 56, 57]).toArray⟩ : ByteArray) = R at TRIM RL
  obtain ⟨T, hT⟩ : ∃ T : ByteArray, T = ⟨t.toArray⟩ := ⟨_, rfl⟩
  obtain ⟨n, hn⟩ : ∃ n, t.length = n := ⟨_, rfl⟩
  have tl : T.toList = t := by rw [hT, ByteArray.toList_eq]
  have ts : T.size = n := by rw [hT, ← hn]; simp [ByteArray.size]
  rw [← hT] at CUT TRIM ⊢
  by_cases hA : 40 < n
  · have pf := Lib.hid (parseF_form (neg := false) (t := t) (by unfold formB; rw [decide_eq_false (by simp only [hn, if_true, if_false, Bool.false_eq_true]; omega)]; simp))
    have hA' : (40 : Int) < ((n : Nat) : Int) := by omega
    have hA2 : (40 : Int) < (n : Int) := by omega
    clear TRIM RL tl hT
    go_enter Tryd.func6, Tryd.ntmps6
    go_wp2_with (first | (go_at_call 12; refine (CUT _).mono ?_; rintro e w1 ⟨rfl, rfl⟩) | (go_at_call 13; refine (TRIM _).mono ?_; rintro e w2 ⟨rfl, hb2⟩; obtain ⟨x2, rfl⟩ := Ext.of hb2; have z0 : w.heap.size < x2.it.heap.size := x2.lt (by simp)))
    exact bodyPost_ret (v := .tuple #[.agg #[.int .i64 0, .int .u64 0], .int .i64 2]) (by simp [results, Tryd.results6, go_sem, *]) rfl (⟨by rw [pf.out], by repeat (first | with_reducible exact Below.refl _ _ | with_reducible assumption | with_reducible refine Below.al ?_ _ | with_reducible refine Below.on ?_ _ | with_reducible refine Below.st ?_ (by first | assumption | (simp; done) | (simp; omega)) _ | with_reducible refine Below.drew ?_)⟩)
  have hA' : ¬ (40 : Int) < (n : Int) := by omega
  cases t with
  | nil =>
    have pf := Lib.hid (parseF_form (neg := false) (t := []) (by unfold formB; simp))
    clear TRIM RL hT hA hn
    go_enter Tryd.func6, Tryd.ntmps6
    go_wp2_with (first | (go_at_call 12; refine (CUT _).mono ?_; rintro e w1 ⟨rfl, rfl⟩) | (go_at_call 13; refine (TRIM _).mono ?_; rintro e w2 ⟨rfl, hb2⟩; obtain ⟨x2, rfl⟩ := Ext.of hb2; have z0 : w.heap.size < x2.it.heap.size := x2.lt (by simp)))
    exact bodyPost_ret (v := .tuple #[.agg #[.int .i64 0, .int .u64 0], .int .i64 2]) (by simp [results, Tryd.results6, go_sem, *]) rfl (⟨by rw [pf.out], by repeat (first | with_reducible exact Below.refl _ _ | with_reducible assumption | with_reducible refine Below.al ?_ _ | with_reducible refine Below.on ?_ _ | with_reducible refine Below.st ?_ (by first | assumption | (simp; done) | (simp; omega)) _ | with_reducible refine Below.drew ?_)⟩)
  | cons a r =>
    have t0 : ¬ T.toList = [] := by rw [tl]; simp
    by_cases hd : (a :: r).all digB = true
    · have r1 : R.toList = [] := by rw [RL, trim_nil]; exact hd
      have te : T.toList.isEmpty = false := by rw [tl]; rfl
      have n0 : 0 < n := by rw [← hn]; simp
      have TB : ∀ k (h : k < T.size) (h' : k < (a :: r).length), T[k]'h = (a :: r)[k]'(h') := by intro k h h'; subst hT; rfl
      have ta : ∀ h : 0 < T.size, T[0]'h = a := fun h => TB 0 h (by simp)
      by_cases a48 : a = 48
      · subst a48
        cases r with
        | nil =>
          have s48 : (T.toList == [48]) = true := by rw [tl]; rfl
          have hform : formB false ([(48 : UInt8)]) = true := by unfold formB; rw [hd, decide_eq_true (by simp only [hn, if_true, if_false, Bool.false_eq_true]; omega)]; simp
          have PF := Lib.hid (parseF_num hform)
          obtain ⟨N, hN⟩ : ∃ N, valL 0 ([(48 : UInt8)]) = N := ⟨_, rfl⟩
          rw [hN] at PF
          have DG : ∀ k (h : k < ([(48 : UInt8)]).length), 48 ≤ (([(48 : UInt8)])[k]'h).toNat ∧ (([(48 : UInt8)])[k]'h).toNat ≤ 57 := fun k h => by have := List.all_eq_true.1 hd _ (List.getElem_mem h); revert this; simp [digB]
          have HN := Lib.hid hN
          have DG' := Lib.hid DG
          have TB' := Lib.hid TB
          have HL := Lib.hid hn
          clear hT RL tl hd hA hn TB hN DG hform
          go_enter Tryd.func6, Tryd.ntmps6
          go_upto_region 4 with (first | (go_at_call 12; refine (CUT _).mono ?_; rintro e w1 ⟨rfl, rfl⟩) | (go_at_call 13; refine (TRIM _).mono ?_; rintro e w2 ⟨rfl, hb2⟩; obtain ⟨x2, rfl⟩ := Ext.of hb2; have z0 : w.heap.size < x2.it.heap.size := x2.lt (by simp)))
          go_wp2_with fail
          go_loopg [6, 7, 44] n (fun g s6 s7 s44 wr => ∃ k V : Nat, k + g = n ∧ s44 = .int .i64 (k : Int) ∧ s6 = .int .u64 ((V / 18446744073709551616 : Nat) : Int) ∧ s7 = .int .u64 ((V % 18446744073709551616 : Nat) : Int) ∧ V < 340282366920938463463374607431768211456 ∧ valL V (([(48 : UInt8)]).drop k) = N ∧ x2.it = wr)
          case atStart => exact ⟨0, 0, by omega, rfl, rfl, rfl, by omega, HN.out, rfl⟩
          case round =>
            obtain ⟨k, V, hk, rfl, h6, h7, hV, hval, rfl⟩ := hrel
            obtain ⟨H, hH⟩ : ∃ H, V / 18446744073709551616 = H := ⟨_, rfl⟩
            obtain ⟨Q, hQ⟩ : ∃ Q, V % 18446744073709551616 = Q := ⟨_, rfl⟩
            rw [hH] at h6
            rw [hQ] at h7
            subst h6 h7
            by_cases hg0 : gk = 0
            · subst hg0
              obtain rfl : k = n := by omega
              have hNV : N = V := by rw [← hval, List.drop_of_length_le (by rw [HL.out]; exact Nat.le_refl _)]; rfl
              subst hNV
              have hu : isU ((Q : Nat) : Int) := by unfold isU; omega
              have pn : parseN false N = if decide (wrap64 (H : Int) < 0) = false then (wrap64 (H : Int), (Q : Int), 0) else (0, 0, 8) := by unfold parseN; rw [if_neg (by omega), hH, hQ]; simp only [if_true, if_false, Bool.false_eq_true]
              have HU := Lib.hid hu
              have HS := Lib.hid (And.intro hH (And.intro hQ hV))
              clear hu hH hQ hV hval hk
              by_cases hs : wrap64 (H : Int) < 0
              · have pf := Lib.hid (PF.out.trans (pn.trans (if_neg (by simp [hs]))))
                clear pn
                have zz : ¬ w.heap.size = x2.it.heap.size := by omega
                go_wp2_with fail
                all_goals first | (rename_i hbad; exfalso; revert hbad; simp; omega) | (exact bodyPost_ret (v := .tuple #[.agg #[.int .i64 0, .int .u64 0], .int .i64 8]) (by simp (maxDischargeDepth := 5) [results, Tryd.results6, go_sem, *]) rfl (⟨by rw [pf.out], by repeat (first | with_reducible exact Below.refl _ _ | with_reducible assumption | with_reducible refine Below.al ?_ _ | with_reducible refine Below.on ?_ _ | with_reducible refine Below.st ?_ (by first | assumption | (simp; done) | (simp; omega)) _ | with_reducible refine Below.drew ?_)⟩))
              · have pf := Lib.hid (PF.out.trans (pn.trans (if_pos (by simp [hs]))))
                clear pn
                have zz : ¬ w.heap.size = x2.it.heap.size := by omega
                go_wp2_with fail
                all_goals first | (rename_i hbad; exfalso; revert hbad; simp; omega) | (exact bodyPost_ret (v := .tuple #[.agg #[.int .i64 (wrap64 (H : Int)), .int .u64 ((Q : Int))], .int .i64 0]) (by simp (maxDischargeDepth := 5) [results, Tryd.results6, go_sem, *]) rfl (⟨by rw [pf.out], by repeat (first | with_reducible exact Below.refl _ _ | with_reducible assumption | with_reducible refine Below.al ?_ _ | with_reducible refine Below.on ?_ _ | with_reducible refine Below.st ?_ (by first | assumption | (simp; done) | (simp; omega)) _ | with_reducible refine Below.drew ?_)⟩))
            · have hkn : k < n := by omega
              have hkn' : (k : Int) < n := by omega
              have hkl : k < ([(48 : UInt8)]).length := by rw [HL.out]; exact hkn
              obtain ⟨c, hc⟩ : ∃ c, ([(48 : UInt8)])[k]'hkl = c := ⟨_, rfl⟩
              have dg := DG'.out k hkl
              rw [List.drop_eq_getElem_cons hkl] at hval
              rw [hc] at dg hval
              have tc : ∀ h : k < T.size, T[k]'h = c := fun h => (TB'.out k h hkl).trans hc
              obtain ⟨d, hd⟩ : ∃ d, c.toNat - 48 = d := ⟨_, rfl⟩
              have hval2 : valL (10 * V + d) (([(48 : UInt8)]).drop (k + 1)) = N := by rw [← hd]; exact hval
              have hd1 : IntKind.u8.wrap ((c.toNat : Int) - 48) = (d : Int) := by simp [IntKind.wrap, IntKind.bits, IntKind.signed]; omega
              have hd2 : IntKind.u64.wrap (d : Int) = (d : Int) := by simp [IntKind.wrap, IntKind.bits, IntKind.signed]; omega
              have MH := mul_any H (by omega)
              have ML := mul_any Q (by omega)
              obtain ⟨ov, hov⟩ : ∃ x, H * 10 / 18446744073709551616 = x := ⟨_, rfl⟩
              obtain ⟨hh, hhh⟩ : ∃ x, H * 10 % 18446744073709551616 = x := ⟨_, rfl⟩
              obtain ⟨cy, hcy⟩ : ∃ x, Q * 10 / 18446744073709551616 = x := ⟨_, rfl⟩
              obtain ⟨lw, hlw⟩ : ∃ x, Q * 10 % 18446744073709551616 = x := ⟨_, rfl⟩
              rw [hov, hhh] at MH
              rw [hcy, hlw] at ML
              obtain ⟨c1, hc1⟩ : ∃ x, (lw + d) / 18446744073709551616 = x := ⟨_, rfl⟩
              obtain ⟨lo, hlo⟩ : ∃ x, (lw + d) % 18446744073709551616 = x := ⟨_, rfl⟩
              obtain ⟨c2, hc2⟩ : ∃ x, (hh + cy + c1) / 18446744073709551616 = x := ⟨_, rfl⟩
              obtain ⟨hi, hhi⟩ : ∃ x, (hh + cy + c1) % 18446744073709551616 = x := ⟨_, rfl⟩
              have A1 := fun w => add64_run (lw : Int) (d : Int) 0 (by omega) (by omega) (by omega) (by omega) w
              have A2 := fun w => add64_run (hh : Int) (cy : Int) (c1 : Int) (by omega) (by omega) (by omega) (by omega) w
              rw [show sumLo (lw : Int) (d : Int) 0 = (lo : Int) by unfold sumLo; omega, show sumC (lw : Int) (d : Int) 0 = (c1 : Int) by unfold sumC; omega] at A1
              rw [show sumLo (hh : Int) (cy : Int) (c1 : Int) = (hi : Int) by unfold sumLo; omega, show sumC (hh : Int) (cy : Int) (c1 : Int) = (c2 : Int) by unfold sumC; omega] at A2
              by_cases ovf : 10 * V + d < 340282366920938463463374607431768211456
              · have o0 : ov = 0 := by omega
                have o2 : c2 = 0 := by omega
                have hhi' : (10 * V + d) / 18446744073709551616 = hi := by omega
                have hlo' : (10 * V + d) % 18446744073709551616 = lo := by omega
                subst o0 o2
                have HK := Lib.hid hk
                clear hV hval hH hQ hov hhh hcy hlw hc1 hlo hc2 hhi dg hd hk hg0 hc
                go_upto_region 9 with (go_at_call 14; refine (MH _).mono ?_; rintro e w1 ⟨rfl, rfl⟩)
                go_upto_region 10 with (go_at_call 14; refine (ML _).mono ?_; rintro e w1 ⟨rfl, rfl⟩)
                go_wp2
                go_roundg (gk - 1)
                case measure => have := HK.out; omega
                case rel => exact ⟨k + 1, 10 * V + d, by have := HK.out; omega, by go_num, by rw [hhi'], by rw [hlo'], ovf, hval2, rfl⟩
              · have hbig : 340282366920938463463374607431768211456 ≤ N := by have := valL_ge (([(48 : UInt8)]).drop (k + 1)) (10 * V + d); omega
                have pf := Lib.hid (PF.out.trans (by unfold parseN; exact if_pos hbig))
                have oo : ov = 0 → ¬ c2 = 0 := by intro h1 h2; omega
                clear hV hval hH hQ hov hhh hcy hlw hc1 hlo hc2 hhi dg hd hk hg0 hc hbig
                by_cases o0 : ov = 0
                · have o2 := oo o0; subst o0; clear oo
                  have o3 : ¬ (c2 : Int) = 0 := by omega
                  go_upto_region 9 with (go_at_call 14; refine (MH _).mono ?_; rintro e w1 ⟨rfl, rfl⟩)
                  go_upto_region 10 with (go_at_call 14; refine (ML _).mono ?_; rintro e w1 ⟨rfl, rfl⟩)
                  go_wp2
                  exact bodyPost_ret (v := .tuple #[.agg #[.int .i64 0, .int .u64 0], .int .i64 8]) (by simp (maxDischargeDepth := 5) [results, Tryd.results6, go_sem, *]) rfl (⟨by rw [pf.out], by repeat (first | with_reducible exact Below.refl _ _ | with_reducible assumption | with_reducible refine Below.al ?_ _ | with_reducible refine Below.on ?_ _ | with_reducible refine Below.st ?_ (by first | assumption | (simp; done) | (simp; omega)) _ | with_reducible refine Below.drew ?_)⟩)
                · clear oo
                  have o3 : ¬ (ov : Int) = 0 := by omega
                  go_upto_region 9 with (go_at_call 14; refine (MH _).mono ?_; rintro e w1 ⟨rfl, rfl⟩)
                  go_upto_region 10 with (go_at_call 14; refine (ML _).mono ?_; rintro e w1 ⟨rfl, rfl⟩)
                  go_wp2
                  exact bodyPost_ret (v := .tuple #[.agg #[.int .i64 0, .int .u64 0], .int .i64 8]) (by simp (maxDischargeDepth := 5) [results, Tryd.results6, go_sem, *]) rfl (⟨by rw [pf.out], by repeat (first | with_reducible exact Below.refl _ _ | with_reducible assumption | with_reducible refine Below.al ?_ _ | with_reducible refine Below.on ?_ _ | with_reducible refine Below.st ?_ (by first | assumption | (simp; done) | (simp; omega)) _ | with_reducible refine Below.drew ?_)⟩)
        | cons c r =>
          have s48 : (T.toList == [48]) = false := by rw [tl]; simp
          have pf := Lib.hid (parseF_form (neg := false) (t := 48 :: c :: r) (by unfold formB; simp))
          clear hT RL tl hd hA hn TB
          go_enter Tryd.func6, Tryd.ntmps6
          go_wp2_with (first | (go_at_call 12; refine (CUT _).mono ?_; rintro e w1 ⟨rfl, rfl⟩) | (go_at_call 13; refine (TRIM _).mono ?_; rintro e w2 ⟨rfl, hb2⟩; obtain ⟨x2, rfl⟩ := Ext.of hb2; have z0 : w.heap.size < x2.it.heap.size := x2.lt (by simp)))
          exact bodyPost_ret (v := .tuple #[.agg #[.int .i64 0, .int .u64 0], .int .i64 2]) (by simp [results, Tryd.results6, go_sem, *]) rfl (⟨by rw [pf.out], by repeat (first | with_reducible exact Below.refl _ _ | with_reducible assumption | with_reducible refine Below.al ?_ _ | with_reducible refine Below.on ?_ _ | with_reducible refine Below.st ?_ (by first | assumption | (simp; done) | (simp; omega)) _ | with_reducible refine Below.drew ?_)⟩)
      · have an : ¬ (a.toNat : Int) = 48 := by intro h; exact a48 (UInt8.toNat_inj.1 (by simp; omega))
        have hform : formB false (a :: r) = true := by unfold formB; rw [hd, decide_eq_true (by simp only [hn, if_true, if_false, Bool.false_eq_true]; omega)]; simp [a48]
        have PF := Lib.hid (parseF_num hform)
        obtain ⟨N, hN⟩ : ∃ N, valL 0 (a :: r) = N := ⟨_, rfl⟩
        rw [hN] at PF
        have DG : ∀ k (h : k < (a :: r).length), 48 ≤ ((a :: r)[k]'h).toNat ∧ ((a :: r)[k]'h).toNat ≤ 57 := fun k h => by have := List.all_eq_true.1 hd _ (List.getElem_mem h); revert this; simp [digB]
        have HN := Lib.hid hN
        have DG' := Lib.hid DG
        have TB' := Lib.hid TB
        have HL := Lib.hid hn
        clear hT RL tl hd hA hn TB hN DG hform
        go_enter Tryd.func6, Tryd.ntmps6
        go_upto_region 4 with (first | (go_at_call 12; refine (CUT _).mono ?_; rintro e w1 ⟨rfl, rfl⟩) | (go_at_call 13; refine (TRIM _).mono ?_; rintro e w2 ⟨rfl, hb2⟩; obtain ⟨x2, rfl⟩ := Ext.of hb2; have z0 : w.heap.size < x2.it.heap.size := x2.lt (by simp)))
        go_wp2_with fail
        go_loopg [6, 7, 44] n (fun g s6 s7 s44 wr => ∃ k V : Nat, k + g = n ∧ s44 = .int .i64 (k : Int) ∧ s6 = .int .u64 ((V / 18446744073709551616 : Nat) : Int) ∧ s7 = .int .u64 ((V % 18446744073709551616 : Nat) : Int) ∧ V < 340282366920938463463374607431768211456 ∧ valL V ((a :: r).drop k) = N ∧ x2.it = wr)
        case atStart => exact ⟨0, 0, by omega, rfl, rfl, rfl, by omega, HN.out, rfl⟩
        case round =>
          obtain ⟨k, V, hk, rfl, h6, h7, hV, hval, rfl⟩ := hrel
          obtain ⟨H, hH⟩ : ∃ H, V / 18446744073709551616 = H := ⟨_, rfl⟩
          obtain ⟨Q, hQ⟩ : ∃ Q, V % 18446744073709551616 = Q := ⟨_, rfl⟩
          rw [hH] at h6
          rw [hQ] at h7
          subst h6 h7
          by_cases hg0 : gk = 0
          · subst hg0
            obtain rfl : k = n := by omega
            have hNV : N = V := by rw [← hval, List.drop_of_length_le (by rw [HL.out]; exact Nat.le_refl _)]; rfl
            subst hNV
            have hu : isU ((Q : Nat) : Int) := by unfold isU; omega
            have pn : parseN false N = if decide (wrap64 (H : Int) < 0) = false then (wrap64 (H : Int), (Q : Int), 0) else (0, 0, 8) := by unfold parseN; rw [if_neg (by omega), hH, hQ]; simp only [if_true, if_false, Bool.false_eq_true]
            have HU := Lib.hid hu
            have HS := Lib.hid (And.intro hH (And.intro hQ hV))
            clear hu hH hQ hV hval hk
            by_cases hs : wrap64 (H : Int) < 0
            · have pf := Lib.hid (PF.out.trans (pn.trans (if_neg (by simp [hs]))))
              clear pn
              have zz : ¬ w.heap.size = x2.it.heap.size := by omega
              go_wp2_with fail
              all_goals first | (rename_i hbad; exfalso; revert hbad; simp; omega) | (exact bodyPost_ret (v := .tuple #[.agg #[.int .i64 0, .int .u64 0], .int .i64 8]) (by simp (maxDischargeDepth := 5) [results, Tryd.results6, go_sem, *]) rfl (⟨by rw [pf.out], by repeat (first | with_reducible exact Below.refl _ _ | with_reducible assumption | with_reducible refine Below.al ?_ _ | with_reducible refine Below.on ?_ _ | with_reducible refine Below.st ?_ (by first | assumption | (simp; done) | (simp; omega)) _ | with_reducible refine Below.drew ?_)⟩))
            · have pf := Lib.hid (PF.out.trans (pn.trans (if_pos (by simp [hs]))))
              clear pn
              have zz : ¬ w.heap.size = x2.it.heap.size := by omega
              go_wp2_with fail
              all_goals first | (rename_i hbad; exfalso; revert hbad; simp; omega) | (exact bodyPost_ret (v := .tuple #[.agg #[.int .i64 (wrap64 (H : Int)), .int .u64 ((Q : Int))], .int .i64 0]) (by simp (maxDischargeDepth := 5) [results, Tryd.results6, go_sem, *]) rfl (⟨by rw [pf.out], by repeat (first | with_reducible exact Below.refl _ _ | with_reducible assumption | with_reducible refine Below.al ?_ _ | with_reducible refine Below.on ?_ _ | with_reducible refine Below.st ?_ (by first | assumption | (simp; done) | (simp; omega)) _ | with_reducible refine Below.drew ?_)⟩))
          · have hkn : k < n := by omega
            have hkn' : (k : Int) < n := by omega
            have hkl : k < (a :: r).length := by rw [HL.out]; exact hkn
            obtain ⟨c, hc⟩ : ∃ c, (a :: r)[k]'hkl = c := ⟨_, rfl⟩
            have dg := DG'.out k hkl
            rw [List.drop_eq_getElem_cons hkl] at hval
            rw [hc] at dg hval
            have tc : ∀ h : k < T.size, T[k]'h = c := fun h => (TB'.out k h hkl).trans hc
            obtain ⟨d, hd⟩ : ∃ d, c.toNat - 48 = d := ⟨_, rfl⟩
            have hval2 : valL (10 * V + d) ((a :: r).drop (k + 1)) = N := by rw [← hd]; exact hval
            have hd1 : IntKind.u8.wrap ((c.toNat : Int) - 48) = (d : Int) := by simp [IntKind.wrap, IntKind.bits, IntKind.signed]; omega
            have hd2 : IntKind.u64.wrap (d : Int) = (d : Int) := by simp [IntKind.wrap, IntKind.bits, IntKind.signed]; omega
            have MH := mul_any H (by omega)
            have ML := mul_any Q (by omega)
            obtain ⟨ov, hov⟩ : ∃ x, H * 10 / 18446744073709551616 = x := ⟨_, rfl⟩
            obtain ⟨hh, hhh⟩ : ∃ x, H * 10 % 18446744073709551616 = x := ⟨_, rfl⟩
            obtain ⟨cy, hcy⟩ : ∃ x, Q * 10 / 18446744073709551616 = x := ⟨_, rfl⟩
            obtain ⟨lw, hlw⟩ : ∃ x, Q * 10 % 18446744073709551616 = x := ⟨_, rfl⟩
            rw [hov, hhh] at MH
            rw [hcy, hlw] at ML
            obtain ⟨c1, hc1⟩ : ∃ x, (lw + d) / 18446744073709551616 = x := ⟨_, rfl⟩
            obtain ⟨lo, hlo⟩ : ∃ x, (lw + d) % 18446744073709551616 = x := ⟨_, rfl⟩
            obtain ⟨c2, hc2⟩ : ∃ x, (hh + cy + c1) / 18446744073709551616 = x := ⟨_, rfl⟩
            obtain ⟨hi, hhi⟩ : ∃ x, (hh + cy + c1) % 18446744073709551616 = x := ⟨_, rfl⟩
            have A1 := fun w => add64_run (lw : Int) (d : Int) 0 (by omega) (by omega) (by omega) (by omega) w
            have A2 := fun w => add64_run (hh : Int) (cy : Int) (c1 : Int) (by omega) (by omega) (by omega) (by omega) w
            rw [show sumLo (lw : Int) (d : Int) 0 = (lo : Int) by unfold sumLo; omega, show sumC (lw : Int) (d : Int) 0 = (c1 : Int) by unfold sumC; omega] at A1
            rw [show sumLo (hh : Int) (cy : Int) (c1 : Int) = (hi : Int) by unfold sumLo; omega, show sumC (hh : Int) (cy : Int) (c1 : Int) = (c2 : Int) by unfold sumC; omega] at A2
            by_cases ovf : 10 * V + d < 340282366920938463463374607431768211456
            · have o0 : ov = 0 := by omega
              have o2 : c2 = 0 := by omega
              have hhi' : (10 * V + d) / 18446744073709551616 = hi := by omega
              have hlo' : (10 * V + d) % 18446744073709551616 = lo := by omega
              subst o0 o2
              have HK := Lib.hid hk
              clear hV hval hH hQ hov hhh hcy hlw hc1 hlo hc2 hhi dg hd hk hg0 hc
              go_upto_region 9 with (go_at_call 14; refine (MH _).mono ?_; rintro e w1 ⟨rfl, rfl⟩)
              go_upto_region 10 with (go_at_call 14; refine (ML _).mono ?_; rintro e w1 ⟨rfl, rfl⟩)
              go_wp2
              go_roundg (gk - 1)
              case measure => have := HK.out; omega
              case rel => exact ⟨k + 1, 10 * V + d, by have := HK.out; omega, by go_num, by rw [hhi'], by rw [hlo'], ovf, hval2, rfl⟩
            · have hbig : 340282366920938463463374607431768211456 ≤ N := by have := valL_ge ((a :: r).drop (k + 1)) (10 * V + d); omega
              have pf := Lib.hid (PF.out.trans (by unfold parseN; exact if_pos hbig))
              have oo : ov = 0 → ¬ c2 = 0 := by intro h1 h2; omega
              clear hV hval hH hQ hov hhh hcy hlw hc1 hlo hc2 hhi dg hd hk hg0 hc hbig
              by_cases o0 : ov = 0
              · have o2 := oo o0; subst o0; clear oo
                have o3 : ¬ (c2 : Int) = 0 := by omega
                go_upto_region 9 with (go_at_call 14; refine (MH _).mono ?_; rintro e w1 ⟨rfl, rfl⟩)
                go_upto_region 10 with (go_at_call 14; refine (ML _).mono ?_; rintro e w1 ⟨rfl, rfl⟩)
                go_wp2
                exact bodyPost_ret (v := .tuple #[.agg #[.int .i64 0, .int .u64 0], .int .i64 8]) (by simp (maxDischargeDepth := 5) [results, Tryd.results6, go_sem, *]) rfl (⟨by rw [pf.out], by repeat (first | with_reducible exact Below.refl _ _ | with_reducible assumption | with_reducible refine Below.al ?_ _ | with_reducible refine Below.on ?_ _ | with_reducible refine Below.st ?_ (by first | assumption | (simp; done) | (simp; omega)) _ | with_reducible refine Below.drew ?_)⟩)
              · clear oo
                have o3 : ¬ (ov : Int) = 0 := by omega
                go_upto_region 9 with (go_at_call 14; refine (MH _).mono ?_; rintro e w1 ⟨rfl, rfl⟩)
                go_upto_region 10 with (go_at_call 14; refine (ML _).mono ?_; rintro e w1 ⟨rfl, rfl⟩)
                go_wp2
                exact bodyPost_ret (v := .tuple #[.agg #[.int .i64 0, .int .u64 0], .int .i64 8]) (by simp (maxDischargeDepth := 5) [results, Tryd.results6, go_sem, *]) rfl (⟨by rw [pf.out], by repeat (first | with_reducible exact Below.refl _ _ | with_reducible assumption | with_reducible refine Below.al ?_ _ | with_reducible refine Below.on ?_ _ | with_reducible refine Below.st ?_ (by first | assumption | (simp; done) | (simp; omega)) _ | with_reducible refine Below.drew ?_)⟩)
    · have pf := Lib.hid (parseF_form (neg := false) (t := a :: r) (by unfold formB; rw [eq_false_of_ne_true hd]; simp))
      have r0 : ¬ R.toList = [] := by rw [RL, trim_nil]; exact hd
      clear RL hT hA hn tl hd
      go_enter Tryd.func6, Tryd.ntmps6
      go_wp2_with (first | (go_at_call 12; refine (CUT _).mono ?_; rintro e w1 ⟨rfl, rfl⟩) | (go_at_call 13; refine (TRIM _).mono ?_; rintro e w2 ⟨rfl, hb2⟩; obtain ⟨x2, rfl⟩ := Ext.of hb2; have z0 : w.heap.size < x2.it.heap.size := x2.lt (by simp)))
      exact bodyPost_ret (v := .tuple #[.agg #[.int .i64 0, .int .u64 0], .int .i64 2]) (by simp [results, Tryd.results6, go_sem, *]) rfl (⟨by rw [pf.out], by repeat (first | with_reducible exact Below.refl _ _ | with_reducible assumption | with_reducible refine Below.al ?_ _ | with_reducible refine Below.on ?_ _ | with_reducible refine Below.st ?_ (by first | assumption | (simp; done) | (simp; omega)) _ | with_reducible refine Below.drew ?_)⟩)
set_option maxRecDepth 8000 in
set_option maxHeartbeats 1000000 in
theorem par_true (t : List UInt8) (hl : t.length ≤ 9223372036854775807 - 1) (w : World) :
    Calls Tryd.prog 6 #[.string ⟨(45 :: t).toArray⟩] w fun e w' => e = .returned (.tuple #[.agg #[.int .i64 (parseF true t).1, .int .u64 (parseF true t).2.1], .int .i64 (parseF true t).2.2]) ∧ Below w.heap.size w w' := by
  have CUT := cut_neg t
  have TRIM := fun w => trim_any ⟨t.toArray⟩ w (by simp [ByteArray.size]; omega)
  have RL : (⟨(Lib.trimS (⟨t.toArray⟩ : ByteArray).data.toList [48, 49, 50, 51, 52, 53, 54, 55, 56, 57]).toArray⟩ : ByteArray).toList = Lib.trimS t [48, 49, 50, 51, 52, 53, 54, 55, 56, 57] := by rw [ByteArray.toList_eq]
  generalize (⟨(Lib.trimS (⟨t.toArray⟩ : ByteArray).data.toList [48, 49, 50, 51, 52, 53, 54, 55, 56, 57]).toArray⟩ : ByteArray) = R at TRIM RL
  obtain ⟨T, hT⟩ : ∃ T : ByteArray, T = ⟨t.toArray⟩ := ⟨_, rfl⟩
  obtain ⟨n, hn⟩ : ∃ n, t.length = n := ⟨_, rfl⟩
  have tl : T.toList = t := by rw [hT, ByteArray.toList_eq]
  have ts : T.size = n := by rw [hT, ← hn]; simp [ByteArray.size]
  obtain ⟨S, hS⟩ : ∃ S : ByteArray, S = ⟨(45 :: t).toArray⟩ := ⟨_, rfl⟩
  have ss : S.size = n + 1 := by rw [hS, ← hn]; simp [ByteArray.size]
  rw [← hT] at CUT TRIM
  rw [← hS] at CUT ⊢
  by_cases hA : 40 < n + 1
  · have pf := Lib.hid (parseF_form (neg := true) (t := t) (by unfold formB; rw [decide_eq_false (by simp only [hn, if_true, if_false, Bool.false_eq_true]; omega)]; simp))
    have hA' : (40 : Int) < ((n + 1 : Nat) : Int) := by omega
    have hA2 : (40 : Int) < (n : Int) + 1 := by omega
    clear TRIM RL tl hT hS
    go_enter Tryd.func6, Tryd.ntmps6
    go_wp2_with (first | (go_at_call 12; refine (CUT _).mono ?_; rintro e w1 ⟨rfl, rfl⟩) | (go_at_call 13; refine (TRIM _).mono ?_; rintro e w2 ⟨rfl, hb2⟩; obtain ⟨x2, rfl⟩ := Ext.of hb2; have z0 : w.heap.size < x2.it.heap.size := x2.lt (by simp)))
    exact bodyPost_ret (v := .tuple #[.agg #[.int .i64 0, .int .u64 0], .int .i64 2]) (by simp [results, Tryd.results6, go_sem, *]) rfl (⟨by rw [pf.out], by repeat (first | with_reducible exact Below.refl _ _ | with_reducible assumption | with_reducible refine Below.al ?_ _ | with_reducible refine Below.on ?_ _ | with_reducible refine Below.st ?_ (by first | assumption | (simp; done) | (simp; omega)) _ | with_reducible refine Below.drew ?_)⟩)
  have hA' : ¬ (40 : Int) < (n : Int) + 1 := by omega
  cases t with
  | nil =>
    have pf := Lib.hid (parseF_form (neg := true) (t := []) (by unfold formB; simp))
    clear TRIM RL hT hA hn hS
    go_enter Tryd.func6, Tryd.ntmps6
    go_wp2_with (first | (go_at_call 12; refine (CUT _).mono ?_; rintro e w1 ⟨rfl, rfl⟩) | (go_at_call 13; refine (TRIM _).mono ?_; rintro e w2 ⟨rfl, hb2⟩; obtain ⟨x2, rfl⟩ := Ext.of hb2; have z0 : w.heap.size < x2.it.heap.size := x2.lt (by simp)))
    exact bodyPost_ret (v := .tuple #[.agg #[.int .i64 0, .int .u64 0], .int .i64 2]) (by simp [results, Tryd.results6, go_sem, *]) rfl (⟨by rw [pf.out], by repeat (first | with_reducible exact Below.refl _ _ | with_reducible assumption | with_reducible refine Below.al ?_ _ | with_reducible refine Below.on ?_ _ | with_reducible refine Below.st ?_ (by first | assumption | (simp; done) | (simp; omega)) _ | with_reducible refine Below.drew ?_)⟩)
  | cons a r =>
    have t0 : ¬ T.toList = [] := by rw [tl]; simp
    by_cases hd : (a :: r).all digB = true
    · have r1 : R.toList = [] := by rw [RL, trim_nil]; exact hd
      have te : T.toList.isEmpty = false := by rw [tl]; rfl
      have n0 : 0 < n := by rw [← hn]; simp
      have TB : ∀ k (h : k < T.size) (h' : k < (a :: r).length), T[k]'h = (a :: r)[k]'(h') := by intro k h h'; subst hT; rfl
      have ta : ∀ h : 0 < T.size, T[0]'h = a := fun h => TB 0 h (by simp)
      by_cases a48 : a = 48
      · subst a48
        have s48 : (S.toList == [48]) = false := by rw [hS, ByteArray.toList_eq]; simp
        have pf := Lib.hid (parseF_form (neg := true) (t := 48 :: r) (by unfold formB; simp))
        clear hT RL tl hd hA hn TB hS
        go_enter Tryd.func6, Tryd.ntmps6
        go_wp2_with (first | (go_at_call 12; refine (CUT _).mono ?_; rintro e w1 ⟨rfl, rfl⟩) | (go_at_call 13; refine (TRIM _).mono ?_; rintro e w2 ⟨rfl, hb2⟩; obtain ⟨x2, rfl⟩ := Ext.of hb2; have z0 : w.heap.size < x2.it.heap.size := x2.lt (by simp)))
        exact bodyPost_ret (v := .tuple #[.agg #[.int .i64 0, .int .u64 0], .int .i64 2]) (by simp [results, Tryd.results6, go_sem, *]) rfl (⟨by rw [pf.out], by repeat (first | with_reducible exact Below.refl _ _ | with_reducible assumption | with_reducible refine Below.al ?_ _ | with_reducible refine Below.on ?_ _ | with_reducible refine Below.st ?_ (by first | assumption | (simp; done) | (simp; omega)) _ | with_reducible refine Below.drew ?_)⟩)
      · have an : ¬ (a.toNat : Int) = 48 := by intro h; exact a48 (UInt8.toNat_inj.1 (by simp; omega))
        have hform : formB true (a :: r) = true := by unfold formB; rw [hd, decide_eq_true (by simp only [hn, if_true, if_false, Bool.false_eq_true]; omega)]; simp [a48]
        have PF := Lib.hid (parseF_num hform)
        obtain ⟨N, hN⟩ : ∃ N, valL 0 (a :: r) = N := ⟨_, rfl⟩
        rw [hN] at PF
        have DG : ∀ k (h : k < (a :: r).length), 48 ≤ ((a :: r)[k]'h).toNat ∧ ((a :: r)[k]'h).toNat ≤ 57 := fun k h => by have := List.all_eq_true.1 hd _ (List.getElem_mem h); revert this; simp [digB]
        have HN := Lib.hid hN
        have DG' := Lib.hid DG
        have TB' := Lib.hid TB
        have HL := Lib.hid hn
        clear hT RL tl hd hA hn TB hN DG hform hS
        go_enter Tryd.func6, Tryd.ntmps6
        go_upto_region 4 with (first | (go_at_call 12; refine (CUT _).mono ?_; rintro e w1 ⟨rfl, rfl⟩) | (go_at_call 13; refine (TRIM _).mono ?_; rintro e w2 ⟨rfl, hb2⟩; obtain ⟨x2, rfl⟩ := Ext.of hb2; have z0 : w.heap.size < x2.it.heap.size := x2.lt (by simp)))
        go_wp2_with fail
        go_loopg [6, 7, 44] n (fun g s6 s7 s44 wr => ∃ k V : Nat, k + g = n ∧ s44 = .int .i64 (k : Int) ∧ s6 = .int .u64 ((V / 18446744073709551616 : Nat) : Int) ∧ s7 = .int .u64 ((V % 18446744073709551616 : Nat) : Int) ∧ V < 340282366920938463463374607431768211456 ∧ valL V ((a :: r).drop k) = N ∧ x2.it = wr)
        case atStart => exact ⟨0, 0, by omega, rfl, rfl, rfl, by omega, HN.out, rfl⟩
        case round =>
          obtain ⟨k, V, hk, rfl, h6, h7, hV, hval, rfl⟩ := hrel
          obtain ⟨H, hH⟩ : ∃ H, V / 18446744073709551616 = H := ⟨_, rfl⟩
          obtain ⟨Q, hQ⟩ : ∃ Q, V % 18446744073709551616 = Q := ⟨_, rfl⟩
          rw [hH] at h6
          rw [hQ] at h7
          subst h6 h7
          by_cases hg0 : gk = 0
          · subst hg0
            obtain rfl : k = n := by omega
            have hNV : N = V := by rw [← hval, List.drop_of_length_le (by rw [HL.out]; exact Nat.le_refl _)]; rfl
            subst hNV
            have hu : isU ((Q : Nat) : Int) := by unfold isU; omega
            have pn : parseN true N = if decide (negHi (wrap64 (H : Int)) (Q : Int) < 0) = true then (negHi (wrap64 (H : Int)) (Q : Int), negLo (Q : Int), 0) else (0, 0, 8) := by unfold parseN; rw [if_neg (by omega), hH, hQ]; simp only [if_true, if_false, Bool.false_eq_true]
            have HU := Lib.hid hu
            have HS := Lib.hid (And.intro hH (And.intro hQ hV))
            clear hu hH hQ hV hval hk
            by_cases hs : negHi (wrap64 (H : Int)) (Q : Int) < 0
            · have pf := Lib.hid (PF.out.trans (pn.trans (if_pos (by simp [hs]))))
              clear pn
              have zz : ¬ w.heap.size = x2.it.heap.size := by omega
              go_wp2_with (go_at_call 16; refine (neg_any _ _ (isI_wrap64 _) HU.out _).mono ?_; rintro e w9 ⟨rfl, hb9⟩; obtain ⟨x9, rfl⟩ := Ext.of hb9; have z9 : w.heap.size < x9.it.heap.size := x9.lt (by first | assumption | (simp; done) | (simp; omega)); have z8 : x2.it.heap.size < x9.it.heap.size := x9.lt (by simp))
              all_goals first | (rename_i hbad; exfalso; revert hbad; simp; omega) | (exact bodyPost_ret (v := .tuple #[.agg #[.int .i64 (negHi (wrap64 (H : Int)) (Q : Int)), .int .u64 (negLo (Q : Int))], .int .i64 0]) (by simp (maxDischargeDepth := 5) [results, Tryd.results6, go_sem, *]) rfl (⟨by rw [pf.out], by repeat (first | with_reducible exact Below.refl _ _ | with_reducible assumption | with_reducible refine Below.al ?_ _ | with_reducible refine Below.on ?_ _ | with_reducible refine Below.st ?_ (by first | assumption | (simp; done) | (simp; omega)) _ | with_reducible refine Below.drew ?_)⟩))
            · have pf := Lib.hid (PF.out.trans (pn.trans (if_neg (by simp [hs]))))
              clear pn
              have zz : ¬ w.heap.size = x2.it.heap.size := by omega
              go_wp2_with (go_at_call 16; refine (neg_any _ _ (isI_wrap64 _) HU.out _).mono ?_; rintro e w9 ⟨rfl, hb9⟩; obtain ⟨x9, rfl⟩ := Ext.of hb9; have z9 : w.heap.size < x9.it.heap.size := x9.lt (by first | assumption | (simp; done) | (simp; omega)); have z8 : x2.it.heap.size < x9.it.heap.size := x9.lt (by simp))
              all_goals first | (rename_i hbad; exfalso; revert hbad; simp; omega) | (exact bodyPost_ret (v := .tuple #[.agg #[.int .i64 0, .int .u64 0], .int .i64 8]) (by simp (maxDischargeDepth := 5) [results, Tryd.results6, go_sem, *]) rfl (⟨by rw [pf.out], by repeat (first | with_reducible exact Below.refl _ _ | with_reducible assumption | with_reducible refine Below.al ?_ _ | with_reducible refine Below.on ?_ _ | with_reducible refine Below.st ?_ (by first | assumption | (simp; done) | (simp; omega)) _ | with_reducible refine Below.drew ?_)⟩))
          · have hkn : k < n := by omega
            have hkn' : (k : Int) < n := by omega
            have hkl : k < (a :: r).length := by rw [HL.out]; exact hkn
            obtain ⟨c, hc⟩ : ∃ c, (a :: r)[k]'hkl = c := ⟨_, rfl⟩
            have dg := DG'.out k hkl
            rw [List.drop_eq_getElem_cons hkl] at hval
            rw [hc] at dg hval
            have tc : ∀ h : k < T.size, T[k]'h = c := fun h => (TB'.out k h hkl).trans hc
            obtain ⟨d, hd⟩ : ∃ d, c.toNat - 48 = d := ⟨_, rfl⟩
            have hval2 : valL (10 * V + d) ((a :: r).drop (k + 1)) = N := by rw [← hd]; exact hval
            have hd1 : IntKind.u8.wrap ((c.toNat : Int) - 48) = (d : Int) := by simp [IntKind.wrap, IntKind.bits, IntKind.signed]; omega
            have hd2 : IntKind.u64.wrap (d : Int) = (d : Int) := by simp [IntKind.wrap, IntKind.bits, IntKind.signed]; omega
            have MH := mul_any H (by omega)
            have ML := mul_any Q (by omega)
            obtain ⟨ov, hov⟩ : ∃ x, H * 10 / 18446744073709551616 = x := ⟨_, rfl⟩
            obtain ⟨hh, hhh⟩ : ∃ x, H * 10 % 18446744073709551616 = x := ⟨_, rfl⟩
            obtain ⟨cy, hcy⟩ : ∃ x, Q * 10 / 18446744073709551616 = x := ⟨_, rfl⟩
            obtain ⟨lw, hlw⟩ : ∃ x, Q * 10 % 18446744073709551616 = x := ⟨_, rfl⟩
            rw [hov, hhh] at MH
            rw [hcy, hlw] at ML
            obtain ⟨c1, hc1⟩ : ∃ x, (lw + d) / 18446744073709551616 = x := ⟨_, rfl⟩
            obtain ⟨lo, hlo⟩ : ∃ x, (lw + d) % 18446744073709551616 = x := ⟨_, rfl⟩
            obtain ⟨c2, hc2⟩ : ∃ x, (hh + cy + c1) / 18446744073709551616 = x := ⟨_, rfl⟩
            obtain ⟨hi, hhi⟩ : ∃ x, (hh + cy + c1) % 18446744073709551616 = x := ⟨_, rfl⟩
            have A1 := fun w => add64_run (lw : Int) (d : Int) 0 (by omega) (by omega) (by omega) (by omega) w
            have A2 := fun w => add64_run (hh : Int) (cy : Int) (c1 : Int) (by omega) (by omega) (by omega) (by omega) w
            rw [show sumLo (lw : Int) (d : Int) 0 = (lo : Int) by unfold sumLo; omega, show sumC (lw : Int) (d : Int) 0 = (c1 : Int) by unfold sumC; omega] at A1
            rw [show sumLo (hh : Int) (cy : Int) (c1 : Int) = (hi : Int) by unfold sumLo; omega, show sumC (hh : Int) (cy : Int) (c1 : Int) = (c2 : Int) by unfold sumC; omega] at A2
            by_cases ovf : 10 * V + d < 340282366920938463463374607431768211456
            · have o0 : ov = 0 := by omega
              have o2 : c2 = 0 := by omega
              have hhi' : (10 * V + d) / 18446744073709551616 = hi := by omega
              have hlo' : (10 * V + d) % 18446744073709551616 = lo := by omega
              subst o0 o2
              have HK := Lib.hid hk
              clear hV hval hH hQ hov hhh hcy hlw hc1 hlo hc2 hhi dg hd hk hg0 hc
              go_upto_region 9 with (go_at_call 14; refine (MH _).mono ?_; rintro e w1 ⟨rfl, rfl⟩)
              go_upto_region 10 with (go_at_call 14; refine (ML _).mono ?_; rintro e w1 ⟨rfl, rfl⟩)
              go_wp2
              go_roundg (gk - 1)
              case measure => have := HK.out; omega
              case rel => exact ⟨k + 1, 10 * V + d, by have := HK.out; omega, by go_num, by rw [hhi'], by rw [hlo'], ovf, hval2, rfl⟩
            · have hbig : 340282366920938463463374607431768211456 ≤ N := by have := valL_ge ((a :: r).drop (k + 1)) (10 * V + d); omega
              have pf := Lib.hid (PF.out.trans (by unfold parseN; exact if_pos hbig))
              have oo : ov = 0 → ¬ c2 = 0 := by intro h1 h2; omega
              clear hV hval hH hQ hov hhh hcy hlw hc1 hlo hc2 hhi dg hd hk hg0 hc hbig
              by_cases o0 : ov = 0
              · have o2 := oo o0; subst o0; clear oo
                have o3 : ¬ (c2 : Int) = 0 := by omega
                go_upto_region 9 with (go_at_call 14; refine (MH _).mono ?_; rintro e w1 ⟨rfl, rfl⟩)
                go_upto_region 10 with (go_at_call 14; refine (ML _).mono ?_; rintro e w1 ⟨rfl, rfl⟩)
                go_wp2
                exact bodyPost_ret (v := .tuple #[.agg #[.int .i64 0, .int .u64 0], .int .i64 8]) (by simp (maxDischargeDepth := 5) [results, Tryd.results6, go_sem, *]) rfl (⟨by rw [pf.out], by repeat (first | with_reducible exact Below.refl _ _ | with_reducible assumption | with_reducible refine Below.al ?_ _ | with_reducible refine Below.on ?_ _ | with_reducible refine Below.st ?_ (by first | assumption | (simp; done) | (simp; omega)) _ | with_reducible refine Below.drew ?_)⟩)
              · clear oo
                have o3 : ¬ (ov : Int) = 0 := by omega
                go_upto_region 9 with (go_at_call 14; refine (MH _).mono ?_; rintro e w1 ⟨rfl, rfl⟩)
                go_upto_region 10 with (go_at_call 14; refine (ML _).mono ?_; rintro e w1 ⟨rfl, rfl⟩)
                go_wp2
                exact bodyPost_ret (v := .tuple #[.agg #[.int .i64 0, .int .u64 0], .int .i64 8]) (by simp (maxDischargeDepth := 5) [results, Tryd.results6, go_sem, *]) rfl (⟨by rw [pf.out], by repeat (first | with_reducible exact Below.refl _ _ | with_reducible assumption | with_reducible refine Below.al ?_ _ | with_reducible refine Below.on ?_ _ | with_reducible refine Below.st ?_ (by first | assumption | (simp; done) | (simp; omega)) _ | with_reducible refine Below.drew ?_)⟩)
    · have pf := Lib.hid (parseF_form (neg := true) (t := a :: r) (by unfold formB; rw [eq_false_of_ne_true hd]; simp))
      have r0 : ¬ R.toList = [] := by rw [RL, trim_nil]; exact hd
      clear RL hT hA hn tl hd hS
      go_enter Tryd.func6, Tryd.ntmps6
      go_wp2_with (first | (go_at_call 12; refine (CUT _).mono ?_; rintro e w1 ⟨rfl, rfl⟩) | (go_at_call 13; refine (TRIM _).mono ?_; rintro e w2 ⟨rfl, hb2⟩; obtain ⟨x2, rfl⟩ := Ext.of hb2; have z0 : w.heap.size < x2.it.heap.size := x2.lt (by simp)))
      exact bodyPost_ret (v := .tuple #[.agg #[.int .i64 0, .int .u64 0], .int .i64 2]) (by simp [results, Tryd.results6, go_sem, *]) rfl (⟨by rw [pf.out], by repeat (first | with_reducible exact Below.refl _ _ | with_reducible assumption | with_reducible refine Below.al ?_ _ | with_reducible refine Below.on ?_ _ | with_reducible refine Below.st ?_ (by first | assumption | (simp; done) | (simp; omega)) _ | with_reducible refine Below.drew ?_)⟩)
end Go.Proofs.YtapjndhbdpbjcaaDoor
