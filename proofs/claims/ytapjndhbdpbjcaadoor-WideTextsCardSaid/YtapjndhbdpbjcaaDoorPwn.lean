/-
  micropartref13.ParseWide: the walk. Conditions: the text is no longer than 2^63 - 2 bytes.
-/
import Derived.Test.YtapjndhbdpbjcaaDoorPwl
import Derived.Deep.CutRange
import Derived.Deep.LoopGhost
import Derived.Deep.CutBlock
import Derived.Lib.Hide
set_option linter.unusedVariables false
set_option linter.unusedSimpArgs false
namespace Go.Proofs.YtapjndhbdpbjcaaDoor
open Go.RowKit Go.Shelf
set_option maxRecDepth 8000 in
set_option maxHeartbeats 2000000 in
theorem refpar_true (t : List UInt8) (hl : t.length ≤ 9223372036854775806) (w : World) :
    Calls Tryd.prog 7 #[.string ⟨(45 :: t).toArray⟩] w fun e w' => e = .returned (.tuple #[.agg #[.int .i64 (parseF true t).1, .int .u64 (parseF true t).2.1], .int .i64 (parseF true t).2.2]) ∧ Below w.heap.size w w' := by
  obtain ⟨T, hT⟩ : ∃ T : ByteArray, T = ⟨t.toArray⟩ := ⟨_, rfl⟩
  obtain ⟨n, hn⟩ : ∃ n, t.length = n := ⟨_, rfl⟩
  have ts : T.size = n := by rw [hT, ← hn]; simp [ByteArray.size]
  obtain ⟨S, hS⟩ : ∃ S : ByteArray, S = ⟨(45 :: t).toArray⟩ := ⟨_, rfl⟩
  have ss : S.size = n + 1 := by rw [hS, ← hn]; simp [ByteArray.size]
  have s0 : ∀ h : 0 < S.size, S[0]'h = 45 := by subst hS; intro h; rfl
  have sx : S.extract 1 (n + 1) = T := by rw [hS, hT, ← hn]; ext1; simp
  rw [← hS]
  by_cases hA : 40 < n + 1
  · have pf := Lib.hid (parseF_form (neg := true) (t := t) (by unfold formB; rw [decide_eq_false (by simp only [hn, if_true, if_false, Bool.false_eq_true]; omega)]; simp))
    have n0 : 0 < n := by omega
    have hA' : (40 : Int) < (n : Int) + 1 := by omega
    clear hT hS
    go_enter Tryd.func7, Tryd.ntmps7
    go_wp2
    exact bodyPost_ret (v := .tuple #[.agg #[.int .i64 0, .int .u64 0], .int .i64 2]) (by simp (maxDischargeDepth := 5) [results, Tryd.results7, go_sem, *]) rfl (⟨by rw [pf.out], by repeat (first | with_reducible exact Below.refl _ _ | with_reducible assumption | with_reducible refine Below.al ?_ _ | with_reducible refine Below.on ?_ _ | with_reducible refine Below.st ?_ (by first | assumption | (simp; done) | (simp; omega)) _ | with_reducible refine Below.drew ?_)⟩)
  have hA' : ¬ (40 : Int) < (n : Int) + 1 := by omega
  cases t with
  | nil =>
    have pf := Lib.hid (parseF_form (neg := true) (t := []) (by unfold formB; simp))
    obtain rfl : 0 = n := hn
    clear hT hA hS
    go_enter Tryd.func7, Tryd.ntmps7
    go_wp2
    exact bodyPost_ret (v := .tuple #[.agg #[.int .i64 0, .int .u64 0], .int .i64 2]) (by simp (maxDischargeDepth := 5) [results, Tryd.results7, go_sem, *]) rfl (⟨by rw [pf.out], by repeat (first | with_reducible exact Below.refl _ _ | with_reducible assumption | with_reducible refine Below.al ?_ _ | with_reducible refine Below.on ?_ _ | with_reducible refine Below.st ?_ (by first | assumption | (simp; done) | (simp; omega)) _ | with_reducible refine Below.drew ?_)⟩)
  | cons a r =>
    have n0 : 0 < n := by rw [← hn]; simp
    have n0' : ¬ (n : Int) = 0 := by omega
    have TB : ∀ k (h : k < T.size) (h' : k < (a :: r).length), T[k]'h = (a :: r)[k]'(h') := by intro k h h'; subst hT; rfl
    have ta : ∀ h : 0 < T.size, T[0]'h = a := fun h => TB 0 h (by simp)
    by_cases a48 : a = 48
    · subst a48
      have pf := Lib.hid (parseF_form (neg := true) (t := 48 :: r) (by unfold formB; simp))
      clear hT hA hn TB hS
      go_enter Tryd.func7, Tryd.ntmps7
      go_wp2
      all_goals (exact bodyPost_ret (v := .tuple #[.agg #[.int .i64 0, .int .u64 0], .int .i64 2]) (by simp (maxDischargeDepth := 5) [results, Tryd.results7, go_sem, *]) rfl (⟨by rw [pf.out], by repeat (first | with_reducible exact Below.refl _ _ | with_reducible assumption | with_reducible refine Below.al ?_ _ | with_reducible refine Below.on ?_ _ | with_reducible refine Below.st ?_ (by first | assumption | (simp; done) | (simp; omega)) _ | with_reducible refine Below.drew ?_)⟩))
    · skip
      have DI : ∀ k (h : k < (a :: r).length), digB ((a :: r)[k]'h) = false → parseF true (a :: r) = (0, 0, 2) := by
        intro k h hq
        exact parseF_form (by unfold formB; rw [show (a :: r).all digB = false from by rw [← Bool.not_eq_true, List.all_eq_true]; intro hh; rw [hh _ (List.getElem_mem h)] at hq; cases hq]; simp)
      have AD : (∀ k (h : k < (a :: r).length), digB ((a :: r)[k]'h) = true) → (a :: r).all digB = true := fun h => List.all_eq_true.2 fun x hx => by obtain ⟨k, hk, rfl⟩ := List.getElem_of_mem hx; exact h k hk
      have TB' := Lib.hid TB
      have HL := Lib.hid hn
      have DI' := Lib.hid DI
      have AD' := Lib.hid AD
      have HA := Lib.hid hA
      have HT := Lib.hid hT
      have an : ¬ (a.toNat : Int) = 48 := by intro h; exact a48 (UInt8.toNat_inj.1 (by simp; omega))
      clear hT hA hn TB DI AD hS
      go_enter Tryd.func7, Tryd.ntmps7
      go_upto_region 6 with fail
      go_wp2_with fail
      go_loopg [6] n (fun g s6 wr => ∃ k : Nat, k + g = n ∧ s6 = .int .i64 (k : Int) ∧ (∀ i (h : i < (a :: r).length), i < k → digB ((a :: r)[i]'h) = true) ∧ (w.alloc (.cells #[.int .i64 0, .int .u64 0] 24)) = wr)
      case atStart => exact ⟨0, by omega, rfl, (fun i _ h => absurd h (by omega)), rfl⟩
      case round =>
        obtain ⟨k, hk, rfl, hdk, rfl⟩ := hrel
        by_cases hg0 : gk = 0
        · subst hg0
          obtain rfl : n = k := by omega
          have hd : (a :: r).all digB = true := AD'.out fun i h => hdk i h (by rw [← HL.out]; exact h)
          clear hdk hk
          have HD := Lib.hid hd
          clear hd
          go_upto_region 12 with fail
          have hform : formB true (a :: r) = true := by unfold formB; rw [HD.out, decide_eq_true (by have := HA.out; simp only [HL.out, if_true, if_false, Bool.false_eq_true]; omega)]; simp [a48]
          have PF := Lib.hid (parseF_num hform)
          obtain ⟨N, hN⟩ : ∃ N, valL 0 (a :: r) = N := ⟨_, rfl⟩
          rw [hN] at PF
          have DG : ∀ k (h : k < (a :: r).length), 48 ≤ ((a :: r)[k]'h).toNat ∧ ((a :: r)[k]'h).toNat ≤ 57 := fun k h => by have := List.all_eq_true.1 HD.out _ (List.getElem_mem h); revert this; simp [digB]
          have N1 : 1 ≤ N := by have h1 := valL_ge r (10 * 0 + (a.toNat - 48)); have h2 := (DG 0 (by simp)).1; simp only [List.getElem_cons_zero] at h2; have h3 : valL (10 * 0 + (a.toNat - 48)) r = N := hN; omega
          have HN := Lib.hid hN
          have DG' := Lib.hid DG
          clear hN DG hform
          go_wp2_with fail
          go_loopg [7, 8, 9] n (fun g s7 s8 s9 wr => ∃ k V : Nat, k + g = n ∧ s9 = .int .i64 (k : Int) ∧ s7 = .int .u64 ((V / 18446744073709551616 : Nat) : Int) ∧ s8 = .int .u64 ((V % 18446744073709551616 : Nat) : Int) ∧ V ≤ 170141183460469231731687303715884105728 ∧ valL V ((a :: r).drop k) = N ∧ (w.alloc (.cells #[.int .i64 0, .int .u64 0] 24)) = wr)
          case atStart => exact ⟨0, 0, by omega, rfl, rfl, rfl, by omega, HN.out, rfl⟩
          case round =>
            obtain ⟨k, V, hk, rfl, h6, h7, hV, hval, rfl⟩ := hrel
            obtain ⟨H, hH⟩ : ∃ H, V / 18446744073709551616 = H := ⟨_, rfl⟩
            obtain ⟨Q, hQ⟩ : ∃ Q, V % 18446744073709551616 = Q := ⟨_, rfl⟩
            rw [hH] at h6
            rw [hQ] at h7
            subst h6 h7
            by_cases hg0 : gk = 0
            · subst hg0
              obtain rfl : n = k := by omega
              have hNV : N = V := by rw [← hval, List.drop_of_length_le (by rw [HL.out]; exact Nat.le_refl _)]; rfl
              subst hNV
              have hu : isU ((Q : Nat) : Int) := by unfold isU; omega
              have pn := parse_ok_neg hV N1
              rw [hH, hQ] at pn
              have pf := Lib.hid (PF.out.trans pn)
              have HU := Lib.hid hu
              clear hu hH hQ hV hval hk pn N1
              go_wp2_with (go_at_call 17; refine (refNeg_any _ _ (isI_wrap64 _) HU.out _).mono ?_; rintro e w9 ⟨rfl, hb9⟩; obtain ⟨x9, rfl⟩ := Ext.of hb9; have z9 : w.heap.size < x9.it.heap.size := x9.lt (by first | assumption | (simp; done) | (simp; omega)); have z8 : w.heap.size + 1 < x9.it.heap.size := x9.lt (by first | assumption | (simp; done) | (simp; omega)))
              all_goals (exact bodyPost_ret (v := .tuple #[.agg #[.int .i64 (negHi (wrap64 (H : Int)) (Q : Int)), .int .u64 (negLo (Q : Int))], .int .i64 0]) (by simp (maxDischargeDepth := 5) [results, Tryd.results7, go_sem, *]) rfl (⟨by rw [pf.out], by repeat (first | with_reducible exact Below.refl _ _ | with_reducible assumption | with_reducible refine Below.al ?_ _ | with_reducible refine Below.on ?_ _ | with_reducible refine Below.st ?_ (by first | assumption | (simp; done) | (simp; omega)) _ | with_reducible refine Below.drew ?_)⟩))
            · have hkn : k < n := by omega
              have hkn' : (k : Int) < n := by omega
              have hkl : k < (a :: r).length := by rw [HL.out]; exact hkn
              obtain ⟨c, hc⟩ : ∃ c, (a :: r)[k]'hkl = c := ⟨_, rfl⟩
              have dg := DG'.out k hkl
              rw [List.drop_eq_getElem_cons hkl] at hval
              rw [hc] at dg hval
              have tc : ∀ h : k < T.size, T[k]'h = c := fun h => (TB'.out k h hkl).trans hc
              obtain ⟨d, hd⟩ : ∃ d, c.toNat - 48 = d := ⟨_, rfl⟩
              have hval2 : valL (10 * V + d) ((a :: r).drop (k + 1)) = N := by rw [← hd]; exact hval
              have hNge : 10 * V + d ≤ N := by rw [← hval2]; exact valL_ge _ _
              have hd1 : IntKind.u8.wrap ((c.toNat : Int) - 48) = (d : Int) := by simp [IntKind.wrap, IntKind.bits, IntKind.signed]; omega
              have hd2 : IntKind.u64.wrap (d : Int) = (d : Int) := by simp [IntKind.wrap, IntKind.bits, IntKind.signed]; omega
              by_cases hb : 922337203685477580 < H
              · have pf := Lib.hid (PF.out.trans (parse_big_neg (by omega)))
                have hb' : (922337203685477580 : Int) < (H : Int) := by omega
                clear hV hval hval2 hNge hH hQ dg hd hk hg0 hc hb N1
                go_wp2
                all_goals (exact bodyPost_ret (v := .tuple #[.agg #[.int .i64 0, .int .u64 0], .int .i64 8]) (by simp (maxDischargeDepth := 5) [results, Tryd.results7, go_sem, *]) rfl (⟨by rw [pf.out], by repeat (first | with_reducible exact Below.refl _ _ | with_reducible assumption | with_reducible refine Below.al ?_ _ | with_reducible refine Below.on ?_ _ | with_reducible refine Below.st ?_ (by first | assumption | (simp; done) | (simp; omega)) _ | with_reducible refine Below.drew ?_)⟩))
              · have hb' : ¬ (922337203685477580 : Int) < (H : Int) := by omega
                have HB := Lib.hid (And.intro hV (And.intro hval2 (And.intro hNge (And.intro hH (And.intro hQ (And.intro dg (And.intro hd (And.intro hk hb))))))))
                clear hV hval hval2 hNge hH hQ dg hd hk hg0 hc hb N1
                obtain ⟨hV, hval2, hNge, hH, hQ, dg, hd, hk, hb⟩ := HB.out
                obtain ⟨l8, h8, l2, h2, lo, hh, h1, m, h9, RO⟩ := round_of (d := d) hH hQ hb (by omega)
                obtain ⟨o8, o2, w8, w2, wh8, wh2, a1, a2, b1, b0, am, d1, d0, v1, v2⟩ := RO
                have B1 := Lib.hid b1
                have B0 := Lib.hid b0
                have D1 := Lib.hid d1
                have D0 := Lib.hid d0
                have VV := Lib.hid (And.intro v1 (And.intro v2 (And.intro hNge (And.intro hval2 hk))))
                have v1' := VV.out.1
                clear hV hval2 hNge hH hQ dg hd hk hb b1 b0 d1 d0 v1 v2 v1' HB
                go_upto_if 105 with fail
                go_cut [16] from 69 to 132 (fun s wx => s = .int .u64 (h1 : Int) ∧ (w.alloc (.cells #[.int .i64 0, .int .u64 0] 24)) = wx)
                case first =>
                  by_cases c1 : lo < l8
                  · have e1 := B1.out c1
                    have c1' : (lo : Int) < (l8 : Int) := by omega
                    clear c1
                    go_wp2_with fail
                    go_meet
                    exact ⟨by first | rfl | simp [*], rfl⟩
                  · have e1 := B0.out c1
                    have c1' : ¬ (lo : Int) < (l8 : Int) := by omega
                    clear c1
                    go_wp2_with fail
                    go_meet
                    exact ⟨by first | rfl | rw [e1] | simp [*], rfl⟩
                case rest =>
                  obtain ⟨rfl, rfl⟩ := hcut
                  clear o8 o2 w8 w2 wh8 wh2 a1 a2 B1 B0
                  go_upto_if 113 with fail
                  go_cut [16] from 69 to 132 (fun s wx => s = .int .u64 (h9 : Int) ∧ (w.alloc (.cells #[.int .i64 0, .int .u64 0] 24)) = wx)
                  case first =>
                    by_cases c2 : m < lo
                    · have e1 := D1.out c2
                      have c2' : (m : Int) < (lo : Int) := by omega
                      clear c2
                      go_wp2_with fail
                      go_meet
                      exact ⟨by first | rfl | simp [*], rfl⟩
                    · have e1 := D0.out c2
                      have c2' : ¬ (m : Int) < (lo : Int) := by omega
                      clear c2
                      go_wp2_with fail
                      go_meet
                      exact ⟨by first | rfl | rw [e1] | simp [*], rfl⟩
                  case rest =>
                    obtain ⟨rfl, rfl⟩ := hcut
                    clear am D1 D0
                    obtain ⟨v1, v2, hNge, _, _⟩ := VV.out
                    by_cases g1 : 9223372036854775808 < h9
                    · have pf := Lib.hid (PF.out.trans (parse_big_neg (by omega)))
                      have q0 : (9223372036854775808 : Int) < (h9 : Int) := by omega
                      clear v1 v2 hNge g1
                      go_wp2
                      all_goals (exact bodyPost_ret (v := .tuple #[.agg #[.int .i64 0, .int .u64 0], .int .i64 8]) (by simp (maxDischargeDepth := 5) [results, Tryd.results7, go_sem, *]) rfl (⟨by rw [pf.out], by repeat (first | with_reducible exact Below.refl _ _ | with_reducible assumption | with_reducible refine Below.al ?_ _ | with_reducible refine Below.on ?_ _ | with_reducible refine Below.st ?_ (by first | assumption | (simp; done) | (simp; omega)) _ | with_reducible refine Below.drew ?_)⟩))
                    by_cases g2 : h9 = 9223372036854775808
                    · by_cases g3 : 0 < m
                      · have pf := Lib.hid (PF.out.trans (parse_big_neg (by omega)))
                        have q0 : ¬ (9223372036854775808 : Int) < (h9 : Int) := by omega
                        have q1 : (h9 : Int) = 9223372036854775808 := by omega
                        have q2 : (0 : Int) < (m : Int) := by omega
                        clear v1 v2 hNge g1 g2 g3
                        go_wp2
                        all_goals (exact bodyPost_ret (v := .tuple #[.agg #[.int .i64 0, .int .u64 0], .int .i64 8]) (by simp (maxDischargeDepth := 5) [results, Tryd.results7, go_sem, *]) rfl (⟨by rw [pf.out], by repeat (first | with_reducible exact Below.refl _ _ | with_reducible assumption | with_reducible refine Below.al ?_ _ | with_reducible refine Below.on ?_ _ | with_reducible refine Below.st ?_ (by first | assumption | (simp; done) | (simp; omega)) _ | with_reducible refine Below.drew ?_)⟩))
                      · have vb : 10 * V + d ≤ 170141183460469231731687303715884105728 := by omega
                        have q0 : ¬ (9223372036854775808 : Int) < (h9 : Int) := by omega
                        have q1 : (h9 : Int) = 9223372036854775808 := by omega
                        have q2 : ¬ (0 : Int) < (m : Int) := by omega
                        have HVB := Lib.hid vb
                        clear v1 v2 hNge vb g1 g2 g3
                        go_wp2
                        go_roundg (gk - 1)
                        case measure => have := VV.out.2.2.2.2; omega
                        case rel => exact ⟨k + 1, 10 * V + d, by have := VV.out.2.2.2.2; omega, by go_num, by rw [VV.out.1] <;> (congr 1; omega), by rw [VV.out.2.1] <;> (congr 1; omega), HVB.out, VV.out.2.2.2.1, rfl⟩
                    · have vb : 10 * V + d ≤ 170141183460469231731687303715884105728 := by omega
                      have q0 : ¬ (9223372036854775808 : Int) < (h9 : Int) := by omega
                      have q1 : ¬ (h9 : Int) = 9223372036854775808 := by omega
                      have HVB := Lib.hid vb
                      clear v1 v2 hNge vb g1 g2
                      go_wp2
                      go_roundg (gk - 1)
                      case measure => have := VV.out.2.2.2.2; omega
                      case rel => exact ⟨k + 1, 10 * V + d, by have := VV.out.2.2.2.2; omega, by go_num, by rw [VV.out.1] <;> (congr 1; omega), by rw [VV.out.2.1] <;> (congr 1; omega), HVB.out, VV.out.2.2.2.1, rfl⟩
        · have hkn : k < n := by omega
          have hkn' : (k : Int) < n := by omega
          have hkl : k < (a :: r).length := by rw [HL.out]; exact hkn
          obtain ⟨c, hc⟩ : ∃ c, (a :: r)[k]'hkl = c := ⟨_, rfl⟩
          have tc : ∀ h : k < T.size, T[k]'h = c := fun h => (TB'.out k h hkl).trans hc
          have HK := Lib.hid hk
          have HD := Lib.hid hdk
          by_cases lo : c.toNat < 48
          · have pf := Lib.hid (DI'.out k hkl (by rw [hc]; unfold digB; rw [decide_eq_false (by omega)]; rfl))
            have lo' : (c.toNat : Int) < 48 := by omega
            clear hk hdk hg0 hc lo
            go_wp2
            exact bodyPost_ret (v := .tuple #[.agg #[.int .i64 0, .int .u64 0], .int .i64 2]) (by simp (maxDischargeDepth := 5) [results, Tryd.results7, go_sem, *]) rfl (⟨by rw [pf.out], by repeat (first | with_reducible exact Below.refl _ _ | with_reducible assumption | with_reducible refine Below.al ?_ _ | with_reducible refine Below.on ?_ _ | with_reducible refine Below.st ?_ (by first | assumption | (simp; done) | (simp; omega)) _ | with_reducible refine Below.drew ?_)⟩)
          · by_cases hi : 57 < c.toNat
            · have pf := Lib.hid (DI'.out k hkl (by rw [hc]; unfold digB; rw [decide_eq_false (by omega : ¬ c.toNat ≤ 57)]; simp))
              have lo' : ¬ (c.toNat : Int) < 48 := by omega
              have hi' : (57 : Int) < (c.toNat : Int) := by omega
              clear hk hdk hg0 hc lo hi
              go_wp2
              exact bodyPost_ret (v := .tuple #[.agg #[.int .i64 0, .int .u64 0], .int .i64 2]) (by simp (maxDischargeDepth := 5) [results, Tryd.results7, go_sem, *]) rfl (⟨by rw [pf.out], by repeat (first | with_reducible exact Below.refl _ _ | with_reducible assumption | with_reducible refine Below.al ?_ _ | with_reducible refine Below.on ?_ _ | with_reducible refine Below.st ?_ (by first | assumption | (simp; done) | (simp; omega)) _ | with_reducible refine Below.drew ?_)⟩)
            · have hdc : digB c = true := by unfold digB; rw [decide_eq_true (by omega), decide_eq_true (by omega)]; rfl
              have lo' : ¬ (c.toNat : Int) < 48 := by omega
              have hi' : ¬ (57 : Int) < (c.toNat : Int) := by omega
              have HC := Lib.hid hc
              clear hk hdk hg0 hc lo hi
              go_wp2
              go_roundg (gk - 1)
              case measure => have := HK.out; omega
              case rel => exact ⟨k + 1, by have := HK.out; omega, by go_num, (fun i h hi => by rcases Nat.lt_or_ge i k with q | q; exact HD.out i h q; obtain rfl : i = k := (by omega); rw [HC.out]; exact hdc), rfl⟩
end Go.Proofs.YtapjndhbdpbjcaaDoor
