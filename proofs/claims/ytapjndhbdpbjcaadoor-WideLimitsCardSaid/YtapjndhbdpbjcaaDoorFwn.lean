/-
  micropartref13.FormatWide: the walk. Conditions: none beyond those of a Wide.
-/
import Derived.Test.YtapjndhbdpbjcaaDoorFwl
import Derived.Deep.CutRange
import Derived.Deep.LoopGhost
import Derived.Deep.CutBlock
import Derived.Lib.Hide
set_option linter.unusedVariables false
set_option linter.unusedSimpArgs false
namespace Go.Proofs.YtapjndhbdpbjcaaDoor
open Go.RowKit Go.Shelf
set_option maxRecDepth 8000 in
set_option maxHeartbeats 2000000 in
theorem reffmt_neg (h l : Int) (a : isI h) (b : isU l) (c : ¬ 0 ≤ h) (w : World) :
    Calls Tryd.prog 10 #[.agg #[.int .i64 h, .int .u64 l]] w fun e w' => e = .returned (.string (sgnTxt h ++ fmtTxt (absN h l))) ∧ Below w.heap.size w w' := by
  obtain ⟨x1, x2, x3⟩ := hl_neg b c a
  have NS := nd_spec x3
  generalize absN h l = N at x1 x2 x3 NS ⊢
  obtain ⟨n1, n2, n3, n4⟩ := NS
  have NN := Lib.hid (And.intro x3 (And.intro n1 (And.intro n2 n3)))
  have esg : sgnTxt h = ⟨#[45]⟩ := if_pos (by omega)
  have c' : h < 0 := by omega
  have ESG := Lib.hid esg
  have AB := Lib.hid (And.intro a b)
  clear x3 n1 n2 n3 esg a b
  obtain ⟨n, hn⟩ : ∃ n, nd N = n := ⟨_, rfl⟩
  rw [hn] at n4
  have HN := Lib.hid hn
  have N4 := Lib.hid n4
  clear n4
  clear hn
  go_enter Tryd.func10, Tryd.ntmps10
  go_upto_region 4 with (go_at_call 17; refine (refNeg_any _ _ AB.out.1 AB.out.2 _).mono ?_; rintro e w9 ⟨rfl, hb9⟩; obtain ⟨x9, rfl⟩ := Ext.of hb9; have z9 : w.heap.size < x9.it.heap.size := x9.lt (by first | assumption | (simp; done) | (simp; omega)))
  refine wp_region_ext (by kernel_rfl) (by kernel_rfl) ?_
  repeat (go_big_quiet_step ((fail)))
  refine wpQuiet_nil ?_
  rintro _ ⟨y, rfl⟩
  go_wp2_with fail
  skip
  go_loopg [4, 5, 6] n (fun g s4 s5 s6 wr => ∃ k : Nat, k + g = n ∧ s4 = .int .u64 ((N / 10 ^ k / 18446744073709551616 : Nat) : Int) ∧ s5 = .int .u64 ((N / 10 ^ k % 18446744073709551616 : Nat) : Int) ∧ s6 = .string ⟨(Rk N k).toArray⟩ ∧ y.it = wr)
  case atStart => refine ⟨0, by omega, ?_, ?_, rfl, rfl⟩ <;> first | exact congrArg _ x1 | exact congrArg _ x2 | rfl
  case round =>
    obtain ⟨k, hk, h4, h5, h6, rfl⟩ := hrel
    obtain ⟨H, hH⟩ : ∃ H, N / 10 ^ k / 18446744073709551616 = H := ⟨_, rfl⟩
    obtain ⟨Q, hQ⟩ : ∃ Q, N / 10 ^ k % 18446744073709551616 = Q := ⟨_, rfl⟩
    obtain ⟨S, hS⟩ : ∃ S : ByteArray, S = ⟨(Rk N k).toArray⟩ := ⟨_, rfl⟩
    have ss : S.size = k := by rw [hS]; simp [ByteArray.size, Rk_len]
    rw [hH] at h4
    rw [hQ] at h5
    rw [← hS] at h6
    subst h4 h5 h6
    have LZ : (H = 0 ∧ Q = 0) ↔ N < 10 ^ k := by have := left_zero (N := N) (k := k); unfold hiK loK at this; rw [hH, hQ] at this; omega
    have hHM : H < 18446744073709551616 := by have := hiK_lt (k := k) NN.out.1; unfold hiK at this; rw [hH] at this; omega
    have hQM : Q < 18446744073709551616 := by omega
    have HS := Lib.hid hS
    have HK := Lib.hid (And.intro hk (And.intro hH hQ))
    by_cases hg0 : gk = 0
    · subst hg0
      obtain rfl : n = k := by omega
      have k1 : 1 ≤ n := by rw [← HN.out]; exact NN.out.2.1
      obtain ⟨e1, e2⟩ := LZ.2 (by rw [← HN.out]; exact NN.out.2.2.1)
      have sne : ¬ S = ⟨#[]⟩ := by intro q; have := congrArg ByteArray.size q; rw [ss] at this; simp [ByteArray.size] at this; omega
      have sne' : S.toList.isEmpty = false := by rw [HS.out, ByteArray.toList_eq]; cases hq : Rk N n with | nil => exact absurd (by rw [HS.out, hq]) sne | cons _ _ => rfl
      subst e1 e2
      have hadd := run_string_add_sum (P := Tryd.prog) y.it ⟨#[45]⟩ S (by rw [ss]; simp [ByteArray.size]; have := N4.out; omega)
      clear hS hk hH hQ LZ ss k1 hHM hQM
      go_wp2_with fail
      have TX : sgnTxt h ++ fmtTxt N = ⟨#[45]⟩ ++ S := by rw [ESG.out, HS.out, ← HN.out]; rfl
      exact bodyPost_ret (v := .string (⟨#[45]⟩ ++ S)) (by simp (maxDischargeDepth := 5) [results, Tryd.results10, go_sem, *]) rfl (⟨by rw [TX], by repeat (first | with_reducible exact Below.refl _ _ | with_reducible assumption | with_reducible refine Below.al ?_ _ | with_reducible refine Below.on ?_ _ | with_reducible refine Below.st ?_ (by first | assumption | (simp; done) | (simp; omega)) _ | with_reducible refine Below.drew ?_)⟩)
    · have hkn : k < n := by omega
      have ne : (H = 0 ∧ Q = 0) → S = ⟨#[]⟩ := by
        intro q; rw [HS.out]
        by_cases k0 : k = 0
        · subst k0; rfl
        · have := NN.out.2.2.2 k (by omega) (by rw [HN.out]; exact hkn); have := LZ.1 q; omega
      go_upto_region 6 with fail
      go_cut [30] from 21 to 62 (fun s wx => s = .bool true ∧ y.it = wx)
      case first =>
        by_cases e1 : H = 0
        · by_cases e2 : Q = 0
          · obtain rfl := ne ⟨e1, e2⟩; subst e1 e2; clear LZ ne hH hQ hS HS HK; go_wp2_with fail; go_meet; exact ⟨by first | rfl | simp, rfl⟩
          · have e2' : ¬ (Q : Int) = 0 := by omega
            subst e1; clear LZ ne hH hQ hS HS HK e2; go_wp2_with fail; go_meet; exact ⟨by first | rfl | simp [*], rfl⟩
        · have e1' : ¬ (H : Int) = 0 := by omega
          clear LZ ne hH hQ hS HS HK e1; go_wp2_with fail; go_meet; exact ⟨by first | rfl | simp [*], rfl⟩
      case rest =>
        obtain ⟨rfl, rfl⟩ := hcut
        clear LZ ne hS hH hQ hk
        have H1 : (H : Int).tmod 10 = ((H % 10 : Nat) : Int) := by rw [Int.tmod_eq_emod_of_nonneg (by omega)]; omega
        have H2 : (H : Int).tdiv 10 = ((H / 10 : Nat) : Int) := by rw [Int.tdiv_eq_ediv_of_nonneg (by omega)]; omega
        obtain ⟨R, hR⟩ : ∃ R, H % 10 = R := ⟨_, rfl⟩
        obtain ⟨H', hH'⟩ : ∃ x, H / 10 = x := ⟨_, rfl⟩
        rw [hR] at H1
        rw [hH'] at H2
        have R10 : R < 10 := by omega
        have HW : IntKind.u64.wrap (H' : Int) = (H' : Int) := by rw [wrapU_eq]; omega
        have HR := Lib.hid (And.intro hR hH')
        obtain ⟨go, hgo⟩ : ∃ go, gk = go := ⟨_, rfl⟩
        rw [hgo] at HK hg0
        have HGO := Lib.hid (And.intro hgo hg0)
        clear hgo hg0
        clear hR hH'
        go_wp2_with fail
        go_loopg [7, 8, 9] 64 (fun g s7 s8 s9 wr => g ≤ 64 ∧ s9 = .int .i64 ((g : Int) - 1) ∧ s7 = .int .u64 ((pk R Q g % 10 : Nat) : Int) ∧ s8 = .int .u64 ((pk R Q g / 10 * 2 ^ g : Nat) : Int) ∧ y.it = wr)
        case atStart => exact ⟨by omega, by go_num, by first | (rw [pk_64 hQM]; congr 1; omega) | (rw [pk_64 hQM]; go_num), by rw [pk_64 hQM]; first | (rw [show R / 10 = 0 by omega]; rfl) | (congr 1; omega), rfl⟩
        case round =>
          obtain ⟨hj64, rfl, h7, h8, rfl⟩ := hrel
          by_cases z : gk = 0
          · subst z
            obtain ⟨r, hr⟩ : ∃ r, pk R Q 0 % 10 = r := ⟨_, rfl⟩
            obtain ⟨q, hq⟩ : ∃ q, pk R Q 0 / 10 * 2 ^ 0 = q := ⟨_, rfl⟩
            rw [hr] at h7
            rw [hq] at h8
            subst h7 h8
            rw [pk_0] at hr hq
            have r10 : r < 10 := by omega
            have RW : IntKind.u64.wrap ((r : Int) + 1) = (r : Int) + 1 := by rw [wrapU_eq]; omega
            have hd : N / 10 ^ k % 10 = r := by have := HR.out.1; have := HK.out.2.1; have := HK.out.2.2; omega
            have hh : N / 10 ^ (k + 1) / 18446744073709551616 = H' := by rw [div_pow_succ]; have := HR.out.2; have := HK.out.2.1; omega
            have hl : N / 10 ^ (k + 1) % 18446744073709551616 = q := by rw [div_pow_succ]; have := HR.out.1; have := HK.out.2.1; have := HK.out.2.2; omega
            have HD := Lib.hid (And.intro hd (And.intro hh hl))
            have RI : (r : Int) ≤ (r : Int) + 1 := by omega
            have RJ : (r : Int) + 1 ≤ 10 := by omega
            have hadd := run_string_add_sum (P := Tryd.prog) y.it ((⟨#[48, 49, 50, 51, 52, 53, 54, 55, 56, 57]⟩ : ByteArray).extract r (r + 1)) S (by rw [dig_txt r10, ss]; simp [ByteArray.size]; have := N4.out; omega)
            clear hr hq hd hh hl
            go_wp2_with fail
            go_roundg (go - 1)
            case measure => have := HGO.out; omega
            case rel => exact ⟨k + 1, by have := HK.out.1; have := HGO.out; omega, by rw [HD.out.2.1], by rw [HD.out.2.2], by first | (congr 1; rw [HS.out, rk_next HD.out.1]; done) | skip, rfl⟩
          · obtain ⟨j, rfl⟩ : ∃ j, gk = j + 1 := ⟨gk - 1, by omega⟩
            have hj : j < 64 := by omega
            have B := and_bit Q j hQM
            obtain ⟨bt, hbt⟩ : ∃ x, Q / 2 ^ j % 2 = x := ⟨_, rfl⟩
            have P0 := pk_r0 R Q hj
            have P1 := pk_r1 R Q hj
            have QL := pk_q_lt R10 hQM (j := j + 1) (by omega)
            obtain ⟨A, hA⟩ : ∃ x, pk R Q (j + 1) / 10 = x := ⟨_, rfl⟩
            obtain ⟨r, hr⟩ : ∃ x, pk R Q (j + 1) % 10 = x := ⟨_, rfl⟩
            rw [hA] at h8 P0 P1 QL
            rw [hr] at h7 P0 P1
            rw [hbt] at B P0 P1
            have OB := or_bit hj QL
            have b2 : bt < 2 := by omega
            have r10 : r < 10 := by omega
            have K1 : ((j + 1 : Nat) : Int) - 1 = (j : Int) := by omega
            have PJ : 2 ^ j < 2 ^ 64 := Nat.pow_lt_pow_right (by omega) hj
            obtain ⟨pj, hpj⟩ : ∃ x, 2 ^ j = x := ⟨_, rfl⟩
            have hpj' : (2 : Int) ^ j = (pj : Int) := by rw [← hpj]; simp
            rw [hpj] at PJ OB P1 B
            have PW : IntKind.u64.wrap (pj : Int) = (pj : Int) := by rw [wrapU_eq]; omega
            obtain ⟨q, hq⟩ : ∃ x, A * 2 ^ (j + 1) = x := ⟨_, rfl⟩
            rw [hq] at h8 P0 P1 QL OB
            rw [K1]
            subst h7 h8
            have j0 : (0 : Int) ≤ (j : Int) := by omega
            have j64 : (j : Int) ≤ 64 := by omega
            have W1 : IntKind.u64.wrap (2 * (r : Int)) = 2 * (r : Int) := by rw [wrapU_eq]; omega
            have W2 : IntKind.u64.wrap (2 * (r : Int) + (bt : Int)) = 2 * (r : Int) + (bt : Int) := by rw [wrapU_eq]; omega
            by_cases tt : 10 ≤ 2 * r + bt
            · obtain ⟨p7, p8⟩ := P1 tt
              have tI : (10 : Int) ≤ 2 * (r : Int) + (bt : Int) := by omega
              have W3 : IntKind.u64.wrap (2 * (r : Int) + (bt : Int) - 10) = ((2 * r + bt - 10 : Nat) : Int) := by rw [wrapU_eq]; omega
              have HP := Lib.hid (And.intro p7 p8)
              clear P0 P1 p7 p8 tt hA hr hbt hq QL
              go_wp2_with fail
              go_roundg j
              case measure => omega
              case rel => exact ⟨by omega, by go_num, by rw [HP.out.1], by rw [hpj, HP.out.2], rfl⟩
            · obtain ⟨p7, p8⟩ := P0 tt
              have tI : ¬ (10 : Int) ≤ 2 * (r : Int) + (bt : Int) := by omega
              have HP := Lib.hid (And.intro p7 p8)
              clear P0 P1 p7 p8 tt hA hr hbt hq QL
              go_wp2_with fail
              go_roundg j
              case measure => omega
              case rel => exact ⟨by omega, by go_num, by rw [HP.out.1]; go_num, by rw [HP.out.2], rfl⟩
end Go.Proofs.YtapjndhbdpbjcaaDoor
