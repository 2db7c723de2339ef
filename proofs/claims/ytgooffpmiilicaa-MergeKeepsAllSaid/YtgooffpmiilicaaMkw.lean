/-
  MERGEKEEPSALL: the walk. Conditions: the choices lie in memory.
-/
import Derived.Test.YtgooffpmiilicaaMkp
import Derived.Test.YtgooffpmiilicaaKsc
set_option linter.unusedVariables false
set_option linter.unusedSimpArgs false
namespace Go.Proofs.Ytgooffpmiilicaa
open Go.RowKit Srt
theorem take_flat2 {α : Type} {Ls : List (List α)} {k : Nat} (hk : k < Ls.length) : (Ls.take (k + 1)).flatten.length = (Ls.take k).flatten.length + (Ls[k]'hk).length := by
  rw [take_flat hk, List.length_append]
set_option maxRecDepth 8000 in
set_option maxHeartbeats 2000000 in
theorem mkw_walk (vx vl : Value) (zx zl : List Int) (w : World) (h0 : IntsAt w w.heap.size vx zx) (h1 : IntsAt w w.heap.size vl zl) :
    Calls Try.prog 7 #[vx, vl] w fun e w' => e = .returned (.bool true) ∧ Below w.heap.size w w' := by
  have H0 := Lib.hid h0
  have H1 := Lib.hid h1
  clear h0 h1
  go_enter Try.func7, Try.ntmps7
  go_upto_region 2 with (go_at_call 13; refine (keepSchema_any _ _ _ H0.out).mono ?_; rintro e w1 ⟨cv, cs, key, rfl, hc1, hs1, hl1, hb1⟩; obtain ⟨ca, cc, rfl⟩ := cols_end hc1; have HC1 := Lib.hid hc1; have SP := Lib.hid hs1; have HB1 := Lib.hid hb1; have I2 := Lib.hid ((H1.out.to fun k hk => hb1.block k hk).mono hb1.size); clear hc1 hs1 hl1 hb1)
  have NC : Hid (∃ nc, cs.length = nc) := Lib.hid ⟨_, rfl⟩
  obtain ⟨nc, hnc⟩ := NC.out
  rw [hnc] at HC1 ⊢
  obtain ⟨K, hKk, hK⟩ := schema_key SP.out
  subst hKk
  have HK0 := Lib.hid hK
  clear hnc NC hK
  refine captureM ?_
  intro y ey
  have yb1 : Below w1.heap.size w1 y := by rw [ey]; exact (by repeat (first | with_reducible exact Below.refl _ _ | with_reducible assumption | with_reducible refine Below.al ?_ _ | with_reducible refine Below.on ?_ _ | with_reducible refine Below.st ?_ (by first | assumption | (simp; done) | (simp; omega)) _ | with_reducible refine Below.drew ?_))
  have d2 : y.cell? ⟨w1.heap.size, 0, none⟩ = some (.slice ca nc cc) := by rw [ey]; simp (maxDischargeDepth := 9) [go_sem, *]
  have d3 : y.cell? ⟨w1.heap.size, 1, none⟩ = some (.int .i64 (K : Int)) := by rw [ey]; simp (maxDischargeDepth := 9) [go_sem, *]
  have dz : w1.heap.size < y.heap.size := by rw [ey]; simp
  have YB1 := Lib.hid (Below.to HB1.out yb1)
  have HC2 := Lib.hid (HC1.out.mono yb1 yb1.size)
  have I3 := Lib.hid ((I2.out.to fun k hk => yb1.block k hk).mono yb1.size)
  have NL := Lib.hid (lists_any (.slice ca nc cc) cs K vl zl 5 y HC2.out I3.out (by decide) (by decide) SP.out)
  obtain ⟨SB, hSB⟩ : ∃ b, w1.heap.size = b := ⟨_, rfl⟩
  rw [hSB] at d2 d3 dz ⊢
  clear ey yb1 hSB
  go_upto_region 3 with (go_at_call 14; refine Calls.mono NL.out ?_; rintro e z ⟨v3, lvs, Ls, rfl, ho3, he3, hk3, hb3⟩; obtain ⟨ma, mc, rfl⟩ := own_form ho3; have e2 := (hb3.cell (p := ⟨SB, 0, none⟩) dz).trans d2; have e3 := (hb3.cell (p := ⟨SB, 1, none⟩) dz).trans d3; have ez : SB < z.heap.size := Nat.lt_of_lt_of_le dz hb3.size; have HO := Lib.hid ho3; have HE := Lib.hid he3; have HK := Lib.hid hk3; have HB3 := Lib.hid hb3; clear ho3 he3 hk3 hb3)
  have ZB := Lib.hid (Below.to YB1.out HB3.out)
  have LR : Hid (∀ l ∈ Ls, l.length ≤ 9223372036854775807) := Lib.hid (fun l hl => by have := (HK.out.2 l hl).1; omega)
  have LN : Ls.length ≤ 5 := by have h1 := HK.out.1; have h2 := nextF_bd zl (n := 5 + 1) (by decide); omega
  obtain ⟨n, hn⟩ : ∃ n, Ls.length = n := ⟨_, rfl⟩
  have lvl : lvs.length = n := by rw [HE.out.1, hn]
  have PA := Lib.hid (ls_parts HE.out HO.out (by omega) LR.out)
  have HCZ := Lib.hid (HC2.out.mono HB3.out HB3.out.size)
  have MC := Lib.hid (merge_any (.slice ca nc cc) cs K (.slice ma lvs.length mc) Ls z HCZ.out PA.out)
  have OKE := Lib.hid (mergeE_ok (Ls := Ls) SP.out (by omega) (by unfold longB; rw [List.any_eq_false]; intro l hl; have := (HK.out.2 l hl).1; simp; omega) (by unfold sortB; rw [List.all_eq_true]; intro l hl; exact (HK.out.2 l hl).2.2))
  rw [lvl] at MC PA ⊢
  have HN := Lib.hid hn
  obtain ⟨R, hR⟩ : ∃ R, srt (recD (tyK cs K) K) Ls.flatten = R := ⟨_, rfl⟩
  have HR := Lib.hid hR
  have RP : Hid (R.Pairwise (fun a b => 0 ≤ recD (tyK cs K) K b a)) := Lib.hid (by rw [← hR]; exact (srt_pair (recD_pre _ _) _).imp (fun h => by omega))
  have RL : R.length = Ls.flatten.length := by rw [← hR, srt_len]
  have FL : Ls.flatten.length ≤ 20 := by
    have h1 := flat_len_le (m := 4) (Ls := Ls) (fun l hl => (HK.out.2 l hl).1)
    omega
  obtain ⟨rl, hrl⟩ : ∃ rl, R.length = rl := ⟨_, rfl⟩
  have HRL := Lib.hid hrl
  have RFL := Lib.hid RL
  have rl20 : rl ≤ 20 := by omega
  have n5 : n ≤ 5 := by omega
  clear hn lvl LN d2 d3 dz hR RL FL hrl
  go_upto_region 4 with (go_at_call 10; refine Calls.mono MC.out ?_; rintro e z2 ⟨v4, rfl, hr4, hb4⟩; rw [OKE.out.1]; rw [OKE.out.2, HR.out] at hr4; obtain ⟨a4, c4, rfl⟩ := recs_end hr4; have R4 := Lib.hid hr4; have f2 := (hb4.cell (p := ⟨SB, 0, none⟩) ez).trans e2; have f3 := (hb4.cell (p := ⟨SB, 1, none⟩) ez).trans e3; have fz : SB < z2.heap.size := Nat.lt_of_lt_of_le ez hb4.size; have HB4 := Lib.hid hb4; clear hr4 hb4)
  rw [HRL.out] at R4 ⊢
  have P4 := Lib.hid (PA.out.mono HB4.out HB4.out.size)
  have C4 := Lib.hid (HCZ.out.mono HB4.out HB4.out.size)
  have ZB4 := Lib.hid (Below.to ZB.out HB4.out)
  clear e2 e3 ez MC
  go_wp2_with fail
  go_loopg [9, 31] n (fun g nv st wr => ∃ k : Nat, k + g = n ∧ st = .int .i64 (k : Int) ∧ nv = .int .i64 ((Ls.take k).flatten.length : Int) ∧ ∃ x : Ext z2, x.it = wr)
  case atStart => exact ⟨0, by omega, rfl, by rw [List.take_zero]; rfl, ext_of (Below.refl _ _)⟩
  case round =>
    obtain ⟨k, hk, rfl, rfl, x, rfl⟩ := hrel
    by_cases hg0 : gk = 0
    · subst hg0
      obtain rfl : n = k := by omega
      clear hk
      have eT : (Ls.take n).flatten.length = rl := by rw [List.take_of_length_le (by rw [HN.out]; exact Nat.le_refl _), ← RFL.out, HRL.out]
      rw [eT]
      have XB := Lib.hid x.below
      have g2 := (x.cell SB 0 fz).trans f2
      have g3 := (x.cell SB 1 fz).trans f3
      have gz := x.lt fz
      clear eT
      generalize x.it = u at *
      clear x
      go_wp2_with fail
      go_loopg [15] (rl - 1) (fun g st wr => ∃ i : Nat, i + g = rl - 1 ∧ st = .int .i64 ((i : Int) + 1) ∧ ∃ x : Ext u, x.it = wr)
      case atStart => exact ⟨0, by omega, by first | rfl | go_num, ext_of (Below.refl _ _)⟩
      case round =>
        obtain ⟨i, hi, rfl, x, rfl⟩ := hrel
        have UX := Lib.hid (Below.to (Below.to ZB4.out XB.out) x.below)
        by_cases hg0 : gk = 0
        · subst hg0
          have t1 : ¬ (i : Int) + 1 < (rl : Int) := by omega
          have yb := UX.out
          clear hi
          go_wp2_with (go_at_call 17; refine Calls.mono (awake29 _) ?_; rintro e w5 ⟨rfl, hb5⟩; obtain ⟨x5, rfl⟩ := Ext.of hb5)
          exact bodyPost_ret (v := .bool true) (by simp [results, Try.results7, go_sem, *]) rfl (⟨rfl, by repeat (first | with_reducible exact Below.refl _ _ | with_reducible assumption | with_reducible refine Below.al ?_ _ | with_reducible refine Below.on ?_ _ | with_reducible refine Below.st ?_ (by first | assumption | (simp; done) | (simp; omega)) _ | with_reducible refine Below.drew ?_)⟩)
        · have t1 : (i : Int) + 1 < (rl : Int) := by omega
          have t2 : i + 1 < rl := by omega
          have GZ := Lib.hid (And.intro hi hg0)
          have ha := x.below
          have RX := Lib.hid (R4.out.mono (Below.to XB.out ha) (Below.to XB.out ha).size)
          have CX := Lib.hid (C4.out.mono (Below.to XB.out ha) (Below.to XB.out ha).size)
          have hil : i < R.length := by rw [HRL.out]; omega
          have hjl : i + 1 < R.length := by rw [HRL.out]; omega
          obtain ⟨b, o, rfl, _, hb, p0, pv, p1, p2⟩ := recs_in RX.out hil
          obtain ⟨b', o', eb, _, _, q0, qv, q1, q2⟩ := recs_in RX.out hjl
          injection eb with eb
          injection eb with eb1 eb2
          subst eb1 eb2
          have DD := List.pairwise_iff_getElem.1 RP.out i (i + 1) hil hjl (Nat.lt_succ_self i)
          have AN := (recD_pre (tyK cs K) K).anti (R[i + 1]'hjl) (R[i]'hil)
          have AN2 := (recD_pre (tyK cs K) K).anti (R[i]'hil) (R[i + 1]'hjl)
          obtain ⟨X, hX⟩ : ∃ X, R[i]'hil = X := ⟨_, rfl⟩
          obtain ⟨Y, hY⟩ : ∃ Y, R[i + 1]'hjl = Y := ⟨_, rfl⟩
          rw [hX] at p0 p2 DD AN AN2
          rw [hY] at q0 q2 DD AN AN2
          obtain ⟨xsq, xrow⟩ := X
          obtain ⟨ysq, yrow⟩ := Y
          dsimp only at p0 p2 q0 q2
          obtain ⟨D, hD⟩ : ∃ D, recD (tyK cs K) K ⟨xsq, xrow⟩ ⟨ysq, yrow⟩ = D := ⟨_, rfl⟩
          have dn : ¬ 0 < D := by rw [← hD]; omega
          obtain ⟨⟨⟨an, ai, as'⟩, ap⟩, hAr⟩ : ∃ r, rankF K ⟨xsq, xrow⟩ = r := ⟨_, rfl⟩
          obtain ⟨⟨⟨bn, bi, bs'⟩, bp⟩, hBr⟩ : ∃ r, rankF K ⟨ysq, yrow⟩ = r := ⟨_, rfl⟩
          obtain ⟨ty, hty⟩ : ∃ ty, tyK cs K = ty := ⟨_, rfl⟩
          have hD' : cmpR ty ⟨⟨an, ai, as'⟩, ap⟩ ⟨⟨bn, bi, bs'⟩, bp⟩ = D := by rw [← hD]; unfold recD; rw [hAr, hBr, hty]
          have RA := Lib.hid (fun (W : World) (h : Below x.it.heap.size x.it W) => (by have z := refRank_any (.slice ca nc cc) K xsq _ xrow W (p2.mono h h.size); rw [hAr] at z; exact z : Calls Try.prog 24 #[.agg #[.slice ca nc cc, .int .i64 (K : Int)], .agg #[.int .i64 xsq, pv]] W fun e w' => e = .returned (.agg #[.bool an, .int .i64 ai, .string as', .int .i64 ap]) ∧ Below W.heap.size W w'))
          have RB := Lib.hid (fun (W : World) (h : Below x.it.heap.size x.it W) => (by have z := refRank_any (.slice ca nc cc) K ysq _ yrow W (q2.mono h h.size); rw [hBr] at z; exact z : Calls Try.prog 24 #[.agg #[.slice ca nc cc, .int .i64 (K : Int)], .agg #[.int .i64 ysq, qv]] W fun e w' => e = .returned (.agg #[.bool bn, .int .i64 bi, .string bs', .int .i64 bp]) ∧ Below W.heap.size W w'))
          have KY := Lib.hid (fun (W : World) (h : Below x.it.heap.size x.it W) => (by have z := keyType_any (.slice ca nc cc) cs K HK0.out W (CX.out.mono h h.size); rw [hty] at z; exact z : Calls Try.prog 23 #[.agg #[.slice ca nc cc, .int .i64 (K : Int)]] W fun e w' => e = .returned (.int .i64 ty) ∧ Below W.heap.size W w'))
          have CM := Lib.hid (fun W => (by have z := refCompareR_any ty an ai as' ap bn bi bs' bp W; rw [hD'] at z; exact z : Calls Try.prog 20 #[.int .i64 ty, .agg #[.bool an, .int .i64 ai, .string as', .int .i64 ap], .agg #[.bool bn, .int .i64 bi, .string bs', .int .i64 bp]] W fun e w' => e = .returned (.int .i64 D) ∧ Below W.heap.size W w'))
          obtain ⟨la, lc, rfl⟩ := vals_end p2
          obtain ⟨ka, kc, rfl⟩ := vals_end q2
          have h2 := (x.cell SB 0 gz).trans g2
          have h3 := (x.cell SB 1 gz).trans g3
          have hz := x.lt gz
          have eo : o + (i + 1) * 2 = o + i * 2 + 2 := by omega
          have tm : (i : Int) + 1 - 1 = (i : Int) := by omega
          have t3 : (i : Int) ≤ 100 := by omega
          have t4 : i ≤ 100 := by omega
          clear p2 q2 DD AN AN2 hX hY hD hAr hBr hty hD' hi hg0 ha eo
          clear hil hjl
          generalize xrow.length = xm at *
          generalize yrow.length = ym at *
          go_upto_region 24 with fail
          refine wp_region_ext (by kernel_rfl) (by kernel_rfl) ?_
          repeat (go_big_quiet_step ((first | (go_at_call 23; exact Calls.ext (KY.out _ (Ext.below _))) | (go_at_call 24; with_reducible exact Calls.ext (RA.out _ (Ext.below _))) | (go_at_call 24; with_reducible exact Calls.ext (RB.out _ (Ext.below _))) | (go_at_call 20; exact Calls.ext (CM.out _)))))
          refine wpQuiet_nil ?_
          rintro _ ⟨x2, rfl⟩
          go_wp2_with fail
          go_roundg (gk - 1)
          case measure => have := GZ.out; omega
          case rel => exact ⟨i + 1, by have := GZ.out; omega, by go_num, ⟨_, by exact (by repeat (first | with_reducible exact Below.refl _ _ | with_reducible assumption | with_reducible refine Below.al ?_ _ | with_reducible refine Below.on ?_ _ | with_reducible refine Below.st ?_ (by first | assumption | (simp; done) | (simp; omega)) _ | with_reducible refine Below.drew ?_))⟩, rfl⟩
    · have hkn : k < n := by omega
      have hkn' : (k : Int) < (n : Int) := by omega
      have hkl : k < Ls.length := by rw [HN.out]; exact hkn
      have GZ := Lib.hid (And.intro hk hg0)
      obtain ⟨pb, po, rfl, _, hpb, av, p0, p1⟩ := parts_in P4.out hkl
      have TF := take_flat2 hkl
      obtain ⟨A, hA⟩ : ∃ A, Ls[k]'hkl = A := ⟨_, rfl⟩
      rw [hA] at p1 TF
      have AM := HK.out.2 A (by rw [← hA]; exact List.getElem_mem _)
      have SUB : List.Sublist A R := asc_sub (recD_pre (tyK cs K) K) (sorted_pair AM.2.2) (RP.out.imp (fun h => by omega)) (fun r hr => by rw [← HR.out]; exact (srt_perm _ _).mem_iff.2 (List.mem_flatten.2 ⟨A, by rw [← hA]; exact List.getElem_mem _, hr⟩))
      obtain ⟨al, hal⟩ : ∃ al, A.length = al := ⟨_, rfl⟩
      have HAL := Lib.hid hal
      have ALL := Lib.hid (gstep_all A R 0 (Nat.zero_le _) (by rw [List.drop_zero]; exact SUB))
      have al4 : al ≤ 4 := by omega
      obtain ⟨aa, ac, rfl⟩ := recs_end p1
      rw [hal] at p1 p0 TF
      have AR := Lib.hid p1
      have fl20 : (Ls.take k).flatten.length ≤ 20 := by have := take_flat_le Ls k; have := RFL.out; have := HRL.out; omega
      obtain ⟨F, hF⟩ : ∃ F, (Ls.take k).flatten.length = F := ⟨_, rfl⟩
      rw [hF] at TF fl20 ⊢
      have TFH := Lib.hid TF
      have c0 := (x.cell pb (po + k) hpb).trans p0
      have cz := x.lt hpb
      have F20 : (F : Int) ≤ 20 := by omega
      have al4' : (al : Int) ≤ 4 := by omega
      clear p0 p1 TF hA AM SUB hal hF hk hg0
      clear hkl
      have XB := Lib.hid x.below
      go_upto_region 11 with fail
      generalize x.it = xw at *
      clear x
      obtain ⟨G, rfl⟩ : ∃ G, G = gk := ⟨_, rfl⟩
      go_wp2_with fail
      go_loopg [12, 41] rl (fun g iv st wr => ∃ j : Nat, j + g = rl ∧ st = .int .i64 (j : Int) ∧ iv = .int .i64 (((R.take j).foldl (gstep A) 0 : Nat) : Int) ∧ ∃ x : Ext xw, x.it = wr)
      case atStart => exact ⟨0, by omega, rfl, by rw [List.take_zero]; rfl, ext_of (Below.refl _ _)⟩
      case round =>
        obtain ⟨j, hj, rfl, rfl, x, rfl⟩ := hrel
        have XX := Lib.hid (Below.to XB.out x.below)
        by_cases hz : gk = 0
        · subst hz
          obtain rfl : rl = j := by omega
          have eT : (R.take rl).foldl (gstep A) 0 = al := by rw [List.take_of_length_le (by rw [HRL.out]; exact Nat.le_refl _), ALL.out, HAL.out]
          rw [eT]
          have tl : ¬ (al : Int) < (al : Int) := by omega
          clear hj eT
          go_wp2_with fail
          go_roundg (G - 1)
          case measure => have := GZ.out; omega
          case rel => exact ⟨k + 1, by have := GZ.out; omega, by go_num, by rw [TFH.out]; exact congrArg (Value.int .i64) (by omega), ⟨_, XX.out⟩, rfl⟩
        · have hjn : j < rl := by omega
          have hjn' : (j : Int) < (rl : Int) := by omega
          have JZ := Lib.hid (And.intro hj hz)
          have hjl : j < R.length := by rw [HRL.out]; exact hjn
          have GS := gstep_succ A R j hjl
          have ILE : (R.take j).foldl (gstep A) 0 ≤ al := by have := gstep_le A (R.take j) 0 (Nat.zero_le _); rw [HAL.out] at this; exact this
          obtain ⟨I, hI⟩ : ∃ I, (R.take j).foldl (gstep A) 0 = I := ⟨_, rfl⟩
          rw [hI] at GS ILE ⊢
          have RX := Lib.hid (R4.out.mono XX.out XX.out.size)
          have AX := Lib.hid (AR.out.mono XX.out XX.out.size)
          obtain ⟨b, o, rfl, _, hb, q0, qv, q1, q2⟩ := recs_in RX.out hjl
          obtain ⟨Y, hY⟩ : ∃ Y, R[j]'hjl = Y := ⟨_, rfl⟩
          rw [hY] at q0 q2 GS
          obtain ⟨ysq, yrow⟩ := Y
          dsimp only at q0 q2
          have Q2 := Lib.hid q2
          obtain ⟨ya, yc, rfl⟩ := vals_end q2
          obtain ⟨yn, hyn⟩ : ∃ n, yrow.length = n := ⟨_, rfl⟩
          rw [hyn] at q1 Q2
          have GSH := Lib.hid GS
          clear q2 hY hyn GS hj hz hI
          clear hjl
          by_cases hIa : I < al
          · have tI : (I : Int) < (al : Int) := by omega
            have hIl : I < A.length := by rw [HAL.out]; exact hIa
            obtain ⟨b', o', rfl, _, hb', p0, pv, p1, p2⟩ := recs_in AX.out hIl
            obtain ⟨X, hX⟩ : ∃ X, A[I]'hIl = X := ⟨_, rfl⟩
            rw [hX] at p0 p2
            have ed : A.getD I rc0 = X := by rw [← hX]; simp [List.getD, List.getElem?_eq_getElem hIl]
            obtain ⟨xsq, xrow⟩ := X
            dsimp only at p0 p2
            obtain ⟨B, hB⟩ : ∃ B, eqRc ⟨xsq, xrow⟩ ⟨ysq, yrow⟩ = B := ⟨_, rfl⟩
            have SRC := Lib.hid (fun (W : World) (h : Below x.it.heap.size x.it W) => (by have z := sameRec_any xsq _ xrow ysq _ yrow W (p2.mono h h.size) (Q2.out.mono h h.size); rw [hB] at z; exact z : Calls Try.prog 22 #[.agg #[.int .i64 xsq, pv], .agg #[.int .i64 ysq, .slice ya yn yc]] W fun e w' => e = .returned (.bool B) ∧ Below W.heap.size W w'))
            have GE : Hid (gstep A I ⟨ysq, yrow⟩ = if B = true then I + 1 else I) := Lib.hid (by unfold gstep; rw [ed, hB]; simp [hIl])
            obtain ⟨xa, xc, rfl⟩ := vals_end p2
            generalize xrow.length = xm at *
            clear p2 hX ed hB
            clear hIl
            go_upto_region 15 with fail
            refine captureM ?_
            intro t et
            have tb : Below x.it.heap.size x.it t := by rw [et]; exact (by repeat (first | with_reducible exact Below.refl _ _ | with_reducible assumption | with_reducible refine Below.al ?_ _ | with_reducible refine Below.on ?_ _ | with_reducible refine Below.st ?_ (by first | assumption | (simp; done) | (simp; omega)) _ | with_reducible refine Below.drew ?_))
            have r0 : t.cell? ⟨x.it.heap.size, 0, none⟩ = some (.int .i64 ysq) := by rw [et]; simp (maxDischargeDepth := 9) [go_sem, *]
            have r1 : t.cell? ⟨x.it.heap.size, 1, none⟩ = some (.slice ya yn yc) := by rw [et]; simp (maxDischargeDepth := 9) [go_sem, *]
            have rz : x.it.heap.size < t.heap.size := by rw [et]; simp
            have s0 := (tb.cell (p := ⟨b', o' + I * 2, none⟩) hb').trans p0
            have s1 := (tb.cell (p := ⟨b', o' + I * 2 + 1, none⟩) hb').trans p1
            have sz : b' < t.heap.size := Nat.lt_of_lt_of_le hb' tb.size
            have TB := Lib.hid tb
            have TX := Lib.hid (Below.to x.below tb)
            clear et tb p0 p1 q0 q1
            refine wp_region_ext (by kernel_rfl) (by kernel_rfl) ?_
            repeat (go_big_quiet_step (((go_at_call 22; exact Calls.ext (SRC.out _ (Below.on TB.out _))))))
            refine wpQuiet_nil ?_
            rintro _ ⟨x2, rfl⟩
            have tx := TX.out
            cases B with
            | true =>
              go_wp2_with fail
              go_roundg (gk - 1)
              case measure => have := JZ.out; omega
              case rel => exact ⟨j + 1, by have := JZ.out; omega, by go_num, by rw [GSH.out, GE.out]; rfl, ⟨_, by exact (by repeat (first | with_reducible exact Below.refl _ _ | with_reducible assumption | with_reducible refine Below.al ?_ _ | with_reducible refine Below.on ?_ _ | with_reducible refine Below.st ?_ (by first | assumption | (simp; done) | (simp; omega)) _ | with_reducible refine Below.drew ?_))⟩, rfl⟩
            | false =>
              go_wp2_with fail
              go_roundg (gk - 1)
              case measure => have := JZ.out; omega
              case rel => exact ⟨j + 1, by have := JZ.out; omega, by go_num, by rw [GSH.out, GE.out]; rfl, ⟨_, by exact (by repeat (first | with_reducible exact Below.refl _ _ | with_reducible assumption | with_reducible refine Below.al ?_ _ | with_reducible refine Below.on ?_ _ | with_reducible refine Below.st ?_ (by first | assumption | (simp; done) | (simp; omega)) _ | with_reducible refine Below.drew ?_))⟩, rfl⟩
          · have tI : ¬ (I : Int) < (al : Int) := by omega
            have tB : decide (I < al) = false := by simpa using hIa
            have GE : Hid (gstep A I ⟨ysq, yrow⟩ = I) := Lib.hid (by unfold gstep; rw [HAL.out, if_neg (fun h => hIa h.1)])
            go_upto_region 15 with fail
            refine captureM ?_
            intro t et
            have TX : Hid (Below xw.heap.size xw t) := Lib.hid (by rw [et]; have hx := x.below; exact (by repeat (first | with_reducible exact Below.refl _ _ | with_reducible assumption | with_reducible refine Below.al ?_ _ | with_reducible refine Below.on ?_ _ | with_reducible refine Below.st ?_ (by first | assumption | (simp; done) | (simp; omega)) _ | with_reducible refine Below.drew ?_)))
            clear et
            refine wp_region_ext (by kernel_rfl) (by kernel_rfl) ?_
            repeat (go_big_quiet_step ((fail)))
            refine wpQuiet_nil ?_
            rintro _ ⟨x2, rfl⟩
            have tx := TX.out
            go_wp2_with fail
            go_roundg (gk - 1)
            case measure => have := JZ.out; omega
            case rel => exact ⟨j + 1, by have := JZ.out; omega, by go_num, by rw [GSH.out, GE.out], ⟨_, by exact (by repeat (first | with_reducible exact Below.refl _ _ | with_reducible assumption | with_reducible refine Below.al ?_ _ | with_reducible refine Below.on ?_ _ | with_reducible refine Below.st ?_ (by first | assumption | (simp; done) | (simp; omega)) _ | with_reducible refine Below.drew ?_))⟩, rfl⟩
end Go.Proofs.Ytgooffpmiilicaa
