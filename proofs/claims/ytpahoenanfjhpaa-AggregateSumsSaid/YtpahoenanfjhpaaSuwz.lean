/-
  CHAPTER 26: the walk of AggregateSums. Conditions: the list lies in memory.
-/
import Derived.Test.YtpahoenanfjhpaaZt
import Derived.Test.YtpahoenanfjhpaaBtz
set_option linter.unusedVariables false
set_option linter.unusedSimpArgs false
namespace Go.Proofs.Ytpahoenanfjhpaa
open Go.RowKit
theorem infoI64 : (Try.prog.info? 2).map (fun i => (i.zero, i.size, i.bytes)) = some (some (.int .i64 0), 1, 8) := by kernel_rfl
set_option maxRecDepth 8000 in
set_option maxHeartbeats 4000000 in
theorem suw_walk (lv : Value) (zl : List Int) (bg : Int) (w : World) (h : IntsAt w w.heap.size lv zl) (b0 : 0 ≤ bg) (b1 : bg < 256) : Calls Try.prog 6 #[lv, .int .u8 bg] w fun e w' => e = .returned (.bool true) ∧ Below w.heap.size w w' := by
  obtain ⟨i0, hi, hz0, hz1, hz2⟩ := info_parts infoI64
  obtain ⟨la, lc, rfl⟩ := ints_end h
  obtain ⟨n, hn⟩ : ∃ n, zl.length = n := ⟨_, rfl⟩
  have HI := Lib.hid h
  have LN := Lib.hid hn
  have n63 := h.2.1
  rw [hn] at HI n63 ⊢
  have t3 : bg.tmod 3 = 0 ∨ bg.tmod 3 = 1 ∨ bg.tmod 3 = 2 := by rw [Int.tmod_eq_emod_of_nonneg b0]; omega
  have T3 := Lib.hid t3
  clear h hn t3
  go_enter Try.func6, Try.ntmps6
  go_upto_region 2 with fail
  go_cut [14, 15, 16] from 14 to 16 (fun s14 s15 s16 wx => s14 = .slice la n lc ∧ s15 = .int .i64 (n : Int) ∧ s16 = .int .i64 0 ∧ w = wx)
  case first =>
    go_wp2_with fail
    go_meet
    exact ⟨rfl, rfl, rfl, rfl⟩
  case rest =>
  obtain ⟨rfl, rfl, rfl, rfl⟩ := hcut
  apply_assumption
  go_cut [5] from 6 to 37 (fun sx wx => ∃ x : List Int, x.length ≤ 40 ∧ (∀ n ∈ x, isI n) ∧ wx.ownsRow w.heap.size 2 1 sx x.length (x.flatMap intC) ∧ Below w.heap.size w wx)
  case first =>
    go_wp2_with fail
    go_loopg [5, 16] n (fun g v st wr => ∃ (k : Nat) (x : List Int), k + g = n ∧ st = .int .i64 (k : Int) ∧ x.length = k ∧ k ≤ 40 ∧ (∀ n ∈ x, isI n) ∧ wr.ownsRow w.heap.size 2 1 v x.length (x.flatMap intC) ∧ Below w.heap.size w wr)
    case atStart => exact ⟨0, [], by omega, rfl, rfl, by omega, fun m hm => absurd hm (by simp), World.ownsRow_nil _ _ _ _, Below.refl _ _⟩
    case round =>
      obtain ⟨k, x, hk, rfl, hxl, hk4, hxi, hown, hx⟩ := hrel
      have HO := Lib.hid hown
      have HX := Lib.hid (And.intro hxl hxi)
      have HB := Lib.hid hx
      have xl40 : x.length ≤ 40 := by omega
      by_cases hg0 : gk = 0
      · subst hg0
        obtain rfl : k = n := by omega
        have tk : ¬ (k : Int) < (k : Int) := by omega
        clear hk hown hxl hxi
        go_wp2_with fail
        go_meet
        exact ⟨x, by omega, HX.out.2, HO.out, HB.out⟩
      · have hkm : k < n := by omega
        have hkm' : (k : Int) < (n : Int) := by omega
        have hkl : k < zl.length := by rw [LN.out]; exact hkm
        obtain ⟨b, o, rfl, hb, c0⟩ := ints_cell HI.out hkl
        have zi := HI.out.1 _ (List.getElem_mem hkl)
        obtain ⟨z, hz⟩ : ∃ z, zl[k]'hkl = z := ⟨_, rfl⟩
        rw [hz] at c0 zi
        have f0 := (hx.cell (p := ⟨b, o + k, none⟩) hb).trans c0
        have zb : b < wr.heap.size := Nat.lt_of_lt_of_le hb hx.size
        have HK := Lib.hid (And.intro hk hg0)
        have hxw := hx.size
        have k63 : (k : Int) ≤ 40 := by omega
        have ZI := Lib.hid zi
        clear c0 hz hk hg0 hown hxl hxi zi
        by_cases h40 : k = 40
        · subst h40
          go_wp2_with fail
          go_meet
          exact ⟨x, by omega, HX.out.2, HO.out, HB.out⟩
        have h40' : ¬ (k : Int) ≥ 40 := by omega
        have h40'' : ¬ (40 : Int) ≤ (k : Int) := by omega
        have h39 : k ≤ 39 := by omega
        have t3 := T3.out
        rcases t3 with t3 | t3 | t3
        · have ht : bg.tmod 3 = 0 := t3
          have hm : bg % 3 = 0 := by rw [← Int.tmod_eq_emod_of_nonneg b0]; exact t3
          have ev : isI (bits .or .i64 z 4611686018427387904) := or_isI _ _
          clear t3
          go_wp2_with (at_builtin; go_must (refine wpList_append_lies _ rfl _ _ 37 rfl w.heap.size 2 i0 _ 1 8 Try.underlying37 hi hz0 hz1 hz2 rfl (by decide) u5 x.length (x.flatMap intC) rfl (HO.out.alloc _) ⟨wr.heap.size, 0, none⟩ 1 1 [.int .i64 (bits .or .i64 z 4611686018427387904)] rfl rfl (World.news_of_block (heap_alloc_new wr _)) (by simp [Value.oneCell']) (by omega) (by unfold maxLen; omega) (by omega) (by simp; omega) (wr.heap.size + 1) (by simp) ?_); intro gb cap w4 hown hgrow hat hlt4; go_must (have MS := Lib.hid (And.intro hown (show Below w.heap.size w w4 from Below.gr (Below.al HB.out _) HO.out hgrow))); clear hown hgrow hat hlt4)
          go_roundg (gk - 1)
          case measure => have := HK.out; omega
          case rel => exact ⟨k + 1, x ++ [bits .or .i64 z 4611686018427387904], by have := HK.out; omega, by go_num, by rw [List.length_append, HX.out.1]; rfl, by omega, fun m hm => by (rcases List.mem_append.1 hm with q | q; exact HX.out.2 m q; rw [List.mem_singleton.1 q]; exact ev), by rw [List.length_append, List.flatMap_append]; exact MS.out.1, MS.out.2⟩
        · have ht : bg.tmod 3 = 1 := t3
          have hm : bg % 3 = 1 := by rw [← Int.tmod_eq_emod_of_nonneg b0]; exact t3
          have ev : isI (z / 4) := by have := ZI.out; unfold isI at *; omega
          clear t3
          go_wp2_with (at_builtin; go_must (refine wpList_append_lies _ rfl _ _ 37 rfl w.heap.size 2 i0 _ 1 8 Try.underlying37 hi hz0 hz1 hz2 rfl (by decide) u5 x.length (x.flatMap intC) rfl (HO.out.alloc _) ⟨wr.heap.size, 0, none⟩ 1 1 [.int .i64 (z / 4)] rfl rfl (World.news_of_block (heap_alloc_new wr _)) (by simp [Value.oneCell']) (by omega) (by unfold maxLen; omega) (by omega) (by simp; omega) (wr.heap.size + 1) (by simp) ?_); intro gb cap w4 hown hgrow hat hlt4; go_must (have MS := Lib.hid (And.intro hown (show Below w.heap.size w w4 from Below.gr (Below.al HB.out _) HO.out hgrow))); clear hown hgrow hat hlt4)
          go_roundg (gk - 1)
          case measure => have := HK.out; omega
          case rel => exact ⟨k + 1, x ++ [z / 4], by have := HK.out; omega, by go_num, by rw [List.length_append, HX.out.1]; rfl, by omega, fun m hm => by (rcases List.mem_append.1 hm with q | q; exact HX.out.2 m q; rw [List.mem_singleton.1 q]; exact ev), by rw [List.length_append, List.flatMap_append]; exact MS.out.1, MS.out.2⟩
        · have ht : bg.tmod 3 = 2 := t3
          have hm : bg % 3 = 2 := by rw [← Int.tmod_eq_emod_of_nonneg b0]; exact t3
          have ev : isI (z) := ZI.out
          clear t3
          go_wp2_with (at_builtin; go_must (refine wpList_append_lies _ rfl _ _ 37 rfl w.heap.size 2 i0 _ 1 8 Try.underlying37 hi hz0 hz1 hz2 rfl (by decide) u5 x.length (x.flatMap intC) rfl (HO.out.alloc _) ⟨wr.heap.size, 0, none⟩ 1 1 [.int .i64 (z)] rfl rfl (World.news_of_block (heap_alloc_new wr _)) (by simp [Value.oneCell']) (by omega) (by unfold maxLen; omega) (by omega) (by simp; omega) (wr.heap.size + 1) (by simp) ?_); intro gb cap w4 hown hgrow hat hlt4; go_must (have MS := Lib.hid (And.intro hown (show Below w.heap.size w w4 from Below.gr (Below.al HB.out _) HO.out hgrow))); clear hown hgrow hat hlt4)
          go_roundg (gk - 1)
          case measure => have := HK.out; omega
          case rel => exact ⟨k + 1, x ++ [z], by have := HK.out; omega, by go_num, by rw [List.length_append, HX.out.1]; rfl, by omega, fun m hm => by (rcases List.mem_append.1 hm with q | q; exact HX.out.2 m q; rw [List.mem_singleton.1 q]; exact ev), by rw [List.length_append, List.flatMap_append]; exact MS.out.1, MS.out.2⟩
  case rest =>
  obtain ⟨x, hx40, hxi, hown, hb⟩ := hcut
  apply_assumption
  obtain ⟨va, vc, hv⟩ := own_form hown
  subst hv
  have HI5 := Lib.hid (own_ints hxi (by omega) hown)
  obtain ⟨m, hm⟩ : ∃ m, x.length = m := ⟨_, rfl⟩
  rw [hm] at HI5 hx40 ⊢
  have LX := Lib.hid hm
  have HXI := Lib.hid hxi
  have HB := Lib.hid hb
  obtain ⟨R, hR⟩ : ∃ R, (runN x).1 = R := ⟨_, rfl⟩
  obtain ⟨E, hE⟩ : ∃ E, (runN x).2 = E := ⟨_, rfl⟩
  have HRE := Lib.hid (And.intro hR hE)
  have RUN : Hid (∀ (v1 v2 v3 : Value) (w : World), ColsAt w w.heap.size v1 cs1 → AgsAt w w.heap.size v2 [⟨3, 0⟩] → RowsAt w w.heap.size v3 (rowsN x) → Calls Try.prog 7 #[.agg #[v1, .int .i64 0], .agg #[.slice none 0 0, .slice none 0 0, .slice none 0 0, v2], v3] w (ResPost w R E)) := Lib.hid (fun v1 v2 v3 W a b c => by
    have q := run_law x v1 v2 v3 W a b c (fun n hn => by have := HXI.out n hn; unfold isI at this; omega) (by rw [LX.out]; omega)
    rw [hR, hE] at q; exact q)
  have SG := Lib.hid (fun (W : World) (hW : Below wc.heap.size wc W) => (by
    have q := single_any (.slice va m vc) x W (ints_on HI5.out hW hW.size) (by rw [LX.out]; omega)
    exact q : Calls Try.prog 10 #[.slice va m vc] W fun e w' => ∃ q, e = .returned q ∧ RowsAt w' w'.heap.size q (rowsN x) ∧ Below W.heap.size W w'))
  clear hown hm hxi hb hR hE hi hz0 hz1 hz2
  go_upto_region 14 with (first
      | (go_at_call 8; refine Calls.mono (one_any _) ?_; rintro e w1 ⟨v1, rfl, hc1, hb1⟩; obtain ⟨xA, rfl⟩ := Ext.of hb1; have CA := Lib.hid hc1; clear hc1)
      | (go_at_call 9; refine Calls.mono (sum_any _) ?_; rintro e w2 ⟨v2, rfl, ha2, hb2⟩; obtain ⟨xB, rfl⟩ := Ext.of hb2; have AB := Lib.hid ha2; clear ha2)
      | (go_at_call 10; refine Calls.mono (SG.out _ (by repeat (first | with_reducible exact Below.refl _ _ | with_reducible assumption | with_reducible refine Below.al ?_ _ | with_reducible refine Below.on ?_ _ | with_reducible refine Below.st ?_ (by first | assumption | (simp; done) | (simp; omega)) _ | with_reducible refine Below.drew ?_))) ?_; rintro e w3 ⟨v3, rfl, hr3, hb3⟩; obtain ⟨xC, rfl⟩ := Ext.of hb3; have RC := Lib.hid hr3; have kA : Below xA.it.heap.size xA.it xC.it := (by repeat (first | with_reducible exact Below.refl _ _ | with_reducible assumption | with_reducible refine Below.al ?_ _ | with_reducible refine Below.on ?_ _ | with_reducible refine Below.st ?_ (by first | assumption | (simp; done) | (simp; omega)) _ | with_reducible refine Below.drew ?_)); have kB : Below xB.it.heap.size xB.it xC.it := (by repeat (first | with_reducible exact Below.refl _ _ | with_reducible assumption | with_reducible refine Below.al ?_ _ | with_reducible refine Below.on ?_ _ | with_reducible refine Below.st ?_ (by first | assumption | (simp; done) | (simp; omega)) _ | with_reducible refine Below.drew ?_)); have CCA := Lib.hid (CA.out.mono kA kA.size); have AAB := Lib.hid (AB.out.mono kB kB.size); clear hr3 kA kB)
      | (go_at_call 7; refine Calls.mono (RUN.out _ _ _ _ CCA.out AAB.out RC.out) ?_; rintro e w4 ⟨v4, rfl, hr4, hb4⟩; obtain ⟨xD, rfl⟩ := Ext.of hb4; have RD := Lib.hid hr4; clear hr4))
  have h14 : Below wc.heap.size wc xD.it := (by repeat (first | with_reducible exact Below.refl _ _ | with_reducible assumption | with_reducible refine Below.al ?_ _ | with_reducible refine Below.on ?_ _ | with_reducible refine Below.st ?_ (by first | assumption | (simp; done) | (simp; omega)) _ | with_reducible refine Below.drew ?_))
  have H14 := Lib.hid h14
  have HID := Lib.hid (ints_on HI5.out h14 h14.size)
  clear CA AB RC CCA AAB h14
  go_wp2_with fail
  go_loopg [10, 11, 48] m (fun g s10 s11 s48 wr => ∃ k : Nat, k + g = m ∧ s48 = .int .i64 (k : Int) ∧ s10 = .int .i64 (hiF (x.take k)) ∧ s11 = .int .i64 (loF (x.take k)) ∧ ∃ y : Ext xD.it, y.it = wr)
  case atStart => exact ⟨0, by omega, rfl, rfl, rfl, ⟨xD.it, Below.refl _ _⟩, rfl⟩
  case round =>
    obtain ⟨k, hk, rfl, rfl, rfl, y, rfl⟩ := hrel
    have hkm1 : k ≤ m := by omega
    have hb1 := hi_bd (x.take k) 0 (fun n hn => HXI.out n (List.mem_of_mem_take hn))
    have lb1 := lo_bd (x.take k) 0
    have tl : (x.take k).length = k := by rw [List.length_take, LX.out]; omega
    rw [tl] at hb1 lb1
    change _ ≤ hiF (x.take k) ∧ hiF (x.take k) ≤ _ at hb1
    change _ ≤ loF (x.take k) ∧ loF (x.take k) ≤ _ at lb1
    by_cases hg0 : gk = 0
    · subst hg0
      obtain rfl : k = m := by omega
      have tk : ¬ (k : Int) < (k : Int) := by omega
      have TK : x.take k = x := List.take_of_length_le (by rw [LX.out]; exact Nat.le_refl _)
      rw [TK] at hb1 lb1 ⊢
      have HV := halves x
      obtain ⟨h0, hh0⟩ : ∃ h, hiF x = h := ⟨_, rfl⟩
      obtain ⟨l0, hl0⟩ : ∃ l, loF x = l := ⟨_, rfl⟩
      rw [hh0, hl0] at HV
      rw [hh0] at hb1 ⊢
      rw [hl0] at lb1 ⊢
      obtain ⟨c, hc⟩ : ∃ c, l0 / 4294967296 = c := ⟨_, rfl⟩
      have hA := and32 l0
      obtain ⟨l1, hl1⟩ : ∃ l, l0 % 4294967296 = l := ⟨_, rfl⟩
      rw [hl1] at hA
      have c0 : 0 ≤ c := by omega
      have c1 : c ≤ 40 := by omega
      have q0 : 0 ≤ l1 := by omega
      have q1 : l1 < 4294967296 := by omega
      have HT : totF x = (h0 + c) * 4294967296 + l1 := by omega
      have hw1 : wrap64 (h0 + c) = h0 + c := by rw [Wd.wrap64_eq]; omega
      obtain ⟨h1, hh1⟩ : ∃ h, h0 + c = h := ⟨_, rfl⟩
      rw [hh1] at HT hw1
      have HTT := Lib.hid HT
      have RV := Lib.hid (RD.out.mono y.below y.below.size)
      clear hk TK HV hb1 lb1
      have ZB : Below w.heap.size w xD.it := Below.to HB.out H14.out
      clear RUN SG HID
      by_cases hm0 : k = 0
      · subst hm0
        have ex : x = [] := List.eq_nil_of_length_eq_zero LX.out
        subst ex
        obtain rfl : ([[⟨true, 0, ⟨#[]⟩⟩]] : List (List Val)) = R := HRE.out.1
        obtain rfl : (0 : Int) = E := HRE.out.2
        have t0 : (((0 : Nat) : Int) == 0) = true := rfl
        go_wp2_with (first | (go_at_call 16; refine Calls.mono (awake26 _) ?_; rintro e w9 ⟨rfl, hb9⟩; obtain ⟨x9, rfl⟩ := Ext.of hb9; have R9 := Lib.hid (RV.out.mono x9.below x9.below.size)) | (go_at_call 11; refine Calls.mono (same_lists _ _ [[⟨true, 0, ⟨#[]⟩⟩]] _ (R9.out.mono (((Below.refl _ _).alloc (Nat.le_refl _) _).alloc (by simp) _) (by simp; omega)) (lit_alloc2 x9.it (⟨true, 0, ⟨#[]⟩⟩) _ _)) ?_; rintro e w5 ⟨rfl, hb5⟩; obtain ⟨x5, rfl⟩ := Ext.of hb5))
        exact bodyPost_ret (v := .bool true) (by simp [results, Try.results6, go_sem, *]) rfl (⟨rfl, by repeat (first | with_reducible exact Below.refl _ _ | with_reducible assumption | with_reducible refine Below.al ?_ _ | with_reducible refine Below.on ?_ _ | with_reducible refine Below.st ?_ (by first | assumption | (simp; done) | (simp; omega)) _ | with_reducible refine Below.drew ?_)⟩)
      · have t0 : ((k : Int) == 0) = false := by simpa using hm0
        have ex : ¬ x = [] := fun e => by have := LX.out; rw [e] at this; exact hm0 this.symm
        have RN := Lib.hid (And.intro HRE.out.1 HRE.out.2)
        by_cases ha : h1 < -2147483648
        · have ha2 : (h1 < -2147483648) = True := by simp; omega
          have e1 : runN x = ([], 8) := by unfold runN; rw [if_neg ex, if_neg (by rw [HTT.out]; omega)]
          obtain rfl : ([] : List (List Val)) = R := by rw [← RN.out.1, e1]
          obtain rfl : (8 : Int) = E := by rw [← RN.out.2, e1]
          obtain ⟨a4, c4, rfl⟩ := rows_end RV.out
          go_wp2_with (first | (go_at_call 16; refine Calls.mono (awake26 _) ?_; rintro e w9 ⟨rfl, hb9⟩; obtain ⟨x9, rfl⟩ := Ext.of hb9; have R9 := Lib.hid (RV.out.mono x9.below x9.below.size)))
          exact bodyPost_ret (v := .bool true) (by simp [results, Try.results6, go_sem, *]) rfl (⟨rfl, by repeat (first | with_reducible exact Below.refl _ _ | with_reducible assumption | with_reducible refine Below.al ?_ _ | with_reducible refine Below.on ?_ _ | with_reducible refine Below.st ?_ (by first | assumption | (simp; done) | (simp; omega)) _ | with_reducible refine Below.drew ?_)⟩)
        · by_cases hb : 2147483648 ≤ h1
          · have hb2 : h1 ≥ 2147483648 := hb
            have e1 : runN x = ([], 8) := by unfold runN; rw [if_neg ex, if_neg (by rw [HTT.out]; omega)]
            obtain rfl : ([] : List (List Val)) = R := by rw [← RN.out.1, e1]
            obtain rfl : (8 : Int) = E := by rw [← RN.out.2, e1]
            obtain ⟨a4, c4, rfl⟩ := rows_end RV.out
            go_wp2_with (first | (go_at_call 16; refine Calls.mono (awake26 _) ?_; rintro e w9 ⟨rfl, hb9⟩; obtain ⟨x9, rfl⟩ := Ext.of hb9; have R9 := Lib.hid (RV.out.mono x9.below x9.below.size)))
            exact bodyPost_ret (v := .bool true) (by simp [results, Try.results6, go_sem, *]) rfl (⟨rfl, by repeat (first | with_reducible exact Below.refl _ _ | with_reducible assumption | with_reducible refine Below.al ?_ _ | with_reducible refine Below.on ?_ _ | with_reducible refine Below.st ?_ (by first | assumption | (simp; done) | (simp; omega)) _ | with_reducible refine Below.drew ?_)⟩)
          · have hb2 : ¬ h1 ≥ 2147483648 := hb
            have e1 : runN x = ([[valN (totF x)]], 0) := by unfold runN; rw [if_neg ex, if_pos (by rw [HTT.out]; omega)]
            obtain ⟨T, hT⟩ : ∃ T, totF x = T := ⟨_, rfl⟩
            rw [hT] at e1
            obtain rfl : ([[valN T]] : List (List Val)) = R := by rw [← RN.out.1, e1]
            obtain rfl : (0 : Int) = E := by rw [← RN.out.2, e1]
            have hs : wrap64 (h1 * 4294967296) = h1 * 4294967296 := by rw [Wd.wrap64_eq]; omega
            have ho : bits .or .i64 (h1 * 4294967296) l1 = T := by rw [or32 h1 l1 (by omega) (by omega) q0 q1, ← HTT.out, hT]
            clear hT e1
            go_wp2_with (first | (go_at_call 16; refine Calls.mono (awake26 _) ?_; rintro e w9 ⟨rfl, hb9⟩; obtain ⟨x9, rfl⟩ := Ext.of hb9; have R9 := Lib.hid (RV.out.mono x9.below x9.below.size)) | (go_at_call 11; refine Calls.mono (same_lists _ _ [[valN T]] _ (R9.out.mono (((Below.refl _ _).alloc (Nat.le_refl _) _).alloc (by simp) _) (by simp; omega)) (lit_alloc2 x9.it (valN T) _ _)) ?_; rintro e w5 ⟨rfl, hb5⟩; obtain ⟨x5, rfl⟩ := Ext.of hb5))
            exact bodyPost_ret (v := .bool true) (by simp [results, Try.results6, go_sem, *]) rfl (⟨rfl, by repeat (first | with_reducible exact Below.refl _ _ | with_reducible assumption | with_reducible refine Below.al ?_ _ | with_reducible refine Below.on ?_ _ | with_reducible refine Below.st ?_ (by first | assumption | (simp; done) | (simp; omega)) _ | with_reducible refine Below.drew ?_)⟩)
    · have hkm : k < m := by omega
      have hkm' : (k : Int) < (m : Int) := by omega
      have hkl : k < x.length := by rw [LX.out]; exact hkm
      obtain ⟨b, o, rfl, hb, c0⟩ := ints_cell HID.out hkl
      have zi := HXI.out _ (List.getElem_mem hkl)
      have TS : x.take (k + 1) = x.take k ++ [x[k]'hkl] := List.take_succ_eq_append_getElem hkl
      obtain ⟨z, hz⟩ : ∃ z, x[k]'hkl = z := ⟨_, rfl⟩
      rw [hz] at c0 zi TS
      unfold isI at zi
      have f0 := (y.cell b (o + k) hb).trans c0
      have zb : b < y.it.heap.size := Nat.lt_of_lt_of_le hb y.below.size
      have hA := and32 z
      have HH : hiF (x.take (k + 1)) = hiF (x.take k) + z / 4294967296 := by unfold hiF; rw [TS, fold_snoc]
      have HL : loF (x.take (k + 1)) = loF (x.take k) + z % 4294967296 := by unfold loF; rw [TS, fold_snoc]
      obtain ⟨h0, hh0⟩ : ∃ h, hiF (x.take k) = h := ⟨_, rfl⟩
      obtain ⟨l0, hl0⟩ : ∃ l, loF (x.take k) = l := ⟨_, rfl⟩
      rw [hh0] at hb1 HH ⊢
      rw [hl0] at lb1 HL ⊢
      obtain ⟨r, hr⟩ : ∃ r, z % 4294967296 = r := ⟨_, rfl⟩
      obtain ⟨q, hq⟩ : ∃ q, z / 4294967296 = q := ⟨_, rfl⟩
      rw [hr] at hA HL
      rw [hq] at HH
      have w1 : wrap64 (h0 + q) = h0 + q := by rw [Wd.wrap64_eq]; omega
      have w2 : wrap64 (l0 + r) = l0 + r := by rw [Wd.wrap64_eq]; omega
      have HK := Lib.hid (And.intro (And.intro hk hg0) (And.intro HH HL))
      clear hz TS hk hg0 zi hr HH HL c0 tl hb1 lb1 hh0 hl0
      go_wp2_with fail
      go_roundg (gk - 1)
      case measure => have := HK.out; omega
      case rel => exact ⟨k + 1, by have := HK.out; omega, by go_num, by rw [HK.out.2.1, w1], by rw [HK.out.2.2, w2], y, rfl⟩
end Go.Proofs.Ytpahoenanfjhpaa
