/-
  CHAPTER 25: Select and Take, and their references. Conditions: the lists lie in memory; at most 1048576 numbers.
-/
import Derived.Test.YtploieofmnlomaaVrw
set_option linter.unusedVariables false
set_option linter.unusedSimpArgs false
namespace Go.Proofs.Ytploieofmnlomaa
open Go.RowKit
set_option maxRecDepth 8000 in
set_option maxHeartbeats 1000000 in
theorem select_m (v : Value) (zs : List Int) (w : World) (h : IntsAt w w.heap.size v zs) (h4 : zs.length ≤ 1048576) :
    Calls Try.prog 10 #[v] w fun e w' => ∃ u, e = .returned u ∧ IntsAt w' w'.heap.size u (selF zs zs.length) ∧ Below w.heap.size w w' := by
  obtain ⟨i0, hi, hz0, hz1, hz2⟩ := info_parts infoInt1
  obtain ⟨aa, ac, rfl⟩ := ints_end h
  obtain ⟨n, hn⟩ : ∃ n, zs.length = n := ⟨_, rfl⟩
  have HA := Lib.hid h
  have HN := Lib.hid hn
  rw [hn] at h4 HA ⊢
  clear h hn
  go_enter Try.func10, Try.ntmps10
  go_wp2_with fail
  go_loopg [3, 8] n (fun g v st wr => ∃ k : Nat, k + g = n ∧ st = .int .i64 (k : Int) ∧ ∃ x : Ext w, x.it = wr ∧ wr.ownsRow w.heap.size 3 1 v (selF zs k).length ((selF zs k).flatMap intC))
  case atStart => exact ⟨0, by omega, rfl, ⟨w, Below.refl _ _⟩, rfl, World.ownsRow_nil _ _ _ _⟩
  case round =>
    obtain ⟨k, hk, rfl, x, rfl, hown⟩ := hrel
    have hx := x.below
    have OW := Lib.hid hown
    by_cases hg0 : gk = 0
    · subst hg0
      obtain rfl : k = n := by omega
      have IV := Lib.hid (own_ints (fun z hz => by have := selF_lt zs k z hz; unfold isI; omega) (by have := selF_len zs k; omega) hown)
      clear hk hown
      go_wp2
      refine bodyPost_ret (v := u3) ?_ rfl ⟨u3, rfl, IV.out, hx⟩
      simp (maxDischargeDepth := 9) [results, Try.results10, go_sem, *]
    · have hkm : k < n := by omega
      have hkm' : (k : Int) < (n : Int) := by omega
      have hkx : k < zs.length := by rw [HN.out]; exact hkm
      obtain ⟨b1, o1, c1, e1, hb1, hc1⟩ := ints_in HA.out hkx
      injection e1 with e1 e2 e3
      subst e1 e3
      have f1 := (hx.cell (p := ⟨b1, o1 + k, none⟩) hb1).trans (hc1 k hkx)
      have z1 : b1 < x.it.heap.size := Nat.lt_of_lt_of_le hb1 hx.size
      have hle := selF_len zs k
      obtain ⟨z, hz⟩ : ∃ z, zs.getD k 0 = z := ⟨_, rfl⟩
      rw [hz] at f1
      have HZ := Lib.hid hz
      have HK := Lib.hid (And.intro hk hg0)
      have HXS := hx.size
      clear hk hg0 hc1 e2 hz hown
      by_cases h1 : z = 1
      · subst h1
        have ev := Lib.hid (show selF zs (k + 1) = selF zs k ++ [(k : Int)] by rw [selF, if_pos HZ.out])
        have XB := Lib.hid hx
        go_wp2_with (at_builtin; go_must (refine wpList_append_lies _ rfl _ _ 23 rfl w.heap.size 3 i0 _ 1 8 Try.underlying23 hi hz0 hz1 hz2 rfl (by decide) u3 (selF zs k).length ((selF zs k).flatMap intC) rfl (OW.out.alloc _) ⟨x.it.heap.size, 0, none⟩ 1 1 [.int .i64 (k : Int)] rfl rfl (World.news_of_block (heap_alloc_new x.it _)) (by simp [Value.oneCell']) (by omega) (by unfold maxLen; omega) (by omega) (by simp; omega) (x.it.heap.size + 1) (by simp) ?_); intro gb cap w4 hown hgrow hat hlt4; go_must (have MS := Lib.hid (And.intro hown (show Below w.heap.size w w4 from Below.gr (Below.al XB.out _) OW.out hgrow))); clear hown hgrow hat hlt4)
        go_roundg (gk - 1)
        case measure => have := HK.out; omega
        case rel => exact ⟨k + 1, by have := HK.out; omega, by go_num, ⟨_, MS.out.2⟩, rfl, by rw [ev.out, List.flatMap_append, List.length_append]; exact MS.out.1⟩
      · have ev := Lib.hid (show selF zs (k + 1) = selF zs k by rw [selF, if_neg (by rw [HZ.out]; exact h1)])
        go_wp2
        go_roundg (gk - 1)
        case measure => have := HK.out; omega
        case rel => exact ⟨k + 1, by have := HK.out; omega, by go_num, x, rfl, by rw [ev.out]; exact OW.out⟩
set_option maxRecDepth 8000 in
set_option maxHeartbeats 1000000 in
theorem refselect_m (v : Value) (zs : List Int) (w : World) (h : IntsAt w w.heap.size v zs) (h4 : zs.length ≤ 1048576) :
    Calls Try.prog 22 #[v] w fun e w' => ∃ u, e = .returned u ∧ IntsAt w' w'.heap.size u (selF zs zs.length) ∧ Below w.heap.size w w' := by
  obtain ⟨i0, hi, hz0, hz1, hz2⟩ := info_parts infoInt1
  obtain ⟨aa, ac, rfl⟩ := ints_end h
  obtain ⟨n, hn⟩ : ∃ n, zs.length = n := ⟨_, rfl⟩
  have HA := Lib.hid h
  have HN := Lib.hid hn
  rw [hn] at h4 HA ⊢
  clear h hn
  go_enter Try.func22, Try.ntmps22
  go_wp2_with fail
  go_loopg [3, 8] n (fun g v st wr => ∃ k : Nat, k + g = n ∧ st = .int .i64 (k : Int) ∧ ∃ x : Ext w, x.it = wr ∧ wr.ownsRow w.heap.size 3 1 v (selF zs k).length ((selF zs k).flatMap intC))
  case atStart => exact ⟨0, by omega, rfl, ⟨w, Below.refl _ _⟩, rfl, World.ownsRow_nil _ _ _ _⟩
  case round =>
    obtain ⟨k, hk, rfl, x, rfl, hown⟩ := hrel
    have hx := x.below
    have OW := Lib.hid hown
    by_cases hg0 : gk = 0
    · subst hg0
      obtain rfl : k = n := by omega
      have IV := Lib.hid (own_ints (fun z hz => by have := selF_lt zs k z hz; unfold isI; omega) (by have := selF_len zs k; omega) hown)
      clear hk hown
      go_wp2
      refine bodyPost_ret (v := u3) ?_ rfl ⟨u3, rfl, IV.out, hx⟩
      simp (maxDischargeDepth := 9) [results, Try.results22, go_sem, *]
    · have hkm : k < n := by omega
      have hkm' : (k : Int) < (n : Int) := by omega
      have hkx : k < zs.length := by rw [HN.out]; exact hkm
      obtain ⟨b1, o1, c1, e1, hb1, hc1⟩ := ints_in HA.out hkx
      injection e1 with e1 e2 e3
      subst e1 e3
      have f1 := (hx.cell (p := ⟨b1, o1 + k, none⟩) hb1).trans (hc1 k hkx)
      have z1 : b1 < x.it.heap.size := Nat.lt_of_lt_of_le hb1 hx.size
      have hle := selF_len zs k
      obtain ⟨z, hz⟩ : ∃ z, zs.getD k 0 = z := ⟨_, rfl⟩
      rw [hz] at f1
      have HZ := Lib.hid hz
      have HK := Lib.hid (And.intro hk hg0)
      have HXS := hx.size
      clear hk hg0 hc1 e2 hz hown
      by_cases h1 : z = 1
      · subst h1
        have ev := Lib.hid (show selF zs (k + 1) = selF zs k ++ [(k : Int)] by rw [selF, if_pos HZ.out])
        have XB := Lib.hid hx
        go_wp2_with (at_builtin; go_must (refine wpList_append_lies _ rfl _ _ 23 rfl w.heap.size 3 i0 _ 1 8 Try.underlying23 hi hz0 hz1 hz2 rfl (by decide) u3 (selF zs k).length ((selF zs k).flatMap intC) rfl (OW.out.alloc _) ⟨x.it.heap.size, 0, none⟩ 1 1 [.int .i64 (k : Int)] rfl rfl (World.news_of_block (heap_alloc_new x.it _)) (by simp [Value.oneCell']) (by omega) (by unfold maxLen; omega) (by omega) (by simp; omega) (x.it.heap.size + 1) (by simp) ?_); intro gb cap w4 hown hgrow hat hlt4; go_must (have MS := Lib.hid (And.intro hown (show Below w.heap.size w w4 from Below.gr (Below.al XB.out _) OW.out hgrow))); clear hown hgrow hat hlt4)
        go_roundg (gk - 1)
        case measure => have := HK.out; omega
        case rel => exact ⟨k + 1, by have := HK.out; omega, by go_num, ⟨_, MS.out.2⟩, rfl, by rw [ev.out, List.flatMap_append, List.length_append]; exact MS.out.1⟩
      · have ev := Lib.hid (show selF zs (k + 1) = selF zs k by rw [selF, if_neg (by rw [HZ.out]; exact h1)])
        go_wp2
        go_roundg (gk - 1)
        case measure => have := HK.out; omega
        case rel => exact ⟨k + 1, by have := HK.out; omega, by go_num, x, rfl, by rw [ev.out]; exact OW.out⟩
/-- The values of places. -/
def takeF (col : List Val) (sel : List Int) : List Val := sel.flatMap fun i => if 0 ≤ i ∧ i < (col.length : Int) then [col.getD i.toNat Val.zero] else []
theorem takeF_len (col : List Val) (sel : List Int) : (takeF col sel).length ≤ sel.length := by
  unfold takeF
  induction sel with
  | nil => simp
  | cons i l ih => rw [List.flatMap_cons, List.length_append, List.length_cons]; split <;> (simp only [List.length_cons, List.length_nil]; omega)
theorem takeF_succ {col : List Val} {sel : List Int} {k : Nat} (h : k < sel.length) : takeF col (sel.take (k + 1)) = takeF col (sel.take k) ++ (if 0 ≤ sel[k]'h ∧ sel[k]'h < (col.length : Int) then [col.getD (sel[k]'h).toNat Val.zero] else []) := by
  unfold takeF; rw [List.take_succ_eq_append_getElem h, List.flatMap_append]; simp
set_option maxRecDepth 8000 in
set_option maxHeartbeats 1000000 in
theorem take_m (cv : Value) (col : List Val) (sv : Value) (sel : List Int) (w : World) (hc : ValsAt w w.heap.size cv col) (hs : IntsAt w w.heap.size sv sel) (h4 : sel.length ≤ 1048576) :
    Calls Try.prog 24 #[cv, sv] w fun e w' => ∃ u, e = .returned u ∧ ValsAt w' w'.heap.size u (takeF col sel) ∧ Below w.heap.size w w' := by
  obtain ⟨i0, hi, hz0, hz1, hz2⟩ := info_parts infoVal
  obtain ⟨ca, cc, rfl⟩ := vals_end hc
  obtain ⟨sa, sc, rfl⟩ := ints_end hs
  obtain ⟨n, hn⟩ : ∃ n, sel.length = n := ⟨_, rfl⟩
  obtain ⟨L, hL⟩ : ∃ L, col.length = L := ⟨_, rfl⟩
  have HC := Lib.hid hc
  have HS := Lib.hid hs
  have HN := Lib.hid hn
  have HLL := Lib.hid hL
  rw [hn] at h4 HS ⊢
  rw [hL] at HC ⊢
  clear hc hs hn hL
  go_enter Try.func24, Try.ntmps24
  go_wp2_with fail
  go_loopg [5, 10] n (fun g v st wr => ∃ k : Nat, k + g = n ∧ st = .int .i64 (k : Int) ∧ ∃ x : Ext w, x.it = wr ∧ wr.ownsRow w.heap.size 32 3 v (takeF col (sel.take k)).length ((takeF col (sel.take k)).flatMap valC))
  case atStart => exact ⟨0, by omega, rfl, ⟨w, Below.refl _ _⟩, rfl, World.ownsRow_nil _ _ _ _⟩
  case round =>
    obtain ⟨k, hk, rfl, x, rfl, hown⟩ := hrel
    have hx := x.below
    have hlk : (takeF col (sel.take k)).length ≤ k := Nat.le_trans (takeF_len _ _) (by simp; omega)
    by_cases hg0 : gk = 0
    · subst hg0
      obtain rfl : k = n := by omega
      have TK : sel.take k = sel := List.take_of_length_le (by rw [HN.out]; exact Nat.le_refl _)
      rw [TK] at hown hlk
      have IV := Lib.hid (own_vals (by omega) hown)
      clear hk hown TK
      go_wp2
      refine bodyPost_ret (v := u5) ?_ rfl ⟨u5, rfl, IV.out, hx⟩
      simp (maxDischargeDepth := 9) [results, Try.results24, go_sem, *]
    · have hkm : k < n := by omega
      have hkm' : (k : Int) < (n : Int) := by omega
      have hkx : k < sel.length := by rw [HN.out]; exact hkm
      obtain ⟨b1, o1, c1, e1, hb1, hc1⟩ := ints_in HS.out hkx
      injection e1 with e1 e2 e3
      subst e1 e3
      have f1 := (hx.cell (p := ⟨b1, o1 + k, none⟩) hb1).trans (hc1 k hkx)
      have z1 : b1 < x.it.heap.size := Nat.lt_of_lt_of_le hb1 hx.size
      obtain ⟨iv, hiv⟩ : ∃ iv, sel[k]'hkx = iv := ⟨_, rfl⟩
      have GD : sel.getD k 0 = iv := by rw [List.getD_eq_getElem?_getD, List.getElem?_eq_getElem hkx]; exact hiv
      rw [GD] at f1
      have TS := takeF_succ (col := col) hkx
      rw [hiv, HLL.out] at TS
      obtain ⟨vs, hvs⟩ : ∃ vs, takeF col (sel.take k) = vs := ⟨_, rfl⟩
      rw [hvs] at hown hlk TS
      have OW := Lib.hid hown
      have HK := Lib.hid (And.intro hk hg0)
      have HXS := hx.size
      clear hk hg0 hc1 e2 hiv hown GD hvs
      by_cases hneg : iv < 0
      · have SO := Lib.hid (TS.trans (by rw [if_neg (by omega), List.append_nil]))
        have hge : ¬ (0 ≤ iv) := by omega
        clear TS
        go_wp2
        go_roundg (gk - 1)
        case measure => have := HK.out; omega
        case rel => exact ⟨k + 1, by have := HK.out; omega, by go_num, x, rfl, by rw [SO.out]; exact OW.out⟩
      · by_cases hbig : (L : Int) ≤ iv
        · have SO := Lib.hid (TS.trans (by rw [if_neg (by omega), List.append_nil]))
          have h0 : 0 ≤ iv := by omega
          clear TS
          go_wp2
          go_roundg (gk - 1)
          case measure => have := HK.out; omega
          case rel => exact ⟨k + 1, by have := HK.out; omega, by go_num, x, rfl, by rw [SO.out]; exact OW.out⟩
        · obtain ⟨I, rfl⟩ : ∃ I : Nat, iv = (I : Int) := ⟨iv.toNat, by omega⟩
          have hIL : I < L := by omega
          have hIL' : (I : Int) < (L : Int) := by omega
          have hIc : I < col.length := by rw [HLL.out]; exact hIL
          obtain ⟨vb, vo, rfl, _, hvb, d0, d1, d2⟩ := vals_in HC.out hIc
          have GV : col.getD I Val.zero = col[I]'hIc := getDv_in hIc
          obtain ⟨u, hu⟩ : ∃ u, col[I]'hIc = u := ⟨_, rfl⟩
          rw [hu] at d0 d1 d2 GV
          have SO := Lib.hid (TS.trans (by rw [if_pos (by omega), Int.toNat_natCast, GV]))
          obtain ⟨un, ui, us⟩ := u
          dsimp only at d0 d1 d2
          have g1 := (hx.cell (p := ⟨vb, vo + I * 3, none⟩) hvb).trans d0
          have g2 := (hx.cell (p := ⟨vb, vo + I * 3 + 1, none⟩) hvb).trans d1
          have g3 := (hx.cell (p := ⟨vb, vo + I * 3 + 2, none⟩) hvb).trans d2
          have zv : vb < x.it.heap.size := Nat.lt_of_lt_of_le hvb hx.size
          have XB := Lib.hid hx
          clear d0 d1 d2 hu GV TS hneg hbig
          go_wp2_with (at_builtin; go_must (refine wpList_append_lies _ rfl _ _ 39 rfl w.heap.size 32 i0 _ 3 32 Try.underlying39 hi hz0 hz1 hz2 rfl (by decide) u5 vs.length (vs.flatMap valC) rfl (OW.out.alloc _) ⟨x.it.heap.size, 0, none⟩ 1 1 (valC ⟨un, ui, us⟩) rfl rfl (World.news_of_block (heap_alloc_new x.it _)) (by simp [valC, Value.oneCell']) (by omega) (by unfold maxLen; omega) (by omega) (by simp; omega) (x.it.heap.size + 1) (by simp) ?_); intro gb cap w4 hown hgrow hat hlt4; go_must (have MS := Lib.hid (And.intro hown (show Below w.heap.size w w4 from Below.gr (Below.al XB.out _) OW.out hgrow))); clear hown hgrow hat hlt4)
          go_roundg (gk - 1)
          case measure => have := HK.out; omega
          case rel => exact ⟨k + 1, by have := HK.out; omega, by go_num, ⟨_, MS.out.2⟩, rfl, by rw [SO.out, List.flatMap_append, List.length_append]; exact MS.out.1⟩
set_option maxRecDepth 8000 in
set_option maxHeartbeats 1000000 in
theorem reftake_m (cv : Value) (col : List Val) (sv : Value) (sel : List Int) (w : World) (hc : ValsAt w w.heap.size cv col) (hs : IntsAt w w.heap.size sv sel) (h4 : sel.length ≤ 1048576) :
    Calls Try.prog 25 #[cv, sv] w fun e w' => ∃ u, e = .returned u ∧ ValsAt w' w'.heap.size u (takeF col sel) ∧ Below w.heap.size w w' := by
  obtain ⟨i0, hi, hz0, hz1, hz2⟩ := info_parts infoVal
  obtain ⟨ca, cc, rfl⟩ := vals_end hc
  obtain ⟨sa, sc, rfl⟩ := ints_end hs
  obtain ⟨n, hn⟩ : ∃ n, sel.length = n := ⟨_, rfl⟩
  obtain ⟨L, hL⟩ : ∃ L, col.length = L := ⟨_, rfl⟩
  have HC := Lib.hid hc
  have HS := Lib.hid hs
  have HN := Lib.hid hn
  have HLL := Lib.hid hL
  rw [hn] at h4 HS ⊢
  rw [hL] at HC ⊢
  clear hc hs hn hL
  go_enter Try.func25, Try.ntmps25
  go_wp2_with fail
  go_loopg [5, 10] n (fun g v st wr => ∃ k : Nat, k + g = n ∧ st = .int .i64 (k : Int) ∧ ∃ x : Ext w, x.it = wr ∧ wr.ownsRow w.heap.size 32 3 v (takeF col (sel.take k)).length ((takeF col (sel.take k)).flatMap valC))
  case atStart => exact ⟨0, by omega, rfl, ⟨w, Below.refl _ _⟩, rfl, World.ownsRow_nil _ _ _ _⟩
  case round =>
    obtain ⟨k, hk, rfl, x, rfl, hown⟩ := hrel
    have hx := x.below
    have hlk : (takeF col (sel.take k)).length ≤ k := Nat.le_trans (takeF_len _ _) (by simp; omega)
    by_cases hg0 : gk = 0
    · subst hg0
      obtain rfl : k = n := by omega
      have TK : sel.take k = sel := List.take_of_length_le (by rw [HN.out]; exact Nat.le_refl _)
      rw [TK] at hown hlk
      have IV := Lib.hid (own_vals (by omega) hown)
      clear hk hown TK
      go_wp2
      refine bodyPost_ret (v := u5) ?_ rfl ⟨u5, rfl, IV.out, hx⟩
      simp (maxDischargeDepth := 9) [results, Try.results25, go_sem, *]
    · have hkm : k < n := by omega
      have hkm' : (k : Int) < (n : Int) := by omega
      have hkx : k < sel.length := by rw [HN.out]; exact hkm
      obtain ⟨b1, o1, c1, e1, hb1, hc1⟩ := ints_in HS.out hkx
      injection e1 with e1 e2 e3
      subst e1 e3
      have f1 := (hx.cell (p := ⟨b1, o1 + k, none⟩) hb1).trans (hc1 k hkx)
      have z1 : b1 < x.it.heap.size := Nat.lt_of_lt_of_le hb1 hx.size
      obtain ⟨iv, hiv⟩ : ∃ iv, sel[k]'hkx = iv := ⟨_, rfl⟩
      have GD : sel.getD k 0 = iv := by rw [List.getD_eq_getElem?_getD, List.getElem?_eq_getElem hkx]; exact hiv
      rw [GD] at f1
      have TS := takeF_succ (col := col) hkx
      rw [hiv, HLL.out] at TS
      obtain ⟨vs, hvs⟩ : ∃ vs, takeF col (sel.take k) = vs := ⟨_, rfl⟩
      rw [hvs] at hown hlk TS
      have OW := Lib.hid hown
      have HK := Lib.hid (And.intro hk hg0)
      have HXS := hx.size
      clear hk hg0 hc1 e2 hiv hown GD hvs
      by_cases hneg : iv < 0
      · have SO := Lib.hid (TS.trans (by rw [if_neg (by omega), List.append_nil]))
        have hge : ¬ (0 ≤ iv) := by omega
        clear TS
        go_wp2
        go_roundg (gk - 1)
        case measure => have := HK.out; omega
        case rel => exact ⟨k + 1, by have := HK.out; omega, by go_num, x, rfl, by rw [SO.out]; exact OW.out⟩
      · by_cases hbig : (L : Int) ≤ iv
        · have SO := Lib.hid (TS.trans (by rw [if_neg (by omega), List.append_nil]))
          have h0 : 0 ≤ iv := by omega
          clear TS
          go_wp2
          go_roundg (gk - 1)
          case measure => have := HK.out; omega
          case rel => exact ⟨k + 1, by have := HK.out; omega, by go_num, x, rfl, by rw [SO.out]; exact OW.out⟩
        · obtain ⟨I, rfl⟩ : ∃ I : Nat, iv = (I : Int) := ⟨iv.toNat, by omega⟩
          have hIL : I < L := by omega
          have hIL' : (I : Int) < (L : Int) := by omega
          have hIc : I < col.length := by rw [HLL.out]; exact hIL
          obtain ⟨vb, vo, rfl, _, hvb, d0, d1, d2⟩ := vals_in HC.out hIc
          have GV : col.getD I Val.zero = col[I]'hIc := getDv_in hIc
          obtain ⟨u, hu⟩ : ∃ u, col[I]'hIc = u := ⟨_, rfl⟩
          rw [hu] at d0 d1 d2 GV
          have SO := Lib.hid (TS.trans (by rw [if_pos (by omega), Int.toNat_natCast, GV]))
          obtain ⟨un, ui, us⟩ := u
          dsimp only at d0 d1 d2
          have g1 := (hx.cell (p := ⟨vb, vo + I * 3, none⟩) hvb).trans d0
          have g2 := (hx.cell (p := ⟨vb, vo + I * 3 + 1, none⟩) hvb).trans d1
          have g3 := (hx.cell (p := ⟨vb, vo + I * 3 + 2, none⟩) hvb).trans d2
          have zv : vb < x.it.heap.size := Nat.lt_of_lt_of_le hvb hx.size
          have XB := Lib.hid hx
          clear d0 d1 d2 hu GV TS hneg hbig
          go_wp2_with (at_builtin; go_must (refine wpList_append_lies _ rfl _ _ 39 rfl w.heap.size 32 i0 _ 3 32 Try.underlying39 hi hz0 hz1 hz2 rfl (by decide) u5 vs.length (vs.flatMap valC) rfl (OW.out.alloc _) ⟨x.it.heap.size, 0, none⟩ 1 1 (valC ⟨un, ui, us⟩) rfl rfl (World.news_of_block (heap_alloc_new x.it _)) (by simp [valC, Value.oneCell']) (by omega) (by unfold maxLen; omega) (by omega) (by simp; omega) (x.it.heap.size + 1) (by simp) ?_); intro gb cap w4 hown hgrow hat hlt4; go_must (have MS := Lib.hid (And.intro hown (show Below w.heap.size w w4 from Below.gr (Below.al XB.out _) OW.out hgrow))); clear hown hgrow hat hlt4)
          go_roundg (gk - 1)
          case measure => have := HK.out; omega
          case rel => exact ⟨k + 1, by have := HK.out; omega, by go_num, ⟨_, MS.out.2⟩, rfl, by rw [SO.out, List.flatMap_append, List.length_append]; exact MS.out.1⟩
end Go.Proofs.Ytploieofmnlomaa
