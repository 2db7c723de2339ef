/-
  CHAPTER 26: slices.Equal, slices.EqualFunc and aggregate.same, at equal lists and at the ways in which the laws part them. Conditions: the lists lie in memory.
-/
import Derived.Test.YtpahoenanfjhpaaGreatZh
import Derived.Test.YtpahoenanfjhpaaGreatZj
import Derived.Test.YtpahoenanfjhpaaGreatNewz
set_option linter.unusedVariables false
set_option linter.unusedSimpArgs false
namespace Go.Proofs.YtpahoenanfjhpaaGreat
open Go.RowKit
set_option maxRecDepth 8000 in
set_option maxHeartbeats 1000000 in
theorem eqv_ints (va vb : Value) (xs : List Int) (w : World) (ha : IntsAt w w.heap.size va xs) (hb : IntsAt w w.heap.size vb xs) :
    Calls Tryz.prog 74 #[va, vb] w fun e w' => e = .returned (.bool true) ∧ Below w.heap.size w w' := by
  obtain ⟨aa, ac, rfl⟩ := ints_end ha
  obtain ⟨ba, bc, rfl⟩ := ints_end hb
  obtain ⟨n, hn⟩ : ∃ n, xs.length = n := ⟨_, rfl⟩
  have n63 := ha.2.1
  have HA := Lib.hid ha
  have HB := Lib.hid hb
  have HN := Lib.hid hn
  rw [hn] at n63 HA HB ⊢
  clear ha hb hn
  go_enter Tryz.func74, Tryz.ntmps74
  go_wp2_with fail
  go_loopg [13] n (fun g st wr => ∃ k : Nat, k + g = n ∧ st = .int .i64 (k : Int) ∧ ∃ x : Ext w, x.it = wr)
  case atStart => exact ⟨0, by omega, rfl, ⟨w, Below.refl _ _⟩, rfl⟩
  case round =>
    obtain ⟨k, hk, rfl, x, rfl⟩ := hrel
    have hx := x.below
    by_cases hg0 : gk = 0
    · subst hg0
      obtain rfl : k = n := by omega
      clear hk
      go_wp2
      exact bodyPost_ret (v := .bool true) (by simp [results, Tryz.results74, go_sem, *]) rfl (⟨rfl, by with_reducible repeat (first | exact Below.refl _ _ | assumption | refine Below.al ?_ _ | refine Below.on ?_ _ | refine Below.st ?_ (by first | assumption | (simp; done) | (simp; omega)) _ | refine Below.drew ?_)⟩)
    · have hkm : k < n := by omega
      have hkm' : (k : Int) < (n : Int) := by omega
      have hkx : k < xs.length := by rw [HN.out]; exact hkm
      obtain ⟨b1, o1, rfl, hb1, c0⟩ := ints_cell HA.out hkx
      obtain ⟨b2, o2, rfl, hb2, d0⟩ := ints_cell HB.out hkx
      obtain ⟨u, hu⟩ : ∃ u, xs[k]'hkx = u := ⟨_, rfl⟩
      rw [hu] at c0 d0
      have f0 := (hx.cell (p := ⟨b1, o1 + k, none⟩) hb1).trans c0
      have g0 := (hx.cell (p := ⟨b2, o2 + k, none⟩) hb2).trans d0
      have z1 : b1 < x.it.heap.size := Nat.lt_of_lt_of_le hb1 hx.size
      have z2 : b2 < x.it.heap.size := Nat.lt_of_lt_of_le hb2 hx.size
      have HK := Lib.hid (And.intro hk hg0)
      clear hk hg0 hu c0 d0
      go_upto_region 6 with fail
      refine wp_region_ext (by kernel_rfl) (by kernel_rfl) ?_
      repeat (go_big_quiet_step (((fail))))
      refine wpQuiet_nil ?_
      rintro _ ⟨x5, rfl⟩
      go_wp2
      go_roundg (gk - 1)
      case measure => have := HK.out; omega
      case rel => exact ⟨k + 1, by have := HK.out; omega, by go_num, ⟨x5.it, Below.on hx x5⟩, rfl⟩
set_option maxRecDepth 8000 in
set_option maxHeartbeats 1000000 in
theorem eqv_ags (va vb : Value) (xs : List Ag) (w : World) (ha : AgsAt w w.heap.size va xs) (hb : AgsAt w w.heap.size vb xs) :
    Calls Tryz.prog 75 #[va, vb] w fun e w' => e = .returned (.bool true) ∧ Below w.heap.size w w' := by
  obtain ⟨aa, ac, rfl⟩ := ags_end ha
  obtain ⟨ba, bc, rfl⟩ := ags_end hb
  obtain ⟨n, hn⟩ : ∃ n, xs.length = n := ⟨_, rfl⟩
  have n63 := ha.1
  have HA := Lib.hid ha
  have HB := Lib.hid hb
  have HN := Lib.hid hn
  rw [hn] at n63 HA HB ⊢
  clear ha hb hn
  go_enter Tryz.func75, Tryz.ntmps75
  go_wp2_with fail
  go_loopg [13] n (fun g st wr => ∃ k : Nat, k + g = n ∧ st = .int .i64 (k : Int) ∧ ∃ x : Ext w, x.it = wr)
  case atStart => exact ⟨0, by omega, rfl, ⟨w, Below.refl _ _⟩, rfl⟩
  case round =>
    obtain ⟨k, hk, rfl, x, rfl⟩ := hrel
    have hx := x.below
    by_cases hg0 : gk = 0
    · subst hg0
      obtain rfl : k = n := by omega
      clear hk
      go_wp2
      exact bodyPost_ret (v := .bool true) (by simp [results, Tryz.results75, go_sem, *]) rfl (⟨rfl, by with_reducible repeat (first | exact Below.refl _ _ | assumption | refine Below.al ?_ _ | refine Below.on ?_ _ | refine Below.st ?_ (by first | assumption | (simp; done) | (simp; omega)) _ | refine Below.drew ?_)⟩)
    · have hkm : k < n := by omega
      have hkm' : (k : Int) < (n : Int) := by omega
      have hkx : k < xs.length := by rw [HN.out]; exact hkm
      obtain ⟨b1, o1, rfl, _, hb1, c0, c1⟩ := ags_in HA.out hkx
      obtain ⟨b2, o2, rfl, _, hb2, d0, d1⟩ := ags_in HB.out hkx
      obtain ⟨u, hu⟩ : ∃ u, xs[k]'hkx = u := ⟨_, rfl⟩
      rw [hu] at c0 c1 d0 d1
      obtain ⟨uo, uc⟩ := u
      dsimp only at c0 c1 d0 d1
      have f0 := (hx.cell (p := ⟨b1, o1 + k * 2, none⟩) hb1).trans c0
      have f1 := (hx.cell (p := ⟨b1, o1 + k * 2 + 1, none⟩) hb1).trans c1
      have g0 := (hx.cell (p := ⟨b2, o2 + k * 2, none⟩) hb2).trans d0
      have g1 := (hx.cell (p := ⟨b2, o2 + k * 2 + 1, none⟩) hb2).trans d1
      have z1 : b1 < x.it.heap.size := Nat.lt_of_lt_of_le hb1 hx.size
      have z2 : b2 < x.it.heap.size := Nat.lt_of_lt_of_le hb2 hx.size
      have HK := Lib.hid (And.intro hk hg0)
      clear hk hg0 hu c0 c1 d0 d1
      go_upto_region 6 with fail
      refine wp_region_ext (by kernel_rfl) (by kernel_rfl) ?_
      repeat (go_big_quiet_step (((fail))))
      refine wpQuiet_nil ?_
      rintro _ ⟨x5, rfl⟩
      go_wp2
      go_roundg (gk - 1)
      case measure => have := HK.out; omega
      case rel => exact ⟨k + 1, by have := HK.out; omega, by go_num, ⟨x5.it, Below.on hx x5⟩, rfl⟩
set_option maxRecDepth 8000 in
set_option maxHeartbeats 1000000 in
theorem eqv_vals (va vb : Value) (xs : List Val) (w : World) (ha : ValsAt w w.heap.size va xs) (hb : ValsAt w w.heap.size vb xs) :
    Calls Tryz.prog 71 #[va, vb] w fun e w' => e = .returned (.bool true) ∧ Below w.heap.size w w' := by
  obtain ⟨aa, ac, rfl⟩ := vals_end ha
  obtain ⟨ba, bc, rfl⟩ := vals_end hb
  obtain ⟨n, hn⟩ : ∃ n, xs.length = n := ⟨_, rfl⟩
  have n63 := ha.1
  have HA := Lib.hid ha
  have HB := Lib.hid hb
  have HN := Lib.hid hn
  rw [hn] at n63 HA HB ⊢
  clear ha hb hn
  go_enter Tryz.func71, Tryz.ntmps71
  go_wp2_with fail
  go_loopg [13] n (fun g st wr => ∃ k : Nat, k + g = n ∧ st = .int .i64 (k : Int) ∧ ∃ x : Ext w, x.it = wr)
  case atStart => exact ⟨0, by omega, rfl, ⟨w, Below.refl _ _⟩, rfl⟩
  case round =>
    obtain ⟨k, hk, rfl, x, rfl⟩ := hrel
    have hx := x.below
    by_cases hg0 : gk = 0
    · subst hg0
      obtain rfl : k = n := by omega
      clear hk
      go_wp2
      exact bodyPost_ret (v := .bool true) (by simp [results, Tryz.results71, go_sem, *]) rfl (⟨rfl, by with_reducible repeat (first | exact Below.refl _ _ | assumption | refine Below.al ?_ _ | refine Below.on ?_ _ | refine Below.st ?_ (by first | assumption | (simp; done) | (simp; omega)) _ | refine Below.drew ?_)⟩)
    · have hkm : k < n := by omega
      have hkm' : (k : Int) < (n : Int) := by omega
      have hkx : k < xs.length := by rw [HN.out]; exact hkm
      obtain ⟨b1, o1, rfl, _, hb1, c0, c1, c2⟩ := vals_in HA.out hkx
      obtain ⟨b2, o2, rfl, _, hb2, d0, d1, d2⟩ := vals_in HB.out hkx
      obtain ⟨u, hu⟩ : ∃ u, xs[k]'hkx = u := ⟨_, rfl⟩
      rw [hu] at c0 c1 c2 d0 d1 d2
      obtain ⟨un, ui, us⟩ := u
      dsimp only at c0 c1 c2 d0 d1 d2
      have f0 := (hx.cell (p := ⟨b1, o1 + k * 3, none⟩) hb1).trans c0
      have f1 := (hx.cell (p := ⟨b1, o1 + k * 3 + 1, none⟩) hb1).trans c1
      have f2 := (hx.cell (p := ⟨b1, o1 + k * 3 + 2, none⟩) hb1).trans c2
      have g0 := (hx.cell (p := ⟨b2, o2 + k * 3, none⟩) hb2).trans d0
      have g1 := (hx.cell (p := ⟨b2, o2 + k * 3 + 1, none⟩) hb2).trans d1
      have g2 := (hx.cell (p := ⟨b2, o2 + k * 3 + 2, none⟩) hb2).trans d2
      have z1 : b1 < x.it.heap.size := Nat.lt_of_lt_of_le hb1 hx.size
      have z2 : b2 < x.it.heap.size := Nat.lt_of_lt_of_le hb2 hx.size
      have HK := Lib.hid (And.intro hk hg0)
      clear hk hg0 hu c0 c1 c2 d0 d1 d2
      go_upto_region 6 with fail
      refine wp_region_ext (by kernel_rfl) (by kernel_rfl) ?_
      repeat (go_big_quiet_step (((fail))))
      refine wpQuiet_nil ?_
      rintro _ ⟨x5, rfl⟩
      go_wp2
      go_roundg (gk - 1)
      case measure => have := HK.out; omega
      case rel => exact ⟨k + 1, by have := HK.out; omega, by go_num, ⟨x5.it, Below.on hx x5⟩, rfl⟩
set_option maxRecDepth 8000 in
set_option maxHeartbeats 1000000 in
theorem eqv_cols (va vb : Value) (xs : List Col) (w : World) (ha : ColsAt w w.heap.size va xs) (hb : ColsAt w w.heap.size vb xs) :
    Calls Tryz.prog 72 #[va, vb] w fun e w' => e = .returned (.bool true) ∧ Below w.heap.size w w' := by
  obtain ⟨aa, ac, rfl⟩ := cols_end ha
  obtain ⟨ba, bc, rfl⟩ := cols_end hb
  obtain ⟨n, hn⟩ : ∃ n, xs.length = n := ⟨_, rfl⟩
  have n63 := ha.1
  have HA := Lib.hid ha
  have HB := Lib.hid hb
  have HN := Lib.hid hn
  rw [hn] at n63 HA HB ⊢
  clear ha hb hn
  go_enter Tryz.func72, Tryz.ntmps72
  go_wp2_with fail
  go_loopg [13] n (fun g st wr => ∃ k : Nat, k + g = n ∧ st = .int .i64 (k : Int) ∧ ∃ x : Ext w, x.it = wr)
  case atStart => exact ⟨0, by omega, rfl, ⟨w, Below.refl _ _⟩, rfl⟩
  case round =>
    obtain ⟨k, hk, rfl, x, rfl⟩ := hrel
    have hx := x.below
    by_cases hg0 : gk = 0
    · subst hg0
      obtain rfl : k = n := by omega
      clear hk
      go_wp2
      exact bodyPost_ret (v := .bool true) (by simp [results, Tryz.results72, go_sem, *]) rfl (⟨rfl, by with_reducible repeat (first | exact Below.refl _ _ | assumption | refine Below.al ?_ _ | refine Below.on ?_ _ | refine Below.st ?_ (by first | assumption | (simp; done) | (simp; omega)) _ | refine Below.drew ?_)⟩)
    · have hkm : k < n := by omega
      have hkm' : (k : Int) < (n : Int) := by omega
      have hkx : k < xs.length := by rw [HN.out]; exact hkm
      obtain ⟨b1, o1, rfl, _, hb1, c0, c1, c2, c3⟩ := cols_in HA.out hkx
      obtain ⟨b2, o2, rfl, _, hb2, d0, d1, d2, d3⟩ := cols_in HB.out hkx
      obtain ⟨u, hu⟩ : ∃ u, xs[k]'hkx = u := ⟨_, rfl⟩
      rw [hu] at c0 c1 c2 c3 d0 d1 d2 d3
      obtain ⟨un, ut, us, ub⟩ := u
      dsimp only at c0 c1 c2 c3 d0 d1 d2 d3
      have f0 := (hx.cell (p := ⟨b1, o1 + k * 4, none⟩) hb1).trans c0
      have f1 := (hx.cell (p := ⟨b1, o1 + k * 4 + 1, none⟩) hb1).trans c1
      have f2 := (hx.cell (p := ⟨b1, o1 + k * 4 + 2, none⟩) hb1).trans c2
      have f3 := (hx.cell (p := ⟨b1, o1 + k * 4 + 3, none⟩) hb1).trans c3
      have g0 := (hx.cell (p := ⟨b2, o2 + k * 4, none⟩) hb2).trans d0
      have g1 := (hx.cell (p := ⟨b2, o2 + k * 4 + 1, none⟩) hb2).trans d1
      have g2 := (hx.cell (p := ⟨b2, o2 + k * 4 + 2, none⟩) hb2).trans d2
      have g3 := (hx.cell (p := ⟨b2, o2 + k * 4 + 3, none⟩) hb2).trans d3
      have z1 : b1 < x.it.heap.size := Nat.lt_of_lt_of_le hb1 hx.size
      have z2 : b2 < x.it.heap.size := Nat.lt_of_lt_of_le hb2 hx.size
      have HK := Lib.hid (And.intro hk hg0)
      clear hk hg0 hu c0 c1 c2 c3 d0 d1 d2 d3
      go_upto_region 6 with fail
      refine wp_region_ext (by kernel_rfl) (by kernel_rfl) ?_
      repeat (go_big_quiet_step (((fail))))
      refine wpQuiet_nil ?_
      rintro _ ⟨x5, rfl⟩
      go_wp2
      go_roundg (gk - 1)
      case measure => have := HK.out; omega
      case rel => exact ⟨k + 1, by have := HK.out; omega, by go_num, ⟨x5.it, Below.on hx x5⟩, rfl⟩
set_option maxRecDepth 8000 in
set_option maxHeartbeats 1000000 in
/-- Columns that part at one name. -/
theorem nev_cols (va vb : Value) (xs ys : List Col) (j : Nat) (w : World) (ha : ColsAt w w.heap.size va xs) (hb : ColsAt w w.heap.size vb ys) (hl : ys.length = xs.length) (hj : j < xs.length) (he : ∀ i (h : i < xs.length) (h' : i < ys.length), i < j → ys[i]'(h') = xs[i]'h) (hne : ¬ (xs[j]'hj).nm.toList = (ys[j]'(by omega)).nm.toList) :
    Calls Tryz.prog 72 #[va, vb] w fun e w' => e = .returned (.bool false) ∧ Below w.heap.size w w' := by
  obtain ⟨aa, ac, rfl⟩ := cols_end ha
  obtain ⟨ba, bc, rfl⟩ := cols_end hb
  obtain ⟨n, hn⟩ : ∃ n, xs.length = n := ⟨_, rfl⟩
  rw [hn] at hl
  have n63 := ha.1
  have HA := Lib.hid ha
  have HB := Lib.hid hb
  have HN := Lib.hid hn
  have HM := Lib.hid hl
  have HE := Lib.hid he
  have HNE := Lib.hid hne
  rw [hl] at HB ⊢
  rw [hn] at n63 HA ⊢
  have hjn : j < n := by omega
  have hjn' : (j : Int) < (n : Int) := by omega
  clear ha hb hn hl he hne
  go_enter Tryz.func72, Tryz.ntmps72
  go_wp2_with fail
  go_loopg [13] j (fun g st wr => ∃ k : Nat, k + g = j ∧ st = .int .i64 (k : Int) ∧ ∃ x : Ext w, x.it = wr)
  case atStart => exact ⟨0, by omega, rfl, ⟨w, Below.refl _ _⟩, rfl⟩
  case round =>
    obtain ⟨k, hk, rfl, x, rfl⟩ := hrel
    have hx := x.below
    have hkm : k < n := by omega
    have hkm' : (k : Int) < (n : Int) := by omega
    have hkx : k < xs.length := by rw [HN.out]; exact hkm
    have hky : k < ys.length := by rw [HM.out]; exact hkm
    obtain ⟨b1, o1, rfl, _, hb1, c0, c1, c2, c3⟩ := cols_in HA.out hkx
    obtain ⟨b2, o2, rfl, _, hb2, d0, d1, d2, d3⟩ := cols_in HB.out hky
    have EE : ¬ gk = 0 → ys[k]'hky = xs[k]'hkx := fun h => HE.out k hkx hky (by omega)
    have EN : gk = 0 → ¬ (xs[k]'hkx).nm.toList = (ys[k]'hky).nm.toList := fun h => by
      obtain rfl : k = j := by omega
      exact HNE.out
    obtain ⟨u, hu⟩ : ∃ u, xs[k]'hkx = u := ⟨_, rfl⟩
    obtain ⟨v, hv⟩ : ∃ u, ys[k]'hky = u := ⟨_, rfl⟩
    rw [hu] at c0 c1 c2 c3 EE EN
    rw [hv] at d0 d1 d2 d3 EE EN
    obtain ⟨un, ut, us, ub⟩ := u
    obtain ⟨vn, vt, vs, vb⟩ := v
    dsimp only at c0 c1 c2 c3 d0 d1 d2 d3 EN
    have f0 := (hx.cell (p := ⟨b1, o1 + k * 4, none⟩) hb1).trans c0
    have f1 := (hx.cell (p := ⟨b1, o1 + k * 4 + 1, none⟩) hb1).trans c1
    have f2 := (hx.cell (p := ⟨b1, o1 + k * 4 + 2, none⟩) hb1).trans c2
    have f3 := (hx.cell (p := ⟨b1, o1 + k * 4 + 3, none⟩) hb1).trans c3
    have g0 := (hx.cell (p := ⟨b2, o2 + k * 4, none⟩) hb2).trans d0
    have g1 := (hx.cell (p := ⟨b2, o2 + k * 4 + 1, none⟩) hb2).trans d1
    have g2 := (hx.cell (p := ⟨b2, o2 + k * 4 + 2, none⟩) hb2).trans d2
    have g3 := (hx.cell (p := ⟨b2, o2 + k * 4 + 3, none⟩) hb2).trans d3
    have z1 : b1 < x.it.heap.size := Nat.lt_of_lt_of_le hb1 hx.size
    have z2 : b2 < x.it.heap.size := Nat.lt_of_lt_of_le hb2 hx.size
    have HK := Lib.hid hk
    clear hk hu hv c0 c1 c2 c3 d0 d1 d2 d3
    by_cases hg0 : gk = 0
    · have en := EN hg0
      clear EE EN
      go_upto_region 6 with fail
      refine wp_region_ext (by kernel_rfl) (by kernel_rfl) ?_
      repeat (go_big_quiet_step (((fail))))
      refine wpQuiet_nil ?_
      rintro _ ⟨x5, rfl⟩
      go_wp2
      exact bodyPost_ret (v := .bool false) (by simp [results, Tryz.results72, go_sem, *]) rfl (⟨rfl, by with_reducible repeat (first | exact Below.refl _ _ | assumption | refine Below.al ?_ _ | refine Below.on ?_ _ | refine Below.st ?_ (by first | assumption | (simp; done) | (simp; omega)) _ | refine Below.drew ?_)⟩)
    · have ee := EE hg0
      injection ee with e1 e2 e3 e4
      subst e1 e2 e3 e4
      have HG := Lib.hid hg0
      clear EE EN hg0
      go_upto_region 6 with fail
      refine wp_region_ext (by kernel_rfl) (by kernel_rfl) ?_
      repeat (go_big_quiet_step (((fail))))
      refine wpQuiet_nil ?_
      rintro _ ⟨x5, rfl⟩
      go_wp2
      go_roundg (gk - 1)
      case measure => have := HG.out; omega
      case rel => exact ⟨k + 1, by have := HK.out; have := HG.out; omega, by go_num, ⟨x5.it, Below.on hx x5⟩, rfl⟩
set_option maxRecDepth 8000 in
set_option maxHeartbeats 1000000 in
theorem node_eq (uo uc : Int) (un : Bool) (ui : Int) (us : ByteArray) (ua ub : Int) (la lb : Value) (ls : List Val) (w : World) (ha : ValsAt w w.heap.size la ls) (hb : ValsAt w w.heap.size lb ls) :
    Calls Tryz.prog 70 #[.agg #[.int .i64 uo, .int .i64 uc, .bool un, .int .i64 ui, .string us, la, .int .i64 ua, .int .i64 ub], .agg #[.int .i64 uo, .int .i64 uc, .bool un, .int .i64 ui, .string us, lb, .int .i64 ua, .int .i64 ub]] w fun e w' => e = .returned (.bool true) ∧ Below w.heap.size w w' := by
  have EV := Lib.hid (fun (W : World) (h : Below w.heap.size w W) => eqv_vals la lb ls W (ha.mono h h.size) (hb.mono h h.size))
  obtain ⟨aa, ac, rfl⟩ := vals_end ha
  obtain ⟨ba, bc, rfl⟩ := vals_end hb
  generalize ls.length = n at EV ⊢
  clear ha hb
  go_enter Tryz.func70, Tryz.ntmps70
  go_upto_region 1 with fail
  refine captureM ?_
  intro y ey
  have yb : Below w.heap.size w y := by rw [ey]; with_reducible repeat (first | exact Below.refl _ _ | assumption | refine Below.al ?_ _ | refine Below.on ?_ _ | refine Below.st ?_ (by first | assumption | (simp; done) | (simp; omega)) _ | refine Below.drew ?_)
  have p0 : y.cell? ⟨w.heap.size, 0, none⟩ = some (.int .i64 uo) := by rw [ey]; simp (maxDischargeDepth := 9) [go_sem]
  have p1 : y.cell? ⟨w.heap.size, 1, none⟩ = some (.int .i64 uc) := by rw [ey]; simp (maxDischargeDepth := 9) [go_sem]
  have p2 : y.cell? ⟨w.heap.size, 2, none⟩ = some (.bool un) := by rw [ey]; simp (maxDischargeDepth := 9) [go_sem]
  have p3 : y.cell? ⟨w.heap.size, 3, none⟩ = some (.int .i64 ui) := by rw [ey]; simp (maxDischargeDepth := 9) [go_sem]
  have p4 : y.cell? ⟨w.heap.size, 4, none⟩ = some (.string us) := by rw [ey]; simp (maxDischargeDepth := 9) [go_sem]
  have p5 : y.cell? ⟨w.heap.size, 5, none⟩ = some (.slice aa n ac) := by rw [ey]; simp (maxDischargeDepth := 9) [go_sem]
  have p6 : y.cell? ⟨w.heap.size, 6, none⟩ = some (.int .i64 ua) := by rw [ey]; simp (maxDischargeDepth := 9) [go_sem]
  have p7 : y.cell? ⟨w.heap.size, 7, none⟩ = some (.int .i64 ub) := by rw [ey]; simp (maxDischargeDepth := 9) [go_sem]
  have q0 : y.cell? ⟨w.heap.size + 1, 0, none⟩ = some (.int .i64 uo) := by rw [ey]; simp (maxDischargeDepth := 9) [go_sem]
  have q1 : y.cell? ⟨w.heap.size + 1, 1, none⟩ = some (.int .i64 uc) := by rw [ey]; simp (maxDischargeDepth := 9) [go_sem]
  have q2 : y.cell? ⟨w.heap.size + 1, 2, none⟩ = some (.bool un) := by rw [ey]; simp (maxDischargeDepth := 9) [go_sem]
  have q3 : y.cell? ⟨w.heap.size + 1, 3, none⟩ = some (.int .i64 ui) := by rw [ey]; simp (maxDischargeDepth := 9) [go_sem]
  have q4 : y.cell? ⟨w.heap.size + 1, 4, none⟩ = some (.string us) := by rw [ey]; simp (maxDischargeDepth := 9) [go_sem]
  have q5 : y.cell? ⟨w.heap.size + 1, 5, none⟩ = some (.slice ba n bc) := by rw [ey]; simp (maxDischargeDepth := 9) [go_sem]
  have q6 : y.cell? ⟨w.heap.size + 1, 6, none⟩ = some (.int .i64 ua) := by rw [ey]; simp (maxDischargeDepth := 9) [go_sem]
  have q7 : y.cell? ⟨w.heap.size + 1, 7, none⟩ = some (.int .i64 ub) := by rw [ey]; simp (maxDischargeDepth := 9) [go_sem]
  have z1 : w.heap.size + 1 < y.heap.size := by rw [ey]; simp
  have z0 : w.heap.size < y.heap.size := by omega
  have EY := Lib.hid (fun (W : World) (h : Below y.heap.size y W) => EV.out W (Below.to yb h))
  clear ey EV
  go_wp2_with (go_at_call 71; refine Calls.mono (EY.out _ (Below.refl _ _)) ?_; rintro e w5 ⟨rfl, hb5⟩; obtain ⟨x5, rfl⟩ := Ext.of hb5; have z2 := x5.lt z0; have z3 := x5.lt z1)
  exact bodyPost_ret (v := .bool true) (by simp [results, Tryz.results70, go_sem, *]) rfl (⟨rfl, by with_reducible repeat (first | exact Below.refl _ _ | assumption | refine Below.al ?_ _ | refine Below.on ?_ _ | refine Below.st ?_ (by first | assumption | (simp; done) | (simp; omega)) _ | refine Below.drew ?_)⟩)
set_option maxRecDepth 8000 in
set_option maxHeartbeats 1000000 in
theorem eqv_nods (va vb : Value) (xs : List Nod) (w : World) (ha : NodsAt w w.heap.size va xs) (hb : NodsAt w w.heap.size vb xs) :
    Calls Tryz.prog 73 #[va, vb, .func (.func 70) #[] #[]] w fun e w' => e = .returned (.bool true) ∧ Below w.heap.size w w' := by
  obtain ⟨aa, ac, rfl⟩ := nods_end ha
  obtain ⟨ba, bc, rfl⟩ := nods_end hb
  obtain ⟨n, hn⟩ : ∃ n, xs.length = n := ⟨_, rfl⟩
  have n63 := ha.1
  have HA := Lib.hid ha
  have HB := Lib.hid hb
  have HN := Lib.hid hn
  rw [hn] at n63 HA HB ⊢
  clear ha hb hn
  go_enter Tryz.func73, Tryz.ntmps73
  go_wp2_with fail
  go_loopg [17] n (fun g st wr => ∃ k : Nat, k + g = n ∧ st = .int .i64 (k : Int) ∧ ∃ x : Ext w, x.it = wr)
  case atStart => exact ⟨0, by omega, rfl, ⟨w, Below.refl _ _⟩, rfl⟩
  case round =>
    obtain ⟨k, hk, rfl, x, rfl⟩ := hrel
    have hx := x.below
    by_cases hg0 : gk = 0
    · subst hg0
      obtain rfl : k = n := by omega
      have tk : ¬ (k : Int) < (k : Int) := by omega
      clear hk
      go_wp2
      exact bodyPost_ret (v := .bool true) (by simp [results, Tryz.results73, go_sem, *]) rfl (⟨rfl, by with_reducible repeat (first | exact Below.refl _ _ | assumption | refine Below.al ?_ _ | refine Below.on ?_ _ | refine Below.st ?_ (by first | assumption | (simp; done) | (simp; omega)) _ | refine Below.drew ?_)⟩)
    · have hkm : k < n := by omega
      have hkm' : (k : Int) < (n : Int) := by omega
      have hkx : k < xs.length := by rw [HN.out]; exact hkm
      obtain ⟨b1, o1, rfl, _, hb1, l1, c0, c1, c2, c3, c4, c5, c6, c7, hv1⟩ := nods_in HA.out hkx
      obtain ⟨b2, o2, rfl, _, hb2, l2, d0, d1, d2, d3, d4, d5, d6, d7, hv2⟩ := nods_in HB.out hkx
      obtain ⟨u, hu⟩ : ∃ u, xs[k]'hkx = u := ⟨_, rfl⟩
      rw [hu] at c0 c1 c2 c3 c4 c6 c7 d0 d1 d2 d3 d4 d6 d7 hv1 hv2
      obtain ⟨uo, uc, ⟨un, ui, us⟩, ls, ua, ub⟩ := u
      dsimp only at c0 c1 c2 c3 c4 c5 c6 c7 d0 d1 d2 d3 d4 d5 d6 d7 hv1 hv2
      have f0 := (hx.cell (p := ⟨b1, o1 + k * 8, none⟩) hb1).trans c0
      have f1 := (hx.cell (p := ⟨b1, o1 + k * 8 + 1, none⟩) hb1).trans c1
      have f2 := (hx.cell (p := ⟨b1, o1 + k * 8 + 2, none⟩) hb1).trans c2
      have f3 := (hx.cell (p := ⟨b1, o1 + k * 8 + 3, none⟩) hb1).trans c3
      have f4 := (hx.cell (p := ⟨b1, o1 + k * 8 + 4, none⟩) hb1).trans c4
      have f5 := (hx.cell (p := ⟨b1, o1 + k * 8 + 5, none⟩) hb1).trans c5
      have f6 := (hx.cell (p := ⟨b1, o1 + k * 8 + 6, none⟩) hb1).trans c6
      have f7 := (hx.cell (p := ⟨b1, o1 + k * 8 + 7, none⟩) hb1).trans c7
      have g0 := (hx.cell (p := ⟨b2, o2 + k * 8, none⟩) hb2).trans d0
      have g1 := (hx.cell (p := ⟨b2, o2 + k * 8 + 1, none⟩) hb2).trans d1
      have g2 := (hx.cell (p := ⟨b2, o2 + k * 8 + 2, none⟩) hb2).trans d2
      have g3 := (hx.cell (p := ⟨b2, o2 + k * 8 + 3, none⟩) hb2).trans d3
      have g4 := (hx.cell (p := ⟨b2, o2 + k * 8 + 4, none⟩) hb2).trans d4
      have g5 := (hx.cell (p := ⟨b2, o2 + k * 8 + 5, none⟩) hb2).trans d5
      have g6 := (hx.cell (p := ⟨b2, o2 + k * 8 + 6, none⟩) hb2).trans d6
      have g7 := (hx.cell (p := ⟨b2, o2 + k * 8 + 7, none⟩) hb2).trans d7
      have z1 : b1 < x.it.heap.size := Nat.lt_of_lt_of_le hb1 hx.size
      have z2 : b2 < x.it.heap.size := Nat.lt_of_lt_of_le hb2 hx.size
      have HK := Lib.hid (And.intro hk hg0)
      have NE := Lib.hid (fun (W : World) (h : Below w.heap.size w W) => node_eq uo uc un ui us ua ub l1 l2 ls W (hv1.mono h h.size) (hv2.mono h h.size))
      obtain ⟨la, lac, rfl⟩ := vals_end hv1
      obtain ⟨lb, lbc, rfl⟩ := vals_end hv2
      generalize ls.length = nl at NE f0 g0 f1 g1 f2 g2 f3 g3 f4 g4 f5 g5 f6 g6 f7 g7 ⊢
      have XB := Lib.hid hx
      clear hk hg0 hu hv1 hv2 c0 c1 c2 c3 c4 c5 c6 c7 d0 d1 d2 d3 d4 d5 d6 d7
      go_wp2_with (go_at_call 70; refine Calls.mono (NE.out _ (by with_reducible repeat (first | exact Below.refl _ _ | assumption | refine Below.al ?_ _ | refine Below.on ?_ _ | refine Below.st ?_ (by first | assumption | (simp; done) | (simp; omega)) _ | refine Below.drew ?_))) ?_; rintro e w5 ⟨rfl, hb5⟩; obtain ⟨x5, rfl⟩ := Ext.of hb5)
      go_roundg (gk - 1)
      case measure => have := HK.out; omega
      case rel => have xb := XB.out; exact ⟨k + 1, by have := HK.out; omega, by go_num, ext_of (by with_reducible repeat (first | exact Below.refl _ _ | assumption | refine Below.al ?_ _ | refine Below.on ?_ _ | refine Below.st ?_ (by first | assumption | (simp; done) | (simp; omega)) _ | refine Below.drew ?_))⟩
set_option maxRecDepth 8000 in
set_option maxHeartbeats 1000000 in
theorem nev_nods (va vb : Value) (xs ys : List Nod) (w : World) (ha : NodsAt w w.heap.size va xs) (hb : NodsAt w w.heap.size vb ys) (hl : ¬ xs.length = ys.length) :
    Calls Tryz.prog 73 #[va, vb, .func (.func 70) #[] #[]] w fun e w' => e = .returned (.bool false) ∧ Below w.heap.size w w' := by
  obtain ⟨aa, ac, rfl⟩ := nods_end ha
  obtain ⟨ba, bc, rfl⟩ := nods_end hb
  have t : ((xs.length : Int) != (ys.length : Int)) = true := by simpa using (by omega : ¬ (xs.length : Int) = (ys.length : Int))
  generalize xs.length = n at t ⊢
  generalize ys.length = m at t ⊢
  clear ha hb hl
  go_enter Tryz.func73, Tryz.ntmps73
  go_wp2
  exact bodyPost_ret (v := .bool false) (by simp [results, Tryz.results73, go_sem, *]) rfl (⟨rfl, by with_reducible repeat (first | exact Below.refl _ _ | assumption | refine Below.al ?_ _ | refine Below.on ?_ _ | refine Below.st ?_ (by first | assumption | (simp; done) | (simp; omega)) _ | refine Below.drew ?_)⟩)
end Go.Proofs.YtpahoenanfjhpaaGreat
