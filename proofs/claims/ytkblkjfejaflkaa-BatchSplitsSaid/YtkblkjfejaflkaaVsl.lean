/-
  CHAPTER 25: keep.Same of values and keep.SameLists of equal lists; vector.Select. Conditions: each theorem states its own.
-/
import Derived.Test.YtkblkjfejaflkaaKrs
set_option linter.unusedVariables false
set_option linter.unusedSimpArgs false
namespace Go.Proofs.Ytkblkjfejaflkaa
open Go.RowKit
set_option maxRecDepth 8000 in
set_option maxHeartbeats 1000000 in
theorem same_vals (va vb : Value) (xs : List Val) (w : World) (ha : ValsAt w w.heap.size va xs) (hb : ValsAt w w.heap.size vb xs) :
    Calls Try.prog 52 #[va, vb] w fun e w' => e = .returned (.bool true) ∧ Below w.heap.size w w' := by
  obtain ⟨aa, ac, rfl⟩ := vals_end ha
  obtain ⟨ba, bc, rfl⟩ := vals_end hb
  obtain ⟨n, hn⟩ : ∃ n, xs.length = n := ⟨_, rfl⟩
  have n63 := ha.1
  have HA := Lib.hid ha
  have HB := Lib.hid hb
  have HN := Lib.hid hn
  rw [hn] at n63 HA HB ⊢
  clear ha hb hn
  go_enter Try.func52, Try.ntmps52
  go_wp2_with fail
  go_loopg [13] n (fun g st wr => ∃ k : Nat, k + g = n ∧ st = .int .i64 (k : Int) ∧ ∃ x : Ext w, x.it = wr)
  case atStart => exact ⟨0, by omega, rfl, ⟨w, Below.refl _ _⟩, rfl⟩
  case round =>
    obtain ⟨k, hk, rfl, x, rfl⟩ := hrel
    have hx := x.below
    by_cases hg0 : gk = 0
    · subst hg0
      obtain rfl : k = n := by omega
      clear hk
      go_wp2
      exact bodyPost_ret (v := .bool true) (by simp [results, Try.results52, go_sem, *]) rfl (⟨rfl, by repeat (first | with_reducible exact Below.refl _ _ | with_reducible assumption | with_reducible refine Below.al ?_ _ | with_reducible refine Below.on ?_ _ | with_reducible refine Below.st ?_ (by first | assumption | (simp; done) | (simp; omega)) _ | with_reducible refine Below.drew ?_)⟩)
    · have hkm : k < n := by omega
      have hkm' : (k : Int) < (n : Int) := by omega
      have hkx : k < xs.length := by rw [HN.out]; exact hkm
      obtain ⟨b1, o1, rfl, _, hb1, c0, c1, c2⟩ := vals_in HA.out hkx
      obtain ⟨b2, o2, rfl, _, hb2, d0, d1, d2⟩ := vals_in HB.out hkx
      obtain ⟨u, hu⟩ : ∃ u, xs[k]'hkx = u := ⟨_, rfl⟩
      rw [hu] at c0 c1 c2 d0 d1 d2
      obtain ⟨un, ui, us⟩ := u
      dsimp only at c0 c1 c2 d0 d1 d2
      have f0 := (hx.cell (p := ⟨b1, o1 + k * 3, none⟩) hb1).trans c0
      have f1 := (hx.cell (p := ⟨b1, o1 + k * 3 + 1, none⟩) hb1).trans c1
      have f2 := (hx.cell (p := ⟨b1, o1 + k * 3 + 2, none⟩) hb1).trans c2
      have g0 := (hx.cell (p := ⟨b2, o2 + k * 3, none⟩) hb2).trans d0
      have g1 := (hx.cell (p := ⟨b2, o2 + k * 3 + 1, none⟩) hb2).trans d1
      have g2 := (hx.cell (p := ⟨b2, o2 + k * 3 + 2, none⟩) hb2).trans d2
      have z1 : b1 < x.it.heap.size := Nat.lt_of_lt_of_le hb1 hx.size
      have z2 : b2 < x.it.heap.size := Nat.lt_of_lt_of_le hb2 hx.size
      have HK := Lib.hid (And.intro hk hg0)
      clear hk hg0 hu c0 c1 c2 d0 d1 d2
      go_upto_region 6 with fail
      refine wp_region_ext (by kernel_rfl) (by kernel_rfl) ?_
      repeat (go_big_quiet_step ((fail)))
      refine wpQuiet_nil ?_
      rintro _ ⟨x5, rfl⟩
      go_wp2
      go_roundg (gk - 1)
      case measure => have := HK.out; omega
      case rel => exact ⟨k + 1, by have := HK.out; omega, by go_num, ⟨x5.it, Below.on hx x5⟩, rfl⟩
set_option maxRecDepth 8000 in
set_option maxHeartbeats 1000000 in
theorem same_lists (va vb : Value) (xs : List (List Val)) (w : World) (ha : RowsAt w w.heap.size va xs) (hb : RowsAt w w.heap.size vb xs) :
    Calls Try.prog 34 #[va, vb] w fun e w' => e = .returned (.bool true) ∧ Below w.heap.size w w' := by
  obtain ⟨aa, ac, rfl⟩ := rows_end ha
  obtain ⟨ba, bc, rfl⟩ := rows_end hb
  obtain ⟨n, hn⟩ : ∃ n, xs.length = n := ⟨_, rfl⟩
  have n63 := ha.1
  have HA := Lib.hid ha
  have HB := Lib.hid hb
  have HN := Lib.hid hn
  rw [hn] at n63 HA HB ⊢
  clear ha hb hn
  go_enter Try.func34, Try.ntmps34
  go_wp2_with fail
  go_loopg [13] n (fun g st wr => ∃ k : Nat, k + g = n ∧ st = .int .i64 (k : Int) ∧ ∃ x : Ext w, x.it = wr)
  case atStart => exact ⟨0, by omega, rfl, ⟨w, Below.refl _ _⟩, rfl⟩
  case round =>
    obtain ⟨k, hk, rfl, x, rfl⟩ := hrel
    have hx := x.below
    by_cases hg0 : gk = 0
    · subst hg0
      obtain rfl : k = n := by omega
      clear hk
      go_wp2
      exact bodyPost_ret (v := .bool true) (by simp [results, Try.results34, go_sem, *]) rfl (⟨rfl, by repeat (first | with_reducible exact Below.refl _ _ | with_reducible assumption | with_reducible refine Below.al ?_ _ | with_reducible refine Below.on ?_ _ | with_reducible refine Below.st ?_ (by first | assumption | (simp; done) | (simp; omega)) _ | with_reducible refine Below.drew ?_)⟩)
    · have hkm : k < n := by omega
      have hkm' : (k : Int) < (n : Int) := by omega
      have hkx : k < xs.length := by rw [HN.out]; exact hkm
      obtain ⟨b1, o1, rfl, _, hb1, l1, e1, h1⟩ := rows_in HA.out hkx
      obtain ⟨b2, o2, rfl, _, hb2, l2, e2, h2⟩ := rows_in HB.out hkx
      have f0 := (hx.cell (p := ⟨b1, o1 + k, none⟩) hb1).trans e1
      have g0 := (hx.cell (p := ⟨b2, o2 + k, none⟩) hb2).trans e2
      have z1 : b1 < x.it.heap.size := Nat.lt_of_lt_of_le hb1 hx.size
      have z2 : b2 < x.it.heap.size := Nat.lt_of_lt_of_le hb2 hx.size
      obtain ⟨l1a, l1c, rfl⟩ := vals_end h1
      obtain ⟨l2a, l2c, rfl⟩ := vals_end h2
      have SE := Lib.hid (fun W (hW : Below w.heap.size w W) => same_vals _ _ _ W (h1.mono hW hW.size) (h2.mono hW hW.size))
      have HK := Lib.hid (And.intro hk hg0)
      clear hk hg0 e1 e2 h1 h2
      go_upto_region 6 with fail
      refine wp_region_ext (by kernel_rfl) (by kernel_rfl) ?_
      repeat (go_big_quiet_step (((go_at_call 52; exact Calls.ext (SE.out _ (by repeat (first | with_reducible exact Below.refl _ _ | with_reducible assumption | with_reducible refine Below.al ?_ _ | with_reducible refine Below.on ?_ _ | with_reducible refine Below.st ?_ (by first | assumption | (simp; done) | (simp; omega)) _ | with_reducible refine Below.drew ?_)))))))
      refine wpQuiet_nil ?_
      rintro _ ⟨x5, rfl⟩
      go_wp2
      go_roundg (gk - 1)
      case measure => have := HK.out; omega
      case rel => exact ⟨k + 1, by have := HK.out; omega, by go_num, ⟨x5.it, Below.on hx x5⟩, rfl⟩
end Go.Proofs.Ytkblkjfejaflkaa
