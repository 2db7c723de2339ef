/-
  BATCHEXAMPLES: the walk. Conditions: none.
-/
import Derived.Test.YtkblkjfejaflkaaSpw
import Derived.Test.YtkblkjfejaflkaaOps
import Derived.Test.YtkblkjfejaflkaaAwk
set_option linter.unusedVariables false
set_option linter.unusedSimpArgs false
namespace Go.Proofs.Ytkblkjfejaflkaa
open Go.RowKit Go.ChangeShapes Go.WideShapes Go.ChangeAt
theorem PMem.at {B0 : Nat} {W : World} {v : Value} {lvs : List Value} {ps : List (List Rc)} (h : PMem B0 W v lvs ps) : (v = .slice none 0 0 ∧ lvs = [] ∧ ps = []) ∨ ∃ g cap, v = .slice (some ⟨g, 0, none⟩) ps.length cap ∧ ps.length ≤ cap ∧ B0 ≤ g ∧ g < W.heap.size ∧
    ∀ j (hj : j < ps.length), ∃ a c, W.cell? ⟨g, j, none⟩ = some (.slice a (ps[j]'hj).length c) ∧ PartIn B0 W (some g) (.slice a (ps[j]'hj).length c) (ps[j]'hj) := by
  have ho := h.own
  rw [show lvs = lvs.flatMap (fun v => [v]) by simp] at ho
  have hl : (lvs.flatMap fun v => [v]).length = lvs.length := by simp
  rw [hl] at ho
  rcases own_at (f := fun v : Value => [v]) (k := 1) (fun _ => rfl) ho with ⟨rfl, rfl⟩ | ⟨g, cap, rfl, hcap, hg0, hg, H⟩
  · exact .inl ⟨rfl, rfl, List.eq_nil_of_length_eq_zero h.len.symm⟩
  · refine .inr ⟨g, cap, by rw [h.len], by rw [← h.len]; exact hcap, hg0, hg, fun j hj => ?_⟩
    have hj' : j < lvs.length := by rw [h.len]; exact hj
    have hi := h.inn j hj' hj
    have hc := H j hj' 0 _ (by omega) rfl
    obtain ⟨qs, q1, q2, q3, q4⟩ := hi
    obtain ⟨a, c, e⟩ := own_sl q1
    rw [q2.1] at e
    refine ⟨a, c, by rw [← e]; simpa using hc, qs, by rw [← e]; exact q1, ⟨q2.1, fun i h1 h2 => by rw [← e]; exact q2.2 i h1 h2⟩, fun k hk => ?_, q4⟩
    exact q3 k (by rw [e]; exact hk)
def zRc : Rc := ⟨0, []⟩
theorem parts_ex {ps : List (List Rc)} (h : PartsOf [zRc, zRc, zRc, zRc, zRc] 2 ps) : ps = [[zRc, zRc], [zRc, zRc], [zRc]] := by
  obtain ⟨k, rfl, h1, h2⟩ := h
  simp at h1
  obtain rfl : k = 3 := by
    by_cases q : k ≤ 3
    · omega
    · have := h2 3 (by omega)
      simp at this
  rfl
set_option maxRecDepth 8000 in
set_option maxHeartbeats 1000000 in
theorem bex_walk (w : World) : Calls Try.prog 3 #[] w fun e w' => e = .returned (.bool true) ∧ Below w.heap.size w w' := by
  obtain ⟨i0, hi, hz0, hz1, hz2⟩ := info_parts infoRec
  have hmk := fun w => run_make (P := Try.prog) w 24 31 i0 _ Try.underlying24 hi hz0 .i64 .i64 5 5 (by omega) (Int.le_refl _) (by rw [hz2]; omega) (by omega)
  have hMC : madeCells (Value.agg #[.int .i64 0, .slice none 0 0]).cells ((5 : Int).toNat * i0.size) = #[.int .i64 0, .slice none 0 0, .int .i64 0, .slice none 0 0, .int .i64 0, .slice none 0 0, .int .i64 0, .slice none 0 0, .int .i64 0, .slice none 0 0] := by rw [hz1]; exact Array.toList_inj.1 (by simp [madeCells, Value.cells, List.range, List.range.loop])
  rw [hMC] at hmk
  have RA : Hid (∀ w : World, RecsAt (w.alloc (.cells #[.int .i64 0, .slice none 0 0, .int .i64 0, .slice none 0 0, .int .i64 0, .slice none 0 0, .int .i64 0, .slice none 0 0, .int .i64 0, .slice none 0 0] 31)) (w.alloc (.cells #[.int .i64 0, .slice none 0 0, .int .i64 0, .slice none 0 0, .int .i64 0, .slice none 0 0, .int .i64 0, .slice none 0 0, .int .i64 0, .slice none 0 0] 31)).heap.size (.slice (some ⟨w.heap.size, 0, none⟩) 5 5) [zRc, zRc, zRc, zRc, zRc]) := Lib.hid fun w =>
    ⟨by simp, .inr ⟨w.heap.size, 0, 5, rfl, by simp, by simp, fun j hj => by
      have e : j = 0 ∨ j = 1 ∨ j = 2 ∨ j = 3 ∨ j = 4 := by simp at hj; omega
      rcases e with rfl | rfl | rfl | rfl | rfl <;> exact ⟨by simp [go_sem, zRc], .slice none 0 0, by simp [go_sem], by simp [zRc], .inl ⟨rfl, none, 0, rfl⟩⟩⟩⟩
  clear hz0 hz1 hz2 hMC
  go_enter Try.func3, Try.ntmps3
  go_upto_region 2 with (go_at_call 12; refine Calls.mono (split_any _ [zRc, zRc, zRc, zRc, zRc] 2 _ (RA.out _) (by simp) (by simp [zRc]) (by omega) (by omega)) ?_; rintro e w2 ⟨v2, lvs, ps, rfl, hp, hM, hb2⟩; obtain rfl := parts_ex hp; have HB := Lib.hid hb2; rcases hM.at with ⟨_, _, q⟩ | ⟨g, cap, rfl, hcap, _, hg, hj⟩; exact absurd q (by simp); obtain ⟨a0, c0, k0, _⟩ := hj 0 (by simp); obtain ⟨a1, c1, k1, _⟩ := hj 1 (by simp); obtain ⟨a2, c2, k2, _⟩ := hj 2 (by simp); simp at k0 k1 k2; clear hj hM hp hb2 hcap)
  have B0 : Below w.heap.size w w2 := Below.to ((Below.refl _ w).alloc (Nat.le_refl _) _) HB.out
  clear hmk RA HB
  go_wp2
  exact bodyPost_ret (v := .bool true) (by simp [results, Try.results3, go_sem, *]) rfl (⟨rfl, B0⟩)
end Go.Proofs.Ytkblkjfejaflkaa
