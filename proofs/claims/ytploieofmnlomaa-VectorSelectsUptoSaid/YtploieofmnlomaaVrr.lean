/-
  CHAPTER 25'S REFERENCE: the row of a place. Conditions: the columns lie in memory; at most 12; each is long enough.
-/
import Derived.Test.YtploieofmnlomaaVfe
set_option linter.unusedVariables false
set_option linter.unusedSimpArgs false
namespace Go.Proofs.Ytploieofmnlomaa
open Go.RowKit
set_option maxRecDepth 8000 in
set_option maxHeartbeats 1000000 in
theorem refRow_any (cv : Value) (cols : List (List Val)) (I : Nat) (w : World) (hc : RowsAt w w.heap.size cv cols) (h12 : cols.length ≤ 12) (hl : ∀ j (h : j < cols.length), I < (cols[j]'h).length) :
    Calls Try.prog 39 #[cv, .int .i64 (I : Int)] w fun e w' => ∃ v, e = .returned v ∧ ValsAt w' w'.heap.size v (rowOf cols I) ∧ Below w.heap.size w w' := by
  obtain ⟨i0, hi, hz0, hz1, hz2⟩ := info_parts infoVal
  obtain ⟨ca, cc, rfl⟩ := rows_end hc
  obtain ⟨nc, hL⟩ : ∃ nc, cols.length = nc := ⟨_, rfl⟩
  have HC := Lib.hid hc
  have HL := Lib.hid hL
  have HI := Lib.hid hl
  rw [hL] at h12 HC ⊢
  clear hc hL hl
  go_enter Try.func39, Try.ntmps39
  go_wp2_with fail
  go_loopg [5, 10] nc (fun g v st wr => ∃ (j : Nat), j + g = nc ∧ st = .int .i64 (j : Int) ∧ ∃ z : Ext w, z.it = wr ∧ wr.ownsRow w.heap.size 32 3 v j ((rowOf (cols.take j) I).flatMap valC))
  case atStart => exact ⟨0, by omega, rfl, ⟨w, Below.refl _ _⟩, rfl, World.ownsRow_nil _ _ _ _⟩
  case round =>
    obtain ⟨j, hjg, rfl, z, rfl, hown⟩ := hrel
    have OW := Lib.hid hown
    by_cases hgi : gk = 0
    · subst hgi
      obtain rfl : j = nc := by omega
      have TK : cols.take j = cols := List.take_of_length_le (by rw [HL.out]; exact Nat.le_refl _)
      rw [TK] at hown
      have cl : (rowOf cols I).length = j := by unfold rowOf; rw [List.length_map]; exact HL.out
      have VV : Hid (ValsAt z.it z.it.heap.size u5 (rowOf cols I)) := Lib.hid (own_vals (by omega) (by rw [cl]; exact hown))
      have zb := z.below
      clear hown TK hjg OW
      go_wp2
      refine bodyPost_ret (v := u5) ?_ rfl ⟨u5, rfl, VV.out, zb⟩
      simp (maxDischargeDepth := 9) [results, Try.results39, go_sem, *]
    · have hjm : j < nc := by omega
      have hjm' : (j : Int) < (nc : Int) := by omega
      have hjl : j < cols.length := by rw [HL.out]; exact hjm
      have yx : Below w.heap.size w z.it := z.below
      obtain ⟨rb, ro, rfl, _, hrb, lv, e0, hlr⟩ := rows_in HC.out hjl
      obtain ⟨la, lc, rfl⟩ := vals_end hlr
      have CT := Lib.hid (rowOf_take (I := I) hjl)
      have hIc : I < (cols[j]'hjl).length := HI.out j hjl
      obtain ⟨vb, vo, rfl, _, hvb, d0, d1, d2⟩ := vals_in hlr hIc
      have GD : (cols[j]'hjl).getD I Val.zero = (cols[j]'hjl)[I]'hIc := getDv_in hIc
      obtain ⟨u, hu⟩ : ∃ u, (cols[j]'hjl)[I]'hIc = u := ⟨_, rfl⟩
      rw [hu] at d0 d1 d2 GD
      rw [GD] at CT
      obtain ⟨L, hL⟩ : ∃ L, (cols[j]'hjl).length = L := ⟨_, rfl⟩
      rw [hL] at e0 hIc
      have hIc' : (I : Int) < (L : Int) := by omega
      obtain ⟨un, ui, us⟩ := u
      dsimp only at d0 d1 d2
      have g0 := (yx.cell (p := ⟨rb, ro + j, none⟩) hrb).trans e0
      have g1 := (yx.cell (p := ⟨vb, vo + I * 3, none⟩) hvb).trans d0
      have g2 := (yx.cell (p := ⟨vb, vo + I * 3 + 1, none⟩) hvb).trans d1
      have g3 := (yx.cell (p := ⟨vb, vo + I * 3 + 2, none⟩) hvb).trans d2
      have zr : rb < z.it.heap.size := Nat.lt_of_lt_of_le hrb yx.size
      have zv : vb < z.it.heap.size := Nat.lt_of_lt_of_le hvb yx.size
      have HJ := Lib.hid (And.intro hjg hgi)
      have zx := z.below.size
      clear d0 d1 d2 e0 hlr hu GD hjg hgi hown hL
      obtain ⟨vs, hvs⟩ : ∃ vs, rowOf (cols.take j) I = vs := ⟨_, rfl⟩
      rw [hvs] at OW CT
      have ZB := Lib.hid z.below
      go_wp2_with (at_builtin; go_must (refine wpList_append_lies _ rfl _ _ 39 rfl w.heap.size 32 i0 _ 3 32 Try.underlying39 hi hz0 hz1 hz2 rfl (by decide) u5 j (vs.flatMap valC) rfl (OW.out.alloc _) ⟨z.it.heap.size, 0, none⟩ 1 1 (valC ⟨un, ui, us⟩) rfl rfl (World.news_of_block (heap_alloc_new z.it _)) (by simp [valC, Value.oneCell']) (by omega) (by unfold maxLen; omega) (by omega) (by simp; omega) (z.it.heap.size + 1) (by simp) ?_); intro gb cap w4 hown hgrow hat hlt4; go_must (have MS := Lib.hid (And.intro hown (show Below w.heap.size w w4 from Below.gr (Below.al ZB.out _) OW.out hgrow))); clear hown hgrow hat hlt4)
      go_roundg (gk - 1)
      case measure => have := HJ.out; omega
      case rel => exact ⟨j + 1, by have := HJ.out; omega, by go_num, ⟨_, MS.out.2⟩, rfl, by rw [CT.out, List.flatMap_append]; exact MS.out.1⟩
end Go.Proofs.Ytploieofmnlomaa
