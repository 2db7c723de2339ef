/-
  CHAPTER 15: awake. Conditions: none.
-/
import Derived.Test.YtkblkjfejaflkaaSrt
import Derived.Test.YtkblkjfejaflkaaOps
set_option linter.unusedVariables false
set_option linter.unusedSimpArgs false
namespace Go.Proofs.Ytkblkjfejaflkaa
open Go.RowKit Srt
def aCol : Col := ⟨⟨#[97]⟩, 1, 0, false⟩
def aRecs : List Rc := [⟨1, [⟨false, 5, ⟨#[]⟩⟩]⟩, ⟨2, [⟨false, 3, ⟨#[]⟩⟩]⟩]
def aOut : List Rc := [⟨2, [⟨false, 3, ⟨#[]⟩⟩]⟩, ⟨1, [⟨false, 5, ⟨#[]⟩⟩]⟩]
theorem a_tl0 : (⟨#[]⟩ : ByteArray).toList = [] := by rw [ByteArray.toList_eq]
theorem a_tl : (⟨#[97]⟩ : ByteArray).toList = [97] := by rw [ByteArray.toList_eq]
theorem a_name : nameF [97] = true := by decide
theorem a_schema : schemaF [aCol] 0 = 0 := by
  simp [schemaF, colsE, colE, aCol, a_tl, a_name]
theorem a_valid : validF [aCol] 0 aRecs = true := by
  unfold validF; rw [a_schema]
  simp [aRecs, badR, rowE, rowEs, aCol, vchk, permF, a_tl0]
theorem a_valid2 : validF [aCol] 0 aOut = true := by
  unfold validF; rw [a_schema]
  simp [aOut, badR, rowE, rowEs, aCol, vchk, permF, a_tl0]
theorem a_sort : sortF [aCol] 0 aRecs = aOut := by
  unfold sortF; rw [if_pos a_valid]
  simp [aRecs, aOut, srt, srtR, insR, recD, rankF, cmpR, cmpV, cmpI, orF, tyK, aCol]
theorem a_sorted : sortedF [aCol] 0 aOut = true := by
  unfold sortedF; rw [a_valid2]
  simp [aOut, ascF, recD, rankF, cmpR, cmpV, cmpI, orF, tyK, aCol]
def oneV (g : Nat) : Value := .agg #[.slice (some ⟨g, 0, none⟩) 1 1, .int .i64 0]
def OnePost (w : World) (e : Ending) (w' : World) : Prop := ∃ g, e = .returned (.agg #[.slice (some ⟨g, 0, none⟩) 1 1, .int .i64 0]) ∧ ColsAt w' w'.heap.size (.slice (some ⟨g, 0, none⟩) 1 1) [aCol] ∧ Below w.heap.size w w'
set_option maxRecDepth 8000 in
theorem one_any (w : World) : Calls Try.prog 46 #[] w (OnePost w) := by
  go_enter Try.func46, Try.ntmps46
  go_wp2
  refine bodyPost_ret (v := .agg #[.slice (some ⟨w.heap.size + 1, 0, none⟩) 1 1, .int .i64 0]) (by simp [results, Try.results46, go_sem, *]) rfl ⟨_, rfl, ⟨by simp, .inr ⟨_, 0, 1, rfl, by simp, by simp, fun j hj => ?_⟩⟩, by repeat (first | with_reducible exact Below.refl _ _ | with_reducible assumption | with_reducible refine Below.al ?_ _ | with_reducible refine Below.on ?_ _ | with_reducible refine Below.st ?_ (by first | assumption | (simp; done) | (simp; omega)) _ | with_reducible refine Below.drew ?_)⟩
  obtain rfl : j = 0 := by (simp at hj; omega)
  exact ⟨by simp [go_sem, aCol], by simp [go_sem, aCol], by simp [go_sem, aCol], by simp [go_sem, aCol]⟩
set_option maxRecDepth 8000 in
set_option maxHeartbeats 1000000 in
theorem awake15 (w : World) : Calls Try.prog 20 #[] w fun e w' => e = .returned (.bool true) ∧ Below w.heap.size w w' := by
  go_enter Try.func20, Try.ntmps20
  go_upto_region 2 with (first | (go_at_call 46; refine Calls.mono (one_any _) ?_; rintro e w1 ⟨g1, rfl, hc1, hb1⟩; have HC1 := Lib.hid hc1; clear hc1; obtain ⟨x1, rfl⟩ := Ext.of hb1) | (go_at_call 24; refine Calls.mono (bsort_any _ [aCol] 0 _ aRecs _ (HC1.out.mono (by repeat (first | with_reducible exact Below.refl _ _ | with_reducible assumption | with_reducible refine Below.al ?_ _ | with_reducible refine Below.on ?_ _ | with_reducible refine Below.st ?_ (by first | assumption | (simp; done) | (simp; omega)) _ | with_reducible refine Below.drew ?_)) (by simp; omega)) ?hr (by simp [aRecs]) (stable_small (by simp [aRecs]))) ?_; rotate_left; rintro e w2 ⟨v2, ps2, rfl, M2, hb2⟩; rw [a_sort] at M2; have R2 := M2.recs (by simp [aOut]); obtain ⟨a2, c2, ev2⟩ := recs_end R2; rw [show aOut.length = 2 from rfl] at ev2; subst ev2; obtain ⟨b2, o2, ea2, _, hlt2, k0, _, _, _⟩ := recs_in R2 (i := 0) (by simp [aOut]); obtain ⟨b3, o3, ea3, _, _, k1, _, _, _⟩ := recs_in R2 (i := 1) (by simp [aOut]); subst ea2; injection ea3 with e1; injection e1 with e1 e2; subst e1 e2; have K0 : w2.cell? ⟨b2, o2, none⟩ = some (.int .i64 2) := (by simpa [aOut] using k0); have K1 : w2.cell? ⟨b2, o2 + 2, none⟩ = some (.int .i64 1) := (by simpa [aOut] using k1); have HR2 := Lib.hid R2; clear R2 M2 k0 k1; obtain ⟨x2, rfl⟩ := Ext.of hb2))
  case hr => exact ⟨by simp [aRecs], .inr ⟨x1.it.heap.size + 1 + 1, 0, 2, rfl, by simp [aRecs], by simp, fun j hj => by (rcases j with _ | _ | j); exact ⟨by simp [go_sem, aRecs], .slice (some ⟨x1.it.heap.size, 0, none⟩) 1 1, by simp [go_sem], by simp [aRecs], .inr ⟨x1.it.heap.size, 0, 1, rfl, by simp [aRecs], by (simp <;> omega), fun j hj => by (obtain rfl : j = 0 := by (simp [aRecs] at hj; omega)); exact ⟨by simp [go_sem, aRecs], by simp [go_sem, aRecs], by simp [go_sem, aRecs]⟩⟩⟩; exact ⟨by simp [go_sem, aRecs], .slice (some ⟨x1.it.heap.size + 1, 0, none⟩) 1 1, by simp [go_sem], by simp [aRecs], .inr ⟨x1.it.heap.size + 1, 0, 1, rfl, by simp [aRecs], by (simp <;> omega), fun j hj => by (obtain rfl : j = 0 := by (simp [aRecs] at hj; omega)); exact ⟨by simp [go_sem, aRecs], by simp [go_sem, aRecs], by simp [go_sem, aRecs]⟩⟩⟩; (simp [aRecs] at hj; omega)⟩⟩
  go_wp2_with (first | (go_at_call 46; refine Calls.mono (one_any _) ?_; rintro e w3 ⟨g3, rfl, hc3, hb3⟩; have HC3 := Lib.hid hc3; have HR3 := Lib.hid (HR2.out.mono hb3 hb3.size); clear hc3; obtain ⟨x3, rfl⟩ := Ext.of hb3) | (go_at_call 21; refine Calls.mono (sorted_any _ [aCol] 0 _ aOut _ HC3.out HR3.out) ?_; rw [a_sorted]; rintro e w4 ⟨rfl, hb4⟩; obtain ⟨x4, rfl⟩ := Ext.of hb4))
  exact bodyPost_ret (v := .bool true) (by simp [results, Try.results20, go_sem, *]) rfl (⟨rfl, by repeat (first | with_reducible exact Below.refl _ _ | with_reducible assumption | with_reducible refine Below.al ?_ _ | with_reducible refine Below.on ?_ _ | with_reducible refine Below.st ?_ (by first | assumption | (simp; done) | (simp; omega)) _ | with_reducible refine Below.drew ?_)⟩)
end Go.Proofs.Ytkblkjfejaflkaa
