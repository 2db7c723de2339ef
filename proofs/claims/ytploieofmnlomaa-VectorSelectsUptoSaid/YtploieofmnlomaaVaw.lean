/-
  CHAPTER 25: awake. Conditions: none.
-/
import Derived.Test.YtploieofmnlomaaVea
set_option linter.unusedVariables false
set_option linter.unusedSimpArgs false
namespace Go.Proofs.Ytploieofmnlomaa
open Go.RowKit
def aCol : Col := ⟨⟨#[97]⟩, 1, 0, false⟩
def aNod : Nod := ⟨3, 0, ⟨false, 2, ⟨#[]⟩⟩, [], 0, 0⟩
def aCols : List (List Val) := [[⟨false, 1, ⟨#[]⟩⟩, ⟨false, 2, ⟨#[]⟩⟩]]
theorem a_tl0 : (⟨#[]⟩ : ByteArray).toList = [] := by rw [ByteArray.toList_eq]
theorem a_tl : (⟨#[97]⟩ : ByteArray).toList = [97] := by rw [ByteArray.toList_eq]
theorem a_name : nameF [97] = true := by decide
theorem a_schema : schemaF [aCol] 0 = 0 := by
  simp [schemaF, colsE, colE, aCol, a_tl, a_name]
theorem a_pred : predF [aCol] 0 [aNod] = 0 := by
  unfold predF
  rw [if_pos a_schema]
  simp [nodsE, nodE, aNod, aCol, vchk, permF, a_tl0]
theorem a_err : colsErr [aCol] aCols = 0 := by
  simp [colsErr, aCols, lenOff, valsErr, listErr, aCol, vchk, permF, a_tl0]
theorem a_filt : filtF [aCol] [aNod] aCols = [1, 0] := by
  simp [filtF, aCols, List.range_succ, rowOf, evalF, accT, stepT, leafT, colTy, holdsB, b2t, aNod, aCol, a_tl0, cmpV, cmpI]
set_option maxRecDepth 8000 in
set_option maxHeartbeats 1000000 in
theorem awake25 (w : World) : Calls Try.prog 17 #[] w fun e w' => e = .returned (.bool true) ∧ Below w.heap.size w w' := by
  go_enter Try.func17, Try.ntmps17
  go_upto_region 2 with fail
  go_upto_region 3 with fail
  refine Calls.mono (vfilter_ok _ [aCol] 0 _ [aNod] _ aCols _ ?hc ?hn ?hr a_pred a_err (by simp)) ?hk
  case hc => exact ⟨by simp, .inr ⟨_, 0, 1, rfl, by simp, by simp; omega, fun j hj => by (obtain rfl : j = 0 := by (simp at hj; omega)); exact ⟨by simp [go_sem, aCol], by simp [go_sem, aCol], by simp [go_sem, aCol], by simp [go_sem, aCol]⟩⟩⟩
  case hn => exact ⟨by simp, .inr ⟨_, 0, 1, rfl, by simp, by (simp <;> omega), fun j hj => by (obtain rfl : j = 0 := by (simp at hj; omega)); exact ⟨.slice none 0 0, by simp [go_sem, aNod], by simp [go_sem, aNod], by simp [go_sem, aNod], by simp [go_sem, aNod], by simp [go_sem, aNod], by simp [go_sem, aNod], by simp [go_sem, aNod], by simp [go_sem, aNod], by simp [aNod], .inl ⟨rfl, none, 0, rfl⟩⟩⟩⟩
  case hr => exact ⟨by simp [aCols], .inr ⟨w.heap.size + 1 + 1 + 1 + 1, 0, 1, rfl, by simp [aCols], by simp, fun j hj => by (obtain rfl : j = 0 := by (simp [aCols] at hj; omega)); exact ⟨.slice (some ⟨w.heap.size + 1 + 1 + 1, 0, none⟩) 2 2, by simp [go_sem], by simp [aCols], .inr ⟨w.heap.size + 1 + 1 + 1, 0, 2, rfl, by simp [aCols], by (simp <;> omega), fun j hj => by (rcases j with _ | _ | j); exact ⟨by simp [go_sem, aCols], by simp [go_sem, aCols], by simp [go_sem, aCols]⟩; exact ⟨by simp [go_sem, aCols], by simp [go_sem, aCols], by simp [go_sem, aCols]⟩; (simp [aCols] at hj; omega)⟩⟩⟩⟩
  case hk =>
  rw [a_filt]
  rintro e w1 ⟨tv, rfl, ht1, hb1⟩
  obtain ⟨x1, rfl⟩ := Ext.of hb1
  have HT := Lib.hid ht1
  clear ht1
  go_wp2_with (go_at_call 9; refine Calls.mono (same_any _ _ [1, 0] [1, 0] _ ((HT.out.to fun k hk => Below.heap_alloc _ _ _ hk).mono (by simp)) ⟨by simp [isI], by simp, .inr ⟨x1.it.heap.size, 0, 2, rfl, by simp, fun j hj => by (rcases j with _ | _ | j; simp [go_sem]; simp [go_sem]; (simp at hj; omega))⟩⟩) ?_; rintro e w2 ⟨rfl, hb2⟩; obtain ⟨x2, rfl⟩ := Ext.of hb2)
  exact bodyPost_ret (v := .bool true) (by simp [results, Try.results17, go_sem, *]) rfl (⟨rfl, by repeat (first | with_reducible exact Below.refl _ _ | with_reducible assumption | with_reducible refine Below.al ?_ _ | with_reducible refine Below.on ?_ _ | with_reducible refine Below.st ?_ (by first | assumption | (simp; done) | (simp; omega)) _ | with_reducible refine Below.drew ?_)⟩)
end Go.Proofs.Ytploieofmnlomaa
