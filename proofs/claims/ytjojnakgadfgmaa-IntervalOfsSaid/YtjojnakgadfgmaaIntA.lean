/-
  INTERVAL: awake. Conditions: none.
-/
import Derived.Test.YtjojnakgadfgmaaInt2
set_option linter.unusedVariables false
set_option linter.unusedSimpArgs false
namespace Go.Proofs.Ytjojnakgadfgmaa
open Go.RowKit
theorem isZ_e : isZ ⟨false, 0, ⟨#[]⟩⟩ = true := by
  have : (⟨#[]⟩ : ByteArray).toList = [] := by rw [ByteArray.toList_eq]
  simp [isZ, this]
set_option maxHeartbeats 2000000 in
theorem awake_any (w : World) : Calls Try.prog 15 #[] w fun e w' => e = .returned (.bool true) ∧ Below w.heap.size w w' := by
  have e1 : checkF 1 ⟨false, true, true, false, ⟨false, 3, ⟨#[]⟩⟩, ⟨false, 0, ⟨#[]⟩⟩⟩ = true := by simp [checkF, endF, isZ_e]
  have e2 : touchF 1 ⟨false, true, true, false, ⟨false, 3, ⟨#[]⟩⟩, ⟨false, 0, ⟨#[]⟩⟩⟩ ⟨false, 3, ⟨#[]⟩⟩ ⟨false, 3, ⟨#[]⟩⟩ = true := by simp [touchF, checkF, endF, isZ_e, cmpV, cmpI]
  have e3 : touchF 1 ⟨false, true, true, false, ⟨false, 3, ⟨#[]⟩⟩, ⟨false, 0, ⟨#[]⟩⟩⟩ ⟨false, 2, ⟨#[]⟩⟩ ⟨false, 2, ⟨#[]⟩⟩ = false := by simp [touchF, checkF, endF, isZ_e, cmpV, cmpI]
  go_enter Try.func15, Try.ntmps15
  go_wp2_with (first | (go_at_call 16; refine (check_any _ _ _ _ _ _ _ _ _ _ _ _).mono ?_; rintro e w1 ⟨rfl, hb1⟩; obtain ⟨x1, rfl⟩ := Ext.of hb1; have z : w.heap.size < x1.it.heap.size := x1.lt (by (first | assumption | (simp; done) | (simp; omega)))) | (go_at_call 18; refine (has_any _ _ _ _ _ _ _ _ _ _ _ _ _ _ _).mono ?_; rintro e w1 ⟨rfl, hb1⟩; obtain ⟨x1, rfl⟩ := Ext.of hb1; have z : w.heap.size < x1.it.heap.size := x1.lt (by (first | assumption | (simp; done) | (simp; omega)))))
  go_ret
  exact ⟨rfl, by repeat (first | with_reducible exact Below.refl _ _ | with_reducible assumption | with_reducible refine Below.al ?_ _ | with_reducible refine Below.on ?_ _ | with_reducible refine Below.st ?_ (by first | assumption | (simp; done) | (simp; omega)) _ | with_reducible refine Below.drew ?_)⟩
end Go.Proofs.Ytjojnakgadfgmaa
