/-
  CHAPTER 26: the walk of AggregateExamples. Conditions: none.
-/
import Derived.Test.YtpahoenanfjhpaaZt
set_option linter.unusedVariables false
set_option linter.unusedSimpArgs false
namespace Go.Proofs.Ytpahoenanfjhpaa
open Go.RowKit
set_option maxRecDepth 8000 in
set_option maxHeartbeats 4000000 in
theorem exs_walk (w : World) : Calls Try.prog 3 #[] w fun e w' => e = .returned (.bool true) ∧ Below w.heap.size w w' := by
  have LITP : Hid (∀ z ∈ ([9223372036854775807, 1, -1] : List Int), isI z) := Lib.hid (by intro z hz; simp at hz; unfold isI; omega)
  have LITQ : Hid (∀ z ∈ ([9223372036854775807, 1] : List Int), isI z) := Lib.hid (by intro z hz; simp at hz; unfold isI; omega)
  have RUNP := Lib.hid (run_res (show runN [9223372036854775807, 1, -1] = ([[valN 9223372036854775807]], 0) from rfl) (by decide) (by decide))
  have RUNQ := Lib.hid (run_res (show runN [9223372036854775807, 1] = ([], 8) from rfl) (by decide) (by decide))
  go_enter Try.func3, Try.ntmps3
  go_upto_region 2 with (first
      | (go_at_call 8; refine Calls.mono (one_any _) ?_; rintro e w1 ⟨v1, rfl, hc1, hb1⟩; obtain ⟨xA, rfl⟩ := Ext.of hb1; have CA := Lib.hid hc1; clear hc1)
      | (go_at_call 9; refine Calls.mono (sum_any _) ?_; rintro e w2 ⟨v2, rfl, ha2, hb2⟩; obtain ⟨xB, rfl⟩ := Ext.of hb2; have AB := Lib.hid ha2; clear ha2)
      | (go_at_call 10; refine Calls.mono (single_any _ [9223372036854775807, 1, -1] _ (lit_alloc _ _ [9223372036854775807, 1, -1] LITP.out (by decide)) (by decide)) ?_; rintro e w3 ⟨v3, rfl, hr3, hb3⟩; obtain ⟨xC, rfl⟩ := Ext.of hb3; have RC := Lib.hid hr3; have kA : Below xA.it.heap.size xA.it xC.it := (by repeat (first | with_reducible exact Below.refl _ _ | with_reducible assumption | with_reducible refine Below.al ?_ _ | with_reducible refine Below.on ?_ _ | with_reducible refine Below.st ?_ (by first | assumption | (simp; done) | (simp; omega)) _ | with_reducible refine Below.drew ?_)); have kB : Below xB.it.heap.size xB.it xC.it := (by repeat (first | with_reducible exact Below.refl _ _ | with_reducible assumption | with_reducible refine Below.al ?_ _ | with_reducible refine Below.on ?_ _ | with_reducible refine Below.st ?_ (by first | assumption | (simp; done) | (simp; omega)) _ | with_reducible refine Below.drew ?_)); have CCA := Lib.hid (CA.out.mono kA kA.size); have AAB := Lib.hid (AB.out.mono kB kB.size); clear hr3 kA kB)
      | (go_at_call 7; refine Calls.mono (RUNP.out _ _ _ _ CCA.out AAB.out RC.out) ?_; rintro e w4 ⟨v4, rfl, hr4, hb4⟩; obtain ⟨xD, rfl⟩ := Ext.of hb4; have RD := Lib.hid hr4; clear hr4))
  clear CA AB RC CCA AAB
  go_upto_region 3 with (first
      | (go_at_call 8; refine Calls.mono (one_any _) ?_; rintro e w1 ⟨v1, rfl, hc1, hb1⟩; obtain ⟨xE, rfl⟩ := Ext.of hb1; have CE := Lib.hid hc1; clear hc1)
      | (go_at_call 9; refine Calls.mono (sum_any _) ?_; rintro e w2 ⟨v2, rfl, ha2, hb2⟩; obtain ⟨xF, rfl⟩ := Ext.of hb2; have AF := Lib.hid ha2; clear ha2)
      | (go_at_call 10; refine Calls.mono (single_any _ [9223372036854775807, 1] _ (lit_alloc _ _ [9223372036854775807, 1] LITQ.out (by decide)) (by decide)) ?_; rintro e w3 ⟨v3, rfl, hr3, hb3⟩; obtain ⟨xG, rfl⟩ := Ext.of hb3; have RG := Lib.hid hr3; have kE : Below xE.it.heap.size xE.it xG.it := (by repeat (first | with_reducible exact Below.refl _ _ | with_reducible assumption | with_reducible refine Below.al ?_ _ | with_reducible refine Below.on ?_ _ | with_reducible refine Below.st ?_ (by first | assumption | (simp; done) | (simp; omega)) _ | with_reducible refine Below.drew ?_)); have kF : Below xF.it.heap.size xF.it xG.it := (by repeat (first | with_reducible exact Below.refl _ _ | with_reducible assumption | with_reducible refine Below.al ?_ _ | with_reducible refine Below.on ?_ _ | with_reducible refine Below.st ?_ (by first | assumption | (simp; done) | (simp; omega)) _ | with_reducible refine Below.drew ?_)); have CCE := Lib.hid (CE.out.mono kE kE.size); have AAF := Lib.hid (AF.out.mono kF kF.size); clear hr3 kE kF)
      | (go_at_call 7; refine Calls.mono (RUNQ.out _ _ _ _ CCE.out AAF.out RG.out) ?_; rintro e w4 ⟨v4, rfl, hr4, hb4⟩; obtain ⟨xH, rfl⟩ := Ext.of hb4; have RH := Lib.hid hr4; clear hr4))
  have hyx : Below xD.it.heap.size xD.it xH.it := (by repeat (first | with_reducible exact Below.refl _ _ | with_reducible assumption | with_reducible refine Below.al ?_ _ | with_reducible refine Below.on ?_ _ | with_reducible refine Below.st ?_ (by first | assumption | (simp; done) | (simp; omega)) _ | with_reducible refine Below.drew ?_))
  have RDH := Lib.hid (RD.out.mono hyx hyx.size)
  clear hyx CE AF RG CCE AAF RD
  go_wp2_with (go_at_call 11; refine Calls.mono (same_lists _ _ [[valN 9223372036854775807]] _ (RDH.out.mono (((Below.refl _ _).alloc (Nat.le_refl _) _).alloc (by simp) _) (by simp; omega)) (lit_alloc2 xH.it (valN 9223372036854775807) _ _)) ?_; rintro e w5 ⟨rfl, hb5⟩; obtain ⟨x5, rfl⟩ := Ext.of hb5)
  exact bodyPost_ret (v := .bool true) (by simp [results, Try.results3, go_sem, *]) rfl (⟨rfl, by repeat (first | with_reducible exact Below.refl _ _ | with_reducible assumption | with_reducible refine Below.al ?_ _ | with_reducible refine Below.on ?_ _ | with_reducible refine Below.st ?_ (by first | assumption | (simp; done) | (simp; omega)) _ | with_reducible refine Below.drew ?_)⟩)
end Go.Proofs.Ytpahoenanfjhpaa
