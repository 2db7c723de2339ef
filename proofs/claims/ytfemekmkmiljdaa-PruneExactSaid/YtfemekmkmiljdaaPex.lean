/-
  CHAPTER 24: one, compare, three, awake; PruneExamples' walk. Conditions: none.
-/
import Derived.Test.YtfemekmkmiljdaaPmm
set_option linter.unusedVariables false
set_option linter.unusedSimpArgs false
namespace Go.Proofs.Ytfemekmkmiljdaa
open Go.RowKit
def eCol : Col := ⟨⟨#[105, 100]⟩, 1, 0, false⟩
def eZon : Zon := ⟨4, 0, ⟨false, 3, ⟨#[]⟩⟩, ⟨false, 7, ⟨#[]⟩⟩⟩
def eNod (op n : Int) : Nod := ⟨op, 0, ⟨false, n, ⟨#[]⟩⟩, [], 0, 0⟩
theorem e_tl0 : (⟨#[]⟩ : ByteArray).toList = [] := by rw [ByteArray.toList_eq]
theorem e_tl : (⟨#[105, 100]⟩ : ByteArray).toList = [105, 100] := by rw [ByteArray.toList_eq]
theorem e_name : nameF [105, 100] = true := by decide
theorem e_schema : schemaF [eCol] 0 = 0 := by
  simp [schemaF, colsE, colE, eCol, e_tl, e_name]
theorem e_zs : zsE [eCol] [eZon] = 0 := by
  refine zsE_ok rfl fun j hj => ?_
  obtain rfl : j = 0 := by simp at hj; omega
  rw [okAt_eq (by simp) (by simp)]
  simp [zonF, zonD, eCol, eZon, vchk, permF, e_tl0, cmpV, cmpI]
theorem e_pred_3_3 : predF [eCol] 0 [eNod 3 3] = 0 := by
  unfold predF
  rw [if_pos e_schema]
  simp [nodsE, nodE, eNod, eCol, vchk, permF, e_tl0]
theorem e_pos_3_3 : posT [eCol] 0 [eNod 3 3] [eZon] = ⟨canF 1 (oppF 3) eZon ⟨false, 3, ⟨#[]⟩⟩, canF 1 3 eZon ⟨false, 3, ⟨#[]⟩⟩, false⟩ := by
  unfold posT
  rw [if_pos ⟨e_pred_3_3, e_zs⟩]
  simp [posS, accP, stepP, leafS, colTy, eNod, eCol, eZon]
theorem e_err_3_3 : (posF [eCol] 0 [eNod 3 3] [eZon]).2 = 0 := by
  unfold posF
  rw [if_pos e_pred_3_3, if_pos e_zs]
theorem e_val_3_3 : posT [eCol] 0 [eNod 3 3] [eZon] = ⟨true, false, false⟩ := by
  rw [e_pos_3_3]
  simp [canF, canK, oppF, cmpV, cmpI, eZon]
theorem e_pred_4_7 : predF [eCol] 0 [eNod 4 7] = 0 := by
  unfold predF
  rw [if_pos e_schema]
  simp [nodsE, nodE, eNod, eCol, vchk, permF, e_tl0]
theorem e_pos_4_7 : posT [eCol] 0 [eNod 4 7] [eZon] = ⟨canF 1 (oppF 4) eZon ⟨false, 7, ⟨#[]⟩⟩, canF 1 4 eZon ⟨false, 7, ⟨#[]⟩⟩, false⟩ := by
  unfold posT
  rw [if_pos ⟨e_pred_4_7, e_zs⟩]
  simp [posS, accP, stepP, leafS, colTy, eNod, eCol, eZon]
theorem e_err_4_7 : (posF [eCol] 0 [eNod 4 7] [eZon]).2 = 0 := by
  unfold posF
  rw [if_pos e_pred_4_7, if_pos e_zs]
theorem e_val_4_7 : posT [eCol] 0 [eNod 4 7] [eZon] = ⟨false, true, false⟩ := by
  rw [e_pos_4_7]
  simp [canF, canK, oppF, cmpV, cmpI, eZon]
theorem e_pred_1_5 : predF [eCol] 0 [eNod 1 5] = 0 := by
  unfold predF
  rw [if_pos e_schema]
  simp [nodsE, nodE, eNod, eCol, vchk, permF, e_tl0]
theorem e_pos_1_5 : posT [eCol] 0 [eNod 1 5] [eZon] = ⟨canF 1 (oppF 1) eZon ⟨false, 5, ⟨#[]⟩⟩, canF 1 1 eZon ⟨false, 5, ⟨#[]⟩⟩, false⟩ := by
  unfold posT
  rw [if_pos ⟨e_pred_1_5, e_zs⟩]
  simp [posS, accP, stepP, leafS, colTy, eNod, eCol, eZon]
theorem e_err_1_5 : (posF [eCol] 0 [eNod 1 5] [eZon]).2 = 0 := by
  unfold posF
  rw [if_pos e_pred_1_5, if_pos e_zs]
theorem e_val_1_5 : posT [eCol] 0 [eNod 1 5] [eZon] = ⟨true, true, false⟩ := by
  rw [e_pos_1_5]
  simp [canF, canK, oppF, cmpV, cmpI, eZon]
theorem e_pred_6_3 : predF [eCol] 0 [eNod 6 3] = 0 := by
  unfold predF
  rw [if_pos e_schema]
  simp [nodsE, nodE, eNod, eCol, vchk, permF, e_tl0]
theorem e_pos_6_3 : posT [eCol] 0 [eNod 6 3] [eZon] = ⟨canF 1 (oppF 6) eZon ⟨false, 3, ⟨#[]⟩⟩, canF 1 6 eZon ⟨false, 3, ⟨#[]⟩⟩, false⟩ := by
  unfold posT
  rw [if_pos ⟨e_pred_6_3, e_zs⟩]
  simp [posS, accP, stepP, leafS, colTy, eNod, eCol, eZon]
theorem e_err_6_3 : (posF [eCol] 0 [eNod 6 3] [eZon]).2 = 0 := by
  unfold posF
  rw [if_pos e_pred_6_3, if_pos e_zs]
theorem e_val_6_3 : posT [eCol] 0 [eNod 6 3] [eZon] = ⟨false, true, false⟩ := by
  rw [e_pos_6_3]
  simp [canF, canK, oppF, cmpV, cmpI, eZon]
theorem e_pred_5_7 : predF [eCol] 0 [eNod 5 7] = 0 := by
  unfold predF
  rw [if_pos e_schema]
  simp [nodsE, nodE, eNod, eCol, vchk, permF, e_tl0]
theorem e_pos_5_7 : posT [eCol] 0 [eNod 5 7] [eZon] = ⟨canF 1 (oppF 5) eZon ⟨false, 7, ⟨#[]⟩⟩, canF 1 5 eZon ⟨false, 7, ⟨#[]⟩⟩, false⟩ := by
  unfold posT
  rw [if_pos ⟨e_pred_5_7, e_zs⟩]
  simp [posS, accP, stepP, leafS, colTy, eNod, eCol, eZon]
theorem e_err_5_7 : (posF [eCol] 0 [eNod 5 7] [eZon]).2 = 0 := by
  unfold posF
  rw [if_pos e_pred_5_7, if_pos e_zs]
theorem e_val_5_7 : posT [eCol] 0 [eNod 5 7] [eZon] = ⟨true, false, false⟩ := by
  rw [e_pos_5_7]
  simp [canF, canK, oppF, cmpV, cmpI, eZon]
set_option maxRecDepth 8000 in
set_option maxHeartbeats 400000 in
theorem one24 (w : World) : Calls Try.prog 11 #[] w fun e w' => ∃ cv, e = .returned (.agg #[cv, .int .i64 0]) ∧ ColsAt w' w'.heap.size cv [eCol] ∧ Below w.heap.size w w' := by
  go_enter Try.func11, Try.ntmps11
  go_wp2
  refine bodyPost_ret (v := .agg #[.slice (some ⟨w.heap.size + 1, 0, none⟩) 1 1, .int .i64 0]) (by simp [results, Try.results11, go_sem, *]) rfl ⟨_, rfl, ⟨by simp, .inr ⟨w.heap.size + 1, 0, 1, rfl, by simp, by simp, fun j hj => by (obtain rfl : j = 0 := by (simp at hj; omega)); exact ⟨by simp [go_sem, eCol], by simp [go_sem, eCol], by simp [go_sem, eCol], by simp [go_sem, eCol]⟩⟩⟩, by repeat (first | with_reducible exact Below.refl _ _ | with_reducible assumption | with_reducible refine Below.al ?_ _ | with_reducible refine Below.on ?_ _ | with_reducible refine Below.st ?_ (by first | assumption | (simp; done) | (simp; omega)) _ | with_reducible refine Below.drew ?_)⟩
set_option maxRecDepth 8000 in
set_option maxHeartbeats 400000 in
theorem compare24 (op n : Int) (w : World) : Calls Try.prog 12 #[.int .i64 op, .int .i64 n] w fun e w' => ∃ nv, e = .returned nv ∧ NodsAt w' w'.heap.size nv [eNod op n] ∧ Below w.heap.size w w' := by
  go_enter Try.func12, Try.ntmps12
  go_wp2
  refine bodyPost_ret (v := .slice (some ⟨w.heap.size, 0, none⟩) 1 1) (by simp [results, Try.results12, go_sem, *]) rfl ⟨_, rfl, ⟨by simp, .inr ⟨w.heap.size, 0, 1, rfl, by simp, by simp, fun j hj => by (obtain rfl : j = 0 := by (simp at hj; omega)); exact ⟨.slice none 0 0, by simp [go_sem, eNod], by simp [go_sem, eNod], by simp [go_sem, eNod], by simp [go_sem, eNod], by simp [go_sem, eNod], by simp [go_sem, eNod], by simp [go_sem, eNod], by simp [go_sem, eNod], by simp [eNod], .inl ⟨rfl, none, 0, rfl⟩⟩⟩⟩, by repeat (first | with_reducible exact Below.refl _ _ | with_reducible assumption | with_reducible refine Below.al ?_ _ | with_reducible refine Below.on ?_ _ | with_reducible refine Below.st ?_ (by first | assumption | (simp; done) | (simp; omega)) _ | with_reducible refine Below.drew ?_)⟩
set_option maxRecDepth 8000 in
set_option maxHeartbeats 400000 in
theorem three24 (w : World) : Calls Try.prog 13 #[] w fun e w' => ∃ zv, e = .returned zv ∧ ZonsAt w' w'.heap.size zv [eZon] ∧ Below w.heap.size w w' := by
  go_enter Try.func13, Try.ntmps13
  go_wp2
  refine bodyPost_ret (v := .slice (some ⟨w.heap.size, 0, none⟩) 1 1) (by simp [results, Try.results13, go_sem, *]) rfl ⟨_, rfl, ⟨by simp, .inr ⟨w.heap.size, 0, 1, rfl, by simp, by simp, fun j hj => by (obtain rfl : j = 0 := by (simp at hj; omega)); exact ⟨by simp [go_sem, eZon], by simp [go_sem, eZon], by simp [go_sem, eZon], by simp [go_sem, eZon], by simp [go_sem, eZon], by simp [go_sem, eZon], by simp [go_sem, eZon], by simp [go_sem, eZon]⟩⟩⟩, by repeat (first | with_reducible exact Below.refl _ _ | with_reducible assumption | with_reducible refine Below.al ?_ _ | with_reducible refine Below.on ?_ _ | with_reducible refine Below.st ?_ (by first | assumption | (simp; done) | (simp; omega)) _ | with_reducible refine Below.drew ?_)⟩
set_option maxRecDepth 8000 in
set_option maxHeartbeats 1000000 in
theorem awake24 (w : World) : Calls Try.prog 15 #[] w fun e w' => e = .returned (.bool true) ∧ Below w.heap.size w w' := by
  go_enter Try.func15, Try.ntmps15
  go_upto_region 2 with (first | (go_at_call 11; refine (one24 _).mono ?_; rintro e w1a ⟨cv1, rfl, hc1, hb1a⟩; obtain ⟨x1a, rfl⟩ := Ext.of hb1a; have HC1 := Lib.hid hc1; clear hc1) | (go_at_call 12; refine (compare24 _ _ _).mono ?_; rintro e w1b ⟨nv1, rfl, hn1, hb1b⟩; obtain ⟨x1b, rfl⟩ := Ext.of hb1b; have HN1 := Lib.hid hn1; clear hn1) | (go_at_call 13; refine (three24 _).mono ?_; rintro e w1c ⟨zv1, rfl, hz1, hb1c⟩; obtain ⟨x1c, rfl⟩ := Ext.of hb1c; have HZ1 := Lib.hid hz1; clear hz1) | (go_at_call 22; refine Calls.mono (may_any _ [eCol] 0 _ [eNod 1 5] _ [eZon] _ (HC1.out.mono (x1b.below.trans (x1c.below.mono x1b.below.size)) (Nat.le_trans x1b.below.size x1c.below.size)) (HN1.out.mono x1c.below x1c.below.size) HZ1.out) ?_; rw [e_val_1_5, e_err_1_5]; rintro e w1d ⟨rfl, hb1d⟩; obtain ⟨x1d, rfl⟩ := Ext.of hb1d))
  go_upto_region 3 with (first | (go_at_call 11; refine (one24 _).mono ?_; rintro e w2a ⟨cv2, rfl, hc2, hb2a⟩; obtain ⟨x2a, rfl⟩ := Ext.of hb2a; have HC2 := Lib.hid hc2; clear hc2) | (go_at_call 12; refine (compare24 _ _ _).mono ?_; rintro e w2b ⟨nv2, rfl, hn2, hb2b⟩; obtain ⟨x2b, rfl⟩ := Ext.of hb2b; have HN2 := Lib.hid hn2; clear hn2) | (go_at_call 13; refine (three24 _).mono ?_; rintro e w2c ⟨zv2, rfl, hz2, hb2c⟩; obtain ⟨x2c, rfl⟩ := Ext.of hb2c; have HZ2 := Lib.hid hz2; clear hz2) | (go_at_call 23; refine Calls.mono (must_any _ [eCol] 0 _ [eNod 6 3] _ [eZon] _ (HC2.out.mono (x2b.below.trans (x2c.below.mono x2b.below.size)) (Nat.le_trans x2b.below.size x2c.below.size)) (HN2.out.mono x2c.below x2c.below.size) HZ2.out) ?_; rw [e_val_6_3, e_err_6_3]; rintro e w2d ⟨rfl, hb2d⟩; obtain ⟨x2d, rfl⟩ := Ext.of hb2d))
  go_upto_region 4 with (first | (go_at_call 11; refine (one24 _).mono ?_; rintro e w3a ⟨cv3, rfl, hc3, hb3a⟩; obtain ⟨x3a, rfl⟩ := Ext.of hb3a; have HC3 := Lib.hid hc3; clear hc3) | (go_at_call 12; refine (compare24 _ _ _).mono ?_; rintro e w3b ⟨nv3, rfl, hn3, hb3b⟩; obtain ⟨x3b, rfl⟩ := Ext.of hb3b; have HN3 := Lib.hid hn3; clear hn3) | (go_at_call 13; refine (three24 _).mono ?_; rintro e w3c ⟨zv3, rfl, hz3, hb3c⟩; obtain ⟨x3c, rfl⟩ := Ext.of hb3c; have HZ3 := Lib.hid hz3; clear hz3) | (go_at_call 22; refine Calls.mono (may_any _ [eCol] 0 _ [eNod 5 7] _ [eZon] _ (HC3.out.mono (x3b.below.trans (x3c.below.mono x3b.below.size)) (Nat.le_trans x3b.below.size x3c.below.size)) (HN3.out.mono x3c.below x3c.below.size) HZ3.out) ?_; rw [e_val_5_7, e_err_5_7]; rintro e w3d ⟨rfl, hb3d⟩; obtain ⟨x3d, rfl⟩ := Ext.of hb3d))
  go_wp2_with fail
  exact bodyPost_ret (v := .bool true) (by simp [results, Try.results15, go_sem, *]) rfl (⟨rfl, by repeat (first | with_reducible exact Below.refl _ _ | with_reducible assumption | with_reducible refine Below.al ?_ _ | with_reducible refine Below.on ?_ _ | with_reducible refine Below.st ?_ (by first | assumption | (simp; done) | (simp; omega)) _ | with_reducible refine Below.drew ?_)⟩)
set_option maxRecDepth 8000 in
set_option maxHeartbeats 1000000 in
theorem pex_walk (w : World) : Calls Try.prog 3 #[] w fun e w' => e = .returned (.bool true) ∧ Below w.heap.size w w' := by
  go_enter Try.func3, Try.ntmps3
  go_upto_region 2 with (first | (go_at_call 11; refine (one24 _).mono ?_; rintro e w1a ⟨cv1, rfl, hc1, hb1a⟩; obtain ⟨x1a, rfl⟩ := Ext.of hb1a; have HC1 := Lib.hid hc1; clear hc1) | (go_at_call 12; refine (compare24 _ _ _).mono ?_; rintro e w1b ⟨nv1, rfl, hn1, hb1b⟩; obtain ⟨x1b, rfl⟩ := Ext.of hb1b; have HN1 := Lib.hid hn1; clear hn1) | (go_at_call 13; refine (three24 _).mono ?_; rintro e w1c ⟨zv1, rfl, hz1, hb1c⟩; obtain ⟨x1c, rfl⟩ := Ext.of hb1c; have HZ1 := Lib.hid hz1; clear hz1) | (go_at_call 10; refine Calls.mono (possible_any _ [eCol] 0 _ [eNod 3 3] _ [eZon] _ (HC1.out.mono (x1b.below.trans (x1c.below.mono x1b.below.size)) (Nat.le_trans x1b.below.size x1c.below.size)) (HN1.out.mono x1c.below x1c.below.size) HZ1.out) ?_; rw [posF_1, e_val_3_3, e_err_3_3]; rintro e w1d ⟨rfl, hb1d⟩; obtain ⟨x1d, rfl⟩ := Ext.of hb1d))
  go_upto_region 3 with (first | (go_at_call 11; refine (one24 _).mono ?_; rintro e w2a ⟨cv2, rfl, hc2, hb2a⟩; obtain ⟨x2a, rfl⟩ := Ext.of hb2a; have HC2 := Lib.hid hc2; clear hc2) | (go_at_call 12; refine (compare24 _ _ _).mono ?_; rintro e w2b ⟨nv2, rfl, hn2, hb2b⟩; obtain ⟨x2b, rfl⟩ := Ext.of hb2b; have HN2 := Lib.hid hn2; clear hn2) | (go_at_call 13; refine (three24 _).mono ?_; rintro e w2c ⟨zv2, rfl, hz2, hb2c⟩; obtain ⟨x2c, rfl⟩ := Ext.of hb2c; have HZ2 := Lib.hid hz2; clear hz2) | (go_at_call 10; refine Calls.mono (possible_any _ [eCol] 0 _ [eNod 4 7] _ [eZon] _ (HC2.out.mono (x2b.below.trans (x2c.below.mono x2b.below.size)) (Nat.le_trans x2b.below.size x2c.below.size)) (HN2.out.mono x2c.below x2c.below.size) HZ2.out) ?_; rw [posF_1, e_val_4_7, e_err_4_7]; rintro e w2d ⟨rfl, hb2d⟩; obtain ⟨x2d, rfl⟩ := Ext.of hb2d))
  go_wp2_with fail
  exact bodyPost_ret (v := .bool true) (by simp [results, Try.results3, go_sem, *]) rfl (⟨rfl, by repeat (first | with_reducible exact Below.refl _ _ | with_reducible assumption | with_reducible refine Below.al ?_ _ | with_reducible refine Below.on ?_ _ | with_reducible refine Below.st ?_ (by first | assumption | (simp; done) | (simp; omega)) _ | with_reducible refine Below.drew ?_)⟩)
end Go.Proofs.Ytfemekmkmiljdaa
