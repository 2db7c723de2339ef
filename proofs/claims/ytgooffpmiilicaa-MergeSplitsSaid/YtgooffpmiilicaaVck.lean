/-
  VALUES: value.Check and micropartref6.Check of whatever column and value: 'vchk'. Conditions: none.
-/
import Derived.Test.YtgooffpmiilicaaSc3
set_option linter.unusedVariables false
set_option linter.unusedSimpArgs false
namespace Go.Proofs.Ytgooffpmiilicaa
open Go.RowKit
def permF (ty n : Int) (s : ByteArray) : Bool :=
  if ty = 2 then decide (n = 0) || decide (n = 1) else if ty = 4 then decide (-719162 ≤ n) && decide (n ≤ 2932896) else if ty = 5 then decide (-999999999999999999 ≤ n) && decide (n ≤ 999999999999999999) else if ty = 3 then decide (s.size ≤ 64) else true
def vchk (ty : Int) (nul vn : Bool) (n : Int) (s : ByteArray) : Int :=
  if ty < 1 ∨ 5 < ty then 1 else
  if vn = true then (if ¬ s.toList = [] ∨ ¬ n = 0 then 11 else if nul = true then 0 else 12) else
  if (¬ ty = 3 ∧ ¬ s.toList = []) ∨ (ty = 3 ∧ ¬ n = 0) then 11 else if permF ty n s = true then 0 else 4
set_option maxHeartbeats 400000 in
theorem known_any (t : Int) (w : World) : Calls Try.prog 75 #[.int .i64 t] w fun e w' => e = .returned (.bool (decide (1 ≤ t) && decide (t ≤ 5))) ∧ Below w.heap.size w w' := by
  by_cases h1 : 1 ≤ t
  · by_cases h2 : t ≤ 5
    all_goals
      go_enter Try.func75, Try.ntmps75
      go_wp2
      go_ret
      exact ⟨by simp [h1, h2], Below.refl _ _⟩
  ·
    go_enter Try.func75, Try.ntmps75
    go_wp2
    go_ret
    exact ⟨by rw [decide_eq_false (by omega : ¬ 1 ≤ t)]; rfl, Below.refl _ _⟩
set_option maxRecDepth 8000 in
set_option maxHeartbeats 2000000 in
theorem perm_any (ty : Int) (vn : Bool) (n : Int) (s : ByteArray) (w : World) : Calls Try.prog 76 #[.int .i64 ty, .agg #[.bool vn, .int .i64 n, .string s]] w fun e w' => e = .returned (.bool (permF ty n s)) ∧ Below w.heap.size w w' := by
  obtain ⟨pb, hpb⟩ : ∃ pb, permF ty n s = pb := ⟨_, rfl⟩
  rw [hpb]
  by_cases ht2 : ty = 2
  · skip
    by_cases hq : n = 0
    · skip
      have t2 : (ty = 2) := by omega
      have t3 : ¬ (ty = 3) := by omega
      have t4 : ¬ (ty = 4) := by omega
      have t5 : ¬ (ty = 5) := by omega
      have q0 : n = 0 := hq
      have PF : permF ty n s = true := by unfold permF; rw [if_pos t2]; simp [*]
      obtain rfl : true = pb := PF.symm.trans hpb
      clear PF hpb
      go_enter Try.func76, Try.ntmps76
      go_wp2
      exact bodyPost_ret (v := .bool true) (by simp [results, Try.results76, go_sem, *]) rfl (⟨rfl, by repeat (first | with_reducible exact Below.refl _ _ | with_reducible assumption | with_reducible refine Below.al ?_ _ | with_reducible refine Below.on ?_ _ | with_reducible refine Below.st ?_ (by first | assumption | (simp; done) | (simp; omega)) _ | with_reducible refine Below.drew ?_)⟩)
    by_cases hq : ¬ n = 0 ∧ n = 1
    · skip
      have t2 : (ty = 2) := by omega
      have t3 : ¬ (ty = 3) := by omega
      have t4 : ¬ (ty = 4) := by omega
      have t5 : ¬ (ty = 5) := by omega
      have q0 : ¬ n = 0 := hq.1
      have q1 : n = 1 := hq.2
      have PF : permF ty n s = true := by unfold permF; rw [if_pos t2]; simp [*]
      obtain rfl : true = pb := PF.symm.trans hpb
      clear PF hpb
      go_enter Try.func76, Try.ntmps76
      go_wp2
      exact bodyPost_ret (v := .bool true) (by simp [results, Try.results76, go_sem, *]) rfl (⟨rfl, by repeat (first | with_reducible exact Below.refl _ _ | with_reducible assumption | with_reducible refine Below.al ?_ _ | with_reducible refine Below.on ?_ _ | with_reducible refine Below.st ?_ (by first | assumption | (simp; done) | (simp; omega)) _ | with_reducible refine Below.drew ?_)⟩)
    have hq : ¬ n = 0 ∧ ¬ n = 1 := by omega
    have t2 : (ty = 2) := by omega
    have t3 : ¬ (ty = 3) := by omega
    have t4 : ¬ (ty = 4) := by omega
    have t5 : ¬ (ty = 5) := by omega
    have q0 : ¬ n = 0 := hq.1
    have q1 : ¬ n = 1 := hq.2
    have q2 : (n == 1) = false := by simpa using hq.2
    have q3 : (n == 0) = false := by simpa using hq.1
    have PF : permF ty n s = false := by unfold permF; rw [if_pos t2]; simp [*]
    obtain rfl : false = pb := PF.symm.trans hpb
    clear PF hpb
    go_enter Try.func76, Try.ntmps76
    go_wp2
    exact bodyPost_ret (v := .bool false) (by simp [results, Try.results76, go_sem, *]) rfl (⟨rfl, by repeat (first | with_reducible exact Below.refl _ _ | with_reducible assumption | with_reducible refine Below.al ?_ _ | with_reducible refine Below.on ?_ _ | with_reducible refine Below.st ?_ (by first | assumption | (simp; done) | (simp; omega)) _ | with_reducible refine Below.drew ?_)⟩)
  by_cases ht4 : ty = 4
  · skip
    by_cases hq : n < -719162
    · skip
      have t2 : ¬ (ty = 2) := by omega
      have t3 : ¬ (ty = 3) := by omega
      have t4 : (ty = 4) := by omega
      have t5 : ¬ (ty = 5) := by omega
      have q0 : ¬ ((-719162 : Int) ≤ n) := by omega
      have PF : permF ty n s = false := by unfold permF; rw [if_neg t2, if_pos t4]; simp; omega
      obtain rfl : false = pb := PF.symm.trans hpb
      clear PF hpb
      go_enter Try.func76, Try.ntmps76
      go_wp2
      exact bodyPost_ret (v := .bool false) (by simp [results, Try.results76, go_sem, *]) rfl (⟨rfl, by repeat (first | with_reducible exact Below.refl _ _ | with_reducible assumption | with_reducible refine Below.al ?_ _ | with_reducible refine Below.on ?_ _ | with_reducible refine Below.st ?_ (by first | assumption | (simp; done) | (simp; omega)) _ | with_reducible refine Below.drew ?_)⟩)
    by_cases hq : ¬ n < -719162 ∧ 2932896 < n
    · skip
      have t2 : ¬ (ty = 2) := by omega
      have t3 : ¬ (ty = 3) := by omega
      have t4 : (ty = 4) := by omega
      have t5 : ¬ (ty = 5) := by omega
      have q0 : ((-719162 : Int) ≤ n) := by omega
      have q1 : ¬ (n ≤ 2932896) := by omega
      have q2 : decide (n ≤ 2932896) = false := decide_eq_false q1
      have PF : permF ty n s = false := by unfold permF; rw [if_neg t2, if_pos t4]; simp; omega
      obtain rfl : false = pb := PF.symm.trans hpb
      clear PF hpb
      go_enter Try.func76, Try.ntmps76
      go_wp2
      exact bodyPost_ret (v := .bool false) (by simp [results, Try.results76, go_sem, *]) rfl (⟨rfl, by repeat (first | with_reducible exact Below.refl _ _ | with_reducible assumption | with_reducible refine Below.al ?_ _ | with_reducible refine Below.on ?_ _ | with_reducible refine Below.st ?_ (by first | assumption | (simp; done) | (simp; omega)) _ | with_reducible refine Below.drew ?_)⟩)
    have hq : ¬ n < -719162 ∧ ¬ 2932896 < n := by omega
    have t2 : ¬ (ty = 2) := by omega
    have t3 : ¬ (ty = 3) := by omega
    have t4 : (ty = 4) := by omega
    have t5 : ¬ (ty = 5) := by omega
    have q0 : ((-719162 : Int) ≤ n) := by omega
    have q1 : n ≤ 2932896 := by omega
    have PF : permF ty n s = true := by unfold permF; rw [if_neg t2, if_pos t4]; simp; omega
    obtain rfl : true = pb := PF.symm.trans hpb
    clear PF hpb
    go_enter Try.func76, Try.ntmps76
    go_wp2
    exact bodyPost_ret (v := .bool true) (by simp [results, Try.results76, go_sem, *]) rfl (⟨rfl, by repeat (first | with_reducible exact Below.refl _ _ | with_reducible assumption | with_reducible refine Below.al ?_ _ | with_reducible refine Below.on ?_ _ | with_reducible refine Below.st ?_ (by first | assumption | (simp; done) | (simp; omega)) _ | with_reducible refine Below.drew ?_)⟩)
  by_cases ht5 : ty = 5
  · skip
    by_cases hq : n < -999999999999999999
    · skip
      have t2 : ¬ (ty = 2) := by omega
      have t3 : ¬ (ty = 3) := by omega
      have t4 : ¬ (ty = 4) := by omega
      have t5 : (ty = 5) := by omega
      have q0 : ¬ ((-999999999999999999 : Int) ≤ n) := by omega
      have PF : permF ty n s = false := by unfold permF; rw [if_neg t2, if_neg t4, if_pos t5]; simp; omega
      obtain rfl : false = pb := PF.symm.trans hpb
      clear PF hpb
      go_enter Try.func76, Try.ntmps76
      go_wp2
      exact bodyPost_ret (v := .bool false) (by simp [results, Try.results76, go_sem, *]) rfl (⟨rfl, by repeat (first | with_reducible exact Below.refl _ _ | with_reducible assumption | with_reducible refine Below.al ?_ _ | with_reducible refine Below.on ?_ _ | with_reducible refine Below.st ?_ (by first | assumption | (simp; done) | (simp; omega)) _ | with_reducible refine Below.drew ?_)⟩)
    by_cases hq : ¬ n < -999999999999999999 ∧ 999999999999999999 < n
    · skip
      have t2 : ¬ (ty = 2) := by omega
      have t3 : ¬ (ty = 3) := by omega
      have t4 : ¬ (ty = 4) := by omega
      have t5 : (ty = 5) := by omega
      have q0 : ((-999999999999999999 : Int) ≤ n) := by omega
      have q1 : ¬ (n ≤ 999999999999999999) := by omega
      have q2 : decide (n ≤ 999999999999999999) = false := decide_eq_false q1
      have PF : permF ty n s = false := by unfold permF; rw [if_neg t2, if_neg t4, if_pos t5]; simp; omega
      obtain rfl : false = pb := PF.symm.trans hpb
      clear PF hpb
      go_enter Try.func76, Try.ntmps76
      go_wp2
      exact bodyPost_ret (v := .bool false) (by simp [results, Try.results76, go_sem, *]) rfl (⟨rfl, by repeat (first | with_reducible exact Below.refl _ _ | with_reducible assumption | with_reducible refine Below.al ?_ _ | with_reducible refine Below.on ?_ _ | with_reducible refine Below.st ?_ (by first | assumption | (simp; done) | (simp; omega)) _ | with_reducible refine Below.drew ?_)⟩)
    have hq : ¬ n < -999999999999999999 ∧ ¬ 999999999999999999 < n := by omega
    have t2 : ¬ (ty = 2) := by omega
    have t3 : ¬ (ty = 3) := by omega
    have t4 : ¬ (ty = 4) := by omega
    have t5 : (ty = 5) := by omega
    have q0 : ((-999999999999999999 : Int) ≤ n) := by omega
    have q1 : n ≤ 999999999999999999 := by omega
    have PF : permF ty n s = true := by unfold permF; rw [if_neg t2, if_neg t4, if_pos t5]; simp; omega
    obtain rfl : true = pb := PF.symm.trans hpb
    clear PF hpb
    go_enter Try.func76, Try.ntmps76
    go_wp2
    exact bodyPost_ret (v := .bool true) (by simp [results, Try.results76, go_sem, *]) rfl (⟨rfl, by repeat (first | with_reducible exact Below.refl _ _ | with_reducible assumption | with_reducible refine Below.al ?_ _ | with_reducible refine Below.on ?_ _ | with_reducible refine Below.st ?_ (by first | assumption | (simp; done) | (simp; omega)) _ | with_reducible refine Below.drew ?_)⟩)
  by_cases ht3 : ty = 3
  · skip
    by_cases hq : s.size ≤ 64
    · skip
      have t2 : ¬ (ty = 2) := by omega
      have t3 : (ty = 3) := by omega
      have t4 : ¬ (ty = 4) := by omega
      have t5 : ¬ (ty = 5) := by omega
      have q0 : (s.size : Int) ≤ 64 := by omega
      have PF : permF ty n s = true := by unfold permF; rw [if_neg t2, if_neg t4, if_neg t5, if_pos t3]; simp; omega
      obtain rfl : true = pb := PF.symm.trans hpb
      clear PF hpb
      go_enter Try.func76, Try.ntmps76
      go_wp2
      exact bodyPost_ret (v := .bool true) (by simp [results, Try.results76, go_sem, *]) rfl (⟨rfl, by repeat (first | with_reducible exact Below.refl _ _ | with_reducible assumption | with_reducible refine Below.al ?_ _ | with_reducible refine Below.on ?_ _ | with_reducible refine Below.st ?_ (by first | assumption | (simp; done) | (simp; omega)) _ | with_reducible refine Below.drew ?_)⟩)
    have hq : 64 < s.size := by omega
    have t2 : ¬ (ty = 2) := by omega
    have t3 : (ty = 3) := by omega
    have t4 : ¬ (ty = 4) := by omega
    have t5 : ¬ (ty = 5) := by omega
    have q0 : ¬ (s.size : Int) ≤ 64 := by omega
    have PF : permF ty n s = false := by unfold permF; rw [if_neg t2, if_neg t4, if_neg t5, if_pos t3]; simp; omega
    obtain rfl : false = pb := PF.symm.trans hpb
    clear PF hpb
    go_enter Try.func76, Try.ntmps76
    go_wp2
    exact bodyPost_ret (v := .bool false) (by simp [results, Try.results76, go_sem, *]) rfl (⟨rfl, by repeat (first | with_reducible exact Below.refl _ _ | with_reducible assumption | with_reducible refine Below.al ?_ _ | with_reducible refine Below.on ?_ _ | with_reducible refine Below.st ?_ (by first | assumption | (simp; done) | (simp; omega)) _ | with_reducible refine Below.drew ?_)⟩)
  have t2 : ¬ (ty = 2) := by omega
  have t3 : ¬ (ty = 3) := by omega
  have t4 : ¬ (ty = 4) := by omega
  have t5 : ¬ (ty = 5) := by omega
  have PF : permF ty n s = true := by unfold permF; rw [if_neg t2, if_neg t4, if_neg t5, if_neg t3]
  obtain rfl : true = pb := PF.symm.trans hpb
  clear PF hpb
  go_enter Try.func76, Try.ntmps76
  go_wp2
  exact bodyPost_ret (v := .bool true) (by simp [results, Try.results76, go_sem, *]) rfl (⟨rfl, by repeat (first | with_reducible exact Below.refl _ _ | with_reducible assumption | with_reducible refine Below.al ?_ _ | with_reducible refine Below.on ?_ _ | with_reducible refine Below.st ?_ (by first | assumption | (simp; done) | (simp; omega)) _ | with_reducible refine Below.drew ?_)⟩)
set_option maxRecDepth 8000 in
set_option maxHeartbeats 4000000 in
theorem vcheck_any (cn : ByteArray) (ty sc : Int) (nul vn : Bool) (n : Int) (s : ByteArray) (w : World) : Calls Try.prog 73 #[.agg #[.string cn, .int .i64 ty, .int .i64 sc, .bool nul], .agg #[.bool vn, .int .i64 n, .string s]] w fun e w' => e = .returned (.int .i64 (vchk ty nul vn n s)) ∧ Below w.heap.size w w' := by
  obtain ⟨vb, hvb⟩ : ∃ vb, vchk ty nul vn n s = vb := ⟨_, rfl⟩
  rw [hvb]
  by_cases t0 : ty < 1 ∨ 5 < ty
  · obtain rfl : 1 = vb := (show vchk ty nul vn n s = 1 by unfold vchk; rw [if_pos t0]).symm.trans hvb
    clear hvb
    have tk : (decide (1 ≤ ty) && decide (ty ≤ 5)) = false := by rw [Bool.and_eq_false_iff]; rcases t0 with q | q; exact .inl (decide_eq_false (by omega)); exact .inr (decide_eq_false (by omega))
    clear t0
    go_enter Try.func73, Try.ntmps73
    go_wp2_with (first | (go_at_call 75; refine (known_any _ _).mono ?_; rintro e w1 ⟨rfl, hb1⟩; obtain ⟨x1, rfl⟩ := Ext.of hb1; have z0 : w.heap.size < x1.it.heap.size := x1.lt (by simp; omega); have z1 : w.heap.size + 1 < x1.it.heap.size := x1.lt (by simp)) | (go_at_call 76; refine (perm_any _ _ _ _ _).mono ?_; rintro e w2 ⟨rfl, hb2⟩; obtain ⟨x2, rfl⟩ := Ext.of hb2))
    exact bodyPost_ret (v := .int .i64 1) (by simp [results, Try.results73, go_sem, *]) rfl (⟨rfl, by repeat (first | with_reducible exact Below.refl _ _ | with_reducible assumption | with_reducible refine Below.al ?_ _ | with_reducible refine Below.on ?_ _ | with_reducible refine Below.st ?_ (by first | assumption | (simp; done) | (simp; omega)) _ | with_reducible refine Below.drew ?_)⟩)
  have tk : (decide (1 ≤ ty) && decide (ty ≤ 5)) = true := by rw [decide_eq_true (by omega), decide_eq_true (by omega)]; rfl
  have T0 := Lib.hid t0
  have VS : vchk ty nul vn n s = if vn = true then (if ¬ s.toList = [] ∨ ¬ n = 0 then 11 else if nul = true then 0 else 12) else if (¬ ty = 3 ∧ ¬ s.toList = []) ∨ (ty = 3 ∧ ¬ n = 0) then 11 else if permF ty n s = true then 0 else 4 := by unfold vchk; rw [if_neg t0]
  clear t0
  cases vn with
  | true =>
    by_cases hs : s.toList = []
    · by_cases hn : n = 0
      · cases nul
        ·
          obtain rfl : 12 = vb := (VS.trans (by rw [if_pos rfl, if_neg (by simp [hs, hn]), if_neg (by decide)])).symm.trans hvb
          have e0 : s.toList.isEmpty = true := by rw [hs]; rfl
          have n0 : (n != 0) = false := by simpa using hn
          clear VS hvb
          go_enter Try.func73, Try.ntmps73
          go_wp2_with (first | (go_at_call 75; refine (known_any _ _).mono ?_; rintro e w1 ⟨rfl, hb1⟩; obtain ⟨x1, rfl⟩ := Ext.of hb1; have z0 : w.heap.size < x1.it.heap.size := x1.lt (by simp; omega); have z1 : w.heap.size + 1 < x1.it.heap.size := x1.lt (by simp)) | (go_at_call 76; refine (perm_any _ _ _ _ _).mono ?_; rintro e w2 ⟨rfl, hb2⟩; obtain ⟨x2, rfl⟩ := Ext.of hb2))
          exact bodyPost_ret (v := .int .i64 12) (by simp [results, Try.results73, go_sem, *]) rfl (⟨rfl, by repeat (first | with_reducible exact Below.refl _ _ | with_reducible assumption | with_reducible refine Below.al ?_ _ | with_reducible refine Below.on ?_ _ | with_reducible refine Below.st ?_ (by first | assumption | (simp; done) | (simp; omega)) _ | with_reducible refine Below.drew ?_)⟩)
        ·
          obtain rfl : 0 = vb := (VS.trans (by rw [if_pos rfl, if_neg (by simp [hs, hn]), if_pos rfl])).symm.trans hvb
          have e0 : s.toList.isEmpty = true := by rw [hs]; rfl
          have n0 : (n != 0) = false := by simpa using hn
          clear VS hvb
          go_enter Try.func73, Try.ntmps73
          go_wp2_with (first | (go_at_call 75; refine (known_any _ _).mono ?_; rintro e w1 ⟨rfl, hb1⟩; obtain ⟨x1, rfl⟩ := Ext.of hb1; have z0 : w.heap.size < x1.it.heap.size := x1.lt (by simp; omega); have z1 : w.heap.size + 1 < x1.it.heap.size := x1.lt (by simp)) | (go_at_call 76; refine (perm_any _ _ _ _ _).mono ?_; rintro e w2 ⟨rfl, hb2⟩; obtain ⟨x2, rfl⟩ := Ext.of hb2))
          exact bodyPost_ret (v := .int .i64 0) (by simp [results, Try.results73, go_sem, *]) rfl (⟨rfl, by repeat (first | with_reducible exact Below.refl _ _ | with_reducible assumption | with_reducible refine Below.al ?_ _ | with_reducible refine Below.on ?_ _ | with_reducible refine Below.st ?_ (by first | assumption | (simp; done) | (simp; omega)) _ | with_reducible refine Below.drew ?_)⟩)
      ·
        obtain rfl : 11 = vb := (VS.trans (by rw [if_pos rfl, if_pos (Or.inr hn)])).symm.trans hvb
        have e0 : s.toList.isEmpty = true := by rw [hs]; rfl
        have n0 : (n != 0) = true := by simpa using hn
        clear VS hvb
        go_enter Try.func73, Try.ntmps73
        go_wp2_with (first | (go_at_call 75; refine (known_any _ _).mono ?_; rintro e w1 ⟨rfl, hb1⟩; obtain ⟨x1, rfl⟩ := Ext.of hb1; have z0 : w.heap.size < x1.it.heap.size := x1.lt (by simp; omega); have z1 : w.heap.size + 1 < x1.it.heap.size := x1.lt (by simp)) | (go_at_call 76; refine (perm_any _ _ _ _ _).mono ?_; rintro e w2 ⟨rfl, hb2⟩; obtain ⟨x2, rfl⟩ := Ext.of hb2))
        exact bodyPost_ret (v := .int .i64 11) (by simp [results, Try.results73, go_sem, *]) rfl (⟨rfl, by repeat (first | with_reducible exact Below.refl _ _ | with_reducible assumption | with_reducible refine Below.al ?_ _ | with_reducible refine Below.on ?_ _ | with_reducible refine Below.st ?_ (by first | assumption | (simp; done) | (simp; omega)) _ | with_reducible refine Below.drew ?_)⟩)
    · by_cases hn : n = 0
      ·
        obtain rfl : 11 = vb := (VS.trans (by rw [if_pos rfl, if_pos (Or.inl hs)])).symm.trans hvb
        have e0 : s.toList.isEmpty = false := by cases hx : s.toList with | nil => exact absurd hx hs | cons _ _ => rfl
        have n0 : (n != 0) = false := by simpa using hn
        clear VS hvb
        go_enter Try.func73, Try.ntmps73
        go_wp2_with (first | (go_at_call 75; refine (known_any _ _).mono ?_; rintro e w1 ⟨rfl, hb1⟩; obtain ⟨x1, rfl⟩ := Ext.of hb1; have z0 : w.heap.size < x1.it.heap.size := x1.lt (by simp; omega); have z1 : w.heap.size + 1 < x1.it.heap.size := x1.lt (by simp)) | (go_at_call 76; refine (perm_any _ _ _ _ _).mono ?_; rintro e w2 ⟨rfl, hb2⟩; obtain ⟨x2, rfl⟩ := Ext.of hb2))
        exact bodyPost_ret (v := .int .i64 11) (by simp [results, Try.results73, go_sem, *]) rfl (⟨rfl, by repeat (first | with_reducible exact Below.refl _ _ | with_reducible assumption | with_reducible refine Below.al ?_ _ | with_reducible refine Below.on ?_ _ | with_reducible refine Below.st ?_ (by first | assumption | (simp; done) | (simp; omega)) _ | with_reducible refine Below.drew ?_)⟩)
      ·
        obtain rfl : 11 = vb := (VS.trans (by rw [if_pos rfl, if_pos (Or.inl hs)])).symm.trans hvb
        have e0 : s.toList.isEmpty = false := by cases hx : s.toList with | nil => exact absurd hx hs | cons _ _ => rfl
        have n0 : (n != 0) = true := by simpa using hn
        clear VS hvb
        go_enter Try.func73, Try.ntmps73
        go_wp2_with (first | (go_at_call 75; refine (known_any _ _).mono ?_; rintro e w1 ⟨rfl, hb1⟩; obtain ⟨x1, rfl⟩ := Ext.of hb1; have z0 : w.heap.size < x1.it.heap.size := x1.lt (by simp; omega); have z1 : w.heap.size + 1 < x1.it.heap.size := x1.lt (by simp)) | (go_at_call 76; refine (perm_any _ _ _ _ _).mono ?_; rintro e w2 ⟨rfl, hb2⟩; obtain ⟨x2, rfl⟩ := Ext.of hb2))
        exact bodyPost_ret (v := .int .i64 11) (by simp [results, Try.results73, go_sem, *]) rfl (⟨rfl, by repeat (first | with_reducible exact Below.refl _ _ | with_reducible assumption | with_reducible refine Below.al ?_ _ | with_reducible refine Below.on ?_ _ | with_reducible refine Below.st ?_ (by first | assumption | (simp; done) | (simp; omega)) _ | with_reducible refine Below.drew ?_)⟩)
  | false =>
    by_cases h3 : ty = 3
    · by_cases hn : n = 0
      · cases hp : permF ty n s
        ·
          obtain rfl : 4 = vb := (VS.trans (by rw [if_neg (by decide), if_neg (by simp [h3, hn]), if_neg (by rw [hp]; decide)])).symm.trans hvb
          have u0 : (ty != 3) = false := by simpa using h3
          have u1 : (ty == 3) = true := by simpa using h3
          have n0 : (n != 0) = false := by simpa using hn
          clear VS hvb h3 hn
          go_enter Try.func73, Try.ntmps73
          go_wp2_with (first | (go_at_call 75; refine (known_any _ _).mono ?_; rintro e w1 ⟨rfl, hb1⟩; obtain ⟨x1, rfl⟩ := Ext.of hb1; have z0 : w.heap.size < x1.it.heap.size := x1.lt (by simp; omega); have z1 : w.heap.size + 1 < x1.it.heap.size := x1.lt (by simp)) | (go_at_call 76; refine (perm_any _ _ _ _ _).mono ?_; rintro e w2 ⟨rfl, hb2⟩; obtain ⟨x2, rfl⟩ := Ext.of hb2))
          exact bodyPost_ret (v := .int .i64 4) (by simp [results, Try.results73, go_sem, *]) rfl (⟨rfl, by repeat (first | with_reducible exact Below.refl _ _ | with_reducible assumption | with_reducible refine Below.al ?_ _ | with_reducible refine Below.on ?_ _ | with_reducible refine Below.st ?_ (by first | assumption | (simp; done) | (simp; omega)) _ | with_reducible refine Below.drew ?_)⟩)
        ·
          obtain rfl : 0 = vb := (VS.trans (by rw [if_neg (by decide), if_neg (by simp [h3, hn]), if_pos hp])).symm.trans hvb
          have u0 : (ty != 3) = false := by simpa using h3
          have u1 : (ty == 3) = true := by simpa using h3
          have n0 : (n != 0) = false := by simpa using hn
          clear VS hvb h3 hn
          go_enter Try.func73, Try.ntmps73
          go_wp2_with (first | (go_at_call 75; refine (known_any _ _).mono ?_; rintro e w1 ⟨rfl, hb1⟩; obtain ⟨x1, rfl⟩ := Ext.of hb1; have z0 : w.heap.size < x1.it.heap.size := x1.lt (by simp; omega); have z1 : w.heap.size + 1 < x1.it.heap.size := x1.lt (by simp)) | (go_at_call 76; refine (perm_any _ _ _ _ _).mono ?_; rintro e w2 ⟨rfl, hb2⟩; obtain ⟨x2, rfl⟩ := Ext.of hb2))
          exact bodyPost_ret (v := .int .i64 0) (by simp [results, Try.results73, go_sem, *]) rfl (⟨rfl, by repeat (first | with_reducible exact Below.refl _ _ | with_reducible assumption | with_reducible refine Below.al ?_ _ | with_reducible refine Below.on ?_ _ | with_reducible refine Below.st ?_ (by first | assumption | (simp; done) | (simp; omega)) _ | with_reducible refine Below.drew ?_)⟩)
      ·
        obtain rfl : 11 = vb := (VS.trans (by rw [if_neg (by decide), if_pos (Or.inr ⟨h3, hn⟩)])).symm.trans hvb
        have u0 : (ty != 3) = false := by simpa using h3
        have u1 : (ty == 3) = true := by simpa using h3
        have n0 : (n != 0) = true := by simpa using hn
        clear VS hvb
        go_enter Try.func73, Try.ntmps73
        go_wp2_with (first | (go_at_call 75; refine (known_any _ _).mono ?_; rintro e w1 ⟨rfl, hb1⟩; obtain ⟨x1, rfl⟩ := Ext.of hb1; have z0 : w.heap.size < x1.it.heap.size := x1.lt (by simp; omega); have z1 : w.heap.size + 1 < x1.it.heap.size := x1.lt (by simp)) | (go_at_call 76; refine (perm_any _ _ _ _ _).mono ?_; rintro e w2 ⟨rfl, hb2⟩; obtain ⟨x2, rfl⟩ := Ext.of hb2))
        exact bodyPost_ret (v := .int .i64 11) (by simp [results, Try.results73, go_sem, *]) rfl (⟨rfl, by repeat (first | with_reducible exact Below.refl _ _ | with_reducible assumption | with_reducible refine Below.al ?_ _ | with_reducible refine Below.on ?_ _ | with_reducible refine Below.st ?_ (by first | assumption | (simp; done) | (simp; omega)) _ | with_reducible refine Below.drew ?_)⟩)
    · by_cases hs : s.toList = []
      · cases hp : permF ty n s
        ·
          obtain rfl : 4 = vb := (VS.trans (by rw [if_neg (by decide), if_neg (by simp [h3, hs]), if_neg (by rw [hp]; decide)])).symm.trans hvb
          have u0 : (ty != 3) = true := by simpa using h3
          have u1 : (ty == 3) = false := by simpa using h3
          have e0 : s.toList.isEmpty = true := by rw [hs]; rfl
          clear VS hvb
          go_enter Try.func73, Try.ntmps73
          go_wp2_with (first | (go_at_call 75; refine (known_any _ _).mono ?_; rintro e w1 ⟨rfl, hb1⟩; obtain ⟨x1, rfl⟩ := Ext.of hb1; have z0 : w.heap.size < x1.it.heap.size := x1.lt (by simp; omega); have z1 : w.heap.size + 1 < x1.it.heap.size := x1.lt (by simp)) | (go_at_call 76; refine (perm_any _ _ _ _ _).mono ?_; rintro e w2 ⟨rfl, hb2⟩; obtain ⟨x2, rfl⟩ := Ext.of hb2))
          exact bodyPost_ret (v := .int .i64 4) (by simp [results, Try.results73, go_sem, *]) rfl (⟨rfl, by repeat (first | with_reducible exact Below.refl _ _ | with_reducible assumption | with_reducible refine Below.al ?_ _ | with_reducible refine Below.on ?_ _ | with_reducible refine Below.st ?_ (by first | assumption | (simp; done) | (simp; omega)) _ | with_reducible refine Below.drew ?_)⟩)
        ·
          obtain rfl : 0 = vb := (VS.trans (by rw [if_neg (by decide), if_neg (by simp [h3, hs]), if_pos hp])).symm.trans hvb
          have u0 : (ty != 3) = true := by simpa using h3
          have u1 : (ty == 3) = false := by simpa using h3
          have e0 : s.toList.isEmpty = true := by rw [hs]; rfl
          clear VS hvb
          go_enter Try.func73, Try.ntmps73
          go_wp2_with (first | (go_at_call 75; refine (known_any _ _).mono ?_; rintro e w1 ⟨rfl, hb1⟩; obtain ⟨x1, rfl⟩ := Ext.of hb1; have z0 : w.heap.size < x1.it.heap.size := x1.lt (by simp; omega); have z1 : w.heap.size + 1 < x1.it.heap.size := x1.lt (by simp)) | (go_at_call 76; refine (perm_any _ _ _ _ _).mono ?_; rintro e w2 ⟨rfl, hb2⟩; obtain ⟨x2, rfl⟩ := Ext.of hb2))
          exact bodyPost_ret (v := .int .i64 0) (by simp [results, Try.results73, go_sem, *]) rfl (⟨rfl, by repeat (first | with_reducible exact Below.refl _ _ | with_reducible assumption | with_reducible refine Below.al ?_ _ | with_reducible refine Below.on ?_ _ | with_reducible refine Below.st ?_ (by first | assumption | (simp; done) | (simp; omega)) _ | with_reducible refine Below.drew ?_)⟩)
      ·
        obtain rfl : 11 = vb := (VS.trans (by rw [if_neg (by decide), if_pos (Or.inl ⟨h3, hs⟩)])).symm.trans hvb
        have u0 : (ty != 3) = true := by simpa using h3
        have u1 : (ty == 3) = false := by simpa using h3
        have e0 : s.toList.isEmpty = false := by cases hx : s.toList with | nil => exact absurd hx hs | cons _ _ => rfl
        clear VS hvb
        go_enter Try.func73, Try.ntmps73
        go_wp2_with (first | (go_at_call 75; refine (known_any _ _).mono ?_; rintro e w1 ⟨rfl, hb1⟩; obtain ⟨x1, rfl⟩ := Ext.of hb1; have z0 : w.heap.size < x1.it.heap.size := x1.lt (by simp; omega); have z1 : w.heap.size + 1 < x1.it.heap.size := x1.lt (by simp)) | (go_at_call 76; refine (perm_any _ _ _ _ _).mono ?_; rintro e w2 ⟨rfl, hb2⟩; obtain ⟨x2, rfl⟩ := Ext.of hb2))
        exact bodyPost_ret (v := .int .i64 11) (by simp [results, Try.results73, go_sem, *]) rfl (⟨rfl, by repeat (first | with_reducible exact Below.refl _ _ | with_reducible assumption | with_reducible refine Below.al ?_ _ | with_reducible refine Below.on ?_ _ | with_reducible refine Below.st ?_ (by first | assumption | (simp; done) | (simp; omega)) _ | with_reducible refine Below.drew ?_)⟩)
set_option maxRecDepth 8000 in
set_option maxHeartbeats 4000000 in
theorem refVcheck_any (cn : ByteArray) (ty sc : Int) (nul vn : Bool) (n : Int) (s : ByteArray) (w : World) : Calls Try.prog 71 #[.agg #[.string cn, .int .i64 ty, .int .i64 sc, .bool nul], .agg #[.bool vn, .int .i64 n, .string s]] w fun e w' => e = .returned (.int .i64 (vchk ty nul vn n s)) ∧ Below w.heap.size w w' := by
  obtain ⟨vb, hvb⟩ : ∃ vb, vchk ty nul vn n s = vb := ⟨_, rfl⟩
  rw [hvb]
  by_cases t0 : ty < 1 ∨ 5 < ty
  · obtain rfl : 1 = vb := (show vchk ty nul vn n s = 1 by unfold vchk; rw [if_pos t0]).symm.trans hvb
    clear hvb
    have tk : (decide (1 ≤ ty) && decide (ty ≤ 5)) = false := by rw [Bool.and_eq_false_iff]; rcases t0 with q | q; exact .inl (decide_eq_false (by omega)); exact .inr (decide_eq_false (by omega))
    clear t0
    go_enter Try.func71, Try.ntmps71
    go_wp2_with (go_at_call 68; refine (typed_any _ _).mono ?_; rintro e w1 ⟨rfl, hb1⟩; obtain ⟨x1, rfl⟩ := Ext.of hb1; have z0 : w.heap.size < x1.it.heap.size := x1.lt (by simp; omega); have z1 : w.heap.size + 1 < x1.it.heap.size := x1.lt (by simp))
    exact bodyPost_ret (v := .int .i64 1) (by simp [results, Try.results71, go_sem, *]) rfl (⟨rfl, by repeat (first | with_reducible exact Below.refl _ _ | with_reducible assumption | with_reducible refine Below.al ?_ _ | with_reducible refine Below.on ?_ _ | with_reducible refine Below.st ?_ (by first | assumption | (simp; done) | (simp; omega)) _ | with_reducible refine Below.drew ?_)⟩)
  have tk : (decide (1 ≤ ty) && decide (ty ≤ 5)) = true := by rw [decide_eq_true (by omega), decide_eq_true (by omega)]; rfl
  have T0 := Lib.hid t0
  have VS : vchk ty nul vn n s = if vn = true then (if ¬ s.toList = [] ∨ ¬ n = 0 then 11 else if nul = true then 0 else 12) else if (¬ ty = 3 ∧ ¬ s.toList = []) ∨ (ty = 3 ∧ ¬ n = 0) then 11 else if permF ty n s = true then 0 else 4 := by unfold vchk; rw [if_neg t0]
  clear t0
  cases vn with
  | true =>
    by_cases hs : s.toList = []
    · by_cases hn : n = 0
      · cases nul
        ·
          obtain rfl : 12 = vb := (VS.trans (by rw [if_pos rfl, if_neg (by simp [hs, hn]), if_neg (by decide)])).symm.trans hvb
          have e0 : s.toList.isEmpty = true := by rw [hs]; rfl
          have n0 : (n != 0) = false := by simpa using hn
          clear VS hvb
          go_enter Try.func71, Try.ntmps71
          go_wp2_with (go_at_call 68; refine (typed_any _ _).mono ?_; rintro e w1 ⟨rfl, hb1⟩; obtain ⟨x1, rfl⟩ := Ext.of hb1; have z0 : w.heap.size < x1.it.heap.size := x1.lt (by simp; omega); have z1 : w.heap.size + 1 < x1.it.heap.size := x1.lt (by simp))
          exact bodyPost_ret (v := .int .i64 12) (by simp [results, Try.results71, go_sem, *]) rfl (⟨rfl, by repeat (first | with_reducible exact Below.refl _ _ | with_reducible assumption | with_reducible refine Below.al ?_ _ | with_reducible refine Below.on ?_ _ | with_reducible refine Below.st ?_ (by first | assumption | (simp; done) | (simp; omega)) _ | with_reducible refine Below.drew ?_)⟩)
        ·
          obtain rfl : 0 = vb := (VS.trans (by rw [if_pos rfl, if_neg (by simp [hs, hn]), if_pos rfl])).symm.trans hvb
          have e0 : s.toList.isEmpty = true := by rw [hs]; rfl
          have n0 : (n != 0) = false := by simpa using hn
          clear VS hvb
          go_enter Try.func71, Try.ntmps71
          go_wp2_with (go_at_call 68; refine (typed_any _ _).mono ?_; rintro e w1 ⟨rfl, hb1⟩; obtain ⟨x1, rfl⟩ := Ext.of hb1; have z0 : w.heap.size < x1.it.heap.size := x1.lt (by simp; omega); have z1 : w.heap.size + 1 < x1.it.heap.size := x1.lt (by simp))
          exact bodyPost_ret (v := .int .i64 0) (by simp [results, Try.results71, go_sem, *]) rfl (⟨rfl, by repeat (first | with_reducible exact Below.refl _ _ | with_reducible assumption | with_reducible refine Below.al ?_ _ | with_reducible refine Below.on ?_ _ | with_reducible refine Below.st ?_ (by first | assumption | (simp; done) | (simp; omega)) _ | with_reducible refine Below.drew ?_)⟩)
      ·
        obtain rfl : 11 = vb := (VS.trans (by rw [if_pos rfl, if_pos (Or.inr hn)])).symm.trans hvb
        have e0 : s.toList.isEmpty = true := by rw [hs]; rfl
        have n0 : (n != 0) = true := by simpa using hn
        clear VS hvb
        go_enter Try.func71, Try.ntmps71
        go_wp2_with (go_at_call 68; refine (typed_any _ _).mono ?_; rintro e w1 ⟨rfl, hb1⟩; obtain ⟨x1, rfl⟩ := Ext.of hb1; have z0 : w.heap.size < x1.it.heap.size := x1.lt (by simp; omega); have z1 : w.heap.size + 1 < x1.it.heap.size := x1.lt (by simp))
        exact bodyPost_ret (v := .int .i64 11) (by simp [results, Try.results71, go_sem, *]) rfl (⟨rfl, by repeat (first | with_reducible exact Below.refl _ _ | with_reducible assumption | with_reducible refine Below.al ?_ _ | with_reducible refine Below.on ?_ _ | with_reducible refine Below.st ?_ (by first | assumption | (simp; done) | (simp; omega)) _ | with_reducible refine Below.drew ?_)⟩)
    · by_cases hn : n = 0
      ·
        obtain rfl : 11 = vb := (VS.trans (by rw [if_pos rfl, if_pos (Or.inl hs)])).symm.trans hvb
        have e0 : s.toList.isEmpty = false := by cases hx : s.toList with | nil => exact absurd hx hs | cons _ _ => rfl
        have n0 : (n != 0) = false := by simpa using hn
        clear VS hvb
        go_enter Try.func71, Try.ntmps71
        go_wp2_with (go_at_call 68; refine (typed_any _ _).mono ?_; rintro e w1 ⟨rfl, hb1⟩; obtain ⟨x1, rfl⟩ := Ext.of hb1; have z0 : w.heap.size < x1.it.heap.size := x1.lt (by simp; omega); have z1 : w.heap.size + 1 < x1.it.heap.size := x1.lt (by simp))
        exact bodyPost_ret (v := .int .i64 11) (by simp [results, Try.results71, go_sem, *]) rfl (⟨rfl, by repeat (first | with_reducible exact Below.refl _ _ | with_reducible assumption | with_reducible refine Below.al ?_ _ | with_reducible refine Below.on ?_ _ | with_reducible refine Below.st ?_ (by first | assumption | (simp; done) | (simp; omega)) _ | with_reducible refine Below.drew ?_)⟩)
      ·
        obtain rfl : 11 = vb := (VS.trans (by rw [if_pos rfl, if_pos (Or.inl hs)])).symm.trans hvb
        have e0 : s.toList.isEmpty = false := by cases hx : s.toList with | nil => exact absurd hx hs | cons _ _ => rfl
        have n0 : (n != 0) = true := by simpa using hn
        clear VS hvb
        go_enter Try.func71, Try.ntmps71
        go_wp2_with (go_at_call 68; refine (typed_any _ _).mono ?_; rintro e w1 ⟨rfl, hb1⟩; obtain ⟨x1, rfl⟩ := Ext.of hb1; have z0 : w.heap.size < x1.it.heap.size := x1.lt (by simp; omega); have z1 : w.heap.size + 1 < x1.it.heap.size := x1.lt (by simp))
        exact bodyPost_ret (v := .int .i64 11) (by simp [results, Try.results71, go_sem, *]) rfl (⟨rfl, by repeat (first | with_reducible exact Below.refl _ _ | with_reducible assumption | with_reducible refine Below.al ?_ _ | with_reducible refine Below.on ?_ _ | with_reducible refine Below.st ?_ (by first | assumption | (simp; done) | (simp; omega)) _ | with_reducible refine Below.drew ?_)⟩)
  | false =>
    by_cases h3 : ty = 3
    · by_cases hn : n = 0
      · have PS : permF ty n s = decide (s.size ≤ 64) := by unfold permF; rw [if_neg (by omega), if_neg (by omega), if_neg (by omega), if_pos h3]
        by_cases hz : s.size ≤ 64
        ·
          obtain rfl : 0 = vb := (VS.trans (by rw [if_neg (by decide), if_neg (by simp [h3, hn]), if_pos (by rw [PS]; exact decide_eq_true hz)])).symm.trans hvb
          have u0 : (ty != 3) = false := by simpa using h3
          have u1 : (ty == 3) = true := by simpa using h3
          have n0 : (n != 0) = false := by simpa using hn
          have hz' : (s.size : Int) ≤ 64 := by omega
          clear VS hvb PS
          go_enter Try.func71, Try.ntmps71
          go_wp2_with (go_at_call 68; refine (typed_any _ _).mono ?_; rintro e w1 ⟨rfl, hb1⟩; obtain ⟨x1, rfl⟩ := Ext.of hb1; have z0 : w.heap.size < x1.it.heap.size := x1.lt (by simp; omega); have z1 : w.heap.size + 1 < x1.it.heap.size := x1.lt (by simp))
          exact bodyPost_ret (v := .int .i64 0) (by simp [results, Try.results71, go_sem, *]) rfl (⟨rfl, by repeat (first | with_reducible exact Below.refl _ _ | with_reducible assumption | with_reducible refine Below.al ?_ _ | with_reducible refine Below.on ?_ _ | with_reducible refine Below.st ?_ (by first | assumption | (simp; done) | (simp; omega)) _ | with_reducible refine Below.drew ?_)⟩)
        ·
          obtain rfl : 4 = vb := (VS.trans (by rw [if_neg (by decide), if_neg (by simp [h3, hn]), if_neg (by rw [PS, decide_eq_false hz]; decide)])).symm.trans hvb
          have u0 : (ty != 3) = false := by simpa using h3
          have u1 : (ty == 3) = true := by simpa using h3
          have n0 : (n != 0) = false := by simpa using hn
          have hz' : ¬ (s.size : Int) ≤ 64 := by omega
          have hb' : decide ((s.size : Int) ≤ 64) = false := decide_eq_false hz'
          clear VS hvb PS
          go_enter Try.func71, Try.ntmps71
          go_wp2_with (go_at_call 68; refine (typed_any _ _).mono ?_; rintro e w1 ⟨rfl, hb1⟩; obtain ⟨x1, rfl⟩ := Ext.of hb1; have z0 : w.heap.size < x1.it.heap.size := x1.lt (by simp; omega); have z1 : w.heap.size + 1 < x1.it.heap.size := x1.lt (by simp))
          exact bodyPost_ret (v := .int .i64 4) (by simp [results, Try.results71, go_sem, *]) rfl (⟨rfl, by repeat (first | with_reducible exact Below.refl _ _ | with_reducible assumption | with_reducible refine Below.al ?_ _ | with_reducible refine Below.on ?_ _ | with_reducible refine Below.st ?_ (by first | assumption | (simp; done) | (simp; omega)) _ | with_reducible refine Below.drew ?_)⟩)
      ·
        obtain rfl : 11 = vb := (VS.trans (by rw [if_neg (by decide), if_pos (Or.inr ⟨h3, hn⟩)])).symm.trans hvb
        have u0 : (ty != 3) = false := by simpa using h3
        have u1 : (ty == 3) = true := by simpa using h3
        have n0 : (n != 0) = true := by simpa using hn
        clear VS hvb
        go_enter Try.func71, Try.ntmps71
        go_wp2_with (go_at_call 68; refine (typed_any _ _).mono ?_; rintro e w1 ⟨rfl, hb1⟩; obtain ⟨x1, rfl⟩ := Ext.of hb1; have z0 : w.heap.size < x1.it.heap.size := x1.lt (by simp; omega); have z1 : w.heap.size + 1 < x1.it.heap.size := x1.lt (by simp))
        exact bodyPost_ret (v := .int .i64 11) (by simp [results, Try.results71, go_sem, *]) rfl (⟨rfl, by repeat (first | with_reducible exact Below.refl _ _ | with_reducible assumption | with_reducible refine Below.al ?_ _ | with_reducible refine Below.on ?_ _ | with_reducible refine Below.st ?_ (by first | assumption | (simp; done) | (simp; omega)) _ | with_reducible refine Below.drew ?_)⟩)
    · by_cases hs : s.toList = []
      · have VS2 := VS.trans (show _ = (if permF ty n s = true then 0 else 4 : Int) by rw [if_neg (by decide), if_neg (by simp [h3, hs])])
        clear VS
        have u0 : (ty != 3) = true := by simpa using h3
        have u1 : (ty == 3) = false := by simpa using h3
        have e0 : s.toList.isEmpty = true := by rw [hs]; rfl
        by_cases ht2 : ty = 2
        · skip
          by_cases hq : n = 0
          · skip
            have t2 : (ty = 2) := by omega
            have t3 : ¬ (ty = 3) := by omega
            have t4 : ¬ (ty = 4) := by omega
            have t5 : ¬ (ty = 5) := by omega
            have q0 : n = 0 := hq
            have PF : permF ty n s = true := by unfold permF; rw [if_pos t2]; simp [*]
            obtain rfl : 0 = vb := (VS2.trans (by simp [PF])).symm.trans hvb
            clear PF VS2 hvb
            go_enter Try.func71, Try.ntmps71
            go_wp2_with (go_at_call 68; refine (typed_any _ _).mono ?_; rintro e w1 ⟨rfl, hb1⟩; obtain ⟨x1, rfl⟩ := Ext.of hb1; have z0 : w.heap.size < x1.it.heap.size := x1.lt (by simp; omega); have z1 : w.heap.size + 1 < x1.it.heap.size := x1.lt (by simp))
            exact bodyPost_ret (v := .int .i64 0) (by simp [results, Try.results71, go_sem, *]) rfl (⟨rfl, by repeat (first | with_reducible exact Below.refl _ _ | with_reducible assumption | with_reducible refine Below.al ?_ _ | with_reducible refine Below.on ?_ _ | with_reducible refine Below.st ?_ (by first | assumption | (simp; done) | (simp; omega)) _ | with_reducible refine Below.drew ?_)⟩)
          by_cases hq : ¬ n = 0 ∧ n = 1
          · skip
            have t2 : (ty = 2) := by omega
            have t3 : ¬ (ty = 3) := by omega
            have t4 : ¬ (ty = 4) := by omega
            have t5 : ¬ (ty = 5) := by omega
            have q0 : ¬ n = 0 := hq.1
            have q1 : n = 1 := hq.2
            have PF : permF ty n s = true := by unfold permF; rw [if_pos t2]; simp [*]
            obtain rfl : 0 = vb := (VS2.trans (by simp [PF])).symm.trans hvb
            clear PF VS2 hvb
            go_enter Try.func71, Try.ntmps71
            go_wp2_with (go_at_call 68; refine (typed_any _ _).mono ?_; rintro e w1 ⟨rfl, hb1⟩; obtain ⟨x1, rfl⟩ := Ext.of hb1; have z0 : w.heap.size < x1.it.heap.size := x1.lt (by simp; omega); have z1 : w.heap.size + 1 < x1.it.heap.size := x1.lt (by simp))
            exact bodyPost_ret (v := .int .i64 0) (by simp [results, Try.results71, go_sem, *]) rfl (⟨rfl, by repeat (first | with_reducible exact Below.refl _ _ | with_reducible assumption | with_reducible refine Below.al ?_ _ | with_reducible refine Below.on ?_ _ | with_reducible refine Below.st ?_ (by first | assumption | (simp; done) | (simp; omega)) _ | with_reducible refine Below.drew ?_)⟩)
          have hq : ¬ n = 0 ∧ ¬ n = 1 := by omega
          have t2 : (ty = 2) := by omega
          have t3 : ¬ (ty = 3) := by omega
          have t4 : ¬ (ty = 4) := by omega
          have t5 : ¬ (ty = 5) := by omega
          have q0 : ¬ n = 0 := hq.1
          have q1 : ¬ n = 1 := hq.2
          have q2 : (n == 1) = false := by simpa using hq.2
          have q3 : (n == 0) = false := by simpa using hq.1
          have PF : permF ty n s = false := by unfold permF; rw [if_pos t2]; simp [*]
          obtain rfl : 4 = vb := (VS2.trans (by simp [PF])).symm.trans hvb
          clear PF VS2 hvb
          go_enter Try.func71, Try.ntmps71
          go_wp2_with (go_at_call 68; refine (typed_any _ _).mono ?_; rintro e w1 ⟨rfl, hb1⟩; obtain ⟨x1, rfl⟩ := Ext.of hb1; have z0 : w.heap.size < x1.it.heap.size := x1.lt (by simp; omega); have z1 : w.heap.size + 1 < x1.it.heap.size := x1.lt (by simp))
          exact bodyPost_ret (v := .int .i64 4) (by simp [results, Try.results71, go_sem, *]) rfl (⟨rfl, by repeat (first | with_reducible exact Below.refl _ _ | with_reducible assumption | with_reducible refine Below.al ?_ _ | with_reducible refine Below.on ?_ _ | with_reducible refine Below.st ?_ (by first | assumption | (simp; done) | (simp; omega)) _ | with_reducible refine Below.drew ?_)⟩)
        by_cases ht4 : ty = 4
        · skip
          by_cases hq : n < -719162
          · skip
            have t2 : ¬ (ty = 2) := by omega
            have t3 : ¬ (ty = 3) := by omega
            have t4 : (ty = 4) := by omega
            have t5 : ¬ (ty = 5) := by omega
            have q0 : ¬ ((-719162 : Int) ≤ n) := by omega
            have PF : permF ty n s = false := by unfold permF; rw [if_neg t2, if_pos t4]; simp; omega
            obtain rfl : 4 = vb := (VS2.trans (by simp [PF])).symm.trans hvb
            clear PF VS2 hvb
            go_enter Try.func71, Try.ntmps71
            go_wp2_with (go_at_call 68; refine (typed_any _ _).mono ?_; rintro e w1 ⟨rfl, hb1⟩; obtain ⟨x1, rfl⟩ := Ext.of hb1; have z0 : w.heap.size < x1.it.heap.size := x1.lt (by simp; omega); have z1 : w.heap.size + 1 < x1.it.heap.size := x1.lt (by simp))
            exact bodyPost_ret (v := .int .i64 4) (by simp [results, Try.results71, go_sem, *]) rfl (⟨rfl, by repeat (first | with_reducible exact Below.refl _ _ | with_reducible assumption | with_reducible refine Below.al ?_ _ | with_reducible refine Below.on ?_ _ | with_reducible refine Below.st ?_ (by first | assumption | (simp; done) | (simp; omega)) _ | with_reducible refine Below.drew ?_)⟩)
          by_cases hq : ¬ n < -719162 ∧ 2932896 < n
          · skip
            have t2 : ¬ (ty = 2) := by omega
            have t3 : ¬ (ty = 3) := by omega
            have t4 : (ty = 4) := by omega
            have t5 : ¬ (ty = 5) := by omega
            have q0 : ((-719162 : Int) ≤ n) := by omega
            have q1 : ¬ (n ≤ 2932896) := by omega
            have q2 : decide (n ≤ 2932896) = false := decide_eq_false q1
            have PF : permF ty n s = false := by unfold permF; rw [if_neg t2, if_pos t4]; simp; omega
            obtain rfl : 4 = vb := (VS2.trans (by simp [PF])).symm.trans hvb
            clear PF VS2 hvb
            go_enter Try.func71, Try.ntmps71
            go_wp2_with (go_at_call 68; refine (typed_any _ _).mono ?_; rintro e w1 ⟨rfl, hb1⟩; obtain ⟨x1, rfl⟩ := Ext.of hb1; have z0 : w.heap.size < x1.it.heap.size := x1.lt (by simp; omega); have z1 : w.heap.size + 1 < x1.it.heap.size := x1.lt (by simp))
            exact bodyPost_ret (v := .int .i64 4) (by simp [results, Try.results71, go_sem, *]) rfl (⟨rfl, by repeat (first | with_reducible exact Below.refl _ _ | with_reducible assumption | with_reducible refine Below.al ?_ _ | with_reducible refine Below.on ?_ _ | with_reducible refine Below.st ?_ (by first | assumption | (simp; done) | (simp; omega)) _ | with_reducible refine Below.drew ?_)⟩)
          have hq : ¬ n < -719162 ∧ ¬ 2932896 < n := by omega
          have t2 : ¬ (ty = 2) := by omega
          have t3 : ¬ (ty = 3) := by omega
          have t4 : (ty = 4) := by omega
          have t5 : ¬ (ty = 5) := by omega
          have q0 : ((-719162 : Int) ≤ n) := by omega
          have q1 : n ≤ 2932896 := by omega
          have PF : permF ty n s = true := by unfold permF; rw [if_neg t2, if_pos t4]; simp; omega
          obtain rfl : 0 = vb := (VS2.trans (by simp [PF])).symm.trans hvb
          clear PF VS2 hvb
          go_enter Try.func71, Try.ntmps71
          go_wp2_with (go_at_call 68; refine (typed_any _ _).mono ?_; rintro e w1 ⟨rfl, hb1⟩; obtain ⟨x1, rfl⟩ := Ext.of hb1; have z0 : w.heap.size < x1.it.heap.size := x1.lt (by simp; omega); have z1 : w.heap.size + 1 < x1.it.heap.size := x1.lt (by simp))
          exact bodyPost_ret (v := .int .i64 0) (by simp [results, Try.results71, go_sem, *]) rfl (⟨rfl, by repeat (first | with_reducible exact Below.refl _ _ | with_reducible assumption | with_reducible refine Below.al ?_ _ | with_reducible refine Below.on ?_ _ | with_reducible refine Below.st ?_ (by first | assumption | (simp; done) | (simp; omega)) _ | with_reducible refine Below.drew ?_)⟩)
        by_cases ht5 : ty = 5
        · skip
          by_cases hq : n < -999999999999999999
          · skip
            have t2 : ¬ (ty = 2) := by omega
            have t3 : ¬ (ty = 3) := by omega
            have t4 : ¬ (ty = 4) := by omega
            have t5 : (ty = 5) := by omega
            have q0 : ¬ ((-999999999999999999 : Int) ≤ n) := by omega
            have PF : permF ty n s = false := by unfold permF; rw [if_neg t2, if_neg t4, if_pos t5]; simp; omega
            obtain rfl : 4 = vb := (VS2.trans (by simp [PF])).symm.trans hvb
            clear PF VS2 hvb
            go_enter Try.func71, Try.ntmps71
            go_wp2_with (go_at_call 68; refine (typed_any _ _).mono ?_; rintro e w1 ⟨rfl, hb1⟩; obtain ⟨x1, rfl⟩ := Ext.of hb1; have z0 : w.heap.size < x1.it.heap.size := x1.lt (by simp; omega); have z1 : w.heap.size + 1 < x1.it.heap.size := x1.lt (by simp))
            exact bodyPost_ret (v := .int .i64 4) (by simp [results, Try.results71, go_sem, *]) rfl (⟨rfl, by repeat (first | with_reducible exact Below.refl _ _ | with_reducible assumption | with_reducible refine Below.al ?_ _ | with_reducible refine Below.on ?_ _ | with_reducible refine Below.st ?_ (by first | assumption | (simp; done) | (simp; omega)) _ | with_reducible refine Below.drew ?_)⟩)
          by_cases hq : ¬ n < -999999999999999999 ∧ 999999999999999999 < n
          · skip
            have t2 : ¬ (ty = 2) := by omega
            have t3 : ¬ (ty = 3) := by omega
            have t4 : ¬ (ty = 4) := by omega
            have t5 : (ty = 5) := by omega
            have q0 : ((-999999999999999999 : Int) ≤ n) := by omega
            have q1 : ¬ (n ≤ 999999999999999999) := by omega
            have q2 : decide (n ≤ 999999999999999999) = false := decide_eq_false q1
            have PF : permF ty n s = false := by unfold permF; rw [if_neg t2, if_neg t4, if_pos t5]; simp; omega
            obtain rfl : 4 = vb := (VS2.trans (by simp [PF])).symm.trans hvb
            clear PF VS2 hvb
            go_enter Try.func71, Try.ntmps71
            go_wp2_with (go_at_call 68; refine (typed_any _ _).mono ?_; rintro e w1 ⟨rfl, hb1⟩; obtain ⟨x1, rfl⟩ := Ext.of hb1; have z0 : w.heap.size < x1.it.heap.size := x1.lt (by simp; omega); have z1 : w.heap.size + 1 < x1.it.heap.size := x1.lt (by simp))
            exact bodyPost_ret (v := .int .i64 4) (by simp [results, Try.results71, go_sem, *]) rfl (⟨rfl, by repeat (first | with_reducible exact Below.refl _ _ | with_reducible assumption | with_reducible refine Below.al ?_ _ | with_reducible refine Below.on ?_ _ | with_reducible refine Below.st ?_ (by first | assumption | (simp; done) | (simp; omega)) _ | with_reducible refine Below.drew ?_)⟩)
          have hq : ¬ n < -999999999999999999 ∧ ¬ 999999999999999999 < n := by omega
          have t2 : ¬ (ty = 2) := by omega
          have t3 : ¬ (ty = 3) := by omega
          have t4 : ¬ (ty = 4) := by omega
          have t5 : (ty = 5) := by omega
          have q0 : ((-999999999999999999 : Int) ≤ n) := by omega
          have q1 : n ≤ 999999999999999999 := by omega
          have PF : permF ty n s = true := by unfold permF; rw [if_neg t2, if_neg t4, if_pos t5]; simp; omega
          obtain rfl : 0 = vb := (VS2.trans (by simp [PF])).symm.trans hvb
          clear PF VS2 hvb
          go_enter Try.func71, Try.ntmps71
          go_wp2_with (go_at_call 68; refine (typed_any _ _).mono ?_; rintro e w1 ⟨rfl, hb1⟩; obtain ⟨x1, rfl⟩ := Ext.of hb1; have z0 : w.heap.size < x1.it.heap.size := x1.lt (by simp; omega); have z1 : w.heap.size + 1 < x1.it.heap.size := x1.lt (by simp))
          exact bodyPost_ret (v := .int .i64 0) (by simp [results, Try.results71, go_sem, *]) rfl (⟨rfl, by repeat (first | with_reducible exact Below.refl _ _ | with_reducible assumption | with_reducible refine Below.al ?_ _ | with_reducible refine Below.on ?_ _ | with_reducible refine Below.st ?_ (by first | assumption | (simp; done) | (simp; omega)) _ | with_reducible refine Below.drew ?_)⟩)
        have t2 : ¬ (ty = 2) := by omega
        have t3 : ¬ (ty = 3) := by omega
        have t4 : ¬ (ty = 4) := by omega
        have t5 : ¬ (ty = 5) := by omega
        have PF : permF ty n s = true := by unfold permF; rw [if_neg t2, if_neg t4, if_neg t5, if_neg t3]
        obtain rfl : 0 = vb := (VS2.trans (by simp [PF])).symm.trans hvb
        clear PF VS2 hvb
        go_enter Try.func71, Try.ntmps71
        go_wp2_with (go_at_call 68; refine (typed_any _ _).mono ?_; rintro e w1 ⟨rfl, hb1⟩; obtain ⟨x1, rfl⟩ := Ext.of hb1; have z0 : w.heap.size < x1.it.heap.size := x1.lt (by simp; omega); have z1 : w.heap.size + 1 < x1.it.heap.size := x1.lt (by simp))
        exact bodyPost_ret (v := .int .i64 0) (by simp [results, Try.results71, go_sem, *]) rfl (⟨rfl, by repeat (first | with_reducible exact Below.refl _ _ | with_reducible assumption | with_reducible refine Below.al ?_ _ | with_reducible refine Below.on ?_ _ | with_reducible refine Below.st ?_ (by first | assumption | (simp; done) | (simp; omega)) _ | with_reducible refine Below.drew ?_)⟩)
      ·
        obtain rfl : 11 = vb := (VS.trans (by rw [if_neg (by decide), if_pos (Or.inl ⟨h3, hs⟩)])).symm.trans hvb
        have u0 : (ty != 3) = true := by simpa using h3
        have u1 : (ty == 3) = false := by simpa using h3
        have e0 : s.toList.isEmpty = false := by cases hx : s.toList with | nil => exact absurd hx hs | cons _ _ => rfl
        clear VS hvb
        go_enter Try.func71, Try.ntmps71
        go_wp2_with (go_at_call 68; refine (typed_any _ _).mono ?_; rintro e w1 ⟨rfl, hb1⟩; obtain ⟨x1, rfl⟩ := Ext.of hb1; have z0 : w.heap.size < x1.it.heap.size := x1.lt (by simp; omega); have z1 : w.heap.size + 1 < x1.it.heap.size := x1.lt (by simp))
        exact bodyPost_ret (v := .int .i64 11) (by simp [results, Try.results71, go_sem, *]) rfl (⟨rfl, by repeat (first | with_reducible exact Below.refl _ _ | with_reducible assumption | with_reducible refine Below.al ?_ _ | with_reducible refine Below.on ?_ _ | with_reducible refine Below.st ?_ (by first | assumption | (simp; done) | (simp; omega)) _ | with_reducible refine Below.drew ?_)⟩)
end Go.Proofs.Ytgooffpmiilicaa
