/-
  WideExamples, WideArithmetic, WideSmall, WideOrder: each returns true for all arguments and leaves them as they were. Conditions: none.
-/
import Derived.Test.YtapjndhbdpbjcaaGroup
import Derived.Test.YtapjndhbdpbjcaaFloat
namespace Go.Proofs.Ytapjndhbdpbjcaa
open Go.RowKit Go.ChangeShapes Go.WideShapes Go.ChangeAt

theorem eqW_self (a b : Int) : eqW a b a b = true := eqW_of rfl rfl
theorem isI_of {n : Int} (h : -9223372036854775808 ≤ n ∧ n < 9223372036854775808) : isI n := h

/-! ### WideExamples -/
theorem isI_ofHi1 : isI (addHi (ofHi 9223372036854775807) (ofLo 9223372036854775807) (ofHi 1) (ofLo 1)) := isI_addHi _ _ _ _
set_option maxHeartbeats 1000000 in
theorem examples_walk (w : World) : Calls Try.prog 5 #[] w fun e w' => e = .returned (.bool true) ∧ Below w.heap.size w w' := by
  have q0 : addHi (ofHi 9223372036854775807) (ofLo 9223372036854775807) (ofHi 1) (ofLo 1) = 0 := by decide +kernel
  have q1 : addLo (ofLo 9223372036854775807) (ofLo 1) = 9223372036854775808 := by decide +kernel
  have q2 : fitsB 0 9223372036854775808 = false := by decide +kernel
  have q3 : sgnTxt 0 ++ fmtTxt (absN 0 9223372036854775808) = ⟨#[57, 50, 50, 51, 51, 55, 50, 48, 51, 54, 56, 53, 52, 55, 55, 53, 56, 48, 56]⟩ := by decide +kernel
  have q4 : eqW 0 9223372036854775808 0 9223372036854775808 = true := by decide
  have u1 : isU 9223372036854775808 := by unfold isU; omega
  have HU := Lib.hid u1
  clear u1
  go_enter Try.func5, Try.ntmps5
  go_wp2_with (first
    | (go_at_call 12; refine (of_any _ _).mono ?_; rintro e w1 ⟨rfl, hb1⟩; obtain ⟨x1, rfl⟩ := Ext.of hb1)
    | (go_at_call 10; refine (add_any _ _ _ _ (isU_ofLo _) (isU_ofLo _) _).mono ?_; rintro e w3 ⟨rfl, hb3⟩; obtain ⟨x3, rfl⟩ := Ext.of hb3)
    | (go_at_call 14; refine (int_any _ _ _).mono ?_; rintro e w4 ⟨rfl, hb4⟩; obtain ⟨x4, rfl⟩ := Ext.of hb4)
    | (go_at_call 15; refine (format_any _ _ isI_0 HU.out _).mono ?_; rintro e w2 ⟨rfl, hb2⟩; obtain ⟨x2, rfl⟩ := Ext.of hb2))
  go_ret
  exact ⟨rfl, by repeat (first | exact Below.refl _ _ | apply Below.al | apply Below.on | (refine Below.st ?_ (by first | assumption | (simp; done) | (simp; omega)) _) | apply Below.drew)⟩
set_option maxRecDepth 100000 in
theorem wideExamples_lifted (os : Os) (started : os.Started) (H : Type) (enc : TypeId × Value → H) :
    ReturnsInHanded {} Try.checked os 5 .any (Rows.wideExamplesSpec.pre6 enc Try.prog Try.f5 Rows.wideExamplesRow.domain false) (Rows.wideExamplesSpec.post enc Try.prog Try.f5 false true false false) := by
  refine lifted_of_walk (C := Try.checked) (tb := 4) own started (by kernel_rfl) Try.func5
    (ChangeSpec.witness6 (enc := enc) (C := Try.checked) false ⟨#[], #[], []⟩ 8 (by kernel_rfl) (by kernel_rfl) (by kernel_rfl) (by kernel_rfl))
    laid (params_ok (by kernel_rfl)) (by kernel_rfl) Try.underlying4 rfl
    (fun ds hds => by match ds, hds with | [], _ => exact ⟨rfl, rfl, rfl⟩) ?_
  intro W base args ds ps hval0 hA0
  have hval : ∀ (j : Nat) t v, Try.f5.params[j]? = some t → args[j]? = some v → Value.okWide Try.prog W .any base t v := hval0
  have hA : DataW.TrodAll enc Try.prog W 0 (fun _ => true) true Try.f5.params.toList args.toList ds ps := hA0
  rw [Try.params5] at hA hval
  obtain ⟨hargs, rfl, rfl⟩ := trodAll_nil hA
  obtain rfl : args = #[] := by cases args; simp_all
  exact examples_walk W

theorem wideExamples_holds : Rows.WideExamplesSaid :=
  OpenClaim.holds_of_wide 5 Try.f5 rfl rfl rfl rfl rfl rfl rfl ⟨rfl, rfl, rfl, rfl, rfl⟩ rfl rfl rfl rfl rfl (by kernel_rfl) Try.func5 (by kernel_rfl)
    (of_decide_eq_true (by kernel_rfl)) (by unfold Func.isWrapper; first | (rw [if_pos (by decide +kernel)]; kernel_rfl) | (rw [if_neg (by decide +kernel)]; exact ⟨rfl, rfl⟩))
    (fun os started H enc _ => wideExamples_lifted os started H enc)
#print axioms wideExamples_holds

/-! ### WideArithmetic -/
set_option maxHeartbeats 2000000 in
theorem arithmetic_walk (h1 l1 h2 l2 n : Int) (a1 : isI h1) (b1 : isU l1) (b2 : isU l2) (w : World) :
    Calls Try.prog 7 #[.agg #[.int .i64 h1, .int .u64 l1], .agg #[.int .i64 h2, .int .u64 l2], .int .i64 n] w fun e w' => e = .returned (.bool true) ∧ Below w.heap.size w w' := by
  have E := eqW_self
  have HB := Lib.hid (And.intro a1 (And.intro b1 b2))
  clear a1 b1 b2
  go_enter Try.func7, Try.ntmps7
  go_wp2_with (first
    | (go_at_call 14; refine (int_any _ _ _).mono ?_; rintro e w4 ⟨rfl, hb4⟩; obtain ⟨x4, rfl⟩ := Ext.of hb4; have z3 : w.heap.size < x4.it.heap.size := x4.lt (by simp <;> omega); have z0 : w.heap.size + 1 < x4.it.heap.size := x4.lt (by simp <;> omega))
    | (go_at_call 17; refine (refInt_any _ _ _).mono ?_; rintro e w5 ⟨rfl, hb5⟩; obtain ⟨x5, rfl⟩ := Ext.of hb5; have z1 : w.heap.size + 1 < x5.it.heap.size := x5.lt z0; have z2 : w.heap.size < x5.it.heap.size := x5.lt z3))
  refine wp_region_ext (by kernel_rfl) (by kernel_rfl) ?_
  repeat (go_big_quiet_step ((first
    | (go_at_call 9; exact Calls.ext (awake_any _))
    | (go_at_call 12; exact Calls.ext (of_any _ _))
    | (go_at_call 18; exact Calls.ext (refOf_any _ _))
    | (go_at_call 10; exact Calls.ext (add_any _ _ _ _ HB.out.2.1 HB.out.2.2 _))
    | (go_at_call 19; exact Calls.ext (refAdd_any _ _ _ _ HB.out.2.1 HB.out.2.2 _))
    | (go_at_call 11; exact Calls.ext (neg_any _ _ HB.out.1 HB.out.2.1 _))
    | (go_at_call 20; exact Calls.ext (refNeg_any _ _ HB.out.1 HB.out.2.1 _))
    | (go_at_call 16; exact Calls.ext (compare_any _ _ _ _ _))
    | (go_at_call 21; exact Calls.ext (refCompare_any _ _ _ _ _)))))
  refine wpQuiet_nil ?_
  rintro _ ⟨x, rfl⟩
  go_wp2
  go_ret
  exact ⟨rfl, by repeat (first | exact Below.refl _ _ | apply Below.al | apply Below.on | (refine Below.st ?_ (by first | assumption | (simp; done) | (simp; omega)) _) | apply Below.drew)⟩
set_option maxRecDepth 100000 in
theorem wideArithmetic_lifted (os : Os) (started : os.Started) (H : Type) (enc : TypeId × Value → H) :
    ReturnsInHanded {} Try.checked os 7 .any (Rows.wideArithmeticSpec.pre6 enc Try.prog Try.f7 Rows.wideArithmeticRow.domain false) (Rows.wideArithmeticSpec.post enc Try.prog Try.f7 false true false false) := by
  refine lifted_of_walk (C := Try.checked) (tb := 4) own started (by kernel_rfl) Try.func7
    (ChangeSpec.witness6 (enc := enc) (C := Try.checked) false ⟨#[], #[.agg #[.int .i64 0, .int .u64 0], .agg #[.int .i64 0, .int .u64 0], .int .i64 0], []⟩ 8 (by kernel_rfl) (by kernel_rfl) (by kernel_rfl) (by kernel_rfl))
    laid (params_ok (by kernel_rfl)) (by kernel_rfl) Try.underlying4 rfl
    (fun ds hds => by match ds, hds with | [d0, d1, d2], _ => exact ⟨rfl, rfl, rfl⟩) ?_
  intro W base args ds ps hval0 hA0
  have hval : ∀ (j : Nat) t v, Try.f7.params[j]? = some t → args[j]? = some v → Value.okWide Try.prog W .any base t v := hval0
  have hA : DataW.TrodAll enc Try.prog W 0 (fun _ => true) true Try.f7.params.toList args.toList ds ps := hA0
  rw [Try.params7] at hA hval
  obtain ⟨v0, vs0, d0, ds0, p0, q0, hargs, rfl, rfl, h0, r0⟩ := trodAll_cons hA
  obtain ⟨v1, vs1, d1, ds1, p1, q1, rfl, rfl, rfl, h1, r1⟩ := trodAll_cons r0
  obtain ⟨v2, vs2, d2, ds2, p2, q2, rfl, rfl, rfl, h2, r2⟩ := trodAll_cons r1
  obtain ⟨rfl, rfl, rfl⟩ := trodAll_nil r2
  obtain rfl : args = #[v0, v1, v2] := by cases args; simp_all
  obtain ⟨x0, y0, rfl, a0, b0⟩ := open_wide (hval 0 _ v0 rfl rfl) h0
  obtain ⟨x1, y1, rfl, a1, b1⟩ := open_wide (hval 1 _ v1 rfl rfl) h1
  obtain ⟨n, rfl, hn⟩ := open_i64 Try.underlying2 (hval 2 _ v2 rfl rfl) h2
  exact arithmetic_walk x0 y0 x1 y1 n a0 b0 b1 W

theorem wideArithmetic_holds : Rows.WideArithmeticSaid :=
  OpenClaim.holds_of_wide 7 Try.f7 rfl rfl rfl rfl rfl rfl rfl ⟨rfl, rfl, rfl, rfl, rfl⟩ rfl rfl rfl rfl rfl (by kernel_rfl) Try.func7 (by kernel_rfl)
    (of_decide_eq_true (by kernel_rfl)) (by unfold Func.isWrapper; first | (rw [if_pos (by decide +kernel)]; kernel_rfl) | (rw [if_neg (by decide +kernel)]; exact ⟨rfl, rfl⟩))
    (fun os started H enc _ => wideArithmetic_lifted os started H enc)
#print axioms wideArithmetic_holds

/-! ### WideSmall -/
theorem of_pos {m : Int} (b1 : 0 ≤ m) (b2 : m < 9223372036854775808) : ofHi m = 0 ∧ ofLo m = m := by rw [ofLo_eq]; unfold ofHi; omega
theorem of_neg {m : Int} (b1 : m < 0) (b2 : -9223372036854775808 ≤ m) : ofHi m = -1 ∧ ofLo m = m + 18446744073709551616 := by rw [ofLo_eq]; unfold ofHi; omega
theorem small_add {m n : Int} (b1 : -4611686018427387904 ≤ m) (b2 : m < 4611686018427387904) (b3 : -4611686018427387904 ≤ n) (b4 : n < 4611686018427387904) :
    fitsB (addHi (ofHi m) (ofLo m) (ofHi n) (ofLo n)) (addLo (ofLo m) (ofLo n)) = true ∧ intN (addHi (ofHi m) (ofLo m) (ofHi n) (ofLo n)) (addLo (ofLo m) (ofLo n)) = m + n := by
  have h : fitsB (addHi (ofHi m) (ofLo m) (ofHi n) (ofLo n)) (addLo (ofLo m) (ofLo n)) = true := by
    unfold fitsB
    refine eqW_of ?_ ?_
    · rcases Int.lt_or_le m 0 with c | c <;> rcases Int.lt_or_le n 0 with d | d <;>
        first
          | rw [(of_neg c (by omega)).1, (of_neg c (by omega)).2, (of_neg d (by omega)).1, (of_neg d (by omega)).2]
          | rw [(of_neg c (by omega)).1, (of_neg c (by omega)).2, (of_pos d (by omega)).1, (of_pos d (by omega)).2]
          | rw [(of_pos c (by omega)).1, (of_pos c (by omega)).2, (of_neg d (by omega)).1, (of_neg d (by omega)).2]
          | rw [(of_pos c (by omega)).1, (of_pos c (by omega)).2, (of_pos d (by omega)).1, (of_pos d (by omega)).2]
      all_goals (rw [addHi_eq, addLo_eq, wrap64_eq]; unfold ofHi; omega)
    · rw [addLo_eq, wrap64_eq]; simp only [ofLo_eq]; omega
  refine ⟨h, ?_⟩
  rw [intN_yes h, addLo_eq, wrap64_eq]; simp only [ofLo_eq]; omega
theorem small_neg {m : Int} (b1 : -4611686018427387904 ≤ m) (b2 : m < 4611686018427387904) :
    fitsB (negHi (ofHi m) (ofLo m)) (negLo (ofLo m)) = true ∧ intN (negHi (ofHi m) (ofLo m)) (negLo (ofLo m)) = -m := by
  have h : fitsB (negHi (ofHi m) (ofLo m)) (negLo (ofLo m)) = true := by
    unfold fitsB
    refine eqW_of ?_ ?_
    · rcases Int.lt_or_le m 0 with c | c
      · rw [(of_neg c (by omega)).1, (of_neg c (by omega)).2, negHi_eq, negLo_eq, wrap64_eq]; unfold ofHi; omega
      · rw [(of_pos c (by omega)).1, (of_pos c (by omega)).2, negHi_eq, negLo_eq, wrap64_eq]; unfold ofHi; omega
    · rw [negLo_eq, wrap64_eq]; simp only [ofLo_eq]; omega
  refine ⟨h, ?_⟩
  rw [intN_yes h, negLo_eq, wrap64_eq]; simp only [ofLo_eq]; omega
theorem small_cmp {m n : Int} (b1 : -4611686018427387904 ≤ m) (b2 : m < 4611686018427387904) (b3 : -4611686018427387904 ≤ n) (b4 : n < 4611686018427387904) :
    orI (cmpI (ofHi m) (ofHi n)) (cmpI (ofLo m) (ofLo n)) = cmpI m n := by
  simp only [ofHi, ofLo_eq]
  unfold orI cmpI
  (repeat' split) <;> omega
set_option maxHeartbeats 2000000 in
theorem small_core (m0 n0 M N : Int) (hM : m0 / 2 = M) (hN : n0 / 2 = N) (b1 : -4611686018427387904 ≤ M) (b2 : M < 4611686018427387904) (b3 : -4611686018427387904 ≤ N) (b4 : N < 4611686018427387904) (w : World) :
    Calls Try.prog 8 #[.int .i64 m0, .int .i64 n0] w fun e w' => e = .returned (.bool true) ∧ Below w.heap.size w w' := by
  obtain ⟨s1, s2⟩ := small_add b1 b2 b3 b4
  obtain ⟨t1, t2⟩ := small_neg b1 b2
  have k1 := small_cmp b1 b2 b3 b4
  obtain ⟨p, q, hp, hq, hc⟩ : ∃ p q : Bool, decide (M < N) = p ∧ (M == N) = q ∧ ((p = true ∧ q = false ∧ cmpI M N = -1) ∨ (p = false ∧ q = true ∧ cmpI M N = 0) ∨ (p = false ∧ q = false ∧ cmpI M N = 1)) :=
    ⟨_, _, rfl, rfl, by
      rcases Int.lt_trichotomy M N with c | c | c
      · exact .inl ⟨by simpa using c, by simp; omega, if_pos c⟩
      · subst c; exact .inr (.inl ⟨by simp, by simp, by simp [cmpI]⟩)
      · exact .inr (.inr ⟨by simp; omega, by simp; omega, by unfold cmpI; rw [if_neg (by omega), if_neg (by omega)]⟩)⟩
  rcases hc with ⟨rfl, rfl, kc⟩ | ⟨rfl, rfl, kc⟩ | ⟨rfl, rfl, kc⟩
  all_goals
    rw [kc] at k1
    clear kc
    go_enter Try.func8, Try.ntmps8
    go_wp2_with (first
      | (go_at_call 12; refine (of_any _ _).mono ?_; rintro e w1 ⟨rfl, hb1⟩; obtain ⟨x1, rfl⟩ := Ext.of hb1)
      | (go_at_call 10; refine (add_any _ _ _ _ (isU_ofLo _) (isU_ofLo _) _).mono ?_; rintro e w3 ⟨rfl, hb3⟩; obtain ⟨x3, rfl⟩ := Ext.of hb3)
      | (go_at_call 11; refine (neg_any _ _ (isI_ofHi (by unfold isI; omega)) (isU_ofLo _) _).mono ?_; rintro e w6 ⟨rfl, hb6⟩; obtain ⟨x6, rfl⟩ := Ext.of hb6)
      | (go_at_call 14; refine (int_any _ _ _).mono ?_; rintro e w4 ⟨rfl, hb4⟩; obtain ⟨x4, rfl⟩ := Ext.of hb4)
      | (go_at_call 16; refine (compare_any _ _ _ _ _).mono ?_; rintro e w7 ⟨rfl, hb7⟩; obtain ⟨x7, rfl⟩ := Ext.of hb7)
      | (go_at_call 9; refine (awake_any _).mono ?_; rintro e w5 ⟨rfl, hb5⟩; obtain ⟨x5, rfl⟩ := Ext.of hb5))
    go_ret
    exact ⟨rfl, by repeat (first | exact Below.refl _ _ | apply Below.al | apply Below.on | (refine Below.st ?_ (by first | assumption | (simp; done) | (simp; omega)) _) | apply Below.drew)⟩
theorem small_walk (m n : Int) (a : -9223372036854775808 ≤ m ∧ m < 9223372036854775808) (b : -9223372036854775808 ≤ n ∧ n < 9223372036854775808) (w : World) :
    Calls Try.prog 8 #[.int .i64 m, .int .i64 n] w fun e w' => e = .returned (.bool true) ∧ Below w.heap.size w w' :=
  small_core m n _ _ rfl rfl (by omega) (by omega) (by omega) (by omega) w
set_option maxRecDepth 100000 in
theorem wideSmall_lifted (os : Os) (started : os.Started) (H : Type) (enc : TypeId × Value → H) :
    ReturnsInHanded {} Try.checked os 8 .any (Rows.wideSmallSpec.pre6 enc Try.prog Try.f8 Rows.wideSmallRow.domain false) (Rows.wideSmallSpec.post enc Try.prog Try.f8 false true false false) := by
  refine lifted_of_walk (C := Try.checked) (tb := 4) own started (by kernel_rfl) Try.func8
    (ChangeSpec.witness6 (enc := enc) (C := Try.checked) false ⟨#[], #[.int .i64 0, .int .i64 0], []⟩ 8 (by kernel_rfl) (by kernel_rfl) (by kernel_rfl) (by kernel_rfl))
    laid (params_ok (by kernel_rfl)) (by kernel_rfl) Try.underlying4 rfl
    (fun ds hds => by match ds, hds with | [d0, d1], _ => exact ⟨rfl, rfl, rfl⟩) ?_
  intro W base args ds ps hval0 hA0
  have hval : ∀ (j : Nat) t v, Try.f8.params[j]? = some t → args[j]? = some v → Value.okWide Try.prog W .any base t v := hval0
  have hA : DataW.TrodAll enc Try.prog W 0 (fun _ => true) true Try.f8.params.toList args.toList ds ps := hA0
  rw [Try.params8] at hA hval
  obtain ⟨v0, vs0, d0, ds0, p0, q0, hargs, rfl, rfl, h0, r0⟩ := trodAll_cons hA
  obtain ⟨v1, vs1, d1, ds1, p1, q1, rfl, rfl, rfl, h1, r1⟩ := trodAll_cons r0
  obtain ⟨rfl, rfl, rfl⟩ := trodAll_nil r1
  obtain rfl : args = #[v0, v1] := by cases args; simp_all
  obtain ⟨m, rfl, hm⟩ := open_i64 Try.underlying2 (hval 0 _ v0 rfl rfl) h0
  obtain ⟨n, rfl, hn⟩ := open_i64 Try.underlying2 (hval 1 _ v1 rfl rfl) h1
  exact small_walk m n hm hn W

theorem wideSmall_holds : Rows.WideSmallSaid :=
  OpenClaim.holds_of_wide 8 Try.f8 rfl rfl rfl rfl rfl rfl rfl ⟨rfl, rfl, rfl, rfl, rfl⟩ rfl rfl rfl rfl rfl (by kernel_rfl) Try.func8 (by kernel_rfl)
    (of_decide_eq_true (by kernel_rfl)) (by unfold Func.isWrapper; first | (rw [if_pos (by decide +kernel)]; kernel_rfl) | (rw [if_neg (by decide +kernel)]; exact ⟨rfl, rfl⟩))
    (fun os started H enc _ => wideSmall_lifted os started H enc)
#print axioms wideSmall_holds

/-! ### WideOrder -/
theorem ord_lt {h1 l1 h2 l2 : Int} (b1 : isU l1) (b2 : isU l2) (a1 : -4611686018427387904 ≤ h1) (a2 : h1 < 4611686018427387904) (a3 : -4611686018427387904 ≤ h2) (a4 : h2 < 4611686018427387904)
    (c : h1 < h2 ∨ (h1 = h2 ∧ l1 < l2)) : addHi h1 l1 (negHi h2 l2) (negLo l2) < 0 := by
  unfold isU at b1 b2
  rw [addHi_eq, negHi_eq, negLo_eq]; omega
theorem ord_ge {h1 l1 h2 l2 : Int} (b1 : isU l1) (b2 : isU l2) (a1 : -4611686018427387904 ≤ h1) (a2 : h1 < 4611686018427387904) (a3 : -4611686018427387904 ≤ h2) (a4 : h2 < 4611686018427387904)
    (c : ¬ (h1 < h2 ∨ (h1 = h2 ∧ l1 < l2))) : ¬ addHi h1 l1 (negHi h2 l2) (negLo l2) < 0 := by
  unfold isU at b1 b2
  rw [addHi_eq, negHi_eq, negLo_eq]; omega
theorem allocW : AllocOk Try.prog 24 #[.int .i64 0, .int .u64 0] := by
  intro ρ o w h
  obtain ⟨dst, op, type, pos, after, guard⟩ := o
  dsimp only at h
  subst h
  go_simp
set_option maxHeartbeats 2000000 in
theorem order_core (p1 l1 p2 l2 h1 h2 : Int) (e1 : p1 / 2 = h1) (e2 : p2 / 2 = h2) (b1 : isU l1) (b2 : isU l2) (a1 : -4611686018427387904 ≤ h1) (a2 : h1 < 4611686018427387904) (a3 : -4611686018427387904 ≤ h2) (a4 : h2 < 4611686018427387904) (w : World) :
    Calls Try.prog 6 #[.agg #[.int .i64 p1, .int .u64 l1], .agg #[.int .i64 p2, .int .u64 l2]] w fun e w' => e = .returned (.bool true) ∧ Below w.heap.size w w' := by
  obtain ⟨q, r, hq, hr, hc⟩ : ∃ q r : Bool, eqW h1 l1 h2 l2 = q ∧ decide (addHi h1 l1 (negHi h2 l2) (negLo l2) < 0) = r ∧ ((r = true ∧ q = false ∧ orI (cmpI h1 h2) (cmpI l1 l2) = -1 ∧ orI (cmpI h2 h1) (cmpI l2 l1) = 1) ∨
      (r = false ∧ q = true ∧ orI (cmpI h1 h2) (cmpI l1 l2) = 0 ∧ orI (cmpI h2 h1) (cmpI l2 l1) = 0) ∨ (r = false ∧ q = false ∧ orI (cmpI h1 h2) (cmpI l1 l2) = 1 ∧ orI (cmpI h2 h1) (cmpI l2 l1) = -1)) := by
    refine ⟨_, _, rfl, rfl, ?_⟩
    rcases Int.lt_trichotomy h1 h2 with c | c | c
    · exact .inl ⟨by simpa using ord_lt b1 b2 a1 a2 a3 a4 (.inl c), eqW_no (by omega), cmp_1 c, cmp_5 c⟩
    · subst c
      rcases Int.lt_trichotomy l1 l2 with d | d | d
      · exact .inl ⟨by simpa using ord_lt b1 b2 a1 a2 a3 a4 (.inr ⟨rfl, d⟩), eqW_no (by omega), cmp_2 d, cmp_4 d⟩
      · subst d; exact .inr (.inl ⟨by simpa using ord_ge b1 b2 a1 a2 a3 a4 (by omega), eqW_self _ _, cmp_3 _ _, cmp_3 _ _⟩)
      · exact .inr (.inr ⟨by simpa using ord_ge b1 b2 a1 a2 a3 a4 (by omega), eqW_no (by omega), cmp_4 d, cmp_2 d⟩)
    · exact .inr (.inr ⟨by simpa using ord_ge b1 b2 a1 a2 a3 a4 (by omega), eqW_no (by omega), cmp_5 c, cmp_1 c⟩)
  have i1 : isI h1 := by unfold isI; omega
  have i2 : isI h2 := by unfold isI; omega
  have HB := Lib.hid (And.intro b1 (And.intro b2 (And.intro i1 i2)))
  clear b1 b2 i1 i2
  rcases hc with ⟨rfl, rfl, k1, k2⟩ | ⟨rfl, rfl, k1, k2⟩ | ⟨rfl, rfl, k1, k2⟩
  all_goals
    go_enter Try.func6, Try.ntmps6
    go_wp2
    go_region
    go_wp2_with (first
      | (go_at_call 16; refine (compare_any _ _ _ _ _).mono ?_; rintro e w7 ⟨rfl, hb7⟩; obtain ⟨x7, rfl⟩ := Ext.of hb7; have z1 : w.heap.size < x7.it.heap.size := x7.lt (by simp <;> omega); have z2 : w.heap.size + 1 < x7.it.heap.size := x7.lt (by simp <;> omega)))
    refine wp_region_float 5 [none, none, none, none, some (6, 24, #[.int .i64 0, .int .u64 0])] (by kernel_rfl) (by kernel_rfl) (by kernel_rfl) ⟨allocW, trivial⟩ ?_
    dsimp only [ghosts, ghost, List.take, List.drop]
    repeat (refine wpE_step (fun K hK => ?_); go_simp; first | (refine hK _ ?_; clear hK K) | (apply Exists.intro; refine ⟨fun _ => ?_, hK _ ?_⟩; (first | (go_at_call 11; exact neg_any _ _ HB.out.2.2.2 HB.out.2.1 _) | (go_at_call 10; exact add_any _ _ _ _ HB.out.1 (isU_negLo _) _)); clear hK K))
    refine wpE_nil ?_
    intro x
    dsimp only [floated]
    intro b q1 _ q3
    have zb := (Array.getElem?_eq_some_iff.1 q3).1
    have c0 := cell_of_row x.it b 0 _ _ _ q3
    have c1 := cell_of_row x.it b 1 _ _ _ q3
    have f0 := fun j => frozen_of_row x.it b j _ _ q3
    have n1 : b ≠ w.heap.size := by omega
    have n2 : b ≠ w.heap.size + 1 := by omega
    have z3 : w.heap.size < x.it.heap.size := x.lt z1
    have z4 : w.heap.size + 1 < x.it.heap.size := x.lt z2
    have z5 : w.heap.size ≤ b := by omega
    simp at c0 c1
    clear q1 q3
    go_wp2_with (first
      | (go_at_call 9; refine (awake_any _).mono ?_; rintro e w8 ⟨rfl, hb8⟩; obtain ⟨x8, rfl⟩ := Ext.of hb8; have z6 : w.heap.size < x8.it.heap.size := x8.lt (by simp; omega); have z7 : w.heap.size + 1 < x8.it.heap.size := x8.lt (by simp; omega); have z8 : b < x8.it.heap.size := x8.lt (by simp; omega))
      | (go_at_call 16; refine (compare_any _ _ _ _ _).mono ?_; rintro e w9 ⟨rfl, hb9⟩; obtain ⟨x9, rfl⟩ := Ext.of hb9))
    go_ret
    exact ⟨rfl, by repeat (first | exact Below.refl _ _ | apply Below.al | apply Below.on | (refine Below.st ?_ (by first | assumption | (simp; done) | (simp; omega)) _) | apply Below.drew)⟩
theorem order_walk (p1 l1 p2 l2 : Int) (a1 : isI p1) (b1 : isU l1) (a2 : isI p2) (b2 : isU l2) (w : World) :
    Calls Try.prog 6 #[.agg #[.int .i64 p1, .int .u64 l1], .agg #[.int .i64 p2, .int .u64 l2]] w fun e w' => e = .returned (.bool true) ∧ Below w.heap.size w w' :=
  order_core p1 l1 p2 l2 _ _ rfl rfl b1 b2 (by unfold isI at a1; omega) (by unfold isI at a1; omega) (by unfold isI at a2; omega) (by unfold isI at a2; omega) w
set_option maxRecDepth 100000 in
theorem wideOrder_lifted (os : Os) (started : os.Started) (H : Type) (enc : TypeId × Value → H) :
    ReturnsInHanded {} Try.checked os 6 .any (Rows.wideOrderSpec.pre6 enc Try.prog Try.f6 Rows.wideOrderRow.domain false) (Rows.wideOrderSpec.post enc Try.prog Try.f6 false true false false) := by
  refine lifted_of_walk (C := Try.checked) (tb := 4) own started (by kernel_rfl) Try.func6
    (ChangeSpec.witness6 (enc := enc) (C := Try.checked) false ⟨#[], #[.agg #[.int .i64 0, .int .u64 0], .agg #[.int .i64 0, .int .u64 0]], []⟩ 8 (by kernel_rfl) (by kernel_rfl) (by kernel_rfl) (by kernel_rfl))
    laid (params_ok (by kernel_rfl)) (by kernel_rfl) Try.underlying4 rfl
    (fun ds hds => by match ds, hds with | [d0, d1], _ => exact ⟨rfl, rfl, rfl⟩) ?_
  intro W base args ds ps hval0 hA0
  have hval : ∀ (j : Nat) t v, Try.f6.params[j]? = some t → args[j]? = some v → Value.okWide Try.prog W .any base t v := hval0
  have hA : DataW.TrodAll enc Try.prog W 0 (fun _ => true) true Try.f6.params.toList args.toList ds ps := hA0
  rw [Try.params6] at hA hval
  obtain ⟨v0, vs0, d0, ds0, p0, q0, hargs, rfl, rfl, h0, r0⟩ := trodAll_cons hA
  obtain ⟨v1, vs1, d1, ds1, p1, q1, rfl, rfl, rfl, h1, r1⟩ := trodAll_cons r0
  obtain ⟨rfl, rfl, rfl⟩ := trodAll_nil r1
  obtain rfl : args = #[v0, v1] := by cases args; simp_all
  obtain ⟨x0, y0, rfl, a0, b0⟩ := open_wide (hval 0 _ v0 rfl rfl) h0
  obtain ⟨x1, y1, rfl, a1, b1⟩ := open_wide (hval 1 _ v1 rfl rfl) h1
  exact order_walk x0 y0 x1 y1 a0 b0 a1 b1 W

theorem wideOrder_holds : Rows.WideOrderSaid :=
  OpenClaim.holds_of_wide 6 Try.f6 rfl rfl rfl rfl rfl rfl rfl ⟨rfl, rfl, rfl, rfl, rfl⟩ rfl rfl rfl rfl rfl (by kernel_rfl) Try.func6 (by kernel_rfl)
    (of_decide_eq_true (by kernel_rfl)) (by unfold Func.isWrapper; first | (rw [if_pos (by decide +kernel)]; kernel_rfl) | (rw [if_neg (by decide +kernel)]; exact ⟨rfl, rfl⟩))
    (fun os started H enc _ => wideOrder_lifted os started H enc)
#print axioms wideOrder_holds
end Go.Proofs.Ytapjndhbdpbjcaa
