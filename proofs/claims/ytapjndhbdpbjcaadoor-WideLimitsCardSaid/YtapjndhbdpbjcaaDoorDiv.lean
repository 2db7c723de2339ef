/-
  THE WALK of math/bits.Div64 at the divisor 10. Conditions: the high limb is below 10, the low limb a number of 64 bits.
-/
import Derived.Test.YtapjndhbdpbjcaaDoorWalks3
import Derived.Laws.BitsAllLaws
namespace Go.Proofs.YtapjndhbdpbjcaaDoor
open Go.RowKit
set_option maxHeartbeats 400000 in
theorem div_lo (l : Int) (b1 : 0 ≤ l) (b2 : l < 18446744073709551616) (w : World) :
    Calls Tryd.prog 19 #[.int .u64 0, .int .u64 l, .int .u64 10] w fun e w' => e = .returned (.tuple #[.int .u64 (l / 10), .int .u64 (l % 10)]) ∧ Below w.heap.size w w' := by
  go_enter Tryd.func19, Tryd.ntmps19
  go_wp2
  go_quiet (fail)
  go_wp2
  go_ret2
  exact ⟨rfl, below_drewN (Below.refl _ _) _⟩
set_option maxRecDepth 100000 in
set_option maxHeartbeats 400000 in
theorem lz10 (w : World) :
    Calls Tryd.prog 30 #[.int .u64 10] w fun e w' => e = .returned (.int .i64 60) ∧ w = w' := by
  go_enter Tryd.func30, Tryd.ntmps30
  go_wp2
  exact bodyPost_ret (v := .int .i64 60) (by kernel_rfl) rfl ⟨rfl, rfl⟩

/-- the high limb's last bits before the low limb's first -/
def un32 (h l : Int) : Int := h * 1152921504606846976 + l / 16
theorem or_split {h l : Int} (b : isU l) (c : 1 ≤ h) (d : h < 10) : bits BinOp.or IntKind.u64 (h * 1152921504606846976) (l / 16) = un32 h l := by
  unfold isU at b; unfold un32
  obtain ⟨H, rfl⟩ := Int.eq_ofNat_of_zero_le (show 0 ≤ h by omega)
  obtain ⟨L, rfl⟩ := Int.eq_ofNat_of_zero_le b.1
  have e1 : ((H : Int) * 1152921504606846976) = ((2 ^ 60 * H : Nat) : Int) := by omega
  have e2 : ((L : Int) / 16) = ((L / 16 : Nat) : Int) := by omega
  rw [e1, e2, u64_or_nat _ _ (by omega) (by omega), ← Nat.two_pow_add_eq_or_of_lt (by omega)]
  omega
theorem and_zero (l : Int) : bits BinOp.and IntKind.u64 (IntKind.u64.wrap (l * 1152921504606846976)) 4294967295 = 0 := by
  have u := wrapU (l * 1152921504606846976)
  have e0 := wrapU_eq (l * 1152921504606846976)
  unfold isU at u
  generalize IntKind.u64.wrap (l * 1152921504606846976) = x at *
  obtain ⟨X, rfl⟩ := Int.eq_ofNat_of_zero_le u.1
  rw [show (4294967295 : Int) = ((2 ^ 32 - 1 : Nat) : Int) from rfl, u64_and_nat _ _ (by omega) (by omega), Nat.and_two_pow_sub_one_eq_mod]
  omega
theorem un32_bd {h l : Int} (b : isU l) (c : 1 ≤ h) (d : h < 10) : 0 ≤ un32 h l ∧ un32 h l < 11529215046068469760 := by
  unfold isU at b; unfold un32; omega
/-- the second step's number -/
def un21 (h l : Int) : Int := un32 h l % 2684354560 * 4294967296 + IntKind.u64.wrap (l * 1152921504606846976) / 4294967296
def low60 (l : Int) : Int := IntKind.u64.wrap (l * 1152921504606846976)
theorem low60_bd (l : Int) : 0 ≤ low60 l ∧ low60 l < 18446744073709551616 := wrapU _

theorem un21_eq {h l : Int} (b : isU l) (c : 1 ≤ h) (d : h < 10) :
    IntKind.u64.wrap (IntKind.u64.wrap (IntKind.u64.wrap (un32 h l * 4294967296) + low60 l / 4294967296) - IntKind.u64.wrap (un32 h l / 2684354560 * 11529215046068469760)) = un21 h l := by
  have y := un32_bd b c d
  have z := low60_bd l
  have e : un21 h l = un32 h l % 2684354560 * 4294967296 + low60 l / 4294967296 := rfl
  rw [e]
  simp only [wrapU_eq]
  omega
theorem un21_bd {h l : Int} : 0 ≤ un21 h l ∧ un21 h l < 11529215046068469760 := by
  have z := low60_bd l
  have e : un21 h l = un32 h l % 2684354560 * 4294967296 + low60 l / 4294967296 := rfl
  omega

theorem low60_eq {l : Int} (b : isU l) : low60 l = l % 16 * 1152921504606846976 := by
  unfold isU at b; unfold low60; rw [wrapU_eq]; omega
theorem q_eq {h l : Int} (b : isU l) (c : 1 ≤ h) (d : h < 10) : un32 h l / 2684354560 * 4294967296 + un21 h l / 2684354560 = divQ h l := by
  have e : un21 h l = un32 h l % 2684354560 * 4294967296 + low60 l / 4294967296 := rfl
  rw [e, low60_eq b]
  unfold un32 divQ
  unfold isU at b
  omega
theorem r_eq {h l : Int} (b : isU l) (c : 1 ≤ h) (d : h < 10) : IntKind.u64.wrap (IntKind.u64.wrap (IntKind.u64.wrap (un21 h l * 4294967296)) - IntKind.u64.wrap (un21 h l / 2684354560 * 11529215046068469760)) / 1152921504606846976 = divR h l := by
  have e : un21 h l = un32 h l % 2684354560 * 4294967296 + low60 l / 4294967296 := rfl
  simp only [wrapU_eq]
  rw [e, low60_eq b]
  unfold un32 divR
  unfold isU at b
  omega

set_option maxHeartbeats 400000 in
theorem div_hi (h l : Int) (b : isU l) (c : 1 ≤ h) (d : h < 10) (w : World) :
    Calls Tryd.prog 19 #[.int .u64 h, .int .u64 l, .int .u64 10] w fun e w' => e = .returned (.tuple #[.int .u64 (divQ h l), .int .u64 (divR h l)]) ∧ Below w.heap.size w w' := by
  have x1 := or_split b c d
  have x2 := and_zero l
  have x3 : IntKind.u64.wrap (l * 1152921504606846976) = low60 l := rfl
  rw [x3] at x2
  obtain ⟨y1, y2⟩ := un32_bd b c d
  obtain ⟨z1, z2⟩ := low60_bd l
  have x4 := un21_eq b c d
  have x6 := q_eq b c d
  have x7 := r_eq b c d
  have x5 : bits BinOp.and IntKind.u64 11529215046068469760 4294967295 = 0 := by decide
  obtain ⟨u1, u2⟩ := @un21_bd h l
  obtain ⟨b1, b2⟩ := b
  go_enter Tryd.func19, Tryd.ntmps19
  go_wp2_with (go_at_call 30; refine (lz10 _).mono ?_; rintro e w1 ⟨rfl, rfl⟩)
  refine wp_loop_rounds 1 ?_; rw [rounds_succ]
  go_wp2
  refine wp_loop_rounds 1 ?_; rw [rounds_succ]
  go_wp2
  go_ret2
  exact ⟨rfl, Below.refl _ _⟩
end Go.Proofs.YtapjndhbdpbjcaaDoor
