/-
  FORMATWIDE (the reference): the plain laws of its long division, bit by bit. Conditions: none.
-/
import Derived.Test.YtapjndhbdpbjcaaDoorRtl
set_option linter.unusedVariables false
set_option linter.unusedSimpArgs false
namespace Go.Proofs.YtapjndhbdpbjcaaDoor
open Go.RowKit
def pk (R L j : Nat) : Nat := R * 2 ^ (64 - j) + L / 2 ^ j
theorem pk_step (R L : Nat) {j : Nat} (hj : j < 64) : pk R L j = 2 * pk R L (j + 1) + L / 2 ^ j % 2 := by
  unfold pk
  obtain ⟨i, hi⟩ : ∃ i, 64 - j = i + 1 := ⟨63 - j, by omega⟩
  rw [hi, show 64 - (j + 1) = i by omega, Nat.pow_succ, Nat.pow_succ, ← Nat.div_div_eq_div_mul, ← Nat.mul_assoc]
  omega
theorem pk_64 {R L : Nat} (hL : L < 18446744073709551616) : pk R L 64 = R := by
  unfold pk; simp; omega
theorem pk_0 (R L : Nat) : pk R L 0 = R * 18446744073709551616 + L := by simp [pk]
theorem pk_lt {R L : Nat} (hR : R < 10) (hL : L < 18446744073709551616) {j : Nat} (hj : j ≤ 64) : pk R L j < 10 * 2 ^ (64 - j) := by
  unfold pk
  have h1 : L / 2 ^ j < 2 ^ (64 - j) := by
    rw [Nat.div_lt_iff_lt_mul (Nat.pow_pos (by omega)), ← Nat.pow_add, show 64 - j + j = 64 by omega]
    exact Nat.lt_of_lt_of_le hL (by decide)
  have h2 : R * 2 ^ (64 - j) ≤ 9 * 2 ^ (64 - j) := Nat.mul_le_mul_right _ (by omega)
  omega
theorem pk_r0 (R L : Nat) {j : Nat} (hj : j < 64) (h : ¬ 10 ≤ 2 * (pk R L (j + 1) % 10) + L / 2 ^ j % 2) : pk R L j % 10 = 2 * (pk R L (j + 1) % 10) + L / 2 ^ j % 2 ∧ pk R L j / 10 * 2 ^ j = pk R L (j + 1) / 10 * 2 ^ (j + 1) := by
  have e := pk_step R L hj
  have hb : L / 2 ^ j % 2 < 2 := Nat.mod_lt _ (by omega)
  generalize L / 2 ^ j % 2 = b at *
  generalize pk R L (j + 1) = P at *
  rw [e]
  refine ⟨by omega, ?_⟩
  rw [show (2 * P + b) / 10 = P / 10 * 2 by omega, Nat.pow_succ, Nat.mul_assoc, Nat.mul_comm 2]
theorem pk_r1 (R L : Nat) {j : Nat} (hj : j < 64) (h : 10 ≤ 2 * (pk R L (j + 1) % 10) + L / 2 ^ j % 2) : pk R L j % 10 = 2 * (pk R L (j + 1) % 10) + L / 2 ^ j % 2 - 10 ∧ pk R L j / 10 * 2 ^ j = (pk R L (j + 1) / 10 * 2 ^ (j + 1)) ||| 2 ^ j := by
  have e := pk_step R L hj
  have hb : L / 2 ^ j % 2 < 2 := Nat.mod_lt _ (by omega)
  generalize L / 2 ^ j % 2 = b at *
  generalize pk R L (j + 1) = P at *
  rw [e]
  refine ⟨by omega, ?_⟩
  rw [show (2 * P + b) / 10 = P / 10 * 2 + 1 by omega, Nat.mul_comm (P / 10) (2 ^ (j + 1)), ← Nat.two_pow_add_eq_or_of_lt (Nat.pow_lt_pow_right (by omega) (by omega)), Nat.pow_succ]
  generalize 2 ^ j = X
  rw [Nat.add_mul, Nat.one_mul, Nat.mul_assoc, Nat.mul_comm (P / 10), Nat.mul_comm X]
theorem pk_q_lt {R L : Nat} (hR : R < 10) (hL : L < 18446744073709551616) {j : Nat} (hj : j ≤ 64) : pk R L j / 10 * 2 ^ j < 18446744073709551616 := by
  have h := pk_lt hR hL hj
  have h1 : pk R L j / 10 < 2 ^ (64 - j) := by omega
  have h2 : pk R L j / 10 * 2 ^ j < 2 ^ (64 - j) * 2 ^ j := (Nat.mul_lt_mul_right (Nat.pow_pos (by omega))).2 h1
  rw [← Nat.pow_add, show 64 - j + j = 64 by omega] at h2
  exact h2
theorem or_bit {A j : Nat} (hj : j < 64) (hA : A * 2 ^ (j + 1) < 18446744073709551616) : bits .or .u64 ((A * 2 ^ (j + 1) : Nat) : Int) ((2 ^ j : Nat) : Int) = ((A * 2 ^ (j + 1) ||| 2 ^ j : Nat) : Int) := by
  have : 2 ^ j < 2 ^ 64 := Nat.pow_lt_pow_right (by omega) hj
  rw [u64_or_nat _ _ hA (by omega)]
theorem and_bit (L j : Nat) (hL : L < 18446744073709551616) : bits .and .u64 ((L : Int) / ((2 ^ j : Nat) : Int)) 1 = ((L / 2 ^ j % 2 : Nat) : Int) := by
  have e : (L : Int) / ((2 ^ j : Nat) : Int) = ((L / 2 ^ j : Nat) : Int) := (Int.natCast_ediv _ _).symm
  have h := Nat.div_le_self L (2 ^ j)
  rw [e, show (1 : Int) = ((1 : Nat) : Int) by rfl, u64_and_nat _ _ (by omega) (by omega), Nat.and_one_is_mod]
theorem dig_txt {r : Nat} (h : r < 10) : (⟨#[48, 49, 50, 51, 52, 53, 54, 55, 56, 57]⟩ : ByteArray).extract r (r + 1) = ⟨#[UInt8.ofNat (48 + r)]⟩ := by
  rcases r with _ | _ | _ | _ | _ | _ | _ | _ | _ | _ | r <;> first | rfl | omega
theorem rk_next {N k r : Nat} (h : N / 10 ^ k % 10 = r) : (⟨(Rk N (k + 1)).toArray⟩ : ByteArray) = (⟨#[48, 49, 50, 51, 52, 53, 54, 55, 56, 57]⟩ : ByteArray).extract r (r + 1) ++ ⟨(Rk N k).toArray⟩ := by
  rw [dig_txt (by omega), Rk_succ, show (48 + dig N k).toNat = 48 + r by unfold dig; omega]
  ext1
  simp
end Go.Proofs.YtapjndhbdpbjcaaDoor
