/-
  PARSEWIDE (the reference): the plain laws. Conditions: none.
-/
import Derived.Test.YtapjndhbdpbjcaaDoorPar
set_option linter.unusedVariables false
set_option linter.unusedSimpArgs false
namespace Go.Proofs.YtapjndhbdpbjcaaDoor
open Go.RowKit
theorem parse_ok_pos {v : Nat} (h : v < 170141183460469231731687303715884105728) : parseN false v = (wrap64 ((v / 18446744073709551616 : Nat) : Int), ((v % 18446744073709551616 : Nat) : Int), 0) := by
  unfold parseN
  rw [if_neg (by omega)]
  simp only [if_false, Bool.false_eq_true]
  rw [if_pos (decide_eq_false (by rw [wrap64_eq]; omega))]
theorem parse_ok_neg {v : Nat} (h : v ≤ 170141183460469231731687303715884105728) (h1 : 1 ≤ v) : parseN true v = (negHi (wrap64 ((v / 18446744073709551616 : Nat) : Int)) ((v % 18446744073709551616 : Nat) : Int), negLo ((v % 18446744073709551616 : Nat) : Int), 0) := by
  unfold parseN
  rw [if_neg (by omega)]
  simp only [if_true]
  rw [if_pos (decide_eq_true (by rw [negHi_eq, wrap64_eq]; omega))]
theorem parse_big_pos {v : Nat} (h : 170141183460469231731687303715884105728 ≤ v) : parseN false v = (0, 0, 8) := by
  unfold parseN
  by_cases hb : 340282366920938463463374607431768211456 ≤ v
  · rw [if_pos hb]
  · rw [if_neg hb]
    simp only [if_false, Bool.false_eq_true]
    rw [if_neg (by rw [decide_eq_true (by rw [wrap64_eq]; omega)]; decide)]
theorem parse_big_neg {v : Nat} (h : 170141183460469231731687303715884105728 < v) : parseN true v = (0, 0, 8) := by
  unfold parseN
  by_cases hb : 340282366920938463463374607431768211456 ≤ v
  · rw [if_pos hb]
  · rw [if_neg hb]
    simp only [if_true]
    rw [if_neg (by rw [decide_eq_false (by rw [negHi_eq, wrap64_eq]; omega)]; decide)]
theorem or3 {H Q : Nat} (hH : H < 2305843009213693952) (hQ : Q < 18446744073709551616) : bits .or .u64 ((H * 8 : Nat) : Int) ((Q / 2305843009213693952 : Nat) : Int) = ((H * 8 + Q / 2305843009213693952 : Nat) : Int) := by
  rw [show H * 8 = 2 ^ 3 * H by omega, u64_or_nat _ _ (by omega) (by omega), ← Nat.two_pow_add_eq_or_of_lt (by omega)]
theorem or1 {H Q : Nat} (hH : H < 9223372036854775808) (hQ : Q < 18446744073709551616) : bits .or .u64 ((H * 2 : Nat) : Int) ((Q / 9223372036854775808 : Nat) : Int) = ((H * 2 + Q / 9223372036854775808 : Nat) : Int) := by
  rw [show H * 2 = 2 ^ 1 * H by omega, u64_or_nat _ _ (by omega) (by omega), ← Nat.two_pow_add_eq_or_of_lt (by omega)]
/-- One round of 10 * (H, Q) + d by shifts. -/
theorem round_hi {V H Q d a l8 b l2 c1 lo c2 m : Nat} (hV : H * 18446744073709551616 + Q = V) (h8 : a * 18446744073709551616 + l8 = Q * 8) (h2 : b * 18446744073709551616 + l2 = Q * 2) (h3 : c1 * 18446744073709551616 + lo = l8 + l2) (h4 : c2 * 18446744073709551616 + m = lo + d) (hm : m < 18446744073709551616) :
    (10 * V + d) / 18446744073709551616 = H * 8 + a + (H * 2 + b) + c1 + c2 ∧ (10 * V + d) % 18446744073709551616 = m := by
  have key : 10 * V + d = (H * 8 + a + (H * 2 + b) + c1 + c2) * 18446744073709551616 + m := by omega
  rw [key]
  omega
theorem carry {x y : Nat} (hx : x < 18446744073709551616) (hy : y < 18446744073709551616) : (if (x + y) % 18446744073709551616 < x then 1 else 0) * 18446744073709551616 + (x + y) % 18446744073709551616 = x + y := by
  split <;> omega
theorem cast_or3 {H Q x : Nat} (hH : H < 2305843009213693952) (hQ : Q < 18446744073709551616) (hx : H * 8 + Q / 2305843009213693952 = x) : bits .or .u64 ((H : Int) * 8) ((Q : Int) / 2305843009213693952) = (x : Int) := by
  have := or3 hH hQ
  rw [hx] at this
  simpa using this
theorem cast_or1 {H Q x : Nat} (hH : H < 9223372036854775808) (hQ : Q < 18446744073709551616) (hx : H * 2 + Q / 9223372036854775808 = x) : bits .or .u64 ((H : Int) * 2) ((Q : Int) / 9223372036854775808) = (x : Int) := by
  have := or1 hH hQ
  rw [hx] at this
  simpa using this
theorem wrap_mod {x : Int} {n r : Nat} (h : x = (n : Int)) (hr : n % 18446744073709551616 = r) : IntKind.u64.wrap x = (r : Int) := by rw [wrapU_eq, h]; omega
theorem castmul (q k : Nat) : (q : Int) * (k : Int) = ((q * k : Nat) : Int) := (Int.natCast_mul q k).symm
theorem kk8 (Q : Nat) : Q / 2305843009213693952 * 18446744073709551616 + Q * 8 % 18446744073709551616 = Q * 8 := by
  have e : Q * 8 % 18446744073709551616 = Q % 2305843009213693952 * 8 := Nat.mul_mod_mul_right 8 Q 2305843009213693952
  rw [e]; omega
theorem kk2 (Q : Nat) : Q / 9223372036854775808 * 18446744073709551616 + Q * 2 % 18446744073709551616 = Q * 2 := by
  have e : Q * 2 % 18446744073709551616 = Q % 9223372036854775808 * 2 := Nat.mul_mod_mul_right 2 Q 9223372036854775808
  rw [e]; omega
/-- All that a round of ParseWide's second loop reckons. -/
structure RoundOf (V H Q d l8 h8 l2 h2 lo hh h1 m h9 : Nat) : Prop where
  o8 : bits .or .u64 ((H : Int) * 8) ((Q : Int) / 2305843009213693952) = (h8 : Int)
  o2 : bits .or .u64 ((H : Int) * 2) ((Q : Int) / 9223372036854775808) = (h2 : Int)
  w8 : IntKind.u64.wrap ((Q : Int) * 8) = (l8 : Int)
  w2 : IntKind.u64.wrap ((Q : Int) * 2) = (l2 : Int)
  wh8 : IntKind.u64.wrap ((H : Int) * 8) = (H : Int) * 8
  wh2 : IntKind.u64.wrap ((H : Int) * 2) = (H : Int) * 2
  a1 : IntKind.u64.wrap ((l8 : Int) + (l2 : Int)) = (lo : Int)
  a2 : IntKind.u64.wrap ((h8 : Int) + (h2 : Int)) = (hh : Int)
  b1 : lo < l8 → IntKind.u64.wrap ((hh : Int) + 1) = (h1 : Int)
  b0 : ¬ lo < l8 → (hh : Int) = (h1 : Int)
  am : IntKind.u64.wrap ((lo : Int) + (d : Int)) = (m : Int)
  d1 : m < lo → IntKind.u64.wrap ((h1 : Int) + 1) = (h9 : Int)
  d0 : ¬ m < lo → (h1 : Int) = (h9 : Int)
  v1 : (10 * V + d) / 18446744073709551616 = h9
  v2 : (10 * V + d) % 18446744073709551616 = m
theorem round_of {V H Q d : Nat} (hH : V / 18446744073709551616 = H) (hQ : V % 18446744073709551616 = Q) (hb : ¬ 922337203685477580 < H) (hd : d ≤ 9) : ∃ l8 h8 l2 h2 lo hh h1 m h9, RoundOf V H Q d l8 h8 l2 h2 lo hh h1 m h9 := by
  have hQM : Q < 18446744073709551616 := by omega
  have hVe : H * 18446744073709551616 + Q = V := by omega
  clear hH hQ
  obtain ⟨a, ea⟩ : ∃ x, Q / 2305843009213693952 = x := ⟨_, rfl⟩
  obtain ⟨b, eb⟩ : ∃ x, Q / 9223372036854775808 = x := ⟨_, rfl⟩
  obtain ⟨l8, el8⟩ : ∃ x, Q * 8 % 18446744073709551616 = x := ⟨_, rfl⟩
  obtain ⟨l2, el2⟩ : ∃ x, Q * 2 % 18446744073709551616 = x := ⟨_, rfl⟩
  have k8 : a * 18446744073709551616 + l8 = Q * 8 := by rw [← ea, ← el8]; exact kk8 Q
  have k2 : b * 18446744073709551616 + l2 = Q * 2 := by rw [← eb, ← el2]; exact kk2 Q
  have l8M : l8 < 18446744073709551616 := by omega
  have l2M : l2 < 18446744073709551616 := by omega
  have aM : a ≤ 7 := by omega
  have bM : b ≤ 1 := by omega
  have hH3 : H < 2305843009213693952 := by omega
  have hH1 : H < 9223372036854775808 := by omega
  have hx8 : H * 8 + Q / 2305843009213693952 = H * 8 + a := by rw [ea]
  have hx2 : H * 2 + Q / 9223372036854775808 = H * 2 + b := by rw [eb]
  have O8 := cast_or3 hH3 hQM hx8
  have O2 := cast_or1 hH1 hQM hx2
  clear hx8 hx2
  have W8 := wrap_mod (x := (Q : Int) * 8) (n := Q * 8) (castmul Q 8) el8
  have W2 := wrap_mod (x := (Q : Int) * 2) (n := Q * 2) (castmul Q 2) el2
  clear ea eb el8 el2
  obtain ⟨lo, elo⟩ : ∃ x, (l8 + l2) % 18446744073709551616 = x := ⟨_, rfl⟩
  have A1 := wrap_mod (x := (l8 : Int) + (l2 : Int)) (n := l8 + l2) (Int.natCast_add l8 l2).symm elo
  have k3 := carry l8M l2M
  rw [elo] at k3
  have loM : lo < 18446744073709551616 := by omega
  clear elo
  obtain ⟨m, em⟩ : ∃ x, (lo + d) % 18446744073709551616 = x := ⟨_, rfl⟩
  have AM := wrap_mod (x := (lo : Int) + (d : Int)) (n := lo + d) (Int.natCast_add lo d).symm em
  have k4 := carry (x := lo) (y := d) loM (by omega)
  rw [em] at k4
  have mM : m < 18446744073709551616 := by omega
  clear em
  have R := round_hi hVe k8 k2 k3 k4 mM
  refine ⟨l8, H * 8 + a, l2, H * 2 + b, lo, H * 8 + a + (H * 2 + b), H * 8 + a + (H * 2 + b) + (if lo < l8 then 1 else 0), m, H * 8 + a + (H * 2 + b) + (if lo < l8 then 1 else 0) + (if m < lo then 1 else 0), ⟨O8, O2, W8, W2, ?_, ?_, A1, ?_, ?_, ?_, AM, ?_, ?_, R.1, R.2⟩⟩
  · rw [wrapU_eq]; omega
  · rw [wrapU_eq]; omega
  · rw [wrapU_eq]; omega
  · intro h; rw [if_pos h, wrapU_eq]; omega
  · intro h; rw [if_neg h]; simp
  · intro h; rw [if_pos h, wrapU_eq]; split <;> omega
  · intro h; rw [if_neg h]; simp
end Go.Proofs.YtapjndhbdpbjcaaDoor
