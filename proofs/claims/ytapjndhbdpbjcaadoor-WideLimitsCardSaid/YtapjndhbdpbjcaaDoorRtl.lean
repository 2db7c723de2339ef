/-
  WIDEROUNDTRIP: the plain law: the text of a number read back. Conditions: none.
-/
import Derived.Test.YtapjndhbdpbjcaaDoorPar
set_option linter.unusedVariables false
set_option linter.unusedSimpArgs false
namespace Go.Proofs.YtapjndhbdpbjcaaDoor
open Go.RowKit
def Rk (N k : Nat) : List UInt8 := (digs N k).reverse.map fun n => UInt8.ofNat n.toNat
theorem txt_Rk (N k : Nat) : txt (digs N k).reverse = ⟨(Rk N k).toArray⟩ := rfl
theorem Rk_zero (N : Nat) : Rk N 0 = [] := rfl
theorem Rk_succ (N k : Nat) : Rk N (k + 1) = UInt8.ofNat (48 + dig N k).toNat :: Rk N k := by
  unfold Rk; rw [digs_succ, List.reverse_append]; simp
theorem byte_dig (N k : Nat) : (UInt8.ofNat (48 + dig N k).toNat).toNat = 48 + N / 10 ^ k % 10 := by
  have e : (48 + dig N k).toNat = 48 + N / 10 ^ k % 10 := by unfold dig; omega
  rw [e, UInt8.toNat_ofNat']
  omega
theorem Rk_len (N k : Nat) : (Rk N k).length = k := by
  induction k with
  | zero => rfl
  | succ k ih => rw [Rk_succ, List.length_cons, ih]
theorem Rk_all (N k : Nat) : (Rk N k).all digB = true := by
  induction k with
  | zero => rfl
  | succ k ih =>
    rw [Rk_succ, List.all_cons, ih]
    unfold digB
    rw [byte_dig]
    simp; omega
theorem Rk_val (N k : Nat) : ∀ v, valL v (Rk N k) = v * 10 ^ k + N % 10 ^ k := by
  induction k with
  | zero => intro v; simp [Rk_zero, valL, Nat.mod_one]
  | succ k ih =>
    intro v
    rw [Rk_succ]
    show valL (10 * v + ((UInt8.ofNat (48 + dig N k).toNat).toNat - 48)) (Rk N k) = _
    rw [ih, byte_dig, Nat.mod_pow_succ, Nat.pow_succ]
    generalize 10 ^ k = P
    rw [show 48 + N / P % 10 - 48 = N / P % 10 by omega, Nat.add_mul, Nat.mul_assoc 10 v P, ← Nat.mul_assoc v P 10, Nat.mul_comm P (N / P % 10)]
    omega
theorem nd_39 {N : Nat} (h : N < 340282366920938463463374607431768211456) : nd N ≤ 39 := by
  obtain ⟨_, _, h3, _⟩ := nd_spec h
  rcases Nat.lt_or_ge 39 (nd N) with k | k
  · have := h3 39 (by decide) k
    rw [show (10 : Nat) ^ 39 = 1000000000000000000000000000000000000000 by decide +kernel] at this
    omega
  · exact k
theorem Rk_form {N : Nat} (h : N < 340282366920938463463374607431768211456) (neg : Bool) (hz : N = 0 → neg = false) : formB neg (Rk N (nd N)) = true := by
  have h39 := nd_39 h
  obtain ⟨h1, h2, h3, _⟩ := nd_spec h
  obtain ⟨k, hk⟩ : ∃ k, nd N = k + 1 := ⟨nd N - 1, by omega⟩
  unfold formB
  rw [Rk_all, Rk_len, decide_eq_true (show nd N + (if neg = true then 1 else 0) ≤ 40 by cases neg <;> simp <;> omega)]
  rw [hk, Rk_succ]
  rw [hk] at h2 h3
  by_cases hb : UInt8.ofNat (48 + dig N k).toNat = 48
  · have hd := byte_dig N k
    rw [hb] at hd
    have hd' : N / 10 ^ k % 10 = 0 := by
      have : (48 : UInt8).toNat = 48 := by decide
      omega
    have hlt : N / 10 ^ k < 10 := by
      rw [Nat.div_lt_iff_lt_mul (Nat.pow_pos (by decide))]
      rw [Nat.pow_succ] at h2
      omega
    have h0 : N / 10 ^ k = 0 := by
      clear hd
      generalize N / 10 ^ k = x at hd' hlt
      omega
    have hN : N < 10 ^ k := by
      rcases Nat.lt_or_ge N (10 ^ k) with q | q
      · exact q
      · have := Nat.div_pos q (Nat.pow_pos (by decide)); omega
    obtain rfl : k = 0 := by
      rcases Nat.eq_zero_or_pos k with q | q
      · exact q
      · have := h3 k q (by omega); omega
    have hN0 : N = 0 := by simpa using hN
    rw [hz hN0, hb, Rk_zero]
    simp
  · simp [hb]
theorem back {h l : Int} (a : isI h) (b : isU l) : parseF (decide (h < 0)) (Rk (absN h l) (nd (absN h l))) = (h, l, 0) := by
  by_cases hn : h < 0
  · obtain ⟨e1, e2, e3⟩ := hl_neg b (by omega : ¬ 0 ≤ h) a
    rw [decide_eq_true hn]
    generalize hN : absN h l = N at *
    have hz : N = 0 → true = false := by
      intro h0
      exfalso
      subst h0
      rw [wrapU_eq, negHi_eq] at e1
      rw [negLo_eq] at e2
      simp [hiK] at e1
      simp [loK] at e2
      unfold isI isU at *
      omega
    unfold parseF
    rw [if_pos (Rk_form e3 true hz), Rk_val]
    obtain ⟨_, h2, _⟩ := nd_spec e3
    rw [Nat.zero_mul, Nat.zero_add, Nat.mod_eq_of_lt h2]
    unfold parseN
    rw [if_neg (by omega)]
    have f1 : ((N / 18446744073709551616 : Nat) : Int) = IntKind.u64.wrap (negHi h l) := by rw [e1]; simp [hiK]
    have f2 : ((N % 18446744073709551616 : Nat) : Int) = negLo l := by rw [e2]; simp [loK]
    rw [f1, f2]
    have g1 : wrap64 (IntKind.u64.wrap (negHi h l)) = negHi h l := by
      have := isI_negHi h l
      rw [wrapU_eq, wrap64_eq]; unfold isI at this; omega
    have g3 : negLo (negLo l) = l := by rw [negLo_eq, negLo_eq]; unfold isU at b; omega
    have g2 : negHi (negHi h l) (negLo l) = h := by
      rw [negHi_eq, negHi_eq, negLo_eq]; unfold isI at a; unfold isU at b; omega
    simp only [g1, g2, g3, if_true]
    rw [if_pos (decide_eq_true hn)]
  · obtain ⟨e1, e2, e3⟩ := hl_pos b (by omega : 0 ≤ h) a
    rw [decide_eq_false hn]
    generalize hN : absN h l = N at *
    unfold parseF
    rw [if_pos (Rk_form e3 false fun _ => rfl), Rk_val]
    obtain ⟨_, h2, _⟩ := nd_spec e3
    rw [Nat.zero_mul, Nat.zero_add, Nat.mod_eq_of_lt h2]
    unfold parseN
    rw [if_neg (by omega)]
    have f1 : ((N / 18446744073709551616 : Nat) : Int) = h := by
      have : IntKind.u64.wrap h = h := by rw [wrapU_eq]; unfold isI at a; omega
      rw [← this, e1]; simp [hiK]
    have f2 : ((N % 18446744073709551616 : Nat) : Int) = l := by rw [e2]; simp [loK]
    rw [f1, f2]
    have g1 : wrap64 h = h := by rw [wrap64_eq]; unfold isI at a; omega
    simp only [g1, if_false, Bool.false_eq_true]
    rw [if_pos (decide_eq_false hn)]
end Go.Proofs.YtapjndhbdpbjcaaDoor
