/-
  The decimal digits of a number, plainly: no Go in sight.
  Conditions: none beyond those that each theorem states.
-/
import Derived.Test.YtapjndhbdpbjcaaDoorArith
namespace Go.Proofs.YtapjndhbdpbjcaaDoor
open Go.RowKit

/-- what is left of N behind k divisions by 10, in two limbs; the digit that goes -/
def hiK (N k : Nat) : Int := ((N / 10 ^ k / 18446744073709551616 : Nat) : Int)
def loK (N k : Nat) : Int := ((N / 10 ^ k % 18446744073709551616 : Nat) : Int)
def dig (N k : Nat) : Int := ((N / 10 ^ k % 10 : Nat) : Int)

theorem div_pow_succ (N k : Nat) : N / 10 ^ (k + 1) = N / 10 ^ k / 10 := by rw [Nat.pow_succ, Nat.div_div_eq_div_mul]
theorem hiK_nonneg (N k : Nat) : 0 ≤ hiK N k := Int.natCast_nonneg _
theorem loK_isU (N k : Nat) : isU (loK N k) := by unfold loK isU; omega
theorem dig_bd (N k : Nat) : 0 ≤ dig N k ∧ dig N k ≤ 9 := by unfold dig; omega
theorem hiK_lt {N k : Nat} (h : N < 340282366920938463463374607431768211456) : hiK N k < 18446744073709551616 := by
  have : N / 10 ^ k ≤ N := Nat.div_le_self _ _
  unfold hiK; omega
theorem hiK_succ (N k : Nat) : hiK N k / 10 = hiK N (k + 1) := by
  unfold hiK; rw [div_pow_succ]; omega
theorem loK_succ (N k : Nat) : divQ (hiK N k % 10) (loK N k) = loK N (k + 1) := by
  unfold hiK loK divQ; rw [div_pow_succ]; omega
theorem dig_eq (N k : Nat) : divR (hiK N k % 10) (loK N k) = dig N k := by
  unfold hiK loK divR dig; omega
theorem left_zero {N k : Nat} : (hiK N k = 0 ∧ loK N k = 0) ↔ N < 10 ^ k := by
  have hp : 0 < 10 ^ k := Nat.pow_pos (by omega)
  rw [← Nat.div_eq_zero_iff_lt hp]
  unfold hiK loK; omega

/-- how many digits N has -/
def ndF : Nat → Nat → Nat
  | 0, _ => 1
  | f + 1, N => if N < 10 then 1 else ndF f (N / 10) + 1
def nd (N : Nat) : Nat := ndF 40 N
theorem ndF_spec : ∀ (f N : Nat), N < 10 ^ (f + 1) → 1 ≤ ndF f N ∧ N < 10 ^ ndF f N ∧ (∀ k, 1 ≤ k → k < ndF f N → 10 ^ k ≤ N) ∧ ndF f N ≤ f + 1
  | 0, N, h => ⟨Nat.le_refl _, by simpa [ndF] using h, fun k h1 h2 => by simp [ndF] at h2; omega, by simp [ndF]⟩
  | f + 1, N, h => by
    unfold ndF
    split
    · exact ⟨Nat.le_refl _, by simpa using by assumption, fun k h1 h2 => by omega, by omega⟩
    · rename_i hn
      obtain ⟨_, h2, h3, h4⟩ := ndF_spec f (N / 10) (by rw [Nat.pow_succ] at h; omega)
      refine ⟨by omega, by rw [Nat.pow_succ]; omega, fun k k1 k2 => ?_, by omega⟩
      obtain ⟨j, rfl⟩ : ∃ j, k = j + 1 := ⟨k - 1, by omega⟩
      rw [Nat.pow_succ]
      by_cases hj : j = 0
      · subst hj; omega
      · have := h3 j (by omega) (by omega); omega
theorem nd_spec {N : Nat} (h : N < 340282366920938463463374607431768211456) : 1 ≤ nd N ∧ N < 10 ^ nd N ∧ (∀ k, 1 ≤ k → k < nd N → 10 ^ k ≤ N) ∧ nd N ≤ 41 :=
  ndF_spec 40 N (Nat.lt_trans h (by decide))

/-- the first k digits that go, as bytes: the last digit first -/
def digs (N k : Nat) : List Int := (List.range k).map fun i => 48 + dig N i
theorem digs_succ (N k : Nat) : digs N (k + 1) = digs N k ++ [48 + dig N k] := by
  unfold digs; rw [List.range_succ, List.map_append]; rfl
@[simp] theorem digs_length (N k : Nat) : (digs N k).length = k := by simp [digs]

/-- a list of which the first t and the last t elements have changed places -/
def revAt (A : List Int) (t : Nat) : List Int := (List.range A.length).map fun m => if m < t ∨ A.length - t ≤ m then A.getD (A.length - 1 - m) 0 else A.getD m 0
@[simp] theorem revAt_length (A : List Int) (t : Nat) : (revAt A t).length = A.length := by simp [revAt]
theorem revAt_get {A : List Int} {t m : Nat} (h : m < A.length) : (revAt A t)[m]? = some (if m < t ∨ A.length - t ≤ m then A.getD (A.length - 1 - m) 0 else A.getD m 0) := by
  unfold revAt; rw [List.getElem?_map, List.getElem?_range h]; rfl
theorem revAt_zero (A : List Int) : revAt A 0 = A := by
  apply List.ext_getElem? ; intro m
  by_cases h : m < A.length
  · rw [revAt_get h, if_neg (by omega)]; simp [h]
  · rw [List.getElem?_eq_none (by simpa using Nat.le_of_not_lt h), List.getElem?_eq_none (by omega)]
theorem revAt_swap {A : List Int} {t : Nat} (h : t < A.length - 1 - t) :
    ((revAt A t).set t (A.getD (A.length - 1 - t) 0)).set (A.length - 1 - t) (A.getD t 0) = revAt A (t + 1) := by
  apply List.ext_getElem? ; intro m
  by_cases hm : m < A.length
  · rw [revAt_get hm, List.getElem?_set, List.getElem?_set, revAt_get hm]
    by_cases e1 : A.length - 1 - t = m
    · subst e1
      rw [if_pos rfl, if_pos (by simp; omega), if_pos (by omega)]
      congr 2; omega
    · rw [if_neg e1]
      by_cases e2 : t = m
      · subst e2
        rw [if_pos rfl, if_pos (by simp; omega), if_pos (by omega)]
      · rw [if_neg e2]
        by_cases e3 : m < t ∨ A.length - t ≤ m
        · rw [if_pos e3, if_pos (by omega)]
        · rw [if_neg e3, if_neg (by omega)]
  · rw [List.getElem?_eq_none (by simp; omega), List.getElem?_eq_none (by simp; omega)]
theorem revAt_end {A : List Int} {t : Nat} (h : A.length - 1 - t ≤ t) (ht : 2 * t ≤ A.length) : revAt A t = A.reverse := by
  apply List.ext_getElem? ; intro m
  by_cases hm : m < A.length
  · rw [revAt_get hm, List.getElem?_reverse hm]
    have h2 : A.length - 1 - m < A.length := by omega
    by_cases e3 : m < t ∨ A.length - t ≤ m
    · rw [if_pos e3]; simp [h2]
    · have : m = A.length - 1 - m := by omega
      rw [if_neg e3, ← this]; simp [hm]
  · rw [List.getElem?_eq_none (by simp; omega), List.getElem?_eq_none (by simp; omega)]

/-- a text out of byte numbers -/
def txt (ns : List Int) : ByteArray := ⟨(ns.map fun n => UInt8.ofNat n.toNat).toArray⟩
theorem foldl_push (ns : List Int) (s : ByteArray) : ns.foldl (fun r n => r.push (UInt8.ofNat n.toNat)) s = ⟨s.data ++ (ns.map fun n => UInt8.ofNat n.toNat).toArray⟩ := by
  induction ns generalizing s with
  | nil => cases s; simp
  | cons n ns ih => rw [List.foldl_cons, ih]; cases s; simp [ByteArray.push]
theorem txt_size (ns : List Int) : (txt ns).size = ns.length := by simp [txt, ByteArray.size]
/-- a number's digits as a text -/
def fmtTxt (N : Nat) : ByteArray := txt (digs N (nd N)).reverse
def sgnTxt (h : Int) : ByteArray := if h < 0 then ⟨#[45]⟩ else ⟨#[]⟩
end Go.Proofs.YtapjndhbdpbjcaaDoor
