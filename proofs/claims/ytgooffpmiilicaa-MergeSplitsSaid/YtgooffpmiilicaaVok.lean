/-
  WHAT keep.value DRAWS IS VALID: plain laws. Conditions: none beyond those that each theorem states.
-/
import Derived.Test.YtgooffpmiilicaaKeep
import Derived.Test.YtgooffpmiilicaaVck
import Derived.Laws.Bits128
set_option linter.unusedVariables false
set_option linter.unusedSimpArgs false
namespace Go.Proofs.Ytgooffpmiilicaa
open Go.RowKit
theorem strF_size : ∀ (k : Nat) (s : ByteArray) (r : List Int), (strF k s r).1.size = s.size + k
  | 0, s, r => rfl
  | k + 1, s, r => by
    show (strF k _ _).1.size = _
    rw [strF_size k, ByteArray.size_append]
    show s.size + 1 + k = s.size + (k + 1)
    omega
theorem tmod_bd (n : Int) {m : Int} (h : 0 < m) : -m < n.tmod m ∧ n.tmod m < m := by
  have h1 := Int.natAbs_tmod n m
  have h2 : n.natAbs % m.natAbs < m.natAbs := Nat.mod_lt _ (by omega)
  omega
theorem i64_and1 (n : Int) : bits .and .i64 n 1 = n % 2 := by
  have h1 : (BitVec.ofInt 64 1).toNat = 2 ^ 1 - 1 := by decide
  have key : (BitVec.ofInt 64 n &&& BitVec.ofInt 64 1).toNat = (n % ((2 ^ 64 : Nat) : Int)).toNat % 2 ^ 1 := by
    rw [BitVec.toNat_and, BitVec.toNat_ofInt, h1, Nat.and_two_pow_sub_one_eq_mod]
  show IntKind.i64.wrap ((BitVec.ofInt 64 n &&& BitVec.ofInt 64 1).toNat : Nat) = n % 2
  rw [key, IntKind.wrap_i64]
  omega
theorem fitN_ok {ty : Int} (n : Int) (h3 : ¬ ty = 3) : permF ty (fitN ty n) ⟨#[]⟩ = true := by
  unfold permF fitN
  by_cases h2 : ty = 2
  · rw [if_pos h2, if_pos h2, i64_and1]
    simp; omega
  · by_cases h4 : ty = 4
    · have := tmod_bd n (m := 700000) (by omega)
      rw [if_neg h2, if_neg h2, if_pos h4, if_pos h4]
      simp; omega
    · by_cases h5 : ty = 5
      · have := tmod_bd n (m := 1000000000000000000) (by omega)
        rw [if_neg h2, if_neg h2, if_neg h4, if_neg h4, if_pos h5, if_pos h5]
        simp; omega
      · simp only [if_neg h2, if_neg h4, if_neg h5, if_neg h3]
theorem valF_ok {ty : Int} (nul : Bool) (r : List Int) (h1 : 1 ≤ ty) (h5 : ty ≤ 5) : vchk ty nul (valF ty nul r).1.null (valF ty nul r).1.n (valF ty nul r).1.s = 0 := by
  have te : (⟨#[]⟩ : ByteArray).toList = [] := by rw [ByteArray.toList_eq]
  unfold valF
  by_cases h0 : (nullF nul r).1 = 0
  · rw [if_pos h0]
    have hn : nul = true := by
      cases nul with
      | true => rfl
      | false => simp [nullF] at h0
    unfold vchk
    rw [if_neg (by omega), if_pos rfl, if_neg (by simp [te]), if_pos hn]
  · rw [if_neg h0]
    by_cases h3 : ty = 3
    · rw [if_pos h3]
      unfold vchk
      rw [if_neg (by omega), if_neg (by simp), if_neg (by simp [h3]), if_pos ?_]
      have hb := nextF_bd (numF (nullF nul r).2).2 (n := 4) (by omega)
      have hs := strF_size (nextF 4 (numF (nullF nul r).2).2).1.toNat ⟨#[]⟩ (nextF 4 (numF (nullF nul r).2).2).2
      have hz : (⟨#[]⟩ : ByteArray).size = 0 := rfl
      unfold permF
      rw [if_neg (by omega), if_neg (by omega), if_neg (by omega), if_pos h3]
      dsimp only
      rw [hs, hz]
      exact decide_eq_true (by omega)
    · rw [if_neg h3]
      unfold vchk
      rw [if_neg (by omega), if_neg (by simp), if_neg (by simp [h3, te]), if_pos (fitN_ok _ h3)]
end Go.Proofs.Ytgooffpmiilicaa
