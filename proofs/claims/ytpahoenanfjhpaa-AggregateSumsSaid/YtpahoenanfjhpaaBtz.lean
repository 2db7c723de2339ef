/-
  PLAIN: masks and joins of signed 64-bit numbers. Conditions: each theorem states its own.
-/
import Derived.Test.YtpahoenanfjhpaaZt
import Derived.Laws.BitsLemmas
set_option linter.unusedVariables false
set_option linter.unusedSimpArgs false
namespace Go.Proofs.Ytpahoenanfjhpaa
open Go.RowKit
theorem ofInt64 (n : Int) : ((BitVec.ofInt 64 n).toNat : Int) = n % 18446744073709551616 := by
  rw [BitVec.toNat_ofInt]
  have : (0 : Int) ≤ n % 18446744073709551616 := Int.emod_nonneg _ (by decide)
  simp
  omega
theorem and32 (n : Int) : bits .and .i64 n 4294967295 = n % 4294967296 := by
  have h : bits .and .i64 n 4294967295 = IntKind.i64.wrap ((BitVec.ofInt 64 n &&& BitVec.ofInt 64 4294967295).toNat : Int) := rfl
  rw [h, BitVec.toNat_and]
  have e : (BitVec.ofInt 64 4294967295).toNat = 2 ^ 32 - 1 := by decide
  rw [e, Nat.and_two_pow_sub_one_eq_mod]
  have k := ofInt64 n
  generalize (BitVec.ofInt 64 n).toNat = m at *
  rw [IntKind.wrap_i64]
  omega
theorem or32 (h l : Int) (h0 : -2147483648 ≤ h) (h1 : h < 2147483648) (l0 : 0 ≤ l) (l1 : l < 4294967296) : bits .or .i64 (h * 4294967296) l = h * 4294967296 + l := by
  have q : bits .or .i64 (h * 4294967296) l = IntKind.i64.wrap ((BitVec.ofInt 64 (h * 4294967296) ||| BitVec.ofInt 64 l).toNat : Int) := rfl
  rw [q, BitVec.toNat_or]
  have k1 := ofInt64 (h * 4294967296)
  have k2 := ofInt64 l
  generalize (BitVec.ofInt 64 (h * 4294967296)).toNat = a at *
  generalize (BitVec.ofInt 64 l).toNat = b at *
  have ea : a = 2 ^ 32 * (a / 2 ^ 32) := by omega
  have hb : b < 2 ^ 32 := by omega
  rw [ea, ← Nat.two_pow_add_eq_or_of_lt hb, ← ea, IntKind.wrap_i64]
  push_cast
  omega
theorem or_isI (a b : Int) : isI (bits .or .i64 a b) := by
  have q : bits .or .i64 a b = IntKind.i64.wrap ((BitVec.ofInt 64 a ||| BitVec.ofInt 64 b).toNat : Int) := rfl
  rw [q, IntKind.wrap_i64]; unfold isI; omega
/-- The sum in two halves. -/
def hiF (x : List Int) : Int := x.foldl (fun s n => s + n / 4294967296) 0
def loF (x : List Int) : Int := x.foldl (fun s n => s + n % 4294967296) 0
theorem halves_all : ∀ (x : List Int) (a b c : Int), c = a * 4294967296 + b → x.foldl (fun s n => s + n) c = x.foldl (fun s n => s + n / 4294967296) a * 4294967296 + x.foldl (fun s n => s + n % 4294967296) b
  | [], _, _, _, h => h
  | n :: x, a, b, c, h => by
    simp only [List.foldl_cons]
    exact halves_all x _ _ _ (by omega)
theorem halves (x : List Int) : totF x = hiF x * 4294967296 + loF x := halves_all x 0 0 0 rfl
theorem fold_snoc (f : Int → Int → Int) (x : List Int) (s n : Int) : (x ++ [n]).foldl f s = f (x.foldl f s) n := by rw [List.foldl_append]; rfl
theorem hi_bd : ∀ (x : List Int) (s : Int), (∀ n ∈ x, isI n) → s - 2147483648 * x.length ≤ x.foldl (fun s n => s + n / 4294967296) s ∧ x.foldl (fun s n => s + n / 4294967296) s ≤ s + 2147483648 * x.length
  | [], s, _ => by simp
  | n :: x, s, h => by
    have hn := h n (by simp)
    unfold isI at hn
    have ih := hi_bd x (s + n / 4294967296) (fun m hm => h m (List.mem_cons_of_mem _ hm))
    simp only [List.foldl_cons, List.length_cons]
    push_cast
    omega
theorem lo_bd : ∀ (x : List Int) (s : Int), s ≤ x.foldl (fun s n => s + n % 4294967296) s ∧ x.foldl (fun s n => s + n % 4294967296) s ≤ s + 4294967296 * x.length
  | [], s => by simp
  | n :: x, s => by
    have ih := lo_bd x (s + n % 4294967296)
    simp only [List.foldl_cons, List.length_cons]
    push_cast
    omega
end Go.Proofs.Ytpahoenanfjhpaa
