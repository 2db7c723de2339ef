/-
  THE MAKERS: keep.Schema: the plain laws: what is drawn is a valid schema. Conditions: none beyond those that each theorem states.
-/
import Derived.Test.YtgooffpmiilicaaMak
import Derived.Test.YtgooffpmiilicaaVok
set_option linter.unusedVariables false
set_option linter.unusedSimpArgs false
namespace Go.Proofs.Ytgooffpmiilicaa
open Go.RowKit
def ltr (m : Nat) : ByteArray := (⟨#[97, 98, 99, 100]⟩ : ByteArray).extract (m - 1) m
theorem ltr_name {m : Nat} (h1 : 1 ≤ m) (h4 : m ≤ 4) : nameF (ltr m).toList = true := by
  have : m = 1 ∨ m = 2 ∨ m = 3 ∨ m = 4 := by omega
  rw [ByteArray.toList_eq]
  rcases this with rfl | rfl | rfl | rfl <;> decide
theorem ltr_ne {m k : Nat} (h1 : 1 ≤ m) (hk : m < k) (h4 : k ≤ 4) : ¬ (ltr k).toList = (ltr m).toList := by
  have : (m = 1 ∧ k = 2) ∨ (m = 1 ∧ k = 3) ∨ (m = 1 ∧ k = 4) ∨ (m = 2 ∧ k = 3) ∨ (m = 2 ∧ k = 4) ∨ (m = 3 ∧ k = 4) := by omega
  rw [ByteArray.toList_eq, ByteArray.toList_eq]
  rcases this with ⟨rfl, rfl⟩ | ⟨rfl, rfl⟩ | ⟨rfl, rfl⟩ | ⟨rfl, rfl⟩ | ⟨rfl, rfl⟩ | ⟨rfl, rfl⟩ <;> decide
theorem colsE_snoc : ∀ (cs pre : List Col) (c : Col), colsE pre cs = 0 → colE (pre ++ cs) c = 0 → colsE pre (cs ++ [c]) = 0
  | [], pre, c, _, h => by
    simp only [List.append_nil] at h
    simp [colsE, h]
  | d :: cs, pre, c, h0, h => by
    simp only [List.cons_append, colsE] at h0 ⊢
    by_cases e : colE pre d = 0
    · rw [if_pos e] at h0 ⊢
      exact colsE_snoc cs (pre ++ [d]) c h0 (by rw [List.append_assoc]; exact h)
    · rw [if_neg e] at h0; exact absurd h0 e
/-- The columns that are drawn when m names are left. -/
def ScOk (m : Nat) (cs : List Col) : Prop := colsE [] cs = 0 ∧ ∀ c ∈ cs, ∃ j, m < j ∧ j ≤ 4 ∧ c.nm = ltr j
theorem ScOk.nil (m : Nat) : ScOk m [] := ⟨rfl, fun c h => absurd h (by simp)⟩
theorem ScOk.snoc {m : Nat} {cs : List Col} {ty sc : Int} {nul : Bool} (h : ScOk (m + 1) cs) (hm : m + 1 ≤ 4) (h1 : 1 ≤ ty) (h5 : ty ≤ 5) (hs0 : 0 ≤ sc) (hs : sc ≤ 18) (hz : ¬ ty = 5 → sc = 0) : ScOk m (cs ++ [⟨ltr (m + 1), ty, sc, nul⟩]) := by
  refine ⟨colsE_snoc cs [] _ h.1 ?_, ?_⟩
  · unfold colE
    dsimp only
    rw [if_neg (by rw [ltr_name (by omega) hm]; simp), if_neg ?_, if_neg (by omega), if_neg (by omega)]
    simp only [List.nil_append, List.any_eq_true, beq_iff_eq, not_exists, not_and]
    intro d hd
    obtain ⟨j, hj, hj4, hn⟩ := h.2 d hd
    rw [hn]
    exact ltr_ne (by omega) hj hj4
  · intro c hc
    rcases List.mem_append.1 hc with hc | hc
    · obtain ⟨j, hj, hj4, hn⟩ := h.2 c hc
      exact ⟨j, by omega, hj4, hn⟩
    · rw [List.mem_singleton.1 hc]
      exact ⟨m + 1, by omega, hm, rfl⟩
theorem ScOk.schema {cs : List Col} {key : Int} (h : ScOk 0 cs) (h0 : 0 < cs.length) (h4 : cs.length ≤ 4) (hk : 0 ≤ key) (hk' : key < cs.length) : schemaF cs key = 0 := by
  unfold schemaF
  rw [if_neg (by omega), if_neg (by omega), if_pos h.1, if_neg (by omega)]
end Go.Proofs.Ytgooffpmiilicaa
