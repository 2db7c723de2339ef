/-
  THE ORDER OF VALUES: cmpV is a total preorder; the plain laws of bounds. Conditions: none.
-/
import Derived.Test.YtjojnakgadfgmaaInt2
set_option linter.unusedVariables false
set_option linter.unusedSimpArgs false
namespace Go.Proofs.Ytjojnakgadfgmaa
open Go.RowKit
theorem notLess_trans {a b c : List UInt8} (h1 : Op.bytesLess b a = false) (h2 : Op.bytesLess c b = false) : Op.bytesLess c a = false := by
  cases h : Op.bytesLess c a with
  | false => rfl
  | true =>
    rcases bytesLess_total a b with h3 | h3 | h3
    · rw [bytesLess_trans _ _ _ h h3] at h2; exact absurd h2 (by decide)
    · rw [h3] at h; rw [h] at h2; exact absurd h2 (by decide)
    · rw [h3] at h1; exact absurd h1 (by decide)
theorem cmpI_le (a b : Int) : cmpI a b ≤ 0 ↔ a ≤ b := by
  unfold cmpI; split
  · constructor <;> intro _ <;> omega
  · split <;> constructor <;> intro _ <;> omega
theorem cmpI_ge (a b : Int) : 0 ≤ cmpI a b ↔ b ≤ a := by
  unfold cmpI; split
  · constructor <;> intro _ <;> omega
  · split <;> constructor <;> intro _ <;> omega
theorem cmpS_le (a b : ByteArray) : cmpS a b ≤ 0 ↔ Op.bytesLess b.toList a.toList = false := by
  unfold cmpS
  rcases bytesLess_total a.toList b.toList with h | h | h
  · rw [if_pos h]; exact ⟨fun _ => bytesLess_asymm _ _ h, fun _ => by decide⟩
  · rw [h, if_neg (by rw [bytesLess_irrefl]; decide), if_pos rfl]; exact ⟨fun _ => bytesLess_irrefl _, fun _ => by decide⟩
  · have h2 := bytesLess_asymm _ _ h
    rw [if_neg (by rw [h2]; decide), if_neg (by intro e; rw [e, bytesLess_irrefl] at h; exact absurd h (by decide)), h]
    exact ⟨fun k => absurd k (by decide), fun k => absurd k (by decide)⟩
theorem cmpS_ge (a b : ByteArray) : 0 ≤ cmpS a b ↔ Op.bytesLess a.toList b.toList = false := by
  unfold cmpS
  rcases bytesLess_total a.toList b.toList with h | h | h
  · rw [if_pos h, h]; exact ⟨fun k => absurd k (by decide), fun k => absurd k (by decide)⟩
  · rw [h, if_neg (by rw [bytesLess_irrefl]; decide), if_pos rfl]; exact ⟨fun _ => bytesLess_irrefl _, fun _ => by decide⟩
  · have h2 := bytesLess_asymm _ _ h
    rw [if_neg (by rw [h2]; decide), if_neg (by intro e; rw [e, bytesLess_irrefl] at h; exact absurd h (by decide))]
    exact ⟨fun _ => h2, fun _ => by decide⟩
/-- x comes before y or equals it -/
def leV (t : Int) (x y : Val) : Prop := x.null = true ∨ (x.null = false ∧ y.null = false ∧ if t = 3 then Op.bytesLess y.s.toList x.s.toList = false else x.n ≤ y.n)
theorem cmpV_le (t : Int) (x y : Val) : cmpV t x y ≤ 0 ↔ leV t x y := by
  obtain ⟨xn, x, xs⟩ := x
  obtain ⟨yn, y, ys⟩ := y
  unfold cmpV leV
  cases xn <;> cases yn <;> simp
  split
  · exact cmpS_le _ _
  · exact cmpI_le _ _
theorem cmpV_ge (t : Int) (x y : Val) : 0 ≤ cmpV t x y ↔ leV t y x := by
  obtain ⟨xn, x, xs⟩ := x
  obtain ⟨yn, y, ys⟩ := y
  unfold cmpV leV
  cases xn <;> cases yn <;> simp
  split
  · exact cmpS_ge _ _
  · exact cmpI_ge _ _
theorem leV_trans {t : Int} {x y z : Val} (h1 : leV t x y) (h2 : leV t y z) : leV t x z := by
  unfold leV at *
  rcases h1 with h1 | ⟨a1, a2, a3⟩
  · exact .inl h1
  · rcases h2 with h2 | ⟨b1, b2, b3⟩
    · rw [a2] at h2; cases h2
    · refine .inr ⟨a1, b2, ?_⟩
      by_cases ht : t = 3
      · rw [if_pos ht] at *; exact notLess_trans a3 b3
      · rw [if_neg ht] at *; omega
theorem touch_between {t : Int} {b : Bnd} {x v y : Val} (h1 : cmpV t x v ≤ 0) (h2 : cmpV t v y ≤ 0) (h : touchF t b v v = true) : touchF t b x y = true := by
  rw [cmpV_le] at h1 h2
  unfold touchF at h ⊢
  simp only [Bool.and_eq_true, Bool.or_eq_true, Bool.not_eq_true', decide_eq_true_eq, cmpV_le, cmpV_ge] at h ⊢
  obtain ⟨hc, h⟩ := h
  refine ⟨hc, ?_⟩
  rcases h with ⟨hn, hv⟩ | ⟨⟨⟨hs, hv⟩, hlo⟩, hhi⟩
  · left
    refine ⟨hn, ?_⟩
    rcases h1 with h1 | ⟨_, a2, _⟩
    · exact h1
    · rw [hv] at a2; cases a2
  · right
    refine ⟨⟨⟨hs, ?_⟩, hlo.imp id fun k => leV_trans k h2⟩, ?_⟩
    · rcases h2 with h2 | ⟨_, b2, _⟩
      · rw [hv] at h2; cases h2
      · exact b2
    · rcases hhi with (k | k) | k
      · exact .inl (.inl k)
      · rw [hv] at k; cases k
      · exact .inr (leV_trans h1 k)
end Go.Proofs.Ytjojnakgadfgmaa
