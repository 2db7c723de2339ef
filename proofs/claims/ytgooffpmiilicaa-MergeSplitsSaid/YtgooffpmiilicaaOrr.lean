/-
  THE ORDER OF RANKS: cmpV and cmpR are total preorders, exactly antisymmetric. Conditions: none.
-/
import Derived.Test.YtgooffpmiilicaaBrk
import Derived.Test.YtgooffpmiilicaaSs2
set_option linter.unusedVariables false
set_option linter.unusedSimpArgs false
namespace Go.Proofs.Ytgooffpmiilicaa
open Go.RowKit Srt
theorem notLess_trans {a b c : List UInt8} (h1 : Op.bytesLess b a = false) (h2 : Op.bytesLess c b = false) : Op.bytesLess c a = false := by
  cases h : Op.bytesLess c a with
  | false => rfl
  | true =>
    rcases bytesLess_total a b with h3 | h3 | h3
    · rw [bytesLess_trans _ _ _ h h3] at h2; exact absurd h2 (by decide)
    · rw [h3] at h; rw [h] at h2; exact absurd h2 (by decide)
    · rw [h3] at h1; exact absurd h1 (by decide)
theorem cmpI_le (a b : Int) : cmpI a b ≤ 0 ↔ a ≤ b := by
  unfold cmpI; split
  · constructor <;> intro _ <;> omega
  · split <;> constructor <;> intro _ <;> omega
theorem cmpI_ge (a b : Int) : 0 ≤ cmpI a b ↔ b ≤ a := by
  unfold cmpI; split
  · constructor <;> intro _ <;> omega
  · split <;> constructor <;> intro _ <;> omega
theorem cmpS_le (a b : ByteArray) : cmpS a b ≤ 0 ↔ Op.bytesLess b.toList a.toList = false := by
  unfold cmpS
  rcases bytesLess_total a.toList b.toList with h | h | h
  · rw [if_pos h]; exact ⟨fun _ => bytesLess_asymm _ _ h, fun _ => by decide⟩
  · rw [h, if_neg (by rw [bytesLess_irrefl]; decide), if_pos rfl]; exact ⟨fun _ => bytesLess_irrefl _, fun _ => by decide⟩
  · have h2 := bytesLess_asymm _ _ h
    rw [if_neg (by rw [h2]; decide), if_neg (by intro e; rw [e, bytesLess_irrefl] at h; exact absurd h (by decide)), h]
    exact ⟨fun k => absurd k (by decide), fun k => absurd k (by decide)⟩
theorem cmpS_ge (a b : ByteArray) : 0 ≤ cmpS a b ↔ Op.bytesLess a.toList b.toList = false := by
  unfold cmpS
  rcases bytesLess_total a.toList b.toList with h | h | h
  · rw [if_pos h, h]; exact ⟨fun k => absurd k (by decide), fun k => absurd k (by decide)⟩
  · rw [h, if_neg (by rw [bytesLess_irrefl]; decide), if_pos rfl]; exact ⟨fun _ => bytesLess_irrefl _, fun _ => by decide⟩
  · have h2 := bytesLess_asymm _ _ h
    rw [if_neg (by rw [h2]; decide), if_neg (by intro e; rw [e, bytesLess_irrefl] at h; exact absurd h (by decide))]
    exact ⟨fun _ => h2, fun _ => by decide⟩
/-- x comes before y or equals it -/
def leV (t : Int) (x y : Val) : Prop := x.null = true ∨ (x.null = false ∧ y.null = false ∧ if t = 3 then Op.bytesLess y.s.toList x.s.toList = false else x.n ≤ y.n)
theorem cmpV_le (t : Int) (x y : Val) : cmpV t x y ≤ 0 ↔ leV t x y := by
  obtain ⟨xn, x, xs⟩ := x
  obtain ⟨yn, y, ys⟩ := y
  unfold cmpV leV
  cases xn <;> cases yn <;> simp
  split
  · exact cmpS_le _ _
  · exact cmpI_le _ _
theorem cmpV_ge (t : Int) (x y : Val) : 0 ≤ cmpV t x y ↔ leV t y x := by
  obtain ⟨xn, x, xs⟩ := x
  obtain ⟨yn, y, ys⟩ := y
  unfold cmpV leV
  cases xn <;> cases yn <;> simp
  split
  · exact cmpS_ge _ _
  · exact cmpI_ge _ _
theorem leV_trans {t : Int} {x y z : Val} (h1 : leV t x y) (h2 : leV t y z) : leV t x z := by
  unfold leV at *
  rcases h1 with h1 | ⟨a1, a2, a3⟩
  · exact .inl h1
  · rcases h2 with h2 | ⟨b1, b2, b3⟩
    · rw [a2] at h2; cases h2
    · refine .inr ⟨a1, b2, ?_⟩
      by_cases ht : t = 3
      · rw [if_pos ht] at *; exact notLess_trans a3 b3
      · rw [if_neg ht] at *; omega
theorem cmpI_neg (a b : Int) : cmpI b a = - cmpI a b := by
  unfold cmpI
  rcases Int.lt_trichotomy a b with h | h | h
  · rw [if_neg (by omega), if_neg (by omega), if_pos h]; rfl
  · subst h; rw [if_neg (by omega), if_pos rfl]; rfl
  · rw [if_pos h, if_neg (by omega), if_neg (by omega)]
theorem cmpS_neg (a b : ByteArray) : cmpS b a = - cmpS a b := by
  unfold cmpS
  rcases bytesLess_total a.toList b.toList with h | h | h
  · have h2 := bytesLess_asymm _ _ h
    rw [if_pos h, if_neg (by rw [h2]; decide), if_neg (by intro e; rw [e, bytesLess_irrefl] at h; exact absurd h (by decide))]; rfl
  · rw [h, if_neg (by rw [bytesLess_irrefl]; decide), if_pos rfl]; rfl
  · have h2 := bytesLess_asymm _ _ h
    rw [if_pos h, if_neg (by rw [h2]; decide), if_neg (by intro e; rw [e, bytesLess_irrefl] at h; exact absurd h (by decide))]
theorem cmpV_neg (t : Int) (x y : Val) : cmpV t y x = - cmpV t x y := by
  obtain ⟨xn, x, xs⟩ := x
  obtain ⟨yn, y, ys⟩ := y
  unfold cmpV
  cases xn <;> cases yn <;> simp
  split
  · exact cmpS_neg _ _
  · exact cmpI_neg _ _
theorem cmpV_trans {t : Int} {x y z : Val} (h1 : cmpV t x y ≤ 0) (h2 : cmpV t y z ≤ 0) : cmpV t x z ≤ 0 := by
  rw [cmpV_le] at *; exact leV_trans h1 h2
theorem cmpR_neg (t : Int) (x y : Rk) : cmpR t y x = - cmpR t x y := by
  have h1 := cmpV_neg t x.key y.key
  have h2 := cmpI_neg x.seq y.seq
  unfold cmpR orF
  rw [h1, h2]
  by_cases h : cmpV t x.key y.key = 0
  · rw [if_pos (by omega), if_pos h]
  · rw [if_neg (by omega), if_neg h]
theorem cmpR_trans {t : Int} {x y z : Rk} (h1 : cmpR t x y ≤ 0) (h2 : cmpR t y z ≤ 0) : cmpR t x z ≤ 0 := by
  have n1 := cmpV_neg t x.key y.key
  have n2 := cmpV_neg t y.key z.key
  have n3 := cmpV_neg t x.key z.key
  have t1 := fun a b => cmpV_trans (t := t) (x := x.key) (y := y.key) (z := z.key) a b
  have t2 := fun a b => cmpV_trans (t := t) (x := y.key) (y := z.key) (z := x.key) a b
  have t3 := fun a b => cmpV_trans (t := t) (x := z.key) (y := x.key) (z := y.key) a b
  have t4 := fun a b => cmpV_trans (t := t) (x := z.key) (y := y.key) (z := x.key) a b
  have I1 := cmpI_le x.seq y.seq
  have I2 := cmpI_le y.seq z.seq
  have I3 := cmpI_le x.seq z.seq
  unfold cmpR orF at *
  generalize cmpV t x.key y.key = a at *
  generalize cmpV t y.key z.key = b at *
  generalize cmpV t x.key z.key = c at *
  generalize cmpV t y.key x.key = a' at *
  generalize cmpV t z.key y.key = b' at *
  generalize cmpV t z.key x.key = c' at *
  generalize cmpI x.seq y.seq = p at *
  generalize cmpI y.seq z.seq = q at *
  generalize cmpI x.seq z.seq = r at *
  by_cases ha : a = 0
  · rw [if_pos ha] at h1
    by_cases hb : b = 0
    · rw [if_pos hb] at h2
      rw [if_pos (by omega)]; omega
    · rw [if_neg hb] at h2
      rw [if_neg (by omega)]; omega
  · rw [if_neg ha] at h1
    by_cases hb : b = 0
    · rw [if_pos hb] at h2
      rw [if_neg (by omega)]; omega
    · rw [if_neg hb] at h2
      rw [if_neg (by omega)]; omega
/-- The order of records of a schema. -/
def recD (t key : Int) (x y : Rc) : Int := cmpR t (rankF key x) (rankF key y)
theorem recD_pre (t key : Int) : Pre (recD t key) := ⟨fun x y => by have := cmpR_neg t (rankF key x) (rankF key y); unfold recD; omega, fun x y z h1 h2 => cmpR_trans h1 h2⟩
theorem recD_neg (t key : Int) (x y : Rc) : recD t key y x = - recD t key x y := cmpR_neg _ _ _
end Go.Proofs.Ytgooffpmiilicaa
