/-
  wide.Parse of an arbitrary text: what it computes. Conditions: none.
-/
import Derived.Test.YtapjndhbdpbjcaaDoorTrm
import Derived.Deep.LoopGhost
import Derived.Deep.CutBlock
import Derived.Lib.Hide
set_option linter.unusedVariables false
set_option linter.unusedSimpArgs false
namespace Go.Proofs.YtapjndhbdpbjcaaDoor
open Go.RowKit Go.Shelf
def digB (b : UInt8) : Bool := decide (48 ≤ b.toNat) && decide (b.toNat ≤ 57)
def valL (v : Nat) (t : List UInt8) : Nat := t.foldl (fun v b => 10 * v + (b.toNat - 48)) v
def parseN (neg : Bool) (v : Nat) : Int × Int × Int :=
  if 340282366920938463463374607431768211456 ≤ v then (0, 0, 8) else
  let h := wrap64 ((v / 18446744073709551616 : Nat) : Int); let l := ((v % 18446744073709551616 : Nat) : Int)
  let h' := if neg = true then negHi h l else h; let l' := if neg = true then negLo l else l
  if decide (h' < 0) = neg then (h', l', 0) else (0, 0, 8)
def formB (neg : Bool) (t : List UInt8) : Bool := decide (t.length + (if neg = true then 1 else 0) ≤ 40) && !t.isEmpty && t.all digB && (!(t.head? == some 48) || (!neg && t == [48]))
def parseF (neg : Bool) (t : List UInt8) : Int × Int × Int := if formB neg t = true then parseN neg (valL 0 t) else (0, 0, 2)
theorem parseF_form {neg : Bool} {t : List UInt8} (h : formB neg t = false) : parseF neg t = (0, 0, 2) := by unfold parseF; rw [if_neg (by rw [h]; decide)]
theorem parseF_num {neg : Bool} {t : List UInt8} (h : formB neg t = true) : parseF neg t = parseN neg (valL 0 t) := by unfold parseF; rw [if_pos h]
theorem valL_mono (t : List UInt8) : ∀ {v w : Nat}, v ≤ w → valL v t ≤ valL w t := by
  induction t with
  | nil => intro v w h; exact h
  | cons a t ih => intro v w h; exact ih (by show 10 * v + _ ≤ 10 * w + _; omega)
theorem valL_ge (t : List UInt8) : ∀ v, v ≤ valL v t := by
  induction t with
  | nil => intro v; exact Nat.le_refl _
  | cons a t ih => intro v; exact Nat.le_trans (by show v ≤ 10 * v + _; omega) (ih _)
theorem dig_mem (b : UInt8) : ([48, 49, 50, 51, 52, 53, 54, 55, 56, 57] : List UInt8).contains b = digB b := by
  have key : ∀ c : UInt8, b = c ↔ b.toNat = c.toNat := fun c => UInt8.toNat_inj.symm
  rw [Bool.eq_iff_iff]
  simp [digB, key]
  omega
theorem dw_nil {α : Type} (p : α → Bool) : ∀ l : List α, l.dropWhile p = [] ↔ l.all p = true
  | [] => by simp
  | a :: l => by
    cases h : p a
    · simp [List.dropWhile, h]
    · simp only [List.dropWhile, h, List.all_cons, Bool.true_and]; exact dw_nil p l
theorem dw_all {α : Type} (p : α → Bool) : ∀ l : List α, (l.dropWhile p).all p = true ↔ l.all p = true
  | [] => by simp
  | a :: l => by
    cases h : p a
    · simp [List.dropWhile, h]
    · simp only [List.dropWhile, h, List.all_cons, Bool.true_and]; exact dw_all p l
theorem trim_nil (t : List UInt8) : Lib.trimS t [48, 49, 50, 51, 52, 53, 54, 55, 56, 57] = [] ↔ t.all digB = true := by
  unfold Lib.trimS Lib.trimLeftS Lib.trimRightS
  simp only [dig_mem]
  rw [dw_nil, List.all_reverse]
  exact (dw_all digB t.reverse).trans (by rw [List.all_reverse])
end Go.Proofs.YtapjndhbdpbjcaaDoor
