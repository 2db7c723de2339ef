/-
  The plain arithmetic of 128-bit numbers in two limbs: no Go in sight.
  Conditions: none beyond those that each theorem states.
-/
import Derived.Test.YtapjndhbdpbjcaaDoorExt
namespace Go.Proofs.YtapjndhbdpbjcaaDoor
open Go.RowKit

def isU (x : Int) : Prop := 0 ≤ x ∧ x < 18446744073709551616
def isI (x : Int) : Prop := -9223372036854775808 ≤ x ∧ x < 9223372036854775808
/-- the sum's low limb and its carry -/
def sumLo (x y c : Int) : Int := (x + y + c) % 18446744073709551616
def sumC (x y c : Int) : Int := (x + y + c) / 18446744073709551616
/-- the high limb of the sum, as a signed number -/
def addHi (h1 l1 h2 l2 : Int) : Int := wrap64 (sumLo (IntKind.u64.wrap h1) (IntKind.u64.wrap h2) (sumC l1 l2 0))
def addLo (l1 l2 : Int) : Int := sumLo l1 l2 0
/-- the sign's spread, the number's 64 bits -/
def ofHi (n : Int) : Int := n / 9223372036854775808
def ofLo (n : Int) : Int := IntKind.u64.wrap n
/-- the limbs, every bit turned -/
def notHi (h : Int) : Int := -1 - h
def notLo (l : Int) : Int := 18446744073709551615 - l
def negHi (h l : Int) : Int := addHi (notHi h) (notLo l) (ofHi 1) (ofLo 1)
def negLo (l : Int) : Int := addLo (notLo l) (ofLo 1)
/-- equality of two numbers -/
def eqW (a b c d : Int) : Bool := a == c && b == d

/-- the order of two integers, as -1, 0, 1; the first of two numbers that is not 0 -/
def cmpI (a b : Int) : Int := if a < b then -1 else if a = b then 0 else 1
def orI (x y : Int) : Int := if x = 0 then y else x

/-- does the number have 64 bits; and the number -/
def fitsB (h l : Int) : Bool := eqW (ofHi (wrap64 l)) (ofLo (wrap64 l)) h l
def intN (h l : Int) : Int := if fitsB h l = true then wrap64 l else 0
theorem intN_yes {h l : Int} (f : fitsB h l = true) : intN h l = wrap64 l := if_pos f
theorem intN_no {h l : Int} (f : fitsB h l = false) : intN h l = 0 := if_neg (by rw [f]; decide)
theorem fitsB_yes {h l : Int} (f : fitsB h l = true) : eqW (ofHi (wrap64 l)) (ofLo (wrap64 l)) h l = true := f
theorem fitsB_no {h l : Int} (f : fitsB h l = false) : eqW (ofHi (wrap64 l)) (ofLo (wrap64 l)) h l = false := f

/-- the quotient and the rest of a number of two limbs by 10 -/
def divQ (h l : Int) : Int := (h * 18446744073709551616 + l) / 10
def divR (h l : Int) : Int := (h * 18446744073709551616 + l) % 10

theorem wrap64_eq (n : Int) : wrap64 n = (n + 9223372036854775808) % 18446744073709551616 - 9223372036854775808 := by unfold wrap64; rfl
theorem wrapU_eq (n : Int) : IntKind.u64.wrap n = n % 18446744073709551616 := by simp [IntKind.wrap, IntKind.bits, IntKind.signed]

theorem sumC_bd {x y c : Int} (hx : isU x) (hy : isU y) (hc0 : 0 ≤ c) (hc : c ≤ 1) : 0 ≤ sumC x y c ∧ sumC x y c ≤ 1 := by
  unfold isU sumC at *; omega
theorem wrapU (x : Int) : isU (IntKind.u64.wrap x) := by rw [wrapU_eq]; unfold isU; omega
theorem isI_wrap64 (x : Int) : isI (wrap64 x) := by rw [wrap64_eq]; unfold isI; omega
theorem isU_sumLo (x y c : Int) : isU (sumLo x y c) := by unfold isU sumLo; omega
theorem isU_addLo (x y : Int) : isU (addLo x y) := isU_sumLo _ _ _
theorem isU_ofLo (n : Int) : isU (ofLo n) := wrapU n
theorem isI_ofHi {n : Int} (h : isI n) : isI (ofHi n) := by unfold isI ofHi at *; omega
theorem isI_addHi (a b c d : Int) : isI (addHi a b c d) := isI_wrap64 _
theorem isU_negLo (l : Int) : isU (negLo l) := isU_addLo _ _
theorem isI_negHi (h l : Int) : isI (negHi h l) := isI_addHi _ _ _ _
theorem isU_notLo {l : Int} (h : isU l) : isU (notLo l) := by unfold isU notLo at *; omega
theorem isU_0 : isU 0 := by unfold isU; omega

/-- What the high limb is. -/
theorem addHi_eq (a b c d : Int) : addHi a b c d = (a + c + (b + d) / 18446744073709551616 + 9223372036854775808) % 18446744073709551616 - 9223372036854775808 := by
  unfold addHi sumLo sumC; rw [wrap64_eq, wrapU_eq, wrapU_eq]; omega
theorem addLo_eq (b d : Int) : addLo b d = (b + d) % 18446744073709551616 := by unfold addLo sumLo; omega
theorem ofLo_eq (n : Int) : ofLo n = n % 18446744073709551616 := wrapU_eq n
theorem ofHi1 : ofHi 1 = 0 := by decide
theorem ofLo1 : ofLo 1 = 1 := by decide
theorem ofHi0 : ofHi 0 = 0 := by decide
theorem ofLo0 : ofLo 0 = 0 := by decide
theorem negHi_eq (h l : Int) : negHi h l = (-1 - h + (18446744073709551616 - l) / 18446744073709551616 + 9223372036854775808) % 18446744073709551616 - 9223372036854775808 := by
  unfold negHi; rw [ofHi1, ofLo1, addHi_eq]; unfold notHi notLo; omega
theorem negLo_eq (l : Int) : negLo l = (18446744073709551616 - l) % 18446744073709551616 := by
  unfold negLo; rw [ofLo1, addLo_eq]; unfold notLo; omega

theorem eqW_of {a b c d : Int} (h1 : a = c) (h2 : b = d) : eqW a b c d = true := by subst h1 h2; simp [eqW]
theorem eqW_iff {a b c d : Int} : eqW a b c d = true ↔ a = c ∧ b = d := by simp [eqW]

/-! ### The group -/
theorem add_assoc_W {h1 l1 h2 l2 h3 l3 : Int} (_b1 : isU l1) (_b2 : isU l2) (_b3 : isU l3) :
    eqW (addHi (addHi h1 l1 h2 l2) (addLo l1 l2) h3 l3) (addLo (addLo l1 l2) l3) (addHi h1 l1 (addHi h2 l2 h3 l3) (addLo l2 l3)) (addLo l1 (addLo l2 l3)) = true := by
  refine eqW_of ?_ ?_
  · simp only [addHi_eq, addLo_eq]; omega
  · simp only [addLo_eq]; omega
theorem add_comm_W (h1 l1 h2 l2 : Int) : eqW (addHi h1 l1 h2 l2) (addLo l1 l2) (addHi h2 l2 h1 l1) (addLo l2 l1) = true := by
  refine eqW_of ?_ ?_
  · simp only [addHi_eq]; omega
  · simp only [addLo_eq]; omega
theorem add_neg_W (h l : Int) : eqW (addHi h l (negHi h l) (negLo l)) (addLo l (negLo l)) 0 0 = true := by
  refine eqW_of ?_ ?_
  · simp only [addHi_eq, negHi_eq, negLo_eq]; omega
  · simp only [addLo_eq, negLo_eq]; omega
theorem add_zero_W {h l : Int} (a : isI h) (b : isU l) : eqW (addHi h l (ofHi 0) (ofLo 0)) (addLo l (ofLo 0)) h l = true := by
  unfold isI at a; unfold isU at b
  rw [ofHi0, ofLo0]
  refine eqW_of ?_ ?_
  · simp only [addHi_eq]; omega
  · simp only [addLo_eq]; omega
end Go.Proofs.YtapjndhbdpbjcaaDoor
