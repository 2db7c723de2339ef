/-
  FILTERS: what vector.check and vector.Filter reckon, plainly; rows in memory. Conditions: each theorem states its own.
-/
import Derived.Test.YtploieofmnlomaaTst
import Derived.Test.YtploieofmnlomaaKrs
import Derived.Test.YtploieofmnlomaaCkr
set_option linter.unusedVariables false
set_option linter.unusedSimpArgs false
namespace Go.Proofs.Ytploieofmnlomaa
open Go.RowKit
def listErr (c : Col) : List Val → Int
  | [] => 0
  | v :: r => if vchk c.ty c.nul v.null v.n v.s = 0 then listErr c r else vchk c.ty c.nul v.null v.n v.s
def valsErr : List Col → List (List Val) → Int
  | c :: cs, l :: ls => if listErr c l = 0 then valsErr cs ls else listErr c l
  | _, _ => 0
def lenOff (n : Nat) (cols : List (List Val)) : Bool := cols.any fun l => !decide (l.length = n)
/-- The first error of columns. -/
def colsErr (cs : List Col) (cols : List (List Val)) : Int :=
  if ¬ cols.length = cs.length then 1 else if lenOff (cols.headD []).length cols = true then 1 else if 4096 < (cols.headD []).length then 7 else valsErr cs cols
theorem listErr_ok {c : Col} {l : List Val} {k : Nat} (h : k < l.length) (h0 : vchk c.ty c.nul (l[k]'h).null (l[k]'h).n (l[k]'h).s = 0) : listErr c (l.drop k) = listErr c (l.drop (k + 1)) := by
  rw [List.drop_eq_getElem_cons h]
  simp only [listErr]
  rw [if_pos h0]
theorem listErr_bad {c : Col} {l : List Val} {k : Nat} (h : k < l.length) (h0 : ¬ vchk c.ty c.nul (l[k]'h).null (l[k]'h).n (l[k]'h).s = 0) : listErr c (l.drop k) = vchk c.ty c.nul (l[k]'h).null (l[k]'h).n (l[k]'h).s := by
  rw [List.drop_eq_getElem_cons h]
  simp only [listErr]
  rw [if_neg h0]
theorem valsErr_ok {cs : List Col} {ls : List (List Val)} {k : Nat} (h : k < cs.length) (h' : k < ls.length) (h0 : listErr (cs[k]'h) (ls[k]'(h')) = 0) : valsErr (cs.drop k) (ls.drop k) = valsErr (cs.drop (k + 1)) (ls.drop (k + 1)) := by
  rw [List.drop_eq_getElem_cons h, List.drop_eq_getElem_cons h']
  simp only [valsErr]
  rw [if_pos h0]
theorem valsErr_bad {cs : List Col} {ls : List (List Val)} {k : Nat} (h : k < cs.length) (h' : k < ls.length) (h0 : ¬ listErr (cs[k]'h) (ls[k]'(h')) = 0) : valsErr (cs.drop k) (ls.drop k) = listErr (cs[k]'h) (ls[k]'(h')) := by
  rw [List.drop_eq_getElem_cons h, List.drop_eq_getElem_cons h']
  simp only [valsErr]
  rw [if_neg h0]
theorem lenOff_step {n : Nat} {ls : List (List Val)} {k : Nat} (h : k < ls.length) : lenOff n (ls.drop k) = (!decide ((ls[k]'h).length = n) || lenOff n (ls.drop (k + 1))) := by
  unfold lenOff
  rw [List.drop_eq_getElem_cons h, List.any_cons]
theorem headD_at {ls : List (List Val)} (h : 0 < ls.length) : ls.headD [] = ls[0]'h := by
  cases ls with
  | nil => exact absurd h (by simp)
  | cons a r => rfl
/-- Row k of columns. -/
def rowOf (cols : List (List Val)) (k : Nat) : List Val := cols.map fun l => l.getD k Val.zero
/-- The truth values of the rows. -/
def filtF (cs : List Col) (ns : List Nod) (cols : List (List Val)) : List Int := (List.range (cols.headD []).length).map fun k => evalF cs (rowOf cols k) ns
end Go.Proofs.Ytploieofmnlomaa
