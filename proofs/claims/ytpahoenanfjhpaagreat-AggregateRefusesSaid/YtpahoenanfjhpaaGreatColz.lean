/-
  COLUMNS of rows (plain). Conditions: each theorem states its own.
-/
import Derived.Test.YtpahoenanfjhpaaGreatVftz
set_option linter.unusedVariables false
set_option linter.unusedSimpArgs false
namespace Go.Proofs.YtpahoenanfjhpaaGreat
open Go.RowKit
def colOf (k : Nat) (rows : List (List Val)) : List Val := rows.map fun r => r.getD k Val.zero
def colsOf (n : Nat) (rows : List (List Val)) : List (List Val) := (List.range n).map fun k => colOf k rows
theorem colOf_take {k j : Nat} {rows : List (List Val)} (h : j < rows.length) : colOf k (rows.take (j + 1)) = colOf k (rows.take j) ++ [(rows[j]'h).getD k Val.zero] := by
  unfold colOf; rw [List.take_succ_eq_append_getElem h, List.map_append]; rfl
theorem getDv_in {l : List Val} {d : Val} {k : Nat} (h : k < l.length) : l.getD k d = l[k]'h := by
  rw [List.getD_eq_getElem?_getD, List.getElem?_eq_getElem h]; rfl
theorem Inn.on {B0 : Nat} {w w' : World} {v : Value} {lvs : List Value} {rows : List (List Val)} (h : Inn B0 w v lvs rows) (hb : Below w.heap.size w w') : Inn B0 w' v lvs rows :=
  ⟨h.1, fun j hj hj' => ⟨(h.2 j hj hj').1.mono hb hb.size, fun k hk => ⟨((h.2 j hj hj').2 k hk).1, Nat.lt_of_lt_of_le ((h.2 j hj hj').2 k hk).2.1 hb.size, ((h.2 j hj hj').2 k hk).2.2⟩⟩⟩
end Go.Proofs.YtpahoenanfjhpaaGreat
