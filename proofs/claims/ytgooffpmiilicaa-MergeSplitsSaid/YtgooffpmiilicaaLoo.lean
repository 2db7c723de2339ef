/-
  THE MAKERS: keep.Loose: valid records in any order. Conditions: the schema and the choices lie in memory as 'ColsAt', 'IntsAt' say.
-/
import Derived.Test.YtgooffpmiilicaaApp
import Derived.Deep.AppendLies
import Derived.Deep.RegionHeld3
set_option linter.unusedVariables false
set_option linter.unusedSimpArgs false
namespace Go.Proofs.Ytgooffpmiilicaa
open Go.RowKit
/-- What the makers say of each record. -/
def RcOk (cs : List Col) (r : Rc) : Prop := 0 ≤ r.seq ∧ r.seq ≤ 1000000 ∧ r.row.length = cs.length ∧ RowPre cs r.row
end Go.Proofs.Ytgooffpmiilicaa
