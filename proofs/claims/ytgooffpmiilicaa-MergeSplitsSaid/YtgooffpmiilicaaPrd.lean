/-
  PREDICATES: a node's check, in predicate: 'nodE'. Conditions: the columns and the list lie in memory as 'ColsAt', 'ValsAt' say.
-/
import Derived.Test.YtgooffpmiilicaaVck
set_option linter.unusedVariables false
set_option linter.unusedSimpArgs false
namespace Go.Proofs.Ytgooffpmiilicaa
open Go.RowKit
theorem captureP {P : Program} {c : Code} {Q : Exit → Act → World → Prop} {a : Act} {W : World} (h : ∀ y : Ext W, y.it = W → c.wp P Q a y.it) : c.wp P Q a W := h ⟨W, Below.refl _ _⟩ rfl
def ValCells (w : World) (b o : Nat) (c : Val) : Prop := w.cell? ⟨b, o, none⟩ = some (.bool c.null) ∧ w.cell? ⟨b, o + 1, none⟩ = some (.int .i64 c.n) ∧ w.cell? ⟨b, o + 2, none⟩ = some (.string c.s)
def ValsAt (w : World) (B : Nat) (v : Value) (cs : List Val) : Prop :=
  cs.length ≤ 9223372036854775807 ∧
    ((cs = [] ∧ ∃ a c, v = .slice a 0 c) ∨ ∃ b o c, v = .slice (some ⟨b, o, none⟩) cs.length c ∧ cs.length ≤ c ∧ b < B ∧ ∀ j (h : j < cs.length), ValCells w b (o + j * 3) (cs[j]'h))
theorem vals_end {w : World} {B : Nat} {v : Value} {cs : List Val} (h : ValsAt w B v cs) : ∃ a c, v = .slice a cs.length c := by
  rcases h.2 with ⟨e, a, c, rfl⟩ | ⟨b, o, c, rfl, _⟩
  · exact ⟨a, c, by rw [e]; rfl⟩
  · exact ⟨_, c, rfl⟩
theorem vals_in {w : World} {B : Nat} {a : Option Addr} {n c : Nat} {cs : List Val} (h : ValsAt w B (.slice a n c) cs) {i : Nat} (hi : i < cs.length) : ∃ b o, a = some ⟨b, o, none⟩ ∧ cs.length ≤ c ∧ b < B ∧ ValCells w b (o + i * 3) (cs[i]'hi) := by
  rcases h.2 with ⟨e, _⟩ | ⟨b, o, c, hv, hcap, hb, hc⟩
  · subst e; exact absurd hi (by simp)
  · injection hv with h1 h2 h3
    subst h3
    exact ⟨b, o, h1, hcap, hb, hc i hi⟩
theorem ValCells.mono {w w' : World} {B b o : Nat} {c : Val} (h : ValCells w b o c) (hb : Below B w w') (hlt : b < B) : ValCells w' b o c :=
  ⟨(hb.cell (p := ⟨b, o, none⟩) hlt).trans h.1, (hb.cell (p := ⟨b, o + 1, none⟩) hlt).trans h.2.1, (hb.cell (p := ⟨b, o + 2, none⟩) hlt).trans h.2.2⟩
theorem ValsAt.mono {w w' : World} {B B' : Nat} {v : Value} {cs : List Val} (h : ValsAt w B v cs) (hb : Below B w w') (hB : B ≤ B') : ValsAt w' B' v cs := by
  refine ⟨h.1, h.2.imp id ?_⟩
  rintro ⟨b, o, c, hv, hcap, hlt, hc⟩
  exact ⟨b, o, c, hv, hcap, Nat.lt_of_lt_of_le hlt hB, fun j hj => (hc j hj).mono hb hlt⟩
end Go.Proofs.Ytgooffpmiilicaa
