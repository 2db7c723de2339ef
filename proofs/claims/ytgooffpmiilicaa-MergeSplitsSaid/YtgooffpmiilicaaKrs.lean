/-
  ROWS in memory (part of the text of chapter 15). Conditions: the schema and the choices lie in memory as 'ColsAt', 'IntsAt' say.
-/
import Derived.Test.YtgooffpmiilicaaKrw
set_option linter.unusedVariables false
set_option linter.unusedSimpArgs false
namespace Go.Proofs.Ytgooffpmiilicaa
open Go.RowKit
/-- In world w the value v is a slice of the rows. -/
def RowsAt (w : World) (B : Nat) (v : Value) (rows : List (List Val)) : Prop :=
  rows.length ≤ 9223372036854775807 ∧
    ((rows = [] ∧ ∃ a c, v = .slice a 0 c) ∨ ∃ b o c, v = .slice (some ⟨b, o, none⟩) rows.length c ∧ rows.length ≤ c ∧ b < B ∧ ∀ j (h : j < rows.length), ∃ lv, w.cell? ⟨b, o + j, none⟩ = some lv ∧ ValsAt w B lv (rows[j]'h))
theorem rows_end {w : World} {B : Nat} {v : Value} {cs : List (List Val)} (h : RowsAt w B v cs) : ∃ a c, v = .slice a cs.length c := by
  rcases h.2 with ⟨e, a, c, rfl⟩ | ⟨b, o, c, rfl, _⟩
  · exact ⟨a, c, by rw [e]; rfl⟩
  · exact ⟨_, c, rfl⟩
theorem rows_in {w : World} {B : Nat} {a : Option Addr} {n c : Nat} {cs : List (List Val)} (h : RowsAt w B (.slice a n c) cs) {i : Nat} (hi : i < cs.length) : ∃ b o, a = some ⟨b, o, none⟩ ∧ cs.length ≤ c ∧ b < B ∧ ∃ lv, w.cell? ⟨b, o + i, none⟩ = some lv ∧ ValsAt w B lv (cs[i]'hi) := by
  rcases h.2 with ⟨e, _⟩ | ⟨b, o, c, hv, hcap, hb, hc⟩
  · subst e; exact absurd hi (by simp)
  · injection hv with h1 h2 h3
    subst h3
    exact ⟨b, o, h1, hcap, hb, hc i hi⟩
theorem RowsAt.mono {w w' : World} {B B' : Nat} {v : Value} {cs : List (List Val)} (h : RowsAt w B v cs) (hb : Below B w w') (hB : B ≤ B') : RowsAt w' B' v cs := by
  refine ⟨h.1, h.2.imp id ?_⟩
  rintro ⟨b, o, c, hv, hcap, hlt, hc⟩
  refine ⟨b, o, c, hv, hcap, Nat.lt_of_lt_of_le hlt hB, fun j hj => ?_⟩
  obtain ⟨lv, h1, h2⟩ := hc j hj
  exact ⟨lv, (hb.cell (p := ⟨b, o + j, none⟩) hlt).trans h1, h2.mono hb hB⟩
def one1 (v : Value) : List Value := [v]
/-- The rows that a list of values stands for; none lies in the block of the outer slice. -/
def Inn (B0 : Nat) (w : World) (v : Value) (lvs : List Value) (rows : List (List Val)) : Prop :=
  lvs.length = rows.length ∧ ∀ j (h : j < lvs.length) (h' : j < rows.length), ValsAt w w.heap.size (lvs[j]'h) (rows[j]'(h')) ∧ (∀ k, (lvs[j]'h).ownBlock = some k → B0 ≤ k ∧ k < w.heap.size ∧ v.ownBlock ≠ some k)
theorem Inn.mv {B0 sb : Nat} {w w' : World} {v : Value} {lvs : List Value} {rows : List (List Val)} (h : Inn B0 w v lvs rows) (hm : Mv (fun k => k = sb) w w') (hs : sb < B0) : Inn B0 w' v lvs rows := by
  refine ⟨h.1, fun j hj hj' => ?_⟩
  obtain ⟨h1, h2⟩ := h.2 j hj hj'
  exact ⟨(h1.keep fun k hk hq => hm.block k hk (by have := (h2 k hq).1; omega)).up hm.size, fun k hk => ⟨(h2 k hk).1, Nat.lt_of_lt_of_le (h2 k hk).2.1 hm.size, (h2 k hk).2.2⟩⟩
theorem Inn.step {B0 : Nat} {w w1 : World} {v v1 lv : Value} {lvs : List Value} {rows : List (List Val)} {rw' : List Val} (h : Inn B0 w v lvs rows) (hv : ValsAt w w.heap.size lv rw') (hl : ∀ k, lv.ownBlock = some k → B0 ≤ k ∧ k < w.heap.size ∧ v.ownBlock ≠ some k)
    (hg : w.grownBy w1 v.ownBlock) (ha : v.ownBlock = v1.ownBlock ∨ v1.ownBlock = some w.heap.size) : Inn B0 w1 v1 (lvs ++ [lv]) (rows ++ [rw']) := by
  have key : ∀ (lv : Value) (rw' : List Val), ValsAt w w.heap.size lv rw' → (∀ k, lv.ownBlock = some k → B0 ≤ k ∧ k < w.heap.size ∧ v.ownBlock ≠ some k) → ValsAt w1 w1.heap.size lv rw' ∧ (∀ k, lv.ownBlock = some k → B0 ≤ k ∧ k < w1.heap.size ∧ v1.ownBlock ≠ some k) := by
    intro lv rw' hv hl
    refine ⟨(hv.keep fun k hk hq => hg.block k hk (fun e => (hl k hq).2.2 e.symm)).up hg.size, fun k hk => ⟨(hl k hk).1, Nat.lt_of_lt_of_le (hl k hk).2.1 hg.size, ?_⟩⟩
    rcases ha with q | q
    · rw [← q]; exact (hl k hk).2.2
    · rw [q]; intro e; injection e with e; have := (hl k hk).2.1; omega
  refine ⟨by simp [h.1], fun j hj hj' => ?_⟩
  rcases Nat.lt_or_ge j lvs.length with q | q
  · have q' : j < rows.length := by rw [← h.1]; exact q
    rw [List.getElem_append_left q, List.getElem_append_left q']
    exact key _ _ (h.2 j q q').1 (h.2 j q q').2
  · obtain rfl : j = lvs.length := by simp at hj; omega
    have e1 : (lvs ++ [lv])[lvs.length]'hj = lv := by simp
    have e2 : (rows ++ [rw'])[lvs.length]'hj' = rw' := by simp [h.1]
    rw [e1, e2]
    exact key _ _ hv hl
theorem inn_rows {B0 : Nat} {w : World} {base : Nat} {T : TypeId} {v : Value} {lvs : List Value} {rows : List (List Val)} (hl : rows.length ≤ 9223372036854775807) (hi : Inn B0 w v lvs rows) (h : w.ownsRow base T 1 v lvs.length (lvs.flatMap one1)) : RowsAt w w.heap.size v rows := by
  rcases own_at (f := one1) (k := 1) (fun _ => rfl) h with ⟨rfl, rfl⟩ | ⟨g, c, rfl, hc, _, hg, H⟩
  · have : rows = [] := List.eq_nil_of_length_eq_zero hi.1.symm
    subst this
    exact ⟨hl, .inl ⟨rfl, none, 0, rfl⟩⟩
  · refine ⟨hl, .inr ⟨g, 0, c, by rw [hi.1], by rw [← hi.1]; exact hc, hg, fun j hj => ?_⟩⟩
    have hj' : j < lvs.length := by rw [hi.1]; exact hj
    refine ⟨lvs[j]'hj', ?_, (hi.2 j hj' hj).1⟩
    have := H j hj' 0 _ (by omega) rfl
    simpa using this
end Go.Proofs.Ytgooffpmiilicaa
