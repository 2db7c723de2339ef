/-
  RECORDS in memory: 'RecsAt'. Conditions: each theorem states its own.
-/
import Derived.Test.YtkblkjfejaflkaaKrs
set_option linter.unusedVariables false
set_option linter.unusedSimpArgs false
namespace Go.Proofs.Ytkblkjfejaflkaa
open Go.RowKit
structure Rc where
  seq : Int
  row : List Val
/-- At place ⟨b, o⟩ of world w stands the record. -/
def RcCells (w : World) (B b o : Nat) (r : Rc) : Prop := w.cell? ⟨b, o, none⟩ = some (.int .i64 r.seq) ∧ ∃ lv, w.cell? ⟨b, o + 1, none⟩ = some lv ∧ ValsAt w B lv r.row
/-- In world w the value v is a slice of the records. -/
def RecsAt (w : World) (B : Nat) (v : Value) (rs : List Rc) : Prop :=
  rs.length ≤ 9223372036854775807 ∧
    ((rs = [] ∧ ∃ a c, v = .slice a 0 c) ∨ ∃ b o c, v = .slice (some ⟨b, o, none⟩) rs.length c ∧ rs.length ≤ c ∧ b < B ∧ ∀ j (h : j < rs.length), RcCells w B b (o + j * 2) (rs[j]'h))
theorem recs_end {w : World} {B : Nat} {v : Value} {rs : List Rc} (h : RecsAt w B v rs) : ∃ a c, v = .slice a rs.length c := by
  rcases h.2 with ⟨e, a, c, rfl⟩ | ⟨b, o, c, rfl, _⟩
  · exact ⟨a, c, by rw [e]; rfl⟩
  · exact ⟨_, c, rfl⟩
theorem recs_in {w : World} {B : Nat} {a : Option Addr} {n c : Nat} {rs : List Rc} (h : RecsAt w B (.slice a n c) rs) {i : Nat} (hi : i < rs.length) : ∃ b o, a = some ⟨b, o, none⟩ ∧ rs.length ≤ c ∧ b < B ∧ RcCells w B b (o + i * 2) (rs[i]'hi) := by
  rcases h.2 with ⟨e, _⟩ | ⟨b, o, c, hv, hcap, hb, hc⟩
  · subst e; exact absurd hi (by simp)
  · injection hv with h1 h2 h3
    subst h3
    exact ⟨b, o, h1, hcap, hb, hc i hi⟩
theorem RcCells.mono {w w' : World} {B B' b o : Nat} {r : Rc} (h : RcCells w B b o r) (hb : Below B w w') (hlt : b < B) (hB : B ≤ B') : RcCells w' B' b o r := by
  obtain ⟨h1, lv, h2, h3⟩ := h
  exact ⟨(hb.cell (p := ⟨b, o, none⟩) hlt).trans h1, lv, (hb.cell (p := ⟨b, o + 1, none⟩) hlt).trans h2, h3.mono hb hB⟩
theorem RecsAt.mono {w w' : World} {B B' : Nat} {v : Value} {rs : List Rc} (h : RecsAt w B v rs) (hb : Below B w w') (hB : B ≤ B') : RecsAt w' B' v rs := by
  refine ⟨h.1, h.2.imp id ?_⟩
  rintro ⟨b, o, c, hv, hcap, hlt, hc⟩
  exact ⟨b, o, c, hv, hcap, Nat.lt_of_lt_of_le hlt hB, fun j hj => (hc j hj).mono hb hlt hB⟩
theorem RecsAt.up {w : World} {B B' : Nat} {v : Value} {rs : List Rc} (h : RecsAt w B v rs) (hB : B ≤ B') : RecsAt w B' v rs := h.mono (Below.refl _ _) hB
/-- A record by its sequence number and the slice of its row. -/
def rcC (p : Int × Value) : List Value := [.int .i64 p.1, p.2]
/-- The records that a list of pairs stands for; none of their rows lies in the block of the outer slice. -/
def InnR (B0 : Nat) (w : World) (v : Value) (ps : List (Int × Value)) (rs : List Rc) : Prop :=
  ps.length = rs.length ∧ ∀ j (h : j < ps.length) (h' : j < rs.length), (ps[j]'h).1 = (rs[j]'(h')).seq ∧ ValsAt w w.heap.size (ps[j]'h).2 (rs[j]'(h')).row ∧ (∀ k, (ps[j]'h).2.ownBlock = some k → B0 ≤ k ∧ k < w.heap.size ∧ v.ownBlock ≠ some k)
theorem InnR.mv {B0 sb : Nat} {w w' : World} {v : Value} {ps : List (Int × Value)} {rs : List Rc} (h : InnR B0 w v ps rs) (hm : Mv (fun k => k = sb) w w') (hs : sb < B0) : InnR B0 w' v ps rs := by
  refine ⟨h.1, fun j hj hj' => ?_⟩
  obtain ⟨h0, h1, h2⟩ := h.2 j hj hj'
  exact ⟨h0, (h1.keep fun k hk hq => hm.block k hk (by have := (h2 k hq).1; omega)).up hm.size, fun k hk => ⟨(h2 k hk).1, Nat.lt_of_lt_of_le (h2 k hk).2.1 hm.size, (h2 k hk).2.2⟩⟩
theorem InnR.step {B0 : Nat} {w w1 : World} {v v1 : Value} {p : Int × Value} {ps : List (Int × Value)} {rs : List Rc} {r : Rc} (h : InnR B0 w v ps rs) (hp : p.1 = r.seq) (hv : ValsAt w w.heap.size p.2 r.row) (hl : ∀ k, p.2.ownBlock = some k → B0 ≤ k ∧ k < w.heap.size ∧ v.ownBlock ≠ some k)
    (hg : w.grownBy w1 v.ownBlock) (ha : v.ownBlock = v1.ownBlock ∨ v1.ownBlock = some w.heap.size) : InnR B0 w1 v1 (ps ++ [p]) (rs ++ [r]) := by
  have key : ∀ (lv : Value) (rw' : List Val), ValsAt w w.heap.size lv rw' → (∀ k, lv.ownBlock = some k → B0 ≤ k ∧ k < w.heap.size ∧ v.ownBlock ≠ some k) → ValsAt w1 w1.heap.size lv rw' ∧ (∀ k, lv.ownBlock = some k → B0 ≤ k ∧ k < w1.heap.size ∧ v1.ownBlock ≠ some k) := by
    intro lv rw' hv hl
    refine ⟨(hv.keep fun k hk hq => hg.block k hk (fun e => (hl k hq).2.2 e.symm)).up hg.size, fun k hk => ⟨(hl k hk).1, Nat.lt_of_lt_of_le (hl k hk).2.1 hg.size, ?_⟩⟩
    rcases ha with q | q
    · rw [← q]; exact (hl k hk).2.2
    · rw [q]; intro e; injection e with e; have := (hl k hk).2.1; omega
  refine ⟨by simp [h.1], fun j hj hj' => ?_⟩
  rcases Nat.lt_or_ge j ps.length with q | q
  · have q' : j < rs.length := by rw [← h.1]; exact q
    rw [List.getElem_append_left q, List.getElem_append_left q']
    have := h.2 j q q'
    exact ⟨this.1, key _ _ this.2.1 this.2.2⟩
  · obtain rfl : j = ps.length := by simp at hj; omega
    have e1 : (ps ++ [p])[ps.length]'hj = p := by simp
    have e2 : (rs ++ [r])[ps.length]'hj' = r := by simp [h.1]
    rw [e1, e2]
    exact ⟨hp, key _ _ hv hl⟩
theorem inn_recs {B0 : Nat} {w : World} {base : Nat} {T : TypeId} {v : Value} {ps : List (Int × Value)} {rs : List Rc} (hl : rs.length ≤ 9223372036854775807) (hi : InnR B0 w v ps rs) (h : w.ownsRow base T 2 v ps.length (ps.flatMap rcC)) : RecsAt w w.heap.size v rs := by
  rcases own_at (f := rcC) (k := 2) (fun _ => rfl) h with ⟨rfl, rfl⟩ | ⟨g, c, rfl, hc, _, hg, H⟩
  · have : rs = [] := List.eq_nil_of_length_eq_zero hi.1.symm
    subst this
    exact ⟨hl, .inl ⟨rfl, none, 0, rfl⟩⟩
  · refine ⟨hl, .inr ⟨g, 0, c, by rw [hi.1], by rw [← hi.1]; exact hc, hg, fun j hj => ?_⟩⟩
    have hj' : j < ps.length := by rw [hi.1]; exact hj
    have q := hi.2 j hj' hj
    refine ⟨?_, (ps[j]'hj').2, ?_, q.2.1⟩
    · have := H j hj' 0 _ (by omega) rfl
      rw [← q.1]; simpa using this
    · have := H j hj' 1 _ (by omega) rfl
      simpa using this
theorem infoRec : (Try.prog.info? 31).map (fun i => (i.zero, i.size, i.bytes)) = some (some (.agg #[.int .i64 0, .slice none 0 0]), 2, 32) := by kernel_rfl
end Go.Proofs.Ytkblkjfejaflkaa
