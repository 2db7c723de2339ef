/-
  SORT, the plain part: 'sortF'. Conditions: schema and records lie in memory as 'ColsAt', 'RecsAt' say; at most 2^42 records.
-/
import Derived.Test.YtgooffpmiilicaaSrd
import Derived.Test.YtgooffpmiilicaaOwn
set_option linter.unusedVariables false
set_option linter.unusedSimpArgs false
namespace Go.Proofs.Ytgooffpmiilicaa
open Go.RowKit Srt
/-- Records in a row of one block, their rows in other blocks. -/
structure SrtMem (B0 : Nat) (w : World) (v : Value) (ps : List (Int × Value)) (rs : List Rc) : Prop where
  row : (ps = [] ∧ ∃ a c, v = .slice a 0 c) ∨ ∃ blk cap, v = .slice (some ⟨blk, 0, none⟩) ps.length cap ∧ ps.length ≤ cap ∧ B0 ≤ blk ∧ blk < w.heap.size ∧ (∀ j (hj : j < ps.length), w.cell? ⟨blk, j * 2, none⟩ = some (.int .i64 (ps[j]'hj).1) ∧ w.cell? ⟨blk, j * 2 + 1, none⟩ = some (ps[j]'hj).2) ∧ ∀ q, w.frozen? ⟨blk, q, none⟩ = false
  inn : InnR B0 w v ps rs
theorem SrtMem.recs {B0 : Nat} {w : World} {v : Value} {ps : List (Int × Value)} {rs : List Rc} (h : SrtMem B0 w v ps rs) (hl : rs.length ≤ 9223372036854775807) : RecsAt w w.heap.size v rs := by
  refine ⟨hl, ?_⟩
  have hlen := h.inn.1
  rcases h.row with ⟨rfl, a, c, rfl⟩ | ⟨blk, cap, rfl, hc, _, hb, hcell, _⟩
  · exact .inl ⟨List.eq_nil_of_length_eq_zero hlen.symm, a, c, rfl⟩
  · refine .inr ⟨blk, 0, cap, by rw [hlen], by omega, hb, fun j hj => ?_⟩
    have hj' : j < ps.length := by omega
    obtain ⟨k0, k1, _⟩ := h.inn.2 j hj' hj
    obtain ⟨q0, q1⟩ := hcell j hj'
    exact ⟨by rw [Nat.zero_add, ← k0]; exact q0, _, by rw [Nat.zero_add]; exact q1, k1⟩
def sortF (cs : List Col) (key : Int) (rs : List Rc) : List Rc := if validF cs key rs = true then srt (recD (tyK cs key) key) rs else []
theorem sortF_len (cs : List Col) (key : Int) (rs : List Rc) : (sortF cs key rs).length ≤ rs.length := by
  unfold sortF; split
  · rw [srt_len]; exact Nat.le_refl _
  · exact Nat.zero_le _
def SortPost (w : World) (rs : List Rc) (e : Ending) (w' : World) : Prop := ∃ v1 ps, e = .returned v1 ∧ SrtMem w.heap.size w' v1 ps rs ∧ Below w.heap.size w w'
theorem valid_rows {cs : List Col} {key : Int} {rs : List Rc} (h : validF cs key rs = true) : cs.length ≤ 12 ∧ ∀ r ∈ rs, r.row.length = cs.length ∧ rowE cs r.row = 0 ∧ 0 ≤ r.seq ∧ r.seq ≤ 1099511627776 := by
  unfold validF at h
  rw [Bool.and_eq_true] at h
  obtain ⟨h1, h2⟩ := h
  refine ⟨?_, fun r hr => ?_⟩
  · have h1 : schemaF cs key = 0 := by simpa using h1
    unfold schemaF at h1
    split at h1
    · omega
    split at h1
    · cases h1
    · omega
  · have h3 : rs.any (badR cs) = false := by simpa using h2
    have h4 := List.any_eq_false.1 h3 r hr
    unfold badR at h4
    simp at h4
    obtain ⟨⟨a, b⟩, c⟩ := h4
    refine ⟨?_, c, a, b⟩
    unfold rowE at c
    split at c
    · assumption
    · cases c
end Go.Proofs.Ytgooffpmiilicaa
