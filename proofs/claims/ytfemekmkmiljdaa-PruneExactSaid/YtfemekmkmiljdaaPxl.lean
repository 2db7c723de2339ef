/-
  PRUNEEXACT: the plain law: for a single comparison by <, <=, > or >= the set holds exactly the truth values of the rows. Conditions: each theorem states its own.
-/
import Derived.Test.YtfemekmkmiljdaaPso
set_option linter.unusedVariables false
set_option linter.unusedSimpArgs false
namespace Go.Proofs.Ytfemekmkmiljdaa
open Go.RowKit
theorem exact_null {ty : Int} {d : Nod} {l : List Val} (h6 : d.op ≤ 6) (h : 0 < (zoneF ty l).nulls) : ∃ v ∈ l, leafT ty d v = 2 := by
  rw [(zinv ty l).cnt] at h
  have : 0 < (l.filter fun v => v.null).length := by omega
  obtain ⟨v, hv'⟩ := List.exists_mem_of_length_pos this
  obtain ⟨m, n⟩ := List.mem_filter.1 hv'
  exact ⟨v, m, by unfold leafT; rw [if_neg (by omega), if_pos n]⟩
theorem leafT_cmp {ty : Int} {d : Nod} {v : Val} (h6 : d.op ≤ 6) (hn : v.null = false) : leafT ty d v = b2t (holdsB d.op (cmpV ty v d.v)) := by
  unfold leafT; rw [if_neg (by omega), if_neg (by rw [hn]; decide), if_pos h6]
theorem leaf_exact {ty : Int} {d : Nod} {l : List Val} (h3 : 3 ≤ d.op) (h6 : d.op ≤ 6) {x : Int} (hx : T3 x) (h : (leafS ty d (zoneF ty l)).has x = true) : ∃ v ∈ l, leafT ty d v = x := by
  unfold leafS at h
  rw [if_neg (by omega)] at h
  by_cases hs : (zoneF ty l).nulls < (zoneF ty l).rows
  · rw [if_pos hs, if_neg (by omega)] at h
    have ex : ∃ v ∈ l, v.null = false := by
      rw [(zinv ty l).cnt, zrows] at hs
      have tp := two_parts l
      have : 0 < (l.filter fun v => !v.null).length := by omega
      obtain ⟨v, hv'⟩ := List.exists_mem_of_length_pos this
      obtain ⟨m, n⟩ := List.mem_filter.1 hv'
      exact ⟨v, m, by simpa using n⟩
    have E := (zinv ty l).some ex
    have lo := leafT_cmp (ty := ty) (d := d) h6 E.lon
    have hi := leafT_cmp (ty := ty) (d := d) h6 E.hin
    have ops : d.op = 3 ∨ d.op = 4 ∨ d.op = 5 ∨ d.op = 6 := by omega
    rcases hx with rfl | rfl | rfl
    · have h' : canF ty (oppF d.op) (zoneF ty l) d.v = true := h
      unfold canF at h'
      rcases ops with q | q | q | q <;> rw [q] at h' lo hi <;> simp [canK, oppF] at h'
      · exact ⟨_, E.him, by rw [hi]; simp [holdsB, b2t, h']⟩
      · exact ⟨_, E.him, by rw [hi]; simp [holdsB, b2t, h']⟩
      · exact ⟨_, E.lom, by rw [lo]; simp [holdsB, b2t, h']⟩
      · exact ⟨_, E.lom, by rw [lo]; simp [holdsB, b2t, h']⟩
    · have h' : canF ty d.op (zoneF ty l) d.v = true := h
      unfold canF at h'
      rcases ops with q | q | q | q <;> rw [q] at h' lo hi <;> simp [canK] at h'
      · exact ⟨_, E.lom, by rw [lo]; simp [holdsB, b2t, h']⟩
      · exact ⟨_, E.lom, by rw [lo]; simp [holdsB, b2t, h']⟩
      · exact ⟨_, E.him, by rw [hi]; simp [holdsB, b2t, h']⟩
      · exact ⟨_, E.him, by rw [hi]; simp [holdsB, b2t, h']⟩
    · have h' : decide (0 < (zoneF ty l).nulls) = true := h
      exact exact_null h6 (by simpa using h')
  · rw [if_neg hs] at h
    rcases hx with rfl | rfl | rfl
    · cases h
    · cases h
    · have h' : decide (0 < (zoneF ty l).nulls) = true := h
      exact exact_null h6 (by simpa using h')
def wantS (l : List Int) : TS := l.foldl TS.add TS.non
theorem add_has {s : TS} {r x : Int} (hr : T3 r) (hx : T3 x) : (s.add r).has x = (s.has x || decide (r = x)) := by
  obtain ⟨f, t, u⟩ := s
  rcases hr with rfl | rfl | rfl <;> rcases hx with rfl | rfl | rfl <;> (revert f t u; decide)
theorem want_has {x : Int} (hx : T3 x) : ∀ (l : List Int) (s : TS), (∀ t ∈ l, T3 t) → (l.foldl TS.add s).has x = (s.has x || l.any fun t => decide (t = x))
  | [], s, _ => by simp
  | t :: l, s, h => by
    rw [List.foldl_cons, want_has hx l _ (fun u hu => h u (List.mem_cons_of_mem _ hu)), add_has (h t (by simp)) hx, List.any_cons, Bool.or_assoc]
theorem wantS_snoc {l : List Int} {k : Nat} (h : k < l.length) : wantS (l.take (k + 1)) = (wantS (l.take k)).add (l[k]'h) := by
  unfold wantS; rw [List.take_succ_eq_append_getElem h, List.foldl_append]; rfl
theorem ts_ext {a b : TS} (h : ∀ x, T3 x → a.has x = b.has x) : a = b := by
  obtain ⟨f, t, u⟩ := a
  obtain ⟨f', t', u'⟩ := b
  have h0 := h 0 (.inl rfl)
  have h1 := h 1 (.inr (.inl rfl))
  have h2 := h 2 (.inr (.inr rfl))
  simp [TS.has] at h0 h1 h2
  rw [h0, h1, h2]
theorem eval_one {cs : List Col} {row : List Val} {d : Nod} (h8 : d.op ≤ 8) : evalF cs row [d] = leafT (colTy cs d.col) d (row.getD d.col.toNat Val.zero) := by
  unfold evalF accT
  simp only [List.foldl_cons, List.foldl_nil, List.nil_append, List.getLast?_singleton]
  unfold stepT
  rw [if_neg (by omega), if_neg (by omega), if_neg (by omega)]
theorem pos_one {cs : List Col} {zs : List Zon} {d : Nod} (h8 : d.op ≤ 8) : posS cs zs [d] = leafS (colTy cs d.col) d (zs.getD d.col.toNat zon0) := by
  unfold posS accP
  simp only [List.foldl_cons, List.foldl_nil, List.nil_append, List.getLast?_singleton]
  unfold stepP
  rw [if_neg (by omega), if_neg (by omega), if_neg (by omega)]
theorem exact_law {cs : List Col} {key : Int} {rows : List (List Val)} {d : Nod} {K : Nat} (hp : predF cs key [d] = 0) (hK : K < cs.length) (hc : d.col = K) (h3 : 3 ≤ d.op) (h6 : d.op ≤ 6) : posS cs (zonsOf cs rows) [d] = wantS (rows.map fun r => evalF cs r [d]) := by
  refine ts_ext fun x hx => ?_
  have H := want_has hx (rows.map fun r => evalF cs r [d]) TS.non (by intro t ht; obtain ⟨r, _, rfl⟩ := List.mem_map.1 ht; exact eval_3 cs r [d])
  unfold wantS
  rw [H]
  have n0 : TS.non.has x = false := by rcases hx with rfl | rfl | rfl <;> rfl
  rw [n0, Bool.false_or, Bool.eq_iff_iff, List.any_eq_true]
  constructor
  · intro h
    rw [pos_one (by omega), hc, Int.toNat_natCast, zonsOf_at hK] at h
    obtain ⟨v, hv, e⟩ := leaf_exact h3 h6 hx h
    unfold colK at hv
    obtain ⟨r, hr, rfl⟩ := List.mem_map.1 hv
    refine ⟨x, List.mem_map.2 ⟨r, hr, ?_⟩, by simp⟩
    rw [eval_one (by omega), hc, Int.toNat_natCast]
    exact e
  · rintro ⟨t, ht, e⟩
    obtain ⟨r, hr, rfl⟩ := List.mem_map.1 ht
    have e' : evalF cs r [d] = x := by simpa using e
    rw [← e']
    exact pos_sound (key := key) hr hp
theorem pred_one' {cs : List Col} {key op : Int} {K : Nat} (hs : schemaF cs key = 0) (hK : K < cs.length) (h1 : 1 ≤ op) (h6 : op ≤ 6) {n : Int} {s : ByteArray} (hv : vchk (cs[K]'hK).ty false false n s = 0) : predF cs key [⟨op, K, ⟨false, n, s⟩, [], 0, 0⟩] = 0 := by
  have h0 : nodE cs 0 ⟨op, K, ⟨false, n, s⟩, [], 0, 0⟩ = 0 := nodE_cmp hK h1 h6 hv
  unfold predF
  rw [if_pos hs, if_neg (by simp)]
  simp only [nodsE, h0, if_true]
end Go.Proofs.Ytfemekmkmiljdaa
