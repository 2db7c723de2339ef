/-
  PARTS: batch.Split. Conditions: the records lie in memory; at most 2^42 of them, their rows of at most 2^42 values.
-/
import Derived.Test.YtkblkjfejaflkaaChk
set_option linter.unusedVariables false
set_option linter.unusedSimpArgs false
namespace Go.Proofs.Ytkblkjfejaflkaa
open Go.RowKit Go.Shelf
attribute [local go_sem] Oper.semAt_some
theorem grownBy_drewN (w : World) (n : Nat) (row : Option Nat) : w.grownBy (w.drewN n) row := ⟨rfl, rfl, rfl, Nat.le_refl _, fun _ _ _ => rfl⟩
set_option maxRecDepth 100000 in
theorem chunk_any (n1 : Nat) (a : Option Addr) (len cap n : Nat) (hn0 : 0 < n) (w : World) :
    CallsIn Fence.wide n1 Try.prog 37 #[.slice a len cap, .int .i64 (n : Int)] w fun e w' => e = .returned (.func (.func 58) #[] #[.pointer (some ⟨w.heap.size, 0, none⟩), .pointer (some ⟨w.heap.size + 1, 0, none⟩)]) ∧ w' = (w.alloc (.cells #[.slice a len cap] 24)).alloc (.cells #[.int .i64 (n : Int)] 3) := by
  have t : ¬ ((n : Int) < 1) := by omega
  refine callsIn_of_wp Try.func37 rfl trivial ?_ rfl
  simp only [Try.ntmps37, List.size_toArray, List.length_cons, List.length_nil, Nat.reduceAdd, Nat.reduceSub, Array.replicate_succ, Array.replicate_zero, List.push_toArray, List.append_toArray, List.nil_append, List.cons_append]
  gi_wp2
  go_ret
  exact ⟨rfl, rfl⟩
theorem chunk_stops (n1 : Nat) (hn1 : 1 ≤ n1) (Bs Bn n₀ b off len cap n : Nat) (a : Option Addr) (ha : len ≠ 0 → a = some ⟨b, off, none⟩) (hn0 : 0 < n) (hlc : len ≤ cap) (hlen : len ≤ 4398046511104) (hn63 : n ≤ 9223372036854775807) (w : World)
    (hBs : Bs < w.heap.size) (hBn : Bn < w.heap.size) (h1 : w.cell? ⟨Bs, 0, none⟩ = some (.slice a len cap)) (h2 : w.cell? ⟨Bn, 0, none⟩ = some (.int .i64 (n : Int))) :
    SeqStopsK Fence.wide n1 Try.prog 58 #[.pointer (some ⟨Bs, 0, none⟩), .pointer (some ⟨Bn, 0, none⟩)] (fun x : Nat => #[partV b off n len x]) (KpC n₀ Bs Bn) (fun ys => ∃ k, ys = starts n k ∧ len ≤ k * n ∧ ∀ j, j < k → j * n < len) (fun _ => True) len w :=
  fun l J Jx W hW hJ _ hY h0 => chunk1_in n1 hn1 l Bs Bn n₀ b off len cap n a ha hn0 hlc hlen hn63 J Jx (fun pre X m hj => hJ pre X _ none hj (grownBy_drewN X m none) (fun r e => by cases e)) hY W ((hW.cell (p := ⟨Bs, 0, none⟩) hBs).trans h1) ((hW.cell (p := ⟨Bn, 0, none⟩) hBn).trans h2) h0
/-- A part: records that the call owns, in blocks from B0 on, none of them g. -/
def PartIn (B0 : Nat) (W : World) (g : Option Nat) (lv : Value) (rs : List Rc) : Prop := ∃ ps, W.ownsRow B0 31 2 lv ps.length (ps.flatMap rcC) ∧ InnR B0 W lv ps rs ∧ (∀ k, lv.ownBlock = some k → B0 ≤ k ∧ k < W.heap.size ∧ g ≠ some k) ∧ ∀ p ∈ ps, ∀ k, p.2.ownBlock = some k → g ≠ some k
theorem own_keep {w w' : World} {base : Nat} {e : TypeId} {size : Nat} {v : Value} {n : Nat} {xs : List Value} (h : w.ownsRow base e size v n xs) (hk : ∀ k, v.ownBlock = some k → w'.heap[k]? = w.heap[k]?) : w'.ownsRow base e size v n xs := by
  refine ⟨h.1, h.2.imp id ?_⟩
  rintro ⟨g, cap, cur, rfl, h2, h3, h4⟩
  exact ⟨g, cap, cur, rfl, h2, by rw [hk g rfl]; exact h3, h4⟩
theorem PartIn.keep {B0 : Nat} {W W' : World} {g g' : Option Nat} {lv : Value} {rs : List Rc} (h : PartIn B0 W g lv rs) (hk : ∀ k, B0 ≤ k → k < W.heap.size → g ≠ some k → W'.heap[k]? = W.heap[k]?) (hs : W.heap.size ≤ W'.heap.size) (hg : ∀ k, B0 ≤ k → k < W.heap.size → g ≠ some k → g' ≠ some k) : PartIn B0 W' g' lv rs := by
  obtain ⟨ps, h1, h2, h3, h4⟩ := h
  refine ⟨ps, own_keep h1 fun k hk' => hk k (h3 k hk').1 (h3 k hk').2.1 (h3 k hk').2.2, ⟨h2.1, fun j hj hj' => ?_⟩, fun k hk' => ⟨(h3 k hk').1, Nat.lt_of_lt_of_le (h3 k hk').2.1 hs, hg k (h3 k hk').1 (h3 k hk').2.1 (h3 k hk').2.2⟩, fun p hp k hk' => ?_⟩
  · obtain ⟨a1, a2, a3⟩ := h2.2 j hj hj'
    exact ⟨a1, (a2.keep fun k _ hq => hk k (a3 k hq).1 (a3 k hq).2.1 (h4 _ (List.getElem_mem hj) k hq)).up hs, fun k hq => ⟨(a3 k hq).1, Nat.lt_of_lt_of_le (a3 k hq).2.1 hs, (a3 k hq).2.2⟩⟩
  · obtain ⟨j, hj, rfl⟩ := List.getElem_of_mem hp
    obtain ⟨_, _, a3⟩ := h2.2 j hj (by rw [← h2.1]; exact hj)
    exact hg k (a3 k hk').1 (a3 k hk').2.1 (h4 _ hp k hk')
theorem PartIn.recs {B0 : Nat} {W : World} {g : Option Nat} {lv : Value} {rs : List Rc} (h : PartIn B0 W g lv rs) (hl : rs.length ≤ 9223372036854775807) : RecsAt W W.heap.size lv rs := by
  obtain ⟨ps, h1, h2, _, _⟩ := h
  exact inn_recs hl h2 h1
theorem OwnMem.part {W W2 : World} {B0 : Nat} {v : Value} {ps : List (Int × Value)} {rs : List Rc} (h : OwnMem W W2 v ps rs) (hB : B0 ≤ W.heap.size) (g : Option Nat) (hg : ∀ k, g = some k → k < W.heap.size) : PartIn B0 W2 g v rs := by
  refine ⟨ps, own_baseM h.own hB, ⟨h.inn.1, fun j hj hj' => ?_⟩, fun k hk => ?_, fun p hp k hk e => ?_⟩
  · obtain ⟨a1, a2, a3⟩ := h.inn.2 j hj hj'
    exact ⟨a1, a2, fun k hk => ⟨Nat.le_trans hB (a3 k hk).1, (a3 k hk).2⟩⟩
  · have h1 := own_base h.own k hk
    rcases h.own.2 with ⟨rfl, _⟩ | ⟨b, cap, cur, rfl, _, hb, _⟩
    · simp [Value.ownBlock] at hk
    · obtain rfl : b = k := by simpa [Value.ownBlock] using hk
      exact ⟨by omega, (Array.getElem?_eq_some_iff.1 hb).1, fun e => by have := hg _ e; omega⟩
  · obtain ⟨j, hj, rfl⟩ := List.getElem_of_mem hp
    have := ((h.inn.2 j hj (by rw [← h.inn.1]; exact hj)).2.2 k hk).1
    have := hg k e
    omega
/-- The parts, and the list of them. -/
structure PMem (B0 : Nat) (W : World) (v : Value) (lvs : List Value) (ps : List (List Rc)) : Prop where
  own : W.ownsRow B0 24 1 v lvs.length lvs
  len : lvs.length = ps.length
  inn : ∀ j (h : j < lvs.length) (h' : j < ps.length), PartIn B0 W v.ownBlock (lvs[j]'h) (ps[j]'(h'))
theorem PMem.nil (B0 : Nat) (W : World) : PMem B0 W (.slice none 0 0) [] [] := ⟨World.ownsRow_nil _ _ _ _, rfl, fun j h => absurd h (by simp)⟩
theorem PMem.keep {B0 : Nat} {W W' : World} {v : Value} {lvs : List Value} {ps : List (List Rc)} (h : PMem B0 W v lvs ps) (hk : ∀ k, B0 ≤ k → k < W.heap.size → W'.heap[k]? = W.heap[k]?) (hs : W.heap.size ≤ W'.heap.size) : PMem B0 W' v lvs ps := by
  refine ⟨own_keep h.own fun k hk' => hk k (own_base h.own k hk') ?_, h.len, fun j h1 h2 => (h.inn j h1 h2).keep (fun k a b _ => hk k a b) hs (fun _ _ _ q => q)⟩
  rcases h.own.2 with ⟨rfl, _⟩ | ⟨b, cap, cur, rfl, _, hb, _⟩
  · simp [Value.ownBlock] at hk'
  · obtain rfl : b = k := by simpa [Value.ownBlock] using hk'
    exact (Array.getElem?_eq_some_iff.1 hb).1
theorem PMem.snoc {B0 : Nat} {W w1 : World} {v v' : Value} {lvs : List Value} {ps : List (List Rc)} {lv : Value} {rs : List Rc} (h : PMem B0 W v lvs ps) (hp : PartIn B0 W v.ownBlock lv rs) (hg : W.grownBy w1 v.ownBlock) (ho : w1.ownsRow B0 24 1 v' (lvs.length + 1) (lvs ++ [lv])) (ha : v'.ownBlock = v.ownBlock ∨ v'.ownBlock = some W.heap.size) : PMem B0 w1 v' (lvs ++ [lv]) (ps ++ [rs]) := by
  have key : ∀ {lv : Value} {rs : List Rc}, PartIn B0 W v.ownBlock lv rs → PartIn B0 w1 v'.ownBlock lv rs := fun hq => hq.keep (fun k _ hk hne => hg.block k hk (fun e => hne e.symm)) hg.size fun k _ hk hne => by
    rcases ha with e | e
    · rw [e]; exact hne
    · rw [e]; intro e'; injection e' with e'; omega
  refine ⟨by simpa using ho, by simp [h.len], fun j h1 h2 => ?_⟩
  rcases Nat.lt_or_ge j lvs.length with q | q
  · have q' : j < ps.length := by rw [← h.len]; exact q
    rw [List.getElem_append_left q, List.getElem_append_left q']
    exact key (h.inn j q q')
  · obtain rfl : j = lvs.length := by simp at h1; omega
    have e1 : (lvs ++ [lv])[lvs.length]'h1 = lv := by simp
    have e2 : (ps ++ [rs])[lvs.length]'h2 = rs := by simp [h.len]
    rw [e1, e2]
    exact key hp
end Go.Proofs.Ytkblkjfejaflkaa
