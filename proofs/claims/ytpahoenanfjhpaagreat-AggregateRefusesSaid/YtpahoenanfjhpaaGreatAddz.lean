/-
  (*State).Add. Conditions: the state and the rows lie in memory; the state's query is valid; at most 2^20 rows in the state.
-/
import Derived.Test.YtpahoenanfjhpaaGreatZg
import Derived.Test.YtpahoenanfjhpaaGreatNewz
import Derived.Test.YtpahoenanfjhpaaGreatVftz
import Derived.Test.YtpahoenanfjhpaaGreatZj
import Derived.Test.YtpahoenanfjhpaaGreatZm
import Derived.Deep.RegionLaw
set_option linter.unusedVariables false
set_option linter.unusedSimpArgs false
namespace Go.Proofs.YtpahoenanfjhpaaGreat
open Go.RowKit
theorem step_append_row {P : Program} {w : World} {ops : Array Oper} {o : Oper} {a : Act} {K : Act → World → Prop} {Q : Exit → Act → World → Prop} {E : Prop} (hgd : o.guard = none) (s x : Operand) (t : TypeId)
    (ho : o.op = .call { callee := .builtin .append, args := #[s, x], argTypes := #[t, t] })
    (base : Nat) (e : TypeId) (i : TypeInfo) (z : Value) (size bytes : Nat) (ht : P.underlying t = some (.slice e)) (hi : P.info? e = some i) (hz : i.zero = some z) (hsize : i.size = size) (hby : i.bytes = bytes) (hzs : z.cells.size = size) (hsz : 0 < size)
    (v : Value) (n : Nat) (xs : List Value) (hs : a.eval s = v) (hown : w.ownsRow base e size v n xs) (xv : Value) (m : Nat) (news : List Value) (hxv : a.eval x = xv) (hx : SrcRow w xv m size news) (h63 : n + m ≤ maxLen) (hbytes : (n + m) * bytes ≤ 140737488355328) (hbase : base ≤ w.heap.size)
    (h : ∀ v' w', w'.ownsRow base e size v' (n + m) (xs ++ news) → w.grownBy w' v.ownBlock → (v'.ownBlock = v.ownBlock ∨ v'.ownBlock = some w.heap.size) → K (a.put o.dst v') w') : if Region.wanted o (yielded ops a.tmps) = true then Oper.wp P o a w K Q else E := by
  rw [if_pos (by simp [Region.wanted, hgd])]
  obtain ⟨v', w', hr, h2, h3, h4⟩ := run_append_row (P := P) base t o.type e i z size bytes ht hi hz hsize hby hzs hsz v n xs hown xv m news hx h63 hbytes hbase
  unfold Oper.wp execOp
  simp only [ho, resolve, invoke, builtin, Sem.run_bind, Sem.run_pure, Result.andThen_ok, List.map_toArray, List.map_cons, List.map_nil, hs, hxv, hr]
  exact h v' w' h2 h3 h4
theorem own_src {w : World} {base : Nat} {T : TypeId} {v : Value} {lvs : List Value} (h : w.ownsRow base T 1 v lvs.length (lvs.flatMap one1)) (h1 : ∀ u ∈ lvs, u.oneCell' = true) : SrcRow w v lvs.length 1 lvs := by
  refine ⟨by simp, h1, ?_⟩
  rcases own_at (f := one1) (k := 1) (fun _ => rfl) h with ⟨rfl, rfl⟩ | ⟨g, c, rfl, hc, _, hg, H⟩
  · exact .inl ⟨rfl, none, 0, rfl⟩
  · refine .inr ⟨⟨g, 0, none⟩, c, rfl, fun j u hj => ?_⟩
    obtain ⟨hjl, hj⟩ := List.getElem?_eq_some_iff.1 hj
    rw [add_nil, ← hj, Nat.zero_add]
    have := H j hjl 0 _ (by omega) rfl
    simpa using this
/-- The rows that a query selects. -/
def selR (cs : List Col) (ns : List Nod) (rows : List (List Val)) : List (List Val) := rows.filter fun r => evalF cs r ns == 1
/-- A state and what is above it: nothing but the blocks of S has turned, and none of them is the state's. -/
theorem StAt.mv {S : Nat → Prop} {w w' : World} {SB L : Nat} {cs : List Col} {key : Int} {ns : List Nod} {pr gr : List Int} {ag : List Ag} {rv : Value} {lvs : List Value} {rows : List (List Val)} (h : StAt w SB L cs key ns pr gr ag rv lvs rows) (hm : Mv S w w') (h0 : ∀ k, S k → SB < k) (h1 : ∀ k, rv.ownBlock = some k → ¬ S k) (h2 : ∀ lv ∈ lvs, ∀ k, lv.ownBlock = some k → ¬ S k) : StAt w' SB L cs key ns pr gr ag rv lvs rows := by
  have lt := h.lt
  have up := h.up
  have nS : ¬ S SB := fun q => by have := h0 _ q; omega
  have hS : SB < w.heap.size := by omega
  have hb : Below SB w w' := ⟨hm.os, hm.tape, hm.output, hm.size, fun k hk => hm.block k (by omega) (fun q => by have := h0 _ q; omega)⟩
  obtain ⟨cv, nv, pv, gv, av, c0, c1, c2, c3, c4, c5, k0, k1, k2, k3, k4⟩ := h.st
  refine ⟨lt, Nat.le_trans up hm.size, fun q => (hm.frozen q hS nS).trans (h.frz q), ⟨cv, nv, pv, gv, av, (hm.cell 0 hS nS).trans c0, (hm.cell 1 hS nS).trans c1, (hm.cell 2 hS nS).trans c2, (hm.cell 3 hS nS).trans c3, (hm.cell 4 hS nS).trans c4, (hm.cell 5 hS nS).trans c5, k0.mono hb (Nat.le_refl _), k1.mono hb (Nat.le_refl _), ints_on k2 hb (Nat.le_refl _), ints_on k3 hb (Nat.le_refl _), k4.mono hb (Nat.le_refl _)⟩, (hm.cell 6 hS nS).trans h.s6, own_mvn h.own hm h1, h.inn.1, fun j hj hj' => ?_⟩
  obtain ⟨i1, i2⟩ := h.inn.2 j hj hj'
  exact ⟨(i1.keep fun k hk hq => hm.block k hk (h2 _ (List.getElem_mem hj) k hq)).up hm.size, fun k hk => ⟨(i2 k hk).1, Nat.lt_of_lt_of_le (i2 k hk).2.1 hm.size, (i2 k hk).2.2⟩⟩
theorem StAt.on {w w' : World} {SB L : Nat} {cs : List Col} {key : Int} {ns : List Nod} {pr gr : List Int} {ag : List Ag} {rv : Value} {lvs : List Value} {rows : List (List Val)} (h : StAt w SB L cs key ns pr gr ag rv lvs rows) (hb : Below w.heap.size w w') : StAt w' SB L cs key ns pr gr ag rv lvs rows :=
  h.mv (S := fun _ => False) (Mv.of_below hb) (fun _ q => q.elim) (fun _ _ q => q) (fun _ _ _ _ q => q)
/-- More rows are appended to the state's. -/
theorem StAt.add {w w7 : World} {SB L : Nat} {cs : List Col} {key : Int} {ns : List Nod} {pr gr : List Int} {ag : List Ag} {rv v7 : Value} {lvs ps : List Value} {rows rs : List (List Val)} (h : StAt w SB L cs key ns pr gr ag rv lvs rows) (hp : Lvs w w.heap.size ps rs) (hfar : ∀ lv ∈ ps, ∀ k, lv.ownBlock = some k → L ≤ k ∧ k < w.heap.size ∧ rv.ownBlock ≠ some k)
    (hown : w7.ownsRow L 42 1 v7 (lvs.length + ps.length) (lvs.flatMap one1 ++ ps)) (hg : w.grownBy w7 rv.ownBlock) (hat : v7.ownBlock = rv.ownBlock ∨ v7.ownBlock = some w.heap.size) :
    StAt (w7.setCell ⟨SB, 6, none⟩ v7) SB L cs key ns pr gr ag v7 (lvs ++ ps) (rows ++ rs) ∧ Mv (fun k => k = SB ∨ rv.ownBlock = some k) w (w7.setCell ⟨SB, 6, none⟩ v7) := by
  have lt := h.lt
  have up := h.up
  have hS : SB < w.heap.size := by omega
  have hrow : ∀ k, rv.ownBlock = some k → L ≤ k := fun k hk => (h.own.lt k hk).1
  have blk : ∀ k, k < w.heap.size → rv.ownBlock ≠ some k → w7.heap[k]? = w.heap[k]? := fun k hk hn => hg.block k hk (fun e => hn e.symm)
  have bS : w7.heap[SB]? = w.heap[SB]? := blk SB hS (fun e => by have := hrow _ e; omega)
  have hb : Below SB w (w7.setCell ⟨SB, 6, none⟩ v7) := ⟨hg.os, hg.tape, hg.output, by rw [World.size_setCell]; exact hg.size, fun k hk => (Below.heap_setCell _ _ _ _ (by intro e; simp at e; omega)).trans (blk k (by omega) (fun e => by have := hrow _ e; omega))⟩
  have cc : ∀ i v, w.cell? ⟨SB, i, none⟩ = some v → w7.cell? ⟨SB, i, none⟩ = some v := fun i v q => (World.cell?_of_block (w := w) bS).trans q
  have oth : ∀ i v, i ≠ 6 → w.cell? ⟨SB, i, none⟩ = some v → (w7.setCell ⟨SB, 6, none⟩ v7).cell? ⟨SB, i, none⟩ = some v := fun i v hi q => (World.cell?_setCell_other _ _ _ _ (by intro e; injection e with _ e; exact hi e.symm)).trans (cc i v q)
  obtain ⟨cv, nv, pv, gv, av, c0, c1, c2, c3, c4, c5, k0, k1, k2, k3, k4⟩ := h.st
  have hl7 : ∀ k, v7.ownBlock = some k → k ≠ SB := fun k hk => by have := (hown.lt k hk).1; omega
  have EF : (lvs ++ ps).flatMap one1 = lvs.flatMap one1 ++ ps := by rw [List.flatMap_append, one_flat ps]
  have key : ∀ (lv : Value) (rw' : List Val), ValsAt w w.heap.size lv rw' → (∀ k, lv.ownBlock = some k → L ≤ k ∧ k < w.heap.size ∧ rv.ownBlock ≠ some k) → ValsAt (w7.setCell ⟨SB, 6, none⟩ v7) (w7.setCell ⟨SB, 6, none⟩ v7).heap.size lv rw' ∧ (∀ k, lv.ownBlock = some k → L ≤ k ∧ k < (w7.setCell ⟨SB, 6, none⟩ v7).heap.size ∧ v7.ownBlock ≠ some k) := by
    intro lv rw' hv hl
    refine ⟨(hv.keep fun k hk hq => (Below.heap_setCell _ _ _ _ (by intro e; simp at e; have := (hl k hq).1; omega)).trans (blk k hk (hl k hq).2.2)).up (by rw [World.size_setCell]; exact hg.size), fun k hk => ⟨(hl k hk).1, by rw [World.size_setCell]; exact Nat.lt_of_lt_of_le (hl k hk).2.1 hg.size, ?_⟩⟩
    rcases hat with q | q
    · rw [q]; exact (hl k hk).2.2
    · rw [q]; intro e; injection e with e; have := (hl k hk).2.1; omega
  refine ⟨⟨lt, by rw [World.size_setCell]; exact Nat.le_trans up hg.size, fun q => by rw [World.frozen?_setCell]; exact (World.frozen?_of_block (w := w) bS).trans (h.frz q), ⟨cv, nv, pv, gv, av, oth 0 _ (by decide) c0, oth 1 _ (by decide) c1, oth 2 _ (by decide) c2, oth 3 _ (by decide) c3, oth 4 _ (by decide) c4, oth 5 _ (by decide) c5, k0.mono hb (Nat.le_refl _), k1.mono hb (Nat.le_refl _), ints_on k2 hb (Nat.le_refl _), ints_on k3 hb (Nat.le_refl _), k4.mono hb (Nat.le_refl _)⟩, World.cell?_setCell_same w7 ⟨SB, 6, none⟩ _ (cc 6 _ h.s6), by rw [EF, List.length_append]; exact own_st hown hl7 _, by rw [List.length_append, List.length_append, h.inn.1, hp.1], fun j hj hj' => ?_⟩, ?_⟩
  · rcases Nat.lt_or_ge j lvs.length with q | q
    · have q' : j < rows.length := by rw [← h.inn.1]; exact q
      rw [List.getElem_append_left q, List.getElem_append_left q']
      exact key _ _ (h.inn.2 j q q').1 (h.inn.2 j q q').2
    · have q1 : j - lvs.length < ps.length := by simp at hj; omega
      have q2 : j - lvs.length < rs.length := by rw [← hp.1]; exact q1
      have e1 : (lvs ++ ps)[j]'hj = ps[j - lvs.length]'q1 := List.getElem_append_right q
      have e2 : (rows ++ rs)[j]'hj' = rs[j - lvs.length]'q2 := by
        rw [List.getElem_append_right (by rw [← h.inn.1]; exact q)]
        congr 1; rw [h.inn.1]
      rw [e1, e2]
      exact key _ _ (hp.2 _ q1 q2) (hfar _ (List.getElem_mem q1))
  · refine ⟨hg.os, hg.tape, hg.output, by rw [World.size_setCell]; exact hg.size, fun k hk hs => ?_⟩
    have h1 : k ≠ SB := fun e => hs (.inl e)
    have h2 : rv.ownBlock ≠ some k := fun e => hs (.inr e)
    exact (Below.heap_setCell _ _ _ _ (by intro e; simp at e; exact h1 e)).trans (blk k hk h2)
def AddPost (w : World) (SB L : Nat) (cs : List Col) (key : Int) (ns : List Nod) (pr gr : List Int) (ag : List Ag) (rv : Value) (lvs : List Value) (rows0 rows : List (List Val)) (e : Ending) (w' : World) : Prop :=
  e = .returned (.int .i64 (batchE cs key rows)) ∧ (if batchE cs key rows = 0 then ∃ rv' lvs', StAt w' SB L cs key ns pr gr ag rv' lvs' (rows0 ++ selR cs ns rows) ∧ Mv (fun k => k = SB ∨ rv.ownBlock = some k) w w' else Below w.heap.size w w')
end Go.Proofs.YtpahoenanfjhpaaGreat
