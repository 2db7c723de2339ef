/-
  CHAPTER 24: what Possible returns (plain), zones in memory, a made list of sets. Conditions: each theorem states its own.
-/
import Derived.Test.YtfemekmkmiljdaaPls
import Derived.Test.YtfemekmkmiljdaaPcz
import Derived.Test.YtfemekmkmiljdaaEvw
import Derived.Laws.OwnMore
set_option linter.unusedVariables false
set_option linter.unusedSimpArgs false
namespace Go.Proofs.Ytfemekmkmiljdaa
open Go.RowKit
def ZonCells (w : World) (b o : Nat) (z : Zon) : Prop := w.cell? ⟨b, o, none⟩ = some (.int .i64 z.rows) ∧ w.cell? ⟨b, o + 1, none⟩ = some (.int .i64 z.nulls) ∧ w.cell? ⟨b, o + 2, none⟩ = some (.bool z.min.null) ∧ w.cell? ⟨b, o + 3, none⟩ = some (.int .i64 z.min.n) ∧
  w.cell? ⟨b, o + 4, none⟩ = some (.string z.min.s) ∧ w.cell? ⟨b, o + 5, none⟩ = some (.bool z.max.null) ∧ w.cell? ⟨b, o + 6, none⟩ = some (.int .i64 z.max.n) ∧ w.cell? ⟨b, o + 7, none⟩ = some (.string z.max.s)
/-- In world w the value v is a slice of the zones. -/
def ZonsAt (w : World) (B : Nat) (v : Value) (zs : List Zon) : Prop :=
  zs.length ≤ 9223372036854775807 ∧
    ((zs = [] ∧ ∃ a c, v = .slice a 0 c) ∨ ∃ b o c, v = .slice (some ⟨b, o, none⟩) zs.length c ∧ zs.length ≤ c ∧ b < B ∧ ∀ j (h : j < zs.length), ZonCells w b (o + j * 8) (zs[j]'h))
theorem zons_end {w : World} {B : Nat} {v : Value} {zs : List Zon} (h : ZonsAt w B v zs) : ∃ a c, v = .slice a zs.length c := by
  rcases h.2 with ⟨e, a, c, rfl⟩ | ⟨b, o, c, rfl, _⟩
  · exact ⟨a, c, by rw [e]; rfl⟩
  · exact ⟨_, c, rfl⟩
theorem zons_in {w : World} {B : Nat} {a : Option Addr} {n c : Nat} {zs : List Zon} (h : ZonsAt w B (.slice a n c) zs) {i : Nat} (hi : i < zs.length) : ∃ b o, a = some ⟨b, o, none⟩ ∧ zs.length ≤ c ∧ b < B ∧ ZonCells w b (o + i * 8) (zs[i]'hi) := by
  rcases h.2 with ⟨e, _⟩ | ⟨b, o, c, hv, hcap, hb, hc⟩
  · subst e; exact absurd hi (by simp)
  · injection hv with h1 h2 h3
    subst h3
    exact ⟨b, o, h1, hcap, hb, hc i hi⟩
theorem ZonCells.to {w w' : World} {b o : Nat} {z : Zon} (h : ZonCells w b o z) (hb : ∀ q, w'.cell? ⟨b, q, none⟩ = w.cell? ⟨b, q, none⟩) : ZonCells w' b o z :=
  ⟨(hb _).trans h.1, (hb _).trans h.2.1, (hb _).trans h.2.2.1, (hb _).trans h.2.2.2.1, (hb _).trans h.2.2.2.2.1, (hb _).trans h.2.2.2.2.2.1, (hb _).trans h.2.2.2.2.2.2.1, (hb _).trans h.2.2.2.2.2.2.2⟩
theorem ZonsAt.mono {w w' : World} {B B' : Nat} {v : Value} {zs : List Zon} (h : ZonsAt w B v zs) (hb : Below B w w') (hB : B ≤ B') : ZonsAt w' B' v zs := by
  refine ⟨h.1, h.2.imp id ?_⟩
  rintro ⟨b, o, c, hv, hcap, hlt, hc⟩
  exact ⟨b, o, c, hv, hcap, Nat.lt_of_lt_of_le hlt hB, fun j hj => (hc j hj).to fun q => hb.cell (p := ⟨b, q, none⟩) hlt⟩
def zon0 : Zon := ⟨0, 0, Val.zero, Val.zero⟩
def okAt (cs : List Col) (zs : List Zon) (j : Nat) : Bool := match cs[j]?, zs[j]? with
  | some c, some z => zonF c.ty c.nul z && decide (z.rows = (zs.headD zon0).rows)
  | _, _ => false
def zsE (cs : List Col) (zs : List Zon) : Int := if zs.length = cs.length ∧ (List.range zs.length).all (okAt cs zs) = true then 0 else 1
theorem zsE_ok {cs : List Col} {zs : List Zon} (hl : zs.length = cs.length) (h : ∀ j, j < zs.length → okAt cs zs j = true) : zsE cs zs = 0 := by
  unfold zsE; rw [if_pos ⟨hl, by rw [List.all_eq_true]; intro x hx; exact h x (by simpa using hx)⟩]
theorem zsE_bad {cs : List Col} {zs : List Zon} {j : Nat} (hj : j < zs.length) (h : okAt cs zs j = false) : zsE cs zs = 1 := by
  unfold zsE; rw [if_neg]
  intro ⟨_, ha⟩
  rw [List.all_eq_true] at ha
  rw [ha j (by simpa using hj)] at h
  cases h
theorem zsE_len {cs : List Col} {zs : List Zon} (h : zs.length ≠ cs.length) : zsE cs zs = 1 := by
  unfold zsE; rw [if_neg (fun q => h q.1)]
theorem okAt_eq {cs : List Col} {zs : List Zon} {j : Nat} (h : j < cs.length) (h' : j < zs.length) : okAt cs zs j = (zonF (cs[j]'h).ty (cs[j]'h).nul (zs[j]'(h')) && decide ((zs[j]'(h')).rows = (zs.headD zon0).rows)) := by
  unfold okAt; rw [List.getElem?_eq_getElem h, List.getElem?_eq_getElem h']
def stepP (cs : List Col) (zs : List Zon) (acc : List TS) (d : Nod) : TS :=
  if d.op = 9 then combS 9 (acc.getD d.a.toNat TS.non) (acc.getD d.b.toNat TS.non) else if d.op = 10 then combS 10 (acc.getD d.a.toNat TS.non) (acc.getD d.b.toNat TS.non) else if d.op = 11 then notS (acc.getD d.a.toNat TS.non) else leafS (colTy cs d.col) d (zs.getD d.col.toNat zon0)
def accP (cs : List Col) (zs : List Zon) (l : List Nod) : List TS := l.foldl (fun acc d => acc ++ [stepP cs zs acc d]) []
def posS (cs : List Col) (zs : List Zon) (l : List Nod) : TS := match (accP cs zs l).getLast? with
  | some t => t
  | none => ⟨false, true, false⟩
theorem accP_succ (cs : List Col) (zs : List Zon) {l : List Nod} {k : Nat} (h : k < l.length) : accP cs zs (l.take (k + 1)) = accP cs zs (l.take k) ++ [stepP cs zs (accP cs zs (l.take k)) (l[k]'h)] := by
  unfold accP
  rw [List.take_succ_eq_append_getElem h, List.foldl_append]
  rfl
theorem accP_len (cs : List Col) (zs : List Zon) (l : List Nod) : (accP cs zs l).length = l.length := by
  unfold accP
  suffices h : ∀ (l : List Nod) (a : List TS), (l.foldl (fun acc d => acc ++ [stepP cs zs acc d]) a).length = a.length + l.length by simpa using h l []
  intro l
  induction l with
  | nil => intro a; rfl
  | cons d r ih => intro a; rw [List.foldl_cons, ih]; simp; omega
theorem posS_succ (cs : List Col) (zs : List Zon) {l : List Nod} {k : Nat} (h : k < l.length) : posS cs zs (l.take (k + 1)) = stepP cs zs (accP cs zs (l.take k)) (l[k]'h) := by
  unfold posS; rw [accP_succ cs zs h, List.getLast?_append]; simp
/-- Possible: the set, and the error. -/
def posF (cs : List Col) (key : Int) (ns : List Nod) (zs : List Zon) : Int × Int := if predF cs key ns = 0 then (if zsE cs zs = 0 then ((posS cs zs ns).int, 0) else (0, 1)) else (0, predF cs key ns)
/-- The sets so far, in the block TB; behind them zeros. -/
structure EvS (w : World) (TB m : Nat) (acc : List TS) : Prop where
  lt : TB < w.heap.size
  len : acc.length ≤ m
  fr : ∀ j, j < m → w.frozen? ⟨TB, j, none⟩ = false
  lv : ∀ j (h : j < acc.length), w.cell? ⟨TB, j, none⟩ = some (.int .i64 (acc[j]'h).int)
  zr : ∀ j, acc.length ≤ j → j < m → w.cell? ⟨TB, j, none⟩ = some (.int .i64 0)
theorem EvS.to {w w' : World} {TB m : Nat} {acc : List TS} (h : EvS w TB m acc) (hb : Below w.heap.size w w') : EvS w' TB m acc :=
  ⟨Nat.lt_of_lt_of_le h.lt hb.size, h.len, fun j hj => (hb.frozen (p := ⟨TB, j, none⟩) h.lt).trans (h.fr j hj), fun j hj => (hb.cell (p := ⟨TB, j, none⟩) h.lt).trans (h.lv j hj), fun j h1 h2 => (hb.cell (p := ⟨TB, j, none⟩) h.lt).trans (h.zr j h1 h2)⟩
theorem EvS.grow {w : World} {TB m : Nat} {acc : List TS} (h : EvS w TB m acc) (hm : acc.length < m) : EvS w TB m (acc ++ [TS.non]) := by
  refine ⟨h.lt, by simp; omega, h.fr, fun j hj => ?_, fun j h1 h2 => h.zr j (by simp at h1; omega) h2⟩
  rcases Nat.lt_or_ge j acc.length with q | q
  · rw [List.getElem_append_left q]; exact h.lv j q
  · obtain rfl : j = acc.length := by simp at hj; omega
    rw [h.zr _ (Nat.le_refl _) hm]
    have e : (acc ++ [TS.non])[acc.length]'hj = TS.non := by simp
    rw [e]; rfl
theorem EvS.put {w : World} {TB m k : Nat} {acc : List TS} {p : TS} (h : EvS w TB m (acc ++ [p])) (hk : acc.length = k) (t : TS) : EvS (w.setCell ⟨TB, k, none⟩ (.int .i64 t.int)) TB m (acc ++ [t]) := by
  have hl := h.len
  simp at hl
  have hu := h.lv k (by simp; omega)
  have same : (w.setCell ⟨TB, k, none⟩ (.int .i64 t.int)).cell? ⟨TB, k, none⟩ = some (.int .i64 t.int) := World.cell?_setCell_same _ _ _ hu
  have other : ∀ j, j ≠ k → (w.setCell ⟨TB, k, none⟩ (.int .i64 t.int)).cell? ⟨TB, j, none⟩ = w.cell? ⟨TB, j, none⟩ := fun j hj => World.cell?_setCell_other _ _ _ _ (by intro e; injection e with _ e; exact hj e.symm)
  refine ⟨by simpa [World.setCell] using h.lt, by simp; omega, fun j hj => by rw [World.frozen?_setCell]; exact h.fr j hj, fun j hj => ?_, fun j h1 h2 => ?_⟩
  · rcases Nat.lt_or_ge j acc.length with q | q
    · rw [other j (by omega), List.getElem_append_left q]
      have := h.lv j (by simp; omega)
      rw [List.getElem_append_left q] at this
      exact this
    · obtain rfl : j = acc.length := by simp at hj; omega
      subst hk
      rw [same]; simp
  · simp at h1
    rw [other j (by omega)]
    exact h.zr j (by simp; omega) h2
theorem EvS.step {w : World} {TB m k : Nat} {acc : List TS} (h : EvS w TB m acc) (hk : acc.length = k) (hm : k < m) (t : TS) : EvS (w.setCell ⟨TB, k, none⟩ (.int .i64 t.int)) TB m (acc ++ [t]) := (h.grow (by omega)).put hk t
theorem ExtS.of_set {w v : World} {TB m k : Nat} {acc : List TS} {u : Value} {ca : Option Addr} {nc cc : Nat} {key : Int} (hb : Below w.heap.size w v) (hT : w.heap.size ≤ TB) (h : EvS (v.setCell ⟨TB, k, none⟩ u) TB m acc) (h0 : v.cell? ⟨w.heap.size, 0, none⟩ = some (.slice ca nc cc)) (h1 : v.cell? ⟨w.heap.size, 1, none⟩ = some (.int .i64 key)) (hn : w.heap.size ≠ TB) :
    ∃ x : Ext w, x.it = v.setCell ⟨TB, k, none⟩ u ∧ EvS x.it TB m acc ∧ x.it.cell? ⟨w.heap.size, 0, none⟩ = some (.slice ca nc cc) ∧ x.it.cell? ⟨w.heap.size, 1, none⟩ = some (.int .i64 key) :=
  ⟨⟨_, Below.st hb hT u⟩, rfl, h, (World.cell?_setCell_other _ _ _ _ (by intro e; injection e with e; exact hn e.symm)).trans h0, (World.cell?_setCell_other _ _ _ _ (by intro e; injection e with e; exact hn e.symm)).trans h1⟩
theorem made_at {w : World} (m : Nat) (t : TypeId) (n : Nat) (hn : n = w.heap.size) (j : Nat) (hj : j < m) : (w.alloc (.cells (madeCells #[.int .i64 0] m) t)).cell? ⟨n, j, none⟩ = some (.int .i64 0) ∧ (w.alloc (.cells (madeCells #[.int .i64 0] m) t)).frozen? ⟨n, j, none⟩ = false := by
  subst hn
  rw [World.cell?_alloc_at _ _ _ _ rfl, World.frozen?_alloc_at _ _ _ _ rfl]
  refine ⟨?_, rfl⟩
  have h := toList_madeCells_one (.int .i64 0) m
  have e : (madeCells #[.int .i64 0] m)[j]? = (madeCells #[.int .i64 0] m).toList[j]? := by simp
  rw [e, h, List.getElem?_replicate, if_pos hj]
end Go.Proofs.Ytfemekmkmiljdaa
