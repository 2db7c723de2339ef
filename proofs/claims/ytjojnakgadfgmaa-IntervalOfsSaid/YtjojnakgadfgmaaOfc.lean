/-
  INTERVAL.OF: what it reckons, and the memory that it keeps, plainly. Conditions: none beyond those that each theorem states.
-/
import Derived.Test.YtjojnakgadfgmaaLea
import Derived.Test.YtjojnakgadfgmaaJoin
set_option linter.unusedVariables false
set_option linter.unusedSimpArgs false
namespace Go.Proofs.Ytjojnakgadfgmaa
open Go.RowKit
def pairC (p : Bnd × Bnd) : List Value := bndC p.1 ++ bndC p.2
theorem pairC_len (p : Bnd × Bnd) : (pairC p).length = 20 := rfl
def stepP (ty col : Int) (acc : List (Bnd × Bnd)) (d : Nod) : Bnd × Bnd :=
  let A := acc.getD d.a.toNat (bZero, bZero); let B := acc.getD d.b.toNat (bZero, bZero)
  if d.op = 11 then (A.2, A.1) else if d.op = 9 then (meetF ty A.1 B.1, joinF ty A.2 B.2) else if d.op = 10 then (joinF ty A.1 B.1, meetF ty A.2 B.2) else if d.col = col then leafF d.op d.v else (bAll, bAll)
def accF (ty col : Int) (l : List Nod) : List (Bnd × Bnd) := l.foldl (fun acc d => acc ++ [stepP ty col acc d]) []
def outF (ty col : Int) (l : List Nod) : Bnd := match (accF ty col l).getLast? with
  | some p => p.1
  | none => bAll
theorem accF_succ (ty col : Int) {l : List Nod} {k : Nat} (h : k < l.length) : accF ty col (l.take (k + 1)) = accF ty col (l.take k) ++ [stepP ty col (accF ty col (l.take k)) (l[k]'h)] := by
  unfold accF
  rw [List.take_succ_eq_append_getElem h, List.foldl_append]
  rfl
theorem accF_len (ty col : Int) (l : List Nod) : (accF ty col l).length = l.length := by
  unfold accF
  suffices h : ∀ (l : List Nod) (a : List (Bnd × Bnd)), (l.foldl (fun acc d => acc ++ [stepP ty col acc d]) a).length = a.length + l.length by simpa using h l []
  intro l
  induction l with
  | nil => intro a; rfl
  | cons d r ih => intro a; rw [List.foldl_cons, ih]; simp; omega
theorem outF_succ (ty col : Int) {l : List Nod} {k : Nat} (h : k < l.length) : outF ty col (l.take (k + 1)) = (stepP ty col (accF ty col (l.take k)) (l[k]'h)).1 := by
  unfold outF
  rw [accF_succ ty col h, List.getLast?_concat]
theorem nodsE_all {cs : List Col} : ∀ (ns : List Nod) (i : Int), nodsE cs i ns = 0 → ∀ j (h : j < ns.length), nodE cs (i + j) (ns[j]'h) = 0
  | [], _, _, j, h => absurd h (by simp)
  | d :: r, i, h0, j, h => by
    simp only [nodsE] at h0
    by_cases e : nodE cs i d = 0
    · rw [if_pos e] at h0
      cases j with
      | zero => simpa using e
      | succ j =>
        have := nodsE_all r (i + 1) h0 j (by simpa using h)
        rw [show i + ((j + 1 : Nat) : Int) = i + 1 + (j : Int) by omega]
        simpa using this
    · rw [if_neg e] at h0; exact absurd h0 e
theorem predF_all {cs : List Col} {key : Int} {ns : List Nod} (h : predF cs key ns = 0) : ns.length ≤ 64 ∧ ∀ j (hj : j < ns.length), nodE cs j (ns[j]'hj) = 0 := by
  unfold predF at h
  split at h
  · split at h
    · omega
    · rename_i h64
      refine ⟨by omega, fun j hj => ?_⟩
      have := nodsE_all ns 0 h j hj
      simpa using this
  · rename_i h0; exact absurd h h0
theorem nodE_ok {cs : List Col} {i : Int} {d : Nod} (h : nodE cs i d = 0) : 1 ≤ d.op ∧ d.op ≤ 11 ∧ (9 ≤ d.op → 0 ≤ d.a ∧ d.a < i) ∧ (9 ≤ d.op → ¬ d.op = 11 → 0 ≤ d.b ∧ d.b < i) := by
  unfold nodE at h
  split at h
  · omega
  · rename_i h0
    by_cases h9 : 9 ≤ d.op
    · rw [if_pos h9] at h
      split at h
      · omega
      · rename_i h1
        exact ⟨by omega, by omega, fun _ => by omega, fun _ _ => by omega⟩
    · exact ⟨by omega, by omega, fun q => absurd q h9, fun q => absurd q h9⟩
theorem there_sub {w : World} {b N o n : Nat} (h : w.there b 0 N) (hn : o + n ≤ N) : w.there b o n := fun j hj => by
  have := h (o + j) (by omega)
  simpa using this
theorem rangeAt_pre {w : World} {b o : Nat} {xs ys : List Value} (h : w.rangeAt b o (xs ++ ys)) : w.rangeAt b o xs := fun j v hv => h j v (by
  rw [List.getElem?_append_left (List.getElem?_eq_some_iff.1 hv).1]; exact hv)
theorem rangeAt_below {w w' : World} {B b o : Nat} {xs : List Value} (h : w.rangeAt b o xs) (hb : Below B w w') (hlt : b < B) : w'.rangeAt b o xs := fun j v hv => (hb.cell (p := ⟨b, o + j, none⟩) hlt).trans (h j v hv)
theorem there_below {w w' : World} {B b o n : Nat} (h : w.there b o n) (hb : Below B w w') (hlt : b < B) : w'.there b o n := fun j hj => by
  rw [hb.cell (p := ⟨b, o + j, none⟩) hlt, hb.frozen (p := ⟨b, o + j, none⟩) hlt]; exact h j hj
structure OfMem (w : World) (AB OB LB RB m : Nat) (acc : List (Bnd × Bnd)) (out : Bnd) : Prop where
  a : AB < w.heap.size
  o : OB < w.heap.size
  l : LB < w.heap.size
  r : RB < w.heap.size
  ao : AB ≠ OB
  al : AB ≠ LB
  ol : OB ≠ LB
  ra : RB ≠ AB
  ro : RB ≠ OB
  rl : RB ≠ LB
  all : w.rangeAt AB 0 (bndC bAll)
  ot : w.there OB 0 10
  ov : w.rangeAt OB 0 (bndC out)
  lt : w.there LB 0 (m * 20)
  rt : w.there RB 0 10
  lv : ∀ i (h : i < acc.length), w.rangeAt LB (i * 20) (pairC (acc[i]'h))
theorem OfMem.below {w w' : World} {AB OB LB RB m : Nat} {acc : List (Bnd × Bnd)} {out : Bnd} (h : OfMem w AB OB LB RB m acc out) (hb : Below w.heap.size w w') : OfMem w' AB OB LB RB m acc out :=
  ⟨Nat.lt_of_lt_of_le h.a hb.size, Nat.lt_of_lt_of_le h.o hb.size, Nat.lt_of_lt_of_le h.l hb.size, Nat.lt_of_lt_of_le h.r hb.size, h.ao, h.al, h.ol, h.ra, h.ro, h.rl, rangeAt_below h.all hb h.a, there_below h.ot hb h.o, rangeAt_below h.ov hb h.o,
    there_below h.lt hb h.l, there_below h.rt hb h.r, fun i hi => rangeAt_below (h.lv i hi) hb h.l⟩
theorem size_setCells (b : Nat) : ∀ (vs : List Value) (o : Nat) (w : World), (w.setCells b o vs).heap.size = w.heap.size
  | [], _, _ => rfl
  | v :: r, o, w => by rw [World.setCells, size_setCells b r, World.size_setCell]
theorem OfMem.step {w : World} {AB OB LB RB m k : Nat} {acc : List (Bnd × Bnd)} {out : Bnd} (h : OfMem w AB OB LB RB m acc out) (hk : acc.length = k) (hm : k < m) (p : Bnd × Bnd) :
    OfMem ((w.setCells LB (k * 20) (pairC p)).setCells OB 0 (bndC p.1)) AB OB LB RB m (acc ++ [p]) p.1 := by
  have t1 : w.there LB (k * 20) (pairC p).length := there_sub h.lt (by rw [pairC_len]; omega)
  have z : ((w.setCells LB (k * 20) (pairC p)).setCells OB 0 (bndC p.1)).heap.size = w.heap.size := by rw [size_setCells, size_setCells]
  refine ⟨by rw [z]; exact h.a, by rw [z]; exact h.o, by rw [z]; exact h.l, by rw [z]; exact h.r, h.ao, h.al, h.ol, h.ra, h.ro, h.rl, ?_, ?_, ?_, ?_, ?_, ?_⟩
  · exact World.rangeAt_setCells_apart (World.rangeAt_setCells_apart h.all _ _ _ (.inl h.al)) _ _ _ (.inl h.ao)
  · exact World.there_setCells (World.there_setCells h.ot _ _ _) _ _ _
  · exact World.rangeAt_setCells_same _ _ _ _ (World.there_setCells h.ot _ _ _)
  · exact World.there_setCells (World.there_setCells h.lt _ _ _) _ _ _
  · exact World.there_setCells (World.there_setCells h.rt _ _ _) _ _ _
  · intro i hi
    refine World.rangeAt_setCells_apart ?_ _ _ _ (.inl (Ne.symm h.ol))
    rcases Nat.lt_or_ge i acc.length with q | q
    · rw [List.getElem_append_left q]
      exact World.rangeAt_setCells_apart (h.lv i q) _ _ _ (.inr (.inl (by rw [pairC_len]; omega)))
    · obtain rfl : i = k := by simp at hi; omega
      rw [List.getElem_append_right (by omega)]
      simp only [hk, Nat.sub_self, List.getElem_cons_zero]
      exact World.rangeAt_setCells_same _ _ _ _ t1
theorem leaf_any (t col op : Int) (vn : Bool) (n : Int) (s : ByteArray) (lv : Value) (a b : Int) (hlv : lv.oneCell' = true) (h1 : 1 ≤ op) (h8 : op ≤ 8) (h7 : ¬ op = 7) (w : World) :
    Calls Try.prog 40 #[.int .i64 t, .agg #[.int .i64 op, .int .i64 col, .bool vn, .int .i64 n, .string s, lv, .int .i64 a, .int .i64 b]] w fun e w' => e = .returned (.agg (pairC (leafF op ⟨vn, n, s⟩)).toArray) ∧ Below w.heap.size w w' := by
  have : op = 1 ∨ op = 2 ∨ op = 3 ∨ op = 4 ∨ op = 5 ∨ op = 6 ∨ op = 8 := by omega
  rcases this with rfl | rfl | rfl | rfl | rfl | rfl | rfl
  · exact leaf_1 t col vn n s lv a b hlv w
  · exact leaf_2 t col vn n s lv a b hlv w
  · exact leaf_3 t col vn n s lv a b hlv w
  · exact leaf_4 t col vn n s lv a b hlv w
  · exact leaf_5 t col vn n s lv a b hlv w
  · exact leaf_6 t col vn n s lv a b hlv w
  · exact leaf_8 t col vn n s lv a b hlv w
end Go.Proofs.Ytjojnakgadfgmaa
