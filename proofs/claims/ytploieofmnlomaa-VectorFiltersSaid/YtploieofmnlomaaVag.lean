/-
  CHAPTER 25: ref25.Filter of whatever arguments; law25.agrees. Conditions: the schema, the predicate and the columns lie in memory.
-/
import Derived.Test.YtploieofmnlomaaVrf
set_option linter.unusedVariables false
set_option linter.unusedSimpArgs false
namespace Go.Proofs.Ytploieofmnlomaa
open Go.RowKit
theorem pred_12 {cs : List Col} {key : Int} {ns : List Nod} (h : predF cs key ns = 0) : cs.length ≤ 12 := by
  have hs : schemaF cs key = 0 := by
    unfold predF at h
    split at h
    · assumption
    · exact absurd h (by assumption)
  exact (schema_parts hs).2.2.1
set_option maxRecDepth 8000 in
set_option maxHeartbeats 1000000 in
theorem reffilter_any (cv : Value) (cs : List Col) (key : Int) (nv : Value) (ns : List Nod) (rv : Value) (cols : List (List Val)) (w : World) (hc : ColsAt w w.heap.size cv cs) (hn : NodsAt w w.heap.size nv ns) (hr : RowsAt w w.heap.size rv cols) :
    Calls Try.prog 31 #[.agg #[cv, .int .i64 key], nv, rv] w fun e w' => ∃ v, e = .returned (.tuple #[v, .int .i64 (filE cs key ns cols)]) ∧ IntsAt w' w'.heap.size v (filV cs key ns cols) ∧ Below w.heap.size w w' := by
  by_cases hp : predF cs key ns = 0
  · have e1 : filE cs key ns cols = colsErr cs cols := by unfold filE; rw [if_pos hp]
    rw [e1]
    exact reffilter_ok cv cs key nv ns rv cols _ w hc hn hr hp (pred_one hp) (pred_12 hp) (fun h => by unfold filV; rw [if_neg (by rw [e1]; exact h)]) (fun h => by unfold filV; rw [if_pos (by rw [e1]; exact h)])
  · have e1 : filE cs key ns cols = predF cs key ns := by unfold filE; rw [if_neg hp]
    have e2 : filV cs key ns cols = [] := by unfold filV; rw [if_neg (by rw [e1]; exact hp)]
    rw [e1, e2]
    obtain ⟨E, hE⟩ : ∃ E, predF cs key ns = E := ⟨_, rfl⟩
    rw [hE] at hp ⊢
    have he' : (E != 0) = true := by simpa using hp
    have HC : Hid (ColsAt (w.alloc (.cells #[cv, .int .i64 key] 28)) (w.alloc (.cells #[cv, .int .i64 key] 28)).heap.size cv cs) := Lib.hid (hc.mono ((Below.refl w.heap.size w).alloc (Nat.le_refl _) _) (by simp))
    have HN : Hid (NodsAt (w.alloc (.cells #[cv, .int .i64 key] 28)) (w.alloc (.cells #[cv, .int .i64 key] 28)).heap.size nv ns) := Lib.hid (hn.mono ((Below.refl w.heap.size w).alloc (Nat.le_refl _) _) (by simp))
    have HE := Lib.hid hE
    clear hc hn hr hp hE e1 e2
    go_enter Try.func31, Try.ntmps31
    go_wp2_with (go_at_call 36; refine Calls.mono (refPredCheck_any _ cs key _ ns _ HC.out HN.out) ?_; rw [HE.out]; rintro e w1 ⟨rfl, hb1⟩; obtain ⟨x1, rfl⟩ := Ext.of hb1; have z1 : w.heap.size < x1.it.heap.size := x1.lt (by simp))
    exact bodyPost_ret (v := .tuple #[.slice none 0 0, .int .i64 E]) (by simp [results, Try.results31, go_sem, *]) rfl (⟨_, rfl, ints_nil _ _, by repeat (first | with_reducible exact Below.refl _ _ | with_reducible assumption | with_reducible refine Below.al ?_ _ | with_reducible refine Below.on ?_ _ | with_reducible refine Below.st ?_ (by first | assumption | (simp; done) | (simp; omega)) _ | with_reducible refine Below.drew ?_)⟩)
set_option maxRecDepth 8000 in
set_option maxHeartbeats 1000000 in
theorem agrees_any (cv : Value) (cs : List Col) (key : Int) (nv : Value) (ns : List Nod) (rv : Value) (cols : List (List Val)) (w : World) (hc : ColsAt w w.heap.size cv cs) (hn : NodsAt w w.heap.size nv ns) (hr : RowsAt w w.heap.size rv cols) :
    Calls Try.prog 15 #[.agg #[cv, .int .i64 key], nv, rv] w fun e w' => e = .returned (.bool true) ∧ Below w.heap.size w w' := by
  have HC : Hid (ColsAt (w.alloc (.cells #[cv, .int .i64 key] 28)) (w.alloc (.cells #[cv, .int .i64 key] 28)).heap.size cv cs) := Lib.hid (hc.mono ((Below.refl w.heap.size w).alloc (Nat.le_refl _) _) (by simp))
  have HN : Hid (NodsAt (w.alloc (.cells #[cv, .int .i64 key] 28)) (w.alloc (.cells #[cv, .int .i64 key] 28)).heap.size nv ns) := Lib.hid (hn.mono ((Below.refl w.heap.size w).alloc (Nat.le_refl _) _) (by simp))
  have HR : Hid (RowsAt (w.alloc (.cells #[cv, .int .i64 key] 28)) (w.alloc (.cells #[cv, .int .i64 key] 28)).heap.size rv cols) := Lib.hid (hr.mono ((Below.refl w.heap.size w).alloc (Nat.le_refl _) _) (by simp))
  obtain ⟨E, hE⟩ : ∃ E, filE cs key ns cols = E := ⟨_, rfl⟩
  obtain ⟨V, hV⟩ : ∃ V, filV cs key ns cols = V := ⟨_, rfl⟩
  have HE := Lib.hid hE
  have HV := Lib.hid hV
  clear hc hn hr hE hV
  go_enter Try.func15, Try.ntmps15
  go_wp2_with (first | (go_at_call 18; refine Calls.mono (vfilter_any _ cs key _ ns _ cols _ HC.out HN.out HR.out) ?_; rw [HE.out, HV.out]; rintro e w1 ⟨v1, rfl, hi1, hb1⟩; obtain ⟨x1, rfl⟩ := Ext.of hb1; have HI1 := Lib.hid hi1; have HC1 := Lib.hid (HC.out.mono x1.below x1.below.size); have HN1 := Lib.hid (HN.out.mono x1.below x1.below.size); have HR1 := Lib.hid (HR.out.mono x1.below x1.below.size); have z1 : w.heap.size < x1.it.heap.size := x1.lt (by simp); clear hi1) | (go_at_call 31; refine Calls.mono (reffilter_any _ cs key _ ns _ cols _ HC1.out HN1.out HR1.out) ?_; rw [HE.out, HV.out]; rintro e w2 ⟨v2, rfl, hi2, hb2⟩; obtain ⟨x2, rfl⟩ := Ext.of hb2; have HI2 := Lib.hid hi2; have HI1' := Lib.hid ((HI1.out.to fun k hk => x2.below.block k hk).mono x2.below.size); clear hi2) | (go_at_call 9; refine Calls.mono (same_any _ _ V V _ HI1'.out HI2.out) ?_; rw [decide_eq_true rfl]; rintro e w3 ⟨rfl, hb3⟩; obtain ⟨x3, rfl⟩ := Ext.of hb3))
  exact bodyPost_ret (v := .bool true) (by simp [results, Try.results15, go_sem, *]) rfl (⟨rfl, by repeat (first | with_reducible exact Below.refl _ _ | with_reducible assumption | with_reducible refine Below.al ?_ _ | with_reducible refine Below.on ?_ _ | with_reducible refine Below.st ?_ (by first | assumption | (simp; done) | (simp; omega)) _ | with_reducible refine Below.drew ?_)⟩)
end Go.Proofs.Ytploieofmnlomaa
