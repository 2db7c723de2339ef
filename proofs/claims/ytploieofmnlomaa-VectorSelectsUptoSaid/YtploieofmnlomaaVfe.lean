/-
  CHAPTER 25: vector.Filter of whatever arguments. Conditions: the schema, the predicate and the columns lie in memory.
-/
import Derived.Test.YtploieofmnlomaaVpl
set_option linter.unusedVariables false
set_option linter.unusedSimpArgs false
namespace Go.Proofs.Ytploieofmnlomaa
open Go.RowKit
/-- The error of Filter, and its truth values. -/
def filE (cs : List Col) (key : Int) (ns : List Nod) (cols : List (List Val)) : Int := if predF cs key ns = 0 then colsErr cs cols else predF cs key ns
def filV (cs : List Col) (key : Int) (ns : List Nod) (cols : List (List Val)) : List Int := if filE cs key ns cols = 0 then filtF cs ns cols else []
theorem pred_one {cs : List Col} {key : Int} {ns : List Nod} (h : predF cs key ns = 0) : 1 ≤ cs.length := by
  have hs : schemaF cs key = 0 := by
    unfold predF at h
    split at h
    · assumption
    · exact absurd h (by assumption)
  exact (schema_parts hs).2.1
theorem ints_nil (w : World) (B : Nat) : IntsAt w B (.slice none 0 0) [] := ⟨fun z hz => absurd hz (by simp), by simp, .inl ⟨rfl, _, _, rfl⟩⟩
set_option maxRecDepth 8000 in
set_option maxHeartbeats 1000000 in
theorem vfilter_any (cv : Value) (cs : List Col) (key : Int) (nv : Value) (ns : List Nod) (rv : Value) (cols : List (List Val)) (w : World) (hc : ColsAt w w.heap.size cv cs) (hn : NodsAt w w.heap.size nv ns) (hr : RowsAt w w.heap.size rv cols) :
    Calls Try.prog 18 #[.agg #[cv, .int .i64 key], nv, rv] w fun e w' => ∃ v, e = .returned (.tuple #[v, .int .i64 (filE cs key ns cols)]) ∧ IntsAt w' w'.heap.size v (filV cs key ns cols) ∧ Below w.heap.size w w' := by
  by_cases hp : predF cs key ns = 0
  · have h1 := pred_one hp
    by_cases he : colsErr cs cols = 0
    · have e1 : filE cs key ns cols = 0 := by unfold filE; rw [if_pos hp]; exact he
      have e2 : filV cs key ns cols = filtF cs ns cols := by unfold filV; rw [if_pos e1]
      rw [e1, e2]
      exact vfilter_ok cv cs key nv ns rv cols w hc hn hr hp he h1
    · have e1 : filE cs key ns cols = colsErr cs cols := by unfold filE; rw [if_pos hp]
      have e2 : filV cs key ns cols = [] := by unfold filV; rw [if_neg (by rw [e1]; exact he)]
      rw [e1, e2]
      obtain ⟨E, hE⟩ : ∃ E, colsErr cs cols = E := ⟨_, rfl⟩
      rw [hE] at he ⊢
      have he' : (E != 0) = true := by simpa using he
      have HC : Hid (ColsAt (w.alloc (.cells #[cv, .int .i64 key] 28)) (w.alloc (.cells #[cv, .int .i64 key] 28)).heap.size cv cs) := Lib.hid (hc.mono ((Below.refl w.heap.size w).alloc (Nat.le_refl _) _) (by simp))
      have HN : Hid (NodsAt (w.alloc (.cells #[cv, .int .i64 key] 28)) (w.alloc (.cells #[cv, .int .i64 key] 28)).heap.size nv ns) := Lib.hid (hn.mono ((Below.refl w.heap.size w).alloc (Nat.le_refl _) _) (by simp))
      have HR : Hid (RowsAt (w.alloc (.cells #[cv, .int .i64 key] 28)) (w.alloc (.cells #[cv, .int .i64 key] 28)).heap.size rv cols) := Lib.hid (hr.mono ((Below.refl w.heap.size w).alloc (Nat.le_refl _) _) (by simp))
      have HP := Lib.hid hp
      have HE := Lib.hid hE
      clear hc hn hr hp hE e1 e2
      go_enter Try.func18, Try.ntmps18
      go_wp2_with (first | (go_at_call 32; refine Calls.mono (predCheck_any _ cs key _ ns _ HC.out HN.out) ?_; rw [HP.out]; rintro e w1 ⟨rfl, hb1⟩; obtain ⟨x1, rfl⟩ := Ext.of hb1; have z1 : w.heap.size < x1.it.heap.size := x1.lt (by simp)) | (go_at_call 33; refine Calls.mono (colcheck_any _ cs key _ cols _ (HC.out.mono x1.below x1.below.size) (HR.out.mono x1.below x1.below.size) h1) ?_; rw [HE.out]; rintro e w2 ⟨rfl, hb2⟩; obtain ⟨x2, rfl⟩ := Ext.of hb2))
      exact bodyPost_ret (v := .tuple #[.slice none 0 0, .int .i64 E]) (by simp [results, Try.results18, go_sem, *]) rfl (⟨_, rfl, ints_nil _ _, by repeat (first | with_reducible exact Below.refl _ _ | with_reducible assumption | with_reducible refine Below.al ?_ _ | with_reducible refine Below.on ?_ _ | with_reducible refine Below.st ?_ (by first | assumption | (simp; done) | (simp; omega)) _ | with_reducible refine Below.drew ?_)⟩)
  · have e1 : filE cs key ns cols = predF cs key ns := by unfold filE; rw [if_neg hp]
    have e2 : filV cs key ns cols = [] := by unfold filV; rw [if_neg (by rw [e1]; exact hp)]
    rw [e1, e2]
    obtain ⟨E, hE⟩ : ∃ E, predF cs key ns = E := ⟨_, rfl⟩
    rw [hE] at hp ⊢
    have he' : (E != 0) = true := by simpa using hp
    have HC : Hid (ColsAt (w.alloc (.cells #[cv, .int .i64 key] 28)) (w.alloc (.cells #[cv, .int .i64 key] 28)).heap.size cv cs) := Lib.hid (hc.mono ((Below.refl w.heap.size w).alloc (Nat.le_refl _) _) (by simp))
    have HN : Hid (NodsAt (w.alloc (.cells #[cv, .int .i64 key] 28)) (w.alloc (.cells #[cv, .int .i64 key] 28)).heap.size nv ns) := Lib.hid (hn.mono ((Below.refl w.heap.size w).alloc (Nat.le_refl _) _) (by simp))
    have HE := Lib.hid hE
    clear hc hn hr hp hE e1 e2
    go_enter Try.func18, Try.ntmps18
    go_wp2_with (go_at_call 32; refine Calls.mono (predCheck_any _ cs key _ ns _ HC.out HN.out) ?_; rw [HE.out]; rintro e w1 ⟨rfl, hb1⟩; obtain ⟨x1, rfl⟩ := Ext.of hb1; have z1 : w.heap.size < x1.it.heap.size := x1.lt (by simp))
    exact bodyPost_ret (v := .tuple #[.slice none 0 0, .int .i64 E]) (by simp [results, Try.results18, go_sem, *]) rfl (⟨_, rfl, ints_nil _ _, by repeat (first | with_reducible exact Below.refl _ _ | with_reducible assumption | with_reducible refine Below.al ?_ _ | with_reducible refine Below.on ?_ _ | with_reducible refine Below.st ?_ (by first | assumption | (simp; done) | (simp; omega)) _ | with_reducible refine Below.drew ?_)⟩)
end Go.Proofs.Ytploieofmnlomaa
