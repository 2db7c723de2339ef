/-
  INTERVAL: the bounds of a predicate are sound: plain laws. Conditions: none beyond those that each theorem states.
-/
import Derived.Test.YtjojnakgadfgmaaOfg
import Derived.Test.YtjojnakgadfgmaaCkr
import Derived.Test.YtjojnakgadfgmaaLat
set_option linter.unusedVariables false
set_option linter.unusedSimpArgs false
namespace Go.Proofs.Ytjojnakgadfgmaa
open Go.RowKit
/-- A pair of bounds and a truth value fit a value of the column. -/
def Sound (t : Int) (v : Val) (p : Bnd × Bnd) (r : Int) : Prop := checkF t p.1 = true ∧ checkF t p.2 = true ∧ (r = 1 → touchF t p.1 v v = true) ∧ (r = 0 → touchF t p.2 v v = true)
theorem all_check (t : Int) : checkF t bAll = true := by rw [check_iff]; simp [bAll, vz, endF, isZ, show (⟨#[]⟩ : ByteArray).toList = [] by rw [ByteArray.toList_eq]]
theorem all_has (t : Int) (v : Val) : touchF t bAll v v = true := by
  rw [has_iff (all_check t)]
  cases h : v.null <;> simp [bAll]
theorem some_check (t : Int) : checkF t bSome = true := by rw [check_iff]; simp [bSome, vz, endF, isZ, show (⟨#[]⟩ : ByteArray).toList = [] by rw [ByteArray.toList_eq]]
theorem some_has (t : Int) {v : Val} (h : v.null = false) : touchF t bSome v v = true := by
  rw [has_iff (some_check t)]
  simp [bSome, h]
theorem zero_check (t : Int) : checkF t bZero = true := by rw [check_iff]; simp [bZero, vz, endF, isZ, show (⟨#[]⟩ : ByteArray).toList = [] by rw [ByteArray.toList_eq]]
theorem null_check (t : Int) : checkF t bNull = true := by rw [check_iff]; simp [bNull, vz, endF, isZ, show (⟨#[]⟩ : ByteArray).toList = [] by rw [ByteArray.toList_eq]]
theorem null_has (t : Int) {v : Val} (h : v.null = true) : touchF t bNull v v = true := by
  rw [has_iff (null_check t)]
  simp [bNull, h]
theorem one_check (t : Int) {u : Val} (h : u.null = false) : checkF t (bOne u) = true := by rw [check_iff]; simp [bOne, endF, h, leV_refl]
theorem up_check (t : Int) {u : Val} (h : u.null = false) : checkF t (bUp u) = true := by rw [check_iff]; simp [bUp, vz, endF, isZ, h, show (⟨#[]⟩ : ByteArray).toList = [] by rw [ByteArray.toList_eq]]
theorem from_check (t : Int) {u : Val} (h : u.null = false) : checkF t (bFrom u) = true := by rw [check_iff]; simp [bFrom, vz, endF, isZ, h, show (⟨#[]⟩ : ByteArray).toList = [] by rw [ByteArray.toList_eq]]
theorem one_has (t : Int) {u v : Val} (hu : u.null = false) (hv : v.null = false) (h : cmpV t v u = 0) : touchF t (bOne u) v v = true := by
  rw [has_iff (one_check t hu)]
  right
  exact ⟨rfl, hv, fun _ => (cmpV_ge t v u).1 (by omega), fun _ => (cmpV_le t v u).1 (by omega)⟩
theorem up_has (t : Int) {u v : Val} (hu : u.null = false) (hv : v.null = false) (h : cmpV t v u ≤ 0) : touchF t (bUp u) v v = true := by
  rw [has_iff (up_check t hu)]
  right
  exact ⟨rfl, hv, fun q => absurd q (by simp [bUp]), fun _ => (cmpV_le t v u).1 h⟩
theorem from_has (t : Int) {u v : Val} (hu : u.null = false) (hv : v.null = false) (h : 0 ≤ cmpV t v u) : touchF t (bFrom u) v v = true := by
  rw [has_iff (from_check t hu)]
  right
  exact ⟨rfl, hv, fun _ => (cmpV_ge t v u).1 h, fun q => absurd q (by simp [bFrom])⟩
/-- The bounds of a list: valid; they hold the value if it is found; the other ones hold it if there is no null value. -/
theorem in_sound (t : Int) {v : Val} (hv : v.null = false) : ∀ (ls : List Val) (p : Bnd × Bnd) (f n : Bool), checkF t p.1 = true → checkF t p.2 = true → (f = true → touchF t p.1 v v = true) → (n = false → touchF t p.2 v v = true) →
    checkF t (ls.foldl (inStep t) p).1 = true ∧ checkF t (ls.foldl (inStep t) p).2 = true ∧ ((amongF t v ls (f, n)).1 = true → touchF t (ls.foldl (inStep t) p).1 v v = true) ∧ ((amongF t v ls (f, n)).2 = false → touchF t (ls.foldl (inStep t) p).2 v v = true)
  | [], p, f, n, h1, h2, h3, h4 => ⟨h1, h2, h3, h4⟩
  | u :: ls, p, f, n, h1, h2, h3, h4 => by
    rw [List.foldl_cons]
    show _ ∧ _ ∧ ((amongF t v ls (f || (!u.null && decide (cmpV t v u = 0)), n || u.null)).1 = true → _) ∧ ((amongF t v ls (f || (!u.null && decide (cmpV t v u = 0)), n || u.null)).2 = false → _)
    cases hu : u.null with
    | true =>
      have e : inStep t p u = (p.1, bZero) := if_pos hu
      rw [e]
      exact in_sound t hv ls (p.1, bZero) _ _ h1 (zero_check t) (fun q => h3 (by simpa using q)) (fun q => absurd q (by simp))
    | false =>
      have e : inStep t p u = (joinF t p.1 (bOne u), p.2) := if_neg (by rw [hu]; simp)
      rw [e]
      refine in_sound t hv ls (joinF t p.1 (bOne u), p.2) _ _ (join_check h1 (one_check t hu)) h2 (fun q => ?_) (fun q => h4 (by simpa using q))
      simp only [Bool.or_eq_true, Bool.not_false, Bool.true_and, decide_eq_true_eq] at q
      rcases q with q | q
      · exact join_has h1 (one_check t hu) v (.inl (h3 q))
      · exact join_has h1 (one_check t hu) v (.inr (one_has t hu hv q))
theorem notnull_of {ty : Int} {nul : Bool} {v : Val} {cs : List Col} {i : Int} {d : Nod} (h : nodE cs i d = 0) (h1 : 1 ≤ d.op) (h6 : d.op ≤ 6) : d.v.null = false := by
  unfold nodE at h
  rw [if_neg (by omega), if_neg (by omega)] at h
  split at h
  · exact absurd h (by decide)
  · split at h
    · exact absurd h (by decide)
    · rw [if_neg (by omega), if_pos (by omega)] at h
      cases hn : d.v.null with
      | false => rfl
      | true => rw [if_pos hn] at h; exact absurd h (by decide)
theorem b2t_1 {b : Bool} (h : b2t b = 1) : b = true := by cases b; exact absurd h (by decide); rfl
theorem b2t_0 {b : Bool} (h : b2t b = 0) : b = false := by cases b; rfl; exact absurd h (by decide)
theorem leaf_sound {t : Int} {v : Val} {d : Nod} (h1 : 1 ≤ d.op) (h8 : d.op ≤ 8) (hn : d.op ≤ 6 → d.v.null = false) : Sound t v (leafG t d) (leafT t d v) := by
  have te : (⟨#[]⟩ : ByteArray).toList = [] := by rw [ByteArray.toList_eq]
  unfold leafG leafT
  by_cases o7 : d.op = 7
  · rw [if_pos o7, if_neg (by omega)]
    cases hv : v.null with
    | true =>
      rw [if_pos rfl]
      have IS : ∀ (ls : List Val) (p : Bnd × Bnd), checkF t p.1 = true → checkF t p.2 = true → checkF t (ls.foldl (inStep t) p).1 = true ∧ checkF t (ls.foldl (inStep t) p).2 = true := by
        intro ls
        induction ls with
        | nil => exact fun p a b => ⟨a, b⟩
        | cons u ls ih =>
          intro p a b
          rw [List.foldl_cons]
          unfold inStep
          split
          · exact ih _ a (zero_check t)
          · rename_i q; exact ih _ (join_check a (one_check t (by simpa using q))) b
      have h := IS d.ls (bZero, bSome) (zero_check t) (some_check t)
      exact ⟨h.1, h.2, fun q => absurd q (by decide), fun q => absurd q (by decide)⟩
    | false =>
      rw [if_neg (by simp), if_neg (by omega)]
      have h := in_sound t hv d.ls (bZero, bSome) false false (zero_check t) (some_check t) (fun q => absurd q (by simp)) (fun _ => some_has t hv)
      refine ⟨h.1, h.2.1, fun q => ?_, fun q => ?_⟩
      · split at q
        · exact absurd q (by decide)
        · exact h.2.2.1 (b2t_1 q)
      · split at q
        · exact absurd q (by decide)
        · rename_i q'
          have := b2t_0 q
          rw [this] at q'
          exact h.2.2.2 (by simpa using q')
  · rw [if_neg o7]
    by_cases o8 : d.op = 8
    · rw [if_pos o8]
      have e : leafF d.op d.v = (bNull, bSome) := by unfold leafF; rw [if_neg (by omega), if_neg (by omega), if_neg (by omega), if_neg (by omega)]
      rw [e]
      exact ⟨null_check t, some_check t, fun q => null_has t (b2t_1 q), fun q => some_has t (b2t_0 q)⟩
    · rw [if_neg o8]
      have h6 : d.op ≤ 6 := by omega
      have hu := hn h6
      cases hv : v.null with
      | true =>
        rw [if_pos rfl]
        have hc : checkF t (leafF d.op d.v).1 = true ∧ checkF t (leafF d.op d.v).2 = true := by
          unfold leafF
          rcases op6 h1 h6 with q | q | q | q | q | q <;> rw [q]
          · exact ⟨one_check t hu, some_check t⟩
          · exact ⟨some_check t, one_check t hu⟩
          · exact ⟨up_check t hu, from_check t hu⟩
          · exact ⟨up_check t hu, from_check t hu⟩
          · exact ⟨from_check t hu, up_check t hu⟩
          · exact ⟨from_check t hu, up_check t hu⟩
        exact ⟨hc.1, hc.2, fun q => absurd q (by decide), fun q => absurd q (by decide)⟩
      | false =>
        rw [if_neg (by simp), if_pos h6]
        unfold leafF holdsB
        rcases op6 h1 h6 with q | q | q | q | q | q <;> rw [q]
        · refine ⟨one_check t hu, some_check t, fun q => one_has t hu hv (by have := b2t_1 q; simpa using this), fun _ => some_has t hv⟩
        · refine ⟨some_check t, one_check t hu, fun _ => some_has t hv, fun q => one_has t hu hv (by have := b2t_0 q; simpa using this)⟩
        · refine ⟨up_check t hu, from_check t hu, fun q => up_has t hu hv (by have := b2t_1 q; simp at this; omega), fun q => from_has t hu hv (by have := b2t_0 q; simp at this; omega)⟩
        · refine ⟨up_check t hu, from_check t hu, fun q => up_has t hu hv (by have := b2t_1 q; simp at this; omega), fun q => from_has t hu hv (by have := b2t_0 q; simp at this; omega)⟩
        · refine ⟨from_check t hu, up_check t hu, fun q => from_has t hu hv (by have := b2t_1 q; simp at this; omega), fun q => up_has t hu hv (by have := b2t_0 q; simp at this; omega)⟩
        · refine ⟨from_check t hu, up_check t hu, fun q => from_has t hu hv (by have := b2t_1 q; simp at this; omega), fun q => up_has t hu hv (by have := b2t_0 q; simp at this; omega)⟩
theorem step_sound {cs : List Col} {row : List Val} {K : Nat} {i : Int} {d : Nod} {A : List (Bnd × Bnd)} {T : List Int} (hn : nodE cs i d = 0) (hi : i = A.length) (hK : K < cs.length)
    (H : ∀ j, j < A.length → Sound (cs[K]'hK).ty (row.getD K Val.zero) (A.getD j (bZero, bZero)) (T.getD j 0) ∧ T3 (T.getD j 0)) :
    Sound (cs[K]'hK).ty (row.getD K Val.zero) (stepG (cs[K]'hK).ty K A d) (stepT cs row T d) := by
  have hd := nodE_ok hn
  unfold stepG stepT
  dsimp only
  by_cases o11 : d.op = 11
  · obtain ⟨a0, a1⟩ := hd.2.2.1 (by omega)
    obtain ⟨⟨h1, h2, h3, h4⟩, h5⟩ := H d.a.toNat (by omega)
    rw [if_pos o11, if_neg (by omega), if_neg (by omega), if_pos o11]
    refine ⟨h2, h1, fun q => h4 ?_, fun q => h3 ?_⟩ <;> (rcases h5 with e | e | e <;> rw [e] at q ⊢ <;> first | rfl | exact absurd q (by decide))
  by_cases o9 : d.op = 9
  · obtain ⟨a0, a1⟩ := hd.2.2.1 (by omega)
    obtain ⟨b0, b1⟩ := hd.2.2.2 (by omega) (by omega)
    obtain ⟨⟨h1, h2, h3, h4⟩, h5⟩ := H d.a.toNat (by omega)
    obtain ⟨⟨k1, k2, k3, k4⟩, k5⟩ := H d.b.toNat (by omega)
    rw [if_neg o11, if_pos o9, if_pos o9]
    refine ⟨meet_check h1 k1, join_check h2 k2, fun q => ?_, fun q => ?_⟩
    · rw [meet_has h1 k1, Bool.and_eq_true]
      rcases h5 with e | e | e <;> rcases k5 with f | f | f <;> rw [e, f] at q <;> first | exact absurd q (by decide) | exact ⟨h3 e, k3 f⟩
    · refine join_has h2 k2 _ ?_
      rcases h5 with e | e | e <;> rcases k5 with f | f | f <;> rw [e, f] at q <;> first | exact absurd q (by decide) | exact .inl (h4 e) | exact .inr (k4 f)
  by_cases o10 : d.op = 10
  · obtain ⟨a0, a1⟩ := hd.2.2.1 (by omega)
    obtain ⟨b0, b1⟩ := hd.2.2.2 (by omega) (by omega)
    obtain ⟨⟨h1, h2, h3, h4⟩, h5⟩ := H d.a.toNat (by omega)
    obtain ⟨⟨k1, k2, k3, k4⟩, k5⟩ := H d.b.toNat (by omega)
    rw [if_neg o11, if_neg o9, if_pos o10, if_neg o9, if_pos o10]
    refine ⟨join_check h1 k1, meet_check h2 k2, fun q => ?_, fun q => ?_⟩
    · refine join_has h1 k1 _ ?_
      rcases h5 with e | e | e <;> rcases k5 with f | f | f <;> rw [e, f] at q <;> first | exact absurd q (by decide) | exact .inl (h3 e) | exact .inr (k3 f)
    · rw [meet_has h2 k2, Bool.and_eq_true]
      rcases h5 with e | e | e <;> rcases k5 with f | f | f <;> rw [e, f] at q <;> first | exact absurd q (by decide) | exact ⟨h4 e, k4 f⟩
  rw [if_neg o11, if_neg o9, if_neg o10, if_neg o9, if_neg o10, if_neg o11]
  have h18 : 1 ≤ d.op ∧ d.op ≤ 8 := by omega
  have hc := nodE_leaf hn (by omega)
  by_cases oc : d.col = (K : Int)
  · rw [if_pos oc]
    have e1 : colTy cs d.col = (cs[K]'hK).ty := by unfold colTy; rw [oc, Int.toNat_natCast, List.getElem?_eq_getElem hK]
    rw [e1, oc, Int.toNat_natCast]
    exact leaf_sound h18.1 h18.2 fun q => notnull_of (ty := 0) (nul := false) (v := Val.zero) hn h18.1 q
  · rw [if_neg oc]
    exact ⟨all_check _, all_check _, fun _ => all_has _ _, fun _ => all_has _ _⟩
theorem getD_left {α : Type} {l : List α} {x d : α} {j : Nat} (h : j < l.length) : (l ++ [x]).getD j d = l.getD j d := by
  rw [List.getD_eq_getElem?_getD, List.getD_eq_getElem?_getD, List.getElem?_append_left h]
theorem getD_last {α : Type} {l : List α} {x d : α} {k : Nat} (h : l.length = k) : (l ++ [x]).getD k d = x := by
  subst h
  rw [List.getD_eq_getElem?_getD, List.getElem?_append_right (Nat.le_refl _), Nat.sub_self]; rfl
theorem getD_in {α : Type} {l : List α} {d : α} {k : Nat} (h : k < l.length) : l.getD k d = l[k]'h := by
  rw [List.getD_eq_getElem?_getD, List.getElem?_eq_getElem h]; rfl
theorem acc_sound {cs : List Col} {row : List Val} {K : Nat} {ns : List Nod} (hn : ∀ j (hj : j < ns.length), nodE cs j (ns[j]'hj) = 0) (hK : K < cs.length) : ∀ k, k ≤ ns.length → ∀ j, j < k →
    Sound (cs[K]'hK).ty (row.getD K Val.zero) ((accG (cs[K]'hK).ty K (ns.take k)).getD j (bZero, bZero)) ((accT cs row (ns.take k)).getD j 0) ∧ T3 ((accT cs row (ns.take k)).getD j 0)
  | 0, _, j, hj => absurd hj (by omega)
  | k + 1, hk, j, hj => by
    have ih := acc_sound (row := row) hn hK k (by omega)
    have la : (accG (cs[K]'hK).ty K (ns.take k)).length = k := by rw [accG_len, List.length_take]; omega
    have lt : (accT cs row (ns.take k)).length = k := by rw [accT_len, List.length_take]; omega
    rw [accG_succ _ _ (by omega : k < ns.length), accT_succ cs row (by omega : k < ns.length)]
    rcases Nat.lt_or_ge j k with q | q
    · rw [getD_left (by omega), getD_left (by omega)]
      exact ih j q
    · obtain rfl : j = k := by omega
      have S := step_sound (row := row) (T := accT cs row (ns.take j)) (hn j (by omega)) (by rw [la]) hK (fun i hi => ih i (by omega))
      rw [getD_last la, getD_last lt]
      refine ⟨S, stepT_3 cs row (fun a ha => ?_) _⟩
      obtain ⟨i, hi, e⟩ := List.getElem_of_mem ha
      have := (ih i (by omega)).2
      rw [List.getD_eq_getElem?_getD, List.getElem?_eq_getElem hi] at this
      rw [← e]; exact this
/-- THE LAW: the bounds of a column are valid, and where the predicate is True they hold the column's value. -/
theorem of_sound {cs : List Col} {row : List Val} {key : Int} {K : Nat} {ns : List Nod} (hp : predF cs key ns = 0) (hK : K < cs.length) :
    checkF (cs[K]'hK).ty (outG (cs[K]'hK).ty K ns) = true ∧ (evalF cs row ns = 1 → touchF (cs[K]'hK).ty (outG (cs[K]'hK).ty K ns) (row.getD K Val.zero) (row.getD K Val.zero) = true) := by
  have hn := (predF_all hp).2
  rcases Nat.eq_zero_or_pos ns.length with h | h
  · have e : ns = [] := List.eq_nil_of_length_eq_zero h
    subst e
    exact ⟨all_check _, fun _ => all_has _ _⟩
  · have S := (acc_sound (row := row) hn hK ns.length (Nat.le_refl _) (ns.length - 1) (by omega)).1
    rw [List.take_of_length_le (Nat.le_refl _), getD_in (l := accG (cs[K]'hK).ty K ns) (by rw [accG_len]; omega), getD_in (l := accT cs row ns) (by rw [accT_len]; omega)] at S
    have e1 : outG (cs[K]'hK).ty K ns = ((accG (cs[K]'hK).ty K ns)[ns.length - 1]'(by rw [accG_len]; omega)).1 := by
      unfold outG; rw [List.getLast?_eq_getElem?, List.getElem?_eq_getElem (by rw [accG_len]; omega)]; simp only [accG_len]
    have e2 : evalF cs row ns = (accT cs row ns)[ns.length - 1]'(by rw [accT_len]; omega) := by
      unfold evalF; rw [List.getLast?_eq_getElem?, List.getElem?_eq_getElem (by rw [accT_len]; omega)]; simp only [accT_len]
    rw [e1, e2]
    exact ⟨S.1, S.2.2.1⟩
end Go.Proofs.Ytjojnakgadfgmaa
