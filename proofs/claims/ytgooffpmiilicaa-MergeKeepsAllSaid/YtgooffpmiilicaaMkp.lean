/-
  PLAIN: what a merge keeps: the order, and each list as a part in its order. Conditions: each theorem states its own.
-/
import Derived.Test.YtgooffpmiilicaaZb
import Derived.Test.YtgooffpmiilicaaZc
set_option linter.unusedVariables false
set_option linter.unusedSimpArgs false
namespace Go.Proofs.Ytgooffpmiilicaa
open Go.RowKit Srt
theorem insR_pair {β : Type} {d : β → β → Int} (hp : Pre d) (x : β) : ∀ {l : List β}, l.Pairwise (fun a b => ¬ d a b < 0) → (insR d x l).Pairwise (fun a b => ¬ d a b < 0)
  | [], _ => by unfold insR; simp
  | y :: r, h => by
    obtain ⟨h1, h2⟩ := List.pairwise_cons.1 h
    unfold insR
    split
    · rename_i q
      refine List.pairwise_cons.2 ⟨fun z hz => ?_, insR_pair hp x h2⟩
      rcases List.mem_cons.1 ((insR_perm d x r).mem_iff.1 hz) with rfl | hz
      · have := hp.anti z y; omega
      · exact h1 z hz
    · rename_i q
      refine List.pairwise_cons.2 ⟨fun z hz => ?_, h⟩
      rcases List.mem_cons.1 hz with rfl | hz
      · exact q
      · have q1 := (hp.nonneg x y).1 q
        have q2 := (hp.nonneg y z).1 (h1 z hz)
        exact (hp.nonneg x z).2 (hp.trans z y x q2 q1)
theorem srt_pair {β : Type} {d : β → β → Int} (hp : Pre d) (L : List β) : (srt d L).Pairwise (fun a b => ¬ d b a < 0) := by
  have key : ∀ (L acc : List β), acc.Pairwise (fun a b => ¬ d a b < 0) → (L.foldl (fun acc x => insR d x acc) acc).Pairwise (fun a b => ¬ d a b < 0) := by
    intro L
    induction L with
    | nil => intro acc h; exact h
    | cons x r ih => intro acc h; exact ih _ (insR_pair hp x h)
  unfold srt
  rw [List.pairwise_reverse]
  exact key L [] .nil
/-- Two orders that do not go together: one list alone. -/
theorem pair_mix {α : Type} {R S : α → α → Prop} (h : ∀ x y, R x y → S y x → False) : ∀ {l m : List α}, l.Pairwise R → m.Pairwise S → l.Perm m → l = m
  | [], m, _, _, p => by have := p.length_eq; cases m with | nil => rfl | cons => simp at this
  | x :: l, [], _, _, p => by have := p.length_eq; simp at this
  | x :: l, y :: m, hl, hm, p => by
    have hx : x ∈ y :: m := p.subset (by simp)
    have hy : y ∈ x :: l := p.symm.subset (by simp)
    have e : x = y := by
      rcases List.mem_cons.1 hx with e | hx
      · exact e
      · rcases List.mem_cons.1 hy with e | hy
        · exact e.symm
        · exact (h x y ((List.pairwise_cons.1 hl).1 y hy) ((List.pairwise_cons.1 hm).1 x hx)).elim
    subst e
    rw [pair_mix h (List.pairwise_cons.1 hl).2 (List.pairwise_cons.1 hm).2 (List.Perm.cons_inv p)]
theorem srt_of_perm {β : Type} {d : β → β → Int} (hp : Pre d) {L Z : List β} (hz : Z.Pairwise (fun x y => d x y < 0)) (p : L.Perm Z) : srt d L = Z :=
  (pair_mix (fun x y a b => b a) hz (srt_pair hp L) (p.symm.trans (srt_perm d L).symm)).symm
theorem asc_sub {β : Type} {d : β → β → Int} (hp : Pre d) : ∀ {out a : List β}, a.Pairwise (fun x y => d x y < 0) → out.Pairwise (fun x y => ¬ d y x < 0) → (∀ x ∈ a, x ∈ out) → List.Sublist a out
  | out, [], _, _, _ => List.nil_sublist _
  | [], x :: a, _, _, h => absurd (h x (by simp)) (by simp)
  | r :: o, x :: a, ha, ho, h => by
    obtain ⟨a1, a2⟩ := List.pairwise_cons.1 ha
    obtain ⟨o1, o2⟩ := List.pairwise_cons.1 ho
    have irr : ∀ z, ¬ d z z < 0 := fun z q => by have := (hp.anti z z).1 q; omega
    by_cases e : x = r
    · subst e
      refine List.Sublist.cons_cons _ (asc_sub hp a2 o2 fun y hy => ?_)
      rcases List.mem_cons.1 (h y (by simp [hy])) with rfl | q
      · exact absurd (a1 y hy) (irr y)
      · exact q
    · have hx : x ∈ o := (List.mem_cons.1 (h x (by simp))).resolve_left e
      refine List.Sublist.cons _ (asc_sub hp ha o2 fun y hy => ?_)
      rcases List.mem_cons.1 hy with rfl | hy'
      · exact hx
      · rcases List.mem_cons.1 (h y (by simp [hy'])) with rfl | q
        · exact absurd (a1 y hy') (o1 x hx)
        · exact q
def rc0 : Rc := ⟨0, []⟩
/-- The next record of the list is looked for. -/
def gstep (a : List Rc) (i : Nat) (r : Rc) : Nat := if i < a.length ∧ eqRc (a.getD i rc0) r = true then i + 1 else i
theorem gstep_all (a : List Rc) : ∀ (out : List Rc) (i : Nat), i ≤ a.length → List.Sublist (a.drop i) out → out.foldl (gstep a) i = a.length
  | [], i, hi, h => by
    have := List.sublist_nil.1 h
    have := congrArg List.length this
    rw [List.length_drop, List.length_nil] at this
    show i = _
    omega
  | r :: o, i, hi, h => by
    rw [List.foldl_cons]
    rcases Nat.lt_or_ge i a.length with q | q
    · rw [List.drop_eq_getElem_cons q] at h
      have ed : a.getD i rc0 = a[i]'q := by simp [List.getD, List.getElem?_eq_getElem q]
      unfold gstep
      by_cases e : eqRc (a[i]'q) r = true
      · rw [if_pos ⟨q, by rw [ed]; exact e⟩]
        have e' := (eqRc_iff _ _).1 e
        rw [e'] at h
        exact gstep_all a o (i + 1) q (List.cons_sublist_cons.1 h)
      · rw [if_neg (by rw [ed]; exact fun x => e x.2)]
        refine gstep_all a o i hi ?_
        rw [List.drop_eq_getElem_cons q]
        cases h with
        | cons _ h => exact h
        | cons_cons _ h => exact absurd ((eqRc_iff _ _).2 rfl) e
    · have e : gstep a i r = i := by unfold gstep; rw [if_neg (fun x => by omega)]
      rw [e]
      refine gstep_all a o i hi ?_
      rw [List.drop_of_length_le q]
      exact List.nil_sublist _
theorem gstep_succ (a out : List Rc) (j : Nat) (h : j < out.length) : (out.take (j + 1)).foldl (gstep a) 0 = gstep a ((out.take j).foldl (gstep a) 0) (out[j]'h) := by
  rw [List.take_succ_eq_append_getElem h, List.foldl_append]; rfl
theorem gstep_le (a : List Rc) : ∀ (out : List Rc) (i : Nat), i ≤ a.length → out.foldl (gstep a) i ≤ a.length
  | [], i, hi => hi
  | r :: o, i, hi => by
    rw [List.foldl_cons]
    refine gstep_le a o _ ?_
    unfold gstep
    split
    · rename_i q; omega
    · exact hi
end Go.Proofs.Ytgooffpmiilicaa
