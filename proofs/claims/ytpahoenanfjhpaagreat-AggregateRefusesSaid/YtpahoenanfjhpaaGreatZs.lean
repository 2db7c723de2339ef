/-
  CHAPTER 26: Vpl, Agp (several texts in one). Conditions: each theorem states its own.
-/
import Derived.Test.YtpahoenanfjhpaaGreatZd
import Derived.Laws.OwnMore
import Derived.Test.YtpahoenanfjhpaaGreatZn
set_option linter.unusedVariables false
set_option linter.unusedSimpArgs false
namespace Go.Proofs.YtpahoenanfjhpaaGreat
open Go.RowKit
theorem rows_take {w : World} {B : Nat} {a : Option Addr} {n c K : Nat} {rows : List (List Val)} (h : RowsAt w B (.slice a n c) rows) (hn : rows.length = n) (hK : K ≤ n) : RowsAt w B (sliced a 0 K c 1) (rows.take K) := by
  have h9 := h.1
  have hl : (rows.take K).length = K := by simp; omega
  have e : (sliced a 0 K c 1) = .slice a K c := by
    unfold sliced
    by_cases q : c = 0
    · simp [q]
    · rw [if_neg q]; cases a <;> simp [Addr.add]
  rw [e]
  refine ⟨by rw [hl]; omega, ?_⟩
  rcases h.2 with ⟨e0, a', c', e1⟩ | ⟨b, o, c', hv, hc, hb, hr⟩
  · subst e0
    simp at hn
    subst hn
    obtain rfl : K = 0 := by omega
    exact .inl ⟨rfl, _, _, rfl⟩
  · injection hv with e1 e2 e3
    subst e1 e3
    exact .inr ⟨b, o, c, by rw [hl], by rw [hl]; omega, hb, fun j hj => by
      have hj' : j < rows.length := by rw [hl] at hj; omega
      obtain ⟨lv, p, q⟩ := hr j hj'
      exact ⟨lv, p, by rw [List.getElem_take]; exact q⟩⟩
theorem rows_drop {w : World} {B : Nat} {a : Option Addr} {n c K : Nat} {rows : List (List Val)} (h : RowsAt w B (.slice a n c) rows) (hn : rows.length = n) (hK : K ≤ n) : RowsAt w B (sliced a K n c 1) (rows.drop K) := by
  have h9 := h.1
  have hl : (rows.drop K).length = n - K := by simp; omega
  refine ⟨by rw [hl]; omega, ?_⟩
  by_cases hKn : K = n
  · subst hKn
    exact .inl ⟨List.eq_nil_of_length_eq_zero (by omega), _, _, by unfold sliced; rw [Nat.sub_self]⟩
  · rcases h.2 with ⟨e0, a', c', e1⟩ | ⟨b, o, c', hv, hc, hb, hr⟩
    · subst e0
      simp at hn
      omega
    · injection hv with e1 e2 e3
      subst e1 e3
      refine .inr ⟨b, o + K, c - K, ?_, by rw [hl]; omega, hb, fun j hj => ?_⟩
      · rw [hl]; unfold sliced; rw [if_neg (by omega)]
        by_cases k0 : K = 0 <;> simp [Addr.add, k0]
      · have hj' : K + j < rows.length := by rw [hl] at hj; omega
        obtain ⟨lv, p, q⟩ := hr (K + j) hj'
        exact ⟨lv, by rw [Nat.add_assoc]; exact p, by rw [List.getElem_drop]; exact q⟩
theorem run_rows_h {a : Option Addr} {n c K : Nat} (hK : K ≤ c) (W : World) : (Instr.slice 30 (.slice a n c) none (some (.int .i64 (K : Int))) none).run Tryz.prog W = .ok (sliced a 0 K c 1) W := by
  have ht : Tryz.prog.underlying 30 = some (.slice (Tryz.prog.elem 30)) := by kernel_rfl
  have he : Tryz.prog.elem 30 = 42 := by kernel_rfl
  obtain ⟨i1, hj, hy0, hy1, hy2⟩ := info_parts infoRow
  rw [run_slice_h (ht := ht) (h0 := by omega) (h2 := by omega), he]
  simp [sizeOf, typeInfo, hj, hy1, Result.andThen]
theorem run_rows_l {a : Option Addr} {n c K : Nat} (hK : K ≤ n) (W : World) : (Instr.slice 30 (.slice a n c) (some (.int .i64 (K : Int))) none none).run Tryz.prog W = .ok (sliced a K n c 1) W := by
  have ht : Tryz.prog.underlying 30 = some (.slice (Tryz.prog.elem 30)) := by kernel_rfl
  have he : Tryz.prog.elem 30 = 42 := by kernel_rfl
  obtain ⟨i1, hj, hy0, hy1, hy2⟩ := info_parts infoRow
  rw [run_slice_l (ht := ht) (h0 := by omega) (h1 := by omega), he]
  simp [sizeOf, typeInfo, hj, hy1, Result.andThen]
end Go.Proofs.YtpahoenanfjhpaaGreat
namespace Go.Proofs.YtpahoenanfjhpaaGreat
namespace Srt
variable {β : Type} {d : β → β → Int}
theorem Pre.self (hp : Pre d) (x : β) : d x x = 0 := by have := hp.anti x x; omega
theorem Pre.symm0 (hp : Pre d) {x y : β} (h : d x y = 0) : d y x = 0 := by have := hp.anti x y; have := hp.anti y x; omega
/-- The element put into its group, or into a group of its own. -/
def gins (d : β → β → Int) (x : β) : List (List β) → List (List β)
  | [] => [[x]]
  | g :: gs => if d (g.headD x) x < 0 then g :: gins d x gs else if d (g.headD x) x = 0 then (g ++ [x]) :: gs else [x] :: g :: gs
def grp (d : β → β → Int) (l : List β) : List (List β) := l.foldl (fun gs x => gins d x gs) []
structure Good (d : β → β → Int) (gs : List (List β)) : Prop where
  ne : ∀ g ∈ gs, g ≠ []
  eq : ∀ g ∈ gs, ∀ x ∈ g, ∀ y ∈ g, d x y = 0
  lt : gs.Pairwise (fun g h => ∀ x ∈ g, ∀ y ∈ h, d x y < 0)
theorem Good.nil : Good d [] := ⟨fun _ h => absurd h (by simp), fun _ h => absurd h (by simp), .nil⟩
theorem head_mem {g : List β} (h : g ≠ []) (x : β) : g.headD x ∈ g := by
  cases g with
  | nil => exact absurd rfl h
  | cons a l => simp
theorem insR_app (x : β) : ∀ (B C : List β), (∀ y ∈ C, ¬ d x y < 0) → insR d x (B ++ C) = insR d x B ++ C
  | [], [], _ => rfl
  | [], y :: r, h => by
    show insR d x (y :: r) = [x] ++ (y :: r)
    unfold insR
    rw [if_neg (h y (by simp))]; rfl
  | b :: B, C, h => by
    show insR d x (b :: (B ++ C)) = insR d x (b :: B) ++ C
    unfold insR
    split
    · rw [insR_app x B C h]; rfl
    · rfl
theorem insR_pass (x : β) : ∀ (B C : List β), (∀ y ∈ B, d x y < 0) → insR d x (B ++ C) = B ++ insR d x C
  | [], _, _ => rfl
  | b :: B, C, h => by
    show insR d x (b :: (B ++ C)) = b :: B ++ insR d x C
    rw [insR, if_pos (h b (by simp)), insR_pass x B C (fun y hy => h y (List.mem_cons_of_mem _ hy))]
    rfl
theorem insR_stop (x : β) (C : List β) (h : ∀ y ∈ C, ¬ d x y < 0) : insR d x C = x :: C := by
  have := insR_app x [] C h
  simpa [insR] using this
theorem gins_mem (x : β) : ∀ (gs : List (List β)) g, g ∈ gins d x gs → ∀ y ∈ g, y = x ∨ ∃ h ∈ gs, y ∈ h
  | [], g, hg, y, hy => by
    simp only [gins, List.mem_singleton] at hg
    subst hg
    exact .inl (by simpa using hy)
  | a :: gs, g, hg, y, hy => by
    unfold gins at hg
    split at hg
    · rcases List.mem_cons.1 hg with rfl | hg
      · exact .inr ⟨g, by simp, hy⟩
      · rcases gins_mem x gs g hg y hy with q | ⟨h, h1, h2⟩
        · exact .inl q
        · exact .inr ⟨h, List.mem_cons_of_mem _ h1, h2⟩
    · split at hg
      · rcases List.mem_cons.1 hg with rfl | hg
        · rcases List.mem_append.1 hy with q | q
          · exact .inr ⟨a, by simp, q⟩
          · exact .inl (by simpa using q)
        · exact .inr ⟨g, List.mem_cons_of_mem _ hg, hy⟩
      · rcases List.mem_cons.1 hg with rfl | hg
        · exact .inl (by simpa using hy)
        · exact .inr ⟨g, hg, hy⟩
theorem gins_good (hp : Pre d) (x : β) : ∀ gs : List (List β), Good d gs → Good d (gins d x gs) ∧ (gins d x gs).flatten = (insR d x gs.flatten.reverse).reverse
  | [], _ => by
    refine ⟨⟨fun g hg => ?_, fun g hg y hy z hz => ?_, List.pairwise_singleton _ _⟩, rfl⟩
    · simp only [gins, List.mem_singleton] at hg; subst hg; simp
    · simp only [gins, List.mem_singleton] at hg; subst hg
      simp only [List.mem_singleton] at hy hz
      subst hy; rw [hz]; exact hp.self _
  | g :: gs, h => by
    have hg : Good d gs := ⟨fun a ha => h.ne a (List.mem_cons_of_mem _ ha), fun a ha => h.eq a (List.mem_cons_of_mem _ ha), (List.pairwise_cons.1 h.lt).2⟩
    have hl := (List.pairwise_cons.1 h.lt).1
    have hh := head_mem (h.ne g (by simp)) x
    have he := h.eq g (by simp)
    have hf : ∀ y ∈ gs.flatten.reverse, ∀ z ∈ g, d z y < 0 := fun y hy z hz => by
      obtain ⟨a, ha, hy'⟩ := List.mem_flatten.1 (List.mem_reverse.1 hy)
      exact hl a ha z hz y hy'
    obtain ⟨i1, i2⟩ := gins_good hp x gs hg
    unfold gins
    split
    · rename_i q
      have gx : ∀ y ∈ g, d y x < 0 := fun y hy => hp.le_lt (Int.le_of_eq (he y hy _ hh)) q
      refine ⟨⟨fun a ha => ?_, fun a ha => ?_, List.pairwise_cons.2 ⟨fun a ha y hy z hz => ?_, i1.lt⟩⟩, ?_⟩
      · rcases List.mem_cons.1 ha with rfl | ha
        · exact h.ne _ (by simp)
        · exact i1.ne a ha
      · rcases List.mem_cons.1 ha with rfl | ha
        · exact he
        · exact i1.eq a ha
      · rcases gins_mem x gs a ha z hz with rfl | ⟨b, hb, hz'⟩
        · exact gx y hy
        · exact hl b hb y hy z hz'
      · simp only [List.flatten_cons, List.reverse_append]
        rw [insR_app x _ _ (fun y hy => by have := gx y (List.mem_reverse.1 hy); have := hp.anti y x; omega), List.reverse_append, List.reverse_reverse, i2]
    · rename_i q
      split
      · rename_i q2
        have gx : ∀ y ∈ g, d y x = 0 := fun y hy => by
          have a1 := he y hy _ hh
          have a2 := hp.trans y _ x (Int.le_of_eq a1) (Int.le_of_eq q2)
          have a3 := hp.trans x _ y (Int.le_of_eq (hp.symm0 q2)) (Int.le_of_eq (hp.symm0 a1))
          have := hp.anti y x; have := hp.anti x y; omega
        have xf : ∀ y ∈ gs.flatten.reverse, d x y < 0 := fun y hy => hp.le_lt (Int.le_of_eq (hp.symm0 (gx _ hh))) (hf y hy _ hh)
        refine ⟨⟨fun a ha => ?_, fun a ha => ?_, List.pairwise_cons.2 ⟨fun a ha y hy z hz => ?_, hg.lt⟩⟩, ?_⟩
        · rcases List.mem_cons.1 ha with rfl | ha
          · simp
          · exact hg.ne a ha
        · rcases List.mem_cons.1 ha with rfl | ha
          · intro y hy z hz
            rcases List.mem_append.1 hy with hy | hy <;> rcases List.mem_append.1 hz with hz | hz
            · exact he y hy z hz
            · rw [show z = x by simpa using hz]
              exact gx y hy
            · rw [show y = x by simpa using hy]
              exact hp.symm0 (gx z hz)
            · obtain rfl : z = x := by simpa using hz
              obtain rfl : y = z := by simpa using hy
              exact hp.self _
          · exact hg.eq a ha
        · rcases List.mem_append.1 hy with hy | hy
          · exact hl a ha y hy z hz
          · obtain rfl : y = x := by simpa using hy
            exact xf z (List.mem_reverse.2 (List.mem_flatten.2 ⟨a, ha, hz⟩))
        · simp only [List.flatten_cons, List.reverse_append]
          rw [insR_pass x _ _ xf, insR_stop x _ (fun y hy => by have := gx y (List.mem_reverse.1 hy); have := hp.symm0 this; omega)]
          simp
      · rename_i q2
        have xg : ∀ y ∈ g, d x y < 0 := fun y hy => by
          have : d x (g.headD x) < 0 := by have := hp.anti x (g.headD x); omega
          exact hp.lt_le this (Int.le_of_eq (he _ hh y hy))
        have xf : ∀ y ∈ gs.flatten.reverse, d x y < 0 := fun y hy => by
          have q3 := xg _ hh
          exact hp.lt_le q3 (by have := hf y hy _ hh; omega)
        refine ⟨⟨fun a ha => ?_, fun a ha => ?_, List.pairwise_cons.2 ⟨fun a ha y hy z hz => ?_, h.lt⟩⟩, ?_⟩
        · rcases List.mem_cons.1 ha with rfl | ha
          · simp
          · exact h.ne a ha
        · rcases List.mem_cons.1 ha with rfl | ha
          · intro y hy z hz
            obtain rfl : z = x := by simpa using hz
            obtain rfl : y = z := by simpa using hy
            exact hp.self _
          · exact h.eq a ha
        · obtain rfl : y = x := by simpa using hy
          rcases List.mem_cons.1 ha with rfl | ha
          · exact xg z hz
          · exact xf z (List.mem_reverse.2 (List.mem_flatten.2 ⟨a, ha, hz⟩))
        · simp only [List.flatten_cons, List.reverse_append]
          rw [insR_pass x _ _ xf]
          have := insR_pass (d := d) x g.reverse [] (fun y hy => xg y (List.mem_reverse.1 hy))
          rw [List.append_nil] at this
          rw [this]
          simp [insR]
theorem grp_all (hp : Pre d) : ∀ (l : List β) (gs : List (List β)), Good d gs → Good d (l.foldl (fun gs x => gins d x gs) gs) ∧ (l.foldl (fun gs x => gins d x gs) gs).flatten = (l.foldl (fun acc x => insR d x acc) gs.flatten.reverse).reverse
  | [], gs, h => ⟨h, by simp⟩
  | x :: l, gs, h => by
    obtain ⟨i1, i2⟩ := gins_good hp x gs h
    obtain ⟨j1, j2⟩ := grp_all hp l _ i1
    refine ⟨j1, ?_⟩
    show (l.foldl _ (gins d x gs)).flatten = _
    rw [j2, i2, List.reverse_reverse]
    rfl
theorem grp_good (hp : Pre d) (l : List β) : Good d (grp d l) := (grp_all hp l [] .nil).1
theorem grp_flat (hp : Pre d) (l : List β) : (grp d l).flatten = srt d l := (grp_all hp l [] .nil).2
theorem grp_perm (hp : Pre d) (l : List β) : (grp d l).flatten.Perm l := by rw [grp_flat hp]; exact srt_perm d l
theorem grp_snoc (l : List β) (x : β) : grp d (l ++ [x]) = gins d x (grp d l) := by unfold grp; rw [List.foldl_append]; rfl
/-- The place of the group by a search. -/
theorem gins_at (x : β) : ∀ (gs : List (List β)) (k : Nat) (hk : k ≤ gs.length), (∀ j (h : j < k), d ((gs[j]'(by omega)).headD x) x < 0) → (∀ h : k < gs.length, ¬ d ((gs[k]'h).headD x) x < 0) →
    gins d x gs = (if h : k < gs.length then (if d ((gs[k]'h).headD x) x = 0 then gs.take k ++ (gs[k]'h ++ [x]) :: gs.drop (k + 1) else gs.take k ++ [x] :: gs.drop k) else gs.take k ++ [x] :: gs.drop k)
  | [], k, hk, _, _ => by
    obtain rfl : k = 0 := by simpa using hk
    rfl
  | g :: gs, 0, hk, _, h2 => by
    have q := h2 (by simp)
    simp only [List.getElem_cons_zero] at q
    unfold gins
    rw [if_neg q, dif_pos (by simp)]
    simp only [List.getElem_cons_zero, List.take_zero, List.nil_append, List.drop_succ_cons, List.drop_zero]
  | g :: gs, k + 1, hk, h1, h2 => by
    have q := h1 0 (by omega)
    simp only [List.getElem_cons_zero] at q
    have ih := gins_at x gs k (by simpa using hk) (fun j hj => by have := h1 (j + 1) (by omega); simpa using this) (fun hj => by have := h2 (by simpa using hj); simpa using this)
    unfold gins
    rw [if_pos q, ih]
    by_cases hkl : k < gs.length
    · rw [dif_pos hkl, dif_pos (by simpa using hkl)]
      simp only [List.getElem_cons_succ, List.take_succ_cons, List.drop_succ_cons, List.cons_append]
      split <;> rfl
    · rw [dif_neg hkl, dif_neg (by simpa using hkl)]
      simp
/-- The leading group of what is left. -/
theorem Good.tail {g : List β} {gs : List (List β)} (h : Good d (g :: gs)) : Good d gs := ⟨fun a ha => h.ne a (List.mem_cons_of_mem _ ha), fun a ha => h.eq a (List.mem_cons_of_mem _ ha), (List.pairwise_cons.1 h.lt).2⟩
theorem Good.in {g : List β} {gs : List (List β)} (h : Good d (g :: gs)) {R : List β} (hR : (g :: gs).flatten = R) {j : Nat} (hj : j < g.length) (h0 : 0 < R.length) (hjR : j < R.length) : d (R[0]'h0) (R[j]'hjR) = 0 := by
  subst hR
  have hg : 0 < g.length := by omega
  have e1 : (g :: gs).flatten[0]'h0 = g[0]'hg := by simp only [List.flatten_cons]; rw [List.getElem_append_left hg]
  have e2 : (g :: gs).flatten[j]'hjR = g[j]'hj := by simp only [List.flatten_cons]; rw [List.getElem_append_left hj]
  rw [e1, e2]
  exact h.eq g (by simp) _ (List.getElem_mem _) _ (List.getElem_mem _)
theorem Good.out {g : List β} {gs : List (List β)} (h : Good d (g :: gs)) {R : List β} (hR : (g :: gs).flatten = R) (h0 : 0 < R.length) (hjR : g.length < R.length) : ¬ d (R[0]'h0) (R[g.length]'hjR) = 0 := by
  subst hR
  have hg : 0 < g.length := List.length_pos_iff.2 (h.ne g (by simp))
  have e1 : (g :: gs).flatten[0]'h0 = g[0]'hg := by simp only [List.flatten_cons]; rw [List.getElem_append_left hg]
  have hm : (g :: gs).flatten[g.length]'hjR ∈ gs.flatten := by
    simp only [List.flatten_cons]
    rw [List.getElem_append_right (Nat.le_refl _)]
    exact List.getElem_mem _
  obtain ⟨a, ha, hm⟩ := List.mem_flatten.1 hm
  have := (List.pairwise_cons.1 h.lt).1 a ha (g[0]'hg) (List.getElem_mem _) _ hm
  rw [e1]
  omega
/-- One group: nothing parts the elements. -/
theorem grp_zero (h0 : ∀ x y, d x y = 0) (l : List β) : grp d l = if l = [] then [] else [l] := by
  have key : ∀ (l a : List β), a ≠ [] → l.foldl (fun gs x => gins d x gs) [a] = [a ++ l] := by
    intro l
    induction l with
    | nil => intro a _; simp
    | cons x r ih =>
      intro a ha
      have e : gins d x [a] = [a ++ [x]] := by unfold gins; rw [if_neg (by rw [h0]; omega), if_pos (h0 _ _)]
      show r.foldl _ (gins d x [a]) = _
      rw [e, ih _ (by simp)]
      simp
  cases l with
  | nil => rfl
  | cons x r =>
    rw [if_neg (by simp)]
    show r.foldl _ (gins d x []) = _
    exact key r [x] (by simp)
end Srt
end Go.Proofs.YtpahoenanfjhpaaGreat
