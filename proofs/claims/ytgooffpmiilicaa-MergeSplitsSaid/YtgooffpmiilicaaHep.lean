/-
  PLAIN: container/heap's up and down over a function from places to elements, and the merge of sorted lists by a heap of their heads. Conditions: each theorem states its own; no program in sight.
-/
import Derived.Test.YtgooffpmiilicaaSs2
set_option linter.unusedVariables false
set_option linter.unusedSimpArgs false
namespace Go.Proofs.Ytgooffpmiilicaa
namespace Srt
variable {α β : Type}

/-- lt is a strict order whose 'not' is transitive. -/
structure Swo (lt : α → α → Bool) : Prop where
  asymm : ∀ x y, lt x y = true → lt y x = false
  neg : ∀ x y z, lt x y = false → lt y z = false → lt x z = false
theorem Swo.irr {lt : α → α → Bool} (h : Swo lt) (x : α) : lt x x = false := by
  cases e : lt x x with
  | false => rfl
  | true => rw [← e]; exact h.asymm x x e
/-- The first n places are a heap. -/
def Hp (lt : α → α → Bool) (f : Nat → α) (n : Nat) : Prop := ∀ k, 0 < k → k < n → lt (f k) (f ((k - 1) / 2)) = false
/-- A heap but for the children of place i. -/
def HpD (lt : α → α → Bool) (f : Nat → α) (n i : Nat) : Prop :=
  (∀ k, 0 < k → k < n → (k - 1) / 2 ≠ i → lt (f k) (f ((k - 1) / 2)) = false) ∧ ∀ k, 0 < i → 0 < k → k < n → (k - 1) / 2 = i → lt (f k) (f ((i - 1) / 2)) = false
/-- A heap but for place j. -/
def HpU (lt : α → α → Bool) (f : Nat → α) (n j : Nat) : Prop :=
  (∀ k, 0 < k → k < n → k ≠ j → lt (f k) (f ((k - 1) / 2)) = false) ∧ ∀ k, 0 < j → 0 < k → k < n → (k - 1) / 2 = j → lt (f k) (f ((j - 1) / 2)) = false
variable {lt : α → α → Bool}
theorem Hp.root (hl : Swo lt) {f : Nat → α} {n : Nat} (h : Hp lt f n) : ∀ k, k < n → lt (f k) (f 0) = false := by
  intro k
  induction k using Nat.strongRecOn with
  | ind k ih =>
    intro hk
    by_cases h0 : k = 0
    · subst h0; exact hl.irr _
    · exact hl.neg _ _ _ (h k (by omega) hk) (ih ((k - 1) / 2) (by omega) (by omega))
theorem swp_l (f : Nat → α) (i j : Nat) : swp f i j i = f j := by unfold swp; rw [if_pos rfl]
theorem swp_r (f : Nat → α) (i j : Nat) : swp f i j j = f i := by
  unfold swp
  by_cases e : j = i
  · rw [if_pos e, e]
  · rw [if_neg e, if_pos rfl]
theorem swp_o (f : Nat → α) {i j k : Nat} (h1 : k ≠ i) (h2 : k ≠ j) : swp f i j k = f k := by unfold swp; rw [if_neg h1, if_neg h2]
theorem HpD.leaf {f : Nat → α} {n i : Nat} (h : HpD lt f n i) (hn : n ≤ 2 * i + 1) : Hp lt f n := fun k h0 hk => h.1 k h0 hk (by omega)
/-- j: the least of the children of place i. -/
def Chi (lt : α → α → Bool) (f : Nat → α) (n i j : Nat) : Prop := j < n ∧ (j - 1) / 2 = i ∧ 0 < j ∧ ∀ k, 0 < k → k < n → (k - 1) / 2 = i → lt (f k) (f j) = false
theorem Chi.one (hl : Swo lt) {f : Nat → α} {n i : Nat} (h1 : 2 * i + 1 < n) (h2 : ¬ 2 * i + 2 < n) : Chi lt f n i (2 * i + 1) :=
  ⟨h1, by omega, by omega, fun k h0 hk hp => by obtain rfl : k = 2 * i + 1 := by omega
                                                exact hl.irr _⟩
theorem Chi.left (hl : Swo lt) {f : Nat → α} {n i : Nat} (h1 : 2 * i + 2 < n) (h2 : lt (f (2 * i + 2)) (f (2 * i + 1)) = false) : Chi lt f n i (2 * i + 1) :=
  ⟨by omega, by omega, by omega, fun k h0 hk hp => by
    rcases (show k = 2 * i + 1 ∨ k = 2 * i + 2 by omega) with rfl | rfl
    · exact hl.irr _
    · exact h2⟩
theorem Chi.right (hl : Swo lt) {f : Nat → α} {n i : Nat} (h1 : 2 * i + 2 < n) (h2 : lt (f (2 * i + 2)) (f (2 * i + 1)) = true) : Chi lt f n i (2 * i + 2) :=
  ⟨by omega, by omega, by omega, fun k h0 hk hp => by
    rcases (show k = 2 * i + 1 ∨ k = 2 * i + 2 by omega) with rfl | rfl
    · exact hl.asymm _ _ h2
    · exact hl.irr _⟩
theorem HpD.stop (hl : Swo lt) {f : Nat → α} {n i j : Nat} (h : HpD lt f n i) (c : Chi lt f n i j) (hs : lt (f j) (f i) = false) : Hp lt f n := fun k h0 hk => by
  by_cases e : (k - 1) / 2 = i
  · rw [e]; exact hl.neg _ _ _ (c.2.2.2 k h0 hk e) hs
  · exact h.1 k h0 hk e
theorem HpD.step (hl : Swo lt) {f : Nat → α} {n i j : Nat} (h : HpD lt f n i) (c : Chi lt f n i j) (hs : lt (f j) (f i) = true) : HpD lt (swp f i j) n j := by
  obtain ⟨c1, c2, c3, c4⟩ := c
  have hij : i ≠ j := by omega
  refine ⟨fun k h0 hk hp => ?_, fun k _ h0 hk hp => ?_⟩
  · by_cases e1 : k = i
    · subst e1
      rw [swp_l, swp_o f (by omega) hp]
      exact h.2 j h0 c3 c1 c2
    · by_cases e2 : k = j
      · subst e2
        rw [swp_r, c2, swp_l]
        exact hl.asymm _ _ hs
      · rw [swp_o f e1 e2]
        by_cases e3 : (k - 1) / 2 = i
        · rw [e3, swp_l]; exact c4 k h0 hk e3
        · rw [swp_o f e3 hp]; exact h.1 k h0 hk e3
  · rw [swp_o f (by omega) (by omega), c2, swp_l]
    have := h.1 k h0 hk (by omega)
    rw [hp] at this; exact this
theorem HpU.top {f : Nat → α} {n : Nat} (h : HpU lt f n 0) : Hp lt f n := fun k h0 hk => h.1 k h0 hk (by omega)
theorem HpU.stop {f : Nat → α} {n j : Nat} (h : HpU lt f n j) (hs : lt (f j) (f ((j - 1) / 2)) = false) : Hp lt f n := fun k h0 hk => by
  by_cases e : k = j
  · subst e; exact hs
  · exact h.1 k h0 hk e
theorem HpU.step (hl : Swo lt) {f : Nat → α} {n i j : Nat} (h : HpU lt f n j) (h0 : 0 < j) (hj : j < n) (hi : (j - 1) / 2 = i) (hs : lt (f j) (f i) = true) : HpU lt (swp f i j) n i := by
  have hij : i ≠ j := by omega
  refine ⟨fun k k0 kn ki => ?_, fun k i0 k0 kn kp => ?_⟩
  · by_cases e : k = j
    · subst e
      rw [swp_r, hi, swp_l]
      exact hl.asymm _ _ hs
    · rw [swp_o f ki e]
      by_cases e1 : (k - 1) / 2 = i
      · rw [e1, swp_l]
        have := h.1 k k0 kn e
        rw [e1] at this
        exact hl.neg _ _ _ this (hl.asymm _ _ hs)
      · by_cases e2 : (k - 1) / 2 = j
        · rw [e2, swp_r]
          have := h.2 k h0 k0 kn e2
          rw [hi] at this; exact this
        · rw [swp_o f e1 e2]; exact h.1 k k0 kn e
  · rw [swp_o f (k := (i - 1) / 2) (by omega) (by omega)]
    have hi1 := h.1 i i0 (by omega) hij
    by_cases e : k = j
    · subst e; rw [swp_r]; exact hi1
    · rw [swp_o f (by omega) e]
      have := h.1 k k0 kn e
      rw [kp] at this
      exact hl.neg _ _ _ this hi1
/-- Place k set to x. -/
def upd (f : Nat → α) (i : Nat) (x : α) : Nat → α := fun k => if k = i then x else f k
theorem upd_s (f : Nat → α) (i : Nat) (x : α) : upd f i x i = x := if_pos rfl
theorem upd_o (f : Nat → α) {i k : Nat} (x : α) (h : k ≠ i) : upd f i x k = f k := if_neg h
theorem Hp.push {f : Nat → α} {n : Nat} (h : Hp lt f n) (x : α) : HpU lt (upd f n x) (n + 1) n :=
  ⟨fun k h0 hk he => by rw [upd_o f x he, upd_o f x (by omega)]; exact h k h0 (by omega), fun k _ h0 hk hp => by omega⟩
theorem Hp.fix {f : Nat → α} {n : Nat} (h : Hp lt f n) (x : α) : HpD lt (upd f 0 x) n 0 :=
  ⟨fun k h0 hk he => by rw [upd_o f x (by omega), upd_o f x he]; exact h k h0 hk, fun k h0 => absurd h0 (by omega)⟩
theorem Hp.pop {f : Nat → α} {m : Nat} (h : Hp lt f (m + 1)) : HpD lt (swp f 0 m) m 0 :=
  ⟨fun k h0 hk he => by rw [swp_o f (by omega) (by omega), swp_o f he (by omega)]; exact h k h0 (by omega), fun k h0 => absurd h0 (by omega)⟩

/-! ### The lists that the heads stand for -/
variable {hd : α → β} {tl : α → List β} {num : α → Nat}
structure HL (hd : α → β) (tl : α → List β) (num : α → Nat) (f : Nat → α) (n : Nat) (Ls : List (List β)) : Prop where
  here : ∀ k, k < n → Ls[num (f k)]? = some (hd (f k) :: tl (f k))
  all : ∀ i x l, Ls[i]? = some (x :: l) → ∃ k, k < n ∧ num (f k) = i
  inj : ∀ j k, j < n → k < n → num (f j) = num (f k) → j = k
theorem HL.nil (f : Nat → α) : HL hd tl num f 0 [] := ⟨fun k h => absurd h (by omega), fun i x l h => by simp at h, fun j k h => absurd h (by omega)⟩
def pl (i j k : Nat) : Nat := if k = i then j else if k = j then i else k
theorem pl_lt {i j k n : Nat} (hi : i < n) (hj : j < n) (hk : k < n) : pl i j k < n := by
  unfold pl
  by_cases h1 : k = i
  · rw [if_pos h1]; exact hj
  · rw [if_neg h1]
    by_cases h2 : k = j
    · rw [if_pos h2]; exact hi
    · rw [if_neg h2]; exact hk
theorem pl_pl (i j k : Nat) : pl i j (pl i j k) = k := by
  unfold pl
  by_cases h1 : k = i
  · rw [if_pos h1]
    by_cases h2 : j = i
    · rw [if_pos h2]; omega
    · rw [if_neg h2, if_pos rfl]; exact h1.symm
  · rw [if_neg h1]
    by_cases h2 : k = j
    · rw [if_pos h2, if_pos rfl]; exact h2.symm
    · rw [if_neg h2, if_neg h1, if_neg h2]
theorem swp_pl (f : Nat → α) (i j k : Nat) : swp f i j k = f (pl i j k) := by
  unfold swp pl
  by_cases h1 : k = i
  · rw [if_pos h1, if_pos h1]
  · rw [if_neg h1, if_neg h1]
    by_cases h2 : k = j
    · rw [if_pos h2, if_pos h2]
    · rw [if_neg h2, if_neg h2]
theorem HL.exch {f : Nat → α} {n : Nat} {Ls : List (List β)} (h : HL hd tl num f n Ls) {i j : Nat} (hi : i < n) (hj : j < n) : HL hd tl num (swp f i j) n Ls := by
  refine ⟨fun k hk => ?_, fun q x l hq => ?_, fun a b ha hb he => ?_⟩
  · rw [swp_pl]; exact h.here _ (pl_lt hi hj hk)
  · obtain ⟨k, hk, e⟩ := h.all q x l hq
    exact ⟨pl i j k, pl_lt hi hj hk, by rw [swp_pl, pl_pl]; exact e⟩
  · rw [swp_pl, swp_pl] at he
    have := h.inj _ _ (pl_lt hi hj ha) (pl_lt hi hj hb) he
    rw [← pl_pl i j a, ← pl_pl i j b, this]
theorem HL.sw {f g : Nat → α} {n : Nat} {Ls : List (List β)} (h : HL hd tl num f n Ls) (p : Sw 0 n f g) : HL hd tl num g n Ls := by
  induction p with
  | refl => exact h
  | step i j _ _ h2 _ h4 ih => exact ih.exch h2 h4
theorem HL.zero {f : Nat → α} {Ls : List (List β)} (h : HL hd tl num f 0 Ls) : Ls.flatten = [] := by
  rw [List.flatten_eq_nil_iff]
  intro l hl
  obtain ⟨i, hi, rfl⟩ := List.getElem_of_mem hl
  cases e : Ls[i]'hi with
  | nil => rfl
  | cons x r => obtain ⟨k, hk, _⟩ := h.all i x r (by rw [List.getElem?_eq_getElem hi, e]); omega
theorem HL.snil {f : Nat → α} {n : Nat} {Ls : List (List β)} (h : HL hd tl num f n Ls) : HL hd tl num f n (Ls ++ [[]]) := by
  refine ⟨fun k hk => ?_, fun i x l hi => ?_, h.inj⟩
  · have := h.here k hk
    rw [List.getElem?_append_left (List.getElem?_eq_some_iff.1 this).1]; exact this
  · refine h.all i x l ?_
    rcases Nat.lt_or_ge i Ls.length with q | q
    · rw [List.getElem?_append_left q] at hi; exact hi
    · rw [List.getElem?_append_right q] at hi
      match i - Ls.length, hi with
      | 0, hi => simp at hi
      | m + 1, hi => simp at hi
theorem HL.push {f : Nat → α} {n : Nat} {Ls : List (List β)} (h : HL hd tl num f n Ls) (y : α) (hy : num y = Ls.length) : HL hd tl num (upd f n y) (n + 1) (Ls ++ [hd y :: tl y]) := by
  have lt : ∀ k, k < n → num (f k) < Ls.length := fun k hk => (List.getElem?_eq_some_iff.1 (h.here k hk)).1
  refine ⟨fun k hk => ?_, fun i x l hi => ?_, fun a b ha hb he => ?_⟩
  · by_cases e : k = n
    · subst e; rw [upd_s, hy, List.getElem?_append_right (Nat.le_refl _)]; simp
    · rw [upd_o f y e, List.getElem?_append_left (lt k (by omega))]; exact h.here k (by omega)
  · rcases Nat.lt_or_ge i Ls.length with q | q
    · rw [List.getElem?_append_left q] at hi
      obtain ⟨k, hk, e⟩ := h.all i x l hi
      exact ⟨k, by omega, by rw [upd_o f y (by omega)]; exact e⟩
    · have : i = Ls.length := by
        have := (List.getElem?_eq_some_iff.1 hi).1
        simp at this; omega
      exact ⟨n, by omega, by rw [upd_s, hy, this]⟩
  · by_cases e1 : a = n <;> by_cases e2 : b = n
    · omega
    · rw [e1, upd_s, upd_o f y e2] at he; have := lt b (by omega); omega
    · rw [e2, upd_s, upd_o f y e1] at he; have := lt a (by omega); omega
    · rw [upd_o f y e1, upd_o f y e2] at he; exact h.inj a b (by omega) (by omega) he
/-- The first head's list has lost its first element, and is not empty. -/
theorem HL.fix {f : Nat → α} {n : Nat} {Ls : List (List β)} (h : HL hd tl num f n Ls) (h0 : 0 < n) (y : α) (hy : num y = num (f 0)) : HL hd tl num (upd f 0 y) n (Ls.set (num (f 0)) (hd y :: tl y)) := by
  have lt : ∀ k, k < n → num (f k) < Ls.length := fun k hk => (List.getElem?_eq_some_iff.1 (h.here k hk)).1
  have nm : ∀ k, num (upd f 0 y k) = num (f k) := fun k => by
    by_cases e : k = 0
    · subst e; rw [upd_s, hy]
    · rw [upd_o f y e]
  refine ⟨fun k hk => ?_, fun i x l hi => ?_, fun a b ha hb he => h.inj a b ha hb (by rw [← nm a, ← nm b, he])⟩
  · rw [nm]
    by_cases e : k = 0
    · subst e; rw [upd_s, List.getElem?_set_self (lt 0 hk)]
    · rw [upd_o f y e, List.getElem?_set_ne (fun q => e (h.inj 0 k h0 hk q).symm)]; exact h.here k hk
  · by_cases e : i = num (f 0)
    · exact ⟨0, h0, by rw [nm, e]⟩
    · rw [List.getElem?_set_ne (fun q => e q.symm)] at hi
      obtain ⟨k, hk, q⟩ := h.all i x l hi
      exact ⟨k, hk, by rw [nm]; exact q⟩
/-- The first head's list is used up. -/
theorem HL.pop {f : Nat → α} {m : Nat} {Ls : List (List β)} (h : HL hd tl num f (m + 1) Ls) : HL hd tl num (swp f 0 m) m (Ls.set (num (f 0)) []) := by
  have lt : ∀ k, k < m + 1 → num (f k) < Ls.length := fun k hk => (List.getElem?_eq_some_iff.1 (h.here k hk)).1
  have g := h.exch (i := 0) (j := m) (by omega) (by omega)
  have gm : swp f 0 m m = f 0 := swp_r f 0 m
  refine ⟨fun k hk => ?_, fun i x l hi => ?_, fun a b ha hb he => g.inj a b (by omega) (by omega) he⟩
  · rw [List.getElem?_set_ne (fun q => by have := g.inj m k (by omega) (by omega) (by rw [gm]; exact q); omega)]
    exact g.here k (by omega)
  · by_cases e : i = num (f 0)
    · rw [e, List.getElem?_set_self (lt 0 (by omega))] at hi; simp at hi
    · rw [List.getElem?_set_ne (fun q => e q.symm)] at hi
      obtain ⟨k, hk, q⟩ := g.all i x l hi
      refine ⟨k, ?_, q⟩
      rcases Nat.lt_or_ge k m with r | r
      · exact r
      · obtain rfl : k = m := by omega
        rw [gm] at q; exact absurd q.symm e

/-! ### The least head is the first of the sorted whole -/
theorem insR_last {d : β → β → Int} {r : β} : ∀ {l : List β}, (∀ y ∈ l, d r y < 0) → insR d r l = l ++ [r]
  | [], _ => rfl
  | y :: l, h => by
    unfold insR
    rw [if_pos (h y (by simp)), insR_last (fun z hz => h z (by simp [hz]))]; rfl
theorem insR_snoc {d : β → β → Int} {r x : β} (hx : ¬ d x r < 0) : ∀ l : List β, insR d x (l ++ [r]) = insR d x l ++ [r]
  | [] => by show insR d x [r] = [x] ++ [r]; unfold insR; rw [if_neg hx]; rfl
  | y :: l => by
    rw [List.cons_append]
    unfold insR
    split
    · rw [insR_snoc hx l]; rfl
    · rfl
theorem srt_min {d : β → β → Int} {A B : List β} {r : β} (hA : ∀ y ∈ A, d r y < 0) (hB : ∀ y ∈ B, ¬ d y r < 0) : srt d (A ++ r :: B) = r :: srt d (A ++ B) := by
  have key : ∀ (B acc : List β), (∀ y ∈ B, ¬ d y r < 0) → B.foldl (fun acc x => insR d x acc) (acc ++ [r]) = B.foldl (fun acc x => insR d x acc) acc ++ [r] := by
    intro B
    induction B with
    | nil => intro acc _; rfl
    | cons b B ih =>
      intro acc hB
      rw [List.foldl_cons, List.foldl_cons, insR_snoc (hB b (by simp))]
      exact ih _ fun y hy => hB y (by simp [hy])
  have e : srtR d (A ++ r :: B) = srtR d (A ++ B) ++ [r] := by
    unfold srtR
    rw [List.foldl_append, List.foldl_append, List.foldl_cons, insR_last (l := A.foldl (fun acc x => insR d x acc) []) (fun y hy => hA y ((srtR_perm d A).mem_iff.1 hy)), key B _ hB]
  unfold srt
  rw [e, List.reverse_append]
  rfl
theorem flat_set {Ls : List (List β)} {i : Nat} {l m : List β} (h : Ls[i]? = some l) : (Ls.set i m).flatten = (Ls.take i).flatten ++ (m ++ (Ls.drop (i + 1)).flatten) ∧ Ls.flatten = (Ls.take i).flatten ++ (l ++ (Ls.drop (i + 1)).flatten) := by
  obtain ⟨hi, rfl⟩ := List.getElem?_eq_some_iff.1 h
  constructor
  · rw [List.set_eq_take_append_cons_drop, if_pos hi, List.flatten_append, List.flatten_cons]
  · conv => lhs; rw [← List.take_append_drop i Ls, List.drop_eq_getElem_cons hi, List.flatten_append, List.flatten_cons]
/-- The order of the heads. -/
def ltH (d : β → β → Int) (hd : α → β) (num : α → Nat) (x y : α) : Bool := decide (d (hd x) (hd y) < 0) || (decide (d (hd x) (hd y) = 0) && decide (num x < num y))
theorem ltH_swo {d : β → β → Int} (hp : Pre d) (hd : α → β) (num : α → Nat) : Swo (ltH d hd num) := by
  have hp' : Pre (fun x y => d (hd x) (hd y)) := ⟨fun x y => hp.anti _ _, fun x y z => hp.trans _ _ _⟩
  have iff : ∀ x y, ltH d hd num x y = true ↔ Lt (fun x y => d (hd x) (hd y)) num x y := fun x y => by simp [ltH, Lt]
  have niff : ∀ x y, ltH d hd num x y = false ↔ (0 < d (hd x) (hd y) ∨ (d (hd x) (hd y) = 0 ∧ num y ≤ num x)) := fun x y => by
    rw [← Bool.not_eq_true, iff]; unfold Lt; dsimp only; omega
  refine ⟨fun x y h => ?_, fun x y z h1 h2 => ?_⟩
  · rw [← Bool.not_eq_true, iff]; exact fun q => Lt.asymm hp' ((iff x y).1 h) q
  · rw [niff] at h1 h2 ⊢
    have a1 := hp.anti (hd x) (hd y); have a1' := hp.anti (hd y) (hd x)
    have a2 := hp.anti (hd y) (hd z); have a2' := hp.anti (hd z) (hd y)
    have a3 := hp.anti (hd x) (hd z); have a3' := hp.anti (hd z) (hd x)
    rcases h1 with h1 | ⟨h1, n1⟩ <;> rcases h2 with h2 | ⟨h2, n2⟩
    · have := hp.lt_le (x := hd z) (y := hd y) (z := hd x) (by omega) (by omega); exact .inl (by omega)
    · have := hp.le_lt (x := hd z) (y := hd y) (z := hd x) (by omega) (by omega); exact .inl (by omega)
    · have := hp.lt_le (x := hd z) (y := hd y) (z := hd x) (by omega) (by omega); exact .inl (by omega)
    · have := hp.trans (hd z) (hd y) (hd x) (by omega) (by omega)
      rcases Int.lt_or_le 0 (d (hd x) (hd z)) with r | r
      · exact .inl r
      · exact .inr ⟨by omega, by omega⟩
theorem merge_step {d : β → β → Int} (hp : Pre d) {f : Nat → α} {n : Nat} {Ls : List (List β)} (h : HL hd tl num f n Ls) (hh : Hp (ltH d hd num) f n) (h0 : 0 < n) (hs : ∀ l ∈ Ls, l.Pairwise (fun x y => d x y < 0)) :
    srt d Ls.flatten = hd (f 0) :: srt d (Ls.set (num (f 0)) (tl (f 0))).flatten := by
  have h00 := h.here 0 h0
  obtain ⟨e1, e2⟩ := flat_set (m := tl (f 0)) h00
  have root := hh.root (ltH_swo hp hd num)
  rw [e1, e2]
  refine srt_min (fun y hy => ?_) (fun y hy => ?_)
  · obtain ⟨l, hl, hyl⟩ := List.mem_flatten.1 hy
    obtain ⟨i, hi, rfl⟩ := List.getElem_of_mem hl
    have hi' : i < num (f 0) := by simp at hi; omega
    have hi2 : i < Ls.length := by simp at hi; omega
    rw [List.getElem_take] at hyl
    have hm : Ls[i]'hi2 ∈ Ls := List.getElem_mem _
    cases e : Ls[i]'hi2 with
    | nil => rw [e] at hyl; simp at hyl
    | cons x r =>
      obtain ⟨k, hk, q⟩ := h.all i x r (by rw [List.getElem?_eq_getElem hi2, e])
      have hk' := h.here k hk
      rw [q, List.getElem?_eq_getElem hi2, e] at hk'
      obtain ⟨rfl, rfl⟩ : x = hd (f k) ∧ r = tl (f k) := by simpa using hk'
      have rt := root k hk
      unfold ltH at rt
      simp only [Bool.or_eq_false_iff, Bool.and_eq_false_iff, decide_eq_false_iff_not] at rt
      have a1 := hp.anti (hd (f 0)) (hd (f k))
      have dk : d (hd (f 0)) (hd (f k)) < 0 := by
        rcases rt with ⟨r1, r2 | r2⟩ <;> omega
      have sk := hs _ hm
      rw [e] at sk hyl
      rcases List.mem_cons.1 hyl with rfl | hyl
      · exact dk
      · exact hp.lt_le dk (Int.le_of_lt ((List.pairwise_cons.1 sk).1 y hyl))
  · have a1 := hp.anti y (hd (f 0))
    rcases List.mem_append.1 hy with hy | hy
    · obtain ⟨hi, e⟩ := List.getElem?_eq_some_iff.1 h00
      have sk := hs _ (List.getElem_mem hi)
      rw [e] at sk
      have := (List.pairwise_cons.1 sk).1 y hy
      have := hp.anti (hd (f 0)) y
      omega
    · obtain ⟨l, hl, hyl⟩ := List.mem_flatten.1 hy
      obtain ⟨i, hi, rfl⟩ := List.getElem_of_mem hl
      have hi2 : num (f 0) + 1 + i < Ls.length := by simp at hi; omega
      rw [List.getElem_drop] at hyl
      have hm : Ls[num (f 0) + 1 + i]'hi2 ∈ Ls := List.getElem_mem _
      cases e : Ls[num (f 0) + 1 + i]'hi2 with
      | nil => rw [e] at hyl; simp at hyl
      | cons x r =>
        obtain ⟨k, hk, q⟩ := h.all _ x r (by rw [List.getElem?_eq_getElem hi2, e])
        have hk' := h.here k hk
        rw [q, List.getElem?_eq_getElem hi2, e] at hk'
        obtain ⟨rfl, rfl⟩ : x = hd (f k) ∧ r = tl (f k) := by simpa using hk'
        have rt := root k hk
        unfold ltH at rt
        simp only [Bool.or_eq_false_iff, Bool.and_eq_false_iff, decide_eq_false_iff_not] at rt
        have a2 := hp.anti (hd (f 0)) (hd (f k))
        have a3 := hp.anti (hd (f k)) (hd (f 0))
        have dk : d (hd (f 0)) (hd (f k)) ≤ 0 := by omega
        have sk := hs _ hm
        rw [e] at sk hyl
        have : d (hd (f 0)) y ≤ 0 := by
          rcases List.mem_cons.1 hyl with rfl | hyl
          · exact dk
          · exact Int.le_of_lt (hp.le_lt dk ((List.pairwise_cons.1 sk).1 y hyl))
        omega
end Srt
end Go.Proofs.Ytgooffpmiilicaa
