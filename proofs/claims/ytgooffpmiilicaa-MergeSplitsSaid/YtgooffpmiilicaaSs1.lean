/-
  PLAIN: Go's stable sort over a function from places to elements: swaps, insertion, rotation, symmetric merge. Conditions: each theorem states its own; no program in sight.
-/
set_option linter.unusedVariables false
set_option linter.unusedSimpArgs false
namespace Go.Proofs.Ytgooffpmiilicaa
namespace Srt
variable {α : Type}

/-- f with the places i and j exchanged. -/
def swp (f : Nat → α) (i j : Nat) : Nat → α := fun k => if k = i then f j else if k = j then f i else f k

/-- f' comes from f by exchanges of places from a on, ahead of b. -/
inductive Sw (a b : Nat) : (Nat → α) → (Nat → α) → Prop where
  | refl (f) : Sw a b f f
  | step {f g} (i j : Nat) : Sw a b f g → a ≤ i → i < b → a ≤ j → j < b → Sw a b f (swp g i j)

theorem Sw.trans {a b : Nat} {f g h : Nat → α} (p : Sw a b f g) (q : Sw a b g h) : Sw a b f h := by
  induction q with
  | refl => exact p
  | step i j _ h1 h2 h3 h4 ih => exact .step i j ih h1 h2 h3 h4
theorem Sw.mono {a b a' b' : Nat} {f g : Nat → α} (p : Sw a b f g) (ha : a' ≤ a) (hb : b ≤ b') : Sw a' b' f g := by
  induction p with
  | refl => exact .refl _
  | step i j _ h1 h2 h3 h4 ih => exact .step i j ih (by omega) (by omega) (by omega) (by omega)
theorem Sw.out {a b : Nat} {f g : Nat → α} (p : Sw a b f g) {k : Nat} (hk : k < a ∨ b ≤ k) : g k = f k := by
  induction p with
  | refl => rfl
  | step i j _ h1 h2 h3 h4 ih => unfold swp; rw [if_neg (by omega), if_neg (by omega)]; exact ih
theorem Sw.all {a b : Nat} {f g : Nat → α} (p : Sw a b f g) {Q : α → Prop} (h : ∀ k, a ≤ k → k < b → Q (f k)) : ∀ k, a ≤ k → k < b → Q (g k) := by
  induction p with
  | refl => exact h
  | step i j _ h1 h2 h3 h4 ih =>
    intro k k1 k2
    unfold swp
    by_cases e : k = i
    · rw [if_pos e]; exact ih j h3 h4
    · rw [if_neg e]
      by_cases e' : k = j
      · rw [if_pos e']; exact ih i h1 h2
      · rw [if_neg e']; exact ih k k1 k2
theorem Sw.one {a b : Nat} (f : Nat → α) {i j : Nat} (h1 : a ≤ i) (h2 : i < b) (h3 : a ≤ j) (h4 : j < b) : Sw a b f (swp f i j) := .step i j (.refl f) h1 h2 h3 h4

def toL (f : Nat → α) (n : Nat) : List α := (List.range n).map f
theorem toL_len (f : Nat → α) (n : Nat) : (toL f n).length = n := by simp [toL]
theorem toL_get (f : Nat → α) {n i : Nat} (h : i < (toL f n).length) : (toL f n)[i]'h = f i := by simp [toL]
theorem toL_swp (f : Nat → α) {n i j : Nat} (hi : i < n) (hj : j < n) : (toL (swp f i j) n).Perm (toL f n) := by
  have e : toL (swp f i j) n = ((toL f n).toArray.swap i j (by simpa [toL_len] using hi) (by simpa [toL_len] using hj)).toList := by
    apply List.ext_getElem
    · simp [toL_len]
    intro k h1 h2
    rw [toL_get]
    simp only [Array.getElem_toList, Array.getElem_swap, List.getElem_toArray, toL_get]
    unfold swp
    rfl
  rw [e]
  have := (Array.swap_perm (xs := (toL f n).toArray) (i := i) (j := j) (by simpa [toL_len] using hi) (by simpa [toL_len] using hj))
  exact this.toList
theorem Sw.perm {a b n : Nat} {f g : Nat → α} (p : Sw a b f g) (hb : b ≤ n) : (toL g n).Perm (toL f n) := by
  induction p with
  | refl => exact .refl _
  | step i j _ h1 h2 h3 h4 ih => exact (toL_swp _ (by omega) (by omega)).trans ih

/-! ### Exchanges of ranges, rotation -/
/-- k places from a on exchanged with those from b on. -/
def swr (f : Nat → α) (a b k : Nat) : Nat → α := fun x => if a ≤ x ∧ x < a + k then f (b + (x - a)) else if b ≤ x ∧ x < b + k then f (a + (x - b)) else f x
theorem swr_zero (f : Nat → α) (a b : Nat) : swr f a b 0 = f := by
  funext x; unfold swr; rw [if_neg (by omega), if_neg (by omega)]
theorem swr_succ (f : Nat → α) {a b k : Nat} (h : a + k < b) : swr f a b (k + 1) = swp (swr f a b k) (a + k) (b + k) := by
  funext x
  unfold swp swr
  by_cases e1 : x = a + k
  · subst e1
    rw [if_pos (by omega), if_pos rfl, if_neg (by omega), if_neg (by omega)]; congr 1; omega
  by_cases e2 : x = b + k
  · subst e2
    rw [if_neg (by omega), if_pos (by omega), if_neg (by omega), if_pos rfl, if_neg (by omega), if_neg (by omega)]; congr 1; omega
  rw [if_neg e1, if_neg e2]
  by_cases c1 : a ≤ x ∧ x < a + k
  · rw [if_pos (by omega), if_pos c1]
  · rw [if_neg (by omega), if_neg c1]
    by_cases c2 : b ≤ x ∧ x < b + k
    · rw [if_pos (by omega), if_pos c2]
    · rw [if_neg (by omega), if_neg c2]
theorem swr_sw (f : Nat → α) {a b lo hi : Nat} : ∀ k, a + k ≤ b → lo ≤ a → b + k ≤ hi → Sw lo hi f (swr f a b k)
  | 0, _, _, _ => by rw [swr_zero]; exact .refl _
  | k + 1, h, h1, h2 => by rw [swr_succ f (by omega)]; exact .step _ _ (swr_sw f k (by omega) h1 (by omega)) (by omega) (by omega) (by omega) (by omega)

/-- The places from a on, ahead of b, with those from m on first. -/
def rot (f : Nat → α) (a m b : Nat) : Nat → α := fun k => if a ≤ k ∧ k < a + (b - m) then f (m + (k - a)) else if a + (b - m) ≤ k ∧ k < b then f (a + (k - (a + (b - m)))) else f k
theorem rot_nil_l (f : Nat → α) (m b : Nat) (h : m ≤ b) : rot f m m b = f := by
  funext x; unfold rot
  by_cases c : m ≤ x ∧ x < m + (b - m)
  · rw [if_pos c]; congr 1; omega
  · rw [if_neg c, if_neg (by omega)]
theorem rot_nil_r (f : Nat → α) (a m : Nat) (h : a ≤ m) : rot f a m m = f := by
  funext x; unfold rot
  rw [if_neg (by omega)]
  by_cases c : a + (m - m) ≤ x ∧ x < m
  · rw [if_pos c]; congr 1; omega
  · rw [if_neg c]
/-- Equal halves. -/
theorem rot_eq (f : Nat → α) (m i : Nat) (h : i ≤ m) : rot f (m - i) m (m + i) = swr f (m - i) m i := by
  funext x; unfold rot swr
  by_cases c1 : m - i ≤ x ∧ x < m
  · rw [if_pos (by omega), if_pos (by omega)]
  by_cases c2 : m ≤ x ∧ x < m + i
  · rw [if_neg (by omega), if_pos (by omega), if_neg (by omega), if_pos (by omega)]; congr 1; omega
  · rw [if_neg (by omega), if_neg (by omega), if_neg (by omega), if_neg (by omega)]
theorem rot_gt (f : Nat → α) (m i j : Nat) (hi : i ≤ m) (h : j < i) : rot (swr f (m - i) m j) (m - (i - j)) m (m + j) = rot f (m - i) m (m + j) := by
  funext x; unfold rot swr
  by_cases c1 : m - i ≤ x ∧ x < m - i + j
  · rw [if_neg (by omega), if_neg (by omega), if_pos (by omega), if_pos (by omega)]
  by_cases c2 : m - i + j ≤ x ∧ x < m - i + j + j
  · rw [if_pos (by omega), if_neg (by omega), if_pos (by omega), if_neg (by omega), if_pos (by omega)]; congr 1; omega
  by_cases c3 : m - i + j + j ≤ x ∧ x < m + j
  · rw [if_neg (by omega), if_pos (by omega), if_neg (by omega), if_neg (by omega), if_neg (by omega), if_pos (by omega)]; congr 1; omega
  · rw [if_neg (by omega), if_neg (by omega), if_neg (by omega), if_neg (by omega), if_neg (by omega), if_neg (by omega)]
theorem rot_lt (f : Nat → α) (m i j : Nat) (hi : i ≤ m) (h : i < j) : rot (swr f (m - i) (m + j - i) i) (m - i) m (m + (j - i)) = rot f (m - i) m (m + j) := by
  funext x; unfold rot swr
  by_cases c1 : m - i ≤ x ∧ x < m - i + (j - i)
  · rw [if_pos (by omega)]
    by_cases c : m + (x - (m - i)) < m + j - i
    · rw [if_neg (by omega), if_neg (by omega), if_pos (by omega)]
    · omega
  by_cases c2 : m - i + (j - i) ≤ x ∧ x < m + j - i
  · rw [if_neg (by omega), if_pos (by omega), if_pos (by omega), if_pos (by omega)]; congr 1; omega
  by_cases c3 : m + j - i ≤ x ∧ x < m + j
  · rw [if_neg (by omega), if_neg (by omega), if_neg (by omega), if_pos (by omega), if_neg (by omega), if_pos (by omega)]; congr 1; omega
  · rw [if_neg (by omega), if_neg (by omega), if_neg (by omega), if_neg (by omega), if_neg (by omega), if_neg (by omega)]

/-! ### The order -/
/-- c is a total preorder, told by a sign. -/
structure Pre (c : α → α → Int) : Prop where
  anti : ∀ x y, c x y < 0 ↔ 0 < c y x
  trans : ∀ x y z, c x y ≤ 0 → c y z ≤ 0 → c x z ≤ 0
/-- x stands ahead of y: by c, then by place. -/
def Lt (c : α → α → Int) (ix : α → Nat) (x y : α) : Prop := c x y < 0 ∨ (c x y = 0 ∧ ix x < ix y)
variable {c : α → α → Int} {ix : α → Nat}
theorem Pre.nonneg (h : Pre c) (x y : α) : ¬ c x y < 0 ↔ c y x ≤ 0 := by have := h.anti x y; omega
theorem Pre.lt_le (h : Pre c) {x y z : α} (p : c x y < 0) (q : c y z ≤ 0) : c x z < 0 := by
  rcases Int.lt_or_le (c x z) 0 with r | r
  · exact r
  · exfalso
    have r' : c z x ≤ 0 := by have := h.anti x z; have := h.anti z x; omega
    have := h.trans y z x q r'
    have := h.anti x y; omega
theorem Pre.le_lt (h : Pre c) {x y z : α} (p : c x y ≤ 0) (q : c y z < 0) : c x z < 0 := by
  rcases Int.lt_or_le (c x z) 0 with r | r
  · exact r
  · exfalso
    have r' : c z x ≤ 0 := by have := h.anti x z; have := h.anti z x; omega
    have := h.trans z x y r' p
    have := h.anti y z; omega
theorem Lt.trans (h : Pre c) {x y z : α} (p : Lt c ix x y) (q : Lt c ix y z) : Lt c ix x z := by
  rcases p with p | ⟨p, p'⟩ <;> rcases q with q | ⟨q, q'⟩
  · exact .inl (h.lt_le p (by omega))
  · exact .inl (h.lt_le p (by omega))
  · exact .inl (h.le_lt (by omega) q)
  · have h1 := h.trans x y z (by omega) (by omega)
    rcases Int.lt_or_le (c x z) 0 with r | r
    · exact .inl r
    · exact .inr ⟨by omega, by omega⟩
theorem Lt.le {x y : α} (p : Lt c ix x y) : c x y ≤ 0 := by rcases p with p | ⟨p, _⟩ <;> omega
theorem Lt.of_le {x y : α} (p : c x y ≤ 0) (q : ix x < ix y) : Lt c ix x y := by
  rcases Int.lt_or_le (c x y) 0 with r | r
  · exact .inl r
  · exact .inr ⟨by omega, q⟩
theorem Lt.asymm (h : Pre c) {x y : α} (p : Lt c ix x y) (q : Lt c ix y x) : False := by
  have h1 := h.anti x y
  have h2 := h.anti y x
  rcases p with p | ⟨p, p'⟩ <;> rcases q with q | ⟨q, q'⟩ <;> omega

/-- In order from a on, ahead of b. -/
def Ord (c : α → α → Int) (ix : α → Nat) (f : Nat → α) (a b : Nat) : Prop := ∀ i j, a ≤ i → i < j → j < b → Lt c ix (f i) (f j)
theorem Ord.sub {f : Nat → α} {a b a' b' : Nat} (h : Ord c ix f a b) (h1 : a ≤ a') (h2 : b' ≤ b) : Ord c ix f a' b' := fun i j p q r => h i j (by omega) q (by omega)
theorem Ord.congr {f g : Nat → α} {a b : Nat} (h : Ord c ix f a b) (e : ∀ k, a ≤ k → k < b → g k = f k) : Ord c ix g a b := fun i j p q r => by rw [e i p (by omega), e j (by omega) r]; exact h i j p q r
theorem Ord.one {f : Nat → α} {a b : Nat} (h : b ≤ a + 1) : Ord c ix f a b := fun i j p q r => by omega
/-- Two parts in order, the first ahead of the second. -/
theorem Ord.join {f : Nat → α} {a m b : Nat} (h1 : Ord c ix f a m) (h2 : Ord c ix f m b) (hx : ∀ i j, a ≤ i → i < m → m ≤ j → j < b → Lt c ix (f i) (f j)) : Ord c ix f a b := by
  intro i j p q r
  rcases Nat.lt_or_ge j m with k | k
  · exact h1 i j p q k
  · rcases Nat.lt_or_ge i m with k' | k'
    · exact hx i j p k' k r
    · exact h2 i j k' q r

/-! ### Insertion -/
/-- Inner state of the insertion of place i into the places from a on: place j holds the new one; all others are in order among themselves. -/
structure Ins (c : α → α → Int) (ix : α → Nat) (f : Nat → α) (a i j : Nat) : Prop where
  aj : a ≤ j
  ji : j ≤ i
  lo : Ord c ix f a j
  hi : Ord c ix f (j + 1) (i + 1)
  cross : ∀ p q, a ≤ p → p < j → j < q → q ≤ i → Lt c ix (f p) (f q)
  up : ∀ q, j < q → q ≤ i → Lt c ix (f j) (f q)
  young : ∀ p, a ≤ p → p < j → ix (f p) < ix (f j)
theorem Ins.start {f : Nat → α} {a i : Nat} (ha : a ≤ i) (h : Ord c ix f a i) (hy : ∀ p, a ≤ p → p < i → ix (f p) < ix (f i)) : Ins c ix f a i i :=
  ⟨ha, Nat.le_refl _, h, Ord.one (by omega), fun p q _ _ _ _ => by omega, fun q _ _ => by omega, hy⟩
theorem Ins.step {f : Nat → α} {a i j : Nat} (h : Ins c ix f a i (j + 1)) (ha : a < j + 1) (hc : c (f (j + 1)) (f j) < 0) : Ins c ix (swp f (j + 1) j) a i j := by
  have e1 : swp f (j + 1) j (j + 1) = f j := by unfold swp; rw [if_pos rfl]
  have e2 : swp f (j + 1) j j = f (j + 1) := by unfold swp; rw [if_neg (by omega), if_pos rfl]
  have e3 : ∀ k, k ≠ j → k ≠ j + 1 → swp f (j + 1) j k = f k := fun k h1 h2 => by unfold swp; rw [if_neg h2, if_neg h1]
  refine ⟨by omega, by have := h.ji; omega, ?_, ?_, ?_, ?_, ?_⟩
  · exact (h.lo.sub (Nat.le_refl _) (by omega)).congr fun k _ _ => e3 k (by omega) (by omega)
  · intro p q h1 h2 h3
    rw [e3 q (by omega) (by omega)]
    by_cases ep : p = j + 1
    · subst ep; rw [e1]; exact h.cross j q (by omega) (by omega) (by omega) (by omega)
    · rw [e3 p (by omega) ep]; exact h.hi p q (by omega) h2 h3
  · intro p q h1 h2 h3 h4
    rw [e3 p (by omega) (by omega)]
    by_cases eq : q = j + 1
    · subst eq; rw [e1]; exact h.lo p j h1 h2 (by omega)
    · rw [e3 q (by omega) eq]; exact h.cross p q h1 (by omega) (by omega) h4
  · intro q h1 h2
    rw [e2]
    by_cases eq : q = j + 1
    · subst eq; rw [e1]; exact .inl hc
    · rw [e3 q (by omega) eq]; exact h.up q (by omega) h2
  · intro p h1 h2
    rw [e2, e3 p (by omega) (by omega)]; exact h.young p h1 (by omega)
theorem Ins.done (hp : Pre c) {f : Nat → α} {a i j : Nat} (h : Ins c ix f a i j) (hd : j = a ∨ ∃ k, j = k + 1 ∧ ¬ c (f j) (f k) < 0) : Ord c ix f a (i + 1) := by
  have hlo : ∀ p, a ≤ p → p < j → Lt c ix (f p) (f j) := by
    intro p h1 h2
    rcases hd with rfl | ⟨k, rfl, hk⟩
    · omega
    · refine Lt.of_le ?_ (h.young p h1 h2)
      have h3 := (hp.nonneg _ _).1 hk
      rcases Nat.lt_or_ge p k with q | q
      · exact hp.trans _ _ _ (h.lo p k h1 q (by omega)).le h3
      · obtain rfl : p = k := by omega
        exact h3
  refine Ord.join (m := j) h.lo ?_ ?_
  · refine Ord.join (m := j + 1) (Ord.one (by omega)) h.hi ?_
    intro p q h1 h2 h3 h4
    obtain rfl : p = j := by omega
    exact h.up q (by omega) (by omega)
  · intro p q h1 h2 h3 h4
    by_cases e : q = j
    · subst e; exact hlo p h1 h2
    · exact h.cross p q h1 h2 (by omega) (by omega)
end Srt
end Go.Proofs.Ytgooffpmiilicaa
