/-
  CHAPTER 26: Ss1, Ss2, Orr, Ss3 (several texts in one). Conditions: each theorem states its own.
-/
import Derived.Test.YtpahoenanfjhpaaGreatZb
set_option linter.unusedVariables false
set_option linter.unusedSimpArgs false
namespace Go.Proofs.YtpahoenanfjhpaaGreat
namespace Srt
variable {α : Type}

/-- f with the places i and j exchanged. -/
def swp (f : Nat → α) (i j : Nat) : Nat → α := fun k => if k = i then f j else if k = j then f i else f k

/-- f' comes from f by exchanges of places from a on, ahead of b. -/
inductive Sw (a b : Nat) : (Nat → α) → (Nat → α) → Prop where
  | refl (f) : Sw a b f f
  | step {f g} (i j : Nat) : Sw a b f g → a ≤ i → i < b → a ≤ j → j < b → Sw a b f (swp g i j)

theorem Sw.trans {a b : Nat} {f g h : Nat → α} (p : Sw a b f g) (q : Sw a b g h) : Sw a b f h := by
  induction q with
  | refl => exact p
  | step i j _ h1 h2 h3 h4 ih => exact .step i j ih h1 h2 h3 h4
theorem Sw.mono {a b a' b' : Nat} {f g : Nat → α} (p : Sw a b f g) (ha : a' ≤ a) (hb : b ≤ b') : Sw a' b' f g := by
  induction p with
  | refl => exact .refl _
  | step i j _ h1 h2 h3 h4 ih => exact .step i j ih (by omega) (by omega) (by omega) (by omega)
theorem Sw.out {a b : Nat} {f g : Nat → α} (p : Sw a b f g) {k : Nat} (hk : k < a ∨ b ≤ k) : g k = f k := by
  induction p with
  | refl => rfl
  | step i j _ h1 h2 h3 h4 ih => unfold swp; rw [if_neg (by omega), if_neg (by omega)]; exact ih
theorem Sw.all {a b : Nat} {f g : Nat → α} (p : Sw a b f g) {Q : α → Prop} (h : ∀ k, a ≤ k → k < b → Q (f k)) : ∀ k, a ≤ k → k < b → Q (g k) := by
  induction p with
  | refl => exact h
  | step i j _ h1 h2 h3 h4 ih =>
    intro k k1 k2
    unfold swp
    by_cases e : k = i
    · rw [if_pos e]; exact ih j h3 h4
    · rw [if_neg e]
      by_cases e' : k = j
      · rw [if_pos e']; exact ih i h1 h2
      · rw [if_neg e']; exact ih k k1 k2
def toL (f : Nat → α) (n : Nat) : List α := (List.range n).map f
theorem toL_len (f : Nat → α) (n : Nat) : (toL f n).length = n := by simp [toL]
theorem toL_get (f : Nat → α) {n i : Nat} (h : i < (toL f n).length) : (toL f n)[i]'h = f i := by simp [toL]
theorem toL_swp (f : Nat → α) {n i j : Nat} (hi : i < n) (hj : j < n) : (toL (swp f i j) n).Perm (toL f n) := by
  have e : toL (swp f i j) n = ((toL f n).toArray.swap i j (by simpa [toL_len] using hi) (by simpa [toL_len] using hj)).toList := by
    apply List.ext_getElem
    · simp [toL_len]
    intro k h1 h2
    rw [toL_get]
    simp only [Array.getElem_toList, Array.getElem_swap, List.getElem_toArray, toL_get]
    unfold swp
    rfl
  rw [e]
  have := (Array.swap_perm (xs := (toL f n).toArray) (i := i) (j := j) (by simpa [toL_len] using hi) (by simpa [toL_len] using hj))
  exact this.toList
theorem Sw.perm {a b n : Nat} {f g : Nat → α} (p : Sw a b f g) (hb : b ≤ n) : (toL g n).Perm (toL f n) := by
  induction p with
  | refl => exact .refl _
  | step i j _ h1 h2 h3 h4 ih => exact (toL_swp _ (by omega) (by omega)).trans ih

/-- k places from a on exchanged with those from b on. -/
def swr (f : Nat → α) (a b k : Nat) : Nat → α := fun x => if a ≤ x ∧ x < a + k then f (b + (x - a)) else if b ≤ x ∧ x < b + k then f (a + (x - b)) else f x
theorem swr_zero (f : Nat → α) (a b : Nat) : swr f a b 0 = f := by
  funext x; unfold swr; rw [if_neg (by omega), if_neg (by omega)]
theorem swr_succ (f : Nat → α) {a b k : Nat} (h : a + k < b) : swr f a b (k + 1) = swp (swr f a b k) (a + k) (b + k) := by
  funext x
  unfold swp swr
  by_cases e1 : x = a + k
  · subst e1
    rw [if_pos (by omega), if_pos rfl, if_neg (by omega), if_neg (by omega)]; congr 1; omega
  by_cases e2 : x = b + k
  · subst e2
    rw [if_neg (by omega), if_pos (by omega), if_neg (by omega), if_pos rfl, if_neg (by omega), if_neg (by omega)]; congr 1; omega
  rw [if_neg e1, if_neg e2]
  by_cases c1 : a ≤ x ∧ x < a + k
  · rw [if_pos (by omega), if_pos c1]
  · rw [if_neg (by omega), if_neg c1]
    by_cases c2 : b ≤ x ∧ x < b + k
    · rw [if_pos (by omega), if_pos c2]
    · rw [if_neg (by omega), if_neg c2]
theorem swr_sw (f : Nat → α) {a b lo hi : Nat} : ∀ k, a + k ≤ b → lo ≤ a → b + k ≤ hi → Sw lo hi f (swr f a b k)
  | 0, _, _, _ => by rw [swr_zero]; exact .refl _
  | k + 1, h, h1, h2 => by rw [swr_succ f (by omega)]; exact .step _ _ (swr_sw f k (by omega) h1 (by omega)) (by omega) (by omega) (by omega) (by omega)

/-- The places from a on, ahead of b, with those from m on first. -/
def rot (f : Nat → α) (a m b : Nat) : Nat → α := fun k => if a ≤ k ∧ k < a + (b - m) then f (m + (k - a)) else if a + (b - m) ≤ k ∧ k < b then f (a + (k - (a + (b - m)))) else f k
theorem rot_nil_l (f : Nat → α) (m b : Nat) (h : m ≤ b) : rot f m m b = f := by
  funext x; unfold rot
  by_cases c : m ≤ x ∧ x < m + (b - m)
  · rw [if_pos c]; congr 1; omega
  · rw [if_neg c, if_neg (by omega)]
theorem rot_nil_r (f : Nat → α) (a m : Nat) (h : a ≤ m) : rot f a m m = f := by
  funext x; unfold rot
  rw [if_neg (by omega)]
  by_cases c : a + (m - m) ≤ x ∧ x < m
  · rw [if_pos c]; congr 1; omega
  · rw [if_neg c]
/-- Equal halves. -/
theorem rot_eq (f : Nat → α) (m i : Nat) (h : i ≤ m) : rot f (m - i) m (m + i) = swr f (m - i) m i := by
  funext x; unfold rot swr
  by_cases c1 : m - i ≤ x ∧ x < m
  · rw [if_pos (by omega), if_pos (by omega)]
  by_cases c2 : m ≤ x ∧ x < m + i
  · rw [if_neg (by omega), if_pos (by omega), if_neg (by omega), if_pos (by omega)]; congr 1; omega
  · rw [if_neg (by omega), if_neg (by omega), if_neg (by omega), if_neg (by omega)]
theorem rot_gt (f : Nat → α) (m i j : Nat) (hi : i ≤ m) (h : j < i) : rot (swr f (m - i) m j) (m - (i - j)) m (m + j) = rot f (m - i) m (m + j) := by
  funext x; unfold rot swr
  by_cases c1 : m - i ≤ x ∧ x < m - i + j
  · rw [if_neg (by omega), if_neg (by omega), if_pos (by omega), if_pos (by omega)]
  by_cases c2 : m - i + j ≤ x ∧ x < m - i + j + j
  · rw [if_pos (by omega), if_neg (by omega), if_pos (by omega), if_neg (by omega), if_pos (by omega)]; congr 1; omega
  by_cases c3 : m - i + j + j ≤ x ∧ x < m + j
  · rw [if_neg (by omega), if_pos (by omega), if_neg (by omega), if_neg (by omega), if_neg (by omega), if_pos (by omega)]; congr 1; omega
  · rw [if_neg (by omega), if_neg (by omega), if_neg (by omega), if_neg (by omega), if_neg (by omega), if_neg (by omega)]
theorem rot_lt (f : Nat → α) (m i j : Nat) (hi : i ≤ m) (h : i < j) : rot (swr f (m - i) (m + j - i) i) (m - i) m (m + (j - i)) = rot f (m - i) m (m + j) := by
  funext x; unfold rot swr
  by_cases c1 : m - i ≤ x ∧ x < m - i + (j - i)
  · rw [if_pos (by omega)]
    by_cases c : m + (x - (m - i)) < m + j - i
    · rw [if_neg (by omega), if_neg (by omega), if_pos (by omega)]
    · omega
  by_cases c2 : m - i + (j - i) ≤ x ∧ x < m + j - i
  · rw [if_neg (by omega), if_pos (by omega), if_pos (by omega), if_pos (by omega)]; congr 1; omega
  by_cases c3 : m + j - i ≤ x ∧ x < m + j
  · rw [if_neg (by omega), if_neg (by omega), if_neg (by omega), if_pos (by omega), if_neg (by omega), if_pos (by omega)]; congr 1; omega
  · rw [if_neg (by omega), if_neg (by omega), if_neg (by omega), if_neg (by omega), if_neg (by omega), if_neg (by omega)]

/-- c is a total preorder, told by a sign. -/
structure Pre (c : α → α → Int) : Prop where
  anti : ∀ x y, c x y < 0 ↔ 0 < c y x
  trans : ∀ x y z, c x y ≤ 0 → c y z ≤ 0 → c x z ≤ 0
/-- x stands ahead of y: by c, then by place. -/
def Lt (c : α → α → Int) (ix : α → Nat) (x y : α) : Prop := c x y < 0 ∨ (c x y = 0 ∧ ix x < ix y)
variable {c : α → α → Int} {ix : α → Nat}
theorem Pre.nonneg (h : Pre c) (x y : α) : ¬ c x y < 0 ↔ c y x ≤ 0 := by have := h.anti x y; omega
theorem Pre.lt_le (h : Pre c) {x y z : α} (p : c x y < 0) (q : c y z ≤ 0) : c x z < 0 := by
  rcases Int.lt_or_le (c x z) 0 with r | r
  · exact r
  · exfalso
    have r' : c z x ≤ 0 := by have := h.anti x z; have := h.anti z x; omega
    have := h.trans y z x q r'
    have := h.anti x y; omega
theorem Pre.le_lt (h : Pre c) {x y z : α} (p : c x y ≤ 0) (q : c y z < 0) : c x z < 0 := by
  rcases Int.lt_or_le (c x z) 0 with r | r
  · exact r
  · exfalso
    have r' : c z x ≤ 0 := by have := h.anti x z; have := h.anti z x; omega
    have := h.trans z x y r' p
    have := h.anti y z; omega
theorem Lt.le {x y : α} (p : Lt c ix x y) : c x y ≤ 0 := by rcases p with p | ⟨p, _⟩ <;> omega
theorem Lt.of_le {x y : α} (p : c x y ≤ 0) (q : ix x < ix y) : Lt c ix x y := by
  rcases Int.lt_or_le (c x y) 0 with r | r
  · exact .inl r
  · exact .inr ⟨by omega, q⟩
theorem Lt.asymm (h : Pre c) {x y : α} (p : Lt c ix x y) (q : Lt c ix y x) : False := by
  have h1 := h.anti x y
  have h2 := h.anti y x
  rcases p with p | ⟨p, p'⟩ <;> rcases q with q | ⟨q, q'⟩ <;> omega

/-- In order from a on, ahead of b. -/
def Ord (c : α → α → Int) (ix : α → Nat) (f : Nat → α) (a b : Nat) : Prop := ∀ i j, a ≤ i → i < j → j < b → Lt c ix (f i) (f j)
theorem Ord.sub {f : Nat → α} {a b a' b' : Nat} (h : Ord c ix f a b) (h1 : a ≤ a') (h2 : b' ≤ b) : Ord c ix f a' b' := fun i j p q r => h i j (by omega) q (by omega)
theorem Ord.congr {f g : Nat → α} {a b : Nat} (h : Ord c ix f a b) (e : ∀ k, a ≤ k → k < b → g k = f k) : Ord c ix g a b := fun i j p q r => by rw [e i p (by omega), e j (by omega) r]; exact h i j p q r
theorem Ord.one {f : Nat → α} {a b : Nat} (h : b ≤ a + 1) : Ord c ix f a b := fun i j p q r => by omega
/-- Two parts in order, the first ahead of the second. -/
theorem Ord.join {f : Nat → α} {a m b : Nat} (h1 : Ord c ix f a m) (h2 : Ord c ix f m b) (hx : ∀ i j, a ≤ i → i < m → m ≤ j → j < b → Lt c ix (f i) (f j)) : Ord c ix f a b := by
  intro i j p q r
  rcases Nat.lt_or_ge j m with k | k
  · exact h1 i j p q k
  · rcases Nat.lt_or_ge i m with k' | k'
    · exact hx i j p k' k r
    · exact h2 i j k' q r

/-- Inner state of the insertion of place i into the places from a on: place j holds the new one; all others are in order among themselves. -/
structure Ins (c : α → α → Int) (ix : α → Nat) (f : Nat → α) (a i j : Nat) : Prop where
  aj : a ≤ j
  ji : j ≤ i
  lo : Ord c ix f a j
  hi : Ord c ix f (j + 1) (i + 1)
  cross : ∀ p q, a ≤ p → p < j → j < q → q ≤ i → Lt c ix (f p) (f q)
  up : ∀ q, j < q → q ≤ i → Lt c ix (f j) (f q)
  young : ∀ p, a ≤ p → p < j → ix (f p) < ix (f j)
theorem Ins.start {f : Nat → α} {a i : Nat} (ha : a ≤ i) (h : Ord c ix f a i) (hy : ∀ p, a ≤ p → p < i → ix (f p) < ix (f i)) : Ins c ix f a i i :=
  ⟨ha, Nat.le_refl _, h, Ord.one (by omega), fun p q _ _ _ _ => by omega, fun q _ _ => by omega, hy⟩
theorem Ins.step {f : Nat → α} {a i j : Nat} (h : Ins c ix f a i (j + 1)) (ha : a < j + 1) (hc : c (f (j + 1)) (f j) < 0) : Ins c ix (swp f (j + 1) j) a i j := by
  have e1 : swp f (j + 1) j (j + 1) = f j := by unfold swp; rw [if_pos rfl]
  have e2 : swp f (j + 1) j j = f (j + 1) := by unfold swp; rw [if_neg (by omega), if_pos rfl]
  have e3 : ∀ k, k ≠ j → k ≠ j + 1 → swp f (j + 1) j k = f k := fun k h1 h2 => by unfold swp; rw [if_neg h2, if_neg h1]
  refine ⟨by omega, by have := h.ji; omega, ?_, ?_, ?_, ?_, ?_⟩
  · exact (h.lo.sub (Nat.le_refl _) (by omega)).congr fun k _ _ => e3 k (by omega) (by omega)
  · intro p q h1 h2 h3
    rw [e3 q (by omega) (by omega)]
    by_cases ep : p = j + 1
    · subst ep; rw [e1]; exact h.cross j q (by omega) (by omega) (by omega) (by omega)
    · rw [e3 p (by omega) ep]; exact h.hi p q (by omega) h2 h3
  · intro p q h1 h2 h3 h4
    rw [e3 p (by omega) (by omega)]
    by_cases eq : q = j + 1
    · subst eq; rw [e1]; exact h.lo p j h1 h2 (by omega)
    · rw [e3 q (by omega) eq]; exact h.cross p q h1 (by omega) (by omega) h4
  · intro q h1 h2
    rw [e2]
    by_cases eq : q = j + 1
    · subst eq; rw [e1]; exact .inl hc
    · rw [e3 q (by omega) eq]; exact h.up q (by omega) h2
  · intro p h1 h2
    rw [e2, e3 p (by omega) (by omega)]; exact h.young p h1 (by omega)
theorem Ins.done (hp : Pre c) {f : Nat → α} {a i j : Nat} (h : Ins c ix f a i j) (hd : j = a ∨ ∃ k, j = k + 1 ∧ ¬ c (f j) (f k) < 0) : Ord c ix f a (i + 1) := by
  have hlo : ∀ p, a ≤ p → p < j → Lt c ix (f p) (f j) := by
    intro p h1 h2
    rcases hd with rfl | ⟨k, rfl, hk⟩
    · omega
    · refine Lt.of_le ?_ (h.young p h1 h2)
      have h3 := (hp.nonneg _ _).1 hk
      rcases Nat.lt_or_ge p k with q | q
      · exact hp.trans _ _ _ (h.lo p k h1 q (by omega)).le h3
      · obtain rfl : p = k := by omega
        exact h3
  refine Ord.join (m := j) h.lo ?_ ?_
  · refine Ord.join (m := j + 1) (Ord.one (by omega)) h.hi ?_
    intro p q h1 h2 h3 h4
    obtain rfl : p = j := by omega
    exact h.up q (by omega) (by omega)
  · intro p q h1 h2 h3 h4
    by_cases e : q = j
    · subst e; exact hlo p h1 h2
    · exact h.cross p q h1 h2 (by omega) (by omega)
end Srt
end Go.Proofs.YtpahoenanfjhpaaGreat
namespace Go.Proofs.YtpahoenanfjhpaaGreat
namespace Srt
variable {α : Type} {c : α → α → Int} {ix : α → Nat}

/-- What a symmetric merge wants. -/
structure Mg (c : α → α → Int) (ix : α → Nat) (f : Nat → α) (a m b : Nat) : Prop where
  l : Ord c ix f a m
  r : Ord c ix f m b
  x : ∀ i j, a ≤ i → i < m → m ≤ j → j < b → ix (f i) < ix (f j)

/-- One element on the left: its place is ahead of i. -/
theorem Mg.left1 (hp : Pre c) {f g : Nat → α} {a b i : Nat} (h : Mg c ix f a (a + 1) b) (hi1 : a + 1 ≤ i) (hi2 : i ≤ b) (hlt : ∀ k, a + 1 ≤ k → k < i → c (f k) (f a) < 0) (hge : i < b → ¬ c (f i) (f a) < 0)
    (e1 : ∀ k, a ≤ k → k < i - 1 → g k = f (k + 1)) (e2 : g (i - 1) = f a) (e3 : ∀ k, i ≤ k → k < b → g k = f k) : Ord c ix g a b := by
  have hR : ∀ q, i ≤ q → q < b → Lt c ix (f a) (f q) := by
    intro q h1 h2
    have h3 := (hp.nonneg _ _).1 (hge (by omega))
    refine Lt.of_le ?_ (h.x a q (Nat.le_refl _) (by omega) (by omega) h2)
    by_cases e : q = i
    · subst e; exact h3
    · exact hp.trans _ _ _ h3 (h.r i q (by omega) (by omega) h2).le
  intro p q h1 h2 h3
  by_cases p1 : p < i - 1
  · rw [e1 p h1 p1]
    by_cases q1 : q < i - 1
    · rw [e1 q (by omega) q1]; exact h.r (p + 1) (q + 1) (by omega) (by omega) (by omega)
    · by_cases q2 : q = i - 1
      · subst q2; rw [e2]; exact .inl (hlt (p + 1) (by omega) (by omega))
      · rw [e3 q (by omega) h3]; exact h.r (p + 1) q (by omega) (by omega) h3
  · by_cases p2 : p = i - 1
    · subst p2; rw [e2, e3 q (by omega) h3]; exact hR q (by omega) h3
    · rw [e3 p (by omega) (by omega), e3 q (by omega) h3]; exact h.r p q (by omega) h2 h3
/-- One element on the right: its place is i. -/
theorem Mg.right1 (hp : Pre c) {f g : Nat → α} {a m i : Nat} (h : Mg c ix f a m (m + 1)) (hi1 : a ≤ i) (hi2 : i ≤ m) (hle : ∀ k, a ≤ k → k < i → ¬ c (f m) (f k) < 0) (hgt : i < m → c (f m) (f i) < 0)
    (e1 : ∀ k, a ≤ k → k < i → g k = f k) (e2 : g i = f m) (e3 : ∀ k, i < k → k < m + 1 → g k = f (k - 1)) : Ord c ix g a (m + 1) := by
  have hR : ∀ q, i ≤ q → q < m → Lt c ix (f m) (f q) := by
    intro q h1 h2
    have h3 := hgt (by omega)
    by_cases e : q = i
    · subst e; exact .inl h3
    · exact .inl (hp.lt_le h3 (h.l i q (by omega) (by omega) h2).le)
  have hL : ∀ p, a ≤ p → p < i → Lt c ix (f p) (f m) := fun p h1 h2 =>
    Lt.of_le ((hp.nonneg _ _).1 (hle p h1 h2)) (h.x p m h1 (by omega) (Nat.le_refl _) (by omega))
  intro p q h1 h2 h3
  by_cases p1 : p < i
  · rw [e1 p h1 p1]
    by_cases q1 : q < i
    · rw [e1 q (by omega) q1]; exact h.l p q h1 h2 (by omega)
    · by_cases q2 : q = i
      · subst q2; rw [e2]; exact hL p h1 p1
      · rw [e3 q (by omega) h3]; exact h.l p (q - 1) h1 (by omega) (by omega)
  · by_cases p2 : p = i
    · subst p2; rw [e2, e3 q (by omega) h3]; exact hR (q - 1) (by omega) (by omega)
    · rw [e3 p (by omega) (by omega), e3 q (by omega) h3]; exact h.l (p - 1) (q - 1) (by omega) (by omega) (by omega)

/-- The cut that the search finds: s places of the left and t of the right come first; behind the rotation each half is a merge of its own, and the first half is ahead of the second. -/
structure Cut (c : α → α → Int) (f : Nat → α) (a m b s e : Nat) : Prop where
  as' : a ≤ s
  sm : s ≤ m
  me : m ≤ e
  eb : e ≤ b
  lo : a < s → e < b → ¬ c (f e) (f (s - 1)) < 0
  hi : s < m → m < e → c (f (e - 1)) (f s) < 0
theorem Cut.ahead (hp : Pre c) {f : Nat → α} {a m b s e : Nat} (h : Mg c ix f a m b) (k : Cut c f a m b s e) :
    ∀ i j, (a ≤ i ∧ i < s ∨ m ≤ i ∧ i < e) → (s ≤ j ∧ j < m ∨ e ≤ j ∧ j < b) → Lt c ix (f i) (f j) := by
  obtain ⟨k1, k2, k3, k4, k5, k6⟩ := k
  intro i j hi hj
  rcases hi with ⟨i1, i2⟩ | ⟨i1, i2⟩ <;> rcases hj with ⟨j1, j2⟩ | ⟨j1, j2⟩
  · exact h.l i j i1 (by omega) j2
  · refine Lt.of_le ?_ (h.x i j i1 (by omega) (by omega) j2)
    have h3 := (hp.nonneg _ _).1 (k5 (by omega) (by omega))
    have h4 : c (f i) (f e) ≤ 0 := by
      by_cases q : i = s - 1
      · subst q; exact h3
      · exact hp.trans _ _ _ (h.l i (s - 1) i1 (by omega) (by omega)).le h3
    by_cases q : j = e
    · subst q; exact h4
    · exact hp.trans _ _ _ h4 (h.r e j (by omega) (by omega) j2).le
  · refine .inl ?_
    have h3 := k6 (by omega) (by omega)
    have h4 : c (f i) (f s) < 0 := by
      by_cases q : i = e - 1
      · subst q; exact h3
      · exact hp.le_lt (h.r i (e - 1) i1 (by omega) (by omega)).le h3
    by_cases q : j = s
    · subst q; exact h4
    · exact hp.lt_le h4 (h.l s j (by omega) (by omega) j2).le
  · exact h.r i j i1 (by omega) j2
/-- Behind the rotation. -/
theorem Cut.rot (hp : Pre c) {f : Nat → α} {a m b s e d : Nat} (h : Mg c ix f a m b) (k : Cut c f a m b s e) (hd : d = s + (e - m)) :
    Mg c ix (rot f s m e) a s d ∧ Mg c ix (rot f s m e) d e b ∧ ∀ i j, a ≤ i → i < d → d ≤ j → j < b → Lt c ix (rot f s m e i) (rot f s m e j) := by
  have ah := k.ahead hp h
  obtain ⟨k1, k2, k3, k4, _, _⟩ := k
  have g1 : ∀ x, x < s → Srt.rot f s m e x = f x := fun x hx => by unfold Srt.rot; rw [if_neg (by omega), if_neg (by omega)]
  have g2 : ∀ x, s ≤ x → x < d → Srt.rot f s m e x = f (m + (x - s)) := fun x h1 h2 => by unfold Srt.rot; rw [if_pos (by omega)]
  have g3 : ∀ x, d ≤ x → x < e → Srt.rot f s m e x = f (s + (x - d)) := fun x h1 h2 => by unfold Srt.rot; rw [if_neg (by omega), if_pos (by omega), ← hd]
  have g4 : ∀ x, e ≤ x → Srt.rot f s m e x = f x := fun x hx => by unfold Srt.rot; rw [if_neg (by omega), if_neg (by omega)]
  refine ⟨⟨?_, ?_, ?_⟩, ⟨?_, ?_, ?_⟩, ?_⟩
  · intro i j p q r; rw [g1 i (by omega), g1 j r]; exact h.l i j p q (by omega)
  · intro i j p q r; rw [g2 i p (by omega), g2 j (by omega) r]; exact h.r _ _ (by omega) (by omega) (by omega)
  · intro i j p q r t; rw [g1 i q, g2 j r t]; exact h.x _ _ p (by omega) (by omega) (by omega)
  · intro i j p q r; rw [g3 i p (by omega), g3 j (by omega) r]; exact h.l _ _ (by omega) (by omega) (by omega)
  · intro i j p q r; rw [g4 i p, g4 j (by omega)]; exact h.r _ _ (by omega) q r
  · intro i j p q r t; rw [g3 i p q, g4 j r]; exact h.x _ _ (by omega) (by omega) (by omega) t
  · intro i j p q r t
    have hi : ∃ i', Srt.rot f s m e i = f i' ∧ (a ≤ i' ∧ i' < s ∨ m ≤ i' ∧ i' < e) := by
      rcases Nat.lt_or_ge i s with u | u
      · exact ⟨i, g1 i u, .inl ⟨p, u⟩⟩
      · exact ⟨_, g2 i u q, .inr ⟨by omega, by omega⟩⟩
    have hj : ∃ j', Srt.rot f s m e j = f j' ∧ (s ≤ j' ∧ j' < m ∨ e ≤ j' ∧ j' < b) := by
      rcases Nat.lt_or_ge j e with u | u
      · exact ⟨_, g3 j r u, .inl ⟨by omega, by omega⟩⟩
      · exact ⟨j, g4 j u, .inr ⟨u, t⟩⟩
    obtain ⟨i', ei, hi⟩ := hi
    obtain ⟨j', ej, hj⟩ := hj
    rw [ei, ej]
    exact ah i' j' hi hj
/-- The two halves in order: the whole is. -/
theorem halves {f g k : Nat → α} {a d b : Nat} (h : ∀ i j, a ≤ i → i < d → d ≤ j → j < b → Lt c ix (f i) (f j)) (p : Sw a d f g) (q : Sw d b g k) (hg : Ord c ix g a d) (hk : Ord c ix k d b) (_hab : a ≤ d) : Ord c ix k a b := by
  refine Ord.join (m := d) (hg.congr fun x _ h2 => q.out (.inl h2)) hk ?_
  intro i j h1 h2 h3 h4
  rw [q.out (.inl h2)]
  have e : ∀ y, d ≤ y → y < b → ∀ x, a ≤ x → x < d → Lt c ix (g x) (f y) := fun y y1 y2 => p.all (Q := fun u => Lt c ix u (f y)) fun x x1 x2 => h x y x1 x2 y1 y2
  refine q.all (Q := fun u => Lt c ix (g i) u) (fun y y1 y2 => ?_) j h3 h4
  rw [p.out (.inr y1)]
  exact e y y1 y2 i h1 h2

/-- Between s and r the search goes on; p is the sum of the two places that are held against one another. -/
structure Sea (c : α → α → Int) (f : Nat → α) (s0 r0 p s r : Nat) : Prop where
  lo : s0 ≤ s
  sr : s ≤ r
  hi : r ≤ r0
  no : s0 < s → ¬ c (f (p - (s - 1))) (f (s - 1)) < 0
  yes : r < r0 → c (f (p - r)) (f r) < 0
theorem Sea.start {f : Nat → α} {s0 r0 p : Nat} (h : s0 ≤ r0) : Sea c f s0 r0 p s0 r0 := ⟨Nat.le_refl _, h, Nat.le_refl _, fun k => by omega, fun k => by omega⟩
theorem Sea.up {f : Nat → α} {s0 r0 p s r k : Nat} (h : Sea c f s0 r0 p s r) (h1 : s ≤ k) (h2 : k < r) (hc : ¬ c (f (p - k)) (f k) < 0) : Sea c f s0 r0 p (k + 1) r :=
  ⟨by have := h.lo; omega, by omega, h.hi, fun _ => hc, h.yes⟩
theorem Sea.down {f : Nat → α} {s0 r0 p s r k : Nat} (h : Sea c f s0 r0 p s r) (h1 : s ≤ k) (h2 : k < r) (hc : c (f (p - k)) (f k) < 0) : Sea c f s0 r0 p s k :=
  ⟨h.lo, h1, by have := h.hi; omega, h.no, fun _ => hc⟩
theorem Sea.cut_hi {f : Nat → α} {a m b mid s n : Nat} (hm : mid = (a + b) / 2) (hn : n = mid + m) (h1 : mid < m) (ham : a < m) (hmb : m < b) (h : Sea c f (n - b) mid (n - 1) s s) : Cut c f a m b s (n - s) := by
  obtain ⟨k1, _, k2, k3, k4⟩ := h
  refine ⟨by omega, by omega, by omega, by omega, fun p q => ?_, fun p q => ?_⟩
  · have := k3 (by omega); rwa [show n - 1 - (s - 1) = n - s by omega] at this
  · have := k4 (by omega); rwa [show n - 1 - s = n - s - 1 by omega] at this
theorem Sea.cut_lo {f : Nat → α} {a m b mid s n : Nat} (hm : mid = (a + b) / 2) (hn : n = mid + m) (h1 : ¬ mid < m) (ham : a < m) (hmb : m < b) (h : Sea c f a m (n - 1) s s) : Cut c f a m b s (n - s) := by
  obtain ⟨k1, _, k2, k3, k4⟩ := h
  refine ⟨by omega, by omega, by omega, by omega, fun p q => ?_, fun p q => ?_⟩
  · have := k3 (by omega); rwa [show n - 1 - (s - 1) = n - s by omega] at this
  · have := k4 (by omega); rwa [show n - 1 - s = n - s - 1 by omega] at this

/-- A block in order, its elements those that stood there at the start. -/
def Blk (c : α → α → Int) (ix : α → Nat) (f : Nat → α) (a b : Nat) : Prop := Ord c ix f a b ∧ ∀ k, a ≤ k → k < b → a ≤ ix (f k) ∧ ix (f k) < b
theorem Blk.congr {f g : Nat → α} {a b : Nat} (h : Blk c ix f a b) (e : ∀ k, a ≤ k → k < b → g k = f k) : Blk c ix g a b := ⟨h.1.congr e, fun k p q => by rw [e k p q]; exact h.2 k p q⟩
theorem Blk.mg {f : Nat → α} {a m b : Nat} (h1 : Blk c ix f a m) (h2 : Blk c ix f m b) : Mg c ix f a m b := ⟨h1.1, h2.1, fun i j p q r t => by have := (h1.2 i p q).2; have := (h2.2 j r t).1; omega⟩
theorem Blk.merged {f g : Nat → α} {a m b : Nat} (h1 : Blk c ix f a m) (h2 : Blk c ix f m b) (ham : a ≤ m) (hmb : m ≤ b) (p : Sw a b f g) (hg : Ord c ix g a b) : Blk c ix g a b :=
  ⟨hg, p.all (Q := fun x => a ≤ ix x ∧ ix x < b) fun k k1 k2 => by
    rcases Nat.lt_or_ge k m with q | q
    · have := h1.2 k k1 q; omega
    · have := h2.2 k q k2; omega⟩
/-- Full blocks of B up to a. -/
inductive Pfx (c : α → α → Int) (ix : α → Nat) (f : Nat → α) (B : Nat) : Nat → Prop where
  | zero : Pfx c ix f B 0
  | snoc {a} : Pfx c ix f B a → Blk c ix f a (a + B) → Pfx c ix f B (a + B)
/-- Blocks of B from a on, the last one may be short. -/
inductive Sfx (c : α → α → Int) (ix : α → Nat) (f : Nat → α) (B n : Nat) : Nat → Prop where
  | last {a} : a ≤ n → n < a + B → Blk c ix f a n → Sfx c ix f B n a
  | cons {a} : a + B ≤ n → Blk c ix f a (a + B) → Sfx c ix f B n (a + B) → Sfx c ix f B n a
theorem Pfx.congr {f g : Nat → α} {B a : Nat} (h : Pfx c ix f B a) (e : ∀ k, k < a → g k = f k) : Pfx c ix g B a := by
  induction h with
  | zero => exact .zero
  | snoc _ hb ih => exact .snoc (ih fun k hk => e k (by omega)) (hb.congr fun k _ k2 => e k k2)
theorem Sfx.congr {f g : Nat → α} {B n a : Nat} (h : Sfx c ix f B n a) (e : ∀ k, a ≤ k → k < n → g k = f k) : Sfx c ix g B n a := by
  induction h with
  | last h1 h2 hb => exact .last h1 h2 (hb.congr e)
  | cons h1 hb _ ih => exact .cons h1 (hb.congr fun k k1 k2 => e k k1 (by omega)) (ih fun k k1 k2 => e k (by omega) k2)
theorem Sfx.le {f : Nat → α} {B n a : Nat} (h : Sfx c ix f B n a) : a ≤ n := by cases h <;> omega
theorem Pfx.sfx {f : Nat → α} {B n a : Nat} (h : Pfx c ix f B a) (t : Sfx c ix f B n a) : Sfx c ix f B n 0 := by
  induction h with
  | zero => exact t
  | snoc _ hb ih => exact ih (.cons t.le hb t)
theorem Sfx.whole {f : Nat → α} {B n : Nat} (h : Sfx c ix f B n 0) (hB : n ≤ B) : Ord c ix f 0 n := by
  cases h with
  | last _ _ hb => exact hb.1
  | cons h1 hb _ => exact hb.1.sub (Nat.le_refl _) (by omega)
/-- The next pair of blocks. -/
theorem Sfx.two {f : Nat → α} {B n a : Nat} (h : Sfx c ix f B n a) (hb : a + 2 * B ≤ n) (h0 : 0 < B) : Blk c ix f a (a + B) ∧ Blk c ix f (a + B) (a + 2 * B) ∧ Sfx c ix f B n (a + 2 * B) := by
  cases h with
  | last h1 h2 _ => omega
  | cons h1 k1 t =>
    cases t with
    | last h3 h4 _ => omega
    | cons h3 k2 t' => rw [show a + B + B = a + 2 * B by omega] at k2 t'; exact ⟨k1, k2, t'⟩
/-- The last pair: a full one and a short one. -/
theorem Sfx.short {f : Nat → α} {B n a : Nat} (h : Sfx c ix f B n a) (hb : n < a + 2 * B) (hm : a + B < n) : Blk c ix f a (a + B) ∧ Blk c ix f (a + B) n := by
  cases h with
  | last h1 h2 _ => omega
  | cons h1 k1 t =>
    cases t with
    | last h3 h4 k2 => exact ⟨k1, k2⟩
    | cons h3 k2 t' => omega
theorem Sfx.single {f : Nat → α} {B n a : Nat} (h : Sfx c ix f B n a) (hb : ¬ a + B < n) : Blk c ix f a n := by
  cases h with
  | last h1 h2 k => exact k
  | cons h1 k1 t =>
    have : a + B = n := by omega
    rw [← this]; exact k1

theorem pairwise_unique {R : α → α → Prop} (asym : ∀ x y, R x y → R y x → False) : ∀ {l m : List α}, l.Pairwise R → m.Pairwise R → l.Perm m → l = m
  | [], m, _, _, p => by have := p.length_eq; cases m with | nil => rfl | cons => simp at this
  | x :: l, [], _, _, p => by have := p.length_eq; simp at this
  | x :: l, y :: m, hl, hm, p => by
    have hx : x ∈ y :: m := p.subset (by simp)
    have hy : y ∈ x :: l := p.symm.subset (by simp)
    have e : x = y := by
      rcases List.mem_cons.1 hx with e | hx
      · exact e
      · rcases List.mem_cons.1 hy with e | hy
        · exact e.symm
        · exact (asym x y ((List.pairwise_cons.1 hl).1 y hy) ((List.pairwise_cons.1 hm).1 x hx)).elim
    subst e
    rw [pairwise_unique asym (List.pairwise_cons.1 hl).2 (List.pairwise_cons.1 hm).2 (List.Perm.cons_inv p)]
theorem Ord.pairwise {f : Nat → α} {n : Nat} (h : Ord c ix f 0 n) : (toL f n).Pairwise (Lt c ix) := by
  rw [List.pairwise_iff_getElem]
  intro i j hi hj hij
  rw [toL_get, toL_get]
  exact h i j (Nat.zero_le _) hij (by simpa [toL_len] using hj)
variable {β : Type}
/-- x put in behind all that are not greater, from the right. -/
def insR (d : β → β → Int) (x : β) : List β → List β
  | [] => [x]
  | y :: r => if d x y < 0 then y :: insR d x r else x :: y :: r
/-- The list in order (the accumulated list is the reverse of what is in order). -/
def srtR (d : β → β → Int) (l : List β) : List β := l.foldl (fun acc x => insR d x acc) []
def srt (d : β → β → Int) (l : List β) : List β := (srtR d l).reverse
theorem insR_perm (d : β → β → Int) (x : β) : ∀ l, (insR d x l).Perm (x :: l)
  | [] => .refl _
  | y :: r => by
    unfold insR
    split
    · exact ((insR_perm d x r).cons y).trans (.swap _ _ _)
    · exact .refl _
theorem srtR_perm (d : β → β → Int) (l : List β) : (srtR d l).Perm l := by
  suffices h : ∀ (l acc : List β), (l.foldl (fun acc x => insR d x acc) acc).Perm (acc ++ l) from by have := h l []; rw [List.nil_append] at this; exact this
  intro l
  induction l with
  | nil => intro acc; simp
  | cons x r ih =>
    intro acc
    refine (ih _).trans ?_
    refine ((insR_perm d x acc).append_right r).trans ?_
    simpa using (List.perm_middle (a := x) (l₁ := acc) (l₂ := r)).symm
theorem srt_perm (d : β → β → Int) (l : List β) : (srt d l).Perm l := (List.reverse_perm _).trans (srtR_perm d l)
theorem srt_len (d : β → β → Int) (l : List β) : (srt d l).length = l.length := (srt_perm d l).length_eq
theorem insR_map {γ : Type} (g : γ → β) (d : β → β → Int) (x : γ) : ∀ l : List γ, (insR (fun a b => d (g a) (g b)) x l).map g = insR d (g x) (l.map g)
  | [] => rfl
  | y :: r => by
    unfold insR
    simp only [List.map_cons]
    split
    · rw [List.map_cons, insR_map g d x r]
    · rfl
theorem srt_map {γ : Type} (g : γ → β) (d : β → β → Int) (l : List γ) : (srt (fun a b => d (g a) (g b)) l).map g = srt d (l.map g) := by
  unfold srt
  rw [List.map_reverse]
  congr 1
  unfold srtR
  suffices h : ∀ (l : List γ) (acc : List γ), (l.foldl (fun acc x => insR (fun a b => d (g a) (g b)) x acc) acc).map g = (l.map g).foldl (fun acc x => insR d x acc) (acc.map g) from h l []
  intro l
  induction l with
  | nil => intro acc; rfl
  | cons x r ih => intro acc; rw [List.foldl_cons, ih, insR_map, List.map_cons, List.foldl_cons]
theorem insR_ord (hp : Pre c) (x : α) : ∀ l : List α, l.Pairwise (fun a b => Lt c ix b a) → (∀ y ∈ l, ix y < ix x) → (insR c x l).Pairwise (fun a b => Lt c ix b a)
  | [], _, _ => by simp [insR]
  | y :: r, h, hy => by
    have h1 := (List.pairwise_cons.1 h)
    unfold insR
    split
    · rename_i hc
      refine List.pairwise_cons.2 ⟨fun z hz => ?_, insR_ord hp x r h1.2 fun z hz => hy z (by simp [hz])⟩
      rcases List.mem_cons.1 ((insR_perm c x r).subset hz) with e | hz
      · subst e; exact .inl hc
      · exact h1.1 z hz
    · rename_i hc
      refine List.pairwise_cons.2 ⟨fun z hz => ?_, h⟩
      have h3 := (hp.nonneg _ _).1 hc
      rcases List.mem_cons.1 hz with e | hz'
      · subst e; exact Lt.of_le h3 (hy z (by simp))
      · exact Lt.of_le (hp.trans _ _ _ (h1.1 z hz').le h3) (hy z hz)
theorem srtR_ord (hp : Pre c) (l : List α) (hl : l.Pairwise (fun a b => ix a < ix b)) : (srtR c l).Pairwise (fun a b => Lt c ix b a) := by
  suffices h : ∀ (l acc : List α), l.Pairwise (fun a b => ix a < ix b) → acc.Pairwise (fun a b => Lt c ix b a) → (∀ y ∈ acc, ∀ x ∈ l, ix y < ix x) → (l.foldl (fun acc x => insR c x acc) acc).Pairwise (fun a b => Lt c ix b a) from
    h l [] hl .nil (fun y hy => by simp at hy)
  intro l
  induction l with
  | nil => intro acc _ h _; exact h
  | cons x r ih =>
    intro acc hl h hx
    have h1 := List.pairwise_cons.1 hl
    refine ih _ h1.2 (insR_ord hp x acc h fun y hy => hx y hy x (by simp)) fun y hy z hz => ?_
    rcases List.mem_cons.1 ((insR_perm c x acc).subset hy) with e | hy
    · subst e; exact h1.1 z hz
    · exact hx y hy z (by simp [hz])
theorem srt_ord (hp : Pre c) (l : List α) (hl : l.Pairwise (fun a b => ix a < ix b)) : (srt c l).Pairwise (Lt c ix) := List.pairwise_reverse.2 (srtR_ord hp l hl)

end Srt
end Go.Proofs.YtpahoenanfjhpaaGreat
namespace Go.Proofs.YtpahoenanfjhpaaGreat
open Go.RowKit Srt
theorem notLess_trans {a b c : List UInt8} (h1 : Op.bytesLess b a = false) (h2 : Op.bytesLess c b = false) : Op.bytesLess c a = false := by
  cases h : Op.bytesLess c a with
  | false => rfl
  | true =>
    rcases bytesLess_total a b with h3 | h3 | h3
    · rw [bytesLess_trans _ _ _ h h3] at h2; exact absurd h2 (by decide)
    · rw [h3] at h; rw [h] at h2; exact absurd h2 (by decide)
    · rw [h3] at h1; exact absurd h1 (by decide)
theorem cmpI_le (a b : Int) : cmpI a b ≤ 0 ↔ a ≤ b := by
  unfold cmpI; split
  · constructor <;> intro _ <;> omega
  · split <;> constructor <;> intro _ <;> omega
theorem cmpS_le (a b : ByteArray) : cmpS a b ≤ 0 ↔ Op.bytesLess b.toList a.toList = false := by
  unfold cmpS
  rcases bytesLess_total a.toList b.toList with h | h | h
  · rw [if_pos h]; exact ⟨fun _ => bytesLess_asymm _ _ h, fun _ => by decide⟩
  · rw [h, if_neg (by rw [bytesLess_irrefl]; decide), if_pos rfl]; exact ⟨fun _ => bytesLess_irrefl _, fun _ => by decide⟩
  · have h2 := bytesLess_asymm _ _ h
    rw [if_neg (by rw [h2]; decide), if_neg (by intro e; rw [e, bytesLess_irrefl] at h; exact absurd h (by decide)), h]
    exact ⟨fun k => absurd k (by decide), fun k => absurd k (by decide)⟩
/-- x comes before y or equals it -/
def leV (t : Int) (x y : Val) : Prop := x.null = true ∨ (x.null = false ∧ y.null = false ∧ if t = 3 then Op.bytesLess y.s.toList x.s.toList = false else x.n ≤ y.n)
theorem cmpV_le (t : Int) (x y : Val) : cmpV t x y ≤ 0 ↔ leV t x y := by
  obtain ⟨xn, x, xs⟩ := x
  obtain ⟨yn, y, ys⟩ := y
  unfold cmpV leV
  cases xn <;> cases yn <;> simp
  split
  · exact cmpS_le _ _
  · exact cmpI_le _ _
theorem leV_trans {t : Int} {x y z : Val} (h1 : leV t x y) (h2 : leV t y z) : leV t x z := by
  unfold leV at *
  rcases h1 with h1 | ⟨a1, a2, a3⟩
  · exact .inl h1
  · rcases h2 with h2 | ⟨b1, b2, b3⟩
    · rw [a2] at h2; cases h2
    · refine .inr ⟨a1, b2, ?_⟩
      by_cases ht : t = 3
      · rw [if_pos ht] at *; exact notLess_trans a3 b3
      · rw [if_neg ht] at *; omega
theorem cmpI_neg (a b : Int) : cmpI b a = - cmpI a b := by
  unfold cmpI
  rcases Int.lt_trichotomy a b with h | h | h
  · rw [if_neg (by omega), if_neg (by omega), if_pos h]; rfl
  · subst h; rw [if_neg (by omega), if_pos rfl]; rfl
  · rw [if_pos h, if_neg (by omega), if_neg (by omega)]
theorem cmpS_neg (a b : ByteArray) : cmpS b a = - cmpS a b := by
  unfold cmpS
  rcases bytesLess_total a.toList b.toList with h | h | h
  · have h2 := bytesLess_asymm _ _ h
    rw [if_pos h, if_neg (by rw [h2]; decide), if_neg (by intro e; rw [e, bytesLess_irrefl] at h; exact absurd h (by decide))]; rfl
  · rw [h, if_neg (by rw [bytesLess_irrefl]; decide), if_pos rfl]; rfl
  · have h2 := bytesLess_asymm _ _ h
    rw [if_pos h, if_neg (by rw [h2]; decide), if_neg (by intro e; rw [e, bytesLess_irrefl] at h; exact absurd h (by decide))]
theorem cmpV_neg (t : Int) (x y : Val) : cmpV t y x = - cmpV t x y := by
  obtain ⟨xn, x, xs⟩ := x
  obtain ⟨yn, y, ys⟩ := y
  unfold cmpV
  cases xn <;> cases yn <;> simp
  split
  · exact cmpS_neg _ _
  · exact cmpI_neg _ _
theorem cmpV_trans {t : Int} {x y z : Val} (h1 : cmpV t x y ≤ 0) (h2 : cmpV t y z ≤ 0) : cmpV t x z ≤ 0 := by
  rw [cmpV_le] at *; exact leV_trans h1 h2
end Go.Proofs.YtpahoenanfjhpaaGreat
namespace Go.Proofs.YtpahoenanfjhpaaGreat
namespace Srt
variable {α : Type}
/-- The element at a carried up to k. -/
def upF (f : Nat → α) (a k : Nat) : Nat → α := fun x => if a ≤ x ∧ x < k then f (x + 1) else if x = k then f a else f x
theorem upF_zero (f : Nat → α) (a : Nat) : upF f a a = f := by
  funext x; unfold upF
  rw [if_neg (by omega)]
  by_cases h : x = a
  · rw [if_pos h, h]
  · rw [if_neg h]
theorem upF_succ (f : Nat → α) {a k : Nat} (h : a ≤ k) : upF f a (k + 1) = swp (upF f a k) k (k + 1) := by
  funext x; unfold swp upF
  by_cases e1 : x = k
  · subst e1; rw [if_pos (by omega), if_pos rfl, if_neg (by omega), if_neg (by omega)]
  by_cases e2 : x = k + 1
  · subst e2; rw [if_neg (by omega), if_pos rfl, if_neg (by omega), if_pos rfl, if_neg (by omega), if_pos rfl]
  rw [if_neg e1, if_neg e2]
  by_cases c1 : a ≤ x ∧ x < k
  · rw [if_pos (by omega), if_neg e2, if_pos c1]
  · rw [if_neg (by omega), if_neg e2, if_neg c1, if_neg e1]
theorem upF_sw (f : Nat → α) {a b : Nat} : ∀ d, a + d < b → Sw a b f (upF f a (a + d))
  | 0, _ => by rw [Nat.add_zero, upF_zero]; exact .refl _
  | d + 1, h => by rw [← Nat.add_assoc, upF_succ f (by omega)]; exact .step _ _ (upF_sw f d (by omega)) (by omega) (by omega) (by omega) (by omega)
/-- The element at m carried down to i. -/
def dnF (f : Nat → α) (m i : Nat) : Nat → α := fun x => if x = i then f m else if i < x ∧ x ≤ m then f (x - 1) else f x
theorem dnF_zero (f : Nat → α) (m : Nat) : dnF f m m = f := by
  funext x; unfold dnF
  by_cases h : x = m
  · rw [if_pos h, h]
  · rw [if_neg h, if_neg (by omega)]
theorem dnF_succ (f : Nat → α) {m i : Nat} (h : i + 1 ≤ m) : dnF f m i = swp (dnF f m (i + 1)) (i + 1) i := by
  funext x; unfold swp dnF
  by_cases e1 : x = i + 1
  · subst e1; rw [if_neg (by omega), if_pos (by omega), if_pos rfl, if_neg (by omega), if_neg (by omega)]; congr 1
  by_cases e2 : x = i
  · subst e2; rw [if_pos rfl, if_neg (by omega), if_pos rfl, if_pos rfl]
  rw [if_neg e2, if_neg e1, if_neg e2, if_neg e1]
  by_cases c1 : i + 1 < x ∧ x ≤ m
  · rw [if_pos (by omega), if_pos c1]
  · rw [if_neg (by omega), if_neg c1]
theorem dnF_sw (f : Nat → α) {a m : Nat} : ∀ d, a + d ≤ m → Sw a (m + 1) f (dnF f m (m - d))
  | 0, _ => by rw [Nat.sub_zero, dnF_zero]; exact .refl _
  | d + 1, h => by
    rw [dnF_succ f (show m - (d + 1) + 1 ≤ m by omega), show m - (d + 1) + 1 = m - d by omega]
    exact .step _ _ (dnF_sw f d (by omega)) (by omega) (by omega) (by omega) (by omega)
end Srt
end Go.Proofs.YtpahoenanfjhpaaGreat
