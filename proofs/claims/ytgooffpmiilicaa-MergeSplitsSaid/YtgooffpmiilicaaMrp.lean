/-
  PLAIN: what Merge returns ('mergeE', 'mergeR'), and its steps. Conditions: each theorem states its own.
-/
import Derived.Test.YtgooffpmiilicaaHfn
import Derived.Test.YtgooffpmiilicaaRsp
set_option linter.unusedVariables false
set_option linter.unusedSimpArgs false
namespace Go.Proofs.Ytgooffpmiilicaa
open Go.RowKit Srt
def longB (Ls : List (List Rc)) : Bool := Ls.any fun l => decide (1024 < l.length)
def sortB (cs : List Col) (key : Int) (Ls : List (List Rc)) : Bool := Ls.all (sortedF cs key)
def mergeE (cs : List Col) (key : Int) (Ls : List (List Rc)) : Int := if ¬ schemaF cs key = 0 then schemaF cs key else if 16 < Ls.length then 7 else if longB Ls = true then 7 else if sortB cs key Ls = true then 0 else 1
def mergeR (cs : List Col) (key : Int) (Ls : List (List Rc)) : List Rc := if mergeE cs key Ls = 0 then srt (recD (tyK cs key) key) Ls.flatten else []
def MrgPost (w : World) (cs : List Col) (key : Int) (Ls : List (List Rc)) (e : Ending) (w' : World) : Prop :=
  ∃ v, e = .returned (.tuple #[v, .int .i64 (mergeE cs key Ls)]) ∧ RecsAt w' w'.heap.size v (mergeR cs key Ls) ∧ Below w.heap.size w w'
theorem mergeE_schema {cs : List Col} {key : Int} {Ls : List (List Rc)} (h : ¬ schemaF cs key = 0) : mergeE cs key Ls = schemaF cs key ∧ mergeR cs key Ls = [] := by
  have e : mergeE cs key Ls = schemaF cs key := by unfold mergeE; rw [if_pos h]
  exact ⟨e, by unfold mergeR; rw [e, if_neg h]⟩
theorem mergeE_many {cs : List Col} {key : Int} {Ls : List (List Rc)} (h : schemaF cs key = 0) (h1 : 16 < Ls.length) : mergeE cs key Ls = 7 ∧ mergeR cs key Ls = [] := by
  have e : mergeE cs key Ls = 7 := by unfold mergeE; rw [if_neg (by simp [h]), if_pos h1]
  exact ⟨e, by unfold mergeR; rw [e, if_neg (by decide)]⟩
theorem mergeE_long {cs : List Col} {key : Int} {Ls : List (List Rc)} (h : schemaF cs key = 0) (h1 : ¬ 16 < Ls.length) (h2 : longB Ls = true) : mergeE cs key Ls = 7 ∧ mergeR cs key Ls = [] := by
  have e : mergeE cs key Ls = 7 := by unfold mergeE; rw [if_neg (by simp [h]), if_neg h1, if_pos h2]
  exact ⟨e, by unfold mergeR; rw [e, if_neg (by decide)]⟩
theorem mergeE_arg {cs : List Col} {key : Int} {Ls : List (List Rc)} (h : schemaF cs key = 0) (h1 : ¬ 16 < Ls.length) (h2 : longB Ls = false) (h3 : sortB cs key Ls = false) : mergeE cs key Ls = 1 ∧ mergeR cs key Ls = [] := by
  have e : mergeE cs key Ls = 1 := by unfold mergeE; rw [if_neg (by simp [h]), if_neg h1, if_neg (by simp [h2]), if_neg (by simp [h3])]
  exact ⟨e, by unfold mergeR; rw [e, if_neg (by decide)]⟩
theorem mergeE_ok {cs : List Col} {key : Int} {Ls : List (List Rc)} (h : schemaF cs key = 0) (h1 : ¬ 16 < Ls.length) (h2 : longB Ls = false) (h3 : sortB cs key Ls = true) : mergeE cs key Ls = 0 ∧ mergeR cs key Ls = srt (recD (tyK cs key) key) Ls.flatten := by
  have e : mergeE cs key Ls = 0 := by unfold mergeE; rw [if_neg (by simp [h]), if_neg h1, if_neg (by simp [h2]), if_pos h3]
  exact ⟨e, by unfold mergeR; rw [e, if_pos rfl]⟩
theorem any_drop {α : Type} (p : α → Bool) {l : List α} {k : Nat} (h : k < l.length) : (l.drop k).any p = (p (l[k]'h) || (l.drop (k + 1)).any p) := by
  rw [List.drop_eq_getElem_cons h, List.any_cons]
theorem all_drop {α : Type} (p : α → Bool) {l : List α} {k : Nat} (h : k < l.length) : (l.drop k).all p = (p (l[k]'h) && (l.drop (k + 1)).all p) := by
  rw [List.drop_eq_getElem_cons h, List.all_cons]
theorem ascF_pair {d : Rc → Rc → Int} (hp : Pre d) : ∀ {l : List Rc}, ascF d l = true → l.Pairwise (fun x y => d x y < 0)
  | [], _ => .nil
  | [x], _ => by simp
  | x :: y :: r, h => by
    unfold ascF at h
    rw [Bool.and_eq_true] at h
    have h0 : d x y < 0 := by simpa using h.1
    have ih := ascF_pair hp h.2
    refine List.pairwise_cons.2 ⟨fun z hz => ?_, ih⟩
    rcases List.mem_cons.1 hz with rfl | hz
    · exact h0
    · exact hp.lt_le h0 (Int.le_of_lt ((List.pairwise_cons.1 ih).1 z hz))
theorem sorted_pair {cs : List Col} {key : Int} {rs : List Rc} (h : sortedF cs key rs = true) : rs.Pairwise (fun x y => recD (tyK cs key) key x y < 0) := by
  unfold sortedF at h
  rw [Bool.and_eq_true] at h
  exact ascF_pair (recD_pre _ _) h.2
theorem sorted_valid {cs : List Col} {key : Int} {rs : List Rc} (h : sortedF cs key rs = true) : validF cs key rs = true := by
  unfold sortedF at h
  rw [Bool.and_eq_true] at h
  exact h.1
theorem valid_flat {cs : List Col} {key : Int} {Ls : List (List Rc)} (hs : schemaF cs key = 0) (h : ∀ l ∈ Ls, validF cs key l = true) : validF cs key Ls.flatten = true := by
  unfold validF
  rw [hs]
  simp only [beq_self_eq_true, Bool.true_and, Bool.not_eq_true', List.any_eq_false]
  intro r hr
  obtain ⟨l, hl, hrl⟩ := List.mem_flatten.1 hr
  have := h l hl
  unfold validF at this
  rw [Bool.and_eq_true] at this
  have h2 : l.any (badR cs) = false := by simpa using this.2
  exact List.any_eq_false.1 h2 r hrl
theorem flat_len_le {α : Type} {m : Nat} : ∀ {Ls : List (List α)}, (∀ l ∈ Ls, l.length ≤ m) → Ls.flatten.length ≤ Ls.length * m
  | [], _ => by simp
  | l :: Ls, h => by
    have ih := flat_len_le (Ls := Ls) fun l hl => h l (by simp [hl])
    have := h l (by simp)
    rw [List.flatten_cons, List.length_append, List.length_cons, Nat.succ_mul]
    omega
theorem HpD.congr {α : Type} {lt : α → α → Bool} {f g : Nat → α} {n : Nat} (h : HpD lt f n 0) (e : ∀ k, k < n → g k = f k) : HpD lt g n 0 :=
  ⟨fun k h0 hk hp => by rw [e k hk, e _ (by omega)]; exact h.1 k h0 hk hp, fun k h0 => absurd h0 (by omega)⟩
theorem HL.congr {α β : Type} {hd : α → β} {tl : α → List β} {num : α → Nat} {f g : Nat → α} {n : Nat} {Ls : List (List β)} (h : HL hd tl num f n Ls) (e : ∀ k, k < n → g k = f k) : HL hd tl num g n Ls := by
  refine ⟨fun k hk => by rw [e k hk]; exact h.here k hk, fun i x l hi => ?_, fun a b ha hb he => ?_⟩
  · obtain ⟨k, hk, q⟩ := h.all i x l hi
    exact ⟨k, hk, by rw [e k hk]; exact q⟩
  · rw [e a ha, e b hb] at he; exact h.inj a b ha hb he
theorem swp_upd0 {α : Type} (f : Nat → α) (x : α) {m : Nat} : ∀ k, k < m → swp (upd f 0 x) 0 m k = swp f 0 m k := by
  intro k hk
  unfold swp
  by_cases e : k = 0
  · subst e; rw [if_pos rfl, if_pos rfl]; exact upd_o f x (by omega)
  · rw [if_neg e, if_neg e, if_neg (by omega), if_neg (by omega)]; exact upd_o f x e
theorem hd_set1 : ∀ (l : List Hd) (i : Nat) (h : i < l.length) (v : Value) (rs : List Rc), (l.flatMap hdC).set (i * 2) v = (l.set i ⟨v, rs, (l[i]'h).num⟩).flatMap hdC
  | [], i, h, v, rs => absurd h (by simp)
  | y :: l, 0, h, v, rs => by simp [hdC]
  | y :: l, i + 1, h, v, rs => by
    have e1 : (i + 1) * 2 = i * 2 + 1 + 1 := by omega
    rw [e1, List.flatMap_cons, List.set_cons_succ, List.flatMap_cons]
    have := hd_set1 l i (by simpa using h) v rs
    simp only [List.getElem_cons_succ]
    rw [← this]
    simp [hdC]
/-- The first head's list has lost a record. -/
theorem HpM.put1 {w : World} {A B0 hb : Nat} {cv : Value} {cs : List Col} {K : Nat} {f : Nat → Hd} {n g cap : Nat} (h : HpM w A B0 hb cv cs K (.slice (some ⟨g, 0, none⟩) n cap) f n) (h0 : 0 < n) (v : Value) (rs : List Rc) (hx : RecsAt w A v rs) :
    HpM (w.setCell ⟨g, 0, none⟩ v) A B0 hb cv cs K (.slice (some ⟨g, 0, none⟩) n cap) (upd f 0 ⟨v, rs, (f 0).num⟩) n ∧ Mv (fun k => k = g) w (w.setCell ⟨g, 0, none⟩ v) := by
  have hg := h.ne g rfl
  obtain ⟨o1, _⟩ := World.ownsRow.stored h.own 0 v
  have hl : 0 < (toL f n).length := by rw [toL_len]; exact h0
  have e1 := hd_set1 (toL f n) 0 hl v rs
  rw [Nat.zero_mul] at e1
  rw [e1, toL_get, toL_upd] at o1
  have hB := (h.own.lt g rfl).1
  have hgA : A ≤ g := Nat.le_trans h.ab hB
  have b : Below A w (w.setCell ⟨g, 0, none⟩ v) := (Below.refl A w).setCell (p := ⟨g, 0, none⟩) hgA _
  have oth : ∀ q, (w.setCell ⟨g, 0, none⟩ v).cell? ⟨hb, q, none⟩ = w.cell? ⟨hb, q, none⟩ := fun q => by
    rw [World.cell?_setCell_other (h := by intro e; simp only [Addr.mk.injEq] at e; omega)]
  refine ⟨⟨o1, (oth 0).trans h.s0, (oth 1).trans h.s1, (oth 2).trans h.s2, by simpa using h.lt, h.lo, h.ab, h.ne, fun q => by rw [World.frozen?_setCell]; exact h.fr q, h.cols.mono b (Nat.le_refl _), h.key, fun k hk => ?_⟩,
    (Mv.refl (fun k => k = g) w).st (p := ⟨g, 0, none⟩) (.inl rfl) _⟩
  by_cases e : k = 0
  · subst e; rw [upd_s]; exact hx.mono b (Nat.le_refl _)
  · rw [upd_o f _ e]; exact (h.recs k hk).mono b (Nat.le_refl _)
/-- A list without its first record. -/
theorem recs_tail {w : World} {B b o n c : Nat} {r : Rc} {rs : List Rc} (h : RecsAt w B (.slice (some ⟨b, o, none⟩) n c) (r :: rs)) : RecsAt w B (sliced (some ⟨b, o, none⟩) 1 n c 2) rs := by
  have h63 := h.1
  rw [List.length_cons] at h63
  refine ⟨by omega, ?_⟩
  rcases h.2 with ⟨e, _⟩ | ⟨b', o', c', hv, hc, hb, hr⟩
  · simp at e
  injection hv with h1 h2 h3
  injection h1 with h1
  injection h1 with h1 h4 h5
  subst h1 h3 h4
  rw [List.length_cons] at h2 hc
  unfold sliced
  cases rs with
  | nil => exact .inl ⟨rfl, _, _, by rw [h2]; rfl⟩
  | cons r2 rs =>
    have ne : ¬ c = 1 := by simp at hc; omega
    rw [if_neg ne]
    refine .inr ⟨b, o + 2, c - 1, by rw [h2]; simp [Addr.add], by simp at hc ⊢; omega, hb, fun j hj => ?_⟩
    have := hr (j + 1) (by simp at hj ⊢; omega)
    simp only [List.getElem_cons_succ] at this
    rw [show o + 2 + j * 2 = o + (j + 1) * 2 by omega]
    exact this
theorem Mv.belowB {B : Nat} {a w w' : World} (h : Mv (fun k => B ≤ k) w w') (ha : Below B a w) (hB : B ≤ w.heap.size) : Below B a w' :=
  ha.trans ⟨h.os, h.tape, h.output, h.size, fun i hi => h.block i (by omega) (fun q => by omega)⟩
end Go.Proofs.Ytgooffpmiilicaa
