/-
  CHAPTER 26: Val, Src, Keep, Nam, Int (several texts in one). Conditions: each theorem states its own.
-/
import Derived.Test.YtpahoenanfjhpaaRows
import Derived.Test.YtpahoenanfjhpaaZa
import Derived.Lib.Hide
import Derived.Deep.DeepCutAuto
import Derived.Deep.CutBlock
import Derived.Deep.LoopGhost
import Derived.Deep.CutRange
set_option linter.unusedVariables false
set_option linter.unusedSimpArgs false
namespace Go.Proofs.Ytpahoenanfjhpaa
open Go.RowKit

/-- a value of a column -/
structure Val where
  null : Bool
  n : Int
  s : ByteArray
def Val.zero : Val := ⟨false, 0, ByteArray.empty⟩
/-- the order of two integers, of two strings, of two values: -1, 0, 1 -/
def cmpI (a b : Int) : Int := if a < b then -1 else if a = b then 0 else 1
def cmpS (a b : ByteArray) : Int := if Op.bytesLess a.toList b.toList = true then -1 else if a.toList = b.toList then 0 else 1
def cmpV (t : Int) (x y : Val) : Int := if x.null = true then (if y.null = true then 0 else -1) else if y.null = true then 1 else if t = 3 then cmpS x.s y.s else cmpI x.n y.n

theorem bytesLess_irrefl : ∀ (x : List UInt8), Op.bytesLess x x = false
  | [] => rfl
  | a :: x => by simp [Op.bytesLess, bytesLess_irrefl x]
theorem bytesLess_asymm : ∀ (x y : List UInt8), Op.bytesLess x y = true → Op.bytesLess y x = false
  | [], [], _ => rfl
  | [], _ :: _, _ => rfl
  | _ :: _, [], h => by simp [Op.bytesLess] at h
  | a :: x, b :: y, h => by
    simp only [Op.bytesLess, Bool.or_eq_true, decide_eq_true_eq, Bool.and_eq_true, beq_iff_eq, Bool.or_eq_false_iff, decide_eq_false_iff_not, Bool.and_eq_false_iff] at h ⊢
    rcases h with h | ⟨rfl, h⟩
    · refine ⟨UInt8.not_lt.2 (UInt8.le_of_lt h), .inl ?_⟩
      simp; intro e; subst e; exact UInt8.lt_irrefl _ h
    · exact ⟨UInt8.lt_irrefl _, .inr (bytesLess_asymm x y h)⟩
theorem bytesLess_total : ∀ (x y : List UInt8), Op.bytesLess x y = true ∨ x = y ∨ Op.bytesLess y x = true
  | [], [] => .inr (.inl rfl)
  | [], _ :: _ => .inl rfl
  | _ :: _, [] => .inr (.inr rfl)
  | a :: x, b :: y => by
    simp only [Op.bytesLess, Bool.or_eq_true, decide_eq_true_eq, Bool.and_eq_true, beq_iff_eq, List.cons.injEq]
    rcases UInt8.lt_or_lt_of_ne (a := a) (b := b) with h
    by_cases e : a = b
    · subst e
      rcases bytesLess_total x y with h1 | h1 | h1
      · exact .inl (.inr ⟨rfl, h1⟩)
      · exact .inr (.inl ⟨rfl, h1⟩)
      · exact .inr (.inr (.inr ⟨rfl, h1⟩))
    · rcases h e with h1 | h1
      · exact .inl (.inl h1)
      · exact .inr (.inr (.inl h1))
theorem bytesLess_trans : ∀ (x y z : List UInt8), Op.bytesLess x y = true → Op.bytesLess y z = true → Op.bytesLess x z = true
  | [], _, [], _, h => by cases ‹List UInt8› <;> simp [Op.bytesLess] at h
  | [], _, _ :: _, _, _ => rfl
  | _ :: _, [], _, h, _ => by simp [Op.bytesLess] at h
  | _ :: _, _ :: _, [], _, h => by simp [Op.bytesLess] at h
  | a :: x, b :: y, c :: z, h1, h2 => by
    simp only [Op.bytesLess, Bool.or_eq_true, decide_eq_true_eq, Bool.and_eq_true, beq_iff_eq] at h1 h2 ⊢
    rcases h1 with h1 | ⟨rfl, h1⟩
    · rcases h2 with h2 | ⟨rfl, h2⟩
      · exact .inl (UInt8.lt_trans h1 h2)
      · exact .inl h1
    · rcases h2 with h2 | ⟨rfl, h2⟩
      · exact .inl h2
      · exact .inr ⟨rfl, bytesLess_trans x y z h1 h2⟩

theorem toList_inj {a b : ByteArray} (h : a.toList = b.toList) : a = b := by
  rw [ByteArray.toList_eq, ByteArray.toList_eq] at h
  obtain ⟨⟨x⟩⟩ := a
  obtain ⟨⟨y⟩⟩ := b
  simp at h
  rw [h]

/-! ### cmp.Compare -/
set_option maxHeartbeats 400000 in
theorem cmpI_any (a b : Int) (w : World) : Calls Try.prog 85 #[.int .i64 a, .int .i64 b] w fun e w' => e = .returned (.int .i64 (cmpI a b)) ∧ w = w' := by
  rcases Int.lt_trichotomy a b with h | h | h
  · have e : cmpI a b = -1 := if_pos h
    rw [e]
    go_enter Try.func85, Try.ntmps85
    go_wp2
    go_ret
    exact ⟨rfl, rfl⟩
  · subst h
    have e : cmpI a a = 0 := by simp [cmpI]
    rw [e]
    go_enter Try.func85, Try.ntmps85
    go_wp2
    go_ret
    exact ⟨rfl, rfl⟩
  · have e : cmpI a b = 1 := by unfold cmpI; rw [if_neg (by omega), if_neg (by omega)]
    rw [e]
    go_enter Try.func85, Try.ntmps85
    go_wp2
    go_ret
    exact ⟨rfl, rfl⟩
set_option maxHeartbeats 400000 in
theorem cmpS_any (a b : ByteArray) (w : World) : Calls Try.prog 84 #[.string a, .string b] w fun e w' => e = .returned (.int .i64 (cmpS a b)) ∧ w = w' := by
  cases h1 : Op.bytesLess a.toList b.toList with
  | true =>
    have e : cmpS a b = -1 := if_pos h1
    rw [e]
    go_enter Try.func84, Try.ntmps84
    go_wp2
    go_ret
    exact ⟨rfl, rfl⟩
  | false =>
    cases h2 : a.toList == b.toList with
    | true =>
      have e : cmpS a b = 0 := by unfold cmpS; rw [if_neg (by rw [h1]; decide), if_pos (by simpa using h2)]
      rw [e]
      go_enter Try.func84, Try.ntmps84
      go_wp2
      go_ret
      exact ⟨rfl, rfl⟩
    | false =>
      have e : cmpS a b = 1 := by unfold cmpS; rw [if_neg (by rw [h1]; decide), if_neg (by simpa using h2)]
      rw [e]
      go_enter Try.func84, Try.ntmps84
      go_wp2
      go_ret
      exact ⟨rfl, rfl⟩

/-! ### value.Compare, ref6.Compare -/

set_option maxHeartbeats 800000 in
theorem compare_any (t : Int) (an : Bool) (a : Int) (sa : ByteArray) (bn : Bool) (b : Int) (sb : ByteArray) (w : World) : Calls Try.prog 63 #[.int .i64 t, .agg #[.bool an, .int .i64 a, .string sa], .agg #[.bool bn, .int .i64 b, .string sb]] w fun e w' => e = .returned (.int .i64 (cmpV t ⟨an, a, sa⟩ ⟨bn, b, sb⟩)) ∧ Below w.heap.size w w' := by
  cases an
  · cases bn
    · by_cases ht : t = 3
      · subst ht
        have e : cmpV 3 ⟨false, a, sa⟩ ⟨false, b, sb⟩ = cmpS sa sb := rfl
        rw [e]
        go_enter Try.func63, Try.ntmps63
        go_wp2_with (first | (go_at_call 84; refine (cmpS_any _ _ _).mono ?_; rintro e w1 ⟨rfl, rfl⟩) | (go_at_call 85; refine (cmpI_any _ _ _).mono ?_; rintro e w1 ⟨rfl, rfl⟩))
        go_ret
        exact ⟨rfl, by repeat (first | exact Below.refl _ _ | apply Below.al | apply Below.on | (refine Below.st ?_ (by first | assumption | (simp; done) | (simp; omega)) _) | apply Below.drew)⟩
      · have e : cmpV t ⟨false, a, sa⟩ ⟨false, b, sb⟩ = cmpI a b := if_neg ht
        rw [e]
        have ht2 : (t == 3) = false := by simpa using ht
        clear ht
        go_enter Try.func63, Try.ntmps63
        go_wp2_with (first | (go_at_call 84; refine (cmpS_any _ _ _).mono ?_; rintro e w1 ⟨rfl, rfl⟩) | (go_at_call 85; refine (cmpI_any _ _ _).mono ?_; rintro e w1 ⟨rfl, rfl⟩))
        go_ret
        exact ⟨rfl, by repeat (first | exact Below.refl _ _ | apply Below.al | apply Below.on | (refine Below.st ?_ (by first | assumption | (simp; done) | (simp; omega)) _) | apply Below.drew)⟩
    · have e : cmpV t ⟨false, a, sa⟩ ⟨true, b, sb⟩ = 1 := rfl
      rw [e]
      go_enter Try.func63, Try.ntmps63
      go_wp2_with (first | (go_at_call 84; refine (cmpS_any _ _ _).mono ?_; rintro e w1 ⟨rfl, rfl⟩) | (go_at_call 85; refine (cmpI_any _ _ _).mono ?_; rintro e w1 ⟨rfl, rfl⟩))
      go_ret
      exact ⟨rfl, by repeat (first | exact Below.refl _ _ | apply Below.al | apply Below.on | (refine Below.st ?_ (by first | assumption | (simp; done) | (simp; omega)) _) | apply Below.drew)⟩
  · cases bn
    · have e : cmpV t ⟨true, a, sa⟩ ⟨false, b, sb⟩ = -1 := rfl
      rw [e]
      go_enter Try.func63, Try.ntmps63
      go_wp2_with (first | (go_at_call 84; refine (cmpS_any _ _ _).mono ?_; rintro e w1 ⟨rfl, rfl⟩) | (go_at_call 85; refine (cmpI_any _ _ _).mono ?_; rintro e w1 ⟨rfl, rfl⟩))
      go_ret
      exact ⟨rfl, by repeat (first | exact Below.refl _ _ | apply Below.al | apply Below.on | (refine Below.st ?_ (by first | assumption | (simp; done) | (simp; omega)) _) | apply Below.drew)⟩
    · have e : cmpV t ⟨true, a, sa⟩ ⟨true, b, sb⟩ = 0 := rfl
      rw [e]
      go_enter Try.func63, Try.ntmps63
      go_wp2_with (first | (go_at_call 84; refine (cmpS_any _ _ _).mono ?_; rintro e w1 ⟨rfl, rfl⟩) | (go_at_call 85; refine (cmpI_any _ _ _).mono ?_; rintro e w1 ⟨rfl, rfl⟩))
      go_ret
      exact ⟨rfl, by repeat (first | exact Below.refl _ _ | apply Below.al | apply Below.on | (refine Below.st ?_ (by first | assumption | (simp; done) | (simp; omega)) _) | apply Below.drew)⟩

def ordB (l q : Bool) : Int := if l = true then -1 else if q = true then 0 else 1
set_option maxHeartbeats 400000 in
theorem order_any (l q : Bool) (w : World) : Calls Try.prog 92 #[.bool l, .bool q] w fun e w' => e = .returned (.int .i64 (ordB l q)) ∧ w = w' := by
  cases l <;> cases q
  all_goals
    go_enter Try.func92, Try.ntmps92
    go_wp2
    go_ret
    exact ⟨rfl, rfl⟩
theorem ordB_S (a b : ByteArray) : ordB (Op.bytesLess a.toList b.toList) (a.toList == b.toList) = cmpS a b := by
  unfold ordB cmpS; simp
theorem ordB_I (a b : Int) : ordB (decide (a < b)) (a == b) = cmpI a b := by
  unfold ordB cmpI; simp

set_option maxHeartbeats 800000 in
theorem refCompare_any (t : Int) (an : Bool) (a : Int) (sa : ByteArray) (bn : Bool) (b : Int) (sb : ByteArray) (w : World) : Calls Try.prog 72 #[.int .i64 t, .agg #[.bool an, .int .i64 a, .string sa], .agg #[.bool bn, .int .i64 b, .string sb]] w fun e w' => e = .returned (.int .i64 (cmpV t ⟨an, a, sa⟩ ⟨bn, b, sb⟩)) ∧ Below w.heap.size w w' := by
  cases an
  · cases bn
    · by_cases ht : t = 3
      · subst ht
        have e : cmpV 3 ⟨false, a, sa⟩ ⟨false, b, sb⟩ = cmpS sa sb := rfl
        rw [e, ← ordB_S]
        go_enter Try.func72, Try.ntmps72
        go_wp2_with (go_at_call 92; refine (order_any _ _ _).mono ?_; rintro e w1 ⟨rfl, rfl⟩)
        go_ret
        exact ⟨rfl, by repeat (first | exact Below.refl _ _ | apply Below.al | apply Below.on | (refine Below.st ?_ (by first | assumption | (simp; done) | (simp; omega)) _) | apply Below.drew)⟩
      · have e : cmpV t ⟨false, a, sa⟩ ⟨false, b, sb⟩ = cmpI a b := if_neg ht
        rw [e, ← ordB_I]
        have ht2 : (t == 3) = false := by simpa using ht
        clear ht
        go_enter Try.func72, Try.ntmps72
        go_wp2_with (go_at_call 92; refine (order_any _ _ _).mono ?_; rintro e w1 ⟨rfl, rfl⟩)
        go_ret
        exact ⟨rfl, by repeat (first | exact Below.refl _ _ | apply Below.al | apply Below.on | (refine Below.st ?_ (by first | assumption | (simp; done) | (simp; omega)) _) | apply Below.drew)⟩
    · have e : cmpV t ⟨false, a, sa⟩ ⟨true, b, sb⟩ = 1 := rfl
      rw [e]
      go_enter Try.func72, Try.ntmps72
      go_wp2_with (go_at_call 92; refine (order_any _ _ _).mono ?_; rintro e w1 ⟨rfl, rfl⟩)
      go_ret
      exact ⟨rfl, by repeat (first | exact Below.refl _ _ | apply Below.al | apply Below.on | (refine Below.st ?_ (by first | assumption | (simp; done) | (simp; omega)) _) | apply Below.drew)⟩
  · cases bn
    · have e : cmpV t ⟨true, a, sa⟩ ⟨false, b, sb⟩ = -1 := rfl
      rw [e]
      go_enter Try.func72, Try.ntmps72
      go_wp2_with (go_at_call 92; refine (order_any _ _ _).mono ?_; rintro e w1 ⟨rfl, rfl⟩)
      go_ret
      exact ⟨rfl, by repeat (first | exact Below.refl _ _ | apply Below.al | apply Below.on | (refine Below.st ?_ (by first | assumption | (simp; done) | (simp; omega)) _) | apply Below.drew)⟩
    · have e : cmpV t ⟨true, a, sa⟩ ⟨true, b, sb⟩ = 0 := rfl
      rw [e]
      go_enter Try.func72, Try.ntmps72
      go_wp2_with (go_at_call 92; refine (order_any _ _ _).mono ?_; rintro e w1 ⟨rfl, rfl⟩)
      go_ret
      exact ⟨rfl, by repeat (first | exact Below.refl _ _ | apply Below.al | apply Below.on | (refine Below.st ?_ (by first | assumption | (simp; done) | (simp; omega)) _) | apply Below.drew)⟩
end Go.Proofs.Ytpahoenanfjhpaa
namespace Go.Proofs.Ytpahoenanfjhpaa
open Go.RowKit

/-- a number of 64 bits, as it is stored in an int -/
def isI (x : Int) : Prop := -9223372036854775808 ≤ x ∧ x < 9223372036854775808
/-- keep.Pick -/
def pickI (v n : Int) : Int := v % 18446744073709551616 % n
def nextF (n : Int) : List Int → Int × List Int
  | [] => (0, [])
  | z :: r => (pickI z n, r)
def rawF : List Int → Int × List Int
  | [] => (0, [])
  | z :: r => (z, r)
theorem pickI_bd (v : Int) {n : Int} (h : 0 < n) : 0 ≤ pickI v n ∧ pickI v n < n := ⟨Int.emod_nonneg _ (by omega), Int.emod_lt_of_pos _ h⟩
theorem nextF_bd (r : List Int) {n : Int} (h : 0 < n) : 0 ≤ (nextF n r).1 ∧ (nextF n r).1 < n := by
  cases r with
  | nil => exact ⟨Int.le_refl _, h⟩
  | cons z r => exact pickI_bd z h

/-! ### Integers in memory -/
/-- In world w the value v is a slice of the integers zs, its cells in blocks below B. -/
def IntsAt (w : World) (B : Nat) (v : Value) (zs : List Int) : Prop :=
  (∀ z ∈ zs, isI z) ∧ zs.length ≤ 9223372036854775807 ∧
    ((zs = [] ∧ ∃ a c, v = .slice a 0 c) ∨ ∃ b o c, v = .slice (some ⟨b, o, none⟩) zs.length c ∧ b < B ∧ ∀ j, j < zs.length → w.cell? ⟨b, o + j, none⟩ = some (.int .i64 (zs.getD j 0)))
theorem IntsAt.to {w w' : World} {B : Nat} {v : Value} {zs : List Int} (h : IntsAt w B v zs) (hb : ∀ k, k < B → w'.heap[k]? = w.heap[k]?) : IntsAt w' B v zs := by
  refine ⟨h.1, h.2.1, h.2.2.imp id ?_⟩
  rintro ⟨b, o, c, h1, h2, h3⟩
  exact ⟨b, o, c, h1, h2, fun j hj => by rw [World.cell?_of_block (w := w) (hb b h2)]; exact h3 j hj⟩
theorem IntsAt.mono {w : World} {B B' : Nat} {v : Value} {zs : List Int} (h : IntsAt w B v zs) (hB : B ≤ B') : IntsAt w B' v zs :=
  ⟨h.1, h.2.1, h.2.2.imp id fun ⟨b, o, c, h1, h2, h3⟩ => ⟨b, o, c, h1, Nat.lt_of_lt_of_le h2 hB, h3⟩⟩

/-- Nothing that was there has turned but block sb. -/
structure Moved (sb : Nat) (w w' : World) : Prop where
  os : w'.os = w.os
  tape : w'.tape = w.tape
  output : w'.output = w.output
  size : w.heap.size ≤ w'.heap.size
  block : ∀ k, k < w.heap.size → k ≠ sb → w'.heap[k]? = w.heap[k]?
theorem Moved.refl (sb : Nat) (w : World) : Moved sb w w := ⟨rfl, rfl, rfl, Nat.le_refl _, fun _ _ _ => rfl⟩
theorem Moved.of_below {sb : Nat} {w w' : World} (h : Below w.heap.size w w') : Moved sb w w' := ⟨h.os, h.tape, h.output, h.size, fun k hk _ => h.block k hk⟩
theorem Moved.trans {sb : Nat} {a b c : World} (h : Moved sb a b) (k : Moved sb b c) : Moved sb a c :=
  ⟨k.os.trans h.os, k.tape.trans h.tape, k.output.trans h.output, Nat.le_trans h.size k.size, fun i hi hs => (k.block i (Nat.lt_of_lt_of_le hi h.size) hs).trans (h.block i hi hs)⟩
theorem Moved.below {sb : Nat} {a w w' : World} (h : Below a.heap.size a w) (k : Moved sb w w') (hs : a.heap.size ≤ sb) : Below a.heap.size a w' :=
  h.trans ⟨k.os, k.tape, k.output, k.size, fun i hi => k.block i (Nat.lt_of_lt_of_le hi h.size) (by omega)⟩
theorem Moved.al {sb : Nat} {a w : World} (h : Moved sb a w) (o : Obj) : Moved sb a (w.alloc o) :=
  h.trans ⟨rfl, rfl, rfl, by simp, fun k hk _ => Below.heap_alloc _ _ _ hk⟩
theorem Moved.drew {sb : Nat} {a w : World} (h : Moved sb a w) : Moved sb a w.drew := ⟨h.os, h.tape, h.output, h.size, h.block⟩
theorem Moved.st {sb : Nat} {a w : World} (h : Moved sb a w) (i : Nat) (sp : Option Nat) (u : Value) : Moved sb a (w.setCell ⟨sb, i, sp⟩ u) :=
  h.trans ⟨rfl, rfl, rfl, by simp [World.setCell], fun k _ hs => Below.heap_setCell _ _ _ _ hs⟩
theorem Moved.stn {sb : Nat} {a w : World} (h : Moved sb a w) {p : Addr} (hp : a.heap.size ≤ p.block) (u : Value) : Moved sb a (w.setCell p u) :=
  ⟨h.os, h.tape, h.output, by simpa [World.setCell] using h.size, fun k hk hs => (Below.heap_setCell _ _ _ _ (by omega)).trans (h.block k hk hs)⟩

/-- A world that holds all that W held but for block sb. -/
structure ExtM (W : World) (sb : Nat) where
  it : World
  moved : Moved sb W it
theorem ExtM.of {W w : World} {sb : Nat} (h : Moved sb W w) : ∃ x : ExtM W sb, w = x.it := ⟨⟨w, h⟩, rfl⟩
theorem ExtM.lt {W : World} {sb : Nat} (x : ExtM W sb) {n : Nat} (h : n < W.heap.size) : n < x.it.heap.size := Nat.lt_of_lt_of_le h x.moved.size
@[go_sem] theorem ExtM.cell {W : World} {sb : Nat} (x : ExtM W sb) (n i : Nat) (hn : n < W.heap.size) (hs : n ≠ sb) : x.it.cell? ⟨n, i, none⟩ = W.cell? ⟨n, i, none⟩ := World.cell?_of_block (w := W) (x.moved.block n hn hs)
@[go_sem] theorem ExtM.frozen {W : World} {sb : Nat} (x : ExtM W sb) (n i : Nat) (hn : n < W.heap.size) (hs : n ≠ sb) : x.it.frozen? ⟨n, i, none⟩ = W.frozen? ⟨n, i, none⟩ := World.frozen?_of_block (w := W) (x.moved.block n hn hs)
theorem Moved.on {a W : World} {sb : Nat} (h : Moved sb a W) (x : ExtM W sb) : Moved sb a x.it := h.trans x.moved
theorem Moved.onE {a W : World} {sb : Nat} (h : Moved sb a W) (x : Ext W) : Moved sb a x.it := h.trans (Moved.of_below x.below)

/-- In world w block sb is a source of which the choices r are left. -/
def SrcAt (w : World) (sb : Nat) (r : List Int) : Prop :=
  ∃ (zs : List Int) (i : Nat) (lv : Value), i ≤ zs.length ∧ r = zs.drop i ∧ sb < w.heap.size ∧ w.cell? ⟨sb, 0, none⟩ = some lv ∧ w.cell? ⟨sb, 1, none⟩ = some (.int .i64 i) ∧ (∀ j, w.frozen? ⟨sb, j, none⟩ = false) ∧ IntsAt w sb lv zs
theorem SrcAt.to {w w' : World} {sb : Nat} {r : List Int} (h : SrcAt w sb r) (hb : Below w.heap.size w w') : SrcAt w' sb r := by
  obtain ⟨zs, i, lv, h1, h2, h3, h4, h5, h6, h7⟩ := h
  exact ⟨zs, i, lv, h1, h2, Nat.lt_of_lt_of_le h3 hb.size, (hb.cell (p := ⟨sb, 0, none⟩) h3).trans h4, (hb.cell (p := ⟨sb, 1, none⟩) h3).trans h5, fun j => (hb.frozen (p := ⟨sb, j, none⟩) h3).trans (h6 j), h7.to fun k hk => hb.block k (Nat.lt_trans hk h3)⟩
theorem SrcAt.ext {W : World} {sb : Nat} {r : List Int} (h : SrcAt W sb r) (x : Ext W) : SrcAt x.it sb r := h.to x.below
theorem SrcAt.al {w : World} {sb : Nat} {r : List Int} (h : SrcAt w sb r) (o : Obj) : SrcAt (w.alloc o) sb r := h.to ((Below.refl _ _).alloc (Nat.le_refl _) o)
theorem SrcAt.drew {w : World} {sb : Nat} {r : List Int} (h : SrcAt w sb r) : SrcAt w.drew sb r := h
theorem SrcAt.lt {w : World} {sb : Nat} {r : List Int} (h : SrcAt w sb r) : sb < w.heap.size := by obtain ⟨_, _, _, _, _, h3, _⟩ := h; exact h3
theorem SrcAt.stn {w : World} {sb : Nat} {r : List Int} (h : SrcAt w sb r) {p : Addr} (hp : sb < p.block) (u : Value) : SrcAt (w.setCell p u) sb r := by
  obtain ⟨zs, i, lv, h1, h2, h3, h4, h5, h6, h7⟩ := h
  have hb : ∀ k, k ≤ sb → (w.setCell p u).heap[k]? = w.heap[k]? := fun k hk => Below.heap_setCell _ _ _ _ (by omega)
  exact ⟨zs, i, lv, h1, h2, by simpa [World.setCell] using h3, (World.cell?_of_block (w := w) (hb sb (Nat.le_refl _))).trans h4, (World.cell?_of_block (w := w) (hb sb (Nat.le_refl _))).trans h5,
    fun j => (World.frozen?_of_block (w := w) (hb sb (Nat.le_refl _))).trans (h6 j), h7.to fun k hk => hb k (by omega)⟩

/-! ### keep.Pick, keep.From -/
theorem pick_eq (v n : Int) (h0 : 0 < n) (h1 : n < 9223372036854775808) : wrap64 ((IntKind.u64.wrap v).tmod n) = pickI v n := by
  have e : ∀ x : Int, IntKind.u64.wrap x = x % 18446744073709551616 := fun x => by simp [IntKind.wrap, IntKind.bits, IntKind.signed]
  have b := pickI_bd v h0
  unfold pickI at b ⊢
  rw [e, Int.tmod_eq_emod_of_nonneg (by omega)]
  unfold wrap64
  omega
set_option maxHeartbeats 400000 in
theorem pick_any (v n : Int) (h0 : 0 < n) (h1 : n < 9223372036854775808) (w : World) :
    Calls Try.prog 15 #[.int .i64 v, .int .i64 n] w fun e w' => e = .returned (.int .i64 (pickI v n)) ∧ w = w' := by
  have e0 : IntKind.u64.wrap n = n := by simp [IntKind.wrap, IntKind.bits, IntKind.signed]; omega
  have e1 := pick_eq v n h0 h1
  go_enter Try.func15, Try.ntmps15
  go_wp2
  go_ret
  exact ⟨by rw [← e1]; rfl, rfl⟩
set_option maxHeartbeats 400000 in
theorem from_any (lv : Value) (zs : List Int) (w : World) (h : IntsAt w w.heap.size lv zs) :
    Calls Try.prog 23 #[lv] w fun e w' => e = .returned (.pointer (some ⟨w.heap.size, 0, none⟩)) ∧ Below w.heap.size w w' ∧ SrcAt w' w.heap.size zs := by
  rcases h.2.2 with ⟨hz, a, c, rfl⟩ | ⟨b, o, c, rfl, h2, h3⟩
  all_goals
    have H := Lib.hid h
    clear h
    go_enter Try.func23, Try.ntmps23
    go_wp2
    go_ret
    exact ⟨rfl, (Below.refl _ _).alloc (Nat.le_refl _) _, zs, 0, _, Nat.zero_le _, rfl, by simp, by simp, by simp, by simp, H.out.to fun k hk => Below.heap_alloc _ _ _ hk⟩

/-! ### Source.Next, Source.Raw -/
theorem drop_cons {zs : List Int} {i : Nat} (h : i < zs.length) : zs.drop i = zs.getD i 0 :: zs.drop (i + 1) := by rw [List.drop_eq_getElem_cons h]; simp [h]
theorem ints_end {w : World} {B : Nat} {v : Value} {zs : List Int} (h : IntsAt w B v zs) : ∃ a c, v = .slice a zs.length c := by
  rcases h.2.2 with ⟨e, a, c, rfl⟩ | ⟨b, o, c, rfl, _⟩
  · exact ⟨a, c, by rw [e]; rfl⟩
  · exact ⟨_, c, rfl⟩
theorem ints_in {w : World} {B : Nat} {v : Value} {zs : List Int} (h : IntsAt w B v zs) {i : Nat} (hi : i < zs.length) : ∃ b o c, v = .slice (some ⟨b, o, none⟩) zs.length c ∧ b < B ∧ ∀ j, j < zs.length → w.cell? ⟨b, o + j, none⟩ = some (.int .i64 (zs.getD j 0)) := by
  rcases h.2.2 with ⟨e, _⟩ | h
  · rw [e] at hi; simp at hi
  · exact h
/-- A source one choice on. -/
theorem src_next {w w' : World} {sb i b o c : Nat} {zs : List Int} (hlt : i < zs.length) (hs : sb < w.heap.size) (c0 : w.cell? ⟨sb, 0, none⟩ = some (.slice (some ⟨b, o, none⟩) zs.length c)) (c1 : w.cell? ⟨sb, 1, none⟩ = some (.int .i64 i)) (fr : ∀ j, w.frozen? ⟨sb, j, none⟩ = false)
    (hz : IntsAt w sb (.slice (some ⟨b, o, none⟩) zs.length c) zs) (hb : Below w.heap.size w w') : SrcAt (w'.setCell ⟨sb, 1, none⟩ (.int .i64 ((i : Int) + 1))) sb (zs.drop (i + 1)) := by
  have d0 := (hb.cell (p := ⟨sb, 0, none⟩) hs).trans c0
  have d1 := (hb.cell (p := ⟨sb, 1, none⟩) hs).trans c1
  refine ⟨zs, i + 1, .slice (some ⟨b, o, none⟩) zs.length c, hlt, rfl, ?_, ?_, ?_, ?_, ?_⟩
  · have := hb.size; simp [World.setCell]; omega
  · go_simp
  · go_simp
  · intro j
    rw [World.frozen?_setCell]
    exact (hb.frozen (p := ⟨sb, j, none⟩) hs).trans (fr j)
  · exact hz.to fun k hk => (Below.heap_setCell _ _ _ _ (by show k ≠ sb; omega)).trans (hb.block k (Nat.lt_trans hk hs))

set_option maxHeartbeats 1000000 in
theorem next_any (sb : Nat) (r : List Int) (n : Int) (h0 : 0 < n) (h1 : n < 9223372036854775808) (w : World) (h : SrcAt w sb r) :
    Calls Try.prog 24 #[.pointer (some ⟨sb, 0, none⟩), .int .i64 n] w fun e w' => e = .returned (.int .i64 (nextF n r).1) ∧ Moved sb w w' ∧ SrcAt w' sb (nextF n r).2 := by
  obtain ⟨zs, i, lv, hi, rfl, hs, c0, c1, fr, hz⟩ := h
  by_cases he : i = zs.length
  · have er : zs.drop i = [] := by rw [he]; simp
    rw [er]
    obtain ⟨a, c, rfl⟩ := ints_end hz
    have hm := hz.2.1
    have H := Lib.hid (And.intro hi (And.intro fr (And.intro hz er)))
    clear hi fr hz er
    obtain rfl := he
    go_enter Try.func24, Try.ntmps24
    go_wp2
    refine wp_region_ext (by kernel_rfl) (by kernel_rfl) ?_
    repeat (go_big_quiet_step ((fail)))
    refine wpQuiet_nil ?_
    rintro _ ⟨x, rfl⟩
    go_wp2
    go_ret
    exact ⟨rfl, Moved.of_below x.below, SrcAt.to ⟨_, _, _, H.out.1, H.out.2.2.2.symm, hs, c0, c1, H.out.2.1, H.out.2.2.1⟩ x.below⟩
  · have hlt : i < zs.length := by omega
    obtain ⟨b, o, c, rfl, hb, hc⟩ := ints_in hz hlt
    rw [drop_cons hlt, show zs.getD i 0 = zs[i] from by simp [hlt]]
    have hm := hz.2.1
    have cc := hc i hlt
    have hbw : b < w.heap.size := by omega
    have nb : b ≠ sb := by omega
    have f1 := fr 1
    have H := Lib.hid (And.intro fr hz)
    clear hi fr hz hc he
    go_enter Try.func24, Try.ntmps24
    go_wp2
    refine wp_region_ext (by kernel_rfl) (by kernel_rfl) ?_
    repeat (go_big_quiet_step ((fail)))
    refine wpQuiet_nil ?_
    rintro _ ⟨x, rfl⟩
    have hsx := x.lt hs
    have hbx := x.lt hbw
    go_wp2
    refine wp_region_ext (by kernel_rfl) (by kernel_rfl) ?_
    repeat (go_big_quiet_step (((go_at_call 15; exact Calls.ext_same (pick_any _ _ h0 h1 _)))))
    refine wpQuiet_nil ?_
    rintro _ ⟨y, rfl⟩
    go_wp2
    go_ret
    exact ⟨rfl, ((Moved.of_below x.below).st 1 none _).onE y, (src_next hlt hs c0 c1 H.out.1 H.out.2 x.below).to y.below⟩

set_option maxHeartbeats 1000000 in
theorem raw_any (sb : Nat) (r : List Int)  (w : World) (h : SrcAt w sb r) :
    Calls Try.prog 25 #[.pointer (some ⟨sb, 0, none⟩)] w fun e w' => e = .returned (.int .i64 (rawF r).1) ∧ Moved sb w w' ∧ SrcAt w' sb (rawF r).2 := by
  obtain ⟨zs, i, lv, hi, rfl, hs, c0, c1, fr, hz⟩ := h
  by_cases he : i = zs.length
  · have er : zs.drop i = [] := by rw [he]; simp
    rw [er]
    obtain ⟨a, c, rfl⟩ := ints_end hz
    have hm := hz.2.1
    have H := Lib.hid (And.intro hi (And.intro fr (And.intro hz er)))
    clear hi fr hz er
    obtain rfl := he
    go_enter Try.func25, Try.ntmps25
    go_wp2
    refine wp_region_ext (by kernel_rfl) (by kernel_rfl) ?_
    repeat (go_big_quiet_step ((fail)))
    refine wpQuiet_nil ?_
    rintro _ ⟨x, rfl⟩
    go_wp2
    go_ret
    exact ⟨rfl, Moved.of_below x.below, SrcAt.to ⟨_, _, _, H.out.1, H.out.2.2.2.symm, hs, c0, c1, H.out.2.1, H.out.2.2.1⟩ x.below⟩
  · have hlt : i < zs.length := by omega
    obtain ⟨b, o, c, rfl, hb, hc⟩ := ints_in hz hlt
    rw [drop_cons hlt, show zs.getD i 0 = zs[i] from by simp [hlt]]
    have hm := hz.2.1
    have cc := hc i hlt
    have hbw : b < w.heap.size := by omega
    have nb : b ≠ sb := by omega
    have f1 := fr 1
    have H := Lib.hid (And.intro fr hz)
    clear hi fr hz hc he
    go_enter Try.func25, Try.ntmps25
    go_wp2
    refine wp_region_ext (by kernel_rfl) (by kernel_rfl) ?_
    repeat (go_big_quiet_step ((fail)))
    refine wpQuiet_nil ?_
    rintro _ ⟨x, rfl⟩
    have hsx := x.lt hs
    have hbx := x.lt hbw
    go_wp2
    refine wp_region_ext (by kernel_rfl) (by kernel_rfl) ?_
    repeat (go_big_quiet_step ((fail)))
    refine wpQuiet_nil ?_
    rintro _ ⟨y, rfl⟩
    go_wp2
    go_ret
    exact ⟨rfl, ((Moved.of_below x.below).st 1 none _).onE y, (src_next hlt hs c0 c1 H.out.1 H.out.2 x.below).to y.below⟩

end Go.Proofs.Ytpahoenanfjhpaa
namespace Go.Proofs.Ytpahoenanfjhpaa
open Go.RowKit
/-- the number that keep.value draws -/
def numF (r : List Int) : Int × List Int :=
  let a := nextF 7 r
  let b := nextF 8 a.2
  if b.1 = 0 then rawF b.2 else if b.1 = 1 then ((rawF b.2).1.tmod 1000, (rawF b.2).2) else (wrap64 (a.1 - 2), b.2)
/-- the text that it draws: k letters behind s -/
def strF : Nat → ByteArray → List Int → ByteArray × List Int
  | 0, s, r => (s, r)
  | k + 1, s, r => strF k (s ++ ⟨#[UInt8.ofNat (wrap64 (97 + (nextF 3 r).1) % 256).toNat]⟩) (nextF 3 r).2
theorem run_str_one {P : Program} {src dst e T : TypeId} (w : World) (x : Int) (hs : P.underlying src = some (.slice e)) (he : P.underlying e = some (.int .u8)) (hd : P.underlying dst = some .string) :
    (convert src dst (.slice (some ⟨w.heap.size, 0, none⟩) 1 1)).run P (w.alloc (.cells #[.int .u8 x] T)) = .ok (.string ⟨#[UInt8.ofNat x.toNat]⟩) (w.alloc (.cells #[.int .u8 x] T)) := by
  have hl := run_loadCells_list (P := P) (w := w.alloc (.cells #[.int .u8 x] T)) ⟨w.heap.size, 0, none⟩ [.int .u8 x] (fun j v hj => by
    cases j with
    | zero => simp at hj; subst hj; simp [Addr.add]
    | succ j => simp at hj)
  rw [run_convert_bytes_string _ src dst e _ _ _ hs he hd, run_bytesToString _ _ _ _ [x] (by simpa using hl)]
  rfl
def nullF (nu : Bool) (r : List Int) : Int × List Int := if nu = true then nextF 4 r else (1, r)
def fitN (ty n : Int) : Int := if ty = 2 then bits .and .i64 n 1 else if ty = 4 then n.tmod 700000 else if ty = 5 then n.tmod 1000000000000000000 else n
/-- keep.value: the value, and the choices that are left -/
def valF (ty : Int) (nu : Bool) (r : List Int) : Val × List Int :=
  if (nullF nu r).1 = 0 then (⟨true, 0, ⟨#[]⟩⟩, (nullF nu r).2) else
  if ty = 3 then (⟨false, 0, (strF (nextF 4 (numF (nullF nu r).2).2).1.toNat ⟨#[]⟩ (nextF 4 (numF (nullF nu r).2).2).2).1⟩, (strF (nextF 4 (numF (nullF nu r).2).2).1.toNat ⟨#[]⟩ (nextF 4 (numF (nullF nu r).2).2).2).2)
  else (⟨false, fitN ty (numF (nullF nu r).2).1, ⟨#[]⟩⟩, (numF (nullF nu r).2).2)
def Val.enc (v : Val) : Value := .agg #[.bool v.null, .int .i64 v.n, .string v.s]
theorem ExtM.to {W w : World} {sb : Nat} (x : ExtM W sb) (h : Moved sb x.it w) : ∃ y : ExtM W sb, w = y.it := ⟨⟨w, x.moved.trans h⟩, rfl⟩
theorem ExtM.self (W : World) (sb : Nat) : ∃ y : ExtM W sb, y.it = W := ⟨⟨W, Moved.refl _ _⟩, rfl⟩

set_option maxRecDepth 20000 in
set_option maxHeartbeats 2000000 in
theorem value_any (sb : Nat) (r : List Int) (n1 : ByteArray) (ty sc : Int) (nu : Bool) (w : World) (h : SrcAt w sb r) :
    Calls Try.prog 46 #[.pointer (some ⟨sb, 0, none⟩), .agg #[.string n1, .int .i64 ty, .int .i64 sc, .bool nu]] w fun e w' => e = .returned (valF ty nu r).1.enc ∧ Moved sb w w' ∧ SrcAt w' sb (valF ty nu r).2 := by
  have hs := h.lt
  have ne0 : w.heap.size ≠ sb := by omega
  have ne1 : w.heap.size + 1 ≠ sb := by omega
  by_cases hz : (nullF nu r).1 = 0
  · have ev : valF ty nu r = (⟨true, 0, ⟨#[]⟩⟩, (nullF nu r).2) := by unfold valF; rw [if_pos hz]
    rw [ev]
    clear ev
    cases nu
    · exact absurd hz (by simp [nullF])
    have hz2 : (nextF 4 r).1 = 0 := hz
    clear hz
    go_enter Try.func46, Try.ntmps46
    go_wp2_with (go_at_call 24; refine (next_any sb r 4 (by decide) (by decide) _ ((h.al _).al _)).mono ?_; rintro e w1 ⟨rfl, hm, hs0⟩; obtain ⟨y0, rfl⟩ := ExtM.of hm)
    exact bodyPost_ret (v := .agg #[.bool true, .int .i64 0, .string ⟨#[]⟩]) (by simp [results, Try.results46, go_sem, *]) rfl (⟨rfl, by repeat (first | with_reducible exact Moved.refl _ _ | with_reducible assumption | with_reducible refine Moved.al ?_ _ | with_reducible refine Moved.onE ?_ _ | with_reducible refine Moved.on ?_ _ | with_reducible refine Moved.st ?_ _ _ _ | with_reducible refine Moved.stn ?_ (by first | assumption | (simp; done) | (simp; omega)) _ | with_reducible refine Moved.drew ?_), ((hs0.stn (by simp; omega) _).stn (by simp; omega) _).stn (by simp; omega) _⟩)
  generalize hr0 : (nullF nu r).2 = r0
  have ev := Lib.hid (show valF ty nu r = if ty = 3 then (⟨false, 0, (strF (nextF 4 (numF r0).2).1.toNat ⟨#[]⟩ (nextF 4 (numF r0).2).2).1⟩, (strF (nextF 4 (numF r0).2).1.toNat ⟨#[]⟩ (nextF 4 (numF r0).2).2).2)
      else (⟨false, fitN ty (numF r0).1, ⟨#[]⟩⟩, (numF r0).2) by unfold valF; rw [if_neg hz, hr0])
  cases nu
  · have hr1 : r0 = r := hr0.symm
    subst hr1
    clear hz
    go_enter Try.func46, Try.ntmps46
    go_upto_region 3 with fail
    have hs0 := (h.al (.cells #[.string n1, .int .i64 ty, .int .i64 sc, .bool false] 61)).al (.cells #[.bool false, .int .i64 0, .string ⟨#[]⟩] 40)
    obtain ⟨y0, e0⟩ := ExtM.self ((w.alloc (.cells #[.string n1, .int .i64 ty, .int .i64 sc, .bool false] 61)).alloc (.cells #[.bool false, .int .i64 0, .string ⟨#[]⟩] 40)) sb
    rw [← e0] at hs0 ⊢
    clear e0
    go_upto_region 4 with (go_at_call 24; refine (next_any sb r0 7 (by decide) (by decide) _ hs0).mono ?_; rintro e w1 ⟨rfl, hm1, hs1⟩; obtain ⟨y1, rfl⟩ := y0.to hm1)
    clear hs0 hm1
    go_upto_block 0 with (go_at_call 24; refine (next_any sb (nextF 7 r0).2 8 (by decide) (by decide) _ hs1).mono ?_; rintro e w2 ⟨rfl, hm2, hs2⟩; obtain ⟨y2, rfl⟩ := y1.to hm2)
    clear hs1 hm2
    go_cut [5, 20] (fun s5 s20 wx => s5 = .int .i64 (numF r0).1 ∧ (∃ y : ExtM ((w.alloc (.cells #[.string n1, .int .i64 ty, .int .i64 sc, .bool false] 61)).alloc (.cells #[.bool false, .int .i64 0, .string ⟨#[]⟩] 40)) sb, wx = y.it) ∧ SrcAt wx sb (numF r0).2)
    case first =>
      clear ev
      by_cases b0 : (nextF 8 (nextF 7 r0).2).1 = 0
      · have en := Lib.hid (show numF r0 = rawF (nextF 8 (nextF 7 r0).2).2 by simp [numF, b0])
        go_wp2_with (go_at_call 25; refine (raw_any sb (nextF 8 (nextF 7 r0).2).2 _ hs2).mono ?_; rintro e w3 ⟨rfl, hm3, hs3⟩; obtain ⟨y3, rfl⟩ := y2.to hm3)
        go_meet
        rw [en.out]
        exact ⟨rfl, ⟨_, rfl⟩, hs3⟩
      · by_cases b1 : (nextF 8 (nextF 7 r0).2).1 = 1
        · have en := Lib.hid (show numF r0 = ((rawF (nextF 8 (nextF 7 r0).2).2).1.tmod 1000, (rawF (nextF 8 (nextF 7 r0).2).2).2) by simp [numF, b1])
          clear b0
          go_wp2_with (go_at_call 25; refine (raw_any sb (nextF 8 (nextF 7 r0).2).2 _ hs2).mono ?_; rintro e w3 ⟨rfl, hm3, hs3⟩; obtain ⟨y3, rfl⟩ := y2.to hm3)
          go_meet
          rw [en.out]
          exact ⟨rfl, ⟨_, rfl⟩, hs3⟩
        · have en := Lib.hid (show numF r0 = (wrap64 ((nextF 7 r0).1 - 2), (nextF 8 (nextF 7 r0).2).2) by simp [numF, b0, b1])
          go_wp2
          go_meet
          rw [en.out]
          exact ⟨rfl, ⟨_, rfl⟩, hs2⟩
    case rest => 
      obtain ⟨rfl, ⟨y, rfl⟩, hs3⟩ := hcut
      clear hs2 y0 y1 y2
      by_cases t3 : ty = 3
      · subst t3
        have ev2 := Lib.hid (ev.out.trans (if_pos rfl))
        clear ev
        go_wp2_with (go_at_call 24; refine (next_any sb (numF r0).2 4 (by decide) (by decide) _ hs3).mono ?_; rintro e w4 ⟨rfl, hm4, hs4⟩; obtain ⟨y4, rfl⟩ := y.to hm4)
        have kb := nextF_bd (numF r0).2 (n := 4) (by decide)
        have kt := Lib.hid (show ((nextF 4 (numF r0).2).1.toNat : Int) = (nextF 4 (numF r0).2).1 by omega)
        generalize hZ : strF (nextF 4 (numF r0).2).1.toNat ⟨#[]⟩ (nextF 4 (numF r0).2).2 = Z at ev2
        have HZ := Lib.hid hZ
        have KB := Lib.hid kb
        clear hZ kb hm4 hs3
        go_loopg [6, 7] (nextF 4 (numF r0).2).1.toNat (fun g s t wr => ∃ st rs, st.size + g ≤ 3 ∧ s = .string st ∧ t = .int .i64 g ∧ strF g st rs = Z ∧ (∃ y : ExtM ((w.alloc (.cells #[.string n1, .int .i64 3, .int .i64 sc, .bool false] 61)).alloc (.cells #[.bool false, .int .i64 0, .string ⟨#[]⟩] 40)) sb, wr = y.it) ∧ SrcAt wr sb rs)
        case atStart => exact ⟨_, _, by have := KB.out.2; simp [ByteArray.size]; omega, rfl, by rw [kt.out], HZ.out, ⟨_, rfl⟩, hs4⟩
        case round =>
          obtain ⟨st, rs, hsz, rfl, rfl, hst, ⟨y5, rfl⟩, hs5⟩ := hrel
          clear HZ kt KB hs4 y4 y
          have HS := Lib.hid hst
          clear hst
          by_cases hg0 : gk = 0
          · subst hg0
            go_wp2
            exact bodyPost_ret (v := .agg #[.bool false, .int .i64 0, .string st]) (by simp [results, Try.results46, go_sem, *]) rfl (by rw [ev2.out]; obtain ⟨rfl, rfl⟩ := (show (Z.1 = st ∧ Z.2 = rs) from (HS.out ▸ ⟨rfl, rfl⟩)); exact ⟨rfl, by repeat (first | with_reducible exact Moved.refl _ _ | with_reducible assumption | with_reducible refine Moved.al ?_ _ | with_reducible refine Moved.onE ?_ _ | with_reducible refine Moved.on ?_ _ | with_reducible refine Moved.st ?_ _ _ _ | with_reducible refine Moved.stn ?_ (by first | assumption | (simp; done) | (simp; omega)) _ | with_reducible refine Moved.drew ?_), ((hs5.stn (by simp; omega) _).stn (by simp; omega) _).stn (by simp; omega) _⟩)
          · have hg1 : (0 : Int) < gk := by omega
            have hcv : ∀ (w0 : World) (x : Int), (convert 108 9 (.slice (some ⟨w0.heap.size, 0, none⟩) 1 1)).run Try.prog (w0.alloc (.cells #[.int .u8 x] 5)) = .ok (.string ⟨#[UInt8.ofNat x.toNat]⟩) (w0.alloc (.cells #[.int .u8 x] 5)) := fun w0 x => run_str_one (e := 5) w0 x (by kernel_rfl) (by kernel_rfl) (by kernel_rfl)
            have hsu : ∀ u : ByteArray, u.size = 1 → ¬ (9223372036854775807 < st.size + u.size) := by intro u hu; omega
            go_wp2_with (go_at_call 24; refine (next_any sb rs 3 (by decide) (by decide) _ hs5).mono ?_; rintro e w6 ⟨rfl, hm6, hs6⟩; obtain ⟨y6, rfl⟩ := y5.to hm6)
            go_roundg (gk - 1)
            case measure => omega
            case rel =>
              obtain ⟨g1, rfl⟩ : ∃ g1, gk = g1 + 1 := ⟨gk - 1, by omega⟩
              refine ⟨_, _, ?_, rfl, by go_num, HS.out, (y6.moved.al _ |> fun h => ExtM.of h), hs6.al _⟩
              rw [ByteArray.size_append]; show st.size + 1 + (g1 + 1 - 1) ≤ 3; omega
      · have ev2 := Lib.hid (ev.out.trans (if_neg t3))
        clear ev
        by_cases t2 : ty = 2
        · subst t2
          have ef := Lib.hid (show fitN 2 (numF r0).1 = bits .and .i64 (numF r0).1 1 by rfl)
          have eg := Lib.hid (ev2.out.trans (by rw [ef.out]))
          clear ev2 ef
          go_wp2
          exact bodyPost_ret (v := .agg #[.bool false, .int .i64 (bits .and .i64 (numF r0).1 1), .string ⟨#[]⟩]) (by simp [results, Try.results46, go_sem, *]) rfl (by rw [eg.out]; exact ⟨rfl, by repeat (first | with_reducible exact Moved.refl _ _ | with_reducible assumption | with_reducible refine Moved.al ?_ _ | with_reducible refine Moved.onE ?_ _ | with_reducible refine Moved.on ?_ _ | with_reducible refine Moved.st ?_ _ _ _ | with_reducible refine Moved.stn ?_ (by first | assumption | (simp; done) | (simp; omega)) _ | with_reducible refine Moved.drew ?_), ((hs3.stn (by simp; omega) _).stn (by simp; omega) _).stn (by simp; omega) _⟩)
        by_cases t4 : ty = 4
        · subst t4
          have ef := Lib.hid (show fitN 4 (numF r0).1 = (numF r0).1.tmod 700000 by rfl)
          have eg := Lib.hid (ev2.out.trans (by rw [ef.out]))
          clear ev2 ef
          go_wp2
          exact bodyPost_ret (v := .agg #[.bool false, .int .i64 ((numF r0).1.tmod 700000), .string ⟨#[]⟩]) (by simp [results, Try.results46, go_sem, *]) rfl (by rw [eg.out]; exact ⟨rfl, by repeat (first | with_reducible exact Moved.refl _ _ | with_reducible assumption | with_reducible refine Moved.al ?_ _ | with_reducible refine Moved.onE ?_ _ | with_reducible refine Moved.on ?_ _ | with_reducible refine Moved.st ?_ _ _ _ | with_reducible refine Moved.stn ?_ (by first | assumption | (simp; done) | (simp; omega)) _ | with_reducible refine Moved.drew ?_), ((hs3.stn (by simp; omega) _).stn (by simp; omega) _).stn (by simp; omega) _⟩)
        by_cases t5 : ty = 5
        · subst t5
          have ef := Lib.hid (show fitN 5 (numF r0).1 = (numF r0).1.tmod 1000000000000000000 by rfl)
          have eg := Lib.hid (ev2.out.trans (by rw [ef.out]))
          clear ev2 ef
          go_wp2
          exact bodyPost_ret (v := .agg #[.bool false, .int .i64 ((numF r0).1.tmod 1000000000000000000), .string ⟨#[]⟩]) (by simp [results, Try.results46, go_sem, *]) rfl (by rw [eg.out]; exact ⟨rfl, by repeat (first | with_reducible exact Moved.refl _ _ | with_reducible assumption | with_reducible refine Moved.al ?_ _ | with_reducible refine Moved.onE ?_ _ | with_reducible refine Moved.on ?_ _ | with_reducible refine Moved.st ?_ _ _ _ | with_reducible refine Moved.stn ?_ (by first | assumption | (simp; done) | (simp; omega)) _ | with_reducible refine Moved.drew ?_), ((hs3.stn (by simp; omega) _).stn (by simp; omega) _).stn (by simp; omega) _⟩)
        · skip
          have ef := Lib.hid (show fitN ty (numF r0).1 = (numF r0).1 by simp [fitN, t2, t4, t5])
          have eg := Lib.hid (ev2.out.trans (by rw [ef.out]))
          clear ev2 ef
          go_wp2
          exact bodyPost_ret (v := .agg #[.bool false, .int .i64 ((numF r0).1), .string ⟨#[]⟩]) (by simp [results, Try.results46, go_sem, *]) rfl (by rw [eg.out]; exact ⟨rfl, by repeat (first | with_reducible exact Moved.refl _ _ | with_reducible assumption | with_reducible refine Moved.al ?_ _ | with_reducible refine Moved.onE ?_ _ | with_reducible refine Moved.on ?_ _ | with_reducible refine Moved.st ?_ _ _ _ | with_reducible refine Moved.stn ?_ (by first | assumption | (simp; done) | (simp; omega)) _ | with_reducible refine Moved.drew ?_), ((hs3.stn (by simp; omega) _).stn (by simp; omega) _).stn (by simp; omega) _⟩)
  · have hz2 : ¬ (nextF 4 r).1 = 0 := hz
    have hr2 := Lib.hid (show (nextF 4 r).2 = r0 from hr0)
    clear hz hr0
    go_enter Try.func46, Try.ntmps46
    go_upto_region 3 with (go_at_call 24; refine (next_any sb r 4 (by decide) (by decide) _ ((h.al _).al _)).mono ?_; rintro e w1 ⟨rfl, hm, hs0⟩; obtain ⟨y0, rfl⟩ := ExtM.of hm)
    clear hm
    rw [hr2.out] at hs0
    go_upto_region 4 with (go_at_call 24; refine (next_any sb r0 7 (by decide) (by decide) _ hs0).mono ?_; rintro e w1 ⟨rfl, hm1, hs1⟩; obtain ⟨y1, rfl⟩ := y0.to hm1)
    clear hs0 hm1
    go_upto_block 0 with (go_at_call 24; refine (next_any sb (nextF 7 r0).2 8 (by decide) (by decide) _ hs1).mono ?_; rintro e w2 ⟨rfl, hm2, hs2⟩; obtain ⟨y2, rfl⟩ := y1.to hm2)
    clear hs1 hm2
    go_cut [5, 20] (fun s5 s20 wx => s5 = .int .i64 (numF r0).1 ∧ (∃ y : ExtM ((w.alloc (.cells #[.string n1, .int .i64 ty, .int .i64 sc, .bool true] 61)).alloc (.cells #[.bool false, .int .i64 0, .string ⟨#[]⟩] 40)) sb, wx = y.it) ∧ SrcAt wx sb (numF r0).2)
    case first =>
      clear ev
      by_cases b0 : (nextF 8 (nextF 7 r0).2).1 = 0
      · have en := Lib.hid (show numF r0 = rawF (nextF 8 (nextF 7 r0).2).2 by simp [numF, b0])
        go_wp2_with (go_at_call 25; refine (raw_any sb (nextF 8 (nextF 7 r0).2).2 _ hs2).mono ?_; rintro e w3 ⟨rfl, hm3, hs3⟩; obtain ⟨y3, rfl⟩ := y2.to hm3)
        go_meet
        rw [en.out]
        exact ⟨rfl, ⟨_, rfl⟩, hs3⟩
      · by_cases b1 : (nextF 8 (nextF 7 r0).2).1 = 1
        · have en := Lib.hid (show numF r0 = ((rawF (nextF 8 (nextF 7 r0).2).2).1.tmod 1000, (rawF (nextF 8 (nextF 7 r0).2).2).2) by simp [numF, b1])
          clear b0
          go_wp2_with (go_at_call 25; refine (raw_any sb (nextF 8 (nextF 7 r0).2).2 _ hs2).mono ?_; rintro e w3 ⟨rfl, hm3, hs3⟩; obtain ⟨y3, rfl⟩ := y2.to hm3)
          go_meet
          rw [en.out]
          exact ⟨rfl, ⟨_, rfl⟩, hs3⟩
        · have en := Lib.hid (show numF r0 = (wrap64 ((nextF 7 r0).1 - 2), (nextF 8 (nextF 7 r0).2).2) by simp [numF, b0, b1])
          go_wp2
          go_meet
          rw [en.out]
          exact ⟨rfl, ⟨_, rfl⟩, hs2⟩
    case rest => 
      obtain ⟨rfl, ⟨y, rfl⟩, hs3⟩ := hcut
      clear hs2 y0 y1 y2
      by_cases t3 : ty = 3
      · subst t3
        have ev2 := Lib.hid (ev.out.trans (if_pos rfl))
        clear ev
        go_wp2_with (go_at_call 24; refine (next_any sb (numF r0).2 4 (by decide) (by decide) _ hs3).mono ?_; rintro e w4 ⟨rfl, hm4, hs4⟩; obtain ⟨y4, rfl⟩ := y.to hm4)
        have kb := nextF_bd (numF r0).2 (n := 4) (by decide)
        have kt := Lib.hid (show ((nextF 4 (numF r0).2).1.toNat : Int) = (nextF 4 (numF r0).2).1 by omega)
        generalize hZ : strF (nextF 4 (numF r0).2).1.toNat ⟨#[]⟩ (nextF 4 (numF r0).2).2 = Z at ev2
        have HZ := Lib.hid hZ
        have KB := Lib.hid kb
        clear hZ kb hm4 hs3
        go_loopg [6, 7] (nextF 4 (numF r0).2).1.toNat (fun g s t wr => ∃ st rs, st.size + g ≤ 3 ∧ s = .string st ∧ t = .int .i64 g ∧ strF g st rs = Z ∧ (∃ y : ExtM ((w.alloc (.cells #[.string n1, .int .i64 3, .int .i64 sc, .bool true] 61)).alloc (.cells #[.bool false, .int .i64 0, .string ⟨#[]⟩] 40)) sb, wr = y.it) ∧ SrcAt wr sb rs)
        case atStart => exact ⟨_, _, by have := KB.out.2; simp [ByteArray.size]; omega, rfl, by rw [kt.out], HZ.out, ⟨_, rfl⟩, hs4⟩
        case round =>
          obtain ⟨st, rs, hsz, rfl, rfl, hst, ⟨y5, rfl⟩, hs5⟩ := hrel
          clear HZ kt KB hs4 y4 y
          have HS := Lib.hid hst
          clear hst
          by_cases hg0 : gk = 0
          · subst hg0
            go_wp2
            exact bodyPost_ret (v := .agg #[.bool false, .int .i64 0, .string st]) (by simp [results, Try.results46, go_sem, *]) rfl (by rw [ev2.out]; obtain ⟨rfl, rfl⟩ := (show (Z.1 = st ∧ Z.2 = rs) from (HS.out ▸ ⟨rfl, rfl⟩)); exact ⟨rfl, by repeat (first | with_reducible exact Moved.refl _ _ | with_reducible assumption | with_reducible refine Moved.al ?_ _ | with_reducible refine Moved.onE ?_ _ | with_reducible refine Moved.on ?_ _ | with_reducible refine Moved.st ?_ _ _ _ | with_reducible refine Moved.stn ?_ (by first | assumption | (simp; done) | (simp; omega)) _ | with_reducible refine Moved.drew ?_), ((hs5.stn (by simp; omega) _).stn (by simp; omega) _).stn (by simp; omega) _⟩)
          · have hg1 : (0 : Int) < gk := by omega
            have hcv : ∀ (w0 : World) (x : Int), (convert 108 9 (.slice (some ⟨w0.heap.size, 0, none⟩) 1 1)).run Try.prog (w0.alloc (.cells #[.int .u8 x] 5)) = .ok (.string ⟨#[UInt8.ofNat x.toNat]⟩) (w0.alloc (.cells #[.int .u8 x] 5)) := fun w0 x => run_str_one (e := 5) w0 x (by kernel_rfl) (by kernel_rfl) (by kernel_rfl)
            have hsu : ∀ u : ByteArray, u.size = 1 → ¬ (9223372036854775807 < st.size + u.size) := by intro u hu; omega
            go_wp2_with (go_at_call 24; refine (next_any sb rs 3 (by decide) (by decide) _ hs5).mono ?_; rintro e w6 ⟨rfl, hm6, hs6⟩; obtain ⟨y6, rfl⟩ := y5.to hm6)
            go_roundg (gk - 1)
            case measure => omega
            case rel =>
              obtain ⟨g1, rfl⟩ : ∃ g1, gk = g1 + 1 := ⟨gk - 1, by omega⟩
              refine ⟨_, _, ?_, rfl, by go_num, HS.out, (y6.moved.al _ |> fun h => ExtM.of h), hs6.al _⟩
              rw [ByteArray.size_append]; show st.size + 1 + (g1 + 1 - 1) ≤ 3; omega
      · have ev2 := Lib.hid (ev.out.trans (if_neg t3))
        clear ev
        by_cases t2 : ty = 2
        · subst t2
          have ef := Lib.hid (show fitN 2 (numF r0).1 = bits .and .i64 (numF r0).1 1 by rfl)
          have eg := Lib.hid (ev2.out.trans (by rw [ef.out]))
          clear ev2 ef
          go_wp2
          exact bodyPost_ret (v := .agg #[.bool false, .int .i64 (bits .and .i64 (numF r0).1 1), .string ⟨#[]⟩]) (by simp [results, Try.results46, go_sem, *]) rfl (by rw [eg.out]; exact ⟨rfl, by repeat (first | with_reducible exact Moved.refl _ _ | with_reducible assumption | with_reducible refine Moved.al ?_ _ | with_reducible refine Moved.onE ?_ _ | with_reducible refine Moved.on ?_ _ | with_reducible refine Moved.st ?_ _ _ _ | with_reducible refine Moved.stn ?_ (by first | assumption | (simp; done) | (simp; omega)) _ | with_reducible refine Moved.drew ?_), ((hs3.stn (by simp; omega) _).stn (by simp; omega) _).stn (by simp; omega) _⟩)
        by_cases t4 : ty = 4
        · subst t4
          have ef := Lib.hid (show fitN 4 (numF r0).1 = (numF r0).1.tmod 700000 by rfl)
          have eg := Lib.hid (ev2.out.trans (by rw [ef.out]))
          clear ev2 ef
          go_wp2
          exact bodyPost_ret (v := .agg #[.bool false, .int .i64 ((numF r0).1.tmod 700000), .string ⟨#[]⟩]) (by simp [results, Try.results46, go_sem, *]) rfl (by rw [eg.out]; exact ⟨rfl, by repeat (first | with_reducible exact Moved.refl _ _ | with_reducible assumption | with_reducible refine Moved.al ?_ _ | with_reducible refine Moved.onE ?_ _ | with_reducible refine Moved.on ?_ _ | with_reducible refine Moved.st ?_ _ _ _ | with_reducible refine Moved.stn ?_ (by first | assumption | (simp; done) | (simp; omega)) _ | with_reducible refine Moved.drew ?_), ((hs3.stn (by simp; omega) _).stn (by simp; omega) _).stn (by simp; omega) _⟩)
        by_cases t5 : ty = 5
        · subst t5
          have ef := Lib.hid (show fitN 5 (numF r0).1 = (numF r0).1.tmod 1000000000000000000 by rfl)
          have eg := Lib.hid (ev2.out.trans (by rw [ef.out]))
          clear ev2 ef
          go_wp2
          exact bodyPost_ret (v := .agg #[.bool false, .int .i64 ((numF r0).1.tmod 1000000000000000000), .string ⟨#[]⟩]) (by simp [results, Try.results46, go_sem, *]) rfl (by rw [eg.out]; exact ⟨rfl, by repeat (first | with_reducible exact Moved.refl _ _ | with_reducible assumption | with_reducible refine Moved.al ?_ _ | with_reducible refine Moved.onE ?_ _ | with_reducible refine Moved.on ?_ _ | with_reducible refine Moved.st ?_ _ _ _ | with_reducible refine Moved.stn ?_ (by first | assumption | (simp; done) | (simp; omega)) _ | with_reducible refine Moved.drew ?_), ((hs3.stn (by simp; omega) _).stn (by simp; omega) _).stn (by simp; omega) _⟩)
        · skip
          have ef := Lib.hid (show fitN ty (numF r0).1 = (numF r0).1 by simp [fitN, t2, t4, t5])
          have eg := Lib.hid (ev2.out.trans (by rw [ef.out]))
          clear ev2 ef
          go_wp2
          exact bodyPost_ret (v := .agg #[.bool false, .int .i64 ((numF r0).1), .string ⟨#[]⟩]) (by simp [results, Try.results46, go_sem, *]) rfl (by rw [eg.out]; exact ⟨rfl, by repeat (first | with_reducible exact Moved.refl _ _ | with_reducible assumption | with_reducible refine Moved.al ?_ _ | with_reducible refine Moved.onE ?_ _ | with_reducible refine Moved.on ?_ _ | with_reducible refine Moved.st ?_ _ _ _ | with_reducible refine Moved.stn ?_ (by first | assumption | (simp; done) | (simp; omega)) _ | with_reducible refine Moved.drew ?_), ((hs3.stn (by simp; omega) _).stn (by simp; omega) _).stn (by simp; omega) _⟩)
end Go.Proofs.Ytpahoenanfjhpaa
namespace Go.Proofs.Ytpahoenanfjhpaa
open Go.RowKit
def azB (c : UInt8) : Bool := decide (97 ≤ c.toNat) && decide (c.toNat ≤ 122)
def okB (c : UInt8) : Bool := azB c || (decide (48 ≤ c.toNat) && decide (c.toNat ≤ 57)) || decide (c.toNat = 95)
def nameF (l : List UInt8) : Bool := match l with
  | [] => false
  | a :: r => azB a && decide ((a :: r).length ≤ 16) && !((a :: r) == [107, 101, 121]) && (a :: r).all okB
theorem nameF_ok {l : List UInt8} (h : l.all okB = false) : nameF l = false := by
  cases l with
  | nil => rfl
  | cons a r => simp only [nameF, h, Bool.and_false]
theorem all_bad {l : List UInt8} {k : Nat} (h : k < l.length) (hb : okB (l[k]'h) = false) : l.all okB = false := by
  rw [← Bool.not_eq_true, List.all_eq_true]; intro hh; rw [hh _ (List.getElem_mem h)] at hb; cases hb
theorem all_good {l : List UInt8} (h : ∀ k (h : k < l.length), okB (l[k]'h) = true) : l.all okB = true := List.all_eq_true.2 fun x hx => by obtain ⟨k, hk, rfl⟩ := List.getElem_of_mem hx; exact h k hk
set_option maxRecDepth 8000 in
set_option maxHeartbeats 2000000 in
theorem name_any (S : ByteArray) (w : World) : Calls Try.prog 76 #[.string S] w fun e w' => e = .returned (.bool (nameF S.toList)) ∧ Below w.heap.size w w' := by
  obtain ⟨n, hn⟩ : ∃ n, S.size = n := ⟨_, rfl⟩
  obtain ⟨l, hl⟩ : ∃ l, S.toList = l := ⟨_, rfl⟩
  have ll : l.length = n := by rw [← hl, ByteArray.toList_eq, Array.length_toList]; exact hn
  have TB : ∀ k (h : k < S.size) (h' : k < l.length), S[k]'h = l[k]'(h') := by intro k h h'; subst hl; simp [ByteArray.toList_eq]; rfl
  rw [hl]
  cases l with
  | nil =>
    obtain rfl : 0 = n := ll
    have NF := Lib.hid (show nameF [] = false from rfl)
    have ie : S.toList.isEmpty = true := by rw [hl]; rfl
    clear TB
    go_enter Try.func76, Try.ntmps76
    go_wp2
    exact bodyPost_ret (v := .bool false) (by simp [results, Try.results76, go_sem, *]) rfl (⟨by rw [NF.out], by repeat (first | with_reducible exact Below.refl _ _ | with_reducible assumption)⟩)
  | cons a r =>
    have ie : S.toList.isEmpty = false := by rw [hl]; rfl
    have n0 : 0 < n := by rw [← ll]; simp
    have n0' : ¬ (n : Int) < 1 := by omega
    have n0'' : ¬ n = 0 := by omega
    have ta : ∀ h : 0 < S.size, S[0]'h = a := fun h => TB 0 h (by simp)
    by_cases h16 : 16 < n
    · have NF := Lib.hid (show nameF (a :: r) = false by simp only [nameF]; rw [decide_eq_false (by omega)]; simp)
      have h16' : (16 : Int) < (n : Int) := by omega
      clear TB hl ll
      go_enter Try.func76, Try.ntmps76
      go_wp2
      exact bodyPost_ret (v := .bool false) (by simp [results, Try.results76, go_sem, *]) rfl (⟨by rw [NF.out], by repeat (first | with_reducible exact Below.refl _ _ | with_reducible assumption)⟩)
    have h16' : ¬ (16 : Int) < (n : Int) := by omega
    by_cases a1 : a.toNat < 97
    · have NF := Lib.hid (show nameF (a :: r) = false by simp only [nameF, azB]; rw [decide_eq_false (by omega)]; simp)
      have a1' : (a.toNat : Int) < 97 := by omega
      clear TB hl ll
      go_enter Try.func76, Try.ntmps76
      go_wp2
      exact bodyPost_ret (v := .bool false) (by simp [results, Try.results76, go_sem, *]) rfl (⟨by rw [NF.out], by repeat (first | with_reducible exact Below.refl _ _ | with_reducible assumption)⟩)
    have a1' : ¬ (a.toNat : Int) < 97 := by omega
    by_cases a2 : 122 < a.toNat
    · have NF := Lib.hid (show nameF (a :: r) = false by simp only [nameF, azB]; rw [decide_eq_false (by omega : ¬ a.toNat ≤ 122)]; simp)
      have a2' : (122 : Int) < (a.toNat : Int) := by omega
      clear TB hl ll
      go_enter Try.func76, Try.ntmps76
      go_wp2
      exact bodyPost_ret (v := .bool false) (by simp [results, Try.results76, go_sem, *]) rfl (⟨by rw [NF.out], by repeat (first | with_reducible exact Below.refl _ _ | with_reducible assumption)⟩)
    have a2' : ¬ (122 : Int) < (a.toNat : Int) := by omega
    by_cases hk : (a :: r) = [107, 101, 121]
    · have NF := Lib.hid (show nameF (a :: r) = false by rw [hk]; rfl)
      have hk' : (S.toList == [107, 101, 121]) = true := by rw [hl, hk]; rfl
      clear TB hk ll hl
      go_enter Try.func76, Try.ntmps76
      go_wp2
      exact bodyPost_ret (v := .bool false) (by simp [results, Try.results76, go_sem, *]) rfl (⟨by rw [NF.out], by repeat (first | with_reducible exact Below.refl _ _ | with_reducible assumption)⟩)
    have hk' : (S.toList == [107, 101, 121]) = false := by rw [hl]; simpa using hk
    have TB' := Lib.hid TB
    have HL := Lib.hid ll
    have KK := Lib.hid hk
    have AA := Lib.hid (And.intro h16 (And.intro a1 a2))
    have BAD : Hid (∀ k (h : k < (a :: r).length), okB ((a :: r)[k]'h) = false → nameF (a :: r) = false) := Lib.hid fun k h hb => nameF_ok (all_bad h hb)
    clear TB hk ll hl a1 a2
    go_enter Try.func76, Try.ntmps76
    go_wp2_with fail
    go_loopg [28] n (fun g s wr => ∃ k : Nat, k + g = n ∧ s = .int .i64 (k : Int) ∧ (∀ i (h : i < (a :: r).length), i < k → okB ((a :: r)[i]'h) = true) ∧ w = wr)
    case atStart => exact ⟨0, by omega, rfl, (fun i _ h => absurd h (by omega)), rfl⟩
    case round =>
      obtain ⟨k, hk, rfl, hdk, rfl⟩ := hrel
      by_cases hg0 : gk = 0
      · subst hg0
        obtain rfl : k = n := by omega
        have hall : (a :: r).all okB = true := all_good fun i h => hdk i h (by rw [← HL.out]; exact h)
        have NF := Lib.hid (show nameF (a :: r) = true by
          simp only [nameF]
          rw [hall, show azB a = true from by unfold azB; rw [decide_eq_true (by have := AA.out.2.1; omega), decide_eq_true (by have := AA.out.2.2; omega)]; rfl, decide_eq_true (by have := HL.out; omega), show ((a :: r) == [107, 101, 121]) = false from by simpa using KK.out]; rfl)
        clear hdk hall hk
        go_wp2
        exact bodyPost_ret (v := .bool true) (by simp [results, Try.results76, go_sem, *]) rfl (⟨by rw [NF.out], by repeat (first | with_reducible exact Below.refl _ _ | with_reducible assumption)⟩)
      · have hkn : k < n := by omega
        have hkn' : (k : Int) < n := by omega
        have hkl : k < (a :: r).length := by rw [HL.out]; exact hkn
        obtain ⟨c, hc⟩ : ∃ c, (a :: r)[k]'hkl = c := ⟨_, rfl⟩
        have tc : ∀ h : k < S.size, S[k]'h = c := fun h => (TB'.out k h hkl).trans hc
        have HK := Lib.hid hk
        have HD := Lib.hid hdk
        have HC := Lib.hid hc
        have CW : (97 ≤ c.toNat ∧ c.toNat ≤ 122) ∨ c.toNat < 48 ∨ (48 ≤ c.toNat ∧ c.toNat ≤ 57) ∨ c.toNat = 95 ∨ (57 < c.toNat ∧ c.toNat < 97 ∧ ¬ c.toNat = 95) ∨ 122 < c.toNat := by omega
        clear hk hdk hc
        rcases CW with q | q | q | q | q | q
        · have q0 : ¬ (c.toNat : Int) < 97 := by omega
          have q1 : ¬ (122 : Int) < (c.toNat : Int) := by omega
          have q2 : (97 : Int) ≤ (c.toNat : Int) := by omega
          have q3 : (c.toNat : Int) ≤ 122 := by omega
          have okc : okB c = true := by unfold okB azB; simp; omega
          have OK := Lib.hid okc
          clear q hg0 okc
          go_wp2
          go_roundg (gk - 1)
          case measure => have := HK.out; omega
          case rel => exact ⟨k + 1, by have := HK.out; omega, by go_num, (fun i h hi => by rcases Nat.lt_or_ge i k with q | q; exact HD.out i h q; obtain rfl : i = k := (by omega); rw [HC.out]; exact OK.out), rfl⟩
        · have q0 : (c.toNat : Int) < 97 := by omega
          have q1 : (c.toNat : Int) < 48 := by omega
          have q2 : ¬ (97 : Int) ≤ (c.toNat : Int) := by omega
          have q3 : ¬ (c.toNat : Int) = 95 := by omega
          have e3 : ((c.toNat : Int) != 95) = true := by simpa using q3
          have okc : okB c = false := by unfold okB azB; simp; omega
          have NF := Lib.hid (BAD.out _ hkl (by rw [HC.out]; exact okc))
          clear q hg0 okc
          go_wp2
          exact bodyPost_ret (v := .bool false) (by simp [results, Try.results76, go_sem, *]) rfl (⟨by rw [NF.out], by repeat (first | with_reducible exact Below.refl _ _ | with_reducible assumption)⟩)
        · have q0 : (c.toNat : Int) < 97 := by omega
          have q1 : ¬ (c.toNat : Int) < 48 := by omega
          have q2 : ¬ (57 : Int) < (c.toNat : Int) := by omega
          have q3 : ¬ (97 : Int) ≤ (c.toNat : Int) := by omega
          have q4 : ¬ (c.toNat : Int) = 95 := by omega
          have e4 : ((c.toNat : Int) != 95) = true := by simpa using q4
          have okc : okB c = true := by unfold okB azB; simp; omega
          have OK := Lib.hid okc
          clear q hg0 okc
          go_wp2
          go_roundg (gk - 1)
          case measure => have := HK.out; omega
          case rel => exact ⟨k + 1, by have := HK.out; omega, by go_num, (fun i h hi => by rcases Nat.lt_or_ge i k with q | q; exact HD.out i h q; obtain rfl : i = k := (by omega); rw [HC.out]; exact OK.out), rfl⟩
        · have q0 : (c.toNat : Int) < 97 := by omega
          have q1 : ¬ (c.toNat : Int) < 48 := by omega
          have q2 : (57 : Int) < (c.toNat : Int) := by omega
          have q3 : (c.toNat : Int) = 95 := by omega
          have e3 : ((c.toNat : Int) != 95) = false := by simpa using q3
          have q4 : ¬ (97 : Int) ≤ (c.toNat : Int) := by omega
          have okc : okB c = true := by unfold okB azB; simp; omega
          have OK := Lib.hid okc
          clear q hg0 okc
          go_wp2
          go_roundg (gk - 1)
          case measure => have := HK.out; omega
          case rel => exact ⟨k + 1, by have := HK.out; omega, by go_num, (fun i h hi => by rcases Nat.lt_or_ge i k with q | q; exact HD.out i h q; obtain rfl : i = k := (by omega); rw [HC.out]; exact OK.out), rfl⟩
        · have q0 : (c.toNat : Int) < 97 := by omega
          have q1 : ¬ (c.toNat : Int) < 48 := by omega
          have q2 : (57 : Int) < (c.toNat : Int) := by omega
          have q3 : ¬ (c.toNat : Int) = 95 := by omega
          have e3 : ((c.toNat : Int) != 95) = true := by simpa using q3
          have q4 : ¬ (97 : Int) ≤ (c.toNat : Int) := by omega
          have okc : okB c = false := by unfold okB azB; simp; omega
          have NF := Lib.hid (BAD.out _ hkl (by rw [HC.out]; exact okc))
          clear q hg0 okc
          go_wp2
          exact bodyPost_ret (v := .bool false) (by simp [results, Try.results76, go_sem, *]) rfl (⟨by rw [NF.out], by repeat (first | with_reducible exact Below.refl _ _ | with_reducible assumption)⟩)
        · have q0 : ¬ (c.toNat : Int) < 97 := by omega
          have q1 : (122 : Int) < (c.toNat : Int) := by omega
          have q2 : ¬ (c.toNat : Int) < 48 := by omega
          have q3 : (57 : Int) < (c.toNat : Int) := by omega
          have q4 : ¬ (c.toNat : Int) = 95 := by omega
          have e4 : ((c.toNat : Int) != 95) = true := by simpa using q4
          have q5 : (97 : Int) ≤ (c.toNat : Int) := by omega
          have q6 : ¬ (c.toNat : Int) ≤ 122 := by omega
          have okc : okB c = false := by unfold okB azB; simp; omega
          have NF := Lib.hid (BAD.out _ hkl (by rw [HC.out]; exact okc))
          clear q hg0 okc
          go_wp2
          exact bodyPost_ret (v := .bool false) (by simp [results, Try.results76, go_sem, *]) rfl (⟨by rw [NF.out], by repeat (first | with_reducible exact Below.refl _ _ | with_reducible assumption)⟩)
set_option maxRecDepth 8000 in
set_option maxHeartbeats 2000000 in
theorem refName_any (S : ByteArray) (w : World) : Calls Try.prog 65 #[.string S] w fun e w' => e = .returned (.bool (nameF S.toList)) ∧ Below w.heap.size w w' := by
  obtain ⟨n, hn⟩ : ∃ n, S.size = n := ⟨_, rfl⟩
  obtain ⟨l, hl⟩ : ∃ l, S.toList = l := ⟨_, rfl⟩
  have ll : l.length = n := by rw [← hl, ByteArray.toList_eq, Array.length_toList]; exact hn
  have TB : ∀ k (h : k < S.size) (h' : k < l.length), S[k]'h = l[k]'(h') := by intro k h h'; subst hl; simp [ByteArray.toList_eq]; rfl
  rw [hl]
  cases l with
  | nil =>
    obtain rfl : 0 = n := ll
    have NF := Lib.hid (show nameF [] = false from rfl)
    have ie : S.toList.isEmpty = true := by rw [hl]; rfl
    clear TB
    go_enter Try.func65, Try.ntmps65
    go_wp2
    exact bodyPost_ret (v := .bool false) (by simp [results, Try.results65, go_sem, *]) rfl (⟨by rw [NF.out], by repeat (first | with_reducible exact Below.refl _ _ | with_reducible assumption)⟩)
  | cons a r =>
    have ie : S.toList.isEmpty = false := by rw [hl]; rfl
    have n0 : 0 < n := by rw [← ll]; simp
    have n0' : ¬ (n : Int) < 1 := by omega
    have n0'' : ¬ n = 0 := by omega
    skip
    by_cases h16 : 16 < n
    · have NF := Lib.hid (show nameF (a :: r) = false by simp only [nameF]; rw [decide_eq_false (by omega)]; simp)
      have h16' : (16 : Int) < (n : Int) := by omega
      clear TB hl ll
      go_enter Try.func65, Try.ntmps65
      go_wp2
      exact bodyPost_ret (v := .bool false) (by simp [results, Try.results65, go_sem, *]) rfl (⟨by rw [NF.out], by repeat (first | with_reducible exact Below.refl _ _ | with_reducible assumption)⟩)
    have h16' : ¬ (16 : Int) < (n : Int) := by omega
    by_cases hk : (a :: r) = [107, 101, 121]
    · have NF := Lib.hid (show nameF (a :: r) = false by rw [hk]; rfl)
      have hk' : (S.toList == [107, 101, 121]) = true := by rw [hl, hk]; rfl
      clear TB hk ll hl
      go_enter Try.func65, Try.ntmps65
      go_wp2
      exact bodyPost_ret (v := .bool false) (by simp [results, Try.results65, go_sem, *]) rfl (⟨by rw [NF.out], by repeat (first | with_reducible exact Below.refl _ _ | with_reducible assumption)⟩)
    have hk' : (S.toList == [107, 101, 121]) = false := by rw [hl]; simpa using hk
    have TB' := Lib.hid TB
    have HL := Lib.hid ll
    have KK := Lib.hid hk
    have AA := Lib.hid (And.intro h16 trivial)
    have BAD : Hid (∀ k (h : k < (a :: r).length), okB ((a :: r)[k]'h) = false → nameF (a :: r) = false) := Lib.hid fun k h hb => nameF_ok (all_bad h hb)
    clear TB hk ll hl 
    go_enter Try.func65, Try.ntmps65
    go_wp2_with fail
    go_loopg [3] n (fun g s wr => ∃ k : Nat, k + g = n ∧ s = .int .i64 (k : Int) ∧ (∀ i (h : i < (a :: r).length), i < k → okB ((a :: r)[i]'h) = true ∧ (i = 0 → azB ((a :: r)[i]'h) = true)) ∧ w = wr)
    case atStart => exact ⟨0, by omega, rfl, (fun i _ h => absurd h (by omega)), rfl⟩
    case round =>
      obtain ⟨k, hk, rfl, hdk, rfl⟩ := hrel
      by_cases hg0 : gk = 0
      · subst hg0
        obtain rfl : k = n := by omega
        have hall : (a :: r).all okB = true := all_good fun i h => (hdk i h (by rw [← HL.out]; exact h)).1
        have NF := Lib.hid (show nameF (a :: r) = true by
          simp only [nameF]
          rw [hall, show azB a = true from (hdk 0 (by simp) (by omega)).2 rfl, decide_eq_true (by have := HL.out; omega), show ((a :: r) == [107, 101, 121]) = false from by simpa using KK.out]; rfl)
        clear hdk hall hk
        go_wp2
        exact bodyPost_ret (v := .bool true) (by simp [results, Try.results65, go_sem, *]) rfl (⟨by rw [NF.out], by repeat (first | with_reducible exact Below.refl _ _ | with_reducible assumption)⟩)
      · have hkn : k < n := by omega
        have hkn' : (k : Int) < n := by omega
        have hkl : k < (a :: r).length := by rw [HL.out]; exact hkn
        obtain ⟨c, hc⟩ : ∃ c, (a :: r)[k]'hkl = c := ⟨_, rfl⟩
        have tc : ∀ h : k < S.size, S[k]'h = c := fun h => (TB'.out k h hkl).trans hc
        have HK := Lib.hid hk
        have HD := Lib.hid hdk
        have HC := Lib.hid hc
        have CW : (97 ≤ c.toNat ∧ c.toNat ≤ 122) ∨ c.toNat < 48 ∨ (48 ≤ c.toNat ∧ c.toNat ≤ 57) ∨ c.toNat = 95 ∨ (57 < c.toNat ∧ c.toNat < 97 ∧ ¬ c.toNat = 95) ∨ 122 < c.toNat := by omega
        clear hk hdk hc
        rcases CW with q | q | q | q | q | q
        · have q0 : ¬ (c.toNat : Int) < 97 := by omega
          have q1 : ¬ (122 : Int) < (c.toNat : Int) := by omega
          have q2 : (97 : Int) ≤ (c.toNat : Int) := by omega
          have q3 : (c.toNat : Int) ≤ 122 := by omega
          have okc : okB c = true := by unfold okB azB; simp; omega
          have OK := Lib.hid okc
          have AZ : Hid (k = 0 → azB c = true) := Lib.hid fun k0 => by unfold azB; simp; omega
          clear q hg0 okc
          go_wp2
          go_roundg (gk - 1)
          case measure => have := HK.out; omega
          case rel => exact ⟨k + 1, by have := HK.out; omega, by go_num, (fun i h hi => by rcases Nat.lt_or_ge i k with q | q; exact HD.out i h q; obtain rfl : i = k := (by omega); rw [HC.out]; exact ⟨OK.out, AZ.out⟩), rfl⟩
        · by_cases k0 : k = 0
          · have q0 : (c.toNat : Int) < 97 := by omega
            have q1 : (c.toNat : Int) < 48 := by omega
            have q2 : ¬ (97 : Int) ≤ (c.toNat : Int) := by omega
            have q3 : ¬ (c.toNat : Int) = 95 := by omega
            have e3 : ((c.toNat : Int) != 95) = true := by simpa using q3
            subst k0
            have okc : okB c = false := by unfold okB azB; simp; omega
            have NF := Lib.hid (BAD.out _ hkl (by rw [HC.out]; exact okc))
            clear q hg0 okc
            go_wp2
            exact bodyPost_ret (v := .bool false) (by simp [results, Try.results65, go_sem, *]) rfl (⟨by rw [NF.out], by repeat (first | with_reducible exact Below.refl _ _ | with_reducible assumption)⟩)
          · have q0 : (c.toNat : Int) < 97 := by omega
            have q1 : (c.toNat : Int) < 48 := by omega
            have q2 : ¬ (97 : Int) ≤ (c.toNat : Int) := by omega
            have q3 : ¬ (c.toNat : Int) = 95 := by omega
            have e3 : ((c.toNat : Int) != 95) = true := by simpa using q3
            have k0' : ((k : Int) == 0) = false := by simpa using k0
            have okc : okB c = false := by unfold okB azB; simp; omega
            have NF := Lib.hid (BAD.out _ hkl (by rw [HC.out]; exact okc))
            clear q hg0 okc
            go_wp2
            exact bodyPost_ret (v := .bool false) (by simp [results, Try.results65, go_sem, *]) rfl (⟨by rw [NF.out], by repeat (first | with_reducible exact Below.refl _ _ | with_reducible assumption)⟩)
        · by_cases k0 : k = 0
          · have q0 : (c.toNat : Int) < 97 := by omega
            have q1 : ¬ (c.toNat : Int) < 48 := by omega
            have q2 : ¬ (57 : Int) < (c.toNat : Int) := by omega
            have q3 : ¬ (97 : Int) ≤ (c.toNat : Int) := by omega
            have q4 : ¬ (c.toNat : Int) = 95 := by omega
            have e4 : ((c.toNat : Int) != 95) = true := by simpa using q4
            subst k0
            have NF := Lib.hid (show nameF (a :: r) = false by have e : a = c := by { have := HC.out; simpa using this }; simp only [nameF, azB]; rw [e]; simp; omega)
            clear q hg0
            go_wp2
            exact bodyPost_ret (v := .bool false) (by simp [results, Try.results65, go_sem, *]) rfl (⟨by rw [NF.out], by repeat (first | with_reducible exact Below.refl _ _ | with_reducible assumption)⟩)
          · have q0 : (c.toNat : Int) < 97 := by omega
            have q1 : ¬ (c.toNat : Int) < 48 := by omega
            have q2 : ¬ (57 : Int) < (c.toNat : Int) := by omega
            have q3 : ¬ (97 : Int) ≤ (c.toNat : Int) := by omega
            have q4 : ¬ (c.toNat : Int) = 95 := by omega
            have e4 : ((c.toNat : Int) != 95) = true := by simpa using q4
            have k0' : ((k : Int) == 0) = false := by simpa using k0
            have okc : okB c = true := by unfold okB azB; simp; omega
            have OK := Lib.hid okc
            have AZ : Hid (k = 0 → azB c = true) := Lib.hid fun k0 => by omega
            clear q hg0 okc
            go_wp2
            go_roundg (gk - 1)
            case measure => have := HK.out; omega
            case rel => exact ⟨k + 1, by have := HK.out; omega, by go_num, (fun i h hi => by rcases Nat.lt_or_ge i k with q | q; exact HD.out i h q; obtain rfl : i = k := (by omega); rw [HC.out]; exact ⟨OK.out, AZ.out⟩), rfl⟩
        · by_cases k0 : k = 0
          · have q0 : (c.toNat : Int) < 97 := by omega
            have q1 : ¬ (c.toNat : Int) < 48 := by omega
            have q2 : (57 : Int) < (c.toNat : Int) := by omega
            have q3 : (c.toNat : Int) = 95 := by omega
            have e3 : ((c.toNat : Int) != 95) = false := by simpa using q3
            have q4 : ¬ (97 : Int) ≤ (c.toNat : Int) := by omega
            subst k0
            have NF := Lib.hid (show nameF (a :: r) = false by have e : a = c := by { have := HC.out; simpa using this }; simp only [nameF, azB]; rw [e]; simp; omega)
            clear q hg0
            go_wp2
            exact bodyPost_ret (v := .bool false) (by simp [results, Try.results65, go_sem, *]) rfl (⟨by rw [NF.out], by repeat (first | with_reducible exact Below.refl _ _ | with_reducible assumption)⟩)
          · have q0 : (c.toNat : Int) < 97 := by omega
            have q1 : ¬ (c.toNat : Int) < 48 := by omega
            have q2 : (57 : Int) < (c.toNat : Int) := by omega
            have q3 : (c.toNat : Int) = 95 := by omega
            have e3 : ((c.toNat : Int) != 95) = false := by simpa using q3
            have q4 : ¬ (97 : Int) ≤ (c.toNat : Int) := by omega
            have k0' : ((k : Int) == 0) = false := by simpa using k0
            have okc : okB c = true := by unfold okB azB; simp; omega
            have OK := Lib.hid okc
            have AZ : Hid (k = 0 → azB c = true) := Lib.hid fun k0 => by omega
            clear q hg0 okc
            go_wp2
            go_roundg (gk - 1)
            case measure => have := HK.out; omega
            case rel => exact ⟨k + 1, by have := HK.out; omega, by go_num, (fun i h hi => by rcases Nat.lt_or_ge i k with q | q; exact HD.out i h q; obtain rfl : i = k := (by omega); rw [HC.out]; exact ⟨OK.out, AZ.out⟩), rfl⟩
        · by_cases k0 : k = 0
          · have q0 : (c.toNat : Int) < 97 := by omega
            have q1 : ¬ (c.toNat : Int) < 48 := by omega
            have q2 : (57 : Int) < (c.toNat : Int) := by omega
            have q3 : ¬ (c.toNat : Int) = 95 := by omega
            have e3 : ((c.toNat : Int) != 95) = true := by simpa using q3
            have q4 : ¬ (97 : Int) ≤ (c.toNat : Int) := by omega
            subst k0
            have okc : okB c = false := by unfold okB azB; simp; omega
            have NF := Lib.hid (BAD.out _ hkl (by rw [HC.out]; exact okc))
            clear q hg0 okc
            go_wp2
            exact bodyPost_ret (v := .bool false) (by simp [results, Try.results65, go_sem, *]) rfl (⟨by rw [NF.out], by repeat (first | with_reducible exact Below.refl _ _ | with_reducible assumption)⟩)
          · have q0 : (c.toNat : Int) < 97 := by omega
            have q1 : ¬ (c.toNat : Int) < 48 := by omega
            have q2 : (57 : Int) < (c.toNat : Int) := by omega
            have q3 : ¬ (c.toNat : Int) = 95 := by omega
            have e3 : ((c.toNat : Int) != 95) = true := by simpa using q3
            have q4 : ¬ (97 : Int) ≤ (c.toNat : Int) := by omega
            have k0' : ((k : Int) == 0) = false := by simpa using k0
            have okc : okB c = false := by unfold okB azB; simp; omega
            have NF := Lib.hid (BAD.out _ hkl (by rw [HC.out]; exact okc))
            clear q hg0 okc
            go_wp2
            exact bodyPost_ret (v := .bool false) (by simp [results, Try.results65, go_sem, *]) rfl (⟨by rw [NF.out], by repeat (first | with_reducible exact Below.refl _ _ | with_reducible assumption)⟩)
        · by_cases k0 : k = 0
          · have q0 : ¬ (c.toNat : Int) < 97 := by omega
            have q1 : (122 : Int) < (c.toNat : Int) := by omega
            have q2 : ¬ (c.toNat : Int) < 48 := by omega
            have q3 : (57 : Int) < (c.toNat : Int) := by omega
            have q4 : ¬ (c.toNat : Int) = 95 := by omega
            have e4 : ((c.toNat : Int) != 95) = true := by simpa using q4
            have q5 : (97 : Int) ≤ (c.toNat : Int) := by omega
            have q6 : ¬ (c.toNat : Int) ≤ 122 := by omega
            subst k0
            have okc : okB c = false := by unfold okB azB; simp; omega
            have NF := Lib.hid (BAD.out _ hkl (by rw [HC.out]; exact okc))
            clear q hg0 okc
            go_wp2
            exact bodyPost_ret (v := .bool false) (by simp [results, Try.results65, go_sem, *]) rfl (⟨by rw [NF.out], by repeat (first | with_reducible exact Below.refl _ _ | with_reducible assumption)⟩)
          · have q0 : ¬ (c.toNat : Int) < 97 := by omega
            have q1 : (122 : Int) < (c.toNat : Int) := by omega
            have q2 : ¬ (c.toNat : Int) < 48 := by omega
            have q3 : (57 : Int) < (c.toNat : Int) := by omega
            have q4 : ¬ (c.toNat : Int) = 95 := by omega
            have e4 : ((c.toNat : Int) != 95) = true := by simpa using q4
            have q5 : (97 : Int) ≤ (c.toNat : Int) := by omega
            have q6 : ¬ (c.toNat : Int) ≤ 122 := by omega
            have k0' : ((k : Int) == 0) = false := by simpa using k0
            have okc : okB c = false := by unfold okB azB; simp; omega
            have NF := Lib.hid (BAD.out _ hkl (by rw [HC.out]; exact okc))
            clear q hg0 okc
            go_wp2
            exact bodyPost_ret (v := .bool false) (by simp [results, Try.results65, go_sem, *]) rfl (⟨by rw [NF.out], by repeat (first | with_reducible exact Below.refl _ _ | with_reducible assumption)⟩)
end Go.Proofs.Ytpahoenanfjhpaa
namespace Go.Proofs.Ytpahoenanfjhpaa
open Go.RowKit
theorem captureE {P : Program} {c : Code} {Q : Exit → Act → World → Prop} {a : Act} {W : World} (h : ∀ y : Ext W, y.it = W → c.wp P Q a y.it) : c.wp P Q a W := h ⟨W, Below.refl _ _⟩ rfl
end Go.Proofs.Ytpahoenanfjhpaa
