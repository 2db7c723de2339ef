/-
  VALUES: the order of two values, and when a value is valid: what value.Compare, value.Check and their references return.
  Conditions: none.
-/
import Derived.Test.YtgooffpmiilicaaRows
import Derived.Test.YtgooffpmiilicaaFloat
import Derived.Lib.Hide
namespace Go.Proofs.Ytgooffpmiilicaa
open Go.RowKit

/-- a value of a column -/
structure Val where
  null : Bool
  n : Int
  s : ByteArray
def Val.zero : Val := ⟨false, 0, ByteArray.empty⟩
/-- the order of two integers, of two strings, of two values: -1, 0, 1 -/
def cmpI (a b : Int) : Int := if a < b then -1 else if a = b then 0 else 1
def cmpS (a b : ByteArray) : Int := if Op.bytesLess a.toList b.toList = true then -1 else if a.toList = b.toList then 0 else 1
def cmpV (t : Int) (x y : Val) : Int := if x.null = true then (if y.null = true then 0 else -1) else if y.null = true then 1 else if t = 3 then cmpS x.s y.s else cmpI x.n y.n

theorem bytesLess_irrefl : ∀ (x : List UInt8), Op.bytesLess x x = false
  | [] => rfl
  | a :: x => by simp [Op.bytesLess, bytesLess_irrefl x]
theorem bytesLess_asymm : ∀ (x y : List UInt8), Op.bytesLess x y = true → Op.bytesLess y x = false
  | [], [], _ => rfl
  | [], _ :: _, _ => rfl
  | _ :: _, [], h => by simp [Op.bytesLess] at h
  | a :: x, b :: y, h => by
    simp only [Op.bytesLess, Bool.or_eq_true, decide_eq_true_eq, Bool.and_eq_true, beq_iff_eq, Bool.or_eq_false_iff, decide_eq_false_iff_not, Bool.and_eq_false_iff] at h ⊢
    rcases h with h | ⟨rfl, h⟩
    · refine ⟨UInt8.not_lt.2 (UInt8.le_of_lt h), .inl ?_⟩
      simp; intro e; subst e; exact UInt8.lt_irrefl _ h
    · exact ⟨UInt8.lt_irrefl _, .inr (bytesLess_asymm x y h)⟩
theorem bytesLess_total : ∀ (x y : List UInt8), Op.bytesLess x y = true ∨ x = y ∨ Op.bytesLess y x = true
  | [], [] => .inr (.inl rfl)
  | [], _ :: _ => .inl rfl
  | _ :: _, [] => .inr (.inr rfl)
  | a :: x, b :: y => by
    simp only [Op.bytesLess, Bool.or_eq_true, decide_eq_true_eq, Bool.and_eq_true, beq_iff_eq, List.cons.injEq]
    rcases UInt8.lt_or_lt_of_ne (a := a) (b := b) with h
    by_cases e : a = b
    · subst e
      rcases bytesLess_total x y with h1 | h1 | h1
      · exact .inl (.inr ⟨rfl, h1⟩)
      · exact .inr (.inl ⟨rfl, h1⟩)
      · exact .inr (.inr (.inr ⟨rfl, h1⟩))
    · rcases h e with h1 | h1
      · exact .inl (.inl h1)
      · exact .inr (.inr (.inl h1))
theorem bytesLess_trans : ∀ (x y z : List UInt8), Op.bytesLess x y = true → Op.bytesLess y z = true → Op.bytesLess x z = true
  | [], _, [], _, h => by cases ‹List UInt8› <;> simp [Op.bytesLess] at h
  | [], _, _ :: _, _, _ => rfl
  | _ :: _, [], _, h, _ => by simp [Op.bytesLess] at h
  | _ :: _, _ :: _, [], _, h => by simp [Op.bytesLess] at h
  | a :: x, b :: y, c :: z, h1, h2 => by
    simp only [Op.bytesLess, Bool.or_eq_true, decide_eq_true_eq, Bool.and_eq_true, beq_iff_eq] at h1 h2 ⊢
    rcases h1 with h1 | ⟨rfl, h1⟩
    · rcases h2 with h2 | ⟨rfl, h2⟩
      · exact .inl (UInt8.lt_trans h1 h2)
      · exact .inl h1
    · rcases h2 with h2 | ⟨rfl, h2⟩
      · exact .inl h2
      · exact .inr ⟨rfl, bytesLess_trans x y z h1 h2⟩

theorem toList_inj {a b : ByteArray} (h : a.toList = b.toList) : a = b := by
  rw [ByteArray.toList_eq, ByteArray.toList_eq] at h
  obtain ⟨⟨x⟩⟩ := a
  obtain ⟨⟨y⟩⟩ := b
  simp at h
  rw [h]

/-! ### cmp.Compare -/
set_option maxHeartbeats 400000 in
theorem cmpI_any (a b : Int) (w : World) : Calls Try.prog 57 #[.int .i64 a, .int .i64 b] w fun e w' => e = .returned (.int .i64 (cmpI a b)) ∧ w = w' := by
  rcases Int.lt_trichotomy a b with h | h | h
  · have e : cmpI a b = -1 := if_pos h
    rw [e]
    go_enter Try.func57, Try.ntmps57
    go_wp2
    go_ret
    exact ⟨rfl, rfl⟩
  · subst h
    have e : cmpI a a = 0 := by simp [cmpI]
    rw [e]
    go_enter Try.func57, Try.ntmps57
    go_wp2
    go_ret
    exact ⟨rfl, rfl⟩
  · have e : cmpI a b = 1 := by unfold cmpI; rw [if_neg (by omega), if_neg (by omega)]
    rw [e]
    go_enter Try.func57, Try.ntmps57
    go_wp2
    go_ret
    exact ⟨rfl, rfl⟩
set_option maxHeartbeats 400000 in
theorem cmpS_any (a b : ByteArray) (w : World) : Calls Try.prog 69 #[.string a, .string b] w fun e w' => e = .returned (.int .i64 (cmpS a b)) ∧ w = w' := by
  cases h1 : Op.bytesLess a.toList b.toList with
  | true =>
    have e : cmpS a b = -1 := if_pos h1
    rw [e]
    go_enter Try.func69, Try.ntmps69
    go_wp2
    go_ret
    exact ⟨rfl, rfl⟩
  | false =>
    cases h2 : a.toList == b.toList with
    | true =>
      have e : cmpS a b = 0 := by unfold cmpS; rw [if_neg (by rw [h1]; decide), if_pos (by simpa using h2)]
      rw [e]
      go_enter Try.func69, Try.ntmps69
      go_wp2
      go_ret
      exact ⟨rfl, rfl⟩
    | false =>
      have e : cmpS a b = 1 := by unfold cmpS; rw [if_neg (by rw [h1]; decide), if_neg (by simpa using h2)]
      rw [e]
      go_enter Try.func69, Try.ntmps69
      go_wp2
      go_ret
      exact ⟨rfl, rfl⟩

/-! ### value.Compare, ref6.Compare -/

set_option maxHeartbeats 800000 in
theorem compare_any (t : Int) (an : Bool) (a : Int) (sa : ByteArray) (bn : Bool) (b : Int) (sb : ByteArray) (w : World) : Calls Try.prog 56 #[.int .i64 t, .agg #[.bool an, .int .i64 a, .string sa], .agg #[.bool bn, .int .i64 b, .string sb]] w fun e w' => e = .returned (.int .i64 (cmpV t ⟨an, a, sa⟩ ⟨bn, b, sb⟩)) ∧ Below w.heap.size w w' := by
  cases an
  · cases bn
    · by_cases ht : t = 3
      · subst ht
        have e : cmpV 3 ⟨false, a, sa⟩ ⟨false, b, sb⟩ = cmpS sa sb := rfl
        rw [e]
        go_enter Try.func56, Try.ntmps56
        go_wp2_with (first | (go_at_call 69; refine (cmpS_any _ _ _).mono ?_; rintro e w1 ⟨rfl, rfl⟩) | (go_at_call 57; refine (cmpI_any _ _ _).mono ?_; rintro e w1 ⟨rfl, rfl⟩))
        go_ret
        exact ⟨rfl, by repeat (first | exact Below.refl _ _ | apply Below.al | apply Below.on | (refine Below.st ?_ (by first | assumption | (simp; done) | (simp; omega)) _) | apply Below.drew)⟩
      · have e : cmpV t ⟨false, a, sa⟩ ⟨false, b, sb⟩ = cmpI a b := if_neg ht
        rw [e]
        have ht2 : (t == 3) = false := by simpa using ht
        clear ht
        go_enter Try.func56, Try.ntmps56
        go_wp2_with (first | (go_at_call 69; refine (cmpS_any _ _ _).mono ?_; rintro e w1 ⟨rfl, rfl⟩) | (go_at_call 57; refine (cmpI_any _ _ _).mono ?_; rintro e w1 ⟨rfl, rfl⟩))
        go_ret
        exact ⟨rfl, by repeat (first | exact Below.refl _ _ | apply Below.al | apply Below.on | (refine Below.st ?_ (by first | assumption | (simp; done) | (simp; omega)) _) | apply Below.drew)⟩
    · have e : cmpV t ⟨false, a, sa⟩ ⟨true, b, sb⟩ = 1 := rfl
      rw [e]
      go_enter Try.func56, Try.ntmps56
      go_wp2_with (first | (go_at_call 69; refine (cmpS_any _ _ _).mono ?_; rintro e w1 ⟨rfl, rfl⟩) | (go_at_call 57; refine (cmpI_any _ _ _).mono ?_; rintro e w1 ⟨rfl, rfl⟩))
      go_ret
      exact ⟨rfl, by repeat (first | exact Below.refl _ _ | apply Below.al | apply Below.on | (refine Below.st ?_ (by first | assumption | (simp; done) | (simp; omega)) _) | apply Below.drew)⟩
  · cases bn
    · have e : cmpV t ⟨true, a, sa⟩ ⟨false, b, sb⟩ = -1 := rfl
      rw [e]
      go_enter Try.func56, Try.ntmps56
      go_wp2_with (first | (go_at_call 69; refine (cmpS_any _ _ _).mono ?_; rintro e w1 ⟨rfl, rfl⟩) | (go_at_call 57; refine (cmpI_any _ _ _).mono ?_; rintro e w1 ⟨rfl, rfl⟩))
      go_ret
      exact ⟨rfl, by repeat (first | exact Below.refl _ _ | apply Below.al | apply Below.on | (refine Below.st ?_ (by first | assumption | (simp; done) | (simp; omega)) _) | apply Below.drew)⟩
    · have e : cmpV t ⟨true, a, sa⟩ ⟨true, b, sb⟩ = 0 := rfl
      rw [e]
      go_enter Try.func56, Try.ntmps56
      go_wp2_with (first | (go_at_call 69; refine (cmpS_any _ _ _).mono ?_; rintro e w1 ⟨rfl, rfl⟩) | (go_at_call 57; refine (cmpI_any _ _ _).mono ?_; rintro e w1 ⟨rfl, rfl⟩))
      go_ret
      exact ⟨rfl, by repeat (first | exact Below.refl _ _ | apply Below.al | apply Below.on | (refine Below.st ?_ (by first | assumption | (simp; done) | (simp; omega)) _) | apply Below.drew)⟩

def ordB (l q : Bool) : Int := if l = true then -1 else if q = true then 0 else 1
set_option maxHeartbeats 400000 in
theorem order_any (l q : Bool) (w : World) : Calls Try.prog 58 #[.bool l, .bool q] w fun e w' => e = .returned (.int .i64 (ordB l q)) ∧ w = w' := by
  cases l <;> cases q
  all_goals
    go_enter Try.func58, Try.ntmps58
    go_wp2
    go_ret
    exact ⟨rfl, rfl⟩
theorem ordB_S (a b : ByteArray) : ordB (Op.bytesLess a.toList b.toList) (a.toList == b.toList) = cmpS a b := by
  unfold ordB cmpS; simp
theorem ordB_I (a b : Int) : ordB (decide (a < b)) (a == b) = cmpI a b := by
  unfold ordB cmpI; simp

set_option maxHeartbeats 800000 in
theorem refCompare_any (t : Int) (an : Bool) (a : Int) (sa : ByteArray) (bn : Bool) (b : Int) (sb : ByteArray) (w : World) : Calls Try.prog 42 #[.int .i64 t, .agg #[.bool an, .int .i64 a, .string sa], .agg #[.bool bn, .int .i64 b, .string sb]] w fun e w' => e = .returned (.int .i64 (cmpV t ⟨an, a, sa⟩ ⟨bn, b, sb⟩)) ∧ Below w.heap.size w w' := by
  cases an
  · cases bn
    · by_cases ht : t = 3
      · subst ht
        have e : cmpV 3 ⟨false, a, sa⟩ ⟨false, b, sb⟩ = cmpS sa sb := rfl
        rw [e, ← ordB_S]
        go_enter Try.func42, Try.ntmps42
        go_wp2_with (go_at_call 58; refine (order_any _ _ _).mono ?_; rintro e w1 ⟨rfl, rfl⟩)
        go_ret
        exact ⟨rfl, by repeat (first | exact Below.refl _ _ | apply Below.al | apply Below.on | (refine Below.st ?_ (by first | assumption | (simp; done) | (simp; omega)) _) | apply Below.drew)⟩
      · have e : cmpV t ⟨false, a, sa⟩ ⟨false, b, sb⟩ = cmpI a b := if_neg ht
        rw [e, ← ordB_I]
        have ht2 : (t == 3) = false := by simpa using ht
        clear ht
        go_enter Try.func42, Try.ntmps42
        go_wp2_with (go_at_call 58; refine (order_any _ _ _).mono ?_; rintro e w1 ⟨rfl, rfl⟩)
        go_ret
        exact ⟨rfl, by repeat (first | exact Below.refl _ _ | apply Below.al | apply Below.on | (refine Below.st ?_ (by first | assumption | (simp; done) | (simp; omega)) _) | apply Below.drew)⟩
    · have e : cmpV t ⟨false, a, sa⟩ ⟨true, b, sb⟩ = 1 := rfl
      rw [e]
      go_enter Try.func42, Try.ntmps42
      go_wp2_with (go_at_call 58; refine (order_any _ _ _).mono ?_; rintro e w1 ⟨rfl, rfl⟩)
      go_ret
      exact ⟨rfl, by repeat (first | exact Below.refl _ _ | apply Below.al | apply Below.on | (refine Below.st ?_ (by first | assumption | (simp; done) | (simp; omega)) _) | apply Below.drew)⟩
  · cases bn
    · have e : cmpV t ⟨true, a, sa⟩ ⟨false, b, sb⟩ = -1 := rfl
      rw [e]
      go_enter Try.func42, Try.ntmps42
      go_wp2_with (go_at_call 58; refine (order_any _ _ _).mono ?_; rintro e w1 ⟨rfl, rfl⟩)
      go_ret
      exact ⟨rfl, by repeat (first | exact Below.refl _ _ | apply Below.al | apply Below.on | (refine Below.st ?_ (by first | assumption | (simp; done) | (simp; omega)) _) | apply Below.drew)⟩
    · have e : cmpV t ⟨true, a, sa⟩ ⟨true, b, sb⟩ = 0 := rfl
      rw [e]
      go_enter Try.func42, Try.ntmps42
      go_wp2_with (go_at_call 58; refine (order_any _ _ _).mono ?_; rintro e w1 ⟨rfl, rfl⟩)
      go_ret
      exact ⟨rfl, by repeat (first | exact Below.refl _ _ | apply Below.al | apply Below.on | (refine Below.st ?_ (by first | assumption | (simp; done) | (simp; omega)) _) | apply Below.drew)⟩
end Go.Proofs.Ytgooffpmiilicaa
