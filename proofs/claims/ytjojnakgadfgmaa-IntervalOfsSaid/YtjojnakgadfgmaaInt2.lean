/-
  BOUNDS: the reference of Check; Touches and its reference, Has and its reference. Conditions: none.
-/
import Derived.Test.YtjojnakgadfgmaaInt
set_option linter.unusedVariables false
set_option linter.unusedSimpArgs false
namespace Go.Proofs.Ytjojnakgadfgmaa
open Go.RowKit
def touchF (t : Int) (b : Bnd) (x y : Val) : Bool := checkF t b && ((b.null && x.null) || (b.some && !y.null && (!b.hasLo || decide (0 ≤ cmpV t y b.lo)) && (!b.hasHi || x.null || decide (cmpV t x b.hi ≤ 0))))
set_option maxHeartbeats 4000000 in
theorem touch_any (t : Int) (an as' al ah : Bool) (ln : Bool) (l : Int) (ls : ByteArray) (hn : Bool) (h : Int) (hs : ByteArray) (xn : Bool) (x : Int) (xs : ByteArray) (yn : Bool) (y : Int) (ys : ByteArray) (w : World) :
    Calls Try.prog 20 #[.int .i64 t, .agg #[.bool an, .bool as', .bool al, .bool ah, .bool ln, .int .i64 l, .string ls, .bool hn, .int .i64 h, .string hs], .agg #[.bool xn, .int .i64 x, .string xs], .agg #[.bool yn, .int .i64 y, .string ys]] w fun e w' => e = .returned (.bool (touchF t ⟨an, as', al, ah, ⟨ln, l, ls⟩, ⟨hn, h, hs⟩⟩ ⟨xn, x, xs⟩ ⟨yn, y, ys⟩)) ∧ Below w.heap.size w w' := by
  obtain ⟨p, hp⟩ : ∃ p, checkF t ⟨an, as', al, ah, ⟨ln, l, ls⟩, ⟨hn, h, hs⟩⟩ = p := ⟨_, rfl⟩
  cases p
  · have ev : touchF t ⟨an, as', al, ah, ⟨ln, l, ls⟩, ⟨hn, h, hs⟩⟩ ⟨xn, x, xs⟩ ⟨yn, y, ys⟩ = false := by unfold touchF; rw [hp]; rfl
    rw [ev]
    clear ev
    go_enter Try.func20, Try.ntmps20
    go_wp2_with (go_at_call 16; refine (check_any _ _ _ _ _ _ _ _ _ _ _ _).mono ?_; rintro e w1 ⟨rfl, hb1⟩; obtain ⟨x1, rfl⟩ := Ext.of hb1; have z : w.heap.size < x1.it.heap.size := x1.lt (by (first | assumption | (simp; done) | (simp; omega))); have z1 : w.heap.size + 1 < x1.it.heap.size := x1.lt (by (first | assumption | (simp; done) | (simp; omega))); have z2 : w.heap.size + 1 + 1 < x1.it.heap.size := x1.lt (by (first | assumption | (simp; done) | (simp; omega))))
    go_ret
    exact ⟨rfl, by repeat (first | with_reducible exact Below.refl _ _ | with_reducible assumption | with_reducible refine Below.al ?_ _ | with_reducible refine Below.on ?_ _ | with_reducible refine Below.st ?_ (by first | assumption | (simp; done) | (simp; omega)) _ | with_reducible refine Below.drew ?_)⟩
  ·
    go_enter Try.func20, Try.ntmps20
    go_wp2_with (first | (go_at_call 16; refine (check_any _ _ _ _ _ _ _ _ _ _ _ _).mono ?_; rintro e w1 ⟨rfl, hb1⟩; obtain ⟨x1, rfl⟩ := Ext.of hb1; have z : w.heap.size < x1.it.heap.size := x1.lt (by (first | assumption | (simp; done) | (simp; omega))); have z1 : w.heap.size + 1 < x1.it.heap.size := x1.lt (by (first | assumption | (simp; done) | (simp; omega))); have z2 : w.heap.size + 1 + 1 < x1.it.heap.size := x1.lt (by (first | assumption | (simp; done) | (simp; omega)))) | (go_at_call 38; refine (compare_any _ _ _ _ _ _ _ _).mono ?_; rintro e w1 ⟨rfl, hb1⟩; obtain ⟨x1, rfl⟩ := Ext.of hb1; have z : w.heap.size < x1.it.heap.size := x1.lt (by (first | assumption | (simp; done) | (simp; omega))); have z1 : w.heap.size + 1 < x1.it.heap.size := x1.lt (by (first | assumption | (simp; done) | (simp; omega))); have z2 : w.heap.size + 1 + 1 < x1.it.heap.size := x1.lt (by (first | assumption | (simp; done) | (simp; omega)))))
    all_goals
      (go_ret; exact ⟨by simp_all [touchF] <;> (try first | (intro _; exfalso; omega) | (rw [Bool.eq_iff_iff]; simp; done)), by repeat (first | with_reducible exact Below.refl _ _ | with_reducible assumption | with_reducible refine Below.al ?_ _ | with_reducible refine Below.on ?_ _ | with_reducible refine Below.st ?_ (by first | assumption | (simp; done) | (simp; omega)) _ | with_reducible refine Below.drew ?_)⟩)

set_option maxHeartbeats 1000000 in
theorem has_any (t : Int) (an as' al ah : Bool) (ln : Bool) (l : Int) (ls : ByteArray) (hn : Bool) (h : Int) (hs : ByteArray) (xn : Bool) (x : Int) (xs : ByteArray) (w : World) :
    Calls Try.prog 18 #[.int .i64 t, .agg #[.bool an, .bool as', .bool al, .bool ah, .bool ln, .int .i64 l, .string ls, .bool hn, .int .i64 h, .string hs], .agg #[.bool xn, .int .i64 x, .string xs]] w fun e w' => e = .returned (.bool (touchF t ⟨an, as', al, ah, ⟨ln, l, ls⟩, ⟨hn, h, hs⟩⟩ ⟨xn, x, xs⟩ ⟨xn, x, xs⟩)) ∧ Below w.heap.size w w' := by
  go_enter Try.func18, Try.ntmps18
  go_wp2_with (go_at_call 20; refine (touch_any _ _ _ _ _ _ _ _ _ _ _ _ _ _ _ _ _ _).mono ?_; rintro e w1 ⟨rfl, hb1⟩; obtain ⟨x1, rfl⟩ := Ext.of hb1)
  go_ret
  exact ⟨rfl, by repeat (first | with_reducible exact Below.refl _ _ | with_reducible assumption | with_reducible refine Below.al ?_ _ | with_reducible refine Below.on ?_ _ | with_reducible refine Below.st ?_ (by first | assumption | (simp; done) | (simp; omega)) _ | with_reducible refine Below.drew ?_)⟩

set_option maxHeartbeats 4000000 in
theorem refCheck_any (t : Int) (an as' al ah : Bool) (ln : Bool) (l : Int) (ls : ByteArray) (hn : Bool) (h : Int) (hs : ByteArray) (w : World) : Calls Try.prog 17 #[.int .i64 t, .agg #[.bool an, .bool as', .bool al, .bool ah, .bool ln, .int .i64 l, .string ls, .bool hn, .int .i64 h, .string hs]] w fun e w' => e = .returned (.bool (checkF t ⟨an, as', al, ah, ⟨ln, l, ls⟩, ⟨hn, h, hs⟩⟩)) ∧ Below w.heap.size w w' := by
  go_enter Try.func17, Try.ntmps17
  go_wp2_with (go_at_call 14; refine (refCompare_any _ _ _ _ _ _ _ _).mono ?_; rintro e w1 ⟨rfl, hb1⟩; obtain ⟨x1, rfl⟩ := Ext.of hb1; have z : w.heap.size < x1.it.heap.size := x1.lt (by (first | assumption | (simp; done) | (simp; omega))))
  all_goals
    (go_ret; exact ⟨by simp_all [checkF, endF, isZ] <;> (try first | (intro _; exfalso; omega) | (rw [Bool.eq_iff_iff]; simp; done)), by repeat (first | with_reducible exact Below.refl _ _ | with_reducible assumption | with_reducible refine Below.al ?_ _ | with_reducible refine Below.on ?_ _ | with_reducible refine Below.st ?_ (by first | assumption | (simp; done) | (simp; omega)) _ | with_reducible refine Below.drew ?_)⟩)

set_option maxHeartbeats 4000000 in
theorem refTouch_any (t : Int) (an as' al ah : Bool) (ln : Bool) (l : Int) (ls : ByteArray) (hn : Bool) (h : Int) (hs : ByteArray) (xn : Bool) (x : Int) (xs : ByteArray) (yn : Bool) (y : Int) (ys : ByteArray) (w : World) :
    Calls Try.prog 21 #[.int .i64 t, .agg #[.bool an, .bool as', .bool al, .bool ah, .bool ln, .int .i64 l, .string ls, .bool hn, .int .i64 h, .string hs], .agg #[.bool xn, .int .i64 x, .string xs], .agg #[.bool yn, .int .i64 y, .string ys]] w fun e w' => e = .returned (.bool (touchF t ⟨an, as', al, ah, ⟨ln, l, ls⟩, ⟨hn, h, hs⟩⟩ ⟨xn, x, xs⟩ ⟨yn, y, ys⟩)) ∧ Below w.heap.size w w' := by
  obtain ⟨p, hp⟩ : ∃ p, checkF t ⟨an, as', al, ah, ⟨ln, l, ls⟩, ⟨hn, h, hs⟩⟩ = p := ⟨_, rfl⟩
  cases p
  · have ev : touchF t ⟨an, as', al, ah, ⟨ln, l, ls⟩, ⟨hn, h, hs⟩⟩ ⟨xn, x, xs⟩ ⟨yn, y, ys⟩ = false := by unfold touchF; rw [hp]; rfl
    rw [ev]
    clear ev
    go_enter Try.func21, Try.ntmps21
    go_wp2_with (go_at_call 17; refine (refCheck_any _ _ _ _ _ _ _ _ _ _ _ _).mono ?_; rintro e w1 ⟨rfl, hb1⟩; obtain ⟨x1, rfl⟩ := Ext.of hb1; have z : w.heap.size < x1.it.heap.size := x1.lt (by (first | assumption | (simp; done) | (simp; omega))); have z1 : w.heap.size + 1 < x1.it.heap.size := x1.lt (by (first | assumption | (simp; done) | (simp; omega))); have z2 : w.heap.size + 1 + 1 < x1.it.heap.size := x1.lt (by (first | assumption | (simp; done) | (simp; omega))))
    go_ret
    exact ⟨rfl, by repeat (first | with_reducible exact Below.refl _ _ | with_reducible assumption | with_reducible refine Below.al ?_ _ | with_reducible refine Below.on ?_ _ | with_reducible refine Below.st ?_ (by first | assumption | (simp; done) | (simp; omega)) _ | with_reducible refine Below.drew ?_)⟩
  ·
    go_enter Try.func21, Try.ntmps21
    go_wp2_with (first | (go_at_call 17; refine (refCheck_any _ _ _ _ _ _ _ _ _ _ _ _).mono ?_; rintro e w1 ⟨rfl, hb1⟩; obtain ⟨x1, rfl⟩ := Ext.of hb1; have z : w.heap.size < x1.it.heap.size := x1.lt (by (first | assumption | (simp; done) | (simp; omega))); have z1 : w.heap.size + 1 < x1.it.heap.size := x1.lt (by (first | assumption | (simp; done) | (simp; omega))); have z2 : w.heap.size + 1 + 1 < x1.it.heap.size := x1.lt (by (first | assumption | (simp; done) | (simp; omega)))) | (go_at_call 14; refine (refCompare_any _ _ _ _ _ _ _ _).mono ?_; rintro e w1 ⟨rfl, hb1⟩; obtain ⟨x1, rfl⟩ := Ext.of hb1; have z : w.heap.size < x1.it.heap.size := x1.lt (by (first | assumption | (simp; done) | (simp; omega))); have z1 : w.heap.size + 1 < x1.it.heap.size := x1.lt (by (first | assumption | (simp; done) | (simp; omega))); have z2 : w.heap.size + 1 + 1 < x1.it.heap.size := x1.lt (by (first | assumption | (simp; done) | (simp; omega)))))
    all_goals
      (go_ret; exact ⟨by simp_all [touchF] <;> (try first | (intro _; exfalso; omega) | (rw [Bool.eq_iff_iff]; simp; done)), by repeat (first | with_reducible exact Below.refl _ _ | with_reducible assumption | with_reducible refine Below.al ?_ _ | with_reducible refine Below.on ?_ _ | with_reducible refine Below.st ?_ (by first | assumption | (simp; done) | (simp; omega)) _ | with_reducible refine Below.drew ?_)⟩)

set_option maxHeartbeats 4000000 in
theorem refHas_any (t : Int) (an as' al ah : Bool) (ln : Bool) (l : Int) (ls : ByteArray) (hn : Bool) (h : Int) (hs : ByteArray) (xn : Bool) (x : Int) (xs : ByteArray) (w : World) :
    Calls Try.prog 19 #[.int .i64 t, .agg #[.bool an, .bool as', .bool al, .bool ah, .bool ln, .int .i64 l, .string ls, .bool hn, .int .i64 h, .string hs], .agg #[.bool xn, .int .i64 x, .string xs]] w fun e w' => e = .returned (.bool (touchF t ⟨an, as', al, ah, ⟨ln, l, ls⟩, ⟨hn, h, hs⟩⟩ ⟨xn, x, xs⟩ ⟨xn, x, xs⟩)) ∧ Below w.heap.size w w' := by
  obtain ⟨p, hp⟩ : ∃ p, checkF t ⟨an, as', al, ah, ⟨ln, l, ls⟩, ⟨hn, h, hs⟩⟩ = p := ⟨_, rfl⟩
  cases p
  · have ev : touchF t ⟨an, as', al, ah, ⟨ln, l, ls⟩, ⟨hn, h, hs⟩⟩ ⟨xn, x, xs⟩ ⟨xn, x, xs⟩ = false := by unfold touchF; rw [hp]; rfl
    rw [ev]
    clear ev
    go_enter Try.func19, Try.ntmps19
    go_wp2_with (go_at_call 17; refine (refCheck_any _ _ _ _ _ _ _ _ _ _ _ _).mono ?_; rintro e w1 ⟨rfl, hb1⟩; obtain ⟨x1, rfl⟩ := Ext.of hb1; have z : w.heap.size < x1.it.heap.size := x1.lt (by (first | assumption | (simp; done) | (simp; omega))); have z1 : w.heap.size + 1 < x1.it.heap.size := x1.lt (by (first | assumption | (simp; done) | (simp; omega))))
    go_ret
    exact ⟨rfl, by repeat (first | with_reducible exact Below.refl _ _ | with_reducible assumption | with_reducible refine Below.al ?_ _ | with_reducible refine Below.on ?_ _ | with_reducible refine Below.st ?_ (by first | assumption | (simp; done) | (simp; omega)) _ | with_reducible refine Below.drew ?_)⟩
  ·
    go_enter Try.func19, Try.ntmps19
    go_wp2_with (first | (go_at_call 17; refine (refCheck_any _ _ _ _ _ _ _ _ _ _ _ _).mono ?_; rintro e w1 ⟨rfl, hb1⟩; obtain ⟨x1, rfl⟩ := Ext.of hb1; have z : w.heap.size < x1.it.heap.size := x1.lt (by (first | assumption | (simp; done) | (simp; omega))); have z1 : w.heap.size + 1 < x1.it.heap.size := x1.lt (by (first | assumption | (simp; done) | (simp; omega)))) | (go_at_call 14; refine (refCompare_any _ _ _ _ _ _ _ _).mono ?_; rintro e w1 ⟨rfl, hb1⟩; obtain ⟨x1, rfl⟩ := Ext.of hb1; have z : w.heap.size < x1.it.heap.size := x1.lt (by (first | assumption | (simp; done) | (simp; omega))); have z1 : w.heap.size + 1 < x1.it.heap.size := x1.lt (by (first | assumption | (simp; done) | (simp; omega)))))
    all_goals
      (go_ret; exact ⟨by simp_all [touchF] <;> (try first | (intro _; exfalso; omega) | (rw [Bool.eq_iff_iff]; simp; done)), by repeat (first | with_reducible exact Below.refl _ _ | with_reducible assumption | with_reducible refine Below.al ?_ _ | with_reducible refine Below.on ?_ _ | with_reducible refine Below.st ?_ (by first | assumption | (simp; done) | (simp; omega)) _ | with_reducible refine Below.drew ?_)⟩)
end Go.Proofs.Ytjojnakgadfgmaa
