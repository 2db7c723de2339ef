/-
  BOUNDS: interval.end, Check, Touches, Has and their references. Conditions: none.
-/
import Derived.Test.YtjojnakgadfgmaaKeep
set_option linter.unusedVariables false
set_option linter.unusedSimpArgs false
namespace Go.Proofs.Ytjojnakgadfgmaa
open Go.RowKit
/-- bounds -/
structure Bnd where
  null : Bool
  some : Bool
  hasLo : Bool
  hasHi : Bool
  lo : Val
  hi : Val
def isZ (v : Val) : Bool := !v.null && decide (v.n = 0) && decide (v.s.toList = [])
def endF (has : Bool) (v : Val) : Bool := if has = true then !v.null else isZ v

set_option maxHeartbeats 1000000 in
theorem end_any (has vn : Bool) (n : Int) (s : ByteArray) (w : World) : Calls Try.prog 37 #[.bool has, .agg #[.bool vn, .int .i64 n, .string s]] w fun e w' => e = .returned (.bool (endF has ⟨vn, n, s⟩)) ∧ Below w.heap.size w w' := by
  cases has
  ·
    go_enter Try.func37, Try.ntmps37
    go_wp2
    all_goals
      go_ret
      exact ⟨by simp [endF, isZ, *], by repeat (first | with_reducible exact Below.refl _ _ | with_reducible assumption | with_reducible refine Below.al ?_ _ | with_reducible refine Below.on ?_ _ | with_reducible refine Below.st ?_ (by first | assumption | (simp; done) | (simp; omega)) _ | with_reducible refine Below.drew ?_)⟩
  · cases vn
    all_goals
      go_enter Try.func37, Try.ntmps37
      go_wp2
      go_ret
      exact ⟨rfl, by repeat (first | with_reducible exact Below.refl _ _ | with_reducible assumption | with_reducible refine Below.al ?_ _ | with_reducible refine Below.on ?_ _ | with_reducible refine Below.st ?_ (by first | assumption | (simp; done) | (simp; omega)) _ | with_reducible refine Below.drew ?_)⟩
theorem z1 {w : World} {a : Nat} (x : Ext w) (h : a < w.heap.size) : a < x.it.heap.size := x.lt h
def checkF (t : Int) (b : Bnd) : Bool := endF b.hasLo b.lo && endF b.hasHi b.hi && (b.some || !(b.hasLo || b.hasHi)) && (!b.hasLo || !b.hasHi || decide (cmpV t b.lo b.hi ≤ 0))
set_option maxHeartbeats 4000000 in
theorem check_any (t : Int) (an as' al ah : Bool) (ln : Bool) (l : Int) (ls : ByteArray) (hn : Bool) (h : Int) (hs : ByteArray) (w : World) : Calls Try.prog 16 #[.int .i64 t, .agg #[.bool an, .bool as', .bool al, .bool ah, .bool ln, .int .i64 l, .string ls, .bool hn, .int .i64 h, .string hs]] w fun e w' => e = .returned (.bool (checkF t ⟨an, as', al, ah, ⟨ln, l, ls⟩, ⟨hn, h, hs⟩⟩)) ∧ Below w.heap.size w w' := by
  obtain ⟨p, hp⟩ : ∃ p, endF al ⟨ln, l, ls⟩ = p := ⟨_, rfl⟩
  obtain ⟨q, hq⟩ : ∃ q, endF ah ⟨hn, h, hs⟩ = q := ⟨_, rfl⟩
  obtain ⟨c, hc⟩ : ∃ c, decide (cmpV t ⟨ln, l, ls⟩ ⟨hn, h, hs⟩ ≤ 0) = c := ⟨_, rfl⟩
  have ev : checkF t ⟨an, as', al, ah, ⟨ln, l, ls⟩, ⟨hn, h, hs⟩⟩ = (p && q && (as' || !(al || ah)) && (!al || !ah || c)) := by unfold checkF; rw [hp, hq, hc]
  rw [ev]
  clear ev
  cases al <;> cases ah <;> cases as' <;> cases p <;> cases q <;> cases c
  all_goals
    go_enter Try.func16, Try.ntmps16
    go_wp2_with (first | (go_at_call 37; refine (end_any _ _ _ _ _).mono ?_; rintro e w1 ⟨rfl, hb1⟩; obtain ⟨x1, rfl⟩ := Ext.of hb1; have z : w.heap.size < x1.it.heap.size := x1.lt (by (first | assumption | (simp; done) | (simp; omega)))) | (go_at_call 38; refine (compare_any _ _ _ _ _ _ _ _).mono ?_; rintro e w1 ⟨rfl, hb1⟩; obtain ⟨x1, rfl⟩ := Ext.of hb1))
    (go_ret; exact ⟨rfl, by repeat (first | with_reducible exact Below.refl _ _ | with_reducible assumption | with_reducible refine Below.al ?_ _ | with_reducible refine Below.on ?_ _ | with_reducible refine Below.st ?_ (by first | assumption | (simp; done) | (simp; omega)) _ | with_reducible refine Below.drew ?_)⟩)
end Go.Proofs.Ytjojnakgadfgmaa
