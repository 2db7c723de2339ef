/-
  CHAPTER 24: zones; can, opposite, one of prune and of its reference. Conditions: an operator is a comparison.
-/
import Derived.Test.YtfemekmkmiljdaaVal
import Derived.Test.YtfemekmkmiljdaaSch
set_option linter.unusedVariables false
set_option linter.unusedSimpArgs false
namespace Go.Proofs.Ytfemekmkmiljdaa
open Go.RowKit
structure Zon where
  rows : Int
  nulls : Int
  min : Val
  max : Val
def zonV (z : Zon) : Value := .agg #[.int .i64 z.rows, .int .i64 z.nulls, .bool z.min.null, .int .i64 z.min.n, .string z.min.s, .bool z.max.null, .int .i64 z.max.n, .string z.max.s]
def canK (op lo hi : Int) : Bool := if op = 1 then decide (lo ≤ 0) && decide (0 ≤ hi) else if op = 2 then !(decide (lo = 0) && decide (hi = 0)) else if op = 3 then decide (lo < 0) else if op = 4 then decide (lo ≤ 0) else if op = 5 then decide (0 < hi) else decide (0 ≤ hi)
/-- Whether a comparison is true for some value of a zone, as far as its ends decide. -/
def canF (ty op : Int) (z : Zon) (v : Val) : Bool := canK op (cmpV ty z.min v) (cmpV ty z.max v)
def oppF (op : Int) : Int := if op = 1 then 2 else if op = 2 then 1 else if op = 3 then 6 else if op = 4 then 5 else if op = 5 then 4 else 3
def oneF (t : Int) : Int := if t = 0 then 1 else if t = 1 then 2 else 4
theorem ops6 {op : Int} (h1 : 1 ≤ op) (h6 : op ≤ 6) : op = 1 ∨ op = 2 ∨ op = 3 ∨ op = 4 ∨ op = 5 ∨ op = 6 := by omega
theorem oppF_bd {op : Int} (h1 : 1 ≤ op) (h6 : op ≤ 6) : 1 ≤ oppF op ∧ oppF op ≤ 6 := by
  rcases ops6 h1 h6 with rfl | rfl | rfl | rfl | rfl | rfl <;> decide
theorem cmp3 (t : Int) (x y : Val) : cmpV t x y = -1 ∨ cmpV t x y = 0 ∨ cmpV t x y = 1 := by
  unfold cmpV cmpS cmpI
  repeat (first | split | simp)
set_option maxHeartbeats 1000000 in
theorem opp_any {op : Int} (h1 : 1 ≤ op) (h6 : op ≤ 6) (w : World) : Calls Try.prog 49 #[.int .i64 op] w fun e w' => e = .returned (.int .i64 (oppF op)) ∧ Below w.heap.size w w' := by
  rcases ops6 h1 h6 with rfl | rfl | rfl | rfl | rfl | rfl
  all_goals
    clear h1 h6
    go_enter Try.func49, Try.ntmps49
    go_wp2
    go_ret
    exact ⟨rfl, Below.refl _ _⟩
set_option maxHeartbeats 1000000 in
theorem opp_ref {op : Int} (h1 : 1 ≤ op) (h6 : op ≤ 6) (w : World) : Calls Try.prog 74 #[.int .i64 op] w fun e w' => e = .returned (.int .i64 (oppF op)) ∧ Below w.heap.size w w' := by
  rcases ops6 h1 h6 with rfl | rfl | rfl | rfl | rfl | rfl
  all_goals
    clear h1 h6
    go_enter Try.func74, Try.ntmps74
    go_wp2
    go_ret
    exact ⟨rfl, Below.refl _ _⟩
set_option maxHeartbeats 1000000 in
theorem one_any {t : Int} (h : t = 0 ∨ t = 1 ∨ t = 2) (w : World) : Calls Try.prog 27 #[.int .i64 t] w fun e w' => e = .returned (.int .i64 (oneF t)) ∧ Below w.heap.size w w' := by
  rcases h with rfl | rfl | rfl
  all_goals
    go_enter Try.func27, Try.ntmps27
    go_wp2
    go_ret
    exact ⟨rfl, Below.refl _ _⟩
set_option maxRecDepth 8000 in
set_option maxHeartbeats 4000000 in
theorem can_any (ty op : Int) (zr zn : Int) (an : Bool) (a : Int) (sa : ByteArray) (bn : Bool) (b : Int) (sb : ByteArray) (vn : Bool) (v : Int) (sv : ByteArray) (h1 : 1 ≤ op) (h6 : op ≤ 6) (w : World) :
    Calls Try.prog 48 #[.int .i64 ty, .int .i64 op, .agg #[.int .i64 zr, .int .i64 zn, .bool an, .int .i64 a, .string sa, .bool bn, .int .i64 b, .string sb], .agg #[.bool vn, .int .i64 v, .string sv]] w fun e w' => e = .returned (.bool (canF ty op ⟨zr, zn, ⟨an, a, sa⟩, ⟨bn, b, sb⟩⟩ ⟨vn, v, sv⟩)) ∧ Below w.heap.size w w' := by
  obtain ⟨lo, hlo⟩ : ∃ lo, cmpV ty ⟨an, a, sa⟩ ⟨vn, v, sv⟩ = lo := ⟨_, rfl⟩
  obtain ⟨hi, hhi⟩ : ∃ hi, cmpV ty ⟨bn, b, sb⟩ ⟨vn, v, sv⟩ = hi := ⟨_, rfl⟩
  have e : canF ty op ⟨zr, zn, ⟨an, a, sa⟩, ⟨bn, b, sb⟩⟩ ⟨vn, v, sv⟩ = canK op lo hi := by unfold canF; rw [hlo, hhi]
  rw [e]
  have C1 := Lib.hid (fun (W : World) => (by have h := compare_any ty an a sa vn v sv W; rw [hlo] at h; exact h : Calls Try.prog 45 #[.int .i64 ty, .agg #[.bool an, .int .i64 a, .string sa], .agg #[.bool vn, .int .i64 v, .string sv]] W fun e w' => e = .returned (.int .i64 lo) ∧ Below W.heap.size W w'))
  have C2 := Lib.hid (fun (W : World) => (by have h := compare_any ty bn b sb vn v sv W; rw [hhi] at h; exact h : Calls Try.prog 45 #[.int .i64 ty, .agg #[.bool bn, .int .i64 b, .string sb], .agg #[.bool vn, .int .i64 v, .string sv]] W fun e w' => e = .returned (.int .i64 hi) ∧ Below W.heap.size W w'))
  have L3 := cmp3 ty ⟨an, a, sa⟩ ⟨vn, v, sv⟩
  have H3 := cmp3 ty ⟨bn, b, sb⟩ ⟨vn, v, sv⟩
  rw [hlo] at L3
  rw [hhi] at H3
  have L3' := Lib.hid L3
  have H3' := Lib.hid H3
  have O6 := Lib.hid (ops6 h1 h6)
  clear hlo hhi e L3 H3 h1 h6
  go_enter Try.func48, Try.ntmps48
  go_upto_region 1 with fail
  refine wp_region_ext (by kernel_rfl) (by kernel_rfl) ?_
  repeat (go_big_quiet_step ((first | (go_at_call 45; (with_reducible exact Calls.ext (C1.out _))) | (go_at_call 45; (with_reducible exact Calls.ext (C2.out _))))))
  refine wpQuiet_nil ?_
  rintro _ ⟨x1, rfl⟩
  have b1 := x1.below
  clear C1 C2
  rcases O6.out with rfl | rfl | rfl | rfl | rfl | rfl <;> rcases L3'.out with rfl | rfl | rfl <;> rcases H3'.out with rfl | rfl | rfl
  all_goals
    clear L3' H3' O6
    go_wp2
    go_ret
    exact ⟨rfl, by repeat (first | with_reducible exact Below.refl _ _ | with_reducible assumption | with_reducible refine Below.al ?_ _ | with_reducible refine Below.on ?_ _ | with_reducible refine Below.st ?_ (by first | assumption | (simp; done) | (simp; omega)) _ | with_reducible refine Below.drew ?_)⟩
end Go.Proofs.Ytfemekmkmiljdaa
