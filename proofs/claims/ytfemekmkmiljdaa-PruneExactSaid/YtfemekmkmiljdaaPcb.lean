/-
  CHAPTER 24: sets of truth values; the reference's single, inside, can, add. Conditions: each theorem states its own.
-/
import Derived.Test.YtfemekmkmiljdaaPca
set_option linter.unusedVariables false
set_option linter.unusedSimpArgs false
namespace Go.Proofs.Ytfemekmkmiljdaa
open Go.RowKit
/-- A set of truth values. -/
structure TS where
  f : Bool
  t : Bool
  u : Bool
def TS.int (s : TS) : Int := (if s.f = true then 1 else 0) + (if s.t = true then 2 else 0) + (if s.u = true then 4 else 0)
def TS.has (s : TS) (r : Int) : Bool := if r = 0 then s.f else if r = 1 then s.t else s.u
def TS.add (s : TS) (r : Int) : TS := if r = 0 then ⟨true, s.t, s.u⟩ else if r = 1 then ⟨s.f, true, s.u⟩ else ⟨s.f, s.t, true⟩
def TS.non : TS := ⟨false, false, false⟩
theorem ts_or (s : TS) {r : Int} (h : r = 0 ∨ r = 1 ∨ r = 2) : bits .or .i64 s.int (oneF r) = (s.add r).int := by
  obtain ⟨f, t, u⟩ := s
  rcases h with rfl | rfl | rfl <;> cases f <;> cases t <;> cases u <;> rfl
theorem ts_and (s : TS) {r : Int} (h : r = 0 ∨ r = 1 ∨ r = 2) : bits .and .i64 s.int (oneF r) = if s.has r = true then oneF r else 0 := by
  obtain ⟨f, t, u⟩ := s
  rcases h with rfl | rfl | rfl <;> cases f <;> cases t <;> cases u <;> rfl
theorem ts_bd (s : TS) : 0 ≤ s.int ∧ s.int ≤ 7 := by
  obtain ⟨f, t, u⟩ := s
  cases f <;> cases t <;> cases u <;> decide
theorem ts_inj {a b : TS} (h : a.int = b.int) : a = b := by
  obtain ⟨f, t, u⟩ := a
  obtain ⟨f', t', u'⟩ := b
  cases f <;> cases t <;> cases u <;> cases f' <;> cases t' <;> cases u' <;> first | rfl | exact absurd h (by decide)
set_option maxHeartbeats 1000000 in
theorem add_any (s : TS) {t : Int} (h : t = 0 ∨ t = 1 ∨ t = 2) (b : Bool) (w : World) : Calls Try.prog 51 #[.int .i64 s.int, .int .i64 t, .bool b] w fun e w' => e = .returned (.int .i64 (if b = true then (s.add t).int else s.int)) ∧ Below w.heap.size w w' := by
  have O := ts_or s h
  obtain ⟨n, hn⟩ : ∃ n, s.int = n := ⟨_, rfl⟩
  obtain ⟨n', hn'⟩ : ∃ n', (s.add t).int = n' := ⟨_, rfl⟩
  rw [hn, hn'] at O ⊢
  clear hn hn'
  rcases h with rfl | rfl | rfl <;> cases b <;> simp only [oneF, if_true, if_false, Int.one_ne_zero, Int.reduceEq, reduceCtorEq] at O ⊢
  all_goals
    go_enter Try.func51, Try.ntmps51
    go_wp2
    go_ret
    exact ⟨rfl, Below.refl _ _⟩
-- GENERATED BELOW
set_option maxRecDepth 8000 in
set_option maxHeartbeats 1000000 in
theorem single_any (ty : Int) (zr zn : Int) (an : Bool) (a : Int) (sa : ByteArray) (bn : Bool) (b : Int) (sb : ByteArray) (vn : Bool) (v : Int) (sv : ByteArray) (w : World) :
    Calls Try.prog 76 #[.int .i64 ty, .agg #[.int .i64 zr, .int .i64 zn, .bool an, .int .i64 a, .string sa, .bool bn, .int .i64 b, .string sb], .agg #[.bool vn, .int .i64 v, .string sv]] w fun e w' => e = .returned (.bool (!canF ty 2 ⟨zr, zn, ⟨an, a, sa⟩, ⟨bn, b, sb⟩⟩ ⟨vn, v, sv⟩)) ∧ Below w.heap.size w w' := by
  obtain ⟨lo, hlo⟩ : ∃ lo, cmpV ty ⟨an, a, sa⟩ ⟨vn, v, sv⟩ = lo := ⟨_, rfl⟩
  obtain ⟨hi, hhi⟩ : ∃ hi, cmpV ty ⟨bn, b, sb⟩ ⟨vn, v, sv⟩ = hi := ⟨_, rfl⟩
  have e : (!canF ty 2 ⟨zr, zn, ⟨an, a, sa⟩, ⟨bn, b, sb⟩⟩ ⟨vn, v, sv⟩) = (!(canK 2 lo hi)) := by unfold canF; rw [hlo, hhi]
  rw [e]
  have C1 := Lib.hid (fun (W : World) => (by have h := refCompare_any ty an a sa vn v sv W; rw [hlo] at h; exact h : Calls Try.prog 71 #[.int .i64 ty, .agg #[.bool an, .int .i64 a, .string sa], .agg #[.bool vn, .int .i64 v, .string sv]] W fun e w' => e = .returned (.int .i64 lo) ∧ Below W.heap.size W w'))
  have C2 := Lib.hid (fun (W : World) => (by have h := refCompare_any ty bn b sb vn v sv W; rw [hhi] at h; exact h : Calls Try.prog 71 #[.int .i64 ty, .agg #[.bool bn, .int .i64 b, .string sb], .agg #[.bool vn, .int .i64 v, .string sv]] W fun e w' => e = .returned (.int .i64 hi) ∧ Below W.heap.size W w'))
  have L3 := cmp3 ty ⟨an, a, sa⟩ ⟨vn, v, sv⟩
  have H3 := cmp3 ty ⟨bn, b, sb⟩ ⟨vn, v, sv⟩
  rw [hlo] at L3
  rw [hhi] at H3
  clear hlo hhi e
  rcases L3 with rfl | rfl | rfl <;> rcases H3 with rfl | rfl | rfl
  all_goals
    go_enter Try.func76, Try.ntmps76
    go_wp2_with (first | (go_at_call 71; (with_reducible refine Calls.mono (C1.out _) ?_); rintro e w1 ⟨rfl, hb1⟩; obtain ⟨x1, rfl⟩ := Ext.of hb1; have z0 : w.heap.size < x1.it.heap.size := x1.lt (by simp; omega); have z1 : w.heap.size + 1 < x1.it.heap.size := x1.lt (by simp)) | (go_at_call 71; (with_reducible refine Calls.mono (C2.out _) ?_); rintro e w2 ⟨rfl, hb2⟩; obtain ⟨x2, rfl⟩ := Ext.of hb2))
    go_ret
    exact ⟨rfl, by repeat (first | with_reducible exact Below.refl _ _ | with_reducible assumption | with_reducible refine Below.al ?_ _ | with_reducible refine Below.on ?_ _ | with_reducible refine Below.st ?_ (by first | assumption | (simp; done) | (simp; omega)) _ | with_reducible refine Below.drew ?_)⟩
set_option maxRecDepth 8000 in
set_option maxHeartbeats 1000000 in
theorem inside_any (ty : Int) (zr zn : Int) (an : Bool) (a : Int) (sa : ByteArray) (bn : Bool) (b : Int) (sb : ByteArray) (vn : Bool) (v : Int) (sv : ByteArray) (w : World) :
    Calls Try.prog 75 #[.int .i64 ty, .agg #[.int .i64 zr, .int .i64 zn, .bool an, .int .i64 a, .string sa, .bool bn, .int .i64 b, .string sb], .agg #[.bool vn, .int .i64 v, .string sv]] w fun e w' => e = .returned (.bool (canF ty 1 ⟨zr, zn, ⟨an, a, sa⟩, ⟨bn, b, sb⟩⟩ ⟨vn, v, sv⟩)) ∧ Below w.heap.size w w' := by
  obtain ⟨lo, hlo⟩ : ∃ lo, cmpV ty ⟨an, a, sa⟩ ⟨vn, v, sv⟩ = lo := ⟨_, rfl⟩
  obtain ⟨hi, hhi⟩ : ∃ hi, cmpV ty ⟨bn, b, sb⟩ ⟨vn, v, sv⟩ = hi := ⟨_, rfl⟩
  have e : canF ty 1 ⟨zr, zn, ⟨an, a, sa⟩, ⟨bn, b, sb⟩⟩ ⟨vn, v, sv⟩ = canK 1 lo hi := by unfold canF; rw [hlo, hhi]
  rw [e]
  have C1 := Lib.hid (fun (W : World) => (by have h := refCompare_any ty an a sa vn v sv W; rw [hlo] at h; exact h : Calls Try.prog 71 #[.int .i64 ty, .agg #[.bool an, .int .i64 a, .string sa], .agg #[.bool vn, .int .i64 v, .string sv]] W fun e w' => e = .returned (.int .i64 lo) ∧ Below W.heap.size W w'))
  have C2 := Lib.hid (fun (W : World) => (by have h := refCompare_any ty bn b sb vn v sv W; rw [hhi] at h; exact h : Calls Try.prog 71 #[.int .i64 ty, .agg #[.bool bn, .int .i64 b, .string sb], .agg #[.bool vn, .int .i64 v, .string sv]] W fun e w' => e = .returned (.int .i64 hi) ∧ Below W.heap.size W w'))
  have L3 := cmp3 ty ⟨an, a, sa⟩ ⟨vn, v, sv⟩
  have H3 := cmp3 ty ⟨bn, b, sb⟩ ⟨vn, v, sv⟩
  rw [hlo] at L3
  rw [hhi] at H3
  clear hlo hhi e
  rcases L3 with rfl | rfl | rfl <;> rcases H3 with rfl | rfl | rfl
  all_goals
    go_enter Try.func75, Try.ntmps75
    go_wp2_with (first | (go_at_call 71; (with_reducible refine Calls.mono (C1.out _) ?_); rintro e w1 ⟨rfl, hb1⟩; obtain ⟨x1, rfl⟩ := Ext.of hb1; have z0 : w.heap.size < x1.it.heap.size := x1.lt (by simp; omega); have z1 : w.heap.size + 1 < x1.it.heap.size := x1.lt (by simp)) | (go_at_call 71; (with_reducible refine Calls.mono (C2.out _) ?_); rintro e w2 ⟨rfl, hb2⟩; obtain ⟨x2, rfl⟩ := Ext.of hb2))
    go_ret
    exact ⟨rfl, by repeat (first | with_reducible exact Below.refl _ _ | with_reducible assumption | with_reducible refine Below.al ?_ _ | with_reducible refine Below.on ?_ _ | with_reducible refine Below.st ?_ (by first | assumption | (simp; done) | (simp; omega)) _ | with_reducible refine Below.drew ?_)⟩
set_option maxRecDepth 8000 in
set_option maxHeartbeats 4000000 in
theorem refcan_any (ty op : Int) (zr zn : Int) (an : Bool) (a : Int) (sa : ByteArray) (bn : Bool) (b : Int) (sb : ByteArray) (vn : Bool) (v : Int) (sv : ByteArray) (h1 : 1 ≤ op) (h6 : op ≤ 6) (w : World) :
    Calls Try.prog 73 #[.int .i64 ty, .int .i64 op, .agg #[.int .i64 zr, .int .i64 zn, .bool an, .int .i64 a, .string sa, .bool bn, .int .i64 b, .string sb], .agg #[.bool vn, .int .i64 v, .string sv]] w fun e w' => e = .returned (.bool (canF ty op ⟨zr, zn, ⟨an, a, sa⟩, ⟨bn, b, sb⟩⟩ ⟨vn, v, sv⟩)) ∧ Below w.heap.size w w' := by
  have S1 := Lib.hid (fun (W : World) => single_any ty zr zn an a sa bn b sb vn v sv W)
  obtain ⟨lo, hlo⟩ : ∃ lo, cmpV ty ⟨an, a, sa⟩ ⟨vn, v, sv⟩ = lo := ⟨_, rfl⟩
  obtain ⟨hi, hhi⟩ : ∃ hi, cmpV ty ⟨bn, b, sb⟩ ⟨vn, v, sv⟩ = hi := ⟨_, rfl⟩
  have e : canF ty op ⟨zr, zn, ⟨an, a, sa⟩, ⟨bn, b, sb⟩⟩ ⟨vn, v, sv⟩ = canK op lo hi := by unfold canF; rw [hlo, hhi]
  rw [e]
  have C1 := Lib.hid (fun (W : World) => (by have h := refCompare_any ty an a sa vn v sv W; rw [hlo] at h; exact h : Calls Try.prog 71 #[.int .i64 ty, .agg #[.bool an, .int .i64 a, .string sa], .agg #[.bool vn, .int .i64 v, .string sv]] W fun e w' => e = .returned (.int .i64 lo) ∧ Below W.heap.size W w'))
  have C2 := Lib.hid (fun (W : World) => (by have h := refCompare_any ty bn b sb vn v sv W; rw [hhi] at h; exact h : Calls Try.prog 71 #[.int .i64 ty, .agg #[.bool bn, .int .i64 b, .string sb], .agg #[.bool vn, .int .i64 v, .string sv]] W fun e w' => e = .returned (.int .i64 hi) ∧ Below W.heap.size W w'))
  have L3 := cmp3 ty ⟨an, a, sa⟩ ⟨vn, v, sv⟩
  have H3 := cmp3 ty ⟨bn, b, sb⟩ ⟨vn, v, sv⟩
  rw [hlo] at L3
  rw [hhi] at H3
  have e2 : (!canF ty 2 ⟨zr, zn, ⟨an, a, sa⟩, ⟨bn, b, sb⟩⟩ ⟨vn, v, sv⟩) = (!(canK 2 lo hi)) := by unfold canF; rw [hlo, hhi]
  rw [e2] at S1
  have L3' := Lib.hid L3
  have H3' := Lib.hid H3
  have O6 := Lib.hid (ops6 h1 h6)
  clear hlo hhi e L3 H3 h1 h6 e2
  go_enter Try.func73, Try.ntmps73
  go_upto_region 1 with fail
  refine wp_region_ext (by kernel_rfl) (by kernel_rfl) ?_
  repeat (go_big_quiet_step ((first | (go_at_call 71; (with_reducible exact Calls.ext (C1.out _))) | (go_at_call 71; (with_reducible exact Calls.ext (C2.out _))))))
  refine wpQuiet_nil ?_
  rintro _ ⟨x1, rfl⟩
  have b1 := x1.below
  have z0 : w.heap.size < x1.it.heap.size := x1.lt (by simp; omega)
  have z1 : w.heap.size + 1 < x1.it.heap.size := x1.lt (by simp)
  clear C1 C2
  rcases O6.out with rfl | rfl | rfl | rfl | rfl | rfl <;> rcases L3'.out with rfl | rfl | rfl <;> rcases H3'.out with rfl | rfl | rfl
  all_goals
    clear L3' H3' O6
    go_wp2_with (go_at_call 76; refine Calls.mono (S1.out _) ?_; rintro e w2 ⟨rfl, hb2⟩; obtain ⟨x2, rfl⟩ := Ext.of hb2)
    go_ret
    exact ⟨rfl, by repeat (first | with_reducible exact Below.refl _ _ | with_reducible assumption | with_reducible refine Below.al ?_ _ | with_reducible refine Below.on ?_ _ | with_reducible refine Below.st ?_ (by first | assumption | (simp; done) | (simp; omega)) _ | with_reducible refine Below.drew ?_)⟩
end Go.Proofs.Ytfemekmkmiljdaa
