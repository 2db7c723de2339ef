/-
  CHAPTER 24: combine of prune and of its reference. Conditions: each theorem states its own.
-/
import Derived.Test.YtfemekmkmiljdaaPcb
import Derived.Test.YtfemekmkmiljdaaEvl
set_option linter.unusedVariables false
set_option linter.unusedSimpArgs false
namespace Go.Proofs.Ytfemekmkmiljdaa
open Go.RowKit
def combT (op a b : Int) : Int := if op = 9 then andT a b else if op = 10 then orT a b else notT a
theorem combT_3 {op a b : Int} (h : T3 a) (k : T3 b) : T3 (combT op a b) := by
  unfold combT
  split
  · exact andT_3 h k
  · split
    · exact orT_3 h k
    · exact notT_3 h
set_option maxHeartbeats 4000000 in
theorem pcombine_any {op a b : Int} (ho : op = 9 ∨ op = 10 ∨ op = 11) (h : T3 a) (k : T3 b) (w : World) : Calls Try.prog 46 #[.int .i64 op, .int .i64 a, .int .i64 b] w fun e w' => e = .returned (.int .i64 (combT op a b)) ∧ Below w.heap.size w w' := by
  rcases ho with rfl | rfl | rfl <;> rcases h with rfl | rfl | rfl <;> rcases k with rfl | rfl | rfl
  all_goals
    go_enter Try.func46, Try.ntmps46
    go_wp2
    go_ret
    exact ⟨rfl, Below.refl _ _⟩
def pairs9 : List (Int × Int) := [(0, 0), (0, 1), (0, 2), (1, 0), (1, 1), (1, 2), (2, 0), (2, 1), (2, 2)]
def stepC (op : Int) (a b : TS) (s : TS) (p : Int × Int) : TS := if (a.has p.1 && b.has p.2) = true then s.add (combT op p.1 p.2) else s
/-- The results of all pairs of elements of two sets. -/
def combS (op : Int) (a b : TS) : TS := pairs9.foldl (stepC op a b) TS.non
def accC (op : Int) (a b : TS) (k : Nat) : TS := (pairs9.take k).foldl (stepC op a b) TS.non
theorem accC_9 (op : Int) (a b : TS) : accC op a b 9 = combS op a b := rfl
theorem pair_at {x y : Nat} (hx : x < 3) (hy : y < 3) : ∃ h : 3 * x + y < pairs9.length, pairs9[3 * x + y]'h = ((x : Int), (y : Int)) := by
  rcases (show x = 0 ∨ x = 1 ∨ x = 2 by omega) with rfl | rfl | rfl <;> rcases (show y = 0 ∨ y = 1 ∨ y = 2 by omega) with rfl | rfl | rfl <;> exact ⟨by decide, rfl⟩
theorem accC_succ (op : Int) (a b : TS) {x y : Nat} (hx : x < 3) (hy : y < 3) : accC op a b (3 * x + y + 1) = if (a.has x && b.has y) = true then (accC op a b (3 * x + y)).add (combT op x y) else accC op a b (3 * x + y) := by
  obtain ⟨h, e⟩ := pair_at hx hy
  unfold accC
  rw [List.take_succ_eq_append_getElem h, List.foldl_append, e]
  rfl
theorem n3 {x : Nat} (h : x < 3) : ((x : Int) = 0 ∨ (x : Int) = 1 ∨ (x : Int) = 2) := by omega
set_option maxRecDepth 8000 in
set_option maxHeartbeats 1000000 in
theorem combine_any (op : Int) (ho : op = 9 ∨ op = 10 ∨ op = 11) (A B : TS) (w : World) : Calls Try.prog 28 #[.int .i64 op, .int .i64 A.int, .int .i64 B.int] w fun e w' => e = .returned (.int .i64 (combS op A B).int) ∧ Below w.heap.size w w' := by
  obtain ⟨av, hav⟩ : ∃ v, A.int = v := ⟨_, rfl⟩
  obtain ⟨bv, hbv⟩ : ∃ v, B.int = v := ⟨_, rfl⟩
  rw [hav, hbv]
  have HA := Lib.hid hav
  have HB := Lib.hid hbv
  have HO := Lib.hid ho
  clear hav hbv ho
  go_enter Try.func28, Try.ntmps28
  go_wp2_with fail
  go_loopg [7, 8] 3 (fun g s st wr => ∃ x : Nat, x + g = 3 ∧ st = .int .i64 (x : Int) ∧ s = .int .i64 (accC op A B (3 * x)).int ∧ ∃ z : Ext w, z.it = wr)
  case atStart => exact ⟨0, by omega, rfl, rfl, ⟨w, Below.refl _ _⟩, rfl⟩
  case round =>
    obtain ⟨x, hx, rfl, rfl, z, rfl⟩ := hrel
    obtain ⟨og, rfl⟩ : ∃ og, og = gk := ⟨_, rfl⟩
    have zb := z.below
    by_cases hg0 : og = 0
    · subst hg0
      obtain rfl : x = 3 := by omega
      have E := Lib.hid (accC_9 op A B)
      obtain ⟨R, hR⟩ : ∃ R, (accC op A B (3 * 3)).int = R := ⟨_, rfl⟩
      rw [hR]
      have HR := Lib.hid hR
      clear hR hx
      go_wp2
      exact bodyPost_ret (v := .int .i64 R) (by simp [results, Try.results28, go_sem, *]) rfl (⟨by rw [← HR.out, ← E.out], zb⟩)
    · have hx3 : x < 3 := by omega
      have hx2 : (x : Int) ≤ 2 := by omega
      have HX := Lib.hid (And.intro hx hg0)
      clear hx hg0
      go_wp2_with fail
      go_loopg [7, 9] 3 (fun g s st wr => ∃ y : Nat, y + g = 3 ∧ st = .int .i64 (y : Int) ∧ s = .int .i64 (accC op A B (3 * x + y)).int ∧ ∃ v : Ext z.it, v.it = wr)
      case atStart => exact ⟨0, by omega, rfl, rfl, ⟨z.it, Below.refl _ _⟩, rfl⟩
      case round =>
        obtain ⟨y, hy, rfl, rfl, v, rfl⟩ := hrel
        have vb := v.below
        have XB := Lib.hid (zb.trans (vb.mono zb.size))
        by_cases hgi : gk = 0
        · subst hgi
          obtain rfl : y = 3 := by omega
          clear hy
          go_wp2
          go_roundg (og - 1)
          case measure => have := HX.out; omega
          case rel => exact ⟨x + 1, by have := HX.out; omega, by go_num, by rw [show 3 * (x + 1) = 3 * x + 3 by omega], ⟨_, XB.out⟩, rfl⟩
        · have hy3 : y < 3 := by omega
          have hy2 : (y : Int) ≤ 2 := by omega
          have HY := Lib.hid (And.intro hy hgi)
          have AS := accC_succ op A B hx3 hy3
          have ax := ts_and A (n3 hx3)
          have by' := ts_and B (n3 hy3)
          rw [HA.out] at ax
          rw [HB.out] at by'
          obtain ⟨S, hS⟩ : ∃ S, accC op A B (3 * x + y) = S := ⟨_, rfl⟩
          rw [hS] at AS ⊢
          have X3 : T3 (x : Int) := n3 hx3
          have Y3 : T3 (y : Int) := n3 hy3
          have O1 := Lib.hid (fun W => one_any X3 W)
          have O2 := Lib.hid (fun W => one_any Y3 W)
          have PC := Lib.hid (fun W => pcombine_any HO.out X3 Y3 W)
          have C3 : T3 (combT op x y) := combT_3 X3 Y3
          have O3 := Lib.hid (fun W => one_any C3 W)
          have orr := ts_or S C3
          obtain ⟨c, hc⟩ : ∃ c, combT op x y = c := ⟨_, rfl⟩
          rw [hc] at AS PC O3 orr
          have nz1 : oneF (x : Int) ≠ 0 := by unfold oneF; split <;> (try split) <;> decide
          have nz2 : oneF (y : Int) ≠ 0 := by unfold oneF; split <;> (try split) <;> decide
          have nz1' : (oneF (x : Int) != 0) = true := by simpa using nz1
          have nz2' : (oneF (y : Int) != 0) = true := by simpa using nz2
          clear hy hgi hS hc X3 Y3 C3
          obtain ⟨ha, hha⟩ : ∃ b, A.has (x : Int) = b := ⟨_, rfl⟩
          obtain ⟨hb, hhb⟩ : ∃ b, B.has (y : Int) = b := ⟨_, rfl⟩
          rw [hha, hhb] at AS
          rw [hha] at ax
          rw [hhb] at by'
          obtain ⟨p1, hp1⟩ : ∃ p, oneF (x : Int) = p := ⟨_, rfl⟩
          obtain ⟨p2, hp2⟩ : ∃ p, oneF (y : Int) = p := ⟨_, rfl⟩
          obtain ⟨p3, hp3⟩ : ∃ p, oneF c = p := ⟨_, rfl⟩
          rw [hp1] at ax O1 nz1 nz1'
          rw [hp2] at by' O2 nz2 nz2'
          rw [hp3] at orr O3
          clear hha hhb hp1 hp2 hp3
          cases ha <;> cases hb <;> simp only [Bool.and_true, Bool.and_false, Bool.false_and, Bool.true_and, if_true, if_false, reduceCtorEq, Bool.false_eq_true] at AS ax by'
          all_goals
            have ASH := Lib.hid AS
            clear AS
            go_wp2_with (first | (go_at_call 27; (with_reducible refine Calls.mono (O1.out _) ?_); rintro e w1 ⟨rfl, hb1⟩; obtain ⟨x1, rfl⟩ := Ext.of hb1) | (go_at_call 27; (with_reducible refine Calls.mono (O2.out _) ?_); rintro e w2 ⟨rfl, hb2⟩; obtain ⟨x2, rfl⟩ := Ext.of hb2) | (go_at_call 46; (with_reducible refine Calls.mono (PC.out _) ?_); rintro e w3 ⟨rfl, hb3⟩; obtain ⟨x3, rfl⟩ := Ext.of hb3) | (go_at_call 27; (with_reducible refine Calls.mono (O3.out _) ?_); rintro e w4 ⟨rfl, hb4⟩; obtain ⟨x4, rfl⟩ := Ext.of hb4))
            have VB := v.below
            go_roundg (gk - 1)
            case measure => have := HY.out; omega
            case rel => exact ⟨y + 1, by have := HY.out; omega, by go_num, by rw [← Nat.add_assoc, ASH.out], ⟨_, by repeat (first | with_reducible exact Below.refl _ _ | with_reducible assumption | with_reducible refine Below.al ?_ _ | with_reducible refine Below.on ?_ _ | with_reducible refine Below.st ?_ (by first | assumption | (simp; done) | (simp; omega)) _ | with_reducible refine Below.drew ?_)⟩, rfl⟩
end Go.Proofs.Ytfemekmkmiljdaa
