/-
  CHAPTER 24: combine of the reference. Conditions: each theorem states its own.
-/
import Derived.Test.YtfemekmkmiljdaaPcc
set_option linter.unusedVariables false
set_option linter.unusedSimpArgs false
namespace Go.Proofs.Ytfemekmkmiljdaa
open Go.RowKit
theorem ts_shr (s : TS) {x : Nat} (h : x < 3) : bits .and .i64 (s.int / 2 ^ x) 1 = if s.has (x : Int) = true then 1 else 0 := by
  obtain ⟨f, t, u⟩ := s
  rcases (show x = 0 ∨ x = 1 ∨ x = 2 by omega) with rfl | rfl | rfl <;> cases f <;> cases t <;> cases u <;> rfl
set_option maxRecDepth 8000 in
set_option maxHeartbeats 1000000 in
theorem refcombine_any (op : Int) (ho : op = 9 ∨ op = 10) (A B : TS) (w : World) : Calls Try.prog 53 #[.int .i64 op, .int .i64 A.int, .int .i64 B.int] w fun e w' => e = .returned (.int .i64 (combS op A B).int) ∧ Below w.heap.size w w' := by
  obtain ⟨av, hav⟩ : ∃ v, A.int = v := ⟨_, rfl⟩
  obtain ⟨bv, hbv⟩ : ∃ v, B.int = v := ⟨_, rfl⟩
  rw [hav, hbv]
  have HA := Lib.hid hav
  have HB := Lib.hid hbv
  have HO := Lib.hid ho
  clear hav hbv ho
  go_enter Try.func53, Try.ntmps53
  go_wp2_with fail
  go_loopg [7, 8] 3 (fun g s st wr => ∃ x : Nat, x + g = 3 ∧ st = .int .i64 (x : Int) ∧ s = .int .i64 (accC op A B (3 * x)).int ∧ ∃ z : Ext w, z.it = wr)
  case atStart => exact ⟨0, by omega, rfl, rfl, ⟨w, Below.refl _ _⟩, rfl⟩
  case round =>
    obtain ⟨x, hx, rfl, rfl, z, rfl⟩ := hrel
    obtain ⟨og, rfl⟩ : ∃ og, og = gk := ⟨_, rfl⟩
    have zb := z.below
    by_cases hg0 : og = 0
    · subst hg0
      obtain rfl : x = 3 := by omega
      have E := Lib.hid (accC_9 op A B)
      obtain ⟨R, hR⟩ : ∃ R, (accC op A B (3 * 3)).int = R := ⟨_, rfl⟩
      rw [hR]
      have HR := Lib.hid hR
      clear hR hx
      go_wp2
      exact bodyPost_ret (v := .int .i64 R) (by simp [results, Try.results53, go_sem, *]) rfl (⟨by rw [← HR.out, ← E.out], zb⟩)
    · have hx3 : x < 3 := by omega
      have hx2 : (x : Int) ≤ 2 := by omega
      have HX := Lib.hid (And.intro hx hg0)
      clear hx hg0
      go_wp2_with fail
      go_loopg [7, 9] 3 (fun g s st wr => ∃ y : Nat, y + g = 3 ∧ st = .int .i64 (y : Int) ∧ s = .int .i64 (accC op A B (3 * x + y)).int ∧ ∃ v : Ext z.it, v.it = wr)
      case atStart => exact ⟨0, by omega, rfl, rfl, ⟨z.it, Below.refl _ _⟩, rfl⟩
      case round =>
        obtain ⟨y, hy, rfl, rfl, v, rfl⟩ := hrel
        have vb := v.below
        have XB := Lib.hid (zb.trans (vb.mono zb.size))
        by_cases hgi : gk = 0
        · subst hgi
          obtain rfl : y = 3 := by omega
          clear hy
          go_wp2
          go_roundg (og - 1)
          case measure => have := HX.out; omega
          case rel => exact ⟨x + 1, by have := HX.out; omega, by go_num, by rw [show 3 * (x + 1) = 3 * x + 3 by omega], ⟨_, XB.out⟩, rfl⟩
        · have hy3 : y < 3 := by omega
          have hy2 : (y : Int) ≤ 2 := by omega
          have HY := Lib.hid (And.intro hy hgi)
          have AS := accC_succ op A B hx3 hy3
          have ax := ts_shr A hx3
          have by' := ts_shr B hy3
          rw [HA.out] at ax
          rw [HB.out] at by'
          obtain ⟨S, hS⟩ : ∃ S, accC op A B (3 * x + y) = S := ⟨_, rfl⟩
          rw [hS] at AS ⊢
          have X3 : T3 (x : Int) := n3 hx3
          have Y3 : T3 (y : Int) := n3 hy3
          have C3 : T3 (combT op x y) := combT_3 X3 Y3
          have AN := Lib.hid (fun W => and3_any X3 Y3 W)
          have OR := Lib.hid (fun W => or3_any X3 Y3 W)
          have AD1 := Lib.hid (fun W => (add_any S C3 true W : Calls Try.prog 51 #[.int .i64 S.int, .int .i64 (combT op x y), .bool true] W fun e w' => e = .returned (.int .i64 (S.add (combT op x y)).int) ∧ Below W.heap.size W w'))
          have AD0 := Lib.hid (fun W => (add_any S C3 false W : Calls Try.prog 51 #[.int .i64 S.int, .int .i64 (combT op x y), .bool false] W fun e w' => e = .returned (.int .i64 S.int) ∧ Below W.heap.size W w'))
          obtain ⟨sv, hsv⟩ : ∃ v, S.int = v := ⟨_, rfl⟩
          rw [hsv] at AD1 AD0 ⊢
          have HSV := Lib.hid hsv
          clear hy hgi hS X3 Y3 C3 hsv
          obtain ⟨ha, hha⟩ : ∃ b, A.has (x : Int) = b := ⟨_, rfl⟩
          obtain ⟨hb, hhb⟩ : ∃ b, B.has (y : Int) = b := ⟨_, rfl⟩
          rw [hha, hhb] at AS
          rw [hha] at ax
          rw [hhb] at by'
          clear hha hhb
          rcases HO.out with rfl | rfl
          · have e9 : combT 9 x y = andT x y := rfl
            rw [e9] at AD1 AD0 AS
            obtain ⟨c, hc⟩ : ∃ c, andT (x : Int) y = c := ⟨_, rfl⟩
            rw [hc] at AD1 AD0 AS AN
            clear hc e9 OR
            cases ha <;> cases hb <;> simp only [Bool.and_true, Bool.and_false, Bool.false_and, Bool.true_and, if_true, if_false, reduceCtorEq, Bool.false_eq_true] at AS ax by'
            all_goals
              have ASH := Lib.hid AS
              clear AS
              go_wp2_with (first | (go_at_call 60; (with_reducible refine Calls.mono (AN.out _) ?_); rintro e w1 ⟨rfl, hb1⟩; obtain ⟨x1, rfl⟩ := Ext.of hb1) | (go_at_call 51; (with_reducible refine Calls.mono (AD1.out _) ?_); rintro e w2 ⟨rfl, hb2⟩; obtain ⟨x2, rfl⟩ := Ext.of hb2) | (go_at_call 51; (with_reducible refine Calls.mono (AD0.out _) ?_); rintro e w2 ⟨rfl, hb2⟩; obtain ⟨x2, rfl⟩ := Ext.of hb2))
              have VB := v.below
              go_roundg (gk - 1)
              case measure => have := HY.out; omega
              case rel => exact ⟨y + 1, by have := HY.out; omega, by go_num, by (rw [← Nat.add_assoc, ASH.out]; try (first | rfl | rw [HSV.out])), ⟨_, by repeat (first | with_reducible exact Below.refl _ _ | with_reducible assumption | with_reducible refine Below.al ?_ _ | with_reducible refine Below.on ?_ _ | with_reducible refine Below.st ?_ (by first | assumption | (simp; done) | (simp; omega)) _ | with_reducible refine Below.drew ?_)⟩, rfl⟩
          · have e9 : combT 10 x y = orT x y := rfl
            rw [e9] at AD1 AD0 AS
            obtain ⟨c, hc⟩ : ∃ c, orT (x : Int) y = c := ⟨_, rfl⟩
            rw [hc] at AD1 AD0 AS OR
            clear hc e9
            cases ha <;> cases hb <;> simp only [Bool.and_true, Bool.and_false, Bool.false_and, Bool.true_and, if_true, if_false, reduceCtorEq, Bool.false_eq_true] at AS ax by'
            all_goals
              have ASH := Lib.hid AS
              clear AS
              go_wp2_with (first | (go_at_call 60; (with_reducible refine Calls.mono (AN.out _) ?_); rintro e w1 ⟨rfl, hb1⟩; obtain ⟨x1, rfl⟩ := Ext.of hb1) | (go_at_call 61; (with_reducible refine Calls.mono (OR.out _) ?_); rintro e w3 ⟨rfl, hb3⟩; obtain ⟨x3, rfl⟩ := Ext.of hb3) | (go_at_call 51; (with_reducible refine Calls.mono (AD1.out _) ?_); rintro e w2 ⟨rfl, hb2⟩; obtain ⟨x2, rfl⟩ := Ext.of hb2) | (go_at_call 51; (with_reducible refine Calls.mono (AD0.out _) ?_); rintro e w2 ⟨rfl, hb2⟩; obtain ⟨x2, rfl⟩ := Ext.of hb2))
              have VB := v.below
              go_roundg (gk - 1)
              case measure => have := HY.out; omega
              case rel => exact ⟨y + 1, by have := HY.out; omega, by go_num, by (rw [← Nat.add_assoc, ASH.out]; try (first | rfl | rw [HSV.out])), ⟨_, by repeat (first | with_reducible exact Below.refl _ _ | with_reducible assumption | with_reducible refine Below.al ?_ _ | with_reducible refine Below.on ?_ _ | with_reducible refine Below.st ?_ (by first | assumption | (simp; done) | (simp; omega)) _ | with_reducible refine Below.drew ?_)⟩, rfl⟩
/-- The set of the opposite truth values. -/
def notS (a : TS) : TS := ([0, 1, 2] : List Int).foldl (fun s x => if a.has x = true then s.add (notT x) else s) TS.non
theorem notS_eq (a : TS) : combS 11 a ⟨true, false, false⟩ = notS a := by
  obtain ⟨f, t, u⟩ := a
  cases f <;> cases t <;> cases u <;> rfl
end Go.Proofs.Ytfemekmkmiljdaa
