/-
  CHAPTER 14: zone.Check and ref13.CheckZone. Conditions: none.
-/
import Derived.Test.YtfemekmkmiljdaaSc3
import Derived.Test.YtfemekmkmiljdaaVck
import Derived.Test.YtfemekmkmiljdaaPca
set_option linter.unusedVariables false
set_option linter.unusedSimpArgs false
namespace Go.Proofs.Ytfemekmkmiljdaa
open Go.RowKit
def isN (v : Val) : Bool := v.null && decide (v.n = 0) && decide (v.s.toList = [])
def zonD (d n : Int) : Bool := (decide (d < 0) && decide (1 < n)) || decide (d = 0)
def zonF (ty : Int) (nul : Bool) (z : Zon) : Bool :=
  if ty < 1 ∨ 5 < ty ∨ z.nulls < 0 ∨ z.rows < z.nulls ∨ 4096 < z.rows ∨ (0 < z.nulls ∧ nul = false) then false else
  if z.nulls = z.rows then isN z.min && isN z.max else
  if z.min.null = true ∨ z.max.null = true ∨ vchk ty nul z.min.null z.min.n z.min.s ≠ 0 ∨ vchk ty nul z.max.null z.max.n z.max.s ≠ 0 then false else
  zonD (cmpV ty z.min z.max) (z.rows - z.nulls)
theorem n4 (an : Bool) (a : Int) (sa : ByteArray) : an = false ∨ (an = true ∧ ¬ a = 0) ∨ (an = true ∧ a = 0 ∧ ¬ sa.toList = []) ∨ (an = true ∧ a = 0 ∧ sa.toList = []) := by
  cases an with
  | false => exact .inl rfl
  | true =>
    by_cases h : a = 0
    · by_cases k : sa.toList = []
      · exact .inr (.inr (.inr ⟨rfl, h, k⟩))
      · exact .inr (.inr (.inl ⟨rfl, h, k⟩))
    · exact .inr (.inl ⟨rfl, h⟩)
theorem z6 {ty zn zr : Int} {nul : Bool} (h : ty < 1 ∨ 5 < ty ∨ zn < 0 ∨ zr < zn ∨ 4096 < zr ∨ (0 < zn ∧ nul = false)) :
    ty < 1 ∨ (¬ ty < 1 ∧ 5 < ty) ∨ (¬ ty < 1 ∧ ¬ 5 < ty ∧ zn < 0) ∨ (¬ ty < 1 ∧ ¬ 5 < ty ∧ ¬ zn < 0 ∧ zr < zn) ∨ (¬ ty < 1 ∧ ¬ 5 < ty ∧ ¬ zn < 0 ∧ ¬ zr < zn ∧ 4096 < zr) ∨ (¬ ty < 1 ∧ ¬ 5 < ty ∧ ¬ zn < 0 ∧ ¬ zr < zn ∧ ¬ 4096 < zr ∧ 0 < zn ∧ nul = false) := by
  by_cases h1 : ty < 1
  · exact .inl h1
  by_cases h2 : 5 < ty
  · exact .inr (.inl ⟨h1, h2⟩)
  by_cases h3 : zn < 0
  · exact .inr (.inr (.inl ⟨h1, h2, h3⟩))
  by_cases h4 : zr < zn
  · exact .inr (.inr (.inr (.inl ⟨h1, h2, h3, h4⟩)))
  by_cases h5 : 4096 < zr
  · exact .inr (.inr (.inr (.inr (.inl ⟨h1, h2, h3, h4, h5⟩))))
  rcases h with h | h | h | h | h | h
  · exact absurd h h1
  · exact absurd h h2
  · exact absurd h h3
  · exact absurd h h4
  · exact absurd h h5
  · exact .inr (.inr (.inr (.inr (.inr ⟨h1, h2, h3, h4, h5, h.1, h.2⟩))))
set_option maxRecDepth 8000 in
set_option maxHeartbeats 1000000 in
theorem zcheck_any (cn : ByteArray) (ty sc : Int) (nul : Bool) (zr zn : Int) (an : Bool) (a : Int) (sa : ByteArray) (bn : Bool) (b : Int) (sb : ByteArray) (w : World) :
    Calls Try.prog 26 #[.agg #[.string cn, .int .i64 ty, .int .i64 sc, .bool nul], .agg #[.int .i64 zr, .int .i64 zn, .bool an, .int .i64 a, .string sa, .bool bn, .int .i64 b, .string sb]] w fun e w' => e = .returned (.bool (zonF ty nul ⟨zr, zn, ⟨an, a, sa⟩, ⟨bn, b, sb⟩⟩)) ∧ Below w.heap.size w w' := by
  obtain ⟨R, hR⟩ : ∃ R, zonF ty nul ⟨zr, zn, ⟨an, a, sa⟩, ⟨bn, b, sb⟩⟩ = R := ⟨_, rfl⟩
  rw [hR]
  have HR := Lib.hid hR
  clear hR
  by_cases hb : ty < 1 ∨ 5 < ty ∨ zn < 0 ∨ zr < zn ∨ 4096 < zr ∨ (0 < zn ∧ nul = false)
  · obtain rfl : false = R := by rw [← HR.out]; unfold zonF; rw [if_pos hb]
    clear HR
    rcases z6 hb with h1 | ⟨h1, h2⟩ | ⟨h1, h2, h3⟩ | ⟨h1, h2, h3, h4⟩ | ⟨h1, h2, h3, h4, h5⟩ | ⟨h1, h2, h3, h4, h5, h6, rfl⟩
    all_goals
      clear hb
      go_enter Try.func26, Try.ntmps26
      go_wp2
      go_ret
      exact ⟨rfl, by repeat (first | with_reducible exact Below.refl _ _ | with_reducible assumption | with_reducible refine Below.al ?_ _ | with_reducible refine Below.on ?_ _ | with_reducible refine Below.st ?_ (by first | assumption | (simp; done) | (simp; omega)) _ | with_reducible refine Below.drew ?_)⟩
  · have g1 : ¬ ty < 1 := by omega
    have g2 : ¬ 5 < ty := by omega
    have g3 : ¬ zn < 0 := by omega
    have g4 : ¬ zr < zn := by omega
    have g5 : ¬ 4096 < zr := by omega
    by_cases he : zn = zr
    · obtain rfl : (isN ⟨an, a, sa⟩ && isN ⟨bn, b, sb⟩) = R := by rw [← HR.out]; unfold zonF; rw [if_neg hb, if_pos he]
      clear HR
      subst he
      by_cases hz : 0 < zn
      · obtain rfl : nul = true := by cases nul with | true => rfl | false => exact absurd (Or.inr (Or.inr (Or.inr (Or.inr (Or.inr ⟨hz, rfl⟩))))) hb
        clear hb
        
        go_enter Try.func26, Try.ntmps26
        go_wp2
        all_goals
          go_ret
          exact ⟨by simp [isN, *], by repeat (first | with_reducible exact Below.refl _ _ | with_reducible assumption | with_reducible refine Below.al ?_ _ | with_reducible refine Below.on ?_ _ | with_reducible refine Below.st ?_ (by first | assumption | (simp; done) | (simp; omega)) _ | with_reducible refine Below.drew ?_)⟩
      · clear hb
        
        go_enter Try.func26, Try.ntmps26
        go_wp2
        all_goals
          go_ret
          exact ⟨by simp [isN, *], by repeat (first | with_reducible exact Below.refl _ _ | with_reducible assumption | with_reducible refine Below.al ?_ _ | with_reducible refine Below.on ?_ _ | with_reducible refine Below.st ?_ (by first | assumption | (simp; done) | (simp; omega)) _ | with_reducible refine Below.drew ?_)⟩
    · have hfin : (0 < zn → nul = true) := fun h => by cases nul with | true => rfl | false => exact absurd (Or.inr (Or.inr (Or.inr (Or.inr (Or.inr ⟨h, rfl⟩))))) hb
      obtain ⟨k1, hk1⟩ : ∃ k, vchk ty nul an a sa = k := ⟨_, rfl⟩
      obtain ⟨k2, hk2⟩ : ∃ k, vchk ty nul bn b sb = k := ⟨_, rfl⟩
      obtain ⟨d, hd⟩ : ∃ d, cmpV ty ⟨an, a, sa⟩ ⟨bn, b, sb⟩ = d := ⟨_, rfl⟩
      have K1 := Lib.hid (fun (W : World) => (by have h := vcheck_any cn ty sc nul an a sa W; rw [hk1] at h; exact h : Calls Try.prog 44 #[.agg #[.string cn, .int .i64 ty, .int .i64 sc, .bool nul], .agg #[.bool an, .int .i64 a, .string sa]] W fun e w' => e = .returned (.int .i64 k1) ∧ Below W.heap.size W w'))
      have K2 := Lib.hid (fun (W : World) => (by have h := vcheck_any cn ty sc nul bn b sb W; rw [hk2] at h; exact h : Calls Try.prog 44 #[.agg #[.string cn, .int .i64 ty, .int .i64 sc, .bool nul], .agg #[.bool bn, .int .i64 b, .string sb]] W fun e w' => e = .returned (.int .i64 k2) ∧ Below W.heap.size W w'))
      have C1 := Lib.hid (fun (W : World) => (by have h := compare_any ty an a sa bn b sb W; rw [hd] at h; exact h : Calls Try.prog 45 #[.int .i64 ty, .agg #[.bool an, .int .i64 a, .string sa], .agg #[.bool bn, .int .i64 b, .string sb]] W fun e w' => e = .returned (.int .i64 d) ∧ Below W.heap.size W w'))
      have D3 := cmp3 ty ⟨an, a, sa⟩ ⟨bn, b, sb⟩
      rw [hd] at D3
      have ev : zonF ty nul ⟨zr, zn, ⟨an, a, sa⟩, ⟨bn, b, sb⟩⟩ = if an = true ∨ bn = true ∨ k1 ≠ 0 ∨ k2 ≠ 0 then false else zonD d (zr - zn) := by
        unfold zonF; rw [if_neg hb, if_neg he]; dsimp only; rw [hk1, hk2, hd]
      have HE := Lib.hid (ev.symm.trans HR.out)
      have HD3 := Lib.hid D3
      have HF := Lib.hid hfin
      clear ev hk1 hk2 hd D3 HR hb hfin
      by_cases hz : 0 < zn
      · obtain rfl : nul = true := HF.out hz
        clear HF
        
        go_enter Try.func26, Try.ntmps26
        go_upto_region 6 with fail
        cases an with
        | true =>
          obtain rfl : false = R := by rw [← HE.out]; simp
          go_wp2
          go_ret
          exact ⟨rfl, by repeat (first | with_reducible exact Below.refl _ _ | with_reducible assumption | with_reducible refine Below.al ?_ _ | with_reducible refine Below.on ?_ _ | with_reducible refine Below.st ?_ (by first | assumption | (simp; done) | (simp; omega)) _ | with_reducible refine Below.drew ?_)⟩
        | false =>
          cases bn with
          | true =>
            obtain rfl : false = R := by rw [← HE.out]; simp
            go_wp2
            go_ret
            exact ⟨rfl, by repeat (first | with_reducible exact Below.refl _ _ | with_reducible assumption | with_reducible refine Below.al ?_ _ | with_reducible refine Below.on ?_ _ | with_reducible refine Below.st ?_ (by first | assumption | (simp; done) | (simp; omega)) _ | with_reducible refine Below.drew ?_)⟩
          | false =>
            by_cases e1 : k1 = 0
            · have e1' : (k1 != 0) = false := by simpa using e1
              by_cases e2 : k2 = 0
              · have e2' : (k2 != 0) = false := by simpa using e2
                obtain rfl : zonD d (zr - zn) = R := by rw [← HE.out]; simp [e1, e2]
                have wr : IntKind.i64.wrap (zr - zn) = zr - zn := IntWalk.i64_in _ (by omega)
                go_upto_region 8 with (first | (go_at_call 44; (with_reducible refine Calls.mono (K1.out _) ?_); rintro e w2 ⟨rfl, hb2⟩; obtain ⟨x2, rfl⟩ := Ext.of hb2; have q0 : w.heap.size < x2.it.heap.size := x2.lt (by first | assumption | (simp; done) | (simp; omega)); have q1 : w.heap.size + 1 < x2.it.heap.size := x2.lt (by first | assumption | (simp; done) | (simp; omega))) | (go_at_call 44; (with_reducible refine Calls.mono (K2.out _) ?_); rintro e w3 ⟨rfl, hb3⟩; obtain ⟨x3, rfl⟩ := Ext.of hb3; have r0 : w.heap.size < x3.it.heap.size := x3.lt (by first | assumption | (simp; done) | (simp; omega)); have r1 : w.heap.size + 1 < x3.it.heap.size := x3.lt (by first | assumption | (simp; done) | (simp; omega))))
                by_cases hn : 1 < zr - zn
                all_goals
                  rcases HD3.out with rfl | rfl | rfl
                all_goals
                  go_wp2_with (go_at_call 45; (with_reducible refine Calls.mono (C1.out _) ?_); rintro e w4 ⟨rfl, hb4⟩; obtain ⟨x4, rfl⟩ := Ext.of hb4; have s0 : w.heap.size < x4.it.heap.size := x4.lt (by first | assumption | (simp; done) | (simp; omega)); have s1 : w.heap.size + 1 < x4.it.heap.size := x4.lt (by first | assumption | (simp; done) | (simp; omega)))
                  go_ret
                  exact ⟨by simp [zonD, *], by repeat (first | with_reducible exact Below.refl _ _ | with_reducible assumption | with_reducible refine Below.al ?_ _ | with_reducible refine Below.on ?_ _ | with_reducible refine Below.st ?_ (by first | assumption | (simp; done) | (simp; omega)) _ | with_reducible refine Below.drew ?_)⟩
              · have e2' : (k2 != 0) = true := by simpa using e2
                obtain rfl : false = R := by rw [← HE.out]; simp [e2]
                go_wp2_with (first | (go_at_call 44; (with_reducible refine Calls.mono (K1.out _) ?_); rintro e w2 ⟨rfl, hb2⟩; obtain ⟨x2, rfl⟩ := Ext.of hb2; have q0 : w.heap.size < x2.it.heap.size := x2.lt (by first | assumption | (simp; done) | (simp; omega)); have q1 : w.heap.size + 1 < x2.it.heap.size := x2.lt (by first | assumption | (simp; done) | (simp; omega))) | (go_at_call 44; (with_reducible refine Calls.mono (K2.out _) ?_); rintro e w3 ⟨rfl, hb3⟩; obtain ⟨x3, rfl⟩ := Ext.of hb3; have r0 : w.heap.size < x3.it.heap.size := x3.lt (by first | assumption | (simp; done) | (simp; omega)); have r1 : w.heap.size + 1 < x3.it.heap.size := x3.lt (by first | assumption | (simp; done) | (simp; omega))))
                go_ret
                exact ⟨rfl, by repeat (first | with_reducible exact Below.refl _ _ | with_reducible assumption | with_reducible refine Below.al ?_ _ | with_reducible refine Below.on ?_ _ | with_reducible refine Below.st ?_ (by first | assumption | (simp; done) | (simp; omega)) _ | with_reducible refine Below.drew ?_)⟩
            · have e1' : (k1 != 0) = true := by simpa using e1
              obtain rfl : false = R := by rw [← HE.out]; simp [e1]
              go_wp2_with (go_at_call 44; (with_reducible refine Calls.mono (K1.out _) ?_); rintro e w2 ⟨rfl, hb2⟩; obtain ⟨x2, rfl⟩ := Ext.of hb2; have q0 : w.heap.size < x2.it.heap.size := x2.lt (by first | assumption | (simp; done) | (simp; omega)); have q1 : w.heap.size + 1 < x2.it.heap.size := x2.lt (by first | assumption | (simp; done) | (simp; omega)))
              go_ret
              exact ⟨rfl, by repeat (first | with_reducible exact Below.refl _ _ | with_reducible assumption | with_reducible refine Below.al ?_ _ | with_reducible refine Below.on ?_ _ | with_reducible refine Below.st ?_ (by first | assumption | (simp; done) | (simp; omega)) _ | with_reducible refine Below.drew ?_)⟩
      · clear HF
        
        go_enter Try.func26, Try.ntmps26
        go_upto_region 6 with fail
        cases an with
        | true =>
          obtain rfl : false = R := by rw [← HE.out]; simp
          go_wp2
          go_ret
          exact ⟨rfl, by repeat (first | with_reducible exact Below.refl _ _ | with_reducible assumption | with_reducible refine Below.al ?_ _ | with_reducible refine Below.on ?_ _ | with_reducible refine Below.st ?_ (by first | assumption | (simp; done) | (simp; omega)) _ | with_reducible refine Below.drew ?_)⟩
        | false =>
          cases bn with
          | true =>
            obtain rfl : false = R := by rw [← HE.out]; simp
            go_wp2
            go_ret
            exact ⟨rfl, by repeat (first | with_reducible exact Below.refl _ _ | with_reducible assumption | with_reducible refine Below.al ?_ _ | with_reducible refine Below.on ?_ _ | with_reducible refine Below.st ?_ (by first | assumption | (simp; done) | (simp; omega)) _ | with_reducible refine Below.drew ?_)⟩
          | false =>
            by_cases e1 : k1 = 0
            · have e1' : (k1 != 0) = false := by simpa using e1
              by_cases e2 : k2 = 0
              · have e2' : (k2 != 0) = false := by simpa using e2
                obtain rfl : zonD d (zr - zn) = R := by rw [← HE.out]; simp [e1, e2]
                have wr : IntKind.i64.wrap (zr - zn) = zr - zn := IntWalk.i64_in _ (by omega)
                go_upto_region 8 with (first | (go_at_call 44; (with_reducible refine Calls.mono (K1.out _) ?_); rintro e w2 ⟨rfl, hb2⟩; obtain ⟨x2, rfl⟩ := Ext.of hb2; have q0 : w.heap.size < x2.it.heap.size := x2.lt (by first | assumption | (simp; done) | (simp; omega)); have q1 : w.heap.size + 1 < x2.it.heap.size := x2.lt (by first | assumption | (simp; done) | (simp; omega))) | (go_at_call 44; (with_reducible refine Calls.mono (K2.out _) ?_); rintro e w3 ⟨rfl, hb3⟩; obtain ⟨x3, rfl⟩ := Ext.of hb3; have r0 : w.heap.size < x3.it.heap.size := x3.lt (by first | assumption | (simp; done) | (simp; omega)); have r1 : w.heap.size + 1 < x3.it.heap.size := x3.lt (by first | assumption | (simp; done) | (simp; omega))))
                by_cases hn : 1 < zr - zn
                all_goals
                  rcases HD3.out with rfl | rfl | rfl
                all_goals
                  go_wp2_with (go_at_call 45; (with_reducible refine Calls.mono (C1.out _) ?_); rintro e w4 ⟨rfl, hb4⟩; obtain ⟨x4, rfl⟩ := Ext.of hb4; have s0 : w.heap.size < x4.it.heap.size := x4.lt (by first | assumption | (simp; done) | (simp; omega)); have s1 : w.heap.size + 1 < x4.it.heap.size := x4.lt (by first | assumption | (simp; done) | (simp; omega)))
                  go_ret
                  exact ⟨by simp [zonD, *], by repeat (first | with_reducible exact Below.refl _ _ | with_reducible assumption | with_reducible refine Below.al ?_ _ | with_reducible refine Below.on ?_ _ | with_reducible refine Below.st ?_ (by first | assumption | (simp; done) | (simp; omega)) _ | with_reducible refine Below.drew ?_)⟩
              · have e2' : (k2 != 0) = true := by simpa using e2
                obtain rfl : false = R := by rw [← HE.out]; simp [e2]
                go_wp2_with (first | (go_at_call 44; (with_reducible refine Calls.mono (K1.out _) ?_); rintro e w2 ⟨rfl, hb2⟩; obtain ⟨x2, rfl⟩ := Ext.of hb2; have q0 : w.heap.size < x2.it.heap.size := x2.lt (by first | assumption | (simp; done) | (simp; omega)); have q1 : w.heap.size + 1 < x2.it.heap.size := x2.lt (by first | assumption | (simp; done) | (simp; omega))) | (go_at_call 44; (with_reducible refine Calls.mono (K2.out _) ?_); rintro e w3 ⟨rfl, hb3⟩; obtain ⟨x3, rfl⟩ := Ext.of hb3; have r0 : w.heap.size < x3.it.heap.size := x3.lt (by first | assumption | (simp; done) | (simp; omega)); have r1 : w.heap.size + 1 < x3.it.heap.size := x3.lt (by first | assumption | (simp; done) | (simp; omega))))
                go_ret
                exact ⟨rfl, by repeat (first | with_reducible exact Below.refl _ _ | with_reducible assumption | with_reducible refine Below.al ?_ _ | with_reducible refine Below.on ?_ _ | with_reducible refine Below.st ?_ (by first | assumption | (simp; done) | (simp; omega)) _ | with_reducible refine Below.drew ?_)⟩
            · have e1' : (k1 != 0) = true := by simpa using e1
              obtain rfl : false = R := by rw [← HE.out]; simp [e1]
              go_wp2_with (go_at_call 44; (with_reducible refine Calls.mono (K1.out _) ?_); rintro e w2 ⟨rfl, hb2⟩; obtain ⟨x2, rfl⟩ := Ext.of hb2; have q0 : w.heap.size < x2.it.heap.size := x2.lt (by first | assumption | (simp; done) | (simp; omega)); have q1 : w.heap.size + 1 < x2.it.heap.size := x2.lt (by first | assumption | (simp; done) | (simp; omega)))
              go_ret
              exact ⟨rfl, by repeat (first | with_reducible exact Below.refl _ _ | with_reducible assumption | with_reducible refine Below.al ?_ _ | with_reducible refine Below.on ?_ _ | with_reducible refine Below.st ?_ (by first | assumption | (simp; done) | (simp; omega)) _ | with_reducible refine Below.drew ?_)⟩
set_option maxHeartbeats 400000 in
theorem null_any (w : World) : Calls Try.prog 55 #[] w fun e w' => e = .returned (.agg #[.bool true, .int .i64 0, .string ⟨#[]⟩]) ∧ Below w.heap.size w w' := by
  go_enter Try.func55, Try.ntmps55
  go_wp2
  exact bodyPost_ret (v := .agg #[.bool true, .int .i64 0, .string ⟨#[]⟩]) (by simp [results, Try.results55, go_sem, *]) rfl (⟨rfl, by repeat (first | with_reducible exact Below.refl _ _ | with_reducible assumption | with_reducible refine Below.al ?_ _ | with_reducible refine Below.on ?_ _ | with_reducible refine Below.st ?_ (by first | assumption | (simp; done) | (simp; omega)) _ | with_reducible refine Below.drew ?_)⟩)
set_option maxRecDepth 8000 in
set_option maxHeartbeats 1000000 in
theorem refZcheck_any (cn : ByteArray) (ty sc : Int) (nul : Bool) (zr zn : Int) (an : Bool) (a : Int) (sa : ByteArray) (bn : Bool) (b : Int) (sb : ByteArray) (w : World) :
    Calls Try.prog 50 #[.agg #[.string cn, .int .i64 ty, .int .i64 sc, .bool nul], .agg #[.int .i64 zr, .int .i64 zn, .bool an, .int .i64 a, .string sa, .bool bn, .int .i64 b, .string sb]] w fun e w' => e = .returned (.bool (zonF ty nul ⟨zr, zn, ⟨an, a, sa⟩, ⟨bn, b, sb⟩⟩)) ∧ Below w.heap.size w w' := by
  obtain ⟨R, hR⟩ : ∃ R, zonF ty nul ⟨zr, zn, ⟨an, a, sa⟩, ⟨bn, b, sb⟩⟩ = R := ⟨_, rfl⟩
  rw [hR]
  have HR := Lib.hid hR
  clear hR
  by_cases hb : ty < 1 ∨ 5 < ty ∨ zn < 0 ∨ zr < zn ∨ 4096 < zr ∨ (0 < zn ∧ nul = false)
  · obtain rfl : false = R := by rw [← HR.out]; unfold zonF; rw [if_pos hb]
    clear HR
    rcases z6 hb with h1 | ⟨h1, h2⟩ | ⟨h1, h2, h3⟩ | ⟨h1, h2, h3, h4⟩ | ⟨h1, h2, h3, h4, h5⟩ | ⟨h1, h2, h3, h4, h5, h6, rfl⟩
    all_goals
      clear hb
      go_enter Try.func50, Try.ntmps50
      go_wp2_with (first | (go_at_call 70; refine Calls.mono (typed_any ty _) ?_; rintro e w1 ⟨rfl, hb1⟩; obtain ⟨x1, rfl⟩ := Ext.of hb1; have z0 : w.heap.size < x1.it.heap.size := x1.lt (by simp; omega); have z1 : w.heap.size + 1 < x1.it.heap.size := x1.lt (by simp)))
      go_ret
      exact ⟨rfl, by repeat (first | with_reducible exact Below.refl _ _ | with_reducible assumption | with_reducible refine Below.al ?_ _ | with_reducible refine Below.on ?_ _ | with_reducible refine Below.st ?_ (by first | assumption | (simp; done) | (simp; omega)) _ | with_reducible refine Below.drew ?_)⟩
  · have g1 : ¬ ty < 1 := by omega
    have g2 : ¬ 5 < ty := by omega
    have g3 : ¬ zn < 0 := by omega
    have g4 : ¬ zr < zn := by omega
    have g5 : ¬ 4096 < zr := by omega
    by_cases he : zn = zr
    · obtain rfl : (isN ⟨an, a, sa⟩ && isN ⟨bn, b, sb⟩) = R := by rw [← HR.out]; unfold zonF; rw [if_neg hb, if_pos he]
      clear HR
      subst he
      by_cases hz : 0 < zn
      · obtain rfl : nul = true := by cases nul with | true => rfl | false => exact absurd (Or.inr (Or.inr (Or.inr (Or.inr (Or.inr ⟨hz, rfl⟩))))) hb
        clear hb
        
        go_enter Try.func50, Try.ntmps50
        go_upto_region 4 with (go_at_call 70; refine Calls.mono (typed_any ty _) ?_; rintro e w1 ⟨rfl, hb1⟩; obtain ⟨x1, rfl⟩ := Ext.of hb1; have z0 : w.heap.size < x1.it.heap.size := x1.lt (by simp; omega); have z1 : w.heap.size + 1 < x1.it.heap.size := x1.lt (by simp))
        rcases n4 an a sa with rfl | ⟨rfl, ha⟩ | ⟨rfl, ha, hsa⟩ | ⟨rfl, ha, hsa⟩ <;> rcases n4 bn b sb with rfl | ⟨rfl, hb⟩ | ⟨rfl, hb, hsb⟩ | ⟨rfl, hb, hsb⟩
        all_goals
          refine wp_region_ext (by kernel_rfl) (by kernel_rfl) ?_
          repeat (go_big_quiet_step (((go_at_call 55; exact Calls.ext (null_any _)))))
          refine wpQuiet_nil ?_
          rintro _ ⟨x5, rfl⟩
          go_wp2
          all_goals
            go_ret
            exact ⟨by simp [isN, *], by repeat (first | with_reducible exact Below.refl _ _ | with_reducible assumption | with_reducible refine Below.al ?_ _ | with_reducible refine Below.on ?_ _ | with_reducible refine Below.st ?_ (by first | assumption | (simp; done) | (simp; omega)) _ | with_reducible refine Below.drew ?_)⟩
      · clear hb
        
        go_enter Try.func50, Try.ntmps50
        go_upto_region 4 with (go_at_call 70; refine Calls.mono (typed_any ty _) ?_; rintro e w1 ⟨rfl, hb1⟩; obtain ⟨x1, rfl⟩ := Ext.of hb1; have z0 : w.heap.size < x1.it.heap.size := x1.lt (by simp; omega); have z1 : w.heap.size + 1 < x1.it.heap.size := x1.lt (by simp))
        rcases n4 an a sa with rfl | ⟨rfl, ha⟩ | ⟨rfl, ha, hsa⟩ | ⟨rfl, ha, hsa⟩ <;> rcases n4 bn b sb with rfl | ⟨rfl, hb⟩ | ⟨rfl, hb, hsb⟩ | ⟨rfl, hb, hsb⟩
        all_goals
          refine wp_region_ext (by kernel_rfl) (by kernel_rfl) ?_
          repeat (go_big_quiet_step (((go_at_call 55; exact Calls.ext (null_any _)))))
          refine wpQuiet_nil ?_
          rintro _ ⟨x5, rfl⟩
          go_wp2
          all_goals
            go_ret
            exact ⟨by simp [isN, *], by repeat (first | with_reducible exact Below.refl _ _ | with_reducible assumption | with_reducible refine Below.al ?_ _ | with_reducible refine Below.on ?_ _ | with_reducible refine Below.st ?_ (by first | assumption | (simp; done) | (simp; omega)) _ | with_reducible refine Below.drew ?_)⟩
    · have hfin : (0 < zn → nul = true) := fun h => by cases nul with | true => rfl | false => exact absurd (Or.inr (Or.inr (Or.inr (Or.inr (Or.inr ⟨h, rfl⟩))))) hb
      obtain ⟨k1, hk1⟩ : ∃ k, vchk ty nul an a sa = k := ⟨_, rfl⟩
      obtain ⟨k2, hk2⟩ : ∃ k, vchk ty nul bn b sb = k := ⟨_, rfl⟩
      obtain ⟨d, hd⟩ : ∃ d, cmpV ty ⟨an, a, sa⟩ ⟨bn, b, sb⟩ = d := ⟨_, rfl⟩
      have K1 := Lib.hid (fun (W : World) => (by have h := refVcheck_any cn ty sc nul an a sa W; rw [hk1] at h; exact h : Calls Try.prog 59 #[.agg #[.string cn, .int .i64 ty, .int .i64 sc, .bool nul], .agg #[.bool an, .int .i64 a, .string sa]] W fun e w' => e = .returned (.int .i64 k1) ∧ Below W.heap.size W w'))
      have K2 := Lib.hid (fun (W : World) => (by have h := refVcheck_any cn ty sc nul bn b sb W; rw [hk2] at h; exact h : Calls Try.prog 59 #[.agg #[.string cn, .int .i64 ty, .int .i64 sc, .bool nul], .agg #[.bool bn, .int .i64 b, .string sb]] W fun e w' => e = .returned (.int .i64 k2) ∧ Below W.heap.size W w'))
      have C1 := Lib.hid (fun (W : World) => (by have h := refCompare_any ty an a sa bn b sb W; rw [hd] at h; exact h : Calls Try.prog 71 #[.int .i64 ty, .agg #[.bool an, .int .i64 a, .string sa], .agg #[.bool bn, .int .i64 b, .string sb]] W fun e w' => e = .returned (.int .i64 d) ∧ Below W.heap.size W w'))
      have D3 := cmp3 ty ⟨an, a, sa⟩ ⟨bn, b, sb⟩
      rw [hd] at D3
      have ev : zonF ty nul ⟨zr, zn, ⟨an, a, sa⟩, ⟨bn, b, sb⟩⟩ = if an = true ∨ bn = true ∨ k1 ≠ 0 ∨ k2 ≠ 0 then false else zonD d (zr - zn) := by
        unfold zonF; rw [if_neg hb, if_neg he]; dsimp only; rw [hk1, hk2, hd]
      have HE := Lib.hid (ev.symm.trans HR.out)
      have HD3 := Lib.hid D3
      have HF := Lib.hid hfin
      clear ev hk1 hk2 hd D3 HR hb hfin
      by_cases hz : 0 < zn
      · obtain rfl : nul = true := HF.out hz
        clear HF
        
        go_enter Try.func50, Try.ntmps50
        go_upto_region 5 with (go_at_call 70; refine Calls.mono (typed_any ty _) ?_; rintro e w1 ⟨rfl, hb1⟩; obtain ⟨x1, rfl⟩ := Ext.of hb1; have z0 : w.heap.size < x1.it.heap.size := x1.lt (by simp; omega); have z1 : w.heap.size + 1 < x1.it.heap.size := x1.lt (by simp))
        cases an with
        | true =>
          obtain rfl : false = R := by rw [← HE.out]; simp
          go_wp2
          go_ret
          exact ⟨rfl, by repeat (first | with_reducible exact Below.refl _ _ | with_reducible assumption | with_reducible refine Below.al ?_ _ | with_reducible refine Below.on ?_ _ | with_reducible refine Below.st ?_ (by first | assumption | (simp; done) | (simp; omega)) _ | with_reducible refine Below.drew ?_)⟩
        | false =>
          cases bn with
          | true =>
            obtain rfl : false = R := by rw [← HE.out]; simp
            go_wp2
            go_ret
            exact ⟨rfl, by repeat (first | with_reducible exact Below.refl _ _ | with_reducible assumption | with_reducible refine Below.al ?_ _ | with_reducible refine Below.on ?_ _ | with_reducible refine Below.st ?_ (by first | assumption | (simp; done) | (simp; omega)) _ | with_reducible refine Below.drew ?_)⟩
          | false =>
            by_cases e1 : k1 = 0
            · have e1' : (k1 != 0) = false := by simpa using e1
              by_cases e2 : k2 = 0
              · have e2' : (k2 != 0) = false := by simpa using e2
                obtain rfl : zonD d (zr - zn) = R := by rw [← HE.out]; simp [e1, e2]
                have wr : IntKind.i64.wrap (zr - zn) = zr - zn := IntWalk.i64_in _ (by omega)
                go_upto_region 7 with (first | (go_at_call 59; (with_reducible refine Calls.mono (K1.out _) ?_); rintro e w2 ⟨rfl, hb2⟩; obtain ⟨x2, rfl⟩ := Ext.of hb2; have q0 : w.heap.size < x2.it.heap.size := x2.lt (by first | assumption | (simp; done) | (simp; omega)); have q1 : w.heap.size + 1 < x2.it.heap.size := x2.lt (by first | assumption | (simp; done) | (simp; omega))) | (go_at_call 59; (with_reducible refine Calls.mono (K2.out _) ?_); rintro e w3 ⟨rfl, hb3⟩; obtain ⟨x3, rfl⟩ := Ext.of hb3; have r0 : w.heap.size < x3.it.heap.size := x3.lt (by first | assumption | (simp; done) | (simp; omega)); have r1 : w.heap.size + 1 < x3.it.heap.size := x3.lt (by first | assumption | (simp; done) | (simp; omega))))
                by_cases hn : 1 < zr - zn
                all_goals
                  rcases HD3.out with rfl | rfl | rfl
                all_goals
                  go_wp2_with (go_at_call 71; (with_reducible refine Calls.mono (C1.out _) ?_); rintro e w4 ⟨rfl, hb4⟩; obtain ⟨x4, rfl⟩ := Ext.of hb4; have s0 : w.heap.size < x4.it.heap.size := x4.lt (by first | assumption | (simp; done) | (simp; omega)); have s1 : w.heap.size + 1 < x4.it.heap.size := x4.lt (by first | assumption | (simp; done) | (simp; omega)))
                  go_ret
                  exact ⟨by simp [zonD, *], by repeat (first | with_reducible exact Below.refl _ _ | with_reducible assumption | with_reducible refine Below.al ?_ _ | with_reducible refine Below.on ?_ _ | with_reducible refine Below.st ?_ (by first | assumption | (simp; done) | (simp; omega)) _ | with_reducible refine Below.drew ?_)⟩
              · have e2' : (k2 != 0) = true := by simpa using e2
                obtain rfl : false = R := by rw [← HE.out]; simp [e2]
                go_wp2_with (first | (go_at_call 59; (with_reducible refine Calls.mono (K1.out _) ?_); rintro e w2 ⟨rfl, hb2⟩; obtain ⟨x2, rfl⟩ := Ext.of hb2; have q0 : w.heap.size < x2.it.heap.size := x2.lt (by first | assumption | (simp; done) | (simp; omega)); have q1 : w.heap.size + 1 < x2.it.heap.size := x2.lt (by first | assumption | (simp; done) | (simp; omega))) | (go_at_call 59; (with_reducible refine Calls.mono (K2.out _) ?_); rintro e w3 ⟨rfl, hb3⟩; obtain ⟨x3, rfl⟩ := Ext.of hb3; have r0 : w.heap.size < x3.it.heap.size := x3.lt (by first | assumption | (simp; done) | (simp; omega)); have r1 : w.heap.size + 1 < x3.it.heap.size := x3.lt (by first | assumption | (simp; done) | (simp; omega))))
                go_ret
                exact ⟨rfl, by repeat (first | with_reducible exact Below.refl _ _ | with_reducible assumption | with_reducible refine Below.al ?_ _ | with_reducible refine Below.on ?_ _ | with_reducible refine Below.st ?_ (by first | assumption | (simp; done) | (simp; omega)) _ | with_reducible refine Below.drew ?_)⟩
            · have e1' : (k1 != 0) = true := by simpa using e1
              obtain rfl : false = R := by rw [← HE.out]; simp [e1]
              go_wp2_with (go_at_call 59; (with_reducible refine Calls.mono (K1.out _) ?_); rintro e w2 ⟨rfl, hb2⟩; obtain ⟨x2, rfl⟩ := Ext.of hb2; have q0 : w.heap.size < x2.it.heap.size := x2.lt (by first | assumption | (simp; done) | (simp; omega)); have q1 : w.heap.size + 1 < x2.it.heap.size := x2.lt (by first | assumption | (simp; done) | (simp; omega)))
              go_ret
              exact ⟨rfl, by repeat (first | with_reducible exact Below.refl _ _ | with_reducible assumption | with_reducible refine Below.al ?_ _ | with_reducible refine Below.on ?_ _ | with_reducible refine Below.st ?_ (by first | assumption | (simp; done) | (simp; omega)) _ | with_reducible refine Below.drew ?_)⟩
      · clear HF
        
        go_enter Try.func50, Try.ntmps50
        go_upto_region 5 with (go_at_call 70; refine Calls.mono (typed_any ty _) ?_; rintro e w1 ⟨rfl, hb1⟩; obtain ⟨x1, rfl⟩ := Ext.of hb1; have z0 : w.heap.size < x1.it.heap.size := x1.lt (by simp; omega); have z1 : w.heap.size + 1 < x1.it.heap.size := x1.lt (by simp))
        cases an with
        | true =>
          obtain rfl : false = R := by rw [← HE.out]; simp
          go_wp2
          go_ret
          exact ⟨rfl, by repeat (first | with_reducible exact Below.refl _ _ | with_reducible assumption | with_reducible refine Below.al ?_ _ | with_reducible refine Below.on ?_ _ | with_reducible refine Below.st ?_ (by first | assumption | (simp; done) | (simp; omega)) _ | with_reducible refine Below.drew ?_)⟩
        | false =>
          cases bn with
          | true =>
            obtain rfl : false = R := by rw [← HE.out]; simp
            go_wp2
            go_ret
            exact ⟨rfl, by repeat (first | with_reducible exact Below.refl _ _ | with_reducible assumption | with_reducible refine Below.al ?_ _ | with_reducible refine Below.on ?_ _ | with_reducible refine Below.st ?_ (by first | assumption | (simp; done) | (simp; omega)) _ | with_reducible refine Below.drew ?_)⟩
          | false =>
            by_cases e1 : k1 = 0
            · have e1' : (k1 != 0) = false := by simpa using e1
              by_cases e2 : k2 = 0
              · have e2' : (k2 != 0) = false := by simpa using e2
                obtain rfl : zonD d (zr - zn) = R := by rw [← HE.out]; simp [e1, e2]
                have wr : IntKind.i64.wrap (zr - zn) = zr - zn := IntWalk.i64_in _ (by omega)
                go_upto_region 7 with (first | (go_at_call 59; (with_reducible refine Calls.mono (K1.out _) ?_); rintro e w2 ⟨rfl, hb2⟩; obtain ⟨x2, rfl⟩ := Ext.of hb2; have q0 : w.heap.size < x2.it.heap.size := x2.lt (by first | assumption | (simp; done) | (simp; omega)); have q1 : w.heap.size + 1 < x2.it.heap.size := x2.lt (by first | assumption | (simp; done) | (simp; omega))) | (go_at_call 59; (with_reducible refine Calls.mono (K2.out _) ?_); rintro e w3 ⟨rfl, hb3⟩; obtain ⟨x3, rfl⟩ := Ext.of hb3; have r0 : w.heap.size < x3.it.heap.size := x3.lt (by first | assumption | (simp; done) | (simp; omega)); have r1 : w.heap.size + 1 < x3.it.heap.size := x3.lt (by first | assumption | (simp; done) | (simp; omega))))
                by_cases hn : 1 < zr - zn
                all_goals
                  rcases HD3.out with rfl | rfl | rfl
                all_goals
                  go_wp2_with (go_at_call 71; (with_reducible refine Calls.mono (C1.out _) ?_); rintro e w4 ⟨rfl, hb4⟩; obtain ⟨x4, rfl⟩ := Ext.of hb4; have s0 : w.heap.size < x4.it.heap.size := x4.lt (by first | assumption | (simp; done) | (simp; omega)); have s1 : w.heap.size + 1 < x4.it.heap.size := x4.lt (by first | assumption | (simp; done) | (simp; omega)))
                  go_ret
                  exact ⟨by simp [zonD, *], by repeat (first | with_reducible exact Below.refl _ _ | with_reducible assumption | with_reducible refine Below.al ?_ _ | with_reducible refine Below.on ?_ _ | with_reducible refine Below.st ?_ (by first | assumption | (simp; done) | (simp; omega)) _ | with_reducible refine Below.drew ?_)⟩
              · have e2' : (k2 != 0) = true := by simpa using e2
                obtain rfl : false = R := by rw [← HE.out]; simp [e2]
                go_wp2_with (first | (go_at_call 59; (with_reducible refine Calls.mono (K1.out _) ?_); rintro e w2 ⟨rfl, hb2⟩; obtain ⟨x2, rfl⟩ := Ext.of hb2; have q0 : w.heap.size < x2.it.heap.size := x2.lt (by first | assumption | (simp; done) | (simp; omega)); have q1 : w.heap.size + 1 < x2.it.heap.size := x2.lt (by first | assumption | (simp; done) | (simp; omega))) | (go_at_call 59; (with_reducible refine Calls.mono (K2.out _) ?_); rintro e w3 ⟨rfl, hb3⟩; obtain ⟨x3, rfl⟩ := Ext.of hb3; have r0 : w.heap.size < x3.it.heap.size := x3.lt (by first | assumption | (simp; done) | (simp; omega)); have r1 : w.heap.size + 1 < x3.it.heap.size := x3.lt (by first | assumption | (simp; done) | (simp; omega))))
                go_ret
                exact ⟨rfl, by repeat (first | with_reducible exact Below.refl _ _ | with_reducible assumption | with_reducible refine Below.al ?_ _ | with_reducible refine Below.on ?_ _ | with_reducible refine Below.st ?_ (by first | assumption | (simp; done) | (simp; omega)) _ | with_reducible refine Below.drew ?_)⟩
            · have e1' : (k1 != 0) = true := by simpa using e1
              obtain rfl : false = R := by rw [← HE.out]; simp [e1]
              go_wp2_with (go_at_call 59; (with_reducible refine Calls.mono (K1.out _) ?_); rintro e w2 ⟨rfl, hb2⟩; obtain ⟨x2, rfl⟩ := Ext.of hb2; have q0 : w.heap.size < x2.it.heap.size := x2.lt (by first | assumption | (simp; done) | (simp; omega)); have q1 : w.heap.size + 1 < x2.it.heap.size := x2.lt (by first | assumption | (simp; done) | (simp; omega)))
              go_ret
              exact ⟨rfl, by repeat (first | with_reducible exact Below.refl _ _ | with_reducible assumption | with_reducible refine Below.al ?_ _ | with_reducible refine Below.on ?_ _ | with_reducible refine Below.st ?_ (by first | assumption | (simp; done) | (simp; omega)) _ | with_reducible refine Below.drew ?_)⟩
end Go.Proofs.Ytfemekmkmiljdaa
