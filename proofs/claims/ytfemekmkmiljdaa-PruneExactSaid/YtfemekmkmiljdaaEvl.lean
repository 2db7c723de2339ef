/-
  PREDICATES: the reference's truth values: Not, And, Or, truth, holds, among. Conditions: each theorem states its own.
-/
import Derived.Test.YtfemekmkmiljdaaPcr
set_option linter.unusedVariables false
set_option linter.unusedSimpArgs false
namespace Go.Proofs.Ytfemekmkmiljdaa
open Go.RowKit
def T3 (a : Int) : Prop := a = 0 ∨ a = 1 ∨ a = 2
def notT (a : Int) : Int := if a = 2 then 2 else 1 - a
def andT (a b : Int) : Int := if a = 0 ∨ b = 0 then 0 else if a = 1 ∧ b = 1 then 1 else 2
def orT (a b : Int) : Int := notT (andT (notT a) (notT b))
def b2t (b : Bool) : Int := if b = true then 1 else 0
def holdsB (op k : Int) : Bool := if op = 1 then decide (k = 0) else if op = 2 then !decide (k = 0) else if op = 3 then decide (k < 0) else if op = 4 then decide (k ≤ 0) else if op = 5 then decide (0 < k) else decide (0 ≤ k)
theorem notT_3 {a : Int} (h : T3 a) : T3 (notT a) := by rcases h with rfl | rfl | rfl <;> simp [T3, notT]
theorem andT_3 {a b : Int} (h : T3 a) (k : T3 b) : T3 (andT a b) := by rcases h with rfl | rfl | rfl <;> rcases k with rfl | rfl | rfl <;> simp [T3, andT]
theorem orT_3 {a b : Int} (h : T3 a) (k : T3 b) : T3 (orT a b) := notT_3 (andT_3 (notT_3 h) (notT_3 k))
theorem b2t_3 (b : Bool) : T3 (b2t b) := by cases b <;> simp [T3, b2t]
set_option maxHeartbeats 400000 in
theorem not3_any {a : Int} (h : T3 a) (w : World) : Calls Try.prog 52 #[.int .i64 a] w fun e w' => e = .returned (.int .i64 (notT a)) ∧ Below w.heap.size w w' := by
  rcases h with rfl | rfl | rfl
  all_goals
    go_enter Try.func52, Try.ntmps52
    go_wp2
    go_ret
    exact ⟨rfl, Below.refl _ _⟩
set_option maxHeartbeats 1000000 in
theorem and3_any {a b : Int} (h : T3 a) (k : T3 b) (w : World) : Calls Try.prog 60 #[.int .i64 a, .int .i64 b] w fun e w' => e = .returned (.int .i64 (andT a b)) ∧ Below w.heap.size w w' := by
  rcases h with rfl | rfl | rfl <;> rcases k with rfl | rfl | rfl
  all_goals
    go_enter Try.func60, Try.ntmps60
    go_wp2
    go_ret
    exact ⟨rfl, Below.refl _ _⟩
set_option maxHeartbeats 1000000 in
theorem or3_any {a b : Int} (h : T3 a) (k : T3 b) (w : World) : Calls Try.prog 61 #[.int .i64 a, .int .i64 b] w fun e w' => e = .returned (.int .i64 (orT a b)) ∧ Below w.heap.size w w' := by
  have H := Lib.hid (And.intro h k)
  clear h k
  go_enter Try.func61, Try.ntmps61
  go_wp2_with (first | (go_at_call 60; refine Calls.mono (and3_any (notT_3 H.out.1) (notT_3 H.out.2) _) ?_; rintro e w3 ⟨rfl, hb3⟩; obtain ⟨x3, rfl⟩ := Ext.of hb3) | (go_at_call 52; (with_reducible refine Calls.mono (not3_any H.out.1 _) ?_); rintro e w1 ⟨rfl, hb1⟩; obtain ⟨x1, rfl⟩ := Ext.of hb1) | (go_at_call 52; (with_reducible refine Calls.mono (not3_any H.out.2 _) ?_); rintro e w2 ⟨rfl, hb2⟩; obtain ⟨x2, rfl⟩ := Ext.of hb2) | (go_at_call 52; (with_reducible refine Calls.mono (not3_any (andT_3 (notT_3 H.out.1) (notT_3 H.out.2)) _) ?_); rintro e w4 ⟨rfl, hb4⟩; obtain ⟨x4, rfl⟩ := Ext.of hb4))
  exact bodyPost_ret (v := .int .i64 (notT (andT (notT a) (notT b)))) (by simp [results, Try.results61, go_sem, *]) rfl (⟨rfl, by repeat (first | with_reducible exact Below.refl _ _ | with_reducible assumption | with_reducible refine Below.al ?_ _ | with_reducible refine Below.on ?_ _ | with_reducible refine Below.st ?_ (by first | assumption | (simp; done) | (simp; omega)) _ | with_reducible refine Below.drew ?_)⟩)
set_option maxHeartbeats 400000 in
theorem truth_any (b : Bool) (w : World) : Calls Try.prog 80 #[.bool b] w fun e w' => e = .returned (.int .i64 (b2t b)) ∧ Below w.heap.size w w' := by
  cases b
  all_goals
    go_enter Try.func80, Try.ntmps80
    go_wp2
    go_ret
    exact ⟨rfl, Below.refl _ _⟩
theorem op6 {op : Int} (h1 : 1 ≤ op) (h6 : op ≤ 6) : op = 1 ∨ op = 2 ∨ op = 3 ∨ op = 4 ∨ op = 5 ∨ op = 6 := by omega
theorem cmpV_3 (t : Int) (x y : Val) : cmpV t x y = -1 ∨ cmpV t x y = 0 ∨ cmpV t x y = 1 := by
  unfold cmpV cmpS cmpI
  repeat (first | split | simp)
set_option maxHeartbeats 4000000 in
theorem holds_any {op k : Int} (h1 : 1 ≤ op) (h6 : op ≤ 6) (hk : k = -1 ∨ k = 0 ∨ k = 1) (w : World) : Calls Try.prog 81 #[.int .i64 op, .int .i64 k] w fun e w' => e = .returned (.bool (holdsB op k)) ∧ Below w.heap.size w w' := by
  rcases op6 h1 h6 with rfl | rfl | rfl | rfl | rfl | rfl <;> rcases hk with rfl | rfl | rfl
  all_goals
    clear h1 h6
    go_enter Try.func81, Try.ntmps81
    go_wp2
    go_ret
    exact ⟨rfl, Below.refl _ _⟩
/-- among: whether a value is found, and whether there is a null value, behind what is known so far. -/
def amongF (ty : Int) (x : Val) : List Val → Bool × Bool → Bool × Bool
  | [], a => a
  | v :: r, a => amongF ty x r (a.1 || (!v.null && decide (cmpV ty x v = 0)), a.2 || v.null)
theorem amongF_step {ty : Int} {x : Val} {ls : List Val} {k : Nat} (h : k < ls.length) {f n : Bool} : amongF ty x (ls.drop k) (f, n) = amongF ty x (ls.drop (k + 1)) (f || (!(ls[k]'h).null && decide (cmpV ty x (ls[k]'h) = 0)), n || (ls[k]'h).null) := by
  rw [List.drop_eq_getElem_cons h]; rfl
set_option maxRecDepth 8000 in
set_option maxHeartbeats 4000000 in
theorem among_any (ty : Int) (xn : Bool) (xi : Int) (xs : ByteArray) (lv : Value) (ls : List Val) (w : World) (hv : ValsAt w w.heap.size lv ls) :
    Calls Try.prog 82 #[.int .i64 ty, .agg #[.bool xn, .int .i64 xi, .string xs], lv] w fun e w' => e = .returned (.tuple #[.bool (amongF ty ⟨xn, xi, xs⟩ ls (false, false)).1, .bool (amongF ty ⟨xn, xi, xs⟩ ls (false, false)).2]) ∧ Below w.heap.size w w' := by
  have hm63 := hv.1
  obtain ⟨la, lc, rfl⟩ := vals_end hv
  obtain ⟨m, hm⟩ : ∃ m, ls.length = m := ⟨_, rfl⟩
  have HV : Hid (ValsAt w w.heap.size (.slice la m lc) ls) := Lib.hid (by rw [← hm]; exact hv)
  have HM := Lib.hid hm
  rw [hm] at hm63 ⊢
  clear hv hm
  obtain ⟨R, hR⟩ : ∃ R, amongF ty ⟨xn, xi, xs⟩ ls (false, false) = R := ⟨_, rfl⟩
  rw [hR]
  have HR := Lib.hid hR
  clear hR
  go_enter Try.func82, Try.ntmps82
  go_wp2_with fail
  go_loopg [8, 9, 14] m (fun g f n i wr => ∃ (k : Nat) (fb nb : Bool), k + g = m ∧ i = .int .i64 (k : Int) ∧ f = .bool fb ∧ n = .bool nb ∧ amongF ty ⟨xn, xi, xs⟩ (ls.drop k) (fb, nb) = R ∧ ∃ x : Ext (w.alloc (.cells #[.bool xn, .int .i64 xi, .string xs] 44)), x.it = wr)
  case atStart => exact ⟨0, false, false, by omega, rfl, rfl, rfl, by simpa using HR.out, ext_of (Below.refl _ _)⟩
  case round =>
    obtain ⟨k, fb, nb, hk, rfl, rfl, rfl, hF, x, rfl⟩ := hrel
    have hx1 := x.below
    have hx : Below w.heap.size w x.it := Below.on (Below.al (Below.refl _ _) _) x
    by_cases hg0 : gk = 0
    · subst hg0
      obtain rfl : k = m := by omega
      obtain rfl : (fb, nb) = R := by rw [← hF, List.drop_of_length_le (by rw [HM.out]; exact Nat.le_refl _)]; rfl
      clear hF hk
      go_wp2
      refine bodyPost_ret (v := .tuple #[.bool fb, .bool nb]) (by simp [results, Try.results82, go_sem, *]) rfl ⟨rfl, by repeat (first | with_reducible exact Below.refl _ _ | with_reducible assumption | with_reducible refine Below.al ?_ _ | with_reducible refine Below.on ?_ _ | with_reducible refine Below.st ?_ (by first | assumption | (simp; done) | (simp; omega)) _ | with_reducible refine Below.drew ?_)⟩
    · have hkm : k < m := by omega
      have hkm' : (k : Int) < (m : Int) := by omega
      have hkl : k < ls.length := by rw [HM.out]; exact hkm
      obtain ⟨b, o, rfl, _, hb, c0, c1, c2⟩ := vals_in HV.out hkl
      rw [amongF_step hkl] at hF
      obtain ⟨u, hu⟩ : ∃ u, ls[k]'hkl = u := ⟨_, rfl⟩
      rw [hu] at hF c0 c1 c2
      obtain ⟨un, ui, us⟩ := u
      dsimp only at hF c0 c1 c2
      have f0 := (hx.cell (p := ⟨b, o + k * 3, none⟩) hb).trans c0
      have f1 := (hx.cell (p := ⟨b, o + k * 3 + 1, none⟩) hb).trans c1
      have f2 := (hx.cell (p := ⟨b, o + k * 3 + 2, none⟩) hb).trans c2
      have b0 : x.it.cell? ⟨w.heap.size, 0, none⟩ = some (.bool xn) := (x.cell w.heap.size 0 (by simp)).trans (by simp [go_sem])
      have b1 : x.it.cell? ⟨w.heap.size, 1, none⟩ = some (.int .i64 xi) := (x.cell w.heap.size 1 (by simp)).trans (by simp [go_sem])
      have b2 : x.it.cell? ⟨w.heap.size, 2, none⟩ = some (.string xs) := (x.cell w.heap.size 2 (by simp)).trans (by simp [go_sem])
      have zb : b < x.it.heap.size := Nat.lt_of_lt_of_le hb hx.size
      have zw : w.heap.size < x.it.heap.size := x.lt (by simp)
      have HK := Lib.hid (And.intro hk hg0)
      obtain ⟨cv, hcv⟩ : ∃ cv, cmpV ty ⟨xn, xi, xs⟩ ⟨un, ui, us⟩ = cv := ⟨_, rfl⟩
      rw [hcv] at hF
      have HF := Lib.hid hF
      have HCV := Lib.hid hcv
      clear c0 c1 c2 hu hk hg0 hF hcv
      have CMP := Lib.hid (fun W => (by have h := refCompare_any ty xn xi xs un ui us W; rw [HCV.out] at h; exact h : Calls Try.prog 71 #[.int .i64 ty, .agg #[.bool xn, .int .i64 xi, .string xs], .agg #[.bool un, .int .i64 ui, .string us]] W fun e w' => e = .returned (.int .i64 cv) ∧ Below W.heap.size W w'))
      clear HCV
      by_cases hc0 : cv = 0
      · subst hc0
        cases fb <;> cases nb <;> cases un
        all_goals
          go_wp2_with (go_at_call 71; refine Calls.mono (CMP.out _) ?_; rintro e w3 ⟨rfl, hb3⟩; obtain ⟨x3, rfl⟩ := Ext.of hb3)
          go_roundg (gk - 1)
          case measure => have := HK.out; omega
          case rel => exact ⟨k + 1, _, _, by have := HK.out; omega, by go_num, rfl, rfl, HF.out, ext_of (by repeat (first | with_reducible exact Below.refl _ _ | with_reducible assumption | with_reducible refine Below.al ?_ _ | with_reducible refine Below.on ?_ _ | with_reducible refine Below.st ?_ (by first | assumption | (simp; done) | (simp; omega)) _ | with_reducible refine Below.drew ?_))⟩
      · have hc1 : (cv == 0) = false := by simpa using hc0
        have HF2 : Hid (amongF ty ⟨xn, xi, xs⟩ (ls.drop (k + 1)) (fb || (!un && false), nb || un) = R) := Lib.hid (by have := HF.out; rw [decide_eq_false hc0] at this; exact this)
        clear HF
        cases fb <;> cases nb <;> cases un
        all_goals
          go_wp2_with (go_at_call 71; refine Calls.mono (CMP.out _) ?_; rintro e w3 ⟨rfl, hb3⟩; obtain ⟨x3, rfl⟩ := Ext.of hb3)
          go_roundg (gk - 1)
          case measure => have := HK.out; omega
          case rel => exact ⟨k + 1, _, _, by have := HK.out; omega, by go_num, rfl, rfl, HF2.out, ext_of (by repeat (first | with_reducible exact Below.refl _ _ | with_reducible assumption | with_reducible refine Below.al ?_ _ | with_reducible refine Below.on ?_ _ | with_reducible refine Below.st ?_ (by first | assumption | (simp; done) | (simp; omega)) _ | with_reducible refine Below.drew ?_))⟩
end Go.Proofs.Ytfemekmkmiljdaa
