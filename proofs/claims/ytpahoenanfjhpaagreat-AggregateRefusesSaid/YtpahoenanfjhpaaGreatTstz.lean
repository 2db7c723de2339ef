/-
  PREDICATES: predicate.truth, Combine, Test of whatever node with a column: 'leafT'. Conditions: the list lies in memory as 'ValsAt' says.
-/
import Derived.Test.YtpahoenanfjhpaaGreatZf
set_option linter.unusedVariables false
set_option linter.unusedSimpArgs false
namespace Go.Proofs.YtpahoenanfjhpaaGreat
open Go.RowKit
set_option maxHeartbeats 400000 in
theorem ptruth_any (b : Bool) (w : World) : Calls Tryz.prog 83 #[.bool b] w fun e w' => e = .returned (.int .i64 (b2t b)) ∧ Below w.heap.size w w' := by
  cases b
  all_goals
    go_enter Tryz.func83, Tryz.ntmps83
    go_wp2
    go_ret
    exact ⟨rfl, Below.refl _ _⟩
def combT (op a b : Int) : Int := if op = 9 then andT a b else if op = 10 then orT a b else notT a
set_option maxHeartbeats 4000000 in
theorem combine_any {op a b : Int} (ho : op = 9 ∨ op = 10 ∨ op = 11) (h : T3 a) (k : T3 b) (w : World) : Calls Tryz.prog 59 #[.int .i64 op, .int .i64 a, .int .i64 b] w fun e w' => e = .returned (.int .i64 (combT op a b)) ∧ Below w.heap.size w w' := by
  rcases ho with rfl | rfl | rfl <;> rcases h with rfl | rfl | rfl <;> rcases k with rfl | rfl | rfl
  all_goals
    go_enter Tryz.func59, Tryz.ntmps59
    go_wp2
    go_ret
    exact ⟨rfl, Below.refl _ _⟩
/-- what is found, and at which place: -/
def idxF (ty : Int) (x : Val) (i : Int) : List Val → Int
  | [] => -1
  | v :: r => if (!v.null && decide (cmpV ty x v = 0)) = true then i else idxF ty x (i + 1) r
theorem idxF_bd (ty : Int) (x : Val) : ∀ (ls : List Val) (i : Int), 0 ≤ i → (0 ≤ idxF ty x i ls ↔ (ls.any fun v => !v.null && decide (cmpV ty x v = 0)) = true)
  | [], i, h => by simp [idxF]
  | v :: r, i, h => by
    unfold idxF
    by_cases e : (!v.null && decide (cmpV ty x v = 0)) = true
    · rw [if_pos e, List.any_cons, e]; simpa using h
    · rw [if_neg e, List.any_cons, Bool.eq_false_iff.2 e, Bool.false_or]
      exact idxF_bd ty x r (i + 1) (by omega)
theorem amongF_eq (ty : Int) (x : Val) : ∀ (ls : List Val) (f n : Bool), amongF ty x ls (f, n) = (f || (ls.any fun v => !v.null && decide (cmpV ty x v = 0)), n || ls.any fun v => v.null)
  | [], f, n => by simp [amongF]
  | v :: r, f, n => by
    show amongF ty x r _ = _
    rw [amongF_eq ty x r, List.any_cons, List.any_cons, Bool.or_assoc, Bool.or_assoc]
set_option maxRecDepth 8000 in
set_option maxHeartbeats 2000000 in
theorem clos_any (ty : Int) (un : Bool) (ui : Int) (us : ByteArray) (p q : Nat) (xn : Bool) (xi : Int) (xs : ByteArray) (w : World) (hp : p < w.heap.size) (hq : q < w.heap.size) (h0 : w.cell? ⟨p, 0, none⟩ = some (.int .i64 ty)) (q0 : w.cell? ⟨q, 0, none⟩ = some (.bool xn)) (q1 : w.cell? ⟨q, 1, none⟩ = some (.int .i64 xi)) (q2 : w.cell? ⟨q, 2, none⟩ = some (.string xs)) :
    Calls Tryz.prog 85 #[.agg #[.bool un, .int .i64 ui, .string us], .pointer (some ⟨p, 0, none⟩), .pointer (some ⟨q, 0, none⟩)] w fun e w' => e = .returned (.bool (!un && decide (cmpV ty ⟨xn, xi, xs⟩ ⟨un, ui, us⟩ = 0))) ∧ Below w.heap.size w w' := by
  cases un with
  | true =>
    go_enter Tryz.func85, Tryz.ntmps85
    go_wp2
    exact bodyPost_ret (v := .bool false) (by simp [results, Tryz.results85, go_sem, *]) rfl (⟨rfl, by with_reducible repeat (first | exact Below.refl _ _ | assumption | refine Below.al ?_ _ | refine Below.on ?_ _ | refine Below.st ?_ (by first | assumption | (simp; done) | (simp; omega)) _ | refine Below.drew ?_)⟩)
  | false =>
    obtain ⟨cv, hcv⟩ : ∃ cv, cmpV ty ⟨xn, xi, xs⟩ ⟨false, ui, us⟩ = cv := ⟨_, rfl⟩
    have CMP := Lib.hid (fun W => (by have h := compare_any ty xn xi xs false ui us W; rw [hcv] at h; exact h : Calls Tryz.prog 62 #[.int .i64 ty, .agg #[.bool xn, .int .i64 xi, .string xs], .agg #[.bool false, .int .i64 ui, .string us]] W fun e w' => e = .returned (.int .i64 cv) ∧ Below W.heap.size W w'))
    rw [hcv]
    clear hcv
    by_cases c0 : cv = 0
    · subst c0
      go_enter Tryz.func85, Tryz.ntmps85
      go_wp2_with (go_at_call 62; refine Calls.mono (CMP.out _) ?_; rintro e w3 ⟨rfl, hb3⟩; obtain ⟨x3, rfl⟩ := Ext.of hb3)
      exact bodyPost_ret (v := .bool true) (by simp [results, Tryz.results85, go_sem, *]) rfl (⟨rfl, by with_reducible repeat (first | exact Below.refl _ _ | assumption | refine Below.al ?_ _ | refine Below.on ?_ _ | refine Below.st ?_ (by first | assumption | (simp; done) | (simp; omega)) _ | refine Below.drew ?_)⟩)
    · have c1 : (cv == 0) = false := by simpa using c0
      rw [decide_eq_false c0]
      go_enter Tryz.func85, Tryz.ntmps85
      go_wp2_with (go_at_call 62; refine Calls.mono (CMP.out _) ?_; rintro e w3 ⟨rfl, hb3⟩; obtain ⟨x3, rfl⟩ := Ext.of hb3)
      exact bodyPost_ret (v := .bool false) (by simp [results, Tryz.results85, go_sem, *]) rfl (⟨rfl, by with_reducible repeat (first | exact Below.refl _ _ | assumption | refine Below.al ?_ _ | refine Below.on ?_ _ | refine Below.st ?_ (by first | assumption | (simp; done) | (simp; omega)) _ | refine Below.drew ?_)⟩)
set_option maxRecDepth 8000 in
set_option maxHeartbeats 4000000 in
theorem vidx_any (ty : Int) (lv : Value) (ls : List Val) (p q : Nat) (xn : Bool) (xi : Int) (xs : ByteArray) (w : World) (hv : ValsAt w w.heap.size lv ls) (hp : p < w.heap.size) (hq : q < w.heap.size) (h0 : w.cell? ⟨p, 0, none⟩ = some (.int .i64 ty)) (q0 : w.cell? ⟨q, 0, none⟩ = some (.bool xn)) (q1 : w.cell? ⟨q, 1, none⟩ = some (.int .i64 xi)) (q2 : w.cell? ⟨q, 2, none⟩ = some (.string xs)) :
    Calls Tryz.prog 115 #[lv, .func (.func 85) #[] #[.pointer (some ⟨p, 0, none⟩), .pointer (some ⟨q, 0, none⟩)]] w fun e w' => e = .returned (.int .i64 (idxF ty ⟨xn, xi, xs⟩ 0 ls)) ∧ Below w.heap.size w w' := by
  have h63 := hv.1
  obtain ⟨la, lc, rfl⟩ := vals_end hv
  obtain ⟨m, hm⟩ : ∃ m, ls.length = m := ⟨_, rfl⟩
  have HV : Hid (ValsAt w w.heap.size (.slice la m lc) ls) := Lib.hid (by rw [← hm]; exact hv)
  have HM := Lib.hid hm
  rw [hm] at h63 ⊢
  obtain ⟨R, hR⟩ : ∃ R, idxF ty ⟨xn, xi, xs⟩ 0 ls = R := ⟨_, rfl⟩
  rw [hR]
  have HR := Lib.hid hR
  clear hv hm hR
  go_enter Tryz.func115, Tryz.ntmps115
  go_wp2_with fail
  go_loopg [8] m (fun g s wr => ∃ k : Nat, k + g = m ∧ s = .int .i64 (k : Int) ∧ idxF ty ⟨xn, xi, xs⟩ k (ls.drop k) = R ∧ ∃ x : Ext w, x.it = wr)
  case atStart => exact ⟨0, by omega, rfl, by simpa using HR.out, ⟨w, Below.refl _ _⟩, rfl⟩
  case round =>
    obtain ⟨k, hk, rfl, hF, x, rfl⟩ := hrel
    clear HR
    have hx := x.below
    by_cases hg0 : gk = 0
    · subst hg0
      obtain rfl : k = m := by omega
      obtain rfl : -1 = R := by rw [← hF, List.drop_of_length_le (by rw [HM.out]; exact Nat.le_refl _)]; rfl
      clear hF hk
      go_wp2
      exact bodyPost_ret (v := .int .i64 (-1)) (by simp [results, Tryz.results115, go_sem, *]) rfl (⟨rfl, by with_reducible repeat (first | exact Below.refl _ _ | assumption | refine Below.al ?_ _ | refine Below.on ?_ _ | refine Below.st ?_ (by first | assumption | (simp; done) | (simp; omega)) _ | refine Below.drew ?_)⟩)
    · have hkn : k < m := by omega
      have hkn' : (k : Int) < m := by omega
      have hkl : k < ls.length := by rw [HM.out]; exact hkn
      obtain ⟨b, o, rfl, _, hb, c0, c1, c2⟩ := vals_in HV.out hkl
      rw [List.drop_eq_getElem_cons hkl] at hF
      obtain ⟨u, hu⟩ : ∃ u, ls[k]'hkl = u := ⟨_, rfl⟩
      rw [hu] at hF c0 c1 c2
      obtain ⟨un, ui, us⟩ := u
      dsimp only at c0 c1 c2
      have f0 := (hx.cell (p := ⟨b, o + k * 3, none⟩) hb).trans c0
      have f1 := (hx.cell (p := ⟨b, o + k * 3 + 1, none⟩) hb).trans c1
      have f2 := (hx.cell (p := ⟨b, o + k * 3 + 2, none⟩) hb).trans c2
      have zb : b < x.it.heap.size := x.lt hb
      have g0 := (x.cell p 0 hp).trans h0
      have g1 := (x.cell q 0 hq).trans q0
      have g2 := (x.cell q 1 hq).trans q1
      have g3 := (x.cell q 2 hq).trans q2
      have HK := Lib.hid (And.intro hk hg0)
      obtain ⟨t, ht⟩ : ∃ t, (!un && decide (cmpV ty ⟨xn, xi, xs⟩ ⟨un, ui, us⟩ = 0)) = t := ⟨_, rfl⟩
      have CL := Lib.hid (by have h := clos_any ty un ui us p q xn xi xs x.it (x.lt hp) (x.lt hq) g0 g1 g2 g3; rw [ht] at h; exact h)
      have HF := Lib.hid (show (if t = true then (k : Int) else idxF ty ⟨xn, xi, xs⟩ ((k : Int) + 1) (ls.drop (k + 1))) = R by rw [← hF, ← ht]; rfl)
      clear c0 c1 c2 hu hk hg0 hF ht
      cases t with
      | true =>
        obtain rfl : (k : Int) = R := HF.out
        go_wp2_with (go_at_call 85; refine Calls.mono CL.out ?_; rintro e w3 ⟨rfl, hb3⟩; obtain ⟨x3, rfl⟩ := Ext.of hb3)
        exact bodyPost_ret (v := .int .i64 k) (by simp [results, Tryz.results115, go_sem, *]) rfl (⟨rfl, by with_reducible repeat (first | exact Below.refl _ _ | assumption | refine Below.al ?_ _ | refine Below.on ?_ _ | refine Below.st ?_ (by first | assumption | (simp; done) | (simp; omega)) _ | refine Below.drew ?_)⟩)
      | false =>
        have HF2 := Lib.hid (show idxF ty ⟨xn, xi, xs⟩ ((k + 1 : Nat) : Int) (ls.drop (k + 1)) = R from HF.out)
        go_wp2_with (go_at_call 85; refine Calls.mono CL.out ?_; rintro e w3 ⟨rfl, hb3⟩; obtain ⟨x3, rfl⟩ := Ext.of hb3)
        go_roundg (gk - 1)
        case measure => have := HK.out; omega
        case rel => exact ⟨k + 1, by have := HK.out; omega, by go_num, HF2.out, ⟨x3.it, Below.on hx x3⟩, rfl⟩
set_option maxHeartbeats 1000000 in
theorem vcontains_any (ty : Int) (lv : Value) (ls : List Val) (p q : Nat) (xn : Bool) (xi : Int) (xs : ByteArray) (w : World) (hv : ValsAt w w.heap.size lv ls) (hp : p < w.heap.size) (hq : q < w.heap.size) (h0 : w.cell? ⟨p, 0, none⟩ = some (.int .i64 ty)) (q0 : w.cell? ⟨q, 0, none⟩ = some (.bool xn)) (q1 : w.cell? ⟨q, 1, none⟩ = some (.int .i64 xi)) (q2 : w.cell? ⟨q, 2, none⟩ = some (.string xs)) :
    Calls Tryz.prog 84 #[lv, .func (.func 85) #[] #[.pointer (some ⟨p, 0, none⟩), .pointer (some ⟨q, 0, none⟩)]] w fun e w' => e = .returned (.bool (ls.any fun v => !v.null && decide (cmpV ty ⟨xn, xi, xs⟩ v = 0))) ∧ Below w.heap.size w w' := by
  obtain ⟨t, ht⟩ : ∃ t, (ls.any fun v => !v.null && decide (cmpV ty ⟨xn, xi, xs⟩ v = 0)) = t := ⟨_, rfl⟩
  obtain ⟨i, hi⟩ : ∃ i, idxF ty ⟨xn, xi, xs⟩ 0 ls = i := ⟨_, rfl⟩
  have hb := idxF_bd ty ⟨xn, xi, xs⟩ ls 0 (Int.le_refl _)
  rw [hi, ht] at hb
  have IX := Lib.hid (by have h := vidx_any ty lv ls p q xn xi xs w hv hp hq h0 q0 q1 q2; rw [hi] at h; exact h)
  rw [ht]
  clear ht hi h0 q0 q1 q2
  cases t with
  | true =>
    have h0 : 0 ≤ i := hb.2 rfl
    go_enter Tryz.func84, Tryz.ntmps84
    go_wp2_with (go_at_call 115; refine Calls.mono IX.out ?_; rintro e w3 ⟨rfl, hb3⟩; obtain ⟨x3, rfl⟩ := Ext.of hb3)
    exact bodyPost_ret (v := .bool true) (by simp [results, Tryz.results84, go_sem, *]) rfl (⟨rfl, by with_reducible repeat (first | exact Below.refl _ _ | assumption | refine Below.al ?_ _ | refine Below.on ?_ _ | refine Below.st ?_ (by first | assumption | (simp; done) | (simp; omega)) _ | refine Below.drew ?_)⟩)
  | false =>
    have h0 : decide (0 ≤ i) = false := by rw [decide_eq_false_iff_not]; intro q; exact absurd (hb.1 q) (by simp)
    clear hb
    go_enter Tryz.func84, Tryz.ntmps84
    go_wp2_with (go_at_call 115; refine Calls.mono IX.out ?_; rintro e w3 ⟨rfl, hb3⟩; obtain ⟨x3, rfl⟩ := Ext.of hb3)
    exact bodyPost_ret (v := .bool false) (by simp [results, Tryz.results84, go_sem, *]) rfl (⟨rfl, by with_reducible repeat (first | exact Below.refl _ _ | assumption | refine Below.al ?_ _ | refine Below.on ?_ _ | refine Below.st ?_ (by first | assumption | (simp; done) | (simp; omega)) _ | refine Below.drew ?_)⟩)
theorem leafT_in2 {ty : Int} {d : Nod} {v : Val} {fb nb : Bool} (h8 : ¬ d.op = 8) (h6 : ¬ d.op ≤ 6) (hv : v.null = false) (hf : (d.ls.any fun u => !u.null && decide (cmpV ty v u = 0)) = fb) (hn : (d.ls.any fun u => u.null) = nb) : leafT ty d v = if fb = true then 1 else if nb = true then 2 else 0 := by
  rw [leafT_in (fb := fb) (nb := nb) h8 h6 hv (by rw [amongF_eq, hf, hn]; rfl)]
  cases fb <;> cases nb <;> rfl
set_option maxRecDepth 8000 in
set_option maxHeartbeats 8000000 in
theorem ptest_any (ty op col : Int) (vn : Bool) (n : Int) (s : ByteArray) (lv : Value) (ls : List Val) (a b : Int) (xn : Bool) (xi : Int) (xs : ByteArray) (w : World) (hv : ValsAt w w.heap.size lv ls) (h1 : 1 ≤ op) (h8 : op ≤ 8) :
    Calls Tryz.prog 60 #[.int .i64 ty, .agg #[.int .i64 op, .int .i64 col, .bool vn, .int .i64 n, .string s, lv, .int .i64 a, .int .i64 b], .agg #[.bool xn, .int .i64 xi, .string xs]] w fun e w' => e = .returned (.int .i64 (leafT ty ⟨op, col, ⟨vn, n, s⟩, ls, a, b⟩ ⟨xn, xi, xs⟩)) ∧ Below w.heap.size w w' := by
  obtain ⟨la, lc, rfl⟩ := vals_end hv
  obtain ⟨m, hm⟩ : ∃ m, ls.length = m := ⟨_, rfl⟩
  have h63 := hv.1
  have HV : Hid (ValsAt w w.heap.size (.slice la m lc) ls) := Lib.hid (by rw [← hm]; exact hv)
  have HM := Lib.hid hm
  rw [hm] at h63 ⊢
  obtain ⟨R, hR⟩ : ∃ R, leafT ty ⟨op, col, ⟨vn, n, s⟩, ls, a, b⟩ ⟨xn, xi, xs⟩ = R := ⟨_, rfl⟩
  rw [hR]
  have HR := Lib.hid hR
  clear hR hv hm
  go_enter Tryz.func60, Tryz.ntmps60
  go_upto_region 1 with fail
  refine captureP ?_
  intro y ey
  have t0 : y.it.cell? ⟨w.heap.size, 0, none⟩ = some (.int .i64 ty) := by rw [ey]; simp (maxDischargeDepth := 9) [go_sem, *]
  have n0 : y.it.cell? ⟨w.heap.size + 1, 0, none⟩ = some (.int .i64 op) := by rw [ey]; simp (maxDischargeDepth := 9) [go_sem, *]
  have n2 : y.it.cell? ⟨w.heap.size + 1, 2, none⟩ = some (.bool vn) := by rw [ey]; simp (maxDischargeDepth := 9) [go_sem, *]
  have n3 : y.it.cell? ⟨w.heap.size + 1, 3, none⟩ = some (.int .i64 n) := by rw [ey]; simp (maxDischargeDepth := 9) [go_sem, *]
  have n4 : y.it.cell? ⟨w.heap.size + 1, 4, none⟩ = some (.string s) := by rw [ey]; simp (maxDischargeDepth := 9) [go_sem, *]
  have n5 : y.it.cell? ⟨w.heap.size + 1, 5, none⟩ = some (.slice la m lc) := by rw [ey]; simp (maxDischargeDepth := 9) [go_sem, *]
  have x0 : y.it.cell? ⟨w.heap.size + 1 + 1, 0, none⟩ = some (.bool xn) := by rw [ey]; simp (maxDischargeDepth := 9) [go_sem, *]
  have x1 : y.it.cell? ⟨w.heap.size + 1 + 1, 1, none⟩ = some (.int .i64 xi) := by rw [ey]; simp (maxDischargeDepth := 9) [go_sem, *]
  have x2 : y.it.cell? ⟨w.heap.size + 1 + 1, 2, none⟩ = some (.string xs) := by rw [ey]; simp (maxDischargeDepth := 9) [go_sem, *]
  have z2 : w.heap.size + 1 + 1 < y.it.heap.size := by rw [ey]; simp
  have z1 : w.heap.size + 1 < y.it.heap.size := by omega
  have z0 : w.heap.size < y.it.heap.size := by omega
  have yb : Below w.heap.size w y.it := by rw [ey]; exact (by with_reducible repeat (first | exact Below.refl _ _ | assumption | refine Below.al ?_ _ | refine Below.on ?_ _ | refine Below.st ?_ (by first | assumption | (simp; done) | (simp; omega)) _ | refine Below.drew ?_))
  have HVy := Lib.hid (HV.out.mono yb yb.size)
  clear ey HV
  by_cases o8 : op = 8
  · subst o8
    obtain rfl : b2t xn = R := by rw [← HR.out]; unfold leafT; rw [if_pos rfl]
    go_wp2_with (go_at_call 83; refine Calls.mono (ptruth_any _ _) ?_; rintro e w3 ⟨rfl, hb3⟩; obtain ⟨x3, rfl⟩ := Ext.of hb3)
    exact bodyPost_ret (v := .int .i64 (b2t xn)) (by simp [results, Tryz.results60, go_sem, *]) rfl (⟨rfl, by with_reducible repeat (first | exact Below.refl _ _ | assumption | refine Below.al ?_ _ | refine Below.on ?_ _ | refine Below.st ?_ (by first | assumption | (simp; done) | (simp; omega)) _ | refine Below.drew ?_)⟩)
  have q8 : (op == 8) = false := by simpa using o8
  cases xn with
  | true =>
    obtain rfl : 2 = R := by rw [← HR.out]; unfold leafT; rw [if_neg (by exact o8), if_pos rfl]
    go_wp2
    exact bodyPost_ret (v := .int .i64 2) (by simp [results, Tryz.results60, go_sem, *]) rfl (⟨rfl, by with_reducible repeat (first | exact Below.refl _ _ | assumption | refine Below.al ?_ _ | refine Below.on ?_ _ | refine Below.st ?_ (by first | assumption | (simp; done) | (simp; omega)) _ | refine Below.drew ?_)⟩)
  | false =>
    obtain ⟨cv, hcv⟩ : ∃ cv, cmpV ty ⟨false, xi, xs⟩ ⟨vn, n, s⟩ = cv := ⟨_, rfl⟩
    have c3 : cv = -1 ∨ cv = 0 ∨ cv = 1 := hcv ▸ cmpV_3 _ _ _
    have CMP := Lib.hid (fun W => (by have h := compare_any ty false xi xs vn n s W; rw [hcv] at h; exact h : Calls Tryz.prog 62 #[.int .i64 ty, .agg #[.bool false, .int .i64 xi, .string xs], .agg #[.bool vn, .int .i64 n, .string s]] W fun e w' => e = .returned (.int .i64 cv) ∧ Below W.heap.size W w'))
    have HCV := Lib.hid hcv
    clear hcv
    by_cases o6 : op ≤ 6
    · have HB : Hid (b2t (holdsB op cv) = R) := Lib.hid (by rw [← HR.out]; unfold leafT; rw [if_neg (by exact o8), if_neg (by simp), if_pos (by exact o6)]; dsimp only; rw [HCV.out])
      clear HR HCV h8 q8 o8
      rcases op6 h1 o6 with rfl | rfl | rfl | rfl | rfl | rfl <;> rcases c3 with rfl | rfl | rfl
      all_goals
        clear h1 o6
        first | (obtain rfl : (0 : Int) = R := HB.out) | (obtain rfl : (1 : Int) = R := HB.out)
        clear HB
        go_wp2_with (first | (go_at_call 62; refine Calls.mono (CMP.out _) ?_; rintro e w3 ⟨rfl, hb3⟩; obtain ⟨x3, rfl⟩ := Ext.of hb3; have v1 := x3.lt z1) | (go_at_call 83; refine Calls.mono (ptruth_any _ _) ?_; rintro e w4 ⟨rfl, hb4⟩; obtain ⟨x4, rfl⟩ := Ext.of hb4))
        refine bodyPost_ret (by simp [results, Tryz.results60, b2t, go_sem, *]) rfl ⟨rfl, by with_reducible repeat (first | exact Below.refl _ _ | assumption | refine Below.al ?_ _ | refine Below.on ?_ _ | refine Below.st ?_ (by first | assumption | (simp; done) | (simp; omega)) _ | refine Below.drew ?_)⟩
    · obtain rfl : op = 7 := by omega
      obtain ⟨fb, hfb⟩ : ∃ fb, (ls.any fun u => !u.null && decide (cmpV ty ⟨false, xi, xs⟩ u = 0)) = fb := ⟨_, rfl⟩
      obtain ⟨N, hN⟩ : ∃ N, (ls.any fun u => u.null) = N := ⟨_, rfl⟩
      have HB : Hid ((if fb = true then 1 else if N = true then 2 else 0) = R) := Lib.hid (by rw [← HR.out]; exact (leafT_in2 (d := ⟨7, col, ⟨vn, n, s⟩, ls, a, b⟩) (by show ¬ (7 : Int) = 8; decide) (by show ¬ (7 : Int) ≤ 6; decide) rfl hfb hN).symm)
      have VC := Lib.hid (fun x : Ext y.it => (by have h := vcontains_any ty (.slice la m lc) ls w.heap.size (w.heap.size + 1 + 1) false xi xs x.it (HVy.out.mono x.below x.below.size) (x.lt z0) (x.lt z2) ((x.cell _ 0 z0).trans t0) ((x.cell _ 0 z2).trans x0) ((x.cell _ 1 z2).trans x1) ((x.cell _ 2 z2).trans x2); rw [hfb] at h; exact h))
      have HN := Lib.hid hN
      clear HR HCV h8 h1 o8 q8 o6 c3 hfb hN
      go_upto_region 20 with (go_at_call 62; refine Calls.mono (CMP.out _) ?_; rintro e w3 ⟨rfl, hb3⟩; obtain ⟨x3, rfl⟩ := Ext.of hb3; have v1 := x3.lt z1)
      go_wp2_with fail
      go_loopg [8, 59] m (fun g f i wr => ∃ (k : Nat) (nb : Bool), k + g = m ∧ i = .int .i64 (k : Int) ∧ f = .int .i64 (if nb = true then 2 else 0) ∧ (nb || (ls.drop k).any fun u => u.null) = N ∧ ∃ x : Ext y.it, x.it = wr)
      case atStart => exact ⟨0, false, by omega, rfl, rfl, by simpa using HN.out, x3, rfl⟩
      case round =>
        obtain ⟨k, nb, hk, rfl, rfl, hF, x, rfl⟩ := hrel
        clear HN v1
        have hx := x.below
        by_cases hg0 : gk = 0
        · subst hg0
          obtain rfl : k = m := by omega
          obtain rfl : nb = N := by rw [← hF, List.drop_of_length_le (by rw [HM.out]; exact Nat.le_refl _)]; simp
          have v1 := x.lt z1
          have g5 := (x.cell _ 5 z1).trans n5
          clear hF hk
          cases fb
          · have HB2 : Hid ((if nb = true then (2 : Int) else 0) = R) := Lib.hid HB.out
            obtain ⟨RR, hRR⟩ : ∃ RR, (if nb = true then (2 : Int) else 0) = RR := ⟨_, rfl⟩
            rw [hRR]
            obtain rfl : RR = R := hRR.symm.trans HB2.out
            clear hRR HB2 HB
            go_wp2_with (go_at_call 84; refine Calls.mono (VC.out x) ?_; rintro e w4 ⟨rfl, hb4⟩; obtain ⟨x4, rfl⟩ := Ext.of hb4)
            exact bodyPost_ret (v := .int .i64 RR) (by simp [results, Tryz.results60, go_sem, *]) rfl (⟨rfl, by with_reducible repeat (first | exact Below.refl _ _ | assumption | refine Below.al ?_ _ | refine Below.on ?_ _ | refine Below.st ?_ (by first | assumption | (simp; done) | (simp; omega)) _ | refine Below.drew ?_)⟩)
          · obtain rfl : (1 : Int) = R := HB.out
            generalize (if nb = true then (2 : Int) else 0) = RR
            go_wp2_with (go_at_call 84; refine Calls.mono (VC.out x) ?_; rintro e w4 ⟨rfl, hb4⟩; obtain ⟨x4, rfl⟩ := Ext.of hb4)
            exact bodyPost_ret (v := .int .i64 1) (by simp [results, Tryz.results60, go_sem, *]) rfl (⟨rfl, by with_reducible repeat (first | exact Below.refl _ _ | assumption | refine Below.al ?_ _ | refine Below.on ?_ _ | refine Below.st ?_ (by first | assumption | (simp; done) | (simp; omega)) _ | refine Below.drew ?_)⟩)
        · have hkm : k < m := by omega
          have hkm' : (k : Int) < (m : Int) := by omega
          have hkl : k < ls.length := by rw [HM.out]; exact hkm
          obtain ⟨vb, vo, rfl, _, hvb, c0, c1, c2⟩ := vals_in HVy.out hkl
          rw [List.drop_eq_getElem_cons hkl, List.any_cons] at hF
          obtain ⟨u, hu⟩ : ∃ u, ls[k]'hkl = u := ⟨_, rfl⟩
          rw [hu] at hF c0 c1 c2
          obtain ⟨un, ui, us⟩ := u
          dsimp only at hF c0 c1 c2
          have f0 := (x.cell vb (vo + k * 3) hvb).trans c0
          have f1 := (x.cell vb (vo + k * 3 + 1) hvb).trans c1
          have f2 := (x.cell vb (vo + k * 3 + 2) hvb).trans c2
          have zb := x.lt hvb
          have HK := Lib.hid (And.intro hk hg0)
          have HF := Lib.hid hF
          clear c0 c1 c2 hu hk hg0 hF
          obtain ⟨RR, hRR⟩ : ∃ RR, (if nb = true then (2 : Int) else 0) = RR := ⟨_, rfl⟩
          rw [hRR]
          have HRR := Lib.hid hRR
          clear hRR
          cases un
          · go_wp2
            go_roundg (gk - 1)
            case measure => have := HK.out; omega
            case rel => exact ⟨k + 1, nb, by have := HK.out; omega, by go_num, by rw [HRR.out], by have := HF.out; simpa using this, ext_of (by with_reducible repeat (first | exact Below.refl _ _ | assumption | refine Below.al ?_ _ | refine Below.on ?_ _ | refine Below.st ?_ (by first | assumption | (simp; done) | (simp; omega)) _ | refine Below.drew ?_))⟩
          · go_wp2
            go_roundg (gk - 1)
            case measure => have := HK.out; omega
            case rel => exact ⟨k + 1, true, by have := HK.out; omega, by go_num, rfl, by have := HF.out; simpa using this, ext_of (by with_reducible repeat (first | exact Below.refl _ _ | assumption | refine Below.al ?_ _ | refine Below.on ?_ _ | refine Below.st ?_ (by first | assumption | (simp; done) | (simp; omega)) _ | refine Below.drew ?_))⟩
end Go.Proofs.YtpahoenanfjhpaaGreat
