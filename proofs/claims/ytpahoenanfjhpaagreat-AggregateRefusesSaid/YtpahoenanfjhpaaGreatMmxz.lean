/-
  slices.MinFunc and slices.MaxFunc of values with the order of a type. Conditions: the values lie in memory as 'ValsAt' says; there is one.
-/
import Derived.Test.YtpahoenanfjhpaaGreatZd
import Derived.Test.YtpahoenanfjhpaaGreatColz
import Derived.Deep.RegionHeld3
set_option linter.unusedVariables false
set_option linter.unusedSimpArgs false
namespace Go.Proofs.YtpahoenanfjhpaaGreat
open Go.RowKit
/-- The value that the others do not beat. -/
def selM (b : Val → Val → Bool) : List Val → Val
  | [] => Val.zero
  | v :: l => l.foldl (fun m x => if b x m = true then x else m) v
theorem selM_one {b : Val → Val → Bool} {l : List Val} (h : 0 < l.length) : selM b (l.take 1) = l[0]'h := by
  cases l with
  | nil => exact absurd h (by simp)
  | cons v r => simp [selM]
theorem selM_succ {b : Val → Val → Bool} {l : List Val} {k : Nat} (h1 : 1 ≤ k) (h : k < l.length) : selM b (l.take (k + 1)) = if b (l[k]'h) (selM b (l.take k)) = true then l[k]'h else selM b (l.take k) := by
  cases l with
  | nil => exact absurd h (by simp)
  | cons v r =>
    obtain ⟨k, rfl⟩ : ∃ j, k = j + 1 := ⟨k - 1, by omega⟩
    have hk : k < r.length := by simpa using h
    simp only [List.take_succ_cons, List.getElem_cons_succ, selM]
    rw [List.take_succ_eq_append_getElem hk, List.foldl_append]
    rfl
set_option maxRecDepth 8000 in
set_option maxHeartbeats 1000000 in
theorem order1_any (TB : Nat) (ty : Int) (an : Bool) (a : Int) (sa : ByteArray) (bn : Bool) (b : Int) (sb : ByteArray) (w : World) (ht : TB < w.heap.size) (h0 : w.cell? ⟨TB, 0, none⟩ = some (.int .i64 ty)) :
    Calls Tryz.prog 90 #[.agg #[.bool an, .int .i64 a, .string sa], .agg #[.bool bn, .int .i64 b, .string sb], .pointer (some ⟨TB, 0, none⟩)] w fun e w' => e = .returned (.int .i64 (cmpV ty ⟨an, a, sa⟩ ⟨bn, b, sb⟩)) ∧ Below w.heap.size w w' := by
  obtain ⟨ve, hve⟩ : ∃ ve, cmpV ty ⟨an, a, sa⟩ ⟨bn, b, sb⟩ = ve := ⟨_, rfl⟩
  have RV := Lib.hid (fun W => (by have h := compare_any ty an a sa bn b sb W; rw [hve] at h; exact h : Calls Tryz.prog 62 #[.int .i64 ty, .agg #[.bool an, .int .i64 a, .string sa], .agg #[.bool bn, .int .i64 b, .string sb]] W fun e w' => e = .returned (.int .i64 ve) ∧ Below W.heap.size W w'))
  rw [hve]
  clear hve
  go_enter Tryz.func90, Tryz.ntmps90
  go_wp2_with (go_at_call 62; refine Calls.mono (RV.out _) ?_; rintro e w1 ⟨rfl, hb1⟩; obtain ⟨x1, rfl⟩ := Ext.of hb1)
  exact bodyPost_ret (v := .int .i64 ve) (by simp [results, Tryz.results90, go_sem, *]) rfl (⟨rfl, by with_reducible repeat (first | exact Below.refl _ _ | assumption | refine Below.al ?_ _ | refine Below.on ?_ _ | refine Below.st ?_ (by first | assumption | (simp; done) | (simp; omega)) _ | refine Below.drew ?_)⟩)
/-- The least (greatest) so far, in the block behind the result's. -/
structure MmSt (w wr : World) (m : Val) : Prop where
  below : Below w.heap.size w wr
  lt : w.heap.size + 1 < wr.heap.size
  c0 : wr.cell? ⟨w.heap.size + 1, 0, none⟩ = some (.bool m.null)
  c1 : wr.cell? ⟨w.heap.size + 1, 1, none⟩ = some (.int .i64 m.n)
  c2 : wr.cell? ⟨w.heap.size + 1, 2, none⟩ = some (.string m.s)
  r0 : ∃ u, wr.cell? ⟨w.heap.size, 0, none⟩ = some u
  r1 : ∃ u, wr.cell? ⟨w.heap.size, 1, none⟩ = some u
  r2 : ∃ u, wr.cell? ⟨w.heap.size, 2, none⟩ = some u
  f : ∀ q, wr.frozen? ⟨w.heap.size + 1, q, none⟩ = false
  g : ∀ q, wr.frozen? ⟨w.heap.size, q, none⟩ = false
theorem MmSt.on {w wr W : World} {m : Val} (h : MmSt w wr m) (hb : Below wr.heap.size wr W) : MmSt w W m :=
  have l0 : w.heap.size < wr.heap.size := Nat.lt_of_succ_lt h.lt
  ⟨Below.to h.below hb, Nat.lt_of_lt_of_le h.lt hb.size, (hb.cell (p := ⟨w.heap.size + 1, _, none⟩) h.lt).trans h.c0, (hb.cell (p := ⟨w.heap.size + 1, _, none⟩) h.lt).trans h.c1, (hb.cell (p := ⟨w.heap.size + 1, _, none⟩) h.lt).trans h.c2,
    h.r0.imp fun u e => (hb.cell (p := ⟨w.heap.size, _, none⟩) l0).trans e, h.r1.imp fun u e => (hb.cell (p := ⟨w.heap.size, _, none⟩) l0).trans e, h.r2.imp fun u e => (hb.cell (p := ⟨w.heap.size, _, none⟩) l0).trans e,
    fun q => (hb.frozen (p := ⟨w.heap.size + 1, q, none⟩) h.lt).trans (h.f q), fun q => (hb.frozen (p := ⟨w.heap.size, q, none⟩) l0).trans (h.g q)⟩
theorem MmSt.set {w wr : World} {m : Val} (h : MmSt w wr m) (x : Val) : MmSt w (((wr.setCell ⟨w.heap.size + 1, 0, none⟩ (.bool x.null)).setCell ⟨w.heap.size + 1, 1, none⟩ (.int .i64 x.n)).setCell ⟨w.heap.size + 1, 2, none⟩ (.string x.s)) x := by
  have a0 := h.c0
  have a1 := h.c1
  have a2 := h.c2
  have a3 := h.f
  have a4 := h.g
  have a5 := h.lt
  obtain ⟨u0, b0⟩ := h.r0
  obtain ⟨u1, b1⟩ := h.r1
  obtain ⟨u2, b2⟩ := h.r2
  refine ⟨Below.st (Below.st (Below.st h.below (by simp) _) (by simp) _) (by simp) _, by simpa using a5, ?_, ?_, ?_, ⟨u0, ?_⟩, ⟨u1, ?_⟩, ⟨u2, ?_⟩, fun q => ?_, fun q => ?_⟩ <;> simp (maxDischargeDepth := 9) [go_sem, *]
set_option maxRecDepth 8000 in
set_option maxHeartbeats 2000000 in
theorem min_any (TB : Nat) (ty : Int) (lv : Value) (l : List Val) (w : World) (ht : TB < w.heap.size) (h0 : w.cell? ⟨TB, 0, none⟩ = some (.int .i64 ty)) (hl : ValsAt w w.heap.size lv l) (h1 : 0 < l.length) :
    Calls Tryz.prog 91 #[lv, .func (.func 90) #[] #[.pointer (some ⟨TB, 0, none⟩)]] w fun e w' => e = .returned (.agg #[.bool (selM (fun x m => decide (cmpV ty x m < 0)) l).null, .int .i64 (selM (fun x m => decide (cmpV ty x m < 0)) l).n, .string (selM (fun x m => decide (cmpV ty x m < 0)) l).s]) ∧ Below w.heap.size w w' := by
  obtain ⟨la, lc, rfl⟩ := vals_end hl
  obtain ⟨n, hn⟩ : ∃ n, l.length = n := ⟨_, rfl⟩
  have n63 := hl.1
  obtain ⟨lb, lo, rfl, hcap, hlb, d0, d1, d2⟩ := vals_in hl h1
  rw [hn] at n63 hl hcap ⊢
  have HL := Lib.hid hl
  have HN := Lib.hid hn
  have S1 := selM_one (b := (fun x m => decide (cmpV ty x m < 0))) h1
  obtain ⟨u, hu⟩ : ∃ u, l[0]'h1 = u := ⟨_, rfl⟩
  rw [hu] at d0 d1 d2 S1
  have HS1 := Lib.hid S1
  obtain ⟨un, ui, us⟩ := u
  dsimp only at d0 d1 d2
  have n1 : 0 < n := by omega
  have n1' : (0 : Int) < (n : Int) := by omega
  have n1'' : ¬ (n : Int) < 1 := by omega
  obtain ⟨R, hR⟩ : ∃ R, selM (fun x m => decide (cmpV ty x m < 0)) l = R := ⟨_, rfl⟩
  rw [hR]
  have HR := Lib.hid hR
  clear hl hn hR S1 hu h1
  simp only [Nat.zero_mul, Nat.add_zero] at d0 d1 d2
  go_enter Tryz.func91, Tryz.ntmps91
  go_upto_region 5 with fail
  refine captureP ?_
  intro y ey
  have M0 : MmSt w y.it ⟨un, ui, us⟩ := by
    rw [ey]
    exact ⟨(by with_reducible repeat (first | exact Below.refl _ _ | assumption | refine Below.al ?_ _ | refine Below.on ?_ _ | refine Below.st ?_ (by first | assumption | (simp; done) | (simp; omega)) _ | refine Below.drew ?_)), by simp, by simp (maxDischargeDepth := 9) [go_sem, *], by simp (maxDischargeDepth := 9) [go_sem, *], by simp (maxDischargeDepth := 9) [go_sem, *], ⟨.bool false, by simp (maxDischargeDepth := 9) [go_sem, *]⟩, ⟨.int .i64 0, by simp (maxDischargeDepth := 9) [go_sem, *]⟩, ⟨.string ⟨#[]⟩, by simp (maxDischargeDepth := 9) [go_sem, *]⟩, fun q => by simp (maxDischargeDepth := 9) [go_sem, *], fun q => by simp (maxDischargeDepth := 9) [go_sem, *]⟩
  have HM0 := Lib.hid M0
  clear ey d0 d1 d2 M0
  go_loopg [6] (n - 1) (fun g st wr => ∃ (k : Nat) (m : Val), k + g = n ∧ 1 ≤ k ∧ st = .int .i64 (k : Int) ∧ selM (fun x m => decide (cmpV ty x m < 0)) (l.take k) = m ∧ MmSt w wr m)
  case atStart => exact ⟨1, ⟨un, ui, us⟩, by omega, Nat.le_refl _, rfl, HS1.out, HM0.out⟩
  case round =>
    obtain ⟨k, m, hk, hk1, rfl, hm, hst⟩ := hrel
    have HST := Lib.hid hst
    have HMM := Lib.hid hm
    clear HS1 HM0
    obtain ⟨mn, mi, ms⟩ := m
    have a0 := hst.c0
    have a1 := hst.c1
    have a2 := hst.c2
    have a3 := hst.f
    have a4 := hst.g
    have a5 := hst.lt
    have a6 := Nat.lt_of_succ_lt a5
    dsimp only at a0 a1 a2
    by_cases hg0 : gk = 0
    · subst hg0
      obtain rfl : k = n := by omega
      obtain rfl : (⟨mn, mi, ms⟩ : Val) = R := by rw [← hm, List.take_of_length_le (by rw [HN.out]; exact Nat.le_refl _)]; exact HR.out
      obtain ⟨u0, b0⟩ := hst.r0
      obtain ⟨u1, b1⟩ := hst.r1
      obtain ⟨u2, b2⟩ := hst.r2
      have yb := hst.below
      have tk : ¬ (k : Int) < (k : Int) := by omega
      clear hk hm hst HMM
      go_wp2
      exact bodyPost_ret (v := .agg #[.bool mn, .int .i64 mi, .string ms]) (by simp (maxDischargeDepth := 9) [results, Tryz.results91, go_sem, *]) rfl (⟨rfl, (by with_reducible repeat (first | exact Below.refl _ _ | assumption | refine Below.al ?_ _ | refine Below.on ?_ _ | refine Below.st ?_ (by first | assumption | (simp; done) | (simp; omega)) _ | refine Below.drew ?_))⟩)
    · have hkm : k < n := by omega
      have hkm' : (k : Int) < (n : Int) := by omega
      have hkx : k < l.length := by rw [HN.out]; exact hkm
      obtain ⟨lb', lo', e1, _, hlb', d0, d1, d2⟩ := vals_in HL.out hkx
      injection e1 with e1
      injection e1 with q1 q2
      subst q1 q2
      have SU := selM_succ (b := (fun x m => decide (cmpV ty x m < 0))) hk1 hkx
      rw [hm] at SU
      obtain ⟨u, hu⟩ : ∃ u, l[k]'hkx = u := ⟨_, rfl⟩
      rw [hu] at d0 d1 d2 SU
      obtain ⟨vn, vi, vs⟩ := u
      dsimp only at d0 d1 d2
      have g1 := (hst.below.cell (p := ⟨lb, lo + k * 3, none⟩) hlb).trans d0
      have g2 := (hst.below.cell (p := ⟨lb, lo + k * 3 + 1, none⟩) hlb).trans d1
      have g3 := (hst.below.cell (p := ⟨lb, lo + k * 3 + 2, none⟩) hlb).trans d2
      have zl : lb < wr.heap.size := Nat.lt_of_lt_of_le hlb hst.below.size
      have t0 := (hst.below.cell (p := ⟨TB, 0, none⟩) ht).trans h0
      have zt : TB < wr.heap.size := Nat.lt_of_lt_of_le ht hst.below.size
      obtain ⟨ve, hve⟩ : ∃ ve, cmpV ty ⟨vn, vi, vs⟩ ⟨mn, mi, ms⟩ = ve := ⟨_, rfl⟩
      have RV := Lib.hid (fun (W : World) (hb : Below wr.heap.size wr W) => (by have h := order1_any TB ty vn vi vs mn mi ms W (Nat.lt_of_lt_of_le zt hb.size) ((hb.cell (p := ⟨TB, 0, none⟩) zt).trans t0); rw [hve] at h; exact h : Calls Tryz.prog 90 #[.agg #[.bool vn, .int .i64 vi, .string vs], .agg #[.bool mn, .int .i64 mi, .string ms], .pointer (some ⟨TB, 0, none⟩)] W fun e w' => e = .returned (.int .i64 ve) ∧ Below W.heap.size W w'))
      have HK := Lib.hid (And.intro hk hg0)
      try dsimp only at SU
      rw [hve] at SU
      clear d0 d1 d2 hu hk hg0 hm hst hve
      by_cases hlt : ve < 0
      · have hlt' : decide (ve < 0) = true := by simpa using hlt
        have OK := Lib.hid (SU.trans (if_pos hlt'))
        clear SU
        go_upto_region 7 with fail
        refine wp_region_ext (by kernel_rfl) (by kernel_rfl) ?_
        repeat (go_big_quiet_step (((go_at_call 90; exact Calls.ext (RV.out _ (Ext.below _))))))
        refine wpQuiet_nil ?_
        rintro _ ⟨x7, rfl⟩
        have X7 := Lib.hid (HST.out.on x7.below)
        have z7 := x7.lt a6
        have z8 := x7.lt a5
        go_wp2
        go_roundg (gk - 1)
        case measure => have := HK.out; omega
        case rel => exact ⟨k + 1, ⟨vn, vi, vs⟩, by have := HK.out; omega, by omega, by go_num, OK.out, X7.out.set ⟨vn, vi, vs⟩⟩
      · have hlt' : decide (ve < 0) = false := by simpa using hlt
        have OK := Lib.hid (SU.trans (if_neg (by simp [hlt'])))
        clear SU
        go_upto_region 7 with fail
        refine wp_region_ext (by kernel_rfl) (by kernel_rfl) ?_
        repeat (go_big_quiet_step (((go_at_call 90; exact Calls.ext (RV.out _ (Ext.below _))))))
        refine wpQuiet_nil ?_
        rintro _ ⟨x7, rfl⟩
        have X7 := Lib.hid (HST.out.on x7.below)
        go_wp2
        go_roundg (gk - 1)
        case measure => have := HK.out; omega
        case rel => exact ⟨k + 1, ⟨mn, mi, ms⟩, by have := HK.out; omega, by omega, by go_num, OK.out, X7.out⟩
set_option maxRecDepth 8000 in
set_option maxHeartbeats 2000000 in
theorem max_any (TB : Nat) (ty : Int) (lv : Value) (l : List Val) (w : World) (ht : TB < w.heap.size) (h0 : w.cell? ⟨TB, 0, none⟩ = some (.int .i64 ty)) (hl : ValsAt w w.heap.size lv l) (h1 : 0 < l.length) :
    Calls Tryz.prog 92 #[lv, .func (.func 90) #[] #[.pointer (some ⟨TB, 0, none⟩)]] w fun e w' => e = .returned (.agg #[.bool (selM (fun x m => decide (0 < cmpV ty x m)) l).null, .int .i64 (selM (fun x m => decide (0 < cmpV ty x m)) l).n, .string (selM (fun x m => decide (0 < cmpV ty x m)) l).s]) ∧ Below w.heap.size w w' := by
  obtain ⟨la, lc, rfl⟩ := vals_end hl
  obtain ⟨n, hn⟩ : ∃ n, l.length = n := ⟨_, rfl⟩
  have n63 := hl.1
  obtain ⟨lb, lo, rfl, hcap, hlb, d0, d1, d2⟩ := vals_in hl h1
  rw [hn] at n63 hl hcap ⊢
  have HL := Lib.hid hl
  have HN := Lib.hid hn
  have S1 := selM_one (b := (fun x m => decide (0 < cmpV ty x m))) h1
  obtain ⟨u, hu⟩ : ∃ u, l[0]'h1 = u := ⟨_, rfl⟩
  rw [hu] at d0 d1 d2 S1
  have HS1 := Lib.hid S1
  obtain ⟨un, ui, us⟩ := u
  dsimp only at d0 d1 d2
  have n1 : 0 < n := by omega
  have n1' : (0 : Int) < (n : Int) := by omega
  have n1'' : ¬ (n : Int) < 1 := by omega
  obtain ⟨R, hR⟩ : ∃ R, selM (fun x m => decide (0 < cmpV ty x m)) l = R := ⟨_, rfl⟩
  rw [hR]
  have HR := Lib.hid hR
  clear hl hn hR S1 hu h1
  simp only [Nat.zero_mul, Nat.add_zero] at d0 d1 d2
  go_enter Tryz.func92, Tryz.ntmps92
  go_upto_region 5 with fail
  refine captureP ?_
  intro y ey
  have M0 : MmSt w y.it ⟨un, ui, us⟩ := by
    rw [ey]
    exact ⟨(by with_reducible repeat (first | exact Below.refl _ _ | assumption | refine Below.al ?_ _ | refine Below.on ?_ _ | refine Below.st ?_ (by first | assumption | (simp; done) | (simp; omega)) _ | refine Below.drew ?_)), by simp, by simp (maxDischargeDepth := 9) [go_sem, *], by simp (maxDischargeDepth := 9) [go_sem, *], by simp (maxDischargeDepth := 9) [go_sem, *], ⟨.bool false, by simp (maxDischargeDepth := 9) [go_sem, *]⟩, ⟨.int .i64 0, by simp (maxDischargeDepth := 9) [go_sem, *]⟩, ⟨.string ⟨#[]⟩, by simp (maxDischargeDepth := 9) [go_sem, *]⟩, fun q => by simp (maxDischargeDepth := 9) [go_sem, *], fun q => by simp (maxDischargeDepth := 9) [go_sem, *]⟩
  have HM0 := Lib.hid M0
  clear ey d0 d1 d2 M0
  go_loopg [6] (n - 1) (fun g st wr => ∃ (k : Nat) (m : Val), k + g = n ∧ 1 ≤ k ∧ st = .int .i64 (k : Int) ∧ selM (fun x m => decide (0 < cmpV ty x m)) (l.take k) = m ∧ MmSt w wr m)
  case atStart => exact ⟨1, ⟨un, ui, us⟩, by omega, Nat.le_refl _, rfl, HS1.out, HM0.out⟩
  case round =>
    obtain ⟨k, m, hk, hk1, rfl, hm, hst⟩ := hrel
    have HST := Lib.hid hst
    have HMM := Lib.hid hm
    clear HS1 HM0
    obtain ⟨mn, mi, ms⟩ := m
    have a0 := hst.c0
    have a1 := hst.c1
    have a2 := hst.c2
    have a3 := hst.f
    have a4 := hst.g
    have a5 := hst.lt
    have a6 := Nat.lt_of_succ_lt a5
    dsimp only at a0 a1 a2
    by_cases hg0 : gk = 0
    · subst hg0
      obtain rfl : k = n := by omega
      obtain rfl : (⟨mn, mi, ms⟩ : Val) = R := by rw [← hm, List.take_of_length_le (by rw [HN.out]; exact Nat.le_refl _)]; exact HR.out
      obtain ⟨u0, b0⟩ := hst.r0
      obtain ⟨u1, b1⟩ := hst.r1
      obtain ⟨u2, b2⟩ := hst.r2
      have yb := hst.below
      have tk : ¬ (k : Int) < (k : Int) := by omega
      clear hk hm hst HMM
      go_wp2
      exact bodyPost_ret (v := .agg #[.bool mn, .int .i64 mi, .string ms]) (by simp (maxDischargeDepth := 9) [results, Tryz.results92, go_sem, *]) rfl (⟨rfl, (by with_reducible repeat (first | exact Below.refl _ _ | assumption | refine Below.al ?_ _ | refine Below.on ?_ _ | refine Below.st ?_ (by first | assumption | (simp; done) | (simp; omega)) _ | refine Below.drew ?_))⟩)
    · have hkm : k < n := by omega
      have hkm' : (k : Int) < (n : Int) := by omega
      have hkx : k < l.length := by rw [HN.out]; exact hkm
      obtain ⟨lb', lo', e1, _, hlb', d0, d1, d2⟩ := vals_in HL.out hkx
      injection e1 with e1
      injection e1 with q1 q2
      subst q1 q2
      have SU := selM_succ (b := (fun x m => decide (0 < cmpV ty x m))) hk1 hkx
      rw [hm] at SU
      obtain ⟨u, hu⟩ : ∃ u, l[k]'hkx = u := ⟨_, rfl⟩
      rw [hu] at d0 d1 d2 SU
      obtain ⟨vn, vi, vs⟩ := u
      dsimp only at d0 d1 d2
      have g1 := (hst.below.cell (p := ⟨lb, lo + k * 3, none⟩) hlb).trans d0
      have g2 := (hst.below.cell (p := ⟨lb, lo + k * 3 + 1, none⟩) hlb).trans d1
      have g3 := (hst.below.cell (p := ⟨lb, lo + k * 3 + 2, none⟩) hlb).trans d2
      have zl : lb < wr.heap.size := Nat.lt_of_lt_of_le hlb hst.below.size
      have t0 := (hst.below.cell (p := ⟨TB, 0, none⟩) ht).trans h0
      have zt : TB < wr.heap.size := Nat.lt_of_lt_of_le ht hst.below.size
      obtain ⟨ve, hve⟩ : ∃ ve, cmpV ty ⟨vn, vi, vs⟩ ⟨mn, mi, ms⟩ = ve := ⟨_, rfl⟩
      have RV := Lib.hid (fun (W : World) (hb : Below wr.heap.size wr W) => (by have h := order1_any TB ty vn vi vs mn mi ms W (Nat.lt_of_lt_of_le zt hb.size) ((hb.cell (p := ⟨TB, 0, none⟩) zt).trans t0); rw [hve] at h; exact h : Calls Tryz.prog 90 #[.agg #[.bool vn, .int .i64 vi, .string vs], .agg #[.bool mn, .int .i64 mi, .string ms], .pointer (some ⟨TB, 0, none⟩)] W fun e w' => e = .returned (.int .i64 ve) ∧ Below W.heap.size W w'))
      have HK := Lib.hid (And.intro hk hg0)
      try dsimp only at SU
      rw [hve] at SU
      clear d0 d1 d2 hu hk hg0 hm hst hve
      by_cases hlt : 0 < ve
      · have hlt' : decide (0 < ve) = true := by simpa using hlt
        have OK := Lib.hid (SU.trans (if_pos hlt'))
        clear SU
        go_upto_region 7 with fail
        refine wp_region_ext (by kernel_rfl) (by kernel_rfl) ?_
        repeat (go_big_quiet_step (((go_at_call 90; exact Calls.ext (RV.out _ (Ext.below _))))))
        refine wpQuiet_nil ?_
        rintro _ ⟨x7, rfl⟩
        have X7 := Lib.hid (HST.out.on x7.below)
        have z7 := x7.lt a6
        have z8 := x7.lt a5
        go_wp2
        go_roundg (gk - 1)
        case measure => have := HK.out; omega
        case rel => exact ⟨k + 1, ⟨vn, vi, vs⟩, by have := HK.out; omega, by omega, by go_num, OK.out, X7.out.set ⟨vn, vi, vs⟩⟩
      · have hlt' : decide (0 < ve) = false := by simpa using hlt
        have OK := Lib.hid (SU.trans (if_neg (by simp [hlt'])))
        clear SU
        go_upto_region 7 with fail
        refine wp_region_ext (by kernel_rfl) (by kernel_rfl) ?_
        repeat (go_big_quiet_step (((go_at_call 90; exact Calls.ext (RV.out _ (Ext.below _))))))
        refine wpQuiet_nil ?_
        rintro _ ⟨x7, rfl⟩
        have X7 := Lib.hid (HST.out.on x7.below)
        go_wp2
        go_roundg (gk - 1)
        case measure => have := HK.out; omega
        case rel => exact ⟨k + 1, ⟨mn, mi, ms⟩, by have := HK.out; omega, by omega, by go_num, OK.out, X7.out⟩
end Go.Proofs.YtpahoenanfjhpaaGreat
