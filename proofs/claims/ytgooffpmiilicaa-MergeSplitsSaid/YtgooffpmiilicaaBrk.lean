/-
  RANKS: batch.Rank, Compare, and the reference's: 'rankF', 'cmpR'. Conditions: each theorem states its own.
-/
import Derived.Test.YtgooffpmiilicaaRcs
set_option linter.unusedVariables false
set_option linter.unusedSimpArgs false
namespace Go.Proofs.Ytgooffpmiilicaa
open Go.RowKit
structure Rk where
  key : Val
  seq : Int
def orF (x y : Int) : Int := if x = 0 then y else x
theorem orF_0 (y : Int) : orF 0 y = y := if_pos rfl
theorem orF_n {x : Int} (y : Int) (h : ¬ x = 0) : orF x y = x := if_neg h
def cmpR (t : Int) (a b : Rk) : Int := orF (cmpV t a.key b.key) (cmpI a.seq b.seq)
def rankF (key : Int) (r : Rc) : Rk := if key < 0 ∨ (r.row.length : Int) ≤ key then ⟨⟨false, 0, ⟨#[]⟩⟩, 0⟩ else ⟨r.row.getD key.toNat ⟨false, 0, ⟨#[]⟩⟩, r.seq⟩
def rkV (p : Rk) : Value := .agg #[.bool p.key.null, .int .i64 p.key.n, .string p.key.s, .int .i64 p.seq]
set_option maxHeartbeats 1000000 in
theorem or_two (b : Nat) (x y : Int) (w : World) (h0 : w.cell? ⟨b, 0, none⟩ = some (.int .i64 x)) (h1 : w.cell? ⟨b, 1, none⟩ = some (.int .i64 y)) :
    Calls Try.prog 55 #[.slice (some ⟨b, 0, none⟩) 2 2] w fun e w' => e = .returned (.int .i64 (orF x y)) ∧ w = w' := by
  by_cases hx : x = 0
  · subst hx
    rw [orF_0]
    by_cases hy : y = 0
    · subst hy
      go_enter Try.func55, Try.ntmps55
      go_wp2
      refine wp_loop_rounds 3 ?_
      rw [rounds_succ]
      go_wp2
      rw [rounds_succ]
      go_wp2
      rw [rounds_succ]
      go_wp2
      go_ret
      exact ⟨rfl, rfl⟩
    · have hy' : (y != 0) = true := by simpa using hy
      go_enter Try.func55, Try.ntmps55
      go_wp2
      refine wp_loop_rounds 2 ?_
      rw [rounds_succ]
      go_wp2
      rw [rounds_succ]
      go_wp2
      go_ret
      exact ⟨rfl, rfl⟩
  · rw [orF_n _ hx]
    have hx' : (x != 0) = true := by simpa using hx
    go_enter Try.func55, Try.ntmps55
    go_wp2
    refine wp_loop_rounds 2 ?_
    rw [rounds_succ]
    go_wp2
    go_ret
    exact ⟨rfl, rfl⟩
set_option maxHeartbeats 1000000 in
theorem bcompare_any (t : Int) (an : Bool) (a : Int) (sa : ByteArray) (p : Int) (bn : Bool) (b : Int) (sb : ByteArray) (q : Int) (w : World) :
    Calls Try.prog 41 #[.int .i64 t, .agg #[.bool an, .int .i64 a, .string sa, .int .i64 p], .agg #[.bool bn, .int .i64 b, .string sb, .int .i64 q]] w fun e w' => e = .returned (.int .i64 (cmpR t ⟨⟨an, a, sa⟩, p⟩ ⟨⟨bn, b, sb⟩, q⟩)) ∧ Below w.heap.size w w' := by
  obtain ⟨c1, hc1⟩ : ∃ c, cmpV t ⟨an, a, sa⟩ ⟨bn, b, sb⟩ = c := ⟨_, rfl⟩
  obtain ⟨c2, hc2⟩ : ∃ c, cmpI p q = c := ⟨_, rfl⟩
  have E : cmpR t ⟨⟨an, a, sa⟩, p⟩ ⟨⟨bn, b, sb⟩, q⟩ = orF c1 c2 := by unfold cmpR; rw [hc1, hc2]
  rw [E]
  have K1 := Lib.hid (fun W => (by have h := compare_any t an a sa bn b sb W; rw [hc1] at h; exact h : Calls Try.prog 56 #[.int .i64 t, .agg #[.bool an, .int .i64 a, .string sa], .agg #[.bool bn, .int .i64 b, .string sb]] W fun e w' => e = .returned (.int .i64 c1) ∧ Below W.heap.size W w'))
  have K2 := Lib.hid (fun W => (by have h := cmpI_any p q W; rw [hc2] at h; exact h : Calls Try.prog 57 #[.int .i64 p, .int .i64 q] W fun e w' => e = .returned (.int .i64 c2) ∧ W = w'))
  clear E hc1 hc2
  go_enter Try.func41, Try.ntmps41
  go_upto_region 1 with fail
  refine wp_region_ext_tail 11 (by kernel_rfl) (by kernel_rfl) ?_
  dsimp only [List.take, List.drop]
  repeat (go_big_quiet_step ((first | (go_at_call 56; exact Calls.ext (K1.out _)) | (go_at_call 57; exact Calls.ext_same (K2.out _)))))
  refine wpQuiet_nil ?_
  rintro _ ⟨x, rfl⟩
  go_wp2_with (go_at_call 55; refine (or_two _ c1 c2 _ (by simp [go_sem]) (by simp [go_sem])).mono ?_; rintro e w' ⟨rfl, rfl⟩)
  go_ret
  exact ⟨rfl, by repeat (first | with_reducible exact Below.refl _ _ | with_reducible assumption | with_reducible refine Below.al ?_ _ | with_reducible refine Below.on ?_ _ | with_reducible refine Below.st ?_ (by first | assumption | (simp; done) | (simp; omega)) _ | with_reducible refine Below.drew ?_)⟩
set_option maxHeartbeats 1000000 in
theorem refCompareR_any (t : Int) (an : Bool) (a : Int) (sa : ByteArray) (p : Int) (bn : Bool) (b : Int) (sb : ByteArray) (q : Int) (w : World) :
    Calls Try.prog 20 #[.int .i64 t, .agg #[.bool an, .int .i64 a, .string sa, .int .i64 p], .agg #[.bool bn, .int .i64 b, .string sb, .int .i64 q]] w fun e w' => e = .returned (.int .i64 (cmpR t ⟨⟨an, a, sa⟩, p⟩ ⟨⟨bn, b, sb⟩, q⟩)) ∧ Below w.heap.size w w' := by
  obtain ⟨c1, hc1⟩ : ∃ c, cmpV t ⟨an, a, sa⟩ ⟨bn, b, sb⟩ = c := ⟨_, rfl⟩
  have E : cmpR t ⟨⟨an, a, sa⟩, p⟩ ⟨⟨bn, b, sb⟩, q⟩ = orF c1 (cmpI p q) := by unfold cmpR; rw [hc1]
  rw [E]
  have K1 := Lib.hid (fun W => (by have h := refCompare_any t an a sa bn b sb W; rw [hc1] at h; exact h : Calls Try.prog 42 #[.int .i64 t, .agg #[.bool an, .int .i64 a, .string sa], .agg #[.bool bn, .int .i64 b, .string sb]] W fun e w' => e = .returned (.int .i64 c1) ∧ Below W.heap.size W w'))
  clear E hc1
  by_cases h1 : c1 = 0
  · subst h1
    rw [orF_0]
    by_cases h2 : p < q
    · have e : cmpI p q = -1 := by unfold cmpI; rw [if_pos h2]
      have h2' : decide (p < q) = true := by simpa using h2
      rw [e]
      clear e h2
      go_enter Try.func20, Try.ntmps20
      go_wp2_with (go_at_call 42; refine (K1.out _).mono ?_; rintro e w1 ⟨rfl, hb1⟩; obtain ⟨x1, rfl⟩ := Ext.of hb1; have z0 : w.heap.size < x1.it.heap.size := x1.lt (by (first | assumption | (simp; done) | (simp; omega))); have z1 : w.heap.size + 1 < x1.it.heap.size := x1.lt (by (first | assumption | (simp; done) | (simp; omega))))
      go_ret
      exact ⟨rfl, by repeat (first | with_reducible exact Below.refl _ _ | with_reducible assumption | with_reducible refine Below.al ?_ _ | with_reducible refine Below.on ?_ _ | with_reducible refine Below.st ?_ (by first | assumption | (simp; done) | (simp; omega)) _ | with_reducible refine Below.drew ?_)⟩
    · have h2' : decide (p < q) = false := by simpa using h2
      by_cases h3 : p = q
      · have e : cmpI p q = 0 := by unfold cmpI; rw [if_neg h2, if_pos h3]
        have h3' : (p == q) = true := by simpa using h3
        rw [e]
        clear e h3 h2
        go_enter Try.func20, Try.ntmps20
        go_wp2_with (go_at_call 42; refine (K1.out _).mono ?_; rintro e w1 ⟨rfl, hb1⟩; obtain ⟨x1, rfl⟩ := Ext.of hb1; have z0 : w.heap.size < x1.it.heap.size := x1.lt (by (first | assumption | (simp; done) | (simp; omega))); have z1 : w.heap.size + 1 < x1.it.heap.size := x1.lt (by (first | assumption | (simp; done) | (simp; omega))))
        go_ret
        exact ⟨rfl, by repeat (first | with_reducible exact Below.refl _ _ | with_reducible assumption | with_reducible refine Below.al ?_ _ | with_reducible refine Below.on ?_ _ | with_reducible refine Below.st ?_ (by first | assumption | (simp; done) | (simp; omega)) _ | with_reducible refine Below.drew ?_)⟩
      · have e : cmpI p q = 1 := by unfold cmpI; rw [if_neg h2, if_neg h3]
        have h3' : (p == q) = false := by simpa using h3
        rw [e]
        clear e h3 h2
        go_enter Try.func20, Try.ntmps20
        go_wp2_with (go_at_call 42; refine (K1.out _).mono ?_; rintro e w1 ⟨rfl, hb1⟩; obtain ⟨x1, rfl⟩ := Ext.of hb1; have z0 : w.heap.size < x1.it.heap.size := x1.lt (by (first | assumption | (simp; done) | (simp; omega))); have z1 : w.heap.size + 1 < x1.it.heap.size := x1.lt (by (first | assumption | (simp; done) | (simp; omega))))
        go_ret
        exact ⟨rfl, by repeat (first | with_reducible exact Below.refl _ _ | with_reducible assumption | with_reducible refine Below.al ?_ _ | with_reducible refine Below.on ?_ _ | with_reducible refine Below.st ?_ (by first | assumption | (simp; done) | (simp; omega)) _ | with_reducible refine Below.drew ?_)⟩
  · rw [orF_n _ h1]
    have h1' : (c1 != 0) = true := by simpa using h1
    clear h1
    go_enter Try.func20, Try.ntmps20
    go_wp2_with (go_at_call 42; refine (K1.out _).mono ?_; rintro e w1 ⟨rfl, hb1⟩; obtain ⟨x1, rfl⟩ := Ext.of hb1; have z0 : w.heap.size < x1.it.heap.size := x1.lt (by (first | assumption | (simp; done) | (simp; omega))); have z1 : w.heap.size + 1 < x1.it.heap.size := x1.lt (by (first | assumption | (simp; done) | (simp; omega))))
    go_ret
    exact ⟨rfl, by repeat (first | with_reducible exact Below.refl _ _ | with_reducible assumption | with_reducible refine Below.al ?_ _ | with_reducible refine Below.on ?_ _ | with_reducible refine Below.st ?_ (by first | assumption | (simp; done) | (simp; omega)) _ | with_reducible refine Below.drew ?_)⟩
set_option maxHeartbeats 2000000 in
theorem rank_any (cv : Value) (key sq : Int) (rv : Value) (row : List Val) (w : World) (hr : ValsAt w w.heap.size rv row) :
    Calls Try.prog 66 #[.agg #[cv, .int .i64 key], .agg #[.int .i64 sq, rv]] w fun e w' => e = .returned (rkV (rankF key ⟨sq, row⟩)) ∧ Below w.heap.size w w' := by
  obtain ⟨ra, rc, rfl⟩ := vals_end hr
  have h63 := hr.1
  obtain ⟨m, hm⟩ : ∃ m, row.length = m := ⟨_, rfl⟩
  have HR : Hid (ValsAt w w.heap.size (.slice ra m rc) row) := Lib.hid (by rw [← hm]; exact hr)
  have HM := Lib.hid hm
  rw [hm] at h63 ⊢
  clear hr
  by_cases k0 : key < 0
  · have e : rankF key ⟨sq, row⟩ = ⟨⟨false, 0, ⟨#[]⟩⟩, 0⟩ := by unfold rankF; rw [if_pos (.inl k0)]
    rw [e]
    clear e hm
    go_enter Try.func66, Try.ntmps66
    go_wp2
    exact bodyPost_ret (v := .agg #[.bool false, .int .i64 0, .string ⟨#[]⟩, .int .i64 0]) (by simp [results, Try.results66, go_sem, *]) rfl (⟨rfl, by repeat (first | with_reducible exact Below.refl _ _ | with_reducible assumption | with_reducible refine Below.al ?_ _ | with_reducible refine Below.on ?_ _ | with_reducible refine Below.st ?_ (by first | assumption | (simp; done) | (simp; omega)) _ | with_reducible refine Below.drew ?_)⟩)
  by_cases k1 : (m : Int) ≤ key
  · have e : rankF key ⟨sq, row⟩ = ⟨⟨false, 0, ⟨#[]⟩⟩, 0⟩ := by unfold rankF; rw [if_pos (.inr (by dsimp only; rw [hm]; exact k1))]
    rw [e]
    clear e hm
    go_enter Try.func66, Try.ntmps66
    go_wp2
    exact bodyPost_ret (v := .agg #[.bool false, .int .i64 0, .string ⟨#[]⟩, .int .i64 0]) (by simp [results, Try.results66, go_sem, *]) rfl (⟨rfl, by repeat (first | with_reducible exact Below.refl _ _ | with_reducible assumption | with_reducible refine Below.al ?_ _ | with_reducible refine Below.on ?_ _ | with_reducible refine Below.st ?_ (by first | assumption | (simp; done) | (simp; omega)) _ | with_reducible refine Below.drew ?_)⟩)
  · obtain ⟨K, rfl⟩ : ∃ K : Nat, key = K := ⟨key.toNat, by omega⟩
    have hK : K < row.length := by omega
    have e : rankF (K : Int) ⟨sq, row⟩ = ⟨row[K]'hK, sq⟩ := by
      unfold rankF
      rw [if_neg (by dsimp only; omega)]
      dsimp only
      rw [Int.toNat_natCast, List.getD_eq_getElem?_getD, List.getElem?_eq_getElem hK]; rfl
    rw [e]
    obtain ⟨rb, ro, rfl, _, hrb, e0, e1, e2⟩ := vals_in HR.out hK
    obtain ⟨u, hu⟩ : ∃ u, row[K]'hK = u := ⟨_, rfl⟩
    rw [hu] at e0 e1 e2 ⊢
    obtain ⟨un, ui, us⟩ := u
    dsimp only at e0 e1 e2
    have hKm : (K : Int) < (m : Int) := by omega
    have hK0 : (0 : Int) ≤ (K : Int) := by omega
    clear e hu hm k1 k0 hK
    go_enter Try.func66, Try.ntmps66
    go_upto_region 3 with fail
    refine captureP ?_
    intro y ey
    have yb : Below w.heap.size w y.it := by rw [ey]; exact (by repeat (first | with_reducible exact Below.refl _ _ | with_reducible assumption | with_reducible refine Below.al ?_ _ | with_reducible refine Below.on ?_ _ | with_reducible refine Below.st ?_ (by first | assumption | (simp; done) | (simp; omega)) _ | with_reducible refine Below.drew ?_))
    have b0 : y.it.cell? ⟨w.heap.size, 1, none⟩ = some (.int .i64 (K : Int)) := by rw [ey]; simp (maxDischargeDepth := 9) [go_sem, *]
    have b1 : y.it.cell? ⟨w.heap.size + 1, 0, none⟩ = some (.int .i64 sq) := by rw [ey]; simp (maxDischargeDepth := 9) [go_sem, *]
    have b2 : y.it.cell? ⟨w.heap.size + 1, 1, none⟩ = some (.slice (some ⟨rb, ro, none⟩) m rc) := by rw [ey]; simp (maxDischargeDepth := 9) [go_sem, *]
    have d0 : ∀ j, y.it.frozen? ⟨w.heap.size + 1 + 1, j, none⟩ = false := by intro j; rw [ey]; simp [go_sem]
    have d1 : (y.it.cell? ⟨w.heap.size + 1 + 1, 0, none⟩).isSome = true := by rw [ey]; simp [go_sem]
    have d2 : (y.it.cell? ⟨w.heap.size + 1 + 1, 1, none⟩).isSome = true := by rw [ey]; simp [go_sem]
    have d3 : (y.it.cell? ⟨w.heap.size + 1 + 1, 2, none⟩).isSome = true := by rw [ey]; simp [go_sem]
    have d4 : (y.it.cell? ⟨w.heap.size + 1 + 1, 3, none⟩).isSome = true := by rw [ey]; simp [go_sem]
    have f0 := (yb.cell (p := ⟨rb, ro + K * 3, none⟩) hrb).trans e0
    have f1 := (yb.cell (p := ⟨rb, ro + K * 3 + 1, none⟩) hrb).trans e1
    have f2 := (yb.cell (p := ⟨rb, ro + K * 3 + 2, none⟩) hrb).trans e2
    clear ey e0 e1 e2
    go_region
    go_wp2
    exact bodyPost_ret (v := .agg #[.bool un, .int .i64 ui, .string us, .int .i64 sq]) (by simp [results, Try.results66, go_sem, *]) rfl (⟨rfl, by repeat (first | with_reducible exact Below.refl _ _ | with_reducible assumption | with_reducible refine Below.al ?_ _ | with_reducible refine Below.on ?_ _ | with_reducible refine Below.st ?_ (by first | assumption | (simp; done) | (simp; omega)) _ | with_reducible refine Below.drew ?_)⟩)
set_option maxHeartbeats 2000000 in
theorem refRank_any (cv : Value) (key sq : Int) (rv : Value) (row : List Val) (w : World) (hr : ValsAt w w.heap.size rv row) :
    Calls Try.prog 24 #[.agg #[cv, .int .i64 key], .agg #[.int .i64 sq, rv]] w fun e w' => e = .returned (rkV (rankF key ⟨sq, row⟩)) ∧ Below w.heap.size w w' := by
  obtain ⟨ra, rc, rfl⟩ := vals_end hr
  have h63 := hr.1
  obtain ⟨m, hm⟩ : ∃ m, row.length = m := ⟨_, rfl⟩
  have HR : Hid (ValsAt w w.heap.size (.slice ra m rc) row) := Lib.hid (by rw [← hm]; exact hr)
  have HM := Lib.hid hm
  rw [hm] at h63 ⊢
  clear hr
  by_cases k0 : key < 0
  · have e : rankF key ⟨sq, row⟩ = ⟨⟨false, 0, ⟨#[]⟩⟩, 0⟩ := by unfold rankF; rw [if_pos (.inl k0)]
    rw [e]
    clear e hm
    go_enter Try.func24, Try.ntmps24
    go_wp2
    exact bodyPost_ret (v := .agg #[.bool false, .int .i64 0, .string ⟨#[]⟩, .int .i64 0]) (by simp [results, Try.results24, go_sem, *]) rfl (⟨rfl, by repeat (first | with_reducible exact Below.refl _ _ | with_reducible assumption | with_reducible refine Below.al ?_ _ | with_reducible refine Below.on ?_ _ | with_reducible refine Below.st ?_ (by first | assumption | (simp; done) | (simp; omega)) _ | with_reducible refine Below.drew ?_)⟩)
  by_cases k1 : (m : Int) ≤ key
  · have e : rankF key ⟨sq, row⟩ = ⟨⟨false, 0, ⟨#[]⟩⟩, 0⟩ := by unfold rankF; rw [if_pos (.inr (by dsimp only; rw [hm]; exact k1))]
    rw [e]
    clear e hm
    go_enter Try.func24, Try.ntmps24
    go_wp2
    exact bodyPost_ret (v := .agg #[.bool false, .int .i64 0, .string ⟨#[]⟩, .int .i64 0]) (by simp [results, Try.results24, go_sem, *]) rfl (⟨rfl, by repeat (first | with_reducible exact Below.refl _ _ | with_reducible assumption | with_reducible refine Below.al ?_ _ | with_reducible refine Below.on ?_ _ | with_reducible refine Below.st ?_ (by first | assumption | (simp; done) | (simp; omega)) _ | with_reducible refine Below.drew ?_)⟩)
  · obtain ⟨K, rfl⟩ : ∃ K : Nat, key = K := ⟨key.toNat, by omega⟩
    have hK : K < row.length := by omega
    have e : rankF (K : Int) ⟨sq, row⟩ = ⟨row[K]'hK, sq⟩ := by
      unfold rankF
      rw [if_neg (by dsimp only; omega)]
      dsimp only
      rw [Int.toNat_natCast, List.getD_eq_getElem?_getD, List.getElem?_eq_getElem hK]; rfl
    rw [e]
    obtain ⟨rb, ro, rfl, _, hrb, e0, e1, e2⟩ := vals_in HR.out hK
    obtain ⟨u, hu⟩ : ∃ u, row[K]'hK = u := ⟨_, rfl⟩
    rw [hu] at e0 e1 e2 ⊢
    obtain ⟨un, ui, us⟩ := u
    dsimp only at e0 e1 e2
    have hKm : (K : Int) < (m : Int) := by omega
    have hK0 : (0 : Int) ≤ (K : Int) := by omega
    clear e hu hm k1 k0 hK
    go_enter Try.func24, Try.ntmps24
    go_upto_region 3 with fail
    refine captureP ?_
    intro y ey
    have yb : Below w.heap.size w y.it := by rw [ey]; exact (by repeat (first | with_reducible exact Below.refl _ _ | with_reducible assumption | with_reducible refine Below.al ?_ _ | with_reducible refine Below.on ?_ _ | with_reducible refine Below.st ?_ (by first | assumption | (simp; done) | (simp; omega)) _ | with_reducible refine Below.drew ?_))
    have b0 : y.it.cell? ⟨w.heap.size, 1, none⟩ = some (.int .i64 (K : Int)) := by rw [ey]; simp (maxDischargeDepth := 9) [go_sem, *]
    have b1 : y.it.cell? ⟨w.heap.size + 1, 0, none⟩ = some (.int .i64 sq) := by rw [ey]; simp (maxDischargeDepth := 9) [go_sem, *]
    have b2 : y.it.cell? ⟨w.heap.size + 1, 1, none⟩ = some (.slice (some ⟨rb, ro, none⟩) m rc) := by rw [ey]; simp (maxDischargeDepth := 9) [go_sem, *]
    have d0 : ∀ j, y.it.frozen? ⟨w.heap.size + 1 + 1, j, none⟩ = false := by intro j; rw [ey]; simp [go_sem]
    have d1 : (y.it.cell? ⟨w.heap.size + 1 + 1, 0, none⟩).isSome = true := by rw [ey]; simp [go_sem]
    have d2 : (y.it.cell? ⟨w.heap.size + 1 + 1, 1, none⟩).isSome = true := by rw [ey]; simp [go_sem]
    have d3 : (y.it.cell? ⟨w.heap.size + 1 + 1, 2, none⟩).isSome = true := by rw [ey]; simp [go_sem]
    have d4 : (y.it.cell? ⟨w.heap.size + 1 + 1, 3, none⟩).isSome = true := by rw [ey]; simp [go_sem]
    have f0 := (yb.cell (p := ⟨rb, ro + K * 3, none⟩) hrb).trans e0
    have f1 := (yb.cell (p := ⟨rb, ro + K * 3 + 1, none⟩) hrb).trans e1
    have f2 := (yb.cell (p := ⟨rb, ro + K * 3 + 2, none⟩) hrb).trans e2
    clear ey e0 e1 e2
    go_region
    go_wp2
    exact bodyPost_ret (v := .agg #[.bool un, .int .i64 ui, .string us, .int .i64 sq]) (by simp [results, Try.results24, go_sem, *]) rfl (⟨rfl, by repeat (first | with_reducible exact Below.refl _ _ | with_reducible assumption | with_reducible refine Below.al ?_ _ | with_reducible refine Below.on ?_ _ | with_reducible refine Below.st ?_ (by first | assumption | (simp; done) | (simp; omega)) _ | with_reducible refine Below.drew ?_)⟩)
end Go.Proofs.Ytgooffpmiilicaa
