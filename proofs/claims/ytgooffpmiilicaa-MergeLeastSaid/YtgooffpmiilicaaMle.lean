/-
  LEAST: merge.Least and the reference's ('leastF'), keep.Ranks. Conditions: the ranks lie in memory as 'RksAt' says.
-/
import Derived.Test.YtgooffpmiilicaaMls
set_option linter.unusedVariables false
set_option linter.unusedSimpArgs false
namespace Go.Proofs.Ytgooffpmiilicaa
open Go.RowKit Srt
def rkC (p : Rk) : List Value := [.bool p.key.null, .int .i64 p.key.n, .string p.key.s, .int .i64 p.seq]
/-- In world w the value v is a slice of the ranks. -/
def RksAt (w : World) (B : Nat) (v : Value) (l : List Rk) : Prop :=
  l.length ≤ 9223372036854775807 ∧ ((l = [] ∧ ∃ a c, v = .slice a 0 c) ∨ ∃ b o c, v = .slice (some ⟨b, o, none⟩) l.length c ∧ l.length ≤ c ∧ b < B ∧ ∀ j (h : j < l.length),
    w.cell? ⟨b, o + j * 4, none⟩ = some (.bool (l[j]'h).key.null) ∧ w.cell? ⟨b, o + j * 4 + 1, none⟩ = some (.int .i64 (l[j]'h).key.n) ∧ w.cell? ⟨b, o + j * 4 + 2, none⟩ = some (.string (l[j]'h).key.s) ∧ w.cell? ⟨b, o + j * 4 + 3, none⟩ = some (.int .i64 (l[j]'h).seq))
theorem rks_end {w : World} {B : Nat} {v : Value} {l : List Rk} (h : RksAt w B v l) : ∃ a c, v = .slice a l.length c := by
  rcases h.2 with ⟨e, a, c, rfl⟩ | ⟨b, o, c, rfl, _⟩
  · exact ⟨a, c, by rw [e]; rfl⟩
  · exact ⟨_, c, rfl⟩
theorem rks_in {w : World} {B : Nat} {a : Option Addr} {n c : Nat} {l : List Rk} (h : RksAt w B (.slice a n c) l) (hi : 0 < l.length) : ∃ b o, a = some ⟨b, o, none⟩ ∧ b < B ∧ ∀ j (h : j < l.length),
    w.cell? ⟨b, o + j * 4, none⟩ = some (.bool (l[j]'h).key.null) ∧ w.cell? ⟨b, o + j * 4 + 1, none⟩ = some (.int .i64 (l[j]'h).key.n) ∧ w.cell? ⟨b, o + j * 4 + 2, none⟩ = some (.string (l[j]'h).key.s) ∧ w.cell? ⟨b, o + j * 4 + 3, none⟩ = some (.int .i64 (l[j]'h).seq) := by
  rcases h.2 with ⟨e, _⟩ | ⟨b, o, c, hv, _, hb, hc⟩
  · subst e; exact absurd hi (by simp)
  · injection hv with h1 h2 h3
    exact ⟨b, o, h1, hb, hc⟩
theorem RksAt.mono {w w' : World} {B B' : Nat} {v : Value} {l : List Rk} (h : RksAt w B v l) (hb : Below B w w') (hB : B ≤ B') : RksAt w' B' v l := by
  refine ⟨h.1, h.2.imp id ?_⟩
  rintro ⟨b, o, c, hv, hcap, hlt, hc⟩
  refine ⟨b, o, c, hv, hcap, Nat.lt_of_lt_of_le hlt hB, fun j hj => ?_⟩
  obtain ⟨h1, h2, h3, h4⟩ := hc j hj
  exact ⟨(hb.cell (p := ⟨b, _, none⟩) hlt).trans h1, (hb.cell (p := ⟨b, _, none⟩) hlt).trans h2, (hb.cell (p := ⟨b, _, none⟩) hlt).trans h3, (hb.cell (p := ⟨b, _, none⟩) hlt).trans h4⟩
theorem own_rks {w : World} {base : Nat} {T : TypeId} {v : Value} {l : List Rk} (hl : l.length ≤ 9223372036854775807) (h : w.ownsRow base T 4 v l.length (l.flatMap rkC)) : RksAt w w.heap.size v l := by
  rcases own_at (f := rkC) (k := 4) (fun _ => rfl) h with ⟨rfl, rfl⟩ | ⟨g, c, rfl, hc, _, hg, H⟩
  · exact ⟨hl, .inl ⟨rfl, none, 0, rfl⟩⟩
  · exact ⟨hl, .inr ⟨g, 0, c, rfl, hc, hg, fun j hj => ⟨by have := H j hj 0 _ (by omega) rfl; simpa using this, by have := H j hj 1 _ (by omega) rfl; simpa using this, by have := H j hj 2 _ (by omega) rfl; simpa using this, by have := H j hj 3 _ (by omega) rfl; simpa using this⟩⟩⟩
def rk0 : Rk := ⟨⟨false, 0, ⟨#[]⟩⟩, 0⟩
def lstep (t : Int) (L : List Rk) (b : Option Nat) (i : Nat) : Option Nat := match b with
  | none => some i
  | some k => if cmpR t (L.getD i rk0) (L.getD k rk0) < 0 then some i else some k
def leastO (t : Int) (L : List Rk) (k : Nat) : Option Nat := (List.range k).foldl (lstep t L) none
def bestV : Option Nat → Int
  | none => -1
  | some k => (k : Int)
def leastF (t : Int) (L : List Rk) : Int := bestV (leastO t L L.length)
theorem leastO_succ (t : Int) (L : List Rk) (k : Nat) : leastO t L (k + 1) = lstep t L (leastO t L k) k := by unfold leastO; rw [List.range_succ, List.foldl_append]; rfl
theorem cmpR_pre (t : Int) : Pre (cmpR t) := ⟨fun x y => by have := cmpR_neg t x y; omega, fun x y z h1 h2 => cmpR_trans h1 h2⟩
theorem leastO_spec (t : Int) (L : List Rk) : ∀ k, match leastO t L k with
    | none => k = 0
    | some b => b < k ∧ (∀ i, i < k → ¬ cmpR t (L.getD i rk0) (L.getD b rk0) < 0) ∧ ∀ i, i < b → 0 < cmpR t (L.getD i rk0) (L.getD b rk0) := by
  intro k
  induction k with
  | zero => rfl
  | succ k ih =>
    rw [leastO_succ]
    have hp := cmpR_pre t
    have refl : ∀ x, ¬ cmpR t x x < 0 := fun x q => by have := (hp.anti x x).1 q; omega
    cases e : leastO t L k with
    | none =>
      rw [e] at ih
      subst ih
      refine ⟨by omega, fun i hi => ?_, fun i hi => by omega⟩
      obtain rfl : i = 0 := by omega
      exact refl _
    | some b =>
      rw [e] at ih
      obtain ⟨h1, h2, h3⟩ := ih
      unfold lstep
      by_cases q : cmpR t (L.getD k rk0) (L.getD b rk0) < 0
      · dsimp only; rw [if_pos q]
        have key : ∀ i, i < k → 0 < cmpR t (L.getD i rk0) (L.getD k rk0) := fun i hi => by
          have := (hp.nonneg _ _).1 (h2 i hi)
          have := hp.lt_le q this
          exact (hp.anti _ _).1 this
        refine ⟨by omega, fun i hi => ?_, key⟩
        rcases Nat.lt_or_ge i k with r | r
        · have := key i r; omega
        · obtain rfl : i = k := by omega
          exact refl _
      · dsimp only; rw [if_neg q]
        refine ⟨by omega, fun i hi => ?_, h3⟩
        rcases Nat.lt_or_ge i k with r | r
        · exact h2 i r
        · obtain rfl : i = k := by omega
          exact q
set_option maxRecDepth 8000 in
set_option maxHeartbeats 1000000 in
theorem least_any (t : Int) (v : Value) (L : List Rk) (w : World) (h : RksAt w w.heap.size v L) :
    Calls Try.prog 19 #[.int .i64 t, v] w fun e w' => e = .returned (.int .i64 (leastF t L)) ∧ Below w.heap.size w w' := by
  have h63 := h.1
  have HR := Lib.hid h
  obtain ⟨a, c, rfl⟩ := rks_end h
  obtain ⟨N, hN⟩ : ∃ N, L.length = N := ⟨_, rfl⟩
  have HN := Lib.hid hN
  obtain ⟨F, hF⟩ : ∃ F, leastF t L = F := ⟨_, rfl⟩
  have HF := Lib.hid hF
  rw [hF]
  rw [hN] at HR h63 ⊢
  clear h hN hF
  go_enter Try.func19, Try.ntmps19
  go_wp2_with fail
  go_loopg [5, 10] N (fun g bv st wr => ∃ k : Nat, k + g = N ∧ st = .int .i64 (k : Int) ∧ bv = .int .i64 (bestV (leastO t L k)) ∧ ∃ x : Ext w, x.it = wr)
  case atStart => exact ⟨0, by omega, rfl, rfl, ext_of (Below.refl _ _)⟩
  case round =>
    obtain ⟨k, hk, rfl, rfl, x, rfl⟩ := hrel
    have hx := x.below
    by_cases hg0 : gk = 0
    · subst hg0
      obtain rfl : N = k := by omega
      have e : bestV (leastO t L N) = F := by rw [← HF.out]; unfold leastF; rw [HN.out]
      rw [e]
      clear hk
      go_wp2_with fail
      exact bodyPost_ret (v := .int .i64 F) (by simp (maxDischargeDepth := 9) [results, Try.results19, go_sem, *]) rfl ⟨rfl, by repeat (first | with_reducible exact Below.refl _ _ | with_reducible assumption | with_reducible refine Below.al ?_ _ | with_reducible refine Below.on ?_ _ | with_reducible refine Below.st ?_ (by first | assumption | (simp; done) | (simp; omega)) _ | with_reducible refine Below.drew ?_)⟩
    · have hkn : k < N := by omega
      have hkl : k < L.length := by rw [HN.out]; exact hkn
      have hkn' : (k : Int) < (N : Int) := by omega
      obtain ⟨b, o, rfl, hb, hc⟩ := rks_in HR.out (by omega)
      have CC := Lib.hid hc
      obtain ⟨p0, p1, p2, p3⟩ := hc k hkl
      have ek : L.getD k rk0 = L[k]'hkl := by simp [List.getD, List.getElem?_eq_getElem hkl]
      obtain ⟨X, hX⟩ : ∃ X, L[k]'hkl = X := ⟨_, rfl⟩
      rw [hX] at p0 p1 p2 p3 ek
      obtain ⟨⟨xn, xi, xs⟩, xq⟩ := X
      dsimp only at p0 p1 p2 p3
      have f0 := (hx.cell (p := ⟨b, o + k * 4, none⟩) hb).trans p0
      have f1 := (hx.cell (p := ⟨b, o + k * 4 + 1, none⟩) hb).trans p1
      have f2 := (hx.cell (p := ⟨b, o + k * 4 + 2, none⟩) hb).trans p2
      have f3 := (hx.cell (p := ⟨b, o + k * 4 + 3, none⟩) hb).trans p3
      have fz : b < x.it.heap.size := Nat.lt_of_lt_of_le hb hx.size
      have SP := leastO_spec t L k
      have ES := Lib.hid (leastO_succ t L k)
      have GZ := Lib.hid (And.intro hk hg0)
      cases hB : leastO t L k with
      | none =>
        rw [hB] at ES
        have E : Hid (bestV (leastO t L (k + 1)) = (k : Int)) := Lib.hid (by rw [ES.out]; rfl)
        clear hc SP hB p0 p1 p2 p3 hX hk hg0 ek
        clear hkl
        dsimp only [bestV]
        go_upto_region 5 with fail
        refine wp_region_ext (by kernel_rfl) (by kernel_rfl) ?_
        repeat (go_big_quiet_step ((fail)))
        refine wpQuiet_nil ?_
        rintro _ ⟨x2, rfl⟩
        go_wp2_with fail
        go_roundg (gk - 1)
        case measure => have := GZ.out; omega
        case rel => exact ⟨k + 1, by have := GZ.out; omega, by go_num, by rw [E.out], ⟨_, by exact (by repeat (first | with_reducible exact Below.refl _ _ | with_reducible assumption | with_reducible refine Below.al ?_ _ | with_reducible refine Below.on ?_ _ | with_reducible refine Below.st ?_ (by first | assumption | (simp; done) | (simp; omega)) _ | with_reducible refine Below.drew ?_))⟩, rfl⟩
      | some j =>
        rw [hB] at SP ES
        have jk := SP.1
        have hjl : j < L.length := by omega
        obtain ⟨q0, q1, q2, q3⟩ := hc j hjl
        have ej : L.getD j rk0 = L[j]'hjl := by simp [List.getD, List.getElem?_eq_getElem hjl]
        obtain ⟨Y, hY⟩ : ∃ Y, L[j]'hjl = Y := ⟨_, rfl⟩
        rw [hY] at q0 q1 q2 q3 ej
        obtain ⟨⟨yn, yi, ys⟩, yq⟩ := Y
        dsimp only at q0 q1 q2 q3
        have g0 := (hx.cell (p := ⟨b, o + j * 4, none⟩) hb).trans q0
        have g1 := (hx.cell (p := ⟨b, o + j * 4 + 1, none⟩) hb).trans q1
        have g2 := (hx.cell (p := ⟨b, o + j * 4 + 2, none⟩) hb).trans q2
        have g3 := (hx.cell (p := ⟨b, o + j * 4 + 3, none⟩) hb).trans q3
        obtain ⟨D, hD⟩ : ∃ D, cmpR t ⟨⟨xn, xi, xs⟩, xq⟩ ⟨⟨yn, yi, ys⟩, yq⟩ = D := ⟨_, rfl⟩
        have CM := Lib.hid (fun W => (by have z := bcompare_any t xn xi xs xq yn yi ys yq W; rw [hD] at z; exact z : Calls Try.prog 41 #[.int .i64 t, .agg #[.bool xn, .int .i64 xi, .string xs, .int .i64 xq], .agg #[.bool yn, .int .i64 yi, .string ys, .int .i64 yq]] W fun e w' => e = .returned (.int .i64 D) ∧ Below W.heap.size W w'))
        have E : Hid (bestV (leastO t L (k + 1)) = if D < 0 then (k : Int) else (j : Int)) := Lib.hid (by
          rw [ES.out]; unfold lstep; dsimp only; rw [ek, ej, hD]; split <;> rfl)
        have j0 : decide ((j : Int) < 0) = false := by simp
        have jn : (j : Int) < (N : Int) := by omega
        have jn' : j < N := by omega
        clear hc SP hB p0 p1 p2 p3 q0 q1 q2 q3 hX hY hk hg0 ek ej hD
        clear hkl hjl
        dsimp only [bestV]
        go_upto_region 5 with fail
        refine captureM ?_
        intro y ey
        have yb : Below w.heap.size w y := by rw [ey]; exact (by repeat (first | with_reducible exact Below.refl _ _ | with_reducible assumption | with_reducible refine Below.al ?_ _ | with_reducible refine Below.on ?_ _ | with_reducible refine Below.st ?_ (by first | assumption | (simp; done) | (simp; omega)) _ | with_reducible refine Below.drew ?_))
        have y0 : y.cell? ⟨x.it.heap.size, 0, none⟩ = some (.bool xn) := by rw [ey]; simp (maxDischargeDepth := 9) [go_sem, *]
        have y1 : y.cell? ⟨x.it.heap.size, 1, none⟩ = some (.int .i64 xi) := by rw [ey]; simp (maxDischargeDepth := 9) [go_sem, *]
        have y2 : y.cell? ⟨x.it.heap.size, 2, none⟩ = some (.string xs) := by rw [ey]; simp (maxDischargeDepth := 9) [go_sem, *]
        have y3 : y.cell? ⟨x.it.heap.size, 3, none⟩ = some (.int .i64 xq) := by rw [ey]; simp (maxDischargeDepth := 9) [go_sem, *]
        have yx : Below x.it.heap.size x.it y := by rw [ey]; exact (by repeat (first | with_reducible exact Below.refl _ _ | with_reducible assumption | with_reducible refine Below.al ?_ _ | with_reducible refine Below.on ?_ _ | with_reducible refine Below.st ?_ (by first | assumption | (simp; done) | (simp; omega)) _ | with_reducible refine Below.drew ?_))
        have yz : x.it.heap.size < y.heap.size := by rw [ey]; simp
        have h0 := (yx.cell (p := ⟨b, o + j * 4, none⟩) fz).trans g0
        have h1 := (yx.cell (p := ⟨b, o + j * 4 + 1, none⟩) fz).trans g1
        have h2 := (yx.cell (p := ⟨b, o + j * 4 + 2, none⟩) fz).trans g2
        have h3 := (yx.cell (p := ⟨b, o + j * 4 + 3, none⟩) fz).trans g3
        have hz : b < y.heap.size := Nat.lt_of_lt_of_le fz yx.size
        have YB := Lib.hid yb
        clear ey g0 g1 g2 g3 f0 f1 f2 f3 yx yb
        refine wp_region_ext (by kernel_rfl) (by kernel_rfl) ?_
        repeat (go_big_quiet_step (((go_at_call 41; exact Calls.ext (CM.out _)))))
        refine wpQuiet_nil ?_
        rintro _ ⟨x2, rfl⟩
        have yb := YB.out
        by_cases d : D < 0
        · rw [if_pos d] at E
          go_wp2_with fail
          go_roundg (gk - 1)
          case measure => have := GZ.out; omega
          case rel => exact ⟨k + 1, by have := GZ.out; omega, by go_num, by rw [E.out], ⟨_, by exact (by repeat (first | with_reducible exact Below.refl _ _ | with_reducible assumption | with_reducible refine Below.al ?_ _ | with_reducible refine Below.on ?_ _ | with_reducible refine Below.st ?_ (by first | assumption | (simp; done) | (simp; omega)) _ | with_reducible refine Below.drew ?_))⟩, rfl⟩
        · rw [if_neg d] at E
          go_wp2_with fail
          go_roundg (gk - 1)
          case measure => have := GZ.out; omega
          case rel => exact ⟨k + 1, by have := GZ.out; omega, by go_num, by rw [E.out], ⟨_, by exact (by repeat (first | with_reducible exact Below.refl _ _ | with_reducible assumption | with_reducible refine Below.al ?_ _ | with_reducible refine Below.on ?_ _ | with_reducible refine Below.st ?_ (by first | assumption | (simp; done) | (simp; omega)) _ | with_reducible refine Below.drew ?_))⟩, rfl⟩
set_option maxRecDepth 8000 in
set_option maxHeartbeats 1000000 in
theorem refLeast_any (t : Int) (v : Value) (L : List Rk) (w : World) (h : RksAt w w.heap.size v L) :
    Calls Try.prog 21 #[.int .i64 t, v] w fun e w' => e = .returned (.int .i64 (leastF t L)) ∧ Below w.heap.size w w' := by
  have h63 := h.1
  have HR := Lib.hid h
  obtain ⟨a, c, rfl⟩ := rks_end h
  obtain ⟨N, hN⟩ : ∃ N, L.length = N := ⟨_, rfl⟩
  have HN := Lib.hid hN
  obtain ⟨F, hF⟩ : ∃ F, leastF t L = F := ⟨_, rfl⟩
  have HF := Lib.hid hF
  rw [hF]
  rw [hN] at HR h63 ⊢
  clear h hN hF
  go_enter Try.func21, Try.ntmps21
  go_wp2_with fail
  go_loopg [5, 10] N (fun g bv st wr => ∃ k : Nat, k + g = N ∧ st = .int .i64 (k : Int) ∧ bv = .int .i64 (bestV (leastO t L k)) ∧ ∃ x : Ext w, x.it = wr)
  case atStart => exact ⟨0, by omega, rfl, rfl, ext_of (Below.refl _ _)⟩
  case round =>
    obtain ⟨k, hk, rfl, rfl, x, rfl⟩ := hrel
    have hx := x.below
    by_cases hg0 : gk = 0
    · subst hg0
      obtain rfl : N = k := by omega
      have e : bestV (leastO t L N) = F := by rw [← HF.out]; unfold leastF; rw [HN.out]
      rw [e]
      clear hk
      go_wp2_with fail
      exact bodyPost_ret (v := .int .i64 F) (by simp (maxDischargeDepth := 9) [results, Try.results21, go_sem, *]) rfl ⟨rfl, by repeat (first | with_reducible exact Below.refl _ _ | with_reducible assumption | with_reducible refine Below.al ?_ _ | with_reducible refine Below.on ?_ _ | with_reducible refine Below.st ?_ (by first | assumption | (simp; done) | (simp; omega)) _ | with_reducible refine Below.drew ?_)⟩
    · have hkn : k < N := by omega
      have hkl : k < L.length := by rw [HN.out]; exact hkn
      have hkn' : (k : Int) < (N : Int) := by omega
      obtain ⟨b, o, rfl, hb, hc⟩ := rks_in HR.out (by omega)
      have CC := Lib.hid hc
      obtain ⟨p0, p1, p2, p3⟩ := hc k hkl
      have ek : L.getD k rk0 = L[k]'hkl := by simp [List.getD, List.getElem?_eq_getElem hkl]
      obtain ⟨X, hX⟩ : ∃ X, L[k]'hkl = X := ⟨_, rfl⟩
      rw [hX] at p0 p1 p2 p3 ek
      obtain ⟨⟨xn, xi, xs⟩, xq⟩ := X
      dsimp only at p0 p1 p2 p3
      have f0 := (hx.cell (p := ⟨b, o + k * 4, none⟩) hb).trans p0
      have f1 := (hx.cell (p := ⟨b, o + k * 4 + 1, none⟩) hb).trans p1
      have f2 := (hx.cell (p := ⟨b, o + k * 4 + 2, none⟩) hb).trans p2
      have f3 := (hx.cell (p := ⟨b, o + k * 4 + 3, none⟩) hb).trans p3
      have fz : b < x.it.heap.size := Nat.lt_of_lt_of_le hb hx.size
      have SP := leastO_spec t L k
      have ES := Lib.hid (leastO_succ t L k)
      have GZ := Lib.hid (And.intro hk hg0)
      cases hB : leastO t L k with
      | none =>
        rw [hB] at ES
        have E : Hid (bestV (leastO t L (k + 1)) = (k : Int)) := Lib.hid (by rw [ES.out]; rfl)
        clear hc SP hB p0 p1 p2 p3 hX hk hg0 ek
        clear hkl
        dsimp only [bestV]
        go_upto_region 5 with fail
        refine wp_region_ext (by kernel_rfl) (by kernel_rfl) ?_
        repeat (go_big_quiet_step ((fail)))
        refine wpQuiet_nil ?_
        rintro _ ⟨x2, rfl⟩
        go_wp2_with fail
        go_roundg (gk - 1)
        case measure => have := GZ.out; omega
        case rel => exact ⟨k + 1, by have := GZ.out; omega, by go_num, by rw [E.out], ⟨_, by exact (by repeat (first | with_reducible exact Below.refl _ _ | with_reducible assumption | with_reducible refine Below.al ?_ _ | with_reducible refine Below.on ?_ _ | with_reducible refine Below.st ?_ (by first | assumption | (simp; done) | (simp; omega)) _ | with_reducible refine Below.drew ?_))⟩, rfl⟩
      | some j =>
        rw [hB] at SP ES
        have jk := SP.1
        have hjl : j < L.length := by omega
        obtain ⟨q0, q1, q2, q3⟩ := hc j hjl
        have ej : L.getD j rk0 = L[j]'hjl := by simp [List.getD, List.getElem?_eq_getElem hjl]
        obtain ⟨Y, hY⟩ : ∃ Y, L[j]'hjl = Y := ⟨_, rfl⟩
        rw [hY] at q0 q1 q2 q3 ej
        obtain ⟨⟨yn, yi, ys⟩, yq⟩ := Y
        dsimp only at q0 q1 q2 q3
        have g0 := (hx.cell (p := ⟨b, o + j * 4, none⟩) hb).trans q0
        have g1 := (hx.cell (p := ⟨b, o + j * 4 + 1, none⟩) hb).trans q1
        have g2 := (hx.cell (p := ⟨b, o + j * 4 + 2, none⟩) hb).trans q2
        have g3 := (hx.cell (p := ⟨b, o + j * 4 + 3, none⟩) hb).trans q3
        obtain ⟨D, hD⟩ : ∃ D, cmpR t ⟨⟨xn, xi, xs⟩, xq⟩ ⟨⟨yn, yi, ys⟩, yq⟩ = D := ⟨_, rfl⟩
        have CM := Lib.hid (fun W => (by have z := refCompareR_any t xn xi xs xq yn yi ys yq W; rw [hD] at z; exact z : Calls Try.prog 20 #[.int .i64 t, .agg #[.bool xn, .int .i64 xi, .string xs, .int .i64 xq], .agg #[.bool yn, .int .i64 yi, .string ys, .int .i64 yq]] W fun e w' => e = .returned (.int .i64 D) ∧ Below W.heap.size W w'))
        have E : Hid (bestV (leastO t L (k + 1)) = if D < 0 then (k : Int) else (j : Int)) := Lib.hid (by
          rw [ES.out]; unfold lstep; dsimp only; rw [ek, ej, hD]; split <;> rfl)
        have j0 : decide ((j : Int) < 0) = false := by simp
        have jn : (j : Int) < (N : Int) := by omega
        have jn' : j < N := by omega
        clear hc SP hB p0 p1 p2 p3 q0 q1 q2 q3 hX hY hk hg0 ek ej hD
        clear hkl hjl
        dsimp only [bestV]
        go_upto_region 5 with fail
        refine captureM ?_
        intro y ey
        have yb : Below w.heap.size w y := by rw [ey]; exact (by repeat (first | with_reducible exact Below.refl _ _ | with_reducible assumption | with_reducible refine Below.al ?_ _ | with_reducible refine Below.on ?_ _ | with_reducible refine Below.st ?_ (by first | assumption | (simp; done) | (simp; omega)) _ | with_reducible refine Below.drew ?_))
        have y0 : y.cell? ⟨x.it.heap.size, 0, none⟩ = some (.bool xn) := by rw [ey]; simp (maxDischargeDepth := 9) [go_sem, *]
        have y1 : y.cell? ⟨x.it.heap.size, 1, none⟩ = some (.int .i64 xi) := by rw [ey]; simp (maxDischargeDepth := 9) [go_sem, *]
        have y2 : y.cell? ⟨x.it.heap.size, 2, none⟩ = some (.string xs) := by rw [ey]; simp (maxDischargeDepth := 9) [go_sem, *]
        have y3 : y.cell? ⟨x.it.heap.size, 3, none⟩ = some (.int .i64 xq) := by rw [ey]; simp (maxDischargeDepth := 9) [go_sem, *]
        have yx : Below x.it.heap.size x.it y := by rw [ey]; exact (by repeat (first | with_reducible exact Below.refl _ _ | with_reducible assumption | with_reducible refine Below.al ?_ _ | with_reducible refine Below.on ?_ _ | with_reducible refine Below.st ?_ (by first | assumption | (simp; done) | (simp; omega)) _ | with_reducible refine Below.drew ?_))
        have yz : x.it.heap.size < y.heap.size := by rw [ey]; simp
        have h0 := (yx.cell (p := ⟨b, o + j * 4, none⟩) fz).trans g0
        have h1 := (yx.cell (p := ⟨b, o + j * 4 + 1, none⟩) fz).trans g1
        have h2 := (yx.cell (p := ⟨b, o + j * 4 + 2, none⟩) fz).trans g2
        have h3 := (yx.cell (p := ⟨b, o + j * 4 + 3, none⟩) fz).trans g3
        have hz : b < y.heap.size := Nat.lt_of_lt_of_le fz yx.size
        have YB := Lib.hid yb
        clear ey g0 g1 g2 g3 f0 f1 f2 f3 yx yb
        refine wp_region_ext (by kernel_rfl) (by kernel_rfl) ?_
        repeat (go_big_quiet_step (((go_at_call 20; exact Calls.ext (CM.out _)))))
        refine wpQuiet_nil ?_
        rintro _ ⟨x2, rfl⟩
        have yb := YB.out
        by_cases d : D < 0
        · rw [if_pos d] at E
          go_wp2_with fail
          go_roundg (gk - 1)
          case measure => have := GZ.out; omega
          case rel => exact ⟨k + 1, by have := GZ.out; omega, by go_num, by rw [E.out], ⟨_, by exact (by repeat (first | with_reducible exact Below.refl _ _ | with_reducible assumption | with_reducible refine Below.al ?_ _ | with_reducible refine Below.on ?_ _ | with_reducible refine Below.st ?_ (by first | assumption | (simp; done) | (simp; omega)) _ | with_reducible refine Below.drew ?_))⟩, rfl⟩
        · rw [if_neg d] at E
          go_wp2_with fail
          go_roundg (gk - 1)
          case measure => have := GZ.out; omega
          case rel => exact ⟨k + 1, by have := GZ.out; omega, by go_num, by rw [E.out], ⟨_, by exact (by repeat (first | with_reducible exact Below.refl _ _ | with_reducible assumption | with_reducible refine Below.al ?_ _ | with_reducible refine Below.on ?_ _ | with_reducible refine Below.st ?_ (by first | assumption | (simp; done) | (simp; omega)) _ | with_reducible refine Below.drew ?_))⟩, rfl⟩
end Go.Proofs.Ytgooffpmiilicaa
