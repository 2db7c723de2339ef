/-
  ROWS: the reference's CheckRow ('rowE') and Eval of whatever row and predicate. Conditions: all lie in memory as 'ColsAt', 'NodsAt', 'ValsAt' say.
-/
import Derived.Test.YtkblkjfejaflkaaKrs
set_option linter.unusedVariables false
set_option linter.unusedSimpArgs false
namespace Go.Proofs.Ytkblkjfejaflkaa
open Go.RowKit
def rowEs : List Col → List Val → Int
  | c :: cs, v :: vs => if vchk c.ty c.nul v.null v.n v.s = 0 then rowEs cs vs else vchk c.ty c.nul v.null v.n v.s
  | _, _ => 0
def rowE (cs : List Col) (row : List Val) : Int := if row.length = cs.length then rowEs cs row else 1
theorem rowEs_ok {cs : List Col} {row : List Val} {k : Nat} (h : k < cs.length) (h' : k < row.length) (h0 : vchk (cs[k]'h).ty (cs[k]'h).nul (row[k]'(h')).null (row[k]'(h')).n (row[k]'(h')).s = 0) : rowEs (cs.drop k) (row.drop k) = rowEs (cs.drop (k + 1)) (row.drop (k + 1)) := by
  rw [List.drop_eq_getElem_cons h, List.drop_eq_getElem_cons h']
  simp only [rowEs]
  rw [if_pos h0]
theorem rowEs_bad {cs : List Col} {row : List Val} {k : Nat} (h : k < cs.length) (h' : k < row.length) (h0 : ¬ vchk (cs[k]'h).ty (cs[k]'h).nul (row[k]'(h')).null (row[k]'(h')).n (row[k]'(h')).s = 0) : rowEs (cs.drop k) (row.drop k) = vchk (cs[k]'h).ty (cs[k]'h).nul (row[k]'(h')).null (row[k]'(h')).n (row[k]'(h')).s := by
  rw [List.drop_eq_getElem_cons h, List.drop_eq_getElem_cons h']
  simp only [rowEs]
  rw [if_neg h0]
set_option maxRecDepth 8000 in
set_option maxHeartbeats 4000000 in
theorem checkRow_any (cv : Value) (cs : List Col) (key : Int) (rv : Value) (row : List Val) (w : World) (hc : ColsAt w w.heap.size cv cs) (hr : ValsAt w w.heap.size rv row) :
    Calls Try.prog 56 #[.agg #[cv, .int .i64 key], rv] w fun e w' => e = .returned (.int .i64 (rowE cs row)) ∧ Below w.heap.size w w' := by
  obtain ⟨ca, cc, rfl⟩ := cols_end hc
  obtain ⟨ra, rc, rfl⟩ := vals_end hr
  obtain ⟨nc, hl⟩ : ∃ nc, cs.length = nc := ⟨_, rfl⟩
  obtain ⟨m, hm⟩ : ∃ m, row.length = m := ⟨_, rfl⟩
  have h63 := hr.1
  have HC : Hid (ColsAt w w.heap.size (.slice ca nc cc) cs) := Lib.hid (by rw [← hl]; exact hc)
  have HRW : Hid (ValsAt w w.heap.size (.slice ra m rc) row) := Lib.hid (by rw [← hm]; exact hr)
  have HM := Lib.hid hm
  have HL := Lib.hid hl
  rw [hl, hm]
  rw [hm] at h63
  obtain ⟨R, hR⟩ : ∃ R, rowE cs row = R := ⟨_, rfl⟩
  rw [hR]
  have HR := Lib.hid hR
  clear hc hr hl hm hR
  by_cases hne : m = nc
  · have hne' : ((m : Int) != (nc : Int)) = false := by simp; omega
    subst hne
    have HE : Hid (rowEs cs row = R) := Lib.hid (by rw [← HR.out]; unfold rowE; rw [if_pos (by rw [HM.out, HL.out])])
    clear HR
    go_enter Try.func56, Try.ntmps56
    go_upto_region 3 with fail
    refine captureP ?_
    intro y ey
    have yb : Below w.heap.size w y.it := by rw [ey]; exact (by repeat (first | with_reducible exact Below.refl _ _ | with_reducible assumption | with_reducible refine Below.al ?_ _ | with_reducible refine Below.on ?_ _ | with_reducible refine Below.st ?_ (by first | assumption | (simp; done) | (simp; omega)) _ | with_reducible refine Below.drew ?_))
    have y0 : y.it.cell? ⟨w.heap.size, 0, none⟩ = some (.slice ca m cc) := by rw [ey]; simp (maxDischargeDepth := 9) [go_sem, *]
    have yz : w.heap.size < y.it.heap.size := by rw [ey]; simp
    clear ey
    go_wp2_with fail
    go_loopg [16] m (fun g st wr => ∃ k : Nat, k + g = m ∧ st = .int .i64 (k : Int) ∧ rowEs (cs.drop k) (row.drop k) = R ∧ ∃ x : Ext y.it, x.it = wr)
    case atStart => exact ⟨0, by omega, rfl, by simpa using HE.out, ext_of (Below.refl _ _)⟩
    case round =>
      obtain ⟨k, hk, rfl, hF, x, rfl⟩ := hrel
      clear HE
      have hx := Below.on yb x
      have s0 := (x.cell w.heap.size 0 yz).trans y0
      have zw := x.lt yz
      by_cases hg0 : gk = 0
      · subst hg0
        obtain rfl : k = m := by omega
        obtain rfl : 0 = R := by rw [← hF, List.drop_of_length_le (by rw [HL.out]; exact Nat.le_refl _)]; rfl
        clear hF hk
        go_wp2
        exact bodyPost_ret (v := .int .i64 0) (by simp [results, Try.results56, go_sem, *]) rfl (⟨rfl, by repeat (first | with_reducible exact Below.refl _ _ | with_reducible assumption | with_reducible refine Below.al ?_ _ | with_reducible refine Below.on ?_ _ | with_reducible refine Below.st ?_ (by first | assumption | (simp; done) | (simp; omega)) _ | with_reducible refine Below.drew ?_)⟩)
      · have hkm : k < m := by omega
        have hkm' : (k : Int) < (m : Int) := by omega
        have hkc : k < cs.length := by rw [HL.out]; exact hkm
        have hkr : k < row.length := by rw [HM.out]; exact hkm
        obtain ⟨cb, co, rfl, _, hcb, c0, c1, c2, c3⟩ := cols_in HC.out hkc
        obtain ⟨rb, ro, rfl, _, hrb, e0, e1, e2⟩ := vals_in HRW.out hkr
        have OKL := rowEs_ok hkc hkr
        have BDL := rowEs_bad hkc hkr
        obtain ⟨d, hd⟩ : ∃ d, cs[k]'hkc = d := ⟨_, rfl⟩
        obtain ⟨u, hu⟩ : ∃ u, row[k]'hkr = u := ⟨_, rfl⟩
        rw [hd] at OKL BDL c0 c1 c2 c3
        rw [hu] at OKL BDL e0 e1 e2
        rw [hF] at OKL BDL
        obtain ⟨cn, ty, sc, nul⟩ := d
        obtain ⟨un, ui, us⟩ := u
        dsimp only at OKL BDL c0 c1 c2 c3 e0 e1 e2
        have f0 := (hx.cell (p := ⟨cb, co + k * 4, none⟩) hcb).trans c0
        have f1 := (hx.cell (p := ⟨cb, co + k * 4 + 1, none⟩) hcb).trans c1
        have f2 := (hx.cell (p := ⟨cb, co + k * 4 + 2, none⟩) hcb).trans c2
        have f3 := (hx.cell (p := ⟨cb, co + k * 4 + 3, none⟩) hcb).trans c3
        have g0 := (hx.cell (p := ⟨rb, ro + k * 3, none⟩) hrb).trans e0
        have g1 := (hx.cell (p := ⟨rb, ro + k * 3 + 1, none⟩) hrb).trans e1
        have g2 := (hx.cell (p := ⟨rb, ro + k * 3 + 2, none⟩) hrb).trans e2
        have zc : cb < x.it.heap.size := Nat.lt_of_lt_of_le hcb hx.size
        have zr : rb < x.it.heap.size := Nat.lt_of_lt_of_le hrb hx.size
        have HK := Lib.hid (And.intro hk hg0)
        obtain ⟨ve, hve⟩ : ∃ ve, vchk ty nul un ui us = ve := ⟨_, rfl⟩
        rw [hve] at OKL BDL
        have RV := Lib.hid (fun W => (by have h := refVcheck_any cn ty sc nul un ui us W; rw [hve] at h; exact h : Calls Try.prog 72 #[.agg #[.string cn, .int .i64 ty, .int .i64 sc, .bool nul], .agg #[.bool un, .int .i64 ui, .string us]] W fun e w' => e = .returned (.int .i64 ve) ∧ Below W.heap.size W w'))
        clear c0 c1 c2 c3 e0 e1 e2 hd hu hk hg0 hF hve
        go_upto_region 6 with fail
        refine wp_region_ext (by kernel_rfl) (by kernel_rfl) ?_
        repeat (go_big_quiet_step (((go_at_call 72; exact Calls.ext (RV.out _)))))
        refine wpQuiet_nil ?_
        rintro _ ⟨x5, rfl⟩
        by_cases v0 : ve = 0
        · have v0' : (ve != 0) = false := by simpa using v0
          have OK := Lib.hid (OKL v0)
          clear OKL BDL
          go_wp2
          go_roundg (gk - 1)
          case measure => have := HK.out; omega
          case rel => exact ⟨k + 1, by have := HK.out; omega, by go_num, OK.out.symm, ext_of (Below.on (Below.al x.below _) x5)⟩
        · have v0' : (ve != 0) = true := by simpa using v0
          obtain rfl : ve = R := (BDL v0).symm
          clear OKL BDL
          go_wp2
          exact bodyPost_ret (v := .int .i64 ve) (by simp [results, Try.results56, go_sem, *]) rfl (⟨rfl, by repeat (first | with_reducible exact Below.refl _ _ | with_reducible assumption | with_reducible refine Below.al ?_ _ | with_reducible refine Below.on ?_ _ | with_reducible refine Below.st ?_ (by first | assumption | (simp; done) | (simp; omega)) _ | with_reducible refine Below.drew ?_)⟩)
  · have hne' : ((m : Int) != (nc : Int)) = true := by simp; omega
    obtain rfl : 1 = R := by rw [← HR.out]; unfold rowE; rw [if_neg (by rw [HM.out, HL.out]; exact hne)]
    clear HR hne
    go_enter Try.func56, Try.ntmps56
    go_wp2
    exact bodyPost_ret (v := .int .i64 1) (by simp [results, Try.results56, go_sem, *]) rfl (⟨rfl, by repeat (first | with_reducible exact Below.refl _ _ | with_reducible assumption | with_reducible refine Below.al ?_ _ | with_reducible refine Below.on ?_ _ | with_reducible refine Below.st ?_ (by first | assumption | (simp; done) | (simp; omega)) _ | with_reducible refine Below.drew ?_)⟩)
theorem rowEs_pre : ∀ {cs : List Col} {row : List Val}, (∀ j (h : j < cs.length) (h' : j < row.length), vchk (cs[j]'h).ty (cs[j]'h).nul (row[j]'(h')).null (row[j]'(h')).n (row[j]'(h')).s = 0) → rowEs cs row = 0
  | [], _, _ => rfl
  | _ :: _, [], _ => rfl
  | c :: cs, v :: vs, h => by
    simp only [rowEs]
    have h0 := h 0 (by simp) (by simp)
    simp only [List.getElem_cons_zero] at h0
    rw [if_pos h0]
    exact rowEs_pre fun j hj hj' => h (j + 1) (by simpa using hj) (by simpa using hj')
end Go.Proofs.Ytkblkjfejaflkaa
