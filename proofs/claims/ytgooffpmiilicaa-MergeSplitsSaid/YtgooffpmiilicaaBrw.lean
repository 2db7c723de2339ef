/-
  ROWS: batch.row, batch.Check and the reference's CheckBatch ('rowE', 'batchE'). Conditions: schema and rows lie in memory as 'ColsAt', 'RowsAt' say.
-/
import Derived.Test.YtgooffpmiilicaaCkr
import Derived.Test.YtgooffpmiilicaaSc2
set_option linter.unusedVariables false
set_option linter.unusedSimpArgs false
namespace Go.Proofs.Ytgooffpmiilicaa
open Go.RowKit
set_option maxRecDepth 8000 in
set_option maxHeartbeats 4000000 in
theorem brow_any (cv : Value) (cs : List Col) (key : Int) (rv : Value) (row : List Val) (w : World) (hc : ColsAt w w.heap.size cv cs) (hr : ValsAt w w.heap.size rv row) :
    Calls Try.prog 65 #[.agg #[cv, .int .i64 key], rv] w fun e w' => e = .returned (.int .i64 (rowE cs row)) ∧ Below w.heap.size w w' := by
  obtain ⟨ca, cc, rfl⟩ := cols_end hc
  obtain ⟨ra, rc, rfl⟩ := vals_end hr
  obtain ⟨nc, hl⟩ : ∃ nc, cs.length = nc := ⟨_, rfl⟩
  obtain ⟨m, hm⟩ : ∃ m, row.length = m := ⟨_, rfl⟩
  have h63 := hr.1
  have HC : Hid (ColsAt w w.heap.size (.slice ca nc cc) cs) := Lib.hid (by rw [← hl]; exact hc)
  have HRW : Hid (ValsAt w w.heap.size (.slice ra m rc) row) := Lib.hid (by rw [← hm]; exact hr)
  have HM := Lib.hid hm
  have HL := Lib.hid hl
  rw [hl, hm]
  rw [hm] at h63
  obtain ⟨R, hR⟩ : ∃ R, rowE cs row = R := ⟨_, rfl⟩
  rw [hR]
  have HR := Lib.hid hR
  clear hc hr hl hm hR
  by_cases hne : m = nc
  · have hne' : ((m : Int) != (nc : Int)) = false := by simp; omega
    subst hne
    have HE : Hid (rowEs cs row = R) := Lib.hid (by rw [← HR.out]; unfold rowE; rw [if_pos (by rw [HM.out, HL.out])])
    clear HR
    go_enter Try.func65, Try.ntmps65
    go_upto_region 3 with fail
    refine captureP ?_
    intro y ey
    have yb : Below w.heap.size w y.it := by rw [ey]; exact (by repeat (first | with_reducible exact Below.refl _ _ | with_reducible assumption | with_reducible refine Below.al ?_ _ | with_reducible refine Below.on ?_ _ | with_reducible refine Below.st ?_ (by first | assumption | (simp; done) | (simp; omega)) _ | with_reducible refine Below.drew ?_))
    have y0 : y.it.cell? ⟨w.heap.size, 0, none⟩ = some (.slice ca m cc) := by rw [ey]; simp (maxDischargeDepth := 9) [go_sem, *]
    have yz : w.heap.size < y.it.heap.size := by rw [ey]; simp
    clear ey
    go_wp2_with fail
    go_loopg [16] m (fun g st wr => ∃ k : Nat, k + g = m ∧ st = .int .i64 (k : Int) ∧ rowEs (cs.drop k) (row.drop k) = R ∧ ∃ x : Ext y.it, x.it = wr)
    case atStart => exact ⟨0, by omega, rfl, by simpa using HE.out, ext_of (Below.refl _ _)⟩
    case round =>
      obtain ⟨k, hk, rfl, hF, x, rfl⟩ := hrel
      clear HE
      have hx := Below.on yb x
      have s0 := (x.cell w.heap.size 0 yz).trans y0
      have zw := x.lt yz
      by_cases hg0 : gk = 0
      · subst hg0
        obtain rfl : k = m := by omega
        obtain rfl : 0 = R := by rw [← hF, List.drop_of_length_le (by rw [HL.out]; exact Nat.le_refl _)]; rfl
        clear hF hk
        go_wp2
        exact bodyPost_ret (v := .int .i64 0) (by simp [results, Try.results65, go_sem, *]) rfl (⟨rfl, by repeat (first | with_reducible exact Below.refl _ _ | with_reducible assumption | with_reducible refine Below.al ?_ _ | with_reducible refine Below.on ?_ _ | with_reducible refine Below.st ?_ (by first | assumption | (simp; done) | (simp; omega)) _ | with_reducible refine Below.drew ?_)⟩)
      · have hkm : k < m := by omega
        have hkm' : (k : Int) < (m : Int) := by omega
        have hkc : k < cs.length := by rw [HL.out]; exact hkm
        have hkr : k < row.length := by rw [HM.out]; exact hkm
        obtain ⟨cb, co, rfl, _, hcb, c0, c1, c2, c3⟩ := cols_in HC.out hkc
        obtain ⟨rb, ro, rfl, _, hrb, e0, e1, e2⟩ := vals_in HRW.out hkr
        have OKL := rowEs_ok hkc hkr
        have BDL := rowEs_bad hkc hkr
        obtain ⟨d, hd⟩ : ∃ d, cs[k]'hkc = d := ⟨_, rfl⟩
        obtain ⟨u, hu⟩ : ∃ u, row[k]'hkr = u := ⟨_, rfl⟩
        rw [hd] at OKL BDL c0 c1 c2 c3
        rw [hu] at OKL BDL e0 e1 e2
        rw [hF] at OKL BDL
        obtain ⟨cn, ty, sc, nul⟩ := d
        obtain ⟨un, ui, us⟩ := u
        dsimp only at OKL BDL c0 c1 c2 c3 e0 e1 e2
        have f0 := (hx.cell (p := ⟨cb, co + k * 4, none⟩) hcb).trans c0
        have f1 := (hx.cell (p := ⟨cb, co + k * 4 + 1, none⟩) hcb).trans c1
        have f2 := (hx.cell (p := ⟨cb, co + k * 4 + 2, none⟩) hcb).trans c2
        have f3 := (hx.cell (p := ⟨cb, co + k * 4 + 3, none⟩) hcb).trans c3
        have g0 := (hx.cell (p := ⟨rb, ro + k * 3, none⟩) hrb).trans e0
        have g1 := (hx.cell (p := ⟨rb, ro + k * 3 + 1, none⟩) hrb).trans e1
        have g2 := (hx.cell (p := ⟨rb, ro + k * 3 + 2, none⟩) hrb).trans e2
        have zc : cb < x.it.heap.size := Nat.lt_of_lt_of_le hcb hx.size
        have zr : rb < x.it.heap.size := Nat.lt_of_lt_of_le hrb hx.size
        have HK := Lib.hid (And.intro hk hg0)
        obtain ⟨ve, hve⟩ : ∃ ve, vchk ty nul un ui us = ve := ⟨_, rfl⟩
        rw [hve] at OKL BDL
        have RV := Lib.hid (fun W => (by have h := vcheck_any cn ty sc nul un ui us W; rw [hve] at h; exact h : Calls Try.prog 73 #[.agg #[.string cn, .int .i64 ty, .int .i64 sc, .bool nul], .agg #[.bool un, .int .i64 ui, .string us]] W fun e w' => e = .returned (.int .i64 ve) ∧ Below W.heap.size W w'))
        clear c0 c1 c2 c3 e0 e1 e2 hd hu hk hg0 hF hve
        go_upto_region 6 with fail
        refine wp_region_ext (by kernel_rfl) (by kernel_rfl) ?_
        repeat (go_big_quiet_step (((go_at_call 73; exact Calls.ext (RV.out _)))))
        refine wpQuiet_nil ?_
        rintro _ ⟨x5, rfl⟩
        by_cases v0 : ve = 0
        · have v0' : (ve != 0) = false := by simpa using v0
          have OK := Lib.hid (OKL v0)
          clear OKL BDL
          go_wp2
          go_roundg (gk - 1)
          case measure => have := HK.out; omega
          case rel => exact ⟨k + 1, by have := HK.out; omega, by go_num, OK.out.symm, ext_of (Below.on (Below.al x.below _) x5)⟩
        · have v0' : (ve != 0) = true := by simpa using v0
          obtain rfl : ve = R := (BDL v0).symm
          clear OKL BDL
          go_wp2
          exact bodyPost_ret (v := .int .i64 ve) (by simp [results, Try.results65, go_sem, *]) rfl (⟨rfl, by repeat (first | with_reducible exact Below.refl _ _ | with_reducible assumption | with_reducible refine Below.al ?_ _ | with_reducible refine Below.on ?_ _ | with_reducible refine Below.st ?_ (by first | assumption | (simp; done) | (simp; omega)) _ | with_reducible refine Below.drew ?_)⟩)
  · have hne' : ((m : Int) != (nc : Int)) = true := by simp; omega
    obtain rfl : 1 = R := by rw [← HR.out]; unfold rowE; rw [if_neg (by rw [HM.out, HL.out]; exact hne)]
    clear HR hne
    go_enter Try.func65, Try.ntmps65
    go_wp2
    exact bodyPost_ret (v := .int .i64 1) (by simp [results, Try.results65, go_sem, *]) rfl (⟨rfl, by repeat (first | with_reducible exact Below.refl _ _ | with_reducible assumption | with_reducible refine Below.al ?_ _ | with_reducible refine Below.on ?_ _ | with_reducible refine Below.st ?_ (by first | assumption | (simp; done) | (simp; omega)) _ | with_reducible refine Below.drew ?_)⟩)
end Go.Proofs.Ytgooffpmiilicaa
