/-
  CHAPTER 26: Brw, Bck, Cmm (several texts in one). Conditions: each theorem states its own.
-/
import Derived.Test.YtpahoenanfjhpaaGreatZf
import Derived.Test.YtpahoenanfjhpaaGreatSc2z
import Derived.Test.YtpahoenanfjhpaaGreatZd
set_option linter.unusedVariables false
set_option linter.unusedSimpArgs false
namespace Go.Proofs.YtpahoenanfjhpaaGreat
open Go.RowKit
set_option maxRecDepth 8000 in
set_option maxHeartbeats 4000000 in
theorem brow_any (cv : Value) (cs : List Col) (key : Int) (rv : Value) (row : List Val) (w : World) (hc : ColsAt w w.heap.size cv cs) (hr : ValsAt w w.heap.size rv row) :
    Calls Tryz.prog 57 #[.agg #[cv, .int .i64 key], rv] w fun e w' => e = .returned (.int .i64 (rowE cs row)) ∧ Below w.heap.size w w' := by
  obtain ⟨ca, cc, rfl⟩ := cols_end hc
  obtain ⟨ra, rc, rfl⟩ := vals_end hr
  obtain ⟨nc, hl⟩ : ∃ nc, cs.length = nc := ⟨_, rfl⟩
  obtain ⟨m, hm⟩ : ∃ m, row.length = m := ⟨_, rfl⟩
  have h63 := hr.1
  have HC : Hid (ColsAt w w.heap.size (.slice ca nc cc) cs) := Lib.hid (by rw [← hl]; exact hc)
  have HRW : Hid (ValsAt w w.heap.size (.slice ra m rc) row) := Lib.hid (by rw [← hm]; exact hr)
  have HM := Lib.hid hm
  have HL := Lib.hid hl
  rw [hl, hm]
  rw [hm] at h63
  obtain ⟨R, hR⟩ : ∃ R, rowE cs row = R := ⟨_, rfl⟩
  rw [hR]
  have HR := Lib.hid hR
  clear hc hr hl hm hR
  by_cases hne : m = nc
  · have hne' : ((m : Int) != (nc : Int)) = false := by simp; omega
    subst hne
    have HE : Hid (rowEs cs row = R) := Lib.hid (by rw [← HR.out]; unfold rowE; rw [if_pos (by rw [HM.out, HL.out])])
    clear HR
    go_enter Tryz.func57, Tryz.ntmps57
    go_upto_region 3 with fail
    refine captureP ?_
    intro y ey
    have yb : Below w.heap.size w y.it := by rw [ey]; exact (by with_reducible repeat (first | exact Below.refl _ _ | assumption | refine Below.al ?_ _ | refine Below.on ?_ _ | refine Below.st ?_ (by first | assumption | (simp; done) | (simp; omega)) _ | refine Below.drew ?_))
    have y0 : y.it.cell? ⟨w.heap.size, 0, none⟩ = some (.slice ca m cc) := by rw [ey]; simp (maxDischargeDepth := 9) [go_sem, *]
    have yz : w.heap.size < y.it.heap.size := by rw [ey]; simp
    clear ey
    go_wp2_with fail
    go_loopg [16] m (fun g st wr => ∃ k : Nat, k + g = m ∧ st = .int .i64 (k : Int) ∧ rowEs (cs.drop k) (row.drop k) = R ∧ ∃ x : Ext y.it, x.it = wr)
    case atStart => exact ⟨0, by omega, rfl, by simpa using HE.out, ext_of (Below.refl _ _)⟩
    case round =>
      obtain ⟨k, hk, rfl, hF, x, rfl⟩ := hrel
      clear HE
      have hx := Below.on yb x
      have s0 := (x.cell w.heap.size 0 yz).trans y0
      have zw := x.lt yz
      by_cases hg0 : gk = 0
      · subst hg0
        obtain rfl : k = m := by omega
        obtain rfl : 0 = R := by rw [← hF, List.drop_of_length_le (by rw [HL.out]; exact Nat.le_refl _)]; rfl
        clear hF hk
        go_wp2
        exact bodyPost_ret (v := .int .i64 0) (by simp [results, Tryz.results57, go_sem, *]) rfl (⟨rfl, by with_reducible repeat (first | exact Below.refl _ _ | assumption | refine Below.al ?_ _ | refine Below.on ?_ _ | refine Below.st ?_ (by first | assumption | (simp; done) | (simp; omega)) _ | refine Below.drew ?_)⟩)
      · have hkm : k < m := by omega
        have hkm' : (k : Int) < (m : Int) := by omega
        have hkc : k < cs.length := by rw [HL.out]; exact hkm
        have hkr : k < row.length := by rw [HM.out]; exact hkm
        obtain ⟨cb, co, rfl, _, hcb, c0, c1, c2, c3⟩ := cols_in HC.out hkc
        obtain ⟨rb, ro, rfl, _, hrb, e0, e1, e2⟩ := vals_in HRW.out hkr
        have OKL := rowEs_ok hkc hkr
        have BDL := rowEs_bad hkc hkr
        obtain ⟨d, hd⟩ : ∃ d, cs[k]'hkc = d := ⟨_, rfl⟩
        obtain ⟨u, hu⟩ : ∃ u, row[k]'hkr = u := ⟨_, rfl⟩
        rw [hd] at OKL BDL c0 c1 c2 c3
        rw [hu] at OKL BDL e0 e1 e2
        rw [hF] at OKL BDL
        obtain ⟨cn, ty, sc, nul⟩ := d
        obtain ⟨un, ui, us⟩ := u
        dsimp only at OKL BDL c0 c1 c2 c3 e0 e1 e2
        have f0 := (hx.cell (p := ⟨cb, co + k * 4, none⟩) hcb).trans c0
        have f1 := (hx.cell (p := ⟨cb, co + k * 4 + 1, none⟩) hcb).trans c1
        have f2 := (hx.cell (p := ⟨cb, co + k * 4 + 2, none⟩) hcb).trans c2
        have f3 := (hx.cell (p := ⟨cb, co + k * 4 + 3, none⟩) hcb).trans c3
        have g0 := (hx.cell (p := ⟨rb, ro + k * 3, none⟩) hrb).trans e0
        have g1 := (hx.cell (p := ⟨rb, ro + k * 3 + 1, none⟩) hrb).trans e1
        have g2 := (hx.cell (p := ⟨rb, ro + k * 3 + 2, none⟩) hrb).trans e2
        have zc : cb < x.it.heap.size := Nat.lt_of_lt_of_le hcb hx.size
        have zr : rb < x.it.heap.size := Nat.lt_of_lt_of_le hrb hx.size
        have HK := Lib.hid (And.intro hk hg0)
        obtain ⟨ve, hve⟩ : ∃ ve, vchk ty nul un ui us = ve := ⟨_, rfl⟩
        rw [hve] at OKL BDL
        have RV := Lib.hid (fun W => (by have h := vcheck_any cn ty sc nul un ui us W; rw [hve] at h; exact h : Calls Tryz.prog 82 #[.agg #[.string cn, .int .i64 ty, .int .i64 sc, .bool nul], .agg #[.bool un, .int .i64 ui, .string us]] W fun e w' => e = .returned (.int .i64 ve) ∧ Below W.heap.size W w'))
        clear c0 c1 c2 c3 e0 e1 e2 hd hu hk hg0 hF hve
        go_upto_region 6 with fail
        refine wp_region_ext (by kernel_rfl) (by kernel_rfl) ?_
        repeat (go_big_quiet_step (((go_at_call 82; exact Calls.ext (RV.out _)))))
        refine wpQuiet_nil ?_
        rintro _ ⟨x5, rfl⟩
        by_cases v0 : ve = 0
        · have v0' : (ve != 0) = false := by simpa using v0
          have OK := Lib.hid (OKL v0)
          clear OKL BDL
          go_wp2
          go_roundg (gk - 1)
          case measure => have := HK.out; omega
          case rel => exact ⟨k + 1, by have := HK.out; omega, by go_num, OK.out.symm, ext_of (Below.on (Below.al x.below _) x5)⟩
        · have v0' : (ve != 0) = true := by simpa using v0
          obtain rfl : ve = R := (BDL v0).symm
          clear OKL BDL
          go_wp2
          exact bodyPost_ret (v := .int .i64 ve) (by simp [results, Tryz.results57, go_sem, *]) rfl (⟨rfl, by with_reducible repeat (first | exact Below.refl _ _ | assumption | refine Below.al ?_ _ | refine Below.on ?_ _ | refine Below.st ?_ (by first | assumption | (simp; done) | (simp; omega)) _ | refine Below.drew ?_)⟩)
  · have hne' : ((m : Int) != (nc : Int)) = true := by simp; omega
    obtain rfl : 1 = R := by rw [← HR.out]; unfold rowE; rw [if_neg (by rw [HM.out, HL.out]; exact hne)]
    clear HR hne
    go_enter Tryz.func57, Tryz.ntmps57
    go_wp2
    exact bodyPost_ret (v := .int .i64 1) (by simp [results, Tryz.results57, go_sem, *]) rfl (⟨rfl, by with_reducible repeat (first | exact Below.refl _ _ | assumption | refine Below.al ?_ _ | refine Below.on ?_ _ | refine Below.st ?_ (by first | assumption | (simp; done) | (simp; omega)) _ | refine Below.drew ?_)⟩)
end Go.Proofs.YtpahoenanfjhpaaGreat
namespace Go.Proofs.YtpahoenanfjhpaaGreat
open Go.RowKit
def rowsE (cs : List Col) : List (List Val) → Int
  | [] => 0
  | r :: l => if rowE cs r = 0 then rowsE cs l else rowE cs r
def batchE (cs : List Col) (key : Int) (rows : List (List Val)) : Int := if schemaF cs key = 0 then (if 4096 < rows.length then 7 else rowsE cs rows) else schemaF cs key
theorem rowsE_ok {cs : List Col} {l : List (List Val)} {k : Nat} (h : k < l.length) (h0 : rowE cs (l[k]'h) = 0) : rowsE cs (l.drop k) = rowsE cs (l.drop (k + 1)) := by
  rw [List.drop_eq_getElem_cons h]
  show (if rowE cs (l[k]'h) = 0 then _ else _) = _
  rw [if_pos h0]
theorem rowsE_bad {cs : List Col} {l : List (List Val)} {k : Nat} (h : k < l.length) (h0 : ¬ rowE cs (l[k]'h) = 0) : rowsE cs (l.drop k) = rowE cs (l[k]'h) := by
  rw [List.drop_eq_getElem_cons h]
  show (if rowE cs (l[k]'h) = 0 then _ else _) = _
  rw [if_neg h0]
set_option maxRecDepth 8000 in
set_option maxHeartbeats 2000000 in
theorem bcheck_any (cv : Value) (cs : List Col) (key : Int) (rv : Value) (rows : List (List Val)) (w : World) (hc : ColsAt w w.heap.size cv cs) (hr : RowsAt w w.heap.size rv rows) :
    Calls Tryz.prog 35 #[.agg #[cv, .int .i64 key], rv] w fun e w' => e = .returned (.int .i64 (batchE cs key rows)) ∧ Below w.heap.size w w' := by
  obtain ⟨ca, cc, rfl⟩ := cols_end hc
  obtain ⟨ra, rc, rfl⟩ := rows_end hr
  obtain ⟨n, hn⟩ : ∃ n, rows.length = n := ⟨_, rfl⟩
  obtain ⟨nc, hnc⟩ : ∃ n, cs.length = n := ⟨_, rfl⟩
  have n63 := hr.1
  rw [hn] at n63 hr ⊢
  rw [hnc] at hc ⊢
  have HC := Lib.hid hc
  have HRW := Lib.hid hr
  have HN := Lib.hid hn
  obtain ⟨R, hR⟩ : ∃ R, batchE cs key rows = R := ⟨_, rfl⟩
  rw [hR]
  have HR := Lib.hid hR
  obtain ⟨E, hE⟩ : ∃ E, schemaF cs key = E := ⟨_, rfl⟩
  have HE := Lib.hid hE
  have SC := Lib.hid (fun (W : World) (hb : Below w.heap.size w W) => (by have q := schema_any (.slice ca nc cc) cs key W (HC.out.mono hb hb.size); rw [hE] at q; exact q : Calls Tryz.prog 56 #[.agg #[.slice ca nc cc, .int .i64 key]] W fun e w' => e = .returned (.int .i64 E) ∧ Below W.heap.size W w'))
  clear hc hr hn hnc hR hE
  by_cases e0 : E = 0
  · subst e0
    have HQ : Hid ((if 4096 < n then 7 else rowsE cs rows) = R) := Lib.hid (by have := HR.out; unfold batchE at this; rwa [if_pos HE.out, HN.out] at this)
    clear HR HE
    by_cases a1 : 4096 < n
    · obtain rfl : 7 = R := by rw [← HQ.out, if_pos a1]
      have a1' : (4096 : Int) < (n : Int) := by omega
      clear HQ
      go_enter Tryz.func35, Tryz.ntmps35
      go_wp2_with (go_at_call 56; refine Calls.mono (SC.out _ (by with_reducible repeat (first | exact Below.refl _ _ | assumption | refine Below.al ?_ _ | refine Below.on ?_ _ | refine Below.st ?_ (by first | assumption | (simp; done) | (simp; omega)) _ | refine Below.drew ?_))) ?_; rintro e w1 ⟨rfl, hb1⟩; obtain ⟨x1, rfl⟩ := Ext.of hb1)
      exact bodyPost_ret (v := .int .i64 7) (by simp [results, Tryz.results35, go_sem, *]) rfl (⟨rfl, by with_reducible repeat (first | exact Below.refl _ _ | assumption | refine Below.al ?_ _ | refine Below.on ?_ _ | refine Below.st ?_ (by first | assumption | (simp; done) | (simp; omega)) _ | refine Below.drew ?_)⟩)
    · have a1' : ¬ (4096 : Int) < (n : Int) := by omega
      have HQ2 : Hid (rowsE cs rows = R) := Lib.hid (by have := HQ.out; rwa [if_neg a1] at this)
      clear HQ
      go_enter Tryz.func35, Tryz.ntmps35
      go_upto_region 7 with (go_at_call 56; refine Calls.mono (SC.out _ (by with_reducible repeat (first | exact Below.refl _ _ | assumption | refine Below.al ?_ _ | refine Below.on ?_ _ | refine Below.st ?_ (by first | assumption | (simp; done) | (simp; omega)) _ | refine Below.drew ?_))) ?_; rintro e w1 ⟨rfl, hb1⟩; obtain ⟨x1, rfl⟩ := Ext.of hb1)
      refine captureP ?_
      intro y ey
      have yb : Below w.heap.size w y.it := by rw [ey]; exact (by with_reducible repeat (first | exact Below.refl _ _ | assumption | refine Below.al ?_ _ | refine Below.on ?_ _ | refine Below.st ?_ (by first | assumption | (simp; done) | (simp; omega)) _ | refine Below.drew ?_))
      have y0 : y.it.cell? ⟨w.heap.size, 0, none⟩ = some (.slice ca nc cc) := by rw [ey]; simp (maxDischargeDepth := 9) [go_sem, *]
      have y1 : y.it.cell? ⟨w.heap.size, 1, none⟩ = some (.int .i64 key) := by rw [ey]; simp (maxDischargeDepth := 9) [go_sem, *]
      have yz : w.heap.size < y.it.heap.size := by rw [ey]; exact x1.lt (by simp)
      clear ey
      go_loopg [19] n (fun g st wr => ∃ k : Nat, k + g = n ∧ st = .int .i64 (k : Int) ∧ rowsE cs (rows.drop k) = R ∧ ∃ x : Ext y.it, x.it = wr)
      case atStart => exact ⟨0, by omega, rfl, by simpa using HQ2.out, ext_of (Below.refl _ _)⟩
      case round =>
        obtain ⟨k, hk, rfl, hF, x, rfl⟩ := hrel
        clear HQ2
        have hx := Below.on yb x
        have s0 := (x.cell w.heap.size 0 yz).trans y0
        have s1 := (x.cell w.heap.size 1 yz).trans y1
        have zw := x.lt yz
        by_cases hg0 : gk = 0
        · subst hg0
          obtain rfl : k = n := by omega
          obtain rfl : 0 = R := by rw [← hF, List.drop_of_length_le (by rw [HN.out]; exact Nat.le_refl _)]; rfl
          have tk : ¬ (k : Int) < (k : Int) := by omega
          clear hF hk
          go_wp2
          exact bodyPost_ret (v := .int .i64 0) (by simp [results, Tryz.results35, go_sem, *]) rfl (⟨rfl, by with_reducible repeat (first | exact Below.refl _ _ | assumption | refine Below.al ?_ _ | refine Below.on ?_ _ | refine Below.st ?_ (by first | assumption | (simp; done) | (simp; omega)) _ | refine Below.drew ?_)⟩)
        · have hkm : k < n := by omega
          have hkm' : (k : Int) < (n : Int) := by omega
          have hkr : k < rows.length := by rw [HN.out]; exact hkm
          obtain ⟨rb, ro, rfl, _, hrb, lv, c0, hlv⟩ := rows_in HRW.out hkr
          have OKL := rowsE_ok (cs := cs) hkr
          have BDL := rowsE_bad (cs := cs) hkr
          obtain ⟨d, hd⟩ : ∃ d, rows[k]'hkr = d := ⟨_, rfl⟩
          rw [hd] at OKL BDL hlv
          rw [hF] at OKL BDL
          obtain ⟨la, lc, rfl⟩ := vals_end hlv
          obtain ⟨dl, hdl⟩ : ∃ l, d.length = l := ⟨_, rfl⟩
          rw [hdl] at hlv c0
          have f0 := (hx.cell (p := ⟨rb, ro + k, none⟩) hrb).trans c0
          have zr : rb < x.it.heap.size := Nat.lt_of_lt_of_le hrb hx.size
          have HK := Lib.hid (And.intro hk hg0)
          have HLV := Lib.hid hlv
          obtain ⟨ve, hve⟩ : ∃ ve, rowE cs d = ve := ⟨_, rfl⟩
          rw [hve] at OKL BDL
          have RV := Lib.hid (fun (W : World) (hb : Below w.heap.size w W) => (by have h := brow_any (.slice ca nc cc) cs key (.slice la dl lc) d W (HC.out.mono hb hb.size) (HLV.out.mono hb hb.size); rw [hve] at h; exact h : Calls Tryz.prog 57 #[.agg #[.slice ca nc cc, .int .i64 key], .slice la dl lc] W fun e w' => e = .returned (.int .i64 ve) ∧ Below W.heap.size W w'))
          clear c0 hd hlv hdl hk hg0 hF hve
          by_cases v0 : ve = 0
          · have v0' : (ve != 0) = false := by simpa using v0
            have OK := Lib.hid (OKL v0)
            clear OKL BDL
            go_wp2_with (go_at_call 57; refine Calls.mono (RV.out _ (by with_reducible repeat (first | exact Below.refl _ _ | assumption | refine Below.al ?_ _ | refine Below.on ?_ _ | refine Below.st ?_ (by first | assumption | (simp; done) | (simp; omega)) _ | refine Below.drew ?_))) ?_; rintro e w5 ⟨rfl, hb5⟩; obtain ⟨x5, rfl⟩ := Ext.of hb5)
            go_roundg (gk - 1)
            case measure => have := HK.out; omega
            case rel => exact ⟨k + 1, by have := HK.out; omega, by go_num, OK.out.symm, ext_of (Below.on x.below x5)⟩
          · have v0' : (ve != 0) = true := by simpa using v0
            obtain rfl : ve = R := (BDL v0).symm
            clear OKL BDL
            go_wp2_with (go_at_call 57; refine Calls.mono (RV.out _ (by with_reducible repeat (first | exact Below.refl _ _ | assumption | refine Below.al ?_ _ | refine Below.on ?_ _ | refine Below.st ?_ (by first | assumption | (simp; done) | (simp; omega)) _ | refine Below.drew ?_))) ?_; rintro e w5 ⟨rfl, hb5⟩; obtain ⟨x5, rfl⟩ := Ext.of hb5)
            exact bodyPost_ret (v := .int .i64 ve) (by simp [results, Tryz.results35, go_sem, *]) rfl (⟨rfl, by with_reducible repeat (first | exact Below.refl _ _ | assumption | refine Below.al ?_ _ | refine Below.on ?_ _ | refine Below.st ?_ (by first | assumption | (simp; done) | (simp; omega)) _ | refine Below.drew ?_)⟩)
  · obtain rfl : E = R := by have := HR.out; unfold batchE at this; rwa [if_neg (by rw [HE.out]; exact e0), HE.out] at this
    have t : (E != 0) = true := by simpa using e0
    clear HR HE
    go_enter Tryz.func35, Tryz.ntmps35
    go_wp2_with (go_at_call 56; refine Calls.mono (SC.out _ (by with_reducible repeat (first | exact Below.refl _ _ | assumption | refine Below.al ?_ _ | refine Below.on ?_ _ | refine Below.st ?_ (by first | assumption | (simp; done) | (simp; omega)) _ | refine Below.drew ?_))) ?_; rintro e w1 ⟨rfl, hb1⟩; obtain ⟨x1, rfl⟩ := Ext.of hb1)
    exact bodyPost_ret (v := .int .i64 E) (by simp [results, Tryz.results35, go_sem, *]) rfl (⟨rfl, by with_reducible repeat (first | exact Below.refl _ _ | assumption | refine Below.al ?_ _ | refine Below.on ?_ _ | refine Below.st ?_ (by first | assumption | (simp; done) | (simp; omega)) _ | refine Below.drew ?_)⟩)
end Go.Proofs.YtpahoenanfjhpaaGreat
namespace Go.Proofs.YtpahoenanfjhpaaGreat
open Go.RowKit
/-- The columns under way: n slices in block g0, each the call's own. -/
structure CM (B1 g0 n : Nat) (W : World) (vs : Nat → Value) (ls : Nat → List Val) : Prop where
  z : g0 < W.heap.size
  lo : g0 < B1
  c : ∀ k, k < n → W.cell? ⟨g0, k, none⟩ = some (vs k)
  f : ∀ q, W.frozen? ⟨g0, q, none⟩ = false
  o : ∀ k, k < n → W.ownsRow B1 41 3 (vs k) (ls k).length ((ls k).flatMap valC)
  d : ∀ k k' b, k < n → k' < n → k ≠ k' → (vs k).ownBlock = some b → (vs k').ownBlock ≠ some b
theorem CM.on {B1 g0 n : Nat} {W W' : World} {vs : Nat → Value} {ls : Nat → List Val} (h : CM B1 g0 n W vs ls) (hb : Below W.heap.size W W') : CM B1 g0 n W' vs ls :=
  ⟨Nat.lt_of_lt_of_le h.z hb.size, h.lo, fun k hk => (hb.cell (p := ⟨g0, k, none⟩) h.z).trans (h.c k hk), fun q => (hb.frozen (p := ⟨g0, q, none⟩) h.z).trans (h.f q), fun k hk => own_to (h.o k hk) hb, h.d⟩
theorem CM.congr {B1 g0 n : Nat} {W : World} {vs : Nat → Value} {ls ls' : Nat → List Val} (h : CM B1 g0 n W vs ls) (e : ∀ k, k < n → ls' k = ls k) : CM B1 g0 n W vs ls' :=
  ⟨h.z, h.lo, h.c, h.f, fun k hk => by rw [e k hk]; exact h.o k hk, h.d⟩
theorem own_keep' {w w' : World} {base : Nat} {e : TypeId} {size : Nat} {v : Value} {n : Nat} {xs : List Value} (h : w.ownsRow base e size v n xs) (hk : ∀ k, v.ownBlock = some k → w'.heap[k]? = w.heap[k]?) : w'.ownsRow base e size v n xs := by
  refine ⟨h.1, h.2.imp id ?_⟩
  rintro ⟨g, cap, cur, rfl, h2, h3, h4⟩
  exact ⟨g, cap, cur, rfl, h2, by rw [hk g rfl]; exact h3, h4⟩
theorem CM.step {B1 g0 n i gb cap : Nat} {W w1 : World} {vs : Nat → Value} {ls : Nat → List Val} {x : Val} (h : CM B1 g0 n W vs ls) (hi : i < n) (hown : w1.ownsRow B1 41 3 (.slice (some ⟨gb, 0, none⟩) ((ls i).length + 1) cap) ((ls i).length + 1) ((ls i).flatMap valC ++ valC x)) (hg : W.grownBy w1 (vs i).ownBlock) (hat : (vs i).ownBlock = some gb ∨ gb = W.heap.size) :
    CM B1 g0 n (w1.setCell ⟨g0, i, none⟩ (.slice (some ⟨gb, 0, none⟩) ((ls i).length + 1) cap)) (fun k => if k = i then .slice (some ⟨gb, 0, none⟩) ((ls i).length + 1) cap else vs k) (fun k => if k = i then ls i ++ [x] else ls k) := by
  have hb : ∀ k b, k < n → (vs k).ownBlock = some b → B1 ≤ b ∧ b < W.heap.size := fun k b hk e => ⟨own_base (h.o k hk) b e, ((h.o k hk).lt b e).2⟩
  have hg0 : some g0 ≠ (vs i).ownBlock := fun e => by have := (hb i g0 hi e.symm).1; have := h.lo; omega
  have blk : w1.heap[g0]? = W.heap[g0]? := hg.block g0 h.z hg0
  have cc : ∀ k, k < n → w1.cell? ⟨g0, k, none⟩ = some (vs k) := fun k hk => (World.cell?_of_block (w := W) blk).trans (h.c k hk)
  have hgb : gb ≠ g0 := by
    have := own_base hown gb rfl
    have := h.lo
    omega
  refine ⟨by rw [World.size_setCell]; exact Nat.lt_of_lt_of_le h.z hg.size, h.lo, fun k hk => ?_, fun q => ?_, fun k hk => ?_, fun k k' b hk hk' hne => ?_⟩
  · by_cases e : k = i
    · subst e; rw [if_pos rfl]; exact World.cell?_setCell_same w1 ⟨g0, k, none⟩ _ (cc k hk)
    · rw [if_neg e]; exact (World.cell?_setCell_other _ _ _ _ (by intro q; injection q with _ q; exact e q.symm)).trans (cc k hk)
  · rw [World.frozen?_setCell]; exact (World.frozen?_of_block (w := W) blk).trans (h.f q)
  · have far : ∀ b, b ≠ g0 → (w1.setCell ⟨g0, i, none⟩ (.slice (some ⟨gb, 0, none⟩) ((ls i).length + 1) cap)).heap[b]? = w1.heap[b]? := fun b hb' => Below.heap_setCell _ _ _ b hb'
    by_cases e : k = i
    · subst e
      simp only [if_true, List.length_append, List.length_cons, List.length_nil, List.flatMap_append, List.flatMap_cons, List.flatMap_nil, List.append_nil]
      refine own_keep' hown fun b hb' => far b ?_
      have e1 : gb = b := by simpa [Value.ownBlock] using hb'
      omega
    · simp only [if_neg e]
      refine own_keep' (h.o k hk) fun b hb' => ?_
      have h1 := hb k b hk hb'
      have h2 := h.lo
      exact (far b (by omega)).trans (hg.block b h1.2 (fun q => h.d k i b hk hi e hb' q.symm))
  · by_cases e : k = i
    · subst e
      simp only [if_true, if_neg (fun q : k' = k => hne q.symm)]
      intro q1 q2
      have e1 : gb = b := by simpa [Value.ownBlock] using q1
      subst e1
      rcases hat with q | q
      · exact h.d k k' gb hk hk' hne q q2
      · have := (hb k' gb hk' q2).2; omega
    · by_cases e' : k' = i
      · subst e'
        simp only [if_true, if_neg e]
        intro q1 q2
        have e1 : gb = b := by simpa [Value.ownBlock] using q2
        subst e1
        rcases hat with q | q
        · exact h.d k k' gb hk hk' hne q1 q
        · have := (hb k gb hk q1).2; omega
      · simp only [if_neg e, if_neg e']
        exact h.d k k' b hk hk' hne
theorem CM.step' {B1 g0 n i gb cap j : Nat} {W w1 : World} {vs : Nat → Value} {ls : Nat → List Val} {x : Val} {l : List Val} {v : Value} (h : CM B1 g0 n W vs ls) (hi : i < n) (hli : ls i = l) (hlen : l.length = j) (hvi : vs i = v) (hown : w1.ownsRow B1 41 3 (.slice (some ⟨gb, 0, none⟩) (j + 1) cap) (j + 1) (l.flatMap valC ++ valC x)) (hg : W.grownBy w1 v.ownBlock) (hat : v.ownBlock = some gb ∨ gb = W.heap.size) :
    ∃ vs', CM B1 g0 n (w1.setCell ⟨g0, i, none⟩ (.slice (some ⟨gb, 0, none⟩) (j + 1) cap)) vs' (fun k => if k = i then l ++ [x] else ls k) := by
  subst hli hlen hvi
  exact ⟨_, h.step hi hown hg hat⟩
theorem CM.rows {B1 g0 n : Nat} {W : World} {vs : Nat → Value} {ls : Nat → List Val} (h : CM B1 g0 n W vs ls) (hn : n ≤ 12) (hl : ∀ k, k < n → (ls k).length ≤ 9223372036854775807) : RowsAt W W.heap.size (.slice (some ⟨g0, 0, none⟩) n n) ((List.range n).map ls) := by
  refine ⟨by simp; omega, .inr ⟨g0, 0, n, by simp, by simp, h.z, fun j hj => ?_⟩⟩
  have hj' : j < n := by simpa using hj
  refine ⟨vs j, by rw [Nat.zero_add]; exact h.c j hj', ?_⟩
  have := own_vals (hl j hj') (h.o j hj')
  simpa using this
theorem made_nil (w : World) (T : TypeId) (m k : Nat) (hk : k < m) : (w.alloc (.cells (madeCells #[.slice none 0 0] m) T)).cell? ⟨w.heap.size, k, none⟩ = some (.slice none 0 0) := by
  rw [cell_of_row _ w.heap.size k _ T (0, 0) (heap_alloc_new w _)]
  simp [madeCells, Value.cells, Nat.mul_one, hk, Nat.mod_one]
theorem pre_rowEs : ∀ (cs : List Col) (row : List Val), row.length = cs.length → rowEs cs row = 0 → RowPre cs row
  | [], _, _, _ => fun j h h' => absurd h' (by simp)
  | c :: cs, [], h, _ => absurd h (by simp)
  | c :: cs, v :: vs, hl, h => by
    simp only [rowEs] at h
    by_cases q : vchk c.ty c.nul v.null v.n v.s = 0
    · rw [if_pos q] at h
      have ih := pre_rowEs cs vs (by simpa using hl) h
      intro j h1 h2
      cases j with
      | zero => exact q
      | succ j => exact ih j (by simpa using h1) (by simpa using h2)
    · rw [if_neg q] at h; exact absurd h q
theorem pre_rowE {cs : List Col} {row : List Val} (h : rowE cs row = 0) : row.length = cs.length ∧ RowPre cs row := by
  unfold rowE at h
  by_cases q : row.length = cs.length
  · rw [if_pos q] at h; exact ⟨q, pre_rowEs cs row q h⟩
  · rw [if_neg q] at h; exact absurd h (by decide)
theorem rowsE_all {cs : List Col} : ∀ {rows : List (List Val)}, rowsE cs rows = 0 → ∀ r ∈ rows, rowE cs r = 0
  | [], _, r, hr => absurd hr (by simp)
  | a :: l, h, r, hr => by
    simp only [rowsE] at h
    by_cases q : rowE cs a = 0
    · rw [if_pos q] at h
      rcases List.mem_cons.1 hr with rfl | hr
      · exact q
      · exact rowsE_all h r hr
    · rw [if_neg q] at h; exact absurd h q
end Go.Proofs.YtpahoenanfjhpaaGreat
