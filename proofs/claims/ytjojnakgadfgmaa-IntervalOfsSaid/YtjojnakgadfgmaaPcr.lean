/-
  PREDICATES: micropartref21.Check of whatever schema and predicate: 'predF'. Conditions: both lie in memory as 'ColsAt', 'NodsAt' say.
-/
import Derived.Test.YtjojnakgadfgmaaPck
import Derived.Test.YtjojnakgadfgmaaPrr
set_option linter.unusedVariables false
set_option linter.unusedSimpArgs false
namespace Go.Proofs.Ytjojnakgadfgmaa
open Go.RowKit
set_option maxRecDepth 8000 in
set_option maxHeartbeats 2000000 in
theorem refPredCheck_any (cv : Value) (cs : List Col) (key : Int) (nv : Value) (ns : List Nod) (w : World) (hc : ColsAt w w.heap.size cv cs) (hn : NodsAt w w.heap.size nv ns) :
    Calls Try.prog 42 #[.agg #[cv, .int .i64 key], nv] w fun e w' => e = .returned (.int .i64 (predF cs key ns)) ∧ Below w.heap.size w w' := by
  have h63 := hn.1
  obtain ⟨ca, cc, rfl⟩ := cols_end hc
  obtain ⟨na, pc, rfl⟩ := nods_end hn
  obtain ⟨nc, hl⟩ : ∃ nc, cs.length = nc := ⟨_, rfl⟩
  obtain ⟨m, hm⟩ : ∃ m, ns.length = m := ⟨_, rfl⟩
  have HC : Hid (ColsAt w w.heap.size (.slice ca nc cc) cs) := Lib.hid (by rw [← hl]; exact hc)
  have HN : Hid (NodsAt w w.heap.size (.slice na m pc) ns) := Lib.hid (by rw [← hm]; exact hn)
  clear hc hn
  have HM := Lib.hid hm
  rw [hl, hm]
  rw [hm] at h63
  obtain ⟨e0, he0⟩ : ∃ e0, predF cs key ns = e0 := ⟨_, rfl⟩
  rw [he0]
  obtain ⟨es, hes⟩ : ∃ es, schemaF cs key = es := ⟨_, rfl⟩
  have HE : e0 = if es = 0 then (if 64 < ns.length then 7 else nodsE cs 0 ns) else es := by rw [← he0, ← hes]; rfl
  have HES := Lib.hid hes
  clear hl hm he0 hes
  by_cases s0 : es = 0
  · subst s0
    rw [if_pos rfl] at HE
    go_enter Try.func42, Try.ntmps42
    go_upto_region 2 with (go_at_call 54; have hC1 : ColsAt (w.alloc (.cells #[.slice ca nc cc, .int .i64 key] 50)) (w.alloc (.cells #[.slice ca nc cc, .int .i64 key] 50)).heap.size _ cs := HC.out.mono (Below.al (Below.refl _ _) _) (by simp); refine (refSchema_any _ cs key _ hC1).mono ?_; rintro e w1 ⟨rfl, hb1⟩; obtain ⟨x1, rfl⟩ := Ext.of hb1; have z0 : w.heap.size < x1.it.heap.size := x1.lt (by simp))
    simp only [HES.out]
    refine captureP ?_
    intro y ey
    have b0 : y.it.cell? ⟨w.heap.size, 0, none⟩ = some (.slice ca nc cc) := by simp (maxDischargeDepth := 9) [go_sem, *]
    have b1 : y.it.cell? ⟨w.heap.size, 1, none⟩ = some (.int .i64 key) := by simp (maxDischargeDepth := 9) [go_sem, *]
    have y0 : w.heap.size < y.it.heap.size := by rw [ey]; (first | with_reducible assumption | (simp only [World.size_setCell, World.size_alloc, World.size_drew]; first | with_reducible assumption | omega))
    have yb : Below w.heap.size w y.it := by rw [ey]; exact (by repeat (first | with_reducible exact Below.refl _ _ | with_reducible assumption | with_reducible refine Below.al ?_ _ | with_reducible refine Below.on ?_ _ | with_reducible refine Below.st ?_ (by first | assumption | (simp; done) | (simp; omega)) _ | with_reducible refine Below.drew ?_))
    clear ey
    by_cases m64 : 64 < m
    · obtain rfl : 7 = e0 := (HE.trans (if_pos (by rw [HM.out]; exact m64))).symm
      have m64' : (64 : Int) < (m : Int) := by omega
      clear HE
      go_wp2_with fail
      exact bodyPost_ret (v := .int .i64 (7)) (by simp [results, Try.results42, go_sem, *]) rfl (⟨rfl, by repeat (first | with_reducible exact Below.refl _ _ | with_reducible assumption | with_reducible refine Below.al ?_ _ | with_reducible refine Below.on ?_ _ | with_reducible refine Below.st ?_ (by first | assumption | (simp; done) | (simp; omega)) _ | with_reducible refine Below.drew ?_)⟩)
    have m64' : ¬ (64 : Int) < (m : Int) := by omega
    have HE2 := Lib.hid (HE.trans (if_neg (by rw [HM.out]; exact m64)))
    clear HE
    go_wp2_with fail
    go_loopg [19] m (fun g st wr => ∃ k : Nat, k + g = m ∧ st = .int .i64 (k : Int) ∧ nodsE cs 0 ns = nodsE cs (k : Int) (ns.drop k) ∧ ∃ x : Ext y.it, x.it = wr)
    case atStart => exact ⟨0, by omega, rfl, by simp, ext_of (Below.refl _ _)⟩
    case round =>
      obtain ⟨k, hk, rfl, hF, x, rfl⟩ := hrel
      have hx := x.below
      have hx2 : Below w.heap.size w x.it := Below.on yb x
      have x0 : w.heap.size < x.it.heap.size := x.lt y0
      by_cases hg0 : gk = 0
      · subst hg0
        obtain rfl : k = m := by omega
        obtain rfl : 0 = e0 := by rw [HE2.out, hF, List.drop_of_length_le (by rw [HM.out]; exact Nat.le_refl _)]; rfl
        clear hF hk HE2
        go_wp2
        exact bodyPost_ret (v := .int .i64 (0)) (by simp [results, Try.results42, go_sem, *]) rfl (⟨rfl, by repeat (first | with_reducible exact Below.refl _ _ | with_reducible assumption | with_reducible refine Below.al ?_ _ | with_reducible refine Below.on ?_ _ | with_reducible refine Below.st ?_ (by first | assumption | (simp; done) | (simp; omega)) _ | with_reducible refine Below.drew ?_)⟩)
      · have hkm : k < m := by omega
        have hkm' : (k : Int) < (m : Int) := by omega
        have hkl : k < ns.length := by rw [HM.out]; exact hkm
        obtain ⟨b, o, rfl, _, hb, lv, c0, c1, c2, c3, c4, c5, c6, c7, hlv⟩ := nods_in HN.out hkl
        have OKL := nodsE_ok (cs := cs) hkl
        have BDL := nodsE_bad (cs := cs) hkl
        obtain ⟨d, hd⟩ : ∃ d, ns[k]'hkl = d := ⟨_, rfl⟩
        rw [hd] at OKL BDL c0 c1 c2 c3 c4 c6 c7 hlv
        rw [← hF] at OKL BDL
        obtain ⟨dop, dcol, ⟨dvn, dn, ds⟩, dls, da, db⟩ := d
        dsimp only at c0 c1 c2 c3 c4 c6 c7 hlv
        have f0 := (hx2.cell (p := ⟨b, o + k * 8, none⟩) hb).trans c0
        have f1 := (hx2.cell (p := ⟨b, o + k * 8 + 1, none⟩) hb).trans c1
        have f2 := (hx2.cell (p := ⟨b, o + k * 8 + 2, none⟩) hb).trans c2
        have f3 := (hx2.cell (p := ⟨b, o + k * 8 + 3, none⟩) hb).trans c3
        have f4 := (hx2.cell (p := ⟨b, o + k * 8 + 4, none⟩) hb).trans c4
        have f5 := (hx2.cell (p := ⟨b, o + k * 8 + 5, none⟩) hb).trans c5
        have f6 := (hx2.cell (p := ⟨b, o + k * 8 + 6, none⟩) hb).trans c6
        have f7 := (hx2.cell (p := ⟨b, o + k * 8 + 7, none⟩) hb).trans c7
        have zb : b < x.it.heap.size := Nat.lt_of_lt_of_le hb hx2.size
        obtain ⟨la, lc, rfl⟩ := vals_end hlv
        obtain ⟨lm, hlm⟩ : ∃ lm, dls.length = lm := ⟨_, rfl⟩
        rw [hlm] at f5 c5 hlv
        have HC1 : Hid (ColsAt (x.it.alloc (.cells #[.int .i64 dop, .int .i64 dcol, .bool dvn, .int .i64 dn, .string ds, .slice la lm lc, .int .i64 da, .int .i64 db] 43)) (x.it.alloc (.cells #[.int .i64 dop, .int .i64 dcol, .bool dvn, .int .i64 dn, .string ds, .slice la lm lc, .int .i64 da, .int .i64 db] 43)).heap.size (.slice ca nc cc) cs) := Lib.hid (HC.out.mono (Below.al hx2 _) (by simp; omega))
        have HV1 : Hid (ValsAt (x.it.alloc (.cells #[.int .i64 dop, .int .i64 dcol, .bool dvn, .int .i64 dn, .string ds, .slice la lm lc, .int .i64 da, .int .i64 db] 43)) (x.it.alloc (.cells #[.int .i64 dop, .int .i64 dcol, .bool dvn, .int .i64 dn, .string ds, .slice la lm lc, .int .i64 da, .int .i64 db] 43)).heap.size (.slice la lm lc) dls) := Lib.hid (hlv.mono (Below.al hx2 _) (by simp; omega))
        obtain ⟨ve, hve⟩ : ∃ ve, nodE cs (k : Int) ⟨dop, dcol, ⟨dvn, dn, ds⟩, dls, da, db⟩ = ve := ⟨_, rfl⟩
        rw [hve] at OKL BDL
        have HVE := Lib.hid hve
        have HK := Lib.hid hk
        clear c0 c1 c2 c3 c4 c5 c6 c7 hlv hlm hd hk hF hve hg0
        by_cases v0 : ve = 0
        · have OK := Lib.hid (OKL v0)
          have v0' : (ve != 0) = false := by simpa using v0
          clear OKL BDL
          go_wp2_with ((go_at_call 55; refine (refNode_any _ cs key _ _ _ _ _ _ _ dls _ _ _ HC1.out HV1.out).mono ?_; rintro e w3 ⟨rfl, hb3⟩; obtain ⟨x3, rfl⟩ := Ext.of hb3; have t0 : w.heap.size < x3.it.heap.size := x3.lt (by (first | with_reducible assumption | (simp only [World.size_setCell, World.size_alloc, World.size_drew]; first | with_reducible assumption | omega)))); simp only [HVE.out])
          go_roundg (gk - 1)
          case measure => have := HK.out; omega
          case rel => exact ⟨k + 1, by have := HK.out; omega, by go_num, OK.out, ext_of (by repeat (first | with_reducible exact Below.refl _ _ | with_reducible assumption | with_reducible refine Below.al ?_ _ | with_reducible refine Below.on ?_ _ | with_reducible refine Below.st ?_ (by first | assumption | (simp; done) | (simp; omega)) _ | with_reducible refine Below.drew ?_))⟩
        · have v0' : (ve != 0) = true := by simpa using v0
          obtain rfl : ve = e0 := ((HE2.out.trans (BDL v0))).symm
          clear OKL BDL HE2
          go_wp2_with ((go_at_call 55; refine (refNode_any _ cs key _ _ _ _ _ _ _ dls _ _ _ HC1.out HV1.out).mono ?_; rintro e w3 ⟨rfl, hb3⟩; obtain ⟨x3, rfl⟩ := Ext.of hb3; have t0 : w.heap.size < x3.it.heap.size := x3.lt (by (first | with_reducible assumption | (simp only [World.size_setCell, World.size_alloc, World.size_drew]; first | with_reducible assumption | omega)))); simp only [HVE.out])
          exact bodyPost_ret (v := .int .i64 (ve)) (by simp [results, Try.results42, go_sem, *]) rfl (⟨rfl, by repeat (first | with_reducible exact Below.refl _ _ | with_reducible assumption | with_reducible refine Below.al ?_ _ | with_reducible refine Below.on ?_ _ | with_reducible refine Below.st ?_ (by first | assumption | (simp; done) | (simp; omega)) _ | with_reducible refine Below.drew ?_)⟩)
  · obtain rfl : es = e0 := (HE.trans (if_neg s0)).symm
    have s0' : (es != 0) = true := by simpa using s0
    clear HE
    go_enter Try.func42, Try.ntmps42
    go_wp2_with ((go_at_call 54; have hC1 : ColsAt (w.alloc (.cells #[.slice ca nc cc, .int .i64 key] 50)) (w.alloc (.cells #[.slice ca nc cc, .int .i64 key] 50)).heap.size _ cs := HC.out.mono (Below.al (Below.refl _ _) _) (by simp); refine (refSchema_any _ cs key _ hC1).mono ?_; rintro e w1 ⟨rfl, hb1⟩; obtain ⟨x1, rfl⟩ := Ext.of hb1; have z0 : w.heap.size < x1.it.heap.size := x1.lt (by simp)); simp only [HES.out])
    exact bodyPost_ret (v := .int .i64 (es)) (by simp [results, Try.results42, go_sem, *]) rfl (⟨rfl, by repeat (first | with_reducible exact Below.refl _ _ | with_reducible assumption | with_reducible refine Below.al ?_ _ | with_reducible refine Below.on ?_ _ | with_reducible refine Below.st ?_ (by first | assumption | (simp; done) | (simp; omega)) _ | with_reducible refine Below.drew ?_)⟩)
end Go.Proofs.Ytjojnakgadfgmaa
