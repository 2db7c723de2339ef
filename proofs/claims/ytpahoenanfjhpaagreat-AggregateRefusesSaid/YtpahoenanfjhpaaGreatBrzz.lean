/-
  CHAPTER 15: the reference's CheckBatch. Conditions: the schema and the rows lie in memory.
-/
import Derived.Test.YtpahoenanfjhpaaGreatZg
import Derived.Test.YtpahoenanfjhpaaGreatZc
set_option linter.unusedVariables false
set_option linter.unusedSimpArgs false
namespace Go.Proofs.YtpahoenanfjhpaaGreat
open Go.RowKit
def batchE2 (cs : List Col) (key : Int) (rows : List (List Val)) : Int := if ¬ schemaF cs key = 0 then schemaF cs key else if 4096 < rows.length then 7 else rowsE cs rows
theorem batchE2_eq (cs : List Col) (key : Int) (rows : List (List Val)) : batchE2 cs key rows = batchE cs key rows := by
  unfold batchE2 batchE
  by_cases h : schemaF cs key = 0
  · rw [if_neg (by simpa using h), if_pos h]
  · rw [if_pos h, if_neg h]
set_option maxRecDepth 8000 in
set_option maxHeartbeats 2000000 in
theorem refBatch2_any (cv : Value) (cs : List Col) (key : Int) (rv : Value) (rows : List (List Val)) (w : World) (hc : ColsAt w w.heap.size cv cs) (hr : RowsAt w w.heap.size rv rows) :
    Calls Tryz.prog 44 #[.agg #[cv, .int .i64 key], rv] w fun e w' => e = .returned (.int .i64 (batchE2 cs key rows)) ∧ Below w.heap.size w w' := by
  obtain ⟨ca, cc, rfl⟩ := cols_end hc
  obtain ⟨nc, hl⟩ : ∃ nc, cs.length = nc := ⟨_, rfl⟩
  rw [hl] at hc ⊢
  obtain ⟨ra, rc, rfl⟩ := rows_end hr
  obtain ⟨m, hm⟩ : ∃ m, rows.length = m := ⟨_, rfl⟩
  have h63 := hr.1
  rw [hm] at hr h63 ⊢
  have HC := Lib.hid hc
  have HR := Lib.hid hr
  have HM := Lib.hid hm
  obtain ⟨R, hR⟩ : ∃ R, batchE2 cs key rows = R := ⟨_, rfl⟩
  rw [hR]
  have HE := Lib.hid hR
  obtain ⟨se, hse⟩ : ∃ se, schemaF cs key = se := ⟨_, rfl⟩
  have HS := Lib.hid hse
  have SC := Lib.hid (fun (W : World) (h : ColsAt W W.heap.size (.slice ca nc cc) cs) => (by have q := refSchema_any _ cs key W h; rw [hse] at q; exact q : Calls Tryz.prog 64 #[.agg #[.slice ca nc cc, .int .i64 key]] W fun e w' => e = .returned (.int .i64 se) ∧ Below W.heap.size W w'))
  clear hc hr hm hR hl hse
  by_cases s0 : se = 0
  · subst s0
    by_cases h4 : 4096 < m
    · obtain rfl : 7 = R := by rw [← HE.out]; unfold batchE2; rw [if_neg (by rw [HS.out]; decide), if_pos (by rw [HM.out]; exact h4)]
      have h4' : (4096 : Int) < (m : Int) := by omega
      go_enter Tryz.func44, Tryz.ntmps44
      go_wp2_with (go_at_call 64; refine (SC.out _ (HC.out.mono (by with_reducible repeat (first | exact Below.refl _ _ | assumption | refine Below.al ?_ _ | refine Below.on ?_ _ | refine Below.st ?_ (by first | assumption | (simp; done) | (simp; omega)) _ | refine Below.drew ?_)) (by simp))).mono ?_; rintro e w1 ⟨rfl, hb1⟩; obtain ⟨x1, rfl⟩ := Ext.of hb1; have z0 : w.heap.size < x1.it.heap.size := x1.lt (by (first | assumption | (simp; done) | (simp; omega))))
      exact bodyPost_ret (v := .int .i64 7) (by simp [results, Tryz.results44, go_sem, *]) rfl (⟨rfl, by with_reducible repeat (first | exact Below.refl _ _ | assumption | refine Below.al ?_ _ | refine Below.on ?_ _ | refine Below.st ?_ (by first | assumption | (simp; done) | (simp; omega)) _ | refine Below.drew ?_)⟩)
    · have E2 : Hid (rowsE cs rows = R) := Lib.hid (by rw [← HE.out]; unfold batchE2; rw [if_neg (by rw [HS.out]; decide), if_neg (by rw [HM.out]; exact h4)])
      have h4' : ¬ (4096 : Int) < (m : Int) := by omega
      clear h4
      go_enter Tryz.func44, Tryz.ntmps44
      go_upto_region 6 with (go_at_call 64; refine (SC.out _ (HC.out.mono (by with_reducible repeat (first | exact Below.refl _ _ | assumption | refine Below.al ?_ _ | refine Below.on ?_ _ | refine Below.st ?_ (by first | assumption | (simp; done) | (simp; omega)) _ | refine Below.drew ?_)) (by simp))).mono ?_; rintro e w1 ⟨rfl, hb1⟩; obtain ⟨x1, rfl⟩ := Ext.of hb1; have z0 : w.heap.size < x1.it.heap.size := x1.lt (by (first | assumption | (simp; done) | (simp; omega))))
      refine captureP ?_
      intro y ey
      have yb : Below w.heap.size w y.it := by rw [ey]; exact (by with_reducible repeat (first | exact Below.refl _ _ | assumption | refine Below.al ?_ _ | refine Below.on ?_ _ | refine Below.st ?_ (by first | assumption | (simp; done) | (simp; omega)) _ | refine Below.drew ?_))
      have y0 : y.it.cell? ⟨w.heap.size, 0, none⟩ = some (.slice ca nc cc) := by rw [ey]; simp (maxDischargeDepth := 9) [go_sem, *]
      have y1 : y.it.cell? ⟨w.heap.size, 1, none⟩ = some (.int .i64 key) := by rw [ey]; simp (maxDischargeDepth := 9) [go_sem, *]
      have yz : w.heap.size < y.it.heap.size := by rw [ey]; (first | with_reducible assumption | (simp only [World.size_setCell, World.size_alloc, World.size_drew]; first | with_reducible assumption | omega))
      clear ey
      go_wp2_with fail
      go_loopg [19] m (fun g st wr => ∃ k : Nat, k + g = m ∧ st = .int .i64 (k : Int) ∧ rowsE cs (rows.drop k) = R ∧ ∃ x : Ext y.it, x.it = wr)
      case atStart => exact ⟨0, by omega, rfl, by simpa using E2.out, ext_of (Below.refl _ _)⟩
      case round =>
        obtain ⟨k, hk, rfl, hF, x, rfl⟩ := hrel
        clear E2
        have hx := Below.on yb x
        have s0 := (x.cell w.heap.size 0 yz).trans y0
        have s1 := (x.cell w.heap.size 1 yz).trans y1
        have zw := x.lt yz
        by_cases hg0 : gk = 0
        · subst hg0
          obtain rfl : k = m := by omega
          obtain rfl : 0 = R := by rw [← hF, List.drop_of_length_le (by rw [HM.out]; exact Nat.le_refl _)]; rfl
          clear hF hk
          go_wp2
          exact bodyPost_ret (v := .int .i64 0) (by simp [results, Tryz.results44, go_sem, *]) rfl (⟨rfl, by with_reducible repeat (first | exact Below.refl _ _ | assumption | refine Below.al ?_ _ | refine Below.on ?_ _ | refine Below.st ?_ (by first | assumption | (simp; done) | (simp; omega)) _ | refine Below.drew ?_)⟩)
        · have hkm : k < m := by omega
          have hkm' : (k : Int) < (m : Int) := by omega
          have hkr : k < rows.length := by rw [HM.out]; exact hkm
          obtain ⟨rb, ro, rfl, _, hrb, lv, e0, hlv⟩ := rows_in HR.out hkr
          have f0 := (hx.cell (p := ⟨rb, ro + k, none⟩) hrb).trans e0
          have zr : rb < x.it.heap.size := Nat.lt_of_lt_of_le hrb hx.size
          obtain ⟨ve, hve⟩ : ∃ ve, rowE cs (rows[k]'hkr) = ve := ⟨_, rfl⟩
          have RW := Lib.hid (by have q := checkRow_any _ cs key lv (rows[k]'hkr) x.it (HC.out.mono hx hx.size) (hlv.mono hx hx.size); rw [hve] at q; exact q : Calls Tryz.prog 65 #[.agg #[.slice ca nc cc, .int .i64 key], lv] x.it fun e w' => e = .returned (.int .i64 ve) ∧ Below x.it.heap.size x.it w')
          have EE : rowsE cs (rows.drop k) = if ve = 0 then rowsE cs (rows.drop (k + 1)) else ve := by rw [List.drop_eq_getElem_cons hkr]; simp only [rowsE]; rw [hve]
          rw [hF] at EE
          have HK := Lib.hid (And.intro hk hg0)
          have HEE := Lib.hid EE
          clear e0 hk hg0 hF hve EE hlv
          by_cases v0 : ve = 0
          · have v0' : (ve != 0) = false := by simpa using v0
            go_wp2_with (go_at_call 65; refine (RW.out).mono ?_; rintro e w5 ⟨rfl, hb5⟩; obtain ⟨x5, rfl⟩ := Ext.of hb5)
            go_roundg (gk - 1)
            case measure => have := HK.out; omega
            case rel => exact ⟨k + 1, by have := HK.out; omega, by go_num, by rw [HEE.out, if_pos v0], ext_of (Below.on x.below x5)⟩
          · have v0' : (ve != 0) = true := by simpa using v0
            obtain rfl : ve = R := by rw [HEE.out, if_neg v0]
            go_wp2_with (go_at_call 65; refine (RW.out).mono ?_; rintro e w5 ⟨rfl, hb5⟩; obtain ⟨x5, rfl⟩ := Ext.of hb5)
            exact bodyPost_ret (v := .int .i64 ve) (by simp [results, Tryz.results44, go_sem, *]) rfl (⟨rfl, by with_reducible repeat (first | exact Below.refl _ _ | assumption | refine Below.al ?_ _ | refine Below.on ?_ _ | refine Below.st ?_ (by first | assumption | (simp; done) | (simp; omega)) _ | refine Below.drew ?_)⟩)
  · have s0' : (se != 0) = true := by simpa using s0
    obtain rfl : se = R := by rw [← HE.out]; unfold batchE2; rw [if_pos (by rw [HS.out]; exact s0), HS.out]
    go_enter Tryz.func44, Tryz.ntmps44
    go_wp2_with (go_at_call 64; refine (SC.out _ (HC.out.mono (by with_reducible repeat (first | exact Below.refl _ _ | assumption | refine Below.al ?_ _ | refine Below.on ?_ _ | refine Below.st ?_ (by first | assumption | (simp; done) | (simp; omega)) _ | refine Below.drew ?_)) (by simp))).mono ?_; rintro e w1 ⟨rfl, hb1⟩; obtain ⟨x1, rfl⟩ := Ext.of hb1; have z0 : w.heap.size < x1.it.heap.size := x1.lt (by (first | assumption | (simp; done) | (simp; omega))))
    exact bodyPost_ret (v := .int .i64 se) (by simp [results, Tryz.results44, go_sem, *]) rfl (⟨rfl, by with_reducible repeat (first | exact Below.refl _ _ | assumption | refine Below.al ?_ _ | refine Below.on ?_ _ | refine Below.st ?_ (by first | assumption | (simp; done) | (simp; omega)) _ | refine Below.drew ?_)⟩)
theorem refBatch_any (cv : Value) (cs : List Col) (key : Int) (rv : Value) (rows : List (List Val)) (w : World) (hc : ColsAt w w.heap.size cv cs) (hr : RowsAt w w.heap.size rv rows) :
    Calls Tryz.prog 44 #[.agg #[cv, .int .i64 key], rv] w fun e w' => e = .returned (.int .i64 (batchE cs key rows)) ∧ Below w.heap.size w w' := by
  have q := refBatch2_any cv cs key rv rows w hc hr
  rw [batchE2_eq] at q; exact q
end Go.Proofs.YtpahoenanfjhpaaGreat
