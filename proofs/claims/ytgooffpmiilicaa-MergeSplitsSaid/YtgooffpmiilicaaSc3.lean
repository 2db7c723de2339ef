/-
  SCHEMAS: micropartref6.CheckSchema of whatever columns. Conditions: the columns lie in memory as 'ColsAt' says.
-/
import Derived.Test.YtgooffpmiilicaaSch
set_option linter.unusedVariables false
set_option linter.unusedSimpArgs false
namespace Go.Proofs.Ytgooffpmiilicaa
open Go.RowKit
set_option maxHeartbeats 400000 in
theorem typed_any (t : Int) (w : World) : Calls Try.prog 68 #[.int .i64 t] w fun e w' => e = .returned (.bool (decide (1 ≤ t) && decide (t ≤ 5))) ∧ Below w.heap.size w w' := by
  by_cases h1 : 1 ≤ t
  · by_cases h2 : t ≤ 5
    all_goals
      go_enter Try.func68, Try.ntmps68
      go_wp2
      go_ret
      exact ⟨by simp [h1, h2], Below.refl _ _⟩
  ·
    go_enter Try.func68, Try.ntmps68
    go_wp2
    go_ret
    exact ⟨by rw [decide_eq_false (by omega : ¬ 1 ≤ t)]; rfl, Below.refl _ _⟩
set_option maxRecDepth 8000 in
set_option maxHeartbeats 2000000 in
theorem refSchema_any (v : Value) (cs : List Col) (key : Int) (w : World) (hc : ColsAt w w.heap.size v cs) :
    Calls Try.prog 54 #[.agg #[v, .int .i64 key]] w fun e w' => e = .returned (.int .i64 (schemaF cs key)) ∧ Below w.heap.size w w' := by
  have h63 := hc.1
  obtain ⟨a, c, rfl⟩ := cols_end hc
  obtain ⟨n, hl⟩ : ∃ n, cs.length = n := ⟨_, rfl⟩
  have HC : Hid (ColsAt w w.heap.size (.slice a n c) cs) := Lib.hid (by rw [← hl]; exact hc)
  clear hc
  have HL := Lib.hid hl
  rw [hl] at h63 ⊢
  by_cases hn0 : n = 0
  · have SF := Lib.hid (show schemaF cs key = 1 by unfold schemaF; rw [if_pos (by omega)])
    clear hl
    subst hn0
    go_enter Try.func54, Try.ntmps54
    go_wp2
    exact bodyPost_ret (v := .int .i64 1) (by simp [results, Try.results54, go_sem, *]) rfl (⟨by rw [SF.out], by repeat (first | with_reducible exact Below.refl _ _ | with_reducible assumption | with_reducible refine Below.al ?_ _ | with_reducible refine Below.on ?_ _ | with_reducible refine Below.st ?_ (by first | assumption | (simp; done) | (simp; omega)) _ | with_reducible refine Below.drew ?_)⟩)
  by_cases hn12 : 12 < n
  · have SF := Lib.hid (show schemaF cs key = 7 by unfold schemaF; rw [if_neg (by omega), if_pos (by omega)])
    have h12 : (12 : Int) < (n : Int) := by omega
    clear hl
    go_enter Try.func54, Try.ntmps54
    go_wp2
    exact bodyPost_ret (v := .int .i64 7) (by simp [results, Try.results54, go_sem, *]) rfl (⟨by rw [SF.out], by repeat (first | with_reducible exact Below.refl _ _ | with_reducible assumption | with_reducible refine Below.al ?_ _ | with_reducible refine Below.on ?_ _ | with_reducible refine Below.st ?_ (by first | assumption | (simp; done) | (simp; omega)) _ | with_reducible refine Below.drew ?_)⟩)
  have h12 : ¬ (12 : Int) < (n : Int) := by omega
  have hn0' : ¬ (n : Int) = 0 := by omega
  have SB := Lib.hid (And.intro hn0 hn12)
  have SG : Hid (∀ e : Int, ¬ e = 0 → colsE [] cs = e → schemaF cs key = e) := Lib.hid fun e he h => schemaF_bad (by omega) (by omega) h he
  clear hl hn12
  go_enter Try.func54, Try.ntmps54
  go_wp2_with fail
  go_loopg [18] n (fun g s wr => ∃ k : Nat, k + g = n ∧ s = .int .i64 (k : Int) ∧ colsE [] cs = colsE (cs.take k) (cs.drop k) ∧ ∃ x : Ext (w.alloc (.cells #[.slice a n c, .int .i64 key] 28)), x.it = wr)
  case atStart => exact ⟨0, by omega, rfl, by simp, ext_of (Below.refl _ _)⟩
  case round =>
    obtain ⟨k, hk, rfl, hF, x, rfl⟩ := hrel
    have b0 : x.it.cell? ⟨w.heap.size, 0, none⟩ = some (.slice a n c) := (x.cell w.heap.size 0 (by simp)).trans (by simp [go_sem])
    have b1 : x.it.cell? ⟨w.heap.size, 1, none⟩ = some (.int .i64 key) := (x.cell w.heap.size 1 (by simp)).trans (by simp [go_sem])
    have z0 : w.heap.size < x.it.heap.size := x.lt (by simp)
    have hx : Below w.heap.size w x.it := Below.on (Below.al (Below.refl _ _) _) x
    have hx1 := x.below
    by_cases hg0 : gk = 0
    · subst hg0
      obtain rfl : k = n := by omega
      have CE : colsE [] cs = 0 := by rw [hF, List.drop_of_length_le (by rw [HL.out]; exact Nat.le_refl _)]; rfl
      have SK : schemaF cs key = (if key < 0 ∨ (k : Int) ≤ key then 4 else 0) := by have := SB.out; have := HL.out; unfold schemaF; rw [if_neg (by omega), if_neg (by omega), if_pos CE, HL.out]
      clear hF hk CE
      by_cases k0 : key < 0
      · have SF := Lib.hid (SK.trans (if_pos (Or.inl k0)))
        clear SK
        go_wp2
        exact bodyPost_ret (v := .int .i64 4) (by simp [results, Try.results54, go_sem, *]) rfl (⟨by rw [SF.out], by repeat (first | with_reducible exact Below.refl _ _ | with_reducible assumption | with_reducible refine Below.al ?_ _ | with_reducible refine Below.on ?_ _ | with_reducible refine Below.st ?_ (by first | assumption | (simp; done) | (simp; omega)) _ | with_reducible refine Below.drew ?_)⟩)
      · by_cases k1 : (k : Int) ≤ key
        · have SF := Lib.hid (SK.trans (if_pos (Or.inr k1)))
          clear SK
          go_wp2
          exact bodyPost_ret (v := .int .i64 4) (by simp [results, Try.results54, go_sem, *]) rfl (⟨by rw [SF.out], by repeat (first | with_reducible exact Below.refl _ _ | with_reducible assumption | with_reducible refine Below.al ?_ _ | with_reducible refine Below.on ?_ _ | with_reducible refine Below.st ?_ (by first | assumption | (simp; done) | (simp; omega)) _ | with_reducible refine Below.drew ?_)⟩)
        · have SF := Lib.hid (SK.trans (if_neg (by omega)))
          clear SK
          go_wp2
          exact bodyPost_ret (v := .int .i64 0) (by simp [results, Try.results54, go_sem, *]) rfl (⟨by rw [SF.out], by repeat (first | with_reducible exact Below.refl _ _ | with_reducible assumption | with_reducible refine Below.al ?_ _ | with_reducible refine Below.on ?_ _ | with_reducible refine Below.st ?_ (by first | assumption | (simp; done) | (simp; omega)) _ | with_reducible refine Below.drew ?_)⟩)
    · have hkn : k < n := by omega
      have hkn' : (k : Int) < n := by omega
      have hkl : k < cs.length := by rw [HL.out]; exact hkn
      obtain ⟨b, o, rfl, hcap, hb, c0, c1, c2, c3⟩ := cols_in HC.out hkl
      have BD := fun e => colsE_bad (e := e) hkl
      have GD := colsE_ok hkl
      skip
      skip
      obtain ⟨d, hd⟩ : ∃ d, cs[k]'hkl = d := ⟨_, rfl⟩
      rw [hd] at c0 c1 c2 c3 BD GD
      rw [← hF] at BD GD
      obtain ⟨dn, dt, ds, dl⟩ := d
      dsimp only at c0 c1 c2 c3
      have f0 := (x.cell b (o + k * 4) (by simp; omega)).trans ((World.cell?_alloc_past _ _ _ hb).trans c0)
      have f1 := (x.cell b (o + k * 4 + 1) (by simp; omega)).trans ((World.cell?_alloc_past _ _ _ hb).trans c1)
      have f2 := (x.cell b (o + k * 4 + 2) (by simp; omega)).trans ((World.cell?_alloc_past _ _ _ hb).trans c2)
      have f3 := (x.cell b (o + k * 4 + 3) (by simp; omega)).trans ((World.cell?_alloc_past _ _ _ hb).trans c3)
      have zb : b < x.it.heap.size := x.lt (by simp; omega)
      have HK := Lib.hid hk
      have BD' := Lib.hid BD
      have GD' := Lib.hid GD
      have HD := Lib.hid hd
      clear c0 c1 c2 c3 hd hk hg0 hF BD GD
      by_cases hN : nameF dn.toList = false
      · have SF := Lib.hid (SG.out 3 (by omega) (BD'.out 3 (by unfold colE; rw [if_pos hN]) (by omega)))
        go_wp2_with (first | (go_at_call 67; refine (refName_any _ _).mono ?_; rintro e w1 ⟨rfl, hb1⟩; obtain ⟨x1, rfl⟩ := Ext.of hb1; have y0 : w.heap.size < x1.it.heap.size := x1.lt (by (first | with_reducible assumption | (simp only [World.size_setCell, World.size_alloc, World.size_drew]; first | with_reducible assumption | omega))); have y1 : b < x1.it.heap.size := x1.lt (by (first | with_reducible assumption | (simp only [World.size_setCell, World.size_alloc, World.size_drew]; first | with_reducible assumption | omega))); have y2 : x.it.heap.size < x1.it.heap.size := x1.lt (by simp)) | (go_at_call 68; refine (typed_any _ _).mono ?_; rintro e w3 ⟨rfl, hb3⟩; obtain ⟨x3, rfl⟩ := Ext.of hb3; have u0 : w.heap.size < x3.it.heap.size := x3.lt (by (first | with_reducible assumption | (simp only [World.size_setCell, World.size_alloc, World.size_drew]; first | with_reducible assumption | omega))); have u1 : b < x3.it.heap.size := x3.lt (by (first | with_reducible assumption | (simp only [World.size_setCell, World.size_alloc, World.size_drew]; first | with_reducible assumption | omega))); have u2 : x.it.heap.size < x3.it.heap.size := x3.lt (by (first | with_reducible assumption | (simp only [World.size_setCell, World.size_alloc, World.size_drew]; first | with_reducible assumption | omega)))))
        exact bodyPost_ret (v := .int .i64 3) (by simp [results, Try.results54, go_sem, *]) rfl (⟨by rw [SF.out], by repeat (first | with_reducible exact Below.refl _ _ | with_reducible assumption | with_reducible refine Below.al ?_ _ | with_reducible refine Below.on ?_ _ | with_reducible refine Below.st ?_ (by first | assumption | (simp; done) | (simp; omega)) _ | with_reducible refine Below.drew ?_)⟩)
      have hN' : nameF dn.toList = true := by simpa using hN
      clear hN
      have kc : (k : Int) ≤ (c : Int) := by have := HL.out; omega
      obtain ⟨go, hgo⟩ : ∃ go, gk = go := ⟨_, rfl⟩
      rw [hgo] at HK
      have HGO := Lib.hid hgo
      clear hgo hcap
      go_upto_region 11 with (go_at_call 67; refine (refName_any _ _).mono ?_; rintro e w1 ⟨rfl, hb1⟩; obtain ⟨x1, rfl⟩ := Ext.of hb1; have y0 : w.heap.size < x1.it.heap.size := x1.lt (by (first | with_reducible assumption | (simp only [World.size_setCell, World.size_alloc, World.size_drew]; first | with_reducible assumption | omega))); have y1 : b < x1.it.heap.size := x1.lt (by (first | with_reducible assumption | (simp only [World.size_setCell, World.size_alloc, World.size_drew]; first | with_reducible assumption | omega))); have y2 : x.it.heap.size < x1.it.heap.size := x1.lt (by simp))
      go_loopg [32] k (fun g s wr => ∃ j : Nat, j + g = k ∧ s = .int .i64 (j : Int) ∧ (∀ i (h : i < cs.length), i < j → ¬ ((cs[i]'h).nm.toList = dn.toList)) ∧ ∃ y : Ext x1.it, y.it = wr)
      case atStart => exact ⟨0, by omega, rfl, fun i _ q => absurd q (by omega), ext_of (Below.refl _ _)⟩
      case round =>
        obtain ⟨j, hj, rfl, hD, y, rfl⟩ := hrel
        have hy := y.below
        have r0 : w.heap.size < y.it.heap.size := y.lt y0
        have r1 : b < y.it.heap.size := y.lt y1
        have r2 : x.it.heap.size < y.it.heap.size := y.lt y2
        by_cases hg1 : gk = 0
        · subst hg1
          obtain rfl : j = k := by omega
          have HP : ¬ ((cs.take j).any fun d => d.nm.toList == dn.toList) = true := by
            intro q; rw [List.any_eq_true] at q; obtain ⟨z, hz, hq⟩ := q
            obtain ⟨i, hi, rfl⟩ := List.getElem_of_mem hz
            rw [List.getElem_take] at hq
            exact hD i (by rw [List.length_take] at hi; omega) (by rw [List.length_take] at hi; omega) (by simpa using hq)
          have HP' := Lib.hid HP
          clear HP hD hj
          by_cases t0 : dt < 1 ∨ 5 < dt
          · have SF := Lib.hid (SG.out 11 (by omega) (BD'.out 11 (by unfold colE; rw [if_neg (by rw [hN']; decide), if_neg HP'.out, if_pos t0]) (by omega)))
            have ty : (decide (1 ≤ dt) && decide (dt ≤ 5)) = false := by rw [Bool.and_eq_false_iff]; rcases t0 with q | q; exact .inl (decide_eq_false (by omega)); exact .inr (decide_eq_false (by omega))
            clear t0
            go_wp2_with (go_at_call 68; refine (typed_any _ _).mono ?_; rintro e w3 ⟨rfl, hb3⟩; obtain ⟨x3, rfl⟩ := Ext.of hb3; have u0 : w.heap.size < x3.it.heap.size := x3.lt (by (first | with_reducible assumption | (simp only [World.size_setCell, World.size_alloc, World.size_drew]; first | with_reducible assumption | omega))); have u1 : b < x3.it.heap.size := x3.lt (by (first | with_reducible assumption | (simp only [World.size_setCell, World.size_alloc, World.size_drew]; first | with_reducible assumption | omega))); have u2 : x.it.heap.size < x3.it.heap.size := x3.lt (by (first | with_reducible assumption | (simp only [World.size_setCell, World.size_alloc, World.size_drew]; first | with_reducible assumption | omega))))
            exact bodyPost_ret (v := .int .i64 11) (by simp [results, Try.results54, go_sem, *]) rfl (⟨by rw [SF.out], by repeat (first | with_reducible exact Below.refl _ _ | with_reducible assumption | with_reducible refine Below.al ?_ _ | with_reducible refine Below.on ?_ _ | with_reducible refine Below.st ?_ (by first | assumption | (simp; done) | (simp; omega)) _ | with_reducible refine Below.drew ?_)⟩)
          have ty : (decide (1 ≤ dt) && decide (dt ≤ 5)) = true := by rw [decide_eq_true (by omega), decide_eq_true (by omega)]; rfl
          have HT := Lib.hid t0
          clear t0
          by_cases s1 : ds < 0
          · have SF := Lib.hid (SG.out 4 (by omega) (BD'.out 4 (by unfold colE; rw [if_neg (by rw [hN']; decide), if_neg HP'.out, if_neg HT.out, if_pos (Or.inl s1)]) (by omega)))
            go_wp2_with (go_at_call 68; refine (typed_any _ _).mono ?_; rintro e w3 ⟨rfl, hb3⟩; obtain ⟨x3, rfl⟩ := Ext.of hb3; have u0 : w.heap.size < x3.it.heap.size := x3.lt (by (first | with_reducible assumption | (simp only [World.size_setCell, World.size_alloc, World.size_drew]; first | with_reducible assumption | omega))); have u1 : b < x3.it.heap.size := x3.lt (by (first | with_reducible assumption | (simp only [World.size_setCell, World.size_alloc, World.size_drew]; first | with_reducible assumption | omega))); have u2 : x.it.heap.size < x3.it.heap.size := x3.lt (by (first | with_reducible assumption | (simp only [World.size_setCell, World.size_alloc, World.size_drew]; first | with_reducible assumption | omega))))
            exact bodyPost_ret (v := .int .i64 4) (by simp [results, Try.results54, go_sem, *]) rfl (⟨by rw [SF.out], by repeat (first | with_reducible exact Below.refl _ _ | with_reducible assumption | with_reducible refine Below.al ?_ _ | with_reducible refine Below.on ?_ _ | with_reducible refine Below.st ?_ (by first | assumption | (simp; done) | (simp; omega)) _ | with_reducible refine Below.drew ?_)⟩)
          by_cases s2 : 18 < ds
          · have SF := Lib.hid (SG.out 4 (by omega) (BD'.out 4 (by unfold colE; rw [if_neg (by rw [hN']; decide), if_neg HP'.out, if_neg HT.out, if_pos (Or.inr (Or.inl s2))]) (by omega)))
            go_wp2_with (go_at_call 68; refine (typed_any _ _).mono ?_; rintro e w3 ⟨rfl, hb3⟩; obtain ⟨x3, rfl⟩ := Ext.of hb3; have u0 : w.heap.size < x3.it.heap.size := x3.lt (by (first | with_reducible assumption | (simp only [World.size_setCell, World.size_alloc, World.size_drew]; first | with_reducible assumption | omega))); have u1 : b < x3.it.heap.size := x3.lt (by (first | with_reducible assumption | (simp only [World.size_setCell, World.size_alloc, World.size_drew]; first | with_reducible assumption | omega))); have u2 : x.it.heap.size < x3.it.heap.size := x3.lt (by (first | with_reducible assumption | (simp only [World.size_setCell, World.size_alloc, World.size_drew]; first | with_reducible assumption | omega))))
            exact bodyPost_ret (v := .int .i64 4) (by simp [results, Try.results54, go_sem, *]) rfl (⟨by rw [SF.out], by repeat (first | with_reducible exact Below.refl _ _ | with_reducible assumption | with_reducible refine Below.al ?_ _ | with_reducible refine Below.on ?_ _ | with_reducible refine Below.st ?_ (by first | assumption | (simp; done) | (simp; omega)) _ | with_reducible refine Below.drew ?_)⟩)
          by_cases s3 : ¬ dt = 5 ∧ ¬ ds = 0
          · obtain ⟨s4, s5⟩ := s3
            have SF := Lib.hid (SG.out 4 (by omega) (BD'.out 4 (by unfold colE; rw [if_neg (by rw [hN']; decide), if_neg HP'.out, if_neg HT.out, if_pos (Or.inr (Or.inr ⟨s4, s5⟩))]) (by omega)))
            have q0 : (dt != 5) = true := by simpa using s4
            have q1 : (ds != 0) = true := by simpa using s5
            go_wp2_with (go_at_call 68; refine (typed_any _ _).mono ?_; rintro e w3 ⟨rfl, hb3⟩; obtain ⟨x3, rfl⟩ := Ext.of hb3; have u0 : w.heap.size < x3.it.heap.size := x3.lt (by (first | with_reducible assumption | (simp only [World.size_setCell, World.size_alloc, World.size_drew]; first | with_reducible assumption | omega))); have u1 : b < x3.it.heap.size := x3.lt (by (first | with_reducible assumption | (simp only [World.size_setCell, World.size_alloc, World.size_drew]; first | with_reducible assumption | omega))); have u2 : x.it.heap.size < x3.it.heap.size := x3.lt (by (first | with_reducible assumption | (simp only [World.size_setCell, World.size_alloc, World.size_drew]; first | with_reducible assumption | omega))))
            exact bodyPost_ret (v := .int .i64 4) (by simp [results, Try.results54, go_sem, *]) rfl (⟨by rw [SF.out], by repeat (first | with_reducible exact Below.refl _ _ | with_reducible assumption | with_reducible refine Below.al ?_ _ | with_reducible refine Below.on ?_ _ | with_reducible refine Below.st ?_ (by first | assumption | (simp; done) | (simp; omega)) _ | with_reducible refine Below.drew ?_)⟩)
          have hs : ¬ (ds < 0 ∨ 18 < ds ∨ (¬ dt = 5 ∧ ¬ ds = 0)) := by omega
          have OK := Lib.hid (GD'.out (by unfold colE; rw [if_neg (by rw [hN']; decide), if_neg HP'.out, if_neg HT.out, if_neg hs]))
          clear hs
          by_cases s6 : dt = 5
          · have q0 : (dt != 5) = false := by simpa using s6
            clear s3
            go_wp2_with (go_at_call 68; refine (typed_any _ _).mono ?_; rintro e w3 ⟨rfl, hb3⟩; obtain ⟨x3, rfl⟩ := Ext.of hb3; have u0 : w.heap.size < x3.it.heap.size := x3.lt (by (first | with_reducible assumption | (simp only [World.size_setCell, World.size_alloc, World.size_drew]; first | with_reducible assumption | omega))); have u1 : b < x3.it.heap.size := x3.lt (by (first | with_reducible assumption | (simp only [World.size_setCell, World.size_alloc, World.size_drew]; first | with_reducible assumption | omega))); have u2 : x.it.heap.size < x3.it.heap.size := x3.lt (by (first | with_reducible assumption | (simp only [World.size_setCell, World.size_alloc, World.size_drew]; first | with_reducible assumption | omega))))
            go_roundg (go - 1)
            case measure => have := HK.out; have := HGO.out; omega
            case rel => exact ⟨j + 1, by have := HK.out; omega, by go_num, OK.out, ext_of (by repeat (first | with_reducible exact Below.refl _ _ | with_reducible assumption | with_reducible refine Below.al ?_ _ | with_reducible refine Below.on ?_ _ | with_reducible refine Below.st ?_ (by first | assumption | (simp; done) | (simp; omega)) _ | with_reducible refine Below.drew ?_))⟩
          · have q0 : (dt != 5) = true := by simpa using s6
            have q1 : (ds != 0) = false := by simp; omega
            clear s3
            go_wp2_with (go_at_call 68; refine (typed_any _ _).mono ?_; rintro e w3 ⟨rfl, hb3⟩; obtain ⟨x3, rfl⟩ := Ext.of hb3; have u0 : w.heap.size < x3.it.heap.size := x3.lt (by (first | with_reducible assumption | (simp only [World.size_setCell, World.size_alloc, World.size_drew]; first | with_reducible assumption | omega))); have u1 : b < x3.it.heap.size := x3.lt (by (first | with_reducible assumption | (simp only [World.size_setCell, World.size_alloc, World.size_drew]; first | with_reducible assumption | omega))); have u2 : x.it.heap.size < x3.it.heap.size := x3.lt (by (first | with_reducible assumption | (simp only [World.size_setCell, World.size_alloc, World.size_drew]; first | with_reducible assumption | omega))))
            go_roundg (go - 1)
            case measure => have := HK.out; have := HGO.out; omega
            case rel => exact ⟨j + 1, by have := HK.out; omega, by go_num, OK.out, ext_of (by repeat (first | with_reducible exact Below.refl _ _ | with_reducible assumption | with_reducible refine Below.al ?_ _ | with_reducible refine Below.on ?_ _ | with_reducible refine Below.st ?_ (by first | assumption | (simp; done) | (simp; omega)) _ | with_reducible refine Below.drew ?_))⟩
        · have hjk : j < k := by omega
          have hjk' : (j : Int) < (k : Int) := by omega
          have hjl : j < cs.length := by omega
          obtain ⟨b', o', hbo, _, hb', e0, e1, e2, e3⟩ := cols_in HC.out hjl
          obtain ⟨rfl, rfl⟩ : b = b' ∧ o = o' := by injection hbo with hbo; injection hbo with h1 h2; exact ⟨h1, h2⟩
          have T := fun (hq : (cs[j]'hjl).nm.toList = dn.toList) => (show ((cs.take k).any fun d => d.nm.toList == dn.toList) = true from List.any_eq_true.2 ⟨cs[j]'hjl, List.mem_take_iff_getElem.2 ⟨j, by omega, rfl⟩, by simpa using hq⟩)
          obtain ⟨d', hd'⟩ : ∃ d', cs[j]'hjl = d' := ⟨_, rfl⟩
          rw [hd'] at e0 e1 e2 e3 T
          obtain ⟨en, et, es, el⟩ := d'
          dsimp only at e0 e1 e2 e3 T
          have g0 := (y.cell b (o + j * 4) y1).trans ((x1.cell b (o + j * 4) (by simp; omega)).trans ((World.cell?_alloc_past _ _ _ zb).trans ((x.cell b (o + j * 4) (by simp; omega)).trans ((World.cell?_alloc_past _ _ _ hb).trans e0))))
          have g1 := (y.cell b (o + j * 4 + 1) y1).trans ((x1.cell b (o + j * 4 + 1) (by simp; omega)).trans ((World.cell?_alloc_past _ _ _ zb).trans ((x.cell b (o + j * 4 + 1) (by simp; omega)).trans ((World.cell?_alloc_past _ _ _ hb).trans e1))))
          have g2 := (y.cell b (o + j * 4 + 2) y1).trans ((x1.cell b (o + j * 4 + 2) (by simp; omega)).trans ((World.cell?_alloc_past _ _ _ zb).trans ((x.cell b (o + j * 4 + 2) (by simp; omega)).trans ((World.cell?_alloc_past _ _ _ hb).trans e2))))
          have g3 := (y.cell b (o + j * 4 + 3) y1).trans ((x1.cell b (o + j * 4 + 3) (by simp; omega)).trans ((World.cell?_alloc_past _ _ _ zb).trans ((x.cell b (o + j * 4 + 3) (by simp; omega)).trans ((World.cell?_alloc_past _ _ _ hb).trans e3))))
          have HJ := Lib.hid hj
          have HD0 := Lib.hid hD
          have HE := Lib.hid hd'
          clear e0 e1 e2 e3 hj hD hd' hg1
          by_cases hq : en.toList = dn.toList
          · have SF := Lib.hid (SG.out 5 (by omega) (BD'.out 5 (by unfold colE; rw [if_neg (by rw [hN']; decide), if_pos (T hq)]) (by omega)))
            have hq' : (en.toList == dn.toList) = true := by simpa using hq
            clear hq T
            go_wp2_with fail
            exact bodyPost_ret (v := .int .i64 5) (by simp [results, Try.results54, go_sem, *]) rfl (⟨by rw [SF.out], by repeat (first | with_reducible exact Below.refl _ _ | with_reducible assumption | with_reducible refine Below.al ?_ _ | with_reducible refine Below.on ?_ _ | with_reducible refine Below.st ?_ (by first | assumption | (simp; done) | (simp; omega)) _ | with_reducible refine Below.drew ?_)⟩)
          · have hq' : (en.toList == dn.toList) = false := by simpa using hq
            have HQ := Lib.hid hq
            clear hq T
            go_wp2_with fail
            go_roundg (gk - 1)
            case measure => have := HJ.out; omega
            case rel => exact ⟨j + 1, by have := HJ.out; omega, by go_num, (fun i h hi => by rcases Nat.lt_or_ge i j with q | q; exact HD0.out i h q; obtain rfl : i = j := (by omega); rw [HE.out]; exact HQ.out), ext_of (by repeat (first | with_reducible exact Below.refl _ _ | with_reducible assumption | with_reducible refine Below.al ?_ _ | with_reducible refine Below.on ?_ _ | with_reducible refine Below.st ?_ (by first | assumption | (simp; done) | (simp; omega)) _ | with_reducible refine Below.drew ?_))⟩
end Go.Proofs.Ytgooffpmiilicaa
