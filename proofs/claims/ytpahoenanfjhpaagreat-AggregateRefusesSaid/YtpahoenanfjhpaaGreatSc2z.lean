/-
  SCHEMAS: schema.Check of whatever columns. Conditions: the columns lie in memory as 'ColsAt' says.
-/
import Derived.Test.YtpahoenanfjhpaaGreatZc
set_option linter.unusedVariables false
set_option linter.unusedSimpArgs false
namespace Go.Proofs.YtpahoenanfjhpaaGreat
open Go.RowKit
set_option maxRecDepth 8000 in
set_option maxHeartbeats 2000000 in
theorem schema_any (v : Value) (cs : List Col) (key : Int) (w : World) (hc : ColsAt w w.heap.size v cs) :
    Calls Tryz.prog 56 #[.agg #[v, .int .i64 key]] w fun e w' => e = .returned (.int .i64 (schemaF cs key)) ∧ Below w.heap.size w w' := by
  have h63 := hc.1
  obtain ⟨a, c, rfl⟩ := cols_end hc
  obtain ⟨n, hl⟩ : ∃ n, cs.length = n := ⟨_, rfl⟩
  have HC : Hid (ColsAt w w.heap.size (.slice a n c) cs) := Lib.hid (by rw [← hl]; exact hc)
  clear hc
  have HL := Lib.hid hl
  rw [hl] at h63 ⊢
  by_cases hn0 : n = 0
  · have SF := Lib.hid (show schemaF cs key = 1 by unfold schemaF; rw [if_pos (by omega)])
    clear hl
    subst hn0
    go_enter Tryz.func56, Tryz.ntmps56
    go_wp2
    exact bodyPost_ret (v := .int .i64 1) (by simp [results, Tryz.results56, go_sem, *]) rfl (⟨by rw [SF.out], by with_reducible repeat (first | exact Below.refl _ _ | assumption | refine Below.al ?_ _ | refine Below.on ?_ _ | refine Below.st ?_ (by first | assumption | (simp; done) | (simp; omega)) _ | refine Below.drew ?_)⟩)
  by_cases hn12 : 12 < n
  · have SF := Lib.hid (show schemaF cs key = 7 by unfold schemaF; rw [if_neg (by omega), if_pos (by omega)])
    have h12 : (12 : Int) < (n : Int) := by omega
    clear hl
    go_enter Tryz.func56, Tryz.ntmps56
    go_wp2
    exact bodyPost_ret (v := .int .i64 7) (by simp [results, Tryz.results56, go_sem, *]) rfl (⟨by rw [SF.out], by with_reducible repeat (first | exact Below.refl _ _ | assumption | refine Below.al ?_ _ | refine Below.on ?_ _ | refine Below.st ?_ (by first | assumption | (simp; done) | (simp; omega)) _ | refine Below.drew ?_)⟩)
  have h12 : ¬ (12 : Int) < (n : Int) := by omega
  have hn0' : ¬ (n : Int) = 0 := by omega
  have SB := Lib.hid (And.intro hn0 hn12)
  have SG : Hid (∀ e : Int, ¬ e = 0 → colsE [] cs = e → schemaF cs key = e) := Lib.hid fun e he h => schemaF_bad (by omega) (by omega) h he
  clear hl hn12
  go_enter Tryz.func56, Tryz.ntmps56
  go_wp2_with fail
  go_loopg [18] n (fun g s wr => ∃ k : Nat, k + g = n ∧ s = .int .i64 (k : Int) ∧ colsE [] cs = colsE (cs.take k) (cs.drop k) ∧ ∃ x : Ext (w.alloc (.cells #[.slice a n c, .int .i64 key] 24)), x.it = wr)
  case atStart => exact ⟨0, by omega, rfl, by simp, ext_of (Below.refl _ _)⟩
  case round =>
    obtain ⟨k, hk, rfl, hF, x, rfl⟩ := hrel
    have b0 : x.it.cell? ⟨w.heap.size, 0, none⟩ = some (.slice a n c) := (x.cell w.heap.size 0 (by simp)).trans (by simp [go_sem])
    have b1 : x.it.cell? ⟨w.heap.size, 1, none⟩ = some (.int .i64 key) := (x.cell w.heap.size 1 (by simp)).trans (by simp [go_sem])
    have z0 : w.heap.size < x.it.heap.size := x.lt (by simp)
    have hx : Below w.heap.size w x.it := Below.on (Below.al (Below.refl _ _) _) x
    have hx1 := x.below
    by_cases hg0 : gk = 0
    · subst hg0
      obtain rfl : k = n := by omega
      have CE : colsE [] cs = 0 := by rw [hF, List.drop_of_length_le (by rw [HL.out]; exact Nat.le_refl _)]; rfl
      have SK : schemaF cs key = (if key < 0 ∨ (k : Int) ≤ key then 4 else 0) := by have := SB.out; have := HL.out; unfold schemaF; rw [if_neg (by omega), if_neg (by omega), if_pos CE, HL.out]
      clear hF hk CE
      by_cases k0 : key < 0
      · have SF := Lib.hid (SK.trans (if_pos (Or.inl k0)))
        clear SK
        go_wp2
        exact bodyPost_ret (v := .int .i64 4) (by simp [results, Tryz.results56, go_sem, *]) rfl (⟨by rw [SF.out], by with_reducible repeat (first | exact Below.refl _ _ | assumption | refine Below.al ?_ _ | refine Below.on ?_ _ | refine Below.st ?_ (by first | assumption | (simp; done) | (simp; omega)) _ | refine Below.drew ?_)⟩)
      · by_cases k1 : (k : Int) ≤ key
        · have SF := Lib.hid (SK.trans (if_pos (Or.inr k1)))
          clear SK
          go_wp2
          exact bodyPost_ret (v := .int .i64 4) (by simp [results, Tryz.results56, go_sem, *]) rfl (⟨by rw [SF.out], by with_reducible repeat (first | exact Below.refl _ _ | assumption | refine Below.al ?_ _ | refine Below.on ?_ _ | refine Below.st ?_ (by first | assumption | (simp; done) | (simp; omega)) _ | refine Below.drew ?_)⟩)
        · have SF := Lib.hid (SK.trans (if_neg (by omega)))
          clear SK
          go_wp2
          exact bodyPost_ret (v := .int .i64 0) (by simp [results, Tryz.results56, go_sem, *]) rfl (⟨by rw [SF.out], by with_reducible repeat (first | exact Below.refl _ _ | assumption | refine Below.al ?_ _ | refine Below.on ?_ _ | refine Below.st ?_ (by first | assumption | (simp; done) | (simp; omega)) _ | refine Below.drew ?_)⟩)
    · have hkn : k < n := by omega
      have hkn' : (k : Int) < n := by omega
      have hkl : k < cs.length := by rw [HL.out]; exact hkn
      obtain ⟨b, o, rfl, hcap, hb, c0, c1, c2, c3⟩ := cols_in HC.out hkl
      have BD := fun e => colsE_bad (e := e) hkl
      have GD := colsE_ok hkl
      have FA := findFrom_at (nm := (cs[k]'hkl).nm) (cs.take k) (cs[k]'hkl) (cs.drop (k + 1)) 0 rfl
      rw [take_cons_drop hkl] at FA
      obtain ⟨d, hd⟩ : ∃ d, cs[k]'hkl = d := ⟨_, rfl⟩
      rw [hd] at c0 c1 c2 c3 BD GD FA
      rw [← hF] at BD GD
      obtain ⟨dn, dt, ds, dl⟩ := d
      dsimp only at c0 c1 c2 c3 FA
      have f0 := (x.cell b (o + k * 4) (by simp; omega)).trans ((World.cell?_alloc_past _ _ _ hb).trans c0)
      have f1 := (x.cell b (o + k * 4 + 1) (by simp; omega)).trans ((World.cell?_alloc_past _ _ _ hb).trans c1)
      have f2 := (x.cell b (o + k * 4 + 2) (by simp; omega)).trans ((World.cell?_alloc_past _ _ _ hb).trans c2)
      have f3 := (x.cell b (o + k * 4 + 3) (by simp; omega)).trans ((World.cell?_alloc_past _ _ _ hb).trans c3)
      have zb : b < x.it.heap.size := x.lt (by simp; omega)
      have HK := Lib.hid hk
      have BD' := Lib.hid BD
      have GD' := Lib.hid GD
      have HD := Lib.hid hd
      have FA' := Lib.hid FA
      clear FA
      clear c0 c1 c2 c3 hd hk hg0 hF BD GD
      by_cases hN : nameF dn.toList = false
      · have SF := Lib.hid (SG.out 3 (by omega) (BD'.out 3 (by unfold colE; rw [if_pos hN]) (by omega)))
        go_wp2_with (first | (go_at_call 80; refine (name_any _ _).mono ?_; rintro e w1 ⟨rfl, hb1⟩; obtain ⟨x1, rfl⟩ := Ext.of hb1; have y0 : w.heap.size < x1.it.heap.size := x1.lt (by (first | with_reducible assumption | (simp only [World.size_setCell, World.size_alloc, World.size_drew]; first | with_reducible assumption | omega))); have y1 : b < x1.it.heap.size := x1.lt (by (first | with_reducible assumption | (simp only [World.size_setCell, World.size_alloc, World.size_drew]; first | with_reducible assumption | omega))); have y2 : x.it.heap.size < x1.it.heap.size := x1.lt (by simp)) | (go_at_call 81; have hC1 : ColsAt x1.it x1.it.heap.size _ cs := HC.out.mono (by with_reducible repeat (first | exact Below.refl _ _ | assumption | refine Below.al ?_ _ | refine Below.on ?_ _ | refine Below.st ?_ (by first | assumption | (simp; done) | (simp; omega)) _ | refine Below.drew ?_)) (by omega); refine (find_any _ cs key _ _ hC1).mono ?_; rintro e w2 ⟨rfl, hb2⟩; obtain ⟨x2, rfl⟩ := Ext.of hb2; have v0 : w.heap.size < x2.it.heap.size := x2.lt y0; have v1 : b < x2.it.heap.size := x2.lt y1; have v2 : x.it.heap.size < x2.it.heap.size := x2.lt y2))
        exact bodyPost_ret (v := .int .i64 3) (by simp [results, Tryz.results56, go_sem, *]) rfl (⟨by rw [SF.out], by with_reducible repeat (first | exact Below.refl _ _ | assumption | refine Below.al ?_ _ | refine Below.on ?_ _ | refine Below.st ?_ (by first | assumption | (simp; done) | (simp; omega)) _ | refine Below.drew ?_)⟩)
      have hN' : nameF dn.toList = true := by simpa using hN
      clear hN
      have FB : -1 ≤ findFrom dn 0 cs ∧ findFrom dn 0 cs < 0 + cs.length + 1 := findFrom_bd cs 0 (by omega)
      by_cases hF : findFrom dn 0 cs < (k : Int)
      · have HP : ((cs.take k).any fun d => d.nm.toList == dn.toList) = true := FA'.out.1.1 (by rw [List.length_take]; omega)
        have SF := Lib.hid (SG.out 5 (by omega) (BD'.out 5 (by unfold colE; rw [if_neg (by rw [hN']; decide), if_pos HP]) (by omega)))
        clear HP FB
        go_wp2_with (first | (go_at_call 80; refine (name_any _ _).mono ?_; rintro e w1 ⟨rfl, hb1⟩; obtain ⟨x1, rfl⟩ := Ext.of hb1; have y0 : w.heap.size < x1.it.heap.size := x1.lt (by (first | with_reducible assumption | (simp only [World.size_setCell, World.size_alloc, World.size_drew]; first | with_reducible assumption | omega))); have y1 : b < x1.it.heap.size := x1.lt (by (first | with_reducible assumption | (simp only [World.size_setCell, World.size_alloc, World.size_drew]; first | with_reducible assumption | omega))); have y2 : x.it.heap.size < x1.it.heap.size := x1.lt (by simp)) | (go_at_call 81; have hC1 : ColsAt x1.it x1.it.heap.size _ cs := HC.out.mono (by with_reducible repeat (first | exact Below.refl _ _ | assumption | refine Below.al ?_ _ | refine Below.on ?_ _ | refine Below.st ?_ (by first | assumption | (simp; done) | (simp; omega)) _ | refine Below.drew ?_)) (by omega); refine (find_any _ cs key _ _ hC1).mono ?_; rintro e w2 ⟨rfl, hb2⟩; obtain ⟨x2, rfl⟩ := Ext.of hb2; have v0 : w.heap.size < x2.it.heap.size := x2.lt y0; have v1 : b < x2.it.heap.size := x2.lt y1; have v2 : x.it.heap.size < x2.it.heap.size := x2.lt y2))
        exact bodyPost_ret (v := .int .i64 5) (by simp [results, Tryz.results56, go_sem, *]) rfl (⟨by rw [SF.out], by with_reducible repeat (first | exact Below.refl _ _ | assumption | refine Below.al ?_ _ | refine Below.on ?_ _ | refine Below.st ?_ (by first | assumption | (simp; done) | (simp; omega)) _ | refine Below.drew ?_)⟩)
      have HP : ¬ ((cs.take k).any fun d => d.nm.toList == dn.toList) = true := fun q => hF (by have := FA'.out.1.2 q; rw [List.length_take] at this; omega)
      have HP' := Lib.hid HP
      clear HP FB
      by_cases t1 : dt < 1
      · have SF := Lib.hid (SG.out 11 (by omega) (BD'.out 11 (by unfold colE; rw [if_neg (by rw [hN']; decide), if_neg HP'.out, if_pos (Or.inl t1)]) (by omega)))
        go_wp2_with (first | (go_at_call 80; refine (name_any _ _).mono ?_; rintro e w1 ⟨rfl, hb1⟩; obtain ⟨x1, rfl⟩ := Ext.of hb1; have y0 : w.heap.size < x1.it.heap.size := x1.lt (by (first | with_reducible assumption | (simp only [World.size_setCell, World.size_alloc, World.size_drew]; first | with_reducible assumption | omega))); have y1 : b < x1.it.heap.size := x1.lt (by (first | with_reducible assumption | (simp only [World.size_setCell, World.size_alloc, World.size_drew]; first | with_reducible assumption | omega))); have y2 : x.it.heap.size < x1.it.heap.size := x1.lt (by simp)) | (go_at_call 81; have hC1 : ColsAt x1.it x1.it.heap.size _ cs := HC.out.mono (by with_reducible repeat (first | exact Below.refl _ _ | assumption | refine Below.al ?_ _ | refine Below.on ?_ _ | refine Below.st ?_ (by first | assumption | (simp; done) | (simp; omega)) _ | refine Below.drew ?_)) (by omega); refine (find_any _ cs key _ _ hC1).mono ?_; rintro e w2 ⟨rfl, hb2⟩; obtain ⟨x2, rfl⟩ := Ext.of hb2; have v0 : w.heap.size < x2.it.heap.size := x2.lt y0; have v1 : b < x2.it.heap.size := x2.lt y1; have v2 : x.it.heap.size < x2.it.heap.size := x2.lt y2))
        exact bodyPost_ret (v := .int .i64 11) (by simp [results, Tryz.results56, go_sem, *]) rfl (⟨by rw [SF.out], by with_reducible repeat (first | exact Below.refl _ _ | assumption | refine Below.al ?_ _ | refine Below.on ?_ _ | refine Below.st ?_ (by first | assumption | (simp; done) | (simp; omega)) _ | refine Below.drew ?_)⟩)
      by_cases t2 : 5 < dt
      · have SF := Lib.hid (SG.out 11 (by omega) (BD'.out 11 (by unfold colE; rw [if_neg (by rw [hN']; decide), if_neg HP'.out, if_pos (Or.inr t2)]) (by omega)))
        go_wp2_with (first | (go_at_call 80; refine (name_any _ _).mono ?_; rintro e w1 ⟨rfl, hb1⟩; obtain ⟨x1, rfl⟩ := Ext.of hb1; have y0 : w.heap.size < x1.it.heap.size := x1.lt (by (first | with_reducible assumption | (simp only [World.size_setCell, World.size_alloc, World.size_drew]; first | with_reducible assumption | omega))); have y1 : b < x1.it.heap.size := x1.lt (by (first | with_reducible assumption | (simp only [World.size_setCell, World.size_alloc, World.size_drew]; first | with_reducible assumption | omega))); have y2 : x.it.heap.size < x1.it.heap.size := x1.lt (by simp)) | (go_at_call 81; have hC1 : ColsAt x1.it x1.it.heap.size _ cs := HC.out.mono (by with_reducible repeat (first | exact Below.refl _ _ | assumption | refine Below.al ?_ _ | refine Below.on ?_ _ | refine Below.st ?_ (by first | assumption | (simp; done) | (simp; omega)) _ | refine Below.drew ?_)) (by omega); refine (find_any _ cs key _ _ hC1).mono ?_; rintro e w2 ⟨rfl, hb2⟩; obtain ⟨x2, rfl⟩ := Ext.of hb2; have v0 : w.heap.size < x2.it.heap.size := x2.lt y0; have v1 : b < x2.it.heap.size := x2.lt y1; have v2 : x.it.heap.size < x2.it.heap.size := x2.lt y2))
        exact bodyPost_ret (v := .int .i64 11) (by simp [results, Tryz.results56, go_sem, *]) rfl (⟨by rw [SF.out], by with_reducible repeat (first | exact Below.refl _ _ | assumption | refine Below.al ?_ _ | refine Below.on ?_ _ | refine Below.st ?_ (by first | assumption | (simp; done) | (simp; omega)) _ | refine Below.drew ?_)⟩)
      have ht : ¬ (dt < 1 ∨ 5 < dt) := by omega
      have HT := Lib.hid ht
      clear ht
      by_cases s1 : ds < 0
      · have SF := Lib.hid (SG.out 4 (by omega) (BD'.out 4 (by unfold colE; rw [if_neg (by rw [hN']; decide), if_neg HP'.out, if_neg HT.out, if_pos (Or.inl s1)]) (by omega)))
        go_wp2_with (first | (go_at_call 80; refine (name_any _ _).mono ?_; rintro e w1 ⟨rfl, hb1⟩; obtain ⟨x1, rfl⟩ := Ext.of hb1; have y0 : w.heap.size < x1.it.heap.size := x1.lt (by (first | with_reducible assumption | (simp only [World.size_setCell, World.size_alloc, World.size_drew]; first | with_reducible assumption | omega))); have y1 : b < x1.it.heap.size := x1.lt (by (first | with_reducible assumption | (simp only [World.size_setCell, World.size_alloc, World.size_drew]; first | with_reducible assumption | omega))); have y2 : x.it.heap.size < x1.it.heap.size := x1.lt (by simp)) | (go_at_call 81; have hC1 : ColsAt x1.it x1.it.heap.size _ cs := HC.out.mono (by with_reducible repeat (first | exact Below.refl _ _ | assumption | refine Below.al ?_ _ | refine Below.on ?_ _ | refine Below.st ?_ (by first | assumption | (simp; done) | (simp; omega)) _ | refine Below.drew ?_)) (by omega); refine (find_any _ cs key _ _ hC1).mono ?_; rintro e w2 ⟨rfl, hb2⟩; obtain ⟨x2, rfl⟩ := Ext.of hb2; have v0 : w.heap.size < x2.it.heap.size := x2.lt y0; have v1 : b < x2.it.heap.size := x2.lt y1; have v2 : x.it.heap.size < x2.it.heap.size := x2.lt y2))
        exact bodyPost_ret (v := .int .i64 4) (by simp [results, Tryz.results56, go_sem, *]) rfl (⟨by rw [SF.out], by with_reducible repeat (first | exact Below.refl _ _ | assumption | refine Below.al ?_ _ | refine Below.on ?_ _ | refine Below.st ?_ (by first | assumption | (simp; done) | (simp; omega)) _ | refine Below.drew ?_)⟩)
      by_cases s2 : 18 < ds
      · have SF := Lib.hid (SG.out 4 (by omega) (BD'.out 4 (by unfold colE; rw [if_neg (by rw [hN']; decide), if_neg HP'.out, if_neg HT.out, if_pos (Or.inr (Or.inl s2))]) (by omega)))
        go_wp2_with (first | (go_at_call 80; refine (name_any _ _).mono ?_; rintro e w1 ⟨rfl, hb1⟩; obtain ⟨x1, rfl⟩ := Ext.of hb1; have y0 : w.heap.size < x1.it.heap.size := x1.lt (by (first | with_reducible assumption | (simp only [World.size_setCell, World.size_alloc, World.size_drew]; first | with_reducible assumption | omega))); have y1 : b < x1.it.heap.size := x1.lt (by (first | with_reducible assumption | (simp only [World.size_setCell, World.size_alloc, World.size_drew]; first | with_reducible assumption | omega))); have y2 : x.it.heap.size < x1.it.heap.size := x1.lt (by simp)) | (go_at_call 81; have hC1 : ColsAt x1.it x1.it.heap.size _ cs := HC.out.mono (by with_reducible repeat (first | exact Below.refl _ _ | assumption | refine Below.al ?_ _ | refine Below.on ?_ _ | refine Below.st ?_ (by first | assumption | (simp; done) | (simp; omega)) _ | refine Below.drew ?_)) (by omega); refine (find_any _ cs key _ _ hC1).mono ?_; rintro e w2 ⟨rfl, hb2⟩; obtain ⟨x2, rfl⟩ := Ext.of hb2; have v0 : w.heap.size < x2.it.heap.size := x2.lt y0; have v1 : b < x2.it.heap.size := x2.lt y1; have v2 : x.it.heap.size < x2.it.heap.size := x2.lt y2))
        exact bodyPost_ret (v := .int .i64 4) (by simp [results, Tryz.results56, go_sem, *]) rfl (⟨by rw [SF.out], by with_reducible repeat (first | exact Below.refl _ _ | assumption | refine Below.al ?_ _ | refine Below.on ?_ _ | refine Below.st ?_ (by first | assumption | (simp; done) | (simp; omega)) _ | refine Below.drew ?_)⟩)
      by_cases s3 : ¬ dt = 5 ∧ ¬ ds = 0
      · obtain ⟨s4, s5⟩ := s3
        have SF := Lib.hid (SG.out 4 (by omega) (BD'.out 4 (by unfold colE; rw [if_neg (by rw [hN']; decide), if_neg HP'.out, if_neg HT.out, if_pos (Or.inr (Or.inr ⟨s4, s5⟩))]) (by omega)))
        have q0 : (dt != 5) = true := by simpa using s4
        have q1 : (ds != 0) = true := by simpa using s5
        go_wp2_with (first | (go_at_call 80; refine (name_any _ _).mono ?_; rintro e w1 ⟨rfl, hb1⟩; obtain ⟨x1, rfl⟩ := Ext.of hb1; have y0 : w.heap.size < x1.it.heap.size := x1.lt (by (first | with_reducible assumption | (simp only [World.size_setCell, World.size_alloc, World.size_drew]; first | with_reducible assumption | omega))); have y1 : b < x1.it.heap.size := x1.lt (by (first | with_reducible assumption | (simp only [World.size_setCell, World.size_alloc, World.size_drew]; first | with_reducible assumption | omega))); have y2 : x.it.heap.size < x1.it.heap.size := x1.lt (by simp)) | (go_at_call 81; have hC1 : ColsAt x1.it x1.it.heap.size _ cs := HC.out.mono (by with_reducible repeat (first | exact Below.refl _ _ | assumption | refine Below.al ?_ _ | refine Below.on ?_ _ | refine Below.st ?_ (by first | assumption | (simp; done) | (simp; omega)) _ | refine Below.drew ?_)) (by omega); refine (find_any _ cs key _ _ hC1).mono ?_; rintro e w2 ⟨rfl, hb2⟩; obtain ⟨x2, rfl⟩ := Ext.of hb2; have v0 : w.heap.size < x2.it.heap.size := x2.lt y0; have v1 : b < x2.it.heap.size := x2.lt y1; have v2 : x.it.heap.size < x2.it.heap.size := x2.lt y2))
        exact bodyPost_ret (v := .int .i64 4) (by simp [results, Tryz.results56, go_sem, *]) rfl (⟨by rw [SF.out], by with_reducible repeat (first | exact Below.refl _ _ | assumption | refine Below.al ?_ _ | refine Below.on ?_ _ | refine Below.st ?_ (by first | assumption | (simp; done) | (simp; omega)) _ | refine Below.drew ?_)⟩)
      have hs : ¬ (ds < 0 ∨ 18 < ds ∨ (¬ dt = 5 ∧ ¬ ds = 0)) := by omega
      have OK := Lib.hid (GD'.out (by unfold colE; rw [if_neg (by rw [hN']; decide), if_neg HP'.out, if_neg HT.out, if_neg hs]))
      clear hs
      by_cases s6 : dt = 5
      · have q0 : (dt != 5) = false := by simpa using s6
        clear s3
        go_wp2_with (first | (go_at_call 80; refine (name_any _ _).mono ?_; rintro e w1 ⟨rfl, hb1⟩; obtain ⟨x1, rfl⟩ := Ext.of hb1; have y0 : w.heap.size < x1.it.heap.size := x1.lt (by (first | with_reducible assumption | (simp only [World.size_setCell, World.size_alloc, World.size_drew]; first | with_reducible assumption | omega))); have y1 : b < x1.it.heap.size := x1.lt (by (first | with_reducible assumption | (simp only [World.size_setCell, World.size_alloc, World.size_drew]; first | with_reducible assumption | omega))); have y2 : x.it.heap.size < x1.it.heap.size := x1.lt (by simp)) | (go_at_call 81; have hC1 : ColsAt x1.it x1.it.heap.size _ cs := HC.out.mono (by with_reducible repeat (first | exact Below.refl _ _ | assumption | refine Below.al ?_ _ | refine Below.on ?_ _ | refine Below.st ?_ (by first | assumption | (simp; done) | (simp; omega)) _ | refine Below.drew ?_)) (by omega); refine (find_any _ cs key _ _ hC1).mono ?_; rintro e w2 ⟨rfl, hb2⟩; obtain ⟨x2, rfl⟩ := Ext.of hb2; have v0 : w.heap.size < x2.it.heap.size := x2.lt y0; have v1 : b < x2.it.heap.size := x2.lt y1; have v2 : x.it.heap.size < x2.it.heap.size := x2.lt y2))
        go_roundg (gk - 1)
        case measure => have := HK.out; omega
        case rel => exact ⟨k + 1, by have := HK.out; omega, by go_num, OK.out, ext_of (by with_reducible repeat (first | exact Below.refl _ _ | assumption | refine Below.al ?_ _ | refine Below.on ?_ _ | refine Below.st ?_ (by first | assumption | (simp; done) | (simp; omega)) _ | refine Below.drew ?_))⟩
      · have q0 : (dt != 5) = true := by simpa using s6
        have q1 : (ds != 0) = false := by simp; omega
        clear s3
        go_wp2_with (first | (go_at_call 80; refine (name_any _ _).mono ?_; rintro e w1 ⟨rfl, hb1⟩; obtain ⟨x1, rfl⟩ := Ext.of hb1; have y0 : w.heap.size < x1.it.heap.size := x1.lt (by (first | with_reducible assumption | (simp only [World.size_setCell, World.size_alloc, World.size_drew]; first | with_reducible assumption | omega))); have y1 : b < x1.it.heap.size := x1.lt (by (first | with_reducible assumption | (simp only [World.size_setCell, World.size_alloc, World.size_drew]; first | with_reducible assumption | omega))); have y2 : x.it.heap.size < x1.it.heap.size := x1.lt (by simp)) | (go_at_call 81; have hC1 : ColsAt x1.it x1.it.heap.size _ cs := HC.out.mono (by with_reducible repeat (first | exact Below.refl _ _ | assumption | refine Below.al ?_ _ | refine Below.on ?_ _ | refine Below.st ?_ (by first | assumption | (simp; done) | (simp; omega)) _ | refine Below.drew ?_)) (by omega); refine (find_any _ cs key _ _ hC1).mono ?_; rintro e w2 ⟨rfl, hb2⟩; obtain ⟨x2, rfl⟩ := Ext.of hb2; have v0 : w.heap.size < x2.it.heap.size := x2.lt y0; have v1 : b < x2.it.heap.size := x2.lt y1; have v2 : x.it.heap.size < x2.it.heap.size := x2.lt y2))
        go_roundg (gk - 1)
        case measure => have := HK.out; omega
        case rel => exact ⟨k + 1, by have := HK.out; omega, by go_num, OK.out, ext_of (by with_reducible repeat (first | exact Below.refl _ _ | assumption | refine Below.al ?_ _ | refine Below.on ?_ _ | refine Below.st ?_ (by first | assumption | (simp; done) | (simp; omega)) _ | refine Below.drew ?_))⟩
end Go.Proofs.YtpahoenanfjhpaaGreat
