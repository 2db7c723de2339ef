/-
  BOUNDS: the reference's Meet. Conditions: none.
-/
import Derived.Test.YtjojnakgadfgmaaMeet
set_option linter.unusedVariables false
set_option linter.unusedSimpArgs false
namespace Go.Proofs.Ytjojnakgadfgmaa
open Go.RowKit
theorem dec_le (c : Int) : decide (c ≤ 0) = !decide (0 < c) := by
  by_cases h : c ≤ 0 <;> simp [h] <;> omega
theorem meet_chk {t : Int} {a b : Bnd} (ha : checkF t a = true) (hb : checkF t b = true) (h1 : a.some = true) (h2 : b.some = true) : checkF t (meetOut t a b) = !((meetOut t a b).hasLo && (meetOut t a b).hasHi && decide (0 < cmpV t (meetOut t a b).lo (meetOut t a b).hi)) := by
  obtain ⟨an, as', al, ah, L, H⟩ := a
  obtain ⟨bn, bs, bl, bh, M, G⟩ := b
  dsimp only at h1 h2
  subst h1 h2
  simp only [checkF, Bool.and_eq_true] at ha hb
  obtain ⟨⟨⟨a1, a2⟩, _⟩, _⟩ := ha
  obtain ⟨⟨⟨b1, b2⟩, _⟩, _⟩ := hb
  have e1 : endF (loF t ⟨an, true, al, ah, L, H⟩ ⟨bn, true, bl, bh, M, G⟩).1 (loF t ⟨an, true, al, ah, L, H⟩ ⟨bn, true, bl, bh, M, G⟩).2 = true := by
    unfold loF
    by_cases q : loC t ⟨an, true, al, ah, L, H⟩ ⟨bn, true, bl, bh, M, G⟩ = true
    · rw [if_pos q]
      have hl : bl = true := by unfold loC at q; simp at q; exact q.1
      subst hl; exact b1
    · rw [if_neg q]; exact a1
  have e2 : endF (hiF t ⟨an, true, al, ah, L, H⟩ ⟨bn, true, bl, bh, M, G⟩).1 (hiF t ⟨an, true, al, ah, L, H⟩ ⟨bn, true, bl, bh, M, G⟩).2 = true := by
    unfold hiF
    by_cases q : hiC t ⟨an, true, al, ah, L, H⟩ ⟨bn, true, bl, bh, M, G⟩ = true
    · rw [if_pos q]
      have hl : bh = true := by unfold hiC at q; simp at q; exact q.1
      subst hl; exact b2
    · rw [if_neg q]; exact a2
  simp only [checkF, meetOut, e1, e2, Bool.true_and, Bool.true_or]
  cases (loF t ⟨an, true, al, ah, L, H⟩ ⟨bn, true, bl, bh, M, G⟩).1 <;> cases (hiF t ⟨an, true, al, ah, L, H⟩ ⟨bn, true, bl, bh, M, G⟩).1 <;> simp
  exact dec_le _
set_option maxRecDepth 8000 in
set_option maxHeartbeats 8000000 in
theorem refMeet_any (t : Int) (an as' al ah : Bool) (ln : Bool) (l : Int) (ls : ByteArray) (hn : Bool) (h : Int) (hs : ByteArray) (bn bs bl bh : Bool) (lm : Bool) (m : Int) (ms : ByteArray) (gn : Bool) (g : Int) (gs : ByteArray) (w : World) : Calls Try.prog 44 #[.int .i64 t, .agg #[.bool an, .bool as', .bool al, .bool ah, .bool ln, .int .i64 l, .string ls, .bool hn, .int .i64 h, .string hs], .agg #[.bool bn, .bool bs, .bool bl, .bool bh, .bool lm, .int .i64 m, .string ms, .bool gn, .int .i64 g, .string gs]] w fun e w' => e = .returned (meetF t ⟨an, as', al, ah, ⟨ln, l, ls⟩, ⟨hn, h, hs⟩⟩ ⟨bn, bs, bl, bh, ⟨lm, m, ms⟩, ⟨gn, g, gs⟩⟩).enc' ∧ Below w.heap.size w w' := by
  obtain ⟨p, hp⟩ : ∃ p, checkF t ⟨an, as', al, ah, ⟨ln, l, ls⟩, ⟨hn, h, hs⟩⟩ = p := ⟨_, rfl⟩
  obtain ⟨q, hq⟩ : ∃ q, checkF t ⟨bn, bs, bl, bh, ⟨lm, m, ms⟩, ⟨gn, g, gs⟩⟩ = q := ⟨_, rfl⟩
  cases p
  · have ev := Lib.hid (show meetF t ⟨an, as', al, ah, ⟨ln, l, ls⟩, ⟨hn, h, hs⟩⟩ ⟨bn, bs, bl, bh, ⟨lm, m, ms⟩, ⟨gn, g, gs⟩⟩ = ⟨false, false, false, false, Val.o, Val.o⟩ by unfold meetF; rw [if_pos (.inl hp)])
    go_enter Try.func44, Try.ntmps44
    go_wp2_with (go_at_call 17; refine (refCheck_any _ _ _ _ _ _ _ _ _ _ _ _).mono ?_; rintro e w1 ⟨rfl, hb1⟩; obtain ⟨x1, rfl⟩ := Ext.of hb1; have z0 : w.heap.size < x1.it.heap.size := x1.lt (by (first | assumption | (simp; done) | (simp; omega))); have z1 : w.heap.size + 1 < x1.it.heap.size := x1.lt (by (first | assumption | (simp; done) | (simp; omega))); have z2 : w.heap.size + 1 + 1 < x1.it.heap.size := x1.lt (by (first | assumption | (simp; done) | (simp; omega))))
    exact bodyPost_ret (v := .agg #[.bool false, .bool false, .bool false, .bool false, .bool false, .int .i64 0, .string ⟨#[]⟩, .bool false, .int .i64 0, .string ⟨#[]⟩]) (by simp [results, Try.results44, go_sem, *]) rfl (⟨by rw [ev.out]; rfl, by repeat (first | with_reducible exact Below.refl _ _ | with_reducible assumption | with_reducible refine Below.al ?_ _ | with_reducible refine Below.on ?_ _ | with_reducible refine Below.st ?_ (by first | assumption | (simp; done) | (simp; omega)) _ | with_reducible refine Below.drew ?_)⟩)
  cases q
  · have ev := Lib.hid (show meetF t ⟨an, as', al, ah, ⟨ln, l, ls⟩, ⟨hn, h, hs⟩⟩ ⟨bn, bs, bl, bh, ⟨lm, m, ms⟩, ⟨gn, g, gs⟩⟩ = ⟨false, false, false, false, Val.o, Val.o⟩ by unfold meetF; rw [if_pos (.inr hq)])
    go_enter Try.func44, Try.ntmps44
    go_wp2_with (go_at_call 17; refine (refCheck_any _ _ _ _ _ _ _ _ _ _ _ _).mono ?_; rintro e w1 ⟨rfl, hb1⟩; obtain ⟨x1, rfl⟩ := Ext.of hb1; have z0 : w.heap.size < x1.it.heap.size := x1.lt (by (first | assumption | (simp; done) | (simp; omega))); have z1 : w.heap.size + 1 < x1.it.heap.size := x1.lt (by (first | assumption | (simp; done) | (simp; omega))); have z2 : w.heap.size + 1 + 1 < x1.it.heap.size := x1.lt (by (first | assumption | (simp; done) | (simp; omega))))
    exact bodyPost_ret (v := .agg #[.bool false, .bool false, .bool false, .bool false, .bool false, .int .i64 0, .string ⟨#[]⟩, .bool false, .int .i64 0, .string ⟨#[]⟩]) (by simp [results, Try.results44, go_sem, *]) rfl (⟨by rw [ev.out]; rfl, by repeat (first | with_reducible exact Below.refl _ _ | with_reducible assumption | with_reducible refine Below.al ?_ _ | with_reducible refine Below.on ?_ _ | with_reducible refine Below.st ?_ (by first | assumption | (simp; done) | (simp; omega)) _ | with_reducible refine Below.drew ?_)⟩)
  have e0 := Lib.hid (show meetF t ⟨an, as', al, ah, ⟨ln, l, ls⟩, ⟨hn, h, hs⟩⟩ ⟨bn, bs, bl, bh, ⟨lm, m, ms⟩, ⟨gn, g, gs⟩⟩ = if as' = false ∨ bs = false then ⟨an && bn, false, false, false, Val.o, Val.o⟩ else if checkF t (meetOut t ⟨an, as', al, ah, ⟨ln, l, ls⟩, ⟨hn, h, hs⟩⟩ ⟨bn, bs, bl, bh, ⟨lm, m, ms⟩, ⟨gn, g, gs⟩⟩) = true then meetOut t ⟨an, as', al, ah, ⟨ln, l, ls⟩, ⟨hn, h, hs⟩⟩ ⟨bn, bs, bl, bh, ⟨lm, m, ms⟩, ⟨gn, g, gs⟩⟩ else ⟨an && bn, false, false, false, Val.o, Val.o⟩ by unfold meetF; rw [if_neg (by rw [hp, hq]; decide)])
  have HPQ := hp
  cases an
  · cases as'
    · have ev := Lib.hid (e0.out.trans (if_pos (.inl rfl)))
      clear e0
      go_enter Try.func44, Try.ntmps44
      go_wp2_with (go_at_call 17; refine (refCheck_any _ _ _ _ _ _ _ _ _ _ _ _).mono ?_; rintro e w1 ⟨rfl, hb1⟩; obtain ⟨x1, rfl⟩ := Ext.of hb1; have z0 : w.heap.size < x1.it.heap.size := x1.lt (by (first | assumption | (simp; done) | (simp; omega))); have z1 : w.heap.size + 1 < x1.it.heap.size := x1.lt (by (first | assumption | (simp; done) | (simp; omega))); have z2 : w.heap.size + 1 + 1 < x1.it.heap.size := x1.lt (by (first | assumption | (simp; done) | (simp; omega))))
      exact bodyPost_ret (v := .agg #[.bool false, .bool false, .bool false, .bool false, .bool false, .int .i64 0, .string ⟨#[]⟩, .bool false, .int .i64 0, .string ⟨#[]⟩]) (by simp [results, Try.results44, go_sem, *]) rfl (⟨by rw [ev.out]; rfl, by repeat (first | with_reducible exact Below.refl _ _ | with_reducible assumption | with_reducible refine Below.al ?_ _ | with_reducible refine Below.on ?_ _ | with_reducible refine Below.st ?_ (by first | assumption | (simp; done) | (simp; omega)) _ | with_reducible refine Below.drew ?_)⟩)
    · cases bs
      · have ev := Lib.hid (e0.out.trans (if_pos (.inr rfl)))
        clear e0
        go_enter Try.func44, Try.ntmps44
        go_wp2_with (go_at_call 17; refine (refCheck_any _ _ _ _ _ _ _ _ _ _ _ _).mono ?_; rintro e w1 ⟨rfl, hb1⟩; obtain ⟨x1, rfl⟩ := Ext.of hb1; have z0 : w.heap.size < x1.it.heap.size := x1.lt (by (first | assumption | (simp; done) | (simp; omega))); have z1 : w.heap.size + 1 < x1.it.heap.size := x1.lt (by (first | assumption | (simp; done) | (simp; omega))); have z2 : w.heap.size + 1 + 1 < x1.it.heap.size := x1.lt (by (first | assumption | (simp; done) | (simp; omega))))
        exact bodyPost_ret (v := .agg #[.bool false, .bool false, .bool false, .bool false, .bool false, .int .i64 0, .string ⟨#[]⟩, .bool false, .int .i64 0, .string ⟨#[]⟩]) (by simp [results, Try.results44, go_sem, *]) rfl (⟨by rw [ev.out]; rfl, by repeat (first | with_reducible exact Below.refl _ _ | with_reducible assumption | with_reducible refine Below.al ?_ _ | with_reducible refine Below.on ?_ _ | with_reducible refine Below.st ?_ (by first | assumption | (simp; done) | (simp; omega)) _ | with_reducible refine Below.drew ?_)⟩)
      · have ev := Lib.hid (e0.out.trans (if_neg (by decide)))
        clear e0
        go_enter Try.func44, Try.ntmps44
        go_upto_region 7 with (go_at_call 17; refine (refCheck_any _ _ _ _ _ _ _ _ _ _ _ _).mono ?_; rintro e w1 ⟨rfl, hb1⟩; obtain ⟨x1, rfl⟩ := Ext.of hb1; have z0 : w.heap.size < x1.it.heap.size := x1.lt (by (first | assumption | (simp; done) | (simp; omega))); have z1 : w.heap.size + 1 < x1.it.heap.size := x1.lt (by (first | assumption | (simp; done) | (simp; omega))); have z2 : w.heap.size + 1 + 1 < x1.it.heap.size := x1.lt (by (first | assumption | (simp; done) | (simp; omega))))
        rename_i x0 hb0 y0 y1 y2
        refine captureE ?_
        intro y8 e8
        have ka0 : y8.it.cell? ⟨w.heap.size, 0, none⟩ = some (.bool false) := by simp (maxDischargeDepth := 9) [go_sem, *]
        have ka1 : y8.it.cell? ⟨w.heap.size, 1, none⟩ = some (.bool true) := by simp (maxDischargeDepth := 9) [go_sem, *]
        have ka2 : y8.it.cell? ⟨w.heap.size, 2, none⟩ = some (.bool al) := by simp (maxDischargeDepth := 9) [go_sem, *]
        have ka3 : y8.it.cell? ⟨w.heap.size, 3, none⟩ = some (.bool ah) := by simp (maxDischargeDepth := 9) [go_sem, *]
        have ka4 : y8.it.cell? ⟨w.heap.size, 4, none⟩ = some (.bool ln) := by simp (maxDischargeDepth := 9) [go_sem, *]
        have ka5 : y8.it.cell? ⟨w.heap.size, 5, none⟩ = some (.int .i64 l) := by simp (maxDischargeDepth := 9) [go_sem, *]
        have ka6 : y8.it.cell? ⟨w.heap.size, 6, none⟩ = some (.string ls) := by simp (maxDischargeDepth := 9) [go_sem, *]
        have ka7 : y8.it.cell? ⟨w.heap.size, 7, none⟩ = some (.bool hn) := by simp (maxDischargeDepth := 9) [go_sem, *]
        have ka8 : y8.it.cell? ⟨w.heap.size, 8, none⟩ = some (.int .i64 h) := by simp (maxDischargeDepth := 9) [go_sem, *]
        have ka9 : y8.it.cell? ⟨w.heap.size, 9, none⟩ = some (.string hs) := by simp (maxDischargeDepth := 9) [go_sem, *]
        have kb0 : y8.it.cell? ⟨w.heap.size + 1, 0, none⟩ = some (.bool bn) := by simp (maxDischargeDepth := 9) [go_sem, *]
        have kb1 : y8.it.cell? ⟨w.heap.size + 1, 1, none⟩ = some (.bool true) := by simp (maxDischargeDepth := 9) [go_sem, *]
        have kb2 : y8.it.cell? ⟨w.heap.size + 1, 2, none⟩ = some (.bool bl) := by simp (maxDischargeDepth := 9) [go_sem, *]
        have kb3 : y8.it.cell? ⟨w.heap.size + 1, 3, none⟩ = some (.bool bh) := by simp (maxDischargeDepth := 9) [go_sem, *]
        have kb4 : y8.it.cell? ⟨w.heap.size + 1, 4, none⟩ = some (.bool lm) := by simp (maxDischargeDepth := 9) [go_sem, *]
        have kb5 : y8.it.cell? ⟨w.heap.size + 1, 5, none⟩ = some (.int .i64 m) := by simp (maxDischargeDepth := 9) [go_sem, *]
        have kb6 : y8.it.cell? ⟨w.heap.size + 1, 6, none⟩ = some (.string ms) := by simp (maxDischargeDepth := 9) [go_sem, *]
        have kb7 : y8.it.cell? ⟨w.heap.size + 1, 7, none⟩ = some (.bool gn) := by simp (maxDischargeDepth := 9) [go_sem, *]
        have kb8 : y8.it.cell? ⟨w.heap.size + 1, 8, none⟩ = some (.int .i64 g) := by simp (maxDischargeDepth := 9) [go_sem, *]
        have kb9 : y8.it.cell? ⟨w.heap.size + 1, 9, none⟩ = some (.string gs) := by simp (maxDischargeDepth := 9) [go_sem, *]
        have kn0 : y8.it.cell? ⟨x1.it.heap.size, 0, none⟩ = some (.bool false) := by simp (maxDischargeDepth := 9) [go_sem, *]
        have kn1 : y8.it.cell? ⟨x1.it.heap.size, 1, none⟩ = some (.bool false) := by simp (maxDischargeDepth := 9) [go_sem, *]
        have kn2 : y8.it.cell? ⟨x1.it.heap.size, 2, none⟩ = some (.bool false) := by simp (maxDischargeDepth := 9) [go_sem, *]
        have kn3 : y8.it.cell? ⟨x1.it.heap.size, 3, none⟩ = some (.bool false) := by simp (maxDischargeDepth := 9) [go_sem, *]
        have kn4 : y8.it.cell? ⟨x1.it.heap.size, 4, none⟩ = some (.bool false) := by simp (maxDischargeDepth := 9) [go_sem, *]
        have kn5 : y8.it.cell? ⟨x1.it.heap.size, 5, none⟩ = some (.int .i64 0) := by simp (maxDischargeDepth := 9) [go_sem, *]
        have kn6 : y8.it.cell? ⟨x1.it.heap.size, 6, none⟩ = some (.string ⟨#[]⟩) := by simp (maxDischargeDepth := 9) [go_sem, *]
        have kn7 : y8.it.cell? ⟨x1.it.heap.size, 7, none⟩ = some (.bool false) := by simp (maxDischargeDepth := 9) [go_sem, *]
        have kn8 : y8.it.cell? ⟨x1.it.heap.size, 8, none⟩ = some (.int .i64 0) := by simp (maxDischargeDepth := 9) [go_sem, *]
        have kn9 : y8.it.cell? ⟨x1.it.heap.size, 9, none⟩ = some (.string ⟨#[]⟩) := by simp (maxDischargeDepth := 9) [go_sem, *]
        have ko0 : y8.it.cell? ⟨x1.it.heap.size + 1, 0, none⟩ = some (.bool false) := by simp (maxDischargeDepth := 9) [go_sem, *]
        have ko1 : y8.it.cell? ⟨x1.it.heap.size + 1, 1, none⟩ = some (.bool true) := by simp (maxDischargeDepth := 9) [go_sem, *]
        have ko2 : y8.it.cell? ⟨x1.it.heap.size + 1, 2, none⟩ = some (.bool al) := by simp (maxDischargeDepth := 9) [go_sem, *]
        have ko3 : y8.it.cell? ⟨x1.it.heap.size + 1, 3, none⟩ = some (.bool ah) := by simp (maxDischargeDepth := 9) [go_sem, *]
        have ko4 : y8.it.cell? ⟨x1.it.heap.size + 1, 4, none⟩ = some (.bool ln) := by simp (maxDischargeDepth := 9) [go_sem, *]
        have ko5 : y8.it.cell? ⟨x1.it.heap.size + 1, 5, none⟩ = some (.int .i64 l) := by simp (maxDischargeDepth := 9) [go_sem, *]
        have ko6 : y8.it.cell? ⟨x1.it.heap.size + 1, 6, none⟩ = some (.string ls) := by simp (maxDischargeDepth := 9) [go_sem, *]
        have ko7 : y8.it.cell? ⟨x1.it.heap.size + 1, 7, none⟩ = some (.bool hn) := by simp (maxDischargeDepth := 9) [go_sem, *]
        have ko8 : y8.it.cell? ⟨x1.it.heap.size + 1, 8, none⟩ = some (.int .i64 h) := by simp (maxDischargeDepth := 9) [go_sem, *]
        have ko9 : y8.it.cell? ⟨x1.it.heap.size + 1, 9, none⟩ = some (.string hs) := by simp (maxDischargeDepth := 9) [go_sem, *]
        have kf : ∀ j, y8.it.frozen? ⟨x1.it.heap.size + 1, j, none⟩ = false := by intro j; simp [go_sem, *]
        have kg : ∀ j, y8.it.frozen? ⟨w.heap.size + 1 + 1, j, none⟩ = false := by intro j; simp [go_sem, *]
        have s0 : w.heap.size < y8.it.heap.size := by rw [e8]; (first | with_reducible assumption | (simp only [World.size_setCell, World.size_alloc, World.size_drew]; first | with_reducible assumption | omega))
        have s1 : w.heap.size + 1 < y8.it.heap.size := by rw [e8]; (first | with_reducible assumption | (simp only [World.size_setCell, World.size_alloc, World.size_drew]; first | with_reducible assumption | omega))
        have s2 : w.heap.size + 1 + 1 < y8.it.heap.size := by rw [e8]; (first | with_reducible assumption | (simp only [World.size_setCell, World.size_alloc, World.size_drew]; first | with_reducible assumption | omega))
        have s3 : x1.it.heap.size < y8.it.heap.size := by rw [e8]; (first | with_reducible assumption | (simp only [World.size_setCell, World.size_alloc, World.size_drew]; first | with_reducible assumption | omega))
        have s4 : x1.it.heap.size + 1 < y8.it.heap.size := by rw [e8]; (first | with_reducible assumption | (simp only [World.size_setCell, World.size_alloc, World.size_drew]; first | with_reducible assumption | omega))
        have b8 : Below w.heap.size w y8.it := by rw [e8]; exact (by repeat (first | with_reducible exact Below.refl _ _ | with_reducible assumption | with_reducible refine Below.al ?_ _ | with_reducible refine Below.on ?_ _ | with_reducible refine Below.st ?_ (by first | assumption | (simp; done) | (simp; omega)) _ | with_reducible refine Below.drew ?_))
        clear e8
        obtain ⟨lc, hlc⟩ : ∃ lc, loC t ⟨false, true, al, ah, ⟨ln, l, ls⟩, ⟨hn, h, hs⟩⟩ ⟨bn, true, bl, bh, ⟨lm, m, ms⟩, ⟨gn, g, gs⟩⟩ = lc := ⟨_, rfl⟩
        obtain ⟨hc, hhc⟩ : ∃ hc, hiC t ⟨false, true, al, ah, ⟨ln, l, ls⟩, ⟨hn, h, hs⟩⟩ ⟨bn, true, bl, bh, ⟨lm, m, ms⟩, ⟨gn, g, gs⟩⟩ = hc := ⟨_, rfl⟩
        have EV := ev
        clear ev
        go_cut [52] (fun s52 wx => s52 = .bool lc ∧ ∃ y : Ext y8.it, wx = y.it)
        case first =>
          cases bl
          · have hl : lc = false := by rw [← hlc]; rfl
            subst hl
            go_wp2_with fail
            go_meet
            exact ⟨rfl, ⟨_, Below.refl _ _⟩, rfl⟩
          cases al
          · have hl : lc = true := by rw [← hlc]; rfl
            subst hl
            go_wp2_with fail
            go_meet
            exact ⟨rfl, ⟨_, Below.refl _ _⟩, rfl⟩
          · have hl : lc = decide (0 < cmpV t ⟨lm, m, ms⟩ ⟨ln, l, ls⟩) := by rw [← hlc]; rfl
            subst hl
            go_wp2_with (go_at_call 14; refine (refCompare_any _ _ _ _ _ _ _ _).mono ?_; rintro e w9 ⟨rfl, hb9⟩; obtain ⟨x9, rfl⟩ := Ext.of hb9)
            go_meet
            exact ⟨by go_num, x9, rfl⟩
        case rest =>
          obtain ⟨rfl, y9, rfl⟩ := hcut
          go_upto_if 52 with fail
          obtain ⟨⟨lh, ⟨lvn, lvi, lvs⟩⟩, hlo⟩ : ∃ r, loF t ⟨false, true, al, ah, ⟨ln, l, ls⟩, ⟨hn, h, hs⟩⟩ ⟨bn, true, bl, bh, ⟨lm, m, ms⟩, ⟨gn, g, gs⟩⟩ = r := ⟨_, rfl⟩
          have d97 : w.heap.size ≠ x1.it.heap.size + 1 := by omega
          have d98 : w.heap.size + 1 ≠ x1.it.heap.size + 1 := by omega
          have d99 : w.heap.size + 1 + 1 ≠ x1.it.heap.size + 1 := by omega
          have d100 : x1.it.heap.size ≠ x1.it.heap.size + 1 := by omega
          have dd0 : w.heap.size ≠ x1.it.heap.size := by omega
          have dd1 : w.heap.size + 1 ≠ x1.it.heap.size := by omega
          go_cut [] (fun wx => (∃ y : ExtM y8.it (x1.it.heap.size + 1), wx = y.it) ∧ wx.cell? ⟨x1.it.heap.size + 1, 0, none⟩ = some (.bool false) ∧ wx.cell? ⟨x1.it.heap.size + 1, 1, none⟩ = some (.bool true) ∧ wx.cell? ⟨x1.it.heap.size + 1, 2, none⟩ = some (.bool lh) ∧ wx.cell? ⟨x1.it.heap.size + 1, 3, none⟩ = some (.bool ah) ∧ wx.cell? ⟨x1.it.heap.size + 1, 4, none⟩ = some (.bool lvn) ∧ wx.cell? ⟨x1.it.heap.size + 1, 5, none⟩ = some (.int .i64 lvi) ∧ wx.cell? ⟨x1.it.heap.size + 1, 6, none⟩ = some (.string lvs) ∧ wx.cell? ⟨x1.it.heap.size + 1, 7, none⟩ = some (.bool hn) ∧ wx.cell? ⟨x1.it.heap.size + 1, 8, none⟩ = some (.int .i64 h) ∧ wx.cell? ⟨x1.it.heap.size + 1, 9, none⟩ = some (.string hs) ∧ ∀ j, wx.frozen? ⟨x1.it.heap.size + 1, j, none⟩ = false)
          case first =>
            cases lc
            · have hq : (al, (⟨ln, l, ls⟩ : Val)) = (lh, ⟨lvn, lvi, lvs⟩) := by rw [← hlo]; unfold loF; rw [hlc]; rfl
              clear hlo hlc
              cases hq
              go_wp2_with fail
              go_meet
              exact ⟨⟨⟨_, by (first | with_reducible refine Moved.drN ?_ _ | skip); repeat (first | with_reducible exact Moved.refl _ _ | with_reducible assumption | with_reducible refine Moved.al ?_ _ | with_reducible refine Moved.onE ?_ _ | with_reducible refine Moved.on ?_ _ | with_reducible refine Moved.st ?_ _ _ _ | with_reducible refine Moved.stn ?_ (by first | assumption | (simp; done) | (simp; omega)) _ | with_reducible refine Moved.drew ?_)⟩, rfl⟩, by simp (maxDischargeDepth := 9) [go_sem, *], by simp (maxDischargeDepth := 9) [go_sem, *], by simp (maxDischargeDepth := 9) [go_sem, *], by simp (maxDischargeDepth := 9) [go_sem, *], by simp (maxDischargeDepth := 9) [go_sem, *], by simp (maxDischargeDepth := 9) [go_sem, *], by simp (maxDischargeDepth := 9) [go_sem, *], by simp (maxDischargeDepth := 9) [go_sem, *], by simp (maxDischargeDepth := 9) [go_sem, *], by simp (maxDischargeDepth := 9) [go_sem, *], by intro j; simp [go_sem, *]⟩
            · have hq : (true, (⟨lm, m, ms⟩ : Val)) = (lh, ⟨lvn, lvi, lvs⟩) := by rw [← hlo]; unfold loF; rw [hlc]; rfl
              clear hlo hlc
              cases hq
              go_upto_region 8 with fail
              go_region
              go_wp2_with fail
              go_meet
              exact ⟨⟨⟨_, by (first | with_reducible refine Moved.drN ?_ _ | skip); repeat (first | with_reducible exact Moved.refl _ _ | with_reducible assumption | with_reducible refine Moved.al ?_ _ | with_reducible refine Moved.onE ?_ _ | with_reducible refine Moved.on ?_ _ | with_reducible refine Moved.st ?_ _ _ _ | with_reducible refine Moved.stn ?_ (by first | assumption | (simp; done) | (simp; omega)) _ | with_reducible refine Moved.drew ?_)⟩, rfl⟩, by simp (maxDischargeDepth := 9) [go_sem, *], by simp (maxDischargeDepth := 9) [go_sem, *], by simp (maxDischargeDepth := 9) [go_sem, *], by simp (maxDischargeDepth := 9) [go_sem, *], by simp (maxDischargeDepth := 9) [go_sem, *], by simp (maxDischargeDepth := 9) [go_sem, *], by simp (maxDischargeDepth := 9) [go_sem, *], by simp (maxDischargeDepth := 9) [go_sem, *], by simp (maxDischargeDepth := 9) [go_sem, *], by simp (maxDischargeDepth := 9) [go_sem, *], by intro j; simp [go_sem, *]⟩
          case rest =>
            obtain ⟨⟨y10, rfl⟩, c0, c1, c2, c3, c4, c5, c6, c7, c8, c9, cf⟩ := hcut
            clear y9
            have t0 : w.heap.size < y10.it.heap.size := y10.lt (by assumption)
            have t1 : w.heap.size + 1 < y10.it.heap.size := y10.lt (by assumption)
            have t2 : w.heap.size + 1 + 1 < y10.it.heap.size := y10.lt (by assumption)
            have t3 : x1.it.heap.size < y10.it.heap.size := y10.lt (by assumption)
            have t4 : x1.it.heap.size + 1 < y10.it.heap.size := y10.lt (by assumption)
            go_upto_region 9 with fail
            go_cut [72] (fun s72 wx => s72 = .bool hc ∧ ∃ y : Ext y10.it, wx = y.it)
            case first =>
              cases bh
              · have hl : hc = false := by rw [← hhc]; rfl
                subst hl
                go_wp2_with fail
                go_meet
                exact ⟨rfl, ⟨_, Below.refl _ _⟩, rfl⟩
              cases ah
              · have hl : hc = true := by rw [← hhc]; rfl
                subst hl
                go_wp2_with fail
                go_meet
                exact ⟨rfl, ⟨_, Below.refl _ _⟩, rfl⟩
              · have hl : hc = decide (cmpV t ⟨gn, g, gs⟩ ⟨hn, h, hs⟩ < 0) := by rw [← hhc]; rfl
                subst hl
                go_wp2_with (go_at_call 14; refine (refCompare_any _ _ _ _ _ _ _ _).mono ?_; rintro e w9 ⟨rfl, hb9⟩; obtain ⟨x9, rfl⟩ := Ext.of hb9)
                go_meet
                exact ⟨by go_num, x9, rfl⟩
            case rest =>
              obtain ⟨rfl, y11, rfl⟩ := hcut
              go_upto_if 72 with fail
              obtain ⟨⟨hh, ⟨hvn, hvi, hvs⟩⟩, hhi⟩ : ∃ r, hiF t ⟨false, true, al, ah, ⟨ln, l, ls⟩, ⟨hn, h, hs⟩⟩ ⟨bn, true, bl, bh, ⟨lm, m, ms⟩, ⟨gn, g, gs⟩⟩ = r := ⟨_, rfl⟩
              go_cut [] (fun wx => (∃ y : ExtM y8.it (x1.it.heap.size + 1), wx = y.it) ∧ wx.cell? ⟨x1.it.heap.size + 1, 0, none⟩ = some (.bool false) ∧ wx.cell? ⟨x1.it.heap.size + 1, 1, none⟩ = some (.bool true) ∧ wx.cell? ⟨x1.it.heap.size + 1, 2, none⟩ = some (.bool lh) ∧ wx.cell? ⟨x1.it.heap.size + 1, 3, none⟩ = some (.bool hh) ∧ wx.cell? ⟨x1.it.heap.size + 1, 4, none⟩ = some (.bool lvn) ∧ wx.cell? ⟨x1.it.heap.size + 1, 5, none⟩ = some (.int .i64 lvi) ∧ wx.cell? ⟨x1.it.heap.size + 1, 6, none⟩ = some (.string lvs) ∧ wx.cell? ⟨x1.it.heap.size + 1, 7, none⟩ = some (.bool hvn) ∧ wx.cell? ⟨x1.it.heap.size + 1, 8, none⟩ = some (.int .i64 hvi) ∧ wx.cell? ⟨x1.it.heap.size + 1, 9, none⟩ = some (.string hvs) ∧ ∀ j, wx.frozen? ⟨x1.it.heap.size + 1, j, none⟩ = false)
              case first =>
                cases hc
                · have hq : (ah, (⟨hn, h, hs⟩ : Val)) = (hh, ⟨hvn, hvi, hvs⟩) := by rw [← hhi]; unfold hiF; rw [hhc]; rfl
                  clear hhi hhc
                  cases hq
                  go_wp2_with fail
                  go_meet
                  exact ⟨⟨⟨_, by (first | with_reducible refine Moved.drN ?_ _ | skip); repeat (first | with_reducible exact Moved.refl _ _ | with_reducible assumption | with_reducible refine Moved.al ?_ _ | with_reducible refine Moved.onE ?_ _ | with_reducible refine Moved.on ?_ _ | with_reducible refine Moved.st ?_ _ _ _ | with_reducible refine Moved.stn ?_ (by first | assumption | (simp; done) | (simp; omega)) _ | with_reducible refine Moved.drew ?_)⟩, rfl⟩, by simp (maxDischargeDepth := 9) [go_sem, *], by simp (maxDischargeDepth := 9) [go_sem, *], by simp (maxDischargeDepth := 9) [go_sem, *], by simp (maxDischargeDepth := 9) [go_sem, *], by simp (maxDischargeDepth := 9) [go_sem, *], by simp (maxDischargeDepth := 9) [go_sem, *], by simp (maxDischargeDepth := 9) [go_sem, *], by simp (maxDischargeDepth := 9) [go_sem, *], by simp (maxDischargeDepth := 9) [go_sem, *], by simp (maxDischargeDepth := 9) [go_sem, *], by intro j; simp [go_sem, *]⟩
                · have hq : (true, (⟨gn, g, gs⟩ : Val)) = (hh, ⟨hvn, hvi, hvs⟩) := by rw [← hhi]; unfold hiF; rw [hhc]; rfl
                  clear hhi hhc
                  cases hq
                  go_upto_region 10 with fail
                  go_region
                  go_wp2_with fail
                  go_meet
                  exact ⟨⟨⟨_, by (first | with_reducible refine Moved.drN ?_ _ | skip); repeat (first | with_reducible exact Moved.refl _ _ | with_reducible assumption | with_reducible refine Moved.al ?_ _ | with_reducible refine Moved.onE ?_ _ | with_reducible refine Moved.on ?_ _ | with_reducible refine Moved.st ?_ _ _ _ | with_reducible refine Moved.stn ?_ (by first | assumption | (simp; done) | (simp; omega)) _ | with_reducible refine Moved.drew ?_)⟩, rfl⟩, by simp (maxDischargeDepth := 9) [go_sem, *], by simp (maxDischargeDepth := 9) [go_sem, *], by simp (maxDischargeDepth := 9) [go_sem, *], by simp (maxDischargeDepth := 9) [go_sem, *], by simp (maxDischargeDepth := 9) [go_sem, *], by simp (maxDischargeDepth := 9) [go_sem, *], by simp (maxDischargeDepth := 9) [go_sem, *], by simp (maxDischargeDepth := 9) [go_sem, *], by simp (maxDischargeDepth := 9) [go_sem, *], by simp (maxDischargeDepth := 9) [go_sem, *], by intro j; simp [go_sem, *]⟩
              case rest =>
                clear c0 c1 c2 c3 c4 c5 c6 c7 c8 c9 cf t0 t1 t2 t3 t4
                obtain ⟨⟨y12, rfl⟩, c0, c1, c2, c3, c4, c5, c6, c7, c8, c9, cf⟩ := hcut
                clear y10 y11
                have t0 : w.heap.size < y12.it.heap.size := y12.lt (by assumption)
                have t1 : w.heap.size + 1 < y12.it.heap.size := y12.lt (by assumption)
                have t2 : w.heap.size + 1 + 1 < y12.it.heap.size := y12.lt (by assumption)
                have t3 : x1.it.heap.size < y12.it.heap.size := y12.lt (by assumption)
                have t4 : x1.it.heap.size + 1 < y12.it.heap.size := y12.lt (by assumption)
                have hm : meetOut t ⟨false, true, al, ah, ⟨ln, l, ls⟩, ⟨hn, h, hs⟩⟩ ⟨bn, true, bl, bh, ⟨lm, m, ms⟩, ⟨gn, g, gs⟩⟩ = ⟨false, true, lh, hh, ⟨lvn, lvi, lvs⟩, ⟨hvn, hvi, hvs⟩⟩ := by unfold meetOut; rw [hlo, hhi]; rfl
                rw [hm] at EV
                obtain ⟨cb, hcb⟩ : ∃ cb, decide (0 < cmpV t ⟨lvn, lvi, lvs⟩ ⟨hvn, hvi, hvs⟩) = cb := ⟨_, rfl⟩
                have hok : checkF t ⟨false, true, lh, hh, ⟨lvn, lvi, lvs⟩, ⟨hvn, hvi, hvs⟩⟩ = !(lh && hh && cb) := by have h := meet_chk HPQ hq rfl rfl; rw [hm] at h; rw [h, ← hcb]
                cases lh
                · have ev := Lib.hid (EV.out.trans (if_pos (by rw [hok]; rfl)))
                  clear EV hm hlo hhi hlc hhc hcb hok HPQ hp hq
                  go_wp2_with (go_at_call 14; refine (refCompare_any _ _ _ _ _ _ _ _).mono ?_; rintro e w13 ⟨rfl, hb13⟩; obtain ⟨x13, rfl⟩ := Ext.of hb13; have u0 : w.heap.size < x13.it.heap.size := x13.lt (by (first | with_reducible assumption | (simp only [World.size_setCell, World.size_alloc, World.size_drew]; first | with_reducible assumption | omega))); have u1 : w.heap.size + 1 < x13.it.heap.size := x13.lt (by (first | with_reducible assumption | (simp only [World.size_setCell, World.size_alloc, World.size_drew]; first | with_reducible assumption | omega))); have u2 : w.heap.size + 1 + 1 < x13.it.heap.size := x13.lt (by (first | with_reducible assumption | (simp only [World.size_setCell, World.size_alloc, World.size_drew]; first | with_reducible assumption | omega))); have u3 : x1.it.heap.size < x13.it.heap.size := x13.lt (by (first | with_reducible assumption | (simp only [World.size_setCell, World.size_alloc, World.size_drew]; first | with_reducible assumption | omega))); have u4 : x1.it.heap.size + 1 < x13.it.heap.size := x13.lt (by (first | with_reducible assumption | (simp only [World.size_setCell, World.size_alloc, World.size_drew]; first | with_reducible assumption | omega))))
                  exact bodyPost_ret (v := .agg #[.bool false, .bool true, .bool false, .bool hh, .bool lvn, .int .i64 lvi, .string lvs, .bool hvn, .int .i64 hvi, .string hvs]) (by simp (maxDischargeDepth := 5) [results, Try.results44, go_sem, *]) rfl (⟨by rw [ev.out]; rfl, by repeat (first | with_reducible assumption | with_reducible refine Below.on ?_ _ | with_reducible refine Below.drew ?_ | with_reducible refine Below.st ?_ (by (first | with_reducible assumption | (simp only [World.size_setCell, World.size_alloc, World.size_drew]; first | with_reducible assumption | omega))) _ | exact Moved.below b8 y12.moved (by omega))⟩)
                cases hh
                · have ev := Lib.hid (EV.out.trans (if_pos (by rw [hok]; rfl)))
                  clear EV hm hlo hhi hlc hhc hcb hok HPQ hp hq
                  go_wp2_with (go_at_call 14; refine (refCompare_any _ _ _ _ _ _ _ _).mono ?_; rintro e w13 ⟨rfl, hb13⟩; obtain ⟨x13, rfl⟩ := Ext.of hb13; have u0 : w.heap.size < x13.it.heap.size := x13.lt (by (first | with_reducible assumption | (simp only [World.size_setCell, World.size_alloc, World.size_drew]; first | with_reducible assumption | omega))); have u1 : w.heap.size + 1 < x13.it.heap.size := x13.lt (by (first | with_reducible assumption | (simp only [World.size_setCell, World.size_alloc, World.size_drew]; first | with_reducible assumption | omega))); have u2 : w.heap.size + 1 + 1 < x13.it.heap.size := x13.lt (by (first | with_reducible assumption | (simp only [World.size_setCell, World.size_alloc, World.size_drew]; first | with_reducible assumption | omega))); have u3 : x1.it.heap.size < x13.it.heap.size := x13.lt (by (first | with_reducible assumption | (simp only [World.size_setCell, World.size_alloc, World.size_drew]; first | with_reducible assumption | omega))); have u4 : x1.it.heap.size + 1 < x13.it.heap.size := x13.lt (by (first | with_reducible assumption | (simp only [World.size_setCell, World.size_alloc, World.size_drew]; first | with_reducible assumption | omega))))
                  exact bodyPost_ret (v := .agg #[.bool false, .bool true, .bool true, .bool false, .bool lvn, .int .i64 lvi, .string lvs, .bool hvn, .int .i64 hvi, .string hvs]) (by simp (maxDischargeDepth := 5) [results, Try.results44, go_sem, *]) rfl (⟨by rw [ev.out]; rfl, by repeat (first | with_reducible assumption | with_reducible refine Below.on ?_ _ | with_reducible refine Below.drew ?_ | with_reducible refine Below.st ?_ (by (first | with_reducible assumption | (simp only [World.size_setCell, World.size_alloc, World.size_drew]; first | with_reducible assumption | omega))) _ | exact Moved.below b8 y12.moved (by omega))⟩)
                cases cb
                · have ev := Lib.hid (EV.out.trans (if_pos (by rw [hok]; decide)))
                  have hc' : ¬ 0 < cmpV t ⟨lvn, lvi, lvs⟩ ⟨hvn, hvi, hvs⟩ := by simpa using hcb
                  have hc2 : cmpV t ⟨lvn, lvi, lvs⟩ ⟨hvn, hvi, hvs⟩ ≤ 0 := by omega
                  clear EV hm hlo hhi hlc hhc hcb hok HPQ hp hq
                  go_wp2_with (go_at_call 14; refine (refCompare_any _ _ _ _ _ _ _ _).mono ?_; rintro e w13 ⟨rfl, hb13⟩; obtain ⟨x13, rfl⟩ := Ext.of hb13; have u0 : w.heap.size < x13.it.heap.size := x13.lt (by (first | with_reducible assumption | (simp only [World.size_setCell, World.size_alloc, World.size_drew]; first | with_reducible assumption | omega))); have u1 : w.heap.size + 1 < x13.it.heap.size := x13.lt (by (first | with_reducible assumption | (simp only [World.size_setCell, World.size_alloc, World.size_drew]; first | with_reducible assumption | omega))); have u2 : w.heap.size + 1 + 1 < x13.it.heap.size := x13.lt (by (first | with_reducible assumption | (simp only [World.size_setCell, World.size_alloc, World.size_drew]; first | with_reducible assumption | omega))); have u3 : x1.it.heap.size < x13.it.heap.size := x13.lt (by (first | with_reducible assumption | (simp only [World.size_setCell, World.size_alloc, World.size_drew]; first | with_reducible assumption | omega))); have u4 : x1.it.heap.size + 1 < x13.it.heap.size := x13.lt (by (first | with_reducible assumption | (simp only [World.size_setCell, World.size_alloc, World.size_drew]; first | with_reducible assumption | omega))))
                  exact bodyPost_ret (v := .agg #[.bool false, .bool true, .bool true, .bool true, .bool lvn, .int .i64 lvi, .string lvs, .bool hvn, .int .i64 hvi, .string hvs]) (by simp (maxDischargeDepth := 5) [results, Try.results44, go_sem, *]) rfl (⟨by rw [ev.out]; rfl, by repeat (first | with_reducible assumption | with_reducible refine Below.on ?_ _ | with_reducible refine Below.drew ?_ | with_reducible refine Below.st ?_ (by (first | with_reducible assumption | (simp only [World.size_setCell, World.size_alloc, World.size_drew]; first | with_reducible assumption | omega))) _ | exact Moved.below b8 y12.moved (by omega))⟩)
                · have ev := Lib.hid (EV.out.trans (if_neg (by rw [hok]; decide)))
                  have hc' : 0 < cmpV t ⟨lvn, lvi, lvs⟩ ⟨hvn, hvi, hvs⟩ := by simpa using hcb
                  clear EV hm hlo hhi hlc hhc hcb hok HPQ hp hq
                  go_wp2_with (go_at_call 14; refine (refCompare_any _ _ _ _ _ _ _ _).mono ?_; rintro e w13 ⟨rfl, hb13⟩; obtain ⟨x13, rfl⟩ := Ext.of hb13; have u0 : w.heap.size < x13.it.heap.size := x13.lt (by (first | with_reducible assumption | (simp only [World.size_setCell, World.size_alloc, World.size_drew]; first | with_reducible assumption | omega))); have u1 : w.heap.size + 1 < x13.it.heap.size := x13.lt (by (first | with_reducible assumption | (simp only [World.size_setCell, World.size_alloc, World.size_drew]; first | with_reducible assumption | omega))); have u2 : w.heap.size + 1 + 1 < x13.it.heap.size := x13.lt (by (first | with_reducible assumption | (simp only [World.size_setCell, World.size_alloc, World.size_drew]; first | with_reducible assumption | omega))); have u3 : x1.it.heap.size < x13.it.heap.size := x13.lt (by (first | with_reducible assumption | (simp only [World.size_setCell, World.size_alloc, World.size_drew]; first | with_reducible assumption | omega))); have u4 : x1.it.heap.size + 1 < x13.it.heap.size := x13.lt (by (first | with_reducible assumption | (simp only [World.size_setCell, World.size_alloc, World.size_drew]; first | with_reducible assumption | omega))))
                  exact bodyPost_ret (v := .agg #[.bool false, .bool false, .bool false, .bool false, .bool false, .int .i64 0, .string ⟨#[]⟩, .bool false, .int .i64 0, .string ⟨#[]⟩]) (by simp (maxDischargeDepth := 5) [results, Try.results44, go_sem, *]) rfl (⟨by rw [ev.out]; rfl, by repeat (first | with_reducible assumption | with_reducible refine Below.on ?_ _ | with_reducible refine Below.drew ?_ | with_reducible refine Below.st ?_ (by (first | with_reducible assumption | (simp only [World.size_setCell, World.size_alloc, World.size_drew]; first | with_reducible assumption | omega))) _ | exact Moved.below b8 y12.moved (by omega))⟩)
  · cases as'
    · have ev := Lib.hid (e0.out.trans (if_pos (.inl rfl)))
      clear e0
      go_enter Try.func44, Try.ntmps44
      go_wp2_with (go_at_call 17; refine (refCheck_any _ _ _ _ _ _ _ _ _ _ _ _).mono ?_; rintro e w1 ⟨rfl, hb1⟩; obtain ⟨x1, rfl⟩ := Ext.of hb1; have z0 : w.heap.size < x1.it.heap.size := x1.lt (by (first | assumption | (simp; done) | (simp; omega))); have z1 : w.heap.size + 1 < x1.it.heap.size := x1.lt (by (first | assumption | (simp; done) | (simp; omega))); have z2 : w.heap.size + 1 + 1 < x1.it.heap.size := x1.lt (by (first | assumption | (simp; done) | (simp; omega))))
      exact bodyPost_ret (v := .agg #[.bool bn, .bool false, .bool false, .bool false, .bool false, .int .i64 0, .string ⟨#[]⟩, .bool false, .int .i64 0, .string ⟨#[]⟩]) (by simp [results, Try.results44, go_sem, *]) rfl (⟨by rw [ev.out]; rfl, by repeat (first | with_reducible exact Below.refl _ _ | with_reducible assumption | with_reducible refine Below.al ?_ _ | with_reducible refine Below.on ?_ _ | with_reducible refine Below.st ?_ (by first | assumption | (simp; done) | (simp; omega)) _ | with_reducible refine Below.drew ?_)⟩)
    · cases bs
      · have ev := Lib.hid (e0.out.trans (if_pos (.inr rfl)))
        clear e0
        go_enter Try.func44, Try.ntmps44
        go_wp2_with (go_at_call 17; refine (refCheck_any _ _ _ _ _ _ _ _ _ _ _ _).mono ?_; rintro e w1 ⟨rfl, hb1⟩; obtain ⟨x1, rfl⟩ := Ext.of hb1; have z0 : w.heap.size < x1.it.heap.size := x1.lt (by (first | assumption | (simp; done) | (simp; omega))); have z1 : w.heap.size + 1 < x1.it.heap.size := x1.lt (by (first | assumption | (simp; done) | (simp; omega))); have z2 : w.heap.size + 1 + 1 < x1.it.heap.size := x1.lt (by (first | assumption | (simp; done) | (simp; omega))))
        exact bodyPost_ret (v := .agg #[.bool bn, .bool false, .bool false, .bool false, .bool false, .int .i64 0, .string ⟨#[]⟩, .bool false, .int .i64 0, .string ⟨#[]⟩]) (by simp [results, Try.results44, go_sem, *]) rfl (⟨by rw [ev.out]; rfl, by repeat (first | with_reducible exact Below.refl _ _ | with_reducible assumption | with_reducible refine Below.al ?_ _ | with_reducible refine Below.on ?_ _ | with_reducible refine Below.st ?_ (by first | assumption | (simp; done) | (simp; omega)) _ | with_reducible refine Below.drew ?_)⟩)
      · have ev := Lib.hid (e0.out.trans (if_neg (by decide)))
        clear e0
        go_enter Try.func44, Try.ntmps44
        go_upto_region 7 with (go_at_call 17; refine (refCheck_any _ _ _ _ _ _ _ _ _ _ _ _).mono ?_; rintro e w1 ⟨rfl, hb1⟩; obtain ⟨x1, rfl⟩ := Ext.of hb1; have z0 : w.heap.size < x1.it.heap.size := x1.lt (by (first | assumption | (simp; done) | (simp; omega))); have z1 : w.heap.size + 1 < x1.it.heap.size := x1.lt (by (first | assumption | (simp; done) | (simp; omega))); have z2 : w.heap.size + 1 + 1 < x1.it.heap.size := x1.lt (by (first | assumption | (simp; done) | (simp; omega))))
        rename_i x0 hb0 y0 y1 y2
        refine captureE ?_
        intro y8 e8
        have ka0 : y8.it.cell? ⟨w.heap.size, 0, none⟩ = some (.bool true) := by simp (maxDischargeDepth := 9) [go_sem, *]
        have ka1 : y8.it.cell? ⟨w.heap.size, 1, none⟩ = some (.bool true) := by simp (maxDischargeDepth := 9) [go_sem, *]
        have ka2 : y8.it.cell? ⟨w.heap.size, 2, none⟩ = some (.bool al) := by simp (maxDischargeDepth := 9) [go_sem, *]
        have ka3 : y8.it.cell? ⟨w.heap.size, 3, none⟩ = some (.bool ah) := by simp (maxDischargeDepth := 9) [go_sem, *]
        have ka4 : y8.it.cell? ⟨w.heap.size, 4, none⟩ = some (.bool ln) := by simp (maxDischargeDepth := 9) [go_sem, *]
        have ka5 : y8.it.cell? ⟨w.heap.size, 5, none⟩ = some (.int .i64 l) := by simp (maxDischargeDepth := 9) [go_sem, *]
        have ka6 : y8.it.cell? ⟨w.heap.size, 6, none⟩ = some (.string ls) := by simp (maxDischargeDepth := 9) [go_sem, *]
        have ka7 : y8.it.cell? ⟨w.heap.size, 7, none⟩ = some (.bool hn) := by simp (maxDischargeDepth := 9) [go_sem, *]
        have ka8 : y8.it.cell? ⟨w.heap.size, 8, none⟩ = some (.int .i64 h) := by simp (maxDischargeDepth := 9) [go_sem, *]
        have ka9 : y8.it.cell? ⟨w.heap.size, 9, none⟩ = some (.string hs) := by simp (maxDischargeDepth := 9) [go_sem, *]
        have kb0 : y8.it.cell? ⟨w.heap.size + 1, 0, none⟩ = some (.bool bn) := by simp (maxDischargeDepth := 9) [go_sem, *]
        have kb1 : y8.it.cell? ⟨w.heap.size + 1, 1, none⟩ = some (.bool true) := by simp (maxDischargeDepth := 9) [go_sem, *]
        have kb2 : y8.it.cell? ⟨w.heap.size + 1, 2, none⟩ = some (.bool bl) := by simp (maxDischargeDepth := 9) [go_sem, *]
        have kb3 : y8.it.cell? ⟨w.heap.size + 1, 3, none⟩ = some (.bool bh) := by simp (maxDischargeDepth := 9) [go_sem, *]
        have kb4 : y8.it.cell? ⟨w.heap.size + 1, 4, none⟩ = some (.bool lm) := by simp (maxDischargeDepth := 9) [go_sem, *]
        have kb5 : y8.it.cell? ⟨w.heap.size + 1, 5, none⟩ = some (.int .i64 m) := by simp (maxDischargeDepth := 9) [go_sem, *]
        have kb6 : y8.it.cell? ⟨w.heap.size + 1, 6, none⟩ = some (.string ms) := by simp (maxDischargeDepth := 9) [go_sem, *]
        have kb7 : y8.it.cell? ⟨w.heap.size + 1, 7, none⟩ = some (.bool gn) := by simp (maxDischargeDepth := 9) [go_sem, *]
        have kb8 : y8.it.cell? ⟨w.heap.size + 1, 8, none⟩ = some (.int .i64 g) := by simp (maxDischargeDepth := 9) [go_sem, *]
        have kb9 : y8.it.cell? ⟨w.heap.size + 1, 9, none⟩ = some (.string gs) := by simp (maxDischargeDepth := 9) [go_sem, *]
        have kn0 : y8.it.cell? ⟨x1.it.heap.size, 0, none⟩ = some (.bool bn) := by simp (maxDischargeDepth := 9) [go_sem, *]
        have kn1 : y8.it.cell? ⟨x1.it.heap.size, 1, none⟩ = some (.bool false) := by simp (maxDischargeDepth := 9) [go_sem, *]
        have kn2 : y8.it.cell? ⟨x1.it.heap.size, 2, none⟩ = some (.bool false) := by simp (maxDischargeDepth := 9) [go_sem, *]
        have kn3 : y8.it.cell? ⟨x1.it.heap.size, 3, none⟩ = some (.bool false) := by simp (maxDischargeDepth := 9) [go_sem, *]
        have kn4 : y8.it.cell? ⟨x1.it.heap.size, 4, none⟩ = some (.bool false) := by simp (maxDischargeDepth := 9) [go_sem, *]
        have kn5 : y8.it.cell? ⟨x1.it.heap.size, 5, none⟩ = some (.int .i64 0) := by simp (maxDischargeDepth := 9) [go_sem, *]
        have kn6 : y8.it.cell? ⟨x1.it.heap.size, 6, none⟩ = some (.string ⟨#[]⟩) := by simp (maxDischargeDepth := 9) [go_sem, *]
        have kn7 : y8.it.cell? ⟨x1.it.heap.size, 7, none⟩ = some (.bool false) := by simp (maxDischargeDepth := 9) [go_sem, *]
        have kn8 : y8.it.cell? ⟨x1.it.heap.size, 8, none⟩ = some (.int .i64 0) := by simp (maxDischargeDepth := 9) [go_sem, *]
        have kn9 : y8.it.cell? ⟨x1.it.heap.size, 9, none⟩ = some (.string ⟨#[]⟩) := by simp (maxDischargeDepth := 9) [go_sem, *]
        have ko0 : y8.it.cell? ⟨x1.it.heap.size + 1, 0, none⟩ = some (.bool true) := by simp (maxDischargeDepth := 9) [go_sem, *]
        have ko1 : y8.it.cell? ⟨x1.it.heap.size + 1, 1, none⟩ = some (.bool true) := by simp (maxDischargeDepth := 9) [go_sem, *]
        have ko2 : y8.it.cell? ⟨x1.it.heap.size + 1, 2, none⟩ = some (.bool al) := by simp (maxDischargeDepth := 9) [go_sem, *]
        have ko3 : y8.it.cell? ⟨x1.it.heap.size + 1, 3, none⟩ = some (.bool ah) := by simp (maxDischargeDepth := 9) [go_sem, *]
        have ko4 : y8.it.cell? ⟨x1.it.heap.size + 1, 4, none⟩ = some (.bool ln) := by simp (maxDischargeDepth := 9) [go_sem, *]
        have ko5 : y8.it.cell? ⟨x1.it.heap.size + 1, 5, none⟩ = some (.int .i64 l) := by simp (maxDischargeDepth := 9) [go_sem, *]
        have ko6 : y8.it.cell? ⟨x1.it.heap.size + 1, 6, none⟩ = some (.string ls) := by simp (maxDischargeDepth := 9) [go_sem, *]
        have ko7 : y8.it.cell? ⟨x1.it.heap.size + 1, 7, none⟩ = some (.bool hn) := by simp (maxDischargeDepth := 9) [go_sem, *]
        have ko8 : y8.it.cell? ⟨x1.it.heap.size + 1, 8, none⟩ = some (.int .i64 h) := by simp (maxDischargeDepth := 9) [go_sem, *]
        have ko9 : y8.it.cell? ⟨x1.it.heap.size + 1, 9, none⟩ = some (.string hs) := by simp (maxDischargeDepth := 9) [go_sem, *]
        have kf : ∀ j, y8.it.frozen? ⟨x1.it.heap.size + 1, j, none⟩ = false := by intro j; simp [go_sem, *]
        have kg : ∀ j, y8.it.frozen? ⟨w.heap.size + 1 + 1, j, none⟩ = false := by intro j; simp [go_sem, *]
        have s0 : w.heap.size < y8.it.heap.size := by rw [e8]; (first | with_reducible assumption | (simp only [World.size_setCell, World.size_alloc, World.size_drew]; first | with_reducible assumption | omega))
        have s1 : w.heap.size + 1 < y8.it.heap.size := by rw [e8]; (first | with_reducible assumption | (simp only [World.size_setCell, World.size_alloc, World.size_drew]; first | with_reducible assumption | omega))
        have s2 : w.heap.size + 1 + 1 < y8.it.heap.size := by rw [e8]; (first | with_reducible assumption | (simp only [World.size_setCell, World.size_alloc, World.size_drew]; first | with_reducible assumption | omega))
        have s3 : x1.it.heap.size < y8.it.heap.size := by rw [e8]; (first | with_reducible assumption | (simp only [World.size_setCell, World.size_alloc, World.size_drew]; first | with_reducible assumption | omega))
        have s4 : x1.it.heap.size + 1 < y8.it.heap.size := by rw [e8]; (first | with_reducible assumption | (simp only [World.size_setCell, World.size_alloc, World.size_drew]; first | with_reducible assumption | omega))
        have b8 : Below w.heap.size w y8.it := by rw [e8]; exact (by repeat (first | with_reducible exact Below.refl _ _ | with_reducible assumption | with_reducible refine Below.al ?_ _ | with_reducible refine Below.on ?_ _ | with_reducible refine Below.st ?_ (by first | assumption | (simp; done) | (simp; omega)) _ | with_reducible refine Below.drew ?_))
        clear e8
        obtain ⟨lc, hlc⟩ : ∃ lc, loC t ⟨true, true, al, ah, ⟨ln, l, ls⟩, ⟨hn, h, hs⟩⟩ ⟨bn, true, bl, bh, ⟨lm, m, ms⟩, ⟨gn, g, gs⟩⟩ = lc := ⟨_, rfl⟩
        obtain ⟨hc, hhc⟩ : ∃ hc, hiC t ⟨true, true, al, ah, ⟨ln, l, ls⟩, ⟨hn, h, hs⟩⟩ ⟨bn, true, bl, bh, ⟨lm, m, ms⟩, ⟨gn, g, gs⟩⟩ = hc := ⟨_, rfl⟩
        have EV := ev
        clear ev
        go_cut [52] (fun s52 wx => s52 = .bool lc ∧ ∃ y : Ext y8.it, wx = y.it)
        case first =>
          cases bl
          · have hl : lc = false := by rw [← hlc]; rfl
            subst hl
            go_wp2_with fail
            go_meet
            exact ⟨rfl, ⟨_, Below.refl _ _⟩, rfl⟩
          cases al
          · have hl : lc = true := by rw [← hlc]; rfl
            subst hl
            go_wp2_with fail
            go_meet
            exact ⟨rfl, ⟨_, Below.refl _ _⟩, rfl⟩
          · have hl : lc = decide (0 < cmpV t ⟨lm, m, ms⟩ ⟨ln, l, ls⟩) := by rw [← hlc]; rfl
            subst hl
            go_wp2_with (go_at_call 14; refine (refCompare_any _ _ _ _ _ _ _ _).mono ?_; rintro e w9 ⟨rfl, hb9⟩; obtain ⟨x9, rfl⟩ := Ext.of hb9)
            go_meet
            exact ⟨by go_num, x9, rfl⟩
        case rest =>
          obtain ⟨rfl, y9, rfl⟩ := hcut
          go_upto_if 52 with fail
          obtain ⟨⟨lh, ⟨lvn, lvi, lvs⟩⟩, hlo⟩ : ∃ r, loF t ⟨true, true, al, ah, ⟨ln, l, ls⟩, ⟨hn, h, hs⟩⟩ ⟨bn, true, bl, bh, ⟨lm, m, ms⟩, ⟨gn, g, gs⟩⟩ = r := ⟨_, rfl⟩
          have d299 : w.heap.size ≠ x1.it.heap.size + 1 := by omega
          have d300 : w.heap.size + 1 ≠ x1.it.heap.size + 1 := by omega
          have d301 : w.heap.size + 1 + 1 ≠ x1.it.heap.size + 1 := by omega
          have d302 : x1.it.heap.size ≠ x1.it.heap.size + 1 := by omega
          have dd0 : w.heap.size ≠ x1.it.heap.size := by omega
          have dd1 : w.heap.size + 1 ≠ x1.it.heap.size := by omega
          go_cut [] (fun wx => (∃ y : ExtM y8.it (x1.it.heap.size + 1), wx = y.it) ∧ wx.cell? ⟨x1.it.heap.size + 1, 0, none⟩ = some (.bool true) ∧ wx.cell? ⟨x1.it.heap.size + 1, 1, none⟩ = some (.bool true) ∧ wx.cell? ⟨x1.it.heap.size + 1, 2, none⟩ = some (.bool lh) ∧ wx.cell? ⟨x1.it.heap.size + 1, 3, none⟩ = some (.bool ah) ∧ wx.cell? ⟨x1.it.heap.size + 1, 4, none⟩ = some (.bool lvn) ∧ wx.cell? ⟨x1.it.heap.size + 1, 5, none⟩ = some (.int .i64 lvi) ∧ wx.cell? ⟨x1.it.heap.size + 1, 6, none⟩ = some (.string lvs) ∧ wx.cell? ⟨x1.it.heap.size + 1, 7, none⟩ = some (.bool hn) ∧ wx.cell? ⟨x1.it.heap.size + 1, 8, none⟩ = some (.int .i64 h) ∧ wx.cell? ⟨x1.it.heap.size + 1, 9, none⟩ = some (.string hs) ∧ ∀ j, wx.frozen? ⟨x1.it.heap.size + 1, j, none⟩ = false)
          case first =>
            cases lc
            · have hq : (al, (⟨ln, l, ls⟩ : Val)) = (lh, ⟨lvn, lvi, lvs⟩) := by rw [← hlo]; unfold loF; rw [hlc]; rfl
              clear hlo hlc
              cases hq
              go_wp2_with fail
              go_meet
              exact ⟨⟨⟨_, by (first | with_reducible refine Moved.drN ?_ _ | skip); repeat (first | with_reducible exact Moved.refl _ _ | with_reducible assumption | with_reducible refine Moved.al ?_ _ | with_reducible refine Moved.onE ?_ _ | with_reducible refine Moved.on ?_ _ | with_reducible refine Moved.st ?_ _ _ _ | with_reducible refine Moved.stn ?_ (by first | assumption | (simp; done) | (simp; omega)) _ | with_reducible refine Moved.drew ?_)⟩, rfl⟩, by simp (maxDischargeDepth := 9) [go_sem, *], by simp (maxDischargeDepth := 9) [go_sem, *], by simp (maxDischargeDepth := 9) [go_sem, *], by simp (maxDischargeDepth := 9) [go_sem, *], by simp (maxDischargeDepth := 9) [go_sem, *], by simp (maxDischargeDepth := 9) [go_sem, *], by simp (maxDischargeDepth := 9) [go_sem, *], by simp (maxDischargeDepth := 9) [go_sem, *], by simp (maxDischargeDepth := 9) [go_sem, *], by simp (maxDischargeDepth := 9) [go_sem, *], by intro j; simp [go_sem, *]⟩
            · have hq : (true, (⟨lm, m, ms⟩ : Val)) = (lh, ⟨lvn, lvi, lvs⟩) := by rw [← hlo]; unfold loF; rw [hlc]; rfl
              clear hlo hlc
              cases hq
              go_upto_region 8 with fail
              go_region
              go_wp2_with fail
              go_meet
              exact ⟨⟨⟨_, by (first | with_reducible refine Moved.drN ?_ _ | skip); repeat (first | with_reducible exact Moved.refl _ _ | with_reducible assumption | with_reducible refine Moved.al ?_ _ | with_reducible refine Moved.onE ?_ _ | with_reducible refine Moved.on ?_ _ | with_reducible refine Moved.st ?_ _ _ _ | with_reducible refine Moved.stn ?_ (by first | assumption | (simp; done) | (simp; omega)) _ | with_reducible refine Moved.drew ?_)⟩, rfl⟩, by simp (maxDischargeDepth := 9) [go_sem, *], by simp (maxDischargeDepth := 9) [go_sem, *], by simp (maxDischargeDepth := 9) [go_sem, *], by simp (maxDischargeDepth := 9) [go_sem, *], by simp (maxDischargeDepth := 9) [go_sem, *], by simp (maxDischargeDepth := 9) [go_sem, *], by simp (maxDischargeDepth := 9) [go_sem, *], by simp (maxDischargeDepth := 9) [go_sem, *], by simp (maxDischargeDepth := 9) [go_sem, *], by simp (maxDischargeDepth := 9) [go_sem, *], by intro j; simp [go_sem, *]⟩
          case rest =>
            obtain ⟨⟨y10, rfl⟩, c0, c1, c2, c3, c4, c5, c6, c7, c8, c9, cf⟩ := hcut
            clear y9
            have t0 : w.heap.size < y10.it.heap.size := y10.lt (by assumption)
            have t1 : w.heap.size + 1 < y10.it.heap.size := y10.lt (by assumption)
            have t2 : w.heap.size + 1 + 1 < y10.it.heap.size := y10.lt (by assumption)
            have t3 : x1.it.heap.size < y10.it.heap.size := y10.lt (by assumption)
            have t4 : x1.it.heap.size + 1 < y10.it.heap.size := y10.lt (by assumption)
            go_upto_region 9 with fail
            go_cut [72] (fun s72 wx => s72 = .bool hc ∧ ∃ y : Ext y10.it, wx = y.it)
            case first =>
              cases bh
              · have hl : hc = false := by rw [← hhc]; rfl
                subst hl
                go_wp2_with fail
                go_meet
                exact ⟨rfl, ⟨_, Below.refl _ _⟩, rfl⟩
              cases ah
              · have hl : hc = true := by rw [← hhc]; rfl
                subst hl
                go_wp2_with fail
                go_meet
                exact ⟨rfl, ⟨_, Below.refl _ _⟩, rfl⟩
              · have hl : hc = decide (cmpV t ⟨gn, g, gs⟩ ⟨hn, h, hs⟩ < 0) := by rw [← hhc]; rfl
                subst hl
                go_wp2_with (go_at_call 14; refine (refCompare_any _ _ _ _ _ _ _ _).mono ?_; rintro e w9 ⟨rfl, hb9⟩; obtain ⟨x9, rfl⟩ := Ext.of hb9)
                go_meet
                exact ⟨by go_num, x9, rfl⟩
            case rest =>
              obtain ⟨rfl, y11, rfl⟩ := hcut
              go_upto_if 72 with fail
              obtain ⟨⟨hh, ⟨hvn, hvi, hvs⟩⟩, hhi⟩ : ∃ r, hiF t ⟨true, true, al, ah, ⟨ln, l, ls⟩, ⟨hn, h, hs⟩⟩ ⟨bn, true, bl, bh, ⟨lm, m, ms⟩, ⟨gn, g, gs⟩⟩ = r := ⟨_, rfl⟩
              go_cut [] (fun wx => (∃ y : ExtM y8.it (x1.it.heap.size + 1), wx = y.it) ∧ wx.cell? ⟨x1.it.heap.size + 1, 0, none⟩ = some (.bool true) ∧ wx.cell? ⟨x1.it.heap.size + 1, 1, none⟩ = some (.bool true) ∧ wx.cell? ⟨x1.it.heap.size + 1, 2, none⟩ = some (.bool lh) ∧ wx.cell? ⟨x1.it.heap.size + 1, 3, none⟩ = some (.bool hh) ∧ wx.cell? ⟨x1.it.heap.size + 1, 4, none⟩ = some (.bool lvn) ∧ wx.cell? ⟨x1.it.heap.size + 1, 5, none⟩ = some (.int .i64 lvi) ∧ wx.cell? ⟨x1.it.heap.size + 1, 6, none⟩ = some (.string lvs) ∧ wx.cell? ⟨x1.it.heap.size + 1, 7, none⟩ = some (.bool hvn) ∧ wx.cell? ⟨x1.it.heap.size + 1, 8, none⟩ = some (.int .i64 hvi) ∧ wx.cell? ⟨x1.it.heap.size + 1, 9, none⟩ = some (.string hvs) ∧ ∀ j, wx.frozen? ⟨x1.it.heap.size + 1, j, none⟩ = false)
              case first =>
                cases hc
                · have hq : (ah, (⟨hn, h, hs⟩ : Val)) = (hh, ⟨hvn, hvi, hvs⟩) := by rw [← hhi]; unfold hiF; rw [hhc]; rfl
                  clear hhi hhc
                  cases hq
                  go_wp2_with fail
                  go_meet
                  exact ⟨⟨⟨_, by (first | with_reducible refine Moved.drN ?_ _ | skip); repeat (first | with_reducible exact Moved.refl _ _ | with_reducible assumption | with_reducible refine Moved.al ?_ _ | with_reducible refine Moved.onE ?_ _ | with_reducible refine Moved.on ?_ _ | with_reducible refine Moved.st ?_ _ _ _ | with_reducible refine Moved.stn ?_ (by first | assumption | (simp; done) | (simp; omega)) _ | with_reducible refine Moved.drew ?_)⟩, rfl⟩, by simp (maxDischargeDepth := 9) [go_sem, *], by simp (maxDischargeDepth := 9) [go_sem, *], by simp (maxDischargeDepth := 9) [go_sem, *], by simp (maxDischargeDepth := 9) [go_sem, *], by simp (maxDischargeDepth := 9) [go_sem, *], by simp (maxDischargeDepth := 9) [go_sem, *], by simp (maxDischargeDepth := 9) [go_sem, *], by simp (maxDischargeDepth := 9) [go_sem, *], by simp (maxDischargeDepth := 9) [go_sem, *], by simp (maxDischargeDepth := 9) [go_sem, *], by intro j; simp [go_sem, *]⟩
                · have hq : (true, (⟨gn, g, gs⟩ : Val)) = (hh, ⟨hvn, hvi, hvs⟩) := by rw [← hhi]; unfold hiF; rw [hhc]; rfl
                  clear hhi hhc
                  cases hq
                  go_upto_region 10 with fail
                  go_region
                  go_wp2_with fail
                  go_meet
                  exact ⟨⟨⟨_, by (first | with_reducible refine Moved.drN ?_ _ | skip); repeat (first | with_reducible exact Moved.refl _ _ | with_reducible assumption | with_reducible refine Moved.al ?_ _ | with_reducible refine Moved.onE ?_ _ | with_reducible refine Moved.on ?_ _ | with_reducible refine Moved.st ?_ _ _ _ | with_reducible refine Moved.stn ?_ (by first | assumption | (simp; done) | (simp; omega)) _ | with_reducible refine Moved.drew ?_)⟩, rfl⟩, by simp (maxDischargeDepth := 9) [go_sem, *], by simp (maxDischargeDepth := 9) [go_sem, *], by simp (maxDischargeDepth := 9) [go_sem, *], by simp (maxDischargeDepth := 9) [go_sem, *], by simp (maxDischargeDepth := 9) [go_sem, *], by simp (maxDischargeDepth := 9) [go_sem, *], by simp (maxDischargeDepth := 9) [go_sem, *], by simp (maxDischargeDepth := 9) [go_sem, *], by simp (maxDischargeDepth := 9) [go_sem, *], by simp (maxDischargeDepth := 9) [go_sem, *], by intro j; simp [go_sem, *]⟩
              case rest =>
                clear c0 c1 c2 c3 c4 c5 c6 c7 c8 c9 cf t0 t1 t2 t3 t4
                obtain ⟨⟨y12, rfl⟩, c0, c1, c2, c3, c4, c5, c6, c7, c8, c9, cf⟩ := hcut
                clear y10 y11
                have t0 : w.heap.size < y12.it.heap.size := y12.lt (by assumption)
                have t1 : w.heap.size + 1 < y12.it.heap.size := y12.lt (by assumption)
                have t2 : w.heap.size + 1 + 1 < y12.it.heap.size := y12.lt (by assumption)
                have t3 : x1.it.heap.size < y12.it.heap.size := y12.lt (by assumption)
                have t4 : x1.it.heap.size + 1 < y12.it.heap.size := y12.lt (by assumption)
                have hm : meetOut t ⟨true, true, al, ah, ⟨ln, l, ls⟩, ⟨hn, h, hs⟩⟩ ⟨bn, true, bl, bh, ⟨lm, m, ms⟩, ⟨gn, g, gs⟩⟩ = ⟨bn, true, lh, hh, ⟨lvn, lvi, lvs⟩, ⟨hvn, hvi, hvs⟩⟩ := by unfold meetOut; rw [hlo, hhi]; rfl
                rw [hm] at EV
                obtain ⟨cb, hcb⟩ : ∃ cb, decide (0 < cmpV t ⟨lvn, lvi, lvs⟩ ⟨hvn, hvi, hvs⟩) = cb := ⟨_, rfl⟩
                have hok : checkF t ⟨bn, true, lh, hh, ⟨lvn, lvi, lvs⟩, ⟨hvn, hvi, hvs⟩⟩ = !(lh && hh && cb) := by have h := meet_chk HPQ hq rfl rfl; rw [hm] at h; rw [h, ← hcb]
                cases lh
                · have ev := Lib.hid (EV.out.trans (if_pos (by rw [hok]; rfl)))
                  clear EV hm hlo hhi hlc hhc hcb hok HPQ hp hq
                  go_wp2_with (go_at_call 14; refine (refCompare_any _ _ _ _ _ _ _ _).mono ?_; rintro e w13 ⟨rfl, hb13⟩; obtain ⟨x13, rfl⟩ := Ext.of hb13; have u0 : w.heap.size < x13.it.heap.size := x13.lt (by (first | with_reducible assumption | (simp only [World.size_setCell, World.size_alloc, World.size_drew]; first | with_reducible assumption | omega))); have u1 : w.heap.size + 1 < x13.it.heap.size := x13.lt (by (first | with_reducible assumption | (simp only [World.size_setCell, World.size_alloc, World.size_drew]; first | with_reducible assumption | omega))); have u2 : w.heap.size + 1 + 1 < x13.it.heap.size := x13.lt (by (first | with_reducible assumption | (simp only [World.size_setCell, World.size_alloc, World.size_drew]; first | with_reducible assumption | omega))); have u3 : x1.it.heap.size < x13.it.heap.size := x13.lt (by (first | with_reducible assumption | (simp only [World.size_setCell, World.size_alloc, World.size_drew]; first | with_reducible assumption | omega))); have u4 : x1.it.heap.size + 1 < x13.it.heap.size := x13.lt (by (first | with_reducible assumption | (simp only [World.size_setCell, World.size_alloc, World.size_drew]; first | with_reducible assumption | omega))))
                  exact bodyPost_ret (v := .agg #[.bool bn, .bool true, .bool false, .bool hh, .bool lvn, .int .i64 lvi, .string lvs, .bool hvn, .int .i64 hvi, .string hvs]) (by simp (maxDischargeDepth := 5) [results, Try.results44, go_sem, *]) rfl (⟨by rw [ev.out]; rfl, by repeat (first | with_reducible assumption | with_reducible refine Below.on ?_ _ | with_reducible refine Below.drew ?_ | with_reducible refine Below.st ?_ (by (first | with_reducible assumption | (simp only [World.size_setCell, World.size_alloc, World.size_drew]; first | with_reducible assumption | omega))) _ | exact Moved.below b8 y12.moved (by omega))⟩)
                cases hh
                · have ev := Lib.hid (EV.out.trans (if_pos (by rw [hok]; rfl)))
                  clear EV hm hlo hhi hlc hhc hcb hok HPQ hp hq
                  go_wp2_with (go_at_call 14; refine (refCompare_any _ _ _ _ _ _ _ _).mono ?_; rintro e w13 ⟨rfl, hb13⟩; obtain ⟨x13, rfl⟩ := Ext.of hb13; have u0 : w.heap.size < x13.it.heap.size := x13.lt (by (first | with_reducible assumption | (simp only [World.size_setCell, World.size_alloc, World.size_drew]; first | with_reducible assumption | omega))); have u1 : w.heap.size + 1 < x13.it.heap.size := x13.lt (by (first | with_reducible assumption | (simp only [World.size_setCell, World.size_alloc, World.size_drew]; first | with_reducible assumption | omega))); have u2 : w.heap.size + 1 + 1 < x13.it.heap.size := x13.lt (by (first | with_reducible assumption | (simp only [World.size_setCell, World.size_alloc, World.size_drew]; first | with_reducible assumption | omega))); have u3 : x1.it.heap.size < x13.it.heap.size := x13.lt (by (first | with_reducible assumption | (simp only [World.size_setCell, World.size_alloc, World.size_drew]; first | with_reducible assumption | omega))); have u4 : x1.it.heap.size + 1 < x13.it.heap.size := x13.lt (by (first | with_reducible assumption | (simp only [World.size_setCell, World.size_alloc, World.size_drew]; first | with_reducible assumption | omega))))
                  exact bodyPost_ret (v := .agg #[.bool bn, .bool true, .bool true, .bool false, .bool lvn, .int .i64 lvi, .string lvs, .bool hvn, .int .i64 hvi, .string hvs]) (by simp (maxDischargeDepth := 5) [results, Try.results44, go_sem, *]) rfl (⟨by rw [ev.out]; rfl, by repeat (first | with_reducible assumption | with_reducible refine Below.on ?_ _ | with_reducible refine Below.drew ?_ | with_reducible refine Below.st ?_ (by (first | with_reducible assumption | (simp only [World.size_setCell, World.size_alloc, World.size_drew]; first | with_reducible assumption | omega))) _ | exact Moved.below b8 y12.moved (by omega))⟩)
                cases cb
                · have ev := Lib.hid (EV.out.trans (if_pos (by rw [hok]; decide)))
                  have hc' : ¬ 0 < cmpV t ⟨lvn, lvi, lvs⟩ ⟨hvn, hvi, hvs⟩ := by simpa using hcb
                  have hc2 : cmpV t ⟨lvn, lvi, lvs⟩ ⟨hvn, hvi, hvs⟩ ≤ 0 := by omega
                  clear EV hm hlo hhi hlc hhc hcb hok HPQ hp hq
                  go_wp2_with (go_at_call 14; refine (refCompare_any _ _ _ _ _ _ _ _).mono ?_; rintro e w13 ⟨rfl, hb13⟩; obtain ⟨x13, rfl⟩ := Ext.of hb13; have u0 : w.heap.size < x13.it.heap.size := x13.lt (by (first | with_reducible assumption | (simp only [World.size_setCell, World.size_alloc, World.size_drew]; first | with_reducible assumption | omega))); have u1 : w.heap.size + 1 < x13.it.heap.size := x13.lt (by (first | with_reducible assumption | (simp only [World.size_setCell, World.size_alloc, World.size_drew]; first | with_reducible assumption | omega))); have u2 : w.heap.size + 1 + 1 < x13.it.heap.size := x13.lt (by (first | with_reducible assumption | (simp only [World.size_setCell, World.size_alloc, World.size_drew]; first | with_reducible assumption | omega))); have u3 : x1.it.heap.size < x13.it.heap.size := x13.lt (by (first | with_reducible assumption | (simp only [World.size_setCell, World.size_alloc, World.size_drew]; first | with_reducible assumption | omega))); have u4 : x1.it.heap.size + 1 < x13.it.heap.size := x13.lt (by (first | with_reducible assumption | (simp only [World.size_setCell, World.size_alloc, World.size_drew]; first | with_reducible assumption | omega))))
                  exact bodyPost_ret (v := .agg #[.bool bn, .bool true, .bool true, .bool true, .bool lvn, .int .i64 lvi, .string lvs, .bool hvn, .int .i64 hvi, .string hvs]) (by simp (maxDischargeDepth := 5) [results, Try.results44, go_sem, *]) rfl (⟨by rw [ev.out]; rfl, by repeat (first | with_reducible assumption | with_reducible refine Below.on ?_ _ | with_reducible refine Below.drew ?_ | with_reducible refine Below.st ?_ (by (first | with_reducible assumption | (simp only [World.size_setCell, World.size_alloc, World.size_drew]; first | with_reducible assumption | omega))) _ | exact Moved.below b8 y12.moved (by omega))⟩)
                · have ev := Lib.hid (EV.out.trans (if_neg (by rw [hok]; decide)))
                  have hc' : 0 < cmpV t ⟨lvn, lvi, lvs⟩ ⟨hvn, hvi, hvs⟩ := by simpa using hcb
                  clear EV hm hlo hhi hlc hhc hcb hok HPQ hp hq
                  go_wp2_with (go_at_call 14; refine (refCompare_any _ _ _ _ _ _ _ _).mono ?_; rintro e w13 ⟨rfl, hb13⟩; obtain ⟨x13, rfl⟩ := Ext.of hb13; have u0 : w.heap.size < x13.it.heap.size := x13.lt (by (first | with_reducible assumption | (simp only [World.size_setCell, World.size_alloc, World.size_drew]; first | with_reducible assumption | omega))); have u1 : w.heap.size + 1 < x13.it.heap.size := x13.lt (by (first | with_reducible assumption | (simp only [World.size_setCell, World.size_alloc, World.size_drew]; first | with_reducible assumption | omega))); have u2 : w.heap.size + 1 + 1 < x13.it.heap.size := x13.lt (by (first | with_reducible assumption | (simp only [World.size_setCell, World.size_alloc, World.size_drew]; first | with_reducible assumption | omega))); have u3 : x1.it.heap.size < x13.it.heap.size := x13.lt (by (first | with_reducible assumption | (simp only [World.size_setCell, World.size_alloc, World.size_drew]; first | with_reducible assumption | omega))); have u4 : x1.it.heap.size + 1 < x13.it.heap.size := x13.lt (by (first | with_reducible assumption | (simp only [World.size_setCell, World.size_alloc, World.size_drew]; first | with_reducible assumption | omega))))
                  exact bodyPost_ret (v := .agg #[.bool bn, .bool false, .bool false, .bool false, .bool false, .int .i64 0, .string ⟨#[]⟩, .bool false, .int .i64 0, .string ⟨#[]⟩]) (by simp (maxDischargeDepth := 5) [results, Try.results44, go_sem, *]) rfl (⟨by rw [ev.out]; rfl, by repeat (first | with_reducible assumption | with_reducible refine Below.on ?_ _ | with_reducible refine Below.drew ?_ | with_reducible refine Below.st ?_ (by (first | with_reducible assumption | (simp only [World.size_setCell, World.size_alloc, World.size_drew]; first | with_reducible assumption | omega))) _ | exact Moved.below b8 y12.moved (by omega))⟩)
end Go.Proofs.Ytjojnakgadfgmaa
