/-
  BOUNDS: the reference's Join. Conditions: none.
-/
import Derived.Test.YtjojnakgadfgmaaJoin
set_option linter.unusedVariables false
set_option linter.unusedSimpArgs false
namespace Go.Proofs.Ytjojnakgadfgmaa
open Go.RowKit
set_option maxRecDepth 8000 in
set_option maxHeartbeats 8000000 in
theorem refJoin_any (t : Int) (an as' al ah : Bool) (ln : Bool) (l : Int) (ls : ByteArray) (hn : Bool) (h : Int) (hs : ByteArray) (bn bs bl bh : Bool) (lm : Bool) (m : Int) (ms : ByteArray) (gn : Bool) (g : Int) (gs : ByteArray) (w : World) : Calls Try.prog 45 #[.int .i64 t, .agg #[.bool an, .bool as', .bool al, .bool ah, .bool ln, .int .i64 l, .string ls, .bool hn, .int .i64 h, .string hs], .agg #[.bool bn, .bool bs, .bool bl, .bool bh, .bool lm, .int .i64 m, .string ms, .bool gn, .int .i64 g, .string gs]] w fun e w' => e = .returned (joinF t ⟨an, as', al, ah, ⟨ln, l, ls⟩, ⟨hn, h, hs⟩⟩ ⟨bn, bs, bl, bh, ⟨lm, m, ms⟩, ⟨gn, g, gs⟩⟩).enc' ∧ Below w.heap.size w w' := by
  obtain ⟨p, hp⟩ : ∃ p, checkF t ⟨an, as', al, ah, ⟨ln, l, ls⟩, ⟨hn, h, hs⟩⟩ = p := ⟨_, rfl⟩
  obtain ⟨q, hq⟩ : ∃ q, checkF t ⟨bn, bs, bl, bh, ⟨lm, m, ms⟩, ⟨gn, g, gs⟩⟩ = q := ⟨_, rfl⟩
  cases p
  · have ev := Lib.hid (show joinF t ⟨an, as', al, ah, ⟨ln, l, ls⟩, ⟨hn, h, hs⟩⟩ ⟨bn, bs, bl, bh, ⟨lm, m, ms⟩, ⟨gn, g, gs⟩⟩ = ⟨false, false, false, false, Val.o, Val.o⟩ by unfold joinF; rw [if_pos (.inl hp)])
    go_enter Try.func45, Try.ntmps45
    go_wp2_with (go_at_call 17; refine (refCheck_any _ _ _ _ _ _ _ _ _ _ _ _).mono ?_; rintro e w1 ⟨rfl, hb1⟩; obtain ⟨x1, rfl⟩ := Ext.of hb1; have z0 : w.heap.size < x1.it.heap.size := x1.lt (by (first | assumption | (simp; done) | (simp; omega))); have z1 : w.heap.size + 1 < x1.it.heap.size := x1.lt (by (first | assumption | (simp; done) | (simp; omega))); have z2 : w.heap.size + 1 + 1 < x1.it.heap.size := x1.lt (by (first | assumption | (simp; done) | (simp; omega))))
    exact bodyPost_ret (v := .agg #[.bool false, .bool false, .bool false, .bool false, .bool false, .int .i64 0, .string ⟨#[]⟩, .bool false, .int .i64 0, .string ⟨#[]⟩]) (by simp [results, Try.results45, go_sem, *]) rfl (⟨by rw [ev.out]; rfl, by repeat (first | with_reducible exact Below.refl _ _ | with_reducible assumption | with_reducible refine Below.al ?_ _ | with_reducible refine Below.on ?_ _ | with_reducible refine Below.st ?_ (by first | assumption | (simp; done) | (simp; omega)) _ | with_reducible refine Below.drew ?_)⟩)
  cases q
  · have ev := Lib.hid (show joinF t ⟨an, as', al, ah, ⟨ln, l, ls⟩, ⟨hn, h, hs⟩⟩ ⟨bn, bs, bl, bh, ⟨lm, m, ms⟩, ⟨gn, g, gs⟩⟩ = ⟨false, false, false, false, Val.o, Val.o⟩ by unfold joinF; rw [if_pos (.inr hq)])
    go_enter Try.func45, Try.ntmps45
    go_wp2_with (go_at_call 17; refine (refCheck_any _ _ _ _ _ _ _ _ _ _ _ _).mono ?_; rintro e w1 ⟨rfl, hb1⟩; obtain ⟨x1, rfl⟩ := Ext.of hb1; have z0 : w.heap.size < x1.it.heap.size := x1.lt (by (first | assumption | (simp; done) | (simp; omega))); have z1 : w.heap.size + 1 < x1.it.heap.size := x1.lt (by (first | assumption | (simp; done) | (simp; omega))); have z2 : w.heap.size + 1 + 1 < x1.it.heap.size := x1.lt (by (first | assumption | (simp; done) | (simp; omega))))
    exact bodyPost_ret (v := .agg #[.bool false, .bool false, .bool false, .bool false, .bool false, .int .i64 0, .string ⟨#[]⟩, .bool false, .int .i64 0, .string ⟨#[]⟩]) (by simp [results, Try.results45, go_sem, *]) rfl (⟨by rw [ev.out]; rfl, by repeat (first | with_reducible exact Below.refl _ _ | with_reducible assumption | with_reducible refine Below.al ?_ _ | with_reducible refine Below.on ?_ _ | with_reducible refine Below.st ?_ (by first | assumption | (simp; done) | (simp; omega)) _ | with_reducible refine Below.drew ?_)⟩)
  have e0 := Lib.hid (show joinF t ⟨an, as', al, ah, ⟨ln, l, ls⟩, ⟨hn, h, hs⟩⟩ ⟨bn, bs, bl, bh, ⟨lm, m, ms⟩, ⟨gn, g, gs⟩⟩ = if as' = false then ⟨an || bn, bs, bl, bh, ⟨lm, m, ms⟩, ⟨gn, g, gs⟩⟩ else if bs = false then ⟨an || bn, as', al, ah, ⟨ln, l, ls⟩, ⟨hn, h, hs⟩⟩ else ⟨an || bn, as', (loJ t ⟨an, as', al, ah, ⟨ln, l, ls⟩, ⟨hn, h, hs⟩⟩ ⟨bn, bs, bl, bh, ⟨lm, m, ms⟩, ⟨gn, g, gs⟩⟩).1, (hiJ t ⟨an, as', al, ah, ⟨ln, l, ls⟩, ⟨hn, h, hs⟩⟩ ⟨bn, bs, bl, bh, ⟨lm, m, ms⟩, ⟨gn, g, gs⟩⟩).1, (loJ t ⟨an, as', al, ah, ⟨ln, l, ls⟩, ⟨hn, h, hs⟩⟩ ⟨bn, bs, bl, bh, ⟨lm, m, ms⟩, ⟨gn, g, gs⟩⟩).2, (hiJ t ⟨an, as', al, ah, ⟨ln, l, ls⟩, ⟨hn, h, hs⟩⟩ ⟨bn, bs, bl, bh, ⟨lm, m, ms⟩, ⟨gn, g, gs⟩⟩).2⟩ by unfold joinF; rw [if_neg (by rw [hp, hq]; decide)])
  have HPQ := hp
  cases as'
  · skip
    cases an
    · have ev := Lib.hid (e0.out.trans (if_pos rfl))
      clear e0
      go_enter Try.func45, Try.ntmps45
      go_upto_region 3 with (go_at_call 17; refine (refCheck_any _ _ _ _ _ _ _ _ _ _ _ _).mono ?_; rintro e w1 ⟨rfl, hb1⟩; obtain ⟨x1, rfl⟩ := Ext.of hb1; have z0 : w.heap.size < x1.it.heap.size := x1.lt (by (first | assumption | (simp; done) | (simp; omega))); have z1 : w.heap.size + 1 < x1.it.heap.size := x1.lt (by (first | assumption | (simp; done) | (simp; omega))); have z2 : w.heap.size + 1 + 1 < x1.it.heap.size := x1.lt (by (first | assumption | (simp; done) | (simp; omega))))
      go_wp2
      exact bodyPost_ret (v := .agg #[.bool bn, .bool bs, .bool bl, .bool bh, .bool lm, .int .i64 m, .string ms, .bool gn, .int .i64 g, .string gs]) (by simp (maxDischargeDepth := 5) [results, Try.results45, go_sem, *]) rfl (⟨by rw [ev.out]; rfl, by repeat (first | with_reducible assumption | with_reducible exact Below.refl _ _ | with_reducible refine Below.al ?_ _ | with_reducible refine Below.on ?_ _ | with_reducible refine Below.drew ?_ | with_reducible refine Below.st ?_ (by (first | with_reducible assumption | (simp only [World.size_setCell, World.size_alloc, World.size_drew]; first | with_reducible assumption | omega))) _ | exact Moved.below b8 y12.moved (by omega))⟩)
    · have ev := Lib.hid (e0.out.trans (if_pos rfl))
      clear e0
      go_enter Try.func45, Try.ntmps45
      go_upto_region 3 with (go_at_call 17; refine (refCheck_any _ _ _ _ _ _ _ _ _ _ _ _).mono ?_; rintro e w1 ⟨rfl, hb1⟩; obtain ⟨x1, rfl⟩ := Ext.of hb1; have z0 : w.heap.size < x1.it.heap.size := x1.lt (by (first | assumption | (simp; done) | (simp; omega))); have z1 : w.heap.size + 1 < x1.it.heap.size := x1.lt (by (first | assumption | (simp; done) | (simp; omega))); have z2 : w.heap.size + 1 + 1 < x1.it.heap.size := x1.lt (by (first | assumption | (simp; done) | (simp; omega))))
      go_wp2
      exact bodyPost_ret (v := .agg #[.bool true, .bool bs, .bool bl, .bool bh, .bool lm, .int .i64 m, .string ms, .bool gn, .int .i64 g, .string gs]) (by simp (maxDischargeDepth := 5) [results, Try.results45, go_sem, *]) rfl (⟨by rw [ev.out]; rfl, by repeat (first | with_reducible assumption | with_reducible exact Below.refl _ _ | with_reducible refine Below.al ?_ _ | with_reducible refine Below.on ?_ _ | with_reducible refine Below.drew ?_ | with_reducible refine Below.st ?_ (by (first | with_reducible assumption | (simp only [World.size_setCell, World.size_alloc, World.size_drew]; first | with_reducible assumption | omega))) _ | exact Moved.below b8 y12.moved (by omega))⟩)
  · cases bs
    · skip
      cases an
      · have ev := Lib.hid (e0.out.trans ((if_neg (by decide)).trans (if_pos rfl)))
        clear e0
        go_enter Try.func45, Try.ntmps45
        go_upto_region 3 with (go_at_call 17; refine (refCheck_any _ _ _ _ _ _ _ _ _ _ _ _).mono ?_; rintro e w1 ⟨rfl, hb1⟩; obtain ⟨x1, rfl⟩ := Ext.of hb1; have z0 : w.heap.size < x1.it.heap.size := x1.lt (by (first | assumption | (simp; done) | (simp; omega))); have z1 : w.heap.size + 1 < x1.it.heap.size := x1.lt (by (first | assumption | (simp; done) | (simp; omega))); have z2 : w.heap.size + 1 + 1 < x1.it.heap.size := x1.lt (by (first | assumption | (simp; done) | (simp; omega))))
        go_upto_region 8 with fail
        refine captureE ?_
        intro y8 e8
        have ka0 : y8.it.cell? ⟨w.heap.size, 0, none⟩ = some (.bool false) := by simp (maxDischargeDepth := 9) [go_sem, *]
        have ka1 : y8.it.cell? ⟨w.heap.size, 1, none⟩ = some (.bool true) := by simp (maxDischargeDepth := 9) [go_sem, *]
        have ka2 : y8.it.cell? ⟨w.heap.size, 2, none⟩ = some (.bool al) := by simp (maxDischargeDepth := 9) [go_sem, *]
        have ka3 : y8.it.cell? ⟨w.heap.size, 3, none⟩ = some (.bool ah) := by simp (maxDischargeDepth := 9) [go_sem, *]
        have ka4 : y8.it.cell? ⟨w.heap.size, 4, none⟩ = some (.bool ln) := by simp (maxDischargeDepth := 9) [go_sem, *]
        have ka5 : y8.it.cell? ⟨w.heap.size, 5, none⟩ = some (.int .i64 l) := by simp (maxDischargeDepth := 9) [go_sem, *]
        have ka6 : y8.it.cell? ⟨w.heap.size, 6, none⟩ = some (.string ls) := by simp (maxDischargeDepth := 9) [go_sem, *]
        have ka7 : y8.it.cell? ⟨w.heap.size, 7, none⟩ = some (.bool hn) := by simp (maxDischargeDepth := 9) [go_sem, *]
        have ka8 : y8.it.cell? ⟨w.heap.size, 8, none⟩ = some (.int .i64 h) := by simp (maxDischargeDepth := 9) [go_sem, *]
        have ka9 : y8.it.cell? ⟨w.heap.size, 9, none⟩ = some (.string hs) := by simp (maxDischargeDepth := 9) [go_sem, *]
        have kr0 : y8.it.cell? ⟨w.heap.size + 1 + 1, 0, none⟩ = some (.bool false) := by simp (maxDischargeDepth := 9) [go_sem, *]
        have kr1 : y8.it.cell? ⟨w.heap.size + 1 + 1, 1, none⟩ = some (.bool false) := by simp (maxDischargeDepth := 9) [go_sem, *]
        have kr2 : y8.it.cell? ⟨w.heap.size + 1 + 1, 2, none⟩ = some (.bool false) := by simp (maxDischargeDepth := 9) [go_sem, *]
        have kr3 : y8.it.cell? ⟨w.heap.size + 1 + 1, 3, none⟩ = some (.bool false) := by simp (maxDischargeDepth := 9) [go_sem, *]
        have kr4 : y8.it.cell? ⟨w.heap.size + 1 + 1, 4, none⟩ = some (.bool false) := by simp (maxDischargeDepth := 9) [go_sem, *]
        have kr5 : y8.it.cell? ⟨w.heap.size + 1 + 1, 5, none⟩ = some (.int .i64 0) := by simp (maxDischargeDepth := 9) [go_sem, *]
        have kr6 : y8.it.cell? ⟨w.heap.size + 1 + 1, 6, none⟩ = some (.string ⟨#[]⟩) := by simp (maxDischargeDepth := 9) [go_sem, *]
        have kr7 : y8.it.cell? ⟨w.heap.size + 1 + 1, 7, none⟩ = some (.bool false) := by simp (maxDischargeDepth := 9) [go_sem, *]
        have kr8 : y8.it.cell? ⟨w.heap.size + 1 + 1, 8, none⟩ = some (.int .i64 0) := by simp (maxDischargeDepth := 9) [go_sem, *]
        have kr9 : y8.it.cell? ⟨w.heap.size + 1 + 1, 9, none⟩ = some (.string ⟨#[]⟩) := by simp (maxDischargeDepth := 9) [go_sem, *]
        have kf : ∀ j, y8.it.frozen? ⟨w.heap.size, j, none⟩ = false := by intro j; simp [go_sem, *]
        have kg : ∀ j, y8.it.frozen? ⟨w.heap.size + 1 + 1, j, none⟩ = false := by intro j; simp [go_sem, *]
        have s0 : w.heap.size < y8.it.heap.size := by rw [e8]; (first | with_reducible assumption | (simp only [World.size_setCell, World.size_alloc, World.size_drew]; first | with_reducible assumption | omega))
        have s1 : w.heap.size + 1 < y8.it.heap.size := by rw [e8]; (first | with_reducible assumption | (simp only [World.size_setCell, World.size_alloc, World.size_drew]; first | with_reducible assumption | omega))
        have s2 : w.heap.size + 1 + 1 < y8.it.heap.size := by rw [e8]; (first | with_reducible assumption | (simp only [World.size_setCell, World.size_alloc, World.size_drew]; first | with_reducible assumption | omega))
        have b8 : Below w.heap.size w y8.it := by rw [e8]; exact (by repeat (first | with_reducible exact Below.refl _ _ | with_reducible assumption | with_reducible refine Below.al ?_ _ | with_reducible refine Below.on ?_ _ | with_reducible refine Below.st ?_ (by first | assumption | (simp; done) | (simp; omega)) _ | with_reducible refine Below.drew ?_))
        clear e8
        go_wp2
        exact bodyPost_ret (v := .agg #[.bool bn, .bool true, .bool al, .bool ah, .bool ln, .int .i64 l, .string ls, .bool hn, .int .i64 h, .string hs]) (by simp (maxDischargeDepth := 5) [results, Try.results45, go_sem, *]) rfl (⟨by rw [ev.out]; rfl, by repeat (first | with_reducible assumption | with_reducible exact Below.refl _ _ | with_reducible refine Below.al ?_ _ | with_reducible refine Below.on ?_ _ | with_reducible refine Below.drew ?_ | with_reducible refine Below.st ?_ (by (first | with_reducible assumption | (simp only [World.size_setCell, World.size_alloc, World.size_drew]; first | with_reducible assumption | omega))) _ | exact Moved.below b8 y12.moved (by omega))⟩)
      · have ev := Lib.hid (e0.out.trans ((if_neg (by decide)).trans (if_pos rfl)))
        clear e0
        go_enter Try.func45, Try.ntmps45
        go_upto_region 3 with (go_at_call 17; refine (refCheck_any _ _ _ _ _ _ _ _ _ _ _ _).mono ?_; rintro e w1 ⟨rfl, hb1⟩; obtain ⟨x1, rfl⟩ := Ext.of hb1; have z0 : w.heap.size < x1.it.heap.size := x1.lt (by (first | assumption | (simp; done) | (simp; omega))); have z1 : w.heap.size + 1 < x1.it.heap.size := x1.lt (by (first | assumption | (simp; done) | (simp; omega))); have z2 : w.heap.size + 1 + 1 < x1.it.heap.size := x1.lt (by (first | assumption | (simp; done) | (simp; omega))))
        go_upto_region 8 with fail
        refine captureE ?_
        intro y8 e8
        have ka0 : y8.it.cell? ⟨w.heap.size, 0, none⟩ = some (.bool true) := by simp (maxDischargeDepth := 9) [go_sem, *]
        have ka1 : y8.it.cell? ⟨w.heap.size, 1, none⟩ = some (.bool true) := by simp (maxDischargeDepth := 9) [go_sem, *]
        have ka2 : y8.it.cell? ⟨w.heap.size, 2, none⟩ = some (.bool al) := by simp (maxDischargeDepth := 9) [go_sem, *]
        have ka3 : y8.it.cell? ⟨w.heap.size, 3, none⟩ = some (.bool ah) := by simp (maxDischargeDepth := 9) [go_sem, *]
        have ka4 : y8.it.cell? ⟨w.heap.size, 4, none⟩ = some (.bool ln) := by simp (maxDischargeDepth := 9) [go_sem, *]
        have ka5 : y8.it.cell? ⟨w.heap.size, 5, none⟩ = some (.int .i64 l) := by simp (maxDischargeDepth := 9) [go_sem, *]
        have ka6 : y8.it.cell? ⟨w.heap.size, 6, none⟩ = some (.string ls) := by simp (maxDischargeDepth := 9) [go_sem, *]
        have ka7 : y8.it.cell? ⟨w.heap.size, 7, none⟩ = some (.bool hn) := by simp (maxDischargeDepth := 9) [go_sem, *]
        have ka8 : y8.it.cell? ⟨w.heap.size, 8, none⟩ = some (.int .i64 h) := by simp (maxDischargeDepth := 9) [go_sem, *]
        have ka9 : y8.it.cell? ⟨w.heap.size, 9, none⟩ = some (.string hs) := by simp (maxDischargeDepth := 9) [go_sem, *]
        have kr0 : y8.it.cell? ⟨w.heap.size + 1 + 1, 0, none⟩ = some (.bool false) := by simp (maxDischargeDepth := 9) [go_sem, *]
        have kr1 : y8.it.cell? ⟨w.heap.size + 1 + 1, 1, none⟩ = some (.bool false) := by simp (maxDischargeDepth := 9) [go_sem, *]
        have kr2 : y8.it.cell? ⟨w.heap.size + 1 + 1, 2, none⟩ = some (.bool false) := by simp (maxDischargeDepth := 9) [go_sem, *]
        have kr3 : y8.it.cell? ⟨w.heap.size + 1 + 1, 3, none⟩ = some (.bool false) := by simp (maxDischargeDepth := 9) [go_sem, *]
        have kr4 : y8.it.cell? ⟨w.heap.size + 1 + 1, 4, none⟩ = some (.bool false) := by simp (maxDischargeDepth := 9) [go_sem, *]
        have kr5 : y8.it.cell? ⟨w.heap.size + 1 + 1, 5, none⟩ = some (.int .i64 0) := by simp (maxDischargeDepth := 9) [go_sem, *]
        have kr6 : y8.it.cell? ⟨w.heap.size + 1 + 1, 6, none⟩ = some (.string ⟨#[]⟩) := by simp (maxDischargeDepth := 9) [go_sem, *]
        have kr7 : y8.it.cell? ⟨w.heap.size + 1 + 1, 7, none⟩ = some (.bool false) := by simp (maxDischargeDepth := 9) [go_sem, *]
        have kr8 : y8.it.cell? ⟨w.heap.size + 1 + 1, 8, none⟩ = some (.int .i64 0) := by simp (maxDischargeDepth := 9) [go_sem, *]
        have kr9 : y8.it.cell? ⟨w.heap.size + 1 + 1, 9, none⟩ = some (.string ⟨#[]⟩) := by simp (maxDischargeDepth := 9) [go_sem, *]
        have kf : ∀ j, y8.it.frozen? ⟨w.heap.size, j, none⟩ = false := by intro j; simp [go_sem, *]
        have kg : ∀ j, y8.it.frozen? ⟨w.heap.size + 1 + 1, j, none⟩ = false := by intro j; simp [go_sem, *]
        have s0 : w.heap.size < y8.it.heap.size := by rw [e8]; (first | with_reducible assumption | (simp only [World.size_setCell, World.size_alloc, World.size_drew]; first | with_reducible assumption | omega))
        have s1 : w.heap.size + 1 < y8.it.heap.size := by rw [e8]; (first | with_reducible assumption | (simp only [World.size_setCell, World.size_alloc, World.size_drew]; first | with_reducible assumption | omega))
        have s2 : w.heap.size + 1 + 1 < y8.it.heap.size := by rw [e8]; (first | with_reducible assumption | (simp only [World.size_setCell, World.size_alloc, World.size_drew]; first | with_reducible assumption | omega))
        have b8 : Below w.heap.size w y8.it := by rw [e8]; exact (by repeat (first | with_reducible exact Below.refl _ _ | with_reducible assumption | with_reducible refine Below.al ?_ _ | with_reducible refine Below.on ?_ _ | with_reducible refine Below.st ?_ (by first | assumption | (simp; done) | (simp; omega)) _ | with_reducible refine Below.drew ?_))
        clear e8
        go_wp2
        exact bodyPost_ret (v := .agg #[.bool true, .bool true, .bool al, .bool ah, .bool ln, .int .i64 l, .string ls, .bool hn, .int .i64 h, .string hs]) (by simp (maxDischargeDepth := 5) [results, Try.results45, go_sem, *]) rfl (⟨by rw [ev.out]; rfl, by repeat (first | with_reducible assumption | with_reducible exact Below.refl _ _ | with_reducible refine Below.al ?_ _ | with_reducible refine Below.on ?_ _ | with_reducible refine Below.drew ?_ | with_reducible refine Below.st ?_ (by (first | with_reducible assumption | (simp only [World.size_setCell, World.size_alloc, World.size_drew]; first | with_reducible assumption | omega))) _ | exact Moved.below b8 y12.moved (by omega))⟩)
    · have EV := Lib.hid (e0.out.trans ((if_neg (by decide)).trans (if_neg (by decide))))
      clear e0
      cases an
      · skip
        go_enter Try.func45, Try.ntmps45
        go_upto_region 3 with (go_at_call 17; refine (refCheck_any _ _ _ _ _ _ _ _ _ _ _ _).mono ?_; rintro e w1 ⟨rfl, hb1⟩; obtain ⟨x1, rfl⟩ := Ext.of hb1; have z0 : w.heap.size < x1.it.heap.size := x1.lt (by (first | assumption | (simp; done) | (simp; omega))); have z1 : w.heap.size + 1 < x1.it.heap.size := x1.lt (by (first | assumption | (simp; done) | (simp; omega))); have z2 : w.heap.size + 1 + 1 < x1.it.heap.size := x1.lt (by (first | assumption | (simp; done) | (simp; omega))))
        go_upto_region 11 with fail
        refine captureE ?_
        intro y8 e8
        have ka0 : y8.it.cell? ⟨w.heap.size, 0, none⟩ = some (.bool false) := by simp (maxDischargeDepth := 9) [go_sem, *]
        have ka1 : y8.it.cell? ⟨w.heap.size, 1, none⟩ = some (.bool true) := by simp (maxDischargeDepth := 9) [go_sem, *]
        have ka2 : y8.it.cell? ⟨w.heap.size, 2, none⟩ = some (.bool al) := by simp (maxDischargeDepth := 9) [go_sem, *]
        have ka3 : y8.it.cell? ⟨w.heap.size, 3, none⟩ = some (.bool ah) := by simp (maxDischargeDepth := 9) [go_sem, *]
        have ka4 : y8.it.cell? ⟨w.heap.size, 4, none⟩ = some (.bool ln) := by simp (maxDischargeDepth := 9) [go_sem, *]
        have ka5 : y8.it.cell? ⟨w.heap.size, 5, none⟩ = some (.int .i64 l) := by simp (maxDischargeDepth := 9) [go_sem, *]
        have ka6 : y8.it.cell? ⟨w.heap.size, 6, none⟩ = some (.string ls) := by simp (maxDischargeDepth := 9) [go_sem, *]
        have ka7 : y8.it.cell? ⟨w.heap.size, 7, none⟩ = some (.bool hn) := by simp (maxDischargeDepth := 9) [go_sem, *]
        have ka8 : y8.it.cell? ⟨w.heap.size, 8, none⟩ = some (.int .i64 h) := by simp (maxDischargeDepth := 9) [go_sem, *]
        have ka9 : y8.it.cell? ⟨w.heap.size, 9, none⟩ = some (.string hs) := by simp (maxDischargeDepth := 9) [go_sem, *]
        have kb0 : y8.it.cell? ⟨w.heap.size + 1, 0, none⟩ = some (.bool bn) := by simp (maxDischargeDepth := 9) [go_sem, *]
        have kb1 : y8.it.cell? ⟨w.heap.size + 1, 1, none⟩ = some (.bool true) := by simp (maxDischargeDepth := 9) [go_sem, *]
        have kb2 : y8.it.cell? ⟨w.heap.size + 1, 2, none⟩ = some (.bool bl) := by simp (maxDischargeDepth := 9) [go_sem, *]
        have kb3 : y8.it.cell? ⟨w.heap.size + 1, 3, none⟩ = some (.bool bh) := by simp (maxDischargeDepth := 9) [go_sem, *]
        have kb4 : y8.it.cell? ⟨w.heap.size + 1, 4, none⟩ = some (.bool lm) := by simp (maxDischargeDepth := 9) [go_sem, *]
        have kb5 : y8.it.cell? ⟨w.heap.size + 1, 5, none⟩ = some (.int .i64 m) := by simp (maxDischargeDepth := 9) [go_sem, *]
        have kb6 : y8.it.cell? ⟨w.heap.size + 1, 6, none⟩ = some (.string ms) := by simp (maxDischargeDepth := 9) [go_sem, *]
        have kb7 : y8.it.cell? ⟨w.heap.size + 1, 7, none⟩ = some (.bool gn) := by simp (maxDischargeDepth := 9) [go_sem, *]
        have kb8 : y8.it.cell? ⟨w.heap.size + 1, 8, none⟩ = some (.int .i64 g) := by simp (maxDischargeDepth := 9) [go_sem, *]
        have kb9 : y8.it.cell? ⟨w.heap.size + 1, 9, none⟩ = some (.string gs) := by simp (maxDischargeDepth := 9) [go_sem, *]
        have ko0 : y8.it.cell? ⟨x1.it.heap.size, 0, none⟩ = some (.bool bn) := by simp (maxDischargeDepth := 9) [go_sem, *]
        have ko1 : y8.it.cell? ⟨x1.it.heap.size, 1, none⟩ = some (.bool true) := by simp (maxDischargeDepth := 9) [go_sem, *]
        have ko2 : y8.it.cell? ⟨x1.it.heap.size, 2, none⟩ = some (.bool false) := by simp (maxDischargeDepth := 9) [go_sem, *]
        have ko3 : y8.it.cell? ⟨x1.it.heap.size, 3, none⟩ = some (.bool false) := by simp (maxDischargeDepth := 9) [go_sem, *]
        have ko4 : y8.it.cell? ⟨x1.it.heap.size, 4, none⟩ = some (.bool false) := by simp (maxDischargeDepth := 9) [go_sem, *]
        have ko5 : y8.it.cell? ⟨x1.it.heap.size, 5, none⟩ = some (.int .i64 0) := by simp (maxDischargeDepth := 9) [go_sem, *]
        have ko6 : y8.it.cell? ⟨x1.it.heap.size, 6, none⟩ = some (.string ⟨#[]⟩) := by simp (maxDischargeDepth := 9) [go_sem, *]
        have ko7 : y8.it.cell? ⟨x1.it.heap.size, 7, none⟩ = some (.bool false) := by simp (maxDischargeDepth := 9) [go_sem, *]
        have ko8 : y8.it.cell? ⟨x1.it.heap.size, 8, none⟩ = some (.int .i64 0) := by simp (maxDischargeDepth := 9) [go_sem, *]
        have ko9 : y8.it.cell? ⟨x1.it.heap.size, 9, none⟩ = some (.string ⟨#[]⟩) := by simp (maxDischargeDepth := 9) [go_sem, *]
        have kf : ∀ j, y8.it.frozen? ⟨x1.it.heap.size, j, none⟩ = false := by intro j; simp [go_sem, *]
        have kg : ∀ j, y8.it.frozen? ⟨w.heap.size + 1 + 1, j, none⟩ = false := by intro j; simp [go_sem, *]
        have s0 : w.heap.size < y8.it.heap.size := by rw [e8]; (first | with_reducible assumption | (simp only [World.size_setCell, World.size_alloc, World.size_drew]; first | with_reducible assumption | omega))
        have s1 : w.heap.size + 1 < y8.it.heap.size := by rw [e8]; (first | with_reducible assumption | (simp only [World.size_setCell, World.size_alloc, World.size_drew]; first | with_reducible assumption | omega))
        have s2 : w.heap.size + 1 + 1 < y8.it.heap.size := by rw [e8]; (first | with_reducible assumption | (simp only [World.size_setCell, World.size_alloc, World.size_drew]; first | with_reducible assumption | omega))
        have s3 : x1.it.heap.size < y8.it.heap.size := by rw [e8]; (first | with_reducible assumption | (simp only [World.size_setCell, World.size_alloc, World.size_drew]; first | with_reducible assumption | omega))
        have b8 : Below w.heap.size w y8.it := by rw [e8]; exact (by repeat (first | with_reducible exact Below.refl _ _ | with_reducible assumption | with_reducible refine Below.al ?_ _ | with_reducible refine Below.on ?_ _ | with_reducible refine Below.st ?_ (by first | assumption | (simp; done) | (simp; omega)) _ | with_reducible refine Below.drew ?_))
        clear e8
        have d0 : w.heap.size ≠ x1.it.heap.size := by omega
        have d1 : w.heap.size + 1 ≠ x1.it.heap.size := by omega
        have d2 : w.heap.size + 1 + 1 ≠ x1.it.heap.size := by omega
        obtain ⟨flo, hlo⟩ : ∃ f, (al && bl) = f := ⟨_, rfl⟩
        obtain ⟨⟨loh, ⟨lon, loi, los⟩⟩, hrlo⟩ : ∃ r, loJ t ⟨false, true, al, ah, ⟨ln, l, ls⟩, ⟨hn, h, hs⟩⟩ ⟨bn, true, bl, bh, ⟨lm, m, ms⟩, ⟨gn, g, gs⟩⟩ = r := ⟨_, rfl⟩
        go_cut [45] (fun s45 wx => s45 = .bool flo ∧ ∃ y : Ext y8.it, wx = y.it)
        case first =>
          clear hrlo EV
          cases al
          · have hq : flo = false := by rw [← hlo]; rfl
            subst hq
            clear hlo
            go_wp2_with fail
            go_meet
            exact ⟨rfl, ⟨_, Below.refl _ _⟩, rfl⟩
          cases bl
          · have hq : flo = false := by rw [← hlo]; rfl
            subst hq
            clear hlo
            go_wp2_with fail
            go_meet
            exact ⟨rfl, ⟨_, Below.refl _ _⟩, rfl⟩
          · have hq : flo = true := by rw [← hlo]; rfl
            subst hq
            clear hlo
            go_wp2_with fail
            go_meet
            exact ⟨rfl, ⟨_, Below.refl _ _⟩, rfl⟩
        case rest =>
          obtain ⟨rfl, y9, rfl⟩ := hcut
          have q0 : w.heap.size < y9.it.heap.size := y9.lt (by assumption)
          have q1 : w.heap.size + 1 < y9.it.heap.size := y9.lt (by assumption)
          have q2 : w.heap.size + 1 + 1 < y9.it.heap.size := y9.lt (by assumption)
          have q3 : x1.it.heap.size < y9.it.heap.size := y9.lt (by assumption)
          go_upto_if 45 with fail
          go_cut [] (fun wx => (∃ y : ExtM y8.it (x1.it.heap.size), wx = y.it) ∧ wx.cell? ⟨x1.it.heap.size, 0, none⟩ = some (.bool bn) ∧ wx.cell? ⟨x1.it.heap.size, 1, none⟩ = some (.bool true) ∧ wx.cell? ⟨x1.it.heap.size, 2, none⟩ = some (.bool loh) ∧ wx.cell? ⟨x1.it.heap.size, 3, none⟩ = some (.bool false) ∧ wx.cell? ⟨x1.it.heap.size, 4, none⟩ = some (.bool lon) ∧ wx.cell? ⟨x1.it.heap.size, 5, none⟩ = some (.int .i64 loi) ∧ wx.cell? ⟨x1.it.heap.size, 6, none⟩ = some (.string los) ∧ wx.cell? ⟨x1.it.heap.size, 7, none⟩ = some (.bool false) ∧ wx.cell? ⟨x1.it.heap.size, 8, none⟩ = some (.int .i64 0) ∧ wx.cell? ⟨x1.it.heap.size, 9, none⟩ = some (.string ⟨#[]⟩) ∧ ∀ j, wx.frozen? ⟨x1.it.heap.size, j, none⟩ = false)
          case first =>
            clear EV
            cases flo
            · have hq : (false, Val.o) = (loh, (⟨lon, loi, los⟩ : Val)) := by rw [← hrlo]; unfold loJ; rw [if_pos hlo]
              clear hrlo hlo
              cases hq
              go_wp2_with fail
              go_meet
              exact ⟨ExtM.of (by repeat (first | with_reducible exact Moved.refl _ _ | with_reducible assumption | with_reducible refine Moved.al ?_ _ | with_reducible refine Moved.onE ?_ _ | with_reducible refine Moved.on ?_ _ | with_reducible refine Moved.st ?_ _ _ _ | with_reducible refine Moved.stn ?_ (by first | assumption | (simp; done) | (simp; omega)) _ | with_reducible refine Moved.drew ?_)), by simp (maxDischargeDepth := 9) [go_sem, *], by simp (maxDischargeDepth := 9) [go_sem, *], by simp (maxDischargeDepth := 9) [go_sem, *], by simp (maxDischargeDepth := 9) [go_sem, *], by simp (maxDischargeDepth := 9) [go_sem, *], by simp (maxDischargeDepth := 9) [go_sem, *], by simp (maxDischargeDepth := 9) [go_sem, *], by simp (maxDischargeDepth := 9) [go_sem, *], by simp (maxDischargeDepth := 9) [go_sem, *], by simp (maxDischargeDepth := 9) [go_sem, *], by intro j; simp [go_sem, *]⟩
            · obtain ⟨k, hk⟩ : ∃ k, decide (cmpV t ⟨lm, m, ms⟩ ⟨ln, l, ls⟩ < 0) = k := ⟨_, rfl⟩
              cases k
              · have hq : (true, (⟨ln, l, ls⟩ : Val)) = (loh, (⟨lon, loi, los⟩ : Val)) := by rw [← hrlo]; unfold loJ; rw [if_neg (by simp [hlo]), if_neg (by simp only [hk]; decide)]
                clear hrlo hlo
                cases hq
                have hk' : ¬ (cmpV t ⟨lm, m, ms⟩ ⟨ln, l, ls⟩ < 0) := by simpa using hk
                have hk2 : cmpV t ⟨lm, m, ms⟩ ⟨ln, l, ls⟩ ≥ 0 := by omega
                clear hk
                go_upto_region 12 with fail
                go_region
                go_wp2_with (go_at_call 14; refine (refCompare_any _ _ _ _ _ _ _ _).mono ?_; rintro e w9 ⟨rfl, hb9⟩; obtain ⟨x9, rfl⟩ := Ext.of hb9; have v0 : w.heap.size < x9.it.heap.size := x9.lt (by first | assumption | (simp only [World.size_setCell, World.size_alloc, World.size_drew]; first | with_reducible assumption | omega) | (simp; omega)); have v1 : w.heap.size + 1 < x9.it.heap.size := x9.lt (by first | assumption | (simp only [World.size_setCell, World.size_alloc, World.size_drew]; first | with_reducible assumption | omega) | (simp; omega)); have v2 : w.heap.size + 1 + 1 < x9.it.heap.size := x9.lt (by first | assumption | (simp only [World.size_setCell, World.size_alloc, World.size_drew]; first | with_reducible assumption | omega) | (simp; omega)); have v3 : x1.it.heap.size < x9.it.heap.size := x9.lt (by first | assumption | (simp only [World.size_setCell, World.size_alloc, World.size_drew]; first | with_reducible assumption | omega) | (simp; omega)))
                go_meet
                exact ⟨ExtM.of (by repeat (first | with_reducible exact Moved.refl _ _ | with_reducible assumption | with_reducible refine Moved.al ?_ _ | with_reducible refine Moved.onE ?_ _ | with_reducible refine Moved.on ?_ _ | with_reducible refine Moved.st ?_ _ _ _ | with_reducible refine Moved.stn ?_ (by first | assumption | (simp; done) | (simp; omega)) _ | with_reducible refine Moved.drew ?_)), by simp (maxDischargeDepth := 9) [go_sem, *], by simp (maxDischargeDepth := 9) [go_sem, *], by simp (maxDischargeDepth := 9) [go_sem, *], by simp (maxDischargeDepth := 9) [go_sem, *], by simp (maxDischargeDepth := 9) [go_sem, *], by simp (maxDischargeDepth := 9) [go_sem, *], by simp (maxDischargeDepth := 9) [go_sem, *], by simp (maxDischargeDepth := 9) [go_sem, *], by simp (maxDischargeDepth := 9) [go_sem, *], by simp (maxDischargeDepth := 9) [go_sem, *], by intro j; simp [go_sem, *]⟩
              · have hq : (true, (⟨lm, m, ms⟩ : Val)) = (loh, (⟨lon, loi, los⟩ : Val)) := by rw [← hrlo]; unfold loJ; rw [if_neg (by simp [hlo]), if_pos hk]
                clear hrlo hlo
                cases hq
                have hk' : (cmpV t ⟨lm, m, ms⟩ ⟨ln, l, ls⟩ < 0) := by simpa using hk
                clear hk
                go_upto_region 12 with fail
                go_region
                go_wp2_with (go_at_call 14; refine (refCompare_any _ _ _ _ _ _ _ _).mono ?_; rintro e w9 ⟨rfl, hb9⟩; obtain ⟨x9, rfl⟩ := Ext.of hb9; have v0 : w.heap.size < x9.it.heap.size := x9.lt (by first | assumption | (simp only [World.size_setCell, World.size_alloc, World.size_drew]; first | with_reducible assumption | omega) | (simp; omega)); have v1 : w.heap.size + 1 < x9.it.heap.size := x9.lt (by first | assumption | (simp only [World.size_setCell, World.size_alloc, World.size_drew]; first | with_reducible assumption | omega) | (simp; omega)); have v2 : w.heap.size + 1 + 1 < x9.it.heap.size := x9.lt (by first | assumption | (simp only [World.size_setCell, World.size_alloc, World.size_drew]; first | with_reducible assumption | omega) | (simp; omega)); have v3 : x1.it.heap.size < x9.it.heap.size := x9.lt (by first | assumption | (simp only [World.size_setCell, World.size_alloc, World.size_drew]; first | with_reducible assumption | omega) | (simp; omega)))
                go_meet
                exact ⟨ExtM.of (by repeat (first | with_reducible exact Moved.refl _ _ | with_reducible assumption | with_reducible refine Moved.al ?_ _ | with_reducible refine Moved.onE ?_ _ | with_reducible refine Moved.on ?_ _ | with_reducible refine Moved.st ?_ _ _ _ | with_reducible refine Moved.stn ?_ (by first | assumption | (simp; done) | (simp; omega)) _ | with_reducible refine Moved.drew ?_)), by simp (maxDischargeDepth := 9) [go_sem, *], by simp (maxDischargeDepth := 9) [go_sem, *], by simp (maxDischargeDepth := 9) [go_sem, *], by simp (maxDischargeDepth := 9) [go_sem, *], by simp (maxDischargeDepth := 9) [go_sem, *], by simp (maxDischargeDepth := 9) [go_sem, *], by simp (maxDischargeDepth := 9) [go_sem, *], by simp (maxDischargeDepth := 9) [go_sem, *], by simp (maxDischargeDepth := 9) [go_sem, *], by simp (maxDischargeDepth := 9) [go_sem, *], by intro j; simp [go_sem, *]⟩
          case rest =>
            obtain ⟨⟨y10, rfl⟩, c0, c1, c2, c3, c4, c5, c6, c7, c8, c9, cf⟩ := hcut
            clear q0 q1 q2 q3 y9
            have t0 : w.heap.size < y10.it.heap.size := y10.lt (by assumption)
            have t1 : w.heap.size + 1 < y10.it.heap.size := y10.lt (by assumption)
            have t2 : w.heap.size + 1 + 1 < y10.it.heap.size := y10.lt (by assumption)
            have t3 : x1.it.heap.size < y10.it.heap.size := y10.lt (by assumption)
            go_upto_region 15 with fail
            obtain ⟨fhi, hhi⟩ : ∃ f, (ah && bh) = f := ⟨_, rfl⟩
            obtain ⟨⟨hih, ⟨hin, hii, his⟩⟩, hrhi⟩ : ∃ r, hiJ t ⟨false, true, al, ah, ⟨ln, l, ls⟩, ⟨hn, h, hs⟩⟩ ⟨bn, true, bl, bh, ⟨lm, m, ms⟩, ⟨gn, g, gs⟩⟩ = r := ⟨_, rfl⟩
            go_cut [65] (fun s65 wx => s65 = .bool fhi ∧ ∃ y : Ext y10.it, wx = y.it)
            case first =>
              clear hrhi EV
              cases ah
              · have hq : fhi = false := by rw [← hhi]; rfl
                subst hq
                clear hhi
                go_wp2_with fail
                go_meet
                exact ⟨rfl, ⟨_, Below.refl _ _⟩, rfl⟩
              cases bh
              · have hq : fhi = false := by rw [← hhi]; rfl
                subst hq
                clear hhi
                go_wp2_with fail
                go_meet
                exact ⟨rfl, ⟨_, Below.refl _ _⟩, rfl⟩
              · have hq : fhi = true := by rw [← hhi]; rfl
                subst hq
                clear hhi
                go_wp2_with fail
                go_meet
                exact ⟨rfl, ⟨_, Below.refl _ _⟩, rfl⟩
            case rest =>
              obtain ⟨rfl, y11, rfl⟩ := hcut
              have q0 : w.heap.size < y11.it.heap.size := y11.lt (by assumption)
              have q1 : w.heap.size + 1 < y11.it.heap.size := y11.lt (by assumption)
              have q2 : w.heap.size + 1 + 1 < y11.it.heap.size := y11.lt (by assumption)
              have q3 : x1.it.heap.size < y11.it.heap.size := y11.lt (by assumption)
              go_upto_if 65 with fail
              go_cut [] (fun wx => (∃ y : ExtM y8.it (x1.it.heap.size), wx = y.it) ∧ wx.cell? ⟨x1.it.heap.size, 0, none⟩ = some (.bool bn) ∧ wx.cell? ⟨x1.it.heap.size, 1, none⟩ = some (.bool true) ∧ wx.cell? ⟨x1.it.heap.size, 2, none⟩ = some (.bool loh) ∧ wx.cell? ⟨x1.it.heap.size, 3, none⟩ = some (.bool hih) ∧ wx.cell? ⟨x1.it.heap.size, 4, none⟩ = some (.bool lon) ∧ wx.cell? ⟨x1.it.heap.size, 5, none⟩ = some (.int .i64 loi) ∧ wx.cell? ⟨x1.it.heap.size, 6, none⟩ = some (.string los) ∧ wx.cell? ⟨x1.it.heap.size, 7, none⟩ = some (.bool hin) ∧ wx.cell? ⟨x1.it.heap.size, 8, none⟩ = some (.int .i64 hii) ∧ wx.cell? ⟨x1.it.heap.size, 9, none⟩ = some (.string his) ∧ ∀ j, wx.frozen? ⟨x1.it.heap.size, j, none⟩ = false)
              case first =>
                clear EV
                cases fhi
                · have hq : (false, Val.o) = (hih, (⟨hin, hii, his⟩ : Val)) := by rw [← hrhi]; unfold hiJ; rw [if_pos hhi]
                  clear hrhi hhi
                  cases hq
                  go_wp2_with fail
                  go_meet
                  exact ⟨ExtM.of (by repeat (first | with_reducible exact Moved.refl _ _ | with_reducible assumption | with_reducible refine Moved.al ?_ _ | with_reducible refine Moved.onE ?_ _ | with_reducible refine Moved.on ?_ _ | with_reducible refine Moved.st ?_ _ _ _ | with_reducible refine Moved.stn ?_ (by first | assumption | (simp; done) | (simp; omega)) _ | with_reducible refine Moved.drew ?_)), by simp (maxDischargeDepth := 9) [go_sem, *], by simp (maxDischargeDepth := 9) [go_sem, *], by simp (maxDischargeDepth := 9) [go_sem, *], by simp (maxDischargeDepth := 9) [go_sem, *], by simp (maxDischargeDepth := 9) [go_sem, *], by simp (maxDischargeDepth := 9) [go_sem, *], by simp (maxDischargeDepth := 9) [go_sem, *], by simp (maxDischargeDepth := 9) [go_sem, *], by simp (maxDischargeDepth := 9) [go_sem, *], by simp (maxDischargeDepth := 9) [go_sem, *], by intro j; simp [go_sem, *]⟩
                · obtain ⟨k, hk⟩ : ∃ k, decide (0 < cmpV t ⟨gn, g, gs⟩ ⟨hn, h, hs⟩) = k := ⟨_, rfl⟩
                  cases k
                  · have hq : (true, (⟨hn, h, hs⟩ : Val)) = (hih, (⟨hin, hii, his⟩ : Val)) := by rw [← hrhi]; unfold hiJ; rw [if_neg (by simp [hhi]), if_neg (by simp only [hk]; decide)]
                    clear hrhi hhi
                    cases hq
                    have hk' : ¬ (0 < cmpV t ⟨gn, g, gs⟩ ⟨hn, h, hs⟩) := by simpa using hk
                    have hk2 : cmpV t ⟨gn, g, gs⟩ ⟨hn, h, hs⟩ ≤ 0 := by omega
                    clear hk
                    go_upto_region 16 with fail
                    go_region
                    go_wp2_with (go_at_call 14; refine (refCompare_any _ _ _ _ _ _ _ _).mono ?_; rintro e w9 ⟨rfl, hb9⟩; obtain ⟨x9, rfl⟩ := Ext.of hb9; have v0 : w.heap.size < x9.it.heap.size := x9.lt (by first | assumption | (simp only [World.size_setCell, World.size_alloc, World.size_drew]; first | with_reducible assumption | omega) | (simp; omega)); have v1 : w.heap.size + 1 < x9.it.heap.size := x9.lt (by first | assumption | (simp only [World.size_setCell, World.size_alloc, World.size_drew]; first | with_reducible assumption | omega) | (simp; omega)); have v2 : w.heap.size + 1 + 1 < x9.it.heap.size := x9.lt (by first | assumption | (simp only [World.size_setCell, World.size_alloc, World.size_drew]; first | with_reducible assumption | omega) | (simp; omega)); have v3 : x1.it.heap.size < x9.it.heap.size := x9.lt (by first | assumption | (simp only [World.size_setCell, World.size_alloc, World.size_drew]; first | with_reducible assumption | omega) | (simp; omega)))
                    go_meet
                    exact ⟨ExtM.of (by repeat (first | with_reducible exact Moved.refl _ _ | with_reducible assumption | with_reducible refine Moved.al ?_ _ | with_reducible refine Moved.onE ?_ _ | with_reducible refine Moved.on ?_ _ | with_reducible refine Moved.st ?_ _ _ _ | with_reducible refine Moved.stn ?_ (by first | assumption | (simp; done) | (simp; omega)) _ | with_reducible refine Moved.drew ?_)), by simp (maxDischargeDepth := 9) [go_sem, *], by simp (maxDischargeDepth := 9) [go_sem, *], by simp (maxDischargeDepth := 9) [go_sem, *], by simp (maxDischargeDepth := 9) [go_sem, *], by simp (maxDischargeDepth := 9) [go_sem, *], by simp (maxDischargeDepth := 9) [go_sem, *], by simp (maxDischargeDepth := 9) [go_sem, *], by simp (maxDischargeDepth := 9) [go_sem, *], by simp (maxDischargeDepth := 9) [go_sem, *], by simp (maxDischargeDepth := 9) [go_sem, *], by intro j; simp [go_sem, *]⟩
                  · have hq : (true, (⟨gn, g, gs⟩ : Val)) = (hih, (⟨hin, hii, his⟩ : Val)) := by rw [← hrhi]; unfold hiJ; rw [if_neg (by simp [hhi]), if_pos hk]
                    clear hrhi hhi
                    cases hq
                    have hk' : (0 < cmpV t ⟨gn, g, gs⟩ ⟨hn, h, hs⟩) := by simpa using hk
                    clear hk
                    go_upto_region 16 with fail
                    go_region
                    go_wp2_with (go_at_call 14; refine (refCompare_any _ _ _ _ _ _ _ _).mono ?_; rintro e w9 ⟨rfl, hb9⟩; obtain ⟨x9, rfl⟩ := Ext.of hb9; have v0 : w.heap.size < x9.it.heap.size := x9.lt (by first | assumption | (simp only [World.size_setCell, World.size_alloc, World.size_drew]; first | with_reducible assumption | omega) | (simp; omega)); have v1 : w.heap.size + 1 < x9.it.heap.size := x9.lt (by first | assumption | (simp only [World.size_setCell, World.size_alloc, World.size_drew]; first | with_reducible assumption | omega) | (simp; omega)); have v2 : w.heap.size + 1 + 1 < x9.it.heap.size := x9.lt (by first | assumption | (simp only [World.size_setCell, World.size_alloc, World.size_drew]; first | with_reducible assumption | omega) | (simp; omega)); have v3 : x1.it.heap.size < x9.it.heap.size := x9.lt (by first | assumption | (simp only [World.size_setCell, World.size_alloc, World.size_drew]; first | with_reducible assumption | omega) | (simp; omega)))
                    go_meet
                    exact ⟨ExtM.of (by repeat (first | with_reducible exact Moved.refl _ _ | with_reducible assumption | with_reducible refine Moved.al ?_ _ | with_reducible refine Moved.onE ?_ _ | with_reducible refine Moved.on ?_ _ | with_reducible refine Moved.st ?_ _ _ _ | with_reducible refine Moved.stn ?_ (by first | assumption | (simp; done) | (simp; omega)) _ | with_reducible refine Moved.drew ?_)), by simp (maxDischargeDepth := 9) [go_sem, *], by simp (maxDischargeDepth := 9) [go_sem, *], by simp (maxDischargeDepth := 9) [go_sem, *], by simp (maxDischargeDepth := 9) [go_sem, *], by simp (maxDischargeDepth := 9) [go_sem, *], by simp (maxDischargeDepth := 9) [go_sem, *], by simp (maxDischargeDepth := 9) [go_sem, *], by simp (maxDischargeDepth := 9) [go_sem, *], by simp (maxDischargeDepth := 9) [go_sem, *], by simp (maxDischargeDepth := 9) [go_sem, *], by intro j; simp [go_sem, *]⟩
              case rest =>
                clear c0 c1 c2 c3 c4 c5 c6 c7 c8 c9 cf t0 t1 t2 t3
                obtain ⟨⟨y12, rfl⟩, c0, c1, c2, c3, c4, c5, c6, c7, c8, c9, cf⟩ := hcut
                clear q0 q1 q2 q3 y11 y10
                have t0 : w.heap.size < y12.it.heap.size := y12.lt (by assumption)
                have t1 : w.heap.size + 1 < y12.it.heap.size := y12.lt (by assumption)
                have t2 : w.heap.size + 1 + 1 < y12.it.heap.size := y12.lt (by assumption)
                have t3 : x1.it.heap.size < y12.it.heap.size := y12.lt (by assumption)
                have ev := Lib.hid (show joinF t ⟨false, true, al, ah, ⟨ln, l, ls⟩, ⟨hn, h, hs⟩⟩ ⟨bn, true, bl, bh, ⟨lm, m, ms⟩, ⟨gn, g, gs⟩⟩ = ⟨bn, true, loh, hih, ⟨lon, loi, los⟩, ⟨hin, hii, his⟩⟩ from EV.out.trans (by simp only [hrlo, hrhi, Bool.false_or, Bool.true_or]))
                clear EV hrlo hrhi hlo hhi
                go_wp2
                exact bodyPost_ret (v := .agg #[.bool bn, .bool true, .bool loh, .bool hih, .bool lon, .int .i64 loi, .string los, .bool hin, .int .i64 hii, .string his]) (by simp (maxDischargeDepth := 5) [results, Try.results45, go_sem, *]) rfl (⟨by rw [ev.out]; rfl, by repeat (first | with_reducible assumption | with_reducible exact Below.refl _ _ | with_reducible refine Below.al ?_ _ | with_reducible refine Below.on ?_ _ | with_reducible refine Below.drew ?_ | with_reducible refine Below.st ?_ (by (first | with_reducible assumption | (simp only [World.size_setCell, World.size_alloc, World.size_drew]; first | with_reducible assumption | omega))) _ | exact Moved.below b8 y12.moved (by omega))⟩)
      · skip
        go_enter Try.func45, Try.ntmps45
        go_upto_region 3 with (go_at_call 17; refine (refCheck_any _ _ _ _ _ _ _ _ _ _ _ _).mono ?_; rintro e w1 ⟨rfl, hb1⟩; obtain ⟨x1, rfl⟩ := Ext.of hb1; have z0 : w.heap.size < x1.it.heap.size := x1.lt (by (first | assumption | (simp; done) | (simp; omega))); have z1 : w.heap.size + 1 < x1.it.heap.size := x1.lt (by (first | assumption | (simp; done) | (simp; omega))); have z2 : w.heap.size + 1 + 1 < x1.it.heap.size := x1.lt (by (first | assumption | (simp; done) | (simp; omega))))
        go_upto_region 11 with fail
        refine captureE ?_
        intro y8 e8
        have ka0 : y8.it.cell? ⟨w.heap.size, 0, none⟩ = some (.bool true) := by simp (maxDischargeDepth := 9) [go_sem, *]
        have ka1 : y8.it.cell? ⟨w.heap.size, 1, none⟩ = some (.bool true) := by simp (maxDischargeDepth := 9) [go_sem, *]
        have ka2 : y8.it.cell? ⟨w.heap.size, 2, none⟩ = some (.bool al) := by simp (maxDischargeDepth := 9) [go_sem, *]
        have ka3 : y8.it.cell? ⟨w.heap.size, 3, none⟩ = some (.bool ah) := by simp (maxDischargeDepth := 9) [go_sem, *]
        have ka4 : y8.it.cell? ⟨w.heap.size, 4, none⟩ = some (.bool ln) := by simp (maxDischargeDepth := 9) [go_sem, *]
        have ka5 : y8.it.cell? ⟨w.heap.size, 5, none⟩ = some (.int .i64 l) := by simp (maxDischargeDepth := 9) [go_sem, *]
        have ka6 : y8.it.cell? ⟨w.heap.size, 6, none⟩ = some (.string ls) := by simp (maxDischargeDepth := 9) [go_sem, *]
        have ka7 : y8.it.cell? ⟨w.heap.size, 7, none⟩ = some (.bool hn) := by simp (maxDischargeDepth := 9) [go_sem, *]
        have ka8 : y8.it.cell? ⟨w.heap.size, 8, none⟩ = some (.int .i64 h) := by simp (maxDischargeDepth := 9) [go_sem, *]
        have ka9 : y8.it.cell? ⟨w.heap.size, 9, none⟩ = some (.string hs) := by simp (maxDischargeDepth := 9) [go_sem, *]
        have kb0 : y8.it.cell? ⟨w.heap.size + 1, 0, none⟩ = some (.bool bn) := by simp (maxDischargeDepth := 9) [go_sem, *]
        have kb1 : y8.it.cell? ⟨w.heap.size + 1, 1, none⟩ = some (.bool true) := by simp (maxDischargeDepth := 9) [go_sem, *]
        have kb2 : y8.it.cell? ⟨w.heap.size + 1, 2, none⟩ = some (.bool bl) := by simp (maxDischargeDepth := 9) [go_sem, *]
        have kb3 : y8.it.cell? ⟨w.heap.size + 1, 3, none⟩ = some (.bool bh) := by simp (maxDischargeDepth := 9) [go_sem, *]
        have kb4 : y8.it.cell? ⟨w.heap.size + 1, 4, none⟩ = some (.bool lm) := by simp (maxDischargeDepth := 9) [go_sem, *]
        have kb5 : y8.it.cell? ⟨w.heap.size + 1, 5, none⟩ = some (.int .i64 m) := by simp (maxDischargeDepth := 9) [go_sem, *]
        have kb6 : y8.it.cell? ⟨w.heap.size + 1, 6, none⟩ = some (.string ms) := by simp (maxDischargeDepth := 9) [go_sem, *]
        have kb7 : y8.it.cell? ⟨w.heap.size + 1, 7, none⟩ = some (.bool gn) := by simp (maxDischargeDepth := 9) [go_sem, *]
        have kb8 : y8.it.cell? ⟨w.heap.size + 1, 8, none⟩ = some (.int .i64 g) := by simp (maxDischargeDepth := 9) [go_sem, *]
        have kb9 : y8.it.cell? ⟨w.heap.size + 1, 9, none⟩ = some (.string gs) := by simp (maxDischargeDepth := 9) [go_sem, *]
        have ko0 : y8.it.cell? ⟨x1.it.heap.size, 0, none⟩ = some (.bool true) := by simp (maxDischargeDepth := 9) [go_sem, *]
        have ko1 : y8.it.cell? ⟨x1.it.heap.size, 1, none⟩ = some (.bool true) := by simp (maxDischargeDepth := 9) [go_sem, *]
        have ko2 : y8.it.cell? ⟨x1.it.heap.size, 2, none⟩ = some (.bool false) := by simp (maxDischargeDepth := 9) [go_sem, *]
        have ko3 : y8.it.cell? ⟨x1.it.heap.size, 3, none⟩ = some (.bool false) := by simp (maxDischargeDepth := 9) [go_sem, *]
        have ko4 : y8.it.cell? ⟨x1.it.heap.size, 4, none⟩ = some (.bool false) := by simp (maxDischargeDepth := 9) [go_sem, *]
        have ko5 : y8.it.cell? ⟨x1.it.heap.size, 5, none⟩ = some (.int .i64 0) := by simp (maxDischargeDepth := 9) [go_sem, *]
        have ko6 : y8.it.cell? ⟨x1.it.heap.size, 6, none⟩ = some (.string ⟨#[]⟩) := by simp (maxDischargeDepth := 9) [go_sem, *]
        have ko7 : y8.it.cell? ⟨x1.it.heap.size, 7, none⟩ = some (.bool false) := by simp (maxDischargeDepth := 9) [go_sem, *]
        have ko8 : y8.it.cell? ⟨x1.it.heap.size, 8, none⟩ = some (.int .i64 0) := by simp (maxDischargeDepth := 9) [go_sem, *]
        have ko9 : y8.it.cell? ⟨x1.it.heap.size, 9, none⟩ = some (.string ⟨#[]⟩) := by simp (maxDischargeDepth := 9) [go_sem, *]
        have kf : ∀ j, y8.it.frozen? ⟨x1.it.heap.size, j, none⟩ = false := by intro j; simp [go_sem, *]
        have kg : ∀ j, y8.it.frozen? ⟨w.heap.size + 1 + 1, j, none⟩ = false := by intro j; simp [go_sem, *]
        have s0 : w.heap.size < y8.it.heap.size := by rw [e8]; (first | with_reducible assumption | (simp only [World.size_setCell, World.size_alloc, World.size_drew]; first | with_reducible assumption | omega))
        have s1 : w.heap.size + 1 < y8.it.heap.size := by rw [e8]; (first | with_reducible assumption | (simp only [World.size_setCell, World.size_alloc, World.size_drew]; first | with_reducible assumption | omega))
        have s2 : w.heap.size + 1 + 1 < y8.it.heap.size := by rw [e8]; (first | with_reducible assumption | (simp only [World.size_setCell, World.size_alloc, World.size_drew]; first | with_reducible assumption | omega))
        have s3 : x1.it.heap.size < y8.it.heap.size := by rw [e8]; (first | with_reducible assumption | (simp only [World.size_setCell, World.size_alloc, World.size_drew]; first | with_reducible assumption | omega))
        have b8 : Below w.heap.size w y8.it := by rw [e8]; exact (by repeat (first | with_reducible exact Below.refl _ _ | with_reducible assumption | with_reducible refine Below.al ?_ _ | with_reducible refine Below.on ?_ _ | with_reducible refine Below.st ?_ (by first | assumption | (simp; done) | (simp; omega)) _ | with_reducible refine Below.drew ?_))
        clear e8
        have d0 : w.heap.size ≠ x1.it.heap.size := by omega
        have d1 : w.heap.size + 1 ≠ x1.it.heap.size := by omega
        have d2 : w.heap.size + 1 + 1 ≠ x1.it.heap.size := by omega
        obtain ⟨flo, hlo⟩ : ∃ f, (al && bl) = f := ⟨_, rfl⟩
        obtain ⟨⟨loh, ⟨lon, loi, los⟩⟩, hrlo⟩ : ∃ r, loJ t ⟨true, true, al, ah, ⟨ln, l, ls⟩, ⟨hn, h, hs⟩⟩ ⟨bn, true, bl, bh, ⟨lm, m, ms⟩, ⟨gn, g, gs⟩⟩ = r := ⟨_, rfl⟩
        go_cut [45] (fun s45 wx => s45 = .bool flo ∧ ∃ y : Ext y8.it, wx = y.it)
        case first =>
          clear hrlo EV
          cases al
          · have hq : flo = false := by rw [← hlo]; rfl
            subst hq
            clear hlo
            go_wp2_with fail
            go_meet
            exact ⟨rfl, ⟨_, Below.refl _ _⟩, rfl⟩
          cases bl
          · have hq : flo = false := by rw [← hlo]; rfl
            subst hq
            clear hlo
            go_wp2_with fail
            go_meet
            exact ⟨rfl, ⟨_, Below.refl _ _⟩, rfl⟩
          · have hq : flo = true := by rw [← hlo]; rfl
            subst hq
            clear hlo
            go_wp2_with fail
            go_meet
            exact ⟨rfl, ⟨_, Below.refl _ _⟩, rfl⟩
        case rest =>
          obtain ⟨rfl, y9, rfl⟩ := hcut
          have q0 : w.heap.size < y9.it.heap.size := y9.lt (by assumption)
          have q1 : w.heap.size + 1 < y9.it.heap.size := y9.lt (by assumption)
          have q2 : w.heap.size + 1 + 1 < y9.it.heap.size := y9.lt (by assumption)
          have q3 : x1.it.heap.size < y9.it.heap.size := y9.lt (by assumption)
          go_upto_if 45 with fail
          go_cut [] (fun wx => (∃ y : ExtM y8.it (x1.it.heap.size), wx = y.it) ∧ wx.cell? ⟨x1.it.heap.size, 0, none⟩ = some (.bool true) ∧ wx.cell? ⟨x1.it.heap.size, 1, none⟩ = some (.bool true) ∧ wx.cell? ⟨x1.it.heap.size, 2, none⟩ = some (.bool loh) ∧ wx.cell? ⟨x1.it.heap.size, 3, none⟩ = some (.bool false) ∧ wx.cell? ⟨x1.it.heap.size, 4, none⟩ = some (.bool lon) ∧ wx.cell? ⟨x1.it.heap.size, 5, none⟩ = some (.int .i64 loi) ∧ wx.cell? ⟨x1.it.heap.size, 6, none⟩ = some (.string los) ∧ wx.cell? ⟨x1.it.heap.size, 7, none⟩ = some (.bool false) ∧ wx.cell? ⟨x1.it.heap.size, 8, none⟩ = some (.int .i64 0) ∧ wx.cell? ⟨x1.it.heap.size, 9, none⟩ = some (.string ⟨#[]⟩) ∧ ∀ j, wx.frozen? ⟨x1.it.heap.size, j, none⟩ = false)
          case first =>
            clear EV
            cases flo
            · have hq : (false, Val.o) = (loh, (⟨lon, loi, los⟩ : Val)) := by rw [← hrlo]; unfold loJ; rw [if_pos hlo]
              clear hrlo hlo
              cases hq
              go_wp2_with fail
              go_meet
              exact ⟨ExtM.of (by repeat (first | with_reducible exact Moved.refl _ _ | with_reducible assumption | with_reducible refine Moved.al ?_ _ | with_reducible refine Moved.onE ?_ _ | with_reducible refine Moved.on ?_ _ | with_reducible refine Moved.st ?_ _ _ _ | with_reducible refine Moved.stn ?_ (by first | assumption | (simp; done) | (simp; omega)) _ | with_reducible refine Moved.drew ?_)), by simp (maxDischargeDepth := 9) [go_sem, *], by simp (maxDischargeDepth := 9) [go_sem, *], by simp (maxDischargeDepth := 9) [go_sem, *], by simp (maxDischargeDepth := 9) [go_sem, *], by simp (maxDischargeDepth := 9) [go_sem, *], by simp (maxDischargeDepth := 9) [go_sem, *], by simp (maxDischargeDepth := 9) [go_sem, *], by simp (maxDischargeDepth := 9) [go_sem, *], by simp (maxDischargeDepth := 9) [go_sem, *], by simp (maxDischargeDepth := 9) [go_sem, *], by intro j; simp [go_sem, *]⟩
            · obtain ⟨k, hk⟩ : ∃ k, decide (cmpV t ⟨lm, m, ms⟩ ⟨ln, l, ls⟩ < 0) = k := ⟨_, rfl⟩
              cases k
              · have hq : (true, (⟨ln, l, ls⟩ : Val)) = (loh, (⟨lon, loi, los⟩ : Val)) := by rw [← hrlo]; unfold loJ; rw [if_neg (by simp [hlo]), if_neg (by simp only [hk]; decide)]
                clear hrlo hlo
                cases hq
                have hk' : ¬ (cmpV t ⟨lm, m, ms⟩ ⟨ln, l, ls⟩ < 0) := by simpa using hk
                have hk2 : cmpV t ⟨lm, m, ms⟩ ⟨ln, l, ls⟩ ≥ 0 := by omega
                clear hk
                go_upto_region 12 with fail
                go_region
                go_wp2_with (go_at_call 14; refine (refCompare_any _ _ _ _ _ _ _ _).mono ?_; rintro e w9 ⟨rfl, hb9⟩; obtain ⟨x9, rfl⟩ := Ext.of hb9; have v0 : w.heap.size < x9.it.heap.size := x9.lt (by first | assumption | (simp only [World.size_setCell, World.size_alloc, World.size_drew]; first | with_reducible assumption | omega) | (simp; omega)); have v1 : w.heap.size + 1 < x9.it.heap.size := x9.lt (by first | assumption | (simp only [World.size_setCell, World.size_alloc, World.size_drew]; first | with_reducible assumption | omega) | (simp; omega)); have v2 : w.heap.size + 1 + 1 < x9.it.heap.size := x9.lt (by first | assumption | (simp only [World.size_setCell, World.size_alloc, World.size_drew]; first | with_reducible assumption | omega) | (simp; omega)); have v3 : x1.it.heap.size < x9.it.heap.size := x9.lt (by first | assumption | (simp only [World.size_setCell, World.size_alloc, World.size_drew]; first | with_reducible assumption | omega) | (simp; omega)))
                go_meet
                exact ⟨ExtM.of (by repeat (first | with_reducible exact Moved.refl _ _ | with_reducible assumption | with_reducible refine Moved.al ?_ _ | with_reducible refine Moved.onE ?_ _ | with_reducible refine Moved.on ?_ _ | with_reducible refine Moved.st ?_ _ _ _ | with_reducible refine Moved.stn ?_ (by first | assumption | (simp; done) | (simp; omega)) _ | with_reducible refine Moved.drew ?_)), by simp (maxDischargeDepth := 9) [go_sem, *], by simp (maxDischargeDepth := 9) [go_sem, *], by simp (maxDischargeDepth := 9) [go_sem, *], by simp (maxDischargeDepth := 9) [go_sem, *], by simp (maxDischargeDepth := 9) [go_sem, *], by simp (maxDischargeDepth := 9) [go_sem, *], by simp (maxDischargeDepth := 9) [go_sem, *], by simp (maxDischargeDepth := 9) [go_sem, *], by simp (maxDischargeDepth := 9) [go_sem, *], by simp (maxDischargeDepth := 9) [go_sem, *], by intro j; simp [go_sem, *]⟩
              · have hq : (true, (⟨lm, m, ms⟩ : Val)) = (loh, (⟨lon, loi, los⟩ : Val)) := by rw [← hrlo]; unfold loJ; rw [if_neg (by simp [hlo]), if_pos hk]
                clear hrlo hlo
                cases hq
                have hk' : (cmpV t ⟨lm, m, ms⟩ ⟨ln, l, ls⟩ < 0) := by simpa using hk
                clear hk
                go_upto_region 12 with fail
                go_region
                go_wp2_with (go_at_call 14; refine (refCompare_any _ _ _ _ _ _ _ _).mono ?_; rintro e w9 ⟨rfl, hb9⟩; obtain ⟨x9, rfl⟩ := Ext.of hb9; have v0 : w.heap.size < x9.it.heap.size := x9.lt (by first | assumption | (simp only [World.size_setCell, World.size_alloc, World.size_drew]; first | with_reducible assumption | omega) | (simp; omega)); have v1 : w.heap.size + 1 < x9.it.heap.size := x9.lt (by first | assumption | (simp only [World.size_setCell, World.size_alloc, World.size_drew]; first | with_reducible assumption | omega) | (simp; omega)); have v2 : w.heap.size + 1 + 1 < x9.it.heap.size := x9.lt (by first | assumption | (simp only [World.size_setCell, World.size_alloc, World.size_drew]; first | with_reducible assumption | omega) | (simp; omega)); have v3 : x1.it.heap.size < x9.it.heap.size := x9.lt (by first | assumption | (simp only [World.size_setCell, World.size_alloc, World.size_drew]; first | with_reducible assumption | omega) | (simp; omega)))
                go_meet
                exact ⟨ExtM.of (by repeat (first | with_reducible exact Moved.refl _ _ | with_reducible assumption | with_reducible refine Moved.al ?_ _ | with_reducible refine Moved.onE ?_ _ | with_reducible refine Moved.on ?_ _ | with_reducible refine Moved.st ?_ _ _ _ | with_reducible refine Moved.stn ?_ (by first | assumption | (simp; done) | (simp; omega)) _ | with_reducible refine Moved.drew ?_)), by simp (maxDischargeDepth := 9) [go_sem, *], by simp (maxDischargeDepth := 9) [go_sem, *], by simp (maxDischargeDepth := 9) [go_sem, *], by simp (maxDischargeDepth := 9) [go_sem, *], by simp (maxDischargeDepth := 9) [go_sem, *], by simp (maxDischargeDepth := 9) [go_sem, *], by simp (maxDischargeDepth := 9) [go_sem, *], by simp (maxDischargeDepth := 9) [go_sem, *], by simp (maxDischargeDepth := 9) [go_sem, *], by simp (maxDischargeDepth := 9) [go_sem, *], by intro j; simp [go_sem, *]⟩
          case rest =>
            obtain ⟨⟨y10, rfl⟩, c0, c1, c2, c3, c4, c5, c6, c7, c8, c9, cf⟩ := hcut
            clear q0 q1 q2 q3 y9
            have t0 : w.heap.size < y10.it.heap.size := y10.lt (by assumption)
            have t1 : w.heap.size + 1 < y10.it.heap.size := y10.lt (by assumption)
            have t2 : w.heap.size + 1 + 1 < y10.it.heap.size := y10.lt (by assumption)
            have t3 : x1.it.heap.size < y10.it.heap.size := y10.lt (by assumption)
            go_upto_region 15 with fail
            obtain ⟨fhi, hhi⟩ : ∃ f, (ah && bh) = f := ⟨_, rfl⟩
            obtain ⟨⟨hih, ⟨hin, hii, his⟩⟩, hrhi⟩ : ∃ r, hiJ t ⟨true, true, al, ah, ⟨ln, l, ls⟩, ⟨hn, h, hs⟩⟩ ⟨bn, true, bl, bh, ⟨lm, m, ms⟩, ⟨gn, g, gs⟩⟩ = r := ⟨_, rfl⟩
            go_cut [65] (fun s65 wx => s65 = .bool fhi ∧ ∃ y : Ext y10.it, wx = y.it)
            case first =>
              clear hrhi EV
              cases ah
              · have hq : fhi = false := by rw [← hhi]; rfl
                subst hq
                clear hhi
                go_wp2_with fail
                go_meet
                exact ⟨rfl, ⟨_, Below.refl _ _⟩, rfl⟩
              cases bh
              · have hq : fhi = false := by rw [← hhi]; rfl
                subst hq
                clear hhi
                go_wp2_with fail
                go_meet
                exact ⟨rfl, ⟨_, Below.refl _ _⟩, rfl⟩
              · have hq : fhi = true := by rw [← hhi]; rfl
                subst hq
                clear hhi
                go_wp2_with fail
                go_meet
                exact ⟨rfl, ⟨_, Below.refl _ _⟩, rfl⟩
            case rest =>
              obtain ⟨rfl, y11, rfl⟩ := hcut
              have q0 : w.heap.size < y11.it.heap.size := y11.lt (by assumption)
              have q1 : w.heap.size + 1 < y11.it.heap.size := y11.lt (by assumption)
              have q2 : w.heap.size + 1 + 1 < y11.it.heap.size := y11.lt (by assumption)
              have q3 : x1.it.heap.size < y11.it.heap.size := y11.lt (by assumption)
              go_upto_if 65 with fail
              go_cut [] (fun wx => (∃ y : ExtM y8.it (x1.it.heap.size), wx = y.it) ∧ wx.cell? ⟨x1.it.heap.size, 0, none⟩ = some (.bool true) ∧ wx.cell? ⟨x1.it.heap.size, 1, none⟩ = some (.bool true) ∧ wx.cell? ⟨x1.it.heap.size, 2, none⟩ = some (.bool loh) ∧ wx.cell? ⟨x1.it.heap.size, 3, none⟩ = some (.bool hih) ∧ wx.cell? ⟨x1.it.heap.size, 4, none⟩ = some (.bool lon) ∧ wx.cell? ⟨x1.it.heap.size, 5, none⟩ = some (.int .i64 loi) ∧ wx.cell? ⟨x1.it.heap.size, 6, none⟩ = some (.string los) ∧ wx.cell? ⟨x1.it.heap.size, 7, none⟩ = some (.bool hin) ∧ wx.cell? ⟨x1.it.heap.size, 8, none⟩ = some (.int .i64 hii) ∧ wx.cell? ⟨x1.it.heap.size, 9, none⟩ = some (.string his) ∧ ∀ j, wx.frozen? ⟨x1.it.heap.size, j, none⟩ = false)
              case first =>
                clear EV
                cases fhi
                · have hq : (false, Val.o) = (hih, (⟨hin, hii, his⟩ : Val)) := by rw [← hrhi]; unfold hiJ; rw [if_pos hhi]
                  clear hrhi hhi
                  cases hq
                  go_wp2_with fail
                  go_meet
                  exact ⟨ExtM.of (by repeat (first | with_reducible exact Moved.refl _ _ | with_reducible assumption | with_reducible refine Moved.al ?_ _ | with_reducible refine Moved.onE ?_ _ | with_reducible refine Moved.on ?_ _ | with_reducible refine Moved.st ?_ _ _ _ | with_reducible refine Moved.stn ?_ (by first | assumption | (simp; done) | (simp; omega)) _ | with_reducible refine Moved.drew ?_)), by simp (maxDischargeDepth := 9) [go_sem, *], by simp (maxDischargeDepth := 9) [go_sem, *], by simp (maxDischargeDepth := 9) [go_sem, *], by simp (maxDischargeDepth := 9) [go_sem, *], by simp (maxDischargeDepth := 9) [go_sem, *], by simp (maxDischargeDepth := 9) [go_sem, *], by simp (maxDischargeDepth := 9) [go_sem, *], by simp (maxDischargeDepth := 9) [go_sem, *], by simp (maxDischargeDepth := 9) [go_sem, *], by simp (maxDischargeDepth := 9) [go_sem, *], by intro j; simp [go_sem, *]⟩
                · obtain ⟨k, hk⟩ : ∃ k, decide (0 < cmpV t ⟨gn, g, gs⟩ ⟨hn, h, hs⟩) = k := ⟨_, rfl⟩
                  cases k
                  · have hq : (true, (⟨hn, h, hs⟩ : Val)) = (hih, (⟨hin, hii, his⟩ : Val)) := by rw [← hrhi]; unfold hiJ; rw [if_neg (by simp [hhi]), if_neg (by simp only [hk]; decide)]
                    clear hrhi hhi
                    cases hq
                    have hk' : ¬ (0 < cmpV t ⟨gn, g, gs⟩ ⟨hn, h, hs⟩) := by simpa using hk
                    have hk2 : cmpV t ⟨gn, g, gs⟩ ⟨hn, h, hs⟩ ≤ 0 := by omega
                    clear hk
                    go_upto_region 16 with fail
                    go_region
                    go_wp2_with (go_at_call 14; refine (refCompare_any _ _ _ _ _ _ _ _).mono ?_; rintro e w9 ⟨rfl, hb9⟩; obtain ⟨x9, rfl⟩ := Ext.of hb9; have v0 : w.heap.size < x9.it.heap.size := x9.lt (by first | assumption | (simp only [World.size_setCell, World.size_alloc, World.size_drew]; first | with_reducible assumption | omega) | (simp; omega)); have v1 : w.heap.size + 1 < x9.it.heap.size := x9.lt (by first | assumption | (simp only [World.size_setCell, World.size_alloc, World.size_drew]; first | with_reducible assumption | omega) | (simp; omega)); have v2 : w.heap.size + 1 + 1 < x9.it.heap.size := x9.lt (by first | assumption | (simp only [World.size_setCell, World.size_alloc, World.size_drew]; first | with_reducible assumption | omega) | (simp; omega)); have v3 : x1.it.heap.size < x9.it.heap.size := x9.lt (by first | assumption | (simp only [World.size_setCell, World.size_alloc, World.size_drew]; first | with_reducible assumption | omega) | (simp; omega)))
                    go_meet
                    exact ⟨ExtM.of (by repeat (first | with_reducible exact Moved.refl _ _ | with_reducible assumption | with_reducible refine Moved.al ?_ _ | with_reducible refine Moved.onE ?_ _ | with_reducible refine Moved.on ?_ _ | with_reducible refine Moved.st ?_ _ _ _ | with_reducible refine Moved.stn ?_ (by first | assumption | (simp; done) | (simp; omega)) _ | with_reducible refine Moved.drew ?_)), by simp (maxDischargeDepth := 9) [go_sem, *], by simp (maxDischargeDepth := 9) [go_sem, *], by simp (maxDischargeDepth := 9) [go_sem, *], by simp (maxDischargeDepth := 9) [go_sem, *], by simp (maxDischargeDepth := 9) [go_sem, *], by simp (maxDischargeDepth := 9) [go_sem, *], by simp (maxDischargeDepth := 9) [go_sem, *], by simp (maxDischargeDepth := 9) [go_sem, *], by simp (maxDischargeDepth := 9) [go_sem, *], by simp (maxDischargeDepth := 9) [go_sem, *], by intro j; simp [go_sem, *]⟩
                  · have hq : (true, (⟨gn, g, gs⟩ : Val)) = (hih, (⟨hin, hii, his⟩ : Val)) := by rw [← hrhi]; unfold hiJ; rw [if_neg (by simp [hhi]), if_pos hk]
                    clear hrhi hhi
                    cases hq
                    have hk' : (0 < cmpV t ⟨gn, g, gs⟩ ⟨hn, h, hs⟩) := by simpa using hk
                    clear hk
                    go_upto_region 16 with fail
                    go_region
                    go_wp2_with (go_at_call 14; refine (refCompare_any _ _ _ _ _ _ _ _).mono ?_; rintro e w9 ⟨rfl, hb9⟩; obtain ⟨x9, rfl⟩ := Ext.of hb9; have v0 : w.heap.size < x9.it.heap.size := x9.lt (by first | assumption | (simp only [World.size_setCell, World.size_alloc, World.size_drew]; first | with_reducible assumption | omega) | (simp; omega)); have v1 : w.heap.size + 1 < x9.it.heap.size := x9.lt (by first | assumption | (simp only [World.size_setCell, World.size_alloc, World.size_drew]; first | with_reducible assumption | omega) | (simp; omega)); have v2 : w.heap.size + 1 + 1 < x9.it.heap.size := x9.lt (by first | assumption | (simp only [World.size_setCell, World.size_alloc, World.size_drew]; first | with_reducible assumption | omega) | (simp; omega)); have v3 : x1.it.heap.size < x9.it.heap.size := x9.lt (by first | assumption | (simp only [World.size_setCell, World.size_alloc, World.size_drew]; first | with_reducible assumption | omega) | (simp; omega)))
                    go_meet
                    exact ⟨ExtM.of (by repeat (first | with_reducible exact Moved.refl _ _ | with_reducible assumption | with_reducible refine Moved.al ?_ _ | with_reducible refine Moved.onE ?_ _ | with_reducible refine Moved.on ?_ _ | with_reducible refine Moved.st ?_ _ _ _ | with_reducible refine Moved.stn ?_ (by first | assumption | (simp; done) | (simp; omega)) _ | with_reducible refine Moved.drew ?_)), by simp (maxDischargeDepth := 9) [go_sem, *], by simp (maxDischargeDepth := 9) [go_sem, *], by simp (maxDischargeDepth := 9) [go_sem, *], by simp (maxDischargeDepth := 9) [go_sem, *], by simp (maxDischargeDepth := 9) [go_sem, *], by simp (maxDischargeDepth := 9) [go_sem, *], by simp (maxDischargeDepth := 9) [go_sem, *], by simp (maxDischargeDepth := 9) [go_sem, *], by simp (maxDischargeDepth := 9) [go_sem, *], by simp (maxDischargeDepth := 9) [go_sem, *], by intro j; simp [go_sem, *]⟩
              case rest =>
                clear c0 c1 c2 c3 c4 c5 c6 c7 c8 c9 cf t0 t1 t2 t3
                obtain ⟨⟨y12, rfl⟩, c0, c1, c2, c3, c4, c5, c6, c7, c8, c9, cf⟩ := hcut
                clear q0 q1 q2 q3 y11 y10
                have t0 : w.heap.size < y12.it.heap.size := y12.lt (by assumption)
                have t1 : w.heap.size + 1 < y12.it.heap.size := y12.lt (by assumption)
                have t2 : w.heap.size + 1 + 1 < y12.it.heap.size := y12.lt (by assumption)
                have t3 : x1.it.heap.size < y12.it.heap.size := y12.lt (by assumption)
                have ev := Lib.hid (show joinF t ⟨true, true, al, ah, ⟨ln, l, ls⟩, ⟨hn, h, hs⟩⟩ ⟨bn, true, bl, bh, ⟨lm, m, ms⟩, ⟨gn, g, gs⟩⟩ = ⟨true, true, loh, hih, ⟨lon, loi, los⟩, ⟨hin, hii, his⟩⟩ from EV.out.trans (by simp only [hrlo, hrhi, Bool.false_or, Bool.true_or]))
                clear EV hrlo hrhi hlo hhi
                go_wp2
                exact bodyPost_ret (v := .agg #[.bool true, .bool true, .bool loh, .bool hih, .bool lon, .int .i64 loi, .string los, .bool hin, .int .i64 hii, .string his]) (by simp (maxDischargeDepth := 5) [results, Try.results45, go_sem, *]) rfl (⟨by rw [ev.out]; rfl, by repeat (first | with_reducible assumption | with_reducible exact Below.refl _ _ | with_reducible refine Below.al ?_ _ | with_reducible refine Below.on ?_ _ | with_reducible refine Below.drew ?_ | with_reducible refine Below.st ?_ (by (first | with_reducible assumption | (simp only [World.size_setCell, World.size_alloc, World.size_drew]; first | with_reducible assumption | omega))) _ | exact Moved.below b8 y12.moved (by omega))⟩)
end Go.Proofs.Ytjojnakgadfgmaa
