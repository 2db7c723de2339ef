/-
  CHAPTER 14: the reference's ZoneOf. Conditions: the list lies in memory.
-/
import Derived.Test.YtpahoenanfjhpaaGreatZe
import Derived.Test.YtpahoenanfjhpaaGreatZf
import Derived.Laws.OwnMore
set_option linter.unusedVariables false
set_option linter.unusedSimpArgs false
namespace Go.Proofs.YtpahoenanfjhpaaGreat
open Go.RowKit
structure Zon where
  rows : Int
  nulls : Int
  min : Val
  max : Val
def zonV (z : Zon) : Value := .agg #[.int .i64 z.rows, .int .i64 z.nulls, .bool z.min.null, .int .i64 z.min.n, .string z.min.s, .bool z.max.null, .int .i64 z.max.n, .string z.max.s]
def ZonCells (w : World) (b o : Nat) (z : Zon) : Prop := w.cell? ⟨b, o, none⟩ = some (.int .i64 z.rows) ∧ w.cell? ⟨b, o + 1, none⟩ = some (.int .i64 z.nulls) ∧ w.cell? ⟨b, o + 2, none⟩ = some (.bool z.min.null) ∧ w.cell? ⟨b, o + 3, none⟩ = some (.int .i64 z.min.n) ∧
  w.cell? ⟨b, o + 4, none⟩ = some (.string z.min.s) ∧ w.cell? ⟨b, o + 5, none⟩ = some (.bool z.max.null) ∧ w.cell? ⟨b, o + 6, none⟩ = some (.int .i64 z.max.n) ∧ w.cell? ⟨b, o + 7, none⟩ = some (.string z.max.s)
theorem ZonCells.to {w w' : World} {b o : Nat} {z : Zon} (h : ZonCells w b o z) (hb : ∀ q, w'.cell? ⟨b, q, none⟩ = w.cell? ⟨b, q, none⟩) : ZonCells w' b o z :=
  ⟨(hb _).trans h.1, (hb _).trans h.2.1, (hb _).trans h.2.2.1, (hb _).trans h.2.2.2.1, (hb _).trans h.2.2.2.2.1, (hb _).trans h.2.2.2.2.2.1, (hb _).trans h.2.2.2.2.2.2.1, (hb _).trans h.2.2.2.2.2.2.2⟩
set_option maxHeartbeats 400000 in
theorem null_any (w : World) : Calls Tryz.prog 124 #[] w fun e w' => e = .returned (.agg #[.bool true, .int .i64 0, .string ⟨#[]⟩]) ∧ Below w.heap.size w w' := by
  go_enter Tryz.func124, Tryz.ntmps124
  go_wp2
  exact bodyPost_ret (v := .agg #[.bool true, .int .i64 0, .string ⟨#[]⟩]) (by simp [results, Tryz.results124, go_sem, *]) rfl (⟨rfl, by with_reducible repeat (first | exact Below.refl _ _ | assumption | refine Below.al ?_ _ | refine Below.on ?_ _ | refine Below.st ?_ (by first | assumption | (simp; done) | (simp; omega)) _ | refine Below.drew ?_)⟩)
def nulV : Val := ⟨true, 0, ⟨#[]⟩⟩
def pickF (ty sign : Int) (a b : Val) : Val := if a.null = true then (if b.null = true then nulV else b) else if b.null = true then a else if cmpV ty b a = sign then b else a
def zstep (ty : Int) (z : Zon) (v : Val) : Zon := if v.null = true then ⟨z.rows, z.nulls + 1, z.min, z.max⟩ else ⟨z.rows, z.nulls, pickF ty (-1) z.min v, pickF ty 1 z.max v⟩
def zoneK (ty : Int) (n : Int) (l : List Val) : Zon := l.foldl (zstep ty) ⟨n, 0, nulV, nulV⟩
def zoneF (ty : Int) (l : List Val) : Zon := zoneK ty l.length l
theorem zoneK_succ {ty n : Int} {l : List Val} {k : Nat} (h : k < l.length) : zoneK ty n (l.take (k + 1)) = zstep ty (zoneK ty n (l.take k)) (l[k]'h) := by
  unfold zoneK; rw [List.take_succ_eq_append_getElem h, List.foldl_append]; rfl
theorem zoneK_bd (ty n : Int) (l : List Val) : (zoneK ty n l).rows = n ∧ 0 ≤ (zoneK ty n l).nulls ∧ (zoneK ty n l).nulls ≤ l.length := by
  unfold zoneK
  suffices h : ∀ (l : List Val) (z : Zon), 0 ≤ z.nulls → (l.foldl (zstep ty) z).rows = z.rows ∧ 0 ≤ (l.foldl (zstep ty) z).nulls ∧ (l.foldl (zstep ty) z).nulls ≤ z.nulls + l.length by
    have := h l ⟨n, 0, nulV, nulV⟩ (Int.le_refl 0)
    refine ⟨this.1, this.2.1, by have := this.2.2; simpa using this⟩
  intro l
  induction l with
  | nil => intro z hz; exact ⟨rfl, hz, by simp⟩
  | cons v r ih =>
    intro z hz
    rw [List.foldl_cons]
    have h := ih (zstep ty z v) (by unfold zstep; split <;> (dsimp only; omega))
    refine ⟨h.1.trans (by unfold zstep; split <;> rfl), h.2.1, Int.le_trans h.2.2 ?_⟩
    unfold zstep
    split <;> (simp only [List.length_cons]; omega)
set_option maxRecDepth 8000 in
set_option maxHeartbeats 1000000 in
theorem zpick_any (ty sign : Int) (an : Bool) (a : Int) (sa : ByteArray) (bn : Bool) (b : Int) (sb : ByteArray) (w : World) :
    Calls Tryz.prog 125 #[.int .i64 ty, .int .i64 sign, .agg #[.bool an, .int .i64 a, .string sa], .agg #[.bool bn, .int .i64 b, .string sb]] w fun e w' => e = .returned (.agg #[.bool (pickF ty sign ⟨an, a, sa⟩ ⟨bn, b, sb⟩).null, .int .i64 (pickF ty sign ⟨an, a, sa⟩ ⟨bn, b, sb⟩).n, .string (pickF ty sign ⟨an, a, sa⟩ ⟨bn, b, sb⟩).s]) ∧ Below w.heap.size w w' := by
  cases an with
  | true =>
    cases bn with
    | true =>
      go_enter Tryz.func125, Tryz.ntmps125
      go_wp2_with (go_at_call 124; refine Calls.mono (null_any _) ?_; rintro e w1 ⟨rfl, hb1⟩; obtain ⟨x1, rfl⟩ := Ext.of hb1; have z1 : w.heap.size + 1 + 1 < x1.it.heap.size := x1.lt (by first | (simp; done) | (simp; omega)))
      exact bodyPost_ret (v := .agg #[.bool true, .int .i64 0, .string ⟨#[]⟩]) (by simp [results, Tryz.results125, go_sem, *]) rfl (⟨rfl, by with_reducible repeat (first | exact Below.refl _ _ | assumption | refine Below.al ?_ _ | refine Below.on ?_ _ | refine Below.st ?_ (by first | assumption | (simp; done) | (simp; omega)) _ | refine Below.drew ?_)⟩)
    | false =>
      go_enter Tryz.func125, Tryz.ntmps125
      go_wp2
      exact bodyPost_ret (v := .agg #[.bool false, .int .i64 b, .string sb]) (by simp [results, Tryz.results125, go_sem, *]) rfl (⟨rfl, by with_reducible repeat (first | exact Below.refl _ _ | assumption | refine Below.al ?_ _ | refine Below.on ?_ _ | refine Below.st ?_ (by first | assumption | (simp; done) | (simp; omega)) _ | refine Below.drew ?_)⟩)
  | false =>
    cases bn with
    | true =>
      go_enter Tryz.func125, Tryz.ntmps125
      go_wp2
      exact bodyPost_ret (v := .agg #[.bool false, .int .i64 a, .string sa]) (by simp [results, Tryz.results125, go_sem, *]) rfl (⟨rfl, by with_reducible repeat (first | exact Below.refl _ _ | assumption | refine Below.al ?_ _ | refine Below.on ?_ _ | refine Below.st ?_ (by first | assumption | (simp; done) | (simp; omega)) _ | refine Below.drew ?_)⟩)
    | false =>
      obtain ⟨d, hd⟩ : ∃ d, cmpV ty ⟨false, b, sb⟩ ⟨false, a, sa⟩ = d := ⟨_, rfl⟩
      have C1 := Lib.hid (fun W => (by have h := refCompare_any ty false b sb false a sa W; rw [hd] at h; exact h : Calls Tryz.prog 122 #[.int .i64 ty, .agg #[.bool false, .int .i64 b, .string sb], .agg #[.bool false, .int .i64 a, .string sa]] W fun e w' => e = .returned (.int .i64 d) ∧ Below W.heap.size W w'))
      have PF : pickF ty sign ⟨false, a, sa⟩ ⟨false, b, sb⟩ = if d = sign then ⟨false, b, sb⟩ else ⟨false, a, sa⟩ := by unfold pickF; simp [hd]
      rw [PF]
      clear hd PF
      by_cases hs : d = sign
      · rw [if_pos hs]
        subst hs
        go_enter Tryz.func125, Tryz.ntmps125
        go_wp2_with (go_at_call 122; refine Calls.mono (C1.out _) ?_; rintro e w1 ⟨rfl, hb1⟩; obtain ⟨x1, rfl⟩ := Ext.of hb1; have z0 : w.heap.size < x1.it.heap.size := x1.lt (by first | (simp; done) | (simp; omega)); have z1 : w.heap.size + 1 < x1.it.heap.size := x1.lt (by first | (simp; done) | (simp; omega)); have z2 : w.heap.size + 1 + 1 < x1.it.heap.size := x1.lt (by first | (simp; done) | (simp; omega)))
        exact bodyPost_ret (v := .agg #[.bool false, .int .i64 b, .string sb]) (by simp [results, Tryz.results125, go_sem, *]) rfl (⟨rfl, by with_reducible repeat (first | exact Below.refl _ _ | assumption | refine Below.al ?_ _ | refine Below.on ?_ _ | refine Below.st ?_ (by first | assumption | (simp; done) | (simp; omega)) _ | refine Below.drew ?_)⟩)
      · rw [if_neg hs]
        have hs' : (d == sign) = false := by simpa using hs
        go_enter Tryz.func125, Tryz.ntmps125
        go_wp2_with (go_at_call 122; refine Calls.mono (C1.out _) ?_; rintro e w1 ⟨rfl, hb1⟩; obtain ⟨x1, rfl⟩ := Ext.of hb1; have z0 : w.heap.size < x1.it.heap.size := x1.lt (by first | (simp; done) | (simp; omega)); have z1 : w.heap.size + 1 < x1.it.heap.size := x1.lt (by first | (simp; done) | (simp; omega)); have z2 : w.heap.size + 1 + 1 < x1.it.heap.size := x1.lt (by first | (simp; done) | (simp; omega)))
        exact bodyPost_ret (v := .agg #[.bool false, .int .i64 a, .string sa]) (by simp [results, Tryz.results125, go_sem, *]) rfl (⟨rfl, by with_reducible repeat (first | exact Below.refl _ _ | assumption | refine Below.al ?_ _ | refine Below.on ?_ _ | refine Below.st ?_ (by first | assumption | (simp; done) | (simp; omega)) _ | refine Below.drew ?_)⟩)
/-- The zone in the block ZB. -/
structure ZoMem (w : World) (ZB : Nat) (z : Zon) : Prop where
  lt : ZB < w.heap.size
  fr : ∀ j, w.frozen? ⟨ZB, j, none⟩ = false
  c : ZonCells w ZB 0 z
theorem ZoMem.to {w w' : World} {ZB : Nat} {z : Zon} (h : ZoMem w ZB z) (hb : Below w.heap.size w w') : ZoMem w' ZB z :=
  ⟨Nat.lt_of_lt_of_le h.lt hb.size, fun j => (hb.frozen (p := ⟨ZB, j, none⟩) h.lt).trans (h.fr j), h.c.to fun q => hb.cell (p := ⟨ZB, q, none⟩) h.lt⟩
theorem ZoMem.nulls {w : World} {ZB : Nat} {z : Zon} (h : ZoMem w ZB z) (n : Int) : ZoMem (w.setCell ⟨ZB, 1, none⟩ (.int .i64 n)) ZB ⟨z.rows, n, z.min, z.max⟩ := by
  have other : ∀ j, j ≠ 1 → (w.setCell ⟨ZB, 1, none⟩ (.int .i64 n)).cell? ⟨ZB, j, none⟩ = w.cell? ⟨ZB, j, none⟩ := fun j hj => World.cell?_setCell_other _ _ _ _ (by intro e; injection e with _ e; exact hj e.symm)
  obtain ⟨h0, h1, h2, h3, h4, h5, h6, h7⟩ := h.c
  exact ⟨by simpa [World.setCell] using h.lt, fun j => by rw [World.frozen?_setCell]; exact h.fr j, (other 0 (by decide)).trans h0, World.cell?_setCell_same _ _ _ h1, (other 2 (by decide)).trans h2, (other 3 (by decide)).trans h3, (other 4 (by decide)).trans h4, (other 5 (by decide)).trans h5, (other 6 (by decide)).trans h6, (other 7 (by decide)).trans h7⟩
theorem cell_set {w : World} {p q : Addr} {u v : Value} (h : w.cell? q = some v) : (w.setCell p u).cell? q = some (if p = q then u else v) := by
  by_cases e : p = q
  · subst e; rw [if_pos rfl]; exact World.cell?_setCell_same _ _ _ h
  · rw [if_neg e]; exact (World.cell?_setCell_other _ _ _ _ e).trans h
theorem ZoMem.ends {w : World} {ZB : Nat} {z : Zon} (h : ZoMem w ZB z) (a b : Val) :
    ZoMem ((((((w.setCell ⟨ZB, 2, none⟩ (.bool a.null)).setCell ⟨ZB, 3, none⟩ (.int .i64 a.n)).setCell ⟨ZB, 4, none⟩ (.string a.s)).setCell ⟨ZB, 5, none⟩ (.bool b.null)).setCell ⟨ZB, 6, none⟩ (.int .i64 b.n)).setCell ⟨ZB, 7, none⟩ (.string b.s)) ZB ⟨z.rows, z.nulls, a, b⟩ := by
  obtain ⟨h0, h1, h2, h3, h4, h5, h6, h7⟩ := h.c
  refine ⟨by simpa [World.setCell] using h.lt, fun j => by simp only [World.frozen?_setCell]; exact h.fr j, ?_, ?_, ?_, ?_, ?_, ?_, ?_, ?_⟩
  · exact (cell_set (cell_set (cell_set (cell_set (cell_set (cell_set h0)))))).trans (by simp)
  · exact (cell_set (cell_set (cell_set (cell_set (cell_set (cell_set h1)))))).trans (by simp)
  · exact (cell_set (cell_set (cell_set (cell_set (cell_set (cell_set h2)))))).trans (by simp)
  · exact (cell_set (cell_set (cell_set (cell_set (cell_set (cell_set h3)))))).trans (by simp)
  · exact (cell_set (cell_set (cell_set (cell_set (cell_set (cell_set h4)))))).trans (by simp)
  · exact (cell_set (cell_set (cell_set (cell_set (cell_set (cell_set h5)))))).trans (by simp)
  · exact (cell_set (cell_set (cell_set (cell_set (cell_set (cell_set h6)))))).trans (by simp)
  · exact (cell_set (cell_set (cell_set (cell_set (cell_set (cell_set h7)))))).trans (by simp)
set_option maxRecDepth 8000 in
set_option maxHeartbeats 2000000 in
theorem zoneOf_any (ty : Int) (lv : Value) (ls : List Val) (w : World) (hv : ValsAt w w.heap.size lv ls) :
    Calls Tryz.prog 107 #[.int .i64 ty, lv] w fun e w' => e = .returned (zonV (zoneF ty ls)) ∧ Below w.heap.size w w' := by
  obtain ⟨la, lc, rfl⟩ := vals_end hv
  obtain ⟨m, hm⟩ : ∃ m, ls.length = m := ⟨_, rfl⟩
  have HV : Hid (ValsAt w w.heap.size (.slice la m lc) ls) := Lib.hid (by rw [← hm]; exact hv)
  have HM := Lib.hid hm
  have m63 := hv.1
  have EZ : zoneF ty ls = zoneK ty (m : Int) ls := by unfold zoneF; rw [hm]
  rw [EZ]
  rw [hm] at m63 ⊢
  clear hv hm EZ
  go_enter Tryz.func107, Tryz.ntmps107
  go_upto_region 2 with (go_at_call 124; refine Calls.mono (null_any _) ?_; rintro e w1 ⟨rfl, hb1⟩; obtain ⟨x1, rfl⟩ := Ext.of hb1; have z1 : w.heap.size < x1.it.heap.size := x1.lt (by first | assumption | (simp; done) | (simp; omega)))
  have nz : w.heap.size ≠ x1.it.heap.size := by omega
  have nz' : x1.it.heap.size ≠ w.heap.size := by omega
  refine captureM ?_
  intro y ey
  have yb : Below w.heap.size w y := by rw [ey]; exact (by with_reducible repeat (first | exact Below.refl _ _ | assumption | refine Below.al ?_ _ | refine Below.on ?_ _ | refine Below.st ?_ (by first | assumption | (simp; done) | (simp; omega)) _ | refine Below.drew ?_))
  have q0 : y.cell? ⟨x1.it.heap.size, 0, none⟩ = some (.int .i64 (m : Int)) := by rw [ey]; simp (maxDischargeDepth := 9) [go_sem, *]
  have q1 : y.cell? ⟨x1.it.heap.size, 1, none⟩ = some (.int .i64 0) := by rw [ey]; simp (maxDischargeDepth := 9) [go_sem, *]
  have q2 : y.cell? ⟨x1.it.heap.size, 2, none⟩ = some (.bool true) := by rw [ey]; simp (maxDischargeDepth := 9) [go_sem, *]
  have q3 : y.cell? ⟨x1.it.heap.size, 3, none⟩ = some (.int .i64 0) := by rw [ey]; simp (maxDischargeDepth := 9) [go_sem, *]
  have q4 : y.cell? ⟨x1.it.heap.size, 4, none⟩ = some (.string ⟨#[]⟩) := by rw [ey]; simp (maxDischargeDepth := 9) [go_sem, *]
  have q5 : y.cell? ⟨x1.it.heap.size, 5, none⟩ = some (.bool true) := by rw [ey]; simp (maxDischargeDepth := 9) [go_sem, *]
  have q6 : y.cell? ⟨x1.it.heap.size, 6, none⟩ = some (.int .i64 0) := by rw [ey]; simp (maxDischargeDepth := 9) [go_sem, *]
  have q7 : y.cell? ⟨x1.it.heap.size, 7, none⟩ = some (.string ⟨#[]⟩) := by rw [ey]; simp (maxDischargeDepth := 9) [go_sem, *]
  have r0 : y.cell? ⟨w.heap.size, 0, none⟩ = some (.int .i64 0) := by rw [ey]; simp (maxDischargeDepth := 9) [go_sem, *]
  have r1 : y.cell? ⟨w.heap.size, 1, none⟩ = some (.int .i64 0) := by rw [ey]; simp (maxDischargeDepth := 9) [go_sem, *]
  have r2 : y.cell? ⟨w.heap.size, 2, none⟩ = some (.bool false) := by rw [ey]; simp (maxDischargeDepth := 9) [go_sem, *]
  have r3 : y.cell? ⟨w.heap.size, 3, none⟩ = some (.int .i64 0) := by rw [ey]; simp (maxDischargeDepth := 9) [go_sem, *]
  have r4 : y.cell? ⟨w.heap.size, 4, none⟩ = some (.string ⟨#[]⟩) := by rw [ey]; simp (maxDischargeDepth := 9) [go_sem, *]
  have r5 : y.cell? ⟨w.heap.size, 5, none⟩ = some (.bool false) := by rw [ey]; simp (maxDischargeDepth := 9) [go_sem, *]
  have r6 : y.cell? ⟨w.heap.size, 6, none⟩ = some (.int .i64 0) := by rw [ey]; simp (maxDischargeDepth := 9) [go_sem, *]
  have r7 : y.cell? ⟨w.heap.size, 7, none⟩ = some (.string ⟨#[]⟩) := by rw [ey]; simp (maxDischargeDepth := 9) [go_sem, *]
  have qf : ∀ j, y.frozen? ⟨x1.it.heap.size, j, none⟩ = false := fun j => by rw [ey]; simp (maxDischargeDepth := 9) [go_sem, *]
  have rf : ∀ j, y.frozen? ⟨w.heap.size, j, none⟩ = false := fun j => by rw [ey]; simp (maxDischargeDepth := 9) [go_sem, *]
  have yz : x1.it.heap.size < y.heap.size := by rw [ey]; simp
  have yz0 : w.heap.size < y.heap.size := by omega
  have EM : Hid (ZoMem y x1.it.heap.size ⟨(m : Int), 0, nulV, nulV⟩) := Lib.hid ⟨yz, qf, q0, q1, q2, q3, q4, q5, q6, q7⟩
  have RC := Lib.hid (And.intro r0 (And.intro r1 (And.intro r2 (And.intro r3 (And.intro r4 (And.intro r5 (And.intro r6 (And.intro r7 rf))))))))
  clear ey q0 q1 q2 q3 q4 q5 q6 q7 r0 r1 r2 r3 r4 r5 r6 r7 qf rf
  generalize x1.it.heap.size = ZB at *
  go_wp2_with fail
  go_loopg [15] m (fun g st wr => ∃ k : Nat, k + g = m ∧ st = .int .i64 (k : Int) ∧ Mv (fun b => b = ZB) y wr ∧ ZoMem wr ZB (zoneK ty (m : Int) (ls.take k)))
  case atStart => exact ⟨0, by omega, rfl, Mv.refl _ _, EM.out⟩
  case round =>
    obtain ⟨k, hk, rfl, M, ZM⟩ := hrel
    have wz := ZM.lt
    have w0 : w.heap.size < wr.heap.size := Nat.lt_of_lt_of_le yz0 M.size
    have MW : Below w.heap.size w wr := M.below yb (fun b hb => by omega)
    have BD := zoneK_bd ty (m : Int) (ls.take k)
    by_cases hg0 : gk = 0
    · subst hg0
      obtain rfl : k = m := by omega
      have TK : ls.take k = ls := List.take_of_length_le (by rw [HM.out]; exact Nat.le_refl _)
      rw [TK] at ZM
      obtain ⟨⟨zr, zn, ⟨an, a, sa⟩, ⟨bn, b, sb⟩⟩, hz⟩ : ∃ z, zoneK ty (k : Int) ls = z := ⟨_, rfl⟩
      rw [hz] at ZM
      obtain ⟨h0, h1, h2, h3, h4, h5, h6, h7⟩ := ZM.c
      simp only [Nat.zero_add] at h0 h1 h2 h3 h4 h5 h6 h7
      have r0 := (M.cell 0 yz0 nz).trans RC.out.1
      have r1 := (M.cell 1 yz0 nz).trans RC.out.2.1
      have r2 := (M.cell 2 yz0 nz).trans RC.out.2.2.1
      have r3 := (M.cell 3 yz0 nz).trans RC.out.2.2.2.1
      have r4 := (M.cell 4 yz0 nz).trans RC.out.2.2.2.2.1
      have r5 := (M.cell 5 yz0 nz).trans RC.out.2.2.2.2.2.1
      have r6 := (M.cell 6 yz0 nz).trans RC.out.2.2.2.2.2.2.1
      have r7 := (M.cell 7 yz0 nz).trans RC.out.2.2.2.2.2.2.2.1
      have rf : ∀ j, wr.frozen? ⟨w.heap.size, j, none⟩ = false := fun j => (M.frozen j yz0 nz).trans (RC.out.2.2.2.2.2.2.2.2 j)
      have HZ := Lib.hid hz
      clear hk TK hz ZM M BD
      go_wp2
      refine bodyPost_ret (v := zonV ⟨zr, zn, ⟨an, a, sa⟩, ⟨bn, b, sb⟩⟩) (by simp [zonV, results, Tryz.results107, go_sem, *]) rfl ⟨by rw [HZ.out], by with_reducible repeat (first | exact Below.refl _ _ | assumption | refine Below.al ?_ _ | refine Below.on ?_ _ | refine Below.st ?_ (by first | assumption | (simp; done) | (simp; omega)) _ | refine Below.drew ?_)⟩
    · have hkm : k < m := by omega
      have hkm' : (k : Int) < (m : Int) := by omega
      have hkl : k < ls.length := by rw [HM.out]; exact hkm
      obtain ⟨rb, ro, rfl, _, hrb, d0, d1, d2⟩ := vals_in HV.out hkl
      have ZS := Lib.hid (zoneK_succ (ty := ty) (n := (m : Int)) hkl)
      obtain ⟨u, hu⟩ : ∃ u, ls[k]'hkl = u := ⟨_, rfl⟩
      rw [hu] at d0 d1 d2 ZS
      obtain ⟨un, ui, us⟩ := u
      dsimp only at d0 d1 d2
      obtain ⟨⟨zr, zn, ⟨an, a, sa⟩, ⟨bn, b, sb⟩⟩, hz⟩ : ∃ z, zoneK ty (m : Int) (ls.take k) = z := ⟨_, rfl⟩
      rw [hz] at ZM ZS BD
      have zn0 : 0 ≤ zn := BD.2.1
      have zn1 : zn ≤ (k : Int) := Int.le_trans BD.2.2 (by first | (simp; done) | (simp; omega))
      have g0 := (MW.cell (p := ⟨rb, ro + k * 3, none⟩) hrb).trans d0
      have g1 := (MW.cell (p := ⟨rb, ro + k * 3 + 1, none⟩) hrb).trans d1
      have g2 := (MW.cell (p := ⟨rb, ro + k * 3 + 2, none⟩) hrb).trans d2
      have zrb : rb < wr.heap.size := Nat.lt_of_lt_of_le hrb MW.size
      have HK := Lib.hid (And.intro hk (And.intro hg0 M))
      have ZMH := Lib.hid ZM
      clear d0 d1 d2 hu hz BD hk hg0 M ZM EM
      go_upto_region 5 with fail
      refine captureM ?_
      intro v ey
      have vb : Below wr.heap.size wr v := by rw [ey]; exact (by with_reducible repeat (first | exact Below.refl _ _ | assumption | refine Below.al ?_ _ | refine Below.on ?_ _ | refine Below.st ?_ (by first | assumption | (simp; done) | (simp; omega)) _ | refine Below.drew ?_))
      have v0 : v.cell? ⟨wr.heap.size, 0, none⟩ = some (.bool un) := by rw [ey]; simp (maxDischargeDepth := 9) [go_sem, *]
      have v1 : v.cell? ⟨wr.heap.size, 1, none⟩ = some (.int .i64 ui) := by rw [ey]; simp (maxDischargeDepth := 9) [go_sem, *]
      have v2 : v.cell? ⟨wr.heap.size, 2, none⟩ = some (.string us) := by rw [ey]; simp (maxDischargeDepth := 9) [go_sem, *]
      have vz : wr.heap.size < v.heap.size := by rw [ey]; simp
      have ZV := Lib.hid (ZMH.out.to vb)
      have MV := Lib.hid (HK.out.2.2.on vb)
      have zv := ZV.out.lt
      obtain ⟨h0, h1, h2, h3, h4, h5, h6, h7⟩ := ZV.out.c
      simp only [Nat.zero_add] at h0 h1 h2 h3 h4 h5 h6 h7
      have hf := ZV.out.fr
      have nzw : ZB ≠ wr.heap.size := by omega
      have nzw' : wr.heap.size ≠ ZB := by omega
      clear ey g0 g1 g2 vb MW
      generalize wr.heap.size = VB at *
      cases un with
      | true =>
        go_wp2
        go_roundg (gk - 1)
        case measure => have := HK.out; omega
        case rel => exact ⟨k + 1, by have := HK.out; omega, by go_num, MV.out.st (.inl rfl) _, by rw [ZS.out]; exact ZV.out.nulls _⟩
      | false =>
        have P1 := Lib.hid (fun W => zpick_any ty (-1) an a sa false ui us W)
        have P2 := Lib.hid (fun W => zpick_any ty 1 bn b sb false ui us W)
        have ZS2 : zstep ty ⟨zr, zn, ⟨an, a, sa⟩, ⟨bn, b, sb⟩⟩ ⟨false, ui, us⟩ = ⟨zr, zn, pickF ty (-1) ⟨an, a, sa⟩ ⟨false, ui, us⟩, pickF ty 1 ⟨bn, b, sb⟩ ⟨false, ui, us⟩⟩ := rfl
        obtain ⟨p1, hp1⟩ : ∃ p, pickF ty (-1) ⟨an, a, sa⟩ ⟨false, ui, us⟩ = p := ⟨_, rfl⟩
        obtain ⟨p2, hp2⟩ : ∃ p, pickF ty 1 ⟨bn, b, sb⟩ ⟨false, ui, us⟩ = p := ⟨_, rfl⟩
        rw [hp1] at P1 ZS2
        rw [hp2] at P2 ZS2
        have ZS3 := Lib.hid (ZS.out.trans ZS2)
        clear hp1 hp2 ZS2
        go_upto_region 7 with fail
        refine wp_region_ext_tail 11 (by kernel_rfl) (by kernel_rfl) ?_
        dsimp only [List.take, List.drop]
        repeat (go_big_quiet_step (((first | (go_at_call 125; (with_reducible exact Calls.ext (P1.out _))) | (go_at_call 125; (with_reducible exact Calls.ext (P2.out _)))))))
        refine wpQuiet_nil ?_
        rintro _ ⟨x2, rfl⟩
        have zx := x2.lt zv
        have s2 := (x2.cell ZB 2 zv).trans h2
        have s3 := (x2.cell ZB 3 zv).trans h3
        have s4 := (x2.cell ZB 4 zv).trans h4
        have s5 := (x2.cell ZB 5 zv).trans h5
        have s6 := (x2.cell ZB 6 zv).trans h6
        have s7 := (x2.cell ZB 7 zv).trans h7
        have sf : ∀ j, x2.it.frozen? ⟨ZB, j, none⟩ = false := fun j => (x2.frozen ZB j zv).trans (hf j)
        go_wp2_with fail
        go_roundg (gk - 1)
        case measure => have := HK.out; omega
        case rel => exact ⟨k + 1, by have := HK.out; omega, by go_num, ((((((MV.out.on x2.below).st (.inl rfl) _).st (.inl rfl) _).st (.inl rfl) _).st (.inl rfl) _).st (.inl rfl) _).st (.inl rfl) _, by rw [ZS3.out]; exact (ZV.out.to x2.below).ends p1 p2⟩
end Go.Proofs.YtpahoenanfjhpaaGreat
