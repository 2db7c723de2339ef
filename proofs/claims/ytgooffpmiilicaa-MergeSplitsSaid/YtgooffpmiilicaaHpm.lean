/-
  THE HEADS IN MEMORY ('HpM') and the methods Len and Less of merge's heap. Conditions: each theorem states its own.
-/
import Derived.Test.YtgooffpmiilicaaSrt
import Derived.Test.YtgooffpmiilicaaHep
import Derived.Test.YtgooffpmiilicaaFloat
import Derived.Laws.OwnMore
import Derived.BigRegion
set_option linter.unusedVariables false
set_option linter.unusedSimpArgs false
namespace Go.Proofs.Ytgooffpmiilicaa
open Go.RowKit Srt
/-- The rest of a list: its slice, its records, its number. -/
structure Hd where
  v : Value
  lst : List Rc
  num : Nat
def Hd.hd (x : Hd) : Rc := x.lst.headD ⟨0, []⟩
def Hd.tl (x : Hd) : List Rc := x.lst.tail
theorem Hd.cons {x : Hd} (h : x.lst ≠ []) : x.lst = x.hd :: x.tl := by
  obtain ⟨v, l, n⟩ := x
  cases l with
  | nil => exact absurd rfl h
  | cons a l => rfl
/-- The first n heads have records left. -/
def Lv (f : Nat → Hd) (n : Nat) : Prop := ∀ k, k < n → (f k).lst ≠ []
def hdC (h : Hd) : List Value := [h.v, .int .i64 (h.num : Int)]
/-- In world w the heads lie in block hb: the schema, and the slice lv of the first n heads of f. What came in lies below A. -/
structure HpM (w : World) (A B0 hb : Nat) (cv : Value) (cs : List Col) (K : Nat) (lv : Value) (f : Nat → Hd) (n : Nat) : Prop where
  own : w.ownsRow B0 69 2 lv n ((toL f n).flatMap hdC)
  s0 : w.cell? ⟨hb, 0, none⟩ = some cv
  s1 : w.cell? ⟨hb, 1, none⟩ = some (.int .i64 (K : Int))
  s2 : w.cell? ⟨hb, 2, none⟩ = some lv
  lt : hb < w.heap.size
  lo : B0 ≤ hb
  ab : A ≤ B0
  ne : ∀ k, lv.ownBlock = some k → k ≠ hb
  fr : ∀ q, w.frozen? ⟨hb, q, none⟩ = false
  cols : ColsAt w A cv cs
  key : K < cs.length
  recs : ∀ k, k < n → RecsAt w A (f k).v (f k).lst
theorem HpM.row {w : World} {A B0 hb : Nat} {cv : Value} {cs : List Col} {K : Nat} {lv : Value} {f : Nat → Hd} {n : Nat} (h : HpM w A B0 hb cv cs K lv f n) (hn : 0 < n) :
    ∃ g cap, lv = .slice (some ⟨g, 0, none⟩) n cap ∧ n ≤ cap ∧ B0 ≤ g ∧ g < w.heap.size ∧ g ≠ hb ∧ (∀ q, w.frozen? ⟨g, q, none⟩ = false) ∧ ∀ j, j < n → w.cell? ⟨g, j * 2, none⟩ = some (f j).v ∧ w.cell? ⟨g, j * 2 + 1, none⟩ = some (.int .i64 ((f j).num : Int)) := by
  have ho := h.own
  have hl : (toL f n).length = n := toL_len f n
  have ho' : w.ownsRow B0 69 2 lv (toL f n).length ((toL f n).flatMap hdC) := by rw [hl]; exact ho
  rcases own_at (f := hdC) (k := 2) (fun _ => rfl) ho' with ⟨e, _⟩ | ⟨g, cap, e, hcap, hg0, hg, H⟩
  · have := congrArg List.length e; rw [hl] at this; simp at this; omega
  · subst e
    rw [hl] at hcap h ho ⊢
    refine ⟨g, cap, rfl, hcap, hg0, hg, h.ne g rfl, fun q => World.ownsRow.frozenAt ho q, fun j hj => ?_⟩
    have hj' : j < (toL f n).length := by rw [hl]; exact hj
    have h0 := H j hj' 0 _ (by omega) rfl
    have h1 := H j hj' 1 _ (by omega) rfl
    rw [toL_get] at h0 h1
    rw [Nat.add_zero] at h0
    exact ⟨h0, h1⟩
theorem HpM.on {w w' : World} {A B0 hb : Nat} {cv : Value} {cs : List Col} {K : Nat} {lv : Value} {f : Nat → Hd} {n : Nat} (h : HpM w A B0 hb cv cs K lv f n) (hb' : Below w.heap.size w w') : HpM w' A B0 hb cv cs K lv f n := by
  have hA : A ≤ w.heap.size := by have := h.ab; have := h.lo; have := h.lt; omega
  exact ⟨own_to h.own hb', (hb'.cell (p := ⟨hb, 0, none⟩) h.lt).trans h.s0, (hb'.cell (p := ⟨hb, 1, none⟩) h.lt).trans h.s1, (hb'.cell (p := ⟨hb, 2, none⟩) h.lt).trans h.s2, Nat.lt_of_lt_of_le h.lt hb'.size, h.lo, h.ab, h.ne,
    fun q => (hb'.frozen (p := ⟨hb, q, none⟩) h.lt).trans (h.fr q), h.cols.mono (hb'.mono hA) (Nat.le_refl _), h.key, fun k hk => (h.recs k hk).mono (hb'.mono hA) (Nat.le_refl _)⟩
theorem allocHd : AllocOk Try.prog 69 #[.slice none 0 0, .int .i64 0] := by
  intro ρ o w h; obtain ⟨dst, op, type, pos, after, guard⟩ := o; dsimp only at h; subst h; go_simp
theorem hlen_any {w : World} {A B0 hb : Nat} {cv : Value} {cs : List Col} {K : Nat} {lv : Value} {f : Nat → Hd} {n : Nat} (hM : HpM w A B0 hb cv cs K lv f n) :
    Calls Try.prog 32 #[.pointer (some ⟨hb, 0, none⟩)] w fun e w' => e = .returned (.int .i64 (n : Int)) ∧ Below w.heap.size w w' := by
  obtain ⟨a, c, rfl⟩ := own_form hM.own
  have s2 := hM.s2
  clear hM
  go_enter Try.func32, Try.ntmps32
  go_wp2
  go_ret
  exact ⟨rfl, by repeat (first | with_reducible exact Below.refl _ _ | with_reducible assumption | with_reducible refine Below.al ?_ _ | with_reducible refine Below.on ?_ _ | with_reducible refine Below.st ?_ (by first | assumption | (simp; done) | (simp; omega)) _ | with_reducible refine Below.drew ?_)⟩
set_option maxRecDepth 8000 in
set_option maxHeartbeats 1000000 in
theorem less_any {w : World} {A B0 hb : Nat} {cv : Value} {cs : List Col} {K : Nat} {lv : Value} {f : Nat → Hd} {n : Nat} (hM : HpM w A B0 hb cv cs K lv f n) (i k : Nat) (hi : i < n) (hk : k < n) (li : (f i).lst ≠ []) (lk : (f k).lst ≠ []) :
    Calls Try.prog 93 #[.pointer (some ⟨hb, 0, none⟩), .int .i64 (i : Int), .int .i64 (k : Int)] w fun e w' => e = .returned (.bool (ltH (recD (tyK cs K) K) Hd.hd Hd.num (f i) (f k))) ∧ Below w.heap.size w w' := by
  obtain ⟨g, cap, hlv, hcap, hg0, hg, hgh, _, HC⟩ := hM.row (by omega)
  obtain ⟨a0, a1⟩ := HC i hi
  obtain ⟨b0, b1⟩ := HC k hk
  have rx := hM.recs i hi
  have ry := hM.recs k hk
  obtain ⟨R, hR⟩ : ∃ R, ltH (recD (tyK cs K) K) Hd.hd Hd.num (f i) (f k) = R := ⟨_, rfl⟩
  rw [hR]
  obtain ⟨X, hX⟩ : ∃ X, f i = X := ⟨_, rfl⟩
  obtain ⟨Y, hY⟩ : ∃ Y, f k = Y := ⟨_, rfl⟩
  rw [hX, hY] at hR
  rw [hX] at a0 a1 rx li
  rw [hY] at b0 b1 ry lk
  clear hX hY
  obtain ⟨xv, xlst, xnum⟩ := X
  obtain ⟨yv, ylst, ynum⟩ := Y
  dsimp only at a0 a1 b0 b1 rx ry li lk
  obtain ⟨⟨xsq, xrow⟩, xtl, rfl⟩ := List.exists_cons_of_ne_nil li
  obtain ⟨⟨ysq, yrow⟩, ytl, rfl⟩ := List.exists_cons_of_ne_nil lk
  clear li lk
  have hA : A ≤ w.heap.size := by have := hM.ab; have := hM.lo; have := hM.lt; omega
  have s0 := hM.s0
  have s1 := hM.s1
  have s2 := hM.s2
  have hlt := hM.lt
  have hkey := hM.key
  have hc := hM.cols.mono (Below.refl _ _) hA
  rw [hlv] at s2
  have rx' := rx.up hA
  have ry' := ry.up hA
  obtain ⟨xa, xc, rfl⟩ := recs_end rx
  obtain ⟨ya, yc, rfl⟩ := recs_end ry
  obtain ⟨xb, xo, rfl, _, hxb, ⟨x0, xl, x1, xV⟩⟩ := recs_in rx' (i := 0) (by simp)
  obtain ⟨yb, yo, rfl, _, hyb, ⟨y0, yl, y1, yV⟩⟩ := recs_in ry' (i := 0) (by simp)
  simp only [List.getElem_cons_zero, Nat.zero_mul, Nat.add_zero] at x0 x1 xV y0 y1 yV
  obtain ⟨xla, xlc, rfl⟩ := vals_end xV
  obtain ⟨yla, ylc, rfl⟩ := vals_end yV
  obtain ⟨D, hD⟩ : ∃ D, recD (tyK cs K) K ⟨xsq, xrow⟩ ⟨ysq, yrow⟩ = D := ⟨_, rfl⟩
  obtain ⟨p, hp⟩ : ∃ p : Int, (xnum : Int) = p := ⟨_, rfl⟩
  obtain ⟨q, hq⟩ : ∃ q : Int, (ynum : Int) = q := ⟨_, rfl⟩
  have hR' : R = (decide (D < 0) || (decide (D = 0) && decide (p < q))) := by
    rw [← hR]; show (decide (recD (tyK cs K) K ⟨xsq, xrow⟩ ⟨ysq, yrow⟩ < 0) || (decide (recD (tyK cs K) K ⟨xsq, xrow⟩ ⟨ysq, yrow⟩ = 0) && decide (xnum < ynum))) = _; rw [hD, ← hp, ← hq]; congr 2; simp
  rw [hp] at a1
  rw [hq] at b1
  obtain ⟨⟨⟨an, ai, as'⟩, ap⟩, hAr⟩ : ∃ r, rankF K ⟨xsq, xrow⟩ = r := ⟨_, rfl⟩
  obtain ⟨⟨⟨bn, bi, bs'⟩, bp⟩, hBr⟩ : ∃ r, rankF K ⟨ysq, yrow⟩ = r := ⟨_, rfl⟩
  obtain ⟨ty, hty⟩ : ∃ ty, (cs[K]'hkey).ty = ty := ⟨_, rfl⟩
  have hD' : cmpR ty ⟨⟨an, ai, as'⟩, ap⟩ ⟨⟨bn, bi, bs'⟩, bp⟩ = D := by rw [← hD]; unfold recD; rw [hAr, hBr, tyK_at hkey, hty]
  have RA := Lib.hid (fun (W : World) (h : Below w.heap.size w W) => (by have z := rank_any cv K xsq _ xrow W (xV.mono h h.size); rw [hAr] at z; exact z : Calls Try.prog 66 #[.agg #[cv, .int .i64 (K : Int)], .agg #[.int .i64 xsq, .slice xla xrow.length xlc]] W fun e w' => e = .returned (.agg #[.bool an, .int .i64 ai, .string as', .int .i64 ap]) ∧ Below W.heap.size W w'))
  have RB := Lib.hid (fun (W : World) (h : Below w.heap.size w W) => (by have z := rank_any cv K ysq _ yrow W (yV.mono h h.size); rw [hBr] at z; exact z : Calls Try.prog 66 #[.agg #[cv, .int .i64 (K : Int)], .agg #[.int .i64 ysq, .slice yla yrow.length ylc]] W fun e w' => e = .returned (.agg #[.bool bn, .int .i64 bi, .string bs', .int .i64 bp]) ∧ Below W.heap.size W w'))
  have CC := Lib.hid (fun W => (by have z := bcompare_any ty an ai as' ap bn bi bs' bp W; rw [hD'] at z; exact z : Calls Try.prog 41 #[.int .i64 ty, .agg #[.bool an, .int .i64 ai, .string as', .int .i64 ap], .agg #[.bool bn, .int .i64 bi, .string bs', .int .i64 bp]] W fun e w' => e = .returned (.int .i64 D) ∧ Below W.heap.size W w'))
  obtain ⟨ca, cc, rfl⟩ := cols_end hc
  obtain ⟨m, hm⟩ : ∃ m, cs.length = m := ⟨_, rfl⟩
  have h63 := hc.1
  obtain ⟨cb, co, rfl, _, hcb, c0, c1, c2, c3⟩ := cols_in hc hkey
  rw [hty] at c1
  rw [hm] at s0 RA RB h63
  have kn : (K : Int) < (m : Int) := by omega
  have k0 : (0 : Int) ≤ (K : Int) := by omega
  have in1 : (i : Int) < (n : Int) := by omega
  have in2 : (k : Int) < (n : Int) := by omega
  have HR := Lib.hid hR'
  have HG := Lib.hid hgh
  clear hc c0 c2 c3 hm hty hD' hAr hBr hR hR' hD rx ry rx' ry' xV yV hM HC hlv hA hkey hp hq hg0 hgh
  simp only [List.length_cons] at a0 b0
  generalize xrow.length = xm at *
  generalize yrow.length = ym at *
  generalize xtl.length = xt at *
  generalize ytl.length = yt at *
  go_enter Try.func93, Try.ntmps93
  go_upto_region 1 with fail
  go_region
  · go_upto_region 2 with fail
    refine captureM ?_
    intro u eu
    have bu : Below w.heap.size w u := by rw [eu]; exact (by repeat (first | with_reducible exact Below.refl _ _ | with_reducible assumption | with_reducible refine Below.al ?_ _ | with_reducible refine Below.on ?_ _ | with_reducible refine Below.st ?_ (by first | assumption | (simp; done) | (simp; omega)) _ | with_reducible refine Below.drew ?_))
    have u1s : w.heap.size < u.heap.size := by rw [eu]; simp; try omega
    have u2s : w.heap.size + 1 < u.heap.size := by rw [eu]; simp; try omega
    have us : hb < u.heap.size := Nat.lt_of_lt_of_le hlt bu.size
    have ucs : cb < u.heap.size := Nat.lt_of_lt_of_le hcb bu.size
    have uxs : xb < u.heap.size := Nat.lt_of_lt_of_le hxb bu.size
    have uys : yb < u.heap.size := Nat.lt_of_lt_of_le hyb bu.size
    have us0 := (bu.cell (p := ⟨hb, 0, none⟩) hlt).trans s0
    have us1 := (bu.cell (p := ⟨hb, 1, none⟩) hlt).trans s1
    have uc1 := (bu.cell (p := ⟨cb, co + K * 4 + 1, none⟩) hcb).trans c1
    have ux0 := (bu.cell (p := ⟨xb, xo, none⟩) hxb).trans x0
    have ux1 := (bu.cell (p := ⟨xb, xo + 1, none⟩) hxb).trans x1
    have uy0 := (bu.cell (p := ⟨yb, yo, none⟩) hyb).trans y0
    have uy1 := (bu.cell (p := ⟨yb, yo + 1, none⟩) hyb).trans y1
    have u10 : u.cell? ⟨w.heap.size, 0, none⟩ = some (.slice (some ⟨xb, xo, none⟩) (xt + 1) xc) := by rw [eu]; simp (maxDischargeDepth := 9) [go_sem, *]
    have u11 : u.cell? ⟨w.heap.size, 1, none⟩ = some (.int .i64 p) := by rw [eu]; simp (maxDischargeDepth := 9) [go_sem, *]
    have u20 : u.cell? ⟨w.heap.size + 1, 0, none⟩ = some (.slice (some ⟨yb, yo, none⟩) (yt + 1) yc) := by rw [eu]; simp (maxDischargeDepth := 9) [go_sem, *]
    have u21 : u.cell? ⟨w.heap.size + 1, 1, none⟩ = some (.int .i64 q) := by rw [eu]; simp (maxDischargeDepth := 9) [go_sem, *]
    have BU := Lib.hid bu
    have xt0 : (0 : Int) < ((xt + 1 : Nat) : Int) := by omega
    have yt0 : (0 : Int) < ((yt + 1 : Nat) : Int) := by omega
    clear eu bu c1 x0 x1 y0 y1 a0 a1 b0 b1 s0 s1 s2 hxb hyb hcb hlt
    generalize xt + 1 = xt1 at *
    generalize yt + 1 = yt1 at *
    refine wp_region_ext (by kernel_rfl) (by kernel_rfl) ?_
    repeat (go_big_quiet_step ((first | (go_at_call 66; with_reducible exact Calls.ext (RA.out _ (Below.on BU.out _))) | (go_at_call 66; with_reducible exact Calls.ext (RB.out _ (Below.on BU.out _))) | (go_at_call 41; exact Calls.ext (CC.out _)))))
    refine wpQuiet_nil ?_
    rintro _ ⟨x, rfl⟩
    have yb' := BU.out
    have v11 := (x.cell (w.heap.size) 1 u1s).trans u11
    have v21 := (x.cell (w.heap.size + 1) 1 u2s).trans u21
    have v1s := x.lt u1s
    have v2s := x.lt u2s
    clear u10 u11 u20 u21 us0 us1 uc1 ux0 ux1 uy0 uy1
    have HQ := HR.out
    clear HR
    rcases Int.lt_trichotomy D 0 with d | d | d
    · obtain rfl : R = true := by rw [HQ]; simp [d]
      clear HQ
      go_wp2_with fail
      go_ret
      exact ⟨rfl, by repeat (first | with_reducible exact Below.refl _ _ | with_reducible assumption | with_reducible refine Below.al ?_ _ | with_reducible refine Below.on ?_ _ | with_reducible refine Below.st ?_ (by first | assumption | (simp; done) | (simp; omega)) _ | with_reducible refine Below.drew ?_)⟩
    · have dn : ¬ D < 0 := by omega
      by_cases t : p < q
      · obtain rfl : R = true := by rw [HQ]; simp [d, t]
        clear HQ
        go_wp2_with fail
        go_ret
        exact ⟨rfl, by repeat (first | with_reducible exact Below.refl _ _ | with_reducible assumption | with_reducible refine Below.al ?_ _ | with_reducible refine Below.on ?_ _ | with_reducible refine Below.st ?_ (by first | assumption | (simp; done) | (simp; omega)) _ | with_reducible refine Below.drew ?_)⟩
      · obtain rfl : R = false := by rw [HQ]; simp [d, t]
        clear HQ
        go_wp2_with fail
        go_ret
        exact ⟨rfl, by repeat (first | with_reducible exact Below.refl _ _ | with_reducible assumption | with_reducible refine Below.al ?_ _ | with_reducible refine Below.on ?_ _ | with_reducible refine Below.st ?_ (by first | assumption | (simp; done) | (simp; omega)) _ | with_reducible refine Below.drew ?_)⟩
    · have dn : ¬ D < 0 := by omega
      have dz : ¬ D = 0 := by omega
      obtain rfl : R = false := by rw [HQ]; simp [dn, dz]
      clear HQ
      go_wp2_with fail
      go_ret
      exact ⟨rfl, by repeat (first | with_reducible exact Below.refl _ _ | with_reducible assumption | with_reducible refine Below.al ?_ _ | with_reducible refine Below.on ?_ _ | with_reducible refine Below.st ?_ (by first | assumption | (simp; done) | (simp; omega)) _ | with_reducible refine Below.drew ?_)⟩
  · go_upto_region 2 with fail
    refine captureM ?_
    intro u eu
    have bu : Below w.heap.size w u := by rw [eu]; exact (by repeat (first | with_reducible exact Below.refl _ _ | with_reducible assumption | with_reducible refine Below.al ?_ _ | with_reducible refine Below.on ?_ _ | with_reducible refine Below.st ?_ (by first | assumption | (simp; done) | (simp; omega)) _ | with_reducible refine Below.drew ?_))
    have u1s : w.heap.size + 1 < u.heap.size := by rw [eu]; simp; try omega
    have u2s : w.heap.size < u.heap.size := by rw [eu]; simp; try omega
    have us : hb < u.heap.size := Nat.lt_of_lt_of_le hlt bu.size
    have ucs : cb < u.heap.size := Nat.lt_of_lt_of_le hcb bu.size
    have uxs : xb < u.heap.size := Nat.lt_of_lt_of_le hxb bu.size
    have uys : yb < u.heap.size := Nat.lt_of_lt_of_le hyb bu.size
    have us0 := (bu.cell (p := ⟨hb, 0, none⟩) hlt).trans s0
    have us1 := (bu.cell (p := ⟨hb, 1, none⟩) hlt).trans s1
    have uc1 := (bu.cell (p := ⟨cb, co + K * 4 + 1, none⟩) hcb).trans c1
    have ux0 := (bu.cell (p := ⟨xb, xo, none⟩) hxb).trans x0
    have ux1 := (bu.cell (p := ⟨xb, xo + 1, none⟩) hxb).trans x1
    have uy0 := (bu.cell (p := ⟨yb, yo, none⟩) hyb).trans y0
    have uy1 := (bu.cell (p := ⟨yb, yo + 1, none⟩) hyb).trans y1
    have u10 : u.cell? ⟨w.heap.size + 1, 0, none⟩ = some (.slice (some ⟨xb, xo, none⟩) (xt + 1) xc) := by rw [eu]; simp (maxDischargeDepth := 9) [go_sem, *]
    have u11 : u.cell? ⟨w.heap.size + 1, 1, none⟩ = some (.int .i64 p) := by rw [eu]; simp (maxDischargeDepth := 9) [go_sem, *]
    have u20 : u.cell? ⟨w.heap.size, 0, none⟩ = some (.slice (some ⟨yb, yo, none⟩) (yt + 1) yc) := by rw [eu]; simp (maxDischargeDepth := 9) [go_sem, *]
    have u21 : u.cell? ⟨w.heap.size, 1, none⟩ = some (.int .i64 q) := by rw [eu]; simp (maxDischargeDepth := 9) [go_sem, *]
    have BU := Lib.hid bu
    have xt0 : (0 : Int) < ((xt + 1 : Nat) : Int) := by omega
    have yt0 : (0 : Int) < ((yt + 1 : Nat) : Int) := by omega
    clear eu bu c1 x0 x1 y0 y1 a0 a1 b0 b1 s0 s1 s2 hxb hyb hcb hlt
    generalize xt + 1 = xt1 at *
    generalize yt + 1 = yt1 at *
    refine wp_region_ext (by kernel_rfl) (by kernel_rfl) ?_
    repeat (go_big_quiet_step ((first | (go_at_call 66; with_reducible exact Calls.ext (RA.out _ (Below.on BU.out _))) | (go_at_call 66; with_reducible exact Calls.ext (RB.out _ (Below.on BU.out _))) | (go_at_call 41; exact Calls.ext (CC.out _)))))
    refine wpQuiet_nil ?_
    rintro _ ⟨x, rfl⟩
    have yb' := BU.out
    have v11 := (x.cell (w.heap.size + 1) 1 u1s).trans u11
    have v21 := (x.cell (w.heap.size) 1 u2s).trans u21
    have v1s := x.lt u1s
    have v2s := x.lt u2s
    clear u10 u11 u20 u21 us0 us1 uc1 ux0 ux1 uy0 uy1
    have HQ := HR.out
    clear HR
    rcases Int.lt_trichotomy D 0 with d | d | d
    · obtain rfl : R = true := by rw [HQ]; simp [d]
      clear HQ
      go_wp2_with fail
      go_ret
      exact ⟨rfl, by repeat (first | with_reducible exact Below.refl _ _ | with_reducible assumption | with_reducible refine Below.al ?_ _ | with_reducible refine Below.on ?_ _ | with_reducible refine Below.st ?_ (by first | assumption | (simp; done) | (simp; omega)) _ | with_reducible refine Below.drew ?_)⟩
    · have dn : ¬ D < 0 := by omega
      by_cases t : p < q
      · obtain rfl : R = true := by rw [HQ]; simp [d, t]
        clear HQ
        go_wp2_with fail
        go_ret
        exact ⟨rfl, by repeat (first | with_reducible exact Below.refl _ _ | with_reducible assumption | with_reducible refine Below.al ?_ _ | with_reducible refine Below.on ?_ _ | with_reducible refine Below.st ?_ (by first | assumption | (simp; done) | (simp; omega)) _ | with_reducible refine Below.drew ?_)⟩
      · obtain rfl : R = false := by rw [HQ]; simp [d, t]
        clear HQ
        go_wp2_with fail
        go_ret
        exact ⟨rfl, by repeat (first | with_reducible exact Below.refl _ _ | with_reducible assumption | with_reducible refine Below.al ?_ _ | with_reducible refine Below.on ?_ _ | with_reducible refine Below.st ?_ (by first | assumption | (simp; done) | (simp; omega)) _ | with_reducible refine Below.drew ?_)⟩
    · have dn : ¬ D < 0 := by omega
      have dz : ¬ D = 0 := by omega
      obtain rfl : R = false := by rw [HQ]; simp [dn, dz]
      clear HQ
      go_wp2_with fail
      go_ret
      exact ⟨rfl, by repeat (first | with_reducible exact Below.refl _ _ | with_reducible assumption | with_reducible refine Below.al ?_ _ | with_reducible refine Below.on ?_ _ | with_reducible refine Below.st ?_ (by first | assumption | (simp; done) | (simp; omega)) _ | with_reducible refine Below.drew ?_)⟩
end Go.Proofs.Ytgooffpmiilicaa
