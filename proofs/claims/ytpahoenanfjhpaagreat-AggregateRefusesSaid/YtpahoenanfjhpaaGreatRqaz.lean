/-
  CHAPTER 25: the reference's columnsOf, take and compareGroups. Conditions: the schema, the numbers and the rows lie in memory.
-/
import Derived.Test.YtpahoenanfjhpaaGreatPrjz
import Derived.Test.YtpahoenanfjhpaaGreatAckz
import Derived.Test.YtpahoenanfjhpaaGreatGrpz
set_option linter.unusedVariables false
set_option linter.unusedSimpArgs false
namespace Go.Proofs.YtpahoenanfjhpaaGreat
open Go.RowKit Srt
theorem projL (r : List Val) (l : List Int) : (projF r l).length = l.length := projF_len r l
theorem projAt {r : List Val} {l : List Int} {k I : Nat} (hk : k < l.length) (e : l[k]'hk = (I : Int)) (hI : I < r.length) (hp : k < (projF r l).length) : (projF r l)[k]'hp = r[I]'hI := by
  have h1 : (projF r l)[k]'hp = r.getD (l[k]'hk).toNat Val.zero := by simp [projF]
  rw [h1, e, Int.toNat_natCast, getDv_in hI]
/-- A list of numbers in memory, whatever they are. -/
def IntsC (w : World) (a : Option Addr) (l : List Int) : Prop := l.length ≤ 9223372036854775807 ∧ ∀ k (hk : k < l.length), ∃ b o, a = some ⟨b, o, none⟩ ∧ b < w.heap.size ∧ w.cell? ⟨b, o + k, none⟩ = some (.int .i64 (l[k]'hk))
theorem IntsC.of {w : World} {a : Option Addr} {n c : Nat} {l : List Int} (h : IntsAt w w.heap.size (.slice a n c) l) : IntsC w a l := ⟨h.2.1, fun k hk => ints_cell h hk⟩
theorem IntsC.one {w : World} {b : Nat} {z : Int} (hb : b < w.heap.size) (h : w.cell? ⟨b, 0, none⟩ = some (.int .i64 z)) : IntsC w (some ⟨b, 0, none⟩) [z] := ⟨by simp, fun k hk => by
  obtain rfl : k = 0 := by simp at hk; omega
  exact ⟨b, 0, rfl, hb, h⟩⟩
set_option maxRecDepth 8000 in
set_option maxHeartbeats 1000000 in
theorem refcolumns_c (cv : Value) (cs : List Col) (key : Int) (la : Option Addr) (lc : Nat) (l : List Int) (w : World) (hc : ColsAt w w.heap.size cv cs) (hl : IntsC w la l) :
    Calls Tryz.prog 55 #[.agg #[cv, .int .i64 key], .slice la l.length lc] w fun e w' => e = .returned (.bool (!outC cs l)) ∧ Below w.heap.size w w' := by
  obtain ⟨ca, cc, rfl⟩ := cols_end hc
  obtain ⟨n, hn⟩ : ∃ n, cs.length = n := ⟨_, rfl⟩
  obtain ⟨m, hm⟩ : ∃ m, l.length = m := ⟨_, rfl⟩
  have m63 := hl.1
  rw [hm] at m63 ⊢
  rw [hn] at hc ⊢
  have HN := Lib.hid hn
  have HM := Lib.hid hm
  have HL := Lib.hid hl
  obtain ⟨R, hR⟩ : ∃ R, outC cs l = R := ⟨_, rfl⟩
  rw [hR]
  have HR := Lib.hid hR
  clear hc hl hn hm hR
  go_enter Tryz.func55, Tryz.ntmps55
  go_upto_region 1 with fail
  refine captureM ?_
  intro w0 ew
  have s0 : w0.cell? ⟨w.heap.size, 0, none⟩ = some (.slice ca n cc) := by rw [ew]; simp (maxDischargeDepth := 9) [go_sem, *]
  have zs0 : w.heap.size < w0.heap.size := by rw [ew]; simp
  have b0 : Below w.heap.size w w0 := by rw [ew]; with_reducible repeat (first | exact Below.refl _ _ | assumption | refine Below.al ?_ _ | refine Below.on ?_ _ | refine Below.st ?_ (by first | assumption | (simp; done) | (simp; omega)) _ | refine Below.drew ?_)
  clear ew
  go_wp2_with fail
  go_loopg [9] m (fun g st wr => ∃ k : Nat, k + g = m ∧ st = .int .i64 (k : Int) ∧ outC cs (l.drop k) = R ∧ w0 = wr)
  case atStart => exact ⟨0, by omega, rfl, by simpa using HR.out, rfl⟩
  case round =>
    obtain ⟨k, hk, rfl, hF, rfl⟩ := hrel
    clear HR
    by_cases hg0 : gk = 0
    · subst hg0
      obtain rfl : k = m := by omega
      obtain rfl : false = R := by rw [← hF, List.drop_of_length_le (by rw [HM.out]; exact Nat.le_refl _)]; rfl
      have tk : ¬ (k : Int) < (k : Int) := by omega
      clear hF hk
      go_wp2
      exact bodyPost_ret (v := .bool true) (by simp [results, Tryz.results55, go_sem, *]) rfl (⟨rfl, by with_reducible repeat (first | exact Below.refl _ _ | assumption | refine Below.al ?_ _ | refine Below.on ?_ _ | refine Below.st ?_ (by first | assumption | (simp; done) | (simp; omega)) _ | refine Below.drew ?_)⟩)
    · have hkm : k < m := by omega
      have hkm' : (k : Int) < (m : Int) := by omega
      have hkl : k < l.length := by rw [HM.out]; exact hkm
      obtain ⟨mb, mo, rfl, hmb, c0⟩ := HL.out.2 k hkl
      have c1 := (b0.cell (p := ⟨mb, mo + k, none⟩) hmb).trans c0
      have zmb : mb < w0.heap.size := Nat.lt_of_lt_of_le hmb b0.size
      have ST := outC_step (cs := cs) hkl
      obtain ⟨z, hz⟩ : ∃ z, l[k]'hkl = z := ⟨_, rfl⟩
      rw [hz] at c1 ST
      rw [hF, HN.out] at ST
      have HK := Lib.hid (And.intro hk hg0)
      clear hk hg0 hF hz c0
      by_cases q1 : z < 0
      · obtain rfl : R = true := by rw [ST]; simp [q1]
        clear ST
        go_wp2
        exact bodyPost_ret (v := .bool false) (by simp [results, Tryz.results55, go_sem, *]) rfl (⟨rfl, by with_reducible repeat (first | exact Below.refl _ _ | assumption | refine Below.al ?_ _ | refine Below.on ?_ _ | refine Below.st ?_ (by first | assumption | (simp; done) | (simp; omega)) _ | refine Below.drew ?_)⟩)
      by_cases q2 : (n : Int) ≤ z
      · obtain rfl : R = true := by rw [ST]; simp [q1, q2]
        clear ST
        go_wp2
        exact bodyPost_ret (v := .bool false) (by simp [results, Tryz.results55, go_sem, *]) rfl (⟨rfl, by with_reducible repeat (first | exact Below.refl _ _ | assumption | refine Below.al ?_ _ | refine Below.on ?_ _ | refine Below.st ?_ (by first | assumption | (simp; done) | (simp; omega)) _ | refine Below.drew ?_)⟩)
      · have ST2 := Lib.hid (show outC cs (l.drop (k + 1)) = R by rw [ST, decide_eq_false q1, decide_eq_false q2]; rfl)
        have q3 : z < (n : Int) := by omega
        have q4 : 0 ≤ z := by omega
        clear ST
        go_wp2
        go_roundg (gk - 1)
        case measure => have := HK.out; omega
        case rel => exact ⟨k + 1, by have := HK.out; omega, by go_num, ST2.out, rfl⟩
set_option maxRecDepth 8000 in
set_option maxHeartbeats 1000000 in
theorem take_any (rv : Value) (row : List Val) (sv : Value) (sel : List Int) (w : World) (hc : ValsAt w w.heap.size rv row) (hs : IntsAt w w.heap.size sv sel) (hin : InC row.length sel) (h4 : sel.length ≤ 1048576) :
    Calls Tryz.prog 67 #[rv, sv] w (RowPost 41 3 w sel.length ((projF row sel).flatMap valC)) := by
  obtain ⟨i0, hi, hz0, hz1, hz2⟩ := info_parts infoVal
  obtain ⟨ca, cc, rfl⟩ := vals_end hc
  obtain ⟨sa, sc, rfl⟩ := ints_end hs
  obtain ⟨n, hn⟩ : ∃ n, sel.length = n := ⟨_, rfl⟩
  obtain ⟨L, hL⟩ : ∃ L, row.length = L := ⟨_, rfl⟩
  have HC := Lib.hid hc
  have HS := Lib.hid hs
  have HN := Lib.hid hn
  have HLL := Lib.hid hL
  rw [hL] at hin HC ⊢
  have HI := Lib.hid hin
  rw [hn] at h4 HS ⊢
  clear hc hs hn hL hin
  go_enter Tryz.func67, Tryz.ntmps67
  go_wp2_with fail
  go_loopg [5, 10] n (fun g v st wr => ∃ k : Nat, k + g = n ∧ st = .int .i64 (k : Int) ∧ ∃ x : Ext w, x.it = wr ∧ wr.ownsRow w.heap.size 41 3 v k ((projF row (sel.take k)).flatMap valC))
  case atStart => exact ⟨0, by omega, rfl, ⟨w, Below.refl _ _⟩, rfl, World.ownsRow_nil _ _ _ _⟩
  case round =>
    obtain ⟨k, hk, rfl, x, rfl, hown⟩ := hrel
    have hx := x.below
    by_cases hg0 : gk = 0
    · subst hg0
      obtain rfl : k = n := by omega
      have TK : sel.take k = sel := List.take_of_length_le (by rw [HN.out]; exact Nat.le_refl _)
      rw [TK] at hown
      have OW := Lib.hid hown
      clear hk hown TK
      go_wp2
      refine bodyPost_ret (v := u5) ?_ rfl ⟨u5, rfl, OW.out, hx⟩
      simp (maxDischargeDepth := 9) [results, Tryz.results67, go_sem, *]
    · have hkm : k < n := by omega
      have hkm' : (k : Int) < (n : Int) := by omega
      have hkx : k < sel.length := by rw [HN.out]; exact hkm
      obtain ⟨I, hiv, hIL⟩ := HI.out.at hkx
      obtain ⟨b1, o1, rfl, hb1, c1⟩ := ints_cell HS.out hkx
      rw [hiv] at c1
      have f1 := (hx.cell (p := ⟨b1, o1 + k, none⟩) hb1).trans c1
      have z1 : b1 < x.it.heap.size := Nat.lt_of_lt_of_le hb1 hx.size
      have TS := projF_succ (row := row) hkx
      rw [hiv, Int.toNat_natCast] at TS
      have hIL' : (I : Int) < (L : Int) := by omega
      have hIc : I < row.length := by rw [HLL.out]; exact hIL
      obtain ⟨vb, vo, rfl, _, hvb, d0, d1, d2⟩ := vals_in HC.out hIc
      have GV : row.getD I Val.zero = row[I]'hIc := getDv_in hIc
      obtain ⟨u, hu⟩ : ∃ u, row[I]'hIc = u := ⟨_, rfl⟩
      rw [hu] at d0 d1 d2 GV
      rw [GV] at TS
      obtain ⟨vs, hvs⟩ : ∃ vs, projF row (sel.take k) = vs := ⟨_, rfl⟩
      rw [hvs] at hown TS
      have SO := Lib.hid TS
      have OW := Lib.hid hown
      have HK := Lib.hid (And.intro hk hg0)
      have HXS := hx.size
      obtain ⟨un, ui, us⟩ := u
      dsimp only at d0 d1 d2
      have g1 := (hx.cell (p := ⟨vb, vo + I * 3, none⟩) hvb).trans d0
      have g2 := (hx.cell (p := ⟨vb, vo + I * 3 + 1, none⟩) hvb).trans d1
      have g3 := (hx.cell (p := ⟨vb, vo + I * 3 + 2, none⟩) hvb).trans d2
      have zv : vb < x.it.heap.size := Nat.lt_of_lt_of_le hvb hx.size
      have XB := Lib.hid hx
      clear d0 d1 d2 hu GV TS hk hg0 c1 hiv hown hvs
      go_wp2_with (at_builtin; go_must (refine wpList_append_lies _ rfl _ _ 42 rfl w.heap.size 41 i0 _ 3 32 Tryz.underlying42 hi hz0 hz1 hz2 rfl (by decide) u5 k (vs.flatMap valC) rfl (OW.out.alloc _) ⟨x.it.heap.size, 0, none⟩ 1 1 (valC ⟨un, ui, us⟩) rfl rfl (World.news_of_block (heap_alloc_new x.it _)) (by simp [valC, Value.oneCell']) (by omega) (by unfold maxLen; omega) (by omega) (by simp; omega) (x.it.heap.size + 1) (by simp) ?_); intro gb cap w4 hown hgrow hat hlt4; go_must (have MS := Lib.hid (And.intro hown (show Below w.heap.size w w4 from Below.gr (Below.al XB.out _) OW.out hgrow))); clear hown hgrow hat hlt4)
      go_roundg (gk - 1)
      case measure => have := HK.out; omega
      case rel => exact ⟨k + 1, by have := HK.out; omega, by go_num, ⟨_, MS.out.2⟩, rfl, by rw [SO.out, List.flatMap_append]; exact MS.out.1⟩
set_option maxRecDepth 8000 in
set_option maxHeartbeats 1000000 in
theorem refcmpg_any (cv : Value) (cs : List Col) (key : Int) (gv : Value) (gr : List Int) (xv : Value) (x : List Val) (yv : Value) (y : List Val) (w : World)
    (hc : ColsAt w w.heap.size cv cs) (hg : IntsAt w w.heap.size gv gr) (hx : ValsAt w w.heap.size xv (projF x gr)) (hy : ValsAt w w.heap.size yv (projF y gr)) (hin : InC cs.length gr) (lx : x.length = cs.length) (ly : y.length = cs.length) :
    Calls Tryz.prog 103 #[.agg #[cv, .int .i64 key], gv, xv, yv] w fun e w' => e = .returned (.int .i64 (grpC cs x y gr)) ∧ Below w.heap.size w w' := by
  obtain ⟨ca, cc, rfl⟩ := cols_end hc
  obtain ⟨ga, gc, rfl⟩ := ints_end hg
  obtain ⟨xa, xc, rfl⟩ := vals_end hx
  obtain ⟨ya, yc, rfl⟩ := vals_end hy
  rw [projL x gr] at hx ⊢
  rw [projL y gr] at hy ⊢
  obtain ⟨m, hm⟩ : ∃ m, gr.length = m := ⟨_, rfl⟩
  have m63 := hg.2.1
  have HI := Lib.hid hin
  obtain ⟨n, hn⟩ : ∃ n, cs.length = n := ⟨_, rfl⟩
  rw [hm] at m63 hg hx hy ⊢
  rw [hn] at hc lx ly ⊢
  have PX : (projF x gr).length = m := by rw [projL, hm]
  have PY : (projF y gr).length = m := by rw [projL, hm]
  have HPX := Lib.hid PX
  have HPY := Lib.hid PY
  have HN := Lib.hid hn
  have HM := Lib.hid hm
  have HC := Lib.hid hc
  have HG := Lib.hid hg
  have HX := Lib.hid hx
  have HY := Lib.hid hy
  have LX := Lib.hid lx
  have LY := Lib.hid ly
  obtain ⟨R, hR⟩ : ∃ R, grpC cs x y gr = R := ⟨_, rfl⟩
  rw [hR]
  have HR := Lib.hid hR
  clear hc hg hx hy hm hn lx ly hin hR PX PY
  go_enter Tryz.func103, Tryz.ntmps103
  go_upto_region 1 with fail
  refine captureM ?_
  intro w0 ew
  have s0 : w0.cell? ⟨w.heap.size, 0, none⟩ = some (.slice ca n cc) := by rw [ew]; simp (maxDischargeDepth := 9) [go_sem, *]
  have zs0 : w.heap.size < w0.heap.size := by rw [ew]; simp
  have b0 : Below w.heap.size w w0 := by rw [ew]; with_reducible repeat (first | exact Below.refl _ _ | assumption | refine Below.al ?_ _ | refine Below.on ?_ _ | refine Below.st ?_ (by first | assumption | (simp; done) | (simp; omega)) _ | refine Below.drew ?_)
  clear ew
  go_wp2_with fail
  go_loopg [14] m (fun g st wr => ∃ k : Nat, k + g = m ∧ st = .int .i64 (k : Int) ∧ grpC cs x y (gr.drop k) = R ∧ ∃ x : Ext w0, x.it = wr)
  case atStart => exact ⟨0, by omega, rfl, by simpa using HR.out, ext_of (Below.refl _ _)⟩
  case round =>
    obtain ⟨k, hk, rfl, hF, xe, rfl⟩ := hrel
    clear HR
    have hxe : Below w.heap.size w xe.it := Below.to b0 xe.below
    have q0 := (xe.cell w.heap.size 0 zs0).trans s0
    have zw := xe.lt zs0
    by_cases hg0 : gk = 0
    · subst hg0
      obtain rfl : k = m := by omega
      obtain rfl : 0 = R := by rw [← hF, List.drop_of_length_le (by rw [HM.out]; exact Nat.le_refl _)]; rfl
      have tk : ¬ (k : Int) < (k : Int) := by omega
      clear hF hk
      go_wp2
      exact bodyPost_ret (v := .int .i64 0) (by simp [results, Tryz.results103, go_sem, *]) rfl (⟨rfl, by with_reducible repeat (first | exact Below.refl _ _ | assumption | refine Below.al ?_ _ | refine Below.on ?_ _ | refine Below.st ?_ (by first | assumption | (simp; done) | (simp; omega)) _ | refine Below.drew ?_)⟩)
    · have hkm : k < m := by omega
      have hkm' : (k : Int) < (m : Int) := by omega
      have hkx : k < gr.length := by rw [HM.out]; exact hkm
      obtain ⟨I, hiv, hIL⟩ := HI.out.at hkx
      rw [HN.out] at hIL
      obtain ⟨b1, o1, rfl, hb1, c1⟩ := ints_cell HG.out hkx
      rw [hiv] at c1
      have f1 := (hxe.cell (p := ⟨b1, o1 + k, none⟩) hb1).trans c1
      have z1 : b1 < xe.it.heap.size := Nat.lt_of_lt_of_le hb1 hxe.size
      have OKL := grpC_ok (cs := cs) (x := x) (y := y) hkx hiv
      have BDL := grpC_bad (cs := cs) (x := x) (y := y) hkx hiv
      rw [hF] at OKL BDL
      have hIL' : (I : Int) < (n : Int) := by omega
      have hIs : I < cs.length := by rw [HN.out]; exact hIL
      have hIx : I < x.length := by rw [LX.out]; exact hIL
      have hIy : I < y.length := by rw [LY.out]; exact hIL
      have hkX : k < (projF x gr).length := by rw [HPX.out]; exact hkm
      have hkY : k < (projF y gr).length := by rw [HPY.out]; exact hkm
      obtain ⟨cb, co, rfl, _, hcb, e0, e1, e2, e3⟩ := cols_in HC.out hIs
      obtain ⟨xb, xo, rfl, _, hxb, d0, d1, d2⟩ := vals_in HX.out hkX
      obtain ⟨yb, yo, rfl, _, hyb, k0, k1, k2⟩ := vals_in HY.out hkY
      rw [colTy_at hIs, getDv_in hIx, getDv_in hIy] at OKL BDL
      obtain ⟨cd, hcd⟩ : ∃ u, cs[I]'hIs = u := ⟨_, rfl⟩
      obtain ⟨u, hu⟩ : ∃ u, x[I]'hIx = u := ⟨_, rfl⟩
      obtain ⟨v, hv⟩ : ∃ u, y[I]'hIy = u := ⟨_, rfl⟩
      rw [hcd] at e0 e1 e2 e3 OKL BDL
      rw [projAt hkx hiv hIx hkX, hu] at d0 d1 d2
      rw [hu] at OKL BDL
      rw [projAt hkx hiv hIy hkY, hv] at k0 k1 k2
      rw [hv] at OKL BDL
      obtain ⟨cn, ty, sc, nul⟩ := cd
      obtain ⟨un, ui, us⟩ := u
      obtain ⟨vn, vi, vs⟩ := v
      dsimp only at e0 e1 e2 e3 d0 d1 d2 k0 k1 k2 OKL BDL
      have p1 := (hxe.cell (p := ⟨cb, co + I * 4 + 1, none⟩) hcb).trans e1
      have g1 := (hxe.cell (p := ⟨xb, xo + k * 3, none⟩) hxb).trans d0
      have g2 := (hxe.cell (p := ⟨xb, xo + k * 3 + 1, none⟩) hxb).trans d1
      have g3 := (hxe.cell (p := ⟨xb, xo + k * 3 + 2, none⟩) hxb).trans d2
      have j1 := (hxe.cell (p := ⟨yb, yo + k * 3, none⟩) hyb).trans k0
      have j2 := (hxe.cell (p := ⟨yb, yo + k * 3 + 1, none⟩) hyb).trans k1
      have j3 := (hxe.cell (p := ⟨yb, yo + k * 3 + 2, none⟩) hyb).trans k2
      have zc : cb < xe.it.heap.size := Nat.lt_of_lt_of_le hcb hxe.size
      have zx : xb < xe.it.heap.size := Nat.lt_of_lt_of_le hxb hxe.size
      have zy : yb < xe.it.heap.size := Nat.lt_of_lt_of_le hyb hxe.size
      obtain ⟨ve, hve⟩ : ∃ ve, cmpV ty ⟨un, ui, us⟩ ⟨vn, vi, vs⟩ = ve := ⟨_, rfl⟩
      rw [hve] at OKL BDL
      have RV := Lib.hid (fun W => (by have h := refCompare_any ty un ui us vn vi vs W; rw [hve] at h; exact h : Calls Tryz.prog 122 #[.int .i64 ty, .agg #[.bool un, .int .i64 ui, .string us], .agg #[.bool vn, .int .i64 vi, .string vs]] W fun e w' => e = .returned (.int .i64 ve) ∧ Below W.heap.size W w'))
      have HK := Lib.hid (And.intro hk hg0)
      clear e0 e1 e2 e3 d0 d1 d2 k0 k1 k2 hcd hu hv hk hg0 hF hve c1 hiv
      go_upto_region 4 with fail
      refine wp_region_ext (by kernel_rfl) (by kernel_rfl) ?_
      repeat (go_big_quiet_step (((go_at_call 122; exact Calls.ext (RV.out _)))))
      refine wpQuiet_nil ?_
      rintro _ ⟨x5, rfl⟩
      by_cases v0 : ve = 0
      · have v0' : (ve != 0) = false := by simpa using v0
        have OK := Lib.hid (OKL v0)
        clear OKL BDL
        go_wp2
        go_roundg (gk - 1)
        case measure => have := HK.out; omega
        case rel => exact ⟨k + 1, by have := HK.out; omega, by go_num, OK.out.symm, ext_of (Below.on xe.below x5)⟩
      · have v0' : (ve != 0) = true := by simpa using v0
        obtain rfl : ve = R := (BDL v0).symm
        clear OKL BDL
        go_wp2
        exact bodyPost_ret (v := .int .i64 ve) (by simp [results, Tryz.results103, go_sem, *]) rfl (⟨rfl, by with_reducible repeat (first | exact Below.refl _ _ | assumption | refine Below.al ?_ _ | refine Below.on ?_ _ | refine Below.st ?_ (by first | assumption | (simp; done) | (simp; omega)) _ | refine Below.drew ?_)⟩)
end Go.Proofs.YtpahoenanfjhpaaGreat
