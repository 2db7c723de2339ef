/-
  aggregate.project; a State in memory and its compare. Conditions: the row and the columns lie in memory; the columns are those of the row.
-/
import Derived.Test.YtpahoenanfjhpaaGreatZh
import Derived.Test.YtpahoenanfjhpaaGreatZj
import Derived.Test.YtpahoenanfjhpaaGreatColz
import Derived.Test.YtpahoenanfjhpaaGreatZn
import Derived.Test.YtpahoenanfjhpaaGreatZi
import Derived.Deep.AppendLies
set_option linter.unusedVariables false
set_option linter.unusedSimpArgs false
namespace Go.Proofs.YtpahoenanfjhpaaGreat
open Go.RowKit Srt
def projF (row : List Val) (l : List Int) : List Val := l.map fun i => row.getD i.toNat Val.zero
theorem projF_succ {row : List Val} {l : List Int} {k : Nat} (h : k < l.length) : projF row (l.take (k + 1)) = projF row (l.take k) ++ [row.getD (l[k]'h).toNat Val.zero] := by
  unfold projF; rw [List.take_succ_eq_append_getElem h, List.map_append]; rfl
/-- The columns are those of rows of n values. -/
def InC (n : Nat) (l : List Int) : Prop := ∀ i ∈ l, 0 ≤ i ∧ i < (n : Int)
theorem InC.at {n : Nat} {l : List Int} (h : InC n l) {k : Nat} (hk : k < l.length) : ∃ I : Nat, l[k]'hk = (I : Int) ∧ I < n := by
  have := h _ (List.getElem_mem hk)
  exact ⟨(l[k]'hk).toNat, by omega, by omega⟩
set_option maxRecDepth 8000 in
set_option maxHeartbeats 1000000 in
theorem project_any (rv : Value) (row : List Val) (sv : Value) (sel : List Int) (w : World) (hc : ValsAt w w.heap.size rv row) (hs : IntsAt w w.heap.size sv sel) (hin : InC row.length sel) (h4 : sel.length ≤ 1048576) :
    Calls Tryz.prog 39 #[rv, sv] w (RowPost 41 3 w sel.length ((projF row sel).flatMap valC)) := by
  obtain ⟨i0, hi, hz0, hz1, hz2⟩ := info_parts infoVal
  obtain ⟨ca, cc, rfl⟩ := vals_end hc
  obtain ⟨sa, sc, rfl⟩ := ints_end hs
  obtain ⟨n, hn⟩ : ∃ n, sel.length = n := ⟨_, rfl⟩
  obtain ⟨L, hL⟩ : ∃ L, row.length = L := ⟨_, rfl⟩
  have HC := Lib.hid hc
  have HS := Lib.hid hs
  have HN := Lib.hid hn
  have HLL := Lib.hid hL
  rw [hL] at hin HC ⊢
  have HI := Lib.hid hin
  rw [hn] at h4 HS ⊢
  clear hc hs hn hL hin
  go_enter Tryz.func39, Tryz.ntmps39
  go_wp2_with fail
  go_loopg [5, 10] n (fun g v st wr => ∃ k : Nat, k + g = n ∧ st = .int .i64 (k : Int) ∧ ∃ x : Ext w, x.it = wr ∧ wr.ownsRow w.heap.size 41 3 v k ((projF row (sel.take k)).flatMap valC))
  case atStart => exact ⟨0, by omega, rfl, ⟨w, Below.refl _ _⟩, rfl, World.ownsRow_nil _ _ _ _⟩
  case round =>
    obtain ⟨k, hk, rfl, x, rfl, hown⟩ := hrel
    have hx := x.below
    by_cases hg0 : gk = 0
    · subst hg0
      obtain rfl : k = n := by omega
      have TK : sel.take k = sel := List.take_of_length_le (by rw [HN.out]; exact Nat.le_refl _)
      rw [TK] at hown
      have OW := Lib.hid hown
      clear hk hown TK
      go_wp2
      refine bodyPost_ret (v := u5) ?_ rfl ⟨u5, rfl, OW.out, hx⟩
      simp (maxDischargeDepth := 9) [results, Tryz.results39, go_sem, *]
    · have hkm : k < n := by omega
      have hkm' : (k : Int) < (n : Int) := by omega
      have hkx : k < sel.length := by rw [HN.out]; exact hkm
      obtain ⟨I, hiv, hIL⟩ := HI.out.at hkx
      obtain ⟨b1, o1, rfl, hb1, c1⟩ := ints_cell HS.out hkx
      rw [hiv] at c1
      have f1 := (hx.cell (p := ⟨b1, o1 + k, none⟩) hb1).trans c1
      have z1 : b1 < x.it.heap.size := Nat.lt_of_lt_of_le hb1 hx.size
      have TS := projF_succ (row := row) hkx
      rw [hiv, Int.toNat_natCast] at TS
      have hIL' : (I : Int) < (L : Int) := by omega
      have hIc : I < row.length := by rw [HLL.out]; exact hIL
      obtain ⟨vb, vo, rfl, _, hvb, d0, d1, d2⟩ := vals_in HC.out hIc
      have GV : row.getD I Val.zero = row[I]'hIc := getDv_in hIc
      obtain ⟨u, hu⟩ : ∃ u, row[I]'hIc = u := ⟨_, rfl⟩
      rw [hu] at d0 d1 d2 GV
      rw [GV] at TS
      obtain ⟨vs, hvs⟩ : ∃ vs, projF row (sel.take k) = vs := ⟨_, rfl⟩
      rw [hvs] at hown TS
      have SO := Lib.hid TS
      have OW := Lib.hid hown
      have HK := Lib.hid (And.intro hk hg0)
      have HXS := hx.size
      obtain ⟨un, ui, us⟩ := u
      dsimp only at d0 d1 d2
      have g1 := (hx.cell (p := ⟨vb, vo + I * 3, none⟩) hvb).trans d0
      have g2 := (hx.cell (p := ⟨vb, vo + I * 3 + 1, none⟩) hvb).trans d1
      have g3 := (hx.cell (p := ⟨vb, vo + I * 3 + 2, none⟩) hvb).trans d2
      have zv : vb < x.it.heap.size := Nat.lt_of_lt_of_le hvb hx.size
      have XB := Lib.hid hx
      clear d0 d1 d2 hu GV TS hk hg0 c1 hiv hown hvs
      go_wp2_with (at_builtin; go_must (refine wpList_append_lies _ rfl _ _ 42 rfl w.heap.size 41 i0 _ 3 32 Tryz.underlying42 hi hz0 hz1 hz2 rfl (by decide) u5 k (vs.flatMap valC) rfl (OW.out.alloc _) ⟨x.it.heap.size, 0, none⟩ 1 1 (valC ⟨un, ui, us⟩) rfl rfl (World.news_of_block (heap_alloc_new x.it _)) (by simp [valC, Value.oneCell']) (by omega) (by unfold maxLen; omega) (by omega) (by simp; omega) (x.it.heap.size + 1) (by simp) ?_); intro gb cap w4 hown hgrow hat hlt4; go_must (have MS := Lib.hid (And.intro hown (show Below w.heap.size w w4 from Below.gr (Below.al XB.out _) OW.out hgrow))); clear hown hgrow hat hlt4)
      go_roundg (gk - 1)
      case measure => have := HK.out; omega
      case rel => exact ⟨k + 1, by have := HK.out; omega, by go_num, ⟨_, MS.out.2⟩, rfl, by rw [SO.out, List.flatMap_append]; exact MS.out.1⟩
/-- A State at block SB. -/
structure StM (w : World) (SB : Nat) (cv : Value) (key : Int) (nv pv gv av rv : Value) : Prop where
  lt : SB < w.heap.size
  c0 : w.cell? ⟨SB, 0, none⟩ = some cv
  c1 : w.cell? ⟨SB, 1, none⟩ = some (.int .i64 key)
  c2 : w.cell? ⟨SB, 2, none⟩ = some nv
  c3 : w.cell? ⟨SB, 3, none⟩ = some pv
  c4 : w.cell? ⟨SB, 4, none⟩ = some gv
  c5 : w.cell? ⟨SB, 5, none⟩ = some av
  c6 : w.cell? ⟨SB, 6, none⟩ = some rv
  fr : ∀ q, w.frozen? ⟨SB, q, none⟩ = false
/-- Two rows by the columns of the groups. -/
def grpC (cs : List Col) (x y : List Val) : List Int → Int
  | [] => 0
  | i :: l => if cmpV (colTy cs i) (x.getD i.toNat Val.zero) (y.getD i.toNat Val.zero) = 0 then grpC cs x y l else cmpV (colTy cs i) (x.getD i.toNat Val.zero) (y.getD i.toNat Val.zero)
theorem grpC_neg (cs : List Col) (x y : List Val) : ∀ l, grpC cs y x l = - grpC cs x y l
  | [] => rfl
  | i :: l => by
    unfold grpC
    have := cmpV_neg (colTy cs i) (x.getD i.toNat Val.zero) (y.getD i.toNat Val.zero)
    rw [this]
    by_cases h : cmpV (colTy cs i) (x.getD i.toNat Val.zero) (y.getD i.toNat Val.zero) = 0
    · rw [if_pos (by omega), if_pos h, grpC_neg cs x y l]
    · rw [if_neg (by omega), if_neg h]
theorem grpC_trans (cs : List Col) (x y z : List Val) : ∀ l, grpC cs x y l ≤ 0 → grpC cs y z l ≤ 0 → grpC cs x z l ≤ 0
  | [], _, _ => by simp [grpC]
  | i :: l, h1, h2 => by
    unfold grpC at *
    generalize x.getD i.toNat Val.zero = a at *
    generalize y.getD i.toNat Val.zero = b at *
    generalize z.getD i.toNat Val.zero = c at *
    have n1 := cmpV_neg (colTy cs i) a b
    have n2 := cmpV_neg (colTy cs i) b c
    have n3 := cmpV_neg (colTy cs i) a c
    have t1 := @cmpV_trans (colTy cs i) a b c
    have t2 := @cmpV_trans (colTy cs i) b c a
    have t3 := @cmpV_trans (colTy cs i) c a b
    have t4 := @cmpV_trans (colTy cs i) c b a
    by_cases ha : cmpV (colTy cs i) a b = 0
    · rw [if_pos ha] at h1
      by_cases hb : cmpV (colTy cs i) b c = 0
      · rw [if_pos hb] at h2
        rw [if_pos (by omega)]; exact grpC_trans cs x y z l h1 h2
      · rw [if_neg hb] at h2
        rw [if_neg (by omega)]; omega
    · rw [if_neg ha] at h1
      by_cases hb : cmpV (colTy cs i) b c = 0
      · rw [if_pos hb] at h2
        rw [if_neg (by omega)]; omega
      · rw [if_neg hb] at h2
        rw [if_neg (by omega)]; omega
theorem grpC_pre (cs : List Col) (l : List Int) : Pre (fun x y => grpC cs x y l) := ⟨fun x y => by have := grpC_neg cs x y l; show grpC cs x y l < 0 ↔ 0 < grpC cs y x l; omega, fun x y z => grpC_trans cs x y z l⟩
theorem grpC_ok {cs : List Col} {x y : List Val} {l : List Int} {k : Nat} (h : k < l.length) {I : Nat} (e : l[k]'h = (I : Int)) (h0 : cmpV (colTy cs (I : Int)) (x.getD I Val.zero) (y.getD I Val.zero) = 0) : grpC cs x y (l.drop k) = grpC cs x y (l.drop (k + 1)) := by
  rw [List.drop_eq_getElem_cons h, e]
  show (if cmpV (colTy cs (I : Int)) (x.getD I Val.zero) (y.getD I Val.zero) = 0 then _ else _) = _
  rw [if_pos h0]
theorem grpC_bad {cs : List Col} {x y : List Val} {l : List Int} {k : Nat} (h : k < l.length) {I : Nat} (e : l[k]'h = (I : Int)) (h0 : ¬ cmpV (colTy cs (I : Int)) (x.getD I Val.zero) (y.getD I Val.zero) = 0) : grpC cs x y (l.drop k) = cmpV (colTy cs (I : Int)) (x.getD I Val.zero) (y.getD I Val.zero) := by
  rw [List.drop_eq_getElem_cons h, e]
  show (if cmpV (colTy cs (I : Int)) (x.getD I Val.zero) (y.getD I Val.zero) = 0 then _ else _) = _
  rw [if_neg h0, Int.toNat_natCast]
set_option maxRecDepth 8000 in
set_option maxHeartbeats 1000000 in
theorem acmp_any (SB : Nat) (cv : Value) (cs : List Col) (gv : Value) (gr : List Int) (xv : Value) (x : List Val) (yv : Value) (y : List Val) (w : World) (hS : SB < w.heap.size) (s0 : w.cell? ⟨SB, 0, none⟩ = some cv) (s4 : w.cell? ⟨SB, 4, none⟩ = some gv)
    (hc : ColsAt w w.heap.size cv cs) (hg : IntsAt w w.heap.size gv gr) (hx : ValsAt w w.heap.size xv x) (hy : ValsAt w w.heap.size yv y) (hin : InC cs.length gr) (lx : x.length = cs.length) (ly : y.length = cs.length) :
    Calls Tryz.prog 42 #[.pointer (some ⟨SB, 0, none⟩), xv, yv] w fun e w' => e = .returned (.int .i64 (grpC cs x y gr)) ∧ Below w.heap.size w w' := by
  obtain ⟨ca, cc, rfl⟩ := cols_end hc
  obtain ⟨ga, gc, rfl⟩ := ints_end hg
  obtain ⟨xa, xc, rfl⟩ := vals_end hx
  obtain ⟨ya, yc, rfl⟩ := vals_end hy
  rw [lx] at hx ⊢
  rw [ly] at hy ⊢
  obtain ⟨m, hm⟩ : ∃ m, gr.length = m := ⟨_, rfl⟩
  have m63 := hg.2.1
  have HI := Lib.hid hin
  obtain ⟨n, hn⟩ : ∃ n, cs.length = n := ⟨_, rfl⟩
  rw [hm] at m63 hg s4
  rw [hn] at hx hy hc s0 lx ly ⊢
  have HN := Lib.hid hn
  have HM := Lib.hid hm
  have HC := Lib.hid hc
  have HG := Lib.hid hg
  have HX := Lib.hid hx
  have HY := Lib.hid hy
  have LX := Lib.hid lx
  have LY := Lib.hid ly
  obtain ⟨R, hR⟩ : ∃ R, grpC cs x y gr = R := ⟨_, rfl⟩
  rw [hR]
  have HR := Lib.hid hR
  clear hc hg hx hy hm hn lx ly hin hR
  go_enter Tryz.func42, Tryz.ntmps42
  go_wp2_with fail
  go_loopg [16] m (fun g st wr => ∃ k : Nat, k + g = m ∧ st = .int .i64 (k : Int) ∧ grpC cs x y (gr.drop k) = R ∧ ∃ x : Ext w, x.it = wr)
  case atStart => exact ⟨0, by omega, rfl, by simpa using HR.out, ext_of (Below.refl _ _)⟩
  case round =>
    obtain ⟨k, hk, rfl, hF, xe, rfl⟩ := hrel
    clear HR
    have hxe := xe.below
    have q0 := (xe.cell SB 0 hS).trans s0
    have zw := xe.lt hS
    by_cases hg0 : gk = 0
    · subst hg0
      obtain rfl : k = m := by omega
      obtain rfl : 0 = R := by rw [← hF, List.drop_of_length_le (by rw [HM.out]; exact Nat.le_refl _)]; rfl
      have tk : ¬ (k : Int) < (k : Int) := by omega
      clear hF hk
      go_wp2
      exact bodyPost_ret (v := .int .i64 0) (by simp [results, Tryz.results42, go_sem, *]) rfl (⟨rfl, by with_reducible repeat (first | exact Below.refl _ _ | assumption | refine Below.al ?_ _ | refine Below.on ?_ _ | refine Below.st ?_ (by first | assumption | (simp; done) | (simp; omega)) _ | refine Below.drew ?_)⟩)
    · have hkm : k < m := by omega
      have hkm' : (k : Int) < (m : Int) := by omega
      have hkx : k < gr.length := by rw [HM.out]; exact hkm
      obtain ⟨I, hiv, hIL⟩ := HI.out.at hkx
      rw [HN.out] at hIL
      obtain ⟨b1, o1, rfl, hb1, c1⟩ := ints_cell HG.out hkx
      rw [hiv] at c1
      have f1 := (hxe.cell (p := ⟨b1, o1 + k, none⟩) hb1).trans c1
      have z1 : b1 < xe.it.heap.size := Nat.lt_of_lt_of_le hb1 hxe.size
      have OKL := grpC_ok (cs := cs) (x := x) (y := y) hkx hiv
      have BDL := grpC_bad (cs := cs) (x := x) (y := y) hkx hiv
      rw [hF] at OKL BDL
      have hIL' : (I : Int) < (n : Int) := by omega
      have hIs : I < cs.length := by rw [HN.out]; exact hIL
      have hIx : I < x.length := by rw [LX.out]; exact hIL
      have hIy : I < y.length := by rw [LY.out]; exact hIL
      obtain ⟨cb, co, rfl, _, hcb, e0, e1, e2, e3⟩ := cols_in HC.out hIs
      obtain ⟨xb, xo, rfl, _, hxb, d0, d1, d2⟩ := vals_in HX.out hIx
      obtain ⟨yb, yo, rfl, _, hyb, k0, k1, k2⟩ := vals_in HY.out hIy
      rw [colTy_at hIs, getDv_in hIx, getDv_in hIy] at OKL BDL
      obtain ⟨cd, hcd⟩ : ∃ u, cs[I]'hIs = u := ⟨_, rfl⟩
      obtain ⟨u, hu⟩ : ∃ u, x[I]'hIx = u := ⟨_, rfl⟩
      obtain ⟨v, hv⟩ : ∃ u, y[I]'hIy = u := ⟨_, rfl⟩
      rw [hcd] at e0 e1 e2 e3 OKL BDL
      rw [hu] at d0 d1 d2 OKL BDL
      rw [hv] at k0 k1 k2 OKL BDL
      obtain ⟨cn, ty, sc, nul⟩ := cd
      obtain ⟨un, ui, us⟩ := u
      obtain ⟨vn, vi, vs⟩ := v
      dsimp only at e0 e1 e2 e3 d0 d1 d2 k0 k1 k2 OKL BDL
      have p1 := (hxe.cell (p := ⟨cb, co + I * 4 + 1, none⟩) hcb).trans e1
      have g1 := (hxe.cell (p := ⟨xb, xo + I * 3, none⟩) hxb).trans d0
      have g2 := (hxe.cell (p := ⟨xb, xo + I * 3 + 1, none⟩) hxb).trans d1
      have g3 := (hxe.cell (p := ⟨xb, xo + I * 3 + 2, none⟩) hxb).trans d2
      have j1 := (hxe.cell (p := ⟨yb, yo + I * 3, none⟩) hyb).trans k0
      have j2 := (hxe.cell (p := ⟨yb, yo + I * 3 + 1, none⟩) hyb).trans k1
      have j3 := (hxe.cell (p := ⟨yb, yo + I * 3 + 2, none⟩) hyb).trans k2
      have zc : cb < xe.it.heap.size := Nat.lt_of_lt_of_le hcb hxe.size
      have zx : xb < xe.it.heap.size := Nat.lt_of_lt_of_le hxb hxe.size
      have zy : yb < xe.it.heap.size := Nat.lt_of_lt_of_le hyb hxe.size
      obtain ⟨ve, hve⟩ : ∃ ve, cmpV ty ⟨un, ui, us⟩ ⟨vn, vi, vs⟩ = ve := ⟨_, rfl⟩
      rw [hve] at OKL BDL
      have RV := Lib.hid (fun W => (by have h := compare_any ty un ui us vn vi vs W; rw [hve] at h; exact h : Calls Tryz.prog 62 #[.int .i64 ty, .agg #[.bool un, .int .i64 ui, .string us], .agg #[.bool vn, .int .i64 vi, .string vs]] W fun e w' => e = .returned (.int .i64 ve) ∧ Below W.heap.size W w'))
      have HK := Lib.hid (And.intro hk hg0)
      clear e0 e1 e2 e3 d0 d1 d2 k0 k1 k2 hcd hu hv hk hg0 hF hve c1 hiv
      go_upto_region 4 with fail
      refine wp_region_ext (by kernel_rfl) (by kernel_rfl) ?_
      repeat (go_big_quiet_step (((go_at_call 62; exact Calls.ext (RV.out _)))))
      refine wpQuiet_nil ?_
      rintro _ ⟨x5, rfl⟩
      by_cases v0 : ve = 0
      · have v0' : (ve != 0) = false := by simpa using v0
        have OK := Lib.hid (OKL v0)
        clear OKL BDL
        go_wp2
        go_roundg (gk - 1)
        case measure => have := HK.out; omega
        case rel => exact ⟨k + 1, by have := HK.out; omega, by go_num, OK.out.symm, ext_of (Below.on xe.below x5)⟩
      · have v0' : (ve != 0) = true := by simpa using v0
        obtain rfl : ve = R := (BDL v0).symm
        clear OKL BDL
        go_wp2
        exact bodyPost_ret (v := .int .i64 ve) (by simp [results, Tryz.results42, go_sem, *]) rfl (⟨rfl, by with_reducible repeat (first | exact Below.refl _ _ | assumption | refine Below.al ?_ _ | refine Below.on ?_ _ | refine Below.st ?_ (by first | assumption | (simp; done) | (simp; omega)) _ | refine Below.drew ?_)⟩)
end Go.Proofs.YtpahoenanfjhpaaGreat
