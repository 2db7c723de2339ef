/-
  CHAPTER 24: law24.zones: the zones of rows. Conditions: the schema and the rows lie in memory; each row is long enough.
-/
import Derived.Test.YtfemekmkmiljdaaPzo
import Derived.Test.YtfemekmkmiljdaaKrs
set_option linter.unusedVariables false
set_option linter.unusedSimpArgs false
namespace Go.Proofs.Ytfemekmkmiljdaa
open Go.RowKit
def colK (k : Nat) (rows : List (List Val)) : List Val := rows.map fun r => r.getD k Val.zero
def zonsK (cs : List Col) (rows : List (List Val)) (n : Nat) : List Zon := (List.range n).map fun (k : Nat) => zoneF (colTy cs (Int.ofNat k)) (colK k rows)
def zonsOf (cs : List Col) (rows : List (List Val)) : List Zon := zonsK cs rows cs.length
def zonC (z : Zon) : List Value := [.int .i64 z.rows, .int .i64 z.nulls, .bool z.min.null, .int .i64 z.min.n, .string z.min.s, .bool z.max.null, .int .i64 z.max.n, .string z.max.s]
theorem zonsK_succ (cs : List Col) (rows : List (List Val)) (n : Nat) : zonsK cs rows (n + 1) = zonsK cs rows n ++ [zoneF (colTy cs (n : Int)) (colK n rows)] := by
  unfold zonsK; rw [List.range_succ, List.map_append]; rfl
theorem zonsK_len (cs : List Col) (rows : List (List Val)) (n : Nat) : (zonsK cs rows n).length = n := by unfold zonsK; simp
theorem colK_take {k j : Nat} {rows : List (List Val)} (h : j < rows.length) : colK k (rows.take (j + 1)) = colK k (rows.take j) ++ [(rows[j]'h).getD k Val.zero] := by
  unfold colK; rw [List.take_succ_eq_append_getElem h, List.map_append]; rfl
theorem getDv {l : List Val} {d : Val} {k : Nat} (h : k < l.length) : l.getD k d = l[k]'h := by
  rw [List.getD_eq_getElem?_getD, List.getElem?_eq_getElem h]; rfl
theorem infoZon : (Try.prog.info? 46).map (fun i => (i.zero, i.size, i.bytes)) = some (some (.agg #[.int .i64 0, .int .i64 0, .bool false, .int .i64 0, .string ⟨#[]⟩, .bool false, .int .i64 0, .string ⟨#[]⟩]), 8, 80) := by kernel_rfl
theorem own_zons {w : World} {base : Nat} {e : TypeId} {v : Value} {zs : List Zon} (hl : zs.length ≤ 9223372036854775807) (h : w.ownsRow base e 8 v zs.length (zs.flatMap zonC)) : ZonsAt w w.heap.size v zs := by
  rcases own_at (f := zonC) (fun _ => rfl) h with ⟨rfl, rfl⟩ | ⟨g, c, rfl, hc, _, hg, H⟩
  · exact ⟨hl, .inl ⟨rfl, none, 0, rfl⟩⟩
  · exact ⟨hl, .inr ⟨g, 0, c, rfl, hc, hg, fun j hj => by
      simp only [Nat.zero_add]
      exact ⟨H j hj 0 _ (by omega) rfl, H j hj 1 _ (by omega) rfl, H j hj 2 _ (by omega) rfl, H j hj 3 _ (by omega) rfl, H j hj 4 _ (by omega) rfl, H j hj 5 _ (by omega) rfl, H j hj 6 _ (by omega) rfl, H j hj 7 _ (by omega) rfl⟩⟩⟩
set_option maxRecDepth 8000 in
set_option maxHeartbeats 2000000 in
theorem zones_any (cv : Value) (cs : List Col) (key : Int) (rv : Value) (rows : List (List Val)) (w : World) (hc : ColsAt w w.heap.size cv cs) (hr : RowsAt w w.heap.size rv rows) (h12 : cs.length ≤ 12) (hr9 : rows.length ≤ 4096) (hrl : ∀ r ∈ rows, r.length = cs.length) :
    Calls Try.prog 17 #[.agg #[cv, .int .i64 key], rv] w fun e w' => ∃ v, e = .returned v ∧ w'.ownsRow w.heap.size 46 8 v cs.length ((zonsOf cs rows).flatMap zonC) ∧ Below w.heap.size w w' := by
  obtain ⟨i0, hi, hz0, hz1, hz2⟩ := info_parts infoVal
  obtain ⟨i1, hj, hy0, hy1, hy2⟩ := info_parts infoZon
  obtain ⟨ca, cc, rfl⟩ := cols_end hc
  obtain ⟨ra, rc, rfl⟩ := rows_end hr
  obtain ⟨nc, hl⟩ : ∃ nc, cs.length = nc := ⟨_, rfl⟩
  obtain ⟨m, hm⟩ : ∃ m, rows.length = m := ⟨_, rfl⟩
  have HR : Hid (RowsAt w w.heap.size (.slice ra m rc) rows) := Lib.hid (by rw [← hm]; exact hr)
  have HC : Hid (ColsAt w w.heap.size (.slice ca nc cc) cs) := Lib.hid (by rw [← hl]; exact hc)
  have HM := Lib.hid hm
  have HL := Lib.hid hl
  have EZ : zonsOf cs rows = zonsK cs rows nc := by unfold zonsOf; rw [hl]
  rw [EZ]
  rw [hl] at h12 hrl ⊢
  rw [hm] at hr9 ⊢
  have HRL := Lib.hid hrl
  clear hc hr hl hm hrl EZ
  go_enter Try.func17, Try.ntmps17
  go_upto_region 1 with fail
  refine captureM ?_
  intro y ey
  have yb : Below w.heap.size w y := by rw [ey]; exact (by repeat (first | with_reducible exact Below.refl _ _ | with_reducible assumption | with_reducible refine Below.al ?_ _ | with_reducible refine Below.on ?_ _ | with_reducible refine Below.st ?_ (by first | assumption | (simp; done) | (simp; omega)) _ | with_reducible refine Below.drew ?_))
  have y0 : y.cell? ⟨w.heap.size, 0, none⟩ = some (.slice ca nc cc) := by rw [ey]; simp (maxDischargeDepth := 9) [go_sem, *]
  have yz : w.heap.size < y.heap.size := by rw [ey]; simp
  clear ey
  go_wp2_with fail
  go_loopg [5, 14] nc (fun g v st wr => ∃ (k : Nat), k + g = nc ∧ st = .int .i64 (k : Int) ∧ ∃ x : Ext y, x.it = wr ∧ wr.ownsRow y.heap.size 46 8 v k ((zonsK cs rows k).flatMap zonC))
  case atStart => exact ⟨0, by omega, rfl, ⟨y, Below.refl _ _⟩, rfl, World.ownsRow_nil _ _ _ _⟩
  case round =>
    obtain ⟨k, hk, rfl, x, rfl, hown⟩ := hrel
    obtain ⟨og, rfl⟩ : ∃ og, og = gk := ⟨_, rfl⟩
    have OI := Lib.hid hown
    have hx := x.below
    have hxw : Below w.heap.size w x.it := yb.trans (hx.mono yb.size)
    by_cases hg0 : og = 0
    · subst hg0
      obtain rfl : k = nc := by omega
      have OB := Lib.hid (show x.it.ownsRow w.heap.size 46 8 u5 k ((zonsK cs rows k).flatMap zonC) by
        refine ⟨hown.1, hown.2.imp id ?_⟩
        rintro ⟨g, cap, cur, h1, h2, h3, h4⟩
        exact ⟨g, cap, cur, h1, by omega, h3, h4⟩)
      clear hk hown
      go_wp2
      refine bodyPost_ret (v := u5) ?_ rfl ⟨u5, rfl, OB.out, hxw⟩
      simp (maxDischargeDepth := 9) [results, Try.results17, go_sem, *]
    · have hkm : k < nc := by omega
      have hkm' : (k : Int) < (nc : Int) := by omega
      have hkc : k < cs.length := by rw [HL.out]; exact hkm
      have HK := Lib.hid (And.intro hk hg0)
      have VO : Hid (∀ k, u5.ownBlock = some k → y.heap.size ≤ k ∧ k < x.it.heap.size) := Lib.hid fun k hk => hown.lt k hk
      obtain ⟨cb, co, rfl, _, hcb, c0, c1, c2, c3⟩ := cols_in HC.out hkc
      have CTY : colTy cs (k : Int) = (cs[k]'hkc).ty := by unfold colTy; simp [List.getElem?_eq_getElem hkc]
      have ZS := Lib.hid (zonsK_succ cs rows k)
      rw [CTY] at ZS
      obtain ⟨cd, hcd⟩ : ∃ d, cs[k]'hkc = d := ⟨_, rfl⟩
      rw [hcd] at c0 c1 c2 c3 ZS
      obtain ⟨cn, ty, sc, nul⟩ := cd
      dsimp only at c0 c1 c2 c3 ZS
      have k0 := (hxw.cell (p := ⟨cb, co + k * 4, none⟩) hcb).trans c0
      have k1 := (hxw.cell (p := ⟨cb, co + k * 4 + 1, none⟩) hcb).trans c1
      have k2 := (hxw.cell (p := ⟨cb, co + k * 4 + 2, none⟩) hcb).trans c2
      have k3 := (hxw.cell (p := ⟨cb, co + k * 4 + 3, none⟩) hcb).trans c3
      have zcb : cb < x.it.heap.size := Nat.lt_of_lt_of_le hcb hxw.size
      have zx := x.lt yz
      have x0 := (x.cell w.heap.size 0 yz).trans y0
      have XBH := Lib.hid (And.intro hx hxw)
      clear hk hg0 hown c0 c1 c2 c3 hcd CTY hx hxw
      go_upto_region 6 with fail
      refine captureM ?_
      intro V ev
      have Vb : Below x.it.heap.size x.it V := by rw [ev]; exact (by repeat (first | with_reducible exact Below.refl _ _ | with_reducible assumption | with_reducible refine Below.al ?_ _ | with_reducible refine Below.on ?_ _ | with_reducible refine Below.st ?_ (by first | assumption | (simp; done) | (simp; omega)) _ | with_reducible refine Below.drew ?_))
      have Vt : V.cell? ⟨x.it.heap.size, 1, none⟩ = some (.int .i64 ty) := by rw [ev]; simp (maxDischargeDepth := 9) [go_sem, *]
      have Vz : x.it.heap.size < V.heap.size := by rw [ev]; simp
      have V0 := (Vb.cell (p := ⟨w.heap.size, 0, none⟩) zx).trans x0
      have Vw : w.heap.size < V.heap.size := by omega
      have VBH := Lib.hid (And.intro (XBH.out.1.trans (Vb.mono XBH.out.1.size)) (XBH.out.2.trans (Vb.mono XBH.out.2.size)))
      have OV := Lib.hid (own_to OI.out Vb)
      have VO2 : Hid (∀ k, u5.ownBlock = some k → y.heap.size ≤ k ∧ k < V.heap.size) := Lib.hid fun k hk => ⟨(VO.out k hk).1, by have := (VO.out k hk).2; omega⟩
      clear ev k0 k1 k2 k3 x0 OI VO XBH Vb
      generalize x.it.heap.size = XS at *
      go_wp2_with fail
      go_loopg [8, 21] m (fun g v st wr => ∃ (j : Nat), j + g = m ∧ st = .int .i64 (j : Int) ∧ ∃ z : Ext V, z.it = wr ∧ wr.ownsRow V.heap.size 44 3 v j ((colK k (rows.take j)).flatMap valC))
      case atStart => exact ⟨0, by omega, rfl, ⟨V, Below.refl _ _⟩, rfl, World.ownsRow_nil _ _ _ _⟩
      case round =>
        obtain ⟨j, hjg, rfl, z, rfl, hown⟩ := hrel
        have OW := Lib.hid hown
        by_cases hgi : gk = 0
        · subst hgi
          obtain rfl : j = m := by omega
          have TK : rows.take j = rows := List.take_of_length_le (by rw [HM.out]; exact Nat.le_refl _)
          rw [TK] at hown
          have cl : (colK k rows).length = j := by unfold colK; rw [List.length_map]; exact HM.out
          have VV : Hid (ValsAt z.it z.it.heap.size u8 (colK k rows)) := Lib.hid (own_vals (by omega) (by rw [cl]; exact hown))
          have O2 := Lib.hid (own_to OV.out z.below)
          have zt := (z.cell XS 1 Vz).trans Vt
          have zz := z.lt Vz
          have ZBH := Lib.hid (VBH.out.1.trans (z.below.mono VBH.out.1.size))
          have zs := ZBH.out.size
          obtain ⟨za, zc, hzv⟩ := own_form OV.out
          obtain ⟨⟨zr, zn, ⟨an, a, sa⟩, ⟨bn, b, sb⟩⟩, hzz⟩ : ∃ q, zoneF ty (colK k rows) = q := ⟨_, rfl⟩
          have ZC := Lib.hid (by have h := zoneOf_any ty u8 (colK k rows) z.it VV.out; rw [hzz] at h; exact h)
          rw [hzz] at ZS
          clear OW hown TK hjg hzz V0 Vt
          generalize z.it = Z at *
          clear z
          go_wp2_with (first | (go_at_call 35; refine Calls.mono ZC.out ?_; rintro e w3 ⟨rfl, hb3⟩; have O3 := Lib.hid (own_to O2.out hb3); have B3 := Lib.hid (ZBH.out.trans (hb3.mono ZBH.out.size)); have s3 := B3.out.size; dsimp only [zonV]) | (at_builtin; go_must (refine wpList_append_lies _ rfl _ _ 31 rfl y.heap.size 46 i1 _ 8 80 Try.underlying31 hj hy0 hy1 hy2 rfl (by decide) u5 k ((zonsK cs rows k).flatMap zonC) rfl (O3.out.alloc _) ⟨w3.heap.size, 0, none⟩ 1 1 (zonC ⟨zr, zn, ⟨an, a, sa⟩, ⟨bn, b, sb⟩⟩) rfl rfl (World.news_of_block (heap_alloc_new w3 _)) (by simp [zonC, Value.oneCell']) (by omega) (by unfold maxLen; omega) (by omega) (by simp; omega) (w3.heap.size + 1) (by simp) ?_); intro gb cap w4 hown hgrow hat hlt4; go_must (have MS := Lib.hid (And.intro hown (show Below y.heap.size y w4 from Below.gr (Below.al B3.out _) O3.out hgrow))); clear hown hgrow hat hlt4))
          go_roundg (og - 1)
          case measure => have := HK.out; omega
          case rel => exact ⟨k + 1, by have := HK.out; omega, by go_num, ⟨_, MS.out.2⟩, rfl, by rw [ZS.out, List.flatMap_append]; exact MS.out.1⟩
        · have hjm : j < m := by omega
          have hjm' : (j : Int) < (m : Int) := by omega
          have hjl : j < rows.length := by rw [HM.out]; exact hjm
          have yx : Below w.heap.size w z.it := VBH.out.2.trans (z.below.mono VBH.out.2.size)
          obtain ⟨rb, ro, rfl, _, hrb, lv, e0, hlr⟩ := rows_in HR.out hjl
          obtain ⟨la, lc, rfl⟩ := vals_end hlr
          have RL := HRL.out _ (List.getElem_mem hjl)
          have CT := Lib.hid (colK_take (k := k) hjl)
          obtain ⟨row, hrow⟩ : ∃ row, rows[j]'hjl = row := ⟨_, rfl⟩
          rw [hrow] at hlr RL e0 CT
          have hkr : k < row.length := by rw [RL]; exact hkm
          rw [RL] at e0 hlr
          obtain ⟨vb, vo, rfl, _, hvb, d0, d1, d2⟩ := vals_in hlr hkr
          have GD : row.getD k Val.zero = row[k]'hkr := getDv hkr
          obtain ⟨u, hu⟩ : ∃ u, row[k]'hkr = u := ⟨_, rfl⟩
          rw [hu] at d0 d1 d2 GD
          rw [GD] at CT
          obtain ⟨un, ui, us⟩ := u
          dsimp only at d0 d1 d2
          have g0 := (yx.cell (p := ⟨rb, ro + j, none⟩) hrb).trans e0
          have g1 := (yx.cell (p := ⟨vb, vo + k * 3, none⟩) hvb).trans d0
          have g2 := (yx.cell (p := ⟨vb, vo + k * 3 + 1, none⟩) hvb).trans d1
          have g3 := (yx.cell (p := ⟨vb, vo + k * 3 + 2, none⟩) hvb).trans d2
          have zr : rb < z.it.heap.size := Nat.lt_of_lt_of_le hrb yx.size
          have zv : vb < z.it.heap.size := Nat.lt_of_lt_of_le hvb yx.size
          have HJ := Lib.hid (And.intro hjg hgi)
          have zx' := z.below.size
          clear d0 d1 d2 e0 hlr hu hrow RL GD hjg hgi hown
          obtain ⟨vs, hvs⟩ : ∃ vs, colK k (rows.take j) = vs := ⟨_, rfl⟩
          rw [hvs] at OW CT
          have ZB := Lib.hid z.below
          go_wp2_with (at_builtin; go_must (refine wpList_append_lies _ rfl _ _ 50 rfl V.heap.size 44 i0 _ 3 32 Try.underlying50 hi hz0 hz1 hz2 rfl (by decide) u8 j (vs.flatMap valC) rfl (OW.out.alloc _) ⟨z.it.heap.size, 0, none⟩ 1 1 (valC ⟨un, ui, us⟩) rfl rfl (World.news_of_block (heap_alloc_new z.it _)) (by simp [valC, Value.oneCell']) (by omega) (by unfold maxLen; omega) (by omega) (by simp; omega) (z.it.heap.size + 1) (by simp) ?_); intro gb cap w4 hown hgrow hat hlt4; go_must (have MS := Lib.hid (And.intro hown (show Below V.heap.size V w4 from Below.gr (Below.al ZB.out _) OW.out hgrow))); clear hown hgrow hat hlt4)
          go_roundg (gk - 1)
          case measure => have := HJ.out; omega
          case rel => exact ⟨j + 1, by have := HJ.out; omega, by go_num, ⟨_, MS.out.2⟩, rfl, by rw [CT.out, List.flatMap_append]; exact MS.out.1⟩
end Go.Proofs.Ytfemekmkmiljdaa
