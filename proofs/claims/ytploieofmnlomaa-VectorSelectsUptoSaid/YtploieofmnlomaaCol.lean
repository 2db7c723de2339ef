/-
  CHAPTER 25'S columns: the columns of rows, in memory. Conditions: the schema and the rows lie in memory as 'ColsAt', 'RowsAt' say; each row is long enough.
-/
import Derived.Test.YtploieofmnlomaaVft
set_option linter.unusedVariables false
set_option linter.unusedSimpArgs false
namespace Go.Proofs.Ytploieofmnlomaa
open Go.RowKit
def colOf (k : Nat) (rows : List (List Val)) : List Val := rows.map fun r => r.getD k Val.zero
def colsOf (n : Nat) (rows : List (List Val)) : List (List Val) := (List.range n).map fun k => colOf k rows
theorem colsOf_succ (n : Nat) (rows : List (List Val)) : colsOf (n + 1) rows = colsOf n rows ++ [colOf n rows] := by
  unfold colsOf; rw [List.range_succ, List.map_append]; rfl
theorem colOf_take {k j : Nat} {rows : List (List Val)} (h : j < rows.length) : colOf k (rows.take (j + 1)) = colOf k (rows.take j) ++ [(rows[j]'h).getD k Val.zero] := by
  unfold colOf; rw [List.take_succ_eq_append_getElem h, List.map_append]; rfl
theorem getDv_in {l : List Val} {d : Val} {k : Nat} (h : k < l.length) : l.getD k d = l[k]'h := by
  rw [List.getD_eq_getElem?_getD, List.getElem?_eq_getElem h]; rfl
theorem Inn.on {B0 : Nat} {w w' : World} {v : Value} {lvs : List Value} {rows : List (List Val)} (h : Inn B0 w v lvs rows) (hb : Below w.heap.size w w') : Inn B0 w' v lvs rows :=
  ⟨h.1, fun j hj hj' => ⟨(h.2 j hj hj').1.mono hb hb.size, fun k hk => ⟨((h.2 j hj hj').2 k hk).1, Nat.lt_of_lt_of_le ((h.2 j hj hj').2 k hk).2.1 hb.size, ((h.2 j hj hj').2 k hk).2.2⟩⟩⟩
set_option maxRecDepth 8000 in
set_option maxHeartbeats 4000000 in
theorem columns_any (cv : Value) (cs : List Col) (key : Int) (rv : Value) (rows : List (List Val)) (w : World) (hc : ColsAt w w.heap.size cv cs) (hr : RowsAt w w.heap.size rv rows) (h12 : cs.length ≤ 12) (hr9 : rows.length ≤ 4096) (hrl : ∀ r ∈ rows, r.length = cs.length) :
    Calls Try.prog 13 #[.agg #[cv, .int .i64 key], rv] w fun e w' => ∃ v, e = .returned v ∧ RowsAt w' w'.heap.size v (colsOf cs.length rows) ∧ Below w.heap.size w w' := by
  obtain ⟨i0, hi, hz0, hz1, hz2⟩ := info_parts infoVal
  obtain ⟨i1, hj, hy0, hy1, hy2⟩ := info_parts infoRow
  obtain ⟨ca, cc, rfl⟩ := cols_end hc
  obtain ⟨ra, rc, rfl⟩ := rows_end hr
  obtain ⟨nc, hl⟩ : ∃ nc, cs.length = nc := ⟨_, rfl⟩
  obtain ⟨m, hm⟩ : ∃ m, rows.length = m := ⟨_, rfl⟩
  rw [hl] at h12 hrl ⊢
  rw [hm] at hr9 ⊢
  have HR : Hid (RowsAt w w.heap.size (.slice ra m rc) rows) := Lib.hid (by rw [← hm]; exact hr)
  have HM := Lib.hid hm
  have HRL := Lib.hid hrl
  clear hc hr hl hm hrl
  go_enter Try.func13, Try.ntmps13
  go_upto_region 1 with fail
  refine captureM ?_
  intro y ey
  have yb : Below w.heap.size w y := by rw [ey]; exact (by repeat (first | with_reducible exact Below.refl _ _ | with_reducible assumption | with_reducible refine Below.al ?_ _ | with_reducible refine Below.on ?_ _ | with_reducible refine Below.st ?_ (by first | assumption | (simp; done) | (simp; omega)) _ | with_reducible refine Below.drew ?_))
  have y0 : y.cell? ⟨w.heap.size, 0, none⟩ = some (.slice ca nc cc) := by rw [ey]; simp (maxDischargeDepth := 9) [go_sem, *]
  have yz : w.heap.size < y.heap.size := by rw [ey]; simp
  clear ey
  go_wp2_with fail
  go_loopg [5, 13] nc (fun g v st wr => ∃ (k : Nat) (lvs : List Value), k + g = nc ∧ st = .int .i64 (k : Int) ∧ lvs.length = k ∧ ∃ x : Ext y, x.it = wr ∧ wr.ownsRow y.heap.size 39 1 v lvs.length (lvs.flatMap one1) ∧ Inn y.heap.size wr v lvs (colsOf k rows))
  case atStart => exact ⟨0, [], by omega, rfl, rfl, ⟨y, Below.refl _ _⟩, rfl, World.ownsRow_nil _ _ _ _, rfl, fun j hj => absurd hj (by simp)⟩
  case round =>
    obtain ⟨k, lvs, hk, rfl, hlv, x, rfl, hown, hinn⟩ := hrel
    obtain ⟨og, rfl⟩ : ∃ og, og = gk := ⟨_, rfl⟩
    have OI := Lib.hid (And.intro hown hinn)
    obtain ⟨va, vc, hv5⟩ := own_form hown
    by_cases hg0 : og = 0
    · subst hg0
      obtain rfl : k = nc := by omega
      clear hk hown hinn hv5
      go_wp2
      refine bodyPost_ret (v := u5) ?_ rfl ⟨u5, rfl, inn_rows (by unfold colsOf; simp; omega) OI.out.2 OI.out.1, yb.trans (x.below.mono yb.size)⟩
      simp (maxDischargeDepth := 9) [results, Try.results13, go_sem, *]
    · have hkm : k < nc := by omega
      have hkm' : (k : Int) < (nc : Int) := by omega
      have HK := Lib.hid (And.intro (And.intro hk hg0) hlv)
      have VO : Hid (∀ k, u5.ownBlock = some k → y.heap.size ≤ k ∧ k < x.it.heap.size) := Lib.hid fun k hk => hown.lt k hk
      clear hk hg0 hlv hown hinn hv5
      go_wp2_with fail
      go_loopg [7, 18] m (fun g v st wr => ∃ (j : Nat), j + g = m ∧ st = .int .i64 (j : Int) ∧ ∃ z : Ext x.it, z.it = wr ∧ wr.ownsRow x.it.heap.size 32 3 v j ((colOf k (rows.take j)).flatMap valC))
      case atStart => exact ⟨0, by omega, rfl, ⟨x.it, Below.refl _ _⟩, rfl, World.ownsRow_nil _ _ _ _⟩
      case round =>
        obtain ⟨j, hjg, rfl, z, rfl, hown⟩ := hrel
        have OW := Lib.hid hown
        by_cases hgi : gk = 0
        · subst hgi
          obtain rfl : j = m := by omega
          have TK : rows.take j = rows := List.take_of_length_le (by rw [HM.out]; exact Nat.le_refl _)
          rw [TK] at hown
          obtain ⟨a3, q3, rfl⟩ := own_form hown
          have cl : (colOf k rows).length = j := by unfold colOf; rw [List.length_map]; exact HM.out
          have VV : Hid (ValsAt z.it z.it.heap.size (.slice a3 j q3) (colOf k rows)) := Lib.hid (own_vals (by omega) (by rw [cl]; exact hown))
          have VB : Hid (∀ b, Value.ownBlock (.slice a3 j q3) = some b → y.heap.size ≤ b ∧ b < z.it.heap.size ∧ u5.ownBlock ≠ some b) := Lib.hid fun b hb => ⟨by have := (hown.lt b hb).1; have := x.below.size; omega, (hown.lt b hb).2, fun e => by have := (VO.out b e).2; have := (hown.lt b hb).1; omega⟩
          have I2 := Lib.hid (And.intro (own_to OI.out.1 z.below) (OI.out.2.on z.below))
          have zx := z.below.size
          have zy := x.below.size
          have hzb := z.below
          have XB := Lib.hid (x.below.trans (hzb.mono x.below.size))
          have lk : lvs.length ≤ 12 := by have := HK.out.2; omega
          clear OW hown TK hjg OI hzb
          generalize z.it = Z at *
          clear z
          go_wp2_with (at_builtin; go_must (refine wpList_append_lies _ rfl _ _ 30 rfl y.heap.size 39 i1 _ 1 24 Try.underlying30 hj hy0 hy1 hy2 rfl (by decide) u5 lvs.length (lvs.flatMap one1) rfl (I2.out.1.alloc _) ⟨Z.heap.size, 0, none⟩ 1 1 [.slice a3 j q3] rfl rfl (World.news_of_block (heap_alloc_new Z _)) (by simp [Value.oneCell']) (by omega) (by unfold maxLen; omega) (by omega) (by simp; omega) (Z.heap.size + 1) (by simp) ?_); intro gb cap w4 hown hgrow hat hlt4; go_must (have MS := Lib.hid (And.intro hown (And.intro (Inn.step (v1 := .slice (some ⟨gb, 0, none⟩) (lvs.length + 1) cap) (I2.out.2.on ((Below.refl _ _).alloc (Nat.le_refl _) _)) ((VV.out.mono ((Below.refl _ _).alloc (Nat.le_refl _) _) (by simp))) (fun k hk => ⟨(VB.out k hk).1, by have := (VB.out k hk).2.1; simp; omega, (VB.out k hk).2.2⟩) hgrow (hat.imp (fun q => q.trans rfl) (fun q => by rw [q]; simp [Value.ownBlock]))) (show Below y.heap.size y w4 from Below.gr (Below.al XB.out _) I2.out.1 hgrow)))); clear hown hgrow hat hlt4)
          go_roundg (og - 1)
          case measure => have := HK.out; omega
          case rel =>
            refine ⟨k + 1, lvs ++ [.slice a3 j q3], by have := HK.out; omega, by go_num, by rw [List.length_append, HK.out.2]; rfl, ⟨_, MS.out.2.2⟩, rfl, ?_, ?_⟩
            · rw [List.length_append, List.flatMap_append]; exact MS.out.1
            · rw [colsOf_succ]; exact MS.out.2.1
        · have hjm : j < m := by omega
          have hjm' : (j : Int) < (m : Int) := by omega
          have hjl : j < rows.length := by rw [HM.out]; exact hjm
          have yx : Below w.heap.size w z.it := yb.trans ((x.below.trans (z.below.mono x.below.size)).mono yb.size)
          obtain ⟨rb, ro, rfl, _, hrb, lv, e0, hlr⟩ := rows_in HR.out hjl
          obtain ⟨la, lc, rfl⟩ := vals_end hlr
          have RL := HRL.out _ (List.getElem_mem hjl)
          have CT := Lib.hid (colOf_take (k := k) hjl)
          obtain ⟨row, hrow⟩ : ∃ row, rows[j]'hjl = row := ⟨_, rfl⟩
          rw [hrow] at hlr RL e0 CT
          have hkr : k < row.length := by rw [RL]; exact hkm
          rw [RL] at e0 hlr
          obtain ⟨vb, vo, rfl, _, hvb, d0, d1, d2⟩ := vals_in hlr hkr
          have GD : row.getD k Val.zero = row[k]'hkr := getDv_in hkr
          obtain ⟨u, hu⟩ : ∃ u, row[k]'hkr = u := ⟨_, rfl⟩
          rw [hu] at d0 d1 d2 GD
          rw [GD] at CT
          obtain ⟨un, ui, us⟩ := u
          dsimp only at d0 d1 d2
          have g0 := (yx.cell (p := ⟨rb, ro + j, none⟩) hrb).trans e0
          have g1 := (yx.cell (p := ⟨vb, vo + k * 3, none⟩) hvb).trans d0
          have g2 := (yx.cell (p := ⟨vb, vo + k * 3 + 1, none⟩) hvb).trans d1
          have g3 := (yx.cell (p := ⟨vb, vo + k * 3 + 2, none⟩) hvb).trans d2
          have zr : rb < z.it.heap.size := Nat.lt_of_lt_of_le hrb yx.size
          have zv : vb < z.it.heap.size := Nat.lt_of_lt_of_le hvb yx.size
          have HJ := Lib.hid (And.intro hjg hgi)
          have zx := z.below.size
          clear d0 d1 d2 e0 hlr hu hrow RL GD hjg hgi hown
          obtain ⟨vs, hvs⟩ : ∃ vs, colOf k (rows.take j) = vs := ⟨_, rfl⟩
          rw [hvs] at OW CT
          have ZB := Lib.hid z.below
          go_wp2_with (at_builtin; go_must (refine wpList_append_lies _ rfl _ _ 39 rfl x.it.heap.size 32 i0 _ 3 32 Try.underlying39 hi hz0 hz1 hz2 rfl (by decide) u7 j (vs.flatMap valC) rfl (OW.out.alloc _) ⟨z.it.heap.size, 0, none⟩ 1 1 (valC ⟨un, ui, us⟩) rfl rfl (World.news_of_block (heap_alloc_new z.it _)) (by simp [valC, Value.oneCell']) (by omega) (by unfold maxLen; omega) (by omega) (by simp; omega) (z.it.heap.size + 1) (by simp) ?_); intro gb cap w4 hown hgrow hat hlt4; go_must (have MS := Lib.hid (And.intro hown (show Below x.it.heap.size x.it w4 from Below.gr (Below.al ZB.out _) OW.out hgrow))); clear hown hgrow hat hlt4)
          go_roundg (gk - 1)
          case measure => have := HJ.out; omega
          case rel => exact ⟨j + 1, by have := HJ.out; omega, by go_num, ⟨_, MS.out.2⟩, rfl, by rw [CT.out, List.flatMap_append]; exact MS.out.1⟩
end Go.Proofs.Ytploieofmnlomaa
