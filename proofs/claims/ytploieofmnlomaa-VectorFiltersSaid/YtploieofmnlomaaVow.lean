/-
  CHAPTER 25'S columns, with the slice's own block told. Conditions: as for columns_any. The changes of a list of columns.
-/
import Derived.Test.YtploieofmnlomaaCol
import Derived.Laws.OwnMore
set_option linter.unusedVariables false
set_option linter.unusedSimpArgs false
namespace Go.Proofs.Ytploieofmnlomaa
open Go.RowKit
theorem own_baseM {w : World} {base base' : Nat} {e : TypeId} {size : Nat} {v : Value} {n : Nat} {xs : List Value} (h : w.ownsRow base e size v n xs) (hb : base' ≤ base) : w.ownsRow base' e size v n xs := by
  refine ⟨h.1, h.2.imp id ?_⟩
  rintro ⟨g, cap, cur, h1, h2, h3, h4⟩
  exact ⟨g, cap, cur, h1, Nat.le_trans hb h2, h3, h4⟩
theorem Inn.base {B0 B1 : Nat} {w : World} {v : Value} {lvs : List Value} {rows : List (List Val)} (h : Inn B0 w v lvs rows) (hb : B1 ≤ B0) : Inn B1 w v lvs rows :=
  ⟨h.1, fun j hj hj' => ⟨(h.2 j hj hj').1, fun k hk => ⟨Nat.le_trans hb ((h.2 j hj hj').2 k hk).1, ((h.2 j hj hj').2 k hk).2⟩⟩⟩
set_option maxRecDepth 8000 in
set_option maxHeartbeats 4000000 in
theorem columns_own (cv : Value) (cs : List Col) (key : Int) (rv : Value) (rows : List (List Val)) (w : World) (hc : ColsAt w w.heap.size cv cs) (hr : RowsAt w w.heap.size rv rows) (h12 : cs.length ≤ 12) (hr9 : rows.length ≤ 4096) (hrl : ∀ r ∈ rows, r.length = cs.length) :
    Calls Try.prog 13 #[.agg #[cv, .int .i64 key], rv] w fun e w' => ∃ v lvs, e = .returned v ∧ w'.ownsRow w.heap.size 39 1 v lvs.length (lvs.flatMap one1) ∧ Inn w.heap.size w' v lvs (colsOf cs.length rows) ∧ Below w.heap.size w w' := by
  obtain ⟨i0, hi, hz0, hz1, hz2⟩ := info_parts infoVal
  obtain ⟨i1, hj, hy0, hy1, hy2⟩ := info_parts infoRow
  obtain ⟨ca, cc, rfl⟩ := cols_end hc
  obtain ⟨ra, rc, rfl⟩ := rows_end hr
  obtain ⟨nc, hl⟩ : ∃ nc, cs.length = nc := ⟨_, rfl⟩
  obtain ⟨m, hm⟩ : ∃ m, rows.length = m := ⟨_, rfl⟩
  rw [hl] at h12 hrl ⊢
  rw [hm] at hr9 ⊢
  have HR : Hid (RowsAt w w.heap.size (.slice ra m rc) rows) := Lib.hid (by rw [← hm]; exact hr)
  have HM := Lib.hid hm
  have HRL := Lib.hid hrl
  clear hc hr hl hm hrl
  go_enter Try.func13, Try.ntmps13
  go_upto_region 1 with fail
  refine captureM ?_
  intro y ey
  have yb : Below w.heap.size w y := by rw [ey]; exact (by repeat (first | with_reducible exact Below.refl _ _ | with_reducible assumption | with_reducible refine Below.al ?_ _ | with_reducible refine Below.on ?_ _ | with_reducible refine Below.st ?_ (by first | assumption | (simp; done) | (simp; omega)) _ | with_reducible refine Below.drew ?_))
  have y0 : y.cell? ⟨w.heap.size, 0, none⟩ = some (.slice ca nc cc) := by rw [ey]; simp (maxDischargeDepth := 9) [go_sem, *]
  have yz : w.heap.size < y.heap.size := by rw [ey]; simp
  clear ey
  go_wp2_with fail
  go_loopg [5, 13] nc (fun g v st wr => ∃ (k : Nat) (lvs : List Value), k + g = nc ∧ st = .int .i64 (k : Int) ∧ lvs.length = k ∧ ∃ x : Ext y, x.it = wr ∧ wr.ownsRow y.heap.size 39 1 v lvs.length (lvs.flatMap one1) ∧ Inn y.heap.size wr v lvs (colsOf k rows))
  case atStart => exact ⟨0, [], by omega, rfl, rfl, ⟨y, Below.refl _ _⟩, rfl, World.ownsRow_nil _ _ _ _, rfl, fun j hj => absurd hj (by simp)⟩
  case round =>
    obtain ⟨k, lvs, hk, rfl, hlv, x, rfl, hown, hinn⟩ := hrel
    obtain ⟨og, rfl⟩ : ∃ og, og = gk := ⟨_, rfl⟩
    have OI := Lib.hid (And.intro hown hinn)
    obtain ⟨va, vc, hv5⟩ := own_form hown
    by_cases hg0 : og = 0
    · subst hg0
      obtain rfl : k = nc := by omega
      clear hk hown hinn hv5
      go_wp2
      refine bodyPost_ret (v := u5) ?_ rfl ⟨u5, lvs, rfl, own_baseM OI.out.1 yb.size, Inn.base OI.out.2 yb.size, yb.trans (x.below.mono yb.size)⟩
      simp (maxDischargeDepth := 9) [results, Try.results13, go_sem, *]
    · have hkm : k < nc := by omega
      have hkm' : (k : Int) < (nc : Int) := by omega
      have HK := Lib.hid (And.intro (And.intro hk hg0) hlv)
      have VO : Hid (∀ k, u5.ownBlock = some k → y.heap.size ≤ k ∧ k < x.it.heap.size) := Lib.hid fun k hk => hown.lt k hk
      clear hk hg0 hlv hown hinn hv5
      go_wp2_with fail
      go_loopg [7, 18] m (fun g v st wr => ∃ (j : Nat), j + g = m ∧ st = .int .i64 (j : Int) ∧ ∃ z : Ext x.it, z.it = wr ∧ wr.ownsRow x.it.heap.size 32 3 v j ((colOf k (rows.take j)).flatMap valC))
      case atStart => exact ⟨0, by omega, rfl, ⟨x.it, Below.refl _ _⟩, rfl, World.ownsRow_nil _ _ _ _⟩
      case round =>
        obtain ⟨j, hjg, rfl, z, rfl, hown⟩ := hrel
        have OW := Lib.hid hown
        by_cases hgi : gk = 0
        · subst hgi
          obtain rfl : j = m := by omega
          have TK : rows.take j = rows := List.take_of_length_le (by rw [HM.out]; exact Nat.le_refl _)
          rw [TK] at hown
          obtain ⟨a3, q3, rfl⟩ := own_form hown
          have cl : (colOf k rows).length = j := by unfold colOf; rw [List.length_map]; exact HM.out
          have VV : Hid (ValsAt z.it z.it.heap.size (.slice a3 j q3) (colOf k rows)) := Lib.hid (own_vals (by omega) (by rw [cl]; exact hown))
          have VB : Hid (∀ b, Value.ownBlock (.slice a3 j q3) = some b → y.heap.size ≤ b ∧ b < z.it.heap.size ∧ u5.ownBlock ≠ some b) := Lib.hid fun b hb => ⟨by have := (hown.lt b hb).1; have := x.below.size; omega, (hown.lt b hb).2, fun e => by have := (VO.out b e).2; have := (hown.lt b hb).1; omega⟩
          have I2 := Lib.hid (And.intro (own_to OI.out.1 z.below) (OI.out.2.on z.below))
          have zx := z.below.size
          have zy := x.below.size
          have hzb := z.below
          have XB := Lib.hid (x.below.trans (hzb.mono x.below.size))
          have lk : lvs.length ≤ 12 := by have := HK.out.2; omega
          clear OW hown TK hjg OI hzb
          generalize z.it = Z at *
          clear z
          go_wp2_with (at_builtin; go_must (refine wpList_append_lies _ rfl _ _ 30 rfl y.heap.size 39 i1 _ 1 24 Try.underlying30 hj hy0 hy1 hy2 rfl (by decide) u5 lvs.length (lvs.flatMap one1) rfl (I2.out.1.alloc _) ⟨Z.heap.size, 0, none⟩ 1 1 [.slice a3 j q3] rfl rfl (World.news_of_block (heap_alloc_new Z _)) (by simp [Value.oneCell']) (by omega) (by unfold maxLen; omega) (by omega) (by simp; omega) (Z.heap.size + 1) (by simp) ?_); intro gb cap w4 hown hgrow hat hlt4; go_must (have MS := Lib.hid (And.intro hown (And.intro (Inn.step (v1 := .slice (some ⟨gb, 0, none⟩) (lvs.length + 1) cap) (I2.out.2.on ((Below.refl _ _).alloc (Nat.le_refl _) _)) ((VV.out.mono ((Below.refl _ _).alloc (Nat.le_refl _) _) (by simp))) (fun k hk => ⟨(VB.out k hk).1, by have := (VB.out k hk).2.1; simp; omega, (VB.out k hk).2.2⟩) hgrow (hat.imp (fun q => q.trans rfl) (fun q => by rw [q]; simp [Value.ownBlock]))) (show Below y.heap.size y w4 from Below.gr (Below.al XB.out _) I2.out.1 hgrow)))); clear hown hgrow hat hlt4)
          go_roundg (og - 1)
          case measure => have := HK.out; omega
          case rel =>
            refine ⟨k + 1, lvs ++ [.slice a3 j q3], by have := HK.out; omega, by go_num, by rw [List.length_append, HK.out.2]; rfl, ⟨_, MS.out.2.2⟩, rfl, ?_, ?_⟩
            · rw [List.length_append, List.flatMap_append]; exact MS.out.1
            · rw [colsOf_succ]; exact MS.out.2.1
        · have hjm : j < m := by omega
          have hjm' : (j : Int) < (m : Int) := by omega
          have hjl : j < rows.length := by rw [HM.out]; exact hjm
          have yx : Below w.heap.size w z.it := yb.trans ((x.below.trans (z.below.mono x.below.size)).mono yb.size)
          obtain ⟨rb, ro, rfl, _, hrb, lv, e0, hlr⟩ := rows_in HR.out hjl
          obtain ⟨la, lc, rfl⟩ := vals_end hlr
          have RL := HRL.out _ (List.getElem_mem hjl)
          have CT := Lib.hid (colOf_take (k := k) hjl)
          obtain ⟨row, hrow⟩ : ∃ row, rows[j]'hjl = row := ⟨_, rfl⟩
          rw [hrow] at hlr RL e0 CT
          have hkr : k < row.length := by rw [RL]; exact hkm
          rw [RL] at e0 hlr
          obtain ⟨vb, vo, rfl, _, hvb, d0, d1, d2⟩ := vals_in hlr hkr
          have GD : row.getD k Val.zero = row[k]'hkr := getDv_in hkr
          obtain ⟨u, hu⟩ : ∃ u, row[k]'hkr = u := ⟨_, rfl⟩
          rw [hu] at d0 d1 d2 GD
          rw [GD] at CT
          obtain ⟨un, ui, us⟩ := u
          dsimp only at d0 d1 d2
          have g0 := (yx.cell (p := ⟨rb, ro + j, none⟩) hrb).trans e0
          have g1 := (yx.cell (p := ⟨vb, vo + k * 3, none⟩) hvb).trans d0
          have g2 := (yx.cell (p := ⟨vb, vo + k * 3 + 1, none⟩) hvb).trans d1
          have g3 := (yx.cell (p := ⟨vb, vo + k * 3 + 2, none⟩) hvb).trans d2
          have zr : rb < z.it.heap.size := Nat.lt_of_lt_of_le hrb yx.size
          have zv : vb < z.it.heap.size := Nat.lt_of_lt_of_le hvb yx.size
          have HJ := Lib.hid (And.intro hjg hgi)
          have zx := z.below.size
          clear d0 d1 d2 e0 hlr hu hrow RL GD hjg hgi hown
          obtain ⟨vs, hvs⟩ : ∃ vs, colOf k (rows.take j) = vs := ⟨_, rfl⟩
          rw [hvs] at OW CT
          have ZB := Lib.hid z.below
          go_wp2_with (at_builtin; go_must (refine wpList_append_lies _ rfl _ _ 39 rfl x.it.heap.size 32 i0 _ 3 32 Try.underlying39 hi hz0 hz1 hz2 rfl (by decide) u7 j (vs.flatMap valC) rfl (OW.out.alloc _) ⟨z.it.heap.size, 0, none⟩ 1 1 (valC ⟨un, ui, us⟩) rfl rfl (World.news_of_block (heap_alloc_new z.it _)) (by simp [valC, Value.oneCell']) (by omega) (by unfold maxLen; omega) (by omega) (by simp; omega) (z.it.heap.size + 1) (by simp) ?_); intro gb cap w4 hown hgrow hat hlt4; go_must (have MS := Lib.hid (And.intro hown (show Below x.it.heap.size x.it w4 from Below.gr (Below.al ZB.out _) OW.out hgrow))); clear hown hgrow hat hlt4)
          go_roundg (gk - 1)
          case measure => have := HJ.out; omega
          case rel => exact ⟨j + 1, by have := HJ.out; omega, by go_num, ⟨_, MS.out.2⟩, rfl, by rw [CT.out, List.flatMap_append]; exact MS.out.1⟩
theorem vals_cells {w : World} {B b o n c : Nat} {cs : List Val} (h : ValsAt w B (.slice (some ⟨b, o, none⟩) n c) cs) (j : Nat) (u : Value) (hj : (cs.flatMap valC)[j]? = some u) : w.cell? ((⟨b, o, none⟩ : Addr).add j) = some u := by
  have hjl := (List.getElem?_eq_some_iff.1 hj).1
  rw [flat_len valC 3 (fun _ => rfl)] at hjl
  have hd : j / 3 < cs.length := by omega
  have hm : j % 3 < 3 := by omega
  have e : j = j / 3 * 3 + j % 3 := by omega
  have hg := flat_get valC 3 (fun _ => rfl) cs (j / 3) (j % 3) hd hm
  rw [← e, hj] at hg
  obtain ⟨b', o', e1, _, _, h0, h1, h2⟩ := vals_in h hd
  injection e1 with e1
  injection e1 with e1 e2
  subst e1 e2
  have hadd : (⟨b, o, none⟩ : Addr).add j = ⟨b, o + j / 3 * 3 + j % 3, none⟩ := by rw [Nat.add_assoc, ← e]; unfold Addr.add; by_cases q : j = 0 <;> simp [q]
  rw [hadd]
  rcases (show j % 3 = 0 ∨ j % 3 = 1 ∨ j % 3 = 2 by omega) with q | q | q <;> rw [q] at hg ⊢ <;> simp [valC] at hg <;> rw [hg]
  · exact h0
  · exact h1
  · exact h2
theorem valC_one (cs : List Val) : ∀ u ∈ cs.flatMap valC, u.oneCell' = true := by
  intro u hu
  obtain ⟨c, _, hc⟩ := List.mem_flatMap.1 hu
  simp [valC] at hc
  rcases hc with rfl | rfl | rfl <;> rfl
theorem run_append_vals {P : Program} {w : World} (base : Nat) (t ty e : TypeId) (i : TypeInfo) (ht : P.underlying t = some (.slice e)) (hi : P.info? e = some i) (hz : i.zero = some (.agg #[.bool false, .int .i64 0, .string ⟨#[]⟩])) (hsize : i.size = 3) (hby : i.bytes = 32)
    (v : Value) (n : Nat) (xs : List Value) (hown : w.ownsRow base e 3 v n xs) (xv : Value) (zs : List Val) (hx : ValsAt w w.heap.size xv zs) (h63 : n + zs.length ≤ maxLen) (hbytes : (n + zs.length) * 32 ≤ 140737488355328) (hbase : base ≤ w.heap.size) :
    ∃ v' w', (Builtin.append_ #[t, t] ty #[v, xv]).run P w = .ok v' w' ∧ w'.ownsRow base e 3 v' (n + zs.length) (xs ++ zs.flatMap valC) ∧ w.grownBy w' v.ownBlock := by
  rcases hx.2 with ⟨rfl, a, c, rfl⟩ | ⟨b, o, c, rfl, hcap, hb, hc⟩
  · cases a with
    | none =>
      refine ⟨v, w, ?_, by simpa using hown, ⟨rfl, rfl, rfl, Nat.le_refl _, fun _ _ _ => rfl⟩⟩
      rcases hown.2 with ⟨rfl, rfl⟩ | ⟨g, cap, cur, rfl, _, _, hnc, _⟩
      · simp [Builtin.append_, run_underlying ht, sizeOf, typeInfo, hi, Builtin.lenOf, Builtin.firstCells]
      · simp [Builtin.append_, run_underlying ht, sizeOf, typeInfo, hi, Builtin.lenOf, Builtin.firstCells, hnc, storeCells]
    | some a =>
      obtain ⟨v', w', h1, h2, h3, _⟩ := run_append_own_at (P := P) (w := w) base t ty e i _ 3 32 ht hi hz hsize hby rfl (by decide) v n xs hown a 0 c [] rfl (fun j u hj => by simp at hj) (fun u hu => by simp at hu) (by simpa using h63) (by simpa using hbytes) hbase
      exact ⟨v', w', h1, by simpa using h2, h3⟩
  · obtain ⟨v', w', h1, h2, h3, _⟩ := run_append_own_at (P := P) (w := w) base t ty e i _ 3 32 ht hi hz hsize hby rfl (by decide) v n xs hown ⟨b, o, none⟩ zs.length c (zs.flatMap valC) (flat_len valC 3 (fun _ => rfl) zs)
      (fun j u hj => vals_cells (B := w.heap.size) ⟨hx.1, .inr ⟨b, o, c, rfl, hcap, hb, hc⟩⟩ j u hj) (valC_one zs) h63 hbytes hbase
    exact ⟨v', w', h1, h2, h3⟩
theorem wpList_append_vals {P : Program} {w : World} {ops : Array Oper} {rest : List Oper} {o : Oper} {a : Act} {Q : Exit → Act → World → Prop} (hw : Region.wanted o (yielded ops a.tmps) = true) (s x : Operand) (t : TypeId)
    (ho : o.op = .call { callee := .builtin .append, args := #[s, x], argTypes := #[t, t] })
    (base : Nat) (e : TypeId) (i : TypeInfo) (ht : P.underlying t = some (.slice e)) (hi : P.info? e = some i) (hz : i.zero = some (.agg #[.bool false, .int .i64 0, .string ⟨#[]⟩])) (hsize : i.size = 3) (hby : i.bytes = 32)
    (v : Value) (n : Nat) (xs : List Value) (hs : a.eval s = v) (hown : w.ownsRow base e 3 v n xs) (xv : Value) (zs : List Val) (hxv : a.eval x = xv) (hx : ValsAt w w.heap.size xv zs) (h63 : n + zs.length ≤ maxLen) (hbytes : (n + zs.length) * 32 ≤ 140737488355328) (hbase : base ≤ w.heap.size)
    (h : ∀ v' w', w'.ownsRow base e 3 v' (n + zs.length) (xs ++ zs.flatMap valC) → w.grownBy w' v.ownBlock → wpList P ops Q rest (a.put o.dst v') w') : wpList P ops Q (o :: rest) a w := by
  refine wpList_step fun K hK => ?_
  rw [if_pos hw]
  obtain ⟨v', w', hr, h2, h3⟩ := run_append_vals (P := P) base t o.type e i ht hi hz hsize hby v n xs hown xv zs hx h63 hbytes hbase
  unfold Oper.wp execOp
  simp only [ho, resolve, invoke, builtin, Sem.run_bind, Sem.run_pure, Result.andThen_ok, List.map_toArray, List.map_cons, List.map_nil, hs, hxv, hr]
  exact hK _ _ (h v' w' h2 h3)
theorem rows_changed {B0 : Nat} {w W' : World} {v lv : Value} {lvs : List Value} {cols : List (List Val)} {g c k : Nat} {new : List Val} (hin : Inn B0 w v lvs cols) (hv : v = .slice (some ⟨g, 0, none⟩) lvs.length c) (hc : lvs.length ≤ c) (hg : g < w.heap.size) (hl : cols.length ≤ 9223372036854775807)
    (hs : w.heap.size ≤ W'.heap.size) (hold : ∀ q, q < w.heap.size → q ≠ g → W'.heap[q]? = w.heap[q]?) (hcell : ∀ j (h : j < lvs.length), j ≠ k → W'.cell? ⟨g, j, none⟩ = some (lvs[j]'h)) (hk : W'.cell? ⟨g, k, none⟩ = some lv) (hnew : ValsAt W' W'.heap.size lv new) :
    RowsAt W' W'.heap.size v (cols.set k new) := by
  refine ⟨by rw [List.length_set]; exact hl, .inr ⟨g, 0, c, by rw [List.length_set, ← hin.1]; exact hv, by rw [List.length_set, ← hin.1]; exact hc, by omega, fun j hj => ?_⟩⟩
  rw [List.length_set] at hj
  have hj' : j < lvs.length := by rw [hin.1]; exact hj
  by_cases e : j = k
  · subst e
    exact ⟨lv, by rw [Nat.zero_add]; exact hk, by rw [List.getElem_set_self]; exact hnew⟩
  · refine ⟨lvs[j]'hj', by rw [Nat.zero_add]; exact hcell j hj' e, ?_⟩
    rw [List.getElem_set_ne (Ne.symm e)]
    obtain ⟨h1, h2⟩ := hin.2 j hj' hj
    exact (h1.keep fun q hq ho => hold q hq (fun eq => (h2 q ho).2.2 (by rw [hv, eq]; rfl))).up hs
theorem vals_stored {w W' : World} {gb c i : Nat} {vals : List Val} {u : Val} (hl : vals.length ≤ 9223372036854775807) (hc : vals.length ≤ c) (hb : gb < W'.heap.size) (h : ∀ j (hj : j < vals.length), ValCells w gb (j * 3) (vals[j]'hj))
    (hw : ∀ o, o ≠ i * 3 → o ≠ i * 3 + 1 → o ≠ i * 3 + 2 → W'.cell? ⟨gb, o, none⟩ = w.cell? ⟨gb, o, none⟩) (h0 : ValCells W' gb (i * 3) u) : ValsAt W' W'.heap.size (.slice (some ⟨gb, 0, none⟩) vals.length c) (vals.set i u) := by
  refine ⟨by rw [List.length_set]; exact hl, .inr ⟨gb, 0, c, by rw [List.length_set], by rw [List.length_set]; exact hc, hb, fun j hj => ?_⟩⟩
  rw [List.length_set] at hj
  rw [Nat.zero_add]
  by_cases e : j = i
  · subst e
    rw [List.getElem_set_self]; exact h0
  · rw [List.getElem_set_ne (Ne.symm e)]
    obtain ⟨q0, q1, q2⟩ := h j hj
    exact ⟨(hw _ (by omega) (by omega) (by omega)).trans q0, (hw _ (by omega) (by omega) (by omega)).trans q1, (hw _ (by omega) (by omega) (by omega)).trans q2⟩
end Go.Proofs.Ytploieofmnlomaa
