/-
  VECTORCHOSEN: the walk. Conditions: none.
-/
import Derived.Test.YtploieofmnlomaaVaw
import Derived.Test.YtploieofmnlomaaVrw
import Derived.Test.YtploieofmnlomaaKsc
import Derived.Test.YtploieofmnlomaaKpr
import Derived.Test.YtploieofmnlomaaOps
set_option linter.unusedVariables false
set_option linter.unusedSimpArgs false
namespace Go.Proofs.Ytploieofmnlomaa
open Go.RowKit Go.ChangeShapes Go.WideShapes Go.ChangeAt
/-! ### The rows of True's places are the rows for which the predicate is True -/
theorem fold_same : ∀ (l : List (List Val)) (r : Nat), (∀ x ∈ l, x.length = r) → l.foldl (fun n l => min n l.length) r = r
  | [], _, _ => rfl
  | y :: l, r, h => by
    simp only [List.foldl_cons]
    rw [h y (by simp), Nat.min_self]
    exact fold_same l r fun x hx => h x (by simp [hx])
theorem minN_cols {n : Nat} {rows : List (List Val)} (h1 : 1 ≤ n) : minN (colsOf n rows) (colsOf n rows).length = rows.length := by
  have h0 : 0 < (colsOf n rows).length := by rw [colsOf_len]; exact h1
  unfold minN
  rw [List.take_length, headD_at h0, colsOf_at, colOf_len]
  refine fold_same _ _ fun x hx => ?_
  obtain ⟨i, hi, rfl⟩ := List.getElem_of_mem hx
  rw [colsOf_at, colOf_len]
theorem sel_rows {n : Nat} {rows : List (List Val)} {f : List Val → Int} (hl : ∀ r ∈ rows, r.length = n) : ∀ k, k ≤ rows.length → selK (colsOf n rows) rows.length (selF (rows.map f) k) = (rows.take k).filter fun r => f r == 1
  | 0, _ => rfl
  | k + 1, h => by
    have hk : k < rows.length := h
    have ih := sel_rows (f := f) hl k (Nat.le_of_lt hk)
    have gd : (rows.map f).getD k 0 = f (rows[k]'hk) := by
      rw [List.getD_eq_getElem?_getD, List.getElem?_eq_getElem (by rw [List.length_map]; exact hk), Option.getD_some, List.getElem_map]
    rw [List.take_succ_eq_append_getElem hk, List.filter_append, ← ih]
    rw [show selF (rows.map f) (k + 1) = if (rows.map f).getD k 0 = 1 then selF (rows.map f) k ++ [(k : Int)] else selF (rows.map f) k from rfl, gd]
    have ib : inb rows.length (k : Int) = true := by unfold inb; simp; exact hk
    by_cases q : f (rows[k]'hk) = 1
    · rw [if_pos q]
      unfold selK
      rw [List.filter_append, List.map_append]
      simp [List.filter, ib, q, rowOf_colsOf hk (hl _ (List.getElem_mem hk))]
    · rw [if_neg q]
      have q' : (f (rows[k]'hk) == 1) = false := by simpa using q
      simp [List.filter, q']
theorem chosen_law {n : Nat} {rows : List (List Val)} {f : List Val → Int} (h1 : 1 ≤ n) (hl : ∀ r ∈ rows, r.length = n) : rowsF (colsOf n rows) (selF (rows.map f) (rows.map f).length) = rows.filter fun r => f r == 1 := by
  unfold rowsF
  rw [if_neg (by intro e; have := colsOf_len n rows; rw [e] at this; simp at this; omega), minN_cols h1, List.length_map, sel_rows hl _ (Nat.le_refl _), List.take_length]
set_option maxRecDepth 8000 in
set_option maxHeartbeats 2000000 in
theorem vco_walk (vx vl vm : Value) (zx zl zm : List Int) (w : World) (h0 : IntsAt w w.heap.size vx zx) (h1 : IntsAt w w.heap.size vl zl) (h2 : IntsAt w w.heap.size vm zm) :
    Calls Try.prog 7 #[vx, vl, vm] w fun e w' => e = .returned (.bool true) ∧ Below w.heap.size w w' := by
  have H0 := Lib.hid h0
  have H1 := Lib.hid h1
  have H2 := Lib.hid h2
  clear h0 h1 h2
  go_enter Try.func7, Try.ntmps7
  go_upto_region 2 with (go_at_call 11; refine (keepSchema_any _ _ _ H0.out).mono ?_; rintro e w1 ⟨cv, cs, key, rfl, hc1, hs1, hl1, hb1⟩; obtain ⟨x1, rfl⟩ := Ext.of hb1; obtain ⟨ca, cc, rfl⟩ := cols_end hc1; obtain ⟨nn, hnn⟩ : ∃ nn, cs.length = nn := ⟨_, rfl⟩; rw [hnn] at hc1 hl1 ⊢; have HNN := Lib.hid hnn; clear hnn)
  refine captureM ?_
  intro y ey
  have yb1 : Below x1.it.heap.size x1.it y := by rw [ey]; exact (by repeat (first | with_reducible exact Below.refl _ _ | with_reducible assumption | with_reducible refine Below.al ?_ _ | with_reducible refine Below.on ?_ _ | with_reducible refine Below.st ?_ (by first | assumption | (simp; done) | (simp; omega)) _ | with_reducible refine Below.drew ?_))
  have yb : Below w.heap.size w y := by rw [ey]; exact (by repeat (first | with_reducible exact Below.refl _ _ | with_reducible assumption | with_reducible refine Below.al ?_ _ | with_reducible refine Below.on ?_ _ | with_reducible refine Below.st ?_ (by first | assumption | (simp; done) | (simp; omega)) _ | with_reducible refine Below.drew ?_))
  have z0 : x1.it.heap.size < y.heap.size := by rw [ey]; simp
  have s0 : y.cell? ⟨x1.it.heap.size, 0, none⟩ = some (.slice ca nn cc) := by rw [ey]; simp (maxDischargeDepth := 9) [go_sem, *]
  have s1 : y.cell? ⟨x1.it.heap.size, 1, none⟩ = some (.int .i64 key) := by rw [ey]; simp (maxDischargeDepth := 9) [go_sem, *]
  have HC := Lib.hid (hc1.mono yb1 yb1.size)
  have HS := Lib.hid hs1
  have I1 := Lib.hid ((H1.out.to fun k hk => yb.block k hk).mono yb.size)
  have I2 := Lib.hid (H2.out)
  clear ey hc1 hs1 hb1 yb1 H0 H1 H2
  generalize x1.it.heap.size = SB at *
  clear x1
  go_upto_region 3 with (go_at_call 12; refine Calls.mono (kpred_any _ cs key vl zl _ HC.out I1.out HS.out) ?_; rintro e w2 ⟨pv, ns, rfl, hn2, hp2, hl2, hb2⟩; obtain ⟨pa, pc, rfl⟩ := nods_end hn2; obtain ⟨np, hnp⟩ : ∃ np, ns.length = np := ⟨_, rfl⟩; rw [hnp] at hn2 hl2 ⊢; have HN2 := Lib.hid hn2; have HP2 := Lib.hid hp2; have HB2 := Lib.hid hb2; have HNP := Lib.hid hnp; have t0 := (hb2.cell (p := ⟨SB, 0, none⟩) z0).trans s0; have t1 := (hb2.cell (p := ⟨SB, 1, none⟩) z0).trans s1; have z2 := Nat.lt_of_lt_of_le z0 hb2.size; clear hn2 hp2 hnp)
  have HC2 := Lib.hid (HC.out.mono HB2.out HB2.out.size)
  have yb2 : Below w.heap.size w w2 := yb.trans (HB2.out.mono yb.size)
  have J2 := Lib.hid ((I2.out.to fun k hk => yb2.block k hk).mono yb2.size)
  have SP := Lib.hid (schema_parts HS.out)
  clear s0 s1 z0 hb2 I1 I2
  go_upto_region 4 with (go_at_call 14; refine Calls.mono (rows_any _ cs key vm zm 9 _ HC2.out J2.out (by decide) (by decide) SP.out.1 SP.out.2.2.1) ?_; rintro e w3 ⟨rv, rows, rfl, hr3, hl3, hv3, hb3⟩; obtain ⟨ra, rc, rfl⟩ := rows_end hr3; obtain ⟨nr, hnr⟩ : ∃ nr, rows.length = nr := ⟨_, rfl⟩; rw [hnr] at hr3 hl3 ⊢; have HR3 := Lib.hid hr3; have HV3 := Lib.hid hv3; have HB3 := Lib.hid hb3; have HNR := Lib.hid hnr; have q0 := (hb3.cell (p := ⟨SB, 0, none⟩) z2).trans t0; have q1 := (hb3.cell (p := ⟨SB, 1, none⟩) z2).trans t1; have z3 := Nat.lt_of_lt_of_le z2 hb3.size; clear hr3 hv3 hnr hb3)
  have HC3 := Lib.hid (HC2.out.mono HB3.out HB3.out.size)
  have HN3 := Lib.hid (HN2.out.mono HB3.out HB3.out.size)
  have yb3 : Below w.heap.size w w3 := yb2.trans (HB3.out.mono yb2.size)
  have L4 : rows.length ≤ 4096 := by rw [HNR.out]; omega
  have CE := Lib.hid (colsOf_ok SP.out.2.1 L4 HV3.out)
  have FR := Lib.hid (filt_rows (cs := cs) (ns := ns) SP.out.2.1 (fun r hr => (HV3.out r hr).1))
  have L4' := Lib.hid L4
  clear t0 t1 z2 yb yb2 HC HC2 HN2 HB2 HB3 J2 L4
  have CH := Lib.hid (chosen_law (f := fun r => evalF cs r ns) SP.out.2.1 (fun r hr => (HV3.out r hr).1))
  go_upto_region 5 with (go_at_call 13; refine Calls.mono (columns_any _ cs key _ rows _ HC3.out HR3.out SP.out.2.2.1 L4'.out (fun r hr => (HV3.out r hr).1)) ?_; rintro e w4 ⟨colv, rfl, hr4, hb4⟩; obtain ⟨ka, kc, rfl⟩ := rows_end hr4; have HR4 := Lib.hid hr4; have HB4 := Lib.hid hb4; have p0 := (hb4.cell (p := ⟨SB, 0, none⟩) z3).trans q0; have p1 := (hb4.cell (p := ⟨SB, 1, none⟩) z3).trans q1; have z4 := Nat.lt_of_lt_of_le z3 hb4.size; clear hr4 hb4)
  have HC4 := Lib.hid (HC3.out.mono HB4.out HB4.out.size)
  have HN4 := Lib.hid (HN3.out.mono HB4.out HB4.out.size)
  have yb4 : Below w.heap.size w w4 := yb3.trans (HB4.out.mono yb3.size)
  clear q0 q1 z3 yb3
  go_upto_region 6 with (go_at_call 18; refine Calls.mono (vfilter_ok _ cs key _ ns _ _ _ HC4.out HN4.out HR4.out HP2.out CE.out SP.out.2.1) ?_; rintro e w5 ⟨tv, rfl, ht5, hb5⟩; rw [FR.out] at ht5; have HT5 := Lib.hid ht5; have HB5 := Lib.hid hb5; have r0 := (hb5.cell (p := ⟨SB, 0, none⟩) z4).trans p0; have r1 := (hb5.cell (p := ⟨SB, 1, none⟩) z4).trans p1; have z5 := Nat.lt_of_lt_of_le z4 hb5.size; clear ht5 hb5)
  have HC5 := Lib.hid (HC4.out.mono HB5.out HB5.out.size)
  have HN5 := Lib.hid (HN4.out.mono HB5.out HB5.out.size)
  have HR5 := Lib.hid ((HR3.out.mono HB4.out HB4.out.size).mono HB5.out HB5.out.size)
  have HK5 := Lib.hid (HR4.out.mono HB5.out HB5.out.size)
  have B5 := Lib.hid (yb4.trans (HB5.out.mono yb4.size))
  have nr9 : (nr : Int) ≤ 9 := hl3
  obtain ⟨i1, hj, hy0, hy1, hy2⟩ := info_parts infoRow
  clear p0 p1 z4 HR4 CE FR HC3 HN3 HR3 HC4 HN4 HB4 HB5 yb4
  go_wp2_with fail
  go_loopg [13, 38] nr (fun g v st wr => ∃ (k : Nat) (lvs : List Value), k + g = nr ∧ st = .int .i64 (k : Int) ∧ lvs.length ≤ k ∧ ∃ x : Ext w5, x.it = wr ∧ wr.ownsRow w5.heap.size 39 1 v lvs.length (lvs.flatMap one1) ∧ Inn 0 wr v lvs ((rows.take k).filter fun r => evalF cs r ns == 1))
  case atStart => exact ⟨0, [], by omega, rfl, Nat.le_refl _, ⟨w5, Below.refl _ _⟩, rfl, World.ownsRow_nil _ _ _ _, rfl, fun j hj => absurd hj (by simp)⟩
  case round =>
    obtain ⟨k, lvs, hk, rfl, hlv, x, rfl, hown, hinn⟩ := hrel
    have hx := x.below
    have OI := Lib.hid (And.intro hown hinn)
    by_cases hg0 : gk = 0
    · subst hg0
      obtain rfl : k = nr := by omega
      have TK : rows.take k = rows := List.take_of_length_le (by rw [HNR.out]; exact Nat.le_refl _)
      rw [TK] at hinn
      have LW : (rows.filter fun r => evalF cs r ns == 1).length ≤ 9223372036854775807 := by have := List.length_filter_le (fun r => evalF cs r ns == 1) rows; rw [HNR.out] at this; omega
      have RR := Lib.hid (inn_rows LW hinn hown)
      have KX := Lib.hid (HK5.out.mono hx hx.size)
      have TX := Lib.hid ((HT5.out.to fun k hk => hx.block k hk).mono hx.size)
      have hxw : Below w.heap.size w x.it := B5.out.trans (hx.mono B5.out.size)
      have LT : (rows.map fun r => evalF cs r ns).length ≤ 4096 := by rw [List.length_map]; exact L4'.out
      have LC : (colsOf cs.length rows).length ≤ 12 := by rw [colsOf_len]; exact SP.out.2.2.1
      have LS : (selF (rows.map fun r => evalF cs r ns) (rows.map fun r => evalF cs r ns).length).length ≤ 4096 := Nat.le_trans (selF_len _ _) LT
      have LTH := Lib.hid LT
      have LCH := Lib.hid LC
      have LSH := Lib.hid LS
      clear hk hown hinn TK OI LW LT LC LS
      go_wp2_with (first | (go_at_call 17; refine (awake25 _).mono ?_; rintro e w6 ⟨rfl, hb6⟩; obtain ⟨x6, rfl⟩ := Ext.of hb6) | (go_at_call 10; refine Calls.mono (select_ints _ _ _ ((TX.out.to fun k hk => x6.below.block k hk).mono x6.below.size) LTH.out) ?_; rintro e w7 ⟨sv, rfl, hs7, hb7⟩; obtain ⟨x7, rfl⟩ := Ext.of hb7; have HS7 := Lib.hid hs7; clear hs7) | (go_at_call 21; refine Calls.mono (vrows_any _ _ _ _ _ ((KX.out.mono x6.below x6.below.size).mono x7.below x7.below.size) HS7.out LCH.out LSH.out) ?_; rw [CH.out]; rintro e w8 ⟨gv, rfl, hg8, hb8⟩; obtain ⟨x8, rfl⟩ := Ext.of hb8; have HG8 := Lib.hid hg8; clear hg8) | (go_at_call 20; refine Calls.mono (same_lists _ _ _ _ HG8.out (((RR.out.mono x6.below x6.below.size).mono x7.below x7.below.size).mono x8.below x8.below.size)) ?_; rintro e w9 ⟨rfl, hb9⟩; obtain ⟨x9, rfl⟩ := Ext.of hb9))
      exact bodyPost_ret (v := .bool true) (by simp [results, Try.results7, go_sem, *]) rfl (⟨rfl, by repeat (first | with_reducible exact Below.refl _ _ | with_reducible assumption | with_reducible refine Below.al ?_ _ | with_reducible refine Below.on ?_ _ | with_reducible refine Below.st ?_ (by first | assumption | (simp; done) | (simp; omega)) _ | with_reducible refine Below.drew ?_)⟩)
    · have hkm : k < nr := by omega
      have hkm' : (k : Int) < (nr : Int) := by omega
      have hkl : k < rows.length := by rw [HNR.out]; exact hkm
      obtain ⟨rb, ro, rfl, _, hrb, lv, e0, hlr⟩ := rows_in HR5.out hkl
      have RV := HV3.out _ (List.getElem_mem hkl)
      have WT := Lib.hid (show (rows.take (k + 1)).filter (fun r => evalF cs r ns == 1) = (rows.take k).filter (fun r => evalF cs r ns == 1) ++ [rows[k]'hkl].filter (fun r => evalF cs r ns == 1) by rw [List.take_succ_eq_append_getElem hkl, List.filter_append])
      obtain ⟨row, hrow⟩ : ∃ row, rows[k]'hkl = row := ⟨_, rfl⟩
      rw [hrow] at hlr RV WT
      obtain ⟨la, lc, rfl⟩ := vals_end hlr
      have r0l : 0 < row.length := by rw [RV.1]; exact SP.out.2.1
      obtain ⟨vb, vo, rfl, _, hvb, _⟩ := vals_in hlr r0l
      have HLi := Lib.hid (hlr.mono hx hx.size)
      have HCi := Lib.hid (HC5.out.mono hx hx.size)
      have HNi := Lib.hid (HN5.out.mono hx hx.size)
      obtain ⟨tr, htr⟩ : ∃ tr, evalF cs row ns = tr := ⟨_, rfl⟩
      have EP : evalP cs key ns row = (tr, 0) := by
        have e1 : rowE cs row = 0 := by unfold rowE; rw [if_pos RV.1]; exact rowEs_pre fun i h h' => RV.2 i h' h
        unfold evalP
        rw [if_pos HP2.out, if_pos e1, htr]
      have EV := Lib.hid (by have h := refEval_any _ cs key _ ns _ row x.it HCi.out HNi.out HLi.out; rw [EP] at h; exact h)
      obtain ⟨rl, hrl⟩ : ∃ rl, row.length = rl := ⟨_, rfl⟩
      rw [hrl] at e0 HLi EV
      have g0 := (hx.cell (p := ⟨SB, 0, none⟩) z5).trans r0
      have g1 := (hx.cell (p := ⟨SB, 1, none⟩) z5).trans r1
      have ge := (hx.cell (p := ⟨rb, ro + k, none⟩) hrb).trans e0
      have zs : SB < x.it.heap.size := Nat.lt_of_lt_of_le z5 hx.size
      have zr : rb < x.it.heap.size := Nat.lt_of_lt_of_le hrb hx.size
      have VB : Hid (∀ W : World, x.it.heap.size ≤ W.heap.size → ∀ b, Value.ownBlock (.slice (some ⟨vb, vo, none⟩) rl lc) = some b → 0 ≤ b ∧ b < W.heap.size ∧ u13.ownBlock ≠ some b) := Lib.hid fun W hW b hb => by
        have hb' : vb = b := by simpa [Value.ownBlock] using hb
        subst hb'
        exact ⟨Nat.zero_le _, Nat.lt_of_lt_of_le hvb (Nat.le_trans hx.size hW), fun e => by have := (hown.lt vb e).1; omega⟩
      have HK := Lib.hid (And.intro (And.intro hk hg0) hlv)
      have HTR := Lib.hid htr
      have hxs := hx.size
      clear hk hg0 e0 hlr hrow RV EP hlv hown hinn htr r0 r1 HCi HNi hrl
      go_upto_region 11 with (go_at_call 19; refine Calls.mono EV.out ?_; rintro e w6 ⟨rfl, hb6⟩; obtain ⟨x6, rfl⟩ := Ext.of hb6)
      by_cases t1 : tr = 1
      · subst t1
        have W1 := Lib.hid (show (rows.take (k + 1)).filter (fun r => evalF cs r ns == 1) = (rows.take k).filter (fun r => evalF cs r ns == 1) ++ [row] by rw [WT.out]; simp [List.filter, HTR.out])
        have I2 := Lib.hid (And.intro (own_to OI.out.1 x6.below) (OI.out.2.on x6.below))
        have VV := Lib.hid (HLi.out.mono x6.below x6.below.size)
        have V2 := Lib.hid (VB.out x6.it x6.below.size)
        have XB := Lib.hid (hx.trans (x6.below.mono hx.size))
        have zx := x6.below.size
        have lk : lvs.length ≤ 9 := by have := HK.out; omega
        clear OI VB g0 g1 ge EV WT HLi
        generalize x6.it = Z at *
        clear x6
        go_wp2_with (at_builtin; go_must (refine wpList_append_lies _ rfl _ _ 30 rfl w5.heap.size 39 i1 _ 1 24 Try.underlying30 hj hy0 hy1 hy2 rfl (by decide) u13 lvs.length (lvs.flatMap one1) rfl (I2.out.1.alloc _) ⟨Z.heap.size, 0, none⟩ 1 1 [.slice (some ⟨vb, vo, none⟩) rl lc] rfl rfl (World.news_of_block (heap_alloc_new Z _)) (by simp [Value.oneCell']) (by omega) (by unfold maxLen; omega) (by omega) (by simp; omega) (Z.heap.size + 1) (by simp) ?_); intro gb cap w4 hown hgrow hat hlt4; go_must (have MS := Lib.hid (And.intro hown (And.intro (Inn.step (v1 := .slice (some ⟨gb, 0, none⟩) (lvs.length + 1) cap) (I2.out.2.on ((Below.refl _ _).alloc (Nat.le_refl _) _)) ((VV.out.mono ((Below.refl _ _).alloc (Nat.le_refl _) _) (by simp))) (fun k hk => ⟨(V2.out k hk).1, by have := (V2.out k hk).2.1; simp; omega, (V2.out k hk).2.2⟩) hgrow (hat.imp (fun q => q.trans rfl) (fun q => by rw [q]; simp [Value.ownBlock]))) (show Below w5.heap.size w5 w4 from Below.gr (Below.al XB.out _) I2.out.1 hgrow)))); clear hown hgrow hat hlt4)
        go_roundg (gk - 1)
        case measure => have := HK.out; omega
        case rel =>
          refine ⟨k + 1, lvs ++ [.slice (some ⟨vb, vo, none⟩) rl lc], by have := HK.out; omega, by go_num, by rw [List.length_append]; have := HK.out.2; simp; omega, ⟨_, MS.out.2.2⟩, rfl, ?_, ?_⟩
          · rw [List.length_append, List.flatMap_append]; exact MS.out.1
          · rw [W1.out]; exact MS.out.2.1
      · have t1' : (tr == 1) = false := by simpa using t1
        have W1 := Lib.hid (show (rows.take (k + 1)).filter (fun r => evalF cs r ns == 1) = (rows.take k).filter (fun r => evalF cs r ns == 1) by rw [WT.out]; simp [List.filter, HTR.out, t1'])
        go_wp2
        go_roundg (gk - 1)
        case measure => have := HK.out; omega
        case rel => exact ⟨k + 1, lvs, by have := HK.out; omega, by go_num, by have := HK.out.2; omega, ⟨_, hx.trans (x6.below.mono hx.size)⟩, rfl, own_to OI.out.1 x6.below, by rw [W1.out]; exact OI.out.2.on x6.below⟩
end Go.Proofs.Ytploieofmnlomaa
