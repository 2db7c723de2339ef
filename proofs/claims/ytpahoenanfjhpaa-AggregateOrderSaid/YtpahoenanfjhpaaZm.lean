/-
  CHAPTER 26: Vea, Vrw, Vco (several texts in one). Conditions: each theorem states its own.
-/
import Derived.Test.YtpahoenanfjhpaaColz
import Derived.Test.YtpahoenanfjhpaaZj
set_option linter.unusedVariables false
set_option linter.unusedSimpArgs false
namespace Go.Proofs.Ytpahoenanfjhpaa
open Go.RowKit
theorem colsOf_at {n k : Nat} {rows : List (List Val)} (h : k < (colsOf n rows).length) : (colsOf n rows)[k]'h = colOf k rows := by simp [colsOf]
theorem colsOf_len (n : Nat) (rows : List (List Val)) : (colsOf n rows).length = n := by simp [colsOf]
theorem colOf_len (k : Nat) (rows : List (List Val)) : (colOf k rows).length = rows.length := by simp [colOf]
theorem listErr_0 {c : Col} : ∀ {l : List Val}, (∀ v ∈ l, vchk c.ty c.nul v.null v.n v.s = 0) → listErr c l = 0
  | [], _ => rfl
  | v :: r, h => by
    simp only [listErr]
    rw [if_pos (h v (by simp))]
    exact listErr_0 fun u hu => h u (by simp [hu])
theorem valsErr_0 : ∀ {cs : List Col} {ls : List (List Val)}, (∀ k (h : k < cs.length) (h' : k < ls.length), listErr (cs[k]'h) (ls[k]'(h')) = 0) → valsErr cs ls = 0
  | [], _, _ => rfl
  | _ :: _, [], _ => rfl
  | c :: cs, l :: ls, h => by
    have h0 := h 0 (by simp) (by simp)
    simp only [List.getElem_cons_zero] at h0
    simp only [valsErr]
    rw [if_pos h0]
    exact valsErr_0 fun k hk hk' => h (k + 1) (by simpa using hk) (by simpa using hk')
theorem colsOf_ok {cs : List Col} {rows : List (List Val)} (h1 : 1 ≤ cs.length) (h4 : rows.length ≤ 4096) (hv : ∀ r ∈ rows, r.length = cs.length ∧ RowPre cs r) : colsErr cs (colsOf cs.length rows) = 0 := by
  have h0 : 0 < (colsOf cs.length rows).length := by rw [colsOf_len]; exact h1
  rw [colsErr_eq (n := rows.length) (colsOf_len _ _) h0 (by rw [colsOf_at, colOf_len])]
  have LF : lenOff rows.length (colsOf cs.length rows) = false := by
    unfold lenOff
    rw [List.any_eq_false]
    intro l hl
    obtain ⟨k, _, rfl⟩ := List.mem_map.1 hl
    simp [colOf_len]
  rw [LF, if_neg (by simp), if_neg (by omega)]
  refine valsErr_0 fun k hk hk' => listErr_0 fun v hvv => ?_
  rw [colsOf_at] at hvv
  obtain ⟨r, hr, rfl⟩ := List.mem_map.1 hvv
  obtain ⟨q1, q2⟩ := hv r hr
  rw [getDv_in (by rw [q1]; exact hk)]
  exact q2 k (by rw [q1]; exact hk) hk
theorem rowOf_colsOf {n k : Nat} {rows : List (List Val)} (hk : k < rows.length) (hl : (rows[k]'hk).length = n) : rowOf (colsOf n rows) k = rows[k]'hk := by
  refine List.ext_getElem (by simp [rowOf, colsOf, hl]) fun i h1 h2 => ?_
  have hi : i < n := by rw [← hl]; exact h2
  simp only [rowOf, colsOf, List.getElem_map, List.getElem_range]
  rw [getDv_in (by rw [colOf_len]; exact hk)]
  simp only [colOf, List.getElem_map]
  rw [getDv_in h2]
theorem filt_rows {cs : List Col} {ns : List Nod} {rows : List (List Val)} (h1 : 1 ≤ cs.length) (hl : ∀ r ∈ rows, r.length = cs.length) : filtF cs ns (colsOf cs.length rows) = rows.map fun r => evalF cs r ns := by
  have h0 : 0 < (colsOf cs.length rows).length := by rw [colsOf_len]; exact h1
  have hh : ((colsOf cs.length rows).headD []).length = rows.length := by rw [headD_at h0, colsOf_at, colOf_len]
  unfold filtF
  rw [hh]
  refine List.ext_getElem (by simp) fun i h1 h2 => ?_
  have hi : i < rows.length := by simpa using h1
  simp only [List.getElem_map, List.getElem_range]
  rw [rowOf_colsOf hi (hl _ (List.getElem_mem hi))]
end Go.Proofs.Ytpahoenanfjhpaa
namespace Go.Proofs.Ytpahoenanfjhpaa
open Go.RowKit
/-- The shortest column of the first k. -/
def minN (cols : List (List Val)) (k : Nat) : Nat := (cols.take k).foldl (fun n l => min n l.length) (cols.headD []).length
theorem minN_succ {cols : List (List Val)} {k : Nat} (h : k < cols.length) : minN cols (k + 1) = min (minN cols k) (cols[k]'h).length := by
  unfold minN; rw [List.take_succ_eq_append_getElem h, List.foldl_append]; rfl
theorem fold_min : ∀ (l : List (List Val)) (a : Nat), l.foldl (fun n l => min n l.length) a ≤ a ∧ ∀ x ∈ l, l.foldl (fun n l => min n l.length) a ≤ x.length
  | [], a => ⟨Nat.le_refl _, fun x hx => absurd hx (by simp)⟩
  | y :: l, a => by
    obtain ⟨h1, h2⟩ := fold_min l (min a y.length)
    refine ⟨Nat.le_trans h1 (Nat.min_le_left _ _), fun x hx => ?_⟩
    rcases List.mem_cons.1 hx with rfl | hx
    · exact Nat.le_trans h1 (Nat.min_le_right _ _)
    · exact h2 x hx
theorem minN_le {cols : List (List Val)} {j : Nat} (h : j < cols.length) : minN cols cols.length ≤ (cols[j]'h).length := by
  unfold minN
  rw [List.take_length]
  exact (fold_min cols _).2 _ (List.getElem_mem h)
def inb (N : Nat) (i : Int) : Bool := decide (0 ≤ i ∧ i < N)
def selK (cols : List (List Val)) (N : Nat) (sel : List Int) : List (List Val) := (sel.filter (inb N)).map fun i => rowOf cols i.toNat
/-- The rows of places. -/
def rowsF (cols : List (List Val)) (sel : List Int) : List (List Val) := if cols = [] then [] else selK cols (minN cols cols.length) sel
theorem selK_len (cols : List (List Val)) (N : Nat) (sel : List Int) : (selK cols N sel).length ≤ sel.length := by
  unfold selK; rw [List.length_map]; exact List.length_filter_le _ _
theorem selK_in {cols : List (List Val)} {N k : Nat} {sel : List Int} (h : k < sel.length) {I : Nat} (e : sel[k]'h = (I : Int)) (hI : I < N) : selK cols N (sel.take (k + 1)) = selK cols N (sel.take k) ++ [rowOf cols I] := by
  unfold selK
  rw [List.take_succ_eq_append_getElem h, List.filter_append, List.map_append, e]
  have : inb N (I : Int) = true := by unfold inb; simp; exact hI
  simp [List.filter, this]
theorem selK_out {cols : List (List Val)} {N k : Nat} {sel : List Int} (h : k < sel.length) (e : ¬ (0 ≤ sel[k]'h ∧ sel[k]'h < N)) : selK cols N (sel.take (k + 1)) = selK cols N (sel.take k) := by
  unfold selK
  rw [List.take_succ_eq_append_getElem h, List.filter_append, List.map_append]
  have : inb N (sel[k]'h) = false := by unfold inb; exact decide_eq_false e
  simp [List.filter, this]
theorem rowOf_take {cols : List (List Val)} {j I : Nat} (h : j < cols.length) : rowOf (cols.take (j + 1)) I = rowOf (cols.take j) I ++ [(cols[j]'h).getD I Val.zero] := by
  unfold rowOf; rw [List.take_succ_eq_append_getElem h, List.map_append]; rfl
theorem lowR_own {w : World} {base base' : Nat} {e : TypeId} {size : Nat} {v : Value} {n : Nat} {xs : List Value} (h : w.ownsRow base e size v n xs) (hb : base' ≤ base) : w.ownsRow base' e size v n xs := by
  refine ⟨h.1, h.2.imp id ?_⟩
  rintro ⟨g, cap, cur, h1, h2, h3, h4⟩
  exact ⟨g, cap, cur, h1, Nat.le_trans hb h2, h3, h4⟩
theorem lowR_inn {B B0 : Nat} {w : World} {v : Value} {lvs : List Value} {rows : List (List Val)} (h : Inn B0 w v lvs rows) (hb : B ≤ B0) : Inn B w v lvs rows :=
  ⟨h.1, fun j h1 h2 => ⟨(h.2 j h1 h2).1, fun k hk => ⟨Nat.le_trans hb ((h.2 j h1 h2).2 k hk).1, ((h.2 j h1 h2).2 k hk).2⟩⟩⟩
set_option maxRecDepth 8000 in
set_option maxHeartbeats 1000000 in
theorem vrows_any (cv : Value) (cols : List (List Val)) (sv : Value) (sel : List Int) (w : World) (hc : RowsAt w w.heap.size cv cols) (hs : IntsAt w w.heap.size sv sel) (h12 : cols.length ≤ 12) (h4 : sel.length ≤ 4096) :
    Calls Try.prog 39 #[cv, sv] w fun e w' => ∃ v lvs, e = .returned v ∧ RowsAt w' w'.heap.size v (rowsF cols sel) ∧ w'.ownsRow w.heap.size 41 1 v lvs.length (lvs.flatMap one1) ∧ Inn w.heap.size w' v lvs (rowsF cols sel) ∧ Below w.heap.size w w' := by
  obtain ⟨i0, hi, hz0, hz1, hz2⟩ := info_parts infoVal
  obtain ⟨i1, hj, hy0, hy1, hy2⟩ := info_parts infoRow
  obtain ⟨ca, cc, rfl⟩ := rows_end hc
  obtain ⟨sa, sc, rfl⟩ := ints_end hs
  obtain ⟨nc, hl⟩ : ∃ nc, cols.length = nc := ⟨_, rfl⟩
  obtain ⟨m, hm⟩ : ∃ m, sel.length = m := ⟨_, rfl⟩
  have HC := Lib.hid hc
  have HS := Lib.hid hs
  have HL := Lib.hid hl
  have HM := Lib.hid hm
  rw [hl] at h12 HC ⊢
  rw [hm] at h4 HS ⊢
  clear hc hs hl hm
  by_cases hn0 : nc = 0
  · subst hn0
    have e0 : cols = [] := List.eq_nil_of_length_eq_zero HL.out
    have RF : rowsF cols sel = [] := by unfold rowsF; rw [if_pos e0]
    rw [RF]
    clear RF e0
    go_enter Try.func39, Try.ntmps39
    go_wp2
    exact bodyPost_ret (v := .slice none 0 0) (by simp [results, Try.results39, go_sem, *]) rfl (⟨_, [], rfl, ⟨by simp, .inl ⟨rfl, none, 0, rfl⟩⟩, World.ownsRow_nil _ _ _ _, ⟨rfl, fun j h => absurd h (by simp)⟩, by repeat (first | with_reducible exact Below.refl _ _ | with_reducible assumption | with_reducible refine Below.al ?_ _ | with_reducible refine Below.on ?_ _ | with_reducible refine Below.st ?_ (by first | assumption | (simp; done) | (simp; omega)) _ | with_reducible refine Below.drew ?_)⟩)
  · have hnz : ((nc : Int) == 0) = false := by simp; omega
    have h0l : 0 < cols.length := by rw [HL.out]; omega
    obtain ⟨rb0, ro0, rfl, _, hrb0, lv0, e00, hlv0⟩ := rows_in HC.out h0l
    obtain ⟨l0a, l0c, rfl⟩ := vals_end hlv0
    rw [Nat.add_zero] at e00
    have M0 : (cols[0]'h0l).length = minN cols 0 := by unfold minN; rw [List.take_zero, headD_at h0l]; rfl
    rw [M0] at e00
    have RF : rowsF cols sel = selK cols (minN cols cols.length) sel := by unfold rowsF; rw [if_neg (by intro e; rw [e] at h0l; simp at h0l)]
    rw [RF]
    have N63 : ∀ k (h : k < cols.length), (cols[k]'h).length ≤ 9223372036854775807 := fun k h => by obtain ⟨_, _, e, _, _, lv, _, q⟩ := rows_in HC.out h; exact q.1
    have HN63 := Lib.hid N63
    have h0m : minN cols 0 ≤ 9223372036854775807 := by rw [← M0]; exact N63 0 h0l
    have nc0 : 0 < nc := by omega
    clear RF hlv0 M0 N63
    obtain ⟨N, hN⟩ : ∃ N, minN cols cols.length = N := ⟨_, rfl⟩
    have NL : Hid (∀ j (h : j < cols.length), N ≤ (cols[j]'h).length) := Lib.hid fun j h => by rw [← hN]; exact minN_le h
    rw [hN]
    have NE := Lib.hid hN
    clear hN
    go_enter Try.func39, Try.ntmps39
    go_wp2_with fail
    go_loopg [5, 23] nc (fun g s5 st wr => ∃ k : Nat, k + g = nc ∧ st = .int .i64 (k : Int) ∧ s5 = .int .i64 ((minN cols k : Nat) : Int) ∧ minN cols k ≤ 9223372036854775807 ∧ ∃ x : Ext w, x.it = wr)
    case atStart => exact ⟨0, by omega, rfl, rfl, h0m, ⟨w, Below.refl _ _⟩, rfl⟩
    case round =>
      obtain ⟨k, hk, rfl, rfl, hmk, x, rfl⟩ := hrel
      obtain ⟨ag, rfl⟩ : ∃ ag, ag = gk := ⟨_, rfl⟩
      have hx := x.below
      by_cases hga : ag = 0
      · subst hga
        obtain rfl : k = nc := by omega
        clear hk h0m
        have yb := hx
        clear hx
        obtain ⟨y, hy⟩ : ∃ y, x.it = y := ⟨_, rfl⟩
        rw [hy] at yb ⊢
        clear hy
        clear x
        have hkN : minN cols k = N := by rw [← HL.out]; exact NE.out
        rw [hkN] at hmk ⊢
        clear hkN NE
        obtain ⟨nc, rfl⟩ : ∃ nc, nc = k := ⟨_, rfl⟩
        go_wp2_with fail
        go_loopg [8, 34] m (fun g v st wr => ∃ (k : Nat) (lvs : List Value), k + g = m ∧ st = .int .i64 (k : Int) ∧ lvs.length ≤ k ∧ ∃ x : Ext y, x.it = wr ∧ wr.ownsRow y.heap.size 41 1 v lvs.length (lvs.flatMap one1) ∧ Inn y.heap.size wr v lvs (selK cols N (sel.take k)))
        case atStart => exact ⟨0, [], by omega, rfl, Nat.le_refl _, ⟨y, Below.refl _ _⟩, rfl, World.ownsRow_nil _ _ _ _, rfl, fun j hj => absurd hj (by simp)⟩
        case round =>
          obtain ⟨k, lvs, hk, rfl, hlv, x, rfl, hown, hinn⟩ := hrel
          obtain ⟨og, rfl⟩ : ∃ og, og = gk := ⟨_, rfl⟩
          have OI := Lib.hid (And.intro hown hinn)
          obtain ⟨va, vc, hv5⟩ := own_form hown
          by_cases hg0 : og = 0
          · subst hg0
            obtain rfl : k = m := by omega
            have TK : sel.take k = sel := List.take_of_length_le (by rw [HM.out]; exact Nat.le_refl _)
            rw [TK] at hinn
            have RR := Lib.hid (inn_rows (by have := selK_len cols N sel; rw [HM.out] at this; omega) hinn hown)
            have RO := Lib.hid (And.intro (lowR_own hown yb.size) (lowR_inn hinn yb.size))
            clear hk hown hinn hv5 TK OI
            go_wp2
            refine bodyPost_ret (v := u8) ?_ rfl ⟨u8, lvs, rfl, RR.out, RO.out.1, RO.out.2, yb.trans (x.below.mono yb.size)⟩
            simp (maxDischargeDepth := 9) [results, Try.results39, go_sem, *]
          · have hkm : k < m := by omega
            have hkm' : (k : Int) < (m : Int) := by omega
            have HK := Lib.hid (And.intro (And.intro hk hg0) hlv)
            have VO : Hid (∀ k, u8.ownBlock = some k → y.heap.size ≤ k ∧ k < x.it.heap.size) := Lib.hid fun k hk => hown.lt k hk
            have yxx : Below w.heap.size w x.it := yb.trans (x.below.mono yb.size)
            have hks : k < sel.length := by rw [HM.out]; exact hkm
            obtain ⟨b1, o1, c1, e1, hb1, hc1⟩ := ints_in HS.out hks
            injection e1 with e1 e2 e3
            subst e1 e3
            have f1 := (yxx.cell (p := ⟨b1, o1 + k, none⟩) hb1).trans (hc1 k hks)
            have z1 : b1 < x.it.heap.size := Nat.lt_of_lt_of_le hb1 yxx.size
            obtain ⟨iv, hiv⟩ : ∃ iv, sel[k]'hks = iv := ⟨_, rfl⟩
            have GD : sel.getD k 0 = iv := by rw [List.getD_eq_getElem?_getD, List.getElem?_eq_getElem hks]; exact hiv
            rw [GD] at f1
            have HIV := Lib.hid hiv
            clear hk hg0 hlv hown hinn hv5 hc1 e2 GD hiv yxx
            by_cases hbad : ¬ (0 ≤ iv ∧ iv < (N : Int))
            · have SO := Lib.hid (selK_out hks (by rw [HIV.out]; exact hbad) : selK cols N (sel.take (k + 1)) = selK cols N (sel.take k))
              by_cases hneg : iv < 0
              · clear hbad
                go_wp2
                go_roundg (og - 1)
                case measure => have := HK.out; omega
                case rel => exact ⟨k + 1, lvs, by have := HK.out; omega, by go_num, by have := HK.out.2; omega, x, rfl, OI.out.1, by rw [SO.out]; exact OI.out.2⟩
              · have hge : (N : Int) ≤ iv := by omega
                clear hbad
                go_wp2
                go_roundg (og - 1)
                case measure => have := HK.out; omega
                case rel => exact ⟨k + 1, lvs, by have := HK.out; omega, by go_num, by have := HK.out.2; omega, x, rfl, OI.out.1, by rw [SO.out]; exact OI.out.2⟩
            · obtain ⟨I, rfl⟩ : ∃ I : Nat, iv = (I : Int) := ⟨iv.toNat, by omega⟩
              have hIN : I < N := by omega
              have hIN' : (I : Int) < (N : Int) := by omega
              have hI0 : ¬ (I : Int) < 0 := by omega
              have SI := Lib.hid (selK_in (cols := cols) (N := N) hks HIV.out hIN)
              clear hbad HIV
              go_wp2_with fail
              go_loopg [11, 47] nc (fun g v st wr => ∃ (j : Nat), j + g = nc ∧ st = .int .i64 (j : Int) ∧ ∃ z : Ext x.it, z.it = wr ∧ wr.ownsRow x.it.heap.size 40 3 v j ((rowOf (cols.take j) I).flatMap valC))
              case atStart => exact ⟨0, by omega, rfl, ⟨x.it, Below.refl _ _⟩, rfl, World.ownsRow_nil _ _ _ _⟩
              case round =>
                obtain ⟨j, hjg, rfl, z, rfl, hown⟩ := hrel
                have OW := Lib.hid hown
                by_cases hgi : gk = 0
                · subst hgi
                  obtain rfl : j = nc := by omega
                  have TK : cols.take j = cols := List.take_of_length_le (by rw [HL.out]; exact Nat.le_refl _)
                  rw [TK] at hown
                  obtain ⟨a3, q3, rfl⟩ := own_form hown
                  have cl : (rowOf cols I).length = j := by unfold rowOf; rw [List.length_map]; exact HL.out
                  have VV : Hid (ValsAt z.it z.it.heap.size (.slice a3 j q3) (rowOf cols I)) := Lib.hid (own_vals (by omega) (by rw [cl]; exact hown))
                  have VB : Hid (∀ b, Value.ownBlock (.slice a3 j q3) = some b → y.heap.size ≤ b ∧ b < z.it.heap.size ∧ u8.ownBlock ≠ some b) := Lib.hid fun b hb => ⟨by have := (hown.lt b hb).1; have := x.below.size; omega, (hown.lt b hb).2, fun e => by have := (VO.out b e).2; have := (hown.lt b hb).1; omega⟩
                  have I2 := Lib.hid (And.intro (own_to OI.out.1 z.below) (OI.out.2.on z.below))
                  have zx := z.below.size
                  have zy := x.below.size
                  have hzb := z.below
                  have XB := Lib.hid (x.below.trans (hzb.mono x.below.size))
                  have lk : lvs.length ≤ 4096 := by have := HK.out.2; omega
                  clear OW hown TK hjg OI hzb
                  generalize z.it = Z at *
                  clear z
                  go_wp2_with (at_builtin; go_must (refine wpList_append_lies _ rfl _ _ 22 rfl y.heap.size 41 i1 _ 1 24 Try.underlying22 hj hy0 hy1 hy2 rfl (by decide) u8 lvs.length (lvs.flatMap one1) rfl (I2.out.1.alloc _) ⟨Z.heap.size, 0, none⟩ 1 1 [.slice a3 j q3] rfl rfl (World.news_of_block (heap_alloc_new Z _)) (by simp [Value.oneCell']) (by omega) (by unfold maxLen; omega) (by omega) (by simp; omega) (Z.heap.size + 1) (by simp) ?_); intro gb cap w4 hown hgrow hat hlt4; go_must (have MS := Lib.hid (And.intro hown (And.intro (Inn.step (v1 := .slice (some ⟨gb, 0, none⟩) (lvs.length + 1) cap) (I2.out.2.on ((Below.refl _ _).alloc (Nat.le_refl _) _)) ((VV.out.mono ((Below.refl _ _).alloc (Nat.le_refl _) _) (by simp))) (fun k hk => ⟨(VB.out k hk).1, by have := (VB.out k hk).2.1; simp; omega, (VB.out k hk).2.2⟩) hgrow (hat.imp (fun q => q.trans rfl) (fun q => by rw [q]; simp [Value.ownBlock]))) (show Below y.heap.size y w4 from Below.gr (Below.al XB.out _) I2.out.1 hgrow)))); clear hown hgrow hat hlt4)
                  go_roundg (og - 1)
                  case measure => have := HK.out; omega
                  case rel =>
                    refine ⟨k + 1, lvs ++ [.slice a3 j q3], by have := HK.out; omega, by go_num, by rw [List.length_append]; have := HK.out.2; simp; omega, ⟨_, MS.out.2.2⟩, rfl, ?_, ?_⟩
                    · rw [List.length_append, List.flatMap_append]; exact MS.out.1
                    · rw [SI.out]; exact MS.out.2.1
                · have hjm : j < nc := by omega
                  have hjm' : (j : Int) < (nc : Int) := by omega
                  have hjl : j < cols.length := by rw [HL.out]; exact hjm
                  have yx : Below w.heap.size w z.it := yb.trans ((x.below.trans (z.below.mono x.below.size)).mono yb.size)
                  obtain ⟨rb, ro, e1, _, hrb, lv, e0, hlr⟩ := rows_in HC.out hjl
                  injection e1 with e1
                  injection e1 with e1 e2
                  subst e1 e2
                  obtain ⟨la, lc, rfl⟩ := vals_end hlr
                  have CT := Lib.hid (rowOf_take (I := I) hjl)
                  have hIc : I < (cols[j]'hjl).length := Nat.lt_of_lt_of_le hIN (NL.out j hjl)
                  obtain ⟨vb, vo, rfl, _, hvb, d0, d1, d2⟩ := vals_in hlr hIc
                  have GD : (cols[j]'hjl).getD I Val.zero = (cols[j]'hjl)[I]'hIc := getDv_in hIc
                  obtain ⟨u, hu⟩ : ∃ u, (cols[j]'hjl)[I]'hIc = u := ⟨_, rfl⟩
                  rw [hu] at d0 d1 d2 GD
                  rw [GD] at CT
                  obtain ⟨L, hL⟩ : ∃ L, (cols[j]'hjl).length = L := ⟨_, rfl⟩
                  rw [hL] at e0 hIc
                  have hIc' : (I : Int) < (L : Int) := by omega
                  obtain ⟨un, ui, us⟩ := u
                  dsimp only at d0 d1 d2
                  have g0 := (yx.cell (p := ⟨rb0, ro0 + j, none⟩) hrb).trans e0
                  have g1 := (yx.cell (p := ⟨vb, vo + I * 3, none⟩) hvb).trans d0
                  have g2 := (yx.cell (p := ⟨vb, vo + I * 3 + 1, none⟩) hvb).trans d1
                  have g3 := (yx.cell (p := ⟨vb, vo + I * 3 + 2, none⟩) hvb).trans d2
                  have zr : rb0 < z.it.heap.size := Nat.lt_of_lt_of_le hrb yx.size
                  have zv : vb < z.it.heap.size := Nat.lt_of_lt_of_le hvb yx.size
                  have HJ := Lib.hid (And.intro hjg hgi)
                  have zx := z.below.size
                  clear d0 d1 d2 e0 hlr hu GD hjg hgi hown hL
                  obtain ⟨vs, hvs⟩ : ∃ vs, rowOf (cols.take j) I = vs := ⟨_, rfl⟩
                  rw [hvs] at OW CT
                  have ZB := Lib.hid z.below
                  go_wp2_with (at_builtin; go_must (refine wpList_append_lies _ rfl _ _ 41 rfl x.it.heap.size 40 i0 _ 3 32 Try.underlying41 hi hz0 hz1 hz2 rfl (by decide) u11 j (vs.flatMap valC) rfl (OW.out.alloc _) ⟨z.it.heap.size, 0, none⟩ 1 1 (valC ⟨un, ui, us⟩) rfl rfl (World.news_of_block (heap_alloc_new z.it _)) (by simp [valC, Value.oneCell']) (by omega) (by unfold maxLen; omega) (by omega) (by simp; omega) (z.it.heap.size + 1) (by simp) ?_); intro gb cap w4 hown hgrow hat hlt4; go_must (have MS := Lib.hid (And.intro hown (show Below x.it.heap.size x.it w4 from Below.gr (Below.al ZB.out _) OW.out hgrow))); clear hown hgrow hat hlt4)
                  go_roundg (gk - 1)
                  case measure => have := HJ.out; omega
                  case rel => exact ⟨j + 1, by have := HJ.out; omega, by go_num, ⟨_, MS.out.2⟩, rfl, by rw [CT.out, List.flatMap_append]; exact MS.out.1⟩
      · have hkm : k < nc := by omega
        have hkm' : (k : Int) < (nc : Int) := by omega
        have hkl : k < cols.length := by rw [HL.out]; exact hkm
        obtain ⟨rb, ro, e1, _, hrb, lv, e0, hlv⟩ := rows_in HC.out hkl
        injection e1 with e1
        injection e1 with e1 e2
        subst e1 e2
        obtain ⟨la, lc, rfl⟩ := vals_end hlv
        have MS := Lib.hid (minN_succ hkl)
        have L63 := HN63.out k hkl
        obtain ⟨L, hL⟩ : ∃ L, (cols[k]'hkl).length = L := ⟨_, rfl⟩
        rw [hL] at e0 MS L63
        have g0 := (hx.cell (p := ⟨rb0, ro0 + k, none⟩) hrb).trans e0
        have zr : rb0 < x.it.heap.size := Nat.lt_of_lt_of_le hrb hx.size
        obtain ⟨P, hN⟩ : ∃ P, minN cols k = P := ⟨_, rfl⟩
        rw [hN] at hmk MS ⊢
        have HK := Lib.hid (And.intro hk hga)
        clear hk hga e0 hlv hL hN
        by_cases hLN : L < P
        · have E : Hid (minN cols (k + 1) = L) := Lib.hid (by rw [MS.out]; exact Nat.min_eq_right (Nat.le_of_lt hLN))
          go_wp2
          go_roundg (ag - 1)
          case measure => have := HK.out; omega
          case rel => exact ⟨k + 1, by have := HK.out; omega, by go_num, by rw [E.out], by rw [E.out]; exact L63, x, rfl⟩
        · have E : Hid (minN cols (k + 1) = P) := Lib.hid (by rw [MS.out]; exact Nat.min_eq_left (Nat.le_of_not_lt hLN))
          go_wp2
          go_roundg (ag - 1)
          case measure => have := HK.out; omega
          case rel => exact ⟨k + 1, by have := HK.out; omega, by go_num, by rw [E.out], by rw [E.out]; exact hmk, x, rfl⟩
end Go.Proofs.Ytpahoenanfjhpaa
namespace Go.Proofs.Ytpahoenanfjhpaa
open Go.RowKit
theorem fold_same : ∀ (l : List (List Val)) (r : Nat), (∀ x ∈ l, x.length = r) → l.foldl (fun n l => min n l.length) r = r
  | [], _, _ => rfl
  | y :: l, r, h => by
    simp only [List.foldl_cons]
    rw [h y (by simp), Nat.min_self]
    exact fold_same l r fun x hx => h x (by simp [hx])
theorem minN_cols {n : Nat} {rows : List (List Val)} (h1 : 1 ≤ n) : minN (colsOf n rows) (colsOf n rows).length = rows.length := by
  have h0 : 0 < (colsOf n rows).length := by rw [colsOf_len]; exact h1
  unfold minN
  rw [List.take_length, headD_at h0, colsOf_at, colOf_len]
  refine fold_same _ _ fun x hx => ?_
  obtain ⟨i, hi, rfl⟩ := List.getElem_of_mem hx
  rw [colsOf_at, colOf_len]
theorem sel_rows {n : Nat} {rows : List (List Val)} {f : List Val → Int} (hl : ∀ r ∈ rows, r.length = n) : ∀ k, k ≤ rows.length → selK (colsOf n rows) rows.length (selF (rows.map f) k) = (rows.take k).filter fun r => f r == 1
  | 0, _ => rfl
  | k + 1, h => by
    have hk : k < rows.length := h
    have ih := sel_rows (f := f) hl k (Nat.le_of_lt hk)
    have gd : (rows.map f).getD k 0 = f (rows[k]'hk) := by
      rw [List.getD_eq_getElem?_getD, List.getElem?_eq_getElem (by rw [List.length_map]; exact hk), Option.getD_some, List.getElem_map]
    rw [List.take_succ_eq_append_getElem hk, List.filter_append, ← ih]
    rw [show selF (rows.map f) (k + 1) = if (rows.map f).getD k 0 = 1 then selF (rows.map f) k ++ [(k : Int)] else selF (rows.map f) k from rfl, gd]
    have ib : inb rows.length (k : Int) = true := by unfold inb; simp; exact hk
    by_cases q : f (rows[k]'hk) = 1
    · rw [if_pos q]
      unfold selK
      rw [List.filter_append, List.map_append]
      simp [List.filter, ib, q, rowOf_colsOf hk (hl _ (List.getElem_mem hk))]
    · rw [if_neg q]
      have q' : (f (rows[k]'hk) == 1) = false := by simpa using q
      simp [List.filter, q']
theorem chosen_law {n : Nat} {rows : List (List Val)} {f : List Val → Int} (h1 : 1 ≤ n) (hl : ∀ r ∈ rows, r.length = n) : rowsF (colsOf n rows) (selF (rows.map f) (rows.map f).length) = rows.filter fun r => f r == 1 := by
  unfold rowsF
  rw [if_neg (by intro e; have := colsOf_len n rows; rw [e] at this; simp at this; omega), minN_cols h1, List.length_map, sel_rows hl _ (Nat.le_refl _), List.take_length]
end Go.Proofs.Ytpahoenanfjhpaa
