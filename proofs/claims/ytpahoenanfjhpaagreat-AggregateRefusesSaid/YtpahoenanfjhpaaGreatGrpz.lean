/-
  The row of a group. Conditions: the state, the schema and the rows lie in memory; the query is valid; each row has the columns.
-/
import Derived.Test.YtpahoenanfjhpaaGreatZo
set_option linter.unusedVariables false
set_option linter.unusedSimpArgs false
namespace Go.Proofs.YtpahoenanfjhpaaGreat
open Go.RowKit
theorem agE_parts {cs : List Col} {a : Ag} (h : agE cs a = 0) : 1 ≤ a.op ∧ a.op ≤ 5 ∧ 0 ≤ a.col ∧ a.col < (cs.length : Int) := by
  unfold agE at h
  by_cases h1 : a.op < 1 ∨ 5 < a.op ∨ (a.op = 1 ∧ ¬ a.col = 0)
  · rw [if_pos h1] at h; omega
  · rw [if_neg h1] at h
    by_cases h2 : a.col < 0 ∨ (cs.length : Int) ≤ a.col
    · rw [if_pos h2] at h; omega
    · omega
/-- The first error of the aggregates of a group. -/
def aggsR (cs : List Col) (rows : List (List Val)) : List Ag → Int
  | [] => 0
  | a :: l => if (aggF cs a rows).2 = 0 then aggsR cs rows l else (aggF cs a rows).2
theorem aggsR_ok {cs : List Col} {rows : List (List Val)} {l : List Ag} {k : Nat} (h : k < l.length) (h0 : (aggF cs (l[k]'h) rows).2 = 0) : aggsR cs rows (l.drop k) = aggsR cs rows (l.drop (k + 1)) := by
  rw [List.drop_eq_getElem_cons h]
  show (if (aggF cs (l[k]'h) rows).2 = 0 then _ else _) = _
  rw [if_pos h0]
theorem aggsR_bad {cs : List Col} {rows : List (List Val)} {l : List Ag} {k : Nat} (h : k < l.length) (h0 : ¬ (aggF cs (l[k]'h) rows).2 = 0) : aggsR cs rows (l.drop k) = (aggF cs (l[k]'h) rows).2 := by
  rw [List.drop_eq_getElem_cons h]
  show (if (aggF cs (l[k]'h) rows).2 = 0 then _ else _) = _
  rw [if_neg h0]
def headR (gr : List Int) : List (List Val) → List Val
  | [] => []
  | r :: _ => projF r gr
/-- The row of a group, and its error. -/
def groupF (cs : List Col) (gr : List Int) (ag : List Ag) (rows : List (List Val)) : List Val × Int :=
  if aggsR cs rows ag = 0 then (headR gr rows ++ ag.map fun a => (aggF cs a rows).1, 0) else ([], aggsR cs rows ag)
def GrpPost (w : World) (l : List Val) (err : Int) (e : Ending) (w' : World) : Prop := ∃ v, e = .returned (.tuple #[v, .int .i64 err]) ∧ w'.ownsRow w.heap.size 41 3 v l.length (l.flatMap valC) ∧ Below w.heap.size w w'
theorem projF_len (r : List Val) (l : List Int) : (projF r l).length = l.length := by unfold projF; rw [List.length_map]
set_option maxRecDepth 8000 in
set_option maxHeartbeats 2000000 in
theorem group_any (SB : Nat) (cv : Value) (cs : List Col) (gv : Value) (gr : List Int) (av : Value) (ag : List Ag) (rv : Value) (rows : List (List Val)) (w : World) (hS : SB < w.heap.size) (s0 : w.cell? ⟨SB, 0, none⟩ = some cv) (s4 : w.cell? ⟨SB, 4, none⟩ = some gv) (s5 : w.cell? ⟨SB, 5, none⟩ = some av)
    (hc : ColsAt w w.heap.size cv cs) (hg : IntsAt w w.heap.size gv gr) (ha : AgsAt w w.heap.size av ag) (hr : RowsAt w w.heap.size rv rows) (hin : InC cs.length gr) (hag : ∀ a ∈ ag, agE cs a = 0) (hrl : ∀ r ∈ rows, r.length = cs.length) (h9 : rows.length ≤ 1099511627776) (g16 : gr.length ≤ 16) (a16 : ag.length ≤ 16) :
    Calls Tryz.prog 43 #[.pointer (some ⟨SB, 0, none⟩), rv] w (GrpPost w (groupF cs gr ag rows).1 (groupF cs gr ag rows).2) := by
  obtain ⟨i0, hi, hz0, hz1, hz2⟩ := info_parts infoVal
  obtain ⟨ga, gc, rfl⟩ := ints_end hg
  obtain ⟨aa, ac, rfl⟩ := ags_end ha
  obtain ⟨ra, rc, rfl⟩ := rows_end hr
  obtain ⟨ng, hng⟩ : ∃ n, gr.length = n := ⟨_, rfl⟩
  obtain ⟨nA, hnA⟩ : ∃ n, ag.length = n := ⟨_, rfl⟩
  obtain ⟨n, hn⟩ : ∃ n, rows.length = n := ⟨_, rfl⟩
  rw [hng] at hg s4 g16
  rw [hnA] at ha s5 a16
  rw [hn] at hr h9 ⊢
  have HC := Lib.hid hc
  have HG := Lib.hid hg
  have HA := Lib.hid ha
  have HR := Lib.hid hr
  have LG := Lib.hid hng
  have LA := Lib.hid hnA
  have LN := Lib.hid hn
  have HRL := Lib.hid hrl
  have HAG := Lib.hid hag
  have HIN := Lib.hid hin
  obtain ⟨P, hP⟩ : ∃ P, headR gr rows = P := ⟨_, rfl⟩
  have HP := Lib.hid hP
  have hPl : P.length ≤ 16 := by
    rw [← hP]
    cases rows with
    | nil => simp [headR]
    | cons r l => show (projF r gr).length ≤ 16; rw [projF_len, hng]; exact g16
  have PJ : Hid (∀ (rb ro : Nat) (c : Nat), 0 < n → ra = some ⟨rb, ro, none⟩ → ∃ (lv : Value), w.cell? ⟨rb, ro, none⟩ = some lv ∧ rb < w.heap.size ∧ ∀ W, Below w.heap.size w W → Calls Tryz.prog 39 #[lv, .slice ga ng gc] W (RowPost 41 3 W P.length (P.flatMap valC))) := Lib.hid (fun rb ro c h0 hra => by
    have h0' : 0 < rows.length := by rw [LN.out]; exact h0
    obtain ⟨b, o, e, _, hb, lv, c0, hv⟩ := rows_in HR.out h0'
    rw [hra] at e
    injection e with e
    injection e with e1 e2
    subst e1 e2
    refine ⟨lv, by simpa using c0, hb, fun W hW => ?_⟩
    have hl := HRL.out _ (List.getElem_mem h0')
    have q := project_any lv (rows[0]'h0') (.slice ga ng gc) gr W (hv.mono hW hW.size) (ints_on HG.out hW hW.size) (by rw [hl]; exact HIN.out) (by rw [LG.out]; omega)
    have e : projF (rows[0]'h0') gr = P := by
      rw [← HP.out]
      cases rows with
      | nil => exact absurd h0' (by simp)
      | cons r l => rfl
    rw [e] at q
    have e2 : P.length = gr.length := by rw [← e, projF_len]
    rw [e2]; exact q)
  have RS := Lib.hid (fun (op : Int) (K : Nat) (h : agE cs ⟨op, K⟩ = 0) (W : World) (hb : Below w.heap.size w W) => result_any SB cv cs op K (.slice ra n rc) rows W (Nat.lt_of_lt_of_le hS hb.size) ((hb.cell (p := ⟨SB, 0, none⟩) hS).trans s0) (HC.out.mono hb hb.size) (HR.out.mono hb hb.size) (by have := (agE_parts h).2.2.2; dsimp only at this; omega) (agE_parts h).1 (agE_parts h).2.1 HRL.out (by rw [LN.out]; exact h9))
  obtain ⟨R, hR⟩ : ∃ R, groupF cs gr ag rows = R := ⟨_, rfl⟩
  rw [hR]
  have HRR : Hid ((if aggsR cs rows ag = 0 then (P ++ ag.map fun a => (aggF cs a rows).1, 0) else ([], aggsR cs rows ag)) = R) := Lib.hid (by rw [← hR, ← hP]; rfl)
  clear hc hg ha hr hng hnA hn hrl hag hin hP hR
  go_enter Tryz.func43, Tryz.ntmps43
  go_upto_if 13 with fail
  go_cut [6] from 13 to 22 (fun sx wx => Below w.heap.size w wx ∧ wx.ownsRow w.heap.size 41 3 sx P.length (P.flatMap valC))
  case first =>
    by_cases h0 : 0 < n
    · have h0' : (0 : Int) < (n : Int) := by omega
      obtain ⟨rb, ro, rfl⟩ : ∃ rb ro, ra = some ⟨rb, ro, none⟩ := by
        obtain ⟨b, o, e, _⟩ := rows_in HR.out (show 0 < rows.length by rw [LN.out]; exact h0)
        exact ⟨b, o, e⟩
      obtain ⟨lv, c0, hrb, hcall⟩ := PJ.out rb ro 0 h0 rfl
      have PC := Lib.hid hcall
      clear hcall PJ
      go_upto_region 3 with fail
      go_region_held3 (fun w' => w'.cell? ⟨rb, ro, none⟩ = some lv ∧ w'.cell? ⟨SB, 4, none⟩ = some (.slice ga ng gc)) (first | exact ⟨by assumption, by assumption⟩ | (refine ⟨?_, ?_⟩ <;> simp (maxDischargeDepth := 9) [go_sem, *]))
        (first
          | (go_at_call 39; refine Calls.mono (PC.out _ (Below.refl _ _).drew) ?_; rintro e w7 ⟨v7, rfl, ho7, hb7⟩; have B7 : Hid (Below w.heap.size w w7) := Lib.hid (Below.to (Below.refl _ _).drew hb7); have O7 : Hid (w7.ownsRow w.heap.size 41 3 v7 P.length (P.flatMap valC)) := Lib.hid ho7; have s7 : w7.cell? ⟨rb, ro, none⟩ = some lv := (B7.out.cell (p := ⟨rb, ro, none⟩) hrb).trans c0; have s8 : w7.cell? ⟨SB, 4, none⟩ = some (.slice ga ng gc) := (B7.out.cell (p := ⟨SB, 4, none⟩) hS).trans s4; clear ho7 hb7))
      go_wp2
      go_meet
      exact ⟨B7.out, O7.out⟩
    · have h0' : ¬ (0 : Int) < (n : Int) := by omega
      obtain rfl : ([] : List Val) = P := by
        rw [← HP.out, List.eq_nil_of_length_eq_zero (show rows.length = 0 by rw [LN.out]; omega)]; rfl
      clear PJ
      go_wp2
      go_meet
      exact ⟨Below.refl _ _, World.ownsRow_nil _ _ _ _⟩
  case rest =>
  obtain ⟨hb1, ho1⟩ := hcut
  have HO1 := Lib.hid ho1
  have sA := (hb1.cell (p := ⟨SB, 5, none⟩) hS).trans s5
  have zS := Nat.lt_of_lt_of_le hS hb1.size
  clear PJ ho1
  go_wp2_with fail
  go_loopg [6, 29] nA (fun g v st wr => ∃ k : Nat, k + g = nA ∧ st = .int .i64 (k : Int) ∧ Below w.heap.size w wr ∧ aggsR cs rows (ag.drop k) = aggsR cs rows ag ∧ wr.ownsRow w.heap.size 41 3 v (P.length + k) ((P ++ (ag.take k).map fun a => (aggF cs a rows).1).flatMap valC))
  case atStart => exact ⟨0, by omega, rfl, hb1, rfl, by simpa using HO1.out⟩
  case round =>
    obtain ⟨k, hk, rfl, hx, hF, hown⟩ := hrel
    clear HO1 hb1 sA zS
    have HF := Lib.hid hF
    clear hF
    by_cases hg0 : gk = 0
    · subst hg0
      obtain rfl : k = nA := by omega
      have TA : ag.take k = ag := List.take_of_length_le (by rw [LA.out]; exact Nat.le_refl _)
      have E0 : aggsR cs rows ag = 0 := by rw [← HF.out, List.drop_of_length_le (by rw [LA.out]; exact Nat.le_refl _)]; rfl
      rw [TA] at hown
      obtain rfl : ((P ++ ag.map fun a => (aggF cs a rows).1, 0) : List Val × Int) = R := by rw [← HRR.out, if_pos E0]
      have FIN : Hid (GrpPost w (P ++ ag.map fun a => (aggF cs a rows).1) 0 (.returned (.tuple #[u6, .int .i64 0])) wr) := Lib.hid ⟨u6, rfl, by rw [List.length_append, List.length_map, LA.out]; exact hown, hx⟩
      have tk : ¬ (k : Int) < (k : Int) := by omega
      clear hk hown TA E0
      go_wp2
      refine bodyPost_ret (v := .tuple #[u6, .int .i64 0]) ?_ rfl FIN.out
      simp (maxDischargeDepth := 9) [results, Tryz.results43, go_sem, *]
    · have hkm : k < nA := by omega
      have hkm' : (k : Int) < (nA : Int) := by omega
      have hka : k < ag.length := by rw [LA.out]; exact hkm
      obtain ⟨ab, ao, rfl, _, hab, c0, c1⟩ := ags_in HA.out hka
      have OKL := aggsR_ok (cs := cs) (rows := rows) hka
      have BDL := aggsR_bad (cs := cs) (rows := rows) hka
      have TS : (ag.take (k + 1)).map (fun a => (aggF cs a rows).1) = (ag.take k).map (fun a => (aggF cs a rows).1) ++ [(aggF cs (ag[k]'hka) rows).1] := by rw [List.take_succ_eq_append_getElem hka, List.map_append]; rfl
      have hval := HAG.out _ (List.getElem_mem hka)
      obtain ⟨d, hd⟩ : ∃ d, ag[k]'hka = d := ⟨_, rfl⟩
      rw [hd] at OKL BDL c0 c1 TS hval
      obtain ⟨op, col⟩ := d
      obtain ⟨K, rfl⟩ : ∃ K : Nat, col = (K : Int) := ⟨col.toNat, by have := (agE_parts hval).2.2.1; dsimp only at this; omega⟩
      dsimp only at c0 c1
      have RV := Lib.hid (RS.out op K hval)
      have f0 := (hx.cell (p := ⟨ab, ao + k * 2, none⟩) hab).trans c0
      have f1 := (hx.cell (p := ⟨ab, ao + k * 2 + 1, none⟩) hab).trans c1
      have za : ab < wr.heap.size := Nat.lt_of_lt_of_le hab hx.size
      obtain ⟨V, hV⟩ : ∃ V, aggF cs ⟨op, (K : Int)⟩ rows = V := ⟨_, rfl⟩
      rw [hV] at OKL BDL TS RV
      rw [HF.out] at OKL BDL
      obtain ⟨⟨vn, vi, vs⟩, ve⟩ := V
      dsimp only at OKL BDL TS RV
      have OW := Lib.hid hown
      have HK := Lib.hid (And.intro hk hg0)
      have HX := Lib.hid hx
      have hxs := hx.size
      clear c0 c1 hd hk hg0 hV hval hown
      obtain ⟨Q, hQ⟩ : ∃ Q, P ++ (ag.take k).map (fun a => (aggF cs a rows).1) = Q := ⟨_, rfl⟩
      have QN : Hid (P ++ (ag.take (k + 1)).map (fun a => (aggF cs a rows).1) = Q ++ [⟨vn, vi, vs⟩]) := Lib.hid (by rw [TS, ← List.append_assoc, hQ])
      rw [hQ] at OW
      clear TS hQ
      by_cases v0 : ve = 0
      · subst v0
        have OK := Lib.hid (OKL rfl)
        clear OKL BDL
        go_upto_region 8 with (go_at_call 63; refine Calls.mono (RV.out _ (by with_reducible repeat (first | exact Below.refl _ _ | assumption | refine Below.al ?_ _ | refine Below.on ?_ _ | refine Below.st ?_ (by first | assumption | (simp; done) | (simp; omega)) _ | refine Below.drew ?_))) ?_; rintro e w5 ⟨rfl, hb5⟩; obtain ⟨x5, rfl⟩ := Ext.of hb5)
        refine captureM ?_
        intro Z eZ
        have Zb : Below wr.heap.size wr Z := by rw [eZ]; exact (Below.al (Below.on (Below.al (Below.refl _ _) _) x5) _)
        have Z0 : Z.cell? ⟨x5.it.heap.size, 0, none⟩ = some (.bool vn) := by rw [eZ]; simp (maxDischargeDepth := 9) [go_sem, *]
        have Z1 : Z.cell? ⟨x5.it.heap.size, 1, none⟩ = some (.int .i64 vi) := by rw [eZ]; simp (maxDischargeDepth := 9) [go_sem, *]
        have Z2 : Z.cell? ⟨x5.it.heap.size, 2, none⟩ = some (.string vs) := by rw [eZ]; simp (maxDischargeDepth := 9) [go_sem, *]
        have zZ : x5.it.heap.size < Z.heap.size := by rw [eZ]; simp
        have OWZ : Hid (Z.ownsRow w.heap.size 41 3 u6 (P.length + k) (Q.flatMap valC)) := Lib.hid (own_to OW.out Zb)
        have ZBW : Hid (Below w.heap.size w Z) := Lib.hid (Below.to HX.out Zb)
        have zwZ := ZBW.out.size
        clear eZ Zb
        go_wp2_with (at_builtin; go_must (refine wpList_append_lies _ rfl _ _ 42 rfl w.heap.size 41 i0 _ 3 32 Tryz.underlying42 hi hz0 hz1 hz2 rfl (by decide) u6 (P.length + k) (Q.flatMap valC) rfl (OWZ.out.alloc _) ⟨Z.heap.size, 0, none⟩ 1 1 (valC ⟨vn, vi, vs⟩) rfl rfl (World.news_of_block (heap_alloc_new Z _)) (by simp [valC, Value.oneCell']) (by omega) (by unfold maxLen; omega) (by omega) (by simp; omega) (Z.heap.size + 1) (by simp) ?_); intro gb cap w4 hown hgrow hat hlt4; go_must (have MS := Lib.hid (And.intro hown (show Below w.heap.size w w4 from Below.gr (Below.al ZBW.out _) OWZ.out hgrow))); clear hown hgrow hat hlt4)
        go_roundg (gk - 1)
        case measure => have := HK.out; omega
        case rel => exact ⟨k + 1, by have := HK.out; omega, by go_num, MS.out.2, OK.out.symm, by rw [QN.out, List.flatMap_append]; exact MS.out.1⟩
      · have E0 : ¬ aggsR cs rows ag = 0 := by rw [BDL v0]; exact v0
        obtain rfl : (([], ve) : List Val × Int) = R := by rw [← HRR.out, if_neg E0, BDL v0]
        have t : (ve != 0) = true := by simpa using v0
        clear OKL BDL E0
        go_wp2_with (go_at_call 63; refine Calls.mono (RV.out _ (by with_reducible repeat (first | exact Below.refl _ _ | assumption | refine Below.al ?_ _ | refine Below.on ?_ _ | refine Below.st ?_ (by first | assumption | (simp; done) | (simp; omega)) _ | refine Below.drew ?_))) ?_; rintro e w5 ⟨rfl, hb5⟩; obtain ⟨x5, rfl⟩ := Ext.of hb5)
        refine bodyPost_ret (v := .tuple #[.slice none 0 0, .int .i64 ve]) ?_ rfl ⟨.slice none 0 0, rfl, World.ownsRow_nil _ _ _ _, (by with_reducible repeat (first | exact Below.refl _ _ | assumption | refine Below.al ?_ _ | refine Below.on ?_ _ | refine Below.st ?_ (by first | assumption | (simp; done) | (simp; omega)) _ | refine Below.drew ?_))⟩
        simp (maxDischargeDepth := 9) [results, Tryz.results43, go_sem, *]
end Go.Proofs.YtpahoenanfjhpaaGreat
