/-
  CHAPTER 26: the reference's Answer and Run. Conditions: the schema, the query and the rows lie in memory.
-/
import Derived.Test.YtpahoenanfjhpaaGreatRgoz
import Derived.Test.YtpahoenanfjhpaaGreatRagz
import Derived.Test.YtpahoenanfjhpaaGreatRqcz
import Derived.Test.YtpahoenanfjhpaaGreatRunz
import Derived.Test.YtpahoenanfjhpaaGreatZf
import Derived.Test.YtpahoenanfjhpaaGreatBrzz
set_option linter.unusedVariables false
set_option linter.unusedSimpArgs false
namespace Go.Proofs.YtpahoenanfjhpaaGreat
open Go.RowKit Srt
theorem selR_succ {cs : List Col} {ns : List Nod} {rows : List (List Val)} {k : Nat} (h : k < rows.length) : selR cs ns (rows.take (k + 1)) = selR cs ns (rows.take k) ++ (if evalF cs (rows[k]'h) ns = 1 then [rows[k]'h] else []) := by
  unfold selR
  rw [List.take_succ_eq_append_getElem h, List.filter_append]
  congr 1
  simp only [List.filter_cons, List.filter_nil]
  by_cases q : evalF cs (rows[k]'h) ns = 1
  · rw [if_pos q, if_pos (by simpa using q)]
  · rw [if_neg q, if_neg (by simpa using q)]
theorem grs_in {w : World} {B : Nat} {a : Option Addr} {n c : Nat} {gs : List (List (List Val))} (h : GrsAt w B (.slice a n c) gs) {i : Nat} (hi : i < gs.length) : ∃ b o, a = some ⟨b, o, none⟩ ∧ b < B ∧ ∃ lv, w.cell? ⟨b, o + i, none⟩ = some lv ∧ RowsAt w B lv (gs[i]'hi) := by
  rcases h.2 with ⟨e0, _⟩ | ⟨b, o, c', e, _, hb, hr⟩
  · rw [e0] at hi; exact absurd hi (by simp)
  · injection e with e1 e2 e3
    exact ⟨b, o, e1, hb, hr i hi⟩
theorem grs_end {w : World} {B : Nat} {v : Value} {gs : List (List (List Val))} (h : GrsAt w B v gs) : ∃ a c, v = .slice a gs.length c := by
  rcases h.2 with ⟨e0, a, c, e⟩ | ⟨b, o, c, e, _⟩
  · subst e0; exact ⟨a, c, e⟩
  · exact ⟨_, c, e⟩
theorem groupsF_mem {cs : List Col} {gr : List Int} {rows : List (List Val)} : ∀ g ∈ groupsF cs gr rows, ∀ r ∈ g, r ∈ rows := by
  intro g hg r hr
  have h1 : r ∈ (groupsF cs gr rows).flatten := List.mem_flatten.2 ⟨g, hg, hr⟩
  rw [groupsF_flat] at h1
  exact (srt_perm _ _).mem_iff.1 h1
theorem groupsF_len (cs : List Col) (gr : List Int) (rows : List (List Val)) : (groupsF cs gr rows).length ≤ rows.length + 1 ∧ ∀ g ∈ groupsF cs gr rows, g.length ≤ rows.length := by
  have hf : (groupsF cs gr rows).flatten.length = rows.length := by rw [groupsF_flat]; exact (srt_perm _ _).length_eq
  refine ⟨?_, fun g hg => by rw [← hf]; exact flat_le hg⟩
  rw [groupsF_ref] at hf ⊢
  split
  · simp
  · rename_i q
    rw [if_neg q] at hf
    have := good_len' (grp_good (grpC_pre cs gr) rows)
    omega
set_option maxRecDepth 8000 in
set_option maxHeartbeats 2000000 in
theorem refanswer_any (cv : Value) (cs : List Col) (key : Int) (nv : Value) (ns : List Nod) (pv : Value) (pr : List Int) (gv : Value) (gr : List Int) (av : Value) (ag : List Ag) (rv : Value) (rows : List (List Val)) (w : World)
    (hc : ColsAt w w.heap.size cv cs) (hn : NodsAt w w.heap.size nv ns) (hp : IntsAt w w.heap.size pv pr) (hg : IntsAt w w.heap.size gv gr) (ha : AgsAt w w.heap.size av ag) (hr : RowsAt w w.heap.size rv rows) (Q : QOk cs key ns pr gr ag) (hrl : ∀ r ∈ rows, r.length = cs.length) (h20 : rows.length ≤ 1048576) :
    Calls Tryz.prog 45 #[.agg #[cv, .int .i64 key], .agg #[nv, pv, gv, av], rv] w (ResPost w (resF cs pr gr ag (selR cs ns rows)).1 (resF cs pr gr ag (selR cs ns rows)).2) := by
  obtain ⟨i0, hi, hz0, hz1, hz2⟩ := info_parts infoRow
  obtain ⟨iv, hiv, hv0, hv1, hv2⟩ := info_parts infoVal
  obtain ⟨ca, cc, rfl⟩ := cols_end hc
  obtain ⟨na, nnc, rfl⟩ := nods_end hn
  obtain ⟨pa, pc, rfl⟩ := ints_end hp
  obtain ⟨ga, gc, rfl⟩ := ints_end hg
  obtain ⟨aa, ac, rfl⟩ := ags_end ha
  obtain ⟨ra, rc, rfl⟩ := rows_end hr
  obtain ⟨nc, hnc⟩ : ∃ n, cs.length = n := ⟨_, rfl⟩
  obtain ⟨nn, hnn⟩ : ∃ n, ns.length = n := ⟨_, rfl⟩
  obtain ⟨np, hnp⟩ : ∃ n, pr.length = n := ⟨_, rfl⟩
  obtain ⟨ng, hng⟩ : ∃ n, gr.length = n := ⟨_, rfl⟩
  obtain ⟨nA, hnA⟩ : ∃ n, ag.length = n := ⟨_, rfl⟩
  obtain ⟨n, hnr⟩ : ∃ n, rows.length = n := ⟨_, rfl⟩
  rw [hnc] at hc hrl ⊢
  rw [hnn] at hn ⊢
  rw [hnp] at hp ⊢
  rw [hng] at hg ⊢
  rw [hnA] at ha ⊢
  rw [hnr] at hr h20 ⊢
  have p16 : np ≤ 16 := by rw [← hnp]; exact Q.p16
  have g16 : ng ≤ 16 := by rw [← hng]; exact Q.g16
  have a16 : nA ≤ 16 := by rw [← hnA]; exact Q.a16
  have HC := Lib.hid hc
  have HN := Lib.hid hn
  have HP := Lib.hid hp
  have HG := Lib.hid hg
  have HA := Lib.hid ha
  have HR := Lib.hid hr
  have LC := Lib.hid hnc
  have LP := Lib.hid hnp
  have LG := Lib.hid hng
  have LA := Lib.hid hnA
  have LN := Lib.hid hnr
  have HQ := Lib.hid Q
  have HRL := Lib.hid hrl
  have PAL := Lib.hid (predF_all Q.pred)
  obtain ⟨R, hR⟩ : ∃ R, resF cs pr gr ag (selR cs ns rows) = R := ⟨_, rfl⟩
  rw [hR]
  have HRES := Lib.hid hR
  obtain ⟨SB, hSB⟩ : ∃ b, w.heap.size = b := ⟨_, rfl⟩
  have HSB := Lib.hid hSB
  clear hc hn hp hg ha hr hnc hnn hnp hng hnA hnr hrl hR Q
  go_enter Tryz.func45, Tryz.ntmps45
  go_upto_region 1 with fail
  refine captureM ?_
  intro w0 ew
  have s0 : w0.cell? ⟨SB, 0, none⟩ = some (.slice ca nc cc) := by rw [ew, ← hSB]; simp (maxDischargeDepth := 9) [go_sem]
  have s1 : w0.cell? ⟨SB, 1, none⟩ = some (.int .i64 key) := by rw [ew, ← hSB]; simp (maxDischargeDepth := 9) [go_sem]
  have t0 : w0.cell? ⟨SB + 1, 0, none⟩ = some (.slice na nn nnc) := by rw [ew, ← hSB]; simp (maxDischargeDepth := 9) [go_sem]
  have t1 : w0.cell? ⟨SB + 1, 1, none⟩ = some (.slice pa np pc) := by rw [ew, ← hSB]; simp (maxDischargeDepth := 9) [go_sem]
  have t2 : w0.cell? ⟨SB + 1, 2, none⟩ = some (.slice ga ng gc) := by rw [ew, ← hSB]; simp (maxDischargeDepth := 9) [go_sem]
  have t3 : w0.cell? ⟨SB + 1, 3, none⟩ = some (.slice aa nA ac) := by rw [ew, ← hSB]; simp (maxDischargeDepth := 9) [go_sem]
  have zs1 : SB + 1 < w0.heap.size := by rw [ew, ← hSB]; simp
  have zs0 : SB < w0.heap.size := by omega
  have b0 : Below w.heap.size w w0 := by rw [ew]; with_reducible repeat (first | exact Below.refl _ _ | assumption | refine Below.al ?_ _ | refine Below.on ?_ _ | refine Below.st ?_ (by first | assumption | (simp; done) | (simp; omega)) _ | refine Below.drew ?_)
  have B0 := Lib.hid b0
  have bsz := b0.size
  try rw [hSB]
  clear ew hSB b0
  go_wp2_with fail
  go_loopg [8, 23] n (fun g v st wr => ∃ (k : Nat) (lvs : List Value), k + g = n ∧ st = .int .i64 (k : Int) ∧ lvs.length ≤ k ∧ Below w0.heap.size w0 wr ∧ wr.ownsRow w0.heap.size 42 1 v lvs.length lvs ∧ Lvs w w.heap.size lvs (selR cs ns (rows.take k)))
  case atStart => exact ⟨0, [], by omega, rfl, Nat.le_refl _, Below.refl _ _, World.ownsRow_nil _ _ _ _, by rw [List.take_zero]; exact Lvs.nil⟩
  case round =>
    obtain ⟨k, lvs, hk, rfl, hlk, hB, hown, hLV⟩ := hrel
    have q0 := (hB.cell (p := ⟨SB, 0, none⟩) zs0).trans s0
    have q1 := (hB.cell (p := ⟨SB, 1, none⟩) zs0).trans s1
    have r0 := (hB.cell (p := ⟨SB + 1, 0, none⟩) zs1).trans t0
    have z0 := Nat.lt_of_lt_of_le zs0 hB.size
    have z1 := Nat.lt_of_lt_of_le zs1 hB.size
    have bw : Below w.heap.size w wr := Below.to B0.out hB
    have bws := bw.size
    have b0s := hB.size
    by_cases hg0 : gk = 0
    · subst hg0
      obtain rfl : k = n := by omega
      have TK : rows.take k = rows := List.take_of_length_le (by rw [LN.out]; exact Nat.le_refl _)
      rw [TK] at hLV
      have r1 := (hB.cell (p := ⟨SB + 1, 1, none⟩) zs1).trans t1
      have r2 := (hB.cell (p := ⟨SB + 1, 2, none⟩) zs1).trans t2
      have r3 := (hB.cell (p := ⟨SB + 1, 3, none⟩) zs1).trans t3
      have SRL : ∀ r ∈ selR cs ns rows, r.length = nc := fun r hr => HRL.out r (List.mem_filter.1 hr).1
      obtain ⟨sel, hsel⟩ : ∃ l, selR cs ns rows = l := ⟨_, rfl⟩
      rw [hsel] at hLV HRES SRL
      have hls : lvs.length = sel.length := hLV.1
      obtain ⟨m, hm⟩ : ∃ m, sel.length = m := ⟨_, rfl⟩
      have hmk : m ≤ k := by omega
      obtain ⟨xa, xc, rfl⟩ := own_form hown
      have HS := Lib.hid (own_rowsL (rs := sel) (by omega) (hLV.mono bw bw.size) hown)
      rw [hls, hm] at HS ⊢
      have LM := Lib.hid hm
      have HSRL := Lib.hid SRL
      have BW := Lib.hid bw
      have tk : ¬ (k : Int) < (k : Int) := by omega
      obtain ⟨W1, rfl⟩ : ∃ q, q = wr := ⟨_, rfl⟩
      clear hk hown hLV TK hB hls hm hsel s0 s1 t0 t1 t2 t3 SRL
      by_cases hA0 : nA = 0
      · subst hA0
        obtain rfl : ((sel.map fun r => projF r pr, 0) : List (List Val) × Int) = R := by rw [← HRES.out]; unfold resF; rw [if_pos LA.out]
        have t0 : (((0 : Nat) : Int) == 0) = true := rfl
        clear HRES
        go_wp2_with fail
        go_loopg [11, 44] m (fun g v st wr => ∃ (kk : Nat) (lvs : List Value), kk + g = m ∧ st = .int .i64 (kk : Int) ∧ OutM W1 wr v lvs ((sel.take kk).map fun r => projF r pr))
        case atStart => exact ⟨0, [], by omega, rfl, by simpa using OutM.nil W1⟩
        case round =>
          obtain ⟨kk, lvs, hk, rfl, hout⟩ := hrel
          have HO := Lib.hid hout
          have hx := hout.below
          have hlk : lvs.length ≤ m := by rw [hout.inn.1]; simp; rw [LM.out]; omega
          by_cases hg0 : gk = 0
          · subst hg0
            obtain rfl : kk = m := by omega
            have TK : sel.take kk = sel := List.take_of_length_le (by rw [LM.out]; exact Nat.le_refl _)
            rw [TK] at HO
            have FIN : Hid (ResPost w (sel.map fun r => projF r pr) 0 (.returned (.tuple #[u11, .int .i64 0])) wr) := Lib.hid ⟨u11, rfl, HO.out.rows (by rw [List.length_map, LM.out]; omega), Below.to BW.out hx⟩
            have tk : ¬ (kk : Int) < (kk : Int) := by omega
            clear hk TK hout
            go_wp2
            refine bodyPost_ret (v := .tuple #[u11, .int .i64 0]) ?_ rfl FIN.out
            simp (maxDischargeDepth := 9) [results, Tryz.results45, go_sem, *]
          · have hkm : kk < m := by omega
            have hkm' : (kk : Int) < (m : Int) := by omega
            have hkr : kk < sel.length := by rw [LM.out]; exact hkm
            obtain ⟨rb, ro, rfl, _, hrb, lv, c0, hlv⟩ := rows_in HS.out hkr
            have hl := HSRL.out _ (List.getElem_mem hkr)
            have TS : (sel.take (kk + 1)).map (fun r => projF r pr) = (sel.take kk).map (fun r => projF r pr) ++ [projF (sel[kk]'hkr) pr] := by rw [List.take_succ_eq_append_getElem hkr, List.map_append]; rfl
            obtain ⟨d, hd⟩ : ∃ d, sel[kk]'hkr = d := ⟨_, rfl⟩
            rw [hd] at hlv hl TS
            have HTS := Lib.hid TS
            have HLV := Lib.hid hlv
            have HLD := Lib.hid hl
            have f0 := (hx.cell (p := ⟨rb, ro + kk, none⟩) hrb).trans c0
            have zr : rb < wr.heap.size := Nat.lt_of_lt_of_le hrb hx.size
            have q3 := (hx.cell (p := ⟨SB + 1, 1, none⟩) z1).trans r1
            have zS : SB + 1 < wr.heap.size := Nat.lt_of_lt_of_le z1 hx.size
            have PC : Hid (Calls Tryz.prog 67 #[lv, .slice pa np pc] wr (RowPost 41 3 wr np ((projF d pr).flatMap valC))) := Lib.hid (by have q := take_any lv d (.slice pa np pc) pr wr (hlv.mono hx hx.size) (ints_on HP.out (Below.to BW.out hx) (Below.to BW.out hx).size) (by rw [hl, ← LC.out]; exact HQ.out.inp) (by rw [LP.out]; omega); rwa [LP.out] at q)
            have HK := Lib.hid (And.intro hk hg0)
            have PLN : (projF d pr).length = np := by rw [projF_len, LP.out]
            have HPL := Lib.hid PLN
            have hxw := hx.size
            clear c0 hlv hl hd TS hk hg0 hout PLN
            go_wp2_with (first
              | (go_at_call 67; refine Calls.mono PC.out ?_; rintro e w7 ⟨v7, rfl, ho7, hb7⟩; obtain ⟨a7, c7, rfl⟩ := own_form ho7; have V7 : Hid (ValsAt w7 w7.heap.size (.slice a7 np c7) (projF d pr)) := Lib.hid (own_vals (e := 41) (base := wr.heap.size) (by rw [HPL.out]; omega) (by rw [HPL.out]; exact ho7)); have O7 := Lib.hid (HO.out.on hb7); have FR := Lib.hid (HO.out.fresh ho7); have hw7 := O7.out.below.size; clear ho7 hb7)
              | (at_builtin; go_must (refine wpList_append_lies _ rfl _ _ 30 rfl W1.heap.size 42 i0 _ 1 24 Tryz.underlying30 hi hz0 hz1 hz2 rfl (by decide) u11 lvs.length (lvs.flatMap one1) rfl (O7.out.own.alloc _) ⟨w7.heap.size, 0, none⟩ 1 1 [.slice a7 np c7] rfl rfl (World.news_of_block (heap_alloc_new w7 _)) (by simp [Value.oneCell']) (by omega) (by unfold maxLen; omega) (by omega) (by simp; omega) (w7.heap.size + 1) (by simp) ?_); intro gb cap w4 hown hgrow hat hlt4; go_must (have MS := Lib.hid (O7.out.app V7.out FR.out hown hgrow hat)); clear hown hgrow hat hlt4))
            go_roundg (gk - 1)
            case measure => have := HK.out; omega
            case rel => exact ⟨kk + 1, lvs ++ [.slice a7 np c7], by have := HK.out; omega, by go_num, by rw [HTS.out]; exact MS.out⟩
      · have hne : ¬ ag.length = 0 := by rw [LA.out]; exact hA0
        have t0 : ((nA : Int) == 0) = false := by simpa using hA0
        obtain ⟨GF, hGF⟩ : ∃ G, groupsF cs gr sel = G := ⟨_, rfl⟩
        have RES : Hid ((if groupsE cs gr ag GF = 0 then (GF.map fun g => (groupF cs gr ag g).1, 0) else ([], groupsE cs gr ag GF)) = R) := Lib.hid (by rw [← HRES.out, ← hGF]; unfold resF; rw [if_neg hne])
        have GMEM : Hid (∀ g ∈ GF, ∀ r ∈ g, r.length = nc) := Lib.hid (fun g hg r hr => HSRL.out r (groupsF_mem g (by rw [hGF]; exact hg) r hr))
        have GL0 := groupsF_len cs gr sel
        rw [hGF, LM.out] at GL0
        have GLEN := Lib.hid GL0
        have GC : Hid (∀ W, Below W1.heap.size W1 W → Calls Tryz.prog 68 #[.agg #[.slice ca nc cc, .int .i64 key], .slice ga ng gc, .slice xa m xc] W fun e w' => ∃ v, e = .returned v ∧ GrsAt w' w'.heap.size v GF ∧ Below W.heap.size W w') := Lib.hid (fun W hW => by
          have hb := Below.to BW.out hW
          have q := refgroups_any (.slice ca nc cc) cs key (.slice ga ng gc) gr (.slice xa m xc) sel W (HC.out.mono hb hb.size) (ints_on HG.out hb hb.size) (HS.out.mono hW hW.size) HQ.out.ing (by rw [LC.out]; exact HSRL.out) (by rw [LM.out]; omega) HQ.out.g16
          rw [hGF] at q; exact q)
        clear HRES hGF hne GL0
        go_wp2_with (go_at_call 68; refine Calls.mono (GC.out _ (Below.refl _ _)) ?_; rintro e w2 ⟨v2, rfl, hgr2, hb2⟩; obtain ⟨oa, oc, rfl⟩ := grs_end hgr2; obtain ⟨N, hN⟩ : ∃ N, GF.length = N := ⟨_, rfl⟩; have HGR := Lib.hid hgr2; have HN2 := Lib.hid hN; have B2 := Lib.hid hb2; rw [hN] at HGR ⊢; clear hgr2 hb2 hN)
        have b2 := B2.out
        have c0 := (b2.cell (p := ⟨SB, 0, none⟩) z0).trans q0
        have c1 := (b2.cell (p := ⟨SB, 1, none⟩) z0).trans q1
        have c2 := (b2.cell (p := ⟨SB + 1, 2, none⟩) z1).trans r2
        have c3 := (b2.cell (p := ⟨SB + 1, 3, none⟩) z1).trans r3
        have y0 := Nat.lt_of_lt_of_le z0 b2.size
        have y1 := Nat.lt_of_lt_of_le z1 b2.size
        have BW2 := Lib.hid (Below.to BW.out b2)
        have NM : N ≤ m + 1 := by rw [← HN2.out]; exact GLEN.out.1
        clear GC HS q0 q1 r0 r1 r2 r3 b2 B2 z0 z1
        go_loopg [11, 63] N (fun g v st wr => ∃ (k : Nat) (lvs : List Value), k + g = N ∧ st = .int .i64 (k : Int) ∧ lvs.length = k ∧ OutM w2 wr v lvs ((GF.take k).map fun g => (groupF cs gr ag g).1) ∧ groupsE cs gr ag (GF.drop k) = groupsE cs gr ag GF)
        case atStart => exact ⟨0, [], by omega, rfl, rfl, by simpa using OutM.nil w2, rfl⟩
        case round =>
          obtain ⟨kk, lvs2, hk, rfl, hlk2, hout, hge⟩ := hrel
          have hx := hout.below
          have d0 := (hx.cell (p := ⟨SB, 0, none⟩) y0).trans c0
          have d1 := (hx.cell (p := ⟨SB, 1, none⟩) y0).trans c1
          have d2 := (hx.cell (p := ⟨SB + 1, 2, none⟩) y1).trans c2
          have d3 := (hx.cell (p := ⟨SB + 1, 3, none⟩) y1).trans c3
          have x0 := Nat.lt_of_lt_of_le y0 hx.size
          have x1 := Nat.lt_of_lt_of_le y1 hx.size
          have bwr : Below w.heap.size w wr := Below.to BW2.out hx
          by_cases hg0 : gk = 0
          · subst hg0
            obtain rfl : kk = N := by omega
            have TG : GF.take kk = GF := List.take_of_length_le (by rw [HN2.out]; exact Nat.le_refl _)
            have E0 : groupsE cs gr ag GF = 0 := by rw [← hge, List.drop_of_length_le (by rw [HN2.out]; exact Nat.le_refl _)]; rfl
            rw [TG] at hout
            obtain rfl : (GF.map (fun g => (groupF cs gr ag g).1), (0 : Int)) = R := by rw [← RES.out, if_pos E0]
            have FIN : Hid (ResPost w (GF.map fun g => (groupF cs gr ag g).1) 0 (.returned (.tuple #[u11, .int .i64 0])) wr) := Lib.hid ⟨_, rfl, hout.rows (by rw [List.length_map, HN2.out]; omega), bwr⟩
            have tk : ¬ (kk : Int) < (kk : Int) := by omega
            clear hk TG hout hge E0 RES
            go_wp2
            refine bodyPost_ret (v := .tuple #[u11, .int .i64 0]) ?_ rfl FIN.out
            simp (maxDischargeDepth := 9) [results, Tryz.results45, go_sem, *]
          · have hkN : kk < N := by omega
            have hkN' : (kk : Int) < (N : Int) := by omega
            have hkG : kk < GF.length := by rw [HN2.out]; exact hkN
            obtain ⟨gb, go, rfl, hgb, glv, gc0, hgrow⟩ := grs_in HGR.out hkG
            have hgm := GMEM.out _ (List.getElem_mem hkG)
            have hgl := GLEN.out.2 _ (List.getElem_mem hkG)
            have TS : (GF.take (kk + 1)).map (fun g => (groupF cs gr ag g).1) = (GF.take kk).map (fun g => (groupF cs gr ag g).1) ++ [(groupF cs gr ag (GF[kk]'hkG)).1] := by rw [List.take_succ_eq_append_getElem hkG, List.map_append]; rfl
            have ES : groupsE cs gr ag (GF.drop kk) = if (groupF cs gr ag (GF[kk]'hkG)).2 = 0 then groupsE cs gr ag (GF.drop (kk + 1)) else (groupF cs gr ag (GF[kk]'hkG)).2 := by rw [List.drop_eq_getElem_cons hkG]; rfl
            obtain ⟨grow, hgr⟩ : ∃ g, GF[kk]'hkG = g := ⟨_, rfl⟩
            rw [hgr] at hgrow hgm hgl TS ES
            obtain ⟨ea, ec, rfl⟩ := rows_end hgrow
            obtain ⟨gn, hgn⟩ : ∃ n, grow.length = n := ⟨_, rfl⟩
            rw [hgn] at hgrow hgl gc0
            have HGW := Lib.hid hgrow
            have HGN := Lib.hid hgn
            have HGM := Lib.hid hgm
            have HTS := Lib.hid TS
            have HES := Lib.hid ES
            have HGE := Lib.hid hge
            have HOU := Lib.hid hout
            have HKN := Lib.hid (And.intro hk (And.intro hg0 hlk2))
            have f0 := (hx.cell (p := ⟨gb, go + kk, none⟩) hgb).trans gc0
            have zg : gb < wr.heap.size := Nat.lt_of_lt_of_le hgb hx.size
            have BWR := Lib.hid bwr
            have hlk3 : lvs2.length ≤ N := by omega
            obtain ⟨W3, rfl⟩ : ∃ q, q = wr := ⟨_, rfl⟩
            obtain ⟨G, rfl⟩ : ∃ q, q = gk := ⟨_, rfl⟩
            have HX3 := Lib.hid hx
            clear hk hg0 hout hge TS ES hgr hgrow hgm hgn gc0 hlk2
            -- the head's values
            obtain ⟨P, hP⟩ : ∃ P, headR gr grow = P := ⟨_, rfl⟩
            have HPH := Lib.hid hP
            have hPl : P.length ≤ 16 := by
              rw [← hP]
              cases grow with
              | nil => simp [headR]
              | cons r l => show (projF r gr).length ≤ 16; rw [projF_len, LG.out]; exact g16
            have PJ : Hid (∀ (rb ro : Nat), 0 < gn → ea = some ⟨rb, ro, none⟩ → ∃ (lv : Value), W3.cell? ⟨rb, ro, none⟩ = some lv ∧ rb < W3.heap.size ∧ ∀ W, Below W3.heap.size W3 W → Calls Tryz.prog 67 #[lv, .slice ga ng gc] W (RowPost 41 3 W P.length (P.flatMap valC))) := Lib.hid (fun rb ro h0 hra => by
              have h0' : 0 < grow.length := by rw [HGN.out]; exact h0
              obtain ⟨b, o, e, _, hb, lv, c0, hv⟩ := rows_in HGW.out h0'
              rw [hra] at e
              injection e with e
              injection e with e1 e2
              subst e1 e2
              refine ⟨lv, (HX3.out.cell (p := ⟨rb, ro, none⟩) hb).trans (by simpa using c0), Nat.lt_of_lt_of_le hb HX3.out.size, fun W hW => ?_⟩
              have hl := HGM.out _ (List.getElem_mem h0')
              have hW2 := Below.to HX3.out hW
              have hWw := Below.to BWR.out hW
              have q := take_any lv (grow[0]'h0') (.slice ga ng gc) gr W (hv.mono hW2 hW2.size) (ints_on HG.out hWw hWw.size) (by rw [hl, ← LC.out]; exact HQ.out.ing) (by rw [LG.out]; omega)
              have e : projF (grow[0]'h0') gr = P := by
                rw [← HPH.out]
                cases grow with
                | nil => exact absurd h0' (by simp)
                | cons r l => rfl
              rw [e] at q
              have e2 : P.length = gr.length := by rw [← e, projF_len]
              rw [e2]; exact q)
            have RS := Lib.hid (fun (op : Int) (K : Nat) (h : agE cs ⟨op, K⟩ = 0) (W : World) (hb : Below W3.heap.size W3 W) => refagg_any (.slice ca nc cc) cs key op K (.slice ea gn ec) grow W (HC.out.mono (Below.to BWR.out hb) (Below.to BWR.out hb).size) (HGW.out.mono (Below.to HX3.out hb) (Below.to HX3.out hb).size) (by have := (agE_parts h).2.2.2; dsimp only at this; omega) (agE_parts h).1 (agE_parts h).2.1 (by rw [LC.out]; exact HGM.out) (by rw [HGN.out]; omega))
            obtain ⟨GR, hGR⟩ : ∃ R, groupF cs gr ag grow = R := ⟨_, rfl⟩
            rw [hGR] at HTS HES
            have HGRR : Hid ((if aggsR cs grow ag = 0 then (P ++ ag.map fun a => (aggF cs a grow).1, 0) else ([], aggsR cs grow ag)) = GR) := Lib.hid (by rw [← hGR, ← hP]; rfl)
            have HAR := Lib.hid (HA.out.mono BWR.out BWR.out.size)
            clear hGR hP
            go_upto_if 69 with fail
            go_cut [16] from 69 to 75 (fun sx wx => Below W3.heap.size W3 wx ∧ wx.ownsRow W3.heap.size 41 3 sx P.length (P.flatMap valC))
            case first =>
              by_cases h0 : 0 < gn
              · have h0' : (0 : Int) < (gn : Int) := by omega
                obtain ⟨rb, ro, rfl⟩ : ∃ rb ro, ea = some ⟨rb, ro, none⟩ := by
                  obtain ⟨b, o, e, _⟩ := rows_in HGW.out (show 0 < grow.length by rw [HGN.out]; exact h0)
                  exact ⟨b, o, e⟩
                obtain ⟨lv, c0', hrb, hcall⟩ := PJ.out rb ro h0 rfl
                have PC := Lib.hid hcall
                clear hcall PJ
                go_upto_region 21 with fail
                go_region_held3 (fun w' => w'.cell? ⟨rb, ro, none⟩ = some lv ∧ w'.cell? ⟨SB + 1, 2, none⟩ = some (.slice ga ng gc)) (first | exact ⟨by assumption, by assumption⟩ | (refine ⟨?_, ?_⟩ <;> simp (maxDischargeDepth := 9) [go_sem, *]))
                  (first
                    | (go_at_call 67; refine Calls.mono (PC.out _ (Below.refl _ _).drew) ?_; rintro e w7 ⟨v7, rfl, ho7, hb7⟩; have B7 : Hid (Below W3.heap.size W3 w7) := Lib.hid (Below.to (Below.refl _ _).drew hb7); have O7 : Hid (w7.ownsRow W3.heap.size 41 3 v7 P.length (P.flatMap valC)) := Lib.hid ho7; have s7 : w7.cell? ⟨rb, ro, none⟩ = some lv := (B7.out.cell (p := ⟨rb, ro, none⟩) hrb).trans c0'; have s8 : w7.cell? ⟨SB + 1, 2, none⟩ = some (.slice ga ng gc) := (B7.out.cell (p := ⟨SB + 1, 2, none⟩) x1).trans d2; clear ho7 hb7))
                go_wp2
                go_meet
                exact ⟨B7.out, O7.out⟩
              · have h0' : ¬ (0 : Int) < (gn : Int) := by omega
                obtain rfl : ([] : List Val) = P := by
                  rw [← HPH.out, List.eq_nil_of_length_eq_zero (show grow.length = 0 by rw [HGN.out]; omega)]; rfl
                clear PJ
                go_wp2
                go_meet
                exact ⟨Below.refl _ _, World.ownsRow_nil _ _ _ _⟩
            case rest =>
            obtain ⟨hb1, ho1⟩ := hcut
            have HO1 := Lib.hid ho1
            rename_i ww
            have e0 := (hb1.cell (p := ⟨SB, 0, none⟩) x0).trans d0
            have e1 := (hb1.cell (p := ⟨SB, 1, none⟩) x0).trans d1
            have e3 := (hb1.cell (p := ⟨SB + 1, 3, none⟩) x1).trans d3
            clear PJ ho1
            go_wp2_with fail
            go_loopg [16, 79] nA (fun g v st wr => ∃ k : Nat, k + g = nA ∧ st = .int .i64 (k : Int) ∧ Below W3.heap.size W3 wr ∧ aggsR cs grow (ag.drop k) = aggsR cs grow ag ∧ wr.ownsRow W3.heap.size 41 3 v (P.length + k) ((P ++ (ag.take k).map fun a => (aggF cs a grow).1).flatMap valC))
            case atStart => exact ⟨0, by omega, rfl, hb1, rfl, by simpa using HO1.out⟩
            case round =>
              obtain ⟨j, hj, rfl, hx, hF, hown⟩ := hrel
              have e0 := (hx.cell (p := ⟨SB, 0, none⟩) x0).trans d0
              have e1 := (hx.cell (p := ⟨SB, 1, none⟩) x0).trans d1
              have zSB := Nat.lt_of_lt_of_le x0 hx.size
              have HF := Lib.hid hF
              clear hF HO1 hb1
              by_cases hg1 : gk = 0
              · subst hg1
                obtain rfl : j = nA := by omega
                have TA : ag.take j = ag := List.take_of_length_le (by rw [LA.out]; exact Nat.le_refl _)
                have E0 : aggsR cs grow ag = 0 := by rw [← HF.out, List.drop_of_length_le (by rw [LA.out]; exact Nat.le_refl _)]; rfl
                rw [TA] at hown
                have GRE : (P ++ ag.map fun a => (aggF cs a grow).1, 0) = GR := by rw [← HGRR.out, if_pos E0]
                obtain ⟨VL, hVL⟩ : ∃ l, P ++ ag.map (fun a => (aggF cs a grow).1) = l := ⟨_, rfl⟩
                rw [hVL] at GRE hown
                subst GRE
                have vll : P.length + j = VL.length := by rw [← hVL, List.length_append, List.length_map, LA.out]
                rw [vll] at hown
                obtain ⟨a5, c5, rfl⟩ := own_form hown
                have V5 := Lib.hid (own_vals (by omega) hown)
                have hO := HOU.out.on hx
                have FR := Lib.hid (HOU.out.fresh hown)
                have O5 := Lib.hid hO
                have hw5 := hO.below.size
                have OK : Hid (groupsE cs gr ag (GF.drop (kk + 1)) = groupsE cs gr ag GF) := Lib.hid (by have := HES.out; rw [if_pos rfl, HGE.out] at this; exact this.symm)
                have tk : ¬ (j : Int) < (j : Int) := by omega
                have vl32 : VL.length ≤ 32 := by omega
                obtain ⟨vn, hvn⟩ : ∃ n, VL.length = n := ⟨_, rfl⟩
                rw [hvn] at V5 FR ⊢
                clear hj hown TA E0 hVL hO vll RS HGRR
                go_wp2_with (at_builtin; go_must (refine wpList_append_lies _ rfl _ _ 30 rfl w2.heap.size 42 i0 _ 1 24 Tryz.underlying30 hi hz0 hz1 hz2 rfl (by decide) u11 lvs2.length (lvs2.flatMap one1) rfl (O5.out.own.alloc _) ⟨wr.heap.size, 0, none⟩ 1 1 [.slice a5 vn c5] rfl rfl (World.news_of_block (heap_alloc_new wr _)) (by simp [Value.oneCell']) (by omega) (by unfold maxLen; omega) (by omega) (by simp; omega) (wr.heap.size + 1) (by simp) ?_); intro gb4 cap w4 hown hgrow hat hlt4; go_must (have MS := Lib.hid (O5.out.app V5.out FR.out hown hgrow hat)); clear hown hgrow hat hlt4)
                go_roundg (G - 1)
                case measure => have := HKN.out; omega
                case rel => exact ⟨kk + 1, lvs2 ++ [.slice a5 vn c5], by have := HKN.out; omega, by go_num, by rw [List.length_append, HKN.out.2.2]; rfl, by rw [HTS.out]; exact MS.out, OK.out⟩
              · have hkm : j < nA := by omega
                have hkm' : (j : Int) < (nA : Int) := by omega
                have hka : j < ag.length := by rw [LA.out]; exact hkm
                obtain ⟨ab, ao, rfl, _, hab, k0, k1⟩ := ags_in HAR.out hka
                have OKL := aggsR_ok (cs := cs) (rows := grow) hka
                have BDL := aggsR_bad (cs := cs) (rows := grow) hka
                have TS : (ag.take (j + 1)).map (fun a => (aggF cs a grow).1) = (ag.take j).map (fun a => (aggF cs a grow).1) ++ [(aggF cs (ag[j]'hka) grow).1] := by rw [List.take_succ_eq_append_getElem hka, List.map_append]; rfl
                have hval := HQ.out.ags _ (List.getElem_mem hka)
                obtain ⟨d, hd⟩ : ∃ d, ag[j]'hka = d := ⟨_, rfl⟩
                rw [hd] at OKL BDL k0 k1 TS hval
                obtain ⟨op, col⟩ := d
                obtain ⟨K, rfl⟩ : ∃ K : Nat, col = (K : Int) := ⟨col.toNat, by have := (agE_parts hval).2.2.1; dsimp only at this; omega⟩
                dsimp only at k0 k1
                have RV := Lib.hid (RS.out op K hval)
                have f0 := (hx.cell (p := ⟨ab, ao + j * 2, none⟩) hab).trans k0
                have f1 := (hx.cell (p := ⟨ab, ao + j * 2 + 1, none⟩) hab).trans k1
                have za : ab < wr.heap.size := Nat.lt_of_lt_of_le hab hx.size
                obtain ⟨V, hV⟩ : ∃ V, aggF cs ⟨op, (K : Int)⟩ grow = V := ⟨_, rfl⟩
                rw [hV] at OKL BDL TS RV
                rw [HF.out] at OKL BDL
                obtain ⟨⟨vn, vi, vs⟩, ve⟩ := V
                dsimp only at OKL BDL TS RV
                have OW := Lib.hid hown
                have HK := Lib.hid (And.intro hj hg1)
                have HX := Lib.hid hx
                have hxs := hx.size
                clear k0 k1 hd hj hg1 hV hval hown RS
                obtain ⟨Q, hQ⟩ : ∃ Q, P ++ (ag.take j).map (fun a => (aggF cs a grow).1) = Q := ⟨_, rfl⟩
                have QN : Hid (P ++ (ag.take (j + 1)).map (fun a => (aggF cs a grow).1) = Q ++ [⟨vn, vi, vs⟩]) := Lib.hid (by rw [TS, ← List.append_assoc, hQ])
                rw [hQ] at OW
                clear TS hQ
                by_cases v0 : ve = 0
                · subst v0
                  have OK := Lib.hid (OKL rfl)
                  clear OKL BDL
                  go_upto_region 28 with (go_at_call 69; refine Calls.mono (RV.out _ (by with_reducible repeat (first | exact Below.refl _ _ | assumption | refine Below.al ?_ _ | refine Below.on ?_ _ | refine Below.st ?_ (by first | assumption | (simp; done) | (simp; omega)) _ | refine Below.drew ?_))) ?_; rintro e w5 ⟨rfl, hb5⟩; obtain ⟨x5, rfl⟩ := Ext.of hb5)
                  refine captureM ?_
                  intro Z eZ
                  have Zb : Below wr.heap.size wr Z := by rw [eZ]; exact (Below.al (Below.on (Below.al (Below.refl _ _) _) x5) _)
                  have Z0 : Z.cell? ⟨x5.it.heap.size, 0, none⟩ = some (.bool vn) := by rw [eZ]; simp (maxDischargeDepth := 9) [go_sem, *]
                  have Z1 : Z.cell? ⟨x5.it.heap.size, 1, none⟩ = some (.int .i64 vi) := by rw [eZ]; simp (maxDischargeDepth := 9) [go_sem, *]
                  have Z2 : Z.cell? ⟨x5.it.heap.size, 2, none⟩ = some (.string vs) := by rw [eZ]; simp (maxDischargeDepth := 9) [go_sem, *]
                  have zZ : x5.it.heap.size < Z.heap.size := by rw [eZ]; simp
                  have OWZ : Hid (Z.ownsRow W3.heap.size 41 3 u16 (P.length + j) (Q.flatMap valC)) := Lib.hid (own_to OW.out Zb)
                  have ZBW : Hid (Below W3.heap.size W3 Z) := Lib.hid (Below.to HX.out Zb)
                  have zwZ := ZBW.out.size
                  clear eZ Zb
                  go_wp2_with (at_builtin; go_must (refine wpList_append_lies _ rfl _ _ 42 rfl W3.heap.size 41 iv _ 3 32 Tryz.underlying42 hiv hv0 hv1 hv2 rfl (by decide) u16 (P.length + j) (Q.flatMap valC) rfl (OWZ.out.alloc _) ⟨Z.heap.size, 0, none⟩ 1 1 (valC ⟨vn, vi, vs⟩) rfl rfl (World.news_of_block (heap_alloc_new Z _)) (by simp [valC, Value.oneCell']) (by omega) (by unfold maxLen; omega) (by omega) (by simp; omega) (Z.heap.size + 1) (by simp) ?_); intro gb5 cap w4 hown hgrow hat hlt4; go_must (have MS := Lib.hid (And.intro hown (show Below W3.heap.size W3 w4 from Below.gr (Below.al ZBW.out _) OWZ.out hgrow))); clear hown hgrow hat hlt4)
                  go_roundg (gk - 1)
                  case measure => have := HK.out; omega
                  case rel => exact ⟨j + 1, by have := HK.out; omega, by go_num, MS.out.2, OK.out.symm, by rw [QN.out, List.flatMap_append]; exact MS.out.1⟩
                · have E1 : ¬ aggsR cs grow ag = 0 := by rw [BDL v0]; exact v0
                  obtain rfl : (([], ve) : List Val × Int) = GR := by rw [← HGRR.out, if_neg E1, BDL v0]
                  have E0 : groupsE cs gr ag GF = ve := by have := HES.out; rw [if_neg v0, HGE.out] at this; exact this
                  obtain rfl : (([], ve) : List (List Val) × Int) = R := by rw [← RES.out, E0, if_neg v0]
                  have t : (ve != 0) = true := by simpa using v0
                  have BX := Lib.hid (Below.to BWR.out HX.out)
                  clear OKL BDL E0 E1 RES
                  go_wp2_with (go_at_call 69; refine Calls.mono (RV.out _ (by with_reducible repeat (first | exact Below.refl _ _ | assumption | refine Below.al ?_ _ | refine Below.on ?_ _ | refine Below.st ?_ (by first | assumption | (simp; done) | (simp; omega)) _ | refine Below.drew ?_))) ?_; rintro e w5 ⟨rfl, hb5⟩; obtain ⟨x5, rfl⟩ := Ext.of hb5)
                  have bx := BX.out
                  refine bodyPost_ret (v := .tuple #[.slice none 0 0, .int .i64 ve]) ?_ rfl ⟨.slice none 0 0, rfl, rows_nil _ _, (by with_reducible repeat (first | exact Below.refl _ _ | assumption | refine Below.al ?_ _ | refine Below.on ?_ _ | refine Below.st ?_ (by first | assumption | (simp; done) | (simp; omega)) _ | refine Below.drew ?_))⟩
                  simp (maxDischargeDepth := 9) [results, Tryz.results45, go_sem, *]
    · have hkm : k < n := by omega
      have hkm' : (k : Int) < (n : Int) := by omega
      have hkr : k < rows.length := by rw [LN.out]; exact hkm
      obtain ⟨rb, ro, rfl, _, hrb, lv, c0, hlv⟩ := rows_in HR.out hkr
      have hl := HRL.out _ (List.getElem_mem hkr)
      have TS := selR_succ (cs := cs) (ns := ns) hkr
      obtain ⟨d, hd⟩ : ∃ d, rows[k]'hkr = d := ⟨_, rfl⟩
      rw [hd] at hlv hl TS
      obtain ⟨da, dc, rfl⟩ := vals_end hlv
      rw [hl] at hlv c0
      have f0 := (bw.cell (p := ⟨rb, ro + k, none⟩) hrb).trans c0
      have zr : rb < wr.heap.size := Nat.lt_of_lt_of_le hrb bw.size
      obtain ⟨ev, hev⟩ : ∃ v, evalF cs d ns = v := ⟨_, rfl⟩
      have EV := Lib.hid (fun (W : World) (hb : Below w.heap.size w W) => (by have q := evalRow_any (.slice ca nc cc) cs key (.slice na nn nnc) ns (.slice da nc dc) d W (HC.out.mono hb hb.size) (HN.out.mono hb hb.size) (hlv.mono hb hb.size) PAL.out (by rw [LC.out]; exact hl); rw [hev] at q; exact q : Calls Tryz.prog 66 #[.agg #[.slice ca nc cc, .int .i64 key], .slice na nn nnc, .slice da nc dc] W fun e w' => e = .returned (.int .i64 ev) ∧ Below W.heap.size W w'))
      have HTS := Lib.hid TS
      have HLV := Lib.hid hlv
      have HK := Lib.hid (And.intro hk hg0)
      have OW := Lib.hid hown
      have LVS := Lib.hid hLV
      have HBB := Lib.hid hB
      have HEV := Lib.hid hev
      have HLK := Lib.hid hlk
      have hlkn : lvs.length ≤ n := by omega
      clear hk hg0 hown hLV hlv c0 hd TS hev hlk
      by_cases v1 : ev = 1
      · have v1' : (ev == 1) = true := by simpa using v1
        go_wp2_with (first
          | (go_at_call 66; refine Calls.mono (EV.out _ (by with_reducible repeat (first | exact Below.refl _ _ | assumption | refine Below.al ?_ _ | refine Below.on ?_ _ | refine Below.st ?_ (by first | assumption | (simp; done) | (simp; omega)) _ | refine Below.drew ?_))) ?_; rintro e w5 ⟨rfl, hb5⟩; obtain ⟨x5, rfl⟩ := Ext.of hb5; have O5 := Lib.hid (own_to OW.out hb5); have B5 := Lib.hid (Below.to HBB.out hb5); have zx5 := B5.out.size)
          | (at_builtin; go_must (refine wpList_append_lies _ rfl _ _ 30 rfl w0.heap.size 42 i0 _ 1 24 Tryz.underlying30 hi hz0 hz1 hz2 rfl (by decide) u8 lvs.length lvs rfl (O5.out.alloc _) ⟨x5.it.heap.size, 0, none⟩ 1 1 [.slice da nc dc] rfl rfl (World.news_of_block (heap_alloc_new x5.it _)) (by simp [Value.oneCell']) (by omega) (by unfold maxLen; omega) (by omega) (by simp; omega) (x5.it.heap.size + 1) (by simp) ?_); intro gb cap w4 hown hgrow hat hlt4; go_must (have MS := Lib.hid (And.intro hown (show Below w0.heap.size w0 w4 from Below.gr (Below.al B5.out _) O5.out hgrow))); clear hown hgrow hat hlt4))
        go_roundg (gk - 1)
        case measure => have := HK.out; omega
        case rel => exact ⟨k + 1, lvs ++ [.slice da nc dc], by have := HK.out; omega, by go_num, by have := HLK.out; simp; omega, MS.out.2, by rw [List.length_append]; exact MS.out.1, by rw [HTS.out, HEV.out, if_pos v1]; exact LVS.out.snoc HLV.out⟩
      · have v1' : (ev == 1) = false := by simpa using v1
        go_wp2_with (go_at_call 66; refine Calls.mono (EV.out _ (by with_reducible repeat (first | exact Below.refl _ _ | assumption | refine Below.al ?_ _ | refine Below.on ?_ _ | refine Below.st ?_ (by first | assumption | (simp; done) | (simp; omega)) _ | refine Below.drew ?_))) ?_; rintro e w5 ⟨rfl, hb5⟩; obtain ⟨x5, rfl⟩ := Ext.of hb5; have O5 := Lib.hid (own_to OW.out hb5); have B5 := Lib.hid (Below.to HBB.out hb5))
        go_roundg (gk - 1)
        case measure => have := HK.out; omega
        case rel => exact ⟨k + 1, lvs, by have := HK.out; omega, by go_num, by have := HLK.out; omega, B5.out, O5.out, by rw [HTS.out, HEV.out, if_neg v1, List.append_nil]; exact LVS.out⟩
set_option maxRecDepth 8000 in
set_option maxHeartbeats 2000000 in
theorem refrun_any (cv : Value) (cs : List Col) (key : Int) (nv : Value) (ns : List Nod) (pv : Value) (pr : List Int) (gv : Value) (gr : List Int) (av : Value) (ag : List Ag) (rv : Value) (rows : List (List Val)) (w : World)
    (hc : ColsAt w w.heap.size cv cs) (hn : NodsAt w w.heap.size nv ns) (hp : IntsAt w w.heap.size pv pr) (hg : IntsAt w w.heap.size gv gr) (ha : AgsAt w w.heap.size av ag) (hr : RowsAt w w.heap.size rv rows) :
    Calls Tryz.prog 16 #[.agg #[cv, .int .i64 key], .agg #[nv, pv, gv, av], rv] w (ResPost w (runF cs key ns pr gr ag rows).1 (runF cs key ns pr gr ag rows).2) := by
  have CQ := Lib.hid (fun (W : World) (hb : Below w.heap.size w W) => refquery_any cv cs key nv ns pv pr gv gr av ag W (hc.mono hb hb.size) (hn.mono hb hb.size) (ints_on hp hb hb.size) (ints_on hg hb hb.size) (ha.mono hb hb.size))
  have CB := Lib.hid (fun (W : World) (hb : Below w.heap.size w W) => refBatch_any cv cs key rv rows W (hc.mono hb hb.size) (hr.mono hb hb.size))
  have AN := Lib.hid (fun (hq : queryE cs key ns pr gr ag = 0) (hbt : batchE cs key rows = 0) (W : World) (hb : Below w.heap.size w W) => refanswer_any cv cs key nv ns pv pr gv gr av ag rv rows W (hc.mono hb hb.size) (hn.mono hb hb.size) (ints_on hp hb hb.size) (ints_on hg hb hb.size) (ha.mono hb hb.size) (hr.mono hb hb.size) (queryE_ok hq) (fun r hr => ((batchE_ok hbt).2 r hr).1) (by have := (batchE_ok hbt).1; omega))
  obtain ⟨ca, cc, rfl⟩ := cols_end hc
  obtain ⟨na, nnc, rfl⟩ := nods_end hn
  obtain ⟨pa, pc, rfl⟩ := ints_end hp
  obtain ⟨ga, gc, rfl⟩ := ints_end hg
  obtain ⟨aa, ac, rfl⟩ := ags_end ha
  obtain ⟨ra, rc, rfl⟩ := rows_end hr
  generalize cs.length = kc at CQ CB AN ⊢
  generalize ns.length = kn at CQ CB AN ⊢
  generalize pr.length = kp at CQ CB AN ⊢
  generalize gr.length = kg at CQ CB AN ⊢
  generalize ag.length = ka at CQ CB AN ⊢
  generalize rows.length = kr at CQ CB AN ⊢
  obtain ⟨R, hR⟩ : ∃ R, runF cs key ns pr gr ag rows = R := ⟨_, rfl⟩
  rw [hR]
  obtain ⟨E, hE⟩ : ∃ E, queryE cs key ns pr gr ag = E := ⟨_, rfl⟩
  obtain ⟨B, hB⟩ : ∃ E, batchE cs key rows = E := ⟨_, rfl⟩
  have HRF := hR
  unfold runF at HRF
  rw [hE, hB] at HRF
  rw [hE] at CQ AN
  rw [hB] at CB AN
  have HR := Lib.hid HRF
  clear hc hn hp hg ha hr hR hE hB HRF
  have s1 : True := trivial
  by_cases e0 : E = 0
  · subst e0
    by_cases b0 : B = 0
    · subst b0
      have ANS := Lib.hid (fun (W : World) (hb : Below w.heap.size w W) => (by have q := AN.out rfl rfl W hb; rw [show resF cs pr gr ag (selR cs ns rows) = R from by have := HR.out; rwa [if_pos rfl, if_pos rfl] at this] at q; exact q : Calls Tryz.prog 45 #[.agg #[.slice ca kc cc, .int .i64 key], .agg #[.slice na kn nnc, .slice pa kp pc, .slice ga kg gc, .slice aa ka ac], .slice ra kr rc] W (ResPost W R.1 R.2)))
      clear AN HR
      go_enter Tryz.func16, Tryz.ntmps16
      go_wp2_with (first
        | (go_at_call 30; refine Calls.mono (CQ.out _ (by with_reducible repeat (first | exact Below.refl _ _ | assumption | refine Below.al ?_ _ | refine Below.on ?_ _ | refine Below.st ?_ (by first | assumption | (simp; done) | (simp; omega)) _ | refine Below.drew ?_))) ?_; rintro e w1 ⟨rfl, hb1⟩; obtain ⟨x1, rfl⟩ := Ext.of hb1; have k1 : w.heap.size + 1 < x1.it.heap.size := x1.lt (by (first | assumption | (simp; done) | (simp; omega))); have k0 : w.heap.size < x1.it.heap.size := x1.lt (by (first | assumption | (simp; done) | (simp; omega))))
        | (go_at_call 44; refine Calls.mono (CB.out _ (by with_reducible repeat (first | exact Below.refl _ _ | assumption | refine Below.al ?_ _ | refine Below.on ?_ _ | refine Below.st ?_ (by first | assumption | (simp; done) | (simp; omega)) _ | refine Below.drew ?_))) ?_; rintro e w2 ⟨rfl, hb2⟩; obtain ⟨x2, rfl⟩ := Ext.of hb2; have k3 : w.heap.size + 1 < x2.it.heap.size := x2.lt k1; have k2 : w.heap.size < x2.it.heap.size := x2.lt k0)
        | (go_at_call 45; refine Calls.mono (ANS.out _ (by with_reducible repeat (first | exact Below.refl _ _ | assumption | refine Below.al ?_ _ | refine Below.on ?_ _ | refine Below.st ?_ (by first | assumption | (simp; done) | (simp; omega)) _ | refine Below.drew ?_))) ?_; rintro e w3 ⟨v3, rfl, hr3, hb3⟩; obtain ⟨x3, rfl⟩ := Ext.of hb3; have R3 := Lib.hid hr3; clear hr3))
      refine bodyPost_ret (v := .tuple #[v3, .int .i64 R.2]) ?_ rfl ⟨v3, rfl, R3.out, (by with_reducible repeat (first | exact Below.refl _ _ | assumption | refine Below.al ?_ _ | refine Below.on ?_ _ | refine Below.st ?_ (by first | assumption | (simp; done) | (simp; omega)) _ | refine Below.drew ?_))⟩
      simp (maxDischargeDepth := 9) [results, Tryz.results16, go_sem, *]
    · have b0' : (B != 0) = true := by simpa using b0
      obtain rfl : (([], B) : List (List Val) × Int) = R := by have := HR.out; rwa [if_pos rfl, if_neg b0] at this
      clear AN HR
      go_enter Tryz.func16, Tryz.ntmps16
      go_wp2_with (first
        | (go_at_call 30; refine Calls.mono (CQ.out _ (by with_reducible repeat (first | exact Below.refl _ _ | assumption | refine Below.al ?_ _ | refine Below.on ?_ _ | refine Below.st ?_ (by first | assumption | (simp; done) | (simp; omega)) _ | refine Below.drew ?_))) ?_; rintro e w1 ⟨rfl, hb1⟩; obtain ⟨x1, rfl⟩ := Ext.of hb1; have k1 : w.heap.size + 1 < x1.it.heap.size := x1.lt (by (first | assumption | (simp; done) | (simp; omega))); have k0 : w.heap.size < x1.it.heap.size := x1.lt (by (first | assumption | (simp; done) | (simp; omega))))
        | (go_at_call 44; refine Calls.mono (CB.out _ (by with_reducible repeat (first | exact Below.refl _ _ | assumption | refine Below.al ?_ _ | refine Below.on ?_ _ | refine Below.st ?_ (by first | assumption | (simp; done) | (simp; omega)) _ | refine Below.drew ?_))) ?_; rintro e w2 ⟨rfl, hb2⟩; obtain ⟨x2, rfl⟩ := Ext.of hb2))
      refine bodyPost_ret (v := .tuple #[.slice none 0 0, .int .i64 B]) ?_ rfl ⟨_, rfl, rows_nil _ _, (by with_reducible repeat (first | exact Below.refl _ _ | assumption | refine Below.al ?_ _ | refine Below.on ?_ _ | refine Below.st ?_ (by first | assumption | (simp; done) | (simp; omega)) _ | refine Below.drew ?_))⟩
      simp (maxDischargeDepth := 9) [results, Tryz.results16, go_sem, *]
  · have e0' : (E != 0) = true := by simpa using e0
    obtain rfl : (([], E) : List (List Val) × Int) = R := by have := HR.out; rwa [if_neg e0] at this
    clear AN HR
    go_enter Tryz.func16, Tryz.ntmps16
    go_wp2_with (go_at_call 30; refine Calls.mono (CQ.out _ (by with_reducible repeat (first | exact Below.refl _ _ | assumption | refine Below.al ?_ _ | refine Below.on ?_ _ | refine Below.st ?_ (by first | assumption | (simp; done) | (simp; omega)) _ | refine Below.drew ?_))) ?_; rintro e w1 ⟨rfl, hb1⟩; obtain ⟨x1, rfl⟩ := Ext.of hb1)
    refine bodyPost_ret (v := .tuple #[.slice none 0 0, .int .i64 E]) ?_ rfl ⟨_, rfl, rows_nil _ _, (by with_reducible repeat (first | exact Below.refl _ _ | assumption | refine Below.al ?_ _ | refine Below.on ?_ _ | refine Below.st ?_ (by first | assumption | (simp; done) | (simp; omega)) _ | refine Below.drew ?_))⟩
    simp (maxDischargeDepth := 9) [results, Tryz.results16, go_sem, *]
end Go.Proofs.YtpahoenanfjhpaaGreat
