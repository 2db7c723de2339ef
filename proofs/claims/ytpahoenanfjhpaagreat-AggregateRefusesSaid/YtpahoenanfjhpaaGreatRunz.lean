/-
  aggregate.Run. Conditions: schema, query and rows lie in memory; the lists of the nodes have at most 2^42 values.
-/
import Derived.Test.YtpahoenanfjhpaaGreatAd2z
import Derived.Test.YtpahoenanfjhpaaGreatRslz
set_option linter.unusedVariables false
set_option linter.unusedSimpArgs false
namespace Go.Proofs.YtpahoenanfjhpaaGreat
open Go.RowKit
theorem outC_in {cs : List Col} {l : List Int} (h : outC cs l = false) : InC cs.length l := fun i hi => by
  unfold outC at h
  have := List.any_eq_false.1 h i hi
  simp at this
  omega
theorem agsE_all {cs : List Col} : ∀ {l : List Ag}, agsE cs l = 0 → ∀ a ∈ l, agE cs a = 0
  | [], _, a, ha => absurd ha (by simp)
  | b :: l, h, a, ha => by
    simp only [agsE] at h
    by_cases q : agE cs b = 0
    · rw [if_pos q] at h
      rcases List.mem_cons.1 ha with rfl | ha
      · exact q
      · exact agsE_all h a ha
    · rw [if_neg q] at h; exact absurd h q
structure QOk (cs : List Col) (key : Int) (ns : List Nod) (pr gr : List Int) (ag : List Ag) : Prop where
  pred : predF cs key ns = 0
  p16 : pr.length ≤ 16
  g16 : gr.length ≤ 16
  a16 : ag.length ≤ 16
  one : ¬ ((0 < ag.length ∧ 0 < pr.length) ∨ (ag.length = 0 ∧ 0 < gr.length))
  inp : InC cs.length pr
  ing : InC cs.length gr
  ags : ∀ a ∈ ag, agE cs a = 0
theorem queryE_ok {cs : List Col} {key : Int} {ns : List Nod} {pr gr : List Int} {ag : List Ag} (h : queryE cs key ns pr gr ag = 0) : QOk cs key ns pr gr ag := by
  unfold queryE at h
  by_cases q : predF cs key ns = 0
  · rw [if_pos q] at h
    by_cases q2 : 16 < pr.length ∨ 16 < gr.length ∨ 16 < ag.length
    · rw [if_pos q2] at h; exact absurd h (by decide)
    · rw [if_neg q2] at h
      by_cases q3 : (0 < ag.length ∧ 0 < pr.length) ∨ (ag.length = 0 ∧ 0 < gr.length)
      · rw [if_pos q3] at h; exact absurd h (by decide)
      · rw [if_neg q3] at h
        by_cases q4 : outC cs (pr ++ gr) = true
        · rw [if_pos q4] at h; exact absurd h (by decide)
        · rw [if_neg q4] at h
          have q5 := outC_in (by simpa using q4)
          exact ⟨q, by omega, by omega, by omega, q3, fun i hi => q5 i (List.mem_append_left _ hi), fun i hi => q5 i (List.mem_append_right _ hi), agsE_all h⟩
  · rw [if_neg q] at h; exact absurd h q
theorem batchE_ok {cs : List Col} {key : Int} {rows : List (List Val)} (h : batchE cs key rows = 0) : rows.length ≤ 4096 ∧ ∀ r ∈ rows, r.length = cs.length ∧ RowPre cs r := by
  unfold batchE at h
  by_cases q : schemaF cs key = 0
  · rw [if_pos q] at h
    by_cases q2 : 4096 < rows.length
    · rw [if_pos q2] at h; exact absurd h (by decide)
    · rw [if_neg q2] at h
      exact ⟨by omega, fun r hr => pre_rowE (rowsE_all h r hr)⟩
  · rw [if_neg q] at h; exact absurd h q
/-- The result of a query for a list of rows, and its error. -/
def runF (cs : List Col) (key : Int) (ns : List Nod) (pr gr : List Int) (ag : List Ag) (rows : List (List Val)) : List (List Val) × Int :=
  if queryE cs key ns pr gr ag = 0 then (if batchE cs key rows = 0 then resF cs pr gr ag (selR cs ns rows) else ([], batchE cs key rows)) else ([], queryE cs key ns pr gr ag)
/-- (*State).Result of a state. -/
theorem stres_any {w : World} {SB L : Nat} {cs : List Col} {key : Int} {ns : List Nod} {pr gr : List Int} {ag : List Ag} {rv : Value} {lvs : List Value} {rows : List (List Val)} (h : StAt w SB L cs key ns pr gr ag rv lvs rows) (hq : QOk cs key ns pr gr ag) (hl : ∀ r ∈ rows, r.length = cs.length) (h20 : rows.length ≤ 1048576) :
    Calls Tryz.prog 15 #[.pointer (some ⟨SB, 0, none⟩)] w (ResPost w (resF cs pr gr ag rows).1 (resF cs pr gr ag rows).2) := by
  obtain ⟨cv, nv, pv, gv, av, c0, c1, c2, c3, c4, c5, k0, k1, k2, k3, k4⟩ := h.st
  have hS : SB < w.heap.size := Nat.lt_of_lt_of_le h.lt h.up
  have hS' := Nat.le_of_lt hS
  exact aresult_any SB cv cs pv pr gv gr av ag rv rows w hS c0 c3 c4 c5 h.s6 (k0.mono (Below.refl _ _) hS') (ints_on k2 (Below.refl _ _) hS') (ints_on k3 (Below.refl _ _) hS') (k4.mono (Below.refl _ _) hS') (inn_rows (by omega) h.inn h.own) hq.inp hq.ing hq.ags hl h20 hq.p16 hq.g16 hq.a16
theorem aaddC_any (SB L : Nat) (cs : List Col) (key : Int) (ns : List Nod) (pr gr : List Int) (ag : List Ag) (rv : Value) (lvs : List Value) (rows0 : List (List Val)) (xv : Value) (rows : List (List Val)) (w : World) (hst : StAt w SB L cs key ns pr gr ag rv lvs rows0) (hr : RowsAt w w.heap.size xv rows) (hq : predF cs key ns = 0) (h20 : rows0.length ≤ 1048576) :
    Calls Tryz.prog 14 #[.pointer (some ⟨SB, 0, none⟩), xv] w (AddPost w SB L cs key ns pr gr ag rv lvs rows0 rows) := by
  refine (aadd2_any SB L cs key ns pr gr ag rv lvs rows0 xv rows w hst hr hq h20).mono ?_
  intro e w' q
  unfold AddPost2 at q
  unfold AddPost
  refine ⟨q.1, ?_⟩
  by_cases b : batchE cs key rows = 0
  · rw [if_pos b]
    have z := q.2
    rw [if_pos b] at z
    obtain ⟨rv', ps, h1, h2, _⟩ := z
    exact ⟨rv', _, h1, h2⟩
  · rw [if_neg b]
    have z := q.2
    rw [if_neg b] at z
    exact z
set_option maxRecDepth 8000 in
set_option maxHeartbeats 2000000 in
theorem arun_any (cv : Value) (cs : List Col) (key : Int) (nv : Value) (ns : List Nod) (pv : Value) (pr : List Int) (gv : Value) (gr : List Int) (av : Value) (ag : List Ag) (rv : Value) (rows : List (List Val)) (w : World) (hc : ColsAt w w.heap.size cv cs) (hn : NodsAt w w.heap.size nv ns) (hp : IntsAt w w.heap.size pv pr) (hg : IntsAt w w.heap.size gv gr) (ha : AgsAt w w.heap.size av ag) (hr : RowsAt w w.heap.size rv rows) (hls : ∀ d ∈ ns, d.ls.length ≤ 4398046511104) :
    Calls Tryz.prog 25 #[.agg #[cv, .int .i64 key], .agg #[nv, pv, gv, av], rv] w (ResPost w (runF cs key ns pr gr ag rows).1 (runF cs key ns pr gr ag rows).2) := by
  obtain ⟨ca, cc, rfl⟩ := cols_end hc
  obtain ⟨na, nc, rfl⟩ := nods_end hn
  obtain ⟨pa, pc, rfl⟩ := ints_end hp
  obtain ⟨ga, gc, rfl⟩ := ints_end hg
  obtain ⟨aa, ac, rfl⟩ := ags_end ha
  obtain ⟨ra, rc, rfl⟩ := rows_end hr
  have NW := Lib.hid (fun (W : World) (hb : Below w.heap.size w W) => anew_any (.slice ca cs.length cc) cs key (.slice na ns.length nc) ns (.slice pa pr.length pc) pr (.slice ga gr.length gc) gr (.slice aa ag.length ac) ag W (hc.mono hb hb.size) (hn.mono hb hb.size) (ints_on hp hb hb.size) (ints_on hg hb hb.size) (ha.mono hb hb.size) hls)
  have HR := Lib.hid hr
  obtain ⟨np, hnp⟩ : ∃ n, pr.length = n := ⟨_, rfl⟩
  obtain ⟨ng, hng⟩ : ∃ n, gr.length = n := ⟨_, rfl⟩
  obtain ⟨nA, hnA⟩ : ∃ n, ag.length = n := ⟨_, rfl⟩
  obtain ⟨nn, hnn⟩ : ∃ n, ns.length = n := ⟨_, rfl⟩
  obtain ⟨nk, hnk⟩ : ∃ n, cs.length = n := ⟨_, rfl⟩
  obtain ⟨m, hm⟩ : ∃ n, rows.length = n := ⟨_, rfl⟩
  rw [hnp, hng, hnA, hnn, hnk] at NW
  rw [hnp, hng, hnA, hnn, hnk, hm]
  rw [hm] at HR
  obtain ⟨E, hE⟩ : ∃ E, queryE cs key ns pr gr ag = E := ⟨_, rfl⟩
  rw [hE] at NW
  have HE := Lib.hid hE
  have LK := Lib.hid hnk
  obtain ⟨R, hR⟩ : ∃ R, runF cs key ns pr gr ag rows = R := ⟨_, rfl⟩
  rw [hR]
  have HRR := Lib.hid hR
  clear hc hn hp hg ha hr hls hnp hng hnA hnn hnk hm hE hR
  by_cases E0 : E = 0
  · subst E0
    have Q := Lib.hid (queryE_ok HE.out)
    obtain ⟨B, hB⟩ : ∃ B, batchE cs key rows = B := ⟨_, rfl⟩
    have AP := Lib.hid (fun (SB L : Nat) (W : World) (hst : StAt W SB L cs key ns pr gr ag (.slice none 0 0) [] []) (hb : Below w.heap.size w W) => (by
      have q := aaddC_any SB L cs key ns pr gr ag (.slice none 0 0) [] [] (.slice ra m rc) rows W hst (HR.out.mono hb hb.size) Q.out.pred (by simp)
      unfold AddPost at q
      rw [hB] at q
      exact q : Calls Tryz.prog 14 #[.pointer (some ⟨SB, 0, none⟩), .slice ra m rc] W fun e w' => e = .returned (.int .i64 B) ∧ (if B = 0 then ∃ rv' lvs', StAt w' SB L cs key ns pr gr ag rv' lvs' ([] ++ selR cs ns rows) ∧ Mv (fun k => k = SB ∨ Value.ownBlock (.slice none 0 0) = some k) W w' else Below W.heap.size W w')))
    have HB := Lib.hid hB
    clear hB
    by_cases B0 : B = 0
    · subst B0
      have RQ : Hid (resF cs pr gr ag (selR cs ns rows) = R) := Lib.hid (by rw [← HRR.out]; unfold runF; rw [if_pos HE.out, if_pos HB.out])
      have BO := Lib.hid (batchE_ok HB.out)
      have RC := Lib.hid (fun (SB L : Nat) (rv' : Value) (lvs' : List Value) (W : World) (hst : StAt W SB L cs key ns pr gr ag rv' lvs' (selR cs ns rows)) => (by
        have q := stres_any hst Q.out (fun r hr => (BO.out.2 r (List.mem_filter.1 hr).1).1) (by have := List.length_filter_le (fun r => evalF cs r ns == 1) rows; have := BO.out.1; unfold selR; omega)
        rw [RQ.out] at q; exact q : Calls Tryz.prog 15 #[.pointer (some ⟨SB, 0, none⟩)] W (ResPost W R.1 R.2)))
      go_enter Tryz.func25, Tryz.ntmps25
      go_wp2_with (first
        | (go_at_call 13; refine Calls.mono (NW.out _ (by with_reducible repeat (first | exact Below.refl _ _ | assumption | refine Below.al ?_ _ | refine Below.on ?_ _ | refine Below.st ?_ (by first | assumption | (simp; done) | (simp; omega)) _ | refine Below.drew ?_))) ?_; intro e w1 hq1; unfold NewPost at hq1; rw [if_pos rfl] at hq1; obtain ⟨SB, rfl, hlo, hst, hb1⟩ := hq1; have S1 := Lib.hid hst; have hw1 : Below w.heap.size w w1 := Below.to (by with_reducible repeat (first | exact Below.refl _ _ | assumption | refine Below.al ?_ _ | refine Below.on ?_ _ | refine Below.st ?_ (by first | assumption | (simp; done) | (simp; omega)) _ | refine Below.drew ?_)) hb1; have W1 := Lib.hid hw1; have LO : Hid (w.heap.size ≤ SB) := Lib.hid (Nat.le_trans (show Below w.heap.size w _ from (by with_reducible repeat (first | exact Below.refl _ _ | assumption | refine Below.al ?_ _ | refine Below.on ?_ _ | refine Below.st ?_ (by first | assumption | (simp; done) | (simp; omega)) _ | refine Below.drew ?_))).size hlo); clear hst hlo hb1 hw1)
        | (go_at_call 14; refine Calls.mono (AP.out _ _ _ S1.out W1.out) ?_; intro e w2 hq2; obtain ⟨rfl, hq2⟩ := hq2; simp only [eq_self, if_true, List.nil_append] at hq2; obtain ⟨rv2, lvs2, hst2, hm2⟩ := hq2; have S2 := Lib.hid hst2; have W2 : Hid (Below w.heap.size w w2) := Lib.hid (Mv.below hm2 W1.out (fun k hk => hk.elim (fun e => by rw [e]; exact LO.out) (fun e => by simp [Value.ownBlock] at e))); clear hst2 hm2)
        | (go_at_call 15; refine Calls.mono (RC.out _ _ _ _ _ S2.out) ?_; rintro e w3 ⟨v3, rfl, hr3, hb3⟩; have R3 := Lib.hid hr3; have W3 := Lib.hid (Below.to W2.out hb3); clear hr3 hb3))
      refine bodyPost_ret (v := .tuple #[v3, .int .i64 R.2]) ?_ rfl ⟨v3, rfl, R3.out, W3.out⟩
      simp (maxDischargeDepth := 9) [results, Tryz.results25, go_sem, *]
    · obtain rfl : (([], B) : List (List Val) × Int) = R := by rw [← HRR.out]; unfold runF; rw [if_pos HE.out, if_neg (by rw [HB.out]; exact B0), HB.out]
      have t : (B != 0) = true := by simpa using B0
      go_enter Tryz.func25, Tryz.ntmps25
      go_wp2_with (first
        | (go_at_call 13; refine Calls.mono (NW.out _ (by with_reducible repeat (first | exact Below.refl _ _ | assumption | refine Below.al ?_ _ | refine Below.on ?_ _ | refine Below.st ?_ (by first | assumption | (simp; done) | (simp; omega)) _ | refine Below.drew ?_))) ?_; intro e w1 hq1; unfold NewPost at hq1; rw [if_pos rfl] at hq1; obtain ⟨SB, rfl, hlo, hst, hb1⟩ := hq1; have S1 := Lib.hid hst; have hw1 : Below w.heap.size w w1 := Below.to (by with_reducible repeat (first | exact Below.refl _ _ | assumption | refine Below.al ?_ _ | refine Below.on ?_ _ | refine Below.st ?_ (by first | assumption | (simp; done) | (simp; omega)) _ | refine Below.drew ?_)) hb1; have W1 := Lib.hid hw1; clear hst hlo hb1 hw1)
        | (go_at_call 14; refine Calls.mono (AP.out _ _ _ S1.out W1.out) ?_; intro e w2 hq2; obtain ⟨rfl, hq2⟩ := hq2; rw [if_neg B0] at hq2; have W2 := Lib.hid (Below.to W1.out hq2); clear hq2))
      refine bodyPost_ret (v := .tuple #[.slice none 0 0, .int .i64 B]) ?_ rfl ⟨.slice none 0 0, rfl, rows_nil _ _, W2.out⟩
      simp (maxDischargeDepth := 9) [results, Tryz.results25, go_sem, *]
  · obtain rfl : (([], E) : List (List Val) × Int) = R := by rw [← HRR.out]; unfold runF; rw [if_neg (by rw [HE.out]; exact E0), HE.out]
    have t : (E != 0) = true := by simpa using E0
    go_enter Tryz.func25, Tryz.ntmps25
    go_wp2_with (go_at_call 13; refine Calls.mono (NW.out _ (by with_reducible repeat (first | exact Below.refl _ _ | assumption | refine Below.al ?_ _ | refine Below.on ?_ _ | refine Below.st ?_ (by first | assumption | (simp; done) | (simp; omega)) _ | refine Below.drew ?_))) ?_; intro e w1 hq1; unfold NewPost at hq1; rw [if_neg E0] at hq1; obtain ⟨rfl, hb1⟩ := hq1; have W1 : Hid (Below w.heap.size w w1) := Lib.hid (Below.to (by with_reducible repeat (first | exact Below.refl _ _ | assumption | refine Below.al ?_ _ | refine Below.on ?_ _ | refine Below.st ?_ (by first | assumption | (simp; done) | (simp; omega)) _ | refine Below.drew ?_)) hb1); clear hb1)
    refine bodyPost_ret (v := .tuple #[.slice none 0 0, .int .i64 E]) ?_ rfl ⟨.slice none 0 0, rfl, rows_nil _ _, W1.out⟩
    simp (maxDischargeDepth := 9) [results, Tryz.results25, go_sem, *]
end Go.Proofs.YtpahoenanfjhpaaGreat
