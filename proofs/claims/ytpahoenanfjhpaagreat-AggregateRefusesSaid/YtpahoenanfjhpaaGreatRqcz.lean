/-
  CHAPTER 26: the reference's CheckQuery of any schema and query. Conditions: the schema and the query's parts lie in memory as 'ColsAt', 'NodsAt', 'IntsAt', 'AgsAt' say.
-/
import Derived.Test.YtpahoenanfjhpaaGreatRqaz
import Derived.Test.YtpahoenanfjhpaaGreatZe
set_option linter.unusedVariables false
set_option linter.unusedSimpArgs false
namespace Go.Proofs.YtpahoenanfjhpaaGreat
open Go.RowKit Srt
set_option maxRecDepth 8000 in
set_option maxHeartbeats 2000000 in
theorem refquery_any (cv : Value) (cs : List Col) (key : Int) (nv : Value) (ns : List Nod) (pv : Value) (pr : List Int) (gv : Value) (gr : List Int) (av : Value) (ag : List Ag) (w : World) (hc : ColsAt w w.heap.size cv cs) (hn : NodsAt w w.heap.size nv ns) (hp : IntsAt w w.heap.size pv pr) (hg : IntsAt w w.heap.size gv gr) (ha : AgsAt w w.heap.size av ag) :
    Calls Tryz.prog 30 #[.agg #[cv, .int .i64 key], .agg #[nv, pv, gv, av]] w fun e w' => e = .returned (.int .i64 (queryE cs key ns pr gr ag)) ∧ Below w.heap.size w w' := by
  obtain ⟨ca, cc, rfl⟩ := cols_end hc
  obtain ⟨na, nnc, rfl⟩ := nods_end hn
  obtain ⟨pa, pc, rfl⟩ := ints_end hp
  obtain ⟨ga, gc, rfl⟩ := ints_end hg
  obtain ⟨aa, ac, rfl⟩ := ags_end ha
  obtain ⟨n, hnc⟩ : ∃ n, cs.length = n := ⟨_, rfl⟩
  obtain ⟨nn, hnn⟩ : ∃ n, ns.length = n := ⟨_, rfl⟩
  obtain ⟨np, hnp⟩ : ∃ n, pr.length = n := ⟨_, rfl⟩
  obtain ⟨ng, hng⟩ : ∃ n, gr.length = n := ⟨_, rfl⟩
  obtain ⟨nA, hnA⟩ : ∃ n, ag.length = n := ⟨_, rfl⟩
  have c63 := hc.1
  have p63 := hp.2.1
  have g63 := hg.2.1
  have a63 := ha.1
  rw [hnc] at c63 hc ⊢
  rw [hnn] at hn ⊢
  rw [hnp] at p63 hp ⊢
  rw [hng] at g63 hg ⊢
  rw [hnA] at a63 ha ⊢
  have HC := Lib.hid hc
  have HN := Lib.hid hn
  have HP := Lib.hid hp
  have HG := Lib.hid hg
  have HA := Lib.hid ha
  have LC := Lib.hid hnc
  have LP := Lib.hid hnp
  have LG := Lib.hid hng
  have LA := Lib.hid hnA
  obtain ⟨R, hR⟩ : ∃ R, queryE cs key ns pr gr ag = R := ⟨_, rfl⟩
  rw [hR]
  have HR := Lib.hid hR
  obtain ⟨E, hE⟩ : ∃ E, predF cs key ns = E := ⟨_, rfl⟩
  have HE := Lib.hid hE
  have PC := Lib.hid (fun (W : World) (hb : Below w.heap.size w W) => (by have q := refPredCheck_any (.slice ca n cc) cs key (.slice na nn nnc) ns W (HC.out.mono hb hb.size) (HN.out.mono hb hb.size); rw [hE] at q; exact q : Calls Tryz.prog 54 #[.agg #[.slice ca n cc, .int .i64 key], .slice na nn nnc] W fun e w' => e = .returned (.int .i64 E) ∧ Below W.heap.size W w'))
  have CO := Lib.hid (fun (l : List Int) (la : Option Addr) (lc : Nat) (W : World) (hb : Below w.heap.size w W) (hl : IntsC W la l) => refcolumns_c (.slice ca n cc) cs key la lc l W (HC.out.mono hb hb.size) hl)
  clear hc hn hp hg ha hnc hnn hnp hng hnA hR hE
  by_cases e0 : E = 0
  · subst e0
    have HQ : Hid ((if 16 < np ∨ 16 < ng ∨ 16 < nA then 7 else if (0 < nA ∧ 0 < np) ∨ (nA = 0 ∧ 0 < ng) then 1 else if outC cs (pr ++ gr) = true then 4 else agsE cs ag) = R) := Lib.hid (by have := HR.out; unfold queryE at this; rwa [if_pos HE.out, LP.out, LG.out, LA.out] at this)
    clear HR HE
    by_cases a1 : 16 < np
    · obtain rfl : 7 = R := by rw [← HQ.out, if_pos (.inl a1)]
      have a1' : (16 : Int) < (np : Int) := by omega
      clear HQ
      go_enter Tryz.func30, Tryz.ntmps30
      go_wp2_with (go_at_call 54; refine Calls.mono (PC.out _ (by with_reducible repeat (first | exact Below.refl _ _ | assumption | refine Below.al ?_ _ | refine Below.on ?_ _ | refine Below.st ?_ (by first | assumption | (simp; done) | (simp; omega)) _ | refine Below.drew ?_))) ?_; rintro e w1 ⟨rfl, hb1⟩; obtain ⟨x1, rfl⟩ := Ext.of hb1; have zz1 : w.heap.size + 1 < x1.it.heap.size := x1.lt (by (first | assumption | (simp; done) | (simp; omega))); have zz0 : w.heap.size < x1.it.heap.size := x1.lt (by (first | assumption | (simp; done) | (simp; omega))))
      exact bodyPost_ret (v := .int .i64 7) (by simp [results, Tryz.results30, go_sem, *]) rfl (⟨rfl, by with_reducible repeat (first | exact Below.refl _ _ | assumption | refine Below.al ?_ _ | refine Below.on ?_ _ | refine Below.st ?_ (by first | assumption | (simp; done) | (simp; omega)) _ | refine Below.drew ?_)⟩)
    by_cases a2 : 16 < ng
    · obtain rfl : 7 = R := by rw [← HQ.out, if_pos (.inr (.inl a2))]
      have a1' : ¬ (16 : Int) < (np : Int) := by omega
      have a2' : (16 : Int) < (ng : Int) := by omega
      clear HQ
      go_enter Tryz.func30, Tryz.ntmps30
      go_wp2_with (go_at_call 54; refine Calls.mono (PC.out _ (by with_reducible repeat (first | exact Below.refl _ _ | assumption | refine Below.al ?_ _ | refine Below.on ?_ _ | refine Below.st ?_ (by first | assumption | (simp; done) | (simp; omega)) _ | refine Below.drew ?_))) ?_; rintro e w1 ⟨rfl, hb1⟩; obtain ⟨x1, rfl⟩ := Ext.of hb1; have zz1 : w.heap.size + 1 < x1.it.heap.size := x1.lt (by (first | assumption | (simp; done) | (simp; omega))); have zz0 : w.heap.size < x1.it.heap.size := x1.lt (by (first | assumption | (simp; done) | (simp; omega))))
      exact bodyPost_ret (v := .int .i64 7) (by simp [results, Tryz.results30, go_sem, *]) rfl (⟨rfl, by with_reducible repeat (first | exact Below.refl _ _ | assumption | refine Below.al ?_ _ | refine Below.on ?_ _ | refine Below.st ?_ (by first | assumption | (simp; done) | (simp; omega)) _ | refine Below.drew ?_)⟩)
    by_cases a3 : 16 < nA
    · obtain rfl : 7 = R := by rw [← HQ.out, if_pos (.inr (.inr a3))]
      have a1' : ¬ (16 : Int) < (np : Int) := by omega
      have a2' : ¬ (16 : Int) < (ng : Int) := by omega
      have a3' : (16 : Int) < (nA : Int) := by omega
      clear HQ
      go_enter Tryz.func30, Tryz.ntmps30
      go_wp2_with (go_at_call 54; refine Calls.mono (PC.out _ (by with_reducible repeat (first | exact Below.refl _ _ | assumption | refine Below.al ?_ _ | refine Below.on ?_ _ | refine Below.st ?_ (by first | assumption | (simp; done) | (simp; omega)) _ | refine Below.drew ?_))) ?_; rintro e w1 ⟨rfl, hb1⟩; obtain ⟨x1, rfl⟩ := Ext.of hb1; have zz1 : w.heap.size + 1 < x1.it.heap.size := x1.lt (by (first | assumption | (simp; done) | (simp; omega))); have zz0 : w.heap.size < x1.it.heap.size := x1.lt (by (first | assumption | (simp; done) | (simp; omega))))
      exact bodyPost_ret (v := .int .i64 7) (by simp [results, Tryz.results30, go_sem, *]) rfl (⟨rfl, by with_reducible repeat (first | exact Below.refl _ _ | assumption | refine Below.al ?_ _ | refine Below.on ?_ _ | refine Below.st ?_ (by first | assumption | (simp; done) | (simp; omega)) _ | refine Below.drew ?_)⟩)
    have HQ2 : Hid ((if (0 < nA ∧ 0 < np) ∨ (nA = 0 ∧ 0 < ng) then 1 else if outC cs (pr ++ gr) = true then 4 else agsE cs ag) = R) := Lib.hid (by have := HQ.out; rwa [if_neg (by omega)] at this)
    clear HQ
    have a1' : ¬ (16 : Int) < (np : Int) := by omega
    have a2' : ¬ (16 : Int) < (ng : Int) := by omega
    have a3' : ¬ (16 : Int) < (nA : Int) := by omega
    obtain ⟨C, hC⟩ : ∃ C : Bool, decide ((0 < nA ∧ 0 < np) ∨ (nA = 0 ∧ 0 < ng)) = C := ⟨_, rfl⟩
    have HCC := Lib.hid hC
    clear hC
    go_enter Tryz.func30, Tryz.ntmps30
    go_upto_region 6 with (go_at_call 54; refine Calls.mono (PC.out _ (by with_reducible repeat (first | exact Below.refl _ _ | assumption | refine Below.al ?_ _ | refine Below.on ?_ _ | refine Below.st ?_ (by first | assumption | (simp; done) | (simp; omega)) _ | refine Below.drew ?_))) ?_; rintro e w1 ⟨rfl, hb1⟩; obtain ⟨x1, rfl⟩ := Ext.of hb1; have zz1 : w.heap.size + 1 < x1.it.heap.size := x1.lt (by (first | assumption | (simp; done) | (simp; omega))); have zz0 : w.heap.size < x1.it.heap.size := x1.lt (by (first | assumption | (simp; done) | (simp; omega))))
    refine captureM ?_
    intro y ey
    have yb : Below w.heap.size w y := by rw [ey]; exact (by with_reducible repeat (first | exact Below.refl _ _ | assumption | refine Below.al ?_ _ | refine Below.on ?_ _ | refine Below.st ?_ (by first | assumption | (simp; done) | (simp; omega)) _ | refine Below.drew ?_))
    have y0 : y.cell? ⟨w.heap.size, 0, none⟩ = some (.slice ca n cc) := by rw [ey]; simp (maxDischargeDepth := 9) [go_sem, *]
    have y1 : y.cell? ⟨w.heap.size, 1, none⟩ = some (.int .i64 key) := by rw [ey]; simp (maxDischargeDepth := 9) [go_sem, *]
    have z1 : y.cell? ⟨w.heap.size + 1, 1, none⟩ = some (.slice pa np pc) := by rw [ey]; simp (maxDischargeDepth := 9) [go_sem, *]
    have z2 : y.cell? ⟨w.heap.size + 1, 2, none⟩ = some (.slice ga ng gc) := by rw [ey]; simp (maxDischargeDepth := 9) [go_sem, *]
    have z3 : y.cell? ⟨w.heap.size + 1, 3, none⟩ = some (.slice aa nA ac) := by rw [ey]; simp (maxDischargeDepth := 9) [go_sem, *]
    have yz : w.heap.size + 1 < y.heap.size := by rw [ey]; exact zz1
    clear ey zz0 zz1 hb1 x1
    obtain ⟨SB, hSB⟩ : ∃ b, w.heap.size = b := ⟨_, rfl⟩
    rw [hSB] at y0 y1 z1 z2 z3 yz ⊢
    have HSB := Lib.hid hSB
    clear hSB
    go_cut [53] from 32 to 53 (fun sx wx => sx = .bool C ∧ y = wx)
    case first =>
      by_cases b1 : 0 < nA
      · have b1' : (0 : Int) < (nA : Int) := by omega
        have b1'' : ((nA : Int) == 0) = false := by simp; omega
        by_cases b2 : 0 < np
        · have b2' : (0 : Int) < (np : Int) := by omega
          go_wp2
          go_meet
          exact ⟨by rw [← HCC.out]; simp [b1, b2], rfl⟩
        · have b2' : ¬ (0 : Int) < (np : Int) := by omega
          go_wp2
          go_meet
          exact ⟨by rw [← HCC.out, decide_eq_false (by omega)], rfl⟩
      · have b1' : ¬ (0 : Int) < (nA : Int) := by omega
        have b1'' : ((nA : Int) == 0) = true := by simp; omega
        by_cases b3 : 0 < ng
        · have b3' : (0 : Int) < (ng : Int) := by omega
          go_wp2
          go_meet
          exact ⟨by rw [← HCC.out, decide_eq_true (by omega)], rfl⟩
        · have b3' : ¬ (0 : Int) < (ng : Int) := by omega
          go_wp2
          go_meet
          exact ⟨by rw [← HCC.out, decide_eq_false (by omega)], rfl⟩
    case rest =>
    obtain ⟨rfl, rfl⟩ := hcut
    have yz0 : SB < y.heap.size := by omega
    cases C with
    | true =>
      obtain rfl : 1 = R := by rw [← HQ2.out, if_pos (of_decide_eq_true HCC.out)]
      clear HQ2
      go_wp2
      exact bodyPost_ret (v := .int .i64 1) (by simp [results, Tryz.results30, go_sem, *]) rfl (⟨rfl, by with_reducible repeat (first | exact Below.refl _ _ | assumption | refine Below.al ?_ _ | refine Below.on ?_ _ | refine Below.st ?_ (by first | assumption | (simp; done) | (simp; omega)) _ | refine Below.drew ?_)⟩)
    | false =>
      have HQ3 : Hid ((if (outC cs pr || outC cs gr) = true then 4 else agsE cs ag) = R) := Lib.hid (by have := HQ2.out; rw [if_neg (of_decide_eq_false HCC.out)] at this; rwa [show outC cs (pr ++ gr) = (outC cs pr || outC cs gr) from List.any_append] at this)
      clear HQ2
      have C1 := Lib.hid (fun W (hb : Below w.heap.size w W) => (by have q := CO.out pr pa pc W hb (IntsC.of (ints_on HP.out hb hb.size)); rw [LP.out] at q; exact q : Calls Tryz.prog 55 #[.agg #[.slice ca n cc, .int .i64 key], .slice pa np pc] W fun e w' => e = .returned (.bool (!outC cs pr)) ∧ Below W.heap.size W w'))
      have C2 := Lib.hid (fun W (hb : Below w.heap.size w W) => (by have q := CO.out gr ga gc W hb (IntsC.of (ints_on HG.out hb hb.size)); rw [LG.out] at q; exact q : Calls Tryz.prog 55 #[.agg #[.slice ca n cc, .int .i64 key], .slice ga ng gc] W fun e w' => e = .returned (.bool (!outC cs gr)) ∧ Below W.heap.size W w'))
      obtain ⟨O1, hO1⟩ : ∃ b, outC cs pr = b := ⟨_, rfl⟩
      obtain ⟨O2, hO2⟩ : ∃ b, outC cs gr = b := ⟨_, rfl⟩
      rw [hO1] at C1 HQ3
      rw [hO2] at C2 HQ3
      clear hO1 hO2
      cases O1 with
      | true =>
        obtain rfl : 4 = R := by rw [← HQ3.out]; rfl
        clear HQ3
        go_wp2_with (go_at_call 55; refine Calls.mono (C1.out _ (by with_reducible repeat (first | exact Below.refl _ _ | assumption | refine Below.al ?_ _ | refine Below.on ?_ _ | refine Below.st ?_ (by first | assumption | (simp; done) | (simp; omega)) _ | refine Below.drew ?_))) ?_; rintro e w2 ⟨rfl, hb2⟩; obtain ⟨x2, rfl⟩ := Ext.of hb2; have zq := x2.lt yz)
        exact bodyPost_ret (v := .int .i64 4) (by simp [results, Tryz.results30, go_sem, *]) rfl (⟨rfl, by with_reducible repeat (first | exact Below.refl _ _ | assumption | refine Below.al ?_ _ | refine Below.on ?_ _ | refine Below.st ?_ (by first | assumption | (simp; done) | (simp; omega)) _ | refine Below.drew ?_)⟩)
      | false =>
      cases O2 with
      | true =>
        obtain rfl : 4 = R := by rw [← HQ3.out]; rfl
        clear HQ3
        go_wp2_with (first | (go_at_call 55; with_reducible refine Calls.mono (C1.out _ (by with_reducible repeat (first | exact Below.refl _ _ | assumption | refine Below.al ?_ _ | refine Below.on ?_ _ | refine Below.st ?_ (by first | assumption | (simp; done) | (simp; omega)) _ | refine Below.drew ?_))) ?_; (rintro e w2 ⟨rfl, hb2⟩; obtain ⟨x2, rfl⟩ := Ext.of hb2; have zq := x2.lt yz; have zq0 := x2.lt yz0)) | (go_at_call 55; with_reducible refine Calls.mono (C2.out _ (by with_reducible repeat (first | exact Below.refl _ _ | assumption | refine Below.al ?_ _ | refine Below.on ?_ _ | refine Below.st ?_ (by first | assumption | (simp; done) | (simp; omega)) _ | refine Below.drew ?_))) ?_; (rintro e w3 ⟨rfl, hb3⟩; obtain ⟨x3, rfl⟩ := Ext.of hb3)))
        exact bodyPost_ret (v := .int .i64 4) (by simp [results, Tryz.results30, go_sem, *]) rfl (⟨rfl, by with_reducible repeat (first | exact Below.refl _ _ | assumption | refine Below.al ?_ _ | refine Below.on ?_ _ | refine Below.st ?_ (by first | assumption | (simp; done) | (simp; omega)) _ | refine Below.drew ?_)⟩)
      | false =>
      have HQ4 : Hid (agsE cs ag = R) := Lib.hid (by have := HQ3.out; rwa [if_neg (by decide)] at this)
      clear HQ3
      go_upto_region 10 with (first | (go_at_call 55; with_reducible refine Calls.mono (C1.out _ (by with_reducible repeat (first | exact Below.refl _ _ | assumption | refine Below.al ?_ _ | refine Below.on ?_ _ | refine Below.st ?_ (by first | assumption | (simp; done) | (simp; omega)) _ | refine Below.drew ?_))) ?_; (rintro e w2 ⟨rfl, hb2⟩; obtain ⟨x2, rfl⟩ := Ext.of hb2; have zq := x2.lt yz; have zq0 := x2.lt yz0)) | (go_at_call 55; with_reducible refine Calls.mono (C2.out _ (by with_reducible repeat (first | exact Below.refl _ _ | assumption | refine Below.al ?_ _ | refine Below.on ?_ _ | refine Below.st ?_ (by first | assumption | (simp; done) | (simp; omega)) _ | refine Below.drew ?_))) ?_; (rintro e w3 ⟨rfl, hb3⟩; obtain ⟨x3, rfl⟩ := Ext.of hb3)))
      refine captureM ?_
      intro t et
      have yt : Below y.heap.size y t := by rw [et]; exact (by with_reducible repeat (first | exact Below.refl _ _ | assumption | refine Below.al ?_ _ | refine Below.on ?_ _ | refine Below.st ?_ (by first | assumption | (simp; done) | (simp; omega)) _ | refine Below.drew ?_))
      have t0 := (yt.cell (p := ⟨SB, 0, none⟩) yz0).trans y0
      have t1 := (yt.cell (p := ⟨SB, 1, none⟩) yz0).trans y1
      have t3 := (yt.cell (p := ⟨SB + 1, 3, none⟩) yz).trans z3
      have tb : Below w.heap.size w t := Below.to yb yt
      have tz : SB + 1 < t.heap.size := Nat.lt_of_lt_of_le yz yt.size
      have tz0 : SB < t.heap.size := by omega
      clear et hb2 hb3 x2 x3 yt y0 y1 z1 z2 z3 yz yz0 C1 C2 zq zq0
      go_wp2_with fail
      go_loopg [69] nA (fun g st wr => ∃ k : Nat, k + g = nA ∧ st = .int .i64 (k : Int) ∧ agsE cs (ag.drop k) = R ∧ ∃ x : Ext t, x.it = wr)
      case atStart => exact ⟨0, by omega, rfl, by simpa using HQ4.out, ⟨t, Below.refl _ _⟩, rfl⟩
      case round =>
        obtain ⟨j, hj, rfl, hF, x, rfl⟩ := hrel
        clear HQ4
        have hx := Below.on tb x
        have s0 := (x.cell SB 0 tz0).trans t0
        have s1 := (x.cell SB 1 tz0).trans t1
        have zw := x.lt tz0
        by_cases hg0 : gk = 0
        · subst hg0
          obtain rfl : j = nA := by omega
          obtain rfl : 0 = R := by rw [← hF, List.drop_of_length_le (by rw [LA.out]; exact Nat.le_refl _)]; rfl
          have tk : ¬ (j : Int) < (j : Int) := by omega
          clear hF hj
          go_wp2
          exact bodyPost_ret (v := .int .i64 0) (by simp [results, Tryz.results30, go_sem, *]) rfl (⟨rfl, by with_reducible repeat (first | exact Below.refl _ _ | assumption | refine Below.al ?_ _ | refine Below.on ?_ _ | refine Below.st ?_ (by first | assumption | (simp; done) | (simp; omega)) _ | refine Below.drew ?_)⟩)
        · have hkm : j < nA := by omega
          have hkm' : (j : Int) < (nA : Int) := by omega
          have hka : j < ag.length := by rw [LA.out]; exact hkm
          obtain ⟨ab, ao, rfl, _, hab, c0, c1⟩ := ags_in HA.out hka
          have OKL := agsE_ok (cs := cs) hka
          have BDL := agsE_bad (cs := cs) hka
          obtain ⟨d, hd⟩ : ∃ d, ag[j]'hka = d := ⟨_, rfl⟩
          rw [hd] at OKL BDL c0 c1
          rw [hF] at OKL BDL
          obtain ⟨op, col⟩ := d
          dsimp only at OKL BDL c0 c1
          have f0 := (hx.cell (p := ⟨ab, ao + j * 2, none⟩) hab).trans c0
          have f1 := (hx.cell (p := ⟨ab, ao + j * 2 + 1, none⟩) hab).trans c1
          have za : ab < x.it.heap.size := Nat.lt_of_lt_of_le hab hx.size
          have HK := Lib.hid (And.intro hj hg0)
          obtain ⟨ve, hve⟩ : ∃ ve, agE cs ⟨op, col⟩ = ve := ⟨_, rfl⟩
          rw [hve] at OKL BDL
          have HV : Hid ((if op < 1 ∨ 5 < op ∨ (op = 1 ∧ ¬ col = 0) then 1 else if outC cs [col] = true then 4 else if op = 3 ∧ ¬ colTy cs col = 1 ∧ ¬ colTy cs col = 5 then 11 else 0) = ve) := Lib.hid (by rw [← hve]; unfold agE outC; simp only [List.any_cons, List.any_nil, Bool.or_false, Bool.or_eq_true, decide_eq_true_eq])
          have CG := Lib.hid (fun (W : World) (b : Nat) (hb : Below w.heap.size w W) (hl : IntsC W (some ⟨b, 0, none⟩) [col]) => CO.out [col] (some ⟨b, 0, none⟩) 1 W hb hl)
          have XB := Lib.hid x.below
          clear c0 c1 hd hj hg0 hF hve
          obtain ⟨D, hD⟩ : ∃ b : Bool, decide (op < 1 ∨ 5 < op ∨ (op = 1 ∧ ¬ col = 0)) = b := ⟨_, rfl⟩
          have HD := Lib.hid hD
          clear hD
          go_upto_region 13 with fail
          refine captureM ?_
          intro u eu
          have xu : Below x.it.heap.size x.it u := by rw [eu]; exact (by with_reducible repeat (first | exact Below.refl _ _ | assumption | refine Below.al ?_ _ | refine Below.on ?_ _ | refine Below.st ?_ (by first | assumption | (simp; done) | (simp; omega)) _ | refine Below.drew ?_))
          have g0 : u.cell? ⟨x.it.heap.size, 0, none⟩ = some (.int .i64 op) := by rw [eu]; simp (maxDischargeDepth := 9) [go_sem, *]
          have g1 : u.cell? ⟨x.it.heap.size, 1, none⟩ = some (.int .i64 col) := by rw [eu]; simp (maxDischargeDepth := 9) [go_sem, *]
          have zg : x.it.heap.size < u.heap.size := by rw [eu]; simp
          have s0' := (xu.cell (p := ⟨SB, 0, none⟩) zw).trans s0
          have s1' := (xu.cell (p := ⟨SB, 1, none⟩) zw).trans s1
          have zw' : SB < u.heap.size := Nat.lt_of_lt_of_le zw xu.size
          have ub : Below w.heap.size w u := Below.to hx xu
          have UB := Lib.hid (Below.to XB.out xu)
          clear eu xu f0 f1 s0 s1 zw
          obtain ⟨AB, hAB⟩ : ∃ b, x.it.heap.size = b := ⟨_, rfl⟩
          rw [hAB] at g0 g1 zg ⊢
          clear hAB XB hx za
          go_cut [90] from 73 to 90 (fun sx wx => sx = .bool D ∧ u = wx)
          case first =>
            by_cases h1 : op < 1
            · go_wp2
              go_meet
              exact ⟨by rw [← HD.out, decide_eq_true (.inl h1)], rfl⟩
            by_cases h2 : 5 < op
            · go_wp2
              go_meet
              exact ⟨by rw [← HD.out, decide_eq_true (.inr (.inl h2))], rfl⟩
            have h1' : ¬ op < 1 := h1
            by_cases h3 : op = 1
            · have b1 : (op == 1) = true := by simpa using h3
              by_cases h4 : col = 0
              · have b2 : (col != 0) = false := by simpa using h4
                have H4 := Lib.hid h4
                clear h3 h4
                go_wp2
                go_meet
                exact ⟨by rw [← HD.out, decide_eq_false (by rintro (q | q | q); omega; omega; exact q.2 H4.out)], rfl⟩
              · have b2 : (col != 0) = true := by simpa using h4
                have H3 := Lib.hid h3
                clear h3
                go_wp2
                go_meet
                exact ⟨by rw [← HD.out, decide_eq_true (.inr (.inr ⟨H3.out, h4⟩))], rfl⟩
            · have b1 : (op == 1) = false := by simpa using h3
              have h1n : ¬ op < 1 := h1
              have h2n : ¬ 5 < op := h2
              have H3 := Lib.hid (And.intro h1n (And.intro h2n h3))
              go_wp2
              go_meet
              exact ⟨by rw [← HD.out, decide_eq_false (by rintro (q | q | q); omega; omega; exact h3 q.1)], rfl⟩
          case rest =>
          obtain ⟨rfl, rfl⟩ := hcut
          cases D with
          | true =>
            obtain rfl : 1 = ve := by rw [← HV.out, if_pos (of_decide_eq_true HD.out)]
            obtain rfl : 1 = R := (BDL (by decide)).symm
            clear OKL BDL HV
            go_wp2
            exact bodyPost_ret (v := .int .i64 1) (by simp [results, Tryz.results30, go_sem, *]) rfl (⟨rfl, by with_reducible repeat (first | exact Below.refl _ _ | assumption | refine Below.al ?_ _ | refine Below.on ?_ _ | refine Below.st ?_ (by first | assumption | (simp; done) | (simp; omega)) _ | refine Below.drew ?_)⟩)
          | false =>
          have HV2 : Hid ((if outC cs [col] = true then 4 else if op = 3 ∧ ¬ colTy cs col = 1 ∧ ¬ colTy cs col = 5 then 11 else 0) = ve) := Lib.hid (by have := HV.out; rwa [if_neg (of_decide_eq_false HD.out)] at this)
          clear HV HD
          obtain ⟨O, hO⟩ : ∃ b, outC cs [col] = b := ⟨_, rfl⟩
          have HO := Lib.hid hO
          rw [hO] at HV2 CG
          clear hO
          cases O with
          | true =>
            obtain rfl : 4 = ve := HV2.out
            obtain rfl : 4 = R := (BDL (by decide)).symm
            clear OKL BDL HV2
            go_wp2_with (go_at_call 55; refine Calls.mono (CG.out _ _ (by with_reducible repeat (first | exact Below.refl _ _ | assumption | refine Below.al ?_ _ | refine Below.on ?_ _ | refine Below.st ?_ (by first | assumption | (simp; done) | (simp; omega)) _ | refine Below.drew ?_)) (IntsC.one (by simp) (by simp (maxDischargeDepth := 9) [go_sem, *]))) ?_; rintro e w4 ⟨rfl, hb4⟩; obtain ⟨x4, rfl⟩ := Ext.of hb4)
            exact bodyPost_ret (v := .int .i64 4) (by simp [results, Tryz.results30, go_sem, *]) rfl (⟨rfl, by with_reducible repeat (first | exact Below.refl _ _ | assumption | refine Below.al ?_ _ | refine Below.on ?_ _ | refine Below.st ?_ (by first | assumption | (simp; done) | (simp; omega)) _ | refine Below.drew ?_)⟩)
          | false =>
          have HV3 : Hid ((if op = 3 ∧ ¬ colTy cs col = 1 ∧ ¬ colTy cs col = 5 then 11 else 0) = ve) := Lib.hid (by have := HV2.out; rwa [if_neg (by decide)] at this)
          clear HV2
          have HCL : 0 ≤ col ∧ col < (cs.length : Int) := by
            have := HO.out; unfold outC at this
            simp only [List.any_cons, List.any_nil, Bool.or_false, Bool.or_eq_false_iff, decide_eq_false_iff_not] at this
            omega
          obtain ⟨K, rfl⟩ : ∃ K : Nat, col = (K : Int) := ⟨col.toNat, by omega⟩
          have hK : K < cs.length := by omega
          have hK' : (K : Int) < (n : Int) := by rw [← LC.out]; omega
          obtain ⟨cb, co, rfl, _, hcb, e0, e1, e2, e3⟩ := cols_in HC.out hK
          obtain ⟨ty, hty⟩ : ∃ t, (cs[K]'hK).ty = t := ⟨_, rfl⟩
          rw [colTy_at hK, hty] at HV3
          rw [hty] at e1
          have p1 := (ub.cell (p := ⟨cb, co + K * 4 + 1, none⟩) hcb).trans e1
          have zc : cb < u.heap.size := Nat.lt_of_lt_of_le hcb ub.size
          clear e0 e1 e2 e3 HCL HO hty
          go_upto_region 18 with (go_at_call 55; refine Calls.mono (CG.out _ _ (by with_reducible repeat (first | exact Below.refl _ _ | assumption | refine Below.al ?_ _ | refine Below.on ?_ _ | refine Below.st ?_ (by first | assumption | (simp; done) | (simp; omega)) _ | refine Below.drew ?_)) (IntsC.one (by simp) (by simp (maxDischargeDepth := 9) [go_sem, *]))) ?_; rintro e w4 ⟨rfl, hb4⟩; obtain ⟨x4, rfl⟩ := Ext.of hb4; have zg4 : AB < x4.it.heap.size := x4.lt (by first | (simp; done) | (simp; omega)); have zw4 : SB < x4.it.heap.size := x4.lt (by first | (simp; done) | (simp; omega)); have zc4 : cb < x4.it.heap.size := x4.lt (by first | (simp; done) | (simp; omega)))
          refine captureM ?_
          intro v ev
          have uv : Below u.heap.size u v := by rw [ev]; exact (by with_reducible repeat (first | exact Below.refl _ _ | assumption | refine Below.al ?_ _ | refine Below.on ?_ _ | refine Below.st ?_ (by first | assumption | (simp; done) | (simp; omega)) _ | refine Below.drew ?_))
          have g0' := (uv.cell (p := ⟨AB, 0, none⟩) zg).trans g0
          have zgv : AB < v.heap.size := Nat.lt_of_lt_of_le zg uv.size
          have vb : Below w.heap.size w v := Below.to ub uv
          have TB := Lib.hid (Below.to UB.out uv)
          clear ev hb4 x4 zg4 zw4 zc4 CG
          obtain ⟨G, hG⟩ : ∃ b : Bool, decide (op = 3 ∧ ¬ ty = 1 ∧ ¬ ty = 5) = b := ⟨_, rfl⟩
          have HGG := Lib.hid hG
          clear hG
          go_cut [114] from 104 to 114 (fun sx wx => sx = .bool G ∧ v = wx)
          case first =>
            by_cases h1 : op = 3
            · have b1 : (op == 3) = true := by simpa using h1
              have H1 := Lib.hid h1
              clear h1
              by_cases h2 : ty = 1
              · have b2 : (ty != 1) = false := by simpa using h2
                have H2 := Lib.hid h2
                clear h2
                go_wp2
                go_meet
                exact ⟨by rw [← HGG.out, decide_eq_false (by rintro ⟨_, q, _⟩; exact q H2.out)], rfl⟩
              · have b2 : (ty != 1) = true := by simpa using h2
                by_cases h3 : ty = 5
                · have b3 : (ty != 5) = false := by simpa using h3
                  have H3 := Lib.hid h3
                  clear h3
                  go_wp2
                  go_meet
                  exact ⟨by rw [← HGG.out, decide_eq_false (by rintro ⟨_, _, q⟩; exact q H3.out)], rfl⟩
                · have b3 : (ty != 5) = true := by simpa using h3
                  go_wp2
                  go_meet
                  exact ⟨by rw [← HGG.out, decide_eq_true ⟨H1.out, h2, h3⟩], rfl⟩
            · have b1 : (op == 3) = false := by simpa using h1
              go_wp2
              go_meet
              exact ⟨by rw [← HGG.out, decide_eq_false (by rintro ⟨q, _⟩; exact h1 q)], rfl⟩
          case rest =>
          obtain ⟨rfl, rfl⟩ := hcut
          cases G with
          | true =>
            obtain rfl : 11 = ve := by rw [← HV3.out, if_pos (of_decide_eq_true HGG.out)]
            obtain rfl : 11 = R := (BDL (by decide)).symm
            clear OKL BDL HV3
            go_wp2
            exact bodyPost_ret (v := .int .i64 11) (by simp [results, Tryz.results30, go_sem, *]) rfl (⟨rfl, by with_reducible repeat (first | exact Below.refl _ _ | assumption | refine Below.al ?_ _ | refine Below.on ?_ _ | refine Below.st ?_ (by first | assumption | (simp; done) | (simp; omega)) _ | refine Below.drew ?_)⟩)
          | false =>
            obtain rfl : 0 = ve := by rw [← HV3.out, if_neg (of_decide_eq_false HGG.out)]
            have OK := Lib.hid (OKL rfl)
            clear OKL BDL HV3
            go_wp2
            go_roundg (gk - 1)
            case measure => have := HK.out; omega
            case rel => exact ⟨j + 1, by have := HK.out; omega, by go_num, OK.out.symm, ext_of TB.out⟩
  · obtain rfl : E = R := by have := HR.out; unfold queryE at this; rwa [if_neg (by rw [HE.out]; exact e0), HE.out] at this
    have t : (E != 0) = true := by simpa using e0
    clear HR HE
    go_enter Tryz.func30, Tryz.ntmps30
    go_wp2_with (go_at_call 54; refine Calls.mono (PC.out _ (by with_reducible repeat (first | exact Below.refl _ _ | assumption | refine Below.al ?_ _ | refine Below.on ?_ _ | refine Below.st ?_ (by first | assumption | (simp; done) | (simp; omega)) _ | refine Below.drew ?_))) ?_; rintro e w1 ⟨rfl, hb1⟩; obtain ⟨x1, rfl⟩ := Ext.of hb1; have zz1 : w.heap.size + 1 < x1.it.heap.size := x1.lt (by (first | assumption | (simp; done) | (simp; omega))); have zz0 : w.heap.size < x1.it.heap.size := x1.lt (by (first | assumption | (simp; done) | (simp; omega))))
    exact bodyPost_ret (v := .int .i64 E) (by simp [results, Tryz.results30, go_sem, *]) rfl (⟨rfl, by with_reducible repeat (first | exact Below.refl _ _ | assumption | refine Below.al ?_ _ | refine Below.on ?_ _ | refine Below.st ?_ (by first | assumption | (simp; done) | (simp; omega)) _ | refine Below.drew ?_)⟩)
end Go.Proofs.YtpahoenanfjhpaaGreat
