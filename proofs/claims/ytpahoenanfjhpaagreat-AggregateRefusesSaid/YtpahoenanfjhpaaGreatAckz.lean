/-
  aggregate.Check of any schema and query. Conditions: the schema and the query's parts lie in memory as 'ColsAt', 'NodsAt', 'IntsAt', 'AgsAt' say.
-/
import Derived.Test.YtpahoenanfjhpaaGreatZh
import Derived.Test.YtpahoenanfjhpaaGreatZi
import Derived.Test.YtpahoenanfjhpaaGreatZj
import Derived.Test.YtpahoenanfjhpaaGreatZe
set_option linter.unusedVariables false
set_option linter.unusedSimpArgs false
namespace Go.Proofs.YtpahoenanfjhpaaGreat
open Go.RowKit
def outC (cs : List Col) (l : List Int) : Bool := l.any fun i => decide (i < 0) || decide ((cs.length : Int) ≤ i)
theorem outC_step {cs : List Col} {l : List Int} {k : Nat} (h : k < l.length) : outC cs (l.drop k) = ((decide (l[k]'h < 0) || decide ((cs.length : Int) ≤ l[k]'h)) || outC cs (l.drop (k + 1))) := by
  rw [List.drop_eq_getElem_cons h]; rfl
/-- The first error of a query. -/
def queryE (cs : List Col) (key : Int) (ns : List Nod) (pr gr : List Int) (ag : List Ag) : Int :=
  if predF cs key ns = 0 then
    (if 16 < pr.length ∨ 16 < gr.length ∨ 16 < ag.length then 7
     else if (0 < ag.length ∧ 0 < pr.length) ∨ (ag.length = 0 ∧ 0 < gr.length) then 1
     else if outC cs (pr ++ gr) = true then 4 else agsE cs ag)
  else predF cs key ns
set_option maxRecDepth 8000 in
set_option maxHeartbeats 2000000 in
theorem acheck_any (cv : Value) (cs : List Col) (key : Int) (nv : Value) (ns : List Nod) (pv : Value) (pr : List Int) (gv : Value) (gr : List Int) (av : Value) (ag : List Ag) (w : World) (hc : ColsAt w w.heap.size cv cs) (hn : NodsAt w w.heap.size nv ns) (hp : IntsAt w w.heap.size pv pr) (hg : IntsAt w w.heap.size gv gr) (ha : AgsAt w w.heap.size av ag) :
    Calls Tryz.prog 29 #[.agg #[cv, .int .i64 key], .agg #[nv, pv, gv, av]] w fun e w' => e = .returned (.int .i64 (queryE cs key ns pr gr ag)) ∧ Below w.heap.size w w' := by
  obtain ⟨ca, cc, rfl⟩ := cols_end hc
  obtain ⟨na, nnc, rfl⟩ := nods_end hn
  obtain ⟨pa, pc, rfl⟩ := ints_end hp
  obtain ⟨ga, gc, rfl⟩ := ints_end hg
  obtain ⟨aa, ac, rfl⟩ := ags_end ha
  obtain ⟨n, hnc⟩ : ∃ n, cs.length = n := ⟨_, rfl⟩
  obtain ⟨nn, hnn⟩ : ∃ n, ns.length = n := ⟨_, rfl⟩
  obtain ⟨np, hnp⟩ : ∃ n, pr.length = n := ⟨_, rfl⟩
  obtain ⟨ng, hng⟩ : ∃ n, gr.length = n := ⟨_, rfl⟩
  obtain ⟨nA, hnA⟩ : ∃ n, ag.length = n := ⟨_, rfl⟩
  have c63 := hc.1
  have p63 := hp.2.1
  have g63 := hg.2.1
  have a63 := ha.1
  rw [hnc] at c63 hc ⊢
  rw [hnn] at hn ⊢
  rw [hnp] at p63 hp ⊢
  rw [hng] at g63 hg ⊢
  rw [hnA] at a63 ha ⊢
  have HC := Lib.hid hc
  have HN := Lib.hid hn
  have HP := Lib.hid hp
  have HG := Lib.hid hg
  have HA := Lib.hid ha
  have LC := Lib.hid hnc
  have LP := Lib.hid hnp
  have LG := Lib.hid hng
  have LA := Lib.hid hnA
  obtain ⟨R, hR⟩ : ∃ R, queryE cs key ns pr gr ag = R := ⟨_, rfl⟩
  rw [hR]
  have HR := Lib.hid hR
  obtain ⟨E, hE⟩ : ∃ E, predF cs key ns = E := ⟨_, rfl⟩
  have HE := Lib.hid hE
  have PC := Lib.hid (fun (W : World) (hb : Below w.heap.size w W) => (by have q := predCheck_any (.slice ca n cc) cs key (.slice na nn nnc) ns W (HC.out.mono hb hb.size) (HN.out.mono hb hb.size); rw [hE] at q; exact q : Calls Tryz.prog 51 #[.agg #[.slice ca n cc, .int .i64 key], .slice na nn nnc] W fun e w' => e = .returned (.int .i64 E) ∧ Below W.heap.size W w'))
  obtain ⟨M, hM⟩ : ∃ M, np + ng = M := ⟨_, rfl⟩
  have HM := Lib.hid hM
  have LM0 : Hid ((pr ++ gr).length = M) := Lib.hid (by rw [List.length_append, hnp, hng, hM])
  have CC := Lib.hid (fun (W : World) (b : Nat) (hb : Below w.heap.size w W) (hbW : b < W.heap.size) (k0 : W.cell? ⟨b, 0, none⟩ = some (.slice pa np pc)) (k1 : W.cell? ⟨b, 1, none⟩ = some (.slice ga ng gc)) (hnm : np + ng ≤ 549755813888) => (by have q := concat_int b pa ga pc gc np ng (pr.flatMap intC) (gr.flatMap intC) W (fun W2 h2 => by have := ints_row (ints_on HP.out (Below.to hb h2) (Below.to hb h2).size); rwa [LP.out] at this) (fun W2 h2 => by have := ints_row (ints_on HG.out (Below.to hb h2) (Below.to hb h2).size); rwa [LG.out] at this) hbW k0 k1 hnm; rw [hM, ← List.flatMap_append] at q; exact q : Calls Tryz.prog 52 #[.slice (some ⟨b, 0, none⟩) 2 2] W (RowPost 3 1 W M ((pr ++ gr).flatMap intC))))
  have AC := Lib.hid (fun (op col : Int) (W : World) (hb : Below w.heap.size w W) => agg_any (.slice ca n cc) cs key op col W (HC.out.mono hb hb.size))
  clear hc hn hp hg ha hnc hnn hnp hng hnA hR hE hM
  have ENTER : True := trivial
  by_cases e0 : E = 0
  · subst e0
    have HQ : Hid ((if 16 < np ∨ 16 < ng ∨ 16 < nA then 7 else if (0 < nA ∧ 0 < np) ∨ (nA = 0 ∧ 0 < ng) then 1 else if outC cs (pr ++ gr) = true then 4 else agsE cs ag) = R) := Lib.hid (by have := HR.out; unfold queryE at this; rwa [if_pos HE.out, LP.out, LG.out, LA.out] at this)
    clear HR HE
    by_cases a1 : 16 < np
    · obtain rfl : 7 = R := by rw [← HQ.out, if_pos (.inl a1)]
      have a1' : (16 : Int) < (np : Int) := by omega
      clear HQ
      go_enter Tryz.func29, Tryz.ntmps29
      go_wp2_with (go_at_call 51; refine Calls.mono (PC.out _ (by with_reducible repeat (first | exact Below.refl _ _ | assumption | refine Below.al ?_ _ | refine Below.on ?_ _ | refine Below.st ?_ (by first | assumption | (simp; done) | (simp; omega)) _ | refine Below.drew ?_))) ?_; rintro e w1 ⟨rfl, hb1⟩; obtain ⟨x1, rfl⟩ := Ext.of hb1)
      exact bodyPost_ret (v := .int .i64 7) (by simp [results, Tryz.results29, go_sem, *]) rfl (⟨rfl, by with_reducible repeat (first | exact Below.refl _ _ | assumption | refine Below.al ?_ _ | refine Below.on ?_ _ | refine Below.st ?_ (by first | assumption | (simp; done) | (simp; omega)) _ | refine Below.drew ?_)⟩)
    by_cases a2 : 16 < ng
    · obtain rfl : 7 = R := by rw [← HQ.out, if_pos (.inr (.inl a2))]
      have a1' : ¬ (16 : Int) < (np : Int) := by omega
      have a2' : (16 : Int) < (ng : Int) := by omega
      clear HQ
      go_enter Tryz.func29, Tryz.ntmps29
      go_wp2_with (go_at_call 51; refine Calls.mono (PC.out _ (by with_reducible repeat (first | exact Below.refl _ _ | assumption | refine Below.al ?_ _ | refine Below.on ?_ _ | refine Below.st ?_ (by first | assumption | (simp; done) | (simp; omega)) _ | refine Below.drew ?_))) ?_; rintro e w1 ⟨rfl, hb1⟩; obtain ⟨x1, rfl⟩ := Ext.of hb1)
      exact bodyPost_ret (v := .int .i64 7) (by simp [results, Tryz.results29, go_sem, *]) rfl (⟨rfl, by with_reducible repeat (first | exact Below.refl _ _ | assumption | refine Below.al ?_ _ | refine Below.on ?_ _ | refine Below.st ?_ (by first | assumption | (simp; done) | (simp; omega)) _ | refine Below.drew ?_)⟩)
    by_cases a3 : 16 < nA
    · obtain rfl : 7 = R := by rw [← HQ.out, if_pos (.inr (.inr a3))]
      have a1' : ¬ (16 : Int) < (np : Int) := by omega
      have a2' : ¬ (16 : Int) < (ng : Int) := by omega
      have a3' : (16 : Int) < (nA : Int) := by omega
      clear HQ
      go_enter Tryz.func29, Tryz.ntmps29
      go_wp2_with (go_at_call 51; refine Calls.mono (PC.out _ (by with_reducible repeat (first | exact Below.refl _ _ | assumption | refine Below.al ?_ _ | refine Below.on ?_ _ | refine Below.st ?_ (by first | assumption | (simp; done) | (simp; omega)) _ | refine Below.drew ?_))) ?_; rintro e w1 ⟨rfl, hb1⟩; obtain ⟨x1, rfl⟩ := Ext.of hb1)
      exact bodyPost_ret (v := .int .i64 7) (by simp [results, Tryz.results29, go_sem, *]) rfl (⟨rfl, by with_reducible repeat (first | exact Below.refl _ _ | assumption | refine Below.al ?_ _ | refine Below.on ?_ _ | refine Below.st ?_ (by first | assumption | (simp; done) | (simp; omega)) _ | refine Below.drew ?_)⟩)
    have HQ2 : Hid ((if (0 < nA ∧ 0 < np) ∨ (nA = 0 ∧ 0 < ng) then 1 else if outC cs (pr ++ gr) = true then 4 else agsE cs ag) = R) := Lib.hid (by have := HQ.out; rwa [if_neg (by omega)] at this)
    clear HQ
    have a1' : ¬ (16 : Int) < (np : Int) := by omega
    have a2' : ¬ (16 : Int) < (ng : Int) := by omega
    have a3' : ¬ (16 : Int) < (nA : Int) := by omega
    obtain ⟨C, hC⟩ : ∃ C : Bool, decide ((0 < nA ∧ 0 < np) ∨ (nA = 0 ∧ 0 < ng)) = C := ⟨_, rfl⟩
    have HCC := Lib.hid hC
    clear hC
    go_enter Tryz.func29, Tryz.ntmps29
    go_upto_region 6 with (go_at_call 51; refine Calls.mono (PC.out _ (by with_reducible repeat (first | exact Below.refl _ _ | assumption | refine Below.al ?_ _ | refine Below.on ?_ _ | refine Below.st ?_ (by first | assumption | (simp; done) | (simp; omega)) _ | refine Below.drew ?_))) ?_; rintro e w1 ⟨rfl, hb1⟩; obtain ⟨x1, rfl⟩ := Ext.of hb1)
    refine captureP ?_
    intro y ey
    have yb : Below w.heap.size w y.it := by rw [ey]; exact (by with_reducible repeat (first | exact Below.refl _ _ | assumption | refine Below.al ?_ _ | refine Below.on ?_ _ | refine Below.st ?_ (by first | assumption | (simp; done) | (simp; omega)) _ | refine Below.drew ?_))
    have y0 : y.it.cell? ⟨w.heap.size, 0, none⟩ = some (.slice ca n cc) := by rw [ey]; simp (maxDischargeDepth := 9) [go_sem, *]
    have y1 : y.it.cell? ⟨w.heap.size, 1, none⟩ = some (.int .i64 key) := by rw [ey]; simp (maxDischargeDepth := 9) [go_sem, *]
    have z1 : y.it.cell? ⟨w.heap.size + 1, 1, none⟩ = some (.slice pa np pc) := by rw [ey]; simp (maxDischargeDepth := 9) [go_sem, *]
    have z2 : y.it.cell? ⟨w.heap.size + 1, 2, none⟩ = some (.slice ga ng gc) := by rw [ey]; simp (maxDischargeDepth := 9) [go_sem, *]
    have z3 : y.it.cell? ⟨w.heap.size + 1, 3, none⟩ = some (.slice aa nA ac) := by rw [ey]; simp (maxDischargeDepth := 9) [go_sem, *]
    have yz : w.heap.size + 1 < y.it.heap.size := by rw [ey]; exact x1.lt (by simp)
    clear ey
    obtain ⟨SB, hSB⟩ : ∃ b, w.heap.size = b := ⟨_, rfl⟩
    rw [hSB] at y0 y1 z1 z2 z3 yz ⊢
    have HSB := Lib.hid hSB
    clear hSB
    go_cut [35] from 36 to 57 (fun sx wx => sx = .bool C ∧ wx = y.it)
    case first =>
      by_cases b1 : 0 < nA
      · have b1' : (0 : Int) < (nA : Int) := by omega
        have b1'' : ((nA : Int) == 0) = false := by simp; omega
        by_cases b2 : 0 < np
        · have b2' : (0 : Int) < (np : Int) := by omega
          go_wp2
          go_meet
          exact ⟨by rw [← HCC.out]; simp [b1, b2], rfl⟩
        · have b2' : ¬ (0 : Int) < (np : Int) := by omega
          go_wp2
          go_meet
          exact ⟨by rw [← HCC.out, decide_eq_false (by omega)], rfl⟩
      · have b1' : ¬ (0 : Int) < (nA : Int) := by omega
        have b1'' : ((nA : Int) == 0) = true := by simp; omega
        by_cases b3 : 0 < ng
        · have b3' : (0 : Int) < (ng : Int) := by omega
          go_wp2
          go_meet
          exact ⟨by rw [← HCC.out, decide_eq_true (by omega)], rfl⟩
        · have b3' : ¬ (0 : Int) < (ng : Int) := by omega
          go_wp2
          go_meet
          exact ⟨by rw [← HCC.out, decide_eq_false (by omega)], rfl⟩
    case rest =>
    obtain ⟨rfl, rfl⟩ := hcut
    cases C with
    | true =>
      obtain rfl : 1 = R := by rw [← HQ2.out, if_pos (of_decide_eq_true HCC.out)]
      clear HQ2
      go_wp2
      exact bodyPost_ret (v := .int .i64 1) (by simp [results, Tryz.results29, go_sem, *]) rfl (⟨rfl, by with_reducible repeat (first | exact Below.refl _ _ | assumption | refine Below.al ?_ _ | refine Below.on ?_ _ | refine Below.st ?_ (by first | assumption | (simp; done) | (simp; omega)) _ | refine Below.drew ?_)⟩)
    | false =>
      have HQ3 : Hid ((if outC cs (pr ++ gr) = true then 4 else agsE cs ag) = R) := Lib.hid (by have := HQ2.out; rwa [if_neg (of_decide_eq_false HCC.out)] at this)
      clear HQ2
      go_upto_region 9 with (go_at_call 52; refine Calls.mono (CC.out _ _ (by with_reducible repeat (first | exact Below.refl _ _ | assumption | refine Below.al ?_ _ | refine Below.on ?_ _ | refine Below.st ?_ (by first | assumption | (simp; done) | (simp; omega)) _ | refine Below.drew ?_)) (by first | (simp; done) | (simp; omega)) (by simp (maxDischargeDepth := 9) [go_sem, *]) (by simp (maxDischargeDepth := 9) [go_sem, *]) (by omega)) ?_; rintro e w3 ⟨v3, rfl, ho3, hb3⟩; obtain ⟨ma, mc, rfl⟩ := own_form ho3; have O3 := Lib.hid ho3; have hb4 := Below.to (show Below y.it.heap.size y.it (y.it.alloc _) from (Below.refl _ _).alloc (Nat.le_refl _) _) hb3; have y0' := (hb4.cell (p := ⟨SB, 0, none⟩) (Nat.lt_of_succ_lt yz)).trans y0; have y1' := (hb4.cell (p := ⟨SB, 1, none⟩) (Nat.lt_of_succ_lt yz)).trans y1; have z3' := (hb4.cell (p := ⟨SB + 1, 3, none⟩) yz).trans z3; have yz' : SB + 1 < w3.heap.size := Nat.lt_of_lt_of_le yz hb4.size; have B3 := Lib.hid (Below.to yb hb4); clear ho3 hb3 hb4)
      have LM := LM0
      have PG := Lib.hid (own_ints (e := 3) (base := (y.it.alloc (.cells #[.slice pa np pc, .slice ga ng gc] 26)).heap.size) (cs := pr ++ gr) (fun z hz => by rcases List.mem_append.1 hz with q | q; exact HP.out.1 z q; exact HG.out.1 z q) (by have := LM.out; have := HM.out; omega) (by rw [LM.out]; exact O3.out))
      obtain ⟨PGL, hPGL⟩ : ∃ l, pr ++ gr = l := ⟨_, rfl⟩
      rw [hPGL] at PG LM HQ3
      clear hPGL O3 y0 y1 z3
      obtain ⟨O, hO⟩ : ∃ b : Bool, outC cs PGL = b := ⟨_, rfl⟩
      have HO := Lib.hid hO
      rw [hO] at HQ3
      clear hO
      have M63 : M ≤ 1000 := by have := HM.out; omega
      go_loopg [65] M (fun g st wr => ∃ k : Nat, k + g = M ∧ st = .int .i64 (k : Int) ∧ outC cs (PGL.drop k) = O ∧ w3 = wr)
      case atStart => exact ⟨0, by omega, rfl, by simpa using HO.out, rfl⟩
      case round =>
        obtain ⟨k, hk, rfl, hF, rfl⟩ := hrel
        clear HO
        have yb3 := B3.out
        by_cases hg0 : gk = 0
        · subst hg0
          obtain rfl : k = M := by omega
          obtain rfl : false = O := by rw [← hF, List.drop_of_length_le (by rw [LM.out]; exact Nat.le_refl _)]; rfl
          have HQ4 : Hid (agsE cs ag = R) := Lib.hid (by have := HQ3.out; rwa [if_neg (by simp)] at this)
          have tk : ¬ (k : Int) < (k : Int) := by omega
          clear HQ3 hF hk
          go_wp2_with fail
          go_loopg [82] nA (fun g st wr => ∃ k : Nat, k + g = nA ∧ st = .int .i64 (k : Int) ∧ agsE cs (ag.drop k) = R ∧ ∃ x : Ext w3, x.it = wr)
          case atStart => exact ⟨0, by omega, rfl, by simpa using HQ4.out, ⟨w3, Below.refl _ _⟩, rfl⟩
          case round =>
            obtain ⟨j, hj, rfl, hF, x, rfl⟩ := hrel
            clear HQ4
            have hx := Below.on yb3 x
            have s0 := (x.cell SB 0 (Nat.lt_of_succ_lt yz')).trans y0'
            have s1 := (x.cell SB 1 (Nat.lt_of_succ_lt yz')).trans y1'
            have zw := x.lt (Nat.lt_of_succ_lt yz')
            by_cases hg0 : gk = 0
            · subst hg0
              obtain rfl : j = nA := by omega
              obtain rfl : 0 = R := by rw [← hF, List.drop_of_length_le (by rw [LA.out]; exact Nat.le_refl _)]; rfl
              clear hF hj
              go_wp2
              exact bodyPost_ret (v := .int .i64 0) (by simp [results, Tryz.results29, go_sem, *]) rfl (⟨rfl, by with_reducible repeat (first | exact Below.refl _ _ | assumption | refine Below.al ?_ _ | refine Below.on ?_ _ | refine Below.st ?_ (by first | assumption | (simp; done) | (simp; omega)) _ | refine Below.drew ?_)⟩)
            · have hkm : j < nA := by omega
              have hkm' : (j : Int) < (nA : Int) := by omega
              have hka : j < ag.length := by rw [LA.out]; exact hkm
              obtain ⟨ab, ao, rfl, _, hab, c0, c1⟩ := ags_in HA.out hka
              have OKL := agsE_ok (cs := cs) hka
              have BDL := agsE_bad (cs := cs) hka
              obtain ⟨d, hd⟩ : ∃ d, ag[j]'hka = d := ⟨_, rfl⟩
              rw [hd] at OKL BDL c0 c1
              rw [hF] at OKL BDL
              obtain ⟨dop, dcol⟩ := d
              dsimp only at OKL BDL c0 c1
              have f0 := (hx.cell (p := ⟨ab, ao + j * 2, none⟩) hab).trans c0
              have f1 := (hx.cell (p := ⟨ab, ao + j * 2 + 1, none⟩) hab).trans c1
              have za : ab < x.it.heap.size := Nat.lt_of_lt_of_le hab hx.size
              have HK := Lib.hid (And.intro hj hg0)
              obtain ⟨ve, hve⟩ : ∃ ve, agE cs ⟨dop, dcol⟩ = ve := ⟨_, rfl⟩
              rw [hve] at OKL BDL
              have RV := Lib.hid (fun (W : World) (hb : Below w.heap.size w W) => (by have h := AC.out dop dcol W hb; rw [hve] at h; exact h : Calls Tryz.prog 53 #[.agg #[.slice ca n cc, .int .i64 key], .agg #[.int .i64 dop, .int .i64 dcol]] W fun e w' => e = .returned (.int .i64 ve) ∧ Below W.heap.size W w'))
              clear c0 c1 hd hj hg0 hF hve
              by_cases v0 : ve = 0
              · have v0' : (ve != 0) = false := by simpa using v0
                have OK := Lib.hid (OKL v0)
                clear OKL BDL
                go_wp2_with (go_at_call 53; refine Calls.mono (RV.out _ (by with_reducible repeat (first | exact Below.refl _ _ | assumption | refine Below.al ?_ _ | refine Below.on ?_ _ | refine Below.st ?_ (by first | assumption | (simp; done) | (simp; omega)) _ | refine Below.drew ?_))) ?_; rintro e w5 ⟨rfl, hb5⟩; obtain ⟨x5, rfl⟩ := Ext.of hb5)
                go_roundg (gk - 1)
                case measure => have := HK.out; omega
                case rel => exact ⟨j + 1, by have := HK.out; omega, by go_num, OK.out.symm, ext_of (Below.on (Below.al x.below _) x5)⟩
              · have v0' : (ve != 0) = true := by simpa using v0
                obtain rfl : ve = R := (BDL v0).symm
                clear OKL BDL
                go_wp2_with (go_at_call 53; refine Calls.mono (RV.out _ (by with_reducible repeat (first | exact Below.refl _ _ | assumption | refine Below.al ?_ _ | refine Below.on ?_ _ | refine Below.st ?_ (by first | assumption | (simp; done) | (simp; omega)) _ | refine Below.drew ?_))) ?_; rintro e w5 ⟨rfl, hb5⟩; obtain ⟨x5, rfl⟩ := Ext.of hb5)
                exact bodyPost_ret (v := .int .i64 ve) (by simp [results, Tryz.results29, go_sem, *]) rfl (⟨rfl, by with_reducible repeat (first | exact Below.refl _ _ | assumption | refine Below.al ?_ _ | refine Below.on ?_ _ | refine Below.st ?_ (by first | assumption | (simp; done) | (simp; omega)) _ | refine Below.drew ?_)⟩)
        · have hkm : k < M := by omega
          have hkm' : (k : Int) < (M : Int) := by omega
          have hkl : k < PGL.length := by rw [LM.out]; exact hkm
          obtain ⟨mb, mo, rfl, hmb, c0⟩ := ints_cell PG.out hkl
          have ST := outC_step (cs := cs) hkl
          obtain ⟨z, hz⟩ : ∃ z, PGL[k]'hkl = z := ⟨_, rfl⟩
          rw [hz] at c0 ST
          rw [hF, LC.out] at ST
          have HK := Lib.hid (And.intro hk hg0)
          have yzl := Nat.lt_of_succ_lt yz'
          clear hk hg0 hF hz
          by_cases q1 : z < 0
          · obtain rfl : O = true := by rw [ST]; simp [q1]
            obtain rfl : 4 = R := by rw [← HQ3.out, if_pos rfl]
            clear ST HQ3
            go_wp2
            exact bodyPost_ret (v := .int .i64 4) (by simp [results, Tryz.results29, go_sem, *]) rfl (⟨rfl, by with_reducible repeat (first | exact Below.refl _ _ | assumption | refine Below.al ?_ _ | refine Below.on ?_ _ | refine Below.st ?_ (by first | assumption | (simp; done) | (simp; omega)) _ | refine Below.drew ?_)⟩)
          by_cases q2 : (n : Int) ≤ z
          · obtain rfl : O = true := by rw [ST]; simp [q1, q2]
            obtain rfl : 4 = R := by rw [← HQ3.out, if_pos rfl]
            clear ST HQ3
            go_wp2
            exact bodyPost_ret (v := .int .i64 4) (by simp [results, Tryz.results29, go_sem, *]) rfl (⟨rfl, by with_reducible repeat (first | exact Below.refl _ _ | assumption | refine Below.al ?_ _ | refine Below.on ?_ _ | refine Below.st ?_ (by first | assumption | (simp; done) | (simp; omega)) _ | refine Below.drew ?_)⟩)
          · have ST2 := Lib.hid (show outC cs (PGL.drop (k + 1)) = O by rw [ST, decide_eq_false q1, decide_eq_false q2]; rfl)
            have q3 : z < (n : Int) := by omega
            have q4 : 0 ≤ z := by omega
            clear ST
            go_wp2
            go_roundg (gk - 1)
            case measure => have := HK.out; omega
            case rel => exact ⟨k + 1, by have := HK.out; omega, by go_num, ST2.out, rfl⟩
  · obtain rfl : E = R := by have := HR.out; unfold queryE at this; rwa [if_neg (by rw [HE.out]; exact e0), HE.out] at this
    have t : (E != 0) = true := by simpa using e0
    clear HR HE
    go_enter Tryz.func29, Tryz.ntmps29
    go_wp2_with (go_at_call 51; refine Calls.mono (PC.out _ (by with_reducible repeat (first | exact Below.refl _ _ | assumption | refine Below.al ?_ _ | refine Below.on ?_ _ | refine Below.st ?_ (by first | assumption | (simp; done) | (simp; omega)) _ | refine Below.drew ?_))) ?_; rintro e w1 ⟨rfl, hb1⟩; obtain ⟨x1, rfl⟩ := Ext.of hb1)
    exact bodyPost_ret (v := .int .i64 E) (by simp [results, Tryz.results29, go_sem, *]) rfl (⟨rfl, by with_reducible repeat (first | exact Below.refl _ _ | assumption | refine Below.al ?_ _ | refine Below.on ?_ _ | refine Below.st ?_ (by first | assumption | (simp; done) | (simp; omega)) _ | refine Below.drew ?_)⟩)
end Go.Proofs.YtpahoenanfjhpaaGreat
