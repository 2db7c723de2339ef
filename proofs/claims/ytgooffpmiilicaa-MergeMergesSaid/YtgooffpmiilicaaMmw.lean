/-
  MERGEMERGES: the walk. Conditions: the raw schema, lists and choices lie in memory.
-/
import Derived.Test.YtgooffpmiilicaaZb
import Derived.Test.YtgooffpmiilicaaZc
import Derived.Test.YtgooffpmiilicaaZa
import Derived.Test.YtgooffpmiilicaaKsc
import Derived.Deep.RegionLaw
set_option linter.unusedVariables false
set_option linter.unusedSimpArgs false
namespace Go.Proofs.Ytgooffpmiilicaa
open Go.RowKit Srt
/-- The first i records of the reversed list. -/
structure RvM (z wr : World) (ps : List (Int × Value)) (i : Nat) (ov : Value) : Prop where
  own : wr.ownsRow z.heap.size 35 2 ov i ((ps.reverse.take i).flatMap rcC)
  keep : Below z.heap.size z wr
theorem rev_take {ps : List (Int × Value)} {i J : Nat} (hi : i < ps.length) (hJ : J = ps.length - 1 - i) : ∃ h : J < ps.length, ps.reverse.take (i + 1) = ps.reverse.take i ++ [ps[J]'h] := by
  have h : J < ps.length := by omega
  have hr : i < ps.reverse.length := by rw [List.length_reverse]; exact hi
  refine ⟨h, ?_⟩
  rw [List.take_succ_eq_append_getElem hr, List.getElem_reverse]
  subst hJ
  rfl
/-- The pairs of a list that lies in blocks of its own, and their cells. -/
theorem fr_pairs {lo hi : Nat} {w : World} {a : Option Addr} {n c : Nat} {rs : List Rc} (h : Fr lo hi w (.slice a n c) rs) (hh : hi ≤ w.heap.size) : ∃ ps : List (Int × Value), ps.length = n ∧ Prs w hi ps rs ∧ (∀ p ∈ ps, ∀ k, p.2.ownBlock = some k → lo ≤ k) ∧ (∀ p ∈ ps, ∃ a n c, p.2 = .slice a n c) ∧
    (0 < n → ∃ b, a = some ⟨b, 0, none⟩ ∧ b < w.heap.size ∧ ∀ j (hj : j < ps.length), w.cell? ⟨b, j * 2, none⟩ = some (.int .i64 (ps[j]'hj).1) ∧ w.cell? ⟨b, j * 2 + 1, none⟩ = some (ps[j]'hj).2) := by
  obtain ⟨ps, h1, h2, h3, h4⟩ := h
  have hl : ps.length = n := by obtain ⟨a', c', e⟩ := own_form h1; injection e with _ e _; exact e.symm
  refine ⟨ps, hl, h3, h4, fun p hp => ?_, fun hn => ?_⟩
  · obtain ⟨j, hj, rfl⟩ := List.getElem_of_mem hp
    obtain ⟨a', c', e⟩ := vals_end (h3.2 j hj (by rw [← h3.1]; exact hj)).2
    exact ⟨a', _, c', e⟩
  · rcases own_at (f := rcC) (k := 2) (fun _ => rfl) h1 with ⟨e, _⟩ | ⟨g, cap, e, _, _, hg, H⟩
    · rw [e] at hl; simp at hl; omega
    · injection e with e1 e2 e3
      refine ⟨g, e1, hg, fun j hj => ⟨?_, ?_⟩⟩
      · have := H j hj 0 _ (by omega) rfl; simpa using this
      · have := H j hj 1 _ (by omega) rfl; simpa using this
theorem prs_rev {w : World} {B : Nat} {ps : List (Int × Value)} {rs : List Rc} (h : Prs w B ps rs) : Prs w B ps.reverse rs.reverse := by
  refine ⟨by rw [List.length_reverse, List.length_reverse, h.1], fun j h1 h2 => ?_⟩
  rw [List.length_reverse] at h1 h2
  have e := h.1
  rw [List.getElem_reverse, List.getElem_reverse]
  have := h.2 (ps.length - 1 - j) (by omega) (by omega)
  simp only [e] at this ⊢
  exact this
/-- One list set anew. -/
theorem ls_set {B0 base : Nat} {z W : World} {T : TypeId} {g cap n K : Nat} {lvs : List Value} {Ls : List (List Rc)} {rv : Value} {R : List Rc} (h : LsE B0 z (.slice (some ⟨g, 0, none⟩) n cap) lvs Ls) (ho : z.ownsRow base T 1 (.slice (some ⟨g, 0, none⟩) n cap) n (lvs.flatMap one1)) (hn : lvs.length = n) (hK : K < n)
    (hr : ∀ l ∈ Ls, l.length ≤ 9223372036854775807) (hl : Ls.length ≤ 9223372036854775807) (hb : ∀ k, k < z.heap.size → k ≠ g → W.heap[k]? = z.heap[k]?) (hs : z.heap.size ≤ W.heap.size) (hc : ∀ q, q ≠ K → W.cell? ⟨g, q, none⟩ = z.cell? ⟨g, q, none⟩) (hc2 : W.cell? ⟨g, K, none⟩ = some rv) (hR : RecsAt W W.heap.size rv R) :
    PartsAt W W.heap.size (.slice (some ⟨g, 0, none⟩) n cap) (Ls.set K R) := by
  subst hn
  have hcap := own_cap ho
  have hgz := (ho.lt g rfl).2
  refine ⟨by rw [List.length_set]; exact hl, .inr ⟨g, 0, cap, by rw [List.length_set, h.1], by rw [List.length_set, ← h.1]; exact hcap, by omega, fun j hj => ?_⟩⟩
  rw [List.length_set] at hj
  rw [Nat.zero_add]
  by_cases e : j = K
  · subst e
    rw [List.getElem_set_self]
    exact ⟨rv, hc2, hR⟩
  · rw [List.getElem_set_ne (Ne.symm e)]
    have hj' : j < lvs.length := by rw [h.1]; exact hj
    obtain ⟨lo, hi, a1, _, a3, a4⟩ := h.2 j hj' hj
    have nb := a4 g rfl
    refine ⟨lvs[j]'hj', ?_, (a1.keep fun k k1 k2 => hb k (by omega) (by omega)).recs (hr _ (List.getElem_mem hj)) (by omega)⟩
    rw [hc j e]
    rcases own_at (f := one1) (k := 1) (fun _ => rfl) ho with ⟨e0, _⟩ | ⟨g', cap', e1, _, _, _, H⟩
    · rw [e0] at hj'; simp at hj'
    · injection e1 with e1 _ _
      injection e1 with e1
      injection e1 with e1
      subst e1
      have := H j hj' 0 _ (by omega) rfl
      simpa using this
set_option maxRecDepth 8000 in
set_option maxHeartbeats 2000000 in
theorem mmw_walk (scv : Value) (scs : List Col) (sk : Int) (rv : Value) (Rw : List (List Rc)) (vx vl : Value) (zx zl : List Int) (ka : Int) (w : World) (hsc : ColsAt w w.heap.size scv scs) (hrw : PartsAt w w.heap.size rv Rw) (h0 : IntsAt w w.heap.size vx zx) (h1 : IntsAt w w.heap.size vl zl) :
    Calls Try.prog 4 #[.agg #[scv, .int .i64 sk], rv, vx, vl, .int .i64 ka] w fun e w' => e = .returned (.bool true) ∧ Below w.heap.size w w' := by
  obtain ⟨i0, hi0, hz0, hz1, hz2⟩ := info_parts infoRec
  have A1 := Lib.hid (fun (W : World) (hb : Below w.heap.size w W) => agrees_any scv scs sk rv Rw W (hsc.mono hb hb.size) (hrw.mono hb hb.size))
  have HRW := Lib.hid hrw
  have H0 := Lib.hid h0
  have H1 := Lib.hid h1
  obtain ⟨sa, sc, rfl⟩ := cols_end hsc
  generalize scs.length = sn at *
  clear hsc hrw h0 h1
  go_enter Try.func4, Try.ntmps4
  go_upto_region 1 with fail
  refine captureM ?_
  intro y0 ey
  have yb0 : Below w.heap.size w y0 := by rw [ey]; exact (by repeat (first | with_reducible exact Below.refl _ _ | with_reducible assumption | with_reducible refine Below.al ?_ _ | with_reducible refine Below.on ?_ _ | with_reducible refine Below.st ?_ (by first | assumption | (simp; done) | (simp; omega)) _ | with_reducible refine Below.drew ?_))
  have b0 : y0.cell? ⟨w.heap.size, 0, none⟩ = some (.slice sa sn sc) := by rw [ey]; simp (maxDischargeDepth := 9) [go_sem, *]
  have b1 : y0.cell? ⟨w.heap.size, 1, none⟩ = some (.int .i64 sk) := by rw [ey]; simp (maxDischargeDepth := 9) [go_sem, *]
  have bz : w.heap.size < y0.heap.size := by rw [ey]; simp
  have I0 := Lib.hid ((H0.out.to fun k hk => yb0.block k hk).mono yb0.size)
  have I1 := Lib.hid ((H1.out.to fun k hk => yb0.block k hk).mono yb0.size)
  have YB0 := Lib.hid yb0
  clear ey yb0
  go_upto_region 2 with (go_at_call 13; refine (keepSchema_any _ _ _ I0.out).mono ?_; rintro e w1 ⟨cv, cs, key, rfl, hc1, hs1, hl1, hb1⟩; obtain ⟨ca, cc, rfl⟩ := cols_end hc1; have HC1 := Lib.hid hc1; have SP := Lib.hid hs1; have HB1 := Lib.hid hb1; have I2 := Lib.hid ((I1.out.to fun k hk => hb1.block k hk).mono hb1.size); have c0 := (hb1.cell (p := ⟨w.heap.size, 0, none⟩) bz).trans b0; have c1 := (hb1.cell (p := ⟨w.heap.size, 1, none⟩) bz).trans b1; have cz : w.heap.size < w1.heap.size := Nat.lt_of_lt_of_le bz hb1.size; clear hc1 hs1 hl1 hb1)
  generalize cs.length = nc at *
  refine captureM ?_
  intro y1 ey
  have yb1 : Below w1.heap.size w1 y1 := by rw [ey]; exact (by repeat (first | with_reducible exact Below.refl _ _ | with_reducible assumption | with_reducible refine Below.al ?_ _ | with_reducible refine Below.on ?_ _ | with_reducible refine Below.st ?_ (by first | assumption | (simp; done) | (simp; omega)) _ | with_reducible refine Below.drew ?_))
  have d0 := (yb1.cell (p := ⟨w.heap.size, 0, none⟩) cz).trans c0
  have d1 := (yb1.cell (p := ⟨w.heap.size, 1, none⟩) cz).trans c1
  have d2 : y1.cell? ⟨w1.heap.size, 0, none⟩ = some (.slice ca nc cc) := by rw [ey]; simp (maxDischargeDepth := 9) [go_sem, *]
  have d3 : y1.cell? ⟨w1.heap.size, 1, none⟩ = some (.int .i64 key) := by rw [ey]; simp (maxDischargeDepth := 9) [go_sem, *]
  have dz : w1.heap.size < y1.heap.size := by rw [ey]; simp
  have dw : w.heap.size < y1.heap.size := by omega
  have YB1 := Lib.hid (Below.to (Below.to YB0.out HB1.out) yb1)
  have HC2 := Lib.hid (HC1.out.mono yb1 yb1.size)
  have I3 := Lib.hid ((I2.out.to fun k hk => yb1.block k hk).mono yb1.size)
  have NL := Lib.hid (lists_any (.slice ca nc cc) cs key vl zl 5 y1 HC2.out I3.out (by decide) (by decide) SP.out)
  obtain ⟨SB, hSB⟩ : ∃ b, w1.heap.size = b := ⟨_, rfl⟩
  rw [hSB] at d2 d3 dz ⊢
  clear ey yb1 c0 c1 b0 b1 bz cz hSB
  go_upto_region 3 with (go_at_call 14; refine Calls.mono NL.out ?_; rintro e z ⟨v3, lvs, Ls, rfl, ho3, he3, hk3, hb3⟩; obtain ⟨ma, mc, rfl⟩ := own_form ho3; have e0 := (hb3.cell (p := ⟨w.heap.size, 0, none⟩) dw).trans d0; have e1 := (hb3.cell (p := ⟨w.heap.size, 1, none⟩) dw).trans d1; have e2 := (hb3.cell (p := ⟨SB, 0, none⟩) dz).trans d2; have e3 := (hb3.cell (p := ⟨SB, 1, none⟩) dz).trans d3; have ez : SB < z.heap.size := Nat.lt_of_lt_of_le dz hb3.size; have ew : w.heap.size < z.heap.size := Nat.lt_of_lt_of_le dw hb3.size; have HO := Lib.hid ho3; have HE := Lib.hid he3; have HK := Lib.hid hk3; have HB3 := Lib.hid hb3; clear ho3 he3 hk3 hb3)
  have ZB := Lib.hid (Below.to YB1.out HB3.out)
  have LR : Hid (∀ l ∈ Ls, l.length ≤ 9223372036854775807) := Lib.hid (fun l hl => by have := (HK.out.2 l hl).1; omega)
  have LN : Ls.length ≤ 5 := by have h1 := HK.out.1; have h2 := nextF_bd zl (n := 5 + 1) (by decide); omega
  have LQ := Lib.hid LN
  have lvl := HE.out.1
  obtain ⟨n, hn⟩ : ∃ n, lvs.length = n := ⟨_, rfl⟩
  have HN := Lib.hid hn
  have n5 : n ≤ 5 := by omega
  have PA := Lib.hid (ls_parts HE.out HO.out (by omega) LR.out)
  have A2 := Lib.hid (fun (W : World) (hb : Below z.heap.size z W) => agrees_any (.slice ca cs.length cc) cs key rv Rw W (by have q := HC2.out.mono (Below.to HB3.out hb) (Below.to HB3.out hb).size; obtain ⟨a', c', e⟩ := cols_end q; injection e with _ e _; rw [← e]; exact q) (HRW.out.mono (Below.to ZB.out hb) (Below.to ZB.out hb).size))
  have HCZ : Hid (∀ W : World, Below z.heap.size z W → ColsAt W W.heap.size (.slice ca nc cc) cs) := Lib.hid (fun W hb => HC2.out.mono (Below.to HB3.out hb) (Below.to HB3.out hb).size)
  have NC : Hid (cs.length = nc) := Lib.hid (by obtain ⟨a', c', e⟩ := cols_end HC2.out; injection e with _ e _; exact e.symm)
  rw [NC.out] at A2
  have A3 := Lib.hid (fun (W : World) (hb : Below z.heap.size z W) => agrees_any (.slice ca nc cc) cs key (.slice ma lvs.length mc) Ls W (HCZ.out W hb) (PA.out.mono hb hb.size))
  have A1Z := Lib.hid (fun (W : World) (hb : Below z.heap.size z W) => A1.out W (Below.to ZB.out hb))
  rw [hn] at A3 ⊢
  have DZ := Lib.hid dz
  clear d0 d1 d2 d3 dz dw A1 hn LN lvl
  by_cases n0 : n = 0
  · subst n0
    go_upto_region 5 with (first | (go_at_call 15; (with_reducible refine Calls.mono (A1Z.out _ (by with_reducible exact Below.refl _ _)) ?_); rintro e w4 ⟨rfl, hb4⟩; obtain ⟨x4, rfl⟩ := Ext.of hb4; have z4 := x4.lt ez) | (go_at_call 15; (with_reducible refine Calls.mono (A2.out _ x4.below) ?_); rintro e w5 ⟨rfl, hb5⟩; obtain ⟨x5, rfl⟩ := Ext.of hb5; have z5 := x5.lt z4) | (go_at_call 15; (with_reducible refine Calls.mono (A3.out _ (Below.to x4.below x5.below)) ?_); rintro e w6 ⟨rfl, hb6⟩; obtain ⟨x6, rfl⟩ := Ext.of hb6))
    have YZ : Below z.heap.size z x6.it := Below.to (Below.to x4.below x5.below) x6.below
    have A4 := Lib.hid (fun (x7 : Ext x6.it) => A3.out x7.it (Below.to YZ x7.below))
    have zb := ZB.out
    have g2 := (YZ.cell (p := ⟨SB, 0, none⟩) ez).trans e2
    have g3 := (YZ.cell (p := ⟨SB, 1, none⟩) ez).trans e3
    have gz : SB < x6.it.heap.size := Nat.lt_of_lt_of_le ez YZ.size
    clear e0 e1 e2 e3
    go_wp2_with (first | (go_at_call 17; refine Calls.mono (awake29 _) ?_; rintro e w7 ⟨rfl, hb7⟩; obtain ⟨x7, rfl⟩ := Ext.of hb7) | (go_at_call 15; refine Calls.mono (A4.out x7) ?_; rintro e w8 ⟨rfl, hb8⟩; obtain ⟨x8, rfl⟩ := Ext.of hb8))
    exact bodyPost_ret (v := .bool true) (by simp [results, Try.results4, go_sem, *]) rfl (⟨rfl, by repeat (first | with_reducible exact Below.refl _ _ | with_reducible assumption | with_reducible refine Below.al ?_ _ | with_reducible refine Below.on ?_ _ | with_reducible refine Below.st ?_ (by first | assumption | (simp; done) | (simp; omega)) _ | with_reducible refine Below.drew ?_)⟩)
  · have npos : (0 : Int) < (n : Int) := by omega
    have npos' : 0 < n := by omega
    obtain ⟨KI, hKI⟩ : ∃ K, pickI ka (n : Int) = K := ⟨_, rfl⟩
    have kbd := pickI_bd ka (n := (n : Int)) (by omega)
    rw [hKI] at kbd
    obtain ⟨K, rfl⟩ : ∃ K : Nat, KI = (K : Int) := ⟨KI.toNat, by omega⟩
    have Kn : K < n := by omega
    have Kn' : (K : Int) < (n : Int) := by omega
    have PK := Lib.hid (fun W => (by have q := pick_any ka (n : Int) (by omega) (by omega) W; rw [hKI] at q; exact q : Calls Try.prog 16 #[.int .i64 ka, .int .i64 (n : Int)] W fun e w' => e = .returned (.int .i64 (K : Int)) ∧ W = w'))
    clear hKI kbd
    rcases own_at (f := one1) (k := 1) (fun _ => rfl) HO.out with ⟨e, _⟩ | ⟨g, cap, eg, _, _, hgz, HH⟩
    · exfalso; have := HN.out; rw [e] at this; simp at this; omega
    injection eg with eg1 _ eg3
    subst eg1 eg3
    have hKl : K < lvs.length := by rw [HN.out]; exact Kn
    have hKL : K < Ls.length := by rw [← HE.out.1]; exact hKl
    have cK := HH K hKl 0 _ (by omega) rfl
    have cf : z.frozen? ⟨g, K, none⟩ = false := by have := HO.out; exact World.ownsRow.frozenAt this K
    obtain ⟨lo, hiB, a1, a2, a3, a4⟩ := HE.out.2 K hKl hKL
    obtain ⟨LV, hLV⟩ : ∃ LV, lvs[K]'hKl = LV := ⟨_, rfl⟩
    obtain ⟨LK, hLK⟩ : ∃ LK, Ls[K]'hKL = LK := ⟨_, rfl⟩
    rw [hLV, hLK] at a1
    rw [hLV, Nat.mul_one, Nat.add_zero] at cK
    obtain ⟨la, lc, rfl⟩ := fr_form a1
    obtain ⟨L, hL⟩ : ∃ L, LK.length = L := ⟨_, rfl⟩
    rw [hL] at a1 cK
    have L4 : L ≤ 4 := by have := (HK.out.2 LK (by rw [← hLK]; exact List.getElem_mem _)).1; omega
    obtain ⟨ps, hps, hp1, hp2, hp3, hp4⟩ := fr_pairs a1 a3
    have FP := Lib.hid (And.intro hp1 (And.intro hp2 (And.intro (a4 g rfl) (And.intro a3 hL))))
    have PS := Lib.hid (And.intro hps (And.intro hp3 hp4))
    have KL := Lib.hid (And.intro hKl hKL)
    go_upto_region 5 with (first | (go_at_call 15; (with_reducible refine Calls.mono (A1Z.out _ (by with_reducible exact Below.refl _ _)) ?_); rintro e w4 ⟨rfl, hb4⟩; obtain ⟨x4, rfl⟩ := Ext.of hb4; have z4 := x4.lt ez) | (go_at_call 15; (with_reducible refine Calls.mono (A2.out _ x4.below) ?_); rintro e w5 ⟨rfl, hb5⟩; obtain ⟨x5, rfl⟩ := Ext.of hb5; have z5 := x5.lt z4) | (go_at_call 15; (with_reducible refine Calls.mono (A3.out _ (Below.to x4.below x5.below)) ?_); rintro e w6 ⟨rfl, hb6⟩; obtain ⟨x6, rfl⟩ := Ext.of hb6))
    have YZ : Below z.heap.size z x6.it := Below.to (Below.to x4.below x5.below) x6.below
    have BZ := Lib.hid YZ
    have f2 := (YZ.cell (p := ⟨SB, 0, none⟩) ez).trans e2
    have f3 := (YZ.cell (p := ⟨SB, 1, none⟩) ez).trans e3
    have fz : SB < x6.it.heap.size := Nat.lt_of_lt_of_le ez YZ.size
    have fK := (YZ.cell (p := ⟨g, K, none⟩) hgz).trans cK
    have ff := (YZ.frozen (p := ⟨g, K, none⟩) hgz).trans cf
    have fg : g < x6.it.heap.size := Nat.lt_of_lt_of_le hgz YZ.size
    have sng : SB ≠ g := by have := (HO.out.lt g rfl).1; have := DZ.out; omega
    have sgn := sng.symm
    clear e0 e1 e2 e3 hb4 hb5 hb6 cK cf hLV hLK hL hps hp1 hp2 hp3 hp4 a1 a2 a3 a4 YZ HH hKl
    clear hKL
    generalize x6.it = u at *
    go_wp2_with (go_at_call 16; refine Calls.mono (PK.out _) ?_; rintro e w7 ⟨rfl, rfl⟩)
    have l0 : ∀ i, i < L → 0 < L := fun i h => by omega
    have FR : Hid (0 < L → ∃ b, la = some ⟨b, 0, none⟩ ∧ b < u.heap.size ∧ ∀ j (hj : j < ps.length), u.cell? ⟨b, j * 2, none⟩ = some (.int .i64 (ps[j]'hj).1) ∧ u.cell? ⟨b, j * 2 + 1, none⟩ = some (ps[j]'hj).2) := Lib.hid (fun h => by
      obtain ⟨b, h1, h2, h3⟩ := PS.out.2.2 h
      exact ⟨b, h1, Nat.lt_of_lt_of_le h2 BZ.out.size, fun j hj => ⟨(BZ.out.cell (p := ⟨b, _, none⟩) h2).trans (h3 j hj).1, (BZ.out.cell (p := ⟨b, _, none⟩) h2).trans (h3 j hj).2⟩⟩)
    clear l0
    go_loopg [14, 49] L (fun g0 ov st wr => ∃ i : Nat, i + g0 = L ∧ st = .int .i64 (i : Int) ∧ (∃ va vc, ov = .slice va i vc) ∧ RvM u wr ps i ov)
    case atStart => exact ⟨0, by omega, rfl, ⟨none, 0, rfl⟩, World.ownsRow_nil _ _ _ _, Below.refl _ _⟩
    case round =>
      obtain ⟨i, hiL, rfl, ⟨va, vc, rfl⟩, M⟩ := hrel
      have MH := Lib.hid M
      have r2 := (M.keep.cell (p := ⟨SB, 0, none⟩) fz).trans f2
      have r3 := (M.keep.cell (p := ⟨SB, 1, none⟩) fz).trans f3
      have rz : SB < wr.heap.size := Nat.lt_of_lt_of_le fz M.keep.size
      have rK := (M.keep.cell (p := ⟨g, K, none⟩) fg).trans fK
      have rf := (M.keep.frozen (p := ⟨g, K, none⟩) fg).trans ff
      have rg : g < wr.heap.size := Nat.lt_of_lt_of_le fg M.keep.size
      have uw := M.keep.size
      clear M
      by_cases hg0 : gk = 0
      · subst hg0
        obtain rfl : L = i := by omega
        clear hiL
        go_upto_region 14 with fail
        refine captureM ?_
        intro t et
        have sz : wr.heap.size ≤ t.heap.size := by rw [et]; simp
        have wt : ∀ k, k ≠ g → t.heap[k]? = wr.heap[k]? := fun k hk => by rw [et]; exact Below.heap_setCell _ _ _ _ (fun e => hk (by simpa using e))
        have zt : ∀ k, k < z.heap.size → k ≠ g → t.heap[k]? = z.heap[k]? := fun k hk hne => by
          rw [wt k hne, MH.out.keep.block k (by have := BZ.out.size; omega), BZ.out.block k hk]
        have ng : ∀ k, (Value.slice va L vc).ownBlock = some k → k ≠ g := fun k hk => by have := (MH.out.own.lt k hk).1; omega
        have ot : t.ownsRow u.heap.size 35 2 (.slice va L vc) L ((ps.reverse.take L).flatMap rcC) := by rw [et]; exact own_st MH.out.own (p := ⟨g, K, none⟩) ng _
        have hps := PS.out.1
        have eT : ps.reverse.take L = ps.reverse := List.take_of_length_le (by rw [List.length_reverse, hps]; exact Nat.le_refl _)
        rw [eT] at ot
        obtain ⟨q1, q2, q3, q4, q5⟩ := FP.out
        have pt : Prs t t.heap.size ps LK := ⟨q1.1, fun j h1 h2 => ⟨(q1.2 j h1 h2).1, ((q1.2 j h1 h2).2.keep fun k hb e => zt k (by omega) (by have := q2 _ (List.getElem_mem h1) k e; omega)).up (by have := BZ.out.size; omega)⟩⟩
        have RT : RecsAt t t.heap.size (.slice va L vc) LK.reverse := own_recs (by rw [List.length_reverse]; omega) (prs_rev pt) (by rw [List.length_reverse, hps]; exact ot)
        have BT : Below w.heap.size w t := by
          have b1 : Below w.heap.size w wr := Below.to ZB.out (Below.to BZ.out MH.out.keep)
          rw [et]; exact b1.setCell (p := ⟨g, K, none⟩) (show w.heap.size ≤ g by have := (HO.out.lt g rfl).1; have := YB1.out.size; omega) _
        have ct : ∀ q, q ≠ K → t.cell? ⟨g, q, none⟩ = z.cell? ⟨g, q, none⟩ := fun q hq => by
          rw [et, World.cell?_setCell_other (h := by intro e; simp only [Addr.mk.injEq] at e; omega)]
          exact (MH.out.keep.cell (p := ⟨g, q, none⟩) fg).trans (BZ.out.cell (p := ⟨g, q, none⟩) hgz)
        have ck : t.cell? ⟨g, K, none⟩ = some (.slice va L vc) := by rw [et]; exact World.cell?_setCell_same' _ _ _ (by rw [rK]; rfl)
        have he : LsE y1.heap.size z (.slice (some ⟨g, 0, none⟩) n mc) lvs Ls := by have := HE.out; rw [HN.out] at this; exact this
        have PT := ls_set he (by have := HO.out; rw [HN.out] at this; exact this) HN.out Kn LR.out (by have := LQ.out; omega) zt (by have := BZ.out.size; omega) ct ck RT
        have HCT : ColsAt t t.heap.size (.slice ca nc cc) cs := by
          have b2 : Below y1.heap.size y1 t := by
            have b1 : Below y1.heap.size y1 wr := Below.to HB3.out (Below.to BZ.out MH.out.keep)
            rw [et]; exact b1.setCell (p := ⟨g, K, none⟩) (HO.out.lt g rfl).1 _
          exact HC2.out.mono b2 b2.size
        have A5 := Lib.hid (fun (x7 : Ext t) => agrees_any (.slice ca nc cc) cs key _ _ x7.it (HCT.mono x7.below x7.below.size) (PT.mono x7.below x7.below.size))
        have s2 : t.cell? ⟨SB, 0, none⟩ = some (.slice ca nc cc) := by rw [et, World.cell?_setCell_other (h := by intro e; simp only [Addr.mk.injEq] at e; omega)]; exact r2
        have s3 : t.cell? ⟨SB, 1, none⟩ = some (.int .i64 key) := by rw [et, World.cell?_setCell_other (h := by intro e; simp only [Addr.mk.injEq] at e; omega)]; exact r3
        have st : SB < t.heap.size := by omega
        have BTH := Lib.hid BT
        clear et sz wt zt ng ot hps eT q1 q2 q3 q4 q5 pt RT BT ct ck PT he HCT r2 r3 rK rf
        have bt := BTH.out
        go_wp2_with (first | (go_at_call 17; refine Calls.mono (awake29 _) ?_; rintro e w7 ⟨rfl, hb7⟩; obtain ⟨x7, rfl⟩ := Ext.of hb7) | (go_at_call 15; refine Calls.mono (A5.out x7) ?_; rintro e w8 ⟨rfl, hb8⟩; obtain ⟨x8, rfl⟩ := Ext.of hb8))
        exact bodyPost_ret (v := .bool true) (by simp [results, Try.results4, go_sem, *]) rfl (⟨rfl, by repeat (first | with_reducible exact Below.refl _ _ | with_reducible assumption | with_reducible refine Below.al ?_ _ | with_reducible refine Below.on ?_ _ | with_reducible refine Below.st ?_ (by first | assumption | (simp; done) | (simp; omega)) _ | with_reducible refine Below.drew ?_)⟩)
      · have hi : i < L := by omega
        have hi' : (i : Int) < (L : Int) := by omega
        obtain ⟨b, rfl, hbu, hc⟩ := FR.out (by omega)
        obtain ⟨hJ, hT⟩ := rev_take (ps := ps) (i := i) (J := L - 1 - i) (by rw [PS.out.1]; exact hi) (by rw [PS.out.1])
        obtain ⟨c0, c1⟩ := hc _ hJ
        obtain ⟨pa, pn, pc, hp⟩ := PS.out.2.1 _ (List.getElem_mem hJ)
        obtain ⟨PJ, hPJ⟩ : ∃ P, ps[L - 1 - i]'hJ = P := ⟨_, rfl⟩
        rw [hPJ] at c0 c1 hp hT
        obtain ⟨sq, pv⟩ := PJ
        dsimp only at c0 c1 hp
        subst hp
        have HT := Lib.hid hT
        have g0 := (MH.out.keep.cell (p := ⟨b, (L - 1 - i) * 2, none⟩) hbu).trans c0
        have g1 := (MH.out.keep.cell (p := ⟨b, (L - 1 - i) * 2 + 1, none⟩) hbu).trans c1
        have gz : b < wr.heap.size := Nat.lt_of_lt_of_le hbu uw
        obtain ⟨J, hJJ⟩ : ∃ J : Nat, L - 1 - i = J := ⟨_, rfl⟩
        rw [hJJ] at g0 g1
        obtain ⟨L1, hL1⟩ : ∃ L1 : Nat, (L : Int) - 1 = (L1 : Int) := ⟨L - 1, by omega⟩
        have t1 : (L1 : Int) - (i : Int) = (J : Int) := by omega
        have t5 : (L1 : Int) ≤ 4 := by omega
        have t6 : (J : Int) ≤ 4 := by omega
        have t7 : L1 ≤ 4 := by omega
        have t8 : J ≤ 4 := by omega
        have w1' : IntKind.i64.wrap (L1 : Int) = (L1 : Int) := by rw [IntKind.wrap_i64]; omega
        have w2' : IntKind.i64.wrap (J : Int) = (J : Int) := by rw [IntKind.wrap_i64]; omega
        have t9 : J < L := by omega
        have t2 : (J : Int) < (L : Int) := by omega
        have t3 : (L : Int) ≤ 4 := by omega
        have t4 : (0 : Int) ≤ (L : Int) - 1 := by omega
        have OW := Lib.hid MH.out.own
        have GZ := Lib.hid (And.intro hiL hg0)
        clear c0 c1 hc hJ hT hPJ hJJ hiL hg0
        go_upto_region 11 with fail
        go_region_law ((first | (refine step_append_lies _ (by rfl) _ _ 22 (by rfl) u.heap.size 35 i0 _ 2 32 Try.underlying22 hi0 hz0 hz1 hz2 rfl (by decide) (.slice va i vc) i ((ps.reverse.take i).flatMap rcC) (by rfl) (own_to OW.out ((Below.refl _ _).drew.alloc (Nat.le_refl _) _)) ⟨wr.heap.size, 0, none⟩ 1 1 [.int .i64 sq, .slice pa pn pc] (by rfl) rfl (World.news_of_block (heap_alloc_new wr.drew _)) (by simp [Value.oneCell']) (by omega) (by unfold maxLen; omega) (by omega) (by simp; omega) (wr.heap.size + 1) (by simp) ?_; intro gb cap7 w7 hown hgrow hat hlt7) | fail))
        all_goals (have MS : Hid (RvM u w7 ps (i + 1) (.slice (some ⟨gb, 0, none⟩) (i + 1) cap7)) := Lib.hid ⟨by rw [HT.out, List.flatMap_append]; simpa [rcC] using hown, Below.gr (Below.to MH.out.keep (((Below.refl _ _).alloc (Nat.le_refl _) _).drew)) OW.out hgrow⟩)
        all_goals (clear hown hgrow hat hlt7)
        all_goals go_wp2_with fail
        all_goals go_roundg (gk - 1)
        all_goals (first
          | (have := GZ.out; omega)
          | exact ⟨i + 1, by have := GZ.out; omega, by go_num, ⟨_, _, rfl⟩, MS.out⟩)
end Go.Proofs.Ytgooffpmiilicaa
