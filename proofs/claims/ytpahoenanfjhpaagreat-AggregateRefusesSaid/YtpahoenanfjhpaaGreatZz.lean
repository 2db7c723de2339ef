/-
  CHAPTER 26: Rfw, Rfs (several texts in one). Conditions: each theorem states its own.
-/
import Derived.Test.YtpahoenanfjhpaaGreatZv
import Derived.Test.YtpahoenanfjhpaaGreatZx
import Derived.Test.YtpahoenanfjhpaaGreatZt
import Derived.Test.YtpahoenanfjhpaaGreatKqyz
import Derived.Test.YtpahoenanfjhpaaGreatZk
import Derived.Test.YtpahoenanfjhpaaGreatZbqz
import Derived.Test.YtpahoenanfjhpaaGreatZj
import Derived.Test.YtpahoenanfjhpaaGreatOpsz
set_option linter.unusedVariables false
set_option linter.unusedSimpArgs false
namespace Go.Proofs.YtpahoenanfjhpaaGreat
open Go.RowKit
theorem lvs_nil1 (w : World) (B : Nat) (a : Option Addr) (c : Nat) : Lvs w B [.slice a 0 c] [[]] := by
  refine ⟨rfl, fun j hj hj' => ?_⟩
  have e : j = 0 := by simpa using hj
  subst e
  exact ⟨by simp, .inl ⟨rfl, a, c, rfl⟩⟩
theorem own_some {w : World} {base : Nat} {T : TypeId} {size : Nat} {v : Value} {n : Nat} {xs : List Value} (h : w.ownsRow base T size v n xs) (hn : 0 < n) : ∃ g c, v = .slice (some ⟨g, 0, none⟩) n c := by
  rcases h.2 with ⟨_, h0⟩ | ⟨g, cap, cur, rfl, _⟩
  · omega
  · exact ⟨g, cap, rfl⟩
theorem nods_len {w : World} {B n c : Nat} {a : Option Addr} {ns : List Nod} (h : NodsAt w B (.slice a n c) ns) : n = ns.length := by
  rcases h.2 with ⟨rfl, a', c', e⟩ | ⟨b, o, c', e, _⟩ <;> injection e
/-- The renamed schema's columns, copied; the schema in a block of its own. -/
structure ZIni (u W : World) (ZK : Nat) (v : Value) (key : Int) (cs : List Col) : Prop where
  below : Below u.heap.size u W
  lo : u.heap.size ≤ ZK
  lt : ZK < W.heap.size
  c0 : W.cell? ⟨ZK, 0, none⟩ = some v
  c1 : W.cell? ⟨ZK, 1, none⟩ = some (.int .i64 key)
  own : W.ownsRow u.heap.size 58 4 v cs.length (cs.flatMap colC)
  ne : ∀ k, v.ownBlock = some k → k ≠ ZK
theorem ZIni.of {u W1 W : World} {ZK : Nat} {v : Value} {key : Int} {cs : List Col} (below : Below u.heap.size u W) (lo : u.heap.size ≤ ZK) (lt : ZK < W.heap.size) (c0 : W.cell? ⟨ZK, 0, none⟩ = some v) (c1 : W.cell? ⟨ZK, 1, none⟩ = some (.int .i64 key)) (own : W1.ownsRow u.heap.size 58 4 v cs.length (cs.flatMap colC)) (m : Mv (fun k => k = ZK) W1 W) (ne : ∀ k, v.ownBlock = some k → k ≠ ZK) : ZIni u W ZK v key cs :=
  ⟨below, lo, lt, c0, c1, own_mvn own m ne, ne⟩
set_option maxRecDepth 8000 in
set_option maxHeartbeats 4000000 in
theorem rfw_walk (vx vl vm raw : Value) (zx zl zm : List Int) (col : Int) (w : World) (h0 : IntsAt w w.heap.size vx zx) (h1 : IntsAt w w.heap.size vl zl) (h2 : IntsAt w w.heap.size vm zm) :
    Calls Tryz.prog 6 #[vx, vl, vm, raw, .int .i64 col] w fun e w' => e = .returned (.bool true) ∧ Below w.heap.size w w' := by
  obtain ⟨i1, hj, hy0, hy1, hy2⟩ := info_parts infoRow
  obtain ⟨i2, hi, hz0, hz1, hz2⟩ := info_parts infoCol
  obtain ⟨i3, hk, hv0, hv1, hv2⟩ := info_parts infoNod
  have H0 := Lib.hid h0
  have H1 := Lib.hid h1
  have H2 := Lib.hid h2
  clear h0 h1 h2
  go_enter Tryz.func6, Tryz.ntmps6
  go_upto_region 2 with (go_at_call 7; refine (keepSchemaN_any _ _ _ H0.out).mono ?_; rintro e w1 ⟨cv, cs, key, rfl, hc1, hs1, hk1, hl1, hb1⟩; obtain ⟨x1, rfl⟩ := Ext.of hb1; obtain ⟨ca, cc, rfl⟩ := cols_end hc1; obtain ⟨nn, hnn⟩ : ∃ nn, cs.length = nn := ⟨_, rfl⟩; rw [hnn] at hc1 hl1 ⊢; have HNN := Lib.hid hnn; clear hnn)
  refine captureM ?_
  intro y ey
  have yb1 : Below x1.it.heap.size x1.it y := by rw [ey]; exact (by with_reducible repeat (first | exact Below.refl _ _ | assumption | refine Below.al ?_ _ | refine Below.on ?_ _ | refine Below.st ?_ (by first | assumption | (simp; done) | (simp; omega)) _ | refine Below.drew ?_))
  have yb : Below w.heap.size w y := by rw [ey]; exact (by with_reducible repeat (first | exact Below.refl _ _ | assumption | refine Below.al ?_ _ | refine Below.on ?_ _ | refine Below.st ?_ (by first | assumption | (simp; done) | (simp; omega)) _ | refine Below.drew ?_))
  have z0 : x1.it.heap.size < y.heap.size := by rw [ey]; simp
  have s0 : y.cell? ⟨x1.it.heap.size, 0, none⟩ = some (.slice ca nn cc) := by rw [ey]; simp (maxDischargeDepth := 9) [go_sem, *]
  have s1 : y.cell? ⟨x1.it.heap.size, 1, none⟩ = some (.int .i64 key) := by rw [ey]; simp (maxDischargeDepth := 9) [go_sem, *]
  have HC := Lib.hid (hc1.mono yb1 yb1.size)
  have HS := Lib.hid hs1
  have HK := Lib.hid hk1
  have I1 := Lib.hid ((H1.out.to fun k hk => yb.block k hk).mono yb.size)
  have I2 := Lib.hid (H2.out)
  have YW := Lib.hid yb
  clear ey hc1 hs1 hk1 hb1 yb1 H0 H1 H2
  generalize x1.it.heap.size = SB at *
  clear x1
  have KQ := Lib.hid (kqueryN_any (.slice ca nn cc) cs key vl zl y HC.out I1.out HS.out)
  have SP := Lib.hid (schema_parts HS.out)
  go_upto_region 3 with (go_at_call 8; refine Calls.mono KQ.out ?_; rintro e w2 ⟨nv, ns, pv, pr, gv, gr, av, ag, rfl, hn2, hp2, hg2, ha2, hq2, h72, hl2, hb2⟩; obtain ⟨x2, rfl⟩ := Ext.of hb2; obtain ⟨na, nc, rfl⟩ := nods_end hn2; obtain ⟨pa, pc, rfl⟩ := ints_end hp2; obtain ⟨ga, gc, rfl⟩ := ints_end hg2; obtain ⟨aa, ac, rfl⟩ := ags_end ha2; have HN2 := Lib.hid hn2; have HP2 := Lib.hid hp2; have HG2 := Lib.hid hg2; have HA2 := Lib.hid ha2; have HQ2 := Lib.hid hq2; have HL2 := Lib.hid hl2; have H7 := Lib.hid h72; clear hn2 hp2 hg2 ha2 hq2 h72 hl2)
  refine captureM ?_
  intro z ez
  have wx0 := Below.to YW.out x2.below
  have zZ : ZB w z SB x2.it.heap.size (.slice ca nn cc) cs key vm zm (.slice na ns.length nc) ns (.slice pa pr.length pc) pr (.slice ga gr.length gc) gr (.slice aa ag.length ac) ag := by
    have xz : Below x2.it.heap.size x2.it z := by rw [ez]; with_reducible repeat (first | exact Below.refl _ _ | assumption | refine Below.al ?_ _ | refine Below.on ?_ _ | refine Below.st ?_ (by first | assumption | (simp; done) | (simp; omega)) _ | refine Below.drew ?_)
    have yx := x2.below
    have yw := YW.out
    have u0 := (yx.cell (p := ⟨SB, 0, none⟩) z0).trans s0
    have u1 := (yx.cell (p := ⟨SB, 1, none⟩) z0).trans s1
    have uz := Nat.lt_of_lt_of_le z0 yx.size
    have wx := Below.to yw yx
    refine ⟨Below.to wx xz, wx.size, uz, by rw [ez]; simp, (xz.cell (p := ⟨SB, 0, none⟩) uz).trans u0, (xz.cell (p := ⟨SB, 1, none⟩) uz).trans u1, ?_, ?_, ?_, ?_, fun q => ?_, HC.out.mono (Below.trans yx (xz.mono yx.size)) yx.size, HN2.out.mono xz (Nat.le_refl _), ints_on HP2.out xz (Nat.le_refl _), ints_on HG2.out xz (Nat.le_refl _), HA2.out.mono xz (Nat.le_refl _), ints_on I2.out (Below.trans wx (xz.mono wx.size)) wx.size, HL2.out⟩
    all_goals (rw [ez]; simp (maxDischargeDepth := 9) [go_sem, *])
  have HZ := Lib.hid zZ
  have QO := Lib.hid (queryE_ok HQ2.out)
  have QE := Lib.hid HQ2.out
  have QL : Hid (∀ d ∈ ns, d.ls.length ≤ 4398046511104) := Lib.hid (fun d hd => Nat.le_trans (HL2.out d hd) (by decide))
  have SC0 := Lib.hid HS.out
  clear ez z0 s0 s1 HC I1 I2 KQ hb2 HN2 HP2 HG2 HA2 HL2 YW HQ2 zZ wx0 HS
  generalize pr.length = np at HZ
  generalize gr.length = ng at HZ
  generalize ag.length = nA at HZ
  generalize ns.length = nN at HZ
  generalize x2.it.heap.size = QB at *
  clear x2
  have as0 := HZ.out.s0
  have as1 := HZ.out.s1
  have aq0 := HZ.out.q0
  have aq1 := HZ.out.q1
  have aq2 := HZ.out.q2
  have aq3 := HZ.out.q3
  have aQ := HZ.out.zQ
  have aS : SB < z.heap.size := Nat.lt_trans HZ.out.SQ HZ.out.zQ
  have RM := Lib.hid (fun (W : World) (hb : Below z.heap.size z W) => (by
    have h := HZ.out.on hb
    have hq := Nat.le_of_lt h.zQ
    exact rows_any (.slice ca nn cc) cs key vm zm 8 W (h.hc.mono (Below.refl _ _) hq) (ints_on h.hm (Below.refl _ _) hq) (by decide) (by decide) SP.out.1 SP.out.2.2.1))
  go_upto_region 4 with (go_at_call 9; (with_reducible refine Calls.mono (RM.out _ (by with_reducible repeat (first | exact Below.refl _ _ | assumption | refine Below.al ?_ _ | refine Below.on ?_ _ | refine Below.st ?_ (by first | assumption | (simp; done) | (simp; omega)) _ | refine Below.drew ?_))) ?_); rintro e w3 ⟨rv, rows, rfl, hr3, hl3, hv3, hb3⟩; obtain ⟨x3, rfl⟩ := Ext.of hb3; obtain ⟨ra, rc, rfl⟩ := rows_end hr3; have HR3 := Lib.hid hr3; have HL3 := Lib.hid hl3; have HV3 := Lib.hid hv3; clear hr3 hl3 hv3)
  refine captureM ?_
  intro t et
  have zt : Below z.heap.size z t := by rw [et]; with_reducible repeat (first | exact Below.refl _ _ | assumption | refine Below.al ?_ _ | refine Below.on ?_ _ | refine Below.st ?_ (by first | assumption | (simp; done) | (simp; omega)) _ | refine Below.drew ?_)
  have xt : Below x3.it.heap.size x3.it t := by rw [et]; with_reducible repeat (first | exact Below.refl _ _ | assumption | refine Below.al ?_ _ | refine Below.on ?_ _ | refine Below.st ?_ (by first | assumption | (simp; done) | (simp; omega)) _ | refine Below.drew ?_)
  have HT := Lib.hid (HZ.out.on zt)
  have nr8 : rows.length ≤ 8 := by have := HL3.out; omega
  have RR := Lib.hid (HR3.out.mono xt xt.size)
  clear as0 as1 aq0 aq1 aq2 aq3 aQ aS
  clear et zt xt HR3 HL3 RM HZ
  obtain ⟨nr, hnr⟩ : ∃ n, rows.length = n := ⟨_, rfl⟩
  have LR := Lib.hid hnr
  rw [hnr] at nr8 RR ⊢
  clear hnr
  have bs0 := HT.out.s0
  have bs1 := HT.out.s1
  have bq0 := HT.out.q0
  have bq1 := HT.out.q1
  have bq2 := HT.out.q2
  have bq3 := HT.out.q3
  have bQ := HT.out.zQ
  have bS : SB < t.heap.size := Nat.lt_trans HT.out.SQ HT.out.zQ
  have NT : Hid (Calls Tryz.prog 13 #[.agg #[.slice ca nn cc, .int .i64 key], .agg #[.slice na nN nc, .slice pa np pc, .slice ga ng gc, .slice aa nA ac]] t (NewPost2 t cs key ns pr gr ag 0)) := Lib.hid (by
    have h := HT.out
    have hq := Nat.le_of_lt h.zQ
    have q := anew2_any (.slice ca nn cc) cs key (.slice na nN nc) ns (.slice pa np pc) pr (.slice ga ng gc) gr (.slice aa nA ac) ag t (h.hc.mono (Below.refl _ _) hq) (h.hn.mono (Below.refl _ _) hq) (ints_on h.hp (Below.refl _ _) hq) (ints_on h.hg (Below.refl _ _) hq) (h.ha.mono (Below.refl _ _) hq) QL.out
    rw [QE.out] at q; exact q)
  go_upto_region 5 with (go_at_call 13; refine Calls.mono NT.out ?_; intro e w1 hq1; unfold NewPost2 at hq1; rw [if_pos rfl] at hq1; obtain ⟨SA, rfl, hlA, hstA, hbA, _⟩ := hq1; have STA := Lib.hid hstA; have HLA := Lib.hid hlA; have HBA := Lib.hid hbA; clear hstA hlA hbA)
  clear bs0 bs1 bq0 bq1 bq2 bq3 bQ bS
  clear NT
  have A1 : Hid (Calls Tryz.prog 14 #[.pointer (some ⟨SA, 0, none⟩), .slice ra nr rc] w1 (AddOk w1 SA w1.heap.size cs key ns pr gr ag (.slice none 0 0) [] ([] ++ selR cs ns rows))) := Lib.hid (aadd_ok STA.out (RR.out.mono HBA.out HBA.out.size) QO.out.pred SC0.out (by rw [LR.out]; omega) HV3.out (by simp))
  go_upto_region 7 with (go_at_call 14; refine Calls.mono A1.out ?_; rintro e w2 ⟨rv2, l2, rfl, hst, hm, _⟩; have T2 := Lib.hid hst; have B2 : Hid (Below t.heap.size t w2) := Lib.hid (Mv.below hm HBA.out (fun k hk => hk.elim (fun e => by have := HLA.out; omega) (fun e => by simp [Value.ownBlock] at e))); clear hst hm)
  rw [List.nil_append, List.nil_append] at T2
  generalize w1.heap.size = lo at T2
  clear A1 STA HLA HBA
  have HT2 := Lib.hid (HT.out.on B2.out)
  have KR : (selR cs ns rows).length ≤ 8 := Nat.le_trans (selR_len _ _ _) (by rw [LR.out]; exact nr8)
  obtain ⟨psR, LVR, SRR⟩ := rows_src RR.out
  have HSRR : Hid (∀ W, Below t.heap.size t W → SrcRow W (.slice ra nr rc) nr 1 psR) := Lib.hid (fun W h => by have := SRR W h; rwa [LR.out] at this)
  have HLV := Lib.hid LVR
  clear LVR SRR
  go_upto_region 8 with (first
    | (at_builtin; have hh := O10.out; go_must (refine wpList_append_lies _ rfl _ _ 30 rfl w2.heap.size 42 i1 _ 1 24 Tryz.underlying30 hj hy0 hy1 hy2 rfl (by decide) (.slice a10 nr c10) nr psR rfl ((O10.out.alloc _).alloc _) ⟨w10.heap.size + 1, 0, none⟩ 1 1 [.slice (some ⟨w10.heap.size, 0, none⟩) 0 0] rfl rfl (by have q := World.news_of_block (heap_alloc_new (w10.alloc (.cells #[] 41)) (.cells #[.slice (some ⟨w10.heap.size, 0, none⟩) 0 0] 42)); simpa using q) (by simp [Value.oneCell']) (by omega) (by unfold maxLen; omega) (by omega) (by have := G10.out.size; simp; omega) (w10.heap.size + 2) (by simp) ?_); intro g11 c11 w11 hown hgrow hat hlt; clear hh; have O11 := Lib.hid hown; have G11 : Hid (Below w2.heap.size w2 w11) := Lib.hid (Below.gr (Below.al (Below.al G10.out _) _) O10.out hgrow); clear hown hgrow hat hlt)
    | (at_builtin; go_must (refine wpList_append_row (by rfl) _ _ 30 (by rfl) w2.heap.size 42 i1 _ 1 24 Tryz.underlying30 hj hy0 hy1 hy2 rfl (by decide) (.slice none 0 0) 0 [] (by rfl) (World.ownsRow_nil _ _ _ _) (.slice ra nr rc) nr psR (by rfl) (HSRR.out _ B2.out) (by unfold maxLen; omega) (by omega) (Nat.le_refl _) ?_); intro v10 w10 hown hgrow hat; have O10 : Hid (w10.ownsRow w2.heap.size 42 1 v10 nr psR) := Lib.hid (by simpa using hown); have G10 : Hid (Below w2.heap.size w2 w10) := Lib.hid (Below.gr (Below.refl _ _) (World.ownsRow_nil w2 _ 42 1) hgrow); obtain ⟨a10, c10, rfl⟩ := own_form O10.out; clear hown hgrow hat))
  generalize w10.heap.size = e10 at O11
  have n1 : 0 < cs.length := by rw [HNN.out]; have := SP.out.2.1; have := HNN.out; omega
  have AB : Hid (Calls Tryz.prog 14 #[.pointer (some ⟨SA, 0, none⟩), .slice (some ⟨g11, 0, none⟩) (nr + 1) c11] w11 fun e w' => e = .returned (.int .i64 1) ∧ Below w11.heap.size w11 w') := Lib.hid (by
    have hl : Lvs w11 w11.heap.size (psR ++ [.slice (some ⟨e10, 0, none⟩) 0 0]) (rows ++ [[]]) := (HLV.out.mono (Below.to B2.out G11.out) (Below.to B2.out G11.out).size).app (lvs_nil1 _ _ _ _)
    have hn : (psR ++ [Value.slice (some ⟨e10, 0, none⟩) 0 0]).length = nr + 1 := by rw [hl.1, List.length_append, LR.out]; rfl
    have RB : RowsAt w11 w11.heap.size (.slice (some ⟨g11, 0, none⟩) (nr + 1) c11) (rows ++ [[]]) := own_rowsL (by rw [List.length_append, LR.out]; show nr + 1 ≤ _; omega) hl (by rw [hn]; exact O11.out)
    refine Calls.mono (aadd2_any SA lo cs key ns pr gr ag rv2 l2 (selR cs ns rows) _ (rows ++ [[]]) w11 (T2.out.on G11.out) RB QO.out.pred (by omega)) ?_
    intro e w' h
    unfold AddPost2 at h
    rw [batchE_short SC0.out n1 (by rw [LR.out]; omega) HV3.out, if_neg (by decide)] at h
    exact h)
  clear O10 G10 O11
  go_upto_region 10 with (first
    | (go_at_call 18; (with_reducible refine Calls.mono (mrf_nil SA _) ?_); rintro e w13 ⟨rfl, hb13⟩; obtain ⟨x13, rfl⟩ := Ext.of hb13)
    | (go_at_call 14; refine Calls.mono AB.out ?_; rintro e w12 ⟨rfl, hb12⟩; obtain ⟨x12, rfl⟩ := Ext.of hb12))
  refine captureM ?_
  intro u eu
  have bu : Below w11.heap.size w11 u := by rw [eu]; with_reducible repeat (first | exact Below.refl _ _ | assumption | refine Below.al ?_ _ | refine Below.on ?_ _ | refine Below.st ?_ (by first | assumption | (simp; done) | (simp; omega)) _ | refine Below.drew ?_)
  have BU : Hid (Below w2.heap.size w2 u) := Lib.hid (Below.to G11.out bu)
  have HU := Lib.hid (HT2.out.on BU.out)
  clear eu bu AB G11 hb12 hb13 x12 x13
  have es0 := HU.out.s0
  have es1 := HU.out.s1
  have eq0 := HU.out.q0
  have eq1 := HU.out.q1
  have eq2 := HU.out.q2
  have eq3 := HU.out.q3
  have eQ := HU.out.zQ
  have eS : SB < u.heap.size := Nat.lt_trans HU.out.SQ HU.out.zQ
  have SCC := Lib.hid (fun (W : World) (hb : Below u.heap.size u W) => (by have q := cols_row (HU.out.on hb).hc; rw [HNN.out] at q; exact q : SrcRow W (.slice ca nn cc) nn 4 (cs.flatMap colC)))
  have hnn0 : 0 < nn := by have := HNN.out; omega
  go_cut [17] from 67 to 72 (fun sx wx => ∃ (ZK : Nat) (v : Value), sx = .pointer (some ⟨ZK, 0, none⟩) ∧ ZIni u wx ZK v key cs)
  case first =>
    go_region_law ((first | (refine step_append_row (by rfl) _ _ 22 (by rfl) _ 58 i2 _ 4 40 Tryz.underlying22 hi hz0 hz1 hz2 rfl (by decide) (.slice none 0 0) 0 [] (by rfl) (World.ownsRow_nil _ _ _ _) (.slice ca nn cc) nn (cs.flatMap colC) (by rfl) (SCC.out _ (by with_reducible repeat (first | exact Below.refl _ _ | assumption | refine Below.al ?_ _ | refine Below.on ?_ _ | refine Below.st ?_ (by first | assumption | (simp; done) | (simp; omega)) _ | refine Below.drew ?_))) (by unfold maxLen; omega) (by omega) (Nat.le_refl _) ?_; intro v14 w14 hown hgrow hat; have N14 := Lib.hid (fun k => hown.lt k); have hown2 := hown; simp only [Nat.zero_add, List.nil_append] at hown2; have O14 : Hid (w14.ownsRow u.heap.size 58 4 v14 nn (cs.flatMap colC)) := Lib.hid (own_low hown2 (by first | exact Nat.le_refl _ | (simp; done) | (simp; omega))); have G14 : Below u.heap.size u w14 := Below.gr (show Below u.heap.size u _ from (by with_reducible repeat (first | exact Below.refl _ _ | assumption | refine Below.al ?_ _ | refine Below.on ?_ _ | refine Below.st ?_ (by first | assumption | (simp; done) | (simp; omega)) _ | refine Below.drew ?_))) (World.ownsRow_nil u _ 58 4) hgrow; have g14s := hgrow.size; (try simp only [World.size_alloc, World.size_drew, World.size_setCell] at g14s); obtain ⟨a14, c14, rfl⟩ := own_form O14.out; have f0 := (G14.cell (p := ⟨SB, 0, none⟩) eS).trans es0; have f1 := (G14.cell (p := ⟨SB, 1, none⟩) eS).trans es1; have fS := Nat.lt_of_lt_of_le eS G14.size; have m0 := fun q => hgrow.cell (a := ⟨u.heap.size, 0, none⟩) (v := .slice none 0 0) q (fun e => by simp [Value.ownBlock] at e); (try simp [go_sem] at m0); have m1 := fun q => hgrow.cell (a := ⟨u.heap.size, 1, none⟩) (v := .int .i64 0) q (fun e => by simp [Value.ownBlock] at e); (try simp [go_sem] at m1); have m2 := fun q => hgrow.frozen_far ⟨u.heap.size, 0, none⟩ q (fun e => by simp [Value.ownBlock] at e); (try simp [go_sem] at m2); have m3 := fun q => hgrow.frozen_far ⟨u.heap.size, 1, none⟩ q (fun e => by simp [Value.ownBlock] at e); (try simp [go_sem] at m3); clear hown hown2 hgrow hat)))
    all_goals (go_wp2_with fail; go_meet; refine ⟨_, .slice a14 nn c14, rfl, ?_⟩; rw [← HNN.out] at O14 N14 ⊢; refine ZIni.of (by with_reducible repeat (first | exact Below.refl _ _ | assumption | refine Below.al ?_ _ | refine Below.on ?_ _ | refine Below.st ?_ (by first | assumption | (simp; done) | (simp; omega)) _ | refine Below.drew ?_)) ?_ ?_ ?_ ?_ O14.out ?_ ?_; (focus (first | omega | (simp only [World.size_setCell, World.size_alloc, World.size_drew] at *; omega))); (focus (first | omega | (simp only [World.size_setCell, World.size_alloc, World.size_drew] at *; omega))); (focus (simp (maxDischargeDepth := 9) [go_sem, *]; done)); (focus (simp (maxDischargeDepth := 9) [go_sem, *]; done)); (focus (repeat (first | with_reducible exact Mv.refl _ _ | with_reducible refine Mv.al ?_ _ | with_reducible refine Mv.drew ?_ | with_reducible refine mv_st ?_))); (focus (intro k hk; obtain ⟨q1, q2⟩ := N14.out k hk; clear hk; (first | omega | (simp only [World.size_setCell, World.size_alloc, World.size_drew] at *; omega)))))
  case rest =>
  obtain ⟨ZK, v14, rfl, hini⟩ := hcut
  have ho := hini.own
  rw [HNN.out] at ho
  obtain ⟨g14, c14, rfl⟩ := own_some ho hnn0
  have HI := Lib.hid hini
  have HO := Lib.hid ho
  have BW := hini.below
  have zlt := hini.lt
  have zc0 := hini.c0
  have zc1 := hini.c1
  have zf := fun q => World.ownsRow.frozenAt ho q
  have zg := ho.lt g14 rfl
  have hgz : ¬ g14 = ZK := hini.ne g14 rfl
  have hzlo := hini.lo
  clear es0 es1 eq0 eq1 eq2 eq3 eQ eS
  clear hini ho SCC
  obtain ⟨K, hKK⟩ : ∃ K : Nat, pickI col (nn : Int) = (K : Int) := ⟨(pickI col (nn : Int)).toNat, by have := (pickI_bd col (n := (nn : Int)) (by omega)).1; omega⟩
  have hKn : K < nn := by have := (pickI_bd col (n := (nn : Int)) (by omega)).2; omega
  have hKi : (K : Int) < (nn : Int) := by omega
  have nn4 : nn ≤ 4 := by have := SP.out.2.2.1; have := HNN.out; omega
  have PK := Lib.hid (fun W => (by have q := pick_any col (nn : Int) (by omega) (by omega) W; rw [hKK] at q; exact q : Calls Tryz.prog 12 #[.int .i64 col, .int .i64 (nn : Int)] W fun e w' => e = .returned (.int .i64 (K : Int)) ∧ W = w'))
  have HC14 : Hid (ColsAt wc wc.heap.size (.slice (some ⟨g14, 0, none⟩) nn c14) cs) := Lib.hid (own_cols (by have := HNN.out; omega) (by rw [HNN.out]; exact HO.out))
  have zn : wc.cell? ⟨g14, K * 4, none⟩ = some (.string (cs[K]'(by have := HNN.out; omega)).nm) := (by
    obtain ⟨b', o', e1, _, _, c0, _⟩ := cols_in HC14.out (i := K) (by have := HNN.out; omega)
    injection e1 with e1
    injection e1 with e1 e2
    rw [← e1, ← e2, Nat.zero_add] at c0
    exact c0)
  generalize (cs[K]'(by have := HNN.out; omega)).nm = nmK at zn
  clear hKK
  go_wp2_with fail
  go_region_held3 (fun w' => w'.cell? ⟨ZK, 0, none⟩ = some (.slice (some ⟨g14, 0, none⟩) nn c14)) (first | assumption | (simp [go_sem, *]; done))
    (first | (go_at_call 12; refine Calls.mono (PK.out _) ?_; rintro e w' ⟨rfl, rfl⟩))
  go_upto_region 12 with fail
  refine captureM ?_
  intro r er
  have ur : Below u.heap.size u r := by rw [er]; exact (Below.st BW (p := ⟨g14, K * 4, none⟩) zg.1 _).drew
  have rsz : wc.heap.size = r.heap.size := by rw [er, World.size_drew, World.size_setCell]
  have rz0 : r.cell? ⟨ZK, 0, none⟩ = some (.slice (some ⟨g14, 0, none⟩) nn c14) := by rw [er]; simp (maxDischargeDepth := 9) [go_sem, *]
  have rz1 : r.cell? ⟨ZK, 1, none⟩ = some (.int .i64 key) := by rw [er]; simp (maxDischargeDepth := 9) [go_sem, *]
  have rzl : ZK < r.heap.size := by omega
  have HCR : Hid (ColsAt r r.heap.size (.slice (some ⟨g14, 0, none⟩) nn c14) (renL cs K)) := Lib.hid (by
    have q := HC14.out
    rw [← HNN.out] at q
    have q := cols_ren (j := K) (by have := HNN.out; omega) q
    rw [renL_len, HNN.out] at q
    rw [er, World.size_drew, World.size_setCell]
    exact q.mono (Below.refl _ _).drew (Nat.le_refl _))
  have HR := Lib.hid (HU.out.on ur)
  have BR := Lib.hid (Below.to BU.out ur)
  clear er zc0 zc1 zf zn zlt zg hgz hzlo BW HC14 HO HI ur rsz PK
  have ks0 := HR.out.s0
  have ks1 := HR.out.s1
  have kq0 := HR.out.q0
  have kq1 := HR.out.q1
  have kq2 := HR.out.q2
  have kq3 := HR.out.q3
  have kQ := HR.out.zQ
  have kS : SB < r.heap.size := Nat.lt_trans HR.out.SQ HR.out.zQ
  go_upto_region 13 with fail
  refine captureM ?_
  intro s es
  have rs : Below r.heap.size r s := by rw [es]; with_reducible repeat (first | exact Below.refl _ _ | assumption | refine Below.al ?_ _ | refine Below.on ?_ _ | refine Below.st ?_ (by first | assumption | (simp; done) | (simp; omega)) _ | refine Below.drew ?_)
  have sz : r.heap.size < s.heap.size := by rw [es]; simp
  have sw0 : s.cell? ⟨r.heap.size, 0, none⟩ = some (.slice na nN nc) := by rw [es]; simp (maxDischargeDepth := 9) [go_sem, *]
  have sw1 : s.cell? ⟨r.heap.size, 1, none⟩ = some (.slice pa np pc) := by rw [es]; simp (maxDischargeDepth := 9) [go_sem, *]
  have sw2 : s.cell? ⟨r.heap.size, 2, none⟩ = some (.slice ga ng gc) := by rw [es]; simp (maxDischargeDepth := 9) [go_sem, *]
  have sw3 : s.cell? ⟨r.heap.size, 3, none⟩ = some (.slice aa nA ac) := by rw [es]; simp (maxDischargeDepth := 9) [go_sem, *]
  have sf : s.frozen? ⟨r.heap.size, 0, none⟩ = false := by rw [es]; simp (maxDischargeDepth := 9) [go_sem, *]
  have HS := Lib.hid (HR.out.on rs)
  have RS := Lib.hid rs
  have sq0 := HS.out.q0
  clear es
  clear ks0 ks1 kq0 kq1 kq2 kq3 kQ kS
  obtain ⟨ZW, hZW⟩ : ∃ n, r.heap.size = n := ⟨_, rfl⟩
  rw [hZW] at sz sw0 sw1 sw2 sw3 sf rzl ⊢
  have EZ := Lib.hid hZW
  have hQZ : QB < ZW := by have := HR.out.zQ; omega
  clear hZW
  have LNN := Lib.hid (nods_len HS.out.hn)
  obtain ⟨dl, hdl, hdv, NR⟩ := nods_row HS.out.hn
  have dll : dl.length = nN := by rw [LNN.out, ← hdl, List.length_map]
  have n7 : nN ≤ 7 := by have := H7.out; have := LNN.out; omega
  rw [← LNN.out] at NR
  have HNR := Lib.hid NR
  have HDL := Lib.hid (And.intro hdl (And.intro hdv dll))
  clear NR hdl hdv dll
  go_upto_region 14 with (first
    | (at_builtin; have hh := O17.out; go_must (refine wpList_append_lies _ rfl _ _ 25 rfl s.heap.size 44 i3 _ 8 88 Tryz.underlying25 hk hv0 hv1 hv2 rfl (by decide) (.slice a17 nN c17) nN (dl.flatMap nodC) rfl (O17.out.alloc _) ⟨w17.heap.size, 0, none⟩ 1 1 (nodC (isNull0, .slice none 0 0)) rfl rfl (World.news_of_block (heap_alloc_new w17 _)) (by simp [Value.oneCell', nodC]) (by omega) (by unfold maxLen; omega) (by omega) (by simp; omega) (w17.heap.size + 1) (by simp) ?_); intro gb cb w18 hown hgrow hat hlt8; clear hh; go_must (have O18 := Lib.hid hown; have G18 : Hid (Below s.heap.size s w18) := Lib.hid (Below.gr (G17.out.alloc g17s _) O17.out hgrow); have k18 := (G18.out.cell (p := ⟨ZW, 0, none⟩) sz).trans sw0; have f18 := (G18.out.frozen (p := ⟨ZW, 0, none⟩) sz).trans sf; have z18 := Nat.lt_of_lt_of_le sz G18.out.size); clear hown hgrow hat hlt8)
    | (at_builtin; go_must (refine wpList_append_row (by rfl) _ _ 25 (by rfl) s.heap.size 44 i3 _ 8 88 Tryz.underlying25 hk hv0 hv1 hv2 rfl (by decide) (.slice none 0 0) 0 [] (by rfl) (World.ownsRow_nil _ _ _ _) _ nN (dl.flatMap nodC) (by rfl) HNR.out (by unfold maxLen; omega) (by omega) (Nat.le_refl _) ?_); intro v17 w17 hown hgrow hat; go_must (have O17 : Hid (w17.ownsRow s.heap.size 44 8 v17 nN (dl.flatMap nodC)) := Lib.hid (by simpa using hown); have G17 : Hid (Below s.heap.size s w17) := Lib.hid (Below.gr (Below.refl _ _) (World.ownsRow_nil s _ 44 8) hgrow); have g17s := G17.out.size); obtain ⟨a17, c17, rfl⟩ := own_form O17.out; clear hown hgrow hat))
  refine captureM ?_
  intro v ev
  have sv : Below ZW s v := by rw [ev]; exact (G18.out.mono (Nat.le_of_lt sz)).setCell (p := ⟨ZW, 0, none⟩) (Nat.le_refl _) _
  have rv' : Below r.heap.size r v := by have q := RS.out; rw [EZ.out] at q ⊢; exact q.trans sv
  have HV := Lib.hid (HR.out.on rv')
  have vw0 : v.cell? ⟨ZW, 0, none⟩ = some (.slice (some ⟨gb, 0, none⟩) (nN + 1) cb) := by rw [ev]; exact cell_same k18
  have vw1 : v.cell? ⟨ZW, 1, none⟩ = some (.slice pa np pc) := by rw [ev]; exact cell_other ((G18.out.cell (p := ⟨ZW, 1, none⟩) sz).trans sw1) (by decide)
  have vw2 : v.cell? ⟨ZW, 2, none⟩ = some (.slice ga ng gc) := by rw [ev]; exact cell_other ((G18.out.cell (p := ⟨ZW, 2, none⟩) sz).trans sw2) (by decide)
  have vw3 : v.cell? ⟨ZW, 3, none⟩ = some (.slice aa nA ac) := by rw [ev]; exact cell_other ((G18.out.cell (p := ⟨ZW, 3, none⟩) sz).trans sw3) (by decide)
  have vwl : ZW < v.heap.size := by rw [ev, World.size_setCell]; exact z18
  have rzk : ZK < r.heap.size := by rw [EZ.out]; exact rzl
  have vz0 := (rv'.cell (p := ⟨ZK, 0, none⟩) rzk).trans rz0
  have vz1 := (rv'.cell (p := ⟨ZK, 1, none⟩) rzk).trans rz1
  have vzl : ZK < v.heap.size := Nat.lt_of_lt_of_le rzk rv'.size
  have HCV := Lib.hid (HCR.out.mono rv' rv'.size)
  have HNV : Hid (NodsAt v v.heap.size (.slice (some ⟨gb, 0, none⟩) (nN + 1) cb) (ns ++ [isNull0])) := Lib.hid (by
    have hl : (dl ++ [(isNull0, Value.slice none 0 0)]).length = nN + 1 := by rw [List.length_append, HDL.out.2.2]; rfl
    have q := own_nods (w := v) (base := s.heap.size) (T := 44) (v := .slice (some ⟨gb, 0, none⟩) (nN + 1) cb) (dl := dl ++ [(isNull0, Value.slice none 0 0)]) (by rw [hl]; omega) (fun p hp => ?_) ?_
    · rw [List.map_append, HDL.out.1] at q; exact q
    · rcases List.mem_append.1 hp with h | h
      · exact (HDL.out.2.1 p h).mono (sv.mono (Nat.le_of_lt hQZ)) (Nat.le_of_lt (Nat.lt_trans hQZ vwl))
      · rw [List.mem_singleton.1 h]; exact ⟨by show (0 : Nat) ≤ _; omega, .inl ⟨rfl, none, 0, rfl⟩⟩
    · rw [hl, List.flatMap_append, ev]
      exact own_st O18.out (fun k hk => by have := (O18.out.lt k hk).1; intro e; have e' : k = ZW := e; omega) _)
  have BV := Lib.hid (Below.to BR.out rv')
  clear ev sv rv' rz0 rz1 rzl rzk sw0 sw1 sw2 sw3 sf sz sq0 k18 f18 z18 HS RS EZ HCR O17 G17 O18 G18 HNR g17s hQZ HDL
  have gs0 := HV.out.s0
  have gs1 := HV.out.s1
  have gq0 := HV.out.q0
  have gq1 := HV.out.q1
  have gq2 := HV.out.q2
  have gq3 := HV.out.q3
  have gQ := HV.out.zQ
  have gS : SB < v.heap.size := Nat.lt_trans HV.out.SQ HV.out.zQ
  have NB : Hid (Calls Tryz.prog 13 #[.agg #[.slice (some ⟨g14, 0, none⟩) nn c14, .int .i64 key], .agg #[.slice na nN nc, .slice pa np pc, .slice ga ng gc, .slice aa nA ac]] v (NewPost2 v (renL cs K) key ns pr gr ag 0)) := Lib.hid (by
    have h := HV.out
    have hq := Nat.le_of_lt h.zQ
    have q := anew2_any (.slice (some ⟨g14, 0, none⟩) nn c14) (renL cs K) key (.slice na nN nc) ns (.slice pa np pc) pr (.slice ga ng gc) gr (.slice aa nA ac) ag v HCV.out (h.hn.mono (Below.refl _ _) hq) (ints_on h.hp (Below.refl _ _) hq) (ints_on h.hg (Below.refl _ _) hq) (h.ha.mono (Below.refl _ _) hq) QL.out
    rw [(renL_twin cs K).query SC0.out (HK.out.ren SC0.out K) QE.out] at q; exact q)
  go_upto_region 15 with (go_at_call 13; refine Calls.mono NB.out ?_; intro e w19 hq1; unfold NewPost2 at hq1; rw [if_pos rfl] at hq1; obtain ⟨SB2, rfl, hlB, hstB, hbB, _⟩ := hq1; have STB := Lib.hid hstB; have HBB := Lib.hid hbB; clear hlB hstB hbB)
  clear gs0 gs1 gq0 gq1 gq2 gq3 gQ gS
  clear NB HCV vz0 vz1 vzl
  have HV2 := Lib.hid (HV.out.on HBB.out)
  have uw0 := (HBB.out.cell (p := ⟨ZW, 0, none⟩) vwl).trans vw0
  have uw1 := (HBB.out.cell (p := ⟨ZW, 1, none⟩) vwl).trans vw1
  have uw2 := (HBB.out.cell (p := ⟨ZW, 2, none⟩) vwl).trans vw2
  have uw3 := (HBB.out.cell (p := ⟨ZW, 3, none⟩) vwl).trans vw3
  have uwl : ZW < w19.heap.size := Nat.lt_of_lt_of_le vwl HBB.out.size
  clear vw0 vw1 vw2 vw3 vwl
  have hs0 := HV2.out.s0
  have hs1 := HV2.out.s1
  have hq0 := HV2.out.q0
  have hq1 := HV2.out.q1
  have hq2 := HV2.out.q2
  have hq3 := HV2.out.q3
  have hQ := HV2.out.zQ
  have hS : SB < w19.heap.size := Nat.lt_trans HV2.out.SQ HV2.out.zQ
  have NC : Hid (Calls Tryz.prog 13 #[.agg #[.slice ca nn cc, .int .i64 key], .agg #[.slice (some ⟨gb, 0, none⟩) (nN + 1) cb, .slice pa np pc, .slice ga ng gc, .slice aa nA ac]] w19 (NewPost2 w19 cs key (ns ++ [isNull0]) pr gr ag 0)) := Lib.hid (by
    have h := HV2.out
    have hq := Nat.le_of_lt h.zQ
    have q := anew2_any (.slice ca nn cc) cs key (.slice (some ⟨gb, 0, none⟩) (nN + 1) cb) (ns ++ [isNull0]) (.slice pa np pc) pr (.slice ga ng gc) gr (.slice aa nA ac) ag w19 (h.hc.mono (Below.refl _ _) hq) (HNV.out.mono HBB.out HBB.out.size) (ints_on h.hp (Below.refl _ _) hq) (ints_on h.hg (Below.refl _ _) hq) (h.ha.mono (Below.refl _ _) hq) (fun d hd => by rcases List.mem_append.1 hd with q | q; exact QL.out d q; (rw [List.mem_singleton.1 q]; show (0 : Nat) ≤ _; omega))
    rw [query_more SC0.out n1 H7.out QE.out] at q; exact q)
  go_upto_region 16 with (go_at_call 13; refine Calls.mono NC.out ?_; intro e w20 hq1; unfold NewPost2 at hq1; rw [if_pos rfl] at hq1; obtain ⟨SC2, rfl, hlC, hstC, hbC, _⟩ := hq1; have STC := Lib.hid hstC; have HBC := Lib.hid hbC; clear hlC hstC hbC)
  clear hs0 hs1 hq0 hq1 hq2 hq3 hQ hS
  clear NC HNV uw0 uw1 uw2 uw3 uwl
  have HX := Lib.hid (HV2.out.on HBC.out)
  have B20 := Lib.hid (Below.to (Below.to BV.out HBB.out) HBC.out)
  have MB : Hid (∀ W, Below w20.heap.size w20 W → Calls Tryz.prog 18 #[.pointer (some ⟨SA, 0, none⟩), .pointer (some ⟨SB2, 0, none⟩)] W fun e w' => e = .returned (.int .i64 1) ∧ Below W.heap.size W w') := Lib.hid (fun W hb => by
    have hj : K < cs.length := by have := HNN.out; omega
    have hj2 : K < (renL cs K).length := by rw [renL_len]; exact hj
    have hcb := Below.to HBC.out hb
    refine mrf_any SA SB2 W (same_cols SA lo SB2 _ cs (renL cs K) key ns pr gr pr gr ag ag rv2 _ l2 [] (selR cs ns rows) [] W (T2.out.on (Below.to B20.out hb)) (STB.out.on hcb) K (renL_len cs K) hj (fun i h h' hi => ?_) ?_)
    · rw [renL_at cs K i h h', if_neg (by omega)]
    · rw [renL_at cs K K hj hj2, if_pos rfl]
      exact fun e => HK.out.noz _ (List.getElem_mem hj) e.symm)
  have MC : Hid (∀ W, Below w20.heap.size w20 W → Calls Tryz.prog 18 #[.pointer (some ⟨SA, 0, none⟩), .pointer (some ⟨SC2, 0, none⟩)] W fun e w' => e = .returned (.int .i64 1) ∧ Below W.heap.size W w') := Lib.hid (fun W hb =>
    mrf_any SA SC2 W (same_nods SA lo SC2 _ cs key ns (ns ++ [isNull0]) pr gr pr gr ag ag rv2 _ l2 [] (selR cs ns rows) [] W (T2.out.on (Below.to B20.out hb)) (STC.out.on hb) (by rw [List.length_append]; show ¬ ns.length = ns.length + 1; omega)))
  go_upto_region 18 with (first
    | (go_at_call 18; (with_reducible refine Calls.mono (MC.out _ (by with_reducible repeat (first | exact Below.refl _ _ | assumption | refine Below.al ?_ _ | refine Below.on ?_ _ | refine Below.st ?_ (by first | assumption | (simp; done) | (simp; omega)) _ | refine Below.drew ?_))) ?_); rintro e w22 ⟨rfl, hb22⟩; obtain ⟨x22, rfl⟩ := Ext.of hb22)
    | (go_at_call 18; (with_reducible refine Calls.mono (MB.out _ (by with_reducible repeat (first | exact Below.refl _ _ | assumption | refine Below.al ?_ _ | refine Below.on ?_ _ | refine Below.st ?_ (by first | assumption | (simp; done) | (simp; omega)) _ | refine Below.drew ?_))) ?_); rintro e w21 ⟨rfl, hb21⟩; obtain ⟨x21, rfl⟩ := Ext.of hb21))
  refine captureM ?_
  intro o eo
  have xo : Below w20.heap.size w20 o := by rw [eo]; with_reducible repeat (first | exact Below.refl _ _ | assumption | refine Below.al ?_ _ | refine Below.on ?_ _ | refine Below.st ?_ (by first | assumption | (simp; done) | (simp; omega)) _ | refine Below.drew ?_)
  have HO := Lib.hid (HX.out.on xo)
  have BO := Lib.hid (Below.to B20.out xo)
  clear eo xo MB MC STB STC
  have fs0 := HO.out.s0
  have fs1 := HO.out.s1
  have fq0 := HO.out.q0
  have fq1 := HO.out.q1
  have fq2 := HO.out.q2
  have fq3 := HO.out.q3
  have fQ := HO.out.zQ
  have fS : SB < o.heap.size := Nat.lt_trans HO.out.SQ HO.out.zQ
  obtain ⟨⟨R1, R2⟩, hR⟩ : ∃ R, resF cs pr gr ag (selR cs ns rows) = R := ⟨_, rfl⟩
  have C1 := Lib.hid (stres_ok (T2.out.on BO.out) QO.out (selR_fit (ns := ns) HV3.out) (by omega) hR)
  have C2 := Lib.hid (fun (W : World) (hb : Below o.heap.size o W) => (by
    have h := HO.out.on hb
    have hq := Nat.le_of_lt h.zQ
    have hbt := Below.to B2.out (Below.to BO.out hb)
    exact refrun_ok (rv := .slice ra nr rc) (h.hc.mono (Below.refl _ _) hq) (h.hn.mono (Below.refl _ _) hq) (ints_on h.hp (Below.refl _ _) hq) (ints_on h.hg (Below.refl _ _) hq) (h.ha.mono (Below.refl _ _) hq) (RR.out.mono hbt hbt.size) SC0.out QE.out (by rw [LR.out]; omega) HV3.out hR : Calls Tryz.prog 16 #[.agg #[.slice ca nn cc, .int .i64 key], .agg #[.slice na nN nc, .slice pa np pc, .slice ga ng gc, .slice aa nA ac], .slice ra nr rc] W (ResPost W R1 R2)))
  have tR : (R2 == R2) = true := by simp
  clear hR
  go_upto_region 20 with (first
    | (go_at_call 15; refine Calls.mono C1.out ?_; rintro e w24 ⟨v24, rfl, hr24, hb24⟩; obtain ⟨x24, rfl⟩ := Ext.of hb24; have R24 := Lib.hid hr24; clear hr24; have lQ := x24.lt fQ; have lS := x24.lt fS)
    | (go_at_call 16; refine Calls.mono (C2.out _ (by with_reducible repeat (first | exact Below.refl _ _ | assumption | refine Below.al ?_ _ | refine Below.on ?_ _ | refine Below.st ?_ (by first | assumption | (simp; done) | (simp; omega)) _ | refine Below.drew ?_))) ?_; rintro e w25 ⟨v25, rfl, hr25, hb25⟩; obtain ⟨x25, rfl⟩ := Ext.of hb25; have R25 := Lib.hid hr25; have R24' := Lib.hid (R24.out.mono x25.below x25.below.size); clear hr25))
  have SM := Lib.hid (fun (W : World) (hb : Below x25.it.heap.size x25.it W) => same_lists v24 v25 R1 W (R24'.out.mono hb hb.size) (R25.out.mono hb hb.size))
  have zwx : Below o.heap.size o x25.it := by with_reducible repeat (first | exact Below.refl _ _ | assumption | refine Below.al ?_ _ | refine Below.on ?_ _ | refine Below.st ?_ (by first | assumption | (simp; done) | (simp; omega)) _ | refine Below.drew ?_)
  have zww : Below w.heap.size w x25.it := Below.to HO.out.bel zwx
  go_wp2_with (first
    | (go_at_call 10; refine Calls.mono (awake26 _) ?_; rintro e w26 ⟨rfl, hb26⟩; obtain ⟨x26, rfl⟩ := Ext.of hb26)
    | (go_at_call 17; refine Calls.mono (SM.out _ (by with_reducible repeat (first | exact Below.refl _ _ | assumption | refine Below.al ?_ _ | refine Below.on ?_ _ | refine Below.st ?_ (by first | assumption | (simp; done) | (simp; omega)) _ | refine Below.drew ?_))) ?_; rintro e w27 ⟨rfl, hb27⟩; obtain ⟨x27, rfl⟩ := Ext.of hb27))
  clear zwx
  exact bodyPost_ret (v := .bool true) (by simp [results, Tryz.results6, go_sem, *]) rfl (⟨rfl, by with_reducible repeat (first | exact Below.refl _ _ | assumption | refine Below.al ?_ _ | refine Below.on ?_ _ | refine Below.st ?_ (by first | assumption | (simp; done) | (simp; omega)) _ | refine Below.drew ?_)⟩)
end Go.Proofs.YtpahoenanfjhpaaGreat
namespace Go.Proofs.YtpahoenanfjhpaaGreat
open Go.RowKit Go.ChangeShapes Go.WideShapes Go.ChangeAt
set_option maxRecDepth 100000 in
theorem aggregateRefuses_lifted (os : Os) (started : os.Started) (H : Type) (enc : TypeId × Value → H) :
    ReturnsInHanded {} Tryz.checked os 6 .any (Rows.aggregateRefusesSpec.pre6 enc Tryz.prog Tryz.f6 Rows.aggregateRefusesRow.domain false) (Rows.aggregateRefusesSpec.post enc Tryz.prog Tryz.f6 false true false false) := by
  refine lifted_of_walk (C := Tryz.checked) (tb := 4) own started (by kernel_rfl) Tryz.func6
    (ChangeSpec.witness6 (enc := enc) (C := Tryz.checked) false ⟨#[], #[.slice none 0 0, .slice none 0 0, .slice none 0 0, .slice none 0 0, .int .i64 0], []⟩ 8 (by kernel_rfl) (by kernel_rfl) (by kernel_rfl) (by kernel_rfl))
    laid (params_ok (by kernel_rfl)) (by kernel_rfl) Tryz.underlying4 rfl
    (fun ds hds => by match ds, hds with | [d0, d1, d2, d3, d4], _ => exact ⟨rfl, rfl, rfl⟩) ?_
  intro W base args ds ps hval0 hA0
  have hval : ∀ (j : Nat) t v, Tryz.f6.params[j]? = some t → args[j]? = some v → Value.okWide Tryz.prog W .any base t v := hval0
  have hA : DataW.TrodAll enc Tryz.prog W 0 (fun _ => true) true Tryz.f6.params.toList args.toList ds ps := hA0
  rw [Tryz.params6] at hA hval
  obtain ⟨v0, vs0, d0, ds0, p0, q0, hargs, rfl, rfl, h0, r0⟩ := trodAll_cons hA
  obtain ⟨v1, vs1, d1, ds1, p1, q1, rfl, rfl, rfl, h1, r1⟩ := trodAll_cons r0
  obtain ⟨v2, vs2, d2, ds2, p2, q2, rfl, rfl, rfl, h2, r2⟩ := trodAll_cons r1
  obtain ⟨v3, vs3, d3, ds3, p3, q3, rfl, rfl, rfl, h3, r3⟩ := trodAll_cons r2
  obtain ⟨v4, vs4, d4, ds4, p4, q4, rfl, rfl, rfl, h4, r4⟩ := trodAll_cons r3
  obtain ⟨rfl, rfl, rfl⟩ := trodAll_nil r4
  obtain rfl : args = #[v0, v1, v2, v3, v4] := by cases args; simp_all
  obtain ⟨l0, y0⟩ := open_intsv Tryz.underlying26 Tryz.underlying3 cells3 (hval 0 _ v0 rfl rfl) h0
  obtain ⟨l1, y1⟩ := open_intsv Tryz.underlying26 Tryz.underlying3 cells3 (hval 1 _ v1 rfl rfl) h1
  obtain ⟨l2, y2⟩ := open_intsv Tryz.underlying26 Tryz.underlying3 cells3 (hval 2 _ v2 rfl rfl) h2
  obtain ⟨kn, rfl, hkn⟩ := open_i64 Tryz.underlying3 (hval 4 _ v4 rfl rfl) h4
  exact rfw_walk _ _ _ _ _ _ _ _ _ y0 y1 y2

theorem aggregateRefuses_holds : Rows.AggregateRefusesSaid :=
  OpenClaim.holds_of_wide 6 Tryz.f6 rfl rfl rfl rfl rfl rfl rfl ⟨rfl, rfl, rfl, rfl, rfl⟩ rfl rfl rfl rfl rfl (by kernel_rfl) Tryz.func6 (by kernel_rfl)
    (of_decide_eq_true (by kernel_rfl)) (by unfold Func.isWrapper; first | (rw [if_pos (by decide +kernel)]; kernel_rfl) | (rw [if_neg (by decide +kernel)]; exact ⟨rfl, rfl⟩))
    (fun os started H enc _ => aggregateRefuses_lifted os started H enc)
#print axioms aggregateRefuses_holds
end Go.Proofs.YtpahoenanfjhpaaGreat
