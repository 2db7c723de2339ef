/-
  VECTORFILTERS: the walk. Conditions: the raw schema, predicate and lists lie in memory.
-/
import Derived.Test.YtploieofmnlomaaVag
import Derived.Test.YtploieofmnlomaaVow
import Derived.Test.YtploieofmnlomaaVpl
import Derived.Test.YtploieofmnlomaaVaw
import Derived.Test.YtploieofmnlomaaKsc
import Derived.Test.YtploieofmnlomaaKpr
import Derived.Test.YtploieofmnlomaaOps
set_option linter.unusedVariables false
set_option linter.unusedSimpArgs false
namespace Go.Proofs.Ytploieofmnlomaa
open Go.RowKit Go.ChangeShapes Go.WideShapes Go.ChangeAt
theorem allocVal3 : AllocOk Try.prog 32 #[.bool false, .int .i64 0, .string ⟨#[]⟩] := by
  intro ρ o w h; obtain ⟨dst, op, type, pos, after, guard⟩ := o; dsimp only at h; subst h; go_simp
set_option maxRecDepth 8000 in
set_option maxHeartbeats 1000000 in
theorem vfw_walk (scv : Value) (scs : List Col) (skey : Int) (pv0 : Value) (pns : List Nod) (rwv : Value) (rws : List (List Val)) (vx vl vm : Value) (zx zl zm : List Int) (hw at' : Int) (vb : Bool) (vi : Int) (vs : ByteArray) (w : World)
    (hsc : ColsAt w w.heap.size scv scs) (hpn : NodsAt w w.heap.size pv0 pns) (hrw : RowsAt w w.heap.size rwv rws) (h0 : IntsAt w w.heap.size vx zx) (h1 : IntsAt w w.heap.size vl zl) (h2 : IntsAt w w.heap.size vm zm) :
    Calls Try.prog 4 #[.agg #[scv, .int .i64 skey], pv0, rwv, vx, vl, vm, .int .i64 hw, .int .i64 at', .agg #[.bool vb, .int .i64 vi, .string vs]] w fun e w' => e = .returned (.bool true) ∧ Below w.heap.size w w' := by
  have H0 : Hid (IntsAt ((w.alloc (.cells #[scv, .int .i64 skey] 28)).alloc (.cells #[.bool vb, .int .i64 vi, .string vs] 32)) ((w.alloc (.cells #[scv, .int .i64 skey] 28)).alloc (.cells #[.bool vb, .int .i64 vi, .string vs] 32)).heap.size vx zx) := Lib.hid ((h0.to fun k hk => (((Below.refl w.heap.size w).alloc (Nat.le_refl _) _).alloc (by simp) _).block k hk).mono (by simp; omega))
  have H1 := Lib.hid h1
  have H2 := Lib.hid h2
  have GC := Lib.hid hsc
  have GN := Lib.hid hpn
  have GR := Lib.hid hrw
  clear h0 h1 h2 hsc hpn hrw
  go_enter Try.func4, Try.ntmps4
  go_upto_region 2 with (go_at_call 11; refine (keepSchema_any _ _ _ H0.out).mono ?_; rintro e w1 ⟨cv, cs, key, rfl, hc1, hs1, hl1, hb1⟩; obtain ⟨x1, rfl⟩ := Ext.of hb1; obtain ⟨ca, cc, rfl⟩ := cols_end hc1; obtain ⟨nn, hnn⟩ : ∃ nn, cs.length = nn := ⟨_, rfl⟩; rw [hnn] at hc1 hl1 ⊢; have HNN := Lib.hid hnn; clear hnn)
  have zA1 : w.heap.size < x1.it.heap.size := x1.lt (by simp; omega)
  have zV1 : w.heap.size + 1 < x1.it.heap.size := x1.lt (by simp)
  refine captureM ?_
  intro y ey
  have yb1 : Below x1.it.heap.size x1.it y := by rw [ey]; exact (by repeat (first | with_reducible exact Below.refl _ _ | with_reducible assumption | with_reducible refine Below.al ?_ _ | with_reducible refine Below.on ?_ _ | with_reducible refine Below.st ?_ (by first | assumption | (simp; done) | (simp; omega)) _ | with_reducible refine Below.drew ?_))
  have yb : Below w.heap.size w y := by rw [ey]; exact (by repeat (first | with_reducible exact Below.refl _ _ | with_reducible assumption | with_reducible refine Below.al ?_ _ | with_reducible refine Below.on ?_ _ | with_reducible refine Below.st ?_ (by first | assumption | (simp; done) | (simp; omega)) _ | with_reducible refine Below.drew ?_))
  have z0 : x1.it.heap.size < y.heap.size := by rw [ey]; simp
  have zA : w.heap.size < y.heap.size := by omega
  have zV : w.heap.size + 1 < y.heap.size := by omega
  have nAS : w.heap.size ≠ x1.it.heap.size := by omega
  have nVS : w.heap.size + 1 ≠ x1.it.heap.size := by omega
  have s0 : y.cell? ⟨x1.it.heap.size, 0, none⟩ = some (.slice ca nn cc) := by rw [ey]; simp (maxDischargeDepth := 9) [go_sem, *]
  have s1 : y.cell? ⟨x1.it.heap.size, 1, none⟩ = some (.int .i64 key) := by rw [ey]; simp (maxDischargeDepth := 9) [go_sem, *]
  have A0 : y.cell? ⟨w.heap.size, 0, none⟩ = some scv := by rw [ey]; simp (maxDischargeDepth := 9) [go_sem, *]
  have A1 : y.cell? ⟨w.heap.size, 1, none⟩ = some (.int .i64 skey) := by rw [ey]; simp (maxDischargeDepth := 9) [go_sem, *]
  have V0 : y.cell? ⟨w.heap.size + 1, 0, none⟩ = some (.bool vb) := by rw [ey]; simp (maxDischargeDepth := 9) [go_sem, *]
  have V1 : y.cell? ⟨w.heap.size + 1, 1, none⟩ = some (.int .i64 vi) := by rw [ey]; simp (maxDischargeDepth := 9) [go_sem, *]
  have V2 : y.cell? ⟨w.heap.size + 1, 2, none⟩ = some (.string vs) := by rw [ey]; simp (maxDischargeDepth := 9) [go_sem, *]
  have HC := Lib.hid (hc1.mono yb1 yb1.size)
  have HS := Lib.hid hs1
  have I1 := Lib.hid ((H1.out.to fun k hk => yb.block k hk).mono yb.size)
  clear ey hc1 hs1 hb1 yb1 H0 H1 zA1 zV1 nAS nVS
  generalize x1.it.heap.size = SB at *
  clear x1
  go_upto_region 3 with (go_at_call 12; refine Calls.mono (kpred_any _ cs key vl zl _ HC.out I1.out HS.out) ?_; rintro e w2 ⟨pv, ns, rfl, hn2, hp2, hl2, hb2⟩; obtain ⟨pa, pc, rfl⟩ := nods_end hn2; obtain ⟨np, hnp⟩ : ∃ np, ns.length = np := ⟨_, rfl⟩; rw [hnp] at hn2 hl2 ⊢; have HN2 := Lib.hid hn2; have HP2 := Lib.hid hp2; have HB2 := Lib.hid hb2; have HNP := Lib.hid hnp; have t0 := (hb2.cell (p := ⟨SB, 0, none⟩) z0).trans s0; have t1 := (hb2.cell (p := ⟨SB, 1, none⟩) z0).trans s1; have z2 := Nat.lt_of_lt_of_le z0 hb2.size; clear hn2 hp2 hnp)
  have HC2 := Lib.hid (HC.out.mono HB2.out HB2.out.size)
  have yb2 : Below w.heap.size w w2 := yb.trans (HB2.out.mono yb.size)
  have J2 := Lib.hid ((H2.out.to fun k hk => yb2.block k hk).mono yb2.size)
  have SP := Lib.hid (schema_parts HS.out)
  have KA := Lib.hid (And.intro ((HB2.out.cell (p := ⟨w.heap.size, 0, none⟩) zA).trans A0) ((HB2.out.cell (p := ⟨w.heap.size, 1, none⟩) zA).trans A1))
  have KV := Lib.hid (And.intro ((HB2.out.cell (p := ⟨w.heap.size + 1, 0, none⟩) zV).trans V0) (And.intro ((HB2.out.cell (p := ⟨w.heap.size + 1, 1, none⟩) zV).trans V1) ((HB2.out.cell (p := ⟨w.heap.size + 1, 2, none⟩) zV).trans V2)))
  have KZ := Lib.hid (show w.heap.size + 1 < w2.heap.size by have := HB2.out.size; omega)
  clear s0 s1 z0 hb2 I1 H2 A0 A1 V0 V1 V2 zA zV
  go_upto_region 3 with fail
  go_region_held3 (fun w' => w'.cell? ⟨SB, 0, none⟩ = some (.slice ca nn cc) ∧ w'.cell? ⟨SB, 1, none⟩ = some (.int .i64 key)) (first | exact ⟨by assumption, by assumption⟩ | (refine ⟨?_, ?_⟩ <;> simp [go_sem, *]))
    (first | (go_at_call 14; refine Calls.mono (rows_any _ cs key vm zm 9 _ (HC2.out.mono (by repeat (first | with_reducible exact Below.refl _ _ | with_reducible assumption | with_reducible refine Below.al ?_ _ | with_reducible refine Below.on ?_ _ | with_reducible refine Below.st ?_ (by first | assumption | (simp; done) | (simp; omega)) _ | with_reducible refine Below.drew ?_)) (by simp)) ((J2.out.to fun k hk => Below.block (B := w2.heap.size) (by repeat (first | with_reducible exact Below.refl _ _ | with_reducible assumption | with_reducible refine Below.al ?_ _ | with_reducible refine Below.on ?_ _ | with_reducible refine Below.st ?_ (by first | assumption | (simp; done) | (simp; omega)) _ | with_reducible refine Below.drew ?_)) k hk).mono (by simp)) (by decide) (by decide) SP.out.1 SP.out.2.2.1) ?_; rintro e w3 ⟨rv, rows, rfl, hr3, hl3, hv3, hb3⟩; obtain ⟨x3, rfl⟩ := Ext.of hb3; obtain ⟨ra, rc, rfl⟩ := rows_end hr3; have HR3 := Lib.hid hr3; have HV3 := Lib.hid hv3; have HL3 := Lib.hid hl3; clear hr3 hv3 hl3; have z3 : SB < x3.it.heap.size := x3.lt (by simpa using z2); have p0 : x3.it.cell? ⟨SB, 0, none⟩ = some (.slice ca nn cc) := (x3.cell SB 0 (by simpa using z2)).trans t0; have p1 : x3.it.cell? ⟨SB, 1, none⟩ = some (.int .i64 key) := (x3.cell SB 1 (by simpa using z2)).trans t1) | (go_at_call 13; refine Calls.mono (columns_own _ cs key _ rows _ (HC2.out.mono (by repeat (first | with_reducible exact Below.refl _ _ | with_reducible assumption | with_reducible refine Below.al ?_ _ | with_reducible refine Below.on ?_ _ | with_reducible refine Below.st ?_ (by first | assumption | (simp; done) | (simp; omega)) _ | with_reducible refine Below.drew ?_)) (by simpa using x3.below.size)) (HR3.out.mono (by repeat (first | with_reducible exact Below.refl _ _ | with_reducible assumption | with_reducible refine Below.al ?_ _ | with_reducible refine Below.on ?_ _ | with_reducible refine Below.st ?_ (by first | assumption | (simp; done) | (simp; omega)) _ | with_reducible refine Below.drew ?_)) (by simp)) SP.out.2.2.1 (by have := HL3.out; omega) (fun r hr => (HV3.out r hr).1)) ?_; rintro e w4 ⟨colv, lvs, rfl, ho4, hi4, hb4⟩; obtain ⟨x4, rfl⟩ := Ext.of hb4; have HB4 : Hid (w2.heap.size ≤ _) := Lib.hid (show w2.heap.size ≤ x3.it.heap.size by simpa using x3.below.size); have HO4 := Lib.hid (own_baseM ho4 (by have := HB4.out; simp; omega)); have HI4 := Lib.hid (Inn.base (B1 := w2.heap.size) hi4 (by have := HB4.out; simp; omega)); clear ho4 hi4; have z4 : SB < x4.it.heap.size := x4.lt (by simpa using z3); have r0 : x4.it.cell? ⟨SB, 0, none⟩ = some (.slice ca nn cc) := (x4.cell SB 0 (by simpa using z3)).trans p0; have r1 : x4.it.cell? ⟨SB, 1, none⟩ = some (.int .i64 key) := (x4.cell SB 1 (by simpa using z3)).trans p1))
  have b4 : Below w2.heap.size w2 x4.it := by repeat (first | with_reducible exact Below.refl _ _ | with_reducible assumption | with_reducible refine Below.al ?_ _ | with_reducible refine Below.on ?_ _ | with_reducible refine Below.st ?_ (by first | assumption | (simp; done) | (simp; omega)) _ | with_reducible refine Below.drew ?_)
  have B4 : Below w.heap.size w x4.it := yb2.trans (b4.mono yb2.size)
  have HC4 := Lib.hid (HC2.out.mono b4 b4.size)
  have HN4 := Lib.hid (HN2.out.mono b4 b4.size)
  have KA4 := Lib.hid (And.intro ((b4.cell (p := ⟨w.heap.size, 0, none⟩) (show w.heap.size < w2.heap.size by have := KZ.out; omega)).trans KA.out.1) ((b4.cell (p := ⟨w.heap.size, 1, none⟩) (show w.heap.size < w2.heap.size by have := KZ.out; omega)).trans KA.out.2))
  have KV4 := Lib.hid (And.intro ((b4.cell (p := ⟨w.heap.size + 1, 0, none⟩) KZ.out).trans KV.out.1) (And.intro ((b4.cell (p := ⟨w.heap.size + 1, 1, none⟩) KZ.out).trans KV.out.2.1) ((b4.cell (p := ⟨w.heap.size + 1, 2, none⟩) KZ.out).trans KV.out.2.2)))
  have CL : (colsOf cs.length rows).length = nn := by unfold colsOf; simp [HNN.out]
  have HIc := HI4.out
  obtain ⟨cols, hcols⟩ : ∃ q, colsOf cs.length rows = q := ⟨_, rfl⟩
  rw [hcols] at CL HIc
  have CM : ∀ k (h : k < cols.length), (cols[k]'h).length ≤ 9 := by subst hcols; intro k h; unfold colsOf colOf; simp; have := HL3.out; omega
  have LL : lvs.length = nn := by rw [HIc.1]; exact CL
  have NN1 : 1 ≤ nn := by rw [← HNN.out]; exact SP.out.2.1
  have NN12 : nn ≤ 12 := by rw [← HNN.out]; exact SP.out.2.2.1
  obtain ⟨g, gc, rfl, hgc, hgb, hgl, hcells⟩ : ∃ g c, colv = .slice (some ⟨g, 0, none⟩) lvs.length c ∧ lvs.length ≤ c ∧ w2.heap.size ≤ g ∧ g < x4.it.heap.size ∧ ∀ j (hj : j < lvs.length), x4.it.cell? ⟨g, j, none⟩ = some (lvs[j]'hj) := by
    rcases own_at (f := one1) (k := 1) (fun _ => rfl) HO4.out with ⟨e0, _⟩ | ⟨g, c, hv, hc, hb, hg, H⟩
    · rw [e0] at LL; simp at LL; omega
    · exact ⟨g, c, hv, hc, hb, hg, fun j hj => by have := H j hj 0 _ (by omega) rfl; simpa using this⟩
  have FZ : ∀ j, x4.it.frozen? ⟨g, j, none⟩ = false := by
    rcases HO4.out.2 with ⟨h0, _⟩ | ⟨g', cap, cur, h1, h2, h3, _⟩
    · cases h0
    · injection h1 with h1 _ _
      injection h1 with h1
      injection h1 with h1
      subst h1
      exact fun j => frozen_of_row x4.it g j _ _ h3
  have HR4 : Hid (RowsAt x4.it x4.it.heap.size (.slice (some ⟨g, 0, none⟩) nn gc) cols) := Lib.hid (by have h := inn_rows (by rw [CL]; omega) HIc HO4.out; rw [LL] at h; exact h)
  rw [LL] at hgc ⊢
  have HI := Lib.hid HIc
  have HCE := Lib.hid hcells
  have HCM := Lib.hid CM
  have HCL := Lib.hid CL
  have HLL := Lib.hid LL
  have HFZ := Lib.hid FZ
  have HB := Lib.hid (And.intro B4 b4)
  have KS : Hid (SB < w2.heap.size) := Lib.hid z2
  clear HR3 HV3 HL3 z3 p0 p1 HI4 HO4 hb4 HB4 hb3 hcols HIc hcells CM CL LL FZ b4 B4 HB2 KA KV J2 t0 t1 z2
  generalize x4.it = w4 at *
  clear x4
  clear x3
  have b0 : Below w4.heap.size w4 w4 := Below.refl _ _
  have AG1 := Lib.hid (fun (W : World) (hb : Below w4.heap.size w4 W) => agrees_any scv scs skey pv0 pns rwv rws W (GC.out.mono (HB.out.1.trans (hb.mono HB.out.1.size)) (HB.out.1.trans (hb.mono HB.out.1.size)).size) (GN.out.mono (HB.out.1.trans (hb.mono HB.out.1.size)) (HB.out.1.trans (hb.mono HB.out.1.size)).size) (GR.out.mono (HB.out.1.trans (hb.mono HB.out.1.size)) (HB.out.1.trans (hb.mono HB.out.1.size)).size))
  have AG2 := Lib.hid (fun (W : World) (hb : Below w4.heap.size w4 W) => agrees_any (.slice ca nn cc) cs key (.slice pa np pc) ns rwv rws W (HC4.out.mono hb hb.size) (HN4.out.mono hb hb.size) (GR.out.mono (HB.out.1.trans (hb.mono HB.out.1.size)) (HB.out.1.trans (hb.mono HB.out.1.size)).size))
  have AG3 := Lib.hid (fun (W : World) (hb : Below w4.heap.size w4 W) => agrees_any (.slice ca nn cc) cs key pv0 pns (.slice (some ⟨g, 0, none⟩) nn gc) cols W (HC4.out.mono hb hb.size) (GN.out.mono (HB.out.1.trans (hb.mono HB.out.1.size)) (HB.out.1.trans (hb.mono HB.out.1.size)).size) (HR4.out.mono hb hb.size))
  have AG4 := Lib.hid (fun (W : World) (hb : Below w4.heap.size w4 W) => agrees_any (.slice ca nn cc) cs key (.slice pa np pc) ns (.slice (some ⟨g, 0, none⟩) nn gc) cols W (HC4.out.mono hb hb.size) (HN4.out.mono hb hb.size) (HR4.out.mono hb hb.size))
  have a0 := KA4.out.1
  have a1 := KA4.out.2
  have za : w.heap.size < w4.heap.size := by have := KZ.out; have := HB.out.2.size; omega
  have zv : w.heap.size + 1 < w4.heap.size := by have := KZ.out; have := HB.out.2.size; omega
  clear GC GN GR KA4
  go_upto_region 6 with (first | (go_at_call 15; (with_reducible refine Calls.mono (AG1.out _ ?_) ?_); (focus (repeat (first | with_reducible exact Below.refl _ _ | with_reducible assumption | with_reducible refine Below.al ?_ _ | with_reducible refine Below.on ?_ _ | with_reducible refine Below.st ?_ (by first | assumption | (simp; done) | (simp; omega)) _ | with_reducible refine Below.drew ?_))); rintro e w5 ⟨rfl, hb5⟩; obtain ⟨x5, rfl⟩ := Ext.of hb5; have z5 : SB < x5.it.heap.size := x5.lt (by simpa using z4)) | (go_at_call 15; (with_reducible refine Calls.mono (AG2.out _ ?_) ?_); (focus (repeat (first | with_reducible exact Below.refl _ _ | with_reducible assumption | with_reducible refine Below.al ?_ _ | with_reducible refine Below.on ?_ _ | with_reducible refine Below.st ?_ (by first | assumption | (simp; done) | (simp; omega)) _ | with_reducible refine Below.drew ?_))); rintro e w6 ⟨rfl, hb6⟩; obtain ⟨x6, rfl⟩ := Ext.of hb6; have z6 : SB < x6.it.heap.size := x6.lt (by simpa using z5)) | (go_at_call 15; (with_reducible refine Calls.mono (AG3.out _ ?_) ?_); (focus (repeat (first | with_reducible exact Below.refl _ _ | with_reducible assumption | with_reducible refine Below.al ?_ _ | with_reducible refine Below.on ?_ _ | with_reducible refine Below.st ?_ (by first | assumption | (simp; done) | (simp; omega)) _ | with_reducible refine Below.drew ?_))); rintro e w7 ⟨rfl, hb7⟩; obtain ⟨x7, rfl⟩ := Ext.of hb7; have z7 : SB < x7.it.heap.size := x7.lt (by simpa using z6)) | (go_at_call 15; (with_reducible refine Calls.mono (AG4.out _ ?_) ?_); (focus (repeat (first | with_reducible exact Below.refl _ _ | with_reducible assumption | with_reducible refine Below.al ?_ _ | with_reducible refine Below.on ?_ _ | with_reducible refine Below.st ?_ (by first | assumption | (simp; done) | (simp; omega)) _ | with_reducible refine Below.drew ?_))); rintro e w8 ⟨rfl, hb8⟩; obtain ⟨x8, rfl⟩ := Ext.of hb8; have z8 : SB < x8.it.heap.size := x8.lt (by simpa using z7)))
  have b6 : Below w4.heap.size w4 x8.it := by repeat (first | with_reducible exact Below.refl _ _ | with_reducible assumption | with_reducible refine Below.al ?_ _ | with_reducible refine Below.on ?_ _ | with_reducible refine Below.st ?_ (by first | assumption | (simp; done) | (simp; omega)) _ | with_reducible refine Below.drew ?_)
  have c0 : x8.it.cell? ⟨SB, 0, none⟩ = some (.slice ca nn cc) := (b6.cell (p := ⟨SB, 0, none⟩) z4).trans r0
  have c1 : x8.it.cell? ⟨SB, 1, none⟩ = some (.int .i64 key) := (b6.cell (p := ⟨SB, 1, none⟩) z4).trans r1
  have v0 := (b6.cell (p := ⟨w.heap.size + 1, 0, none⟩) zv).trans KV4.out.1
  have v1 := (b6.cell (p := ⟨w.heap.size + 1, 1, none⟩) zv).trans KV4.out.2.1
  have v2 := (b6.cell (p := ⟨w.heap.size + 1, 2, none⟩) zv).trans KV4.out.2.2
  have zv6 : w.heap.size + 1 < x8.it.heap.size := by have := b6.size; omega
  have gl6 : g < x8.it.heap.size := by have := b6.size; omega
  have gn0 : g ≠ SB := by have := KS.out; omega
  have gn1 : g ≠ w.heap.size + 1 := by have := KZ.out; omega
  have gn2 : w.heap.size ≤ g := by have := KZ.out; omega
  have HC6 := Lib.hid (HC4.out.mono b6 b6.size)
  have HN6 := Lib.hid (HN4.out.mono b6 b6.size)
  have HR6 := Lib.hid (HR4.out.mono b6 b6.size)
  have HI6 := Lib.hid (Inn.on HI.out b6)
  have HCE6 : Hid (∀ j (hj : j < lvs.length), x8.it.cell? ⟨g, j, none⟩ = some (lvs[j]'hj)) := Lib.hid fun j hj => (b6.cell (p := ⟨g, j, none⟩) hgl).trans (HCE.out j hj)
  have HFZ6 : Hid (∀ j, x8.it.frozen? ⟨g, j, none⟩ = false) := Lib.hid fun j => (b6.frozen (p := ⟨g, j, none⟩) hgl).trans (HFZ.out j)
  have B6 := Lib.hid (And.intro (HB.out.1.trans (b6.mono HB.out.1.size)) (HB.out.2.trans (b6.mono HB.out.2.size)))
  clear r0 r1 KV4 a0 a1 za zv z4 z5 z6 z7 b0 AG1 AG2 AG3 AG4 hb5 hb6 hb7 hb8 HC4 HN4 HR4 HI HCE HFZ HB b6 hgl
  generalize x8.it = w6 at *
  clear x8
  clear x7
  clear x6
  clear x5
  obtain ⟨K, hK⟩ : ∃ K : Nat, pickI at' (nn : Int) = (K : Int) := ⟨(pickI at' (nn : Int)).toNat, by have := pickI_bd at' (n := (nn : Int)) (by omega); omega⟩
  have hKn : K < nn := by have := pickI_bd at' (n := (nn : Int)) (by omega); omega
  have hKn' : (K : Int) < (nn : Int) := by omega
  have PK1 := Lib.hid (fun (W : World) => (by have h := pick_any at' (nn : Int) (by omega) (by omega) W; rw [hK] at h; exact h : Calls Try.prog 16 #[.int .i64 at', .int .i64 (nn : Int)] W fun e w' => e = .returned (.int .i64 (K : Int)) ∧ W = w'))
  have hP := pickI_bd hw (n := 3) (by omega)
  obtain ⟨P, hPP⟩ : ∃ P, pickI hw 3 = P := ⟨_, rfl⟩
  have PK2 := Lib.hid (fun (W : World) => (by have h := pick_any hw 3 (by omega) (by omega) W; rw [hPP] at h; exact h : Calls Try.prog 16 #[.int .i64 hw, .int .i64 3] W fun e w' => e = .returned (.int .i64 P) ∧ W = w'))
  rw [hPP] at hP
  clear hK hPP
  have hKl : K < lvs.length := by rw [HLL.out]; exact hKn
  have hKc : K < cols.length := by rw [HCL.out]; exact hKn
  obtain ⟨hvk, hbk⟩ := HI6.out.2 K hKl hKc
  have hck := HCE6.out K hKl
  have hL9 := HCM.out K hKc
  obtain ⟨lv, hlv⟩ : ∃ lv, lvs[K]'hKl = lv := ⟨_, rfl⟩
  obtain ⟨col, hcol⟩ : ∃ col, cols[K]'hKc = col := ⟨_, rfl⟩
  rw [hlv] at hvk hbk hck
  rw [hcol] at hvk hL9
  obtain ⟨la, lc, rfl⟩ := vals_end hvk
  obtain ⟨L, hL⟩ : ∃ L, col.length = L := ⟨_, rfl⟩
  rw [hL] at hvk hbk hck hL9
  have HVK := Lib.hid hvk
  have HBK := Lib.hid hbk
  have HCOL := Lib.hid (And.intro hcol hL)
  have hfz : w6.frozen? ⟨g, K, none⟩ = false := HFZ6.out K
  clear hvk hbk hlv hcol hL
  rcases (show P = 0 ∨ P = 1 ∨ P = 2 by omega) with rfl | rfl | rfl
  · clear hP
    have RT := Lib.hid (rows_take HR6.out HCL.out (Nat.le_of_lt hKn))
    obtain ⟨sT, hsT⟩ : ∃ sT, sliced (some ⟨g, 0, none⟩) 0 K gc 1 = sT := ⟨_, rfl⟩
    have slT : ∀ W : World, (Instr.slice 30 (.slice (some ⟨g, 0, none⟩) nn gc) none (some (.int .i64 (K : Int))) none).run Try.prog W = .ok sT W := fun W => by rw [← hsT]; exact run_rows_h (by omega) W
    rw [hsT] at RT
    have AGF := Lib.hid (fun (W : World) (hb : Below w6.heap.size w6 W) => agrees_any (.slice ca nn cc) cs key (.slice pa np pc) ns sT (cols.take K) W (HC6.out.mono hb hb.size) (HN6.out.mono hb hb.size) (RT.out.mono hb hb.size))
    clear hsT
    go_wp2_with (first | (go_at_call 16; (with_reducible refine Calls.mono (PK1.out _) ?_); rintro e w7 ⟨rfl, rfl⟩) | (go_at_call 16; (with_reducible refine Calls.mono (PK2.out _) ?_); rintro e w7 ⟨rfl, rfl⟩) | (go_at_call 17; refine (awake25 _).mono ?_; rintro e w9 ⟨rfl, hb9⟩; obtain ⟨x9, rfl⟩ := Ext.of hb9; have z9 : SB < x9.it.heap.size := x9.lt (by simpa using z8)) | (go_at_call 15; (with_reducible refine Calls.mono (AGF.out _ ?_) ?_); (focus (repeat (first | with_reducible exact Below.refl _ _ | with_reducible assumption | with_reducible refine Below.al ?_ _ | with_reducible refine Below.on ?_ _ | with_reducible refine Below.st ?_ (by first | assumption | (simp; done) | (simp; omega)) _ | with_reducible refine Below.drew ?_))); rintro e w10 ⟨rfl, hb10⟩; obtain ⟨x10, rfl⟩ := Ext.of hb10))
    have BB := B6.out.1
    exact bodyPost_ret (v := .bool true) (by simp [results, Try.results4, go_sem, *]) rfl (⟨rfl, by repeat (first | with_reducible exact Below.refl _ _ | with_reducible assumption | with_reducible refine Below.al ?_ _ | with_reducible refine Below.on ?_ _ | with_reducible refine Below.st ?_ (by first | assumption | (simp; done) | (simp; omega)) _ | with_reducible refine Below.drew ?_)⟩)
  · clear hP
    obtain ⟨i0, hi, hz0, hz1, hz2⟩ := info_parts infoVal
    have hcl9 : col.length ≤ 9 := by rw [HCOL.out.2]; exact hL9
    go_upto_region 15 with (first | (go_at_call 16; (with_reducible refine Calls.mono (PK1.out _) ?_); rintro e w7 ⟨rfl, rfl⟩) | (go_at_call 16; (with_reducible refine Calls.mono (PK2.out _) ?_); rintro e w7 ⟨rfl, rfl⟩) | (at_builtin; have hOW := OW1; clear hOW; go_must (refine wpList_append_lies _ rfl _ _ 39 rfl w6.heap.size 32 i0 _ 3 32 Try.underlying39 hi hz0 hz1 hz2 rfl (by decide) (.slice a1 col.length q1) col.length (col.flatMap valC) rfl (OW1.out.alloc _) ⟨w8.heap.size, 0, none⟩ 1 1 (valC ⟨false, 1, ⟨#[]⟩⟩) rfl rfl (World.news_of_block (heap_alloc_new w8 _)) (by simp [valC, Value.oneCell']) (by omega) (by unfold maxLen; omega) (by omega) (by have := HS8; simp; omega) (w8.heap.size + 1) (by simp) ?_); intro gb cap w10 hown2 hgrow2 hat2 hlt2; go_must (have OW2 := Lib.hid hown2; have b10 : Hid (Below w6.heap.size w6 w10) := Lib.hid (Below.gr (Below.al HB8.out _) OW1.out hgrow2); have HCK : w10.cell? ⟨g, K, none⟩ = some (.slice la L lc) := (b10.out.cell (p := ⟨g, K, none⟩) gl6).trans hck; have HFK : w10.frozen? ⟨g, K, none⟩ = false := (b10.out.frozen (p := ⟨g, K, none⟩) gl6).trans hfz; have gl10 : g < w10.heap.size := Nat.lt_of_lt_of_le gl6 b10.out.size; clear hown2 hgrow2 hat2 hlt2)) | (at_builtin; go_must (refine wpList_append_vals (by rfl) _ _ 39 rfl w6.heap.size 32 i0 Try.underlying39 hi hz0 hz1 hz2 (.slice none 0 0) 0 [] rfl (World.ownsRow_nil _ _ _ _) _ col rfl HVK.out (by unfold maxLen; omega) (by omega) (Nat.le_refl _) ?_); intro v1 w8 hown1 hgrow1; rw [Nat.zero_add, List.nil_append] at hown1; obtain ⟨a1, q1, rfl⟩ := own_form hown1; have OW1 := Lib.hid hown1; have HB8 := Lib.hid (Below.gr (Below.refl w6.heap.size w6) (World.ownsRow_nil _ _ _ _ : w6.ownsRow w6.heap.size 32 3 (.slice none 0 0) 0 []) hgrow1); have HS8 := HB8.out.size; clear hown1 hgrow1))
    refine captureM ?_
    intro y ey
    have yK : y.cell? ⟨g, K, none⟩ = some (.slice (some ⟨gb, 0, none⟩) (col.length + 1) cap) := by rw [ey]; simp (maxDischargeDepth := 9) [go_sem, *]
    have by2 : Below w2.heap.size w2 y := by rw [ey]; exact Below.st (B6.out.2.trans (b10.out.mono B6.out.2.size)) hgb _
    have byw : Below w.heap.size w y := by rw [ey]; exact Below.st (B6.out.1.trans (b10.out.mono B6.out.1.size)) gn2 _
    have yh : ∀ q, q ≠ g → y.heap[q]? = w10.heap[q]? := fun q hq => by rw [ey]; exact Below.heap_setCell _ _ _ _ hq
    have ys : y.heap.size = w10.heap.size := by rw [ey]; simp
    have yj : ∀ j, j ≠ K → y.cell? ⟨g, j, none⟩ = w10.cell? ⟨g, j, none⟩ := fun j hj => by rw [ey]; simp (maxDischargeDepth := 9) [go_sem, *]
    have s0 : y.cell? ⟨SB, 0, none⟩ = some (.slice ca nn cc) := (World.cell?_of_block (w := w10) (yh SB gn0.symm)).trans ((b10.out.cell (p := ⟨SB, 0, none⟩) z8).trans c0)
    have s1 : y.cell? ⟨SB, 1, none⟩ = some (.int .i64 key) := (World.cell?_of_block (w := w10) (yh SB gn0.symm)).trans ((b10.out.cell (p := ⟨SB, 1, none⟩) z8).trans c1)
    have zy : SB < y.heap.size := by rw [ys]; have := b10.out.size; omega
    have VN : ValsAt w10 w10.heap.size (.slice (some ⟨gb, 0, none⟩) (col.length + 1) cap) (col ++ [⟨false, 1, ⟨#[]⟩⟩]) := own_vals (by simp; omega) (by have h := OW2.out; rw [List.length_append, List.flatMap_append]; exact h)
    have VY : ValsAt y y.heap.size (.slice (some ⟨gb, 0, none⟩) (col.length + 1) cap) (col ++ [⟨false, 1, ⟨#[]⟩⟩]) := by
      have hgb' := (OW2.out.lt gb rfl).1
      refine (VN.keep fun k _ hq => ?_).up (by rw [ys]; exact Nat.le_refl _)
      refine yh k ?_
      have hq' : some gb = some k := hq
      injection hq' with hq'
      omega
    have RN := Lib.hid (rows_changed (W' := y) (k := K) HI6.out rfl (by rw [HLL.out]; exact hgc) gl6 (by rw [HCL.out]; omega) (by rw [ys]; exact b10.out.size) (fun q hq hne => (yh q hne).trans (b10.out.block q hq)) (fun j hj hne => (yj j hne).trans ((b10.out.cell (p := ⟨g, j, none⟩) gl6).trans (HCE6.out j hj))) yK VY)
    rw [HLL.out] at RN
    have AGF := Lib.hid (fun (W : World) (hb : Below y.heap.size y W) => agrees_any (.slice ca nn cc) cs key (.slice pa np pc) ns (.slice (some ⟨g, 0, none⟩) nn gc) (cols.set K (col ++ [⟨false, 1, ⟨#[]⟩⟩])) W (HC2.out.mono (by2.trans (hb.mono by2.size)) (by2.trans (hb.mono by2.size)).size) (HN2.out.mono (by2.trans (hb.mono by2.size)) (by2.trans (hb.mono by2.size)).size) (RN.out.mono hb hb.size))
    clear ey yK yj yh ys VN VY RN HCK HFK gl10 HB8 HS8 OW1 OW2 c0 c1 v0 v1 v2 zv6 gl6 hck hfz
    clear b10
    go_wp2_with (first | (go_at_call 17; refine (awake25 _).mono ?_; rintro e w19 ⟨rfl, hb19⟩; obtain ⟨x19, rfl⟩ := Ext.of hb19; have z19 : SB < x19.it.heap.size := x19.lt (by simpa using zy)) | (go_at_call 15; (with_reducible refine Calls.mono (AGF.out _ ?_) ?_); (focus (repeat (first | with_reducible exact Below.refl _ _ | with_reducible assumption | with_reducible refine Below.al ?_ _ | with_reducible refine Below.on ?_ _ | with_reducible refine Below.st ?_ (by first | assumption | (simp; done) | (simp; omega)) _ | with_reducible refine Below.drew ?_))); rintro e w20 ⟨rfl, hb20⟩; obtain ⟨x20, rfl⟩ := Ext.of hb20))
    exact bodyPost_ret (v := .bool true) (by simp [results, Try.results4, go_sem, *]) rfl (⟨rfl, by repeat (first | with_reducible exact Below.refl _ _ | with_reducible assumption | with_reducible refine Below.al ?_ _ | with_reducible refine Below.on ?_ _ | with_reducible refine Below.st ?_ (by first | assumption | (simp; done) | (simp; omega)) _ | with_reducible refine Below.drew ?_)⟩)
  · clear hP
    by_cases hL0 : L = 0
    · subst hL0
      have zy := z8
      have BB := B6.out.1
      have AGF := Lib.hid (fun (W : World) (hb : Below w6.heap.size w6 W) => agrees_any (.slice ca nn cc) cs key (.slice pa np pc) ns (.slice (some ⟨g, 0, none⟩) nn gc) cols W (HC6.out.mono hb hb.size) (HN6.out.mono hb hb.size) (HR6.out.mono hb hb.size))
      go_wp2_with (first | (go_at_call 16; (with_reducible refine Calls.mono (PK1.out _) ?_); rintro e w7 ⟨rfl, rfl⟩) | (go_at_call 16; (with_reducible refine Calls.mono (PK2.out _) ?_); rintro e w7 ⟨rfl, rfl⟩) | (go_at_call 17; refine (awake25 _).mono ?_; rintro e w19 ⟨rfl, hb19⟩; obtain ⟨x19, rfl⟩ := Ext.of hb19; have z19 : SB < x19.it.heap.size := x19.lt (by simpa using zy)) | (go_at_call 15; (with_reducible refine Calls.mono (AGF.out _ ?_) ?_); (focus (repeat (first | with_reducible exact Below.refl _ _ | with_reducible assumption | with_reducible refine Below.al ?_ _ | with_reducible refine Below.on ?_ _ | with_reducible refine Below.st ?_ (by first | assumption | (simp; done) | (simp; omega)) _ | with_reducible refine Below.drew ?_))); rintro e w20 ⟨rfl, hb20⟩; obtain ⟨x20, rfl⟩ := Ext.of hb20))
      exact bodyPost_ret (v := .bool true) (by simp [results, Try.results4, go_sem, *]) rfl (⟨rfl, by repeat (first | with_reducible exact Below.refl _ _ | with_reducible assumption | with_reducible refine Below.al ?_ _ | with_reducible refine Below.on ?_ _ | with_reducible refine Below.st ?_ (by first | assumption | (simp; done) | (simp; omega)) _ | with_reducible refine Below.drew ?_)⟩)
    · have hLp : (0 : Int) < (L : Int) := by omega
      obtain ⟨i0, hi, hz0, hz1, hz2⟩ := info_parts infoVal
      have hcl9 : col.length ≤ 9 := by rw [HCOL.out.2]; exact hL9
      go_upto_region 10 with (first | (go_at_call 16; (with_reducible refine Calls.mono (PK1.out _) ?_); rintro e w7 ⟨rfl, rfl⟩) | (go_at_call 16; (with_reducible refine Calls.mono (PK2.out _) ?_); rintro e w7 ⟨rfl, rfl⟩) | (at_builtin; go_must (refine wpList_append_vals (by rfl) _ _ 39 rfl w6.heap.size 32 i0 Try.underlying39 hi hz0 hz1 hz2 (.slice none 0 0) 0 [] rfl (World.ownsRow_nil _ _ _ _) _ col rfl HVK.out (by unfold maxLen; omega) (by omega) (Nat.le_refl _) ?_); intro v1 w8 hown1 hgrow1; rw [Nat.zero_add, List.nil_append] at hown1; obtain ⟨a1, q1, rfl⟩ := own_form hown1; have OW1 := Lib.hid hown1; have HB8 : Hid (Below w6.heap.size w6 w8) := Lib.hid (Below.gr (Below.refl w6.heap.size w6) (World.ownsRow_nil _ _ _ _ : w6.ownsRow w6.heap.size 32 3 (.slice none 0 0) 0 []) hgrow1); have HCK : w8.cell? ⟨g, K, none⟩ = some (.slice la L lc) := (HB8.out.cell (p := ⟨g, K, none⟩) gl6).trans hck; have HFK : w8.frozen? ⟨g, K, none⟩ = false := (HB8.out.frozen (p := ⟨g, K, none⟩) gl6).trans hfz; have gl10 : g < w8.heap.size := Nat.lt_of_lt_of_le gl6 HB8.out.size; clear hown1 hgrow1))
      obtain ⟨gb, rfl, hgb1, hgb2, HGB⟩ : ∃ gb, a1 = some ⟨gb, 0, none⟩ ∧ w6.heap.size ≤ gb ∧ gb < w8.heap.size ∧ ∀ j (hj : j < col.length), ValCells w8 gb (j * 3) (col[j]'hj) := by
        rcases own_at (f := valC) (fun _ => rfl) OW1.out with ⟨e0, _⟩ | ⟨q, c, hv, _, h3, h4, H⟩
        · have := HCOL.out.2; rw [e0] at this; simp at this; omega
        · injection hv with hv; exact ⟨q, hv, h3, h4, fun j hj => ⟨H j hj 0 _ (by omega) rfl, H j hj 1 _ (by omega) rfl, H j hj 2 _ (by omega) rfl⟩⟩
      have FZ8 : ∀ j, w8.frozen? ⟨gb, j, none⟩ = false := by
        rcases OW1.out.2 with ⟨h0, _⟩ | ⟨g', cap, cur, h1, h2, h3, _⟩
        · cases h0
        · injection h1 with h1 _ _
          injection h1 with h1
          injection h1 with h1
          subst h1
          exact fun j => frozen_of_row w8 gb j _ _ h3
      have hlq : col.length ≤ q1 := by
        rcases OW1.out.2 with ⟨h0, _⟩ | ⟨g', cap, cur, h1, h2, h3, h4, _⟩
        · cases h0
        · injection h1 with _ _ h1
          rw [h1]; exact h4
      refine captureM ?_
      intro y ey
      have yK : y.cell? ⟨g, K, none⟩ = some (.slice (some ⟨gb, 0, none⟩) col.length q1) := by rw [ey]; simp (maxDischargeDepth := 9) [go_sem, *]
      have by2 : Below w2.heap.size w2 y := by rw [ey]; exact Below.st (B6.out.2.trans (HB8.out.mono B6.out.2.size)) hgb _
      have byw : Below w.heap.size w y := by rw [ey]; exact Below.st (B6.out.1.trans (HB8.out.mono B6.out.1.size)) gn2 _
      have yh : ∀ q, q ≠ g → y.heap[q]? = w8.heap[q]? := fun q hq => by rw [ey]; exact Below.heap_setCell _ _ _ _ hq
      have ys : y.heap.size = w8.heap.size := by rw [ey]; simp
      have yj : ∀ j, j ≠ K → y.cell? ⟨g, j, none⟩ = w8.cell? ⟨g, j, none⟩ := fun j hj => by rw [ey]; simp (maxDischargeDepth := 9) [go_sem, *]
      have s0 : y.cell? ⟨SB, 0, none⟩ = some (.slice ca nn cc) := (World.cell?_of_block (w := w8) (yh SB gn0.symm)).trans ((HB8.out.cell (p := ⟨SB, 0, none⟩) z8).trans c0)
      have s1 : y.cell? ⟨SB, 1, none⟩ = some (.int .i64 key) := (World.cell?_of_block (w := w8) (yh SB gn0.symm)).trans ((HB8.out.cell (p := ⟨SB, 1, none⟩) z8).trans c1)
      have zy : SB < y.heap.size := by rw [ys]; have := HB8.out.size; omega
      have gbg : gb ≠ g := by omega
      have GYc : ∀ o, y.cell? ⟨gb, o, none⟩ = w8.cell? ⟨gb, o, none⟩ := fun o => World.cell?_of_block (w := w8) (yh gb gbg)
      have GYf : ∀ o, y.frozen? ⟨gb, o, none⟩ = false := fun o => (World.frozen?_of_block (w := w8) (yh gb gbg)).trans (FZ8 o)
      have y0 : y.cell? ⟨w.heap.size + 1, 0, none⟩ = some (.bool vb) := (World.cell?_of_block (w := w8) (yh (w.heap.size + 1) gn1.symm)).trans ((HB8.out.cell (p := ⟨w.heap.size + 1, 0, none⟩) zv6).trans v0)
      have y1 : y.cell? ⟨w.heap.size + 1, 1, none⟩ = some (.int .i64 vi) := (World.cell?_of_block (w := w8) (yh (w.heap.size + 1) gn1.symm)).trans ((HB8.out.cell (p := ⟨w.heap.size + 1, 1, none⟩) zv6).trans v1)
      have y2 : y.cell? ⟨w.heap.size + 1, 2, none⟩ = some (.string vs) := (World.cell?_of_block (w := w8) (yh (w.heap.size + 1) gn1.symm)).trans ((HB8.out.cell (p := ⟨w.heap.size + 1, 2, none⟩) zv6).trans v2)
      have zvy : w.heap.size + 1 < y.heap.size := by rw [ys]; have := HB8.out.size; omega
      have gly : g < y.heap.size := by rw [ys]; exact gl10
      have gby : gb < y.heap.size := by rw [ys]; exact hgb2
      have hcp : 0 < col.length := by rw [HCOL.out.2]; omega
      obtain ⟨J, hJ⟩ : ∃ J : Nat, pickI (wrap64 (hw.tdiv 3)) (col.length : Int) = (J : Int) := ⟨(pickI (wrap64 (hw.tdiv 3)) (col.length : Int)).toNat, by have := pickI_bd (wrap64 (hw.tdiv 3)) (n := (col.length : Int)) (by omega); omega⟩
      have hJn : J < col.length := by have := pickI_bd (wrap64 (hw.tdiv 3)) (n := (col.length : Int)) (by omega); omega
      have hJn' : (J : Int) < (col.length : Int) := by omega
      have PK3 := Lib.hid (fun (W : World) => (by have h := pick_any (wrap64 (hw.tdiv 3)) (col.length : Int) (by omega) (by omega) W; rw [hJ] at h; exact h : Calls Try.prog 16 #[.int .i64 (wrap64 (hw.tdiv 3)), .int .i64 (col.length : Int)] W fun e w' => e = .returned (.int .i64 (J : Int)) ∧ W = w'))
      obtain ⟨g0, g1, g2⟩ := HGB J hJn
      have k0 := (GYc (J * 3)).trans g0
      have k1 := (GYc (J * 3 + 1)).trans g1
      have k2 := (GYc (J * 3 + 2)).trans g2
      have HY := Lib.hid (And.intro yh (And.intro ys (And.intro yj (And.intro GYc (And.intro HGB yK)))))
      clear hJ g0 g1 g2
      clear ey c0 c1 v0 v1 v2 zv6 hck hfz HCK HFK gl10 yh ys yj GYc HGB
      refine wp_region_ext_tail 14 (by kernel_rfl) (by kernel_rfl) ?_
      dsimp only [List.take, List.drop]
      repeat (go_big_quiet_step ((first | (go_at_call 16; refine Calls.mono (PK3.out _) ?_; rintro e w11 ⟨rfl, rfl⟩; exact ⟨rfl, _, rfl⟩))))
      refine wpQuiet_nil ?_
      rintro _ ⟨x10, rfl⟩
      go_upto_region 15 with fail
      refine captureM ?_
      intro y3 ey3
      have hyx := x10.below
      have hg2 : w2.heap.size ≤ gb := Nat.le_trans (B6.out.2.size) hgb1
      have hgw : w.heap.size ≤ gb := Nat.le_trans (B6.out.1.size) hgb1
      have ngS : SB ≠ gb := by have := KS.out; omega
      have h3 : ∀ q, q < y.heap.size → q ≠ gb → y3.heap[q]? = y.heap[q]? := fun q hq hne => by
        rw [ey3]
        exact ((Below.heap_setCell _ _ _ _ hne).trans ((Below.heap_setCell _ _ _ _ hne).trans (Below.heap_setCell _ _ _ _ hne))).trans (hyx.block q hq)
      have s3 : y.heap.size ≤ y3.heap.size := by rw [ey3]; simp only [World.size_setCell]; exact hyx.size
      have by3 : Below w2.heap.size w2 y3 := by rw [ey3]; exact Below.st (Below.st (Below.st (by2.trans (hyx.mono by2.size)) hg2 _) hg2 _) hg2 _
      have byw3 : Below w.heap.size w y3 := by rw [ey3]; exact Below.st (Below.st (Below.st (byw.trans (hyx.mono byw.size)) hgw _) hgw _) hgw _
      have gb3 : gb < y3.heap.size := Nat.lt_of_lt_of_le gby s3
      have VY : ValsAt y3 y3.heap.size (.slice (some ⟨gb, 0, none⟩) col.length q1) (col.set J ⟨vb, vi, vs⟩) := by
        refine vals_stored (w := w8) (W' := y3) (i := J) (by omega) hlq gb3 HY.out.2.2.2.2.1 (fun o h0 h1 h2 => ?_) ⟨?_, ?_, ?_⟩
        · exact (by rw [ey3]; simp (maxDischargeDepth := 9) [go_sem, *] : y3.cell? ⟨gb, o, none⟩ = y.cell? ⟨gb, o, none⟩).trans (HY.out.2.2.2.1 o)
        · rw [ey3]; simp (maxDischargeDepth := 9) [go_sem, *]
        · rw [ey3]; simp (maxDischargeDepth := 9) [go_sem, *]
        · rw [ey3]; simp (maxDischargeDepth := 9) [go_sem, *]
      have RN := Lib.hid (rows_changed (W' := y3) (k := K) HI6.out rfl (by rw [HLL.out]; exact hgc) gl6 (by rw [HCL.out]; omega) (by have := HY.out.2.1; have := HB8.out.size; omega) (fun q hq hne => (h3 q (by have := HY.out.2.1; have := HB8.out.size; omega) (by omega)).trans ((HY.out.1 q hne).trans (HB8.out.block q hq))) (fun j hj hne => (World.cell?_of_block (w := y) (h3 g gly gbg.symm)).trans ((HY.out.2.2.1 j hne).trans ((HB8.out.cell (p := ⟨g, j, none⟩) gl6).trans (HCE6.out j hj)))) ((World.cell?_of_block (w := y) (h3 g gly gbg.symm)).trans HY.out.2.2.2.2.2) VY)
      rw [HLL.out] at RN
      have m0 : y3.cell? ⟨SB, 0, none⟩ = some (.slice ca nn cc) := (World.cell?_of_block (w := y) (h3 SB zy ngS)).trans s0
      have m1 : y3.cell? ⟨SB, 1, none⟩ = some (.int .i64 key) := (World.cell?_of_block (w := y) (h3 SB zy ngS)).trans s1
      have zy3 : SB < y3.heap.size := Nat.lt_of_lt_of_le zy s3
      have AGF := Lib.hid (fun (W : World) (hb : Below y3.heap.size y3 W) => agrees_any (.slice ca nn cc) cs key (.slice pa np pc) ns (.slice (some ⟨g, 0, none⟩) nn gc) (cols.set K (col.set J ⟨vb, vi, vs⟩)) W (HC2.out.mono (by3.trans (hb.mono by3.size)) (by3.trans (hb.mono by3.size)).size) (HN2.out.mono (by3.trans (hb.mono by3.size)) (by3.trans (hb.mono by3.size)).size) (RN.out.mono hb hb.size))
      clear ey3 h3 s3 VY RN HY yK s0 s1 y0 y1 y2 zvy gly gby hcp hJn hJn' PK3 k0 k1 k2 hyx byw by2 GYf HB8 OW1 FZ8 zy
      clear x10
      go_wp2_with (first | (go_at_call 17; refine (awake25 _).mono ?_; rintro e w19 ⟨rfl, hb19⟩; obtain ⟨x19, rfl⟩ := Ext.of hb19; have z19 : SB < x19.it.heap.size := x19.lt (by simpa using zy3)) | (go_at_call 15; (with_reducible refine Calls.mono (AGF.out _ ?_) ?_); (focus (repeat (first | with_reducible exact Below.refl _ _ | with_reducible assumption | with_reducible refine Below.al ?_ _ | with_reducible refine Below.on ?_ _ | with_reducible refine Below.st ?_ (by first | assumption | (simp; done) | (simp; omega)) _ | with_reducible refine Below.drew ?_))); rintro e w20 ⟨rfl, hb20⟩; obtain ⟨x20, rfl⟩ := Ext.of hb20))
      exact bodyPost_ret (v := .bool true) (by simp [results, Try.results4, go_sem, *]) rfl (⟨rfl, by repeat (first | with_reducible exact Below.refl _ _ | with_reducible assumption | with_reducible refine Below.al ?_ _ | with_reducible refine Below.on ?_ _ | with_reducible refine Below.st ?_ (by first | assumption | (simp; done) | (simp; omega)) _ | with_reducible refine Below.drew ?_)⟩)
end Go.Proofs.Ytploieofmnlomaa
