/-
  PRUNEGENERATED: the walk. Conditions: none.
-/
import Derived.Test.YtfemekmkmiljdaaPex
import Derived.Test.YtfemekmkmiljdaaPzn
import Derived.Test.YtfemekmkmiljdaaKsc
import Derived.Test.YtfemekmkmiljdaaKpr
import Derived.Test.YtfemekmkmiljdaaOps
import Derived.BigRegion
set_option linter.unusedVariables false
set_option linter.unusedSimpArgs false
namespace Go.Proofs.Ytfemekmkmiljdaa
open Go.RowKit Go.ChangeShapes Go.WideShapes Go.ChangeAt
theorem own_baseZ {w : World} {base base' : Nat} {e : TypeId} {size : Nat} {v : Value} {n : Nat} {xs : List Value} (h : w.ownsRow base e size v n xs) (hb : base' ≤ base) : w.ownsRow base' e size v n xs := by
  refine ⟨h.1, h.2.imp id ?_⟩
  rintro ⟨g, cap, cur, h1, h2, h3, h4⟩
  exact ⟨g, cap, cur, h1, Nat.le_trans hb h2, h3, h4⟩
theorem zons_changed {w W' : World} {g c K : Nat} {zs : List Zon} {z : Zon} {n : Nat} (hn : zs.length = n) (hc : n ≤ c) (hb : g < W'.heap.size) (h63 : n ≤ 9223372036854775807) (h : ∀ j (hj : j < zs.length), ZonCells w g (j * 8) (zs[j]'hj))
    (same : ∀ o, (o < K * 8 ∨ K * 8 + 8 ≤ o) → W'.cell? ⟨g, o, none⟩ = w.cell? ⟨g, o, none⟩) (new : ZonCells W' g (K * 8) z) : ZonsAt W' W'.heap.size (.slice (some ⟨g, 0, none⟩) n c) (zs.set K z) := by
  refine ⟨by rw [List.length_set, hn]; exact h63, .inr ⟨g, 0, c, by rw [List.length_set, hn], by rw [List.length_set, hn]; exact hc, hb, fun j hj => ?_⟩⟩
  rw [List.length_set] at hj
  rw [Nat.zero_add]
  by_cases e : j = K
  · subst e; rw [List.getElem_set_self]; exact new
  · rw [List.getElem_set_ne (Ne.symm e)]
    obtain ⟨h0, h1, h2, h3, h4, h5, h6, h7⟩ := h j hj
    exact ⟨(same _ (by omega)).trans h0, (same _ (by omega)).trans h1, (same _ (by omega)).trans h2, (same _ (by omega)).trans h3, (same _ (by omega)).trans h4, (same _ (by omega)).trans h5, (same _ (by omega)).trans h6, (same _ (by omega)).trans h7⟩
theorem drew_heap (W : World) : W.drew.heap = W.heap := rfl
theorem zons_take {w : World} {B : Nat} {a : Option Addr} {n c K : Nat} {zs : List Zon} (h : ZonsAt w B (.slice a n c) zs) (hn : zs.length = n) (hK : K ≤ n) : ZonsAt w B (sliced a 0 K c 8) (zs.take K) := by
  have h9 := h.1
  have hl : (zs.take K).length = K := by simp; omega
  have e : (sliced a 0 K c 8) = .slice a K c := by
    unfold sliced
    by_cases q : c = 0
    · simp [q]
    · rw [if_neg q]; cases a <;> simp [Addr.add]
  rw [e]
  refine ⟨by rw [hl]; omega, ?_⟩
  rcases h.2 with ⟨e0, a', c', e1⟩ | ⟨b, o, c', hv, hc, hb, hr⟩
  · subst e0
    simp at hn
    subst hn
    obtain rfl : K = 0 := by omega
    exact .inl ⟨rfl, _, _, rfl⟩
  · injection hv with e1 e2 e3
    subst e1 e3
    exact .inr ⟨b, o, c, by rw [hl], by rw [hl]; omega, hb, fun j hj => by
      have hj' : j < zs.length := by rw [hl] at hj; omega
      rw [List.getElem_take]; exact hr j hj'⟩
theorem run_zons_h {a : Option Addr} {n c K : Nat} (hK : K ≤ c) (W : World) : (Instr.slice 31 (.slice a n c) none (some (.int .i64 (K : Int))) none).run Try.prog W = .ok (sliced a 0 K c 8) W := by
  have ht : Try.prog.underlying 31 = some (.slice (Try.prog.elem 31)) := by kernel_rfl
  have he : Try.prog.elem 31 = 46 := by kernel_rfl
  obtain ⟨i1, hj, hy0, hy1, hy2⟩ := info_parts infoZon
  rw [run_slice_h (ht := ht) (h0 := by omega) (h2 := by omega), he]
  simp [sizeOf, typeInfo, hj, hy1, Result.andThen]
set_option maxRecDepth 8000 in
set_option maxHeartbeats 2000000 in
theorem pge_walk (vx vl vm : Value) (zx zl zm : List Int) (hw at' : Int) (w : World) (h0 : IntsAt w w.heap.size vx zx) (h1 : IntsAt w w.heap.size vl zl) (h2 : IntsAt w w.heap.size vm zm) :
    Calls Try.prog 5 #[vx, vl, vm, .int .i64 hw, .int .i64 at'] w fun e w' => e = .returned (.bool true) ∧ Below w.heap.size w w' := by
  have H0 := Lib.hid h0
  have H1 := Lib.hid h1
  have H2 := Lib.hid h2
  clear h0 h1 h2
  go_enter Try.func5, Try.ntmps5
  go_upto_region 2 with (go_at_call 14; refine (keepSchema_any _ _ _ H0.out).mono ?_; rintro e w1 ⟨cv, cs, key, rfl, hc1, hs1, hl1, hb1⟩; obtain ⟨x1, rfl⟩ := Ext.of hb1; obtain ⟨ca, cc, rfl⟩ := cols_end hc1; obtain ⟨nn, hnn⟩ : ∃ nn, cs.length = nn := ⟨_, rfl⟩; rw [hnn] at hc1 hl1 ⊢; have HNN := Lib.hid hnn; clear hnn)
  refine captureM ?_
  intro y ey
  have yb1 : Below x1.it.heap.size x1.it y := by rw [ey]; exact (by repeat (first | with_reducible exact Below.refl _ _ | with_reducible assumption | with_reducible refine Below.al ?_ _ | with_reducible refine Below.on ?_ _ | with_reducible refine Below.st ?_ (by first | assumption | (simp; done) | (simp; omega)) _ | with_reducible refine Below.drew ?_))
  have yb : Below w.heap.size w y := by rw [ey]; exact (by repeat (first | with_reducible exact Below.refl _ _ | with_reducible assumption | with_reducible refine Below.al ?_ _ | with_reducible refine Below.on ?_ _ | with_reducible refine Below.st ?_ (by first | assumption | (simp; done) | (simp; omega)) _ | with_reducible refine Below.drew ?_))
  have z0 : x1.it.heap.size < y.heap.size := by rw [ey]; simp
  have s0 : y.cell? ⟨x1.it.heap.size, 0, none⟩ = some (.slice ca nn cc) := by rw [ey]; simp (maxDischargeDepth := 9) [go_sem, *]
  have s1 : y.cell? ⟨x1.it.heap.size, 1, none⟩ = some (.int .i64 key) := by rw [ey]; simp (maxDischargeDepth := 9) [go_sem, *]
  have HC := Lib.hid (hc1.mono yb1 yb1.size)
  have HS := Lib.hid hs1
  have I1 := Lib.hid ((H1.out.to fun k hk => yb.block k hk).mono yb.size)
  clear ey hc1 hs1 hb1 yb1 H0 H1
  generalize x1.it.heap.size = SB at *
  clear x1
  go_upto_region 3 with (go_at_call 19; refine Calls.mono (kpred_any _ cs key vl zl _ HC.out I1.out HS.out) ?_; rintro e w2 ⟨pv, ns, rfl, hn2, hp2, hl2, hb2⟩; obtain ⟨pa, pc, rfl⟩ := nods_end hn2; obtain ⟨np, hnp⟩ : ∃ np, ns.length = np := ⟨_, rfl⟩; rw [hnp] at hn2 hl2 ⊢; have HN2 := Lib.hid hn2; have HB2 := Lib.hid hb2; have t0 := (hb2.cell (p := ⟨SB, 0, none⟩) z0).trans s0; have t1 := (hb2.cell (p := ⟨SB, 1, none⟩) z0).trans s1; have z2 := Nat.lt_of_lt_of_le z0 hb2.size; clear hn2 hp2 hnp)
  have HC2 := Lib.hid (HC.out.mono HB2.out HB2.out.size)
  have yb2 : Below w.heap.size w w2 := yb.trans (HB2.out.mono yb.size)
  have J2 := Lib.hid ((H2.out.to fun k hk => yb2.block k hk).mono yb2.size)
  have SP := Lib.hid (schema_parts HS.out)
  clear s0 s1 z0 hb2 I1 H2
  go_region_held3 (fun w' => w'.cell? ⟨SB, 0, none⟩ = some (.slice ca nn cc) ∧ w'.cell? ⟨SB, 1, none⟩ = some (.int .i64 key)) (first | exact ⟨by assumption, by assumption⟩ | (refine ⟨?_, ?_⟩ <;> simp [go_sem, *]))
    (first | (go_at_call 18; refine Calls.mono (rows_any _ cs key vm zm 6 _ (HC2.out.mono (by repeat (first | with_reducible exact Below.refl _ _ | with_reducible assumption | with_reducible refine Below.al ?_ _ | with_reducible refine Below.on ?_ _ | with_reducible refine Below.st ?_ (by first | assumption | (simp; done) | (simp; omega)) _ | with_reducible refine Below.drew ?_)) (by simp)) ((J2.out.to fun k hk => Below.block (B := w2.heap.size) (by repeat (first | with_reducible exact Below.refl _ _ | with_reducible assumption | with_reducible refine Below.al ?_ _ | with_reducible refine Below.on ?_ _ | with_reducible refine Below.st ?_ (by first | assumption | (simp; done) | (simp; omega)) _ | with_reducible refine Below.drew ?_)) k hk).mono (by simp)) (by decide) (by decide) SP.out.1 SP.out.2.2.1) ?_; rintro e w3 ⟨rv, rows, rfl, hr3, hl3, hv3, hb3⟩; obtain ⟨x3, rfl⟩ := Ext.of hb3; obtain ⟨ra, rc, rfl⟩ := rows_end hr3; have HR3 := Lib.hid hr3; have HV3 := Lib.hid hv3; have HL3 := Lib.hid hl3; clear hr3 hv3 hl3; have z3 : SB < x3.it.heap.size := x3.lt (by simpa using z2); have p0 : x3.it.cell? ⟨SB, 0, none⟩ = some (.slice ca nn cc) := (x3.cell SB 0 (by simpa using z2)).trans t0; have p1 : x3.it.cell? ⟨SB, 1, none⟩ = some (.int .i64 key) := (x3.cell SB 1 (by simpa using z2)).trans t1) | (go_at_call 17; refine Calls.mono (zones_any _ cs key _ rows _ (HC2.out.mono (by repeat (first | with_reducible exact Below.refl _ _ | with_reducible assumption | with_reducible refine Below.al ?_ _ | with_reducible refine Below.on ?_ _ | with_reducible refine Below.st ?_ (by first | assumption | (simp; done) | (simp; omega)) _ | with_reducible refine Below.drew ?_)) (by simpa using x3.below.size)) (HR3.out.mono (by repeat (first | with_reducible exact Below.refl _ _ | with_reducible assumption | with_reducible refine Below.al ?_ _ | with_reducible refine Below.on ?_ _ | with_reducible refine Below.st ?_ (by first | assumption | (simp; done) | (simp; omega)) _ | with_reducible refine Below.drew ?_)) (by simp)) SP.out.2.2.1 (by have := HL3.out; omega) (fun r hr => (HV3.out r hr).1)) ?_; rintro e w4 ⟨colv, rfl, ho4, hb4⟩; obtain ⟨x4, rfl⟩ := Ext.of hb4; have HB4 : Hid (w2.heap.size ≤ _) := Lib.hid (show w2.heap.size ≤ x3.it.heap.size by simpa using x3.below.size); have HO4 := Lib.hid (own_baseZ ho4 (show w2.heap.size ≤ _ by have := HB4.out; simp; omega)); clear ho4; have z4 : SB < x4.it.heap.size := x4.lt (by simpa using z3); have r0 : x4.it.cell? ⟨SB, 0, none⟩ = some (.slice ca nn cc) := (x4.cell SB 0 (by simpa using z3)).trans p0; have r1 : x4.it.cell? ⟨SB, 1, none⟩ = some (.int .i64 key) := (x4.cell SB 1 (by simpa using z3)).trans p1))
  have b4 : Below w2.heap.size w2 x4.it := by repeat (first | with_reducible exact Below.refl _ _ | with_reducible assumption | with_reducible refine Below.al ?_ _ | with_reducible refine Below.on ?_ _ | with_reducible refine Below.st ?_ (by first | assumption | (simp; done) | (simp; omega)) _ | with_reducible refine Below.drew ?_)
  have B4 : Below w.heap.size w x4.it := yb2.trans (b4.mono yb2.size)
  have HC4 := Lib.hid (HC2.out.mono b4 b4.size)
  have HN4 := Lib.hid (HN2.out.mono b4 b4.size)
  have CL : (zonsOf cs rows).length = nn := by unfold zonsOf; rw [zonsK_len, HNN.out]
  have HOc := HO4.out
  rw [HNN.out] at HOc
  obtain ⟨zs, hzs⟩ : ∃ q, zonsOf cs rows = q := ⟨_, rfl⟩
  rw [hzs] at CL HOc
  have NN1 : 1 ≤ nn := by rw [← HNN.out]; exact SP.out.2.1
  have NN12 : nn ≤ 12 := by rw [← HNN.out]; exact SP.out.2.2.1
  obtain ⟨g, gc, rfl, hgc, hgb, hgl, hcells⟩ : ∃ g c, colv = .slice (some ⟨g, 0, none⟩) nn c ∧ nn ≤ c ∧ w2.heap.size ≤ g ∧ g < x4.it.heap.size ∧ ∀ j (hj : j < zs.length), ZonCells x4.it g (j * 8) (zs[j]'hj) := by
    rcases own_at (f := zonC) (k := 8) (fun _ => rfl) (by rw [CL]; exact HOc) with ⟨e0, _⟩ | ⟨g, c, hv, hc, hb, hg, H⟩
    · rw [e0] at CL; simp at CL; omega
    · exact ⟨g, c, by rw [hv, CL], by rw [← CL]; exact hc, hb, hg, fun j hj => ⟨H j hj 0 _ (by omega) rfl, H j hj 1 _ (by omega) rfl, H j hj 2 _ (by omega) rfl, H j hj 3 _ (by omega) rfl, H j hj 4 _ (by omega) rfl, H j hj 5 _ (by omega) rfl, H j hj 6 _ (by omega) rfl, H j hj 7 _ (by omega) rfl⟩⟩
  have FZ : ∀ j, x4.it.frozen? ⟨g, j, none⟩ = false := by
    rcases HOc.2 with ⟨h0, _⟩ | ⟨g', cap, cur, h1, h2, h3, _⟩
    · cases h0
    · injection h1 with h1 _ _
      injection h1 with h1
      injection h1 with h1
      subst h1
      exact fun j => frozen_of_row x4.it g j _ _ h3
  have HZ4 : Hid (ZonsAt x4.it x4.it.heap.size (.slice (some ⟨g, 0, none⟩) nn gc) zs) := Lib.hid (own_zons (by omega) (by rw [CL]; exact HOc))
  have HCE := Lib.hid hcells
  have HZL := Lib.hid CL
  have HFZ := Lib.hid FZ
  have HB := Lib.hid (And.intro B4 b4)
  have KS : Hid (SB < w2.heap.size) := Lib.hid z2
  clear HR3 HV3 HL3 z3 p0 p1 HO4 HOc hb4 HB4 hb3 hzs hcells CL FZ b4 B4 HB2 J2 t0 t1 z2
  generalize x4.it = w4 at *
  clear x4
  clear x3
  have AG1 := Lib.hid (fun (W : World) (hb : Below w4.heap.size w4 W) => agrees24_any (.slice ca nn cc) cs key (.slice pa np pc) ns (.slice (some ⟨g, 0, none⟩) nn gc) zs W (HC4.out.mono hb hb.size) (HN4.out.mono hb hb.size) (HZ4.out.mono hb hb.size))
  go_upto_region 6 with (go_at_call 16; (with_reducible refine Calls.mono (AG1.out _ ?_) ?_); (focus (repeat (first | with_reducible exact Below.refl _ _ | with_reducible assumption | with_reducible refine Below.al ?_ _ | with_reducible refine Below.on ?_ _ | with_reducible refine Below.st ?_ (by first | assumption | (simp; done) | (simp; omega)) _ | with_reducible refine Below.drew ?_))); rintro e w5 ⟨rfl, hb5⟩; obtain ⟨x5, rfl⟩ := Ext.of hb5; have z5 : SB < x5.it.heap.size := x5.lt z4)
  have b6 : Below w4.heap.size w4 x5.it := x5.below
  have c0 : x5.it.cell? ⟨SB, 0, none⟩ = some (.slice ca nn cc) := (b6.cell (p := ⟨SB, 0, none⟩) z4).trans r0
  have c1 : x5.it.cell? ⟨SB, 1, none⟩ = some (.int .i64 key) := (b6.cell (p := ⟨SB, 1, none⟩) z4).trans r1
  have gl6 : g < x5.it.heap.size := by have := b6.size; omega
  have gn0 : g ≠ SB := by have := KS.out; omega
  have gn2 : w.heap.size ≤ g := by have := yb2.size; omega
  have HZ6 := Lib.hid (HZ4.out.mono b6 b6.size)
  have HCE6 : Hid (∀ j (hj : j < zs.length), ZonCells x5.it g (j * 8) (zs[j]'hj)) := Lib.hid fun j hj => (HCE.out j hj).to fun q => b6.cell (p := ⟨g, q, none⟩) hgl
  have HFZ6 : Hid (∀ j, x5.it.frozen? ⟨g, j, none⟩ = false) := Lib.hid fun j => (b6.frozen (p := ⟨g, j, none⟩) hgl).trans (HFZ.out j)
  have B6 := Lib.hid (And.intro (HB.out.1.trans (b6.mono HB.out.1.size)) (HB.out.2.trans (b6.mono HB.out.2.size)))
  clear r0 r1 z4 AG1 hb5 HC4 HN4 HZ4 HCE HFZ HB b6 hgl yb yb2
  generalize x5.it = w6 at *
  clear x5
  obtain ⟨K, hK⟩ : ∃ K : Nat, pickI at' (nn : Int) = (K : Int) := ⟨(pickI at' (nn : Int)).toNat, by have := pickI_bd at' (n := (nn : Int)) (by omega); omega⟩
  have hKn : K < nn := by have := pickI_bd at' (n := (nn : Int)) (by omega); omega
  have hKn' : (K : Int) < (nn : Int) := by omega
  have PK1 := Lib.hid (fun (W : World) => (by have h := pick_any at' (nn : Int) (by omega) (by omega) W; rw [hK] at h; exact h : Calls Try.prog 20 #[.int .i64 at', .int .i64 (nn : Int)] W fun e w' => e = .returned (.int .i64 (K : Int)) ∧ W = w'))
  have hP := pickI_bd hw (n := 4) (by omega)
  obtain ⟨P, hPP⟩ : ∃ P, pickI hw 4 = P := ⟨_, rfl⟩
  have PK2 := Lib.hid (fun (W : World) => (by have h := pick_any hw 4 (by omega) (by omega) W; rw [hPP] at h; exact h : Calls Try.prog 20 #[.int .i64 hw, .int .i64 4] W fun e w' => e = .returned (.int .i64 P) ∧ W = w'))
  rw [hPP] at hP
  clear hK hPP
  have hKl : K < zs.length := by rw [HZL.out]; exact hKn
  obtain ⟨⟨zr, zn, ⟨an, a, sa⟩, ⟨bn, b, sb⟩⟩, hzk⟩ : ∃ z, zs[K]'hKl = z := ⟨_, rfl⟩
  have hck := HCE6.out K hKl
  rw [hzk] at hck
  obtain ⟨k0, k1, k2, k3, k4, k5, k6, k7⟩ := hck
  dsimp only at k0 k1 k2 k3 k4 k5 k6 k7
  have hfz := HFZ6.out
  clear hzk
  rcases (show P = 0 ∨ P = 1 ∨ P = 2 ∨ P = 3 by omega) with rfl | rfl | rfl | rfl
  · clear hP
    have RT := Lib.hid (zons_take HZ6.out HZL.out (Nat.le_of_lt hKn))
    obtain ⟨sT, hsT⟩ : ∃ sT, sliced (some ⟨g, 0, none⟩) 0 K gc 8 = sT := ⟨_, rfl⟩
    have slT : ∀ W : World, (Instr.slice 31 (.slice (some ⟨g, 0, none⟩) nn gc) none (some (.int .i64 (K : Int))) none).run Try.prog W = .ok sT W := fun W => by rw [← hsT]; exact run_zons_h (by omega) W
    rw [hsT] at RT
    have by2 := B6.out.2
    have zy := z5
    have AGF := Lib.hid (fun (W : World) (hb : Below w6.heap.size w6 W) => agrees24_any (.slice ca nn cc) cs key (.slice pa np pc) ns sT (zs.take K) W (HC2.out.mono (by2.trans (hb.mono by2.size)) (by2.trans (hb.mono by2.size)).size) (HN2.out.mono (by2.trans (hb.mono by2.size)) (by2.trans (hb.mono by2.size)).size) (RT.out.mono hb hb.size))
    have byw := B6.out.1
    clear hsT by2
    go_wp2_with (first | (go_at_call 20; (with_reducible refine Calls.mono (PK1.out _) ?_); rintro e w7 ⟨rfl, rfl⟩) | (go_at_call 20; (with_reducible refine Calls.mono (PK2.out _) ?_); rintro e w7 ⟨rfl, rfl⟩) | (go_at_call 15; refine (awake24 _).mono ?_; rintro e w19 ⟨rfl, hb19⟩; obtain ⟨x19, rfl⟩ := Ext.of hb19; have z19 : SB < x19.it.heap.size := x19.lt (by simpa using zy)) | (go_at_call 16; (with_reducible refine Calls.mono (AGF.out _ ?_) ?_); (focus (repeat (first | with_reducible exact Below.refl _ _ | with_reducible assumption | with_reducible refine Below.al ?_ _ | with_reducible refine Below.on ?_ _ | with_reducible refine Below.st ?_ (by first | assumption | (simp; done) | (simp; omega)) _ | with_reducible refine Below.drew ?_))); rintro e w20 ⟨rfl, hb20⟩; obtain ⟨x20, rfl⟩ := Ext.of hb20))
    exact bodyPost_ret (v := .bool true) (by simp [results, Try.results5, go_sem, *]) rfl (⟨rfl, by repeat (first | with_reducible exact Below.refl _ _ | with_reducible assumption | with_reducible refine Below.al ?_ _ | with_reducible refine Below.on ?_ _ | with_reducible refine Below.st ?_ (by first | assumption | (simp; done) | (simp; omega)) _ | with_reducible refine Below.drew ?_)⟩)
  · clear hP
    go_upto_region 15 with (first | (go_at_call 20; (with_reducible refine Calls.mono (PK1.out _) ?_); rintro e w7 ⟨rfl, rfl⟩) | (go_at_call 20; (with_reducible refine Calls.mono (PK2.out _) ?_); rintro e w7 ⟨rfl, rfl⟩))
    refine captureM ?_
    intro y ey
    have by2 : Below w2.heap.size w2 y := by rw [ey]; exact (Below.st B6.out.2 hgb _)
    have byw : Below w.heap.size w y := by rw [ey]; exact (Below.st B6.out.1 gn2 _)
    have ys : y.heap.size = w6.heap.size := by rw [ey]; simp
    have yh : ∀ q, q ≠ g → y.heap[q]? = w6.heap[q]? := fun q hq => by rw [ey]; exact (Below.heap_setCell _ _ _ _ hq)
    have s0 : y.cell? ⟨SB, 0, none⟩ = some (.slice ca nn cc) := (World.cell?_of_block (w := w6) (yh SB gn0.symm)).trans c0
    have s1 : y.cell? ⟨SB, 1, none⟩ = some (.int .i64 key) := (World.cell?_of_block (w := w6) (yh SB gn0.symm)).trans c1
    have zy : SB < y.heap.size := by rw [ys]; exact z5
    have RN : Hid (ZonsAt y y.heap.size (.slice (some ⟨g, 0, none⟩) nn gc) (zs.set K ⟨wrap64 (zr + 1), zn, ⟨an, a, sa⟩, ⟨bn, b, sb⟩⟩)) := Lib.hid (zons_changed (w := w6) (W' := y) HZL.out hgc (by rw [ys]; exact gl6) (by omega) (fun j hj => HCE6.out j hj) (fun o ho => by rw [ey]; simp (maxDischargeDepth := 9) [go_sem, *] <;> omega) ⟨by rw [ey]; simp (maxDischargeDepth := 9) [go_sem, *], by rw [ey]; simp (maxDischargeDepth := 9) [go_sem, *], by rw [ey]; simp (maxDischargeDepth := 9) [go_sem, *], by rw [ey]; simp (maxDischargeDepth := 9) [go_sem, *], by rw [ey]; simp (maxDischargeDepth := 9) [go_sem, *], by rw [ey]; simp (maxDischargeDepth := 9) [go_sem, *], by rw [ey]; simp (maxDischargeDepth := 9) [go_sem, *], by rw [ey]; simp (maxDischargeDepth := 9) [go_sem, *]⟩)
    have AGF := Lib.hid (fun (W : World) (hb : Below y.heap.size y W) => agrees24_any (.slice ca nn cc) cs key (.slice pa np pc) ns (.slice (some ⟨g, 0, none⟩) nn gc) (zs.set K ⟨wrap64 (zr + 1), zn, ⟨an, a, sa⟩, ⟨bn, b, sb⟩⟩) W (HC2.out.mono (by2.trans (hb.mono by2.size)) (by2.trans (hb.mono by2.size)).size) (HN2.out.mono (by2.trans (hb.mono by2.size)) (by2.trans (hb.mono by2.size)).size) (RN.out.mono hb hb.size))
    clear ey RN yh k0 k1 k2 k3 k4 k5 k6 k7 c0 c1 hfz
    go_wp2_with (first | (go_at_call 15; refine (awake24 _).mono ?_; rintro e w19 ⟨rfl, hb19⟩; obtain ⟨x19, rfl⟩ := Ext.of hb19; have z19 : SB < x19.it.heap.size := x19.lt (by simpa using zy)) | (go_at_call 16; (with_reducible refine Calls.mono (AGF.out _ ?_) ?_); (focus (repeat (first | with_reducible exact Below.refl _ _ | with_reducible assumption | with_reducible refine Below.al ?_ _ | with_reducible refine Below.on ?_ _ | with_reducible refine Below.st ?_ (by first | assumption | (simp; done) | (simp; omega)) _ | with_reducible refine Below.drew ?_))); rintro e w20 ⟨rfl, hb20⟩; obtain ⟨x20, rfl⟩ := Ext.of hb20))
    exact bodyPost_ret (v := .bool true) (by simp [results, Try.results5, go_sem, *]) rfl (⟨rfl, by repeat (first | with_reducible exact Below.refl _ _ | with_reducible assumption | with_reducible refine Below.al ?_ _ | with_reducible refine Below.on ?_ _ | with_reducible refine Below.st ?_ (by first | assumption | (simp; done) | (simp; omega)) _ | with_reducible refine Below.drew ?_)⟩)
  · clear hP
    go_upto_region 14 with (first | (go_at_call 20; (with_reducible refine Calls.mono (PK1.out _) ?_); rintro e w7 ⟨rfl, rfl⟩) | (go_at_call 20; (with_reducible refine Calls.mono (PK2.out _) ?_); rintro e w7 ⟨rfl, rfl⟩))
    go_region
    go_upto_region 15 with fail
    refine captureM ?_
    intro y ey
    have by2 : Below w2.heap.size w2 y := by rw [ey]; repeat (first | with_reducible exact B6.out.2 | with_reducible refine Below.drew ?_ | with_reducible refine Below.st ?_ hgb _)
    have byw : Below w.heap.size w y := by rw [ey]; repeat (first | with_reducible exact B6.out.1 | with_reducible refine Below.drew ?_ | with_reducible refine Below.st ?_ gn2 _)
    have ys : y.heap.size = w6.heap.size := by rw [ey]; simp
    have yh : ∀ q, q ≠ g → y.heap[q]? = w6.heap[q]? := fun q hq => by rw [ey, drew_heap]; exact ((Below.heap_setCell _ _ _ _ hq).trans ((Below.heap_setCell _ _ _ _ hq).trans ((Below.heap_setCell _ _ _ _ hq).trans ((Below.heap_setCell _ _ _ _ hq).trans ((Below.heap_setCell _ _ _ _ hq).trans (Below.heap_setCell _ _ _ _ hq))))))
    have s0 : y.cell? ⟨SB, 0, none⟩ = some (.slice ca nn cc) := (World.cell?_of_block (w := w6) (yh SB gn0.symm)).trans c0
    have s1 : y.cell? ⟨SB, 1, none⟩ = some (.int .i64 key) := (World.cell?_of_block (w := w6) (yh SB gn0.symm)).trans c1
    have zy : SB < y.heap.size := by rw [ys]; exact z5
    have RN : Hid (ZonsAt y y.heap.size (.slice (some ⟨g, 0, none⟩) nn gc) (zs.set K ⟨zr, zn, ⟨bn, b, sb⟩, ⟨an, a, sa⟩⟩)) := Lib.hid (zons_changed (w := w6) (W' := y) HZL.out hgc (by rw [ys]; exact gl6) (by omega) (fun j hj => HCE6.out j hj) (fun o ho => by rw [ey]; simp (maxDischargeDepth := 9) [go_sem, *] <;> omega) ⟨by rw [ey]; simp (maxDischargeDepth := 9) [go_sem, *], by rw [ey]; simp (maxDischargeDepth := 9) [go_sem, *], by rw [ey]; simp (maxDischargeDepth := 9) [go_sem, *], by rw [ey]; simp (maxDischargeDepth := 9) [go_sem, *], by rw [ey]; simp (maxDischargeDepth := 9) [go_sem, *], by rw [ey]; simp (maxDischargeDepth := 9) [go_sem, *], by rw [ey]; simp (maxDischargeDepth := 9) [go_sem, *], by rw [ey]; simp (maxDischargeDepth := 9) [go_sem, *]⟩)
    have AGF := Lib.hid (fun (W : World) (hb : Below y.heap.size y W) => agrees24_any (.slice ca nn cc) cs key (.slice pa np pc) ns (.slice (some ⟨g, 0, none⟩) nn gc) (zs.set K ⟨zr, zn, ⟨bn, b, sb⟩, ⟨an, a, sa⟩⟩) W (HC2.out.mono (by2.trans (hb.mono by2.size)) (by2.trans (hb.mono by2.size)).size) (HN2.out.mono (by2.trans (hb.mono by2.size)) (by2.trans (hb.mono by2.size)).size) (RN.out.mono hb hb.size))
    clear ey RN yh k0 k1 k2 k3 k4 k5 k6 k7 c0 c1 hfz
    go_wp2_with (first | (go_at_call 15; refine (awake24 _).mono ?_; rintro e w19 ⟨rfl, hb19⟩; obtain ⟨x19, rfl⟩ := Ext.of hb19; have z19 : SB < x19.it.heap.size := x19.lt (by simpa using zy)) | (go_at_call 16; (with_reducible refine Calls.mono (AGF.out _ ?_) ?_); (focus (repeat (first | with_reducible exact Below.refl _ _ | with_reducible assumption | with_reducible refine Below.al ?_ _ | with_reducible refine Below.on ?_ _ | with_reducible refine Below.st ?_ (by first | assumption | (simp; done) | (simp; omega)) _ | with_reducible refine Below.drew ?_))); rintro e w20 ⟨rfl, hb20⟩; obtain ⟨x20, rfl⟩ := Ext.of hb20))
    exact bodyPost_ret (v := .bool true) (by simp [results, Try.results5, go_sem, *]) rfl (⟨rfl, by repeat (first | with_reducible exact Below.refl _ _ | with_reducible assumption | with_reducible refine Below.al ?_ _ | with_reducible refine Below.on ?_ _ | with_reducible refine Below.st ?_ (by first | assumption | (simp; done) | (simp; omega)) _ | with_reducible refine Below.drew ?_)⟩)
  · clear hP
    obtain ⟨Q, hQ⟩ : ∃ Q, pickI (wrap64 (hw.tdiv 4)) 5 = Q := ⟨_, rfl⟩
    have hQb := pickI_bd (wrap64 (hw.tdiv 4)) (n := 5) (by omega)
    have PK3 := Lib.hid (fun (W : World) => (by have h := pick_any (wrap64 (hw.tdiv 4)) 5 (by omega) (by omega) W; rw [hQ] at h; exact h : Calls Try.prog 20 #[.int .i64 (wrap64 (hw.tdiv 4)), .int .i64 5] W fun e w' => e = .returned (.int .i64 Q) ∧ W = w'))
    rw [hQ] at hQb
    clear hQ
    go_upto_region 15 with (first | (go_at_call 20; (with_reducible refine Calls.mono (PK1.out _) ?_); rintro e w7 ⟨rfl, rfl⟩) | (go_at_call 20; (with_reducible refine Calls.mono (PK2.out _) ?_); rintro e w7 ⟨rfl, rfl⟩) | (go_at_call 20; (with_reducible refine Calls.mono (PK3.out _) ?_); rintro e w7 ⟨rfl, rfl⟩))
    refine captureM ?_
    intro y ey
    have by2 : Below w2.heap.size w2 y := by rw [ey]; exact (Below.st B6.out.2 hgb _)
    have byw : Below w.heap.size w y := by rw [ey]; exact (Below.st B6.out.1 gn2 _)
    have ys : y.heap.size = w6.heap.size := by rw [ey]; simp
    have yh : ∀ q, q ≠ g → y.heap[q]? = w6.heap[q]? := fun q hq => by rw [ey]; exact (Below.heap_setCell _ _ _ _ hq)
    have s0 : y.cell? ⟨SB, 0, none⟩ = some (.slice ca nn cc) := (World.cell?_of_block (w := w6) (yh SB gn0.symm)).trans c0
    have s1 : y.cell? ⟨SB, 1, none⟩ = some (.int .i64 key) := (World.cell?_of_block (w := w6) (yh SB gn0.symm)).trans c1
    have zy : SB < y.heap.size := by rw [ys]; exact z5
    have RN : Hid (ZonsAt y y.heap.size (.slice (some ⟨g, 0, none⟩) nn gc) (zs.set K ⟨zr, Q - 1, ⟨an, a, sa⟩, ⟨bn, b, sb⟩⟩)) := Lib.hid (zons_changed (w := w6) (W' := y) HZL.out hgc (by rw [ys]; exact gl6) (by omega) (fun j hj => HCE6.out j hj) (fun o ho => by rw [ey]; simp (maxDischargeDepth := 9) [go_sem, *] <;> omega) ⟨by rw [ey]; simp (maxDischargeDepth := 9) [go_sem, *], by rw [ey]; simp (maxDischargeDepth := 9) [go_sem, *], by rw [ey]; simp (maxDischargeDepth := 9) [go_sem, *], by rw [ey]; simp (maxDischargeDepth := 9) [go_sem, *], by rw [ey]; simp (maxDischargeDepth := 9) [go_sem, *], by rw [ey]; simp (maxDischargeDepth := 9) [go_sem, *], by rw [ey]; simp (maxDischargeDepth := 9) [go_sem, *], by rw [ey]; simp (maxDischargeDepth := 9) [go_sem, *]⟩)
    have AGF := Lib.hid (fun (W : World) (hb : Below y.heap.size y W) => agrees24_any (.slice ca nn cc) cs key (.slice pa np pc) ns (.slice (some ⟨g, 0, none⟩) nn gc) (zs.set K ⟨zr, Q - 1, ⟨an, a, sa⟩, ⟨bn, b, sb⟩⟩) W (HC2.out.mono (by2.trans (hb.mono by2.size)) (by2.trans (hb.mono by2.size)).size) (HN2.out.mono (by2.trans (hb.mono by2.size)) (by2.trans (hb.mono by2.size)).size) (RN.out.mono hb hb.size))
    clear ey RN yh k0 k1 k2 k3 k4 k5 k6 k7 c0 c1 hfz
    go_wp2_with (first | (go_at_call 15; refine (awake24 _).mono ?_; rintro e w19 ⟨rfl, hb19⟩; obtain ⟨x19, rfl⟩ := Ext.of hb19; have z19 : SB < x19.it.heap.size := x19.lt (by simpa using zy)) | (go_at_call 16; (with_reducible refine Calls.mono (AGF.out _ ?_) ?_); (focus (repeat (first | with_reducible exact Below.refl _ _ | with_reducible assumption | with_reducible refine Below.al ?_ _ | with_reducible refine Below.on ?_ _ | with_reducible refine Below.st ?_ (by first | assumption | (simp; done) | (simp; omega)) _ | with_reducible refine Below.drew ?_))); rintro e w20 ⟨rfl, hb20⟩; obtain ⟨x20, rfl⟩ := Ext.of hb20))
    exact bodyPost_ret (v := .bool true) (by simp [results, Try.results5, go_sem, *]) rfl (⟨rfl, by repeat (first | with_reducible exact Below.refl _ _ | with_reducible assumption | with_reducible refine Below.al ?_ _ | with_reducible refine Below.on ?_ _ | with_reducible refine Below.st ?_ (by first | assumption | (simp; done) | (simp; omega)) _ | with_reducible refine Below.drew ?_)⟩)
end Go.Proofs.Ytfemekmkmiljdaa
