/-
  VECTORPARTS: the walk. Conditions: none.
-/
import Derived.Test.YtploieofmnlomaaVpl
import Derived.Test.YtploieofmnlomaaKsc
import Derived.Test.YtploieofmnlomaaKpr
import Derived.Test.YtploieofmnlomaaOps
set_option linter.unusedVariables false
set_option linter.unusedSimpArgs false
namespace Go.Proofs.Ytploieofmnlomaa
open Go.RowKit Go.ChangeShapes Go.WideShapes Go.ChangeAt
set_option maxRecDepth 8000 in
set_option maxHeartbeats 2000000 in
theorem vpw_walk (vx vl vm : Value) (pk : Int) (zx zl zm : List Int) (w : World) (h0 : IntsAt w w.heap.size vx zx) (h1 : IntsAt w w.heap.size vl zl) (h2 : IntsAt w w.heap.size vm zm) :
    Calls Try.prog 6 #[vx, vl, vm, .int .i64 pk] w fun e w' => e = .returned (.bool true) ∧ Below w.heap.size w w' := by
  have H0 := Lib.hid h0
  have H1 := Lib.hid h1
  have H2 := Lib.hid h2
  clear h0 h1 h2
  go_enter Try.func6, Try.ntmps6
  go_upto_region 2 with (go_at_call 11; refine (keepSchema_any _ _ _ H0.out).mono ?_; rintro e w1 ⟨cv, cs, key, rfl, hc1, hs1, hl1, hb1⟩; obtain ⟨x1, rfl⟩ := Ext.of hb1; obtain ⟨ca, cc, rfl⟩ := cols_end hc1; obtain ⟨nn, hnn⟩ : ∃ nn, cs.length = nn := ⟨_, rfl⟩; rw [hnn] at hc1 hl1 ⊢; have HNN := Lib.hid hnn; clear hnn)
  refine captureM ?_
  intro y ey
  have yb1 : Below x1.it.heap.size x1.it y := by rw [ey]; exact (by repeat (first | with_reducible exact Below.refl _ _ | with_reducible assumption | with_reducible refine Below.al ?_ _ | with_reducible refine Below.on ?_ _ | with_reducible refine Below.st ?_ (by first | assumption | (simp; done) | (simp; omega)) _ | with_reducible refine Below.drew ?_))
  have yb : Below w.heap.size w y := by rw [ey]; exact (by repeat (first | with_reducible exact Below.refl _ _ | with_reducible assumption | with_reducible refine Below.al ?_ _ | with_reducible refine Below.on ?_ _ | with_reducible refine Below.st ?_ (by first | assumption | (simp; done) | (simp; omega)) _ | with_reducible refine Below.drew ?_))
  have z0 : x1.it.heap.size < y.heap.size := by rw [ey]; simp
  have s0 : y.cell? ⟨x1.it.heap.size, 0, none⟩ = some (.slice ca nn cc) := by rw [ey]; simp (maxDischargeDepth := 9) [go_sem, *]
  have s1 : y.cell? ⟨x1.it.heap.size, 1, none⟩ = some (.int .i64 key) := by rw [ey]; simp (maxDischargeDepth := 9) [go_sem, *]
  have HC := Lib.hid (hc1.mono yb1 yb1.size)
  have HS := Lib.hid hs1
  have I1 := Lib.hid ((H1.out.to fun k hk => yb.block k hk).mono yb.size)
  have I2 := Lib.hid (H2.out)
  clear ey hc1 hs1 hb1 yb1 H0 H1 H2
  generalize x1.it.heap.size = SB at *
  clear x1
  go_upto_region 3 with (go_at_call 12; refine Calls.mono (kpred_any _ cs key vl zl _ HC.out I1.out HS.out) ?_; rintro e w2 ⟨pv, ns, rfl, hn2, hp2, hl2, hb2⟩; obtain ⟨pa, pc, rfl⟩ := nods_end hn2; obtain ⟨np, hnp⟩ : ∃ np, ns.length = np := ⟨_, rfl⟩; rw [hnp] at hn2 hl2 ⊢; have HN2 := Lib.hid hn2; have HP2 := Lib.hid hp2; have HB2 := Lib.hid hb2; have HNP := Lib.hid hnp; have t0 := (hb2.cell (p := ⟨SB, 0, none⟩) z0).trans s0; have t1 := (hb2.cell (p := ⟨SB, 1, none⟩) z0).trans s1; have z2 := Nat.lt_of_lt_of_le z0 hb2.size; clear hn2 hp2 hnp)
  have HC2 := Lib.hid (HC.out.mono HB2.out HB2.out.size)
  have yb2 : Below w.heap.size w w2 := yb.trans (HB2.out.mono yb.size)
  have J2 := Lib.hid ((I2.out.to fun k hk => yb2.block k hk).mono yb2.size)
  have SP := Lib.hid (schema_parts HS.out)
  clear s0 s1 z0 hb2 I1 I2
  go_upto_region 4 with (go_at_call 14; refine Calls.mono (rows_any _ cs key vm zm 9 _ HC2.out J2.out (by decide) (by decide) SP.out.1 SP.out.2.2.1) ?_; rintro e w3 ⟨rv, rows, rfl, hr3, hl3, hv3, hb3⟩; obtain ⟨ra, rc, rfl⟩ := rows_end hr3; obtain ⟨nr, hnr⟩ : ∃ nr, rows.length = nr := ⟨_, rfl⟩; rw [hnr] at hr3 hl3 ⊢; have HR3 := Lib.hid hr3; have HV3 := Lib.hid hv3; have HB3 := Lib.hid hb3; have HNR := Lib.hid hnr; have q0 := (hb3.cell (p := ⟨SB, 0, none⟩) z2).trans t0; have q1 := (hb3.cell (p := ⟨SB, 1, none⟩) z2).trans t1; have z3 := Nat.lt_of_lt_of_le z2 hb3.size; clear hr3 hv3 hnr hb3)
  have HC3 := Lib.hid (HC2.out.mono HB3.out HB3.out.size)
  have HN3 := Lib.hid (HN2.out.mono HB3.out HB3.out.size)
  have yb3 : Below w.heap.size w w3 := yb2.trans (HB3.out.mono yb2.size)
  have L4 : rows.length ≤ 4096 := by rw [HNR.out]; omega
  have CE := Lib.hid (colsOf_ok SP.out.2.1 L4 HV3.out)
  have FR := Lib.hid (filt_rows (cs := cs) (ns := ns) SP.out.2.1 (fun r hr => (HV3.out r hr).1))
  have L4' := Lib.hid L4
  clear t0 t1 z2 yb yb2 HC HC2 HN2 HB2 HB3 J2 L4
  obtain ⟨K, hK⟩ : ∃ K : Nat, pickI pk ((nr : Int) + 1) = (K : Int) := ⟨(pickI pk ((nr : Int) + 1)).toNat, by have := pickI_bd pk (n := (nr : Int) + 1) (by omega); omega⟩
  have hKn : K ≤ nr := by have := pickI_bd pk (n := (nr : Int) + 1) (by omega); omega
  have hKc : K ≤ rc := by
    rcases HR3.out.2 with ⟨e0, _⟩ | ⟨b, o, c, hv, hc, _⟩
    · have := HNR.out; rw [e0] at this; simp at this; omega
    · injection hv with _ _ e3; subst e3; have := HNR.out; omega
  have hw1 : IntKind.i64.wrap ((nr : Int) + 1) = (nr : Int) + 1 := IntWalk.i64_in _ (by omega)
  have RT := Lib.hid (rows_take HR3.out HNR.out hKn)
  have RD := Lib.hid (rows_drop HR3.out HNR.out hKn)
  obtain ⟨sT, hsT⟩ : ∃ sT, sliced ra 0 K rc 1 = sT := ⟨_, rfl⟩
  obtain ⟨sD, hsD⟩ : ∃ sD, sliced ra K nr rc 1 = sD := ⟨_, rfl⟩
  have slT : ∀ W : World, (Instr.slice 30 (.slice ra nr rc) none (some (.int .i64 (K : Int))) none).run Try.prog W = .ok sT W := fun W => by rw [← hsT]; exact run_rows_h hKc W
  have slD : ∀ W : World, (Instr.slice 30 (.slice ra nr rc) (some (.int .i64 (K : Int))) none none).run Try.prog W = .ok sD W := fun W => by rw [← hsD]; exact run_rows_l hKn W
  rw [hsT] at RT
  rw [hsD] at RD
  have VT := Lib.hid (show ∀ r ∈ rows.take K, r.length = cs.length ∧ RowPre cs r from fun r hr => HV3.out r (List.mem_of_mem_take hr))
  have VD := Lib.hid (show ∀ r ∈ rows.drop K, r.length = cs.length ∧ RowPre cs r from fun r hr => HV3.out r (List.mem_of_mem_drop hr))
  have LT4 : (rows.take K).length ≤ 4096 := by simp; omega
  have LD4 : (rows.drop K).length ≤ 4096 := by have := L4'.out; simp; omega
  have CT := Lib.hid (colsOf_ok SP.out.2.1 LT4 VT.out)
  have CD := Lib.hid (colsOf_ok SP.out.2.1 LD4 VD.out)
  have FT := Lib.hid (filt_rows (cs := cs) (ns := ns) SP.out.2.1 (fun r hr => (VT.out r hr).1))
  have FD := Lib.hid (filt_rows (cs := cs) (ns := ns) SP.out.2.1 (fun r hr => (VD.out r hr).1))
  have LT' := Lib.hid LT4
  have LD' := Lib.hid LD4
  have HKn := Lib.hid hKn
  have nr9 : (nr : Int) ≤ 9 := hl3
  have hn0 : (0 : Int) < (nr : Int) + 1 := by omega
  have hn1 : (nr : Int) + 1 < 9223372036854775808 := by omega
  clear hsT hsD hKn hKc LT4 LD4
  go_upto_region 5 with (go_at_call 16; refine Calls.mono (pick_any pk ((nr : Int) + 1) hn0 hn1 _) ?_; rw [hK]; rintro e w4 ⟨rfl, rfl⟩)
  go_region_held3 (fun w' => w'.cell? ⟨SB, 0, none⟩ = some (.slice ca nn cc) ∧ w'.cell? ⟨SB, 1, none⟩ = some (.int .i64 key)) (first | exact ⟨by assumption, by assumption⟩ | (refine ⟨?_, ?_⟩ <;> simp [go_sem, *]))
    (first | (go_at_call 13; refine Calls.mono (columns_any _ cs key _ (rows.take K) _ (HC3.out.mono (by repeat (first | with_reducible exact Below.refl _ _ | with_reducible assumption | with_reducible refine Below.al ?_ _ | with_reducible refine Below.on ?_ _ | with_reducible refine Below.st ?_ (by first | assumption | (simp; done) | (simp; omega)) _ | with_reducible refine Below.drew ?_)) (by simp)) (RT.out.mono (by repeat (first | with_reducible exact Below.refl _ _ | with_reducible assumption | with_reducible refine Below.al ?_ _ | with_reducible refine Below.on ?_ _ | with_reducible refine Below.st ?_ (by first | assumption | (simp; done) | (simp; omega)) _ | with_reducible refine Below.drew ?_)) (by simp)) SP.out.2.2.1 LT'.out (fun r hr => (VT.out r hr).1)) ?_; rintro e w4 ⟨colv, rfl, hr4, hb4⟩; obtain ⟨x4, rfl⟩ := Ext.of hb4; have HR4 := Lib.hid hr4; clear hr4; have z4 : SB < x4.it.heap.size := x4.lt (by simpa using z3); have p0 : x4.it.cell? ⟨SB, 0, none⟩ = some (.slice ca nn cc) := (x4.cell SB 0 (by simpa using z3)).trans q0; have p1 : x4.it.cell? ⟨SB, 1, none⟩ = some (.int .i64 key) := (x4.cell SB 1 (by simpa using z3)).trans q1) | (go_at_call 18; refine Calls.mono (vfilter_ok _ cs key _ ns _ _ _ (HC3.out.mono (by repeat (first | with_reducible exact Below.refl _ _ | with_reducible assumption | with_reducible refine Below.al ?_ _ | with_reducible refine Below.on ?_ _ | with_reducible refine Below.st ?_ (by first | assumption | (simp; done) | (simp; omega)) _ | with_reducible refine Below.drew ?_)) (by simpa using x4.below.size)) (HN3.out.mono (by repeat (first | with_reducible exact Below.refl _ _ | with_reducible assumption | with_reducible refine Below.al ?_ _ | with_reducible refine Below.on ?_ _ | with_reducible refine Below.st ?_ (by first | assumption | (simp; done) | (simp; omega)) _ | with_reducible refine Below.drew ?_)) (by simpa using x4.below.size)) HR4.out HP2.out CT.out SP.out.2.1) ?_; rintro e w5 ⟨tv, rfl, ht5, hb5⟩; obtain ⟨x5, rfl⟩ := Ext.of hb5; rw [FT.out] at ht5; have HT5 := Lib.hid ht5; clear ht5; have z5 : SB < x5.it.heap.size := x5.lt (by simpa using z4); have r0 : x5.it.cell? ⟨SB, 0, none⟩ = some (.slice ca nn cc) := (x5.cell SB 0 (by simpa using z4)).trans p0; have r1 : x5.it.cell? ⟨SB, 1, none⟩ = some (.int .i64 key) := (x5.cell SB 1 (by simpa using z4)).trans p1))
  have b5 : Below w3.heap.size w3 x5.it := by repeat (first | with_reducible exact Below.refl _ _ | with_reducible assumption | with_reducible refine Below.al ?_ _ | with_reducible refine Below.on ?_ _ | with_reducible refine Below.st ?_ (by first | assumption | (simp; done) | (simp; omega)) _ | with_reducible refine Below.drew ?_)
  have HC5 := Lib.hid (HC3.out.mono b5 b5.size)
  have HN5 := Lib.hid (HN3.out.mono b5 b5.size)
  have HR5 := Lib.hid (HR3.out.mono b5 b5.size)
  have RD5 := Lib.hid (RD.out.mono b5 b5.size)
  have B5 := Lib.hid (yb3.trans (b5.mono yb3.size))
  clear q0 q1 z3 z4 p0 p1 HR4 HC3 HN3 HR3 RD RT b5 yb3 hb4 hb5 slT
  generalize x5.it = w5 at *
  clear x5
  clear x4
  go_upto_region 6 with fail
  go_region_held3 (fun w' => w'.cell? ⟨SB, 0, none⟩ = some (.slice ca nn cc) ∧ w'.cell? ⟨SB, 1, none⟩ = some (.int .i64 key)) (first | exact ⟨by assumption, by assumption⟩ | (refine ⟨?_, ?_⟩ <;> simp [go_sem, *]))
    (first | (go_at_call 13; refine Calls.mono (columns_any _ cs key _ (rows.drop K) _ (HC5.out.mono (by repeat (first | with_reducible exact Below.refl _ _ | with_reducible assumption | with_reducible refine Below.al ?_ _ | with_reducible refine Below.on ?_ _ | with_reducible refine Below.st ?_ (by first | assumption | (simp; done) | (simp; omega)) _ | with_reducible refine Below.drew ?_)) (by simp)) (RD5.out.mono (by repeat (first | with_reducible exact Below.refl _ _ | with_reducible assumption | with_reducible refine Below.al ?_ _ | with_reducible refine Below.on ?_ _ | with_reducible refine Below.st ?_ (by first | assumption | (simp; done) | (simp; omega)) _ | with_reducible refine Below.drew ?_)) (by simp)) SP.out.2.2.1 LD'.out (fun r hr => (VD.out r hr).1)) ?_; rintro e w4 ⟨colv, rfl, hr4, hb4⟩; obtain ⟨x4, rfl⟩ := Ext.of hb4; have HR4 := Lib.hid hr4; clear hr4; have z4 : SB < x4.it.heap.size := x4.lt (by simpa using z5); have p0 : x4.it.cell? ⟨SB, 0, none⟩ = some (.slice ca nn cc) := (x4.cell SB 0 (by simpa using z5)).trans r0; have p1 : x4.it.cell? ⟨SB, 1, none⟩ = some (.int .i64 key) := (x4.cell SB 1 (by simpa using z5)).trans r1) | (go_at_call 18; refine Calls.mono (vfilter_ok _ cs key _ ns _ _ _ (HC5.out.mono (by repeat (first | with_reducible exact Below.refl _ _ | with_reducible assumption | with_reducible refine Below.al ?_ _ | with_reducible refine Below.on ?_ _ | with_reducible refine Below.st ?_ (by first | assumption | (simp; done) | (simp; omega)) _ | with_reducible refine Below.drew ?_)) (by simpa using x4.below.size)) (HN5.out.mono (by repeat (first | with_reducible exact Below.refl _ _ | with_reducible assumption | with_reducible refine Below.al ?_ _ | with_reducible refine Below.on ?_ _ | with_reducible refine Below.st ?_ (by first | assumption | (simp; done) | (simp; omega)) _ | with_reducible refine Below.drew ?_)) (by simpa using x4.below.size)) HR4.out HP2.out CD.out SP.out.2.1) ?_; rintro e w7 ⟨uv, rfl, ht7, hb7⟩; obtain ⟨x7, rfl⟩ := Ext.of hb7; rw [FD.out] at ht7; have HT7 := Lib.hid ht7; clear ht7; have z7 : SB < x7.it.heap.size := x7.lt (by simpa using z4); have s0 : x7.it.cell? ⟨SB, 0, none⟩ = some (.slice ca nn cc) := (x7.cell SB 0 (by simpa using z4)).trans p0; have s1 : x7.it.cell? ⟨SB, 1, none⟩ = some (.int .i64 key) := (x7.cell SB 1 (by simpa using z4)).trans p1))
  have b7 : Below w5.heap.size w5 x7.it := by repeat (first | with_reducible exact Below.refl _ _ | with_reducible assumption | with_reducible refine Below.al ?_ _ | with_reducible refine Below.on ?_ _ | with_reducible refine Below.st ?_ (by first | assumption | (simp; done) | (simp; omega)) _ | with_reducible refine Below.drew ?_)
  have HC7 := Lib.hid (HC5.out.mono b7 b7.size)
  have HN7 := Lib.hid (HN5.out.mono b7 b7.size)
  have HR7 := Lib.hid (HR5.out.mono b7 b7.size)
  have HA7 := Lib.hid ((HT5.out.to fun k hk => b7.block k hk).mono b7.size)
  have B7 := Lib.hid (B5.out.trans (b7.mono B5.out.size))
  clear r0 r1 z5 z4 p0 p1 HR4 HC5 HN5 HR5 RD5 b7 B5 HT5 hb4 hb7 slD
  generalize x7.it = w7 at *
  clear x7
  clear x4
  go_upto_region 7 with fail
  go_region_held3 (fun w' => w'.cell? ⟨SB, 0, none⟩ = some (.slice ca nn cc) ∧ w'.cell? ⟨SB, 1, none⟩ = some (.int .i64 key)) (first | exact ⟨by assumption, by assumption⟩ | (refine ⟨?_, ?_⟩ <;> simp [go_sem, *]))
    (first | (go_at_call 13; refine Calls.mono (columns_any _ cs key _ rows _ (HC7.out.mono (by repeat (first | with_reducible exact Below.refl _ _ | with_reducible assumption | with_reducible refine Below.al ?_ _ | with_reducible refine Below.on ?_ _ | with_reducible refine Below.st ?_ (by first | assumption | (simp; done) | (simp; omega)) _ | with_reducible refine Below.drew ?_)) (by simp)) (HR7.out.mono (by repeat (first | with_reducible exact Below.refl _ _ | with_reducible assumption | with_reducible refine Below.al ?_ _ | with_reducible refine Below.on ?_ _ | with_reducible refine Below.st ?_ (by first | assumption | (simp; done) | (simp; omega)) _ | with_reducible refine Below.drew ?_)) (by simp)) SP.out.2.2.1 L4'.out (fun r hr => (HV3.out r hr).1)) ?_; rintro e w4 ⟨colv, rfl, hr4, hb4⟩; obtain ⟨x4, rfl⟩ := Ext.of hb4; have HR4 := Lib.hid hr4; clear hr4; have z4 : SB < x4.it.heap.size := x4.lt (by simpa using z7); have p0 : x4.it.cell? ⟨SB, 0, none⟩ = some (.slice ca nn cc) := (x4.cell SB 0 (by simpa using z7)).trans s0; have p1 : x4.it.cell? ⟨SB, 1, none⟩ = some (.int .i64 key) := (x4.cell SB 1 (by simpa using z7)).trans s1) | (go_at_call 18; refine Calls.mono (vfilter_ok _ cs key _ ns _ _ _ (HC7.out.mono (by repeat (first | with_reducible exact Below.refl _ _ | with_reducible assumption | with_reducible refine Below.al ?_ _ | with_reducible refine Below.on ?_ _ | with_reducible refine Below.st ?_ (by first | assumption | (simp; done) | (simp; omega)) _ | with_reducible refine Below.drew ?_)) (by simpa using x4.below.size)) (HN7.out.mono (by repeat (first | with_reducible exact Below.refl _ _ | with_reducible assumption | with_reducible refine Below.al ?_ _ | with_reducible refine Below.on ?_ _ | with_reducible refine Below.st ?_ (by first | assumption | (simp; done) | (simp; omega)) _ | with_reducible refine Below.drew ?_)) (by simpa using x4.below.size)) HR4.out HP2.out CE.out SP.out.2.1) ?_; rintro e w9 ⟨cv9, rfl, ht9, hb9⟩; obtain ⟨x9, rfl⟩ := Ext.of hb9; rw [FR.out] at ht9; have HT9 := Lib.hid ht9; clear ht9; have z9 : SB < x9.it.heap.size := x9.lt (by simpa using z4); have t0 : x9.it.cell? ⟨SB, 0, none⟩ = some (.slice ca nn cc) := (x9.cell SB 0 (by simpa using z4)).trans p0; have t1 : x9.it.cell? ⟨SB, 1, none⟩ = some (.int .i64 key) := (x9.cell SB 1 (by simpa using z4)).trans p1))
  have b9 : Below w7.heap.size w7 x9.it := by repeat (first | with_reducible exact Below.refl _ _ | with_reducible assumption | with_reducible refine Below.al ?_ _ | with_reducible refine Below.on ?_ _ | with_reducible refine Below.st ?_ (by first | assumption | (simp; done) | (simp; omega)) _ | with_reducible refine Below.drew ?_)
  have HA9 := Lib.hid ((HA7.out.to fun k hk => b9.block k hk).mono b9.size)
  have HB9 := Lib.hid ((HT7.out.to fun k hk => b9.block k hk).mono b9.size)
  have B9 := Lib.hid (B7.out.trans (b9.mono B7.out.size))
  have LAB : (rows.take K).map (fun r => evalF cs r ns) ++ (rows.drop K).map (fun r => evalF cs r ns) = rows.map (fun r => evalF cs r ns) := by rw [← List.map_append, List.take_append_drop]
  have la : ((rows.take K).map fun r => evalF cs r ns).length ≤ 4096 := by rw [List.length_map]; exact LT'.out
  have lb : ((rows.drop K).map fun r => evalF cs r ns).length ≤ 4096 := by rw [List.length_map]; exact LD'.out
  obtain ⟨A, hA⟩ : ∃ A, (rows.take K).map (fun r => evalF cs r ns) = A := ⟨_, rfl⟩
  obtain ⟨B, hB⟩ : ∃ B, (rows.drop K).map (fun r => evalF cs r ns) = B := ⟨_, rfl⟩
  obtain ⟨C, hC⟩ : ∃ C, rows.map (fun r => evalF cs r ns) = C := ⟨_, rfl⟩
  rw [hA] at HA9 LAB la
  rw [hB] at HB9 LAB lb
  rw [hC] at HT9 LAB
  have hab : A.length + B.length ≤ 8192 := by omega
  have IB := Lib.hid HT9.out.1
  have SM := Lib.hid (fun (va : Value) (W : World) (h1 : IntsAt W W.heap.size va C) (h2 : IntsAt W W.heap.size cv9 C) => (by have h := same_any va cv9 C C W h1 h2; rw [decide_eq_true rfl] at h; exact h : Calls Try.prog 9 #[va, cv9] W fun e w' => e = .returned (.bool true) ∧ Below W.heap.size W w'))
  have HLAB := Lib.hid LAB
  obtain ⟨i0, hi, hz0, hz1, hz2⟩ := info_parts infoInt1
  clear s0 s1 z7 z4 p0 p1 HR4 HC7 HN7 HR7 b9 B7 HT7 HA7 hb4 hb9 t0 t1 z9 hA hB hC LAB CE FR CT CD FT FD LT' LD' VT VD
  generalize x9.it = w9 at *
  clear x9
  clear x4
  go_upto_region 8 with fail
  go_wp2_with (first | (go_at_call 17; refine (awake25 _).mono ?_; rintro e w6 ⟨rfl, hb6⟩; obtain ⟨x6, rfl⟩ := Ext.of hb6; have HA6 := Lib.hid ((HA9.out.to fun k hk => x6.below.block k hk).mono x6.below.size); have HB6 := Lib.hid ((HB9.out.to fun k hk => x6.below.block k hk).mono x6.below.size); have HC6 := Lib.hid ((HT9.out.to fun k hk => x6.below.block k hk).mono x6.below.size); have B6 := Lib.hid (B9.out.trans (x6.below.mono B9.out.size)); clear hb6; generalize x6.it = w6 at *; clear x6) | (at_builtin; have hOW := OW1; clear hOW; go_must (refine wpList_append_ints (by rfl) _ _ 23 rfl w6.heap.size 3 i0 Try.underlying23 hi hz0 hz1 hz2 v1 (0 + A.length) ([] ++ A.flatMap intC) rfl OW1.out _ B rfl HB8.out (by unfold maxLen; omega) (by omega) HS8 ?_); intro v2 w10 hown2 hgrow2; have OW2 := Lib.hid hown2; have b10 := Below.gr B8.out OW1.out hgrow2; have HC10 := Lib.hid ((HC6.out.to fun k hk => b10.block k hk).mono b10.size); have HS10 := b10.size; have B10 := Lib.hid (B6.out.trans (b10.mono B6.out.size)); have HI10 := Lib.hid (own_ints (cs := C) IB.out (by rw [← HLAB.out]; simp; omega) (by have h := OW2.out; rw [List.nil_append, ← List.flatMap_append, HLAB.out, Nat.zero_add, ← List.length_append, HLAB.out] at h; exact h)); clear hown2 hgrow2 b10) | (at_builtin; go_must (refine wpList_append_ints (by rfl) _ _ 23 rfl w6.heap.size 3 i0 Try.underlying23 hi hz0 hz1 hz2 (.slice none 0 0) 0 [] rfl (World.ownsRow_nil _ _ _ _) _ A rfl HA6.out (by unfold maxLen; omega) (by omega) (Nat.le_refl _) ?_); intro v1 w8 hown1 hgrow1; have OW1 := Lib.hid hown1; have b68 := Below.gr (Below.refl w6.heap.size w6) (World.ownsRow_nil _ _ _ _ : w6.ownsRow w6.heap.size 3 1 (.slice none 0 0) 0 []) hgrow1; have HB8 := Lib.hid ((HB6.out.to fun k hk => b68.block k hk).mono b68.size); have HS8 := b68.size; have B8 := Lib.hid b68; clear hown1 hgrow1 b68))
  refine Calls.mono (SM.out _ _ HI10.out HC10.out) ?_
  rintro e w11 ⟨rfl, hb11⟩
  have B11 : Below w.heap.size w w11 := B10.out.trans (hb11.mono B10.out.size)
  clear hb11
  go_wp2_with fail
  exact bodyPost_ret (v := .bool true) (by simp [results, Try.results6, go_sem, *]) rfl (⟨rfl, B11⟩)
end Go.Proofs.Ytploieofmnlomaa
