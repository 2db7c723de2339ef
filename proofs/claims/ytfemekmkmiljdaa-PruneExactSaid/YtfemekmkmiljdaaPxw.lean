/-
  PRUNEEXACT: the walk. Conditions: none.
-/
import Derived.Test.YtfemekmkmiljdaaPxl
import Derived.Test.YtfemekmkmiljdaaVof
import Derived.Test.YtfemekmkmiljdaaOps
import Derived.Test.YtfemekmkmiljdaaCkr
set_option linter.unusedVariables false
set_option linter.unusedSimpArgs false
namespace Go.Proofs.Ytfemekmkmiljdaa
open Go.RowKit Go.ChangeShapes Go.WideShapes Go.ChangeAt
theorem exact_pick (op : Int) : ∃ a : Int, 3 ≤ a ∧ a ≤ 6 ∧ ∀ w : World, (Instr.index 60 (.agg #[.int .i64 3, .int .i64 4, .int .i64 5, .int .i64 6]) (.int .i64 (pickI op 4))).run Try.prog w = .ok (.int .i64 a) w := by
  have h := pickI_bd op (n := 4) (by decide)
  have : pickI op 4 = 0 ∨ pickI op 4 = 1 ∨ pickI op 4 = 2 ∨ pickI op 4 = 3 := by omega
  rcases this with h | h | h | h <;> rw [h]
  · exact ⟨3, by decide, by decide, fun w => by kernel_rfl⟩
  · exact ⟨4, by decide, by decide, fun w => by kernel_rfl⟩
  · exact ⟨5, by decide, by decide, fun w => by kernel_rfl⟩
  · exact ⟨6, by decide, by decide, fun w => by kernel_rfl⟩
set_option maxRecDepth 8000 in
set_option maxHeartbeats 2000000 in
theorem pxw_walk (vx vm vv : Value) (zx zm zv : List Int) (cl op : Int) (w : World) (h0 : IntsAt w w.heap.size vx zx) (h1 : IntsAt w w.heap.size vm zm) (h2 : IntsAt w w.heap.size vv zv) :
    Calls Try.prog 9 #[vx, vm, .int .i64 cl, .int .i64 op, vv] w fun e w' => e = .returned (.bool true) ∧ Below w.heap.size w w' := by
  have H0 := Lib.hid h0
  have H1 := Lib.hid h1
  have H2 := Lib.hid h2
  clear h0 h1 h2
  go_enter Try.func9, Try.ntmps9
  go_upto_region 2 with (go_at_call 14; refine (keepSchema_any _ _ _ H0.out).mono ?_; rintro e w1 ⟨cv, cs, key, rfl, hc1, hs1, hl1, hb1⟩; obtain ⟨x1, rfl⟩ := Ext.of hb1; obtain ⟨ca, cc, rfl⟩ := cols_end hc1; obtain ⟨nn, hnn⟩ : ∃ nn, cs.length = nn := ⟨_, rfl⟩; rw [hnn] at hc1 hl1 ⊢; have HNN := Lib.hid hnn; clear hnn)
  refine captureM ?_
  intro y ey
  have yb1 : Below x1.it.heap.size x1.it y := by rw [ey]; exact (by repeat (first | with_reducible exact Below.refl _ _ | with_reducible assumption | with_reducible refine Below.al ?_ _ | with_reducible refine Below.on ?_ _ | with_reducible refine Below.st ?_ (by first | assumption | (simp; done) | (simp; omega)) _ | with_reducible refine Below.drew ?_))
  have yb : Below w.heap.size w y := by rw [ey]; exact (by repeat (first | with_reducible exact Below.refl _ _ | with_reducible assumption | with_reducible refine Below.al ?_ _ | with_reducible refine Below.on ?_ _ | with_reducible refine Below.st ?_ (by first | assumption | (simp; done) | (simp; omega)) _ | with_reducible refine Below.drew ?_))
  have z0 : x1.it.heap.size < y.heap.size := by rw [ey]; simp
  have s0 : y.cell? ⟨x1.it.heap.size, 0, none⟩ = some (.slice ca nn cc) := by rw [ey]; simp (maxDischargeDepth := 9) [go_sem, *]
  have s1 : y.cell? ⟨x1.it.heap.size, 1, none⟩ = some (.int .i64 key) := by rw [ey]; simp (maxDischargeDepth := 9) [go_sem, *]
  have HC := Lib.hid (hc1.mono yb1 yb1.size)
  have HS := Lib.hid hs1
  have I1 := Lib.hid ((H1.out.to fun k hk => yb.block k hk).mono yb.size)
  have I2 := Lib.hid ((H2.out.to fun k hk => yb.block k hk).mono yb.size)
  clear ey hc1 hs1 hb1 yb1 H0 H1 H2
  generalize x1.it.heap.size = SB at *
  clear x1
  have SP := Lib.hid (schema_parts HS.out)
  have nn1 : 0 < (nn : Int) := by have := SP.out.2.1; rw [HNN.out] at this; omega
  have nn4 : (nn : Int) < 9223372036854775808 := by omega
  obtain ⟨K, hK⟩ : ∃ K : Nat, pickI cl (nn : Int) = (K : Int) := ⟨(pickI cl (nn : Int)).toNat, by have := pickI_bd cl nn1; omega⟩
  have hKn : K < nn := by have := pickI_bd cl nn1; omega
  have hKn' : (K : Int) < (nn : Int) := by omega
  have PK1 := Lib.hid (fun (W : World) => (by have h := pick_any cl (nn : Int) nn1 nn4 W; rw [hK] at h; exact h : Calls Try.prog 20 #[.int .i64 cl, .int .i64 (nn : Int)] W fun e w' => e = .returned (.int .i64 (K : Int)) ∧ W = w'))
  obtain ⟨o, o3, o6, hix⟩ := exact_pick op
  obtain ⟨P, hP⟩ : ∃ P, pickI op 4 = P := ⟨_, rfl⟩
  have PK2 := Lib.hid (fun (W : World) => (by have h := pick_any op 4 (by omega) (by omega) W; rw [hP] at h; exact h : Calls Try.prog 20 #[.int .i64 op, .int .i64 4] W fun e w' => e = .returned (.int .i64 P) ∧ W = w'))
  rw [hP] at hix
  have HO := Lib.hid (And.intro o3 o6)
  clear o3 o6
  have hKl : K < cs.length := by rw [HNN.out]; exact hKn
  obtain ⟨cb, co, rfl, _, hcb, hcc⟩ := cols_in HC.out hKl
  have TYK := SP.out.1 K hKl
  obtain ⟨⟨cn, ty, sc, nul⟩, hck⟩ : ∃ c, cs[K]'hKl = c := ⟨_, rfl⟩
  rw [hck] at hcc TYK
  obtain ⟨c0, c1, c2, c3⟩ := hcc
  dsimp only at c0 c1 c2 c3 TYK
  have HCK : Hid (∀ h : K < cs.length, cs[K]'h = ⟨cn, ty, sc, nul⟩) := Lib.hid fun _ => hck
  clear hK hP hck nn1 nn4
  go_upto_region 5 with (go_at_call 20; (with_reducible refine Calls.mono (PK1.out _) ?_); rintro e w7 ⟨rfl, rfl⟩)
  refine captureM ?_
  intro u eu
  have ub : Below y.heap.size y u := by rw [eu]; exact (by repeat (first | with_reducible exact Below.refl _ _ | with_reducible assumption | with_reducible refine Below.al ?_ _ | with_reducible refine Below.on ?_ _ | with_reducible refine Below.st ?_ (by first | assumption | (simp; done) | (simp; omega)) _ | with_reducible refine Below.drew ?_))
  have uz : u.heap.size = y.heap.size + 1 := by rw [eu]; simp
  have d0 : u.cell? ⟨y.heap.size, 0, none⟩ = some (.string cn) := by rw [eu]; simp (maxDischargeDepth := 9) [go_sem, *]
  have d1 : u.cell? ⟨y.heap.size, 1, none⟩ = some (.int .i64 ty) := by rw [eu]; simp (maxDischargeDepth := 9) [go_sem, *]
  have d2 : u.cell? ⟨y.heap.size, 2, none⟩ = some (.int .i64 sc) := by rw [eu]; simp (maxDischargeDepth := 9) [go_sem, *]
  have d3 : u.cell? ⟨y.heap.size, 3, none⟩ = some (.bool false) := by rw [eu]; simp (maxDischargeDepth := 9) [go_sem, *]
  have t0 := (ub.cell (p := ⟨SB, 0, none⟩) z0).trans s0
  have t1 := (ub.cell (p := ⟨SB, 1, none⟩) z0).trans s1
  have zu : SB < u.heap.size := by omega
  have zy : y.heap.size < u.heap.size := by omega
  have ybu : Below w.heap.size w u := yb.trans (ub.mono yb.size)
  generalize y.heap.size = CB at *
  have HC2 := Lib.hid (HC.out.mono (B' := u.heap.size) ub (by omega))
  have J1 := Lib.hid ((I1.out.to fun k hk => ub.block k hk).mono (by omega : CB ≤ u.heap.size))
  have J2 := Lib.hid ((I2.out.to fun k hk => ub.block k hk).mono (by omega : CB ≤ u.heap.size))
  obtain ⟨⟨vn, vi, vs⟩, hvv⟩ : ∃ v, (valF ty false zv).1 = v := ⟨_, rfl⟩
  have VN : vn = false := by have h := valF_notnull ty zv; rw [hvv] at h; exact h
  subst VN
  have VK : vchk ty false false vi vs = 0 := by have h := valF_ok (ty := ty) false zv TYK.1 TYK.2; rw [hvv] at h; exact h
  have VC : Hid (∀ x : Ext u, Calls Try.prog 24 #[.agg #[.string cn, .int .i64 ty, .int .i64 sc, .bool false], vv] x.it fun e w' => e = .returned (.agg #[.bool false, .int .i64 vi, .string vs]) ∧ Below x.it.heap.size x.it w') := Lib.hid fun x => by
    have h := valueOf_any vv zv cn ty sc false x.it ((J2.out.to fun k hk => x.below.block k hk).mono x.below.size)
    rw [hvv] at h
    exact h
  have PK3 : Hid (∀ W : World, Calls Try.prog 20 #[.int .i64 op, .int .i64 4] W fun e w' => e = .returned (.int .i64 P) ∧ Below W.heap.size W w') := Lib.hid fun W => (PK2.out W).mono (by rintro e w' ⟨rfl, rfl⟩; exact ⟨rfl, Below.refl _ _⟩)
  have hPd : Hid (schemaF cs key = 0 ∧ vchk ty false false vi vs = 0) := Lib.hid ⟨HS.out, VK⟩
  clear eu c0 c1 c2 c3 s0 s1 z0 yb ub HC I1 I2 PK1 PK2 VK hvv hcb TYK J2
  refine wp_region_ext_tail 9 (by kernel_rfl) (by kernel_rfl) ?_
  dsimp only [List.take, List.drop]
  repeat (go_big_quiet_step ((first | (go_at_call 20; exact Calls.ext (PK3.out _)) | (go_at_call 24; exact Calls.ext (VC.out _)))))
  refine wpQuiet_nil ?_
  rintro _ ⟨x5, rfl⟩
  go_upto_region 6 with fail
  refine captureM ?_
  intro V eV
  have bV : Below u.heap.size u V := by rw [eV]; exact (by repeat (first | with_reducible exact Below.refl _ _ | with_reducible assumption | with_reducible refine Below.al ?_ _ | with_reducible refine Below.on ?_ _ | with_reducible refine Below.st ?_ (by first | assumption | (simp; done) | (simp; omega)) _ | with_reducible refine Below.drew ?_))
  have vz : V.heap.size = x5.it.heap.size + 1 := by rw [eV]; simp
  have cV : ∀ i q, (#[Value.int .i64 o, .int .i64 (K : Int), .bool false, .int .i64 vi, .string vs, .slice none 0 0, .int .i64 0, .int .i64 0] : Array Value)[i]? = some q → V.cell? ⟨x5.it.heap.size, i, none⟩ = some q := fun i q h => by rw [eV, World.cell?_alloc_at _ _ _ _ rfl]; exact h
  obtain ⟨d, hd⟩ : ∃ d : Nod, d = ⟨o, K, ⟨false, vi, vs⟩, [], 0, 0⟩ := ⟨_, rfl⟩
  have ND : Hid (NodsAt V V.heap.size (.slice (some ⟨x5.it.heap.size, 0, none⟩) 1 1) [d]) := Lib.hid (by rw [hd]; exact ⟨by simp, .inr ⟨x5.it.heap.size, 0, 1, rfl, by simp, by omega, fun j hj => by (obtain rfl : j = 0 := by (simp at hj; omega)); exact ⟨_, cV 0 _ rfl, cV 1 _ rfl, cV 2 _ rfl, cV 3 _ rfl, cV 4 _ rfl, cV 5 _ rfl, cV 6 _ rfl, cV 7 _ rfl, ⟨by simp, .inl ⟨rfl, none, 0, rfl⟩⟩⟩⟩⟩)
  have HP2 : Hid (predF cs key [d] = 0) := Lib.hid (by rw [hd]; exact pred_one' hPd.out.1 hKl (by have := HO.out; omega) HO.out.2 (by rw [HCK.out]; exact hPd.out.2))
  have HEX : Hid (∀ rows : List (List Val), posS cs (zonsOf cs rows) [d] = wantS (rows.map fun r => evalF cs r [d])) := Lib.hid fun rows => exact_law (K := K) HP2.out hKl (by rw [hd]) (by rw [hd]; exact HO.out.1) (by rw [hd]; exact HO.out.2)
  have g0 := (bV.cell (p := ⟨SB, 0, none⟩) zu).trans t0
  have g1 := (bV.cell (p := ⟨SB, 1, none⟩) zu).trans t1
  have zV : SB < V.heap.size := Nat.lt_of_lt_of_le zu bV.size
  have HCV := Lib.hid (HC2.out.mono bV bV.size)
  have J1V := Lib.hid ((J1.out.to fun k hk => bV.block k hk).mono bV.size)
  have ybV : Below w.heap.size w V := ybu.trans (bV.mono ybu.size)
  clear eV cV hd t0 t1 d0 d1 d2 d3 zy uz vz zu HC2 J1 VC PK3 hix HO HCK bV ybu hPd
  generalize (some ⟨x5.it.heap.size, 0, none⟩ : Option Addr) = pa at *
  generalize (some ⟨cb, co, none⟩ : Option Addr) = ca at *
  clear x5
  obtain ⟨np, hnp⟩ : ∃ np : Nat, np = 1 := ⟨_, rfl⟩
  go_upto_region 7 with (go_at_call 18; refine Calls.mono (rows_any _ cs key vm zm 6 _ HCV.out J1V.out (by decide) (by decide) SP.out.1 SP.out.2.2.1) ?_; rintro e w3 ⟨rv, rows, rfl, hr3, hl3, hv3, hb3⟩; obtain ⟨ra, rc, rfl⟩ := rows_end hr3; obtain ⟨nr, hnr⟩ : ∃ nr, rows.length = nr := ⟨_, rfl⟩; rw [hnr] at hr3 hl3 ⊢; have HR3 := Lib.hid hr3; have HV3 := Lib.hid hv3; have HB3 := Lib.hid hb3; have HNR := Lib.hid hnr; have q0 := (hb3.cell (p := ⟨SB, 0, none⟩) zV).trans g0; have q1 := (hb3.cell (p := ⟨SB, 1, none⟩) zV).trans g1; have z3 := Nat.lt_of_lt_of_le zV hb3.size; clear hr3 hv3 hnr hb3)
  have HC3 := Lib.hid (HCV.out.mono HB3.out HB3.out.size)
  have HN3 := Lib.hid (ND.out.mono HB3.out HB3.out.size)
  have yb3 : Below w.heap.size w w3 := ybV.trans (HB3.out.mono ybV.size)
  have L4 : rows.length ≤ 4096 := by rw [HNR.out]; omega
  have ZV : zsE cs (zonsOf cs rows) = 0 := zs_ok SP.out.1 L4 HV3.out
  obtain ⟨E, hE⟩ : ∃ E, (rows.map fun r => evalF cs r [d]) = E := ⟨_, rfl⟩
  have PF : posF cs key [d] (zonsOf cs rows) = ((wantS E).int, 0) := by unfold posF; rw [if_pos HP2.out, if_pos ZV, HEX.out, hE]
  have HPF := Lib.hid PF
  have HE : Hid (E.length = nr ∧ ∀ k (h : k < rows.length) (h' : k < E.length), E[k]'(h') = evalF cs (rows[k]'h) [d]) := Lib.hid (by subst hE; exact ⟨by rw [List.length_map, HNR.out], fun k h h' => by rw [List.getElem_map]⟩)
  have ZL : Hid ((zonsOf cs rows).length = cs.length) := Lib.hid (by unfold zonsOf; rw [zonsK_len])
  have L4' := Lib.hid L4
  clear g0 g1 zV HCV ND HB3 J1V ybV L4 ZV PF hE HEX
  go_wp2_with fail
  go_region_held3 (fun w' => w'.cell? ⟨SB, 0, none⟩ = some (.slice ca nn cc) ∧ w'.cell? ⟨SB, 1, none⟩ = some (.int .i64 key)) (first | exact ⟨by assumption, by assumption⟩ | (refine ⟨?_, ?_⟩ <;> simp [go_sem, *]))
    (first | (go_at_call 17; refine Calls.mono (zones_any _ cs key _ rows _ (HC3.out.mono (by repeat (first | with_reducible exact Below.refl _ _ | with_reducible assumption | with_reducible refine Below.al ?_ _ | with_reducible refine Below.on ?_ _ | with_reducible refine Below.st ?_ (by first | assumption | (simp; done) | (simp; omega)) _ | with_reducible refine Below.drew ?_)) (by simp)) (HR3.out.mono (by repeat (first | with_reducible exact Below.refl _ _ | with_reducible assumption | with_reducible refine Below.al ?_ _ | with_reducible refine Below.on ?_ _ | with_reducible refine Below.st ?_ (by first | assumption | (simp; done) | (simp; omega)) _ | with_reducible refine Below.drew ?_)) (by simp)) SP.out.2.2.1 L4'.out (fun r hr => (HV3.out r hr).1)) ?_; rintro e w4 ⟨colv, rfl, ho4, hb4⟩; obtain ⟨x4, rfl⟩ := Ext.of hb4; have HR4 := Lib.hid (own_zons (zs := zonsOf cs rows) (by have := SP.out.2.2.1; rw [ZL.out]; omega) (by rw [ZL.out]; exact ho4)); clear ho4; have z4 : SB < x4.it.heap.size := x4.lt (by simpa using z3); have p0 : x4.it.cell? ⟨SB, 0, none⟩ = some (.slice ca nn cc) := (x4.cell SB 0 (by simpa using z3)).trans q0; have p1 : x4.it.cell? ⟨SB, 1, none⟩ = some (.int .i64 key) := (x4.cell SB 1 (by simpa using z3)).trans q1) | (go_at_call 10; refine Calls.mono (possible_any _ cs key _ [d] _ (zonsOf cs rows) _ (HC3.out.mono (by repeat (first | with_reducible exact Below.refl _ _ | with_reducible assumption | with_reducible refine Below.al ?_ _ | with_reducible refine Below.on ?_ _ | with_reducible refine Below.st ?_ (by first | assumption | (simp; done) | (simp; omega)) _ | with_reducible refine Below.drew ?_)) (by simpa using x4.below.size)) (HN3.out.mono (by repeat (first | with_reducible exact Below.refl _ _ | with_reducible assumption | with_reducible refine Below.al ?_ _ | with_reducible refine Below.on ?_ _ | with_reducible refine Below.st ?_ (by first | assumption | (simp; done) | (simp; omega)) _ | with_reducible refine Below.drew ?_)) (by simpa using x4.below.size)) HR4.out) ?_; rw [HPF.out]; rintro e w5 ⟨rfl, hb5⟩; obtain ⟨x5, rfl⟩ := Ext.of hb5; have z5 : SB < x5.it.heap.size := x5.lt (by simpa using z4); have r0 : x5.it.cell? ⟨SB, 0, none⟩ = some (.slice ca nn cc) := (x5.cell SB 0 (by simpa using z4)).trans p0; have r1 : x5.it.cell? ⟨SB, 1, none⟩ = some (.int .i64 key) := (x5.cell SB 1 (by simpa using z4)).trans p1))
  have b35 : Below w3.heap.size w3 x5.it := by repeat (first | with_reducible exact Below.refl _ _ | with_reducible assumption | with_reducible refine Below.al ?_ _ | with_reducible refine Below.on ?_ _ | with_reducible refine Below.st ?_ (by first | assumption | (simp; done) | (simp; omega)) _ | with_reducible refine Below.drew ?_)
  have HC5 := Lib.hid (HC3.out.mono b35 b35.size)
  have HN5 := Lib.hid (HN3.out.mono b35 b35.size)
  have HR5 := Lib.hid (HR3.out.mono b35 b35.size)
  have B5 := Lib.hid (yb3.trans (b35.mono yb3.size))
  have nr9 : (nr : Int) ≤ 6 := hl3
  clear q0 q1 z3 z4 p0 p1 HR4 L4' HC3 HN3 HR3 b35 yb3
  go_wp2_with fail
  go_loopg [18, 60] nr (fun g f st wr => ∃ k : Nat, k + g = nr ∧ f = .int .i64 (wantS (E.take k)).int ∧ st = .int .i64 (k : Int) ∧ ∃ x : Ext x5.it, x.it = wr)
  case atStart => exact ⟨0, by omega, rfl, rfl, ⟨x5.it, Below.refl _ _⟩, rfl⟩
  case round =>
    obtain ⟨k, hk, rfl, rfl, x, rfl⟩ := hrel
    have hx := x.below
    have hxw : Below w.heap.size w x.it := B5.out.trans (hx.mono B5.out.size)
    by_cases hg0 : gk = 0
    · subst hg0
      obtain rfl : k = nr := by omega
      clear hk
      have ET : E.take k = E := List.take_of_length_le (by rw [HE.out.1]; exact Nat.le_refl _)
      rw [ET]
      go_wp2_with (go_at_call 15; refine (awake24 _).mono ?_; rintro e w6 ⟨rfl, hb6⟩; obtain ⟨x6, rfl⟩ := Ext.of hb6)
      exact bodyPost_ret (v := .bool true) (by simp [results, Try.results9, go_sem, *]) rfl (⟨rfl, by repeat (first | with_reducible exact Below.refl _ _ | with_reducible assumption | with_reducible refine Below.al ?_ _ | with_reducible refine Below.on ?_ _ | with_reducible refine Below.st ?_ (by first | assumption | (simp; done) | (simp; omega)) _ | with_reducible refine Below.drew ?_)⟩)
    · have hkm : k < nr := by omega
      have hkm' : (k : Int) < (nr : Int) := by omega
      have hkl : k < rows.length := by rw [HNR.out]; exact hkm
      have hkE : k < E.length := by rw [HE.out.1]; exact hkm
      obtain ⟨rb, ro, rfl, _, hrb, lv, e0, hlv⟩ := rows_in HR5.out hkl
      have RV := HV3.out _ (List.getElem_mem hkl)
      have EK := HE.out.2 k hkl hkE
      obtain ⟨row, hrow⟩ : ∃ row, rows[k]'hkl = row := ⟨_, rfl⟩
      rw [hrow] at hlv RV EK
      obtain ⟨la, lc, rfl⟩ := vals_end hlv
      have HLi := Lib.hid (hlv.mono hx hx.size)
      have HCi := Lib.hid (HC5.out.mono hx hx.size)
      have HNi := Lib.hid (HN5.out.mono hx hx.size)
      obtain ⟨tr, htr⟩ : ∃ tr, evalF cs row [d] = tr := ⟨_, rfl⟩
      have T3 := eval_3 cs row [d]
      have EP : evalP cs key [d] row = (tr, 0) := by
        have e1 : rowE cs row = 0 := by unfold rowE; rw [if_pos RV.1]; exact rowEs_pre fun i h h' => RV.2 i h' h
        unfold evalP
        rw [if_pos HP2.out, if_pos e1, htr]
      have EV := Lib.hid (by have h := refEval_any _ cs key _ [d] _ row x.it HCi.out HNi.out HLi.out; rw [EP] at h; exact h)
      have WS := wantS_snoc hkE
      rw [EK] at WS
      rw [htr] at T3 WS
      obtain ⟨S, hS⟩ : ∃ S, wantS (E.take k) = S := ⟨_, rfl⟩
      rw [hS] at WS ⊢
      have OR := ts_or S T3
      rw [← WS] at OR
      have HOR := Lib.hid OR
      have g0 := (hx.cell (p := ⟨SB, 0, none⟩) z5).trans r0
      have g1 := (hx.cell (p := ⟨SB, 1, none⟩) z5).trans r1
      have ge := (hx.cell (p := ⟨rb, ro + k, none⟩) hrb).trans e0
      have zs : SB < x.it.heap.size := Nat.lt_of_lt_of_le z5 hx.size
      have zr : rb < x.it.heap.size := Nat.lt_of_lt_of_le hrb hx.size
      have HK := Lib.hid (And.intro hk hg0)
      clear hk hg0 e0 hlv hrow RV htr EP r0 r1 HLi HCi HNi OR WS hS EK
      rcases T3 with rfl | rfl | rfl
      all_goals
        go_wp2_with (go_at_call 21; refine Calls.mono EV.out ?_; rintro e w6 ⟨rfl, hb6⟩; obtain ⟨x6, rfl⟩ := Ext.of hb6)
        go_roundg (gk - 1)
        case measure => have := HK.out; omega
        case rel => exact ⟨k + 1, by have := HK.out; omega, by rw [← HOR.out]; rfl, by go_num, ⟨x6.it, Below.on hx x6⟩, rfl⟩
end Go.Proofs.Ytfemekmkmiljdaa
