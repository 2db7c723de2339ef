/-
  CHAPTER 26: the walk of AggregateOrder. Conditions: the lists lie in memory.
-/
import Derived.Test.YtpahoenanfjhpaaZt
import Derived.Test.YtpahoenanfjhpaaZu
import Derived.Test.YtpahoenanfjhpaaOdpz
import Derived.Test.YtpahoenanfjhpaaKqyz
import Derived.Test.YtpahoenanfjhpaaZk
set_option linter.unusedVariables false
set_option linter.unusedSimpArgs false
namespace Go.Proofs.Ytpahoenanfjhpaa
open Go.RowKit
theorem step_append_rowg {P : Program} {w : World} {ops : Array Oper} {o : Oper} {a : Act} {K : Act → World → Prop} {Q : Exit → Act → World → Prop} {E : Prop} (hw : Region.wanted o (yielded ops a.tmps) = true) (s x : Operand) (t : TypeId)
    (ho : o.op = .call { callee := .builtin .append, args := #[s, x], argTypes := #[t, t] })
    (base : Nat) (e : TypeId) (i : TypeInfo) (z : Value) (size bytes : Nat) (ht : P.underlying t = some (.slice e)) (hi : P.info? e = some i) (hz : i.zero = some z) (hsize : i.size = size) (hby : i.bytes = bytes) (hzs : z.cells.size = size) (hsz : 0 < size)
    (v : Value) (n : Nat) (xs : List Value) (hs : a.eval s = v) (hown : w.ownsRow base e size v n xs) (xv : Value) (m : Nat) (news : List Value) (hxv : a.eval x = xv) (hx : SrcRow w xv m size news) (h63 : n + m ≤ maxLen) (hbytes : (n + m) * bytes ≤ 140737488355328) (hbase : base ≤ w.heap.size)
    (h : ∀ v' w', w'.ownsRow base e size v' (n + m) (xs ++ news) → w.grownBy w' v.ownBlock → (v'.ownBlock = v.ownBlock ∨ v'.ownBlock = some w.heap.size) → K (a.put o.dst v') w') : if Region.wanted o (yielded ops a.tmps) = true then Oper.wp P o a w K Q else E := by
  rw [if_pos hw]
  obtain ⟨v', w', hr, h2, h3, h4⟩ := run_append_row (P := P) base t o.type e i z size bytes ht hi hz hsize hby hzs hsz v n xs hown xv m news hx h63 hbytes hbase
  unfold Oper.wp execOp
  simp only [ho, resolve, invoke, builtin, Sem.run_bind, Sem.run_pure, Result.andThen_ok, List.map_toArray, List.map_cons, List.map_nil, hs, hxv, hr]
  exact h v' w' h2 h3 h4
theorem runF_ok {cs : List Col} {key : Int} {ns : List Nod} {pr gr : List Int} {ag : List Ag} {rows : List (List Val)} (hs : schemaF cs key = 0) (hq : queryE cs key ns pr gr ag = 0) (h4 : rows.length ≤ 4096) (hr : Fit cs rows) : runF cs key ns pr gr ag rows = resF cs pr gr ag (selR cs ns rows) := by
  unfold runF
  rw [if_pos hq, if_pos (batchE_rows hs h4 hr)]
theorem resF_proj {cs : List Col} {pr gr : List Int} (rows : List (List Val)) : resF cs pr gr [] rows = (rows.map fun r => projF r pr, 0) := by
  show (if ([] : List Ag).length = 0 then _ else _) = _
  exact if_pos rfl
theorem selR_app (cs : List Col) (ns : List Nod) (a b : List (List Val)) : selR cs ns (a ++ b) = selR cs ns a ++ selR cs ns b := by unfold selR; rw [List.filter_append]
set_option maxRecDepth 8000 in
set_option maxHeartbeats 4000000 in
theorem odw_walk (vx vl vm : Value) (zx zl zm : List Int) (col : Int) (w : World) (h0 : IntsAt w w.heap.size vx zx) (h1 : IntsAt w w.heap.size vl zl) (h2 : IntsAt w w.heap.size vm zm) :
    Calls Try.prog 4 #[vx, vl, vm, .int .i64 col] w fun e w' => e = .returned (.bool true) ∧ Below w.heap.size w w' := by
  obtain ⟨i1, hj, hy0, hy1, hy2⟩ := info_parts infoRow
  have H0 := Lib.hid h0
  have H1 := Lib.hid h1
  have H2 := Lib.hid h2
  clear h0 h1 h2
  go_enter Try.func4, Try.ntmps4
  go_upto_region 2 with (go_at_call 12; refine (keepSchema_any _ _ _ H0.out).mono ?_; rintro e w1 ⟨cv, cs, key, rfl, hc1, hs1, hl1, hb1⟩; obtain ⟨x1, rfl⟩ := Ext.of hb1; obtain ⟨ca, cc, rfl⟩ := cols_end hc1; obtain ⟨nn, hnn⟩ : ∃ nn, cs.length = nn := ⟨_, rfl⟩; rw [hnn] at hc1 hl1 ⊢; have HNN := Lib.hid hnn; clear hnn)
  refine captureM ?_
  intro y ey
  have yb1 : Below x1.it.heap.size x1.it y := by rw [ey]; exact (by repeat (first | with_reducible exact Below.refl _ _ | with_reducible assumption | with_reducible refine Below.al ?_ _ | with_reducible refine Below.on ?_ _ | with_reducible refine Below.st ?_ (by first | assumption | (simp; done) | (simp; omega)) _ | with_reducible refine Below.drew ?_))
  have yb : Below w.heap.size w y := by rw [ey]; exact (by repeat (first | with_reducible exact Below.refl _ _ | with_reducible assumption | with_reducible refine Below.al ?_ _ | with_reducible refine Below.on ?_ _ | with_reducible refine Below.st ?_ (by first | assumption | (simp; done) | (simp; omega)) _ | with_reducible refine Below.drew ?_))
  have z0 : x1.it.heap.size < y.heap.size := by rw [ey]; simp
  have s0 : y.cell? ⟨x1.it.heap.size, 0, none⟩ = some (.slice ca nn cc) := by rw [ey]; simp (maxDischargeDepth := 9) [go_sem, *]
  have s1 : y.cell? ⟨x1.it.heap.size, 1, none⟩ = some (.int .i64 key) := by rw [ey]; simp (maxDischargeDepth := 9) [go_sem, *]
  have HC := Lib.hid (hc1.mono yb1 yb1.size)
  have HS := Lib.hid hs1
  have I1 := Lib.hid ((H1.out.to fun k hk => yb.block k hk).mono yb.size)
  have I2 := Lib.hid (H2.out)
  clear ey hc1 hs1 hb1 yb1 H0 H1 H2
  generalize x1.it.heap.size = SB at *
  clear x1
  have KQ := Lib.hid (kquery_any (.slice ca nn cc) cs key vl zl y HC.out I1.out HS.out)
  have SP := Lib.hid (schema_parts HS.out)
  go_upto_region 3 with (go_at_call 13; refine Calls.mono KQ.out ?_; rintro e w2 ⟨nv, ns, pv, pr, gv, gr, av, ag, rfl, hn2, hp2, hg2, ha2, hq2, hl2, hb2⟩; obtain ⟨x2, rfl⟩ := Ext.of hb2; obtain ⟨na, nc, rfl⟩ := nods_end hn2; obtain ⟨pa, pc, rfl⟩ := ints_end hp2; obtain ⟨ga, gc, rfl⟩ := ints_end hg2; obtain ⟨aa, ac, rfl⟩ := ags_end ha2; have HN2 := Lib.hid hn2; have HP2 := Lib.hid hp2; have HG2 := Lib.hid hg2; have HA2 := Lib.hid ha2; have HQ2 := Lib.hid hq2; have HL2 := Lib.hid hl2; clear hn2 hp2 hg2 ha2 hq2 hl2)
  have u0 := (x2.below.cell (p := ⟨SB, 0, none⟩) z0).trans s0
  have u1 := (x2.below.cell (p := ⟨SB, 1, none⟩) z0).trans s1
  have uz := Nat.lt_of_lt_of_le z0 x2.below.size
  refine captureM ?_
  intro z ez
  obtain ⟨QB, hQB⟩ : ∃ q, x2.it.heap.size = q := ⟨_, rfl⟩
  have xz : Below x2.it.heap.size x2.it z := by rw [ez]; repeat (first | with_reducible exact Below.refl _ _ | with_reducible assumption | with_reducible refine Below.al ?_ _ | with_reducible refine Below.on ?_ _ | with_reducible refine Below.st ?_ (by first | assumption | (simp; done) | (simp; omega)) _ | with_reducible refine Below.drew ?_)
  have yz : Below y.heap.size y z := by rw [ez]; repeat (first | with_reducible exact Below.refl _ _ | with_reducible assumption | with_reducible refine Below.al ?_ _ | with_reducible refine Below.on ?_ _ | with_reducible refine Below.st ?_ (by first | assumption | (simp; done) | (simp; omega)) _ | with_reducible refine Below.drew ?_)
  have t0 := (xz.cell (p := ⟨SB, 0, none⟩) uz).trans u0
  have t1 := (xz.cell (p := ⟨SB, 1, none⟩) uz).trans u1
  have q0 : z.cell? ⟨x2.it.heap.size, 0, none⟩ = some (.slice na ns.length nc) := by rw [ez]; simp (maxDischargeDepth := 9) [go_sem, *]
  have q1 : z.cell? ⟨x2.it.heap.size, 1, none⟩ = some (.slice pa pr.length pc) := by rw [ez]; simp (maxDischargeDepth := 9) [go_sem, *]
  have q2 : z.cell? ⟨x2.it.heap.size, 2, none⟩ = some (.slice ga gr.length gc) := by rw [ez]; simp (maxDischargeDepth := 9) [go_sem, *]
  have q3 : z.cell? ⟨x2.it.heap.size, 3, none⟩ = some (.slice aa ag.length ac) := by rw [ez]; simp (maxDischargeDepth := 9) [go_sem, *]
  have zz : x2.it.heap.size < z.heap.size := by rw [ez]; simp
  have HNz := Lib.hid (HN2.out.mono xz xz.size)
  have HPz := Lib.hid (ints_on HP2.out xz xz.size)
  have HGz := Lib.hid (ints_on HG2.out xz xz.size)
  have HAz := Lib.hid (HA2.out.mono xz xz.size)
  have HCz := Lib.hid (HC.out.mono yz yz.size)
  have YZ := Lib.hid (Below.to yb yz)
  have J2 := Lib.hid (ints_on I2.out YZ.out YZ.out.size)
  rw [hQB] at q0 q1 q2 q3 zz ⊢
  have zS : SB < z.heap.size := Nat.lt_of_lt_of_le uz xz.size
  clear ez u0 u1 uz xz yz yb s0 s1 z0 HC I1 I2 KQ hQB hb2 HN2 HP2 HG2 HA2 x2
  go_upto_region 4 with (go_at_call 14; refine Calls.mono (rows_any _ cs key vm zm 9 _ HCz.out J2.out (by decide) (by decide) SP.out.1 SP.out.2.2.1) ?_; rintro e w3 ⟨rv, rows, rfl, hr3, hl3, hv3, hb3⟩; obtain ⟨ra, rc, rfl⟩ := rows_end hr3; obtain ⟨nr, hnr⟩ : ∃ nr, rows.length = nr := ⟨_, rfl⟩; rw [hnr] at hr3 hl3 ⊢; have HR3 := Lib.hid hr3; have HV3 := Lib.hid hv3; have HB3 := Lib.hid hb3; have HNR := Lib.hid hnr; clear hr3 hv3 hnr hb3)
  have nr9 : nr ≤ 9 := by omega
  have YB3 := Lib.hid (Below.to YZ.out HB3.out)
  have b3 := HB3.out
  have r0 := (b3.cell (p := ⟨SB, 0, none⟩) zS).trans t0
  have r1 := (b3.cell (p := ⟨SB, 1, none⟩) zS).trans t1
  have m0 := (b3.cell (p := ⟨QB, 0, none⟩) zz).trans q0
  have m1 := (b3.cell (p := ⟨QB, 1, none⟩) zz).trans q1
  have m2 := (b3.cell (p := ⟨QB, 2, none⟩) zz).trans q2
  have m3 := (b3.cell (p := ⟨QB, 3, none⟩) zz).trans q3
  have zS3 : SB < w3.heap.size := Nat.lt_of_lt_of_le zS b3.size
  have zQ3 : QB < w3.heap.size := Nat.lt_of_lt_of_le zz b3.size
  have HC3 := Lib.hid (HCz.out.mono b3 b3.size)
  have HN3 := Lib.hid (HNz.out.mono b3 b3.size)
  have HP3 := Lib.hid (ints_on HPz.out b3 b3.size)
  have HG3 := Lib.hid (ints_on HGz.out b3 b3.size)
  have HA3 := Lib.hid (HAz.out.mono b3 b3.size)
  have HF3 : Hid (Fit cs rows) := Lib.hid HV3.out
  obtain ⟨K, hKK⟩ : ∃ K : Nat, pickI col ((nr : Int) + 1) = (K : Int) := ⟨(pickI col ((nr : Int) + 1)).toNat, by have := (pickI_bd col (n := (nr : Int) + 1) (by omega)).1; omega⟩
  have hKn : K ≤ nr := by have := (pickI_bd col (n := (nr : Int) + 1) (by omega)).2; omega
  have PK := Lib.hid (fun W => (by have q := pick_any col ((nr : Int) + 1) (by omega) (by omega) W; rw [hKK] at q; exact q : Calls Try.prog 15 #[.int .i64 col, .int .i64 ((nr : Int) + 1)] W fun e w' => e = .returned (.int .i64 (K : Int)) ∧ W = w'))
  have RT := Lib.hid (rows_take HR3.out HNR.out hKn)
  have RD := Lib.hid (rows_drop HR3.out HNR.out hKn)
  have hrc : nr ≤ rc := by
    by_cases q : 0 < nr
    · obtain ⟨_, _, _, hmc, _⟩ := rows_in HR3.out (i := 0) (by rw [HNR.out]; exact q)
      rw [HNR.out] at hmc; exact hmc
    · omega
  obtain ⟨sT, hsT⟩ : ∃ s, sliced ra 0 K rc 1 = s := ⟨_, rfl⟩
  obtain ⟨sD, hsD⟩ : ∃ s, sliced ra K nr rc 1 = s := ⟨_, rfl⟩
  have slT : ∀ W : World, (Instr.slice 22 (.slice ra nr rc) none (some (.int .i64 (K : Int))) none).run Try.prog W = .ok sT W := fun W => by rw [← hsT]; exact run_rows_h (Nat.le_trans hKn hrc) W
  have slD : ∀ W : World, (Instr.slice 22 (.slice ra nr rc) (some (.int .i64 (K : Int))) none none).run Try.prog W = .ok sD W := fun W => by rw [← hsD]; exact run_rows_l hKn W
  rw [hsT] at RT
  rw [hsD] at RD
  obtain ⟨psT, LT, ST⟩ := rows_src RT.out
  obtain ⟨psD, LD, SD⟩ := rows_src RD.out
  have ltT : (rows.take K).length = K := by rw [List.length_take, HNR.out]; omega
  have ltD : (rows.drop K).length = nr - K := by rw [List.length_drop, HNR.out]
  rw [ltT] at ST
  rw [ltD] at SD
  have lT : psT.length = K := by rw [LT.1, ltT]
  have lD : psD.length = nr - K := by rw [LD.1, ltD]
  obtain ⟨ta, tc, hte⟩ := rows_end RT.out
  rw [ltT] at hte
  subst hte
  have HLT := Lib.hid (And.intro LT ST)
  have HLD := Lib.hid (And.intro LD SD)
  have hK9 : K ≤ 9 := by omega
  have LLL := Lib.hid (And.intro lT lD)
  clear hKK hsT hsD LT ST LD SD ltT ltD t0 t1 q0 q1 q2 q3 HCz HNz HPz HGz HAz J2 b3 lT lD
  go_upto_region 5 with (go_at_call 15; refine Calls.mono (PK.out _) ?_; rintro e w' ⟨rfl, rfl⟩)
  go_region_law ((first
    | (refine step_append_rowg (by rfl) _ _ 22 (by rfl) w3.heap.size 41 i1 _ 1 24 Try.underlying22 hj hy0 hy1 hy2 rfl (by decide) (.slice none 0 0) 0 [] (by rfl) (World.ownsRow_nil _ _ _ _) sD (nr - K) psD (by rfl) (HLD.out.2 _ (Below.refl _ _).drew) (by unfold maxLen; omega) (by omega) (by simp) ?_; intro v7 w7 hown hgrow hat; have O7 : Hid (w7.ownsRow w3.heap.size 41 1 v7 (nr - K) psD) := Lib.hid (by simpa using hown); clear hown; have hown := O7.out; have G7 : Hid (Below w3.heap.size w3 w7) := Lib.hid (Below.gr (Below.refl _ _).drew (World.ownsRow_nil w3 _ 41 1) hgrow); obtain ⟨a7, c7, rfl⟩ := own_form hown; clear hown hgrow hat)
    | (refine step_append_rowg (by rfl) _ _ 22 (by rfl) w3.heap.size 41 i1 _ 1 24 Try.underlying22 hj hy0 hy1 hy2 rfl (by decide) (.slice a7 (nr - K) c7) (nr - K) psD (by rfl) O7.out (.slice ta K tc) K psT (by rfl) (HLT.out.2 _ G7.out) (by unfold maxLen; omega) (by omega) (by have := G7.out.size; omega) ?_; intro v8 w8 hown hgrow hat; have O8 := Lib.hid hown; have G8 : Hid (Below w3.heap.size w3 w8) := Lib.hid (Below.gr G7.out O7.out hgrow); obtain ⟨a8, c8, rfl⟩ := own_form hown; clear hown hgrow hat)))
  have hm8 : nr - K + K = nr := Nat.sub_add_cancel hKn
  have LT8 : Hid ((rows.drop K ++ rows.take K).length = nr) := Lib.hid (by rw [List.length_append, List.length_drop, List.length_take, HNR.out]; omega)
  have R8 : Hid (RowsAt w8 w8.heap.size (.slice a8 nr c8) (rows.drop K ++ rows.take K)) := Lib.hid (by
    have q := O8.out
    rw [hm8] at q
    exact own_rowsL (T := 41) (base := w3.heap.size) (by rw [LT8.out]; omega) ((HLD.out.1.app HLT.out.1).mono G8.out G8.out.size) (by rw [List.length_append, LLL.out.1, LLL.out.2, hm8]; exact q))
  have FT8 : Hid (Fit cs (rows.drop K ++ rows.take K)) := Lib.hid (fun r hr => HF3.out r (by rcases List.mem_append.1 hr with q | q; exact List.mem_of_mem_drop q; exact List.mem_of_mem_take q))
  try rw [hm8]
  have b8 := G8.out
  have n0 := (b8.cell (p := ⟨SB, 0, none⟩) zS3).trans r0
  have n1 := (b8.cell (p := ⟨SB, 1, none⟩) zS3).trans r1
  have k0 := (b8.cell (p := ⟨QB, 0, none⟩) zQ3).trans m0
  have k1 := (b8.cell (p := ⟨QB, 1, none⟩) zQ3).trans m1
  have k2 := (b8.cell (p := ⟨QB, 2, none⟩) zQ3).trans m2
  have k3 := (b8.cell (p := ⟨QB, 3, none⟩) zQ3).trans m3
  have zS8 : SB < w8.heap.size := Nat.lt_of_lt_of_le zS3 b8.size
  have zQ8 : QB < w8.heap.size := Nat.lt_of_lt_of_le zQ3 b8.size
  have YB8 := Lib.hid (Below.to YB3.out b8)
  have yb8 := YB8.out
  clear r0 r1 m0 m1 m2 m3 slD O7 O8 G7 PK b8 hm8
  by_cases hag : ag.length = 0
  · have agn : ag = [] := List.eq_nil_of_length_eq_zero hag
    obtain ⟨A, hA⟩ : ∃ A, (selR cs ns rows).map (fun r => projF r pr) = A := ⟨_, rfl⟩
    obtain ⟨B, hB⟩ : ∃ B, (selR cs ns (rows.drop K ++ rows.take K)).map (fun r => projF r pr) = B := ⟨_, rfl⟩
    have E1 : resF cs pr gr ag (selR cs ns rows) = (A, 0) := by rw [agn, resF_proj, hA]
    have E2 : resF cs pr gr ag (selR cs ns (rows.drop K ++ rows.take K)) = (B, 0) := by rw [agn, resF_proj, hB]
    have ta0 : ¬ (ag.length : Int) > 0 := by omega
    have ta1 : ((0 : Int) < (ag.length : Int)) = False := by simp only [eq_iff_iff, iff_false]; omega
    have ta2 : (0 < ag.length) = False := by simp only [eq_iff_iff, iff_false]; omega
    clear hag agn
    have RA : Hid (∀ W, Below w8.heap.size w8 W → Calls Try.prog 7 #[.agg #[.slice ca nn cc, .int .i64 key], .agg #[.slice na ns.length nc, .slice pa pr.length pc, .slice ga gr.length gc, .slice aa ag.length ac], .slice ra nr rc] W (ResPost W A 0)) := Lib.hid (fun W hW => by
      have hb := Below.to G8.out hW
      have q := arun_any (.slice ca nn cc) cs key (.slice na ns.length nc) ns (.slice pa pr.length pc) pr (.slice ga gr.length gc) gr (.slice aa ag.length ac) ag (.slice ra nr rc) rows W (HC3.out.mono hb hb.size) (HN3.out.mono hb hb.size) (ints_on HP3.out hb hb.size) (ints_on HG3.out hb hb.size) (HA3.out.mono hb hb.size) (HR3.out.mono hb hb.size) (fun d hd => Nat.le_trans (HL2.out d hd) (by decide))
      rw [runF_ok HS.out HQ2.out (by rw [HNR.out]; omega) HF3.out, E1] at q
      exact q)
    have RB : Hid (∀ W, Below w8.heap.size w8 W → Calls Try.prog 7 #[.agg #[.slice ca nn cc, .int .i64 key], .agg #[.slice na ns.length nc, .slice pa pr.length pc, .slice ga gr.length gc, .slice aa ag.length ac], .slice a8 nr c8] W (ResPost W B 0)) := Lib.hid (fun W hW => by
      have hb := Below.to G8.out hW
      have q := arun_any (.slice ca nn cc) cs key (.slice na ns.length nc) ns (.slice pa pr.length pc) pr (.slice ga gr.length gc) gr (.slice aa ag.length ac) ag (.slice a8 nr c8) (rows.drop K ++ rows.take K) W (HC3.out.mono hb hb.size) (HN3.out.mono hb hb.size) (ints_on HP3.out hb hb.size) (ints_on HG3.out hb hb.size) (HA3.out.mono hb hb.size) (R8.out.mono hW hW.size) (fun d hd => Nat.le_trans (HL2.out d hd) (by decide))
      rw [runF_ok HS.out HQ2.out (by rw [LT8.out]; omega) FT8.out, E2] at q
      exact q)
    go_upto_region 7 with (go_at_call 7; refine Calls.mono (RA.out _ (by repeat (first | with_reducible exact Below.refl _ _ | with_reducible assumption | with_reducible refine Below.al ?_ _ | with_reducible refine Below.on ?_ _ | with_reducible refine Below.st ?_ (by first | assumption | (simp; done) | (simp; omega)) _ | with_reducible refine Below.drew ?_))) ?_; rintro e w5 ⟨v5, rfl, hr5, hb5⟩; obtain ⟨x5, rfl⟩ := Ext.of hb5; have R5 := Lib.hid hr5; clear hr5)
    go_upto_region 8 with (go_at_call 7; refine Calls.mono (RB.out _ (by repeat (first | with_reducible exact Below.refl _ _ | with_reducible assumption | with_reducible refine Below.al ?_ _ | with_reducible refine Below.on ?_ _ | with_reducible refine Below.st ?_ (by first | assumption | (simp; done) | (simp; omega)) _ | with_reducible refine Below.drew ?_))) ?_; rintro e w6 ⟨v6, rfl, hr6, hb6⟩; obtain ⟨x6, rfl⟩ := Ext.of hb6; have R6 := Lib.hid hr6; clear hr6)
    have zQ5 : QB < x5.it.heap.size := Nat.lt_of_lt_of_le zQ8 x5.below.size
    have zQ6 : QB < x6.it.heap.size := Nat.lt_of_lt_of_le zQ5 x6.below.size
    have k36 := (x6.below.cell (p := ⟨QB, 3, none⟩) zQ5).trans ((x5.below.cell (p := ⟨QB, 3, none⟩) zQ8).trans k3)
    obtain ⟨W0, hW0⟩ : ∃ n : Nat, (selR cs ns (rows.take K)).length = n := ⟨_, rfl⟩
    have ST : selR cs ns rows = selR cs ns (rows.take K) ++ selR cs ns (rows.drop K) := by rw [← selR_app, List.take_append_drop]
    have AT : A.take W0 = (selR cs ns (rows.take K)).map (fun r => projF r pr) := by rw [← hA, ST, List.map_append, ← hW0, List.take_left' (by rw [List.length_map])]
    have AD : A.drop W0 = (selR cs ns (rows.drop K)).map (fun r => projF r pr) := by rw [← hA, ST, List.map_append, ← hW0, List.drop_left' (by rw [List.length_map])]
    have BE : B = A.drop W0 ++ A.take W0 := by rw [← hB, selR_app, List.map_append, AT, AD]
    have LAB : B.length = A.length := by rw [BE, List.length_append, List.length_drop, List.length_take]; omega
    have W0A : W0 ≤ A.length := by rw [← hA, List.length_map, ST, List.length_append, hW0]; omega
    have A9 : A.length ≤ 9 := by rw [← hA, List.length_map]; have := List.length_filter_le (fun r => evalF cs r ns == 1) rows; rw [HNR.out] at this; unfold selR; omega
    obtain ⟨a5, c5, rfl⟩ := rows_end R5.out
    obtain ⟨a6, c6, rfl⟩ := rows_end R6.out
    rw [LAB] at R6 ⊢
    obtain ⟨LA, hLA⟩ : ∃ n, A.length = n := ⟨_, rfl⟩
    rw [hLA] at R5 R6 W0A A9 ⊢
    have HLA := Lib.hid hLA
    have R5T := Lib.hid (rows_take R5.out hLA W0A)
    have R5D := Lib.hid (rows_drop R5.out hLA W0A)
    have hLc : LA ≤ c5 := by
      by_cases q : 0 < LA
      · obtain ⟨_, _, _, hmc, _⟩ := rows_in R5.out (i := 0) (by rw [hLA]; exact q)
        rw [hLA] at hmc; exact hmc
      · omega
    obtain ⟨s5T, hs5T⟩ : ∃ s, sliced a5 0 W0 c5 1 = s := ⟨_, rfl⟩
    obtain ⟨s5D, hs5D⟩ : ∃ s, sliced a5 W0 LA c5 1 = s := ⟨_, rfl⟩
    have sl5T : ∀ W : World, (Instr.slice 22 (.slice a5 LA c5) none (some (.int .i64 (W0 : Int))) none).run Try.prog W = .ok s5T W := fun W => by rw [← hs5T]; exact run_rows_h (Nat.le_trans W0A hLc) W
    have sl5D : ∀ W : World, (Instr.slice 22 (.slice a5 LA c5) (some (.int .i64 (W0 : Int))) none none).run Try.prog W = .ok s5D W := fun W => by rw [← hs5D]; exact run_rows_l W0A W
    rw [hs5T] at R5T
    rw [hs5D] at R5D
    obtain ⟨qT, MT, XT⟩ := rows_src R5T.out
    obtain ⟨qD, MD, XD⟩ := rows_src R5D.out
    have ltT : (A.take W0).length = W0 := by rw [List.length_take, hLA]; omega
    have ltD : (A.drop W0).length = LA - W0 := by rw [List.length_drop, hLA]
    rw [ltT] at XT
    rw [ltD] at XD
    have MM := Lib.hid (And.intro MD (And.intro XD (And.intro MT XT)))
    have lTT : qT.length = W0 := by rw [MT.1, ltT]
    have lDD : qD.length = LA - W0 := by rw [MD.1, ltD]
    have QQ := Lib.hid (And.intro lTT lDD)
    have BEH := Lib.hid BE
    have HW0 := Lib.hid hW0
    have W09 : (W0 : Int) ≤ 9 := by omega
    have W0L : (W0 : Int) ≤ (LA : Int) := by omega
    have bx5 : Below w8.heap.size w8 x6.it := Below.on x5.below x6
    have BX := Lib.hid bx5
    have g0 := (bx5.cell (p := ⟨SB, 0, none⟩) zS8).trans n0
    have g1 := (bx5.cell (p := ⟨SB, 1, none⟩) zS8).trans n1
    have g2 := (bx5.cell (p := ⟨QB, 0, none⟩) zQ8).trans k0
    clear hA hB E1 E2 RA RB ST AT AD BE LAB hLA hs5T hs5D MT XT MD XD ltT ltD lTT lDD R5T R5D hb5 hb6 bx5
    go_wp2_with fail
    go_loopg [18, 75] K (fun g s18 s75 wr => ∃ k : Nat, k + g = K ∧ s75 = .int .i64 (k : Int) ∧ s18 = .int .i64 ((selR cs ns ((rows.take K).take k)).length : Int) ∧ ∃ x7 : Ext x6.it, x7.it = wr)
    case atStart => exact ⟨0, by omega, rfl, rfl, ⟨x6.it, Below.refl _ _⟩, rfl⟩
    case round =>
      obtain ⟨k, hk, rfl, rfl, x7, rfl⟩ := hrel
      have b7 : Below w8.heap.size w8 x7.it := Below.on BX.out x7
      have b3 : Below w3.heap.size w3 x7.it := Below.to G8.out b7
      have e0' := (x7.below.cell (p := ⟨SB, 0, none⟩) (Nat.lt_of_lt_of_le zS8 BX.out.size)).trans g0
      have e1' := (x7.below.cell (p := ⟨SB, 1, none⟩) (Nat.lt_of_lt_of_le zS8 BX.out.size)).trans g1
      have e2' := (x7.below.cell (p := ⟨QB, 0, none⟩) (Nat.lt_of_lt_of_le zQ8 BX.out.size)).trans g2
      have zs : SB < x7.it.heap.size := Nat.lt_of_lt_of_le zS8 b7.size
      have zq : QB < x7.it.heap.size := Nat.lt_of_lt_of_le zQ8 b7.size
      have ltK : (rows.take K).length = K := by rw [List.length_take, HNR.out]; omega
      have LTK := Lib.hid ltK
      by_cases hg0 : gk = 0
      · subst hg0
        obtain rfl : k = K := by omega
        have tk : ¬ (k : Int) < (k : Int) := by omega
        have EW : (selR cs ns ((rows.take k).take k)).length = W0 := by rw [List.take_of_length_le (by rw [LTK.out]; exact Nat.le_refl _), HW0.out]
        rw [EW]
        have b57 : Below x5.it.heap.size x5.it x7.it := Below.on x6.below x7
        have B57 := Lib.hid b57
        have B67 := Lib.hid x7.below
        have SDH : Hid (∀ W, Below x7.it.heap.size x7.it W → SrcRow W s5D (LA - W0) 1 qD ∧ SrcRow W s5T W0 1 qT) := Lib.hid (fun W hW => ⟨MM.out.2.1 W (Below.to B57.out hW), MM.out.2.2.2 W (Below.to B57.out hW)⟩)
        have FIN : Hid (∀ W v, Below x7.it.heap.size x7.it W → W.ownsRow x7.it.heap.size 41 1 v LA (qD ++ qT) → RowsAt W W.heap.size v B ∧ RowsAt W W.heap.size (.slice a6 LA c6) B) := Lib.hid (fun W v hW ho => ⟨by
          rw [BEH.out]
          exact own_rowsL (T := 41) (base := x7.it.heap.size) (by rw [← BEH.out]; have := R6.out.1; exact this) ((MM.out.1.app MM.out.2.2.1).mono (Below.to B57.out hW) (Below.to B57.out hW).size) (by rw [List.length_append, QQ.out.1, QQ.out.2, Nat.sub_add_cancel W0A]; exact ho), R6.out.mono (Below.to B67.out hW) (Below.to B67.out hW).size⟩)
        clear hk EW b57 b3 e0' e1' e2' g0 g1 g2 n0 n1 k0 k1 k2 k3 yb8 b7 ltK slT
        have ybb : Below w.heap.size w x7.it := Below.to YB8.out (Below.on BX.out x7)
        go_upto_region 20 with fail
        go_region_held3 (fun w' => x7.it.heap.size ≤ w'.heap.size) (first | exact Nat.le_refl _ | with_reducible assumption | (simp; done))
          (first
          | (go_at_call 16; refine Calls.mono (awake26 _) ?_; rintro e w9 ⟨rfl, hb9⟩; obtain ⟨x9, rfl⟩ := Ext.of hb9; have B9 : Below x7.it.heap.size x7.it x9.it := (by repeat (first | with_reducible exact Below.refl _ _ | with_reducible assumption | with_reducible refine Below.al ?_ _ | with_reducible refine Below.on ?_ _ | with_reducible refine Below.st ?_ (by first | assumption | (simp; done) | (simp; omega)) _ | with_reducible refine Below.drew ?_)); have z9 := B9.size)
          | (refine step_append_rowg (by kernel_rfl) _ _ 22 (by rfl) x7.it.heap.size 41 i1 _ 1 24 Try.underlying22 hj hy0 hy1 hy2 rfl (by decide) (.slice none 0 0) 0 [] (by rfl) (World.ownsRow_nil _ _ _ _) s5D (LA - W0) qD (by rfl) (SDH.out _ B9).1 (by unfold maxLen; omega) (by omega) (by have := B9.size; omega) ?_; intro v10 w10 hown hgrow hat; have O10 : Hid (w10.ownsRow x7.it.heap.size 41 1 v10 (LA - W0) qD) := Lib.hid (by simpa using hown); clear hown; have hown := O10.out; have G10 : Hid (Below x7.it.heap.size x7.it w10) := Lib.hid (Below.gr B9 (World.ownsRow_nil x9.it x7.it.heap.size 41 1) hgrow); obtain ⟨a10, c10, rfl⟩ := own_form hown; have z10 := G10.out.size; clear hown hgrow hat)
          | (refine step_append_rowg (by kernel_rfl) _ _ 22 (by rfl) x7.it.heap.size 41 i1 _ 1 24 Try.underlying22 hj hy0 hy1 hy2 rfl (by decide) (.slice a10 (LA - W0) c10) (LA - W0) qD (by rfl) O10.out s5T W0 qT (by rfl) (SDH.out _ G10.out).2 (by unfold maxLen; omega) (by omega) (by have := G10.out.size; omega) ?_; intro v11 w11 hown hgrow hat; rw [Nat.sub_add_cancel W0A] at hown; have O11 := Lib.hid hown; have G11 : Hid (Below x7.it.heap.size x7.it w11) := Lib.hid (Below.gr G10.out O10.out hgrow); have YF : Below w.heap.size w w11 := Below.to ybb G11.out; obtain ⟨a11, c11, rfl⟩ := own_form hown; have z11 := G11.out.size; clear hown hgrow hat)
          | (go_at_call 11; refine Calls.mono (same_lists _ _ B _ (FIN.out _ _ G11.out O11.out).1 (FIN.out _ _ G11.out O11.out).2) ?_; rintro e w12 ⟨rfl, hb12⟩; obtain ⟨x12, rfl⟩ := Ext.of hb12; have z12 := Nat.le_trans z11 x12.below.size))
        all_goals go_wp2
        all_goals (refine bodyPost_ret (v := .bool true) ?_ rfl ⟨rfl, Below.on YF x12⟩)
        all_goals (simp (maxDischargeDepth := 9) [results, Try.results4, go_sem, *])
      · have hkm : k < K := by omega
        have hkm' : (k : Int) < (K : Int) := by omega
        have hkl : k < (rows.take K).length := by rw [LTK.out]; exact hkm
        obtain ⟨rb, ro, rfl, _, hrb, lv, e0, hlr⟩ := rows_in RT.out hkl
        have RV := HF3.out _ (List.mem_of_mem_take (List.getElem_mem hkl))
        have WT : selR cs ns ((rows.take K).take (k + 1)) = selR cs ns ((rows.take K).take k) ++ [(rows.take K)[k]'hkl].filter (fun r => evalF cs r ns == 1) := by unfold selR; rw [List.take_succ_eq_append_getElem hkl, List.filter_append]
        obtain ⟨row, hrow⟩ : ∃ row, (rows.take K)[k]'hkl = row := ⟨_, rfl⟩
        rw [hrow] at hlr RV WT
        obtain ⟨la, lc, rfl⟩ := vals_end hlr
        have HLi := Lib.hid (hlr.mono b3 b3.size)
        have HCi := Lib.hid (HC3.out.mono b3 b3.size)
        have HNi := Lib.hid (HN3.out.mono b3 b3.size)
        obtain ⟨tr, htr⟩ : ∃ tr, evalF cs row ns = tr := ⟨_, rfl⟩
        have EP : evalP cs key ns row = (tr, 0) := by
          have e1 : rowE cs row = 0 := by unfold rowE; rw [if_pos RV.1]; exact rowEs_pre fun i h h' => RV.2 i h' h
          unfold evalP
          rw [if_pos (queryE_ok HQ2.out).pred, if_pos e1, htr]
        have EV := Lib.hid (by have h := refEval_any _ cs key _ ns _ row x7.it HCi.out HNi.out HLi.out; rw [EP] at h; exact h)
        obtain ⟨rl, hrl⟩ : ∃ rl, row.length = rl := ⟨_, rfl⟩
        rw [hrl] at e0 HLi EV
        have ge := (b3.cell (p := ⟨rb, ro + k, none⟩) hrb).trans e0
        have zr : rb < x7.it.heap.size := Nat.lt_of_lt_of_le hrb b3.size
        have HK := Lib.hid (And.intro hk hg0)
        have wl : (selR cs ns ((rows.take K).take k)).length ≤ k := by have := List.length_filter_le (fun r => evalF cs r ns == 1) ((rows.take K).take k); rw [List.length_take] at this; unfold selR; omega
        obtain ⟨U0, hU0⟩ : ∃ n : Nat, (selR cs ns ((rows.take K).take k)).length = n := ⟨_, rfl⟩
        have WT2 : (selR cs ns ((rows.take K).take (k + 1))).length = U0 + ([row].filter (fun r => evalF cs r ns == 1)).length := by rw [WT, List.length_append, hU0]
        rw [hU0] at wl ⊢
        have w10 : (U0 : Int) ≤ 10 := by omega
        have HTR := Lib.hid htr
        have WTT := Lib.hid WT2
        clear hk hg0 e0 hlr hrow RV EP htr HCi hrl WT WT2 hU0 sl5T sl5D slT
        go_upto_region 17 with (go_at_call 17; refine Calls.mono EV.out ?_; rintro e w6 ⟨rfl, hb6⟩; obtain ⟨x8, rfl⟩ := Ext.of hb6)
        by_cases t1 : tr = 1
        · subst t1
          have W1 : ((selR cs ns ((rows.take K).take (k + 1))).length : Int) = (U0 : Int) + 1 := by rw [WTT.out]; simp [List.filter, HTR.out]
          go_wp2
          go_roundg (gk - 1)
          case measure => have := HK.out; omega
          case rel => exact ⟨k + 1, by have := HK.out; omega, by go_num, by rw [W1], ext_of (Below.on x7.below x8)⟩
        · have t1' : (tr == 1) = false := by simpa using t1
          have W1 : (selR cs ns ((rows.take K).take (k + 1))).length = U0 := by rw [WTT.out]; simp [List.filter, HTR.out, t1']
          go_wp2
          go_roundg (gk - 1)
          case measure => have := HK.out; omega
          case rel => exact ⟨k + 1, by have := HK.out; omega, by go_num, by rw [W1], ext_of (Below.on x7.below x8)⟩
  · have QO := queryE_ok HQ2.out
    have PM : (selR cs ns rows).Perm (selR cs ns (rows.drop K ++ rows.take K)) := by
      unfold selR
      refine List.Perm.filter _ ?_
      conv => lhs; rw [← List.take_append_drop K rows]
      exact List.perm_append_comm
    obtain ⟨R, hR⟩ : ∃ R, resF cs pr gr ag (selR cs ns rows) = R := ⟨_, rfl⟩
    have E2 : resF cs pr gr ag (selR cs ns (rows.drop K ++ rows.take K)) = R := by
      rw [← hR]
      exact (resF_perm QO.ing QO.ags PM (fun r hr => HF3.out r (List.mem_filter.1 hr).1) hag).symm
    have RA : Hid (∀ W, Below w8.heap.size w8 W → Calls Try.prog 7 #[.agg #[.slice ca nn cc, .int .i64 key], .agg #[.slice na ns.length nc, .slice pa pr.length pc, .slice ga gr.length gc, .slice aa ag.length ac], .slice ra nr rc] W (ResPost W R.1 R.2)) := Lib.hid (fun W hW => by
      have hb := Below.to G8.out hW
      have q := arun_any (.slice ca nn cc) cs key (.slice na ns.length nc) ns (.slice pa pr.length pc) pr (.slice ga gr.length gc) gr (.slice aa ag.length ac) ag (.slice ra nr rc) rows W (HC3.out.mono hb hb.size) (HN3.out.mono hb hb.size) (ints_on HP3.out hb hb.size) (ints_on HG3.out hb hb.size) (HA3.out.mono hb hb.size) (HR3.out.mono hb hb.size) (fun d hd => Nat.le_trans (HL2.out d hd) (by decide))
      rw [runF_ok HS.out HQ2.out (by rw [HNR.out]; omega) HF3.out, hR] at q
      exact q)
    have RB : Hid (∀ W, Below w8.heap.size w8 W → Calls Try.prog 7 #[.agg #[.slice ca nn cc, .int .i64 key], .agg #[.slice na ns.length nc, .slice pa pr.length pc, .slice ga gr.length gc, .slice aa ag.length ac], .slice a8 nr c8] W (ResPost W R.1 R.2)) := Lib.hid (fun W hW => by
      have hb := Below.to G8.out hW
      have q := arun_any (.slice ca nn cc) cs key (.slice na ns.length nc) ns (.slice pa pr.length pc) pr (.slice ga gr.length gc) gr (.slice aa ag.length ac) ag (.slice a8 nr c8) (rows.drop K ++ rows.take K) W (HC3.out.mono hb hb.size) (HN3.out.mono hb hb.size) (ints_on HP3.out hb hb.size) (ints_on HG3.out hb hb.size) (HA3.out.mono hb hb.size) (R8.out.mono hW hW.size) (fun d hd => Nat.le_trans (HL2.out d hd) (by decide))
      rw [runF_ok HS.out HQ2.out (by rw [LT8.out]; omega) FT8.out, E2] at q
      exact q)
    go_upto_region 7 with (go_at_call 7; refine Calls.mono (RA.out _ (by repeat (first | with_reducible exact Below.refl _ _ | with_reducible assumption | with_reducible refine Below.al ?_ _ | with_reducible refine Below.on ?_ _ | with_reducible refine Below.st ?_ (by first | assumption | (simp; done) | (simp; omega)) _ | with_reducible refine Below.drew ?_))) ?_; rintro e w5 ⟨v5, rfl, hr5, hb5⟩; obtain ⟨x5, rfl⟩ := Ext.of hb5; have R5 := Lib.hid hr5; clear hr5)
    go_upto_region 8 with (go_at_call 7; refine Calls.mono (RB.out _ (by repeat (first | with_reducible exact Below.refl _ _ | with_reducible assumption | with_reducible refine Below.al ?_ _ | with_reducible refine Below.on ?_ _ | with_reducible refine Below.st ?_ (by first | assumption | (simp; done) | (simp; omega)) _ | with_reducible refine Below.drew ?_))) ?_; rintro e w6 ⟨v6, rfl, hr6, hb6⟩; obtain ⟨x6, rfl⟩ := Ext.of hb6; have R6 := Lib.hid hr6; clear hr6)
    have zQ5 : QB < x5.it.heap.size := Nat.lt_of_lt_of_le zQ8 x5.below.size
    have zQ6 : QB < x6.it.heap.size := Nat.lt_of_lt_of_le zQ5 x6.below.size
    have k36 := (x6.below.cell (p := ⟨QB, 3, none⟩) zQ5).trans ((x5.below.cell (p := ⟨QB, 3, none⟩) zQ8).trans k3)
    have ta0 : (ag.length : Int) > 0 := by omega
    have ta1 : (0 : Int) < (ag.length : Int) := by omega
    have ta2 : 0 < ag.length := by omega
    have b7 : Below w8.heap.size w8 x6.it := Below.on x5.below x6
    have R56 := Lib.hid (R5.out.mono x6.below x6.below.size)
    clear hR E2 RA RB slT PM QO
    go_wp2_with (first
      | (go_at_call 16; refine Calls.mono (awake26 _) ?_; rintro e w9 ⟨rfl, hb9⟩; obtain ⟨x9, rfl⟩ := Ext.of hb9; have R59 := Lib.hid (R56.out.mono x9.below x9.below.size); have R69 := Lib.hid (R6.out.mono x9.below x9.below.size))
      | (go_at_call 11; refine Calls.mono (same_lists _ _ R.1 _ R59.out R69.out) ?_; rintro e w10 ⟨rfl, hb10⟩; obtain ⟨x10, rfl⟩ := Ext.of hb10))
    exact bodyPost_ret (v := .bool true) (by simp [results, Try.results4, go_sem, *]) rfl (⟨rfl, by repeat (first | with_reducible exact Below.refl _ _ | with_reducible assumption | with_reducible refine Below.al ?_ _ | with_reducible refine Below.on ?_ _ | with_reducible refine Below.st ?_ (by first | assumption | (simp; done) | (simp; omega)) _ | with_reducible refine Below.drew ?_)⟩)
end Go.Proofs.Ytpahoenanfjhpaa
