/-
  BATCHSPLITS: the walk. Conditions: the raw records lie in memory; at most 2^42 of them, their rows of at most 2^42 values.
-/
import Derived.Test.YtkblkjfejaflkaaBsq
set_option linter.unusedVariables false
set_option linter.unusedSimpArgs false
namespace Go.Proofs.Ytkblkjfejaflkaa
open Go.RowKit Go.ChangeShapes Go.WideShapes Go.ChangeAt
set_option maxRecDepth 8000 in
set_option maxHeartbeats 4000000 in
theorem bsl_walk (rv : Value) (rrs : List Rc) (n : Int) (vx vl : Value) (zx zl : List Int) (w : World)
    (hrr : RecsAt w w.heap.size rv rrs) (hlen : rrs.length ≤ 4398046511104) (hrow : ∀ r ∈ rrs, r.row.length ≤ 4398046511104) (hn : isI n) (h0 : IntsAt w w.heap.size vx zx) (h1 : IntsAt w w.heap.size vl zl) :
    Calls Try.prog 10 #[rv, .int .i64 n, vx, vl] w fun e w' => e = .returned (.bool true) ∧ Below w.heap.size w w' := by
  obtain ⟨rva, rvc, rfl⟩ := recs_end hrr
  obtain ⟨rl, hrl⟩ : ∃ n, rrs.length = n := ⟨_, rfl⟩
  have HLEN := Lib.hid hlen
  have HROW := Lib.hid hrow
  have n63 : n ≤ 9223372036854775807 := by unfold isI at hn; omega
  rw [hrl] at hrr ⊢
  have GR := Lib.hid hrr
  have H0 := Lib.hid h0
  have H1 := Lib.hid h1
  clear h0 h1
  obtain ⟨P, hP⟩ : ∃ P, pickI n 14 = P := ⟨_, rfl⟩
  have hPb := pickI_bd n (n := 14) (by omega)
  rw [hP] at hPb
  obtain ⟨K, hK⟩ : ∃ K, P - 1 = K := ⟨_, rfl⟩
  have K13 : K ≤ 13 := by omega
  have PK := Lib.hid (fun W => (by have q := pick_any n 14 (by omega) (by omega) W; rw [hP] at q; exact q : Calls Try.prog 29 #[.int .i64 n, .int .i64 14] W fun e w' => e = .returned (.int .i64 P) ∧ W = w'))
  clear hP hrr hrl hlen hrow hn
  go_enter Try.func10, Try.ntmps10
  go_upto_region 2 with (go_at_call 13; refine (keepSchema_any _ _ _ H0.out).mono ?_; rintro e w1 ⟨cv, cs, key, rfl, hc1, hs1, hl1, hb1⟩; obtain ⟨x1, rfl⟩ := Ext.of hb1; obtain ⟨ca, cc, rfl⟩ := cols_end hc1; obtain ⟨nn, hnn⟩ : ∃ nn, cs.length = nn := ⟨_, rfl⟩; rw [hnn] at hc1 hl1 ⊢; have HNN := Lib.hid hnn; clear hnn)
  refine captureM ?_
  intro y0 ey
  have yb1 : Below x1.it.heap.size x1.it y0 := by rw [ey]; exact (by repeat (first | with_reducible exact Below.refl _ _ | with_reducible assumption | with_reducible refine Below.al ?_ _ | with_reducible refine Below.on ?_ _ | with_reducible refine Below.st ?_ (by first | assumption | (simp; done) | (simp; omega)) _ | with_reducible refine Below.drew ?_))
  have yb : Below w.heap.size w y0 := by rw [ey]; exact (by repeat (first | with_reducible exact Below.refl _ _ | with_reducible assumption | with_reducible refine Below.al ?_ _ | with_reducible refine Below.on ?_ _ | with_reducible refine Below.st ?_ (by first | assumption | (simp; done) | (simp; omega)) _ | with_reducible refine Below.drew ?_))
  have zS0 : x1.it.heap.size < y0.heap.size := by rw [ey]; simp
  have s00 : y0.cell? ⟨x1.it.heap.size, 0, none⟩ = some (.slice ca nn cc) := by rw [ey]; simp (maxDischargeDepth := 9) [go_sem, *]
  have s10 : y0.cell? ⟨x1.it.heap.size, 1, none⟩ = some (.int .i64 key) := by rw [ey]; simp (maxDischargeDepth := 9) [go_sem, *]
  have HC := Lib.hid (hc1.mono yb1 yb1.size)
  have SP := Lib.hid (schema_parts hs1)
  have HS := Lib.hid hs1
  clear ey hc1 hs1 hb1 yb1
  generalize x1.it.heap.size = SB at *
  clear x1
  have I1 := Lib.hid ((H1.out.to fun k hk => yb.block k hk).mono yb.size)
  have YB := Lib.hid yb
  clear H0 H1 yb
  go_upto_region 3 with (go_at_call 14; refine Calls.mono (loose_any _ cs key vl zl 12 _ HC.out I1.out (by decide) (by decide) SP.out.1 SP.out.2.2.1) ?_; rintro e w2 ⟨v2, rs, rfl, hr2, hl2, ho2, hb2⟩; obtain ⟨ra, rc, rfl⟩ := recs_end hr2; have RL : Hid (∀ r ∈ rs, r.row.length ≤ 4398046511104) := Lib.hid (fun r hr => by have e1 := (ho2 r hr).2.2.1; have e2 := SP.out.2.2.1; omega); obtain ⟨nr, hnr⟩ : ∃ nr, rs.length = nr := ⟨_, rfl⟩; have HR2 := Lib.hid hr2; have HB2 := Lib.hid hb2; rw [hnr] at hl2 HR2 ⊢; have HNR := Lib.hid hnr; clear hr2 ho2 hb2 hnr)
  have BW := Lib.hid (Below.to YB.out HB2.out)
  have GR2 := Lib.hid (GR.out.mono BW.out BW.out.size)
  have l2 : Hid (rs.length ≤ 4398046511104) := Lib.hid (by rw [HNR.out]; omega)
  go_upto_region 4 with (go_at_call 29; refine Calls.mono (PK.out _) ?_; rintro e w9 ⟨rfl, rfl⟩)
  have S1 := Lib.hid (fun (W : World) (hb : Below w2.heap.size w2 W) => split_all (.slice rva rl rvc) rrs n W (GR2.out.mono hb hb.size) HLEN.out HROW.out n63)
  have R1 := Lib.hid (fun (W : World) (hb : Below w2.heap.size w2 W) => refSplit_all (.slice rva rl rvc) rrs n W (GR2.out.mono hb hb.size) HLEN.out n63)
  have S2 := Lib.hid (fun (W : World) (hb : Below w2.heap.size w2 W) => split_all (.slice ra nr rc) rs K W (HR2.out.mono hb hb.size) l2.out RL.out (by omega))
  have R2 := Lib.hid (fun (W : World) (hb : Below w2.heap.size w2 W) => refSplit_all (.slice ra nr rc) rs K W (HR2.out.mono hb hb.size) l2.out (by omega))
  have C1 := Lib.hid (fun (W : World) (hb : Below w2.heap.size w2 W) => columns_any (.slice rva rl rvc) rrs n W (GR2.out.mono hb hb.size) HLEN.out)
  have D1 := Lib.hid (fun (W : World) (hb : Below w2.heap.size w2 W) => refColumns_any (.slice rva rl rvc) rrs n W (GR2.out.mono hb hb.size) HLEN.out)
  have C2 := Lib.hid (fun (W : World) (hb : Below w2.heap.size w2 W) => columns_any (.slice ra nr rc) rs K W (HR2.out.mono hb hb.size) l2.out)
  have D2 := Lib.hid (fun (W : World) (hb : Below w2.heap.size w2 W) => refColumns_any (.slice ra nr rc) rs K W (HR2.out.mono hb hb.size) l2.out)
  generalize (if 1 ≤ n ∧ n ≤ 12 then colsF rrs n.toNat else []) = o1 at *
  generalize (if 1 ≤ K ∧ K ≤ 12 then colsF rs K.toNat else []) = o2 at *
  clear PK RL l2 HNR HB2 hl2 SP HC HS I1 GR YB HLEN HROW GR2 HR2 s00 s10 zS0
  go_wp2_with (first | (go_at_call 20; refine Calls.mono (awake15 _) ?_; rintro e w3 ⟨rfl, hb3⟩; have B3 : Below w2.heap.size w2 w3 := hb3; clear hb3) | (go_at_call 12; (with_reducible refine Calls.mono (S1.out _ B3) ?_); rintro e w4 ⟨v4, p4, rfl, u4, q4, hb4⟩; obtain ⟨a4, c4, rfl⟩ := parts_end q4; have U4 := Lib.hid u4; have Q4 := Lib.hid q4; have B4 : Below w2.heap.size w2 w4 := Below.to B3 hb4; clear u4 q4 hb4) | (go_at_call 33; (with_reducible refine Calls.mono (R1.out _ B4) ?_); rintro e w5 ⟨v5, p5, rfl, u5, q5, hb5⟩; obtain rfl : p5 = p4 := all_uniq u5 U4.out; obtain ⟨a5, c5, rfl⟩ := parts_end q5; have Q5 := Lib.hid q5; have T5 := Lib.hid (Q4.out.mono hb5 hb5.size); have B5 : Below w2.heap.size w2 w5 := Below.to B4 hb5; clear u5 q5 hb5) | (go_at_call 32; (with_reducible refine Calls.mono (same_parts _ _ _ _ T5.out Q5.out) ?_); rintro e w6 ⟨rfl, hb6⟩; have B6 : Below w2.heap.size w2 w6 := Below.to B5 hb6; clear hb6) | (go_at_call 12; (with_reducible refine Calls.mono (S2.out _ B6) ?_); rintro e w7 ⟨v7, p7, rfl, u7, q7, hb7⟩; obtain ⟨a7, c7, rfl⟩ := parts_end q7; have U7 := Lib.hid u7; have Q7 := Lib.hid q7; have B7 : Below w2.heap.size w2 w7 := Below.to B6 hb7; clear u7 q7 hb7) | (go_at_call 33; (with_reducible refine Calls.mono (R2.out _ B7) ?_); rintro e w8 ⟨v8, p8, rfl, u8, q8, hb8⟩; obtain rfl : p8 = p7 := all_uniq u8 U7.out; obtain ⟨a8, c8, rfl⟩ := parts_end q8; have Q8 := Lib.hid q8; have T8 := Lib.hid (Q7.out.mono hb8 hb8.size); have B8 : Below w2.heap.size w2 w8 := Below.to B7 hb8; clear u8 q8 hb8) | (go_at_call 32; (with_reducible refine Calls.mono (same_parts _ _ _ _ T8.out Q8.out) ?_); rintro e w9 ⟨rfl, hb9⟩; have B9 : Below w2.heap.size w2 w9 := Below.to B8 hb9; clear hb9) | (go_at_call 35; (with_reducible refine Calls.mono (C1.out _ B9) ?_); rintro e w10 ⟨v10, rfl, q10, hb10⟩; obtain ⟨a10, c10, rfl⟩ := rows_end q10; have Q10 := Lib.hid q10; have B10 : Below w2.heap.size w2 w10 := Below.to B9 hb10; clear q10 hb10) | (go_at_call 36; (with_reducible refine Calls.mono (D1.out _ B10) ?_); rintro e w11 ⟨v11, rfl, q11, hb11⟩; obtain ⟨a11, c11, rfl⟩ := rows_end q11; have Q11 := Lib.hid q11; have T11 := Lib.hid (Q10.out.mono hb11 hb11.size); have B11 : Below w2.heap.size w2 w11 := Below.to B10 hb11; clear q11 hb11) | (go_at_call 34; (with_reducible refine Calls.mono (same_lists _ _ o1 _ T11.out Q11.out) ?_); rintro e w12 ⟨rfl, hb12⟩; have B12 : Below w2.heap.size w2 w12 := Below.to B11 hb12; clear hb12) | (go_at_call 35; (with_reducible refine Calls.mono (C2.out _ B12) ?_); rintro e w13 ⟨v13, rfl, q13, hb13⟩; obtain ⟨a13, c13, rfl⟩ := rows_end q13; have Q13 := Lib.hid q13; have B13 : Below w2.heap.size w2 w13 := Below.to B12 hb13; clear q13 hb13) | (go_at_call 36; (with_reducible refine Calls.mono (D2.out _ B13) ?_); rintro e w14 ⟨v14, rfl, q14, hb14⟩; obtain ⟨a14, c14, rfl⟩ := rows_end q14; have Q14 := Lib.hid q14; have T14 := Lib.hid (Q13.out.mono hb14 hb14.size); have B14 : Below w2.heap.size w2 w14 := Below.to B13 hb14; clear q14 hb14) | (go_at_call 34; (with_reducible refine Calls.mono (same_lists _ _ o2 _ T14.out Q14.out) ?_); rintro e w15 ⟨rfl, hb15⟩; have B15 : Below w2.heap.size w2 w15 := Below.to B14 hb15; clear hb15))
  have BB := Below.to BW.out B15
  exact bodyPost_ret (v := .bool true) (by simp [results, Try.results10, go_sem, *]) rfl (⟨rfl, BB⟩)
end Go.Proofs.Ytkblkjfejaflkaa
