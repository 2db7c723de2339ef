/-
  BATCHRANKS: the walk. Conditions: the raw schema and record lie in memory.
-/
import Derived.Test.YtkblkjfejaflkaaAwk
import Derived.Test.YtkblkjfejaflkaaKrc
import Derived.Test.YtkblkjfejaflkaaSmr
import Derived.Test.YtkblkjfejaflkaaKsc
import Derived.Test.YtkblkjfejaflkaaFloat
set_option linter.unusedVariables false
set_option linter.unusedSimpArgs false
namespace Go.Proofs.Ytkblkjfejaflkaa
open Go.RowKit Go.ChangeShapes Go.WideShapes Go.ChangeAt Srt
theorem allocRk : AllocOk Try.prog 35 #[.bool false, .int .i64 0, .string ⟨#[]⟩, .int .i64 0] := by
  intro ρ o w h; obtain ⟨dst, op, type, pos, after, guard⟩ := o; dsimp only at h; subst h; go_simp
def eqK (a b : Rk) : Bool := decide (a.key.null = b.key.null) && (decide (a.key.n = b.key.n) && (decide (a.key.s.toList = b.key.s.toList) && decide (a.seq = b.seq)))
theorem eqK_refl (a : Rk) : eqK a a = true := by simp [eqK]
@[go_sem high] theorem run_neK (an : Bool) (ai : Int) (as' : ByteArray) (ap : Int) (bn : Bool) (bi : Int) (bs' : ByteArray) (bp : Int) (w : World) :
    (binOp .neq 35 (.agg #[.bool an, .int .i64 ai, .string as', .int .i64 ap]) (.agg #[.bool bn, .int .i64 bi, .string bs', .int .i64 bp])).run Try.prog w = .ok (.bool (!eqK ⟨⟨an, ai, as'⟩, ap⟩ ⟨⟨bn, bi, bs'⟩, bp⟩)) w := by
  rw [run_neq_struct]
  unfold eqK
  simp [go_sem]
  repeat' split
  all_goals simp [*]
@[go_sem high] theorem run_eqK (an : Bool) (ai : Int) (as' : ByteArray) (ap : Int) (bn : Bool) (bi : Int) (bs' : ByteArray) (bp : Int) (w : World) :
    (binOp .eql 35 (.agg #[.bool an, .int .i64 ai, .string as', .int .i64 ap]) (.agg #[.bool bn, .int .i64 bi, .string bs', .int .i64 bp])).run Try.prog w = .ok (.bool (eqK ⟨⟨an, ai, as'⟩, ap⟩ ⟨⟨bn, bi, bs'⟩, bp⟩)) w := by
  rw [run_eql_struct]
  unfold eqK
  simp [go_sem]
  repeat' split
  all_goals simp [*]
theorem cmpI_bd (a b : Int) : -1 ≤ cmpI a b ∧ cmpI a b ≤ 1 := by
  unfold cmpI; split
  · omega
  · split <;> omega
theorem cmpS_bd (a b : ByteArray) : -1 ≤ cmpS a b ∧ cmpS a b ≤ 1 := by
  unfold cmpS; split
  · omega
  · split <;> omega
theorem cmpV_bd (t : Int) (x y : Val) : -1 ≤ cmpV t x y ∧ cmpV t x y ≤ 1 := by
  unfold cmpV
  repeat' split
  all_goals first | exact cmpI_bd _ _ | exact cmpS_bd _ _ | omega
theorem cmpR_bd (t : Int) (x y : Rk) : -1 ≤ cmpR t x y ∧ cmpR t x y ≤ 1 := by
  have h1 := cmpV_bd t x.key y.key
  have h2 := cmpI_bd x.seq y.seq
  unfold cmpR orF
  split
  · exact h2
  · exact h1
set_option maxRecDepth 8000 in
set_option maxHeartbeats 4000000 in
theorem brr_walk (scv : Value) (scs : List Col) (skey : Int) (rsq : Int) (rlv : Value) (rrow : List Val) (typ : Int) (an : Bool) (ai : Int) (as' : ByteArray) (ap : Int) (bn : Bool) (bi : Int) (bs' : ByteArray) (bp : Int) (vx vl : Value) (zx zl : List Int) (w : World)
    (hsc : ColsAt w w.heap.size scv scs) (hrr : ValsAt w w.heap.size rlv rrow) (h0 : IntsAt w w.heap.size vx zx) (h1 : IntsAt w w.heap.size vl zl) :
    Calls Try.prog 4 #[.agg #[scv, .int .i64 skey], .agg #[.int .i64 rsq, rlv], .int .i64 typ, .agg #[.bool an, .int .i64 ai, .string as', .int .i64 ap], .agg #[.bool bn, .int .i64 bi, .string bs', .int .i64 bp], vx, vl] w fun e w' => e = .returned (.bool true) ∧ Below w.heap.size w w' := by
  obtain ⟨⟨⟨pn, pi, ps'⟩, pp⟩, hP⟩ : ∃ r, rankF skey ⟨rsq, rrow⟩ = r := ⟨_, rfl⟩
  obtain ⟨CC, hCC⟩ : ∃ c, cmpR typ ⟨⟨an, ai, as'⟩, ap⟩ ⟨⟨bn, bi, bs'⟩, bp⟩ = c := ⟨_, rfl⟩
  have RP := Lib.hid (fun (W : World) (h : Below w.heap.size w W) => (by have q := rank_any scv skey rsq rlv rrow W (hrr.mono h h.size); rw [hP] at q; exact q : Calls Try.prog 17 #[.agg #[scv, .int .i64 skey], .agg #[.int .i64 rsq, rlv]] W fun e w' => e = .returned (.agg #[.bool pn, .int .i64 pi, .string ps', .int .i64 pp]) ∧ Below W.heap.size W w'))
  have RP2 := Lib.hid (fun (W : World) (h : Below w.heap.size w W) => (by have q := refRank_any scv skey rsq rlv rrow W (hrr.mono h h.size); rw [hP] at q; exact q : Calls Try.prog 15 #[.agg #[scv, .int .i64 skey], .agg #[.int .i64 rsq, rlv]] W fun e w' => e = .returned (.agg #[.bool pn, .int .i64 pi, .string ps', .int .i64 pp]) ∧ Below W.heap.size W w'))
  have CP := Lib.hid (fun W => (by have q := bcompare_any typ an ai as' ap bn bi bs' bp W; rw [hCC] at q; exact q : Calls Try.prog 18 #[.int .i64 typ, .agg #[.bool an, .int .i64 ai, .string as', .int .i64 ap], .agg #[.bool bn, .int .i64 bi, .string bs', .int .i64 bp]] W fun e w' => e = .returned (.int .i64 CC) ∧ Below W.heap.size W w'))
  have CP2 := Lib.hid (fun W => (by have q := refCompareR_any typ an ai as' ap bn bi bs' bp W; rw [hCC] at q; exact q : Calls Try.prog 19 #[.int .i64 typ, .agg #[.bool an, .int .i64 ai, .string as', .int .i64 ap], .agg #[.bool bn, .int .i64 bi, .string bs', .int .i64 bp]] W fun e w' => e = .returned (.int .i64 CC) ∧ Below W.heap.size W w'))
  obtain ⟨ra, rc, rfl⟩ := vals_end hrr
  obtain ⟨sca, scc, rfl⟩ := cols_end hsc
  generalize rrow.length = rl at *
  generalize scs.length = sl at *
  have H0 := Lib.hid h0
  have H1 := Lib.hid h1
  clear h0 h1 hP hCC hrr hsc
  go_enter Try.func4, Try.ntmps4
  go_upto_region 1 with fail
  refine captureM ?_
  intro yA eA
  have ya : Below w.heap.size w yA := by rw [eA]; exact (by repeat (first | with_reducible exact Below.refl _ _ | with_reducible assumption | with_reducible refine Below.al ?_ _ | with_reducible refine Below.on ?_ _ | with_reducible refine Below.st ?_ (by first | assumption | (simp; done) | (simp; omega)) _ | with_reducible refine Below.drew ?_))
  have k00 := Lib.hid (by rw [eA]; simp (maxDischargeDepth := 9) [go_sem, *] : yA.cell? ⟨w.heap.size, 0, none⟩ = some (.slice sca sl scc))
  have k01 := Lib.hid (by rw [eA]; simp (maxDischargeDepth := 9) [go_sem, *] : yA.cell? ⟨w.heap.size, 1, none⟩ = some (.int .i64 skey))
  have kz0 := Lib.hid (by rw [eA]; simp <;> omega : w.heap.size < yA.heap.size)
  have k10 := Lib.hid (by rw [eA]; simp (maxDischargeDepth := 9) [go_sem, *] : yA.cell? ⟨w.heap.size + 1, 0, none⟩ = some (.int .i64 rsq))
  have k11 := Lib.hid (by rw [eA]; simp (maxDischargeDepth := 9) [go_sem, *] : yA.cell? ⟨w.heap.size + 1, 1, none⟩ = some (.slice ra rl rc))
  have kz1 := Lib.hid (by rw [eA]; simp <;> omega : w.heap.size + 1 < yA.heap.size)
  have k20 := Lib.hid (by rw [eA]; simp (maxDischargeDepth := 9) [go_sem, *] : yA.cell? ⟨w.heap.size + 1 + 1, 0, none⟩ = some (.bool an))
  have k21 := Lib.hid (by rw [eA]; simp (maxDischargeDepth := 9) [go_sem, *] : yA.cell? ⟨w.heap.size + 1 + 1, 1, none⟩ = some (.int .i64 ai))
  have k22 := Lib.hid (by rw [eA]; simp (maxDischargeDepth := 9) [go_sem, *] : yA.cell? ⟨w.heap.size + 1 + 1, 2, none⟩ = some (.string as'))
  have k23 := Lib.hid (by rw [eA]; simp (maxDischargeDepth := 9) [go_sem, *] : yA.cell? ⟨w.heap.size + 1 + 1, 3, none⟩ = some (.int .i64 ap))
  have kz2 := Lib.hid (by rw [eA]; simp <;> omega : w.heap.size + 1 + 1 < yA.heap.size)
  have k30 := Lib.hid (by rw [eA]; simp (maxDischargeDepth := 9) [go_sem, *] : yA.cell? ⟨w.heap.size + 1 + 1 + 1, 0, none⟩ = some (.bool bn))
  have k31 := Lib.hid (by rw [eA]; simp (maxDischargeDepth := 9) [go_sem, *] : yA.cell? ⟨w.heap.size + 1 + 1 + 1, 1, none⟩ = some (.int .i64 bi))
  have k32 := Lib.hid (by rw [eA]; simp (maxDischargeDepth := 9) [go_sem, *] : yA.cell? ⟨w.heap.size + 1 + 1 + 1, 2, none⟩ = some (.string bs'))
  have k33 := Lib.hid (by rw [eA]; simp (maxDischargeDepth := 9) [go_sem, *] : yA.cell? ⟨w.heap.size + 1 + 1 + 1, 3, none⟩ = some (.int .i64 bp))
  have kz3 := Lib.hid (by rw [eA]; simp <;> omega : w.heap.size + 1 + 1 + 1 < yA.heap.size)
  have J0 := Lib.hid ((H0.out.to fun k hk => ya.block k hk).mono ya.size)
  have YA := Lib.hid ya
  clear eA H0
  go_upto_region 2 with (go_at_call 13; refine (keepSchema_any _ _ _ J0.out).mono ?_; rintro e w1 ⟨cv, cs, key, rfl, hc1, hs1, hl1, hb1⟩; obtain ⟨x1, rfl⟩ := Ext.of hb1; obtain ⟨ca, cc, rfl⟩ := cols_end hc1; obtain ⟨nn, hnn⟩ : ∃ nn, cs.length = nn := ⟨_, rfl⟩; rw [hnn] at hc1 hl1 ⊢; have HNN := Lib.hid hnn; clear hnn)
  refine captureM ?_
  intro y0 ey
  have yb1 : Below x1.it.heap.size x1.it y0 := by rw [ey]; exact (by repeat (first | with_reducible exact Below.refl _ _ | with_reducible assumption | with_reducible refine Below.al ?_ _ | with_reducible refine Below.on ?_ _ | with_reducible refine Below.st ?_ (by first | assumption | (simp; done) | (simp; omega)) _ | with_reducible refine Below.drew ?_))
  have yb : Below w.heap.size w y0 := by rw [ey]; exact (by repeat (first | with_reducible exact Below.refl _ _ | with_reducible assumption | with_reducible refine Below.al ?_ _ | with_reducible refine Below.on ?_ _ | with_reducible refine Below.st ?_ (by first | assumption | (simp; done) | (simp; omega)) _ | with_reducible refine Below.drew ?_))
  have yAb : Below yA.heap.size yA y0 := by rw [ey]; exact (by repeat (first | with_reducible exact Below.refl _ _ | with_reducible assumption | with_reducible refine Below.al ?_ _ | with_reducible refine Below.on ?_ _ | with_reducible refine Below.st ?_ (by first | assumption | (simp; done) | (simp; omega)) _ | with_reducible refine Below.drew ?_))
  have zS0 : x1.it.heap.size < y0.heap.size := by rw [ey]; simp
  have s00 : y0.cell? ⟨x1.it.heap.size, 0, none⟩ = some (.slice ca nn cc) := by rw [ey]; simp (maxDischargeDepth := 9) [go_sem, *]
  have s10 : y0.cell? ⟨x1.it.heap.size, 1, none⟩ = some (.int .i64 key) := by rw [ey]; simp (maxDischargeDepth := 9) [go_sem, *]
  have HC := Lib.hid (hc1.mono yb1 yb1.size)
  have SP := Lib.hid (schema_parts hs1)
  have HS := Lib.hid hs1
  clear ey hc1 hs1 hb1 yb1
  generalize x1.it.heap.size = SB at *
  clear x1
  have I1 := Lib.hid ((H1.out.to fun k hk => yb.block k hk).mono yb.size)
  have AB0 : Hid (Below yA.heap.size yA y0) := Lib.hid yAb
  clear H1 J0 yAb
  go_upto_region 3 with (go_at_call 14; refine Calls.mono (loose_any _ cs key vl zl 2 _ HC.out I1.out (by decide) (by decide) SP.out.1 SP.out.2.2.1) ?_; rintro e w2 ⟨v2, rs, rfl, hr2, hl2, ho2, hb2⟩; obtain ⟨za, zc, rfl⟩ := recs_end hr2; obtain ⟨nr, hnr⟩ : ∃ nr, rs.length = nr := ⟨_, rfl⟩; have HR2 := Lib.hid hr2; have HB2 := Lib.hid hb2; rw [hnr] at hl2 HR2 ⊢; have HNR := Lib.hid hnr; clear hr2 ho2 hb2 hnr)
  have zS2 := Nat.lt_of_lt_of_le zS0 (HB2.out).size
  have s02 := ((HB2.out).cell (p := ⟨SB, 0, none⟩) zS0).trans s00
  have s12 := ((HB2.out).cell (p := ⟨SB, 1, none⟩) zS0).trans s10
  have BW := Lib.hid (Below.to yb HB2.out)
  have AB := Lib.hid (Below.to AB0.out HB2.out)
  have HC2 := Lib.hid (HC.out.mono HB2.out HB2.out.size)
  obtain ⟨K, hkey, hK⟩ := schema_key HS.out
  subst hkey
  have HK0 := Lib.hid hK
  clear hK s00 s10 zS0 yb ya I1
  by_cases h2 : nr = 2
  · subst h2
    obtain ⟨z0b, z0o, ez0, _, hz0b, d00, z0v, d01, hz0v⟩ := recs_in HR2.out (i := 0) (by rw [HNR.out]; omega)
    obtain ⟨z1b, z1o, ez1, _, hz1b, d10, z1v, d11, hz1v⟩ := recs_in HR2.out (i := 1) (by rw [HNR.out]; omega)
    subst ez0
    injection ez1 with ez1
    injection ez1 with ez1 ez2
    subst ez1 ez2
    obtain ⟨⟨fsq, frow⟩, hf⟩ : ∃ d, rs[0]'(by rw [HNR.out]; omega) = d := ⟨_, rfl⟩
    obtain ⟨⟨gsq, grow⟩, hg⟩ : ∃ d, rs[1]'(by rw [HNR.out]; omega) = d := ⟨_, rfl⟩
    rw [hf] at d00 hz0v
    rw [hg] at d10 hz1v
    dsimp only at d00 hz0v d10 hz1v
    obtain ⟨⟨⟨fn, fi, fs'⟩, fp⟩, hF⟩ : ∃ r, rankF K ⟨fsq, frow⟩ = r := ⟨_, rfl⟩
    obtain ⟨⟨⟨gn, gi, gs'⟩, gp⟩, hG⟩ : ∃ r, rankF K ⟨gsq, grow⟩ = r := ⟨_, rfl⟩
    obtain ⟨ty, hty⟩ : ∃ ty, tyK cs K = ty := ⟨_, rfl⟩
    obtain ⟨C1, hC1⟩ : ∃ c, cmpR ty ⟨⟨fn, fi, fs'⟩, fp⟩ ⟨⟨gn, gi, gs'⟩, gp⟩ = c := ⟨_, rfl⟩
    have hC2 : cmpR ty ⟨⟨gn, gi, gs'⟩, gp⟩ ⟨⟨fn, fi, fs'⟩, fp⟩ = -C1 := by rw [cmpR_neg, hC1]
    have QF := Lib.hid (fun (W : World) (h : Below w2.heap.size w2 W) => (by have q := rank_any (.slice ca nn cc) K fsq z0v frow W (hz0v.mono h h.size); rw [hF] at q; exact q : Calls Try.prog 17 #[.agg #[.slice ca nn cc, .int .i64 (K : Int)], .agg #[.int .i64 fsq, z0v]] W fun e w' => e = .returned (.agg #[.bool fn, .int .i64 fi, .string fs', .int .i64 fp]) ∧ Below W.heap.size W w'))
    have RF := Lib.hid (fun (W : World) (h : Below w2.heap.size w2 W) => (by have q := refRank_any (.slice ca nn cc) K fsq z0v frow W (hz0v.mono h h.size); rw [hF] at q; exact q : Calls Try.prog 15 #[.agg #[.slice ca nn cc, .int .i64 (K : Int)], .agg #[.int .i64 fsq, z0v]] W fun e w' => e = .returned (.agg #[.bool fn, .int .i64 fi, .string fs', .int .i64 fp]) ∧ Below W.heap.size W w'))
    have RG := Lib.hid (fun (W : World) (h : Below w2.heap.size w2 W) => (by have q := refRank_any (.slice ca nn cc) K gsq z1v grow W (hz1v.mono h h.size); rw [hG] at q; exact q : Calls Try.prog 15 #[.agg #[.slice ca nn cc, .int .i64 (K : Int)], .agg #[.int .i64 gsq, z1v]] W fun e w' => e = .returned (.agg #[.bool gn, .int .i64 gi, .string gs', .int .i64 gp]) ∧ Below W.heap.size W w'))
    have K1 := Lib.hid (fun W => (by have q := bcompare_any ty fn fi fs' fp gn gi gs' gp W; rw [hC1] at q; exact q : Calls Try.prog 18 #[.int .i64 ty, .agg #[.bool fn, .int .i64 fi, .string fs', .int .i64 fp], .agg #[.bool gn, .int .i64 gi, .string gs', .int .i64 gp]] W fun e w' => e = .returned (.int .i64 (C1)) ∧ Below W.heap.size W w'))
    have K2 := Lib.hid (fun W => (by have q := refCompareR_any ty fn fi fs' fp gn gi gs' gp W; rw [hC1] at q; exact q : Calls Try.prog 19 #[.int .i64 ty, .agg #[.bool fn, .int .i64 fi, .string fs', .int .i64 fp], .agg #[.bool gn, .int .i64 gi, .string gs', .int .i64 gp]] W fun e w' => e = .returned (.int .i64 (C1)) ∧ Below W.heap.size W w'))
    have K3 := Lib.hid (fun W => (by have q := bcompare_any ty gn gi gs' gp fn fi fs' fp W; rw [hC2] at q; exact q : Calls Try.prog 18 #[.int .i64 ty, .agg #[.bool gn, .int .i64 gi, .string gs', .int .i64 gp], .agg #[.bool fn, .int .i64 fi, .string fs', .int .i64 fp]] W fun e w' => e = .returned (.int .i64 (-C1)) ∧ Below W.heap.size W w'))
    have KY := Lib.hid (fun (W : World) (h : Below w2.heap.size w2 W) => (by have q := keyType_any (.slice ca nn cc) cs K HK0.out W (HC2.out.mono h h.size); rw [hty] at q; exact q : Calls Try.prog 16 #[.agg #[.slice ca nn cc, .int .i64 (K : Int)]] W fun e w' => e = .returned (.int .i64 ty) ∧ Below W.heap.size W w'))
    obtain ⟨f0a, f0c, rfl⟩ := vals_end hz0v
    obtain ⟨f1a, f1c, rfl⟩ := vals_end hz1v
    generalize frow.length = flen at *
    generalize grow.length = glen at *
    have zz : z0b < w2.heap.size := hz0b
    have e1a : z0o + 0 * 2 = z0o := by omega
    rw [e1a] at d00 d01
    have HC1 := Lib.hid hC1
    clear hf hg hF hG hty hC1 hC2 hz0v hz1v hz1b hz0b e1a
    go_upto_region 4 with fail
    refine wp_region_float 12 [none, none, none, none, none, none, none, none, none, none, some (17, 35, #[.bool false, .int .i64 0, .string ⟨#[]⟩, .int .i64 0]), some (18, 35, #[.bool false, .int .i64 0, .string ⟨#[]⟩, .int .i64 0])] (by kernel_rfl) (by kernel_rfl) (by kernel_rfl) ⟨allocRk, allocRk, trivial⟩ ?_
    dsimp only [ghosts, ghost, List.take, List.drop]
    repeat (refine wpE_step (fun K hK => ?_); go_simp; first | (refine hK _ ?_; clear hK K) | (apply Exists.intro; refine ⟨fun _ => ?_, hK _ ?_⟩; (first | (go_at_call 15; with_reducible exact (RF.out _ (Ext.below _))) | (go_at_call 15; with_reducible exact (RG.out _ (Ext.below _)))); clear hK K))
    refine wpE_nil ?_
    intro x
    dsimp only [floated]
    intro b1 q1 _ g1 b2 q2 d2 g2
    have e1 := (Array.getElem?_eq_some_iff.1 g1).1
    have e2 := (Array.getElem?_eq_some_iff.1 g2).1
    have n21 : b2 ≠ b1 := d2 b1 (by simp)
    have n12 := n21.symm
    have zx : SB < x.it.heap.size := x.lt zS2
    have m1 : b1 ≠ SB := by omega
    have m2 : b2 ≠ SB := by omega
    have m3 : SB ≠ b1 := by omega
    have m4 : SB ≠ b2 := by omega
    have o1 : w.heap.size ≤ b1 := Nat.le_trans BW.out.size q1
    have o2 : w.heap.size ≤ b2 := Nat.le_trans BW.out.size q2
    have o3 : yA.heap.size ≤ b1 := Nat.le_trans AB.out.size q1
    have o4 : yA.heap.size ≤ b2 := Nat.le_trans AB.out.size q2
    have bx0 : Below w.heap.size w x.it := Below.to BW.out x.below
    have ax0 : Below yA.heap.size yA x.it := Below.to AB.out x.below
    have wx0 : Below w2.heap.size w2 x.it := x.below
    have h1 := fun j => frozen_of_row x.it b1 j _ _ g1
    have h2 := fun j => frozen_of_row x.it b2 j _ _ g2
    have x0 := (x.cell SB 0 zS2).trans s02
    have x1 := (x.cell SB 1 zS2).trans s12
    have zd0 := (x.cell z0b z0o zz).trans d00
    have zd1 := (x.cell z0b (z0o + 1) zz).trans d01
    have zzx := x.lt zz
    have m5 : z0b ≠ b1 := by omega
    have m6 : z0b ≠ b2 := by omega
    have k10 : x.it.cell? ⟨b1, 0, none⟩ = some (.bool false) := by have := cell_of_row x.it b1 0 _ _ _ g1; simpa using this
    have k11 : x.it.cell? ⟨b1, 1, none⟩ = some (.int .i64 0) := by have := cell_of_row x.it b1 1 _ _ _ g1; simpa using this
    have k12 : x.it.cell? ⟨b1, 2, none⟩ = some (.string ⟨#[]⟩) := by have := cell_of_row x.it b1 2 _ _ _ g1; simpa using this
    have k13 : x.it.cell? ⟨b1, 3, none⟩ = some (.int .i64 0) := by have := cell_of_row x.it b1 3 _ _ _ g1; simpa using this
    have k20 : x.it.cell? ⟨b2, 0, none⟩ = some (.bool false) := by have := cell_of_row x.it b2 0 _ _ _ g2; simpa using this
    have k21 : x.it.cell? ⟨b2, 1, none⟩ = some (.int .i64 0) := by have := cell_of_row x.it b2 1 _ _ _ g2; simpa using this
    have k22 : x.it.cell? ⟨b2, 2, none⟩ = some (.string ⟨#[]⟩) := by have := cell_of_row x.it b2 2 _ _ _ g2; simpa using this
    have k23 : x.it.cell? ⟨b2, 3, none⟩ = some (.int .i64 0) := by have := cell_of_row x.it b2 3 _ _ _ g2; simpa using this
    clear g1 g2 d2
    go_upto_region 5 with fail
    refine captureM ?_
    intro u eu
    have bu : Below w.heap.size w u := by rw [eu]; exact (by repeat (first | with_reducible assumption | with_reducible refine Below.st ?_ (by first | assumption | omega) _))
    have au : Below yA.heap.size yA u := by rw [eu]; exact (by repeat (first | with_reducible assumption | with_reducible refine Below.st ?_ (by first | assumption | omega) _))
    have wu : Below w2.heap.size w2 u := by rw [eu]; exact (by repeat (first | with_reducible assumption | with_reducible refine Below.st ?_ (by first | assumption | omega) _))
    have u1 : b1 < u.heap.size := by rw [eu]; simpa using e1
    have u2 : b2 < u.heap.size := by rw [eu]; simpa using e2
    have us : SB < u.heap.size := Nat.lt_of_lt_of_le zS2 wu.size
    have uz : z0b < u.heap.size := Nat.lt_of_lt_of_le zz wu.size
    have us0 := (wu.cell (p := ⟨SB, 0, none⟩) zS2).trans s02
    have us1 := (wu.cell (p := ⟨SB, 1, none⟩) zS2).trans s12
    have ud0 := (wu.cell (p := ⟨z0b, z0o, none⟩) zz).trans d00
    have ud1 := (wu.cell (p := ⟨z0b, z0o + 1, none⟩) zz).trans d01
    have u10 : u.cell? ⟨b1, 0, none⟩ = some (.bool fn) := by rw [eu]; simp (maxDischargeDepth := 12) [go_sem, *]
    have u11 : u.cell? ⟨b1, 1, none⟩ = some (.int .i64 fi) := by rw [eu]; simp (maxDischargeDepth := 12) [go_sem, *]
    have u12 : u.cell? ⟨b1, 2, none⟩ = some (.string fs') := by rw [eu]; simp (maxDischargeDepth := 12) [go_sem, *]
    have u13 : u.cell? ⟨b1, 3, none⟩ = some (.int .i64 fp) := by rw [eu]; simp (maxDischargeDepth := 12) [go_sem, *]
    have u20 : u.cell? ⟨b2, 0, none⟩ = some (.bool gn) := by rw [eu]; simp (maxDischargeDepth := 12) [go_sem, *]
    have u21 : u.cell? ⟨b2, 1, none⟩ = some (.int .i64 gi) := by rw [eu]; simp (maxDischargeDepth := 12) [go_sem, *]
    have u22 : u.cell? ⟨b2, 2, none⟩ = some (.string gs') := by rw [eu]; simp (maxDischargeDepth := 12) [go_sem, *]
    have u23 : u.cell? ⟨b2, 3, none⟩ = some (.int .i64 gp) := by rw [eu]; simp (maxDischargeDepth := 12) [go_sem, *]
    have BU := Lib.hid bu
    have AU := Lib.hid au
    have WU := Lib.hid wu
    clear eu k10 k11 k12 k13 k20 k21 k22 k23 bx0 ax0 wx0 x0 x1 zd0 zd1 h1 h2 e1 e2 zx zzx bu au wu d00 d01 d10 d11
    go_upto_region 6 with (go_at_call 16; refine Calls.mono (KY.out _ WU.out) ?_; rintro e w6 ⟨rfl, hb6⟩; have W6 := Lib.hid hb6; clear hb6)
    have v0 := (W6.out.cell (p := ⟨SB, 0, none⟩) us).trans us0
    have v1 := (W6.out.cell (p := ⟨SB, 1, none⟩) us).trans us1
    have v2 := (W6.out.cell (p := ⟨z0b, z0o, none⟩) uz).trans ud0
    have v3 := (W6.out.cell (p := ⟨z0b, z0o + 1, none⟩) uz).trans ud1
    have v4 := (W6.out.cell (p := ⟨b1, 0, none⟩) u1).trans u10
    have v5 := (W6.out.cell (p := ⟨b1, 1, none⟩) u1).trans u11
    have v6 := (W6.out.cell (p := ⟨b1, 2, none⟩) u1).trans u12
    have v7 := (W6.out.cell (p := ⟨b1, 3, none⟩) u1).trans u13
    have v8 := (W6.out.cell (p := ⟨b2, 0, none⟩) u2).trans u20
    have v9 := (W6.out.cell (p := ⟨b2, 1, none⟩) u2).trans u21
    have v10 := (W6.out.cell (p := ⟨b2, 2, none⟩) u2).trans u22
    have v11 := (W6.out.cell (p := ⟨b2, 3, none⟩) u2).trans u23
    have vzSB := Nat.lt_of_lt_of_le us W6.out.size
    have vzz0b := Nat.lt_of_lt_of_le uz W6.out.size
    have vzb1 := Nat.lt_of_lt_of_le u1 W6.out.size
    have vzb2 := Nat.lt_of_lt_of_le u2 W6.out.size
    have EF := eqK_refl ⟨⟨fn, fi, fs'⟩, fp⟩
    have CB := cmpR_bd ty ⟨⟨fn, fi, fs'⟩, fp⟩ ⟨⟨gn, gi, gs'⟩, gp⟩
    rw [HC1.out] at CB
    obtain ⟨CB1, CB2⟩ := CB
    have cc1 : (C1 != C1) = false := by simp
    have cc2 : (-C1 != -C1) = false := by simp
    have cc3 : IntKind.i64.wrap (-C1) = -C1 := by rw [IntKind.wrap_i64]; omega
    have B6 := Lib.hid (Below.to BU.out W6.out)
    have A6 := Lib.hid (Below.to AU.out W6.out)
    have X6 := Lib.hid (Below.to WU.out W6.out)
    clear us0 us1 ud0 ud1 u10 u11 u12 u13 u20 u21 u22 u23
    refine wp_region_ext (by kernel_rfl) (by kernel_rfl) ?_
    repeat (go_big_quiet_step ((first | (go_at_call 17; with_reducible exact Calls.ext (QF.out _ (Below.to X6.out (Ext.below _)))) | (go_at_call 18; with_reducible exact Calls.ext (K1.out _)) | (go_at_call 18; with_reducible exact Calls.ext (K3.out _)) | (go_at_call 19; with_reducible exact Calls.ext (K2.out _)))))
    refine wpQuiet_nil ?_
    rintro _ ⟨x7, rfl⟩
    have BVV : Below w.heap.size w x7.it := Below.to B6.out x7.below
    have AVV : Below yA.heap.size yA x7.it := Below.to A6.out x7.below
    clear EF CB1 CB2 cc1 cc2 cc3 v0 v1 v2 v3 v4 v5 v6 v7 v8 v9 v10 v11 vzSB vzz0b vzb1 vzb2
    have EK := eqK_refl ⟨⟨pn, pi, ps'⟩, pp⟩
    go_upto_region 8 with fail
    refine captureM ?_
    intro v ev
    have bv : Below w.heap.size w v := by rw [ev]; exact BVV
    have av : Below yA.heap.size yA v := by rw [ev]; exact AVV
    have BV := Lib.hid bv
    have c00 := (av.cell (p := ⟨w.heap.size, 0, none⟩) kz0.out).trans k00.out
    have c01 := (av.cell (p := ⟨w.heap.size, 1, none⟩) kz0.out).trans k01.out
    have cz0 := Nat.lt_of_lt_of_le kz0.out av.size
    have c10 := (av.cell (p := ⟨w.heap.size + 1, 0, none⟩) kz1.out).trans k10.out
    have c11 := (av.cell (p := ⟨w.heap.size + 1, 1, none⟩) kz1.out).trans k11.out
    have cz1 := Nat.lt_of_lt_of_le kz1.out av.size
    have c20 := (av.cell (p := ⟨w.heap.size + 1 + 1, 0, none⟩) kz2.out).trans k20.out
    have c21 := (av.cell (p := ⟨w.heap.size + 1 + 1, 1, none⟩) kz2.out).trans k21.out
    have c22 := (av.cell (p := ⟨w.heap.size + 1 + 1, 2, none⟩) kz2.out).trans k22.out
    have c23 := (av.cell (p := ⟨w.heap.size + 1 + 1, 3, none⟩) kz2.out).trans k23.out
    have cz2 := Nat.lt_of_lt_of_le kz2.out av.size
    have c30 := (av.cell (p := ⟨w.heap.size + 1 + 1 + 1, 0, none⟩) kz3.out).trans k30.out
    have c31 := (av.cell (p := ⟨w.heap.size + 1 + 1 + 1, 1, none⟩) kz3.out).trans k31.out
    have c32 := (av.cell (p := ⟨w.heap.size + 1 + 1 + 1, 2, none⟩) kz3.out).trans k32.out
    have c33 := (av.cell (p := ⟨w.heap.size + 1 + 1 + 1, 3, none⟩) kz3.out).trans k33.out
    have cz3 := Nat.lt_of_lt_of_le kz3.out av.size
    clear ev bv av
    refine wp_region_ext (by kernel_rfl) (by kernel_rfl) ?_
    repeat (go_big_quiet_step ((first | (go_at_call 20; exact Calls.ext (awake15 _)) | (go_at_call 17; exact Calls.ext (RP.out _ (Below.on BV.out _))) | (go_at_call 15; exact Calls.ext (RP2.out _ (Below.on BV.out _))) | (go_at_call 18; exact Calls.ext (CP.out _)) | (go_at_call 19; exact Calls.ext (CP2.out _)))))
    refine wpQuiet_nil ?_
    rintro _ ⟨x9, rfl⟩
    have BB := BV.out
    go_wp2_with fail
    exact bodyPost_ret (v := .bool true) (by simp [results, Try.results4, go_sem, *]) rfl (⟨rfl, by repeat (first | with_reducible exact Below.refl _ _ | with_reducible assumption | with_reducible refine Below.al ?_ _ | with_reducible refine Below.on ?_ _ | with_reducible refine Below.st ?_ (by first | assumption | (simp; done) | (simp; omega)) _ | with_reducible refine Below.drew ?_)⟩)
  · have n2 : ((nr : Int) == 2) = false := by simp; omega
    have AVV := AB.out
    have BVV := BW.out
    clear h2
    have EK := eqK_refl ⟨⟨pn, pi, ps'⟩, pp⟩
    go_upto_region 8 with fail
    refine captureM ?_
    intro v ev
    have bv : Below w.heap.size w v := by rw [ev]; exact BVV
    have av : Below yA.heap.size yA v := by rw [ev]; exact AVV
    have BV := Lib.hid bv
    have c00 := (av.cell (p := ⟨w.heap.size, 0, none⟩) kz0.out).trans k00.out
    have c01 := (av.cell (p := ⟨w.heap.size, 1, none⟩) kz0.out).trans k01.out
    have cz0 := Nat.lt_of_lt_of_le kz0.out av.size
    have c10 := (av.cell (p := ⟨w.heap.size + 1, 0, none⟩) kz1.out).trans k10.out
    have c11 := (av.cell (p := ⟨w.heap.size + 1, 1, none⟩) kz1.out).trans k11.out
    have cz1 := Nat.lt_of_lt_of_le kz1.out av.size
    have c20 := (av.cell (p := ⟨w.heap.size + 1 + 1, 0, none⟩) kz2.out).trans k20.out
    have c21 := (av.cell (p := ⟨w.heap.size + 1 + 1, 1, none⟩) kz2.out).trans k21.out
    have c22 := (av.cell (p := ⟨w.heap.size + 1 + 1, 2, none⟩) kz2.out).trans k22.out
    have c23 := (av.cell (p := ⟨w.heap.size + 1 + 1, 3, none⟩) kz2.out).trans k23.out
    have cz2 := Nat.lt_of_lt_of_le kz2.out av.size
    have c30 := (av.cell (p := ⟨w.heap.size + 1 + 1 + 1, 0, none⟩) kz3.out).trans k30.out
    have c31 := (av.cell (p := ⟨w.heap.size + 1 + 1 + 1, 1, none⟩) kz3.out).trans k31.out
    have c32 := (av.cell (p := ⟨w.heap.size + 1 + 1 + 1, 2, none⟩) kz3.out).trans k32.out
    have c33 := (av.cell (p := ⟨w.heap.size + 1 + 1 + 1, 3, none⟩) kz3.out).trans k33.out
    have cz3 := Nat.lt_of_lt_of_le kz3.out av.size
    clear ev bv av
    refine wp_region_ext (by kernel_rfl) (by kernel_rfl) ?_
    repeat (go_big_quiet_step ((first | (go_at_call 20; exact Calls.ext (awake15 _)) | (go_at_call 17; exact Calls.ext (RP.out _ (Below.on BV.out _))) | (go_at_call 15; exact Calls.ext (RP2.out _ (Below.on BV.out _))) | (go_at_call 18; exact Calls.ext (CP.out _)) | (go_at_call 19; exact Calls.ext (CP2.out _)))))
    refine wpQuiet_nil ?_
    rintro _ ⟨x9, rfl⟩
    have BB := BV.out
    go_wp2_with fail
    exact bodyPost_ret (v := .bool true) (by simp [results, Try.results4, go_sem, *]) rfl (⟨rfl, by repeat (first | with_reducible exact Below.refl _ _ | with_reducible assumption | with_reducible refine Below.al ?_ _ | with_reducible refine Below.on ?_ _ | with_reducible refine Below.st ?_ (by first | assumption | (simp; done) | (simp; omega)) _ | with_reducible refine Below.drew ?_)⟩)
end Go.Proofs.Ytkblkjfejaflkaa
