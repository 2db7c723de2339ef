/-
  INTERVALOFS: the walk. Conditions: the raw schema and predicate lie in memory.
-/
import Derived.Test.YtjojnakgadfgmaaOfe
import Derived.Test.YtjojnakgadfgmaaKsc
import Derived.Test.YtjojnakgadfgmaaKpr
import Derived.Test.YtjojnakgadfgmaaIntA
import Derived.Test.YtjojnakgadfgmaaOps
set_option linter.unusedVariables false
set_option linter.unusedSimpArgs false
namespace Go.Proofs.Ytjojnakgadfgmaa
open Go.RowKit Go.ChangeShapes Go.WideShapes Go.ChangeAt
def eqB (a b : Bnd) : Bool := decide (a.null = b.null) && (decide (a.some = b.some) && (decide (a.hasLo = b.hasLo) && (decide (a.hasHi = b.hasHi) && (decide (a.lo.null = b.lo.null) && (decide (a.lo.n = b.lo.n) && (decide (a.lo.s.toList = b.lo.s.toList) && (decide (a.hi.null = b.hi.null) && (decide (a.hi.n = b.hi.n) && decide (a.hi.s.toList = b.hi.s.toList)))))))))
theorem eqB_iff (a b : Bnd) : eqB a b = true ↔ a = b := by
  constructor
  · intro h
    obtain ⟨a1, a2, a3, a4, ⟨a5, a6, a7⟩, ⟨a8, a9, a0⟩⟩ := a
    obtain ⟨b1, b2, b3, b4, ⟨b5, b6, b7⟩, ⟨b8, b9, b0⟩⟩ := b
    simp [eqB] at h
    obtain ⟨h1, h2, h3, h4, h5, h6, h7, h8, h9, h0⟩ := h
    have := toList_inj h7
    have := toList_inj h0
    simp_all
  · rintro rfl
    simp [eqB]
@[go_sem high] theorem run_eqB (an as' al ah ln : Bool) (l : Int) (ls : ByteArray) (hn : Bool) (h : Int) (hs : ByteArray) (bn bs bl bh lm : Bool) (m : Int) (ms : ByteArray) (gn : Bool) (g : Int) (gs : ByteArray) (w : World) :
    (binOp .eql 25 (.agg #[.bool an, .bool as', .bool al, .bool ah, .bool ln, .int .i64 l, .string ls, .bool hn, .int .i64 h, .string hs]) (.agg #[.bool bn, .bool bs, .bool bl, .bool bh, .bool lm, .int .i64 m, .string ms, .bool gn, .int .i64 g, .string gs])).run Try.prog w = .ok (.bool (eqB ⟨an, as', al, ah, ⟨ln, l, ls⟩, ⟨hn, h, hs⟩⟩ ⟨bn, bs, bl, bh, ⟨lm, m, ms⟩, ⟨gn, g, gs⟩⟩)) w := by
  rw [run_eql_struct]
  unfold eqB
  simp [go_sem]
  repeat' split
  all_goals simp [*]
set_option maxRecDepth 8000 in
set_option maxHeartbeats 2000000 in
theorem iof_walk (scv : Value) (scs : List Col) (skey : Int) (pv0 : Value) (pns : List Nod) (col : Int) (vx vl : Value) (zx zl : List Int) (w : World)
    (hsc : ColsAt w w.heap.size scv scs) (hpn : NodsAt w w.heap.size pv0 pns) (h0 : IntsAt w w.heap.size vx zx) (h1 : IntsAt w w.heap.size vl zl) :
    Calls Try.prog 8 #[.agg #[scv, .int .i64 skey], pv0, .int .i64 col, vx, vl] w fun e w' => e = .returned (.bool true) ∧ Below w.heap.size w w' := by
  have H0 : Hid (IntsAt (w.alloc (.cells #[scv, .int .i64 skey] 50)) (w.alloc (.cells #[scv, .int .i64 skey] 50)).heap.size vx zx) := Lib.hid ((h0.to fun k hk => ((Below.refl w.heap.size w).alloc (Nat.le_refl _) _).block k hk).mono (by simp))
  have H1 := Lib.hid h1
  have GC := Lib.hid hsc
  have GN := Lib.hid hpn
  clear h0 h1 hsc hpn
  go_enter Try.func8, Try.ntmps8
  go_upto_region 2 with (go_at_call 26; refine (keepSchema_any _ _ _ H0.out).mono ?_; rintro e w1 ⟨cv, cs, key, rfl, hc1, hs1, hl1, hb1⟩; obtain ⟨x1, rfl⟩ := Ext.of hb1; obtain ⟨ca, cc, rfl⟩ := cols_end hc1; obtain ⟨nn, hnn⟩ : ∃ nn, cs.length = nn := ⟨_, rfl⟩; rw [hnn] at hc1 hl1 ⊢; have HNN := Lib.hid hnn; clear hnn)
  have zA1 : w.heap.size < x1.it.heap.size := x1.lt (by simp)
  refine captureM ?_
  intro y ey
  have yb1 : Below x1.it.heap.size x1.it y := by rw [ey]; exact (by repeat (first | with_reducible exact Below.refl _ _ | with_reducible assumption | with_reducible refine Below.al ?_ _ | with_reducible refine Below.on ?_ _ | with_reducible refine Below.st ?_ (by first | assumption | (simp; done) | (simp; omega)) _ | with_reducible refine Below.drew ?_))
  have yb : Below w.heap.size w y := by rw [ey]; exact (by repeat (first | with_reducible exact Below.refl _ _ | with_reducible assumption | with_reducible refine Below.al ?_ _ | with_reducible refine Below.on ?_ _ | with_reducible refine Below.st ?_ (by first | assumption | (simp; done) | (simp; omega)) _ | with_reducible refine Below.drew ?_))
  have zS : x1.it.heap.size < y.heap.size := by rw [ey]; simp
  have zA : w.heap.size < y.heap.size := by omega
  have nAS : w.heap.size ≠ x1.it.heap.size := by omega
  have b0 : y.cell? ⟨x1.it.heap.size, 0, none⟩ = some (.slice ca nn cc) := by rw [ey]; simp (maxDischargeDepth := 9) [go_sem, *]
  have b1 : y.cell? ⟨x1.it.heap.size, 1, none⟩ = some (.int .i64 key) := by rw [ey]; simp (maxDischargeDepth := 9) [go_sem, *]
  have a0 : y.cell? ⟨w.heap.size, 0, none⟩ = some scv := by rw [ey]; simp (maxDischargeDepth := 9) [go_sem, *]
  have a1 : y.cell? ⟨w.heap.size, 1, none⟩ = some (.int .i64 skey) := by rw [ey]; simp (maxDischargeDepth := 9) [go_sem, *]
  have hcy := hc1.mono yb1 yb1.size
  have KP := Lib.hid (kpred_any (.slice ca nn cc) cs key vl zl y hcy ((H1.out.to fun k hk => yb.block k hk).mono yb.size) hs1)
  have HCY := Lib.hid hcy
  clear ey hc1 hs1 hb1 yb1 H0 H1 zA1 nAS hcy
  generalize x1.it.heap.size = SB at *
  clear x1
  go_upto_region 3 with (go_at_call 27; refine Calls.mono KP.out ?_; rintro e w2 ⟨pv, ns, rfl, hn2, hp2, hl2, hb2⟩; obtain ⟨pa, pc, rfl⟩ := nods_end hn2; obtain ⟨np, hnp⟩ : ∃ np, ns.length = np := ⟨_, rfl⟩; rw [hnp] at hn2 hl2 ⊢; have HN2 := Lib.hid hn2; have HB2 := Lib.hid hb2; clear hn2 hp2 hl2 hnp)
  have zA0 : w.heap.size < w2.heap.size := Nat.lt_of_lt_of_le zA HB2.out.size
  have zS0 : SB < w2.heap.size := Nat.lt_of_lt_of_le zS HB2.out.size
  have b00 := (HB2.out.cell (p := ⟨SB, 0, none⟩) zS).trans b0
  have b10 := (HB2.out.cell (p := ⟨SB, 1, none⟩) zS).trans b1
  have a00 := (HB2.out.cell (p := ⟨w.heap.size, 0, none⟩) zA).trans a0
  have a10 := (HB2.out.cell (p := ⟨w.heap.size, 1, none⟩) zA).trans a1
  have BW := Lib.hid (Below.to yb HB2.out)
  have HC2 := Lib.hid (HCY.out.mono HB2.out HB2.out.size)
  have pb := pickI_bd col (n := (nn : Int) + 2) (by omega)
  obtain ⟨PK, hPK⟩ : ∃ PK, pickI col ((nn : Int) + 2) = PK := ⟨_, rfl⟩
  rw [hPK] at pb
  obtain ⟨⟨B1, e1⟩, hE1⟩ : ∃ r, ofE scs skey pns col = r := ⟨_, rfl⟩
  obtain ⟨⟨B2, e2⟩, hE2⟩ : ∃ r, ofE cs key ns (PK - 1) = r := ⟨_, rfl⟩
  obtain ⟨p0, p1, p2, p3, ⟨p4, p5, p6⟩, ⟨p7, p8, p9⟩⟩ := B1
  obtain ⟨q0, q1, q2, q3, ⟨q4, q5, q6⟩, ⟨q7, q8, q9⟩⟩ := B2
  have OF1 := Lib.hid (fun (W : World) (hb : Below w2.heap.size w2 W) => (by have z := of_any scv scs skey pv0 pns col W (GC.out.mono (Below.to BW.out hb) (Below.to BW.out hb).size) (GN.out.mono (Below.to BW.out hb) (Below.to BW.out hb).size); rw [hE1] at z; exact z : Calls Try.prog 24 #[.agg #[scv, .int .i64 skey], pv0, .int .i64 col] W fun e w' => e = .returned (.tuple #[.agg #[.bool p0, .bool p1, .bool p2, .bool p3, .bool p4, .int .i64 p5, .string p6, .bool p7, .int .i64 p8, .string p9], .int .i64 e1]) ∧ Below W.heap.size W w'))
  have OF2 := Lib.hid (fun (W : World) (hb : Below w2.heap.size w2 W) => (by have z := rof_any scv scs skey pv0 pns col W (GC.out.mono (Below.to BW.out hb) (Below.to BW.out hb).size) (GN.out.mono (Below.to BW.out hb) (Below.to BW.out hb).size); rw [hE1] at z; exact z : Calls Try.prog 28 #[.agg #[scv, .int .i64 skey], pv0, .int .i64 col] W fun e w' => e = .returned (.tuple #[.agg #[.bool p0, .bool p1, .bool p2, .bool p3, .bool p4, .int .i64 p5, .string p6, .bool p7, .int .i64 p8, .string p9], .int .i64 e1]) ∧ Below W.heap.size W w'))
  have OF3 := Lib.hid (fun (W : World) (hb : Below w2.heap.size w2 W) => (by have z := of_any (.slice ca nn cc) cs key (.slice pa np pc) ns (PK - 1) W (HC2.out.mono hb hb.size) (HN2.out.mono hb hb.size); rw [hE2] at z; exact z : Calls Try.prog 24 #[.agg #[.slice ca nn cc, .int .i64 key], .slice pa np pc, .int .i64 (PK - 1)] W fun e w' => e = .returned (.tuple #[.agg #[.bool q0, .bool q1, .bool q2, .bool q3, .bool q4, .int .i64 q5, .string q6, .bool q7, .int .i64 q8, .string q9], .int .i64 e2]) ∧ Below W.heap.size W w'))
  have OF4 := Lib.hid (fun (W : World) (hb : Below w2.heap.size w2 W) => (by have z := rof_any (.slice ca nn cc) cs key (.slice pa np pc) ns (PK - 1) W (HC2.out.mono hb hb.size) (HN2.out.mono hb hb.size); rw [hE2] at z; exact z : Calls Try.prog 28 #[.agg #[.slice ca nn cc, .int .i64 key], .slice pa np pc, .int .i64 (PK - 1)] W fun e w' => e = .returned (.tuple #[.agg #[.bool q0, .bool q1, .bool q2, .bool q3, .bool q4, .int .i64 q5, .string q6, .bool q7, .int .i64 q8, .string q9], .int .i64 e2]) ∧ Below W.heap.size W w'))
  have hPKH := Lib.hid hPK
  have yb2 : Below w2.heap.size w2 w2 := Below.refl _ _
  clear hE1 hE2 hPK KP HCY HN2 HB2 b0 b1 a0 a1 zA zS yb
  go_upto_region 4 with (go_at_call 24; refine Calls.mono (OF1.out _ yb2) ?_; rintro e w3 ⟨rfl, hb3⟩; obtain ⟨x3, rfl⟩ := Ext.of hb3)
  refine captureM ?_
  intro y1 ey
  have bb : Below w2.heap.size w2 y1 := by rw [ey]; exact Below.al (Below.on (Below.refl _ _) x3) _
  have m0 : y1.cell? ⟨x3.it.heap.size, 0, none⟩ = some (.bool p0) := by rw [ey]; simp (maxDischargeDepth := 9) [go_sem]
  have m1 : y1.cell? ⟨x3.it.heap.size, 1, none⟩ = some (.bool p1) := by rw [ey]; simp (maxDischargeDepth := 9) [go_sem]
  have m2 : y1.cell? ⟨x3.it.heap.size, 2, none⟩ = some (.bool p2) := by rw [ey]; simp (maxDischargeDepth := 9) [go_sem]
  have m3 : y1.cell? ⟨x3.it.heap.size, 3, none⟩ = some (.bool p3) := by rw [ey]; simp (maxDischargeDepth := 9) [go_sem]
  have m4 : y1.cell? ⟨x3.it.heap.size, 4, none⟩ = some (.bool p4) := by rw [ey]; simp (maxDischargeDepth := 9) [go_sem]
  have m5 : y1.cell? ⟨x3.it.heap.size, 5, none⟩ = some (.int .i64 p5) := by rw [ey]; simp (maxDischargeDepth := 9) [go_sem]
  have m6 : y1.cell? ⟨x3.it.heap.size, 6, none⟩ = some (.string p6) := by rw [ey]; simp (maxDischargeDepth := 9) [go_sem]
  have m7 : y1.cell? ⟨x3.it.heap.size, 7, none⟩ = some (.bool p7) := by rw [ey]; simp (maxDischargeDepth := 9) [go_sem]
  have m8 : y1.cell? ⟨x3.it.heap.size, 8, none⟩ = some (.int .i64 p8) := by rw [ey]; simp (maxDischargeDepth := 9) [go_sem]
  have m9 : y1.cell? ⟨x3.it.heap.size, 9, none⟩ = some (.string p9) := by rw [ey]; simp (maxDischargeDepth := 9) [go_sem]
  have RG : y1.rangeAt x3.it.heap.size 0 (bndC (⟨p0, p1, p2, p3, ⟨p4, p5, p6⟩, ⟨p7, p8, p9⟩⟩ : Bnd)) := by
    intro j v hv
    rw [Nat.zero_add]
    rcases j with _ | _ | _ | _ | _ | _ | _ | _ | _ | _ | j
    · cases hv; exact m0
    · cases hv; exact m1
    · cases hv; exact m2
    · cases hv; exact m3
    · cases hv; exact m4
    · cases hv; exact m5
    · cases hv; exact m6
    · cases hv; exact m7
    · cases hv; exact m8
    · cases hv; exact m9
    · simp [bndC] at hv
  have R11 := Lib.hid RG
  have zN11 : x3.it.heap.size < y1.heap.size := by rw [ey]; simp
  have zA1 := Nat.lt_of_lt_of_le zA0 bb.size
  have zS1 := Nat.lt_of_lt_of_le zS0 bb.size
  have b01 := (bb.cell (p := ⟨SB, 0, none⟩) zS0).trans b00
  have b11 := (bb.cell (p := ⟨SB, 1, none⟩) zS0).trans b10
  have a01 := (bb.cell (p := ⟨w.heap.size, 0, none⟩) zA0).trans a00
  have a11 := (bb.cell (p := ⟨w.heap.size, 1, none⟩) zA0).trans a10
  have YB1 := Lib.hid (Below.to yb2 bb)
  clear ey bb RG hb3 m0 m1 m2 m3 m4 m5 m6 m7 m8 m9 zA0 zS0 b00 b10 a00 a10 yb2
  generalize x3.it.heap.size = N1 at *
  clear x3
  go_upto_region 5 with (go_at_call 28; refine Calls.mono (OF2.out _ YB1.out) ?_; rintro e w3 ⟨rfl, hb3⟩; obtain ⟨x3, rfl⟩ := Ext.of hb3)
  refine captureM ?_
  intro y2 ey
  have bb : Below y1.heap.size y1 y2 := by rw [ey]; exact Below.al (Below.on (Below.refl _ _) x3) _
  have m0 : y2.cell? ⟨x3.it.heap.size, 0, none⟩ = some (.bool p0) := by rw [ey]; simp (maxDischargeDepth := 9) [go_sem]
  have m1 : y2.cell? ⟨x3.it.heap.size, 1, none⟩ = some (.bool p1) := by rw [ey]; simp (maxDischargeDepth := 9) [go_sem]
  have m2 : y2.cell? ⟨x3.it.heap.size, 2, none⟩ = some (.bool p2) := by rw [ey]; simp (maxDischargeDepth := 9) [go_sem]
  have m3 : y2.cell? ⟨x3.it.heap.size, 3, none⟩ = some (.bool p3) := by rw [ey]; simp (maxDischargeDepth := 9) [go_sem]
  have m4 : y2.cell? ⟨x3.it.heap.size, 4, none⟩ = some (.bool p4) := by rw [ey]; simp (maxDischargeDepth := 9) [go_sem]
  have m5 : y2.cell? ⟨x3.it.heap.size, 5, none⟩ = some (.int .i64 p5) := by rw [ey]; simp (maxDischargeDepth := 9) [go_sem]
  have m6 : y2.cell? ⟨x3.it.heap.size, 6, none⟩ = some (.string p6) := by rw [ey]; simp (maxDischargeDepth := 9) [go_sem]
  have m7 : y2.cell? ⟨x3.it.heap.size, 7, none⟩ = some (.bool p7) := by rw [ey]; simp (maxDischargeDepth := 9) [go_sem]
  have m8 : y2.cell? ⟨x3.it.heap.size, 8, none⟩ = some (.int .i64 p8) := by rw [ey]; simp (maxDischargeDepth := 9) [go_sem]
  have m9 : y2.cell? ⟨x3.it.heap.size, 9, none⟩ = some (.string p9) := by rw [ey]; simp (maxDischargeDepth := 9) [go_sem]
  have RG : y2.rangeAt x3.it.heap.size 0 (bndC (⟨p0, p1, p2, p3, ⟨p4, p5, p6⟩, ⟨p7, p8, p9⟩⟩ : Bnd)) := by
    intro j v hv
    rw [Nat.zero_add]
    rcases j with _ | _ | _ | _ | _ | _ | _ | _ | _ | _ | j
    · cases hv; exact m0
    · cases hv; exact m1
    · cases hv; exact m2
    · cases hv; exact m3
    · cases hv; exact m4
    · cases hv; exact m5
    · cases hv; exact m6
    · cases hv; exact m7
    · cases hv; exact m8
    · cases hv; exact m9
    · simp [bndC] at hv
  have R22 := Lib.hid RG
  have zN22 : x3.it.heap.size < y2.heap.size := by rw [ey]; simp
  have zA2 := Nat.lt_of_lt_of_le zA1 bb.size
  have zS2 := Nat.lt_of_lt_of_le zS1 bb.size
  have b02 := (bb.cell (p := ⟨SB, 0, none⟩) zS1).trans b01
  have b12 := (bb.cell (p := ⟨SB, 1, none⟩) zS1).trans b11
  have a02 := (bb.cell (p := ⟨w.heap.size, 0, none⟩) zA1).trans a01
  have a12 := (bb.cell (p := ⟨w.heap.size, 1, none⟩) zA1).trans a11
  have YB2 := Lib.hid (Below.to YB1.out bb)
  have R12 := Lib.hid (rangeAt_below R11.out bb zN11)
  have zN12 := Nat.lt_of_lt_of_le zN11 bb.size
  clear ey bb RG hb3 m0 m1 m2 m3 m4 m5 m6 m7 m8 m9 zA1 zS1 b01 b11 a01 a11 YB1 R11 zN11
  generalize x3.it.heap.size = N2 at *
  clear x3
  go_upto_region 6 with (go_at_call 29; refine Calls.mono (pick_any col ((nn : Int) + 2) (by omega) (by omega) _) ?_; rw [hPKH.out]; rintro e w4 ⟨rfl, rfl⟩)
  go_upto_region 7 with (go_at_call 24; refine Calls.mono (OF3.out _ YB2.out) ?_; rintro e w3 ⟨rfl, hb3⟩; obtain ⟨x3, rfl⟩ := Ext.of hb3)
  refine captureM ?_
  intro y3 ey
  have bb : Below y2.heap.size y2 y3 := by rw [ey]; exact Below.al (Below.on (Below.refl _ _) x3) _
  have m0 : y3.cell? ⟨x3.it.heap.size, 0, none⟩ = some (.bool q0) := by rw [ey]; simp (maxDischargeDepth := 9) [go_sem]
  have m1 : y3.cell? ⟨x3.it.heap.size, 1, none⟩ = some (.bool q1) := by rw [ey]; simp (maxDischargeDepth := 9) [go_sem]
  have m2 : y3.cell? ⟨x3.it.heap.size, 2, none⟩ = some (.bool q2) := by rw [ey]; simp (maxDischargeDepth := 9) [go_sem]
  have m3 : y3.cell? ⟨x3.it.heap.size, 3, none⟩ = some (.bool q3) := by rw [ey]; simp (maxDischargeDepth := 9) [go_sem]
  have m4 : y3.cell? ⟨x3.it.heap.size, 4, none⟩ = some (.bool q4) := by rw [ey]; simp (maxDischargeDepth := 9) [go_sem]
  have m5 : y3.cell? ⟨x3.it.heap.size, 5, none⟩ = some (.int .i64 q5) := by rw [ey]; simp (maxDischargeDepth := 9) [go_sem]
  have m6 : y3.cell? ⟨x3.it.heap.size, 6, none⟩ = some (.string q6) := by rw [ey]; simp (maxDischargeDepth := 9) [go_sem]
  have m7 : y3.cell? ⟨x3.it.heap.size, 7, none⟩ = some (.bool q7) := by rw [ey]; simp (maxDischargeDepth := 9) [go_sem]
  have m8 : y3.cell? ⟨x3.it.heap.size, 8, none⟩ = some (.int .i64 q8) := by rw [ey]; simp (maxDischargeDepth := 9) [go_sem]
  have m9 : y3.cell? ⟨x3.it.heap.size, 9, none⟩ = some (.string q9) := by rw [ey]; simp (maxDischargeDepth := 9) [go_sem]
  have RG : y3.rangeAt x3.it.heap.size 0 (bndC (⟨q0, q1, q2, q3, ⟨q4, q5, q6⟩, ⟨q7, q8, q9⟩⟩ : Bnd)) := by
    intro j v hv
    rw [Nat.zero_add]
    rcases j with _ | _ | _ | _ | _ | _ | _ | _ | _ | _ | j
    · cases hv; exact m0
    · cases hv; exact m1
    · cases hv; exact m2
    · cases hv; exact m3
    · cases hv; exact m4
    · cases hv; exact m5
    · cases hv; exact m6
    · cases hv; exact m7
    · cases hv; exact m8
    · cases hv; exact m9
    · simp [bndC] at hv
  have R33 := Lib.hid RG
  have zN33 : x3.it.heap.size < y3.heap.size := by rw [ey]; simp
  have zA3 := Nat.lt_of_lt_of_le zA2 bb.size
  have zS3 := Nat.lt_of_lt_of_le zS2 bb.size
  have b03 := (bb.cell (p := ⟨SB, 0, none⟩) zS2).trans b02
  have b13 := (bb.cell (p := ⟨SB, 1, none⟩) zS2).trans b12
  have a03 := (bb.cell (p := ⟨w.heap.size, 0, none⟩) zA2).trans a02
  have a13 := (bb.cell (p := ⟨w.heap.size, 1, none⟩) zA2).trans a12
  have YB3 := Lib.hid (Below.to YB2.out bb)
  have R13 := Lib.hid (rangeAt_below R12.out bb zN12)
  have zN13 := Nat.lt_of_lt_of_le zN12 bb.size
  have R23 := Lib.hid (rangeAt_below R22.out bb zN22)
  have zN23 := Nat.lt_of_lt_of_le zN22 bb.size
  clear ey bb RG hb3 m0 m1 m2 m3 m4 m5 m6 m7 m8 m9 zA2 zS2 b02 b12 a02 a12 YB2 R12 zN12 R22 zN22
  generalize x3.it.heap.size = N3 at *
  clear x3
  go_upto_region 8 with (go_at_call 28; refine Calls.mono (OF4.out _ YB3.out) ?_; rintro e w3 ⟨rfl, hb3⟩; obtain ⟨x3, rfl⟩ := Ext.of hb3)
  refine captureM ?_
  intro y4 ey
  have bb : Below y3.heap.size y3 y4 := by rw [ey]; exact Below.al (Below.on (Below.refl _ _) x3) _
  have m0 : y4.cell? ⟨x3.it.heap.size, 0, none⟩ = some (.bool q0) := by rw [ey]; simp (maxDischargeDepth := 9) [go_sem]
  have m1 : y4.cell? ⟨x3.it.heap.size, 1, none⟩ = some (.bool q1) := by rw [ey]; simp (maxDischargeDepth := 9) [go_sem]
  have m2 : y4.cell? ⟨x3.it.heap.size, 2, none⟩ = some (.bool q2) := by rw [ey]; simp (maxDischargeDepth := 9) [go_sem]
  have m3 : y4.cell? ⟨x3.it.heap.size, 3, none⟩ = some (.bool q3) := by rw [ey]; simp (maxDischargeDepth := 9) [go_sem]
  have m4 : y4.cell? ⟨x3.it.heap.size, 4, none⟩ = some (.bool q4) := by rw [ey]; simp (maxDischargeDepth := 9) [go_sem]
  have m5 : y4.cell? ⟨x3.it.heap.size, 5, none⟩ = some (.int .i64 q5) := by rw [ey]; simp (maxDischargeDepth := 9) [go_sem]
  have m6 : y4.cell? ⟨x3.it.heap.size, 6, none⟩ = some (.string q6) := by rw [ey]; simp (maxDischargeDepth := 9) [go_sem]
  have m7 : y4.cell? ⟨x3.it.heap.size, 7, none⟩ = some (.bool q7) := by rw [ey]; simp (maxDischargeDepth := 9) [go_sem]
  have m8 : y4.cell? ⟨x3.it.heap.size, 8, none⟩ = some (.int .i64 q8) := by rw [ey]; simp (maxDischargeDepth := 9) [go_sem]
  have m9 : y4.cell? ⟨x3.it.heap.size, 9, none⟩ = some (.string q9) := by rw [ey]; simp (maxDischargeDepth := 9) [go_sem]
  have RG : y4.rangeAt x3.it.heap.size 0 (bndC (⟨q0, q1, q2, q3, ⟨q4, q5, q6⟩, ⟨q7, q8, q9⟩⟩ : Bnd)) := by
    intro j v hv
    rw [Nat.zero_add]
    rcases j with _ | _ | _ | _ | _ | _ | _ | _ | _ | _ | j
    · cases hv; exact m0
    · cases hv; exact m1
    · cases hv; exact m2
    · cases hv; exact m3
    · cases hv; exact m4
    · cases hv; exact m5
    · cases hv; exact m6
    · cases hv; exact m7
    · cases hv; exact m8
    · cases hv; exact m9
    · simp [bndC] at hv
  have R44 := Lib.hid RG
  have zN44 : x3.it.heap.size < y4.heap.size := by rw [ey]; simp
  have zA4 := Nat.lt_of_lt_of_le zA3 bb.size
  have zS4 := Nat.lt_of_lt_of_le zS3 bb.size
  have b04 := (bb.cell (p := ⟨SB, 0, none⟩) zS3).trans b03
  have b14 := (bb.cell (p := ⟨SB, 1, none⟩) zS3).trans b13
  have a04 := (bb.cell (p := ⟨w.heap.size, 0, none⟩) zA3).trans a03
  have a14 := (bb.cell (p := ⟨w.heap.size, 1, none⟩) zA3).trans a13
  have YB4 := Lib.hid (Below.to YB3.out bb)
  have R14 := Lib.hid (rangeAt_below R13.out bb zN13)
  have zN14 := Nat.lt_of_lt_of_le zN13 bb.size
  have R24 := Lib.hid (rangeAt_below R23.out bb zN23)
  have zN24 := Nat.lt_of_lt_of_le zN23 bb.size
  have R34 := Lib.hid (rangeAt_below R33.out bb zN33)
  have zN34 := Nat.lt_of_lt_of_le zN33 bb.size
  clear ey bb RG hb3 m0 m1 m2 m3 m4 m5 m6 m7 m8 m9 zA3 zS3 b03 b13 a03 a13 YB3 R13 zN13 R23 zN23 R33 zN33
  generalize x3.it.heap.size = N4 at *
  clear x3
  have E1 : eqB ⟨p0, p1, p2, p3, ⟨p4, p5, p6⟩, ⟨p7, p8, p9⟩⟩ ⟨p0, p1, p2, p3, ⟨p4, p5, p6⟩, ⟨p7, p8, p9⟩⟩ = true := (eqB_iff _ _).2 rfl
  have E2 : eqB ⟨q0, q1, q2, q3, ⟨q4, q5, q6⟩, ⟨q7, q8, q9⟩⟩ ⟨q0, q1, q2, q3, ⟨q4, q5, q6⟩, ⟨q7, q8, q9⟩⟩ = true := (eqB_iff _ _).2 rfl
  have BWY := Lib.hid (Below.to BW.out YB4.out)
  clear OF1 OF2 OF3 OF4 GC GN HC2 HNN hPKH
  go_upto_region 8 with fail
  go_wp2_with (go_at_call 15; refine Calls.mono (awake_any _) ?_; rintro e w8 ⟨rfl, hb8⟩; obtain ⟨x8, rfl⟩ := Ext.of hb8; have S1 := rangeAt_below R14.out x8.below zN14; have u1 : N1 < x8.it.heap.size := x8.lt zN14; have c10 : x8.it.cell? ⟨N1, 0, none⟩ = some (.bool p0) := S1 0 _ rfl; have c11 : x8.it.cell? ⟨N1, 1, none⟩ = some (.bool p1) := S1 1 _ rfl; have c12 : x8.it.cell? ⟨N1, 2, none⟩ = some (.bool p2) := S1 2 _ rfl; have c13 : x8.it.cell? ⟨N1, 3, none⟩ = some (.bool p3) := S1 3 _ rfl; have c14 : x8.it.cell? ⟨N1, 4, none⟩ = some (.bool p4) := S1 4 _ rfl; have c15 : x8.it.cell? ⟨N1, 5, none⟩ = some (.int .i64 p5) := S1 5 _ rfl; have c16 : x8.it.cell? ⟨N1, 6, none⟩ = some (.string p6) := S1 6 _ rfl; have c17 : x8.it.cell? ⟨N1, 7, none⟩ = some (.bool p7) := S1 7 _ rfl; have c18 : x8.it.cell? ⟨N1, 8, none⟩ = some (.int .i64 p8) := S1 8 _ rfl; have c19 : x8.it.cell? ⟨N1, 9, none⟩ = some (.string p9) := S1 9 _ rfl; clear S1; have S2 := rangeAt_below R24.out x8.below zN24; have u2 : N2 < x8.it.heap.size := x8.lt zN24; have c20 : x8.it.cell? ⟨N2, 0, none⟩ = some (.bool p0) := S2 0 _ rfl; have c21 : x8.it.cell? ⟨N2, 1, none⟩ = some (.bool p1) := S2 1 _ rfl; have c22 : x8.it.cell? ⟨N2, 2, none⟩ = some (.bool p2) := S2 2 _ rfl; have c23 : x8.it.cell? ⟨N2, 3, none⟩ = some (.bool p3) := S2 3 _ rfl; have c24 : x8.it.cell? ⟨N2, 4, none⟩ = some (.bool p4) := S2 4 _ rfl; have c25 : x8.it.cell? ⟨N2, 5, none⟩ = some (.int .i64 p5) := S2 5 _ rfl; have c26 : x8.it.cell? ⟨N2, 6, none⟩ = some (.string p6) := S2 6 _ rfl; have c27 : x8.it.cell? ⟨N2, 7, none⟩ = some (.bool p7) := S2 7 _ rfl; have c28 : x8.it.cell? ⟨N2, 8, none⟩ = some (.int .i64 p8) := S2 8 _ rfl; have c29 : x8.it.cell? ⟨N2, 9, none⟩ = some (.string p9) := S2 9 _ rfl; clear S2; have S3 := rangeAt_below R34.out x8.below zN34; have u3 : N3 < x8.it.heap.size := x8.lt zN34; have c30 : x8.it.cell? ⟨N3, 0, none⟩ = some (.bool q0) := S3 0 _ rfl; have c31 : x8.it.cell? ⟨N3, 1, none⟩ = some (.bool q1) := S3 1 _ rfl; have c32 : x8.it.cell? ⟨N3, 2, none⟩ = some (.bool q2) := S3 2 _ rfl; have c33 : x8.it.cell? ⟨N3, 3, none⟩ = some (.bool q3) := S3 3 _ rfl; have c34 : x8.it.cell? ⟨N3, 4, none⟩ = some (.bool q4) := S3 4 _ rfl; have c35 : x8.it.cell? ⟨N3, 5, none⟩ = some (.int .i64 q5) := S3 5 _ rfl; have c36 : x8.it.cell? ⟨N3, 6, none⟩ = some (.string q6) := S3 6 _ rfl; have c37 : x8.it.cell? ⟨N3, 7, none⟩ = some (.bool q7) := S3 7 _ rfl; have c38 : x8.it.cell? ⟨N3, 8, none⟩ = some (.int .i64 q8) := S3 8 _ rfl; have c39 : x8.it.cell? ⟨N3, 9, none⟩ = some (.string q9) := S3 9 _ rfl; clear S3; have S4 := rangeAt_below R44.out x8.below zN44; have u4 : N4 < x8.it.heap.size := x8.lt zN44; have c40 : x8.it.cell? ⟨N4, 0, none⟩ = some (.bool q0) := S4 0 _ rfl; have c41 : x8.it.cell? ⟨N4, 1, none⟩ = some (.bool q1) := S4 1 _ rfl; have c42 : x8.it.cell? ⟨N4, 2, none⟩ = some (.bool q2) := S4 2 _ rfl; have c43 : x8.it.cell? ⟨N4, 3, none⟩ = some (.bool q3) := S4 3 _ rfl; have c44 : x8.it.cell? ⟨N4, 4, none⟩ = some (.bool q4) := S4 4 _ rfl; have c45 : x8.it.cell? ⟨N4, 5, none⟩ = some (.int .i64 q5) := S4 5 _ rfl; have c46 : x8.it.cell? ⟨N4, 6, none⟩ = some (.string q6) := S4 6 _ rfl; have c47 : x8.it.cell? ⟨N4, 7, none⟩ = some (.bool q7) := S4 7 _ rfl; have c48 : x8.it.cell? ⟨N4, 8, none⟩ = some (.int .i64 q8) := S4 8 _ rfl; have c49 : x8.it.cell? ⟨N4, 9, none⟩ = some (.string q9) := S4 9 _ rfl; clear S4)
  have BB := BWY.out
  exact bodyPost_ret (v := .bool true) (by simp [results, Try.results8, go_sem, *]) rfl (⟨rfl, by repeat (first | with_reducible exact Below.refl _ _ | with_reducible assumption | with_reducible refine Below.al ?_ _ | with_reducible refine Below.on ?_ _ | with_reducible refine Below.st ?_ (by first | assumption | (simp; done) | (simp; omega)) _ | with_reducible refine Below.drew ?_)⟩)
end Go.Proofs.Ytjojnakgadfgmaa
