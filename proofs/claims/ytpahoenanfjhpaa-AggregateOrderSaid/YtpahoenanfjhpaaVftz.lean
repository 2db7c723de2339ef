/-
  FILTERS: vector.Filter of whatever predicate and columns. Conditions: the schema, the predicate and the columns lie in memory as 'ColsAt', 'NodsAt', 'RowsAt' say.
-/
import Derived.Test.YtpahoenanfjhpaaZl
import Derived.Deep.CutRange
set_option linter.unusedVariables false
set_option linter.unusedSimpArgs false
namespace Go.Proofs.Ytpahoenanfjhpaa
open Go.RowKit
theorem infoInts : (Try.prog.info? 31).map (fun i => (i.zero, i.size, i.bytes)) = some (some (.slice none 0 0), 1, 24) := by kernel_rfl
/-- A block of a made slice: its cells are there. -/
theorem made_th {w : World} {C : Array Value} {t : TypeId} {n : Nat} (h : C.size = n * 1) : ∀ j, j < n → (∃ u, (w.alloc (.cells C t)).cell? ⟨w.heap.size, j, none⟩ = some u) ∧ (w.alloc (.cells C t)).frozen? ⟨w.heap.size, j, none⟩ = false := fun j hj => by
  have k := there_new (w := w) C t w.heap.size rfl j (by omega)
  rw [Nat.zero_add] at k
  exact ⟨Option.isSome_iff_exists.1 k.1, k.2⟩
theorem EvMem.replicate {w : World} {TB N k : Nat} (h : EvMem w TB N (List.replicate k 1)) (hk : k < N) : EvMem (w.setCell ⟨TB, k, none⟩ (.int .i64 1)) TB N (List.replicate (k + 1) 1) := by
  rw [List.replicate_succ']
  exact h.step (by simp) hk (.inr (.inl rfl))
theorem OutAt.st {w : World} {OB N : Nat} {l : List Int} (h : OutAt w OB N l) {TB : Nat} (hne : OB ≠ TB) (i : Nat) (u : Value) : OutAt (w.setCell ⟨TB, i, none⟩ u) OB N l :=
  ⟨by rw [World.size_setCell]; exact h.1, h.2.1, fun k hk => (World.cell?_setCell_other _ _ _ _ (by intro e; injection e with e; exact hne e.symm)).trans (h.2.2 k hk)⟩
theorem FlMem.val {w : World} {TB m N A : Nat} {cs : List Col} {ns : List Nod} {cols : List (List Val)} {bl : List Nat} (h : FlMem w TB m N (vR cs ns cols N) bl) (hA : A < bl.length) {k : Nat} (hk : k < N) : ∃ b, w.cell? ⟨TB, A, none⟩ = some (.slice (some ⟨b, 0, none⟩) N N) ∧ b < w.heap.size ∧ w.cell? ⟨b, k, none⟩ = some (.int .i64 (vT cs ns cols A k)) := by
  obtain ⟨h1, h2, _, h4⟩ := h.lv A hA
  refine ⟨_, h1, h2, ?_⟩
  have := h4 k hk
  rw [List.getD_eq_getElem?_getD, List.getElem?_eq_getElem (by rw [vR_len]; exact hk), Option.getD_some, vR_at] at this
  exact this
set_option maxRecDepth 8000 in
set_option maxHeartbeats 4000000 in
theorem vfilter_ok (cv : Value) (cs : List Col) (key : Int) (nv : Value) (ns : List Nod) (rv : Value) (cols : List (List Val)) (w : World) (hc : ColsAt w w.heap.size cv cs) (hn : NodsAt w w.heap.size nv ns) (hr : RowsAt w w.heap.size rv cols) (hp : predF cs key ns = 0) (he : colsErr cs cols = 0) (hc1 : 1 ≤ cs.length) :
    Calls Try.prog 38 #[.agg #[cv, .int .i64 key], nv, rv] w fun e w' => ∃ v, e = .returned (.tuple #[v, .int .i64 0]) ∧ IntsAt w' w'.heap.size v (filtF cs ns cols) ∧ Below w.heap.size w w' := by
  obtain ⟨m64, NA⟩ := predF_all hp
  have hcl : cols.length = cs.length := by
    unfold colsErr at he
    by_cases q : cols.length = cs.length
    · exact q
    · rw [if_pos q] at he; exact absurd he (by decide)
  have hm0 : 0 < cols.length := by omega
  obtain ⟨N, hN⟩ : ∃ N, (cols[0]'hm0).length = N := ⟨_, rfl⟩
  have hE := he
  rw [colsErr_eq hcl hm0 hN] at hE
  have LF : lenOff N cols = false := by
    cases q : lenOff N cols with
    | false => rfl
    | true => rw [q, if_pos rfl] at hE; exact absurd hE (by decide)
  rw [LF, if_neg (by simp)] at hE
  have N4 : N ≤ 4096 := by
    by_cases q : 4096 < N
    · rw [if_pos q] at hE; exact absurd hE (by decide)
    · omega
  have LN : ∀ j (h : j < cols.length), (cols[j]'h).length = N := by
    intro j h
    unfold lenOff at LF
    rw [List.any_eq_false] at LF
    have := LF _ (List.getElem_mem h)
    simpa using this
  have HH : cols.headD [] = cols[0]'hm0 := headD_at hm0
  have FIL : outT cs ns cols N ns.length = filtF cs ns cols := by have h := outT_all cs ns cols; rw [HH, hN] at h; exact h
  obtain ⟨ca, cc, rfl⟩ := cols_end hc
  obtain ⟨na, pc, rfl⟩ := nods_end hn
  obtain ⟨ra, rc, rfl⟩ := rows_end hr
  obtain ⟨nc, hl⟩ : ∃ nc, cs.length = nc := ⟨_, rfl⟩
  obtain ⟨m, hm⟩ : ∃ m, ns.length = m := ⟨_, rfl⟩
  rw [hcl] at hr
  have HC : Hid (ColsAt w w.heap.size (.slice ca nc cc) cs) := Lib.hid (by rw [← hl]; exact hc)
  have HN : Hid (NodsAt w w.heap.size (.slice na m pc) ns) := Lib.hid (by rw [← hm]; exact hn)
  have HR : Hid (RowsAt w w.heap.size (.slice ra nc rc) cols) := Lib.hid (by rw [← hl]; exact hr)
  have HM := Lib.hid hm
  have HL := Lib.hid hl
  have HCL := Lib.hid hcl
  have HLN := Lib.hid LN
  have HFI := Lib.hid FIL
  have NA' := Lib.hid NA
  have HP := Lib.hid hp
  have HE := Lib.hid he
  rw [hcl, hl, hm]
  rw [hm] at m64
  have nc1 : (0 : Int) < (nc : Int) := by omega
  obtain ⟨i0, hi, hz0, hz1, hz2⟩ := info_parts infoInt
  obtain ⟨i1, hj, hy0, hy1, hy2⟩ := info_parts infoInts
  have hmk := fun w => run_make (P := Try.prog) w 31 3 i0 _ Try.underlying31 hi hz0 .i64 .i64 (N : Int) (N : Int) (by omega) (Int.le_refl _) (by rw [hz2]; omega) (by omega)
  simp only [Int.toNat_natCast, hz1] at hmk
  obtain ⟨MC, hMC⟩ : ∃ MC, madeCells (Value.cells (.int .i64 0)) (N * 1) = MC := ⟨_, rfl⟩
  have hMS : MC.size = N * 1 := by rw [← hMC]; exact size_madeCells _ _
  rw [hMC] at hmk
  have hmk2 := fun w => run_make (P := Try.prog) w 101 31 i1 _ Try.underlying101 hj hy0 .i64 .i64 (m : Int) (m : Int) (by omega) (Int.le_refl _) (by rw [hy2]; omega) (by omega)
  simp only [Int.toNat_natCast, hy1] at hmk2
  obtain ⟨MD, hMD⟩ : ∃ MD, madeCells (Value.cells (.slice none 0 0)) (m * 1) = MD := ⟨_, rfl⟩
  have hMT : MD.size = m * 1 := by rw [← hMD]; exact size_madeCells _ _
  rw [hMD] at hmk2
  have HMS := Lib.hid (And.intro hMS hMT)
  obtain ⟨b0, o0, rfl, _, hb0, lv0, e0, hl0⟩ := rows_in HR.out hm0
  obtain ⟨la0, lc0, rfl⟩ := vals_end hl0
  rw [hN] at e0
  clear hc hn hr hcl hl hm hE LF LN HH FIL NA hp he hz0 hz1 hz2 hy0 hy1 hy2 hMC hMD hMS hMT hN hl0 hc1
  go_enter Try.func38, Try.ntmps38
  go_upto_region 1 with fail
  refine captureP ?_
  intro y ey
  have yb : Below w.heap.size w y.it := by rw [ey]; exact (by repeat (first | with_reducible exact Below.refl _ _ | with_reducible assumption | with_reducible refine Below.al ?_ _ | with_reducible refine Below.on ?_ _ | with_reducible refine Below.st ?_ (by first | assumption | (simp; done) | (simp; omega)) _ | with_reducible refine Below.drew ?_))
  have y0 : y.it.cell? ⟨w.heap.size, 0, none⟩ = some (.slice ca nc cc) := by rw [ey]; simp (maxDischargeDepth := 9) [go_sem, *]
  have y1 : y.it.cell? ⟨w.heap.size, 1, none⟩ = some (.int .i64 key) := by rw [ey]; simp (maxDischargeDepth := 9) [go_sem, *]
  have yz : w.heap.size < y.it.heap.size := by rw [ey]; simp
  have PC := Lib.hid (by have h := predCheck_any (.slice ca nc cc) cs key (.slice na m pc) ns y.it (HC.out.mono yb yb.size) (HN.out.mono yb yb.size); rw [HP.out] at h; exact h)
  have CC := Lib.hid (fun x : Ext y.it => (by have h := colcheck_any (.slice ca nc cc) cs key (.slice (some ⟨b0, o0, none⟩) nc rc) cols x.it (HC.out.mono (yb.trans (x.below.mono yb.size)) (Nat.le_trans yb.size x.below.size)) (HR.out.mono (yb.trans (x.below.mono yb.size)) (Nat.le_trans yb.size x.below.size)) (by have := HL.out; omega); rw [HE.out] at h; exact h))
  clear ey
  go_upto_region 7 with (first | (go_at_call 54; refine Calls.mono PC.out ?_; rintro e w1 ⟨rfl, hb1⟩; obtain ⟨x1, rfl⟩ := Ext.of hb1; have z1 := x1.lt yz) | (go_at_call 59; refine Calls.mono (CC.out x1) ?_; rintro e w2 ⟨rfl, hb2⟩; obtain ⟨x2, rfl⟩ := Ext.of (x1.below.trans (hb2.mono x1.below.size)); have z2 := x2.lt yz))
  have hx2 := Below.on yb x2
  have k0 := (hx2.cell (p := ⟨b0, o0, none⟩) hb0).trans e0
  have zb0 : b0 < x2.it.heap.size := Nat.lt_of_lt_of_le hb0 hx2.size
  have x2b := x2.below
  go_upto_region 8 with fail
  refine captureM ?_
  intro v ev
  have vb : Below y.it.heap.size y.it v := by rw [ev]; exact Below.al x2b _
  have OBL : y.it.heap.size ≤ x2.it.heap.size := x2b.size
  have EM : Hid (EvMem v x2.it.heap.size N (List.replicate 0 1)) := Lib.hid ⟨by rw [ev]; simp, by simp, by rw [ev]; exact made_th HMS.out.1, fun j hj => absurd hj (by simp), fun a ha => absurd ha (by simp)⟩
  clear ev k0 zb0 hx2 x2b z1 z2 hb1 hb2
  generalize x2.it.heap.size = OB at *
  clear x2 x1 PC CC
  have ylb : b0 < y.it.heap.size := Nat.lt_of_lt_of_le hb0 yb.size
  have k0 := (yb.cell (p := ⟨b0, o0, none⟩) hb0).trans e0
  go_wp2_with fail
  go_loopg [36] N (fun g st wr => ∃ k : Nat, k + g = N ∧ st = .int .i64 (k : Int) ∧ ∃ x : Ext y.it, x.it = wr ∧ EvMem x.it OB N (List.replicate k 1))
  case atStart => exact ⟨0, by omega, rfl, ⟨v, vb⟩, rfl, EM.out⟩
  case round =>
    obtain ⟨k, hk, rfl, x, rfl, E⟩ := hrel
    clear EM vb v
    have zO := E.lt
    have EH := Lib.hid E
    by_cases hg0 : gk = 0
    · subst hg0
      obtain rfl : N = k := by omega
      clear E hk
      go_upto_region 14 with fail
      refine captureM ?_
      intro u eu
      have ub : Below x.it.heap.size x.it u := by rw [eu]; exact Below.al (Below.refl _ _) _
      have FM0 : Hid (FlMem u x.it.heap.size m N (vR cs ns cols N) []) := Lib.hid ⟨by rw [eu]; simp, by simp, by rw [eu]; exact made_th HMS.out.2, fun i h => absurd h (by simp)⟩
      have OA0 : Hid (OutAt u OB N (outT cs ns cols N 0)) := Lib.hid (by have h := OutAt.of EH.out (by simp); unfold outT; rw [if_pos rfl]; exact h.to ub)
      have yu : Below y.it.heap.size y.it u := x.below.trans (ub.mono x.below.size)
      have zOT : OB ≠ x.it.heap.size := by omega
      have TBL : y.it.heap.size ≤ x.it.heap.size := x.below.size
      clear eu EH zO ub
      generalize x.it.heap.size = TB at *
      clear x
      go_wp2_with fail
      go_loopg [10, 48] m (fun g o st wr => ∃ (i : Nat) (bl : List Nat) (OX : Nat), i + g = m ∧ st = .int .i64 (i : Int) ∧ o = .slice (some ⟨OX, 0, none⟩) N N ∧ bl.length = i ∧ OX ≠ TB ∧ ∃ x : Ext y.it, x.it = wr ∧ FlMem x.it TB m N (vR cs ns cols N) bl ∧ OutAt x.it OX N (outT cs ns cols N i))
      case atStart => exact ⟨0, [], OB, by omega, rfl, rfl, rfl, zOT, ⟨u, yu⟩, rfl, FM0.out, OA0.out⟩
      case round =>
        obtain ⟨i, bl, OX, hk, rfl, rfl, hbl, hOX, x, rfl, F, O⟩ := hrel
        obtain ⟨og, rfl⟩ : ∃ og, og = gk := ⟨_, rfl⟩
        clear FM0 OA0 yu u zOT
        have hxw := Below.on yb x
        have F' := Lib.hid F
        have O' := Lib.hid O
        by_cases hg0 : og = 0
        · subst hg0
          obtain rfl : i = m := by omega
          clear F O hk
          go_wp2
          refine bodyPost_ret (v := .tuple #[.slice (some ⟨OX, 0, none⟩) N N, .int .i64 0]) ?_ rfl ⟨_, rfl, ?_, hxw⟩
          · simp (maxDischargeDepth := 9) [results, Try.results38, go_sem, *]
          · have h := O'.out
            rw [← HM.out, HFI.out] at h
            exact h.ints (by omega) (by rw [← HFI.out]; exact outT_3 _ _ _ _ _)
        · have him : i < m := by omega
          have him' : (i : Int) < (m : Int) := by omega
          have hil : i < ns.length := by rw [HM.out]; exact him
          obtain ⟨b, o, rfl, _, hb, lv, c0, c1, c2, c3, c4, c5, c6, c7, hlv⟩ := nods_in HN.out hil
          have NK := nodE_ok (NA'.out i hil)
          have NL := Lib.hid (nodE_leaf (NA'.out i hil))
          have VST := Lib.hid (fun k => vT_step (cols := cols) k hil (NA'.out i hil))
          obtain ⟨d, hd⟩ : ∃ d, ns[i]'hil = d := ⟨_, rfl⟩
          rw [hd] at NK NL VST c0 c1 c2 c3 c4 c6 c7 hlv
          obtain ⟨dop, dcol, ⟨dvn, dn, ds⟩, dls, da, db⟩ := d
          dsimp only at NK NL VST c0 c1 c2 c3 c4 c6 c7 hlv
          have f0' := (hxw.cell (p := ⟨b, o + i * 8, none⟩) hb).trans c0
          have f1' := (hxw.cell (p := ⟨b, o + i * 8 + 1, none⟩) hb).trans c1
          have f2' := (hxw.cell (p := ⟨b, o + i * 8 + 2, none⟩) hb).trans c2
          have f3' := (hxw.cell (p := ⟨b, o + i * 8 + 3, none⟩) hb).trans c3
          have f4' := (hxw.cell (p := ⟨b, o + i * 8 + 4, none⟩) hb).trans c4
          have f5' := (hxw.cell (p := ⟨b, o + i * 8 + 5, none⟩) hb).trans c5
          have f6' := (hxw.cell (p := ⟨b, o + i * 8 + 6, none⟩) hb).trans c6
          have f7' := (hxw.cell (p := ⟨b, o + i * 8 + 7, none⟩) hb).trans c7
          have zb : b < x.it.heap.size := Nat.lt_of_lt_of_le hb hxw.size
          obtain ⟨la, lc, rfl⟩ := vals_end hlv
          obtain ⟨lm, hlm⟩ : ∃ lm, dls.length = lm := ⟨_, rfl⟩
          rw [hlm] at f5' c5 hlv
          have HLV := Lib.hid hlv
          have HI := Lib.hid (And.intro (And.intro hk hg0) hbl)
          have zTx := F.lt
          clear c0 c1 c2 c3 c4 c5 c6 c7 hlv hd hk hbl hg0 hlm F O
          go_upto_region 17 with fail
          refine captureM ?_
          intro z ez
          have n0 : z.cell? ⟨x.it.heap.size, 0, none⟩ = some (.int .i64 dop) := by rw [ez]; simp (maxDischargeDepth := 9) [go_sem, *]
          have n1 : z.cell? ⟨x.it.heap.size, 1, none⟩ = some (.int .i64 dcol) := by rw [ez]; simp (maxDischargeDepth := 9) [go_sem, *]
          have n2 : z.cell? ⟨x.it.heap.size, 2, none⟩ = some (.bool dvn) := by rw [ez]; simp (maxDischargeDepth := 9) [go_sem, *]
          have n3 : z.cell? ⟨x.it.heap.size, 3, none⟩ = some (.int .i64 dn) := by rw [ez]; simp (maxDischargeDepth := 9) [go_sem, *]
          have n4 : z.cell? ⟨x.it.heap.size, 4, none⟩ = some (.string ds) := by rw [ez]; simp (maxDischargeDepth := 9) [go_sem, *]
          have n5 : z.cell? ⟨x.it.heap.size, 5, none⟩ = some (.slice la lm lc) := by rw [ez]; simp (maxDischargeDepth := 9) [go_sem, *]
          have n6 : z.cell? ⟨x.it.heap.size, 6, none⟩ = some (.int .i64 da) := by rw [ez]; simp (maxDischargeDepth := 9) [go_sem, *]
          have n7 : z.cell? ⟨x.it.heap.size, 7, none⟩ = some (.int .i64 db) := by rw [ez]; simp (maxDischargeDepth := 9) [go_sem, *]
          have zxb : Below x.it.heap.size x.it z := by rw [ez]; exact Below.al (Below.refl _ _) _
          have zyb : Below y.it.heap.size y.it z := x.below.trans (zxb.mono x.below.size)
          have zwb : Below w.heap.size w z := yb.trans (zyb.mono yb.size)
          have zN : x.it.heap.size < z.heap.size := by rw [ez]; simp
          have FM := F'.out.to zxb
          have OM := Lib.hid (O'.out.to zxb)
          have FMH := Lib.hid FM
          have zT : TB < z.heap.size := by omega
          have k1 := (zyb.cell (p := ⟨b0, o0, none⟩) ylb).trans k0
          have zb1 : b0 < z.heap.size := Nat.lt_of_lt_of_le ylb zyb.size
          have s0 := (zyb.cell (p := ⟨w.heap.size, 0, none⟩) yz).trans y0
          have s1 := (zyb.cell (p := ⟨w.heap.size, 1, none⟩) yz).trans y1
          have zw := Nat.lt_of_lt_of_le yz zyb.size
          have HRz := Lib.hid (HR.out.mono zwb zwb.size)
          have HCz := Lib.hid (HC.out.mono zwb zwb.size)
          have HLz := Lib.hid (HLV.out.mono zwb zwb.size)
          clear ez f0' f1' f2' f3' f4' f5' f6' f7' F' O' hxw zb zTx zxb
          generalize x.it.heap.size = NB at *
          clear x
          go_upto_region 18 with fail
          refine captureM ?_
          intro q eq
          have qb : Below z.heap.size z q := by rw [eq]; exact Below.al (Below.refl _ _) _
          have EQ : Hid (EvMem q z.heap.size N ((vR cs ns cols N i).take 0)) := Lib.hid ⟨by rw [eq]; simp, by simp, by rw [eq]; exact made_th HMS.out.1, fun j hj => absurd hj (by simp), fun a ha => absurd ha (by simp)⟩
          have hLT : z.heap.size ≠ TB := by omega
          have hLz : z.heap.size ≤ z.heap.size := Nat.le_refl _
          clear eq
          obtain ⟨LB, hLB⟩ : ∃ LB, z.heap.size = LB := ⟨_, rfl⟩
          rw [hLB] at EQ hLT ⊢
          have hLz : z.heap.size ≤ LB := by omega
          have HLB := Lib.hid hLB
          clear hLB
          go_wp2_with fail
          go_loopg [60] N (fun g st wr => ∃ k : Nat, k + g = N ∧ st = .int .i64 (k : Int) ∧ ∃ xi : Ext z, xi.it = wr ∧ EvMem xi.it LB N ((vR cs ns cols N i).take k))
          case atStart => exact ⟨0, by omega, rfl, ⟨q, qb⟩, rfl, EQ.out⟩
          case round =>
            obtain ⟨k, hkk, rfl, xi, rfl, EM⟩ := hrel
            clear EQ qb q
            have EMi := Lib.hid EM
            have zL := EM.lt
            by_cases hgi : gk = 0
            · subst hgi
              obtain rfl : N = k := by omega
              have hth := (FMH.out.to xi.below).th i him
              obtain ⟨⟨old, hold⟩, hfro⟩ := hth
              have zTi := xi.lt zT
              have EN : Hid (EvMem xi.it LB N (vR cs ns cols N i)) := Lib.hid (by have h := EMi.out; rw [List.take_of_length_le (by rw [vR_len]; exact Nat.le_refl _)] at h; exact h)
              have OL := OutAt.of EN.out (vR_len _ _ _ _ _)
              have FSh := Lib.hid ((FMH.out.to xi.below).step (LB := LB) (by rw [HI.out.2]; exact him) zL hLT (by rw [HI.out.2]; exact OL.2.2))
              have OS : Hid (OutAt (xi.it.setCell ⟨TB, i, none⟩ (.slice (some ⟨LB, 0, none⟩) N N)) LB N (outT cs ns cols N (i + 1))) := Lib.hid (by unfold outT; rw [if_neg (by omega)]; exact OL.st hLT _ _)
              clear EM hkk OL
              go_wp2_with fail
              go_roundg (og - 1)
              case measure => have := HI.out.1; omega
              case rel => exact ⟨i + 1, bl ++ [LB], LB, by have := HI.out.1; omega, by go_num, rfl, by rw [List.length_append, HI.out.2]; rfl, hLT, ⟨xi.it.setCell ⟨TB, i, none⟩ _, Below.st (zyb.trans (xi.below.mono zyb.size)) TBL _⟩, rfl, by have h := FSh.out; rw [HI.out.2] at h; exact h, OS.out⟩
            · have hkm : k < N := by omega
              have hkm' : (k : Int) < (N : Int) := by omega
              have HJ := Lib.hid (And.intro hkk hgi)
              obtain ⟨⟨old, hold⟩, hfro⟩ := EM.th k hkm
              have zTi := xi.lt zT
              have zNi := xi.lt zN
              have zwi := xi.lt zw
              have n0' := (xi.cell NB 0 zN).trans n0
              have n1' := (xi.cell NB 1 zN).trans n1
              have n2' := (xi.cell NB 2 zN).trans n2
              have n3' := (xi.cell NB 3 zN).trans n3
              have n4' := (xi.cell NB 4 zN).trans n4
              have n5' := (xi.cell NB 5 zN).trans n5
              have n6' := (xi.cell NB 6 zN).trans n6
              have n7' := (xi.cell NB 7 zN).trans n7
              have s0' := (xi.cell w.heap.size 0 zw).trans s0
              have s1' := (xi.cell w.heap.size 1 zw).trans s1
              clear EM hkk hgi
              by_cases o9 : dop = 9
              · subst o9
                obtain ⟨a0, a1⟩ := NK.2.2.1 (by omega)
                obtain ⟨Ai, rfl⟩ : ∃ Ai : Nat, da = Ai := ⟨da.toNat, by omega⟩
                have Aik : Ai < bl.length := by have := HI.out.2; omega
                have Aim : (Ai : Int) < (m : Int) := by omega
                obtain ⟨ab, A1, A2, A3⟩ := FM.val Aik hkm
                have A4 := (xi.cell TB Ai zT).trans A1
                have A5 := (xi.cell ab k A2).trans A3
                have A6 := xi.lt A2
                obtain ⟨b0', b1'⟩ := NK.2.2.2 (by omega) (by omega)
                obtain ⟨Bi, rfl⟩ : ∃ Bi : Nat, db = Bi := ⟨db.toNat, by omega⟩
                have Bik : Bi < bl.length := by have := HI.out.2; omega
                have Bim : (Bi : Int) < (m : Int) := by omega
                obtain ⟨bb, B1, B2, B3⟩ := FM.val Bik hkm
                have B4 := (xi.cell TB Bi zT).trans B1
                have B5 := (xi.cell bb k B2).trans B3
                have B6 := xi.lt B2
                have T2 := vT_3 cs ns cols Bi k
                obtain ⟨tb, htb⟩ : ∃ tb, vT cs ns cols Bi k = tb := ⟨_, rfl⟩
                have T1 := vT_3 cs ns cols Ai k
                obtain ⟨ta, hta⟩ : ∃ ta, vT cs ns cols Ai k = ta := ⟨_, rfl⟩
                have VS : vT cs ns cols i k = andT ta tb := by
                  have h := VST.out k
                  simp only [Int.toNat_natCast, hta, htb] at h
                  exact h
                rw [hta] at A5 T1
                rw [htb] at B5 T2
                have HT := Lib.hid (And.intro T1 T2)
                have HVS := Lib.hid VS
                clear VS T1 T2 htb B1 B2 B3 hta A1 A2 A3 NK
                go_upto_region 25 with fail
                refine wp_region_ext_tail 22 (by kernel_rfl) (by kernel_rfl) ?_
                dsimp only [List.take, List.drop]
                repeat (go_big_quiet_step (((go_at_call 60; exact Calls.ext (combine_any (by decide) HT.out.1 HT.out.2 _)))))
                refine wpQuiet_nil ?_
                rintro _ ⟨x7, rfl⟩
                have c7 := x7.lt zL
                have hs7 := (x7.cell LB k zL).trans hold
                have hf7 := (x7.frozen LB k zL).trans hfro
                go_wp2_with fail
                go_roundg (gk - 1)
                case measure => have := HJ.out; omega
                case rel => exact ⟨k + 1, by have := HJ.out; omega, by go_num, ⟨x7.it.setCell ⟨LB, k, none⟩ _, Below.st (xi.below.trans (x7.below.mono xi.below.size)) hLz _⟩, rfl, by rw [vR_take hkm, HVS.out]; exact (EMi.out.to x7.below).step (by rw [List.length_take, vR_len]; omega) hkm (andT_3 HT.out.1 HT.out.2)⟩
              by_cases o10 : dop = 10
              · subst o10
                obtain ⟨a0, a1⟩ := NK.2.2.1 (by omega)
                obtain ⟨Ai, rfl⟩ : ∃ Ai : Nat, da = Ai := ⟨da.toNat, by omega⟩
                have Aik : Ai < bl.length := by have := HI.out.2; omega
                have Aim : (Ai : Int) < (m : Int) := by omega
                obtain ⟨ab, A1, A2, A3⟩ := FM.val Aik hkm
                have A4 := (xi.cell TB Ai zT).trans A1
                have A5 := (xi.cell ab k A2).trans A3
                have A6 := xi.lt A2
                obtain ⟨b0', b1'⟩ := NK.2.2.2 (by omega) (by omega)
                obtain ⟨Bi, rfl⟩ : ∃ Bi : Nat, db = Bi := ⟨db.toNat, by omega⟩
                have Bik : Bi < bl.length := by have := HI.out.2; omega
                have Bim : (Bi : Int) < (m : Int) := by omega
                obtain ⟨bb, B1, B2, B3⟩ := FM.val Bik hkm
                have B4 := (xi.cell TB Bi zT).trans B1
                have B5 := (xi.cell bb k B2).trans B3
                have B6 := xi.lt B2
                have T2 := vT_3 cs ns cols Bi k
                obtain ⟨tb, htb⟩ : ∃ tb, vT cs ns cols Bi k = tb := ⟨_, rfl⟩
                have T1 := vT_3 cs ns cols Ai k
                obtain ⟨ta, hta⟩ : ∃ ta, vT cs ns cols Ai k = ta := ⟨_, rfl⟩
                have VS : vT cs ns cols i k = orT ta tb := by
                  have h := VST.out k
                  simp only [Int.toNat_natCast, hta, htb] at h
                  exact h
                rw [hta] at A5 T1
                rw [htb] at B5 T2
                have HT := Lib.hid (And.intro T1 T2)
                have HVS := Lib.hid VS
                clear VS T1 T2 htb B1 B2 B3 hta A1 A2 A3 NK
                go_upto_region 25 with fail
                refine wp_region_ext_tail 22 (by kernel_rfl) (by kernel_rfl) ?_
                dsimp only [List.take, List.drop]
                repeat (go_big_quiet_step (((go_at_call 60; exact Calls.ext (combine_any (by decide) HT.out.1 HT.out.2 _)))))
                refine wpQuiet_nil ?_
                rintro _ ⟨x7, rfl⟩
                have c7 := x7.lt zL
                have hs7 := (x7.cell LB k zL).trans hold
                have hf7 := (x7.frozen LB k zL).trans hfro
                go_wp2_with fail
                go_roundg (gk - 1)
                case measure => have := HJ.out; omega
                case rel => exact ⟨k + 1, by have := HJ.out; omega, by go_num, ⟨x7.it.setCell ⟨LB, k, none⟩ _, Below.st (xi.below.trans (x7.below.mono xi.below.size)) hLz _⟩, rfl, by rw [vR_take hkm, HVS.out]; exact (EMi.out.to x7.below).step (by rw [List.length_take, vR_len]; omega) hkm (orT_3 HT.out.1 HT.out.2)⟩
              by_cases o11 : dop = 11
              · subst o11
                obtain ⟨a0, a1⟩ := NK.2.2.1 (by omega)
                obtain ⟨Ai, rfl⟩ : ∃ Ai : Nat, da = Ai := ⟨da.toNat, by omega⟩
                have Aik : Ai < bl.length := by have := HI.out.2; omega
                have Aim : (Ai : Int) < (m : Int) := by omega
                obtain ⟨ab, A1, A2, A3⟩ := FM.val Aik hkm
                have A4 := (xi.cell TB Ai zT).trans A1
                have A5 := (xi.cell ab k A2).trans A3
                have A6 := xi.lt A2
                have T1 := vT_3 cs ns cols Ai k
                obtain ⟨ta, hta⟩ : ∃ ta, vT cs ns cols Ai k = ta := ⟨_, rfl⟩
                have VS : vT cs ns cols i k = notT ta := by
                  have h := VST.out k
                  simp only [Int.toNat_natCast, hta] at h
                  exact h
                rw [hta] at A5 T1
                have HT := Lib.hid (And.intro T1 True.intro)
                have HVS := Lib.hid VS
                clear VS T1  hta A1 A2 A3 NK
                go_upto_region 27 with fail
                refine wp_region_ext_tail 14 (by kernel_rfl) (by kernel_rfl) ?_
                dsimp only [List.take, List.drop]
                repeat (go_big_quiet_step (((go_at_call 60; exact Calls.ext (combine_any (by decide) HT.out.1 (.inl rfl) _)))))
                refine wpQuiet_nil ?_
                rintro _ ⟨x7, rfl⟩
                have c7 := x7.lt zL
                have hs7 := (x7.cell LB k zL).trans hold
                have hf7 := (x7.frozen LB k zL).trans hfro
                go_wp2_with fail
                go_roundg (gk - 1)
                case measure => have := HJ.out; omega
                case rel => exact ⟨k + 1, by have := HJ.out; omega, by go_num, ⟨x7.it.setCell ⟨LB, k, none⟩ _, Below.st (xi.below.trans (x7.below.mono xi.below.size)) hLz _⟩, rfl, by rw [vR_take hkm, HVS.out]; exact (EMi.out.to x7.below).step (by rw [List.length_take, vR_len]; omega) hkm (notT_3 HT.out.1)⟩
              have h19 : 1 ≤ dop ∧ dop ≤ 8 := by have := NK.1; have := NK.2.1; omega
              have CL := NL.out (by omega)
              obtain ⟨K, rfl⟩ : ∃ K : Nat, dcol = K := ⟨dcol.toNat, by omega⟩
              have Kl : K < cs.length := by omega
              have Kr : K < cols.length := by rw [HCL.out]; exact Kl
              have KnI : (K : Int) < (nc : Int) := by have := HL.out; omega
              obtain ⟨cb, co, rfl, _, hcb, d0, d1, d2, d3⟩ := cols_in HCz.out Kl
              obtain ⟨rb, ro, hab, _, hrb, lv2, e2, hl2⟩ := rows_in HRz.out Kr
              injection hab with hab
              injection hab with hab1 hab2
              subst hab1 hab2
              obtain ⟨la2, lc2, rfl⟩ := vals_end hl2
              have LK := HLN.out K Kr
              have hkc : k < (cols[K]'Kr).length := by rw [LK]; exact hkm
              obtain ⟨vb, vo, rfl, _, hvb, g0, g1, g2⟩ := vals_in hl2 hkc
              rw [LK] at e2
              obtain ⟨uu, huu⟩ : ∃ uu, (cols[K]'Kr)[k]'hkc = uu := ⟨_, rfl⟩
              rw [huu] at g0 g1 g2
              obtain ⟨un, ui, us⟩ := uu
              obtain ⟨ty, hty⟩ : ∃ ty, (cs[K]'Kl).ty = ty := ⟨_, rfl⟩
              rw [hty] at d1
              dsimp only at g0 g1 g2
              have D1 := (xi.cell cb (co + K * 4 + 1) hcb).trans d1
              have E2 := (xi.cell b0 (o0 + K) hrb).trans e2
              have G0 := (xi.cell vb (vo + k * 3) hvb).trans g0
              have G1 := (xi.cell vb (vo + k * 3 + 1) hvb).trans g1
              have G2 := (xi.cell vb (vo + k * 3 + 2) hvb).trans g2
              have zc := xi.lt hcb
              have zr := xi.lt hrb
              have zv := xi.lt hvb
              obtain ⟨R, hR⟩ : ∃ R, leafT ty ⟨dop, K, ⟨dvn, dn, ds⟩, dls, da, db⟩ ⟨un, ui, us⟩ = R := ⟨_, rfl⟩
              have VS : vT cs ns cols i k = R := by
                have h := VST.out k
                rw [if_neg o9, if_neg o10, if_neg o11] at h
                have e3 : colTy cs (K : Int) = ty := by unfold colTy; rw [Int.toNat_natCast, List.getElem?_eq_getElem Kl]; exact hty
                have e4 : (rowOf cols k).getD (K : Int).toNat Val.zero = ⟨un, ui, us⟩ := by
                  unfold rowOf
                  rw [Int.toNat_natCast, List.getD_eq_getElem?_getD, List.getElem?_map, List.getElem?_eq_getElem Kr]
                  simp only [Option.map_some, Option.getD_some]
                  rw [List.getD_eq_getElem?_getD, List.getElem?_eq_getElem hkc]
                  exact huu
                rw [e3, e4, hR] at h
                exact h
              have HVS := Lib.hid VS
              have HT3 : Hid (T3 R) := Lib.hid (hR ▸ leafT_3 _ _ _)
              have LT := Lib.hid (fun x : Ext xi.it => (by have h := ptest_any ty dop K dvn dn ds (.slice la lm lc) dls da db un ui us x.it (HLz.out.mono (xi.below.trans (x.below.mono xi.below.size)) (Nat.le_trans xi.below.size x.below.size)) h19.1 h19.2; rw [hR] at h; exact h : Calls Try.prog 61 #[.int .i64 ty, .agg #[.int .i64 dop, .int .i64 (K : Int), .bool dvn, .int .i64 dn, .string ds, .slice la lm lc, .int .i64 da, .int .i64 db], .agg #[.bool un, .int .i64 ui, .string us]] x.it fun e w' => e = .returned (.int .i64 R) ∧ Below x.it.heap.size x.it w'))
              have q9 : (dop == 9) = false := by simpa using o9
              have q10 : (dop == 10) = false := by simpa using o10
              have q11 : (dop == 11) = false := by simpa using o11
              clear VS hR huu hty d0 d1 d2 d3 e2 g0 g1 g2 hl2 LK NK CL o9 o10 o11 h19
              go_upto_region 22 with fail
              refine wp_region_ext_tail 20 (by kernel_rfl) (by kernel_rfl) ?_
              dsimp only [List.take, List.drop]
              repeat (go_big_quiet_step (((go_at_call 61; exact Calls.ext (LT.out _)))))
              refine wpQuiet_nil ?_
              rintro _ ⟨x7, rfl⟩
              have c7 := x7.lt zL
              have hs7 := (x7.cell LB k zL).trans hold
              have hf7 := (x7.frozen LB k zL).trans hfro
              go_wp2_with fail
              go_roundg (gk - 1)
              case measure => have := HJ.out; omega
              case rel => exact ⟨k + 1, by have := HJ.out; omega, by go_num, ⟨x7.it.setCell ⟨LB, k, none⟩ _, Below.st (xi.below.trans (x7.below.mono xi.below.size)) hLz _⟩, rfl, by rw [vR_take hkm, HVS.out]; exact (EMi.out.to x7.below).step (by rw [List.length_take, vR_len]; omega) hkm (HT3.out)⟩
    · have hkm : k < N := by omega
      have hkm' : (k : Int) < (N : Int) := by omega
      have HJ := Lib.hid (And.intro hk hg0)
      obtain ⟨⟨old, hold⟩, hfro⟩ := E.th k hkm
      clear E hk hg0
      go_wp2_with fail
      go_roundg (gk - 1)
      case measure => have := HJ.out; omega
      case rel => exact ⟨k + 1, by have := HJ.out; omega, by go_num, ⟨x.it.setCell ⟨OB, k, none⟩ _, Below.st x.below OBL _⟩, rfl, EH.out.replicate hkm⟩
end Go.Proofs.Ytpahoenanfjhpaa
