/-
  CHAPTER 26: (*State).Add: what is new in memory. Conditions: the state and the rows lie in memory.
-/
import Derived.Test.YtpahoenanfjhpaaGreatAddz
set_option linter.unusedVariables false
set_option linter.unusedSimpArgs false
namespace Go.Proofs.YtpahoenanfjhpaaGreat
open Go.RowKit
def AddPost2 (w : World) (SB L : Nat) (cs : List Col) (key : Int) (ns : List Nod) (pr gr : List Int) (ag : List Ag) (rv : Value) (lvs : List Value) (rows0 rows : List (List Val)) (e : Ending) (w' : World) : Prop :=
  e = .returned (.int .i64 (batchE cs key rows)) ∧ (if batchE cs key rows = 0 then ∃ rv' ps, StAt w' SB L cs key ns pr gr ag rv' (lvs ++ ps) (rows0 ++ selR cs ns rows) ∧ Mv (fun k => k = SB ∨ rv.ownBlock = some k) w w' ∧ (∀ k, rv'.ownBlock = some k → rv.ownBlock = some k ∨ w.heap.size ≤ k) ∧ (∀ lv ∈ ps, ∀ k, lv.ownBlock = some k → w.heap.size ≤ k) ∧ (∀ i, i ≠ 6 → w'.cell? ⟨SB, i, none⟩ = w.cell? ⟨SB, i, none⟩) else Below w.heap.size w w')
set_option maxRecDepth 8000 in
set_option maxHeartbeats 4000000 in
theorem aadd2_any (SB L : Nat) (cs : List Col) (key : Int) (ns : List Nod) (pr gr : List Int) (ag : List Ag) (rv : Value) (lvs : List Value) (rows0 : List (List Val)) (xv : Value) (rows : List (List Val)) (w : World) (hst : StAt w SB L cs key ns pr gr ag rv lvs rows0) (hr : RowsAt w w.heap.size xv rows) (hq : predF cs key ns = 0) (h20 : rows0.length ≤ 1048576) :
    Calls Tryz.prog 14 #[.pointer (some ⟨SB, 0, none⟩), xv] w (AddPost2 w SB L cs key ns pr gr ag rv lvs rows0 rows) := by
  have HS0 := Lib.hid (Nat.lt_of_lt_of_le hst.lt hst.up)
  obtain ⟨xa, xc, rfl⟩ := rows_end hr
  obtain ⟨cv, nv, pv, gv, av, c0, c1, c2, c3, c4, c5, k0, k1, k2, k3, k4⟩ := hst.st
  obtain ⟨ca, cc, rfl⟩ := cols_end k0
  obtain ⟨na, nc, rfl⟩ := nods_end k1
  have hS : SB < w.heap.size := Nat.lt_of_lt_of_le hst.lt hst.up
  have c6 := hst.s6
  have LUP := hst.up
  have RVB0 : ∀ k, rv.ownBlock = some k → k < w.heap.size := fun k hk => (hst.own.lt k hk).2
  have ST := Lib.hid hst
  have HC : Hid (ColsAt w w.heap.size (.slice ca cs.length cc) cs) := Lib.hid (k0.mono (Below.refl _ _) (Nat.le_of_lt hS))
  have HN : Hid (NodsAt w w.heap.size (.slice na ns.length nc) ns) := Lib.hid (k1.mono (Below.refl _ _) (Nat.le_of_lt hS))
  have HR := Lib.hid hr
  have BC := Lib.hid (bcheck_any (.slice ca cs.length cc) cs key (.slice xa rows.length xc) rows w HC.out HR.out)
  have SP := Lib.hid (schema_parts (show schemaF cs key = 0 by unfold predF at hq; by_cases q : schemaF cs key = 0; exact q; rw [if_neg q] at hq; exact absurd hq q))
  obtain ⟨N, hN⟩ : ∃ n, cs.length = n := ⟨_, rfl⟩
  obtain ⟨nn, hnn⟩ : ∃ n, ns.length = n := ⟨_, rfl⟩
  obtain ⟨m, hm⟩ : ∃ n, rows.length = n := ⟨_, rfl⟩
  obtain ⟨E, hE⟩ : ∃ e, batchE cs key rows = e := ⟨_, rfl⟩
  have N1 : 1 ≤ N := by have := SP.out.2.1; omega
  have N12 : N ≤ 12 := by have := SP.out.2.2.1; omega
  have m63 := hr.1
  rw [hN] at c0
  rw [hnn] at c2
  rw [hm] at m63
  unfold AddPost2
  rw [hN, hm, hE] at BC
  rw [hm, hE]
  have HQ := Lib.hid hq
  have LN := Lib.hid hN
  have LNN := Lib.hid hnn
  have LM := Lib.hid hm
  have LE := Lib.hid hE
  clear hst hr hq hN hnn hm hE k0 k1 k2 k3 k4 c3 c4 c5
  by_cases E0 : E = 0
  · subst E0
    simp only [eq_self, if_true]
    have m4 : m ≤ 4096 := by
      have h := LE.out
      unfold batchE at h
      by_cases q : schemaF cs key = 0
      · rw [if_pos q] at h
        by_cases q2 : 4096 < rows.length
        · rw [if_pos q2] at h; exact absurd h (by decide)
        · rw [LM.out] at q2; omega
      · rw [if_neg q] at h; exact absurd h q
    have RV : Hid (∀ r ∈ rows, r.length = cs.length ∧ RowPre cs r) := Lib.hid (fun r hr => pre_rowE (rowsE_all (by
      have h := LE.out
      unfold batchE at h
      by_cases q : schemaF cs key = 0
      · rw [if_pos q] at h
        by_cases q2 : 4096 < rows.length
        · rw [if_pos q2] at h; exact absurd h (by decide)
        · rw [if_neg q2] at h; exact h
      · rw [if_neg q] at h; exact absurd h q) r hr))
    obtain ⟨i0, hi, hz0, hz1, hz2⟩ := info_parts infoVal
    obtain ⟨i1, hj, hy0, hy1, hy2⟩ := info_parts infoRow
    go_enter Tryz.func14, Tryz.ntmps14
    go_upto_region 4 with (go_at_call 35; refine Calls.mono BC.out ?_; rintro e w1 ⟨rfl, hb1⟩; obtain ⟨x1, rfl⟩ := Ext.of hb1)
    have t0 := (x1.below.cell (p := ⟨SB, 0, none⟩) hS).trans c0
    have t1 := (x1.below.cell (p := ⟨SB, 1, none⟩) hS).trans c1
    have t2 := (x1.below.cell (p := ⟨SB, 2, none⟩) hS).trans c2
    have t6 := (x1.below.cell (p := ⟨SB, 6, none⟩) hS).trans c6
    have ST1 := Lib.hid (ST.out.on x1.below)
    have HC1 := Lib.hid (HC.out.mono x1.below x1.below.size)
    have HN1 := Lib.hid (HN.out.mono x1.below x1.below.size)
    have HR1 := Lib.hid (HR.out.mono x1.below x1.below.size)
    have hS1 : SB < x1.it.heap.size := Nat.lt_of_lt_of_le hS x1.below.size
    have XB := Lib.hid x1.below
    clear hb1 c0 c1 c2 c6 ST HC HN HR BC
    generalize x1.it = u at *
    clear x1
    have hmk := fun w => run_make (P := Tryz.prog) w 30 42 i1 _ Tryz.underlying30 hj hy0 .i64 .i64 (N : Int) (N : Int) (by omega) (Int.le_refl _) (by rw [hy2]; omega) (by omega)
    simp only [Int.toNat_natCast, hy1] at hmk
    go_upto_region 5 with fail
    refine captureM ?_
    intro y ey
    have C0 : Hid (CM (u.heap.size + 1) u.heap.size N y (fun _ => .slice none 0 0) (fun _ => [])) := Lib.hid (by
      rw [ey]
      exact ⟨by simp, by omega, fun k hk => made_nil u _ N k hk, fun q => by simp [go_sem], fun k hk => World.ownsRow_nil _ _ _ _, fun k k' b _ _ _ e => by simp [Value.ownBlock] at e⟩)
    have Y0 : Hid (Below u.heap.size u y) := Lib.hid (by rw [ey]; with_reducible repeat (first | exact Below.refl _ _ | assumption | refine Below.al ?_ _ | refine Below.on ?_ _ | refine Below.st ?_ (by first | assumption | (simp; done) | (simp; omega)) _ | refine Below.drew ?_))
    clear ey hmk
    go_wp2_with fail
    go_loopg [31] m (fun g st wr => ∃ (i : Nat) (vs : Nat → Value), st = .int .i64 (i : Int) ∧ i + g = m ∧ CM (u.heap.size + 1) u.heap.size N wr vs (fun k => colOf k (rows.take i)) ∧ Below u.heap.size u wr)
    case atStart => exact ⟨0, _, rfl, by omega, C0.out.congr (fun k _ => by simp [colOf]), Y0.out⟩
    case round =>
      obtain ⟨i, vs, rfl, hig, hC, hB⟩ := hrel
      have OC := Lib.hid (And.intro hC hB)
      have HIG := Lib.hid hig
      obtain ⟨G, hG⟩ : ∃ G, G = gk := ⟨gk, rfl⟩
      subst hG
      clear hC hB hig C0 Y0
      by_cases hiN : i < m
      · have ti : (i : Int) < (m : Int) := by omega
        have hir : i < rows.length := by rw [LM.out]; exact hiN
        obtain ⟨rb, ro, rfl, _, hrb, lv, q0, hlv⟩ := rows_in HR1.out hir
        have hrl := (RV.out _ (List.getElem_mem hir)).1
        have ET : Hid (∀ k, colOf k (rows.take (i + 1)) = colOf k (rows.take i) ++ [(rows[i]'hir).getD k Val.zero]) := Lib.hid (fun k => colOf_take hir)
        obtain ⟨r, hrr⟩ : ∃ r, rows[i]'hir = r := ⟨_, rfl⟩
        rw [hrr] at hlv hrl ET
        rw [LN.out] at hrl
        obtain ⟨la, lc, rfl⟩ := vals_end hlv
        rw [hrl] at q0 hlv
        have HRL := Lib.hid hrl
        have HV := Lib.hid hlv
        have f0 := (OC.out.2.cell (p := ⟨rb, ro + i, none⟩) hrb).trans q0
        have zb : rb < wr.heap.size := Nat.lt_of_lt_of_le hrb OC.out.2.size
        clear q0 hlv hrl hrr
        go_wp2_with fail
        go_loopg [37] N (fun g st wi => ∃ (j : Nat) (vs : Nat → Value), st = .int .i64 (j : Int) ∧ j + g = N ∧ CM (u.heap.size + 1) u.heap.size N wi vs (fun k => if k < j then colOf k (rows.take (i + 1)) else colOf k (rows.take i)) ∧ Below u.heap.size u wi)
        case atStart => exact ⟨0, vs, rfl, by omega, OC.out.1.congr (fun k _ => by simp), OC.out.2⟩
        case round =>
          obtain ⟨j, vi, rfl, hjg, hC, hB⟩ := hrel
          have IC := Lib.hid (And.intro hC hB)
          have HJG := Lib.hid hjg
          clear hC hB hjg OC f0 zb
          by_cases hjN : j < N
          · have tj : (j : Int) < (N : Int) := by omega
            obtain ⟨b2, o2, rfl, hrc, hb2, v0, v1, v2⟩ := vals_in HV.out (i := j) (by rw [HRL.out]; exact hjN)
            rw [HRL.out] at hrc
            have q0 := (IC.out.2.cell (p := ⟨b2, o2 + j * 3, none⟩) hb2).trans v0
            have q1 := (IC.out.2.cell (p := ⟨b2, o2 + j * 3 + 1, none⟩) hb2).trans v1
            have q2 := (IC.out.2.cell (p := ⟨b2, o2 + j * 3 + 2, none⟩) hb2).trans v2
            have zb2 : b2 < wr.heap.size := Nat.lt_of_lt_of_le hb2 IC.out.2.size
            have trc : (j : Int) < (lc : Int) := by omega
            obtain ⟨x, hx⟩ : ∃ x, r[j]'(by rw [HRL.out]; exact hjN) = x := ⟨_, rfl⟩
            rw [hx] at q0 q1 q2
            have EX : Hid (r.getD j Val.zero = x) := Lib.hid (by rw [getDv_in (by rw [HRL.out]; exact hjN), hx])
            obtain ⟨xn, xi, xs⟩ := x
            dsimp only at q0 q1 q2
            clear v0 v1 v2 hx hb2
            go_upto_region 11 with fail
            refine captureM ?_
            intro y2 ey
            obtain ⟨VB, hVB⟩ : ∃ VB, wr.heap.size = VB := ⟨_, rfl⟩
            have yb2 : Below wr.heap.size wr y2 := by rw [ey]; with_reducible repeat (first | exact Below.refl _ _ | assumption | refine Below.al ?_ _ | refine Below.on ?_ _ | refine Below.st ?_ (by first | assumption | (simp; done) | (simp; omega)) _ | refine Below.drew ?_)
            have p0 : y2.cell? ⟨wr.heap.size, 0, none⟩ = some (.bool xn) := by rw [ey]; simp (maxDischargeDepth := 9) [go_sem, *]
            have p1 : y2.cell? ⟨wr.heap.size, 1, none⟩ = some (.int .i64 xi) := by rw [ey]; simp (maxDischargeDepth := 9) [go_sem, *]
            have p2 : y2.cell? ⟨wr.heap.size, 2, none⟩ = some (.string xs) := by rw [ey]; simp (maxDischargeDepth := 9) [go_sem, *]
            have zV : wr.heap.size < y2.heap.size := by rw [ey]; simp
            have C2 := IC.out.1.on yb2
            have ho := C2.o j hjN
            have hc := C2.c j hjN
            have hf := C2.f j
            have zw := C2.z
            have zwr : u.heap.size < wr.heap.size := IC.out.1.z
            obtain ⟨va, vc, hvi⟩ := own_form ho
            have hlen : (colOf j (rows.take i)).length = i := by unfold colOf; rw [List.length_map, List.length_take, LM.out]; omega
            simp only [Nat.lt_irrefl, if_false, hlen] at ho hvi
            rw [hvi] at ho hc
            have OV : Hid (∀ k, Value.ownBlock (.slice va i vc) = some k → u.heap.size + 1 ≤ k ∧ k < wr.heap.size) := Lib.hid (fun k hk => by have h1 := (IC.out.1.o j hjN).lt k (by rw [hvi]; exact hk); exact ⟨own_base ho k hk, h1.2⟩)
            rw [hVB] at p0 p1 p2 zV OV zwr
            have hVw : wr.heap.size ≤ VB := by omega
            have HO := Lib.hid ho
            have LEN := Lib.hid hlen
            have HC2 := Lib.hid C2
            have HVI := Lib.hid hvi
            have YB2 := Lib.hid yb2
            have ti4 : i ≤ 4096 := by omega
            clear ey ho C2 hvi hlen yb2 q0 q1 q2 zb2
            go_region_law ((first | (refine step_append_lies _ (by rfl) _ _ 42 (by rfl) (u.heap.size + 1) 41 i0 _ 3 32 Tryz.underlying42 hi hz0 hz1 hz2 rfl (by decide) (.slice va i vc) i ((colOf j (rows.take i)).flatMap valC) (by rfl) (own_to HO.out ((Below.refl _ _).drew.alloc (Nat.le_refl _) _)) ⟨y2.heap.size, 0, none⟩ 1 1 (valC ⟨xn, xi, xs⟩) (by rfl) rfl (World.news_of_block (heap_alloc_new y2.drew _)) (by simp [valC, Value.oneCell']) (by omega) (by unfold maxLen; omega) (by omega) (by simp; omega) (y2.heap.size + 1) (by simp) ?_; intro gb cap w7 hown hgrow hat hlt7; have u0 : w7.cell? ⟨u.heap.size, j, none⟩ = some (.slice va i vc) := hgrow.cell (a := ⟨u.heap.size, j, none⟩) (by simp (maxDischargeDepth := 9) [go_sem, *]) (fun e => by have := OV.out u.heap.size e.symm; omega); have u1 : w7.frozen? ⟨u.heap.size, j, none⟩ = false := (hgrow.frozen_far ⟨u.heap.size, j, none⟩ (by simp; omega) (fun e => by have := OV.out u.heap.size e.symm; omega)).trans (by simp (maxDischargeDepth := 9) [go_sem, *]); have u2 : w7.cell? ⟨VB, 0, none⟩ = some (.bool xn) := hgrow.cell (a := ⟨VB, 0, none⟩) (by simp (maxDischargeDepth := 9) [go_sem, *]) (fun e => by have := OV.out VB e.symm; omega); have u3 : w7.cell? ⟨VB, 1, none⟩ = some (.int .i64 xi) := hgrow.cell (a := ⟨VB, 1, none⟩) (by simp (maxDischargeDepth := 9) [go_sem, *]) (fun e => by have := OV.out VB e.symm; omega); have u4 : w7.cell? ⟨VB, 2, none⟩ = some (.string xs) := hgrow.cell (a := ⟨VB, 2, none⟩) (by simp (maxDischargeDepth := 9) [go_sem, *]) (fun e => by have := OV.out VB e.symm; omega)) | fail))
            all_goals (have MS := Lib.hid ((HC2.out.on ((Below.refl _ _).drew.alloc (Nat.le_refl _) _)).step' hjN (by simp) LEN.out HVI.out hown hgrow (hat.imp id (fun q => by rw [q]; simp))); have BS := Lib.hid ((Below.gr ((Below.to IC.out.2 YB2.out).drew.alloc (by have := YB2.out.size; have := IC.out.2.size; show u.heap.size ≤ y2.heap.size; omega) _) (own_low (own_to HO.out ((Below.refl _ _).drew.alloc (Nat.le_refl _) (.cells #[.bool xn, .int .i64 xi, .string xs] 41))) (Nat.le_succ _)) hgrow).setCell (p := ⟨u.heap.size, j, none⟩) (Nat.le_refl _) (.slice (some ⟨gb, 0, none⟩) (i + 1) cap)); clear hown hgrow hat hlt7 u0 u1 u2 u3 u4)
            all_goals go_wp2_with fail
            all_goals go_roundg (gk - 1)
            all_goals (first
              | (have := HJG.out; omega)
              | (obtain ⟨vs', hcm⟩ := MS.out; exact ⟨j + 1, vs', by go_num, by have := HJG.out; omega, hcm.congr (fun k _ => by (by_cases e1 : k = j; (subst e1; rw [if_pos rfl, if_pos (Nat.lt_succ_self _), ET.out, EX.out]); (rw [if_neg e1]; by_cases e2 : k < j; (rw [if_pos e2, if_pos (by omega)]); (rw [if_neg e2, if_neg (by omega)])))), BS.out⟩))
          · have tj : ¬ (j : Int) < (N : Int) := by omega
            obtain rfl : j = N := by have := HJG.out; omega
            go_wp2_with fail
            go_roundg (G - 1)
            case measure => have := HIG.out; omega
            case rel => exact ⟨i + 1, vi, by go_num, by have := HIG.out; omega, IC.out.1.congr (fun k hk => by rw [if_pos hk]), IC.out.2⟩
      · have ti : ¬ (i : Int) < (m : Int) := by omega
        obtain rfl : i = m := by have := HIG.out; omega
        have TK : rows.take i = rows := List.take_of_length_le (by rw [LM.out]; exact Nat.le_refl _)
        have RR : Hid (RowsAt wr wr.heap.size (.slice (some ⟨u.heap.size, 0, none⟩) N N) (colsOf cs.length rows)) := Lib.hid (by
          have h1 : CM (u.heap.size + 1) u.heap.size N wr vs (fun k => colOf k rows) := OC.out.1.congr (fun k hk => by rw [TK])
          have h2 := h1.rows N12 (fun k hk => by unfold colOf; rw [List.length_map, LM.out]; omega)
          rw [LN.out]; exact h2)
        have hbr := OC.out.2
        have BR := Lib.hid hbr
        have r0 := (hbr.cell (p := ⟨SB, 0, none⟩) hS1).trans t0
        have r1 := (hbr.cell (p := ⟨SB, 1, none⟩) hS1).trans t1
        have r2 := (hbr.cell (p := ⟨SB, 2, none⟩) hS1).trans t2
        have r6 := (hbr.cell (p := ⟨SB, 6, none⟩) hS1).trans t6
        have hSr : SB < wr.heap.size := Nat.lt_of_lt_of_le hS1 hbr.size
        have VFL : Hid (∀ W, Below wr.heap.size wr W → Calls Tryz.prog 36 #[.agg #[.slice ca N cc, .int .i64 key], .slice na nn nc, .slice (some ⟨u.heap.size, 0, none⟩) N N] W fun e w' => ∃ v, e = .returned (.tuple #[v, .int .i64 0]) ∧ IntsAt w' w'.heap.size v (rows.map fun r => evalF cs r ns) ∧ Below W.heap.size W w') := Lib.hid (fun W hW => by
          have hb := Below.to BR.out hW
          have h1 : 1 ≤ cs.length := by rw [LN.out]; exact N1
          have q := vfilter_ok (.slice ca cs.length cc) cs key (.slice na ns.length nc) ns (.slice (some ⟨u.heap.size, 0, none⟩) N N) (colsOf cs.length rows) W (HC1.out.mono hb hb.size) (HN1.out.mono hb hb.size) (RR.out.mono hW hW.size) HQ.out (colsOf_ok h1 (by rw [LM.out]; exact m4) RV.out) h1
          rw [filt_rows h1 (fun r hr => (RV.out r hr).1), LN.out, LNN.out] at q
          exact q)
        have WB := Lib.hid (Below.to XB.out BR.out)
        clear OC
        go_upto_region 14 with fail
        go_region_held3 (fun w' => w'.cell? ⟨SB, 0, none⟩ = some (.slice ca N cc) ∧ w'.cell? ⟨SB, 1, none⟩ = some (.int .i64 key) ∧ w'.cell? ⟨SB, 2, none⟩ = some (.slice na nn nc))
          (first | with_reducible exact ⟨by assumption, by assumption, by assumption⟩ | exact ⟨((show Below wr.heap.size wr _ from (by with_reducible repeat (first | exact Below.refl _ _ | assumption | refine Below.al ?_ _ | refine Below.on ?_ _ | refine Below.st ?_ (by first | assumption | (simp; done) | (simp; omega)) _ | refine Below.drew ?_))).cell (p := ⟨SB, 0, none⟩) hSr).trans r0, ((show Below wr.heap.size wr _ from (by with_reducible repeat (first | exact Below.refl _ _ | assumption | refine Below.al ?_ _ | refine Below.on ?_ _ | refine Below.st ?_ (by first | assumption | (simp; done) | (simp; omega)) _ | refine Below.drew ?_))).cell (p := ⟨SB, 1, none⟩) hSr).trans r1, ((show Below wr.heap.size wr _ from (by with_reducible repeat (first | exact Below.refl _ _ | assumption | refine Below.al ?_ _ | refine Below.on ?_ _ | refine Below.st ?_ (by first | assumption | (simp; done) | (simp; omega)) _ | refine Below.drew ?_))).cell (p := ⟨SB, 2, none⟩) hSr).trans r2⟩)
          (first | (go_at_call 36; refine Calls.mono (VFL.out _ (by with_reducible repeat (first | exact Below.refl _ _ | assumption | refine Below.al ?_ _ | refine Below.on ?_ _ | refine Below.st ?_ (by first | assumption | (simp; done) | (simp; omega)) _ | refine Below.drew ?_))) ?_; rintro e w5 ⟨v5, rfl, hi5, hb5⟩; obtain ⟨x5, rfl⟩ := Ext.of hb5; have I5 := Lib.hid hi5; have B5 : Below wr.heap.size wr x5.it := (by with_reducible repeat (first | exact Below.refl _ _ | assumption | refine Below.al ?_ _ | refine Below.on ?_ _ | refine Below.st ?_ (by first | assumption | (simp; done) | (simp; omega)) _ | refine Below.drew ?_)); have g0 := (B5.cell (p := ⟨SB, 0, none⟩) hSr).trans r0; have g1 := (B5.cell (p := ⟨SB, 1, none⟩) hSr).trans r1; have g2 := (B5.cell (p := ⟨SB, 2, none⟩) hSr).trans r2; have g6 := (B5.cell (p := ⟨SB, 6, none⟩) hSr).trans r6; clear hi5))
        have B5w : Below w.heap.size w x5.it := Below.to WB.out B5
        have ST5 := Lib.hid (ST1.out.on (Below.to BR.out B5))
        have B5H := Lib.hid B5w
        have h5 : SB < x5.it.heap.size := Nat.lt_of_lt_of_le hSr B5.size
        have z5 := B5w.size
        have SEL : Hid (∀ W, Below x5.it.heap.size x5.it W → Calls Tryz.prog 38 #[v5] W fun e w' => ∃ q, e = .returned q ∧ IntsAt w' w'.heap.size q (selF (rows.map fun r => evalF cs r ns) (rows.map fun r => evalF cs r ns).length) ∧ Below W.heap.size W w') := Lib.hid (fun W hW => select_ints v5 _ W (ints_on I5.out hW hW.size) (by rw [List.length_map, LM.out]; exact m4))
        have ROW : Hid (∀ W sv, Below x5.it.heap.size x5.it W → IntsAt W W.heap.size sv (selF (rows.map fun r => evalF cs r ns) (rows.map fun r => evalF cs r ns).length) → Calls Tryz.prog 37 #[.slice (some ⟨u.heap.size, 0, none⟩) N N, sv] W fun e w' => ∃ q lvs7, e = .returned q ∧ w'.ownsRow W.heap.size 42 1 q lvs7.length (lvs7.flatMap one1) ∧ Inn W.heap.size w' q lvs7 (selR cs ns rows) ∧ Below W.heap.size W w') := Lib.hid (fun W sv hW hs => by
          have hb := Below.to B5 hW
          have q := vrows_any (.slice (some ⟨u.heap.size, 0, none⟩) N N) (colsOf cs.length rows) sv _ W (RR.out.mono hb hb.size) hs (by rw [colsOf_len, LN.out]; exact N12) (by have := selF_len (rows.map fun r => evalF cs r ns) (rows.map fun r => evalF cs r ns).length; rw [List.length_map, LM.out] at this; rw [List.length_map, LM.out]; omega)
          rw [chosen_law (by rw [LN.out]; exact N1) (fun r hr => (RV.out r hr).1)] at q
          exact q.mono (fun e w' ⟨a, b, h1, _, h2, h3, h4⟩ => ⟨a, b, h1, h2, h3, h4⟩))
        have LS : Hid ((selR cs ns rows).length ≤ 4096) := Lib.hid (by have := List.length_filter_le (fun r => evalF cs r ns == 1) rows; unfold selR; rw [LM.out] at this; omega)
        have LV : Hid (lvs.length ≤ 1048576) := Lib.hid (by have := ST5.out.inn.1; omega)
        have lv20 := LV.out
        have LL := ST5.out.lt
        have RVB : Hid (∀ k, rv.ownBlock = some k → k < w.heap.size) := Lib.hid RVB0
        clear VFL RR ST1 HC1 HN1 HR1 r0 r1 r2 r6 t0 t1 t2 t6 hbr BR WB g0 g1 g2 B5 B5w
        go_upto_region 17 with fail
        go_region_law ((first
          | (go_simp; go_at_call 38; refine Calls.mono (SEL.out _ (by with_reducible repeat (first | exact Below.refl _ _ | assumption | refine Below.al ?_ _ | refine Below.on ?_ _ | refine Below.st ?_ (by first | assumption | (simp; done) | (simp; omega)) _ | refine Below.drew ?_))) ?_; rintro e w6 ⟨v6, rfl, hi6, hb6⟩; obtain ⟨x6, rfl⟩ := Ext.of hb6; have I6 := Lib.hid hi6; have B6 : Below x5.it.heap.size x5.it x6.it := (by with_reducible repeat (first | exact Below.refl _ _ | assumption | refine Below.al ?_ _ | refine Below.on ?_ _ | refine Below.st ?_ (by first | assumption | (simp; done) | (simp; omega)) _ | refine Below.drew ?_)); have q6 := (B6.cell (p := ⟨SB, 6, none⟩) h5).trans g6; clear hi6)
          | (go_simp; go_at_call 37; refine Calls.mono (ROW.out _ _ (by with_reducible repeat (first | exact Below.refl _ _ | assumption | refine Below.al ?_ _ | refine Below.on ?_ _ | refine Below.st ?_ (by first | assumption | (simp; done) | (simp; omega)) _ | refine Below.drew ?_)) I6.out) ?_; rintro e w7 ⟨v7, lvs7, rfl, ho7, hn7, hb7⟩; obtain ⟨x7, rfl⟩ := Ext.of hb7; have O7 := Lib.hid ho7; have N7 := Lib.hid hn7; have B7 : Below x5.it.heap.size x5.it x7.it := (by with_reducible repeat (first | exact Below.refl _ _ | assumption | refine Below.al ?_ _ | refine Below.on ?_ _ | refine Below.st ?_ (by first | assumption | (simp; done) | (simp; omega)) _ | refine Below.drew ?_)); have q7 := (B7.cell (p := ⟨SB, 6, none⟩) h5).trans g6; have z7 := B7.size; have z6 := B6.size; have l7 : lvs7.length ≤ 4096 := (by rw [hn7.1]; exact LS.out); have S7 := Lib.hid (own_src ho7 (fun v hv => by obtain ⟨j, hj, e⟩ := List.getElem_of_mem hv; rw [← e]; exact vals_one (hn7.2 j hj (by rw [← hn7.1]; exact hj)).1)); clear ho7 hn7)
          | (refine step_append_row (by rfl) _ _ 30 (by rfl) L 42 i1 _ 1 24 Tryz.underlying30 hj hy0 hy1 hy2 rfl (by decide) rv lvs.length (lvs.flatMap one1) (by rfl) (ST5.out.on B7).own v7 lvs7.length lvs7 (by rfl) S7.out (by unfold maxLen; omega) (by omega) (by omega) ?_; intro v8 w8 hown hgrow hat; obtain ⟨a8, c8, rfl⟩ := own_form hown; have u0 : w8.cell? ⟨SB, 6, none⟩ = some rv := hgrow.cell (a := ⟨SB, 6, none⟩) q7 (fun e => by have := (ST5.out.own.lt SB e.symm).1; omega); have u1 : w8.frozen? ⟨SB, 6, none⟩ = false := (hgrow.frozen_far ⟨SB, 6, none⟩ (Nat.lt_of_lt_of_le h5 z7) (fun e => by have := (ST5.out.own.lt SB e.symm).1; omega)).trans ((ST5.out.on B7).frz 6); have AD := Lib.hid (StAt.add (ST5.out.on B7) (⟨N7.out.1, fun j h1 h2 => (N7.out.2 j h1 h2).1⟩ : Lvs x7.it x7.it.heap.size lvs7 (selR cs ns rows)) (fun v hv k hk => by obtain ⟨j, hj, e⟩ := List.getElem_of_mem hv; subst e; obtain ⟨p1, p2, p3⟩ := (N7.out.2 j hj (by rw [← N7.out.1]; exact hj)).2 k hk; exact ⟨by (try simp only [World.size_drew] at p1); omega, p2, fun e => by have := RVB.out k e; (try simp only [World.size_drew] at p1); omega⟩) hown hgrow hat); have NV : Hid (∀ k, Value.ownBlock (.slice a8 (lvs.length + lvs7.length) c8) = some k → rv.ownBlock = some k ∨ w.heap.size ≤ k) := Lib.hid (fun k hk => hat.elim (fun q => .inl (q.symm.trans hk)) (fun q => .inr (by have e := q.symm.trans hk; injection e with e; have w5 := B5H.out.size; omega))); have NW : Hid (∀ lv ∈ lvs7, ∀ k, lv.ownBlock = some k → w.heap.size ≤ k) := Lib.hid (fun v hv k hk => by obtain ⟨j, hj, e⟩ := List.getElem_of_mem hv; subst e; obtain ⟨p1, p2, p3⟩ := (N7.out.2 j hj (by rw [← N7.out.1]; exact hj)).2 k hk; (try simp only [World.size_drew] at p1); have w5 := B5H.out.size; omega); have NC : Hid (∀ i, i ≠ 6 → (w8.setCell ⟨SB, 6, none⟩ (.slice a8 (lvs.length + lvs7.length) c8)).cell? ⟨SB, i, none⟩ = w.cell? ⟨SB, i, none⟩) := Lib.hid (fun i hi => (World.cell?_setCell_other w8 ⟨SB, 6, none⟩ ⟨SB, i, none⟩ _ (by intro e; injection e with _ e; exact hi e.symm)).trans ((World.cell?_of_block (w := x7.it) (hgrow.block SB (Nat.lt_of_lt_of_le h5 z7) (fun e => by have := (ST5.out.own.lt SB e.symm).1; omega))).trans ((Below.to B5H.out B7).cell (p := ⟨SB, i, none⟩) HS0.out))); clear hown hgrow hat)))
        all_goals (have FIN := Lib.hid (And.intro AD.out.1 ((Mv.of_below (Below.to B5H.out B7)).trans AD.out.2)); clear AD)
        all_goals go_wp2
        all_goals (refine bodyPost_ret (v := .int .i64 0) ?_ rfl ⟨rfl, .slice a8 (lvs.length + lvs7.length) c8, lvs7, FIN.out.1, FIN.out.2, NV.out, NW.out, NC.out⟩)
        all_goals (simp (maxDischargeDepth := 9) [results, Tryz.results14, go_sem, *])
  · have t : (E != 0) = true := by simpa using E0
    simp only [E0, if_false]
    go_enter Tryz.func14, Tryz.ntmps14
    go_wp2_with (go_at_call 35; refine Calls.mono BC.out ?_; rintro e w1 ⟨rfl, hb1⟩; obtain ⟨x1, rfl⟩ := Ext.of hb1)
    refine bodyPost_ret (v := .int .i64 E) ?_ rfl ⟨rfl, x1.below⟩
    simp (maxDischargeDepth := 9) [results, Tryz.results14, go_sem, *]
end Go.Proofs.YtpahoenanfjhpaaGreat
