/-
  CHAPTER 29: the reference's Merge, agrees (several texts in one). Conditions: each theorem states its own.
-/
import Derived.Test.YtgooffpmiilicaaMrg
import Derived.Test.YtgooffpmiilicaaSmr
set_option linter.unusedVariables false
set_option linter.unusedSimpArgs false
namespace Go.Proofs.Ytgooffpmiilicaa
open Go.RowKit Srt
theorem take_flat_le {α : Type} (Ls : List (List α)) (k : Nat) : (Ls.take k).flatten.length ≤ Ls.flatten.length := by
  conv => rhs; rw [← List.take_append_drop k Ls]
  rw [List.flatten_append, List.length_append]
  omega
theorem take_flat {α : Type} {Ls : List (List α)} {k : Nat} (hk : k < Ls.length) : (Ls.take (k + 1)).flatten = (Ls.take k).flatten ++ Ls[k]'hk := by
  rw [List.take_succ_eq_append_getElem hk, List.flatten_append]
  simp
/-- All records that have been put together. -/
structure R2 (w y wr : World) (cs : List Col) (K : Nat) (Ls : List (List Rc)) (k : Nat) (ps : List (Int × Value)) (ov : Value) : Prop where
  own : wr.ownsRow y.heap.size 35 2 ov ps.length (ps.flatMap rcC)
  prs : Prs w w.heap.size ps (Ls.take k).flatten
  ok : ∀ l ∈ Ls.take k, sortedF cs K l = true
  keep : Below y.heap.size y wr
theorem R2.on {w y wr wx : World} {cs : List Col} {K : Nat} {Ls : List (List Rc)} {k : Nat} {ps : List (Int × Value)} {ov : Value} (h : R2 w y wr cs K Ls k ps ov) (b : Below wr.heap.size wr wx) : R2 w y wx cs K Ls k ps ov :=
  ⟨own_to h.own b, h.prs, h.ok, Below.to h.keep b⟩
theorem R2.step {w y W w7 : World} {cs : List Col} {K : Nat} {Ls : List (List Rc)} {k : Nat} {ps qs : List (Int × Value)} {ov v' : Value} {LK : List Rc} (h : R2 w y W cs K Ls k ps ov) (hk : k < Ls.length) (e : Ls[k]'hk = LK) (hs : sortedF cs K LK = true) (hq : Prs w w.heap.size qs LK)
    (hown : w7.ownsRow y.heap.size 35 2 v' (ps.length + qs.length) (ps.flatMap rcC ++ qs.flatMap rcC)) (hg : W.grownBy w7 ov.ownBlock) : R2 w y w7 cs K Ls (k + 1) (ps ++ qs) v' :=
  ⟨by rw [List.length_append, List.flatMap_append]; exact hown, by rw [take_flat hk, e]; exact h.prs.app hq, fun l hl => by
    rcases take_mem hk hl with q | q
    · exact h.ok l q
    · rw [q, e]; exact hs, Below.gr h.keep h.own hg⟩
set_option maxRecDepth 8000 in
set_option maxHeartbeats 4000000 in
theorem refMerge_any (cv : Value) (cs : List Col) (key : Int) (lv : Value) (Ls : List (List Rc)) (w : World) (hc : ColsAt w w.heap.size cv cs) (h : PartsAt w w.heap.size lv Ls) :
    Calls Try.prog 39 #[.agg #[cv, .int .i64 key], lv] w (MrgPost w cs key Ls) := by
  obtain ⟨i0, hi, hz0, hz1, hz2⟩ := info_parts infoRec
  obtain ⟨S, hS⟩ : ∃ S, schemaF cs key = S := ⟨_, rfl⟩
  have SC := Lib.hid (fun (W : World) (hb : Below w.heap.size w W) => (by have q := refSchema_any cv cs key W (hc.mono hb hb.size); rw [hS] at q; exact q : Calls Try.prog 54 #[.agg #[cv, .int .i64 key]] W fun e w' => e = .returned (.int .i64 S) ∧ Below W.heap.size W w'))
  have HC := Lib.hid hc
  have HP := Lib.hid h
  obtain ⟨ca, cc, rfl⟩ := cols_end hc
  obtain ⟨la, lc, rfl⟩ := parts_end h
  obtain ⟨nc, hnc⟩ : ∃ nc, cs.length = nc := ⟨_, rfl⟩
  obtain ⟨N, hN⟩ : ∃ N, Ls.length = N := ⟨_, rfl⟩
  have h63 := h.1
  rw [hnc] at SC HC ⊢
  rw [hN] at HP h63 ⊢
  have HN := Lib.hid hN
  have HNC := Lib.hid hnc
  clear hc h hnc
  by_cases s0 : S = 0
  · subst s0
    have HS := Lib.hid hS
    obtain ⟨K, hKk, hK⟩ := schema_key hS
    subst hKk
    have HK := Lib.hid hK
    by_cases n16 : 16 < N
    · have FIN := Lib.hid (mrg_nil (w := w) (mergeE_many hS (by rw [hN]; exact n16)))
      have t1 : (16 : Int) < (N : Int) := by omega
      clear hS hN hK
      go_enter Try.func39, Try.ntmps39
      go_wp2_with (go_at_call 54; refine Calls.mono (SC.out _ (by repeat (first | with_reducible exact Below.refl _ _ | with_reducible assumption | with_reducible refine Below.al ?_ _ | with_reducible refine Below.on ?_ _ | with_reducible refine Below.st ?_ (by first | assumption | (simp; done) | (simp; omega)) _ | with_reducible refine Below.drew ?_))) ?_; rintro e w1 ⟨rfl, hb1⟩; obtain ⟨x1, rfl⟩ := Ext.of hb1; have z0 : w.heap.size < x1.it.heap.size := x1.lt (by simp); have q0 := (x1.cell w.heap.size 0 (by simp)).trans (by simp [go_sem] : _ = some (.slice ca nc cc)); have q1 := (x1.cell w.heap.size 1 (by simp)).trans (by simp [go_sem] : _ = some (.int .i64 (K : Int))))
      exact bodyPost_ret (v := .tuple #[.slice none 0 0, .int .i64 7]) (by simp [results, Try.results39, go_sem, *]) rfl (FIN.out _ (by repeat (first | with_reducible exact Below.refl _ _ | with_reducible assumption | with_reducible refine Below.al ?_ _ | with_reducible refine Below.on ?_ _ | with_reducible refine Below.st ?_ (by first | assumption | (simp; done) | (simp; omega)) _ | with_reducible refine Below.drew ?_)))
    · have t1 : ¬ (16 : Int) < (N : Int) := by omega
      obtain ⟨B1, hB1⟩ : ∃ B, longB Ls = B := ⟨_, rfl⟩
      have HB1 := Lib.hid hB1
      have N16 := Lib.hid n16
      clear hS hN hK n16 hB1
      go_enter Try.func39, Try.ntmps39
      go_upto_region 6 with (go_at_call 54; refine Calls.mono (SC.out _ (by repeat (first | with_reducible exact Below.refl _ _ | with_reducible assumption | with_reducible refine Below.al ?_ _ | with_reducible refine Below.on ?_ _ | with_reducible refine Below.st ?_ (by first | assumption | (simp; done) | (simp; omega)) _ | with_reducible refine Below.drew ?_))) ?_; rintro e w1 ⟨rfl, hb1⟩; obtain ⟨x1, rfl⟩ := Ext.of hb1; have z0 : w.heap.size < x1.it.heap.size := x1.lt (by simp); have q0 := (x1.cell w.heap.size 0 (by simp)).trans (by simp [go_sem] : _ = some (.slice ca nc cc)); have q1 := (x1.cell w.heap.size 1 (by simp)).trans (by simp [go_sem] : _ = some (.int .i64 (K : Int))))
      refine captureM ?_
      intro y ey
      have yb : Below w.heap.size w y := by rw [ey]; exact (by repeat (first | with_reducible exact Below.refl _ _ | with_reducible assumption | with_reducible refine Below.al ?_ _ | with_reducible refine Below.on ?_ _ | with_reducible refine Below.st ?_ (by first | assumption | (simp; done) | (simp; omega)) _ | with_reducible refine Below.drew ?_))
      have y0 : y.cell? ⟨w.heap.size, 0, none⟩ = some (.slice ca nc cc) := by rw [ey]; first | exact q0 | simp (maxDischargeDepth := 9) [go_sem, *]
      have y1 : y.cell? ⟨w.heap.size, 1, none⟩ = some (.int .i64 (K : Int)) := by rw [ey]; first | exact q1 | simp (maxDischargeDepth := 9) [go_sem, *]
      have yz : w.heap.size < y.heap.size := by rw [ey]; first | exact z0 | simp
      clear ey z0 q0 q1
      clear hb1 x1
      go_wp2_with fail
      go_loopg [22] N (fun g st wr => ∃ k : Nat, k + g = N ∧ st = .int .i64 (k : Int) ∧ (Ls.drop k).any (fun l => decide (1024 < l.length)) = B1 ∧ ∃ x : Ext y, x.it = wr)
      case atStart => exact ⟨0, by omega, rfl, HB1.out, ext_of (Below.refl _ _)⟩
      case round =>
        obtain ⟨k, hk, rfl, hA, x, rfl⟩ := hrel
        have hx := Below.on yb x
        by_cases hg0 : gk = 0
        · subst hg0
          obtain rfl : N = k := by omega
          obtain rfl : B1 = false := by rw [← hA, List.drop_of_length_le (by rw [HN.out]; exact Nat.le_refl _)]; rfl
          have z0 := (x.cell w.heap.size 0 yz).trans y0
          have z1 := (x.cell w.heap.size 1 yz).trans y1
          have zz := x.lt yz
          clear hk hA y0 y1 yz yb
          generalize x.it = z at *
          clear x
          generalize y = y' at *
          have R0 : R2 w z z cs K Ls 0 [] (.slice none 0 0) := ⟨World.ownsRow_nil _ _ _ _, by rw [List.take_zero]; exact Prs.nil, fun l hl => by rw [List.take_zero] at hl; exact absurd hl (by simp), Below.refl _ _⟩
          have RR0 := Lib.hid R0
          obtain ⟨B2, hB2⟩ : ∃ B, sortB cs K Ls = B := ⟨_, rfl⟩
          have HB2 := Lib.hid hB2
          have YB := Lib.hid hx
          have AL : Ls.flatten.length ≤ 16384 := by
            have h1 := flat_len_le (m := 1024) (Ls := Ls) (fun l hl => by
              have := HB1.out
              unfold longB at this
              have := List.any_eq_false.1 this l hl
              simpa using this)
            rw [HN.out] at h1
            have h2 := Nat.mul_le_mul_right 1024 (show N ≤ 16 by have := N16.out; omega)
            omega
          have ALH := Lib.hid AL
          clear R0 hB2 AL hx
          go_wp2_with fail
          go_loopg [9, 32] N (fun g ov st wr => ∃ (k : Nat) (ps : List (Int × Value)), k + g = N ∧ st = .int .i64 (k : Int) ∧ (Ls.drop k).all (sortedF cs K) = B2 ∧ R2 w z wr cs K Ls k ps ov)
          case atStart => exact ⟨0, [], by omega, rfl, HB2.out, RR0.out⟩
          case round =>
            obtain ⟨k, ps, hk, rfl, hA, R⟩ := hrel
            have RR := Lib.hid R
            have wb : Below w.heap.size w wr := Below.to YB.out R.keep
            have r0 := (R.keep.cell (p := ⟨w.heap.size, 0, none⟩) zz).trans z0
            have r1 := (R.keep.cell (p := ⟨w.heap.size, 1, none⟩) zz).trans z1
            have rz : w.heap.size < wr.heap.size := Nat.lt_of_lt_of_le zz R.keep.size
            obtain ⟨oa, oc, rfl⟩ := own_form R.own
            have PL := R.prs.1
            have WB := Lib.hid wb
            by_cases hg0 : gk = 0
            · subst hg0
              obtain rfl : N = k := by omega
              obtain rfl : B2 = true := by rw [← hA, List.drop_of_length_le (by rw [HN.out]; exact Nat.le_refl _)]; rfl
              have OKE := Lib.hid (mergeE_ok HS.out (by rw [HN.out]; exact N16.out) HB1.out HB2.out)
              have eT : Ls.take N = Ls := List.take_of_length_le (by rw [HN.out]; exact Nat.le_refl _)
              have pr := R.prs
              rw [eT] at pr
              have PA : ps.length ≤ 16384 := by rw [pr.1]; exact ALH.out
              have VA : validF cs K Ls.flatten = true := valid_flat HS.out (fun l hl => sorted_valid (List.all_eq_true.1 HB2.out l hl))
              have RS := Lib.hid (refSort_any (.slice ca nc cc) cs K (.slice oa ps.length oc) Ls.flatten wr (HC.out.mono wb wb.size) (own_recs (by have := ALH.out; omega) (pr.mono wb wb.size) R.own) (by have := ALH.out; omega))
              have FIN : Hid (∀ (v : Value) (ps' : List (Int × Value)) (w2 : World), RsMem wr w2 v ps' (sortF cs K Ls.flatten) → MrgPost w cs K Ls (.returned (.tuple #[v, .int .i64 0])) w2) := Lib.hid (fun v ps' w2 hM => ⟨v, by rw [OKE.out.1], by
                rw [OKE.out.2]
                have e : sortF cs K Ls.flatten = srt (recD (tyK cs K) K) Ls.flatten := by unfold sortF; rw [if_pos VA]
                rw [← e]
                exact hM.recs (by have := sortF_len cs K Ls.flatten; have := ALH.out; omega), Below.to WB.out hM.below⟩)
              clear hk hA R wb PL pr PA eT VA
              generalize ps.length = pn at *
              go_wp2_with (go_at_call 46; refine Calls.mono RS.out ?_; rintro e w6 ⟨v6, ps6, rfl, hM6⟩; have H6 := Lib.hid hM6; clear hM6)
              exact bodyPost_ret (v := .tuple #[v6, .int .i64 0]) (by simp (maxDischargeDepth := 9) [results, Try.results39, go_sem, *]) rfl (FIN.out v6 ps6 _ H6.out)
            · have hkn : k < N := by omega
              have hkl : k < Ls.length := by rw [HN.out]; exact hkn
              have hkn' : (k : Int) < (N : Int) := by omega
              obtain ⟨pb, po, rfl, hpc, hpb, rv, p0, p1⟩ := parts_in HP.out hkl
              obtain ⟨LK, hLK⟩ : ∃ LK, Ls[k]'hkl = LK := ⟨_, rfl⟩
              rw [hLK] at p1
              obtain ⟨qs, hq1, hq2, _⟩ := recs_row p1
              obtain ⟨ra, rc, rfl⟩ := recs_end p1
              obtain ⟨rl, hrl⟩ : ∃ rl, LK.length = rl := ⟨_, rfl⟩
              obtain ⟨b, hb⟩ : ∃ b, sortedF cs K LK = b := ⟨_, rfl⟩
              have SO := Lib.hid (fun (W : World) (hb' : Below w.heap.size w W) => (by have q := refSorted_any (.slice ca nc cc) cs K _ LK W (HC.out.mono hb' hb'.size) (p1.mono hb' hb'.size); rw [hb] at q; exact q : Calls Try.prog 25 #[.agg #[.slice ca nc cc, .int .i64 (K : Int)], .slice ra LK.length rc] W fun e w' => e = .returned (.bool b) ∧ Below W.heap.size W w'))
              have QL : qs.length = rl := by rw [hq1.1, hrl]
              have BD : ps.length + rl ≤ 16384 := by
                have h1 := take_flat_le Ls (k + 1)
                rw [take_flat hkl, List.length_append, hLK, hrl, ← PL] at h1
                have := ALH.out
                omega
              rw [hrl] at SO p0 hq2
              have f0 := (WB.out.cell (p := ⟨pb, po + k, none⟩) hpb).trans p0
              have fz : pb < wr.heap.size := Nat.lt_of_lt_of_le hpb WB.out.size
              rw [all_drop _ hkl, hLK, hb] at hA
              have HQ := Lib.hid (And.intro hq1 (And.intro hq2 QL))
              have BDH := Lib.hid BD
              cases b with
              | false =>
                have FIN := Lib.hid (mrg_nil (w := w) (mergeE_arg HS.out (by rw [HN.out]; exact N16.out) HB1.out (by rw [HB2.out, ← hA]; rfl)))
                clear hA hb hk hkl p0 p1 hpc hLK hrl hpb hq1 hq2 QL BD PL R wb
                clear hkn
                go_wp2_with (go_at_call 25; refine Calls.mono (SO.out _ WB.out) ?_; rintro e w5 ⟨rfl, hb5⟩; obtain ⟨x5, rfl⟩ := Ext.of hb5)
                exact bodyPost_ret (v := .tuple #[.slice none 0 0, .int .i64 1]) (by simp (maxDischargeDepth := 9) [results, Try.results39, go_sem, *]) rfl (FIN.out _ (Below.to WB.out x5.below))
              | true =>
                rw [Bool.true_and] at hA
                have HA := Lib.hid hA
                have HK2 := Lib.hid (And.intro hk (And.intro hkn hg0))
                have HLK := Lib.hid (⟨hkl, hLK⟩ : ∃ h : k < Ls.length, Ls[k]'h = LK)
                have HSB := Lib.hid hb
                have BZ : z.heap.size ≤ wr.heap.size := R.keep.size
                clear hA hb hk hkl p0 p1 hpc hLK hrl hpb hg0 hq1 hq2 QL BD PL R wb
                go_upto_region 18 with (go_at_call 25; refine Calls.mono (SO.out _ WB.out) ?_; rintro e w5 ⟨rfl, hb5⟩; obtain ⟨x5, rfl⟩ := Ext.of hb5)
                have RX := Lib.hid (RR.out.on x5.below)
                have SX : Hid (SrcRow x5.it (.slice ra rl rc) rl 2 (qs.flatMap rcC)) := Lib.hid (HQ.out.2.1.on (Below.to WB.out x5.below))
                have BX : z.heap.size ≤ x5.it.heap.size := Nat.le_trans BZ x5.below.size
                go_wp2_with (at_builtin; go_must (refine wpList_append_row (by rfl) _ _ 22 rfl z.heap.size 35 i0 _ 2 32 Try.underlying22 hi hz0 hz1 hz2 rfl (by decide) (.slice oa ps.length oc) ps.length (ps.flatMap rcC) rfl RX.out.own (.slice ra rl rc) rl (qs.flatMap rcC) rfl SX.out (by have := BDH.out; unfold maxLen; omega) (by have := BDH.out; omega) BX ?_); intro v7 w7 hown hg7 ha7; obtain ⟨a7, c7, rfl⟩ := own_form hown; have S7 : Hid (R2 w z w7 cs K Ls (k + 1) (ps ++ qs) (.slice a7 (ps.length + rl) c7)) := Lib.hid (by obtain ⟨hkl, eLK⟩ := HLK.out; exact RX.out.step hkl eLK HSB.out HQ.out.1 (by rw [HQ.out.2.2]; exact hown) hg7); clear hown hg7 ha7)
                go_roundg (gk - 1)
                case measure => have := HK2.out.2.2; omega
                case rel => exact ⟨k + 1, ps ++ qs, by have := HK2.out.1; have := HK2.out.2.2; omega, by go_num, HA.out, S7.out⟩
        · have hkn : k < N := by omega
          have hkl : k < Ls.length := by rw [HN.out]; exact hkn
          have hkn' : (k : Int) < (N : Int) := by omega
          obtain ⟨pb, po, rfl, hpc, hpb, rv, p0, p1⟩ := parts_in HP.out hkl
          obtain ⟨LK, hLK⟩ : ∃ LK, Ls[k]'hkl = LK := ⟨_, rfl⟩
          rw [hLK] at p1
          obtain ⟨ra, rc, rfl⟩ := recs_end p1
          obtain ⟨rl, hrl⟩ : ∃ rl, LK.length = rl := ⟨_, rfl⟩
          rw [hrl] at p0
          have f0 := (hx.cell (p := ⟨pb, po + k, none⟩) hpb).trans p0
          have fz : pb < x.it.heap.size := Nat.lt_of_lt_of_le hpb hx.size
          rw [any_drop _ hkl, hLK, hrl] at hA
          have HX := Lib.hid hx
          by_cases q : 1024 < rl
          · have FIN := Lib.hid (mrg_nil (w := w) (mergeE_long HS.out (by rw [HN.out]; exact N16.out) (by rw [HB1.out, ← hA]; simp [q])))
            have q' : (1024 : Int) < (rl : Int) := by omega
            clear hA hk hkl p0 p1 hpc hLK hrl hpb hx
            clear hkn
            go_wp2_with fail
            exact bodyPost_ret (v := .tuple #[.slice none 0 0, .int .i64 7]) (by simp (maxDischargeDepth := 9) [results, Try.results39, go_sem, *]) rfl (FIN.out _ HX.out)
          · have q' : ¬ (1024 : Int) < (rl : Int) := by omega
            have HA := Lib.hid (show (Ls.drop (k + 1)).any (fun l => decide (1024 < l.length)) = B1 by rw [← hA]; simp [q])
            have HK2 := Lib.hid (And.intro hk hg0)
            clear hA hk hkl p0 p1 hpc hLK hrl hpb hx hg0
            go_wp2_with fail
            go_roundg (gk - 1)
            case measure => have := HK2.out.2; omega
            case rel => exact ⟨k + 1, by have := HK2.out.1; have := HK2.out.2; omega, by go_num, HA.out, x, rfl⟩
  · have FIN := Lib.hid (mrg_nil (w := w) (by have q := mergeE_schema (cs := cs) (key := key) (Ls := Ls) (by rw [hS]; exact s0); rw [hS] at q; exact q))
    have t1 : (S != 0) = true := by simpa using s0
    clear hS hN
    go_enter Try.func39, Try.ntmps39
    go_wp2_with (go_at_call 54; refine Calls.mono (SC.out _ (by repeat (first | with_reducible exact Below.refl _ _ | with_reducible assumption | with_reducible refine Below.al ?_ _ | with_reducible refine Below.on ?_ _ | with_reducible refine Below.st ?_ (by first | assumption | (simp; done) | (simp; omega)) _ | with_reducible refine Below.drew ?_))) ?_; rintro e w1 ⟨rfl, hb1⟩; obtain ⟨x1, rfl⟩ := Ext.of hb1; have z0 : w.heap.size < x1.it.heap.size := x1.lt (by simp); have q0 := (x1.cell w.heap.size 0 (by simp)).trans (by simp [go_sem] : _ = some (.slice ca nc cc)); have q1 := (x1.cell w.heap.size 1 (by simp)).trans (by simp [go_sem] : _ = some (.int .i64 key)))
    exact bodyPost_ret (v := .tuple #[.slice none 0 0, .int .i64 S]) (by simp [results, Try.results39, go_sem, *]) rfl (FIN.out _ (by repeat (first | with_reducible exact Below.refl _ _ | with_reducible assumption | with_reducible refine Below.al ?_ _ | with_reducible refine Below.on ?_ _ | with_reducible refine Below.st ?_ (by first | assumption | (simp; done) | (simp; omega)) _ | with_reducible refine Below.drew ?_)))
end Go.Proofs.Ytgooffpmiilicaa
namespace Go.Proofs.Ytgooffpmiilicaa
open Go.RowKit Srt
set_option maxRecDepth 8000 in
set_option maxHeartbeats 1000000 in
theorem agrees_any (cv : Value) (cs : List Col) (key : Int) (lv : Value) (Ls : List (List Rc)) (w : World) (hc : ColsAt w w.heap.size cv cs) (h : PartsAt w w.heap.size lv Ls) :
    Calls Try.prog 15 #[.agg #[cv, .int .i64 key], lv] w fun e w' => e = .returned (.bool true) ∧ Below w.heap.size w w' := by
  have MG := Lib.hid (fun (W : World) (hb : Below w.heap.size w W) => merge_any cv cs key lv Ls W (hc.mono hb hb.size) (h.mono hb hb.size))
  have RM := Lib.hid (fun (W : World) (hb : Below w.heap.size w W) => refMerge_any cv cs key lv Ls W (hc.mono hb hb.size) (h.mono hb hb.size))
  obtain ⟨ca, cc, rfl⟩ := cols_end hc
  obtain ⟨la, lc, rfl⟩ := parts_end h
  unfold MrgPost at MG RM
  obtain ⟨E, hE⟩ : ∃ E, mergeE cs key Ls = E := ⟨_, rfl⟩
  obtain ⟨R, hR⟩ : ∃ R, mergeR cs key Ls = R := ⟨_, rfl⟩
  rw [hE, hR] at MG RM
  clear hE hR hc h
  generalize cs.length = nc at *
  generalize Ls.length = nl at *
  have ET : allB eqRc R R = true := (eqRs_iff R R).2 rfl
  have HET := Lib.hid ET
  obtain ⟨rl, hrl⟩ : ∃ rl, R.length = rl := ⟨_, rfl⟩
  have HRL := Lib.hid hrl
  clear ET hrl
  go_enter Try.func15, Try.ntmps15
  go_upto_region 3 with (first
    | (go_at_call 10; refine Calls.mono (MG.out _ (by repeat (first | with_reducible exact Below.refl _ _ | with_reducible assumption | with_reducible refine Below.al ?_ _ | with_reducible refine Below.on ?_ _ | with_reducible refine Below.st ?_ (by first | assumption | (simp; done) | (simp; omega)) _ | with_reducible refine Below.drew ?_))) ?_; rintro e w1 ⟨v1, rfl, hr1, hb1⟩; obtain ⟨a1, c1, rfl⟩ := recs_end hr1; have R1 := Lib.hid hr1; rw [HRL.out] at R1 ⊢; clear hr1; obtain ⟨x1, rfl⟩ := Ext.of hb1)
    | (go_at_call 39; refine Calls.mono (RM.out _ (by repeat (first | with_reducible exact Below.refl _ _ | with_reducible assumption | with_reducible refine Below.al ?_ _ | with_reducible refine Below.on ?_ _ | with_reducible refine Below.st ?_ (by first | assumption | (simp; done) | (simp; omega)) _ | with_reducible refine Below.drew ?_))) ?_; rintro e w2 ⟨v2, rfl, hr2, hb2⟩; obtain ⟨a2, c2, rfl⟩ := recs_end hr2; have R2 := Lib.hid hr2; rw [HRL.out] at R2 ⊢; clear hr2; obtain ⟨x2, rfl⟩ := Ext.of hb2))
  go_wp2_with (go_at_call 26; refine Calls.mono (same_recs _ _ R R _ (R1.out.mono (by repeat (first | with_reducible exact Below.refl _ _ | with_reducible assumption | with_reducible refine Below.al ?_ _ | with_reducible refine Below.on ?_ _ | with_reducible refine Below.st ?_ (by first | assumption | (simp; done) | (simp; omega)) _ | with_reducible refine Below.drew ?_)) (by have := x2.below.size; simp at *; omega)) (R2.out.mono (by repeat (first | with_reducible exact Below.refl _ _ | with_reducible assumption | with_reducible refine Below.al ?_ _ | with_reducible refine Below.on ?_ _ | with_reducible refine Below.st ?_ (by first | assumption | (simp; done) | (simp; omega)) _ | with_reducible refine Below.drew ?_)) (by simp))) ?_; rintro e w3 ⟨rfl, hb3⟩; rw [HET.out]; obtain ⟨x3, rfl⟩ := Ext.of hb3)
  exact bodyPost_ret (v := .bool true) (by simp [results, Try.results15, go_sem, *]) rfl (⟨rfl, by repeat (first | with_reducible exact Below.refl _ _ | with_reducible assumption | with_reducible refine Below.al ?_ _ | with_reducible refine Below.on ?_ _ | with_reducible refine Below.st ?_ (by first | assumption | (simp; done) | (simp; omega)) _ | with_reducible refine Below.drew ?_)⟩)
end Go.Proofs.Ytgooffpmiilicaa
