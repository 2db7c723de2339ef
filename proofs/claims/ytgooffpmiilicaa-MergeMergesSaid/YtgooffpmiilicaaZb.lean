/-
  CHAPTER 29: keep.Recs in blocks of its own, lists (several texts in one). Conditions: each theorem states its own.
-/
import Derived.Test.YtgooffpmiilicaaRst
import Derived.Deep.AppendLies
import Derived.Test.YtgooffpmiilicaaKrc
import Derived.Test.YtgooffpmiilicaaZa
set_option linter.unusedVariables false
set_option linter.unusedSimpArgs false
namespace Go.Proofs.Ytgooffpmiilicaa
open Go.RowKit Srt
def RsPostQ (Q : Value → Prop) (w : World) (rs : List Rc) (e : Ending) (w' : World) : Prop := ∃ v1 ps, e = .returned v1 ∧ RsMem w w' v1 ps rs ∧ ∀ p ∈ ps, Q p.2
set_option maxRecDepth 8000 in
set_option maxHeartbeats 2000000 in
theorem refSortQ_any (Q : Value → Prop) (cv : Value) (cs : List Col) (key : Int) (v : Value) (rs : List Rc) (w : World) (hc : ColsAt w w.heap.size cv cs) (h : RecsAt w w.heap.size v rs) (hb : rs.length ≤ 4398046511104) (hq : ∀ b o n c, v = .slice (some ⟨b, o, none⟩) n c → ∀ j, j < rs.length → ∀ lv, w.cell? ⟨b, o + j * 2 + 1, none⟩ = some lv → Q lv) :
    Calls Try.prog 46 #[.agg #[cv, .int .i64 key], v] w (RsPostQ Q w (sortF cs key rs)) := by
  have HQ0 := Lib.hid hq
  clear hq
  obtain ⟨V, hV⟩ : ∃ V, validF cs key rs = V := ⟨_, rfl⟩
  have VC := Lib.hid (fun (W : World) (hb : Below w.heap.size w W) => (by have q := refValid_any cv cs key v rs W (hc.mono hb hb.size) (h.mono hb hb.size); rw [hV] at q; exact q : Calls Try.prog 44 #[.agg #[cv, .int .i64 key], v] W fun e w' => e = .returned (.bool V) ∧ Below W.heap.size W w'))
  obtain ⟨i0, hi, hz0, hz1, hz2⟩ := info_parts infoRec
  obtain ⟨ca, cc, rfl⟩ := cols_end hc
  obtain ⟨ra, rc, rfl⟩ := recs_end h
  obtain ⟨nc, hnc⟩ : ∃ nc, cs.length = nc := ⟨_, rfl⟩
  obtain ⟨m, hm⟩ : ∃ m, rs.length = m := ⟨_, rfl⟩
  rw [hnc] at hc VC ⊢
  rw [hm] at h VC hb ⊢
  have HC := Lib.hid hc
  have HR := Lib.hid h
  have HM := Lib.hid hm
  cases V with
  | false =>
    have E : sortF cs key rs = [] := by unfold sortF; rw [if_neg (by rw [hV]; decide)]
    rw [E]
    clear E hV hc h hnc hm
    go_enter Try.func46, Try.ntmps46
    go_wp2_with (go_at_call 44; refine Calls.mono (VC.out _ (by repeat (first | with_reducible exact Below.refl _ _ | with_reducible assumption | with_reducible refine Below.al ?_ _ | with_reducible refine Below.on ?_ _ | with_reducible refine Below.st ?_ (by first | assumption | (simp; done) | (simp; omega)) _ | with_reducible refine Below.drew ?_))) ?_; rintro e w1 ⟨rfl, hb1⟩; obtain ⟨x1, rfl⟩ := Ext.of hb1; have z0 : w.heap.size < x1.it.heap.size := x1.lt (by (first | assumption | (simp; done) | (simp; omega))))
    refine bodyPost_ret (v := .slice none 0 0) ?_ rfl ⟨_, [], rfl, ⟨ by repeat (first | with_reducible exact Below.refl _ _ | with_reducible assumption | with_reducible refine Below.al ?_ _ | with_reducible refine Below.on ?_ _ | with_reducible refine Below.st ?_ (by first | assumption | (simp; done) | (simp; omega)) _ | with_reducible refine Below.drew ?_), World.ownsRow_nil _ _ _ _, Prs.nil⟩, fun p hp => absurd hp (by simp)⟩
    simp (maxDischargeDepth := 9) [results, Try.results46, go_sem, *]
  | true =>
    obtain ⟨K, rfl, hk⟩ := validF_key hV
    have E : sortF cs K rs = srt (recD (tyK cs K) K) rs := by unfold sortF; rw [if_pos hV]
    rw [E]
    have HK0 := Lib.hid hk
    clear E hV hc h hnc hm hk
    go_enter Try.func46, Try.ntmps46
    go_upto_region 5 with (go_at_call 44; refine Calls.mono (VC.out _ (by repeat (first | with_reducible exact Below.refl _ _ | with_reducible assumption | with_reducible refine Below.al ?_ _ | with_reducible refine Below.on ?_ _ | with_reducible refine Below.st ?_ (by first | assumption | (simp; done) | (simp; omega)) _ | with_reducible refine Below.drew ?_))) ?_; rintro e w1 ⟨rfl, hb1⟩; obtain ⟨x1, rfl⟩ := Ext.of hb1; have z0 : w.heap.size < x1.it.heap.size := x1.lt (by (first | assumption | (simp; done) | (simp; omega))))
    refine captureM ?_
    intro y ey
    have yb : Below w.heap.size w y := by rw [ey]; exact (by repeat (first | with_reducible exact Below.refl _ _ | with_reducible assumption | with_reducible refine Below.al ?_ _ | with_reducible refine Below.on ?_ _ | with_reducible refine Below.st ?_ (by first | assumption | (simp; done) | (simp; omega)) _ | with_reducible refine Below.drew ?_))
    have y0 : y.cell? ⟨w.heap.size, 0, none⟩ = some (.slice ca nc cc) := by rw [ey]; simp (maxDischargeDepth := 9) [go_sem, *]
    have y1 : y.cell? ⟨w.heap.size, 1, none⟩ = some (.int .i64 (K : Int)) := by rw [ey]; simp (maxDischargeDepth := 9) [go_sem, *]
    have yz : w.heap.size < y.heap.size := by rw [ey]; (first | with_reducible assumption | (simp only [World.size_setCell, World.size_alloc, World.size_drew]; first | with_reducible assumption | omega))
    clear ey
    have YB := Lib.hid yb
    have HCy := Lib.hid (HC.out.mono yb yb.size)
    have HRy := Lib.hid (HR.out.mono yb yb.size)
    go_wp2_with fail
    go_loopg [5, 16] m (fun g ov st wr => ∃ (k : Nat) (ps : List (Int × Value)), k + g = m ∧ st = .int .i64 (k : Int) ∧ RsMem y wr ov ps (srt (recD (tyK cs K) K) (rs.take k)) ∧ ∀ p ∈ ps, Q p.2)
    case atStart => exact ⟨0, [], by omega, rfl, ⟨Below.refl _ _, World.ownsRow_nil _ _ _ _, by rw [List.take_zero]; exact Prs.nil⟩, fun p hp => absurd hp (by simp)⟩
    case round =>
      obtain ⟨k, ps, hk, rfl, M, hQ⟩ := hrel
      have HQQ := Lib.hid hQ
      clear hQ
      obtain ⟨og, hog⟩ : ∃ og, og = gk := ⟨_, rfl⟩
      obtain ⟨O, hO⟩ : ∃ O, srt (recD (tyK cs K) K) (rs.take k) = O := ⟨_, rfl⟩
      rw [hO] at M
      have OL : O.length = k := by rw [← hO, srt_len, List.length_take, HM.out]; omega
      have PL : ps.length = k := by rw [M.prs.1, OL]
      obtain ⟨va, vc, ev⟩ := own_form M.own
      rw [PL] at ev
      subst ev
      have HO := Lib.hid hO
      have MH := Lib.hid M
      have HL2 := Lib.hid (And.intro OL PL)
      have hx := M.below
      have s0 := (hx.cell (p := ⟨w.heap.size, 0, none⟩) yz).trans y0
      have s1 := (hx.cell (p := ⟨w.heap.size, 1, none⟩) yz).trans y1
      have zw : w.heap.size < wr.heap.size := Nat.lt_of_lt_of_le yz hx.size
      have zy := hx.size
      have HX := Lib.hid hx
      have HOG := Lib.hid hog
      clear hO OL PL M hx hog
      by_cases hg0 : gk = 0
      · subst hg0
        have hkm := Lib.hid (show k = m by omega)
        have hkm' : ¬ (k : Int) < (m : Int) := by omega
        clear hk
        go_wp2
        have e : O = srt (recD (tyK cs K) K) rs := by rw [← HO.out, List.take_of_length_le (by rw [HM.out, hkm.out]; exact Nat.le_refl _)]
        rw [e] at MH
        refine bodyPost_ret (v := .slice va k vc) ?_ rfl ⟨_, ps, rfl, ⟨Below.to YB.out HX.out, own_baseM MH.out.own YB.out.size, MH.out.prs⟩, HQQ.out⟩
        simp (maxDischargeDepth := 9) [results, Try.results46, go_sem, *]
      · have hkn : k < m := by omega
        have hkn' : (k : Int) < (m : Int) := by omega
        have hkl : k < rs.length := by rw [HM.out]; exact hkn
        obtain ⟨b, o, rfl, hcap, hb', c0, lv, c1, c2⟩ := recs_in HR.out hkl
        have QL := Lib.hid (HQ0.out b o _ _ rfl k hkl lv c1)
        obtain ⟨R, hd⟩ : ∃ d, rs[k]'hkl = d := ⟨_, rfl⟩
        have SPUT := Lib.hid (srt_put (recD (tyK cs K) K) rs k hkl O HO.out)
        rw [hd] at c0 c2 SPUT
        obtain ⟨sq, row⟩ := R
        dsimp only at c0 c2
        have f0 := (HX.out.cell (p := ⟨b, o + k * 2, none⟩) (Nat.lt_of_lt_of_le hb' YB.out.size)).trans ((YB.out.cell (p := ⟨b, o + k * 2, none⟩) hb').trans c0)
        have f1 := (HX.out.cell (p := ⟨b, o + k * 2 + 1, none⟩) (Nat.lt_of_lt_of_le hb' YB.out.size)).trans ((YB.out.cell (p := ⟨b, o + k * 2 + 1, none⟩) hb').trans c1)
        have zb : b < wr.heap.size := Nat.lt_of_lt_of_le hb' (Nat.le_trans YB.out.size zy)
        have VV := Lib.hid (c2.mono (Below.to YB.out HX.out) (Nat.le_trans YB.out.size zy))
        obtain ⟨la, lc, rfl⟩ := vals_end c2
        obtain ⟨rl, hrl⟩ : ∃ rl, row.length = rl := ⟨_, rfl⟩
        rw [hrl] at f1 VV QL
        have HRL := Lib.hid hrl
        have GZ := Lib.hid (And.intro hk hg0)
        clear c0 c1 c2 hcap hd hk hg0 hrl
        go_upto_region 8 with fail
        refine captureM ?_
        intro u eu
        have ub : Below wr.heap.size wr u := by rw [eu]; exact (by repeat (first | with_reducible exact Below.refl _ _ | with_reducible assumption | with_reducible refine Below.al ?_ _ | with_reducible refine Below.on ?_ _ | with_reducible refine Below.st ?_ (by first | assumption | (simp; done) | (simp; omega)) _ | with_reducible refine Below.drew ?_))
        have uz : wr.heap.size < u.heap.size := by rw [eu]; simp
        have u0 : u.cell? ⟨wr.heap.size, 0, none⟩ = some (.int .i64 sq) := by rw [eu]; simp (maxDischargeDepth := 9) [go_sem, *]
        have u1 : u.cell? ⟨wr.heap.size, 1, none⟩ = some (.slice la rl lc) := by rw [eu]; simp (maxDischargeDepth := 9) [go_sem, *]
        have s2 := (ub.cell (p := ⟨w.heap.size, 0, none⟩) zw).trans s0
        have s3 := (ub.cell (p := ⟨w.heap.size, 1, none⟩) zw).trans s1
        have MU := Lib.hid (MH.out.on ub)
        have VU := Lib.hid (VV.out.mono ub ub.size)
        have XU := Lib.hid (Below.to (Below.to YB.out HX.out) ub)
        have zu : w.heap.size < u.heap.size := Nat.lt_of_lt_of_le zw ub.size
        clear eu f0 f1 s0 s1 ub
        generalize wr.heap.size = RB at *
        have RKX := Lib.hid (fun (W : World) (hb : Below u.heap.size u W) => refRank_any (.slice ca nc cc) K sq (.slice la rl lc) row W (VU.out.mono hb hb.size))
        have KTX := Lib.hid (fun (W : World) (hb : Below u.heap.size u W) => keyType_any (.slice ca nc cc) cs K HK0.out W (HC.out.mono (Below.to XU.out hb) (Below.to XU.out hb).size))
        obtain ⟨ty, hty⟩ : ∃ ty, tyK cs K = ty := ⟨_, rfl⟩
        rw [hty] at KTX SPUT
        obtain ⟨⟨⟨an, ai, as'⟩, p⟩, hA⟩ : ∃ r, rankF K ⟨sq, row⟩ = r := ⟨_, rfl⟩
        rw [hA] at RKX
        have RA : Hid (∀ (W : World) (hb : Below u.heap.size u W), Calls Try.prog 24 #[.agg #[.slice ca nc cc, .int .i64 (K : Int)], .agg #[.int .i64 sq, .slice la rl lc]] W fun e w' => e = .returned (.agg #[.bool an, .int .i64 ai, .string as', .int .i64 p]) ∧ Below W.heap.size W w') := RKX
        have HA := Lib.hid hA
        have HTY := Lib.hid hty
        clear RKX hA hty
        go_wp2_with fail
        go_loopg [8] k (fun g st w2 => ∃ j : Nat, st = .int .i64 (j : Int) ∧ j = g ∧ j ≤ k ∧ (∀ i (h : i < O.length), j ≤ i → recD ty K ⟨sq, row⟩ (O[i]'h) < 0) ∧ ∃ x : Ext u, x.it = w2)
        case atStart => exact ⟨k, by go_num, rfl, Nat.le_refl _, fun i h q => by have := HL2.out.1; omega, ⟨u, Below.refl _ _⟩, rfl⟩
        case round =>
          obtain ⟨j, rfl, hj, hjk, hall, x, rfl⟩ := hrel
          have HALL := Lib.hid hall
          have HJ := Lib.hid hj
          have JK := Lib.hid hjk
          clear hall hj
          have x0 := (x.cell RB 0 uz).trans u0
          have x1 := (x.cell RB 1 uz).trans u1
          have x2 := (x.cell w.heap.size 0 zu).trans s2
          have x3 := (x.cell w.heap.size 1 zu).trans s3
          have xz := x.lt uz
          have xw := x.lt zu
          have MX := Lib.hid (MU.out.on x.below)
          by_cases j0 : j = 0
          case' neg =>
            obtain ⟨jp, hjp⟩ : ∃ jp, j = jp + 1 := ⟨j - 1, by omega⟩
            have jl : jp < O.length := by rw [HL2.out.1]; omega
            have jl2 : jp < ps.length := by rw [HL2.out.2]; omega
            obtain ⟨C, hC⟩ : ∃ C, recD ty K ⟨sq, row⟩ (O[jp]'jl) = C := ⟨_, rfl⟩
            obtain ⟨⟨bsq, brow⟩, hOj⟩ : ∃ d, O[jp]'jl = d := ⟨_, rfl⟩
            obtain ⟨q0, q1⟩ := MX.out.prs.2 jp jl2 jl
            rcases own_at (f := rcC) (k := 2) (fun _ => rfl) MX.out.own with ⟨e, _⟩ | ⟨g, c', ev, _, _, hg, H⟩
            · subst e; exact absurd jl2 (by simp)
            injection ev with ev1 ev2 ev3
            clear ev2 ev3
            subst ev1
            have y2 := H jp jl2 0 _ (by omega) rfl
            have y3 := H jp jl2 1 _ (by omega) rfl
            rw [q0, hOj] at y2
            rw [hOj] at q1
            dsimp only at y2 q1
            obtain ⟨bv, hbv⟩ : ∃ bv, (ps[jp]'jl2).2 = bv := ⟨_, rfl⟩
            rw [hbv] at y3 q1
            have C2 := hC
            rw [hOj] at C2
            unfold recD at C2
            rw [HA.out] at C2
            obtain ⟨⟨⟨bn, bi, bs'⟩, q⟩, hB2⟩ : ∃ r, rankF K ⟨bsq, brow⟩ = r := ⟨_, rfl⟩
            rw [hB2] at C2
            have RB2 := Lib.hid (fun (W : World) (h : Below x.it.heap.size x.it W) => (by have z := refRank_any (.slice ca nc cc) K bsq bv brow W (q1.mono h h.size); rw [hB2] at z; exact z : Calls Try.prog 24 #[.agg #[.slice ca nc cc, .int .i64 (K : Int)], .agg #[.int .i64 bsq, bv]] W fun e w' => e = .returned (.agg #[.bool bn, .int .i64 bi, .string bs', .int .i64 q]) ∧ Below W.heap.size W w'))
            have CM := Lib.hid (fun W => (by have z := refCompareR_any ty an ai as' p bn bi bs' q W; rw [C2] at z; exact z : Calls Try.prog 20 #[.int .i64 ty, .agg #[.bool an, .int .i64 ai, .string as', .int .i64 p], .agg #[.bool bn, .int .i64 bi, .string bs', .int .i64 q]] W fun e w' => e = .returned (.int .i64 C) ∧ Below W.heap.size W w'))
            obtain ⟨ba, bc, rfl⟩ := vals_end q1
            generalize brow.length = bl at *
            have i0 : IntKind.i64.wrap ((j : Int) - 1) = (jp : Int) := by rw [IntKind.wrap_i64]; omega
            have i0' : (j : Int) - 1 = (jp : Int) := by omega
            have i1 : (0 : Int) < (j : Int) := by omega
            have i1' : decide (0 < j) = true := by simp; omega
            have i2 : (0 : Int) ≤ (jp : Int) := by omega
            have i4 : (jp : Int) < (k : Int) := by omega
            have jb : (j : Int) ≤ 4398046511104 := by omega
            have HJP := Lib.hid hjp
            have HCC := Lib.hid hC
            clear hC hOj q0 q1 H hbv C2 hB2 hjp j0 hjk jl2
            simp only [Nat.add_zero] at y2
            by_cases s4 : C < 0
            · have t0 : decide (C < 0) = true := by simpa using s4
              go_upto_region 8 with fail
              refine wp_region_ext (by kernel_rfl) (by kernel_rfl) ?_
              repeat (go_big_quiet_step ((first | (go_at_call 23; exact Calls.ext (KTX.out _ (Below.to x.below (Ext.below _)))) | (go_at_call 24; with_reducible exact Calls.ext (RA.out _ (Below.to x.below (Ext.below _)))) | (go_at_call 24; with_reducible exact Calls.ext (RB2.out _ (Ext.below _))) | (go_at_call 20; exact Calls.ext (CM.out _)))))
              refine wpQuiet_nil ?_
              rintro _ ⟨x5, rfl⟩
              clear i0 i0' i2 i4
              go_wp2_with fail
              go_roundg (gk - 1)
              case measure => have := HJP.out; have := HJ.out; omega
              case rel => exact ⟨jp, by rw [show (jp : Int) = (j : Int) - 1 by have := HJP.out; omega], by have := HJP.out; have := HJ.out; omega, by have := HJP.out; have := JK.out; omega, fun i h q => by
                by_cases e : i = jp
                · subst e; rw [HCC.out]; exact s4
                · exact HALL.out i h (by have := HJP.out; omega), ⟨x5.it, Below.on x.below x5⟩, rfl⟩
            have t0 : decide (C < 0) = false := by simpa using s4
            have STOP := Lib.hid (show ∀ i (h : i < O.length), i + 1 = j → ¬ recD ty K ⟨sq, row⟩ (O[i]'h) < 0 from fun i h e => by
              have := HJP.out
              obtain rfl : i = jp := by omega
              rw [HCC.out]; exact s4)
            go_upto_region 8 with fail
            refine wp_region_ext (by kernel_rfl) (by kernel_rfl) ?_
            repeat (go_big_quiet_step ((first | (go_at_call 23; exact Calls.ext (KTX.out _ (Below.to x.below (Ext.below _)))) | (go_at_call 24; with_reducible exact Calls.ext (RA.out _ (Below.to x.below (Ext.below _)))) | (go_at_call 24; with_reducible exact Calls.ext (RB2.out _ (Ext.below _))) | (go_at_call 20; exact Calls.ext (CM.out _)))))
            refine wpQuiet_nil ?_
            rintro _ ⟨x5, rfl⟩
            clear i0 i0' i1 i1' i2 i4 jb y2 y3 RB2 CM HCC HJP t0 s4 jl
            generalize (some (⟨g, 0, none⟩ : Addr)) = va at *
          case' pos =>
            have i1 : ¬ (0 : Int) < (j : Int) := by omega
            have i1' : decide (0 < j) = false := by simp; omega
            have STOP := Lib.hid (show ∀ i (h : i < O.length), i + 1 = j → ¬ recD ty K ⟨sq, row⟩ (O[i]'h) < 0 from fun i h e => by omega)
            clear j0 hjk
            go_upto_region 8 with fail
            refine wp_region_ext (by kernel_rfl) (by kernel_rfl) ?_
            repeat (go_big_quiet_step ((fail)))
            refine wpQuiet_nil ?_
            rintro _ ⟨x5, rfl⟩
            clear i1 i1'
          all_goals
            have XB : Below u.heap.size u x5.it := Below.to x.below x5.below
            have M5 := MU.out.on XB
            have OC := own_cap M5.own
            have O1 := own_part M5.own M5.ones 0 j vc (Nat.zero_le _) (by rw [HL2.out.2]; exact JK.out) rfl
            have O2 := own_part M5.own M5.ones j k vc JK.out (by rw [HL2.out.2]; exact Nat.le_refl _) rfl
            rw [HL2.out.2] at OC
            simp only [Nat.sub_zero, List.drop_zero] at O1
            have jc : j ≤ vc := Nat.le_trans JK.out OC
            have hV1 : sliced va 0 j vc 2 = .slice va j vc := by
              unfold sliced
              by_cases q : vc = 0
              · rw [if_pos q]; rfl
              · rw [if_neg q]; cases va <;> simp [Addr.add]
            have jcz : (j : Int) ≤ (vc : Int) := by omega
            obtain ⟨V2, hV2⟩ : ∃ V, sliced va j k vc 2 = V := ⟨_, rfl⟩
            rw [hV1] at O1
            rw [hV2] at O2
            have SL1 : ∀ W, (Instr.slice 22 (.slice va k vc) none (some (.int .i64 (j : Int))) none).run Try.prog W = .ok (.slice va j vc) W := fun W => by rw [run_recs_h jc, hV1]
            have SL2 : ∀ W, (Instr.slice 22 (.slice va k vc) (some (.int .i64 (j : Int))) none none).run Try.prog W = .ok V2 W := fun W => by rw [run_recs_l JK.out, hV2]
            have HM5 := Lib.hid M5
            have HO1 := Lib.hid O1
            have z0 := Nat.lt_of_lt_of_le uz XB.size
            have z1 := Nat.lt_of_lt_of_le zu XB.size
            have r0 := (XB.cell (p := ⟨RB, 0, none⟩) uz).trans u0
            have r1 := (XB.cell (p := ⟨RB, 1, none⟩) uz).trans u1
            have HXB := Lib.hid XB
            have kb : k + 1 ≤ 4398046511104 := by omega
            have KB := Lib.hid kb
            have YX := Lib.hid M5.below.size
            clear O1 O2 OC jc hV1 hV2 M5 XB x0 x1 x2 x3 xz xw
            go_upto_region 11 with (at_builtin; go_must (refine wpList_append_row (by rfl) _ _ 22 rfl x5.it.heap.size 35 i0 _ 2 32 Try.underlying22 hi hz0 hz1 hz2 rfl (by decide) (.slice none 0 0) 0 [] rfl (World.ownsRow_nil _ _ _ _) (.slice va j vc) j ((ps.take j).flatMap rcC) rfl HO1.out (by have := JK.out; have := KB.out; unfold maxLen; omega) (by have := JK.out; have := KB.out; omega) (Nat.le_refl _) ?_); intro v6 w6 hown6 hg6 ha6; rw [Nat.zero_add, List.nil_append] at hown6; obtain ⟨a6, c6, rfl⟩ := own_form hown6; have OW6 := Lib.hid hown6; have B6 : Hid (Below x5.it.heap.size x5.it w6) := Lib.hid (Below.gr (Below.refl x5.it.heap.size x5.it) (World.ownsRow_nil _ _ _ _ : x5.it.ownsRow x5.it.heap.size 35 2 (.slice none 0 0) 0 []) hg6); clear hown6 hg6 ha6)
            have q0 := (B6.out.cell (p := ⟨RB, 0, none⟩) z0).trans r0
            have q1 := (B6.out.cell (p := ⟨RB, 1, none⟩) z0).trans r1
            have q2 : RB < w6.heap.size := Nat.lt_of_lt_of_le z0 B6.out.size
            have TL : ((ps.take j).length) = j := by rw [List.length_take, HL2.out.2]; have := JK.out; omega
            have TLH := Lib.hid TL
            clear r0 r1 TL jcz
            go_upto_region 12 with (at_builtin; go_must (refine wpList_append_lies _ rfl _ _ 22 rfl x5.it.heap.size 35 i0 _ 2 32 Try.underlying22 hi hz0 hz1 hz2 rfl (by decide) (.slice a6 j c6) j ((ps.take j).flatMap rcC) rfl (OW6.out.alloc _) ⟨w6.heap.size, 0, none⟩ 1 1 (rcC (sq, .slice la rl lc)) rfl rfl (World.news_of_block (heap_alloc_new w6 _)) (rcC_one _ rfl) (by omega) (by have := JK.out; have := KB.out; unfold maxLen; omega) (by have := JK.out; have := KB.out; omega) (by have := B6.out.size; simp; omega) (w6.heap.size + 1) (by simp) ?_); intro gb cap w7 hown7 hg7 hat7 hlt7; have OW7 := Lib.hid hown7; have B7 : Hid (Below x5.it.heap.size x5.it w7) := Lib.hid (Below.gr (Below.al B6.out _) OW6.out hg7); clear hown7 hg7 hat7 hlt7)
            have M7 := HM5.out.on B7.out
            have O2 := own_part M7.own M7.ones j k vc JK.out (by rw [HL2.out.2]; exact Nat.le_refl _) rfl
            have SV2 := SL2 w
            have ev2 : sliced va j k vc 2 = V2 := by rw [run_recs_l JK.out] at SV2; injection SV2
            rw [ev2] at O2
            have TK : (ps.drop j).take (k - j) = ps.drop j := List.take_of_length_le (by rw [List.length_drop, HL2.out.2]; exact Nat.le_refl _)
            rw [TK] at O2
            have HO2 := Lib.hid O2
            clear SV2 ev2 O2 TK M7 q0 q1
            go_wp2_with (at_builtin; go_must (refine wpList_append_row (by rfl) _ _ 22 rfl x5.it.heap.size 35 i0 _ 2 32 Try.underlying22 hi hz0 hz1 hz2 rfl (by decide) (.slice (some ⟨gb, 0, none⟩) (j + 1) cap) (j + 1) ((ps.take j).flatMap rcC ++ rcC (sq, .slice la rl lc)) rfl OW7.out V2 (k - j) ((ps.drop j).flatMap rcC) rfl HO2.out (by have := JK.out; have := KB.out; unfold maxLen; omega) (by have := JK.out; have := KB.out; omega) (by have := B7.out.size; omega) ?_); intro v8 w8 hown8 hg8 ha8; have OW8 := Lib.hid hown8; have B8 : Hid (Below x5.it.heap.size x5.it w8) := Lib.hid (Below.gr B7.out OW7.out hg8); clear hown8 hg8 ha8)
            go_roundg (og - 1)
            case measure => have := GZ.out; have := HOG.out; omega
            case rel =>
              have M8 := HM5.out.on B8.out
              have E := SPUT.out j (by rw [HL2.out.1]; exact JK.out) HALL.out STOP.out
              refine ⟨k + 1, ps.take j ++ (sq, .slice la rl lc) :: ps.drop j, by have := GZ.out; have := HOG.out; omega, by go_num, ⟨M8.below, ?_, ?_⟩, ?_⟩
              · have e1 : (ps.take j ++ (sq, Value.slice la rl lc) :: ps.drop j).length = j + 1 + (k - j) := by rw [List.length_append, List.length_cons, TLH.out, List.length_drop, HL2.out.2]; omega
                have e2 : (ps.take j ++ (sq, Value.slice la rl lc) :: ps.drop j).flatMap rcC = (ps.take j).flatMap rcC ++ rcC (sq, .slice la rl lc) ++ (ps.drop j).flatMap rcC := by simp
                rw [e1, e2]
                exact own_baseM OW8.out YX.out
              · rw [HTY.out, E]
                refine Prs.app (M8.prs.take j) ?_
                have V8 := VU.out.mono (Below.to HXB.out B8.out) (Below.to HXB.out B8.out).size
                exact Prs.app (ps := [(sq, .slice la rl lc)]) (rs := [⟨sq, row⟩]) (Prs.snoc Prs.nil rfl V8) (M8.prs.drop j)
              · intro p hp
                rcases List.mem_append.1 hp with r | r
                · exact HQQ.out p (List.mem_of_mem_take r)
                · rcases List.mem_cons.1 r with r | r
                  · rw [r]; exact QL.out
                  · exact HQQ.out p (List.mem_of_mem_drop r)
end Go.Proofs.Ytgooffpmiilicaa
namespace Go.Proofs.Ytgooffpmiilicaa
open Go.RowKit Srt
/-- Records that lie in blocks from lo on, below hi. -/
def Fr (lo hi : Nat) (w : World) (v : Value) (rs : List Rc) : Prop := ∃ ps, w.ownsRow lo 35 2 v ps.length (ps.flatMap rcC) ∧ (∀ k, v.ownBlock = some k → k < hi) ∧ Prs w hi ps rs ∧ ∀ p ∈ ps, ∀ k, p.2.ownBlock = some k → lo ≤ k
theorem Fr.keep {lo hi : Nat} {w w' : World} {v : Value} {rs : List Rc} (h : Fr lo hi w v rs) (hk : ∀ k, lo ≤ k → k < hi → w'.heap[k]? = w.heap[k]?) : Fr lo hi w' v rs := by
  obtain ⟨ps, h1, h2, h3, h4⟩ := h
  refine ⟨ps, ?_, h2, ⟨h3.1, fun j hj hj' => ⟨(h3.2 j hj hj').1, (h3.2 j hj hj').2.keep fun k hb e => hk k (h4 _ (List.getElem_mem hj) k e) hb⟩⟩, h4⟩
  refine ⟨h1.1, h1.2.imp id ?_⟩
  rintro ⟨g, cap, cur, rfl, q2, q3, q4⟩
  exact ⟨g, cap, cur, rfl, q2, by rw [hk g q2 (h2 g rfl)]; exact q3, q4⟩
theorem Fr.recs {lo hi : Nat} {w : World} {v : Value} {rs : List Rc} (h : Fr lo hi w v rs) (hl : rs.length ≤ 9223372036854775807) (hh : hi ≤ w.heap.size) : RecsAt w w.heap.size v rs := by
  obtain ⟨ps, h1, h2, h3, h4⟩ := h
  exact own_recs hl (h3.mono (Below.refl _ _) hh) h1
def RecsPostQ (w : World) (cs : List Col) (key n : Int) (e : Ending) (w' : World) : Prop := ∃ v rs, e = .returned v ∧ Fr w.heap.size w'.heap.size w' v rs ∧ (rs.length : Int) ≤ n ∧ (∀ r ∈ rs, RcOk cs r) ∧ sortedF cs key rs = true ∧ Below w.heap.size w w'
set_option maxRecDepth 8000 in
set_option maxHeartbeats 2000000 in
theorem keepRecsQ_any (cv : Value) (cs : List Col) (key : Int) (lv : Value) (zs : List Int) (n : Int) (w : World) (hc : ColsAt w w.heap.size cv cs) (h : IntsAt w w.heap.size lv zs) (h0 : 0 ≤ n) (h1 : n ≤ 100) (hsc : schemaF cs key = 0) (hty : ∀ j (h : j < cs.length), 1 ≤ (cs[j]'h).ty ∧ (cs[j]'h).ty ≤ 5) (h12 : cs.length ≤ 12) :
    Calls Try.prog 27 #[.agg #[cv, .int .i64 key], lv, .int .i64 n] w (RecsPostQ w cs key n) := by
  obtain ⟨i0, hi, hz0, hz1, hz2⟩ := info_parts infoRec
  obtain ⟨ca, cc, rfl⟩ := cols_end hc
  obtain ⟨m, hl⟩ : ∃ m, cs.length = m := ⟨_, rfl⟩
  have HL := Lib.hid hl
  have HC : Hid (ColsAt w w.heap.size (.slice ca m cc) cs) := Lib.hid (by rw [← hl]; exact hc)
  have HT := Lib.hid (And.intro hty h12)
  have HSC := Lib.hid hsc
  rw [hl]
  have h2 : IntsAt (w.alloc (.cells #[.slice ca m cc, .int .i64 key] 28)) (w.alloc (.cells #[.slice ca m cc, .int .i64 key] 28)).heap.size lv zs := (h.to (fun k hk => Below.heap_alloc _ _ _ hk)).mono (by simp)
  clear hl hc hty h12 h hsc
  go_enter Try.func27, Try.ntmps27
  go_upto_region 3 with (go_at_call 36; refine (from_any lv zs _ h2).mono ?_; rintro e w1 ⟨rfl, hb1, hs1⟩; obtain ⟨x1, rfl⟩ := Ext.of hb1; have z0 : w.heap.size < x1.it.heap.size := x1.lt (by simp))
  simp only [World.size_alloc] at hs1
  have y0 : x1.it.cell? ⟨w.heap.size, 0, none⟩ = some (.slice ca m cc) := (x1.cell w.heap.size 0 (by simp)).trans (by simp [go_sem])
  have y1 : x1.it.cell? ⟨w.heap.size, 1, none⟩ = some (.int .i64 key) := (x1.cell w.heap.size 1 (by simp)).trans (by simp [go_sem])
  have yw : Below w.heap.size w x1.it := (by repeat (first | with_reducible exact Below.refl _ _ | with_reducible assumption | with_reducible refine Below.al ?_ _ | with_reducible refine Below.on ?_ _ | with_reducible refine Below.st ?_ (by first | assumption | (simp; done) | (simp; omega)) _ | with_reducible refine Below.drew ?_))
  have HS := Lib.hid hs1
  have ysb := hs1.lt
  clear hb1 hs1 h2
  generalize x1.it = y at *
  clear x1
  have nb5 := nextF_bd zs (n := 5) (by decide)
  go_upto_region 4 with (go_at_call 37; refine Calls.mono (next_any _ zs 5 (by decide) (by decide) _ HS.out) ?_; rintro e w2 ⟨rfl, hm2, hs2⟩; have M2 := Lib.hid hm2; have S2 := Lib.hid hs2; clear hm2 hs2)
  obtain ⟨S0, hS0⟩ : ∃ S0, (nextF 5 zs).1 = S0 := ⟨_, rfl⟩
  rw [hS0] at nb5 ⊢
  clear hS0
  generalize (nextF 5 zs).2 = zs2 at *
  go_wp2_with (go_at_call 37; refine Calls.mono (next_any _ zs2 (n + 1) (by omega) (by omega) _ S2.out) ?_; rintro e w3 ⟨rfl, hm3, hs3⟩; have MK : Hid (KpMem rcC 35 2 y (w.heap.size + 1) w3 (.slice none 0 0) [] (nextF (n + 1) zs2).2) := Lib.hid ⟨Mv.mv (S := fun k => k = w.heap.size + 1) (Mv.of_moved M2.out rfl) hm3 rfl, ysb, hs3, World.ownsRow_nil _ _ _ _⟩; clear hm3 hs3)
  have nb := nextF_bd zs2 (n := n + 1) (by omega)
  obtain ⟨N0, hN0⟩ : ∃ N0 : Nat, (nextF (n + 1) zs2).1 = N0 := ⟨(nextF (n + 1) zs2).1.toNat, by omega⟩
  have hN1 : (N0 : Int) ≤ n := by omega
  generalize (nextF (n + 1) zs2).2 = r0 at *
  rw [hN0]
  clear hN0 nb HS M2 S2
  go_loopg [8, 9, 10] N0 (fun g v sqv i wr => ∃ (ps : List (Int × Value)) (rs : List Rc) (r' : List Int) (sq : Int), rs.length + g = N0 ∧ sqv = .int .i64 sq ∧ i = .int .i64 (g : Int) ∧ 0 ≤ sq ∧ sq ≤ 4 + 3 * rs.length ∧ KpMem rcC 35 2 y (w.heap.size + 1) wr v ps r' ∧ InnR y.heap.size wr v ps rs ∧ (∀ r ∈ rs, RcOk cs r) ∧ rs.Pairwise (fun a b => a.seq < b.seq) ∧ ∀ r ∈ rs, r.seq < sq)
  case atStart => exact ⟨[], [], r0, S0, by simp, rfl, rfl, by omega, by simp; omega, MK.out, ⟨rfl, fun j hj => absurd hj (by simp)⟩, fun a ha => absurd ha (by simp), .nil, fun a ha => absurd ha (by simp)⟩
  case round =>
    obtain ⟨ps, rs, r', sq, hk, rfl, rfl, hq0, hq1, M, I, hp, hpw, hlt'⟩ := hrel
    clear MK nb5
    have MO := Lib.hid (And.intro M (And.intro I (And.intro hp (And.intro hpw hlt'))))
    obtain ⟨va, vc, rfl⟩ := own_form M.own
    clear M I hp hpw hlt'
    have HK := Lib.hid hk
    have HQ := Lib.hid (And.intro hq0 hq1)
    by_cases hg0 : gk = 0
    · subst hg0
      have f0 := (MO.out.1.mv.cell 0 (b := w.heap.size) (by omega) (by omega)).trans y0
      have f1 := (MO.out.1.mv.cell 1 (b := w.heap.size) (by omega) (by omega)).trans y1
      have BX : Below w.heap.size w wr := Mv.below MO.out.1.mv yw (fun k hk => by omega)
      have SO := sort_sorted (key := key) HSC.out MO.out.2.2.1 MO.out.2.2.2.1
      have RS := Lib.hid (refSortQ_any (fun u => ∀ k, u.ownBlock = some k → w.heap.size ≤ k) (.slice ca m cc) cs key (.slice va ps.length vc) rs wr (HC.out.mono BX BX.size) (inn_recs (by have := HK.out; omega) MO.out.2.1 MO.out.1.own) (by have := HK.out; omega) (fun b o n c ev j hj lv hc => by
        have PLn : ps.length = rs.length := MO.out.2.1.1
        rcases own_at (f := rcC) (k := 2) (fun _ => rfl) MO.out.1.own with ⟨e0, _⟩ | ⟨g, cap, e1, _, _, _, HH⟩
        · rw [e0, List.length_nil] at PLn; omega
        · rw [ev] at e1
          injection e1 with e1 _ _
          injection e1 with e1
          injection e1 with e1 e2 _
          subst e1 e2
          have hj' : j < ps.length := by omega
          have := HH j hj' 1 _ (by omega) rfl
          rw [Nat.zero_add] at hc
          rw [hc] at this
          injection this with this
          intro k hk
          rw [this] at hk
          have q := (MO.out.2.1.2 j hj' hj).2.2 k hk
          have := yw.size
          omega))
      have SOH := Lib.hid SO
      have BXH := Lib.hid BX
      clear hk hq0 hq1 SO BX
      go_wp2_with (go_at_call 46; refine Calls.mono RS.out ?_; rintro e w9 ⟨v9, ps9, rfl, R9, Q9⟩; obtain ⟨a9, c9, rfl⟩ := own_form R9.own; have HR9 := Lib.hid (And.intro R9 Q9); clear R9 Q9)
      have SL := SOH.out.2.length_eq
      refine bodyPost_ret (v := .slice a9 ps9.length c9) ?_ rfl ⟨_, sortF cs key rs, rfl, ⟨ps9, own_baseM HR9.out.1.own BXH.out.size, fun k hk => (HR9.out.1.own.lt k hk).2, HR9.out.1.prs, HR9.out.2⟩, by rw [SL]; have := HK.out; omega, fun r hr => MO.out.2.2.1 r (SOH.out.2.subset hr), SOH.out.1, Below.to BXH.out HR9.out.1.below⟩
      simp (maxDischargeDepth := 9) [results, Try.results27, go_sem, *]
    · have hlt : (0 : Int) < (gk : Int) := by omega
      have hlt1 : (1 : Int) ≤ (gk : Int) := by omega
      have hlt2 : (gk : Int) ≤ 100 := by omega
      have hsq : sq ≤ 1000 := by omega
      have HG := Lib.hid hg0
      have f0 := (MO.out.1.mv.cell 0 (b := w.heap.size) (by omega) (by omega)).trans y0
      have f1 := (MO.out.1.mv.cell 1 (b := w.heap.size) (by omega) (by omega)).trans y1
      have fz : w.heap.size < wr.heap.size := by have := MO.out.1.mv.size; omega
      have HCr : Hid (ColsAt wr (w.heap.size + 1) (.slice ca m cc) cs) := Lib.hid ((HC.out.mono (B' := w.heap.size + 1) yw (by omega)).mv MO.out.1.mv.moved (by omega))
      have hyz : y.heap.size ≤ wr.heap.size := MO.out.1.mv.size
      have HV := Lib.hid (fun k (hk : Value.ownBlock (.slice va ps.length vc) = some k) => (MO.out.1.own.lt k hk))
      have RL : ps.length ≤ 100 := by have := MO.out.2.1.1; omega
      have RG := Lib.hid RL
      have SZ := Lib.hid hyz
      clear hk hg0 RL hq1
      go_upto_region 8 with (first
          | (go_at_call 45; refine Calls.mono (row_any _ _ _ cs key _ MO.out.1.src HCr.out HT.out.1 HT.out.2) ?_; rintro e w4 ⟨v3, vs3, r3, rfl, hm4, hs4, ho4, hl4, hp4⟩; have OL := ho4.lt; have OV := Lib.hid (own_vals (by rw [hl4]; have := HT.out.2; omega) ho4); obtain ⟨a3, q3, rfl⟩ := own_form ho4; have m4 : Mv (fun k => k = w.heap.size + 1) wr w4 := Mv.of_moved hm4 rfl; have MKH := Lib.hid (And.intro (MO.out.1.to m4 hs4) (MO.out.2.1.mv m4 (by omega))); have OLH := Lib.hid OL; have HLP := Lib.hid (And.intro hl4 hp4); have ky : y.heap.size ≤ w4.heap.size := Nat.le_trans hyz m4.size; clear OL hm4 hs4 ho4 hl4 hp4 m4)
          | (at_builtin; go_must (refine wpList_append_lies _ rfl _ _ 22 rfl y.heap.size 35 i0 _ 2 32 Try.underlying22 hi hz0 hz1 hz2 rfl (by decide) (.slice va ps.length vc) ps.length (ps.flatMap rcC) rfl (MKH.out.1.own.alloc _) ⟨w4.heap.size, 0, none⟩ 1 1 (rcC (sq, .slice a3 vs3.length q3)) rfl rfl (World.news_of_block (heap_alloc_new w4 _)) (rcC_one _ rfl) (by omega) (by have := RG.out; unfold maxLen; omega) (by have := RG.out; omega) (by simp; omega) (w4.heap.size + 1) (by simp) ?_); intro gb cap w7 hown hgrow hat hlt7; have MS := Lib.hid (And.intro ((MKH.out.1.al _).step (c := (sq, .slice a3 vs3.length q3)) hgrow hown) (InnR.step (v1 := .slice (some ⟨gb, 0, none⟩) (ps.length + 1) cap) (p := (sq, .slice a3 vs3.length q3)) (r := ⟨sq, vs3⟩) (MKH.out.2.mv (Mv.al (Mv.refl _ _) _) (by omega)) rfl (OV.out.mono ((Below.refl _ _).alloc (Nat.le_refl _) _) (by simp)) (fun k hk => ⟨by have := (OLH.out k hk).1; omega, by have := (OLH.out k hk).2; simp; omega, fun e => by have := (HV.out k e).2; have := (OLH.out k hk).1; omega⟩) hgrow (hat.imp (fun q => q.trans rfl) (fun q => by rw [q]; simp [Value.ownBlock])))); clear hown hgrow hat hlt7))
      have nb3 := nextF_bd r3 (n := 3) (by decide)
      go_wp2_with (go_at_call 37; refine Calls.mono (next_any _ r3 3 (by decide) (by decide) _ MS.out.1.src) ?_; rintro e w8 ⟨rfl, hm8, hs8⟩; have m8 : Mv (fun k => k = w.heap.size + 1) w7 w8 := Mv.of_moved hm8 rfl; have MT := Lib.hid (And.intro (MS.out.1.to m8 hs8) (MS.out.2.mv m8 (by omega))); clear hm8 hs8 m8; (obtain ⟨D, hD⟩ : ∃ D, (nextF 3 r3).1 = D := ⟨_, rfl⟩); rw [hD] at nb3 ⊢; clear hD)
      go_roundg (gk - 1)
      case measure => have := HG.out; omega
      case rel =>
        refine ⟨ps ++ [(sq, .slice a3 vs3.length q3)], rs ++ [⟨sq, vs3⟩], _, sq + (1 + D), by have := HK.out; have := HG.out; simp; omega, by first | rfl | go_num, by go_num, by omega, by have := HQ.out.2; simp; omega, MT.out.1, MT.out.2, ?_, ?_, ?_⟩
        · intro a ha
          rcases List.mem_append.1 ha with q | q
          · exact MO.out.2.2.1 a q
          · rw [List.mem_singleton.1 q]; exact ⟨HQ.out.1, by dsimp only; omega, HLP.out.1, HLP.out.2⟩
        · refine List.pairwise_append.2 ⟨MO.out.2.2.2.1, List.pairwise_singleton _ _, fun a ha b hb => ?_⟩
          rw [List.mem_singleton.1 hb]; exact MO.out.2.2.2.2 a ha
        · intro a ha
          rcases List.mem_append.1 ha with q | q
          · have := MO.out.2.2.2.2 a q; omega
          · rw [List.mem_singleton.1 q]; dsimp only; omega
end Go.Proofs.Ytgooffpmiilicaa
namespace Go.Proofs.Ytgooffpmiilicaa
open Go.RowKit Srt
theorem infoInt1 : (Try.prog.info? 3).map (fun i => (i.zero, i.size, i.bytes)) = some (some (.int .i64 0), 1, 8) := by kernel_rfl
theorem src_isI {w : World} {sb : Nat} {r : List Int} (h : SrcAt w sb r) : ∀ z ∈ r, isI z := by
  obtain ⟨zs, i, lv, _, rfl, _, _, _, _, hz⟩ := h
  exact fun z hz' => hz.1 z (List.mem_of_mem_drop hz')
theorem raw_isI {r : List Int} (h : ∀ z ∈ r, isI z) : isI (rawF r).1 := by
  cases r with
  | nil => show isI 0; unfold isI; omega
  | cons z r => exact h z (by simp)
theorem fr_form {lo hi : Nat} {w : World} {v : Value} {rs : List Rc} (h : Fr lo hi w v rs) : ∃ a c, v = .slice a rs.length c := by
  obtain ⟨ps, h1, _, h3, _⟩ := h
  obtain ⟨a, c, rfl⟩ := own_form h1
  exact ⟨a, c, by rw [h3.1]⟩
def intC (z : Int) : List Value := [.int .i64 z]
theorem own_ints {w : World} {base : Nat} {e : TypeId} {v : Value} {cs : List Int} (hi : ∀ z ∈ cs, isI z) (hl : cs.length ≤ 9223372036854775807) (h : w.ownsRow base e 1 v cs.length (cs.flatMap intC)) : IntsAt w w.heap.size v cs := by
  rcases own_at (f := intC) (k := 1) (fun _ => rfl) h with ⟨rfl, rfl⟩ | ⟨g, c, rfl, hc, _, hg, H⟩
  · exact ⟨hi, hl, .inl ⟨rfl, none, 0, rfl⟩⟩
  · refine ⟨hi, hl, .inr ⟨g, 0, c, rfl, hg, fun j hj => ?_⟩⟩
    have := H j hj 0 (.int .i64 (cs[j]'hj)) (by omega) rfl
    rw [List.getD_eq_getElem?_getD, List.getElem?_eq_getElem hj]
    simpa using this
/-- The lists that lists of records stand for; none lies in the block of the outer slice. -/
def LsE (B0 : Nat) (w : World) (v : Value) (lvs : List Value) (Ls : List (List Rc)) : Prop :=
  lvs.length = Ls.length ∧ ∀ j (h : j < lvs.length) (h' : j < Ls.length), ∃ lo hi, Fr lo hi w (lvs[j]'h) (Ls[j]'(h')) ∧ B0 ≤ lo ∧ hi ≤ w.heap.size ∧ ∀ g, v.ownBlock = some g → g < lo ∨ hi ≤ g
theorem LsE.mv {B0 : Nat} {S : Nat → Prop} {w w' : World} {v : Value} {lvs : List Value} {Ls : List (List Rc)} (h : LsE B0 w v lvs Ls) (m : Mv S w w') (hS : ∀ k, S k → k < B0 ∨ v.ownBlock = some k) : LsE B0 w' v lvs Ls := by
  refine ⟨h.1, fun j h1 h2 => ?_⟩
  obtain ⟨lo, hi, a1, a2, a3, a4⟩ := h.2 j h1 h2
  refine ⟨lo, hi, a1.keep fun k k1 k2 => m.block k (by omega) (fun q => ?_), a2, Nat.le_trans a3 m.size, a4⟩
  rcases hS k q with r | r
  · omega
  · have := a4 k r; omega
theorem LsE.on {B0 : Nat} {w w' : World} {v : Value} {lvs : List Value} {Ls : List (List Rc)} (h : LsE B0 w v lvs Ls) (b : Below w.heap.size w w') : LsE B0 w' v lvs Ls := h.mv (S := fun _ => False) (Mv.of_below b) (fun k q => q.elim)
theorem LsE.step {B0 lo hi : Nat} {W w1 : World} {v v1 lv : Value} {lvs : List Value} {Ls : List (List Rc)} {rs : List Rc} (h : LsE B0 W v lvs Ls) (hf : Fr lo hi W lv rs) (hlo : B0 ≤ lo) (hhi : hi ≤ W.heap.size) (hv : ∀ g, v.ownBlock = some g → g < lo)
    (hg : W.grownBy w1 v.ownBlock) (ha : v.ownBlock = v1.ownBlock ∨ v1.ownBlock = some W.heap.size) : LsE B0 w1 v1 (lvs ++ [lv]) (Ls ++ [rs]) := by
  have key : ∀ (lo hi : Nat) (lv : Value) (rs : List Rc), Fr lo hi W lv rs → hi ≤ W.heap.size → (∀ g, v.ownBlock = some g → g < lo ∨ hi ≤ g) → Fr lo hi w1 lv rs ∧ hi ≤ w1.heap.size ∧ ∀ g, v1.ownBlock = some g → g < lo ∨ hi ≤ g := by
    intro lo hi lv rs f1 f2 f3
    refine ⟨f1.keep fun k k1 k2 => hg.block k (by omega) (fun q => by have := f3 k q.symm; omega), Nat.le_trans f2 hg.size, fun g e => ?_⟩
    rcases ha with q | q
    · exact f3 g (q.trans e)
    · rw [q] at e; injection e with e; omega
  refine ⟨by simp [h.1], fun j h1 h2 => ?_⟩
  rcases Nat.lt_or_ge j lvs.length with q | q
  · have q' : j < Ls.length := by rw [← h.1]; exact q
    rw [List.getElem_append_left q, List.getElem_append_left q']
    obtain ⟨lo, hi, a1, a2, a3, a4⟩ := h.2 j q q'
    obtain ⟨b1, b2, b3⟩ := key lo hi _ _ a1 a3 a4
    exact ⟨lo, hi, b1, a2, b2, b3⟩
  · obtain rfl : j = lvs.length := by simp at h1; omega
    have e1 : (lvs ++ [lv])[lvs.length]'h1 = lv := by simp
    have e2 : (Ls ++ [rs])[lvs.length]'h2 = rs := by simp [h.1]
    rw [e1, e2]
    obtain ⟨b1, b2, b3⟩ := key lo hi _ _ hf hhi (fun g e => .inl (hv g e))
    exact ⟨lo, hi, b1, hlo, b2, b3⟩
theorem ls_parts {B0 base : Nat} {w : World} {T : TypeId} {v : Value} {lvs : List Value} {Ls : List (List Rc)} (h : LsE B0 w v lvs Ls) (ho : w.ownsRow base T 1 v lvs.length (lvs.flatMap one1)) (hl : Ls.length ≤ 9223372036854775807) (hr : ∀ l ∈ Ls, l.length ≤ 9223372036854775807) : PartsAt w w.heap.size v Ls := by
  refine ⟨hl, ?_⟩
  rcases own_at (f := one1) (k := 1) (fun _ => rfl) ho with ⟨rfl, rfl⟩ | ⟨g, cap, rfl, hcap, _, hg, H⟩
  · exact .inl ⟨List.eq_nil_of_length_eq_zero h.1.symm, none, 0, rfl⟩
  · refine .inr ⟨g, 0, cap, by rw [h.1], by rw [← h.1]; exact hcap, hg, fun j hj => ?_⟩
    have hj' : j < lvs.length := by rw [h.1]; exact hj
    obtain ⟨lo, hi, a1, _, a3, _⟩ := h.2 j hj' hj
    have hc := H j hj' 0 _ (by omega) rfl
    exact ⟨lvs[j]'hj', by simpa using hc, a1.recs (hr _ (List.getElem_mem hj)) a3⟩
/-- What is known of the lists that lists returns. -/
def LsOk (cs : List Col) (key : Int) (n : Int) (zs : List Int) (Ls : List (List Rc)) : Prop :=
  (Ls.length : Int) = (nextF (n + 1) zs).1 ∧ ∀ l ∈ Ls, l.length ≤ 4 ∧ (∀ r ∈ l, RcOk cs r) ∧ sortedF cs key l = true
def LsPost (w : World) (cs : List Col) (key n : Int) (zs : List Int) (e : Ending) (w' : World) : Prop :=
  ∃ v lvs Ls, e = .returned v ∧ w'.ownsRow w.heap.size 22 1 v lvs.length (lvs.flatMap one1) ∧ LsE w.heap.size w' v lvs Ls ∧ LsOk cs key n zs Ls ∧ Below w.heap.size w w'
set_option maxRecDepth 8000 in
set_option maxHeartbeats 2000000 in
theorem lists_any (cv : Value) (cs : List Col) (key : Int) (lv : Value) (zs : List Int) (n : Int) (w : World) (hc : ColsAt w w.heap.size cv cs) (h : IntsAt w w.heap.size lv zs) (h0 : 0 ≤ n) (h1 : n ≤ 10) (hsc : schemaF cs key = 0) :
    Calls Try.prog 14 #[.agg #[cv, .int .i64 key], lv, .int .i64 n] w (LsPost w cs key n zs) := by
  obtain ⟨i0, hi, hz0, hz1, hz2⟩ := info_parts infoRcs
  obtain ⟨i1, hj, hy0, hy1, hy2⟩ := info_parts infoInt1
  have SP := schema_parts hsc
  obtain ⟨ca, cc, rfl⟩ := cols_end hc
  obtain ⟨m, hl⟩ : ∃ m, cs.length = m := ⟨_, rfl⟩
  have HL := Lib.hid hl
  have HC : Hid (ColsAt w w.heap.size (.slice ca m cc) cs) := Lib.hid (by rw [← hl]; exact hc)
  have HT := Lib.hid (And.intro SP.1 SP.2.2.1)
  have HSC := Lib.hid hsc
  rw [hl]
  have h2 : IntsAt (w.alloc (.cells #[.slice ca m cc, .int .i64 key] 28)) (w.alloc (.cells #[.slice ca m cc, .int .i64 key] 28)).heap.size lv zs := (h.to (fun k hk => Below.heap_alloc _ _ _ hk)).mono (by simp)
  clear hl hc h SP hsc
  go_enter Try.func14, Try.ntmps14
  go_upto_region 3 with (go_at_call 36; refine (from_any lv zs _ h2).mono ?_; rintro e w1 ⟨rfl, hb1, hs1⟩; obtain ⟨x1, rfl⟩ := Ext.of hb1; have z0 : w.heap.size < x1.it.heap.size := x1.lt (by simp))
  simp only [World.size_alloc] at hs1
  have y0 : x1.it.cell? ⟨w.heap.size, 0, none⟩ = some (.slice ca m cc) := (x1.cell w.heap.size 0 (by simp)).trans (by simp [go_sem])
  have y1 : x1.it.cell? ⟨w.heap.size, 1, none⟩ = some (.int .i64 key) := (x1.cell w.heap.size 1 (by simp)).trans (by simp [go_sem])
  have yw : Below w.heap.size w x1.it := (by repeat (first | with_reducible exact Below.refl _ _ | with_reducible assumption | with_reducible refine Below.al ?_ _ | with_reducible refine Below.on ?_ _ | with_reducible refine Below.st ?_ (by first | assumption | (simp; done) | (simp; omega)) _ | with_reducible refine Below.drew ?_))
  have HS := Lib.hid hs1
  have ysb := hs1.lt
  clear hb1 hs1 h2
  generalize x1.it = y at *
  clear x1
  go_wp2_with (go_at_call 37; refine Calls.mono (next_any _ zs (n + 1) (by omega) (by omega) _ HS.out) ?_; rintro e w3 ⟨rfl, hm3, hs3⟩; have MK : Hid (KpMem one1 22 1 y (w.heap.size + 1) w3 (.slice none 0 0) [] (nextF (n + 1) zs).2) := Lib.hid ⟨Mv.of_moved hm3 rfl, ysb, hs3, World.ownsRow_nil _ _ _ _⟩; clear hm3 hs3)
  have nb := nextF_bd zs (n := n + 1) (by omega)
  obtain ⟨N0, hN0⟩ : ∃ N0 : Nat, (nextF (n + 1) zs).1 = N0 := ⟨(nextF (n + 1) zs).1.toNat, by omega⟩
  have HN := Lib.hid hN0
  have hN1 : N0 ≤ 10 := by omega
  generalize (nextF (n + 1) zs).2 = r0 at *
  rw [hN0]
  clear hN0 nb HS
  go_loopg [8, 9] N0 (fun g v i wr => ∃ (lvs : List Value) (Ls : List (List Rc)) (r' : List Int), Ls.length + g = N0 ∧ i = .int .i64 (g : Int) ∧ KpMem one1 22 1 y (w.heap.size + 1) wr v lvs r' ∧ LsE y.heap.size wr v lvs Ls ∧ ∀ l ∈ Ls, l.length ≤ 4 ∧ (∀ r ∈ l, RcOk cs r) ∧ sortedF cs key l = true)
  case atStart => exact ⟨[], [], r0, by simp, rfl, MK.out, ⟨rfl, fun j hj => absurd hj (by simp)⟩, fun a ha => absurd ha (by simp)⟩
  case round =>
    obtain ⟨lvs, Ls, r', hk, rfl, M, I, hp⟩ := hrel
    clear MK
    have MO := Lib.hid (And.intro M (And.intro I hp))
    obtain ⟨va, vc, rfl⟩ := own_form M.own
    clear M I hp
    by_cases hg0 : gk = 0
    · subst hg0
      have HK := Lib.hid hk
      clear hk
      go_wp2_with fail
      refine bodyPost_ret (v := .slice va lvs.length vc) ?_ rfl ⟨_, lvs, Ls, rfl, own_baseM MO.out.1.own yw.size, ?_, ⟨by have := HK.out; rw [HN.out]; omega, MO.out.2.2⟩, Mv.below MO.out.1.mv yw (fun k hk => by omega)⟩
      · simp (maxDischargeDepth := 9) [results, Try.results14, go_sem, *]
      · exact ⟨MO.out.2.1.1, fun j h1 h2 => by obtain ⟨lo, hi, a1, a2, a3⟩ := MO.out.2.1.2 j h1 h2; exact ⟨lo, hi, a1, Nat.le_trans yw.size a2, a3⟩⟩
    · have hlt : (0 : Int) < (gk : Int) := by omega
      have hlt1 : (1 : Int) ≤ (gk : Int) := by omega
      have hlt2 : (gk : Int) ≤ 100 := by omega
      have HK := Lib.hid (And.intro hk hg0)
      have f0 := (MO.out.1.mv.cell 0 (b := w.heap.size) (by omega) (by omega)).trans y0
      have f1 := (MO.out.1.mv.cell 1 (b := w.heap.size) (by omega) (by omega)).trans y1
      have fz : w.heap.size < wr.heap.size := by have := MO.out.1.mv.size; omega
      have hyz : y.heap.size ≤ wr.heap.size := MO.out.1.mv.size
      have GV := Lib.hid (fun k (hk : (Value.slice va lvs.length vc).ownBlock = some k) => MO.out.1.own.lt k hk)
      have LL : lvs.length ≤ 10 := by have := MO.out.2.1.1; omega
      have LG := Lib.hid LL
      have M0 : Hid (KpMem intC 3 1 wr (w.heap.size + 1) wr (.slice none 0 0) [] r') := Lib.hid ⟨Mv.refl _ _, MO.out.1.src.lt, MO.out.1.src, World.ownsRow_nil _ _ _ _⟩
      have WR : Hid (ColsAt wr wr.heap.size (.slice ca m cc) cs) := Lib.hid (HC.out.mono (Mv.below MO.out.1.mv yw (fun k hk => by omega)) (by have := yw.size; omega))
      have f2 := MO.out.1.src.lt
      obtain ⟨G, rfl⟩ : ∃ G, G = gk := ⟨_, rfl⟩
      clear hk hg0 LL
      go_wp2_with fail
      generalize wr = wo at *
      have HLT := Lib.hid (And.intro hlt (And.intro hlt1 hlt2))
      rw [show decide (0 < G) = true from decide_eq_true (by omega)]
      clear hlt hlt1 hlt2
      go_loopg [10, 11] 14 (fun g mv st wr => ∃ (xs : List Int) (r2 : List Int), xs.length + g = 14 ∧ st = .int .i64 (xs.length : Int) ∧ KpMem intC 3 1 wo (w.heap.size + 1) wr mv xs r2 ∧ ∀ z ∈ xs, isI z)
      case atStart => exact ⟨[], r', rfl, rfl, M0.out, fun z hz => absurd hz (by simp)⟩
      case round =>
        obtain ⟨xs, r2, hx14, rfl, MM, hxi⟩ := hrel
        have MI := Lib.hid MM
        have XI := Lib.hid hxi
        obtain ⟨ma, mc, rfl⟩ := own_form MM.own
        by_cases hz : gk = 0
        · subst hz
          have hlt := HLT.out.1
          have hlt1 := HLT.out.2.1
          have hlt2 := HLT.out.2.2
          have xl : xs.length = 14 := by omega
          have MVO := Lib.hid MM.mv
          have g0 := (MM.mv.cell 0 (b := w.heap.size) fz (by omega)).trans f0
          have g1 := (MM.mv.cell 1 (b := w.heap.size) fz (by omega)).trans f1
          have gz : w.heap.size < wr.heap.size := Nat.lt_of_lt_of_le fz MM.mv.size
          have BW : Below w.heap.size w wr := Mv.below MM.mv (Mv.below MO.out.1.mv yw (fun k hk => by omega)) (fun k hk => by omega)
          have KR := Lib.hid (keepRecsQ_any (.slice ca m cc) cs key (.slice ma xs.length mc) xs 4 wr (HC.out.mono BW BW.size) (own_ints hxi (by omega) MM.own) (by decide) (by decide) HSC.out HT.out.1 HT.out.2)
          have M1 := Lib.hid (MO.out.1.to MM.mv MM.src)
          have I1 := Lib.hid (MO.out.2.1.mv MM.mv (fun k hk => .inl (by omega)))
          have wl : y.heap.size ≤ wr.heap.size := Nat.le_trans hyz MM.mv.size
          have GW := Lib.hid (fun k (hk : (Value.slice va lvs.length vc).ownBlock = some k) => (by have := GV.out k hk; have := MVO.out.size; omega : k < wr.heap.size))
          clear MM hxi hx14 BW
          rw [xl] at KR ⊢
          clear xl
          go_wp2_with (first
            | (go_at_call 27; refine Calls.mono KR.out ?_; rintro e w9 ⟨v9, rs9, rfl, hf9, hl9, ho9, hs9, hb9⟩; obtain ⟨a9, c9, rfl⟩ := fr_form hf9; have F9 := Lib.hid hf9; have O9 := Lib.hid (And.intro hl9 (And.intro ho9 hs9)); have M9 := Lib.hid (M1.out.to (Mv.of_below hb9) (M1.out.src.to hb9)); have I9 := Lib.hid (I1.out.on hb9); have S9 := hb9.size; clear hf9 hl9 ho9 hs9 hb9)
            | (at_builtin; go_must (refine wpList_append_lies _ rfl _ _ 31 rfl y.heap.size 22 i0 _ 1 24 Try.underlying31 hi hz0 hz1 hz2 rfl (by decide) (.slice va lvs.length vc) lvs.length (lvs.flatMap one1) rfl (M9.out.own.alloc _) ⟨w9.heap.size, 0, none⟩ 1 1 [.slice a9 rs9.length c9] rfl rfl (World.news_of_block (heap_alloc_new w9 _)) (by simp [Value.oneCell']) (by omega) (by have := LG.out; unfold maxLen; omega) (by have := LG.out; omega) (by simp; omega) (w9.heap.size + 1) (by simp) ?_); intro gb cap w4 hown hgrow hat hlt4; go_must (have MS := Lib.hid (And.intro ((M9.out.al _).step (c := .slice a9 rs9.length c9) hgrow hown) (LsE.step (lo := wr.heap.size) (hi := w9.heap.size) (v1 := .slice (some ⟨gb, 0, none⟩) (lvs.length + 1) cap) (I9.out.on ((Below.refl _ _).alloc (Nat.le_refl _) _)) (F9.out.keep fun k k1 k2 => Below.heap_alloc _ _ _ k2) wl (by simp) (fun g hg => GW.out g hg) hgrow (hat.imp (fun q => q.trans rfl) (fun q => by rw [q]; simp [Value.ownBlock]))))); clear hown hgrow hat hlt4))
          go_roundg (G - 1)
          case measure => have := HK.out; omega
          case rel =>
            exact ⟨lvs ++ [.slice a9 rs9.length c9], Ls ++ [rs9], _, by have := HK.out; simp; omega, by go_num, MS.out.1, MS.out.2, fun l hl => by
              rcases List.mem_append.1 hl with q | q
              · exact MO.out.2.2 l q
              · rw [List.mem_singleton.1 q]; exact ⟨by have := O9.out.1; omega, O9.out.2⟩⟩
        · have x14 : xs.length < 14 := by omega
          have x14' : (xs.length : Int) < 14 := by omega
          have HX := Lib.hid (And.intro hx14 hz)
          have RI := Lib.hid (raw_isI (src_isI MM.src))
          have wz : wo.heap.size ≤ wr.heap.size := MM.mv.size
          have RW := Lib.hid (raw_any (w.heap.size + 1) r2 wr MM.src)
          clear MM hxi hx14 hz
          go_wp2_with (first
            | (go_at_call 38; refine Calls.mono RW.out ?_; rintro e w5 ⟨rfl, hm5, hs5⟩; have m5 : Mv (fun k => k = w.heap.size + 1) wr w5 := Mv.of_moved hm5 rfl; have M5 := Lib.hid (MI.out.to m5 hs5); have s5 := m5.size; clear hm5 hs5 m5)
            | (at_builtin; go_must (refine wpList_append_lies _ rfl _ _ 39 rfl wo.heap.size 3 i1 _ 1 8 Try.underlying39 hj hy0 hy1 hy2 rfl (by decide) (.slice ma xs.length mc) xs.length (xs.flatMap intC) rfl (M5.out.own.alloc _) ⟨w5.heap.size, 0, none⟩ 1 1 [.int .i64 (rawF r2).1] rfl rfl (World.news_of_block (heap_alloc_new w5 _)) (by simp [Value.oneCell']) (by omega) (by unfold maxLen; omega) (by omega) (by simp; omega) (w5.heap.size + 1) (by simp) ?_); intro gb cap w6 hown hgrow hat hlt6; go_must (have MS := Lib.hid ((M5.out.al _).step (c := (rawF r2).1) hgrow hown)); clear hown hgrow hat hlt6))
          go_roundg (gk - 1)
          case measure => have := HX.out; omega
          case rel => exact ⟨xs ++ [(rawF r2).1], _, by have := HX.out; rw [List.length_append, List.length_singleton]; omega, by rw [List.length_append, List.length_singleton]; rfl, MS.out, fun z hz => by
            rcases List.mem_append.1 hz with q | q
            · exact XI.out z q
            · rw [List.mem_singleton.1 q]; exact RI.out⟩
end Go.Proofs.Ytgooffpmiilicaa
