/-
  CHAPTER 24: Possible of the reference. Conditions: the schema, the predicate and the zones lie in memory.
-/
import Derived.Test.YtfemekmkmiljdaaPpo
set_option linter.unusedVariables false
set_option linter.unusedSimpArgs false
namespace Go.Proofs.Ytfemekmkmiljdaa
open Go.RowKit
def accN (a : TS) (q : Nat) : TS := (([0, 1, 2] : List Int).take q).foldl (fun s x => if a.has x = true then s.add (notT x) else s) TS.non
theorem accN_3 (a : TS) : accN a 3 = notS a := rfl
theorem accN_succ (a : TS) {q : Nat} (h : q < 3) : accN a (q + 1) = addI (accN a q) (notT (q : Int)) (a.has (q : Int)) := by
  rcases (show q = 0 ∨ q = 1 ∨ q = 2 by omega) with rfl | rfl | rfl <;> rfl
set_option maxRecDepth 8000 in
set_option maxHeartbeats 2000000 in
theorem refpossible_any (cv : Value) (cs : List Col) (key : Int) (nv : Value) (ns : List Nod) (zv : Value) (zs : List Zon) (w : World) (hc : ColsAt w w.heap.size cv cs) (hn : NodsAt w w.heap.size nv ns) (hz : ZonsAt w w.heap.size zv zs) :
    Calls Try.prog 32 #[.agg #[cv, .int .i64 key], nv, zv] w fun e w' => e = .returned (.tuple #[.int .i64 (posF cs key ns zs).1, .int .i64 (posF cs key ns zs).2]) ∧ Below w.heap.size w w' := by
  obtain ⟨ca, cc, rfl⟩ := cols_end hc
  obtain ⟨na, pc, rfl⟩ := nods_end hn
  obtain ⟨za, zc', rfl⟩ := zons_end hz
  obtain ⟨nc, hl⟩ : ∃ nc, cs.length = nc := ⟨_, rfl⟩
  obtain ⟨m, hm⟩ : ∃ m, ns.length = m := ⟨_, rfl⟩
  obtain ⟨mz, hmz⟩ : ∃ mz, zs.length = mz := ⟨_, rfl⟩
  have HC : Hid (ColsAt w w.heap.size (.slice ca nc cc) cs) := Lib.hid (by rw [← hl]; exact hc)
  have HN : Hid (NodsAt w w.heap.size (.slice na m pc) ns) := Lib.hid (by rw [← hm]; exact hn)
  have HZ : Hid (ZonsAt w w.heap.size (.slice za mz zc') zs) := Lib.hid (by rw [← hmz]; exact hz)
  have HM := Lib.hid hm
  have HL := Lib.hid hl
  have HMZ := Lib.hid hmz
  have nc63 := hc.1
  have mz63 := hz.1
  rw [hl] at nc63
  rw [hmz] at mz63
  rw [hl, hm, hmz]
  obtain ⟨r1, r2, hR⟩ : ∃ r1 r2, posF cs key ns zs = (r1, r2) := ⟨_, _, rfl⟩
  rw [hR]
  have HR := Lib.hid hR
  clear hc hn hz hl hm hmz hR
  go_enter Try.func32, Try.ntmps32
  go_upto_region 1 with fail
  refine captureP ?_
  intro y ey
  have yb : Below w.heap.size w y.it := by rw [ey]; exact (by repeat (first | with_reducible exact Below.refl _ _ | with_reducible assumption | with_reducible refine Below.al ?_ _ | with_reducible refine Below.on ?_ _ | with_reducible refine Below.st ?_ (by first | assumption | (simp; done) | (simp; omega)) _ | with_reducible refine Below.drew ?_))
  have y0 : y.it.cell? ⟨w.heap.size, 0, none⟩ = some (.slice ca nc cc) := by rw [ey]; simp (maxDischargeDepth := 9) [go_sem, *]
  have y1 : y.it.cell? ⟨w.heap.size, 1, none⟩ = some (.int .i64 key) := by rw [ey]; simp (maxDischargeDepth := 9) [go_sem, *]
  have yz : w.heap.size < y.it.heap.size := by rw [ey]; simp
  have HCy := Lib.hid (HC.out.mono yb yb.size)
  have HNy := Lib.hid (HN.out.mono yb yb.size)
  clear ey
  obtain ⟨pe, hpe⟩ : ∃ pe, predF cs key ns = pe := ⟨_, rfl⟩
  have PC := Lib.hid (by have h := refPredCheck_any (.slice ca nc cc) cs key (.slice na m pc) ns y.it HCy.out HNy.out; rw [hpe] at h; exact h)
  by_cases p0 : pe = 0
  · subst p0
    have PA := Lib.hid (predF_all hpe)
    have m64 : m ≤ 64 := by have := PA.out.1; rw [HM.out] at this; exact this
    by_cases hlen : mz = nc
    · subst hlen
      have hlen' : ((mz : Int) != (mz : Int)) = false := by simp
      go_upto_region 6 with (go_at_call 38; refine Calls.mono PC.out ?_; rintro e w1 ⟨rfl, hb1⟩; obtain ⟨x1, rfl⟩ := Ext.of hb1; have z1 := x1.lt yz)
      have b1 : Below w.heap.size w x1.it := yb.trans (x1.below.mono yb.size)
      have Y0 := (x1.cell w.heap.size 0 yz).trans y0
      have Y1 := (x1.cell w.heap.size 1 yz).trans y1
      have HB1 := Lib.hid b1
      clear y0 y1 yz yb HCy HNy PC hb1 b1
      generalize x1.it = Y at *
      clear x1
      clear y
      go_wp2_with fail
      go_loopg [29] mz (fun g st wr => ∃ k : Nat, k + g = mz ∧ st = .int .i64 (k : Int) ∧ (∀ j, j < k → okAt cs zs j = true) ∧ ∃ x : Ext Y, x.it = wr)
      case atStart => exact ⟨0, by omega, rfl, fun j hj => absurd hj (by omega), ⟨Y, Below.refl _ _⟩, rfl⟩
      case round =>
        obtain ⟨k, hk, rfl, hok, x, rfl⟩ := hrel
        obtain ⟨og, rfl⟩ : ∃ og, og = gk := ⟨_, rfl⟩
        have hxw : Below w.heap.size w x.it := HB1.out.trans (x.below.mono HB1.out.size)
        have s0 := (x.cell w.heap.size 0 z1).trans Y0
        have s1 := (x.cell w.heap.size 1 z1).trans Y1
        have zx := x.lt z1
        by_cases hg0 : og = 0
        · subst hg0
          obtain rfl : k = mz := by omega
          have ZE : zsE cs zs = 0 := zsE_ok (by rw [HMZ.out, HL.out]) (fun j hj => hok j (by rw [HMZ.out] at hj; exact hj))
          obtain ⟨rfl, rfl⟩ : (posS cs zs ns).int = r1 ∧ 0 = r2 := by
            have h := HR.out
            unfold posF at h
            rw [if_pos hpe, if_pos ZE] at h
            simpa using h
          have XB := Lib.hid hxw
          clear HR hk hok hpe Y0 Y1 hxw HB1
          generalize x.it = X at *
          clear x
          obtain ⟨mz, rfl⟩ : ∃ n, n = k := ⟨_, rfl⟩
          obtain ⟨i0, hi, hz0, hz1, hz2⟩ := info_parts infoInt
          by_cases m0 : m = 0
          · have e0 : ns = [] := List.eq_nil_of_length_eq_zero (by rw [HM.out]; exact m0)
            subst m0 e0
            have XBO := XB.out
            go_wp2
            refine bodyPost_ret (v := .tuple #[.int .i64 2, .int .i64 0]) (by simp [results, Try.results32, go_sem, *]) rfl ⟨rfl, by repeat (first | with_reducible exact Below.refl _ _ | with_reducible assumption | with_reducible refine Below.al ?_ _ | with_reducible refine Below.on ?_ _ | with_reducible refine Below.st ?_ (by first | assumption | (simp; done) | (simp; omega)) _ | with_reducible refine Below.drew ?_)⟩
          have m0' : ((m : Int) == 0) = false := by simp; omega
          have m0'' : ¬ (m : Int) = 0 := by omega
          have hmk := fun w => run_make (P := Try.prog) w 34 3 i0 _ Try.underlying34 hi hz0 .i64 .i64 (m : Int) (m : Int) (by omega) (Int.le_refl _) (by rw [hz2]; omega) (by omega)
          simp only [Int.toNat_natCast, hz1] at hmk
          obtain ⟨MC, hMC⟩ : ∃ MC, madeCells (Value.cells (.int .i64 0)) (m * 1) = MC := ⟨_, rfl⟩
          rw [hMC] at hmk
          have HMC : Hid (MC = madeCells #[.int .i64 0] m) := Lib.hid (by rw [← hMC, Nat.mul_one]; rfl)
          clear hMC hz0 hz1 hz2
          go_upto_region 15 with fail
          have XB9 := XB.out
          have X90 := s0
          have X91 := s1
          have zx9 := zx
          obtain ⟨V, hV⟩ : ∃ V, X = V := ⟨_, rfl⟩
          subst hV
          refine captureM ?_
          intro Z eZ
          have Zb : Below w.heap.size w Z := by rw [eZ]; exact (by repeat (first | with_reducible exact Below.refl _ _ | with_reducible assumption | with_reducible refine Below.al ?_ _ | with_reducible refine Below.on ?_ _ | with_reducible refine Below.st ?_ (by first | assumption | (simp; done) | (simp; omega)) _ | with_reducible refine Below.drew ?_))
          have Z0 : Z.cell? ⟨w.heap.size, 0, none⟩ = some (.slice ca mz cc) := by rw [eZ]; simp (maxDischargeDepth := 9) [go_sem, *]
          have Z1 : Z.cell? ⟨w.heap.size, 1, none⟩ = some (.int .i64 key) := by rw [eZ]; simp (maxDischargeDepth := 9) [go_sem, *]
          have EM : Hid (EvS Z X.heap.size m []) := Lib.hid ⟨by rw [eZ]; simp, by simp, fun j hj => by rw [eZ, HMC.out]; exact (made_at (w := X) m _ _ rfl j hj).2, fun j hj => absurd hj (by simp), fun j _ hj => by rw [eZ, HMC.out]; exact (made_at (w := X) m _ _ rfl j hj).1⟩
          clear eZ hmk X90 X91 XB9 s0 s1 XB zx
          obtain ⟨TB, hTB⟩ : ∃ n, X.heap.size = n := ⟨_, rfl⟩
          rw [hTB] at EM zx9 ⊢
          clear hTB
          have TBw : w.heap.size ≤ TB := by omega
          have TBn : w.heap.size ≠ TB := by omega
          have TBn' : TB ≠ w.heap.size := by omega
          go_wp2_with fail
          go_loopg [60] m (fun g st wr => ∃ k : Nat, k + g = m ∧ st = .int .i64 (k : Int) ∧ ∃ x : Ext w, x.it = wr ∧ EvS x.it TB m (accP cs zs (ns.take k)) ∧ x.it.cell? ⟨w.heap.size, 0, none⟩ = some (.slice ca mz cc) ∧ x.it.cell? ⟨w.heap.size, 1, none⟩ = some (.int .i64 key))
          case atStart => exact ⟨0, by omega, rfl, ⟨Z, Zb⟩, rfl, EM.out, Z0, Z1⟩
          case round =>
            obtain ⟨k, hk, rfl, x, rfl, M, s0, s1⟩ := hrel
            clear EM Z0 Z1 Zb zx9
            obtain ⟨og, rfl⟩ : ∃ og, og = gk := ⟨_, rfl⟩
            have hx := x.below
            have zT := M.lt
            have zw : w.heap.size < x.it.heap.size := by omega
            by_cases hg0 : og = 0
            · subst hg0
              obtain rfl : k = m := by omega
              have TK : ns.take k = ns := List.take_of_length_le (by rw [HM.out]; exact Nat.le_refl _)
              rw [TK] at M
              have AL : (accP cs zs ns).length = k := by rw [accP_len]; exact HM.out
              have EV : posS cs zs ns = (accP cs zs ns)[k - 1]'(by omega) := by unfold posS; rw [List.getLast?_eq_getElem?, List.getElem?_eq_getElem (by omega)]; simp only [AL]
              have LV := M.lv (k - 1) (by omega)
              rw [← EV] at LV
              obtain ⟨R, hR⟩ : ∃ R, (posS cs zs ns).int = R := ⟨_, rfl⟩
              rw [hR] at LV
              have ck : ((k - 1 : Nat) : Int) = (k : Int) - 1 := by omega
              obtain ⟨k1, rfl⟩ : ∃ k1, k = k1 + 1 := ⟨k - 1, by omega⟩
              rw [Nat.add_sub_cancel] at LV
              have HRR := Lib.hid hR
              clear hk TK M EV AL ck hR m0 m0' m0''
              go_wp2
              refine bodyPost_ret (v := .tuple #[.int .i64 R, .int .i64 0]) (by simp [results, Try.results32, go_sem, *]) rfl ⟨by rw [HRR.out], by repeat (first | with_reducible exact Below.refl _ _ | with_reducible assumption | with_reducible refine Below.al ?_ _ | with_reducible refine Below.on ?_ _ | with_reducible refine Below.st ?_ (by first | assumption | (simp; done) | (simp; omega)) _ | with_reducible refine Below.drew ?_)⟩
            · have hkm : k < m := by omega
              have hkm' : (k : Int) < (m : Int) := by omega
              have hkl : k < ns.length := by rw [HM.out]; exact hkm
              obtain ⟨b, o, rfl, _, hb, lv, c0, c1, c2, c3, c4, c5, c6, c7, hlv⟩ := nods_in HN.out hkl
              have NK := nodE_ok (PA.out.2 k hkl)
              have NL := Lib.hid (nodE_leaf (PA.out.2 k hkl))
              have AS := Lib.hid (accP_succ cs zs hkl)
              have PS := Lib.hid (posS_succ cs zs hkl)
              have AL : (accP cs zs (ns.take k)).length = k := by rw [accP_len, List.length_take]; omega
              obtain ⟨d, hd⟩ : ∃ d, ns[k]'hkl = d := ⟨_, rfl⟩
              rw [hd] at NK NL AS PS c0 c1 c2 c3 c4 c6 c7 hlv
              obtain ⟨acc, hacc⟩ : ∃ acc, accP cs zs (ns.take k) = acc := ⟨_, rfl⟩
              rw [hacc] at M AS AL PS
              clear hacc
              obtain ⟨dop, dcol, ⟨dvn, dn, ds⟩, dls, da, db⟩ := d
              dsimp only at NK NL c0 c1 c2 c3 c4 c6 c7 hlv
              have f0' := (hx.cell (p := ⟨b, o + k * 8, none⟩) hb).trans c0
              have f1' := (hx.cell (p := ⟨b, o + k * 8 + 1, none⟩) hb).trans c1
              have f2' := (hx.cell (p := ⟨b, o + k * 8 + 2, none⟩) hb).trans c2
              have f3' := (hx.cell (p := ⟨b, o + k * 8 + 3, none⟩) hb).trans c3
              have f4' := (hx.cell (p := ⟨b, o + k * 8 + 4, none⟩) hb).trans c4
              have f5' := (hx.cell (p := ⟨b, o + k * 8 + 5, none⟩) hb).trans c5
              have f6' := (hx.cell (p := ⟨b, o + k * 8 + 6, none⟩) hb).trans c6
              have f7' := (hx.cell (p := ⟨b, o + k * 8 + 7, none⟩) hb).trans c7
              have zb : b < x.it.heap.size := Nat.lt_of_lt_of_le hb hx.size
              obtain ⟨la, lc, rfl⟩ := vals_end hlv
              obtain ⟨lm, hlm⟩ : ∃ lm, dls.length = lm := ⟨_, rfl⟩
              rw [hlm] at f5' c5 hlv
              have HLV := Lib.hid hlv
              have HK := Lib.hid (And.intro (And.intro hk hg0) AL)
              have M' := Lib.hid M
              clear c0 c1 c2 c3 c4 c5 c6 c7 hlv hd M hk AL hg0 hlm
              go_upto_region 18 with fail
              refine captureE ?_
              intro v ev
              have n0 : v.it.cell? ⟨x.it.heap.size, 0, none⟩ = some (.int .i64 dop) := by simp (maxDischargeDepth := 9) [go_sem, *]
              have n1 : v.it.cell? ⟨x.it.heap.size, 1, none⟩ = some (.int .i64 dcol) := by simp (maxDischargeDepth := 9) [go_sem, *]
              have n2 : v.it.cell? ⟨x.it.heap.size, 2, none⟩ = some (.bool dvn) := by simp (maxDischargeDepth := 9) [go_sem, *]
              have n3 : v.it.cell? ⟨x.it.heap.size, 3, none⟩ = some (.int .i64 dn) := by simp (maxDischargeDepth := 9) [go_sem, *]
              have n4 : v.it.cell? ⟨x.it.heap.size, 4, none⟩ = some (.string ds) := by simp (maxDischargeDepth := 9) [go_sem, *]
              have n5 : v.it.cell? ⟨x.it.heap.size, 5, none⟩ = some (.slice la lm lc) := by simp (maxDischargeDepth := 9) [go_sem, *]
              have n6' : v.it.cell? ⟨x.it.heap.size, 6, none⟩ = some (.int .i64 da) := by simp (maxDischargeDepth := 9) [go_sem, *]
              have n7' : v.it.cell? ⟨x.it.heap.size, 7, none⟩ = some (.int .i64 db) := by simp (maxDischargeDepth := 9) [go_sem, *]
              have vb : Below w.heap.size w v.it := by rw [ev]; exact Below.al hx _
              have vxb : Below x.it.heap.size x.it v.it := by rw [ev]; exact Below.al (Below.refl _ _) _
              have vn : x.it.heap.size < v.it.heap.size := by rw [ev]; simp
              have MN := Lib.hid (M'.out.to vxb)
              have vT : TB < v.it.heap.size := by omega
              have vw : w.heap.size < v.it.heap.size := by omega
              have v0 := (vxb.cell (p := ⟨w.heap.size, 0, none⟩) zw).trans s0
              have v1 := (vxb.cell (p := ⟨w.heap.size, 1, none⟩) zw).trans s1
              have hold := MN.out.zr k (by rw [HK.out.2]; exact Nat.le_refl _) hkm
              have hfro := MN.out.fr k hkm
              have nTX : TB ≠ x.it.heap.size := by omega
              have nXT : x.it.heap.size ≠ TB := by omega
              clear ev f0' f1' f2' f3' f4' f5' f6' f7' s0 s1
              by_cases o9 : dop = 9
              · subst o9
                obtain ⟨a0, a1⟩ := NK.2.2.1 (by omega)
                obtain ⟨b0, b1⟩ := NK.2.2.2 (by omega) (by omega)
                obtain ⟨Ai, rfl⟩ : ∃ Ai : Nat, da = Ai := ⟨da.toNat, by omega⟩
                obtain ⟨Bi, rfl⟩ : ∃ Bi : Nat, db = Bi := ⟨db.toNat, by omega⟩
                have Aik : Ai < acc.length := by have := HK.out.2; omega
                have Aim : (Ai : Int) < (m : Int) := by omega
                have hA := MN.out.lv Ai Aik
                obtain ⟨ta, hta⟩ : ∃ ta, acc[Ai]'Aik = ta := ⟨_, rfl⟩
                rw [hta] at hA
                have Bik : Bi < acc.length := by have := HK.out.2; omega
                have Bim : (Bi : Int) < (m : Int) := by omega
                have hB := MN.out.lv Bi Bik
                obtain ⟨tb, htb⟩ : ∃ tb, acc[Bi]'Bik = tb := ⟨_, rfl⟩
                rw [htb] at hB
                have NP : stepP cs zs acc ⟨9, dcol, ⟨dvn, dn, ds⟩, dls, Ai, Bi⟩ = combS 9 ta tb := by
                  unfold stepP; simp only [Int.toNat_natCast, List.getD_eq_getElem?_getD, List.getElem?_eq_getElem Aik, List.getElem?_eq_getElem Bik, Option.getD_some, hta, htb]; rfl
                obtain ⟨av, hav⟩ : ∃ v, ta.int = v := ⟨_, rfl⟩
                obtain ⟨bv, hbv⟩ : ∃ v, tb.int = v := ⟨_, rfl⟩
                obtain ⟨rv, hrv⟩ : ∃ v, (combS 9 ta tb).int = v := ⟨_, rfl⟩
                have CB := Lib.hid (fun W => (by have h := refcombine_any 9 (by omega) ta tb W; rw [hav, hbv, hrv] at h; exact h : Calls Try.prog 53 #[.int .i64 9, .int .i64 av, .int .i64 bv] W fun e w' => e = .returned (.int .i64 rv) ∧ Below W.heap.size W w'))
                rw [hav] at hA
                rw [hbv] at hB
                have HNP := Lib.hid NP
                have HRV := Lib.hid hrv
                clear NP hta htb NK n1 n2 n3 n4 n5 hav hbv hrv
                go_upto_region 27 with fail
                refine wp_region_ext_tail 16 (by kernel_rfl) (by kernel_rfl) ?_
                dsimp only [List.take, List.drop]
                repeat (go_big_quiet_step (((go_at_call 53; exact Calls.ext (CB.out _)))))
                refine wpQuiet_nil ?_
                rintro _ ⟨x2, rfl⟩
                have c2 := x2.lt vT
                have hs2 := (x2.cell TB k vT).trans hold
                have hf2 := (x2.frozen TB k vT).trans hfro
                go_wp2_with fail
                go_roundg (og - 1)
                case measure => have := HK.out.1; omega
                case rel => exact ⟨k + 1, by have := HK.out.1; omega, by go_num, ExtS.of_set (Below.on vb x2) TBw (by rw [AS.out, HNP.out, ← HRV.out]; exact (MN.out.to x2.below).step HK.out.2 hkm _) ((x2.cell _ 0 vw).trans v0) ((x2.cell _ 1 vw).trans v1) TBn⟩
              by_cases o10 : dop = 10
              · subst o10
                obtain ⟨a0, a1⟩ := NK.2.2.1 (by omega)
                obtain ⟨b0, b1⟩ := NK.2.2.2 (by omega) (by omega)
                obtain ⟨Ai, rfl⟩ : ∃ Ai : Nat, da = Ai := ⟨da.toNat, by omega⟩
                obtain ⟨Bi, rfl⟩ : ∃ Bi : Nat, db = Bi := ⟨db.toNat, by omega⟩
                have Aik : Ai < acc.length := by have := HK.out.2; omega
                have Aim : (Ai : Int) < (m : Int) := by omega
                have hA := MN.out.lv Ai Aik
                obtain ⟨ta, hta⟩ : ∃ ta, acc[Ai]'Aik = ta := ⟨_, rfl⟩
                rw [hta] at hA
                have Bik : Bi < acc.length := by have := HK.out.2; omega
                have Bim : (Bi : Int) < (m : Int) := by omega
                have hB := MN.out.lv Bi Bik
                obtain ⟨tb, htb⟩ : ∃ tb, acc[Bi]'Bik = tb := ⟨_, rfl⟩
                rw [htb] at hB
                have NP : stepP cs zs acc ⟨10, dcol, ⟨dvn, dn, ds⟩, dls, Ai, Bi⟩ = combS 10 ta tb := by
                  unfold stepP; simp only [Int.toNat_natCast, List.getD_eq_getElem?_getD, List.getElem?_eq_getElem Aik, List.getElem?_eq_getElem Bik, Option.getD_some, hta, htb]; rfl
                obtain ⟨av, hav⟩ : ∃ v, ta.int = v := ⟨_, rfl⟩
                obtain ⟨bv, hbv⟩ : ∃ v, tb.int = v := ⟨_, rfl⟩
                obtain ⟨rv, hrv⟩ : ∃ v, (combS 10 ta tb).int = v := ⟨_, rfl⟩
                have CB := Lib.hid (fun W => (by have h := refcombine_any 10 (by omega) ta tb W; rw [hav, hbv, hrv] at h; exact h : Calls Try.prog 53 #[.int .i64 10, .int .i64 av, .int .i64 bv] W fun e w' => e = .returned (.int .i64 rv) ∧ Below W.heap.size W w'))
                rw [hav] at hA
                rw [hbv] at hB
                have HNP := Lib.hid NP
                have HRV := Lib.hid hrv
                clear NP hta htb NK n1 n2 n3 n4 n5 hav hbv hrv
                go_upto_region 27 with fail
                refine wp_region_ext_tail 16 (by kernel_rfl) (by kernel_rfl) ?_
                dsimp only [List.take, List.drop]
                repeat (go_big_quiet_step (((go_at_call 53; exact Calls.ext (CB.out _)))))
                refine wpQuiet_nil ?_
                rintro _ ⟨x2, rfl⟩
                have c2 := x2.lt vT
                have hs2 := (x2.cell TB k vT).trans hold
                have hf2 := (x2.frozen TB k vT).trans hfro
                go_wp2_with fail
                go_roundg (og - 1)
                case measure => have := HK.out.1; omega
                case rel => exact ⟨k + 1, by have := HK.out.1; omega, by go_num, ExtS.of_set (Below.on vb x2) TBw (by rw [AS.out, HNP.out, ← HRV.out]; exact (MN.out.to x2.below).step HK.out.2 hkm _) ((x2.cell _ 0 vw).trans v0) ((x2.cell _ 1 vw).trans v1) TBn⟩
              by_cases o11 : dop = 11
              · subst o11
                obtain ⟨a0, a1⟩ := NK.2.2.1 (by omega)
                obtain ⟨Ai, rfl⟩ : ∃ Ai : Nat, da = Ai := ⟨da.toNat, by omega⟩
                have Aik : Ai < acc.length := by have := HK.out.2; omega
                have Aim : (Ai : Int) < (m : Int) := by omega
                have hA := MN.out.lv Ai Aik
                obtain ⟨ta, hta⟩ : ∃ ta, acc[Ai]'Aik = ta := ⟨_, rfl⟩
                rw [hta] at hA
                have NP : stepP cs zs acc ⟨11, dcol, ⟨dvn, dn, ds⟩, dls, Ai, db⟩ = notS ta := by
                  unfold stepP; simp only [Int.toNat_natCast, List.getD_eq_getElem?_getD, List.getElem?_eq_getElem Aik, Option.getD_some, hta]; rfl
                have HNP := Lib.hid NP
                have HTA := Lib.hid hta
                have EVI : Hid (EvS v.it TB m (acc ++ [TS.non])) := Lib.hid (MN.out.grow (by rw [HK.out.2]; exact hkm))
                obtain ⟨av, hav⟩ : ∃ v, ta.int = v := ⟨_, rfl⟩
                rw [hav] at hA
                have HAV := Lib.hid hav
                have AkN : Ai ≠ k := by have := HK.out.2; omega
                have kAN : k ≠ Ai := AkN.symm
                have HAI := Lib.hid (And.intro a0 a1)
                clear NP hta NK n1 n2 n3 n4 n5 hav n7' a0 a1
                go_wp2_with fail
                go_loopg [14] 3 (fun g st wr => ∃ q : Nat, q + g = 3 ∧ st = .int .i64 (q : Int) ∧ ∃ x3 : Ext w, x3.it = wr ∧ EvS x3.it TB m (acc ++ [accN ta q]) ∧ x3.it.cell? ⟨w.heap.size, 0, none⟩ = some (.slice ca mz cc) ∧ x3.it.cell? ⟨w.heap.size, 1, none⟩ = some (.int .i64 key) ∧ x3.it.cell? ⟨x.it.heap.size, 6, none⟩ = some (.int .i64 (Ai : Int)) ∧ x.it.heap.size < x3.it.heap.size)
                case atStart => exact ⟨0, by omega, rfl, ⟨v.it, vb⟩, rfl, EVI.out, v0, v1, n6', vn⟩
                case round =>
                  obtain ⟨q, hq, rfl, x3, rfl, E3, t0, t1, t6, t7⟩ := hrel
                  have h3 := x3.below
                  have c2 := E3.lt
                  have w3 : w.heap.size < x3.it.heap.size := by omega
                  by_cases hgq : gk = 0
                  · subst hgq
                    obtain rfl : q = 3 := by omega
                    have E3' := Lib.hid E3
                    clear hq E3
                    go_wp2
                    go_roundg (og - 1)
                    case measure => have := HK.out.1; omega
                    case rel => exact ⟨k + 1, by have := HK.out.1; omega, by go_num, x3, rfl, by rw [AS.out, HNP.out, ← accN_3]; exact E3'.out, t0, t1⟩
                  · have hq3 : q < 3 := by omega
                    have hq2 : (q : Int) ≤ 2 := by omega
                    have ax := ts_shr ta hq3
                    rw [HAV.out] at ax
                    have hAc := E3.lv Ai (by simp; omega)
                    rw [List.getElem_append_left Aik, HTA.out, HAV.out] at hAc
                    have hkc := E3.lv k (by simp; rw [HK.out.2]; omega)
                    have eKc : (acc ++ [accN ta q])[k]'(by simp; rw [HK.out.2]; omega) = accN ta q := by have := HK.out.2; subst this; simp
                    rw [eKc] at hkc
                    have hfr3 := E3.fr k hkm
                    have NS := accN_succ ta hq3
                    obtain ⟨S, hS⟩ : ∃ S, accN ta q = S := ⟨_, rfl⟩
                    rw [hS] at NS hkc E3
                    have X3 : T3 (q : Int) := n3 hq3
                    have C3 : T3 (notT (q : Int)) := notT_3 X3
                    have NT := Lib.hid (fun W => not3_any X3 W)
                    obtain ⟨ha, hha⟩ : ∃ b, ta.has (q : Int) = b := ⟨_, rfl⟩
                    rw [hha] at ax NS
                    obtain ⟨nq, hnq⟩ : ∃ n, notT (q : Int) = n := ⟨_, rfl⟩
                    rw [hnq] at NT C3 NS
                    have E3' := Lib.hid E3
                    have NS' := Lib.hid NS
                    obtain ⟨sv, hsv⟩ : ∃ v, S.int = v := ⟨_, rfl⟩
                    obtain ⟨sw, hsw⟩ : ∃ v, (addI S nq ha).int = v := ⟨_, rfl⟩
                    have AD := Lib.hid (fun W => addI_any S C3 ha hsv hsw W)
                    rw [hsv] at hkc
                    have HSW := Lib.hid hsw
                    have HQ := Lib.hid (And.intro hq hgq)
                    have B3 := Lib.hid (And.intro h3 (And.intro t0 (And.intro t1 t6)))
                    clear hq hgq NS E3 X3 C3 hS hha hnq eKc hsv hsw
                    cases ha
                    all_goals
                      simp only [if_true, if_false, reduceCtorEq, Bool.false_eq_true] at ax
                      go_upto_region 24 with fail
                      refine wp_region_ext_tail 20 (by kernel_rfl) (by kernel_rfl) ?_
                      dsimp only [List.take, List.drop]
                      repeat (go_big_quiet_step (((first | (go_at_call 52; exact Calls.ext (NT.out _)) | (go_at_call 51; exact Calls.ext (AD.out _))))))
                      refine wpQuiet_nil ?_
                      rintro _ ⟨x2, rfl⟩
                      have g2 := x2.lt c2
                      have hs2 := (x2.cell TB k c2).trans hkc
                      have hf2 := (x2.frozen TB k c2).trans hfr3
                      go_wp2_with fail
                      go_roundg (gk - 1)
                      case measure => have := HQ.out; omega
                      case rel =>
                        obtain ⟨x4, h4, h5, h6, h7⟩ := ExtS.of_set (u := .int .i64 sw) (k := k) (Below.on h3 x2) TBw (by rw [← HSW.out]; exact (E3'.out.to x2.below).put HK.out.2 _) ((x2.cell _ 0 w3).trans t0) ((x2.cell _ 1 w3).trans t1) TBn
                        exact ⟨q + 1, by have := HQ.out; omega, by go_num, x4, h4, by rw [NS'.out]; exact h5, h6, h7, by rw [h4, World.cell?_setCell_other _ _ _ _ (by intro e; injection e with e; exact nTX e)]; exact (x2.cell _ _ t7).trans t6, by rw [h4]; simp only [World.size_setCell]; exact x2.lt t7⟩
              have h19 : 1 ≤ dop ∧ dop ≤ 8 := by have := NK.1; have := NK.2.1; omega
              have CL := NL.out (by omega)
              obtain ⟨K, rfl⟩ : ∃ K : Nat, dcol = K := ⟨dcol.toNat, by omega⟩
              have Kl : K < cs.length := by omega
              have Kr : K < zs.length := by rw [HMZ.out, ← HL.out]; exact Kl
              have KnI : (K : Int) < (mz : Int) := by have := HL.out; omega
              obtain ⟨cb, co, rfl, _, hcb, c0, c1, c2, c3⟩ := cols_in HC.out Kl
              obtain ⟨zb, zo, rfl, _, hzb, d0, d1, d2, d3, d4, d5, d6, d7⟩ := zons_in HZ.out Kr
              obtain ⟨zd, hzd⟩ : ∃ d, zs[K]'Kr = d := ⟨_, rfl⟩
              rw [hzd] at d0 d1 d2 d3 d4 d5 d6 d7
              obtain ⟨zr, zn, ⟨an, a, sa⟩, ⟨bn, bi, sb⟩⟩ := zd
              dsimp only at d0 d1 d2 d3 d4 d5 d6 d7
              obtain ⟨ty, hty⟩ : ∃ ty, (cs[K]'Kl).ty = ty := ⟨_, rfl⟩
              rw [hty] at c1
              have r0 := (vb.cell (p := ⟨zb, zo + K * 8, none⟩) hzb).trans d0
              have r1 := (vb.cell (p := ⟨zb, zo + K * 8 + 1, none⟩) hzb).trans d1
              have r2 := (vb.cell (p := ⟨zb, zo + K * 8 + 2, none⟩) hzb).trans d2
              have r3 := (vb.cell (p := ⟨zb, zo + K * 8 + 3, none⟩) hzb).trans d3
              have r4 := (vb.cell (p := ⟨zb, zo + K * 8 + 4, none⟩) hzb).trans d4
              have r5 := (vb.cell (p := ⟨zb, zo + K * 8 + 5, none⟩) hzb).trans d5
              have r6 := (vb.cell (p := ⟨zb, zo + K * 8 + 6, none⟩) hzb).trans d6
              have r7 := (vb.cell (p := ⟨zb, zo + K * 8 + 7, none⟩) hzb).trans d7
              have r8 := (vb.cell (p := ⟨cb, co + K * 4 + 1, none⟩) hcb).trans c1
              have zzr : zb < v.it.heap.size := Nat.lt_of_lt_of_le hzb vb.size
              have zcr : cb < v.it.heap.size := Nat.lt_of_lt_of_le hcb vb.size
              have q9 : (dop == 9) = false := by simpa using o9
              have q10 : (dop == 10) = false := by simpa using o10
              have q11 : (dop == 11) = false := by simpa using o11
              have NP : stepP cs zs acc ⟨dop, K, ⟨dvn, dn, ds⟩, dls, da, db⟩ = leafS ty ⟨dop, K, ⟨dvn, dn, ds⟩, dls, da, db⟩ ⟨zr, zn, ⟨an, a, sa⟩, ⟨bn, bi, sb⟩⟩ := by
                unfold stepP colTy
                simp only [Int.toNat_natCast, List.getD_eq_getElem?_getD, List.getElem?_eq_getElem Kl, List.getElem?_eq_getElem Kr, Option.getD_some, hzd, hty]
                rw [if_neg o9, if_neg o10, if_neg o11]
              have HNP := Lib.hid NP
              have HLv := Lib.hid (HLV.out.mono vb vb.size)
              have H18 := Lib.hid h19
              obtain ⟨R, hR⟩ : ∃ R, (leafS ty ⟨dop, K, ⟨dvn, dn, ds⟩, dls, da, db⟩ ⟨zr, zn, ⟨an, a, sa⟩, ⟨bn, bi, sb⟩⟩).int = R := ⟨_, rfl⟩
              have LTR := Lib.hid (fun x : Ext v.it => (by have h := leafSet_any ty dop K dvn dn ds (.slice la lm lc) dls da db zr zn an a sa bn bi sb x.it (HLv.out.mono x.below x.below.size) H18.out.1 H18.out.2; rw [hR] at h; exact h : Calls Try.prog 54 #[.int .i64 ty, .agg #[.int .i64 dop, .int .i64 (K : Int), .bool dvn, .int .i64 dn, .string ds, .slice la lm lc, .int .i64 da, .int .i64 db], .agg #[.int .i64 zr, .int .i64 zn, .bool an, .int .i64 a, .string sa, .bool bn, .int .i64 bi, .string sb]] x.it fun e w' => e = .returned (.int .i64 R) ∧ Below x.it.heap.size x.it w'))
              have HRV := Lib.hid hR
              clear NP c0 c1 c2 c3 d0 d1 d2 d3 d4 d5 d6 d7 CL NK hR o9 o10 o11 h19 hzd hty
              go_upto_region 19 with fail
              refine wp_region_ext_tail 17 (by kernel_rfl) (by kernel_rfl) ?_
              dsimp only [List.take, List.drop]
              repeat (go_big_quiet_step (((go_at_call 54; exact Calls.ext (LTR.out _)))))
              refine wpQuiet_nil ?_
              rintro _ ⟨x2, rfl⟩
              have c2 := x2.lt vT
              have hs2 := (x2.cell TB k vT).trans hold
              have hf2 := (x2.frozen TB k vT).trans hfro
              go_wp2_with fail
              go_roundg (og - 1)
              case measure => have := HK.out.1; omega
              case rel => exact ⟨k + 1, by have := HK.out.1; omega, by go_num, ExtS.of_set (Below.on vb x2) TBw (by rw [AS.out, HNP.out, ← HRV.out]; exact (MN.out.to x2.below).step HK.out.2 hkm _) ((x2.cell _ 0 vw).trans v0) ((x2.cell _ 1 vw).trans v1) TBn⟩
        · have hkm : k < mz := by omega
          have hkm' : (k : Int) < (mz : Int) := by omega
          have hkz : k < zs.length := by rw [HMZ.out]; exact hkm
          have hkc : k < cs.length := by rw [HL.out]; exact hkm
          have h0z : 0 < zs.length := by omega
          have h0m : (0 : Int) < (mz : Int) := by omega
          obtain ⟨cb, co, rfl, _, hcb, c0, c1, c2, c3⟩ := cols_in HC.out hkc
          obtain ⟨zb, zo, rfl, _, hzb, d0, d1, d2, d3, d4, d5, d6, d7⟩ := zons_in HZ.out hkz
          obtain ⟨zb', zo', e1, _, _, f0, _⟩ := zons_in HZ.out h0z
          injection e1 with e1
          injection e1 with e1 e2
          subst e1 e2
          have OK := okAt_eq hkc hkz
          have HD : (zs.headD zon0).rows = (zs[0]'h0z).rows := by cases zs with | nil => simp at h0z | cons a l => rfl
          rw [HD] at OK
          obtain ⟨R0, hR0⟩ : ∃ r, (zs[0]'h0z).rows = r := ⟨_, rfl⟩
          rw [hR0] at OK f0
          obtain ⟨cd, hcd⟩ : ∃ d, cs[k]'hkc = d := ⟨_, rfl⟩
          obtain ⟨zd, hzd⟩ : ∃ d, zs[k]'hkz = d := ⟨_, rfl⟩
          rw [hcd] at OK c0 c1 c2 c3
          rw [hzd] at OK d0 d1 d2 d3 d4 d5 d6 d7
          obtain ⟨cn, ty, sc, nul⟩ := cd
          obtain ⟨zr, zn, ⟨an, a, sa⟩, ⟨bn, b, sb⟩⟩ := zd
          dsimp only at OK c0 c1 c2 c3 d0 d1 d2 d3 d4 d5 d6 d7
          have k0 := (hxw.cell (p := ⟨cb, co + k * 4, none⟩) hcb).trans c0
          have k1 := (hxw.cell (p := ⟨cb, co + k * 4 + 1, none⟩) hcb).trans c1
          have k2 := (hxw.cell (p := ⟨cb, co + k * 4 + 2, none⟩) hcb).trans c2
          have k3 := (hxw.cell (p := ⟨cb, co + k * 4 + 3, none⟩) hcb).trans c3
          have g0 := (hxw.cell (p := ⟨zb, zo + k * 8, none⟩) hzb).trans d0
          have g1 := (hxw.cell (p := ⟨zb, zo + k * 8 + 1, none⟩) hzb).trans d1
          have g2 := (hxw.cell (p := ⟨zb, zo + k * 8 + 2, none⟩) hzb).trans d2
          have g3 := (hxw.cell (p := ⟨zb, zo + k * 8 + 3, none⟩) hzb).trans d3
          have g4 := (hxw.cell (p := ⟨zb, zo + k * 8 + 4, none⟩) hzb).trans d4
          have g5 := (hxw.cell (p := ⟨zb, zo + k * 8 + 5, none⟩) hzb).trans d5
          have g6 := (hxw.cell (p := ⟨zb, zo + k * 8 + 6, none⟩) hzb).trans d6
          have g7 := (hxw.cell (p := ⟨zb, zo + k * 8 + 7, none⟩) hzb).trans d7
          rw [Nat.zero_mul, Nat.add_zero] at f0
          have g8 := (hxw.cell (p := ⟨zb, zo, none⟩) hzb).trans f0
          have zcb : cb < x.it.heap.size := Nat.lt_of_lt_of_le hcb hxw.size
          have zzb : zb < x.it.heap.size := Nat.lt_of_lt_of_le hzb hxw.size
          have HK := Lib.hid (And.intro hk (And.intro hg0 hok))
          obtain ⟨q, hq⟩ : ∃ q, zonF ty nul ⟨zr, zn, ⟨an, a, sa⟩, ⟨bn, b, sb⟩⟩ = q := ⟨_, rfl⟩
          rw [hq] at OK
          have ZC := Lib.hid (fun W => (by have h := refZcheck_any cn ty sc nul zr zn an a sa bn b sb W; rw [hq] at h; exact h : Calls Try.prog 50 #[.agg #[.string cn, .int .i64 ty, .int .i64 sc, .bool nul], .agg #[.int .i64 zr, .int .i64 zn, .bool an, .int .i64 a, .string sa, .bool bn, .int .i64 b, .string sb]] W fun e w' => e = .returned (.bool q) ∧ Below W.heap.size W w'))
          have HOK := Lib.hid OK
          have XB := Lib.hid x.below
          clear c0 c1 c2 c3 d0 d1 d2 d3 d4 d5 d6 d7 f0 hcd hzd hR0 HD hk hg0 hok OK hq Y0 Y1
          go_upto_region 9 with fail
          refine captureM ?_
          intro v ev
          have vb : Below x.it.heap.size x.it v := by rw [ev]; exact (by repeat (first | with_reducible exact Below.refl _ _ | with_reducible assumption | with_reducible refine Below.al ?_ _ | with_reducible refine Below.on ?_ _ | with_reducible refine Below.st ?_ (by first | assumption | (simp; done) | (simp; omega)) _ | with_reducible refine Below.drew ?_))
          have v0 : v.cell? ⟨x.it.heap.size, 0, none⟩ = some (.int .i64 zr) := by rw [ev]; simp (maxDischargeDepth := 9) [go_sem, *]
          have v1 : v.cell? ⟨x.it.heap.size, 1, none⟩ = some (.int .i64 zn) := by rw [ev]; simp (maxDischargeDepth := 9) [go_sem, *]
          have v2 : v.cell? ⟨x.it.heap.size, 2, none⟩ = some (.bool an) := by rw [ev]; simp (maxDischargeDepth := 9) [go_sem, *]
          have v3 : v.cell? ⟨x.it.heap.size, 3, none⟩ = some (.int .i64 a) := by rw [ev]; simp (maxDischargeDepth := 9) [go_sem, *]
          have v4 : v.cell? ⟨x.it.heap.size, 4, none⟩ = some (.string sa) := by rw [ev]; simp (maxDischargeDepth := 9) [go_sem, *]
          have v5 : v.cell? ⟨x.it.heap.size, 5, none⟩ = some (.bool bn) := by rw [ev]; simp (maxDischargeDepth := 9) [go_sem, *]
          have v6 : v.cell? ⟨x.it.heap.size, 6, none⟩ = some (.int .i64 b) := by rw [ev]; simp (maxDischargeDepth := 9) [go_sem, *]
          have v7 : v.cell? ⟨x.it.heap.size, 7, none⟩ = some (.string sb) := by rw [ev]; simp (maxDischargeDepth := 9) [go_sem, *]
          have u0 := (vb.cell (p := ⟨w.heap.size, 0, none⟩) zx).trans s0
          have u1 := (vb.cell (p := ⟨w.heap.size, 1, none⟩) zx).trans s1
          have l0 := (vb.cell (p := ⟨cb, co + k * 4, none⟩) zcb).trans k0
          have l1 := (vb.cell (p := ⟨cb, co + k * 4 + 1, none⟩) zcb).trans k1
          have l2 := (vb.cell (p := ⟨cb, co + k * 4 + 2, none⟩) zcb).trans k2
          have l3 := (vb.cell (p := ⟨cb, co + k * 4 + 3, none⟩) zcb).trans k3
          have l8 := (vb.cell (p := ⟨zb, zo, none⟩) zzb).trans g8
          have vz : x.it.heap.size < v.heap.size := by rw [ev]; simp
          have vw : w.heap.size < v.heap.size := by omega
          have vc : cb < v.heap.size := by omega
          have vzb : zb < v.heap.size := by omega
          have VB := Lib.hid (XB.out.trans (vb.mono XB.out.size))
          have VW := Lib.hid (hxw.trans (vb.mono hxw.size))
          clear ev k0 k1 k2 k3 g0 g1 g2 g3 g4 g5 g6 g7 g8 s0 s1 XB hxw
          generalize x.it.heap.size = XS at *
          cases q with
          | false =>
            obtain ⟨rfl, rfl⟩ : 0 = r1 ∧ 1 = r2 := by
              have h := HR.out
              unfold posF at h
              rw [if_pos hpe, zsE_bad hkz (by rw [HOK.out]; rfl), if_neg (by decide)] at h
              simpa using h
            refine wp_region_ext (by kernel_rfl) (by kernel_rfl) ?_
            repeat (go_big_quiet_step (((go_at_call 50; exact Calls.ext (ZC.out _)))))
            refine wpQuiet_nil ?_
            rintro _ ⟨x9, rfl⟩
            go_wp2
            refine bodyPost_ret (v := .tuple #[.int .i64 0, .int .i64 1]) (by simp [results, Try.results32, go_sem, *]) rfl ⟨rfl, Below.on VW.out x9⟩
          | true =>
            by_cases hr : zr = R0
            · subst hr
              refine wp_region_ext (by kernel_rfl) (by kernel_rfl) ?_
              repeat (go_big_quiet_step (((go_at_call 50; exact Calls.ext (ZC.out _)))))
              refine wpQuiet_nil ?_
              rintro _ ⟨x9, rfl⟩
              go_wp2
              go_roundg (og - 1)
              case measure => have := HK.out; omega
              case rel =>
                refine ⟨k + 1, by have := HK.out.1; have := HK.out.2.1; omega, by go_num, fun j hj => ?_, ⟨_, Below.on VB.out x9⟩, rfl⟩
                by_cases e : j = k
                · subst e; rw [HOK.out]; simp
                · exact HK.out.2.2 j (by omega)
            · have hr' : (zr != R0) = true := by simpa using hr
              obtain ⟨rfl, rfl⟩ : 0 = r1 ∧ 1 = r2 := by
                have h := HR.out
                unfold posF at h
                rw [if_pos hpe, zsE_bad hkz (by rw [HOK.out]; simp [hr]), if_neg (by decide)] at h
                simpa using h
              refine wp_region_ext (by kernel_rfl) (by kernel_rfl) ?_
              repeat (go_big_quiet_step (((go_at_call 50; exact Calls.ext (ZC.out _)))))
              refine wpQuiet_nil ?_
              rintro _ ⟨x9, rfl⟩
              go_wp2
              refine bodyPost_ret (v := .tuple #[.int .i64 0, .int .i64 1]) (by simp [results, Try.results32, go_sem, *]) rfl ⟨rfl, Below.on VW.out x9⟩
    · have hlen' : ((mz : Int) != (nc : Int)) = true := by simp; omega
      obtain ⟨rfl, rfl⟩ : 0 = r1 ∧ 1 = r2 := by
        have h := HR.out
        unfold posF at h
        rw [if_pos hpe, zsE_len (by rw [HMZ.out, HL.out]; exact hlen), if_neg (by decide)] at h
        simpa using h
      clear hpe HR
      go_wp2_with (go_at_call 38; refine Calls.mono PC.out ?_; rintro e w1 ⟨rfl, hb1⟩; obtain ⟨x1, rfl⟩ := Ext.of hb1; have z1 := x1.lt yz)
      refine bodyPost_ret (v := .tuple #[.int .i64 0, .int .i64 1]) (by simp [results, Try.results32, go_sem, *]) rfl ⟨rfl, Below.on yb x1⟩
  · have p0' : (pe != 0) = true := by simpa using p0
    obtain ⟨rfl, rfl⟩ : 0 = r1 ∧ pe = r2 := by
      have h := HR.out
      unfold posF at h
      rw [if_neg (by rw [hpe]; exact p0), hpe] at h
      simpa using h
    clear hpe HR
    go_wp2_with (go_at_call 38; refine Calls.mono PC.out ?_; rintro e w1 ⟨rfl, hb1⟩; obtain ⟨x1, rfl⟩ := Ext.of hb1; have z1 := x1.lt yz)
    refine bodyPost_ret (v := .tuple #[.int .i64 0, .int .i64 pe]) (by simp [results, Try.results32, go_sem, *]) rfl ⟨rfl, Below.on yb x1⟩
end Go.Proofs.Ytfemekmkmiljdaa
