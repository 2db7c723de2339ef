/-
  MERGELEAST: keep.Ranks and the walk. Conditions: the raw ranks and the choices lie in memory.
-/
import Derived.Test.YtgooffpmiilicaaMaw
import Derived.Test.YtgooffpmiilicaaMk2
set_option linter.unusedVariables false
set_option linter.unusedSimpArgs false
namespace Go.Proofs.Ytgooffpmiilicaa
open Go.RowKit Srt
theorem infoRk : (Try.prog.info? 50).map (fun i => (i.zero, i.size, i.bytes)) = some (some (.agg #[.bool false, .int .i64 0, .string ⟨#[]⟩, .int .i64 0]), 4, 40) := by kernel_rfl
set_option maxRecDepth 8000 in
theorem keepRank_any (sb : Nat) (r : List Int) (w : World) (h : SrcAt w sb r) :
    Calls Try.prog 40 #[.pointer (some ⟨sb, 0, none⟩)] w fun e w' => ∃ (u : Rk) (r' : List Int), e = .returned (.agg #[.bool u.key.null, .int .i64 u.key.n, .string u.key.s, .int .i64 u.seq]) ∧ Mv (fun k => k = sb) w w' ∧ SrcAt w' sb r' := by
  have hs := h.lt
  have N1 : Hid (Calls Try.prog 37 #[.pointer (some ⟨sb, 0, none⟩), .int .i64 12] (w.alloc (.cells #[.bool false, .int .i64 0, .string ⟨#[]⟩, .int .i64 0] 50)) fun e w' => e = .returned (.int .i64 (nextF 12 r).1) ∧ Moved sb (w.alloc (.cells #[.bool false, .int .i64 0, .string ⟨#[]⟩, .int .i64 0] 50)) w' ∧ SrcAt w' sb (nextF 12 r).2) := Lib.hid (next_any sb r 12 (by decide) (by decide) _ (h.al _))
  have ne : sb ≠ w.heap.size := by omega
  have ne' := ne.symm
  clear h
  go_enter Try.func40, Try.ntmps40
  go_wp2_with (first | (go_at_call 37; (with_reducible refine Calls.mono N1.out ?_); rintro e w3 ⟨rfl, hm3, hs3⟩; have S3 := Lib.hid hs3; clear hs3; obtain ⟨x3, rfl⟩ := ExtM.of hm3; have z3 : w.heap.size < x3.it.heap.size := x3.lt (by simp)) | (go_at_call 37; refine Calls.mono (next_any sb _ 3 (by decide) (by decide) _ S3.out) ?_; rintro e w4 ⟨rfl, hm4, hs4⟩; have S4 := Lib.hid hs4; clear hs4; obtain ⟨x4, rfl⟩ := ExtM.of hm4; have z4 : w.heap.size < x4.it.heap.size := x4.lt z3))
  refine bodyPost_ret (v := .agg #[.bool false, .int .i64 (nextF 12 r).1, .string ⟨#[]⟩, .int .i64 (nextF 3 (nextF 12 r).2).1]) ?_ rfl ⟨⟨⟨false, (nextF 12 r).1, ⟨#[]⟩⟩, (nextF 3 (nextF 12 r).2).1⟩, (nextF 3 (nextF 12 r).2).2, rfl, ?_, ?_⟩
  · simp (maxDischargeDepth := 12) [results, Try.results40, go_sem, *]
  · repeat (first | with_reducible exact Mv.refl _ _ | with_reducible refine Mv.st ?_ (.inr (Nat.le_refl _)) _ | with_reducible refine Mv.mv ?_ x4.moved rfl | with_reducible refine Mv.mv ?_ x3.moved rfl | with_reducible refine Mv.al ?_ _ | with_reducible refine Mv.drew ?_)
  · repeat (first | with_reducible exact S4.out | with_reducible refine SrcAt.stn ?_ hs _ | with_reducible refine SrcAt.drew ?_)
def RksPost (w : World) (e : Ending) (w' : World) : Prop := ∃ v L, e = .returned v ∧ RksAt w' w'.heap.size v L ∧ Below w.heap.size w w'
set_option maxRecDepth 8000 in
set_option maxHeartbeats 1000000 in
theorem keepRanks_any (lv : Value) (zs : List Int) (n : Int) (w : World) (h : IntsAt w w.heap.size lv zs) (h0 : 0 ≤ n) (h1 : n ≤ 10) :
    Calls Try.prog 18 #[lv, .int .i64 n] w (RksPost w) := by
  obtain ⟨i0, hi, hz0, hz1, hz2⟩ := info_parts infoRk
  go_enter Try.func18, Try.ntmps18
  go_upto_region 3 with (go_at_call 36; refine (from_any lv zs _ h).mono ?_; rintro e w1 ⟨rfl, hb1, hs1⟩; obtain ⟨x1, rfl⟩ := Ext.of hb1)
  have yw := x1.below
  have HS := Lib.hid hs1
  have ysb := hs1.lt
  clear hb1 hs1 h
  generalize x1.it = y at *
  clear x1
  go_wp2_with (go_at_call 37; refine Calls.mono (next_any _ zs (n + 1) (by omega) (by omega) _ HS.out) ?_; rintro e w3 ⟨rfl, hm3, hs3⟩; have MK : Hid (KpMem rkC 50 4 y w.heap.size w3 (.slice none 0 0) [] (nextF (n + 1) zs).2) := Lib.hid ⟨Mv.of_moved hm3 rfl, ysb, hs3, World.ownsRow_nil _ _ _ _⟩; clear hm3 hs3)
  have nb := nextF_bd zs (n := n + 1) (by omega)
  obtain ⟨N0, hN0⟩ : ∃ N0 : Nat, (nextF (n + 1) zs).1 = N0 := ⟨(nextF (n + 1) zs).1.toNat, by omega⟩
  have hN1 : N0 ≤ 10 := by omega
  generalize (nextF (n + 1) zs).2 = r0 at *
  rw [hN0]
  clear hN0 nb HS
  go_loopg [6, 7] N0 (fun g v i wr => ∃ (L : List Rk) (r' : List Int), L.length + g = N0 ∧ i = .int .i64 (g : Int) ∧ KpMem rkC 50 4 y w.heap.size wr v L r')
  case atStart => exact ⟨[], r0, by simp, rfl, MK.out⟩
  case round =>
    obtain ⟨L, r', hk, rfl, M⟩ := hrel
    clear MK
    have MO := Lib.hid M
    obtain ⟨va, vc, rfl⟩ := own_form M.own
    have KR := Lib.hid (keepRank_any w.heap.size r' wr M.src)
    clear M
    by_cases hg0 : gk = 0
    · subst hg0
      have HK := Lib.hid hk
      clear hk
      go_wp2_with fail
      refine bodyPost_ret (v := .slice va L.length vc) ?_ rfl ⟨_, L, rfl, own_rks (by have := HK.out; omega) MO.out.own, Mv.below MO.out.mv yw (fun k hk => by omega)⟩
      simp (maxDischargeDepth := 9) [results, Try.results18, go_sem, *]
    · have hlt : (0 : Int) < (gk : Int) := by omega
      have hlt1 : (1 : Int) ≤ (gk : Int) := by omega
      have hlt2 : (gk : Int) ≤ 100 := by omega
      have HK := Lib.hid (And.intro hk hg0)
      have LL : L.length ≤ 10 := by omega
      have LG := Lib.hid LL
      have hyz := MO.out.mv.size
      clear hk hg0 LL
      go_wp2_with (first
        | (go_at_call 40; refine Calls.mono KR.out ?_; rintro e w5 ⟨u5, r5, rfl, hm5, hs5⟩; have M5 := Lib.hid (MO.out.to hm5 hs5); have s5 := hm5.size; clear hm5 hs5)
        | (at_builtin; go_must (refine wpList_append_lies _ rfl _ _ 46 rfl y.heap.size 50 i0 _ 4 40 Try.underlying46 hi hz0 hz1 hz2 rfl (by decide) (.slice va L.length vc) L.length (L.flatMap rkC) rfl (M5.out.own.alloc _) ⟨w5.heap.size, 0, none⟩ 1 1 (rkC u5) rfl rfl (World.news_of_block (heap_alloc_new w5 _)) (by simp [rkC, Value.oneCell']) (by omega) (by have := LG.out; unfold maxLen; omega) (by have := LG.out; omega) (by simp; omega) (w5.heap.size + 1) (by simp) ?_); intro gb cap w6 hown hgrow hat hlt6; go_must (have MS := Lib.hid ((M5.out.al _).step (c := u5) hgrow hown)); clear hown hgrow hat hlt6))
      go_roundg (gk - 1)
      case measure => have := HK.out; omega
      case rel => exact ⟨L ++ [u5], _, by have := HK.out; rw [List.length_append, List.length_singleton]; omega, by go_num, MS.out⟩
set_option maxRecDepth 8000 in
set_option maxHeartbeats 1000000 in
theorem mlx_walk (t : Int) (rv : Value) (rks : List Rk) (lv : Value) (zs : List Int) (w : World) (hr : RksAt w w.heap.size rv rks) (h : IntsAt w w.heap.size lv zs) :
    Calls Try.prog 6 #[.int .i64 t, rv, lv] w fun e w' => e = .returned (.bool true) ∧ Below w.heap.size w w' := by
  have KR := Lib.hid (keepRanks_any lv zs 8 w h (by decide) (by decide))
  have L1 := Lib.hid (fun (W : World) (hb : Below w.heap.size w W) => least_any t rv rks W (hr.mono hb hb.size))
  have L2 := Lib.hid (fun (W : World) (hb : Below w.heap.size w W) => refLeast_any t rv rks W (hr.mono hb hb.size))
  obtain ⟨F, hF⟩ : ∃ F, leastF t rks = F := ⟨_, rfl⟩
  rw [hF] at L1 L2
  clear hF hr h
  go_enter Try.func6, Try.ntmps6
  go_upto_region 2 with (go_at_call 18; refine Calls.mono KR.out ?_; rintro e y ⟨v1, L, rfl, hr1, hb1⟩; obtain ⟨a1, c1, rfl⟩ := rks_end hr1; have R1 := Lib.hid hr1; have B1 := Lib.hid hb1; clear hr1 hb1)
  obtain ⟨N, hN⟩ : ∃ N, L.length = N := ⟨_, rfl⟩
  have HN := Lib.hid hN
  have LE := Lib.hid (least_any 1 _ L y R1.out)
  obtain ⟨O, hO⟩ : ∃ O, leastO 1 L N = O := ⟨_, rfl⟩
  have eF : leastF 1 L = bestV O := by unfold leastF; rw [hN, hO]
  have SP := leastO_spec 1 L N
  rw [hO] at SP
  have HSP := Lib.hid SP
  have n63 := R1.out.1
  rw [eF] at LE
  rw [hN] at LE R1 n63 ⊢
  clear hN hO eF SP
  go_upto_region 3 with (go_at_call 19; refine Calls.mono LE.out ?_; rintro e w2 ⟨rfl, hb2⟩; obtain ⟨x2, rfl⟩ := Ext.of hb2)
  have YB := Lib.hid (Below.to B1.out x2.below)
  have RX := Lib.hid (R1.out.mono x2.below x2.below.size)
  clear hb2
  generalize x2.it = z at *
  clear x2
  go_wp2_with fail
  go_loopg [18] N (fun g st wr => ∃ k : Nat, k + g = N ∧ st = .int .i64 (k : Int) ∧ ∃ x : Ext z, x.it = wr)
  case atStart => exact ⟨0, by omega, rfl, ext_of (Below.refl _ _)⟩
  case round =>
    obtain ⟨k, hk, rfl, x, rfl⟩ := hrel
    have yb := Below.to YB.out x.below
    have LA := Lib.hid (fun (x5 : Ext x.it) => L1.out x5.it (Below.to yb x5.below))
    have LB := Lib.hid (fun (x5 : Ext x.it) (x6 : Ext x5.it) => L2.out x6.it (Below.to (Below.to yb x5.below) x6.below))
    have YX := Lib.hid yb
    by_cases hg0 : gk = 0
    · subst hg0
      obtain rfl : N = k := by omega
      clear hk
      by_cases n0 : N = 0
      · have eO : bestV O = -1 := by
          have := HSP.out
          cases O with
          | none => rfl
          | some b => have := this.1; omega
        rw [eO]
        subst n0
        go_wp2_with (first | (go_at_call 17; refine Calls.mono (awake29 _) ?_; rintro e w5 ⟨rfl, hb5⟩; obtain ⟨x5, rfl⟩ := Ext.of hb5) | (go_at_call 19; refine Calls.mono (LA.out x5) ?_; rintro e w6 ⟨rfl, hb6⟩; obtain ⟨x6, rfl⟩ := Ext.of hb6) | (go_at_call 21; refine Calls.mono (LB.out x5 x6) ?_; rintro e w7 ⟨rfl, hb7⟩; obtain ⟨x7, rfl⟩ := Ext.of hb7))
        exact bodyPost_ret (v := .bool true) (by simp [results, Try.results6, go_sem, *]) rfl (⟨rfl, by repeat (first | with_reducible exact Below.refl _ _ | with_reducible assumption | with_reducible refine Below.al ?_ _ | with_reducible refine Below.on ?_ _ | with_reducible refine Below.st ?_ (by first | assumption | (simp; done) | (simp; omega)) _ | with_reducible refine Below.drew ?_)⟩)
      · have t1 : (0 : Int) < (N : Int) := by omega
        have t2 : 0 < N := by omega
        go_wp2_with (first | (go_at_call 17; refine Calls.mono (awake29 _) ?_; rintro e w5 ⟨rfl, hb5⟩; obtain ⟨x5, rfl⟩ := Ext.of hb5) | (go_at_call 19; refine Calls.mono (LA.out x5) ?_; rintro e w6 ⟨rfl, hb6⟩; obtain ⟨x6, rfl⟩ := Ext.of hb6) | (go_at_call 21; refine Calls.mono (LB.out x5 x6) ?_; rintro e w7 ⟨rfl, hb7⟩; obtain ⟨x7, rfl⟩ := Ext.of hb7))
        exact bodyPost_ret (v := .bool true) (by simp [results, Try.results6, go_sem, *]) rfl (⟨rfl, by repeat (first | with_reducible exact Below.refl _ _ | with_reducible assumption | with_reducible refine Below.al ?_ _ | with_reducible refine Below.on ?_ _ | with_reducible refine Below.st ?_ (by first | assumption | (simp; done) | (simp; omega)) _ | with_reducible refine Below.drew ?_)⟩)
    · have hkn : k < N := by omega
      have hkn' : (k : Int) < (N : Int) := by omega
      obtain ⟨b, rfl⟩ : ∃ b, O = some b := by
        have := HSP.out
        cases O with
        | none => exact absurd this (by omega)
        | some b => exact ⟨b, rfl⟩
      have sp := HSP.out
      obtain ⟨s1, s2, s3⟩ := sp
      have hkl : k < L.length := by rw [HN.out]; exact hkn
      have hbl : b < L.length := by rw [HN.out]; exact s1
      obtain ⟨rb, ro, rfl, hrb, hc⟩ := rks_in RX.out (by omega)
      obtain ⟨p0, p1, p2, p3⟩ := hc k hkl
      obtain ⟨q0, q1, q2, q3⟩ := hc b hbl
      have ek : L.getD k rk0 = L[k]'hkl := by simp [List.getD, List.getElem?_eq_getElem hkl]
      have eb : L.getD b rk0 = L[b]'hbl := by simp [List.getD, List.getElem?_eq_getElem hbl]
      have d2 := s2 k hkn
      have d3 := s3 k
      rw [ek, eb] at d2 d3
      obtain ⟨X, hX⟩ : ∃ X, L[k]'hkl = X := ⟨_, rfl⟩
      obtain ⟨Y, hY⟩ : ∃ Y, L[b]'hbl = Y := ⟨_, rfl⟩
      rw [hX] at p0 p1 p2 p3 d2 d3
      rw [hY] at q0 q1 q2 q3 d2 d3
      obtain ⟨⟨xn, xi, xs⟩, xq⟩ := X
      obtain ⟨⟨yn, yi, ys⟩, yq⟩ := Y
      dsimp only at p0 p1 p2 p3 q0 q1 q2 q3
      obtain ⟨D, hD⟩ : ∃ D, cmpR 1 ⟨⟨xn, xi, xs⟩, xq⟩ ⟨⟨yn, yi, ys⟩, yq⟩ = D := ⟨_, rfl⟩
      rw [hD] at d2 d3
      have CM := Lib.hid (fun W => (by have z := refCompareR_any 1 xn xi xs xq yn yi ys yq W; rw [hD] at z; exact z : Calls Try.prog 20 #[.int .i64 1, .agg #[.bool xn, .int .i64 xi, .string xs, .int .i64 xq], .agg #[.bool yn, .int .i64 yi, .string ys, .int .i64 yq]] W fun e w' => e = .returned (.int .i64 D) ∧ Below W.heap.size W w'))
      have hx := x.below
      have f0 := (hx.cell (p := ⟨rb, ro + k * 4, none⟩) hrb).trans p0
      have f1 := (hx.cell (p := ⟨rb, ro + k * 4 + 1, none⟩) hrb).trans p1
      have f2 := (hx.cell (p := ⟨rb, ro + k * 4 + 2, none⟩) hrb).trans p2
      have f3 := (hx.cell (p := ⟨rb, ro + k * 4 + 3, none⟩) hrb).trans p3
      have g0 := (hx.cell (p := ⟨rb, ro + b * 4, none⟩) hrb).trans q0
      have g1 := (hx.cell (p := ⟨rb, ro + b * 4 + 1, none⟩) hrb).trans q1
      have g2 := (hx.cell (p := ⟨rb, ro + b * 4 + 2, none⟩) hrb).trans q2
      have g3 := (hx.cell (p := ⟨rb, ro + b * 4 + 3, none⟩) hrb).trans q3
      have fz : rb < x.it.heap.size := Nat.lt_of_lt_of_le hrb hx.size
      have GZ := Lib.hid (And.intro hk hg0)
      have b0 : ¬ (b : Int) < 0 := by omega
      have bn : (b : Int) < (N : Int) := by omega
      have bn' : ¬ (N : Int) ≤ (b : Int) := by omega
      have bn2 : ¬ N ≤ b := by omega
      have DD := Lib.hid (And.intro d2 d3)
      clear hc p0 p1 p2 p3 q0 q1 q2 q3 hX hY hk hg0 ek eb hD s2 s3 d2 d3 yb
      clear hkl hbl
      dsimp only [bestV]
      go_upto_region 8 with fail
      refine captureM ?_
      intro y2 ey
      have yx : Below x.it.heap.size x.it y2 := by rw [ey]; exact (by repeat (first | with_reducible exact Below.refl _ _ | with_reducible assumption | with_reducible refine Below.al ?_ _ | with_reducible refine Below.on ?_ _ | with_reducible refine Below.st ?_ (by first | assumption | (simp; done) | (simp; omega)) _ | with_reducible refine Below.drew ?_))
      have y0 : y2.cell? ⟨x.it.heap.size, 0, none⟩ = some (.bool xn) := by rw [ey]; simp (maxDischargeDepth := 9) [go_sem, *]
      have y1 : y2.cell? ⟨x.it.heap.size, 1, none⟩ = some (.int .i64 xi) := by rw [ey]; simp (maxDischargeDepth := 9) [go_sem, *]
      have y2' : y2.cell? ⟨x.it.heap.size, 2, none⟩ = some (.string xs) := by rw [ey]; simp (maxDischargeDepth := 9) [go_sem, *]
      have y3 : y2.cell? ⟨x.it.heap.size, 3, none⟩ = some (.int .i64 xq) := by rw [ey]; simp (maxDischargeDepth := 9) [go_sem, *]
      have yz : x.it.heap.size < y2.heap.size := by rw [ey]; simp
      have h0 := (yx.cell (p := ⟨rb, ro + b * 4, none⟩) fz).trans g0
      have h1 := (yx.cell (p := ⟨rb, ro + b * 4 + 1, none⟩) fz).trans g1
      have h2 := (yx.cell (p := ⟨rb, ro + b * 4 + 2, none⟩) fz).trans g2
      have h3 := (yx.cell (p := ⟨rb, ro + b * 4 + 3, none⟩) fz).trans g3
      have hz : rb < y2.heap.size := Nat.lt_of_lt_of_le fz yx.size
      have YB2 := Lib.hid (Below.to x.below yx)
      clear ey g0 g1 g2 g3 f0 f1 f2 f3 yx
      refine wp_region_ext (by kernel_rfl) (by kernel_rfl) ?_
      repeat (go_big_quiet_step (((go_at_call 20; exact Calls.ext (CM.out _)))))
      refine wpQuiet_nil ?_
      rintro _ ⟨x3, rfl⟩
      have yb2 := YB2.out
      have dn := DD.out.1
      by_cases e : D = 0
      · have kb : ¬ k < b := fun q => by have := DD.out.2 q; omega
        have kb' : ¬ (k : Int) < (b : Int) := by omega
        go_wp2_with fail
        go_roundg (gk - 1)
        case measure => have := GZ.out; omega
        case rel => exact ⟨k + 1, by have := GZ.out; omega, by go_num, ⟨_, by exact (by repeat (first | with_reducible exact Below.refl _ _ | with_reducible assumption | with_reducible refine Below.al ?_ _ | with_reducible refine Below.on ?_ _ | with_reducible refine Below.st ?_ (by first | assumption | (simp; done) | (simp; omega)) _ | with_reducible refine Below.drew ?_))⟩, rfl⟩
      · go_wp2_with fail
        go_roundg (gk - 1)
        case measure => have := GZ.out; omega
        case rel => exact ⟨k + 1, by have := GZ.out; omega, by go_num, ⟨_, by exact (by repeat (first | with_reducible exact Below.refl _ _ | with_reducible assumption | with_reducible refine Below.al ?_ _ | with_reducible refine Below.on ?_ _ | with_reducible refine Below.st ?_ (by first | assumption | (simp; done) | (simp; omega)) _ | with_reducible refine Below.drew ?_))⟩, rfl⟩
end Go.Proofs.Ytgooffpmiilicaa
