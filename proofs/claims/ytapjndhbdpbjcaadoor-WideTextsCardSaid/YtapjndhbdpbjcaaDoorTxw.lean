/-
  WIDETEXTS: the walk. Conditions: none beyond the arguments' own.
-/
import Derived.Test.YtapjndhbdpbjcaaDoorLft
set_option linter.unusedVariables false
set_option linter.unusedSimpArgs false
namespace Go.Proofs.YtapjndhbdpbjcaaDoor
open Go.RowKit Go.ChangeShapes Go.WideShapes Go.ChangeAt Go.Shelf
set_option maxRecDepth 8000 in
set_option maxHeartbeats 2000000 in
theorem texts_walk (h l : Int) (a : isI h) (b : isU l) (s : ByteArray) (hs : s.size ≤ 9223372036854775807) (v : Value) (zs : List Int) (neg : Bool) (w : World) (hi : U8At w w.heap.size v zs) :
    Calls Tryd.prog 3 #[.agg #[.int .i64 h, .int .u64 l], .string s, v, .bool neg] w fun e w' => e = .returned (.bool true) ∧ Below w.heap.size w w' := by
  have HI := Lib.hid hi
  obtain ⟨ad, c, rfl⟩ := u8_end hi
  clear hi
  have AB := Lib.hid (And.intro a b)
  have HS := Lib.hid hs
  have PS := fun w => par_any s hs w
  have RS := fun w => refpar_any s hs w
  generalize parseB s = p at PS RS
  obtain ⟨p1, p2, p3⟩ := p
  have PS' := Lib.hid PS
  have RS' := Lib.hid RS
  generalize hn : zs.length = n at *
  have HN := Lib.hid hn
  clear hn a b hs PS RS
  go_enter Tryd.func3, Tryd.ntmps3
  go_upto_if 19 with fail
  go_cut [9] from 19 to 91 (fun s9 wx => ∃ T : ByteArray, s9 = .string T ∧ T.size ≤ 1 ∧ (w.alloc (.cells #[.int .i64 h, .int .u64 l] 24)) = wx)
  case first =>
    cases neg
    · go_wp2_with fail
      go_meet
      exact ⟨_, rfl, by decide, rfl⟩
    · go_wp2_with fail
      go_meet
      exact ⟨_, rfl, by decide, rfl⟩
  case rest =>
    obtain ⟨T0, rfl, hT0, rfl⟩ := hcut
    have HT0 := Lib.hid hT0
    clear hT0
    go_wp2_with fail
    go_loopg [9, 10] 42 (fun g s9 s10 wr => ∃ i : Nat, i + g = 42 ∧ s10 = .int .i64 (i : Int) ∧ ∃ T : ByteArray, s9 = .string T ∧ T.size ≤ 1 + i ∧ ∃ x : Ext (w.alloc (.cells #[.int .i64 h, .int .u64 l] 24)), x.it = wr)
    case atStart => exact ⟨0, by omega, rfl, T0, rfl, HT0.out, ⟨_, Below.refl _ _⟩, rfl⟩
    case round =>
      obtain ⟨i, hik, rfl, T, rfl, hT, x, rfl⟩ := hrel
      have z0 : w.heap.size < x.it.heap.size := x.lt (by simp)
      by_cases g0 : i < n ∧ i < 42
      · obtain ⟨g1, g2⟩ := g0
        have g1' : (i : Int) < (n : Int) := by omega
        have g2' : (i : Int) < 42 := by omega
        obtain ⟨bb, o, c', z, hv, hb, hz, hc⟩ := u8_in HI.out (i := i) (by rw [HN.out]; exact g1)
        have ha : ad = some ⟨bb, o, none⟩ := by injection hv
        subst ha
        obtain ⟨d, rfl⟩ : ∃ d : Nat, z = d := ⟨z.toNat, by have := hz.1; omega⟩
        have d256 : d < 256 := by have := hz.2; omega
        have M : (d : Int).tmod 10 = ((d % 10 : Nat) : Int) := by rw [Int.tmod_eq_emod_of_nonneg (by omega)]; omega
        obtain ⟨r, hr⟩ : ∃ r, d % 10 = r := ⟨_, rfl⟩
        rw [hr] at M
        have r10 : r < 10 := by omega
        have RW : IntKind.u8.wrap ((r : Int) + 1) = (r : Int) + 1 := by simp [IntKind.wrap, IntKind.bits, IntKind.signed]; omega
        have RW0 : IntKind.u8.wrap (r : Int) = (r : Int) := by simp [IntKind.wrap, IntKind.bits, IntKind.signed]; omega
        have RI : (r : Int) ≤ (r : Int) + 1 := by omega
        have RJ : (r : Int) + 1 ≤ 10 := by omega
        have fc : x.it.cell? ⟨bb, o + i, none⟩ = some (.int .u8 (d : Int)) := (x.cell bb (o + i) (by simp; omega)).trans ((World.cell?_alloc_past _ _ _ hb).trans hc)
        have zb : bb < x.it.heap.size := x.lt (by simp; omega)
        have ds := dig_size r10
        have hadd := fun w => run_string_add_sum (P := Tryd.prog) w T ((⟨#[48, 49, 50, 51, 52, 53, 54, 55, 56, 57]⟩ : ByteArray).extract r (r + 1)) (by rw [ds]; omega)
        have HH := Lib.hid (And.intro hik (And.intro hT ds))
        clear hik hT hv hb hz hc d256 hr ds g1 g2
        go_upto_region 7 with fail
        refine wp_region_ext (by kernel_rfl) (by kernel_rfl) ?_
        repeat (go_big_quiet_step ((fail)))
        refine wpQuiet_nil ?_
        rintro _ ⟨x7, rfl⟩
        go_wp2_with fail
        go_roundg (gk - 1)
        case measure => have := HH.out; omega
        case rel => exact ⟨i + 1, by have := HH.out; omega, by go_num, _, rfl, by rw [ByteArray.size_append, HH.out.2.2]; have := HH.out.2.1; omega, x.up x7, rfl⟩
      · have g0' : ¬ ((i : Int) < (n : Int) ∧ (i : Int) < 42) := by omega
        have T44 : T.size ≤ 9223372036854775807 := by omega
        have PT := fun w => par_any T T44 w
        have RT := fun w => refpar_any T T44 w
        generalize parseB T = q at PT RT
        obtain ⟨q1, q2, q3⟩ := q
        have PT' := Lib.hid PT
        have RT' := Lib.hid RT
        clear hik hT PT RT T44 g0
        go_upto_region 5 with fail
        go_cut [27] from 20 to 43 (fun s wx => s = .bool false ∧ x.it = wx)
        case first =>
          by_cases e1 : i < n
          · have e1' : (i : Int) < (n : Int) := by omega
            have e2' : ¬ (i : Int) < 42 := by omega
            clear g0' e1
            go_wp2_with fail
            go_meet
            exact ⟨by first | rfl | simp [*], rfl⟩
          · have e1' : ¬ (i : Int) < (n : Int) := by omega
            clear g0' e1
            go_wp2_with fail
            go_meet
            exact ⟨by first | rfl | simp [*], rfl⟩
        case rest =>
          obtain ⟨rfl, rfl⟩ := hcut
          clear g0'
          go_upto_region 9 with (go_at_call 6; refine (PS'.out _).mono ?_; rintro e w1 ⟨rfl, hb1⟩; obtain ⟨x1, rfl⟩ := Ext.of hb1; have za : w.heap.size < x1.it.heap.size := x1.lt z0)
          go_upto_region 10 with (go_at_call 7; refine (RS'.out _).mono ?_; rintro e w2 ⟨rfl, hb2⟩; obtain ⟨x2, rfl⟩ := Ext.of hb2; have zb : w.heap.size < x2.it.heap.size := x2.lt (by (first | with_reducible assumption | (simp only [World.size_setCell, World.size_alloc, World.size_drew]; first | with_reducible assumption | omega))); have zc : x1.it.heap.size < x2.it.heap.size := x2.lt (by simp))
          go_upto_region 11 with (go_at_call 6; refine (PT'.out _).mono ?_; rintro e w3 ⟨rfl, hb3⟩; obtain ⟨x3, rfl⟩ := Ext.of hb3; have zd : w.heap.size < x3.it.heap.size := x3.lt (by (first | with_reducible assumption | (simp only [World.size_setCell, World.size_alloc, World.size_drew]; first | with_reducible assumption | omega))); have ze : x1.it.heap.size < x3.it.heap.size := x3.lt (by (first | with_reducible assumption | (simp only [World.size_setCell, World.size_alloc, World.size_drew]; first | with_reducible assumption | omega))); have zf : x2.it.heap.size < x3.it.heap.size := x3.lt (by simp))
          go_upto_region 12 with (go_at_call 7; refine (RT'.out _).mono ?_; rintro e w4 ⟨rfl, hb4⟩; obtain ⟨x4, rfl⟩ := Ext.of hb4; have zg : w.heap.size < x4.it.heap.size := x4.lt (by (first | with_reducible assumption | (simp only [World.size_setCell, World.size_alloc, World.size_drew]; first | with_reducible assumption | omega))); have zh : x1.it.heap.size < x4.it.heap.size := x4.lt (by (first | with_reducible assumption | (simp only [World.size_setCell, World.size_alloc, World.size_drew]; first | with_reducible assumption | omega))); have zi : x2.it.heap.size < x4.it.heap.size := x4.lt (by (first | with_reducible assumption | (simp only [World.size_setCell, World.size_alloc, World.size_drew]; first | with_reducible assumption | omega))); have zj : x3.it.heap.size < x4.it.heap.size := x4.lt (by simp))
          refine captureE ?_
          intro y ey
          have c0 : y.it.cell? ⟨w.heap.size, 0, none⟩ = some (.int .i64 h) := by simp (maxDischargeDepth := 9) [go_sem, *]
          have c1 : y.it.cell? ⟨w.heap.size, 1, none⟩ = some (.int .u64 l) := by simp (maxDischargeDepth := 9) [go_sem, *]
          have c2 : y.it.cell? ⟨x1.it.heap.size, 0, none⟩ = some (.int .i64 p1) := by simp (maxDischargeDepth := 9) [go_sem, *]
          have c3 : y.it.cell? ⟨x1.it.heap.size, 1, none⟩ = some (.int .u64 p2) := by simp (maxDischargeDepth := 9) [go_sem, *]
          have c4 : y.it.cell? ⟨x2.it.heap.size, 0, none⟩ = some (.int .i64 p1) := by simp (maxDischargeDepth := 9) [go_sem, *]
          have c5 : y.it.cell? ⟨x2.it.heap.size, 1, none⟩ = some (.int .u64 p2) := by simp (maxDischargeDepth := 9) [go_sem, *]
          have c6 : y.it.cell? ⟨x3.it.heap.size, 0, none⟩ = some (.int .i64 q1) := by simp (maxDischargeDepth := 9) [go_sem, *]
          have c7 : y.it.cell? ⟨x3.it.heap.size, 1, none⟩ = some (.int .u64 q2) := by simp (maxDischargeDepth := 9) [go_sem, *]
          have c8 : y.it.cell? ⟨x4.it.heap.size, 0, none⟩ = some (.int .i64 q1) := by simp (maxDischargeDepth := 9) [go_sem, *]
          have c9 : y.it.cell? ⟨x4.it.heap.size, 1, none⟩ = some (.int .u64 q2) := by simp (maxDischargeDepth := 9) [go_sem, *]
          have y0 : w.heap.size < y.it.heap.size := by rw [ey]; (first | with_reducible assumption | (simp only [World.size_setCell, World.size_alloc, World.size_drew]; first | with_reducible assumption | omega))
          have y1 : x1.it.heap.size < y.it.heap.size := by rw [ey]; (first | with_reducible assumption | (simp only [World.size_setCell, World.size_alloc, World.size_drew]; first | with_reducible assumption | omega))
          have y2 : x2.it.heap.size < y.it.heap.size := by rw [ey]; (first | with_reducible assumption | (simp only [World.size_setCell, World.size_alloc, World.size_drew]; first | with_reducible assumption | omega))
          have y3 : x3.it.heap.size < y.it.heap.size := by rw [ey]; (first | with_reducible assumption | (simp only [World.size_setCell, World.size_alloc, World.size_drew]; first | with_reducible assumption | omega))
          have y4 : x4.it.heap.size < y.it.heap.size := by rw [ey]; (first | with_reducible assumption | (simp only [World.size_setCell, World.size_alloc, World.size_drew]; first | with_reducible assumption | omega))
          have yb : Below w.heap.size w y.it := by rw [ey]; exact (by repeat (first | with_reducible exact Below.refl _ _ | with_reducible assumption | with_reducible refine Below.al ?_ _ | with_reducible refine Below.on ?_ _ | with_reducible refine Below.st ?_ (by first | assumption | (simp; done) | (simp; omega)) _ | with_reducible refine Below.drew ?_))
          have EP : eqW p1 p2 p1 p2 = true := eqW_of rfl rfl
          have EQ : eqW q1 q2 q1 q2 = true := eqW_of rfl rfl
          clear ey za zb zc zd ze zf zg zh zi zj
          refine wp_region_ext (by kernel_rfl) (by kernel_rfl) ?_
          repeat (go_big_quiet_step ((first | (go_at_call 8; exact Calls.ext (awake_any _)) | (go_at_call 9; exact Calls.ext (format_any _ _ AB.out.1 AB.out.2 _)) | (go_at_call 10; exact Calls.ext (reffmt_any _ _ AB.out.1 AB.out.2 _)))))
          refine wpQuiet_nil ?_
          rintro _ ⟨y6, rfl⟩
          go_wp2
          exact bodyPost_ret (v := .bool true) (by simp [results, Tryd.results3, go_sem, *]) rfl (⟨rfl, by repeat (first | with_reducible exact Below.refl _ _ | with_reducible assumption | with_reducible refine Below.al ?_ _ | with_reducible refine Below.on ?_ _ | with_reducible refine Below.st ?_ (by first | assumption | (simp; done) | (simp; omega)) _ | with_reducible refine Below.drew ?_)⟩)
theorem met_wideTexts (os : Os) (args : Array Value) : laidMetH Tryd.prog Rows.wideTextsRow.laid ((World.laidAll Tryd.prog os Rows.wideTextsRow.laid).forCall (fun _ _ => 0) ⟨#[], args, []⟩).memory := by
  unfold laidMetH
  rw [show (Rows.wideTextsRow.laid.filter fun x => x.2.handleName?.isSome) = [] by kernel_rfl]
  exact laidMet_laidAll args (by kernel_rfl) (by kernel_rfl)
set_option maxRecDepth 100000 in
theorem wideTexts_lifted (os : Os) (started : os.Started) (H : Type) (enc : TypeId × Value → H) :
    ReturnsInHanded {} Tryd.checked os 3 .any (fun w args => (Rows.wideTextsSpec.pre enc Tryd.prog Tryd.f3 [] false w args ∧ laidMetH Tryd.prog Rows.wideTextsRow.laid w) ∧ sizedMet enc Tryd.prog Tryd.f3 (OpenSpec.ofChange Rows.wideTextsSpec) false w args) (Rows.wideTextsSpec.post enc Tryd.prog Tryd.f3 false true false false) := by
  refine lifted_of_walk_laid (C := Tryd.checked) (tb := 4) own started (by kernel_rfl) Tryd.func3
    (ChangeSpec.witness_at (enc := enc) (C := Tryd.checked) (os := os) (X := fun w _ => laidMetH Tryd.prog Rows.wideTextsRow.laid w) false (World.laidAll Tryd.prog os Rows.wideTextsRow.laid) #[.agg #[.int .i64 0, .int .u64 0], .string ByteArray.empty, .slice none 0 0, .bool false] 8 (World.laidAll_os _ _ _) (by kernel_rfl) (by kernel_rfl) (by kernel_rfl) (by kernel_rfl) (by kernel_rfl) (met_wideTexts os _))
    laid (params_ok (by kernel_rfl)) (by kernel_rfl) Tryd.underlying4 rfl
    (fun ds hds => by match ds, hds with | [d0, d1, d2, d3], _ => exact ⟨rfl, rfl, rfl⟩) ?_
  intro W base args ds ps hval0 hA0
  have hval : ∀ (j : Nat) t v, Tryd.f3.params[j]? = some t → args[j]? = some v → Value.okWide Tryd.prog W .any base t v := hval0
  have hA : DataW.TrodAll enc Tryd.prog W 0 (fun _ => true) true Tryd.f3.params.toList args.toList ds ps := hA0
  rw [Tryd.params3] at hA hval
  obtain ⟨v0, vs0, d0, ds0, p0, q0, hargs, rfl, rfl, h0, r0⟩ := trodAll_cons hA
  obtain ⟨v1, vs1, d1, ds1, p1, q1, rfl, rfl, rfl, h1, r1⟩ := trodAll_cons r0
  obtain ⟨v2, vs2, d2, ds2, p2, q2, rfl, rfl, rfl, h2, r2⟩ := trodAll_cons r1
  obtain ⟨v3, vs3, d3, ds3, p3, q3, rfl, rfl, rfl, h3, r3⟩ := trodAll_cons r2
  obtain ⟨rfl, rfl, rfl⟩ := trodAll_nil r3
  obtain rfl : args = #[v0, v1, v2, v3] := by cases args; simp_all
  obtain ⟨h, l, rfl, a0, b0⟩ := open_wide (hval 0 _ v0 rfl rfl) h0
  obtain ⟨s, rfl, _, _, hs⟩ := ChangeMaps.open_string Tryd.underlying9 (hval 1 _ v1 rfl rfl) h1
  obtain ⟨zs, hi⟩ := open_u8s Tryd.underlying25 Tryd.underlying5 (by kernel_rfl) (hval 2 _ v2 rfl rfl) h2
  obtain ⟨neg, rfl⟩ := open_boolv Tryd.underlying4 (hval 3 _ v3 rfl rfl) h3
  exact texts_walk _ _ a0 b0 s (by unfold maxLen at hs; omega) _ zs neg W hi
theorem wideTexts_holds : Rows.WideTextsSaid :=
  OpenClaim.holds_of_wide 3 Tryd.f3 rfl rfl rfl rfl rfl rfl rfl ⟨rfl, rfl, rfl, rfl, rfl⟩ rfl rfl rfl rfl rfl (by kernel_rfl) Tryd.func3 (by kernel_rfl)
    (of_decide_eq_true (by kernel_rfl)) (by unfold Func.isWrapper; first | (rw [if_pos (by decide +kernel)]; kernel_rfl) | (rw [if_neg (by decide +kernel)]; exact ⟨rfl, rfl⟩))
    (fun os started H enc _ => wideTexts_lifted os started H enc)
theorem wideTexts_card : Rows.WideTextsCardSaid :=
  Claim7.holds_tied_plain_at .later [] [.data, .pinned] true (true, "60e13fc1cc16a2a06dd77961917d5475e1b8bbd80645c04080f207bc6d7b31de") false
    wideTexts_holds (fun _ h => by cases h) (by kernel_rfl) (fun _ h => by cases h) wideTexts_row_tie rfl ⟨rfl, rfl⟩ (by kernel_rfl) rfl
    (fun f fn hf hfn => by
      obtain rfl : f = 3 := Option.some.inj ((show Tryd.prog.funcNamed "micropart/micropartlaw13.WideTexts" = some 3 by kernel_rfl).symm.trans hf) |>.symm
      obtain rfl : fn = Tryd.f3 := (Option.some.inj (Tryd.func3.symm.trans hfn)).symm
      exact ⟨by kernel_rfl, fun j t ht => by
        rw [Tryd.params3] at ht
        rcases j with _ | _ | _ | _ | j
        · obtain rfl : 24 = t := by simpa using ht
          exact (show Tryd.prog.wantsStandIn 24 = false by kernel_rfl)
        · obtain rfl : 9 = t := by simpa using ht
          exact (show Tryd.prog.wantsStandIn 9 = false by kernel_rfl)
        · obtain rfl : 25 = t := by simpa using ht
          exact (show Tryd.prog.wantsStandIn 25 = false by kernel_rfl)
        · obtain rfl : 4 = t := by simpa using ht
          exact (show Tryd.prog.wantsStandIn 4 = false by kernel_rfl)
        · simp at ht⟩)
    (by kernel_rfl)
#print axioms wideTexts_card
end Go.Proofs.YtapjndhbdpbjcaaDoor
