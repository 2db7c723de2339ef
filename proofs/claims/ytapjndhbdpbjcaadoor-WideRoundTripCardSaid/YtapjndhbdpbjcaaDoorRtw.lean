/-
  WIDEROUNDTRIP: the walk, the statement and its card. Conditions: none beyond the row's own (two variables of unicode/utf8 as laid).
-/
import Derived.Test.YtapjndhbdpbjcaaDoorRtl
import Derived.Test.YtapjndhbdpbjcaaDoorPaw
import Derived.Test.YtapjndhbdpbjcaaDoorTie
import Derived.Test.YtapjndhbdpbjcaaDoorCards
import Derived.SevenTiedAt
import Derived.Lay
import Derived.Lib.SmallJoins
set_option linter.unusedVariables false
set_option linter.unusedSimpArgs false
namespace Go.Proofs.YtapjndhbdpbjcaaDoor
open Go.RowKit Go.ChangeShapes Go.WideShapes Go.ChangeAt
theorem open_wide {H : Type} {enc : TypeId × Value → H} {w : World} {r : Reach} {b0 base : Nat} {spare : Nat → Bool} {held : Bool} {v : Value} {d : DataW H} {p : List MemPlace}
    (hv : Value.okWide Tryd.prog w r b0 24 v) (h : DataW.Trod enc Tryd.prog w base spare held 24 v d p) :
    ∃ a b : Int, v = .agg #[.int .i64 a, .int .u64 b] ∧ isI a ∧ isU b := by
  obtain ⟨c0, c1, y0, y1, m, rfl, _, _, h0, h1⟩ := Joins.open_agg2 Tryd.underlying24 (by kernel_rfl) (by kernel_rfl) hv h
  obtain ⟨a, e0, _, wa⟩ := DataW.trod_int Tryd.underlying2 h0
  obtain ⟨b, e1, _, wb⟩ := DataW.trod_int Tryd.underlying22 h1
  simp only [List.cons.injEq, and_true] at e0 e1
  subst e0 e1
  refine ⟨a, b, rfl, ?_, ?_⟩
  · unfold isI; simp [Lit.wf, IntKind.min, IntKind.max, IntKind.signed, IntKind.bits] at wa; omega
  · unfold isU; simp [Lit.wf, IntKind.min, IntKind.max, IntKind.signed, IntKind.bits] at wb; omega

theorem own : ownKnob Tryd.prog.godebug = none := by kernel_rfl
theorem laid : laidOutB Tryd.prog = true := by kernel_rfl
theorem lifted_of_walk_laid {H : Type} {enc : TypeId × Value → H} {C : Checked} {os : Os} {f : FuncId} {fn : Func} {s : ChangeSpec} {tb : TypeId} {Z : List (String × DataW Unit)}
    (own : ownKnob C.prog.godebug = none) (started : os.Started) (noInit : C.prog.inits.idxOf? f = none) (hfn : C.prog.funcs[f]? = some fn)
    (witness : ∃ (w : World) (tape : Tape) (i : Input), w.os = os ∧ (w.forCall tape i).Shaped C.prog ∧ i.vars = [] ∧ Input.okWide C.prog (w.forCall tape i) .any w.heap.size f i ∧
      ((s.pre enc C.prog fn [] false (w.forCall tape i).memory i.args ∧ laidMetH C.prog Z (w.forCall tape i).memory) ∧ sizedMet enc C.prog fn (OpenSpec.ofChange s) false (w.forCall tape i).memory i.args) ∧ ({} : Assume).holds C.prog (lone (Frame.enter C.prog f i.args .normal) [] (w.forCall tape i)))
    (hl : laidOutB C.prog = true) (hr : ∀ t ∈ fn.params.toList, C.prog.readableRec t = true ∧ t < C.prog.types.size) (hrt : fn.resultTypes = #[tb]) (htb : C.prog.underlying tb = some .bool) (hv : s.vars = [])
    (hs : ∀ ds : List (DataW H), ds.length = fn.params.size → (s.fn H ds).results = [.lit (.bool true)] ∧ (s.fn H ds).args = ds ∧ (s.fn H ds).vars = [])
    (walk : ∀ (W : World) (base : Nat) (args : Array Value) (ds : List (DataW H)) (ps : List MemPlace), (∀ (j : Nat) t v, fn.params[j]? = some t → args[j]? = some v → Value.okWide C.prog W .any base t v) →
      DataW.TrodAll enc C.prog W 0 (fun _ => true) true fn.params.toList args.toList ds ps → Calls C.prog f args W fun e W' => e = .returned (.bool true) ∧ Below W.heap.size W W') :
    ReturnsInHanded {} C os f .any (fun w args => (s.pre enc C.prog fn [] false w args ∧ laidMetH C.prog Z w) ∧ sizedMet enc C.prog fn (OpenSpec.ofChange s) false w args) (s.post enc C.prog fn false true false false) := by
  refine returnsInHanded_of_change_and (C := C) (X := fun w _ => laidMetH C.prog Z w) (fun _ _ _ hh h => h.of_heap hh) own started noInit hfn witness ?_
  intro W base args ds gs before hval hW _ _ _ _
  have hW' := hW
  obtain ⟨p, q, hA, _, _, _, _⟩ := hW'
  exact (walk W base args ds p hval hA).mono fun e W' ⟨he, hb⟩ => ⟨_, he, post_true hl hr hrt htb hv hs hW hb⟩
theorem met_rt (os : Os) (args : Array Value) : laidMetH Tryd.prog Rows.wideRoundTripRow.laid ((World.laidAll Tryd.prog os Rows.wideRoundTripRow.laid).forCall (fun _ _ => 0) ⟨#[], args, []⟩).memory := by
  unfold laidMetH
  rw [show (Rows.wideRoundTripRow.laid.filter fun x => x.2.handleName?.isSome) = [] by kernel_rfl]
  exact laidMet_laidAll args (by kernel_rfl) (by kernel_rfl)
theorem captureE {P : Program} {c : Code} {Q : Exit → Act → World → Prop} {a : Act} {W : World} (h : ∀ y : Ext W, y.it = W → c.wp P Q a y.it) : c.wp P Q a W := h ⟨W, Below.refl _ _⟩ rfl
set_option maxRecDepth 8000 in
set_option maxHeartbeats 2000000 in
theorem rt_walk (h l : Int) (a : isI h) (b : isU l) (w : World) : Calls Tryd.prog 5 #[.agg #[.int .i64 h, .int .u64 l]] w fun e w' => e = .returned (.bool true) ∧ Below w.heap.size w w' := by
  have BK := back a b
  have A := Lib.hid (And.intro a b)
  have EQ : eqW h l h l = true := eqW_of rfl rfl
  have FZ := @Rk_form (absN h l)
  have ND : absN h l < 340282366920938463463374607431768211456 := by
    by_cases hn : h < 0
    · exact (hl_neg b (by omega) a).2.2
    · exact (hl_pos b (by omega) a).2.2
  obtain ⟨h1, _, _, _⟩ := nd_spec ND
  obtain ⟨k, hk⟩ : ∃ k, nd (absN h l) = k + 1 := ⟨nd (absN h l) - 1, by omega⟩
  have hlen := Rk_len (absN h l) (nd (absN h l))
  have h39 := nd_39 ND
  have hall := Rk_all (absN h l) (nd (absN h l))
  have T0 : fmtTxt (absN h l) = ⟨(Rk (absN h l) (nd (absN h l))).toArray⟩ := rfl
  generalize Rk (absN h l) (nd (absN h l)) = D at *
  obtain ⟨c, r, rfl⟩ : ∃ c r, D = c :: r := by
    cases D with
    | nil => simp at hlen; omega
    | cons c r => exact ⟨c, r, rfl⟩
  have hc : 48 ≤ c.toNat := by
    have := List.all_eq_true.1 hall c (by simp)
    revert this; simp [digB]; intro q _; exact q
  have hc45 : c ≠ 45 := by rintro rfl; revert hc; decide
  by_cases hn : h < 0
  · rw [decide_eq_true hn] at BK
    have TX := Lib.hid (show sgnTxt h ++ fmtTxt (absN h l) = ⟨(45 :: c :: r).toArray⟩ by rw [T0]; unfold sgnTxt; rw [if_pos hn]; simp [ByteArray.ext_iff])
    have PA := par_true (c :: r) (by rw [hlen]; omega)
    rw [BK] at PA
    dsimp only at PA
    obtain ⟨S, hS⟩ : ∃ S : ByteArray, S = ⟨(45 :: c :: r).toArray⟩ := ⟨_, rfl⟩
    rw [← hS] at PA TX
    have ss : S.size = nd (absN h l) + 1 := by rw [hS, ← hlen]; simp [ByteArray.size]
    have s0 : ∀ q : 0 < S.size, S[0]'q = 45 := by subst hS; intro q; rfl
    have hp : (0 : Int) < (nd (absN h l) : Int) + 1 := by omega
    generalize nd (absN h l) = n at *
    clear hS BK T0 FZ ND hall hlen hk h1 a b
    go_enter Tryd.func5, Tryd.ntmps5
    go_wp2_with (first | (go_at_call 9; refine (format_any _ _ A.out.1 A.out.2 _).mono ?_; rintro e w1 ⟨rfl, hb1⟩; rw [TX.out]; obtain ⟨x1, rfl⟩ := Ext.of hb1) | (go_at_call 6; refine (PA _).mono ?_; rintro e w2 ⟨rfl, hb2⟩; obtain ⟨x2, rfl⟩ := Ext.of hb2) | (go_at_call 8; refine (awake_any _).mono ?_; rintro e w3 ⟨rfl, hb3⟩; obtain ⟨x3, rfl⟩ := Ext.of hb3))
    have z1 : w.heap.size < x1.it.heap.size := x1.lt (by simp)
    have z2 : w.heap.size < x2.it.heap.size := x2.lt z1
    have z3 : w.heap.size ≠ x2.it.heap.size := by omega
    refine captureE ?_
    intro y ey
    have ca : y.it.cell? ⟨w.heap.size, 0, none⟩ = some (.int .i64 h) := by simp (maxDischargeDepth := 9) [go_sem, *]
    have cb : y.it.cell? ⟨w.heap.size, 1, none⟩ = some (.int .u64 l) := by simp (maxDischargeDepth := 9) [go_sem, *]
    have cc : y.it.cell? ⟨x2.it.heap.size, 0, none⟩ = some (.int .i64 h) := by simp (maxDischargeDepth := 9) [go_sem, *]
    have cd : y.it.cell? ⟨x2.it.heap.size, 1, none⟩ = some (.int .u64 l) := by simp (maxDischargeDepth := 9) [go_sem, *]
    have y1 : w.heap.size < y.it.heap.size := by rw [ey]; (first | with_reducible assumption | (simp only [World.size_setCell, World.size_alloc, World.size_drew]; first | with_reducible assumption | omega))
    have y2 : x2.it.heap.size < y.it.heap.size := by rw [ey]; (first | with_reducible assumption | (simp only [World.size_setCell, World.size_alloc, World.size_drew]; first | with_reducible assumption | omega))
    have yb : Below w.heap.size w y.it := by rw [ey]; exact (by repeat (first | with_reducible exact Below.refl _ _ | with_reducible assumption | with_reducible refine Below.al ?_ _ | with_reducible refine Below.on ?_ _ | with_reducible refine Below.st ?_ (by first | assumption | (simp; done) | (simp; omega)) _ | with_reducible refine Below.drew ?_))
    clear ey
    refine wp_region_ext (by kernel_rfl) (by kernel_rfl) ?_
    repeat (go_big_quiet_step (((go_at_call 8; exact Calls.ext (awake_any _)))))
    refine wpQuiet_nil ?_
    rintro _ ⟨y3, rfl⟩
    go_wp2
    exact bodyPost_ret (v := .bool true) (by simp [results, Tryd.results5, go_sem, *]) rfl (⟨rfl, by repeat (first | with_reducible exact Below.refl _ _ | with_reducible assumption | with_reducible refine Below.al ?_ _ | with_reducible refine Below.on ?_ _ | with_reducible refine Below.st ?_ (by first | assumption | (simp; done) | (simp; omega)) _ | with_reducible refine Below.drew ?_)⟩)
  · rw [decide_eq_false hn] at BK
    have hh0 : (0 : Int) ≤ h := by omega
    have hcI : ¬ (c.toNat : Int) = 45 := by omega
    have TX := Lib.hid (show sgnTxt h ++ fmtTxt (absN h l) = ⟨(c :: r).toArray⟩ by rw [T0]; unfold sgnTxt; rw [if_neg hn]; simp [ByteArray.ext_iff])
    have PA := par_false (c :: r) (by simp; exact hc45) (by rw [hlen]; omega)
    rw [BK] at PA
    dsimp only at PA
    obtain ⟨S, hS⟩ : ∃ S : ByteArray, S = ⟨(c :: r).toArray⟩ := ⟨_, rfl⟩
    rw [← hS] at PA TX
    have ss : S.size = nd (absN h l) := by rw [hS, ← hlen]; simp [ByteArray.size]
    have s0 : ∀ q : 0 < S.size, S[0]'q = c := by subst hS; intro q; rfl
    have hp : (0 : Int) < (nd (absN h l) : Int) := by omega
    have hp' : 0 < nd (absN h l) := by omega
    generalize nd (absN h l) = n at *
    clear hS BK T0 FZ ND hall hlen hk h1 a b
    go_enter Tryd.func5, Tryd.ntmps5
    go_wp2_with (first | (go_at_call 9; refine (format_any _ _ A.out.1 A.out.2 _).mono ?_; rintro e w1 ⟨rfl, hb1⟩; rw [TX.out]; obtain ⟨x1, rfl⟩ := Ext.of hb1) | (go_at_call 6; refine (PA _).mono ?_; rintro e w2 ⟨rfl, hb2⟩; obtain ⟨x2, rfl⟩ := Ext.of hb2) | (go_at_call 8; refine (awake_any _).mono ?_; rintro e w3 ⟨rfl, hb3⟩; obtain ⟨x3, rfl⟩ := Ext.of hb3))
    have z1 : w.heap.size < x1.it.heap.size := x1.lt (by simp)
    have z2 : w.heap.size < x2.it.heap.size := x2.lt z1
    have z3 : w.heap.size ≠ x2.it.heap.size := by omega
    refine captureE ?_
    intro y ey
    have ca : y.it.cell? ⟨w.heap.size, 0, none⟩ = some (.int .i64 h) := by simp (maxDischargeDepth := 9) [go_sem, *]
    have cb : y.it.cell? ⟨w.heap.size, 1, none⟩ = some (.int .u64 l) := by simp (maxDischargeDepth := 9) [go_sem, *]
    have cc : y.it.cell? ⟨x2.it.heap.size, 0, none⟩ = some (.int .i64 h) := by simp (maxDischargeDepth := 9) [go_sem, *]
    have cd : y.it.cell? ⟨x2.it.heap.size, 1, none⟩ = some (.int .u64 l) := by simp (maxDischargeDepth := 9) [go_sem, *]
    have y1 : w.heap.size < y.it.heap.size := by rw [ey]; (first | with_reducible assumption | (simp only [World.size_setCell, World.size_alloc, World.size_drew]; first | with_reducible assumption | omega))
    have y2 : x2.it.heap.size < y.it.heap.size := by rw [ey]; (first | with_reducible assumption | (simp only [World.size_setCell, World.size_alloc, World.size_drew]; first | with_reducible assumption | omega))
    have yb : Below w.heap.size w y.it := by rw [ey]; exact (by repeat (first | with_reducible exact Below.refl _ _ | with_reducible assumption | with_reducible refine Below.al ?_ _ | with_reducible refine Below.on ?_ _ | with_reducible refine Below.st ?_ (by first | assumption | (simp; done) | (simp; omega)) _ | with_reducible refine Below.drew ?_))
    clear ey
    refine wp_region_ext (by kernel_rfl) (by kernel_rfl) ?_
    repeat (go_big_quiet_step (((go_at_call 8; exact Calls.ext (awake_any _)))))
    refine wpQuiet_nil ?_
    rintro _ ⟨y3, rfl⟩
    go_wp2
    have hbe : ((c.toNat : Int) == 45) = decide (h < 0) := by rw [decide_eq_false (by omega)]; simpa using hcI
    exact bodyPost_ret (v := .bool true) (by simp [results, Tryd.results5, go_sem, *]) rfl (⟨rfl, by repeat (first | with_reducible exact Below.refl _ _ | with_reducible assumption | with_reducible refine Below.al ?_ _ | with_reducible refine Below.on ?_ _ | with_reducible refine Below.st ?_ (by first | assumption | (simp; done) | (simp; omega)) _ | with_reducible refine Below.drew ?_)⟩)
set_option maxRecDepth 100000 in
theorem wideRoundTrip_lifted (os : Os) (started : os.Started) (H : Type) (enc : TypeId × Value → H) :
    ReturnsInHanded {} Tryd.checked os 5 .any (fun w args => (Rows.wideRoundTripSpec.pre enc Tryd.prog Tryd.f5 [] false w args ∧ laidMetH Tryd.prog Rows.wideRoundTripRow.laid w) ∧ sizedMet enc Tryd.prog Tryd.f5 (OpenSpec.ofChange Rows.wideRoundTripSpec) false w args) (Rows.wideRoundTripSpec.post enc Tryd.prog Tryd.f5 false true false false) := by
  refine lifted_of_walk_laid (C := Tryd.checked) (tb := 4) own started (by kernel_rfl) Tryd.func5
    (ChangeSpec.witness_at (enc := enc) (C := Tryd.checked) (os := os) (X := fun w _ => laidMetH Tryd.prog Rows.wideRoundTripRow.laid w) false (World.laidAll Tryd.prog os Rows.wideRoundTripRow.laid) #[.agg #[.int .i64 0, .int .u64 0]] 8 (World.laidAll_os _ _ _) (by kernel_rfl) (by kernel_rfl) (by kernel_rfl) (by kernel_rfl) (by kernel_rfl) (met_rt os _))
    laid (params_ok (by kernel_rfl)) (by kernel_rfl) Tryd.underlying4 rfl
    (fun ds hds => by match ds, hds with | [d0], _ => exact ⟨rfl, rfl, rfl⟩) ?_
  intro W base args ds ps hval0 hA0
  have hval : ∀ (j : Nat) t v, Tryd.f5.params[j]? = some t → args[j]? = some v → Value.okWide Tryd.prog W .any base t v := hval0
  have hA : DataW.TrodAll enc Tryd.prog W 0 (fun _ => true) true Tryd.f5.params.toList args.toList ds ps := hA0
  rw [Tryd.params5] at hA hval
  obtain ⟨v0, vs0, d0, ds0, p0, q0, hargs, rfl, rfl, h0, r0⟩ := trodAll_cons hA
  obtain ⟨rfl, rfl, rfl⟩ := trodAll_nil r0
  obtain rfl : args = #[v0] := by cases args; simp_all
  obtain ⟨h, l, rfl, a0, b0⟩ := open_wide (hval 0 _ v0 rfl rfl) h0
  exact rt_walk _ _ a0 b0 W

theorem wideRoundTrip_holds : Rows.WideRoundTripSaid :=
  OpenClaim.holds_of_wide 5 Tryd.f5 rfl rfl rfl rfl rfl rfl rfl ⟨rfl, rfl, rfl, rfl, rfl⟩ rfl rfl rfl rfl rfl (by kernel_rfl) Tryd.func5 (by kernel_rfl)
    (of_decide_eq_true (by kernel_rfl)) (by unfold Func.isWrapper; first | (rw [if_pos (by decide +kernel)]; kernel_rfl) | (rw [if_neg (by decide +kernel)]; exact ⟨rfl, rfl⟩))
    (fun os started H enc _ => wideRoundTrip_lifted os started H enc)
#print axioms wideRoundTrip_holds
theorem wideRoundTrip_card : Rows.WideRoundTripCardSaid :=
  Claim7.holds_tied_plain_at .later [] [.data, .pinned] true (true, "60e13fc1cc16a2a06dd77961917d5475e1b8bbd80645c04080f207bc6d7b31de") false
    wideRoundTrip_holds (fun _ h => by cases h) (by kernel_rfl) (fun _ h => by cases h) wideRoundTrip_row_tie rfl ⟨rfl, rfl⟩ (by kernel_rfl) rfl
    (fun f fn hf hfn => by
      obtain rfl : f = 5 := Option.some.inj ((show Tryd.prog.funcNamed "micropart/micropartlaw13.WideRoundTrip" = some 5 by kernel_rfl).symm.trans hf) |>.symm
      obtain rfl : fn = Tryd.f5 := (Option.some.inj (Tryd.func5.symm.trans hfn)).symm
      exact ⟨by kernel_rfl, fun j t ht => by
        rw [Tryd.params5] at ht
        have h3 : t = 24 := by
          rcases j with _ | j
          · simpa using ht.symm
          · simp at ht
        subst h3
        exact (show Tryd.prog.wantsStandIn 24 = false by kernel_rfl)⟩)
    (by kernel_rfl)
#print axioms wideRoundTrip_card
end Go.Proofs.YtapjndhbdpbjcaaDoor
