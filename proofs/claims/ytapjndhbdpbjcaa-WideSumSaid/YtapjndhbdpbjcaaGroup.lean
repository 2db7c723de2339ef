/-
  WideGroup: for all numbers a, b, c of 128 bits the law returns true and leaves its arguments as they were. Conditions: none.
-/
import Derived.Test.YtapjndhbdpbjcaaAwake
import Derived.Lib.SmallJoins
namespace Go.Proofs.Ytapjndhbdpbjcaa
open Go.RowKit Go.ChangeShapes Go.WideShapes Go.ChangeAt

/-- A number among the arguments. -/
theorem open_wide {H : Type} {enc : TypeId × Value → H} {w : World} {r : Reach} {b0 base : Nat} {spare : Nat → Bool} {held : Bool} {v : Value} {d : DataW H} {p : List MemPlace}
    (hv : Value.okWide Try.prog w r b0 24 v) (h : DataW.Trod enc Try.prog w base spare held 24 v d p) :
    ∃ a b : Int, v = .agg #[.int .i64 a, .int .u64 b] ∧ isI a ∧ isU b := by
  obtain ⟨c0, c1, y0, y1, m, rfl, _, _, h0, h1⟩ := Joins.open_agg2 Try.underlying24 (by kernel_rfl) (by kernel_rfl) hv h
  obtain ⟨a, e0, _, wa⟩ := DataW.trod_int Try.underlying2 h0
  obtain ⟨b, e1, _, wb⟩ := DataW.trod_int Try.underlying22 h1
  simp only [List.cons.injEq, and_true] at e0 e1
  subst e0 e1
  refine ⟨a, b, rfl, ?_, ?_⟩
  · unfold isI; simp [Lit.wf, IntKind.min, IntKind.max, IntKind.signed, IntKind.bits] at wa; omega
  · unfold isU; simp [Lit.wf, IntKind.min, IntKind.max, IntKind.signed, IntKind.bits] at wb; omega

theorem own : ownKnob Try.prog.godebug = none := by kernel_rfl
theorem laid : laidOutB Try.prog = true := by kernel_rfl

set_option maxHeartbeats 1000000 in
theorem group_walk (h1 l1 h2 l2 h3 l3 : Int) (a1 : isI h1) (b1 : isU l1) (b2 : isU l2) (b3 : isU l3) (w : World) :
    Calls Try.prog 3 #[.agg #[.int .i64 h1, .int .u64 l1], .agg #[.int .i64 h2, .int .u64 l2], .agg #[.int .i64 h3, .int .u64 l3]] w fun e w' => e = .returned (.bool true) ∧ Below w.heap.size w w' := by
  have E1 := @add_assoc_W h1 l1 h2 l2 h3 l3 b1 b2 b3
  have E2 := add_comm_W h1 l1 h2 l2
  have E3 := add_neg_W h1 l1
  have E4 := add_zero_W a1 b1
  have HB := Lib.hid (And.intro a1 (And.intro b1 (And.intro b2 b3)))
  clear a1 b1 b2 b3
  go_enter Try.func3, Try.ntmps3
  go_wp2
  refine wp_region_ext (by kernel_rfl) (by kernel_rfl) ?_
  repeat (go_big_quiet_step ((first
    | (go_at_call 9; exact Calls.ext (awake_any _))
    | (go_at_call 10; exact Calls.ext (add_any _ _ _ _ (by first | exact HB.out.2.1 | exact HB.out.2.2.1 | exact HB.out.2.2.2 | exact isU_addLo _ _ | exact isU_ofLo _ | exact isU_negLo _) (by first | exact HB.out.2.1 | exact HB.out.2.2.1 | exact HB.out.2.2.2 | exact isU_addLo _ _ | exact isU_ofLo _ | exact isU_negLo _) _))
    | (go_at_call 11; exact Calls.ext (neg_any _ _ HB.out.1 HB.out.2.1 _))
    | (go_at_call 12; exact Calls.ext (of_any _ _)))))
  refine wpQuiet_nil ?_
  rintro _ ⟨x, rfl⟩
  go_wp2
  go_ret
  exact ⟨rfl, by repeat (first | exact Below.refl _ _ | apply Below.al | apply Below.on | (refine Below.st ?_ (by simp) _) | apply Below.drew)⟩

set_option maxRecDepth 100000 in
theorem group_lifted (os : Os) (started : os.Started) (H : Type) (enc : TypeId × Value → H) :
    ReturnsInHanded {} Try.checked os 3 .any (Rows.wideGroupSpec.pre6 enc Try.prog Try.f3 Rows.wideGroupRow.domain false) (Rows.wideGroupSpec.post enc Try.prog Try.f3 false true false false) := by
  refine lifted_of_walk (C := Try.checked) (tb := 4) own started (by kernel_rfl) Try.func3
    (ChangeSpec.witness6 (enc := enc) (C := Try.checked) false ⟨#[], #[.agg #[.int .i64 0, .int .u64 0], .agg #[.int .i64 0, .int .u64 0], .agg #[.int .i64 0, .int .u64 0]], []⟩ 8 (by kernel_rfl) (by kernel_rfl) (by kernel_rfl) (by kernel_rfl))
    laid (by rw [Try.params3]; simp; exact ⟨by kernel_rfl, of_decide_eq_true (by kernel_rfl)⟩) (by kernel_rfl) Try.underlying4 rfl
    (fun ds hds => by match ds, hds with | [d1, d2, d3], _ => exact ⟨rfl, rfl, rfl⟩) ?_
  intro W base args ds ps hval0 hA0
  have hval : ∀ (j : Nat) t v, Try.f3.params[j]? = some t → args[j]? = some v → Value.okWide Try.prog W .any base t v := hval0
  have hA : DataW.TrodAll enc Try.prog W 0 (fun _ => true) true Try.f3.params.toList args.toList ds ps := hA0
  rw [Try.params3] at hA hval
  obtain ⟨v0, vs0, d0, ds0, p0, q0, hargs, rfl, rfl, h0, r0⟩ := trodAll_cons hA
  obtain ⟨v1, vs1, d1, ds1, p1, q1, rfl, rfl, rfl, h1, r1⟩ := trodAll_cons r0
  obtain ⟨v2, vs2, d2, ds2, p2, q2, rfl, rfl, rfl, h2, r2⟩ := trodAll_cons r1
  obtain ⟨rfl, rfl, rfl⟩ := trodAll_nil r2
  obtain rfl : args = #[v0, v1, v2] := by cases args; simp_all
  obtain ⟨x0, y0, rfl, a0, b0⟩ := open_wide (hval 0 _ v0 rfl rfl) h0
  obtain ⟨x1, y1, rfl, a1, b1⟩ := open_wide (hval 1 _ v1 rfl rfl) h1
  obtain ⟨x2, y2, rfl, a2, b2⟩ := open_wide (hval 2 _ v2 rfl rfl) h2
  exact group_walk x0 y0 x1 y1 x2 y2 a0 b0 b1 b2 W

theorem wideGroup_holds : Rows.WideGroupSaid :=
  OpenClaim.holds_of_wide 3 Try.f3 rfl rfl rfl rfl rfl rfl rfl ⟨rfl, rfl, rfl, rfl, rfl⟩ rfl rfl rfl rfl rfl (by kernel_rfl) Try.func3 (by kernel_rfl)
    (of_decide_eq_true (by kernel_rfl)) (by unfold Func.isWrapper; first | (rw [if_pos (by decide +kernel)]; kernel_rfl) | (rw [if_neg (by decide +kernel)]; exact ⟨rfl, rfl⟩))
    (fun os started H enc _ => group_lifted os started H enc)
#print axioms wideGroup_holds
end Go.Proofs.Ytapjndhbdpbjcaa
