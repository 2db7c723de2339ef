/-
  VECTORSELECTS, where what it reads is of bulk at most 1048576: the statement. Conditions: that bound.
-/
import Derived.Test.YtploieofmnlomaaVsw
import Derived.Test.YtploieofmnlomaaVop
import Derived.JoinedCond
namespace Go.Proofs.Ytploieofmnlomaa
open Go.RowKit Go.ChangeShapes Go.WideShapes Go.ChangeAt
theorem bulk_one {H : Type} (d : DataW H) : 1 ≤ Rows.uptoBulk d := by
  cases d with
  | lit l => cases l <;> simp [Rows.uptoBulk]
  | nil => simp [Rows.uptoBulk]
  | ptr d => simp [Rows.uptoBulk]
  | slice elems spare => simp [Rows.uptoBulk]
  | agg parts => simp [Rows.uptoBulk]
  | iface t d => simp [Rows.uptoBulk]
  | map entries => simp [Rows.uptoBulk]
  | held h => simp [Rows.uptoBulk]
theorem bulk_len {H : Type} (l : List (DataW H)) : l.length ≤ Rows.uptoBulkAll l := by
  induction l with
  | nil => simp
  | cons x r ih => have := bulk_one x; simp only [Rows.uptoBulkAll, List.length_cons]; omega
theorem bulk_slice {H : Type} {enc : TypeId × Value → H} {P : Program} {w : World} {base : Nat} {sp : Nat → Bool} {held : Bool} {r : Reach} {b0 : Nat} {t e : TypeId} {v : Value} {d : DataW H} {p : List MemPlace} (ht : P.underlying t = some (.slice e))
    (hv : Value.okWide P w r b0 t v) (h : DataW.Trod enc P w base sp held t v d p) {a : Option Addr} {l c : Nat} (e1 : v = .slice a l c) : l ≤ Rows.uptoBulk d := by
  subst e1
  obtain ⟨fuel, hf⟩ := h
  simp only [Value.cells] at hf
  rcases DataW.trod_slice ht hf with ⟨h0, _⟩ | ⟨a', len, cap, elems, rest, n, _, h1, h2, _, _, _, hl, _⟩
  · simp at h0
    omega
  · simp at h1
    obtain ⟨_, rfl, _⟩ := h1
    simp only [Prod.mk.injEq] at h2
    rw [h2.1]
    simp only [Rows.uptoBulk]
    have := bulk_len (elems.map (·.1))
    rw [List.length_map, hl] at this
    omega
set_option maxRecDepth 100000 in
theorem vectorSelects_lifted (os : Os) (started : os.Started) (H : Type) (enc : TypeId × Value → H) (F : Stop.Interp) :
    ReturnsInHanded {} Try.checked os 8 .any ((Rows.OpenSpec.upto Rows.vectorSelectsSpec).pre6 enc Try.prog Try.f8 Rows.vectorSelectsUptoRow.domain false) (((Rows.OpenSpec.upto Rows.vectorSelectsSpec).at F).post enc Try.prog Try.f8 false true false false) := by
  refine returnsInHanded_of_cond (C := Try.checked) (s := Rows.OpenSpec.upto Rows.vectorSelectsSpec) (k := Rows.uptoSmall) rfl own started (by kernel_rfl) Try.func8
    (OpenSpec.witness (enc := enc) (C := Try.checked) (s := Rows.OpenSpec.upto Rows.vectorSelectsSpec) (k := Rows.uptoSmall) rfl false ⟨#[], #[.slice none 0 0, .slice none 0 0, .slice none 0 0, .slice none 0 0, .slice none 0 0, .slice none 0 0], []⟩ 8 (by kernel_rfl) (by kernel_rfl) (by kernel_rfl)
      (x := ([.nil, .nil, .nil, .nil, .nil, .nil], [], [])) (by kernel_rfl) rfl (by kernel_rfl)) ?_
  intro W base args ds gs before hval0 hW _ hk _
  have hW' := hW
  obtain ⟨pp, qq, hA0, hV, _, _, _⟩ := hW'
  obtain ⟨rfl, _⟩ := trodVars_none hV
  have hval : ∀ (j : Nat) t v, Try.f8.params[j]? = some t → args[j]? = some v → Value.okWide Try.prog W .any base t v := hval0
  have hA : DataW.TrodAll enc Try.prog W 0 (fun _ => true) true Try.f8.params.toList args.toList ds pp := hA0
  rw [Try.params8] at hA hval
  obtain ⟨v0, vs0, d0, ds0, p0, q0, hargs, rfl, rfl, h0, r0⟩ := trodAll_cons hA
  obtain ⟨v1, vs1, d1, ds1, p1, q1, rfl, rfl, rfl, h1, r1⟩ := trodAll_cons r0
  obtain ⟨v2, vs2, d2, ds2, p2, q2, rfl, rfl, rfl, h2, r2⟩ := trodAll_cons r1
  obtain ⟨v3, vs3, d3, ds3, p3, q3, rfl, rfl, rfl, h3, r3⟩ := trodAll_cons r2
  obtain ⟨v4, vs4, d4, ds4, p4, q4, rfl, rfl, rfl, h4, r4⟩ := trodAll_cons r3
  obtain ⟨v5, vs5, d5, ds5, p5, q5, rfl, rfl, rfl, h5, r5⟩ := trodAll_cons r4
  obtain ⟨rfl, rfl, rfl⟩ := trodAll_nil r5
  obtain rfl : args = #[v0, v1, v2, v3, v4, v5] := by cases args; simp_all
  have bd : Rows.uptoBulkAll ([d0, d1, d2, d3, d4, d5] ++ []) ≤ 1048576 := of_decide_eq_true hk
  simp only [List.append_nil, Rows.uptoBulkAll] at bd
  obtain ⟨l0, y0⟩ := open_intsv Try.underlying23 Try.underlying3 cells3 (hval 0 _ v0 rfl rfl) h0
  obtain ⟨l1, y1⟩ := open_intsv Try.underlying23 Try.underlying3 cells3 (hval 1 _ v1 rfl rfl) h1
  obtain ⟨l2, y2⟩ := open_vals (hval 2 _ v2 rfl rfl) h2
  obtain ⟨l3, y3⟩ := open_rows (hval 3 _ v3 rfl rfl) h3
  obtain ⟨l4, y4⟩ := open_intsv Try.underlying23 Try.underlying3 cells3 (hval 4 _ v4 rfl rfl) h4
  obtain ⟨l5, y5⟩ := open_intsv Try.underlying23 Try.underlying3 cells3 (hval 5 _ v5 rfl rfl) h5
  obtain ⟨_, _, e0⟩ := ints_end y0
  obtain ⟨_, _, e1⟩ := ints_end y1
  obtain ⟨_, _, e3⟩ := rows_end y3
  have b0 := bulk_slice Try.underlying23 (hval 0 _ v0 rfl rfl) h0 e0
  have b1 := bulk_slice Try.underlying23 (hval 1 _ v1 rfl rfl) h1 e1
  have b3 := bulk_slice Try.underlying30 (hval 3 _ v3 rfl rfl) h3 e3
  exact (vsw_walk _ _ _ _ _ _ _ _ _ _ _ _ _ y0 y1 y2 y3 y4 y5 (by omega) (by omega) (by omega)).mono fun e W' ⟨he, hb⟩ => ⟨_, he, post_true (tb := 4) laid (params_ok (by kernel_rfl)) (by kernel_rfl) Try.underlying4 rfl (fun ds hds => by match ds, hds with | [d0, d1, d2, d3, d4, d5], _ => exact ⟨rfl, rfl, rfl⟩) hW hb⟩

theorem vectorSelectsUpto_holds : Rows.VectorSelectsUptoSaid :=
  OpenClaim.holds_of_cond 8 Try.f8 rfl rfl rfl rfl rfl rfl rfl ⟨rfl, rfl, rfl, rfl, rfl⟩ rfl rfl rfl rfl rfl (by kernel_rfl) Try.func8 (by kernel_rfl)
    (of_decide_eq_true (by kernel_rfl)) (by unfold Func.isWrapper; first | (rw [if_pos (by decide +kernel)]; kernel_rfl) | (rw [if_neg (by decide +kernel)]; exact ⟨rfl, rfl⟩))
    (fun os started H enc _ F => vectorSelects_lifted os started H enc F)
#print axioms vectorSelectsUpto_holds
end Go.Proofs.Ytploieofmnlomaa
