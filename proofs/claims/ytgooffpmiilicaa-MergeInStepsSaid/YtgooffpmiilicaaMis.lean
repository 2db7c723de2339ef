/-
  MERGEINSTEPS: the statement (choices that lie in memory, so at most 2^44 of them: 'sized'). Conditions: none.
-/
import Derived.Test.YtgooffpmiilicaaMiw
import Derived.Test.YtgooffpmiilicaaOps
namespace Go.Proofs.Ytgooffpmiilicaa
open Go.RowKit Go.ChangeShapes Go.WideShapes Go.ChangeAt
theorem sized_head {H : Type} {P : Program} {t : TypeId} {ts : List TypeId} {d : DataW H} {ds : List (DataW H)} (h : (DataW.weightsEach P (t :: ts) (d :: ds)).all (· ≤ reachBytes) = true) : (d.weights P t).all (· ≤ reachBytes) = true := by
  rw [DataW.weightsEach, List.all_append, Bool.and_eq_true] at h
  exact h.1
theorem lifted_of_walk_sized {H : Type} {enc : TypeId × Value → H} {C : Checked} {os : Os} {f : FuncId} {fn : Func} {s : ChangeSpec} {tb : TypeId}
    (own : ownKnob C.prog.godebug = none) (started : os.Started) (noInit : C.prog.inits.idxOf? f = none) (hfn : C.prog.funcs[f]? = some fn)
    (witness : ∃ (w : World) (tape : Tape) (i : Input), w.os = os ∧ (w.forCall tape i).Shaped C.prog ∧ i.vars = [] ∧ Input.okWide C.prog (w.forCall tape i) .any w.heap.size f i ∧
      s.pre6 enc C.prog fn [] false (w.forCall tape i).memory i.args ∧ ({} : Assume).holds C.prog (lone (Frame.enter C.prog f i.args .normal) [] (w.forCall tape i)))
    (hl : laidOutB C.prog = true) (hr : ∀ t ∈ fn.params.toList, C.prog.readableRec t = true ∧ t < C.prog.types.size) (hrt : fn.resultTypes = #[tb]) (htb : C.prog.underlying tb = some .bool) (hv : s.vars = [])
    (hs : ∀ ds : List (DataW H), ds.length = fn.params.size → (s.fn H ds).results = [.lit (.bool true)] ∧ (s.fn H ds).args = ds ∧ (s.fn H ds).vars = [])
    (walk : ∀ (W : World) (base : Nat) (args : Array Value) (ds : List (DataW H)) (ps : List MemPlace) (gs : List (DataW H)), (∀ (j : Nat) t v, fn.params[j]? = some t → args[j]? = some v → Value.okWide C.prog W .any base t v) →
      DataW.TrodAll enc C.prog W 0 (fun _ => true) true fn.params.toList args.toList ds ps → (DataW.weightsEach C.prog (fn.params.toList ++ s.plain.varTypes C.prog) (ds ++ gs)).all (· ≤ reachBytes) = true → Calls C.prog f args W fun e W' => e = .returned (.bool true) ∧ Below W.heap.size W W') :
    ReturnsInHanded {} C os f .any (s.pre6 enc C.prog fn [] false) (s.post enc C.prog fn false true false false) := by
  refine returnsInHanded_of_change_sized (C := C) own started noInit hfn witness ?_
  intro W base args ds gs before hval hW _ hsz _
  have hW' := hW
  obtain ⟨p, q, hA, _, _, _, _⟩ := hW'
  exact (walk W base args ds p gs hval hA hsz).mono fun e W' ⟨he, hb⟩ => ⟨_, he, post_true hl hr hrt htb hv hs hW hb⟩
theorem sized_second {H : Type} {P : Program} {t u : TypeId} {ts : List TypeId} {c d : DataW H} {ds : List (DataW H)} (h : (DataW.weightsEach P (t :: u :: ts) (c :: d :: ds)).all (· ≤ reachBytes) = true) : (d.weights P u).all (· ≤ reachBytes) = true := by
  rw [DataW.weightsEach, List.all_append, Bool.and_eq_true] at h
  exact sized_head h.2
theorem open_intsz {H : Type} {enc : TypeId × Value → H} {P : Program} {w : World} {r : Reach} {b0 : Nat} {t e : TypeId} {v : Value} {d : DataW H} {p : List MemPlace} (ht : P.underlying t = some (.slice e)) (he : P.underlying e = some (.int .i64)) (hc : P.cellsOf e = 1) (hb8 : P.bytesOf e = 8)
    (hv : Value.okWide P w r b0 t v) (h : DataW.Trod enc P w 0 (fun _ => true) true t v d p) (hsz : (d.weights P t).all (· ≤ reachBytes) = true) : ∃ zs, IntsAt w w.heap.size v zs ∧ zs.length ≤ 17592186044416 := by
  obtain ⟨a, l, c, rfl⟩ := okWide_slice ht hv
  obtain ⟨fuel, hf⟩ := h
  rcases open_ints ht he hc hf with ⟨hcs, _⟩ | ⟨ad, l', c', zs, hcs, _, hl, hm, hz, hx, hcell, hw⟩
  · simp [Value.cells] at hcs
    obtain ⟨rfl, rfl, rfl⟩ := hcs
    exact ⟨[], ⟨by simp, by simp, .inl ⟨rfl, _, _, rfl⟩⟩, by simp⟩
  · simp [Value.cells] at hcs
    obtain ⟨rfl, rfl, rfl⟩ := hcs
    simp at hz
    have hlen : (zs.take l).length = l := by simp; omega
    have hd : d = .slice (lits .i64 (zs.take l)) (lits .i64 (zs.drop l)) := congrArg Prod.fst hx
    have hl44 : l ≤ 17592186044416 := by
      rw [hd] at hsz
      unfold DataW.weights at hsz
      simp only [ht] at hsz
      rw [List.all_cons, Bool.and_eq_true] at hsz
      have h1 := of_decide_eq_true hsz.1
      simp [reachBytes, hb8, lits] at h1
      omega
    refine ⟨zs.take l, ⟨fun z hz' => ?_, ?_, ?_⟩, by omega⟩
    · have := hw z (List.mem_of_mem_take hz')
      simp [Lit.wf, IntKind.min, IntKind.max, IntKind.signed, IntKind.bits] at this
      unfold isI; omega
    · rw [hlen]; unfold maxLen at hm; omega
    · by_cases h0 : l = 0
      · subst h0; exact .inl ⟨by simp, _, _, rfl⟩
      · obtain ⟨b, o, s⟩ := ad
        have c0 := hcell 0 (by omega)
        have hs : s = none := by
          cases s with
          | none => rfl
          | some s => exfalso; simp only [World.cell?, Addr.add] at c0; split at c0 <;> simp at c0
        subst hs
        refine .inr ⟨b, o, c, by rw [hlen], ?_, fun j hj => ?_⟩
        · rcases Nat.lt_or_ge b w.heap.size with h1 | h1
          · exact h1
          · have : w.heap[b]? = none := Array.getElem?_eq_none h1
            simp [World.cell?, Addr.add, this] at c0
        · have := hcell j (by omega)
          rw [hlen] at hj
          have e : (zs.take l).getD j 0 = zs.getD j 0 := by simp [List.getD_eq_getElem?_getD, List.getElem?_take, hj]
          rw [e]
          by_cases hj0 : j = 0 <;> simpa [Addr.add, hj0] using this
set_option maxRecDepth 100000 in
theorem mergeInSteps_lifted (os : Os) (started : os.Started) (H : Type) (enc : TypeId × Value → H) :
    ReturnsInHanded {} Try.checked os 8 .any (Rows.mergeInStepsSpec.pre6 enc Try.prog Try.f8 Rows.mergeInStepsRow.domain false) (Rows.mergeInStepsSpec.post enc Try.prog Try.f8 false true false false) := by
  refine lifted_of_walk_sized (C := Try.checked) (tb := 4) own started (by kernel_rfl) Try.func8
    (ChangeSpec.witness6 (enc := enc) (C := Try.checked) false ⟨#[], #[.slice none 0 0, .slice none 0 0], []⟩ 8 (by kernel_rfl) (by kernel_rfl) (by kernel_rfl) (by kernel_rfl))
    laid (params_ok (by kernel_rfl)) (by kernel_rfl) Try.underlying4 rfl
    (fun ds hds => by match ds, hds with | [d0, d1], _ => exact ⟨rfl, rfl, rfl⟩) ?_
  intro W base args ds ps gs hval0 hA0 hsz
  have hval : ∀ (j : Nat) t v, Try.f8.params[j]? = some t → args[j]? = some v → Value.okWide Try.prog W .any base t v := hval0
  have hA : DataW.TrodAll enc Try.prog W 0 (fun _ => true) true Try.f8.params.toList args.toList ds ps := hA0
  rw [Try.params8] at hA hval
  obtain ⟨v0, vs0, d0, ds0, p0, q0, hargs, rfl, rfl, h0, r0⟩ := trodAll_cons hA
  obtain ⟨v1, vs1, d1, ds1, p1, q1, rfl, rfl, rfl, h1, r1⟩ := trodAll_cons r0
  obtain ⟨rfl, rfl, rfl⟩ := trodAll_nil r1
  obtain rfl : args = #[v0, v1] := by cases args; simp_all
  obtain ⟨l0, y0⟩ := open_intsv Try.underlying39 Try.underlying3 cells3 (hval 0 _ v0 rfl rfl) h0
  obtain ⟨l1, y1, hl1⟩ := open_intsz Try.underlying39 Try.underlying3 cells3 (by kernel_rfl) (hval 1 _ v1 rfl rfl) h1 (sized_second hsz)
  exact miw_walk _ _ _ _ _ y0 y1 hl1

theorem mergeInSteps_holds : Rows.MergeInStepsSaid :=
  OpenClaim.holds_of_wide 8 Try.f8 rfl rfl rfl rfl rfl rfl rfl ⟨rfl, rfl, rfl, rfl, rfl⟩ rfl rfl rfl rfl rfl (by kernel_rfl) Try.func8 (by kernel_rfl)
    (of_decide_eq_true (by kernel_rfl)) (by unfold Func.isWrapper; first | (rw [if_pos (by decide +kernel)]; kernel_rfl) | (rw [if_neg (by decide +kernel)]; exact ⟨rfl, rfl⟩))
    (fun os started H enc _ => mergeInSteps_lifted os started H enc)
#print axioms mergeInSteps_holds
end Go.Proofs.Ytgooffpmiilicaa
