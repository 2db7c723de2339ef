/-
  THE LIFT of this seat's laws over what their variables hold; openers of the arguments. Conditions: each theorem states its own.
-/
import Derived.Test.YtapjndhbdpbjcaaDoorTxt
import Derived.Test.YtapjndhbdpbjcaaDoorTie
import Derived.Test.YtapjndhbdpbjcaaDoorCards
import Derived.SevenTiedAt
import Derived.Lay
import Derived.Lib.SmallJoins
import Derived.ChangeSlices
import Derived.ChangeMaps5
import Derived.Deep.CutRange
set_option linter.unusedVariables false
set_option linter.unusedSimpArgs false
namespace Go.Proofs.YtapjndhbdpbjcaaDoor
open Go.RowKit Go.ChangeShapes Go.WideShapes Go.ChangeAt
theorem open_wide {H : Type} {enc : TypeId × Value → H} {w : World} {r : Reach} {b0 base : Nat} {spare : Nat → Bool} {held : Bool} {v : Value} {d : DataW H} {p : List MemPlace}
    (hv : Value.okWide Tryd.prog w r b0 24 v) (h : DataW.Trod enc Tryd.prog w base spare held 24 v d p) :
    ∃ a b : Int, v = .agg #[.int .i64 a, .int .u64 b] ∧ isI a ∧ isU b := by
  obtain ⟨c0, c1, y0, y1, m, rfl, _, _, h0, h1⟩ := Joins.open_agg2 Tryd.underlying24 (by kernel_rfl) (by kernel_rfl) hv h
  obtain ⟨a, e0, _, wa⟩ := DataW.trod_int Tryd.underlying2 h0
  obtain ⟨b, e1, _, wb⟩ := DataW.trod_int Tryd.underlying22 h1
  simp only [List.cons.injEq, and_true] at e0 e1
  subst e0 e1
  refine ⟨a, b, rfl, ?_, ?_⟩
  · unfold isI; simp [Lit.wf, IntKind.min, IntKind.max, IntKind.signed, IntKind.bits] at wa; omega
  · unfold isU; simp [Lit.wf, IntKind.min, IntKind.max, IntKind.signed, IntKind.bits] at wb; omega

theorem own : ownKnob Tryd.prog.godebug = none := by kernel_rfl
theorem laid : laidOutB Tryd.prog = true := by kernel_rfl
theorem lifted_of_walk_laid {H : Type} {enc : TypeId × Value → H} {C : Checked} {os : Os} {f : FuncId} {fn : Func} {s : ChangeSpec} {tb : TypeId} {Z : List (String × DataW Unit)}
    (own : ownKnob C.prog.godebug = none) (started : os.Started) (noInit : C.prog.inits.idxOf? f = none) (hfn : C.prog.funcs[f]? = some fn)
    (witness : ∃ (w : World) (tape : Tape) (i : Input), w.os = os ∧ (w.forCall tape i).Shaped C.prog ∧ i.vars = [] ∧ Input.okWide C.prog (w.forCall tape i) .any w.heap.size f i ∧
      ((s.pre enc C.prog fn [] false (w.forCall tape i).memory i.args ∧ laidMetH C.prog Z (w.forCall tape i).memory) ∧ sizedMet enc C.prog fn (OpenSpec.ofChange s) false (w.forCall tape i).memory i.args) ∧ ({} : Assume).holds C.prog (lone (Frame.enter C.prog f i.args .normal) [] (w.forCall tape i)))
    (hl : laidOutB C.prog = true) (hr : ∀ t ∈ fn.params.toList, C.prog.readableRec t = true ∧ t < C.prog.types.size) (hrt : fn.resultTypes = #[tb]) (htb : C.prog.underlying tb = some .bool) (hv : s.vars = [])
    (hs : ∀ ds : List (DataW H), ds.length = fn.params.size → (s.fn H ds).results = [.lit (.bool true)] ∧ (s.fn H ds).args = ds ∧ (s.fn H ds).vars = [])
    (walk : ∀ (W : World) (base : Nat) (args : Array Value) (ds : List (DataW H)) (ps : List MemPlace), (∀ (j : Nat) t v, fn.params[j]? = some t → args[j]? = some v → Value.okWide C.prog W .any base t v) →
      DataW.TrodAll enc C.prog W 0 (fun _ => true) true fn.params.toList args.toList ds ps → Calls C.prog f args W fun e W' => e = .returned (.bool true) ∧ Below W.heap.size W W') :
    ReturnsInHanded {} C os f .any (fun w args => (s.pre enc C.prog fn [] false w args ∧ laidMetH C.prog Z w) ∧ sizedMet enc C.prog fn (OpenSpec.ofChange s) false w args) (s.post enc C.prog fn false true false false) := by
  refine returnsInHanded_of_change_and (C := C) (X := fun w _ => laidMetH C.prog Z w) (fun _ _ _ hh h => h.of_heap hh) own started noInit hfn witness ?_
  intro W base args ds gs before hval hW _ _ _ _
  have hW' := hW
  obtain ⟨p, q, hA, _, _, _, _⟩ := hW'
  exact (walk W base args ds p hval hA).mono fun e W' ⟨he, hb⟩ => ⟨_, he, post_true hl hr hrt htb hv hs hW hb⟩
theorem open_u8s {H : Type} {enc : TypeId × Value → H} {P : Program} {w : World} {r : Reach} {b0 : Nat} {t e : TypeId} {v : Value} {d : DataW H} {p : List MemPlace} (ht : P.underlying t = some (.slice e)) (he : P.underlying e = some (.int .u8)) (hc : P.cellsOf e = 1)
    (hv : Value.okWide P w r b0 t v) (h : DataW.Trod enc P w 0 (fun _ => true) true t v d p) : ∃ zs, U8At w w.heap.size v zs := by
  obtain ⟨a, l, c, rfl⟩ := okWide_slice ht hv
  obtain ⟨fuel, hf⟩ := h
  rcases open_ints ht he hc hf with ⟨hcs, _⟩ | ⟨ad, l', c', zs, hcs, _, hl, hm, hz, hx, hcell, hw⟩
  · simp [Value.cells] at hcs
    obtain ⟨rfl, rfl, rfl⟩ := hcs
    exact ⟨[], ⟨by simp, by simp, .inl ⟨rfl, _, _, rfl⟩⟩⟩
  · simp [Value.cells] at hcs
    obtain ⟨rfl, rfl, rfl⟩ := hcs
    simp at hz
    have hlen : (zs.take l).length = l := by simp; omega
    refine ⟨zs.take l, ⟨fun z hz' => ?_, ?_, ?_⟩⟩
    · have := hw z (List.mem_of_mem_take hz')
      simp [Lit.wf, IntKind.min, IntKind.max, IntKind.signed, IntKind.bits] at this
      unfold isB; omega
    · rw [hlen]; unfold maxLen at hm; omega
    · by_cases h0 : l = 0
      · subst h0; exact .inl ⟨by simp, _, _, rfl⟩
      · obtain ⟨b, o, s⟩ := ad
        have c0 := hcell 0 (by omega)
        have hs : s = none := by
          cases s with
          | none => rfl
          | some s => exfalso; simp only [World.cell?, Addr.add] at c0; split at c0 <;> simp at c0
        subst hs
        refine .inr ⟨b, o, c, by rw [hlen], ?_, fun j hj => ?_⟩
        · rcases Nat.lt_or_ge b w.heap.size with h1 | h1
          · exact h1
          · have : w.heap[b]? = none := Array.getElem?_eq_none h1
            simp [World.cell?, Addr.add, this] at c0
        · have := hcell j (by omega)
          rw [hlen] at hj
          have e : (zs.take l).getD j 0 = zs.getD j 0 := by simp [List.getD_eq_getElem?_getD, List.getElem?_take, hj]
          rw [e]
          by_cases hj0 : j = 0 <;> simpa [Addr.add, hj0] using this
theorem captureE {P : Program} {c : Code} {Q : Exit → Act → World → Prop} {a : Act} {W : World} (h : ∀ y : Ext W, y.it = W → c.wp P Q a y.it) : c.wp P Q a W := h ⟨W, Below.refl _ _⟩ rfl
theorem dig_size {r : Nat} (h : r < 10) : ((⟨#[48, 49, 50, 51, 52, 53, 54, 55, 56, 57]⟩ : ByteArray).extract r (r + 1)).size = 1 := by rw [dig_txt h]; rfl
end Go.Proofs.YtapjndhbdpbjcaaDoor
