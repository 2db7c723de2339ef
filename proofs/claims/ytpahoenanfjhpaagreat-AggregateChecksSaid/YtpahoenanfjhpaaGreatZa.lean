/-
  CHAPTER 26: Ext, Tail, Float (several texts in one). Conditions: each theorem states its own.
-/
import Derived.WalkKit
import Derived.WalkSpells
import Derived.WalkLawsBesides
import Derived.ProofKit
import Derived.Laws.Externs
import Derived.Laws.StructEq
import Derived.BigQuiet
import Derived.Deep.QuietTactic
import Derived.Deep.RegionHeld3
import Derived.StillTail
set_option linter.unusedVariables false
set_option linter.unusedSimpArgs false
namespace Go.Proofs.YtpahoenanfjhpaaGreat
open Go.RowKit Go.ChangeShapes Go.WideShapes Go.ChangeAt

/-- A world that holds all that W held, and maybe new blocks. -/
structure Ext (W : World) where
  it : World
  below : Below W.heap.size W it

instance (W : World) : Nonempty (Ext W) := ⟨⟨W, Below.refl _ _⟩⟩

theorem Ext.of {W w : World} (h : Below W.heap.size W w) : ∃ x : Ext W, w = x.it := ⟨⟨w, h⟩, rfl⟩
theorem Ext.lt {W : World} (x : Ext W) {n : Nat} (h : n < W.heap.size) : n < x.it.heap.size := Nat.lt_of_lt_of_le h x.below.size
@[go_sem] theorem Ext.cell {W : World} (x : Ext W) (n i : Nat) (hn : n < W.heap.size) : x.it.cell? ⟨n, i, none⟩ = W.cell? ⟨n, i, none⟩ := x.below.cell (p := ⟨n, i, none⟩) hn
@[go_sem] theorem Ext.frozen {W : World} (x : Ext W) (n i : Nat) (hn : n < W.heap.size) : x.it.frozen? ⟨n, i, none⟩ = W.frozen? ⟨n, i, none⟩ := x.below.frozen (p := ⟨n, i, none⟩) hn

section
variable {P : Program}

/-- A region that draws its order, whose operations read what was there and whose calls hand back one value each and leave what was there as it was. -/
theorem wp_region_ext {id : Nat} {Q : Exit → Act → World → Prop} {a : Act} {W : World} {l : List Oper} (hm : P.follows .mixedOrders = true) (hB : Region.lexB .any l.toArray = true)
    (h : wpQuiet P l.toArray (fun w' => ∃ x : Ext W, w' = x.it) (fun a' => ∀ w', (∃ x : Ext W, w' = x.it) → Q .normal a' w') l a) : (Code.region id l.toArray true).wp P Q a W :=
  wp_region_quiet (C := fun w' => ∃ x : Ext W, w' = x.it) hm hB ⟨⟨_, (Below.refl _ _).drew⟩, rfl⟩ (by simpa using h)

theorem Calls.ext {f : FuncId} {args : Array Value} {W : World} {x : Ext W} {v : Value}
    (h : Calls P f args x.it fun e w' => e = .returned v ∧ Below x.it.heap.size x.it w') : Calls P f args x.it fun e w'' => e = .returned v ∧ ∃ y : Ext W, w'' = y.it :=
  h.mono fun _ w' ⟨he, hb⟩ => ⟨he, ⟨w', x.below.trans (hb.mono x.below.size)⟩, rfl⟩

theorem Calls.ext_same {f : FuncId} {args : Array Value} {W : World} {x : Ext W} {v : Value}
    (h : Calls P f args x.it fun e w' => e = .returned v ∧ x.it = w') : Calls P f args x.it fun e w'' => e = .returned v ∧ ∃ y : Ext W, w'' = y.it :=
  h.mono fun _ _ ⟨he, hw⟩ => ⟨he, x, hw.symm⟩

/-- What S says of the world behind the draw, and behind each call (for 'go_region_held3'): below W's size all reads as in W. -/
theorem Kp.drew (W : World) : (∀ b o, b < W.heap.size → W.drew.cell? ⟨b, o, none⟩ = W.cell? ⟨b, o, none⟩) ∧ (∀ b o, b < W.heap.size → W.drew.frozen? ⟨b, o, none⟩ = W.frozen? ⟨b, o, none⟩) ∧ W.heap.size ≤ W.drew.heap.size :=
  ⟨fun _ _ _ => rfl, fun _ _ _ => rfl, Nat.le_refl _⟩
theorem Kp.step {W w w' : World} (h : (∀ b o, b < W.heap.size → w.cell? ⟨b, o, none⟩ = W.cell? ⟨b, o, none⟩) ∧ (∀ b o, b < W.heap.size → w.frozen? ⟨b, o, none⟩ = W.frozen? ⟨b, o, none⟩) ∧ W.heap.size ≤ w.heap.size) (hb : Below w.heap.size w w') : (∀ b o, b < W.heap.size → w'.cell? ⟨b, o, none⟩ = W.cell? ⟨b, o, none⟩) ∧ (∀ b o, b < W.heap.size → w'.frozen? ⟨b, o, none⟩ = W.frozen? ⟨b, o, none⟩) ∧ W.heap.size ≤ w'.heap.size :=
  ⟨fun b o l => (hb.cell (p := ⟨b, o, none⟩) (Nat.lt_of_lt_of_le l h.2.2)).trans (h.1 b o l), fun b o l => (hb.frozen (p := ⟨b, o, none⟩) (Nat.lt_of_lt_of_le l h.2.2)).trans (h.2.1 b o l), Nat.le_trans h.2.2 hb.size⟩
end

/-! ### 'Below' from the world in which the call began, without side conditions -/
theorem Below.al {a w : World} (h : Below a.heap.size a w) (o : Obj) : Below a.heap.size a (w.alloc o) := h.alloc h.size o
theorem Below.on {a W : World} (h : Below a.heap.size a W) (x : Ext W) : Below a.heap.size a x.it := h.trans (x.below.mono h.size)
theorem Below.to {a w w' : World} (h : Below a.heap.size a w) (k : Below w.heap.size w w') : Below a.heap.size a w' := h.trans (k.mono h.size)
theorem Below.st {a w : World} (h : Below a.heap.size a w) {p : Addr} (hp : a.heap.size ≤ p.block) (u : Value) : Below a.heap.size a (w.setCell p u) := h.setCell hp u

/-! ### Rows that the call owns -/
theorem own_to {w w1 : World} {base : Nat} {e : TypeId} {size : Nat} {v : Value} {n : Nat} {xs : List Value} (h : w.ownsRow base e size v n xs) (hb : Below w.heap.size w w1) : w1.ownsRow base e size v n xs := by
  refine ⟨h.1, h.2.imp id ?_⟩
  rintro ⟨g, cap, cur, h1, h2, h3, h4⟩
  exact ⟨g, cap, cur, h1, h2, by rw [hb.block g (Array.getElem?_eq_some_iff.1 h3).1]; exact h3, h4⟩
theorem own_base {w : World} {base : Nat} {e : TypeId} {size : Nat} {v : Value} {n : Nat} {xs : List Value} (h : w.ownsRow base e size v n xs) : ∀ k, v.ownBlock = some k → base ≤ k := by
  intro k hk
  rcases h.2 with ⟨rfl, _⟩ | ⟨g, cap, cur, rfl, h2, _⟩
  · simp [Value.ownBlock] at hk
  · simp [Value.ownBlock] at hk; omega
theorem Below.gr {a w w' x : World} {e : TypeId} {size : Nat} {v : Value} {n : Nat} {xs : List Value} (h : Below a.heap.size a w) (ho : x.ownsRow a.heap.size e size v n xs) (hg : w.grownBy w' v.ownBlock) : Below a.heap.size a w' :=
  h.grown hg h.size (own_base ho)

/-! ### The lift -/
section
variable {H : Type} {enc : TypeId × Value → H} {P : Program}

theorem trodAll_stays (hl : laidOutB P = true) {W W' : World} (hb : Below W.heap.size W W') : ∀ (ts : List TypeId) (vs : List Value) (ds : List (DataW H)) (ps : List MemPlace),
    (∀ t ∈ ts, P.readableRec t = true ∧ t < P.types.size) → DataW.TrodAll enc P W 0 (fun _ => true) true ts vs ds ps → (∀ x ∈ ps, x.block < W.heap.size) →
    DataW.TrodAll enc P W' 0 (fun b => decide (b < W.heap.size)) true ts vs ds ps
  | [], [], [], _, _, h, _ => h
  | t :: ts, v :: vs, d :: ds, ps, hr, h, hlt => by
    obtain ⟨p, q, h1, h2, rfl⟩ := h
    exact ⟨p, q, Below.trod hl (hr t (by simp)).1 (hr t (by simp)).2 h1 hb (fun x hx => hlt x (by simp [hx])), trodAll_stays hl hb ts vs ds q (fun t ht => hr t (by simp [ht])) h2 (fun x hx => hlt x (by simp [hx])), rfl⟩
  | [], _ :: _, _, _, _, h, _ => h.elim
  | [], [], _ :: _, _, _, h, _ => h.elim
  | _ :: _, [], _, _, _, h, _ => h.elim
  | _ :: _, _ :: _, [], _, _, h, _ => h.elim

theorem trodAll_length {W : World} : ∀ (ts : List TypeId) (vs : List Value) (ds : List (DataW H)) (ps : List MemPlace),
    DataW.TrodAll enc P W 0 (fun _ => true) true ts vs ds ps → ds.length = ts.length ∧ vs.length = ts.length
  | [], [], [], _, _ => ⟨rfl, rfl⟩
  | _ :: ts, _ :: vs, _ :: ds, _, h => by
    obtain ⟨p, q, _, h2, _⟩ := h
    have := trodAll_length ts vs ds q h2
    simp [this.1, this.2]
  | [], _ :: _, _, _, h => h.elim
  | [], [], _ :: _, _, h => h.elim
  | _ :: _, [], _, _, h => h.elim
  | _ :: _, _ :: _, [], _, h => h.elim

/-- The parameters' types, asked by one closed Bool. -/
theorem params_ok {ts : List TypeId} (h : ts.all (fun t => P.readableRec t && decide (t < P.types.size)) = true) : ∀ t ∈ ts, P.readableRec t = true ∧ t < P.types.size := by
  intro t ht
  have := List.all_eq_true.1 h t ht
  simpa using this

theorem open_i64 {w : World} {r : Reach} {b0 base : Nat} {spare : Nat → Bool} {held : Bool} {t : TypeId} {v : Value} {d : DataW H} {p : List MemPlace} (ht : P.underlying t = some (.int .i64))
    (hv : Value.okWide P w r b0 t v) (h : DataW.Trod enc P w base spare held t v d p) : ∃ n : Int, v = .int .i64 n ∧ -9223372036854775808 ≤ n ∧ n < 9223372036854775808 := by
  obtain ⟨n, rfl, _, _, wn⟩ := open_int ht hv h
  refine ⟨n, rfl, ?_⟩
  simp [Lit.wf, IntKind.min, IntKind.max, IntKind.signed, IntKind.bits] at wn
  omega
theorem open_boolv {w : World} {r : Reach} {b0 base : Nat} {spare : Nat → Bool} {held : Bool} {t : TypeId} {v : Value} {d : DataW H} {p : List MemPlace} (ht : P.underlying t = some .bool)
    (hv : Value.okWide P w r b0 t v) (h : DataW.Trod enc P w base spare held t v d p) : ∃ b : Bool, v = .bool b := by
  obtain ⟨n, rfl, _, _⟩ := open_bool ht hv h
  exact ⟨n, rfl⟩

theorem trodVars_nil {W : World} {gs : List (DataW H)} {ps : List MemPlace} (h : DataW.TrodVars enc P W (fun _ => true) [] gs ps) : gs = [] ∧ ps = [] := by
  cases gs with
  | nil => exact ⟨rfl, h⟩
  | cons g gs => exact h.elim

theorem post_true {f : Func} {s : ChangeSpec} {W W' : World} {args : Array Value} {ds gs : List (DataW H)} {before : List MemPlace} {tb : TypeId}
    (hl : laidOutB P = true) (hr : ∀ t ∈ f.params.toList, P.readableRec t = true ∧ t < P.types.size) (hrt : f.resultTypes = #[tb]) (htb : P.underlying tb = some .bool) (hv : s.vars = [])
    (hs : ∀ ds : List (DataW H), ds.length = f.params.size → (s.fn H ds).results = [.lit (.bool true)] ∧ (s.fn H ds).args = ds ∧ (s.fn H ds).vars = [])
    (hW : DataW.Whole enc P f.params.toList s.vars false W args.toList ds gs before) (hb : Below W.heap.size W W') :
    s.post enc P f false true false false W args (.bool true) W' := by
  have hW' := hW
  have hlt0 : ∀ x ∈ before, x.block < W.heap.size := fun x hx => hW.lt x hx
  obtain ⟨p, q, hA, hV, rfl, _, _⟩ := hW
  rw [hv] at hV
  obtain ⟨rfl, rfl⟩ := trodVars_nil hV
  have hlen := (trodAll_length _ _ _ _ hA).1
  obtain ⟨e1, e2, e3⟩ := hs (ds ++ []) (by simpa using hlen)
  refine ⟨ds, [], p ++ [], [], p, [], hW', ?_, ?_, ?_, hb.frame _, fun h => by cases h⟩
  · rw [e1, hrt]
    exact trodAll_mk1 (shut_bool htb true)
  · rw [e2, List.append_nil]
    exact trodAll_stays hl hb _ _ _ _ hr hA (fun x hx => hlt0 x (by simp [hx]))
  · rw [e3, hv]; rfl

/-- From the walk to the row's own statement. -/
theorem lifted_of_walk {C : Checked} {os : Os} {f : FuncId} {fn : Func} {s : ChangeSpec} {tb : TypeId}
    (own : ownKnob C.prog.godebug = none) (started : os.Started) (noInit : C.prog.inits.idxOf? f = none) (hfn : C.prog.funcs[f]? = some fn)
    (witness : ∃ (w : World) (tape : Tape) (i : Input), w.os = os ∧ (w.forCall tape i).Shaped C.prog ∧ i.vars = [] ∧ Input.okWide C.prog (w.forCall tape i) .any w.heap.size f i ∧
      s.pre6 enc C.prog fn [] false (w.forCall tape i).memory i.args ∧ ({} : Assume).holds C.prog (lone (Frame.enter C.prog f i.args .normal) [] (w.forCall tape i)))
    (hl : laidOutB C.prog = true) (hr : ∀ t ∈ fn.params.toList, C.prog.readableRec t = true ∧ t < C.prog.types.size) (hrt : fn.resultTypes = #[tb]) (htb : C.prog.underlying tb = some .bool) (hv : s.vars = [])
    (hs : ∀ ds : List (DataW H), ds.length = fn.params.size → (s.fn H ds).results = [.lit (.bool true)] ∧ (s.fn H ds).args = ds ∧ (s.fn H ds).vars = [])
    (walk : ∀ (W : World) (base : Nat) (args : Array Value) (ds : List (DataW H)) (ps : List MemPlace), (∀ (j : Nat) t v, fn.params[j]? = some t → args[j]? = some v → Value.okWide C.prog W .any base t v) →
      DataW.TrodAll enc C.prog W 0 (fun _ => true) true fn.params.toList args.toList ds ps → Calls C.prog f args W fun e W' => e = .returned (.bool true) ∧ Below W.heap.size W W') :
    ReturnsInHanded {} C os f .any (s.pre6 enc C.prog fn [] false) (s.post enc C.prog fn false true false false) := by
  refine returnsInHanded_of_change (C := C) own started noInit hfn witness ?_
  intro W base args ds gs before hval hW _ _
  have hW' := hW
  obtain ⟨p, q, hA, _, _, _, _⟩ := hW'
  exact (walk W base args ds p hval hA).mono fun e W' ⟨he, hb⟩ => ⟨_, he, post_true hl hr hrt htb hv hs hW hb⟩
end
end Go.Proofs.YtpahoenanfjhpaaGreat
namespace Go.Proofs.YtpahoenanfjhpaaGreat
open Go.RowKit

section
variable {P : Program} {ops : Array Oper} {md : Region.Mode} {C : World → Prop}

/-- f operations of the head are still to come, in whatever order; then L. -/
def headAny (P : Program) (md : Region.Mode) (ops : Array Oper) (C : World → Prop) (n : Nat) (L : Array Bool → Act → Prop) : Nat → Array Bool → Act → Prop
  | 0, listed, a => L listed a
  | f + 1, listed, a => (∃ j, j ∈ Region.ready md ops listed) ∧ ∀ j ∈ Region.ready md ops listed, j < n ∧ qOp P ops C j (headAny P md ops C n L f (listed.setIfInBounds j true)) a

/-- The head, then the rest: any order of the whole. -/
theorem headAny_sound {n g : Nat} {L : Array Bool → Act → Prop} {Q : Exit → Act → World → Prop} (hL : ∀ listed a, L listed a → ∀ w, C w → wpAny P md ops Q g listed a w) :
    ∀ (f : Nat) (listed : Array Bool) (a : Act), headAny P md ops C n L f listed a → ∀ w, C w → wpAny P md ops Q (f + g) listed a w
  | 0, listed, a, h, w, hw => (Nat.zero_add g).symm ▸ hL listed a h w hw
  | f + 1, listed, a, h, w, hw => by
    have e : f + 1 + g = (f + g) + 1 := by omega
    rw [e]
    refine ⟨fun h0 => ?_, fun j hj => wpOp_of_qOp hw (fun a' w' hw' h' => headAny_sound hL f _ a' h' w' hw') (h.2 j hj).2⟩
    obtain ⟨j, hj⟩ := h.1
    rw [h0] at hj
    cases hj

/-- A quiet operation of the head that may come now may as well come first. -/
theorem headAny_front {n i : Nat} {oi : Oper} {v : Value} {L : Array Bool → Act → Prop} (hi : ops[i]? = some oi) (hsel : Region.noSelect ops = true)
    (hs : Region.sinkB md ops n = true) (hc : Region.chainB md ops n = true) (hn : n < ops.size) (hin : i < n) (hdone : ∀ listed a, L listed a → ∀ j ∈ Region.ready md ops listed, n ≤ j) :
    ∀ (f : Nat) (listed : Array Bool) (a : Act), HeadInv md ops n listed →
      (∀ j oj, ops[j]? = some oj → j ≠ i → listed.getD j true = false → (∀ e ∈ oj.after, Region.binds md e = true → e.on ≠ i) → oi.apart ops oj = true) →
      i ∈ Region.ready md ops listed → YieldsIn P ops C oi v a →
      headAny P md ops C n L f (listed.setIfInBounds i true) (a.put oi.dst v) → headAny P md ops C n L (f + 1) listed a := by
  intro f
  induction f with
  | zero =>
    intro listed a inv _ hr hy H
    refine ⟨⟨i, hr⟩, fun j hj => ?_⟩
    have hjn : j < n := Nat.lt_of_not_le fun h => tail_waits hs hc hn inv _ i rfl hin (mem_ready.1 hr).1 j h hj
    refine ⟨hjn, ?_⟩
    by_cases hji : j = i
    · subst hji; exact hy.qOp hi H
    · exact absurd (hdone _ _ H j (ready_mono hj hji)) (by omega)
  | succ f ih =>
    intro listed a inv hfree hr hy H
    refine ⟨⟨i, hr⟩, fun j hj => ?_⟩
    have hjn : j < n := Nat.lt_of_not_le fun h => tail_waits hs hc hn inv _ i rfl hin (mem_ready.1 hr).1 j h hj
    refine ⟨hjn, ?_⟩
    by_cases hji : j = i
    · subst hji; exact hy.qOp hi H
    obtain ⟨hjun, oj, hoj, hall⟩ := mem_ready.1 hj
    have hnot : ∀ e ∈ oj.after, Region.binds md e = true → e.on ≠ i := fun e he hb heq => by
      have h1 := hall e he hb
      rw [heq, getD_both (mem_ready.1 hr).1] at h1
      cases h1
    have h2 := qOp_put hoj (hfree j oj hoj hji hjun hnot) (fun cs b => Region.noSelect_spec hsel i oi cs b hi) (fun cs b => Region.noSelect_spec hsel j oj cs b hoj) hy (H.2 j (ready_mono hj hji)).2
    refine qOp_mono (fun a' h3 => ih (listed.setIfInBounds j true) a' (inv.set hj hjn) (fun k ok hk hki hun hno => ?_) (ready_mono hr (Ne.symm hji)) h3.1 (by rw [Array.setIfInBounds_comm _ _ hji]; exact h3.2)) h2
    refine hfree k ok hk hki ?_ hno
    by_cases hjk : j = k
    · subst hjk; exact hjun
    · rw [getD_set_ne true hjk] at hun; exact hun

/-- The order of the text serves. -/
theorem headAny_text {n g : Nat} {K : Act → Prop} (hsel : Region.noSelect ops = true) (hs : Region.sinkB md ops n = true) (hc : Region.chainB md ops n = true) (hn : n < ops.size) :
    ∀ (l : List Oper) (k : Nat) (listed : Array Bool) (a : Act), (∀ j, j < l.length → l[j]? = ops[k + j]?) → k + l.length = n → HeadInv md ops n listed →
    Region.lexHead md ops g l.length k listed = true → wpQuiet P ops C K l a →
    headAny P md ops C n (fun listed' a' => Region.seqB md ops g n listed' = true ∧ K a') l.length listed a
  | [], k, listed, a, _, hk, _, hB, h => by
    obtain rfl : k = n := by simpa using hk
    exact ⟨by simpa [Region.lexHead] using hB, h⟩
  | o :: l, k, listed, a, hl, hk, inv, hB, h => by
    have h0 : ops[k]? = some o := by simpa using (hl 0 (by simp)).symm
    simp only [List.length_cons] at hk
    have hkn : k < n := by omega
    simp only [List.length_cons, Region.lexHead, Bool.and_eq_true] at hB
    obtain ⟨⟨hr, hf⟩, hB'⟩ := hB
    have hr' : k ∈ Region.ready md ops listed := by simpa using hr
    have hq : qOp P ops C k (wpQuiet P ops C K l) a := by unfold qOp; simp only [h0]; exact h
    obtain ⟨v, hy, hK⟩ := yieldsIn_of_qOp h0 hq
    exact headAny_front h0 hsel hs hc hn hkn (fun listed' a' hL => seqB_ready hL.1) l.length listed a inv (Region.free_spec h0 hf) hr' hy
      (headAny_text hsel hs hc hn l (k + 1) _ _ (fun j hj => by have := hl (j + 1) (by simp; omega); simpa [Nat.add_assoc, Nat.add_comm 1 j] using this) (by omega) (inv.set hr' hkn) hB' hK)

/-- **The region**: n quiet operations in a class of worlds, then the rest in its one order, from whatever world of the class. -/
theorem wp_region_class_tail {id : Nat} {Q : Exit → Act → World → Prop} {a : Act} {w : World} {l : List Oper} (n : Nat) (hm : P.follows .mixedOrders = true) (hB : Region.lexTailB .any l.toArray n = true)
    (hC : C { w with drawn := w.drawn + 1 })
    (h : wpQuiet P l.toArray C (fun a' => ∀ w', C w' → wpList P l.toArray Q (l.drop n) a' w') (l.take n) a) : (Code.region id l.toArray true).wp P Q a w := by
  simp only [Region.lexTailB, Bool.and_eq_true, decide_eq_true_eq] at hB
  obtain ⟨⟨⟨⟨hsel, hn⟩, hs⟩, hc⟩, hlex⟩ := hB
  have hn' : n < l.length := by simpa using hn
  have htl : (l.take n).length = n := by simp; omega
  have hdl : (l.drop n).length = l.toArray.size - n := by simp
  have inv0 : HeadInv .any l.toArray n (Array.replicate l.toArray.size false) :=
    ⟨by simp, fun j oj _ hl => (by rw [getD_replicate_false] at hl; cases hl), fun t _ ht => getD_in (by simpa using ht) (getD_replicate_false _ _)⟩
  have H := headAny_text (P := P) (C := C) (md := .any) (g := l.toArray.size - n) hsel hs hc hn (l.take n) 0 _ a (fun j hj => by
    rw [htl] at hj
    simp [hj]) (by simpa using htl) inv0 (by rw [htl]; exact hlex) h
  have S := headAny_sound (Q := Q) (g := l.toArray.size - n) (fun listed a' hL w' hw' => by
    have := wpAny_of_seq (md := .any) (Q' := Q) (l.drop n) n listed a' w' (fun j => by simp [List.getElem?_drop]) (by rw [hdl]; exact hL.1) (hL.2 w' hw')
    rwa [hdl] at this) _ _ _ H _ hC
  rw [htl, show n + (l.toArray.size - n) = l.toArray.size by omega] at S
  exact wp_region_any hm S

/-- The same at the class 'all that was there is as it was'. -/
theorem wp_region_ext_tail {id : Nat} {Q : Exit → Act → World → Prop} {a : Act} {W : World} {l : List Oper} (n : Nat) (hm : P.follows .mixedOrders = true) (hB : Region.lexTailB .any l.toArray n = true)
    (h : wpQuiet P l.toArray (fun w' => ∃ x : Ext W, w' = x.it) (fun a' => ∀ w', (∃ x : Ext W, w' = x.it) → wpList P l.toArray Q (l.drop n) a' w') (l.take n) a) : (Code.region id l.toArray true).wp P Q a W :=
  wp_region_class_tail n hm hB ⟨⟨_, (Below.refl _ _).drew⟩, rfl⟩ h
end
end Go.Proofs.YtpahoenanfjhpaaGreat
namespace Go.Proofs.YtpahoenanfjhpaaGreat
open Go.RowKit

section
variable {P : Program} {ops : Array Oper} {md : Region.Mode} {W : World}

/-- What an operation may do: yield v where it stands; or a call that hands back v and leaves what is there as it is. -/
def eUpon (P : Program) (w : World) (v : Value) : Result Next → Prop
  | .ok (.value u) w' => w' = w ∧ u = v
  | .ok .skip w' => w' = w ∧ v = undef
  | .ok (.enter f args) w' => w' = w ∧ Calls P f args w (fun e w'' => e = .returned v ∧ Below w.heap.size w w'')
  | _ => False
def eAt (P : Program) (o : Oper) (a : Act) (w : World) (v : Value) : Prop := eUpon P w v ((execOp a.eval o).run P w)
def eQuiet (P : Program) (o : Oper) (a : Act) (W : World) (next : Act → Prop) : Prop := ∃ v, (∀ x : Ext W, eAt P o a x.it v) ∧ next (a.put o.dst v)

def wpE (P : Program) (ops : Array Oper) (W : World) (Q : Act → Prop) : List Oper → Act → Prop
  | [], a => Q a
  | o :: rest, a => if Region.wanted o (yielded ops a.tmps) = true then eQuiet P o a W (wpE P ops W Q rest) else wpE P ops W Q rest (a.put o.dst undef)

theorem wpE_nil {Q : Act → Prop} {a : Act} (h : Q a) : wpE P ops W Q [] a := h
theorem wpE_step {Q : Act → Prop} {a : Act} {o : Oper} {rest : List Oper}
    (h : ∀ K : Act → Prop, (∀ a, wpE P ops W Q rest a → K a) → if Region.wanted o (yielded ops a.tmps) = true then eQuiet P o a W K else K (a.put o.dst undef)) : wpE P ops W Q (o :: rest) a :=
  h _ (fun _ h => h)

/-- What is known of operation o at frame a: it yields v, or it is passed over. -/
def Gives (P : Program) (ops : Array Oper) (W : World) (o : Oper) (v : Value) (a : Act) : Prop :=
  (Region.wanted o (yielded ops a.tmps) = true ∧ ∀ x : Ext W, eAt P o a x.it v) ∨ (Region.wanted o (yielded ops a.tmps) = false ∧ v = undef)

theorem gives_put {oi oj : Oper} {v u : Value} {a : Act} (hsi : ∀ cs b, oi.op ≠ .select cs b) (h : ∀ d, oj.dst = some d → d ∉ oi.looksAt ops) :
    Gives P ops W oi v (a.put oj.dst u) ↔ Gives P ops W oi v a := by
  unfold Gives eAt
  rw [execOp_put oi hsi a oj.dst u h, wanted_put oi a oj.dst u h]

/-- f operations of the head are still to come, in whatever order; then L. -/
def headE (P : Program) (md : Region.Mode) (ops : Array Oper) (W : World) (n : Nat) (L : Array Bool → Act → Prop) : Nat → Array Bool → Act → Prop
  | 0, listed, a => L listed a
  | f + 1, listed, a => (∃ j, j ∈ Region.ready md ops listed) ∧ ∀ j ∈ Region.ready md ops listed, j < n ∧ ∃ o v, ops[j]? = some o ∧ Gives P ops W o v a ∧ headE P md ops W n L f (listed.setIfInBounds j true) (a.put o.dst v)

theorem headE_front {n i : Nat} {oi : Oper} {v : Value} {L : Array Bool → Act → Prop} (hi : ops[i]? = some oi) (hsel : Region.noSelect ops = true)
    (hs : Region.sinkB md ops n = true) (hc : Region.chainB md ops n = true) (hn : n < ops.size) (hin : i < n) (hdone : ∀ listed a, L listed a → ∀ j ∈ Region.ready md ops listed, n ≤ j) :
    ∀ (f : Nat) (listed : Array Bool) (a : Act), HeadInv md ops n listed →
      (∀ j oj, ops[j]? = some oj → j ≠ i → listed.getD j true = false → (∀ e ∈ oj.after, Region.binds md e = true → e.on ≠ i) → oi.apart ops oj = true) →
      i ∈ Region.ready md ops listed → Gives P ops W oi v a →
      headE P md ops W n L f (listed.setIfInBounds i true) (a.put oi.dst v) → headE P md ops W n L (f + 1) listed a
  | f, listed, a, inv, hfree, hr, hy, H => by
    refine ⟨⟨i, hr⟩, fun j hj => ?_⟩
    have hjn : j < n := Nat.lt_of_not_le fun h => tail_waits hs hc hn inv _ i rfl hin (mem_ready.1 hr).1 j h hj
    refine ⟨hjn, ?_⟩
    by_cases hji : j = i
    · subst hji; exact ⟨oi, v, hi, hy, H⟩
    match f, H with
    | 0, H => exact absurd (hdone _ _ H j (ready_mono hj hji)) (by omega)
    | f + 1, H =>
      obtain ⟨hjun, oj, hoj, hall⟩ := mem_ready.1 hj
      have hnot : ∀ e ∈ oj.after, Region.binds md e = true → e.on ≠ i := fun e he hb heq => by
        have h1 := hall e he hb
        rw [heq, getD_both (mem_ready.1 hr).1] at h1
        cases h1
      obtain ⟨h1, h2, h3⟩ := Oper.apart_spec (hfree j oj hoj hji hjun hnot)
      obtain ⟨_, o', u, ho', hu, H'⟩ := H.2 j (ready_mono hj hji)
      obtain rfl : oj = o' := Option.some.inj (hoj.symm.trans ho')
      refine ⟨oj, u, hoj, (gives_put (fun cs b => Region.noSelect_spec hsel j oj cs b hoj) h1).1 hu, ?_⟩
      refine headE_front hi hsel hs hc hn hin hdone f _ _ (inv.set hj hjn) (fun k ok hk hki hun hno => hfree k ok hk hki ?_ hno) (ready_mono hr (Ne.symm hji))
        ((gives_put (fun cs b => Region.noSelect_spec hsel i oi cs b hi) h3).2 hy) ?_
      · by_cases hjk : j = k
        · subst hjk; exact hjun
        · rw [getD_set_ne true hjk] at hun; exact hun
      · rw [Array.setIfInBounds_comm _ _ hji, ← Act.put_comm a v u h2]; exact H'

theorem headE_text {n g : Nat} {K : Act → Prop} (hsel : Region.noSelect ops = true) (hs : Region.sinkB md ops n = true) (hc : Region.chainB md ops n = true) (hn : n < ops.size) :
    ∀ (l : List Oper) (k : Nat) (listed : Array Bool) (a : Act), (∀ j, j < l.length → l[j]? = ops[k + j]?) → k + l.length = n → HeadInv md ops n listed →
    Region.lexHead md ops g l.length k listed = true → wpE P ops W K l a →
    headE P md ops W n (fun listed' a' => Region.seqB md ops g n listed' = true ∧ HeadInv md ops n listed' ∧ K a') l.length listed a
  | [], k, listed, a, _, hk, inv, hB, h => by
    obtain rfl : k = n := by simpa using hk
    exact ⟨by simpa [Region.lexHead] using hB, inv, h⟩
  | o :: l, k, listed, a, hl, hk, inv, hB, h => by
    have h0 : ops[k]? = some o := by simpa using (hl 0 (by simp)).symm
    simp only [List.length_cons] at hk
    have hkn : k < n := by omega
    simp only [List.length_cons, Region.lexHead, Bool.and_eq_true] at hB
    obtain ⟨⟨hr, hf⟩, hB'⟩ := hB
    have hr' : k ∈ Region.ready md ops listed := by simpa using hr
    have hg : ∃ v, Gives P ops W o v a ∧ wpE P ops W K l (a.put o.dst v) := by
      unfold wpE at h
      split at h
      · rename_i hw; obtain ⟨v, h1, h2⟩ := h; exact ⟨v, .inl ⟨hw, h1⟩, h2⟩
      · rename_i hw; exact ⟨undef, .inr ⟨by simpa using hw, rfl⟩, h⟩
    obtain ⟨v, hy, hK⟩ := hg
    exact headE_front h0 hsel hs hc hn hkn (fun listed' a' hL => seqB_ready hL.1) l.length listed a inv (Region.free_spec h0 hf) hr' hy
      (headE_text hsel hs hc hn l (k + 1) _ _ (fun j hj => by have := hl (j + 1) (by simp; omega); simpa [Nat.add_assoc, Nat.add_comm 1 j] using this) (by omega) (inv.set hr' hkn) hB' hK)

/-! ### The new variables -/
/-- For each operation: none; or that it makes a variable: its slot, its type, its zero cells. -/
abbrev Marks := List (Option (Tmp × TypeId × Array Value))
def ghost (o : Oper) : Oper := { dst := none, op := .move (.const undef), type := o.type, pos := o.pos, after := o.after, guard := none }
def ghosts : Marks → List Oper → List Oper
  | some _ :: m, o :: l => ghost o :: ghosts m l
  | none :: m, o :: l => o :: ghosts m l
  | [], l => l
  | _ :: _, [] => []
/-- The marks are those of unguarded 'alloc's of that slot and type, among the first n; the slot is looked at or written by no other of the first n operations. -/
def marksB (n : Nat) (Z : Marks) (l : List Oper) : Bool :=
  decide (Z.length ≤ n) && decide (n ≤ l.length) && (List.range n).all fun i => match Z.getD i none, l[i]? with
    | some (d, T, _), some o => decide (o.dst = some d) && (match o.op with | .alloc T' => decide (T' = T) | _ => false) && o.guard.isNone &&
        ((List.range n).all fun j => decide (j = i) || (match l[j]? with | some p => !(p.looksAt l.toArray).contains d && decide (p.dst ≠ some d) | none => true))
    | none, some _ => true
    | _, none => false

theorem ghosts_length : ∀ (Z : Marks) (l : List Oper), (ghosts Z l).length = l.length
  | some _ :: m, o :: l => by simp [ghosts, ghosts_length m l]
  | none :: m, o :: l => by simp [ghosts, ghosts_length m l]
  | [], l => rfl
  | _ :: _, [] => by simp [ghosts]
theorem ghosts_get : ∀ (Z : Marks) (l : List Oper) (i : Nat), (ghosts Z l)[i]? = (l[i]?).map fun o => if (Z.getD i none).isSome then ghost o else o
  | some _ :: m, o :: l, 0 => by simp [ghosts]
  | some _ :: m, o :: l, i + 1 => by simpa [ghosts] using ghosts_get m l i
  | none :: m, o :: l, 0 => by simp [ghosts]
  | none :: m, o :: l, i + 1 => by simpa [ghosts] using ghosts_get m l i
  | [], l, i => by simp [ghosts]
  | _ :: _, [], i => by simp [ghosts]
theorem ghosts_ready (Z : Marks) (l : List Oper) (listed : Array Bool) : Region.ready md (ghosts Z l).toArray listed = Region.ready md l.toArray listed := by
  unfold Region.ready
  simp only [List.size_toArray, ghosts_length, List.getElem?_toArray, ghosts_get]
  refine List.filter_congr fun i _ => ?_
  cases l[i]? with
  | none => rfl
  | some o => simp only [Option.map_some]; split <;> rfl

/-- The real frame and world beside the ghost's frame. -/
structure Sim (W : World) (Z : Marks) (B : Nat → Nat) (listed : Array Bool) (r g : Act) (w : World) : Prop where
  below : Below W.heap.size W w
  defers : r.defers = g.defers
  size : r.tmps.size = g.tmps.size
  other : ∀ t, (∀ i d T zs, Z.getD i none = some (d, T, zs) → listed.getD i false = true → d ≠ t) → r.tmps[t]? = g.tmps[t]?
  ours : ∀ i d T zs, Z.getD i none = some (d, T, zs) → listed.getD i false = true → (d < g.tmps.size → r.tmps[d]? = some (.pointer (some ⟨B i, 0, none⟩))) ∧ W.heap.size ≤ B i ∧ w.heap[B i]? = some (.cells zs T (0, 0))
  parted : ∀ i j, (Z.getD i none).isSome = true → (Z.getD j none).isSome = true → listed.getD i false = true → listed.getD j false = true → i ≠ j → B i ≠ B j

theorem marks_spec {n : Nat} {Z : Marks} {l : List Oper} (h : marksB n Z l = true) {i : Nat} (hi : i < n) {d : Tmp} {T : TypeId} {zs : Array Value} (hz : Z.getD i none = some (d, T, zs)) :
    ∃ o, l[i]? = some o ∧ o.dst = some d ∧ o.op = .alloc T ∧ o.guard = none ∧ ∀ j p, j < n → j ≠ i → l[j]? = some p → d ∉ p.looksAt l.toArray ∧ p.dst ≠ some d := by
  unfold marksB at h
  simp only [Bool.and_eq_true, List.all_eq_true, List.mem_range] at h
  have h1 := h.2 i hi
  rw [hz] at h1
  cases ho : l[i]? with
  | none => rw [ho] at h1; simp at h1
  | some o =>
    rw [ho] at h1
    simp only [Bool.and_eq_true, decide_eq_true_eq, List.all_eq_true, List.mem_range] at h1
    obtain ⟨⟨⟨h2, h3⟩, h4⟩, h5⟩ := h1
    refine ⟨o, rfl, h2, ?_, by simpa using h4, fun j p hj hji hp => ?_⟩
    · cases hop : o.op <;> rw [hop] at h3 <;> simp at h3
      rw [h3]
    · have := h5 j hj
      rw [hp] at this
      simpa [hji] using this
theorem marks_lt {n : Nat} {Z : Marks} {l : List Oper} (h : marksB n Z l = true) {i : Nat} (hz : (Z.getD i none).isSome = true) : i < n := by
  unfold marksB at h
  simp only [Bool.and_eq_true, decide_eq_true_eq] at h
  rcases Nat.lt_or_ge i n with h1 | h1
  · exact h1
  · rw [List.getD_eq_getElem?_getD, List.getElem?_eq_none (by omega)] at hz
    simp at hz

theorem getD_set {listed : Array Bool} {i j : Nat} (hi : i < listed.size) : (listed.setIfInBounds i true).getD j false = (if i = j then true else listed.getD j false) := by
  by_cases h : i = j
  · subst h; simp [hi]
  · rw [getD_set_ne false h, if_neg h]

theorem headE_sound {n g : Nat} {Z : Marks} {l : List Oper} {Q : Exit → Act → World → Prop} {L : Array Bool → Act → Prop} (hm : marksB n Z l = true) (hsel : Region.noSelect (ghosts Z l).toArray = true)
    (hz : ∀ i d T zs, Z.getD i none = some (d, T, zs) → ∀ (ρ : Operand → Value) (o : Oper) (w : World), o.op = .alloc T → (execOp ρ o).run P w = .ok (.value (.pointer (some ⟨w.heap.size, 0, none⟩))) (w.alloc (.cells zs T)))
    (hL : ∀ listed a, L listed a → ∀ B r w, Sim W Z B listed r a w → wpAny P md l.toArray Q g listed r w) :
    ∀ (f : Nat) (listed : Array Bool) (a : Act), listed.size = l.length → headE P md (ghosts Z l).toArray W n L f listed a → ∀ B r w, Sim W Z B listed r a w → wpAny P md l.toArray Q (f + g) listed r w
  | 0, listed, a, _, h, B, r, w, hs => (Nat.zero_add g).symm ▸ hL listed a h B r w hs
  | f + 1, listed, a, hsz, h, B, r, w, hs => by
    have e : f + 1 + g = (f + g) + 1 := by omega
    rw [e]
    obtain ⟨⟨j0, hj0⟩, h⟩ := h
    refine ⟨fun h0 => (by rw [ghosts_ready, h0] at hj0; cases hj0), fun j hj => ?_⟩
    rw [← ghosts_ready Z l] at hj
    obtain ⟨hjn, o', v, ho', hy, H⟩ := h j hj
    have hjun := (mem_ready.1 hj).1
    have hjs : j < listed.size := by
      rcases Nat.lt_or_ge j listed.size with h1 | h1
      · exact h1
      · simp [Array.getElem?_eq_none h1] at hjun
    have hjf : listed.getD j false = false := getD_both hjun
    rw [List.getElem?_toArray, ghosts_get] at ho'
    cases hlo : l[j]? with
    | none => rw [hlo] at ho'; simp at ho'
    | some o =>
      rw [hlo] at ho'
      simp only [Option.map_some, Option.some.injEq] at ho'
      unfold wpOp
      rw [List.getElem?_toArray, hlo]
      dsimp only
      cases hzj : Z.getD j none with
      | some m =>
        obtain ⟨d, T, zs⟩ := m
        obtain ⟨o2, ho2, hd, hop, hgd, hal⟩ := marks_spec hm hjn hzj
        obtain rfl : o2 = o := Option.some.inj (ho2.symm.trans hlo)
        rw [hzj] at ho'
        simp only [Option.isSome_some, if_true] at ho'
        subst ho'
        have hw : Region.wanted o2 (yielded l.toArray r.tmps) = true := by simp [Region.wanted, hgd]
        rw [if_pos hw]
        refine .inl ?_
        unfold Oper.wp
        rw [hz j d T zs hzj r.eval o2 w hop]
        show wpAny P md l.toArray Q (f + g) (listed.setIfInBounds j true) (r.put o2.dst _) _
        rw [hd]
        have hB : Below W.heap.size W (w.alloc (.cells zs T)) := hs.below.alloc hs.below.size _
        refine headE_sound hm hsel hz hL f _ _ (by simpa using hsz) H (fun k => if k = j then w.heap.size else B k) _ _ ⟨hB, by simpa [Act.put, ghost] using hs.defers, by simpa [Act.put, ghost] using hs.size, ?_, ?_, ?_⟩
        · intro t ht
          have hdt : d ≠ t := ht j d T zs hzj (by rw [getD_set hjs, if_pos rfl])
          simp only [Act.put, ghost]
          rw [Array.getElem?_setIfInBounds_ne hdt]
          exact hs.other t fun i d' T' zs' hz' hl' => ht i d' T' zs' hz' (getD_set_true hl')
        · intro i d' T' zs' hz' hl'
          by_cases hij : i = j
          · subst hij
            rw [hzj] at hz'
            simp only [Option.some.injEq, Prod.mk.injEq] at hz'
            obtain ⟨rfl, rfl, rfl⟩ := hz'
            refine ⟨fun hlt => ?_, ?_, ?_⟩
            · simp only [Act.put, ghost] at hlt ⊢
              rw [Array.getElem?_setIfInBounds_self_of_lt (by rw [hs.size]; exact hlt)]; simp
            · rw [if_pos rfl]; exact hs.below.size
            · rw [if_pos rfl]; show (w.heap.push _)[w.heap.size]? = _; simp
          · rw [getD_set hjs, if_neg (Ne.symm hij)] at hl'
            obtain ⟨q1, q2, q3⟩ := hs.ours i d' T' zs' hz' hl'
            have hi := marks_lt hm (i := i) (by rw [hz']; rfl)
            obtain ⟨oi, hoi, hdi, _, _, hali⟩ := marks_spec hm hi hz'
            have hdd : d ≠ d' := fun e => (hali j o2 hjn (Ne.symm hij) hlo).2 (by rw [hd, e])
            refine ⟨fun hlt => ?_, ?_, ?_⟩
            · simp only [Act.put, ghost] at hlt ⊢
              rw [Array.getElem?_setIfInBounds_ne hdd, if_neg hij]
              exact q1 hlt
            · rw [if_neg hij]; exact q2
            · rw [if_neg hij, Below.heap_alloc _ _ _ (Array.getElem?_eq_some_iff.1 q3).1]; exact q3
        · intro i k hi hk hli hlk hik
          have lt : ∀ q, q ≠ j → (Z.getD q none).isSome = true → (listed.setIfInBounds j true).getD q false = true → B q < w.heap.size ∧ listed.getD q false = true := fun q hq hzq hlq => by
            rw [getD_set hjs, if_neg (Ne.symm hq)] at hlq
            obtain ⟨m, hm'⟩ := Option.isSome_iff_exists.1 hzq
            obtain ⟨d', T', zs'⟩ := m
            exact ⟨(Array.getElem?_eq_some_iff.1 (hs.ours q d' T' zs' hm' hlq).2.2).1, hlq⟩
          by_cases hij : i = j
          · subst hij
            have := lt k (Ne.symm hik) hk hlk
            rw [if_pos rfl, if_neg (Ne.symm hik)]; omega
          · by_cases hkj : k = j
            · subst hkj
              have := lt i hij hi hli
              rw [if_neg hij, if_pos rfl]; omega
            · rw [if_neg hij, if_neg hkj]
              exact hs.parted i k hi hk (lt i hij hi hli).2 (lt k hkj hk hlk).2 hik
      | none =>
        rw [hzj] at ho'
        simp only [Option.isSome_none, Bool.false_eq_true, if_false] at ho'
        subst ho'
        -- the slots that o looks at are the same in both frames
        have heval : ∀ t, t ∈ o.looksAt l.toArray → r.tmps[t]? = a.tmps[t]? := fun t ht => hs.other t fun i d T zs hz' _ hdt => by
          have hi := marks_lt hm (i := i) (by rw [hz']; rfl)
          obtain ⟨oi, _, _, _, _, hali⟩ := marks_spec hm hi hz'
          have hji : j ≠ i := fun e => by subst e; rw [hzj] at hz'; cases hz'
          exact (hali j o hjn hji hlo).1 (hdt ▸ ht)
        have hselo : ∀ cs b, o.op ≠ .select cs b := fun cs b => Region.noSelect_spec hsel j o cs b (by rw [List.getElem?_toArray, ghosts_get, hlo, Option.map_some, hzj]; rfl)
        have hex : execOp r.eval o = execOp a.eval o := execOp_congr o hselo fun x hx => by
          cases x with
          | tmp t =>
            have := heval t (List.mem_append_left _ (List.mem_filterMap.2 ⟨.tmp t, by simpa using hx, rfl⟩))
            simp [Act.eval, this]
          | _ => rfl
        have hwan : Region.wanted o (yielded l.toArray r.tmps) = Region.wanted o (yielded (ghosts Z l).toArray a.tmps) := by
          unfold Region.wanted
          cases hg : o.guard with
          | none => rfl
          | some gw =>
            obtain ⟨q, want⟩ := gw
            have hyd : yielded l.toArray r.tmps q = yielded (ghosts Z l).toArray a.tmps q := by
              unfold yielded
              rw [List.getElem?_toArray, List.getElem?_toArray, ghosts_get]
              cases hq : l[q]? with
              | none => rfl
              | some oq =>
                simp only [Option.map_some, Option.bind_some]
                cases hzq : Z.getD q none with
                | some m =>
                  obtain ⟨d, T, zs⟩ := m
                  have hqn := marks_lt hm (i := q) (by rw [hzq]; rfl)
                  obtain ⟨oq2, hoq2, hdq, _, _, halq⟩ := marks_spec hm hqn hzq
                  obtain rfl : oq2 = oq := Option.some.inj (hoq2.symm.trans hq)
                  have hjq : j ≠ q := fun e => by subst e; rw [hzj] at hzq; cases hzq
                  exact absurd (List.mem_append_right _ (by simp [hg, hq, hdq])) (halq j o hjn hjq hlo).1
                | none =>
                  simp only [Option.isSome_none, Bool.false_eq_true, if_false]
                  cases hd : oq.dst with
                  | none => rfl
                  | some t => simp [heval t (List.mem_append_right _ (by simp [hg, hq, hd]))]
            simp only [hyd]
        have fin : ∀ (u : Value) (w' : World), Below w.heap.size w w' → headE P md (ghosts Z l).toArray W n L f (listed.setIfInBounds j true) (a.put o.dst u) → wpAny P md l.toArray Q (f + g) (listed.setIfInBounds j true) (r.put o.dst u) w' := fun u w' hb H => by
          have hnd : ∀ i d T zs, Z.getD i none = some (d, T, zs) → o.dst ≠ some d := fun i d T zs hz' => by
            have hi := marks_lt hm (i := i) (by rw [hz']; rfl)
            obtain ⟨oi, _, _, _, _, hali⟩ := marks_spec hm hi hz'
            have hji : j ≠ i := fun e => by subst e; rw [hzj] at hz'; cases hz'
            exact (hali j o hjn hji hlo).2
          have hli : ∀ i d T zs, Z.getD i none = some (d, T, zs) → (listed.setIfInBounds j true).getD i false = true → listed.getD i false = true := fun i d T zs hz' h1 => by
            have hji : j ≠ i := fun e => by subst e; rw [hzj] at hz'; cases hz'
            rwa [getD_set_ne false hji] at h1
          refine headE_sound hm hsel hz hL f _ _ (by simpa using hsz) H B _ _ ⟨hs.below.trans (hb.mono hs.below.size), ?_, ?_, ?_, ?_, ?_⟩
          · cases o.dst <;> simpa [Act.put] using hs.defers
          · cases o.dst <;> simpa [Act.put] using hs.size
          · intro t ht
            have h1 := hs.other t fun i d T zs hz' hl' => ht i d T zs hz' (getD_set_true hl')
            cases hd : o.dst with
            | none => exact h1
            | some d =>
              simp only [Act.put]
              by_cases hdt : d = t
              · subst hdt
                by_cases hlt : d < a.tmps.size
                · rw [Array.getElem?_setIfInBounds_self_of_lt (by rw [hs.size]; exact hlt), Array.getElem?_setIfInBounds_self_of_lt hlt]
                · rw [Array.getElem?_eq_none (by rw [Array.size_setIfInBounds, hs.size]; exact Nat.le_of_not_lt hlt), Array.getElem?_eq_none (by rw [Array.size_setIfInBounds]; exact Nat.le_of_not_lt hlt)]
              · rw [Array.getElem?_setIfInBounds_ne hdt, Array.getElem?_setIfInBounds_ne hdt]; exact h1
          · intro i d T zs hz' hl'
            obtain ⟨q1, q2, q3⟩ := hs.ours i d T zs hz' (hli i d T zs hz' hl')
            refine ⟨fun hlt => ?_, q2, by rw [hb.block _ (Array.getElem?_eq_some_iff.1 q3).1]; exact q3⟩
            cases hd : o.dst with
            | none => rw [hd] at hlt; exact q1 hlt
            | some t =>
              have htd : t ≠ d := fun e => hnd i d T zs hz' (by rw [hd, e])
              rw [hd] at hlt
              simp only [Act.put] at hlt ⊢
              rw [Array.getElem?_setIfInBounds_ne htd]
              exact q1 (by simpa using hlt)
          · intro i k hi hk hl1 hl2 hik
            obtain ⟨mi, hmi⟩ := Option.isSome_iff_exists.1 hi
            obtain ⟨mk, hmk⟩ := Option.isSome_iff_exists.1 hk
            exact hs.parted i k hi hk (hli i mi.1 mi.2.1 mi.2.2 hmi hl1) (hli k mk.1 mk.2.1 mk.2.2 hmk hl2) hik
        rw [hwan]
        rcases hy with ⟨hw, hv⟩ | ⟨hw, rfl⟩
        · rw [if_pos hw]
          refine .inl ?_
          have h1 := hv ⟨w, hs.below⟩
          unfold eAt at h1
          unfold Oper.wp
          rw [hex]
          generalize (execOp a.eval o).run P w = res at h1 ⊢
          cases res with
          | ok nx w' =>
            cases nx <;> simp only [eUpon] at h1
            case value u => obtain ⟨rfl, rfl⟩ := h1; exact fin u w' (Below.refl _ _) H
            case skip => obtain ⟨rfl, rfl⟩ := h1; exact fin undef w' (Below.refl _ _) H
            case enter fn args =>
              obtain ⟨rfl, h2⟩ := h1
              exact h2.mono fun e w'' ⟨he, hb⟩ => by subst he; exact fin v w'' hb H
          | halt x w' => simp only [eUpon] at h1
        · rw [if_neg (by rw [hw]; decide)]
          exact fin undef w (Below.refl _ _) H
termination_by f => f

/-- The tail's frame: each new variable's slot holds a pointer to a block of its own, its zero cells in it. -/
def floated (W : World) : Marks → List Nat → Act → World → (Act → Prop) → Prop
  | [], _, a, _, K => K a
  | none :: r, u, a, w, K => floated W r u a w K
  | some (d, T, zs) :: r, u, a, w, K => ∀ b, W.heap.size ≤ b → (∀ x ∈ u, b ≠ x) → w.heap[b]? = some (.cells zs T (0, 0)) → floated W r (b :: u) (a.put (some d) (.pointer (some ⟨b, 0, none⟩))) w K

def putAll (B : Nat → Nat) : Marks → Nat → Act → Act
  | [], _, a => a
  | none :: r, k, a => putAll B r (k + 1) a
  | some (d, _, _) :: r, k, a => putAll B r (k + 1) (a.put (some d) (.pointer (some ⟨B k, 0, none⟩)))

theorem floated_putAll {B : Nat → Nat} {w : World} {K : Act → Prop} : ∀ (Z : Marks) (k : Nat) (u : List Nat) (a : Act), (∀ i d T zs, Z.getD i none = some (d, T, zs) → W.heap.size ≤ B (k + i) ∧ w.heap[B (k + i)]? = some (.cells zs T (0, 0))) →
    (∀ i, (Z.getD i none).isSome = true → ∀ x ∈ u, B (k + i) ≠ x) → (∀ i j, (Z.getD i none).isSome = true → (Z.getD j none).isSome = true → i ≠ j → B (k + i) ≠ B (k + j)) → floated W Z u a w K → K (putAll B Z k a)
  | [], _, _, _, _, _, _, h => h
  | none :: r, k, u, a, h1, h2, h3, h => floated_putAll r (k + 1) u a (fun i d T zs hz => by have := h1 (i + 1) d T zs (by simpa using hz); rwa [show k + (i + 1) = k + 1 + i by omega] at this)
      (fun i hi x hx => by have := h2 (i + 1) (by simpa using hi) x hx; rwa [show k + (i + 1) = k + 1 + i by omega] at this)
      (fun i j hi hj hij => by have := h3 (i + 1) (j + 1) (by simpa using hi) (by simpa using hj) (by omega); rwa [show k + (i + 1) = k + 1 + i by omega, show k + (j + 1) = k + 1 + j by omega] at this) h
  | some (d, T, zs) :: r, k, u, a, h1, h2, h3, h => by
    have q := h1 0 d T zs rfl
    refine floated_putAll r (k + 1) (B k :: u) _ (fun i d T zs hz => by have := h1 (i + 1) d T zs (by simpa using hz); rwa [show k + (i + 1) = k + 1 + i by omega] at this)
      (fun i hi x hx => ?_) (fun i j hi hj hij => by have := h3 (i + 1) (j + 1) (by simpa using hi) (by simpa using hj) (by omega); rwa [show k + (i + 1) = k + 1 + i by omega, show k + (j + 1) = k + 1 + j by omega] at this)
      (h (B k) q.1 (fun x hx => h2 0 rfl x hx) q.2)
    rcases List.mem_cons.1 hx with rfl | hx
    · have := h3 (i + 1) 0 (by simpa using hi) rfl (by omega); rwa [show k + (i + 1) = k + 1 + i by omega] at this
    · have := h2 (i + 1) (by simpa using hi) x hx; rwa [show k + (i + 1) = k + 1 + i by omega] at this

theorem putAll_spec {B : Nat → Nat} : ∀ (Z : Marks) (k : Nat) (a : Act), (putAll B Z k a).defers = a.defers ∧ (putAll B Z k a).tmps.size = a.tmps.size ∧
    (∀ t, (∀ i d T zs, Z.getD i none = some (d, T, zs) → d ≠ t) → (putAll B Z k a).tmps[t]? = a.tmps[t]?) ∧
    ((∀ i j d T zs d' T' zs', Z.getD i none = some (d, T, zs) → Z.getD j none = some (d', T', zs') → i ≠ j → d ≠ d') → ∀ i d T zs, Z.getD i none = some (d, T, zs) → d < a.tmps.size → (putAll B Z k a).tmps[d]? = some (.pointer (some ⟨B (k + i), 0, none⟩)))
  | [], k, a => ⟨rfl, rfl, fun _ _ => rfl, fun _ i d T zs h => by simp at h⟩
  | none :: r, k, a => by
    obtain ⟨h1, h2, h3, h4⟩ := putAll_spec (B := B) r (k + 1) a
    refine ⟨h1, h2, fun t ht => h3 t fun i d T zs hz => ht (i + 1) d T zs (by simpa using hz), fun hd i d T zs hz hlt => ?_⟩
    cases i with
    | zero => simp at hz
    | succ i =>
      have := h4 (fun i j d T zs d' T' zs' hi hj hij => hd (i + 1) (j + 1) d T zs d' T' zs' (by simpa using hi) (by simpa using hj) (by omega)) i d T zs (by simpa using hz) hlt
      rwa [show k + (i + 1) = k + 1 + i by omega]
  | some (d0, T0, zs0) :: r, k, a => by
    obtain ⟨h1, h2, h3, h4⟩ := putAll_spec (B := B) r (k + 1) (a.put (some d0) (.pointer (some ⟨B k, 0, none⟩)))
    have hsz : (a.put (some d0) (.pointer (some ⟨B k, 0, none⟩))).tmps.size = a.tmps.size := by simp [Act.put]
    refine ⟨h1, h2.trans hsz, fun t ht => ?_, fun hd i d T zs hz hlt => ?_⟩
    · show (putAll B r (k + 1) _).tmps[t]? = _
      rw [h3 t fun i d T zs hz => ht (i + 1) d T zs (by simpa using hz)]
      simp only [Act.put]
      rw [Array.getElem?_setIfInBounds_ne (ht 0 d0 T0 zs0 rfl)]
    · show (putAll B r (k + 1) _).tmps[d]? = _
      cases i with
      | zero =>
        simp only [List.getD_cons_zero, Option.some.injEq, Prod.mk.injEq] at hz
        obtain ⟨rfl, _, _⟩ := hz
        rw [h3 d0 fun i d T zs hz => hd (i + 1) 0 d T zs d0 T0 zs0 (by simpa using hz) rfl (by omega)]
        simp only [Act.put]
        rw [Array.getElem?_setIfInBounds_self_of_lt hlt]; rfl
      | succ i =>
        have := h4 (fun i j d T zs d' T' zs' hi hj hij => hd (i + 1) (j + 1) d T zs d' T' zs' (by simpa using hi) (by simpa using hj) (by omega)) i d T zs (by simpa using hz) (by rw [hsz]; exact hlt)
        rwa [show k + (i + 1) = k + 1 + i by omega]

theorem ghosts_seq (Z : Marks) (l : List Oper) : ∀ (g k : Nat) (listed : Array Bool), Region.seqB md (ghosts Z l).toArray g k listed = Region.seqB md l.toArray g k listed
  | 0, k, listed => by simp only [Region.seqB, ghosts_ready]
  | g + 1, k, listed => by simp only [Region.seqB, ghosts_ready, ghosts_seq Z l g]

/-- What making a variable of type T does. -/
def AllocOk (P : Program) (T : TypeId) (zs : Array Value) : Prop := ∀ (ρ : Operand → Value) (o : Oper) (w : World), o.op = .alloc T → (execOp ρ o).run P w = .ok (.value (.pointer (some ⟨w.heap.size, 0, none⟩))) (w.alloc (.cells zs T))
def allocsOk (P : Program) : Marks → Prop
  | [] => True
  | none :: r => allocsOk P r
  | some (_, T, zs) :: r => AllocOk P T zs ∧ allocsOk P r
theorem allocsOk_get : ∀ (Z : Marks), allocsOk P Z → ∀ i d T zs, Z.getD i none = some (d, T, zs) → AllocOk P T zs
  | [], _, i, d, T, zs, h => by simp at h
  | none :: r, ha, 0, d, T, zs, h => by simp at h
  | none :: r, ha, i + 1, d, T, zs, h => allocsOk_get r ha i d T zs (by simpa using h)
  | some (_, _, _) :: r, ha, 0, d, T, zs, h => by
    simp only [List.getD_cons_zero, Option.some.injEq, Prod.mk.injEq] at h
    obtain ⟨_, rfl, rfl⟩ := h
    exact ha.1
  | some (_, _, _) :: r, ha, i + 1, d, T, zs, h => allocsOk_get r ha.2 i d T zs (by simpa using h)

/-- **The region.** -/
theorem wp_region_float {id : Nat} {Q : Exit → Act → World → Prop} {a : Act} {W : World} {l : List Oper} (n : Nat) (Z : Marks) (hm : P.follows .mixedOrders = true)
    (hB : Region.lexTailB .any (ghosts Z l).toArray n = true) (hmarks : marksB n Z l = true) (hz0 : allocsOk P Z)
    (h : wpE P (ghosts Z l).toArray W (fun a' => ∀ x : Ext W, floated W Z [] a' x.it (fun r => wpList P l.toArray Q (l.drop n) r x.it)) ((ghosts Z l).take n) a) : (Code.region id l.toArray true).wp P Q a W := by
  have hz := allocsOk_get Z hz0
  simp only [Region.lexTailB, Bool.and_eq_true, decide_eq_true_eq] at hB
  obtain ⟨⟨⟨⟨hsel, hn⟩, hs⟩, hc⟩, hlex⟩ := hB
  have hgl := ghosts_length Z l
  have hn' : n < l.length := by rw [← hgl]; simpa using hn
  have htl : ((ghosts Z l).take n).length = n := by simp [hgl]; omega
  have hsize : (ghosts Z l).toArray.size = l.length := by simp [hgl]
  have hdl : (l.drop n).length = l.length - n := by simp
  have inv0 : HeadInv .any (ghosts Z l).toArray n (Array.replicate (ghosts Z l).toArray.size false) :=
    ⟨by simp, fun j oj _ hl => (by rw [getD_replicate_false] at hl; cases hl), fun t _ ht => getD_in (by simpa using ht) (getD_replicate_false _ _)⟩
  -- beside the head's own end: that every operation of the head has been listed
  have H := headE_text (P := P) (W := W) (md := .any) (g := (ghosts Z l).toArray.size - n) (K := fun a' => ∀ x : Ext W, floated W Z [] a' x.it (fun r => wpList P l.toArray Q (l.drop n) r x.it)) hsel hs hc hn ((ghosts Z l).take n) 0 _ a (fun j hj => by
    rw [htl] at hj
    simp [hj]) (by simpa using htl) inv0 (by rw [htl]; exact hlex) h
  rw [htl, hsize] at H
  have S := headE_sound (Q := Q) (g := l.length - n) hmarks hsel hz (fun listed a' hL B r w' hsim => by
    have hall : ∀ i, i < n → listed.getD i false = true := by
      intro i hi
      cases hli : listed.getD i false with
      | true => rfl
      | false =>
        exfalso
        have hseq := hL.1
        obtain ⟨g', hg'⟩ : ∃ g', l.length - n = g' + 1 := ⟨l.length - n - 1, by omega⟩
        rw [hg'] at hseq
        simp only [Region.seqB, Bool.and_eq_true, decide_eq_true_eq] at hseq
        exact tail_waits hs hc hn hL.2.1 _ i rfl hi (getD_in (by rw [hL.2.1.size, hsize]; omega) hli) n (Nat.le_refl _) (by rw [hseq.1]; simp)
    have hq := hL.2.2 ⟨w', hsim.below⟩
    have hmk : ∀ i d T zs, Z.getD i none = some (d, T, zs) → i < n := fun i d T zs hz' => marks_lt hmarks (by rw [hz']; rfl)
    have hK := floated_putAll (B := B) Z 0 [] a' (fun i d T zs hz' => by
        have := hsim.ours i d T zs hz' (hall i (hmk i d T zs hz'))
        rw [Nat.zero_add]; exact this.2) (fun _ _ x hx => by cases hx) (fun i j hi hj hij => by
        rw [Nat.zero_add, Nat.zero_add]
        obtain ⟨mi, hmi⟩ := Option.isSome_iff_exists.1 hi
        obtain ⟨mj, hmj⟩ := Option.isSome_iff_exists.1 hj
        exact hsim.parted i j hi hj (hall i (hmk i mi.1 mi.2.1 mi.2.2 hmi)) (hall j (hmk j mj.1 mj.2.1 mj.2.2 hmj)) hij) hq
    have hdist : ∀ i j d T zs d' T' zs', Z.getD i none = some (d, T, zs) → Z.getD j none = some (d', T', zs') → i ≠ j → d ≠ d' := fun i j d T zs d' T' zs' hi hj hij hdd => by
      obtain ⟨oi, hoi, hdi, _, _, _⟩ := marks_spec hmarks (hmk i d T zs hi) hi
      obtain ⟨oj, hoj, hdj, _, _, halj⟩ := marks_spec hmarks (hmk j d' T' zs' hj) hj
      exact (halj i oi (hmk i d T zs hi) hij hoi).2 (by rw [hdi, hdd])
    obtain ⟨p1, p2, p3, p4⟩ := putAll_spec (B := B) Z 0 a'
    have hr : putAll B Z 0 a' = r := by
      have ht : (putAll B Z 0 a').tmps = r.tmps := by
        apply Array.ext_getElem?
        intro t
        by_cases hex : ∃ i d T zs, Z.getD i none = some (d, T, zs) ∧ d = t
        · obtain ⟨i, d, T, zs, hz', rfl⟩ := hex
          by_cases hlt : d < a'.tmps.size
          · rw [p4 hdist i d T zs hz' hlt, (hsim.ours i d T zs hz' (hall i (hmk i d T zs hz'))).1 hlt, Nat.zero_add]
          · rw [Array.getElem?_eq_none (by rw [p2]; exact Nat.le_of_not_lt hlt), Array.getElem?_eq_none (by rw [hsim.size]; exact Nat.le_of_not_lt hlt)]
        · have hne : ∀ i d T zs, Z.getD i none = some (d, T, zs) → d ≠ t := fun i d T zs hz' e => hex ⟨i, d, T, zs, hz', e⟩
          rw [p3 t hne, hsim.other t fun i d T zs hz' _ => hne i d T zs hz']
      have hd : (putAll B Z 0 a').defers = r.defers := p1.trans hsim.defers.symm
      generalize putAll B Z 0 a' = y at ht hd
      cases y; cases r; simp_all
    rw [hr] at hK
    have := wpAny_of_seq (md := .any) (Q' := Q) (l.drop n) n listed r w' (fun j => by simp [List.getElem?_drop]) (by
      rw [hdl]
      rw [← ghosts_seq Z l]
      exact hL.1) hK
    rwa [hdl] at this) n _ a (by simp [hgl]) H (fun _ => 0) a { W with drawn := W.drawn + 1 }
    ⟨(Below.refl _ _).drew, rfl, rfl, fun _ _ => rfl, fun i d T zs _ hl => (by rw [getD_replicate_false] at hl; cases hl), fun i j _ _ hl => (by rw [getD_replicate_false] at hl; cases hl)⟩
  rw [show n + (l.length - n) = l.toArray.size by simp; omega] at S
  exact wp_region_any hm (by simpa using S)
/-- A callee's contract at a world that extends W. -/
theorem Calls.same_e {f : FuncId} {args : Array Value} {w : World} {v : Value} (h : Calls P f args w fun e w' => e = .returned v ∧ w = w') : Calls P f args w fun e w'' => e = .returned v ∧ Below w.heap.size w w'' :=
  h.mono fun _ _ ⟨he, hw⟩ => ⟨he, by subst hw; exact Below.refl _ _⟩
end
attribute [go_sem] eQuiet eAt eUpon
end Go.Proofs.YtpahoenanfjhpaaGreat
