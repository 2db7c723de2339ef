/-
  BATCHSPLITS: the statement (records that lie in memory, so at most 2^42 of them, each row of at most 2^42 values: 'sized'). Conditions: none.
-/
import Derived.Test.YtkblkjfejaflkaaBsl
import Derived.Test.YtkblkjfejaflkaaOrc
namespace Go.Proofs.Ytkblkjfejaflkaa
open Go.RowKit Go.ChangeShapes Go.WideShapes Go.ChangeAt
theorem sized_head {H : Type} {P : Program} {t : TypeId} {ts : List TypeId} {d : DataW H} {ds : List (DataW H)} (h : (DataW.weightsEach P (t :: ts) (d :: ds)).all (· ≤ reachBytes) = true) : (d.weights P t).all (· ≤ reachBytes) = true := by
  rw [DataW.weightsEach, List.all_append, Bool.and_eq_true] at h
  exact h.1
theorem lifted_of_walk_sized {H : Type} {enc : TypeId × Value → H} {C : Checked} {os : Os} {f : FuncId} {fn : Func} {s : ChangeSpec} {tb : TypeId}
    (own : ownKnob C.prog.godebug = none) (started : os.Started) (noInit : C.prog.inits.idxOf? f = none) (hfn : C.prog.funcs[f]? = some fn)
    (witness : ∃ (w : World) (tape : Tape) (i : Input), w.os = os ∧ (w.forCall tape i).Shaped C.prog ∧ i.vars = [] ∧ Input.okWide C.prog (w.forCall tape i) .any w.heap.size f i ∧
      s.pre6 enc C.prog fn [] false (w.forCall tape i).memory i.args ∧ ({} : Assume).holds C.prog (lone (Frame.enter C.prog f i.args .normal) [] (w.forCall tape i)))
    (hl : laidOutB C.prog = true) (hr : ∀ t ∈ fn.params.toList, C.prog.readableRec t = true ∧ t < C.prog.types.size) (hrt : fn.resultTypes = #[tb]) (htb : C.prog.underlying tb = some .bool) (hv : s.vars = [])
    (hs : ∀ ds : List (DataW H), ds.length = fn.params.size → (s.fn H ds).results = [.lit (.bool true)] ∧ (s.fn H ds).args = ds ∧ (s.fn H ds).vars = [])
    (walk : ∀ (W : World) (base : Nat) (args : Array Value) (ds : List (DataW H)) (ps : List MemPlace) (gs : List (DataW H)), (∀ (j : Nat) t v, fn.params[j]? = some t → args[j]? = some v → Value.okWide C.prog W .any base t v) →
      DataW.TrodAll enc C.prog W 0 (fun _ => true) true fn.params.toList args.toList ds ps → (DataW.weightsEach C.prog (fn.params.toList ++ s.plain.varTypes C.prog) (ds ++ gs)).all (· ≤ reachBytes) = true → Calls C.prog f args W fun e W' => e = .returned (.bool true) ∧ Below W.heap.size W W') :
    ReturnsInHanded {} C os f .any (s.pre6 enc C.prog fn [] false) (s.post enc C.prog fn false true false false) := by
  refine returnsInHanded_of_change_sized (C := C) own started noInit hfn witness ?_
  intro W base args ds gs before hval hW _ hsz _
  have hW' := hW
  obtain ⟨p, q, hA, _, _, _, _⟩ := hW'
  exact (walk W base args ds p gs hval hA hsz).mono fun e W' ⟨he, hb⟩ => ⟨_, he, post_true hl hr hrt htb hv hs hW hb⟩
theorem bRec2 : Try.prog.bytesOf 31 = 32 := by kernel_rfl
theorem bVal2 : Try.prog.bytesOf 33 = 32 := by kernel_rfl
section
variable {H : Type} {enc : TypeId × Value → H} {w : World} {spare : Nat → Bool} {held : Bool}
set_option maxRecDepth 100000 in
theorem vals_sz {fuel : Nat} {cs : List Value} {x : DataW H × List MemPlace} (h : DataW.trod enc Try.prog w 0 spare held fuel 29 cs = some x) (hsz : (x.1.weights Try.prog 29).all (· ≤ reachBytes) = true) : ∀ a l c, cs = [.slice a l c] → l ≤ 4398046511104 := by
  intro a0 l0 c0 e0
  rcases Deep.open_slice Try.underlying29 h with ⟨hcs, _⟩ | ⟨a, len, cap, m, n, D, Pl, hcs, _, hl, hm, hmm, hx, _⟩
  · rw [e0] at hcs
    simp at hcs
    omega
  · rw [e0] at hcs
    simp at hcs
    obtain ⟨_, h2, _⟩ := hcs
    rw [hx] at hsz
    unfold DataW.weights at hsz
    simp only [Try.underlying29] at hsz
    rw [List.all_cons, Bool.and_eq_true] at hsz
    have h1 := of_decide_eq_true hsz.1
    rw [bVal2] at h1
    simp [reachBytes] at h1
    omega
set_option maxRecDepth 100000 in
theorem rec_sz {fuel : Nat} {cs : List Value} {x : DataW H × List MemPlace} (h : DataW.trod enc Try.prog w 0 spare held fuel 31 cs = some x) (hsz : (x.1.weights Try.prog 31).all (· ≤ reachBytes) = true) : ∀ s a l c, cs = [s, .slice a l c] → l ≤ 4398046511104 := by
  intro s0 a0 l0 c0 e0
  obtain ⟨xs, n, _, hx, hl, hlen, hf⟩ := DataW.trod_struct Try.underlying31 h
  have hl2 : xs.length = 2 := hlen
  obtain ⟨x0, e0'⟩ := some_of (i := 0) hl2 (by decide)
  obtain ⟨x1, e1'⟩ := some_of (i := 1) hl2 (by decide)
  have h1 := (hf 1 _ rfl).trans e1'
  subst e0
  refine vals_sz (cs := [.slice a0 l0 c0]) (x := x1) (by simpa [cInt64, cVls] using h1) ?_ a0 l0 c0 rfl
  have hxs : xs = [x0, x1] := by
    match xs, hl2 with
    | [y0, y1], _ => simp at e0' e1'; rw [e0', e1']
  rw [hx, hxs] at hsz
  unfold DataW.weights at hsz
  simp only [Try.underlying31] at hsz
  simp only [List.map_cons, List.map_nil, DataW.weightsEach, List.all_append, Bool.and_eq_true] at hsz
  exact hsz.2.1
end
theorem weightsAll_all {H : Type} {P : Program} {e : TypeId} {q : Nat → Bool} : ∀ {l : List (DataW H)}, (DataW.weightsAll P e l).all q = true → ∀ d ∈ l, (d.weights P e).all q = true
  | [], _, d, hd => absurd hd (by simp)
  | y :: r, h, d, hd => by
    rw [DataW.weightsAll, List.all_append, Bool.and_eq_true] at h
    rcases List.mem_cons.1 hd with e | hd
    · rw [e]; exact h.1
    · exact weightsAll_all h.2 d hd
set_option maxRecDepth 100000 in
theorem open_recsz2 {H : Type} {enc : TypeId × Value → H} {w : World} {r : Reach} {b0 : Nat} {v : Value} {d : DataW H} {p : List MemPlace} (hv : Value.okWide Try.prog w r b0 24 v) (h : DataW.Trod enc Try.prog w 0 (fun _ => true) true 24 v d p)
    (hsz : (d.weights Try.prog 24).all (· ≤ reachBytes) = true) : ∃ us, RecsAt w w.heap.size v us ∧ us.length ≤ 4398046511104 ∧ ∀ u ∈ us, u.row.length ≤ 4398046511104 := by
  obtain ⟨us, hus⟩ := open_recs hv h
  refine ⟨us, hus, ?_⟩
  obtain ⟨fuel, hf⟩ := h
  obtain ⟨a0, c0, rfl⟩ := recs_end hus
  rcases Deep.open_slice Try.underlying24 hf with ⟨hcs, _⟩ | ⟨a, len, cap, m, n, D, Pl, hcs, _, hl, hm, hmm, hx, hel⟩
  · simp [Value.cells] at hcs
    have e : us = [] := by simp [hcs.2.1]
    subst e
    exact ⟨by simp, fun u hu => absurd hu (by simp)⟩
  · simp [Value.cells] at hcs
    obtain ⟨h1, h2, _⟩ := hcs
    have hd : d = .slice ((List.range len).map D) ((List.range (m - len)).map fun j => D (len + j)) := congrArg Prod.fst hx
    rw [hd] at hsz
    unfold DataW.weights at hsz
    simp only [Try.underlying24] at hsz
    rw [List.all_cons, Bool.and_eq_true, List.all_append, Bool.and_eq_true] at hsz
    obtain ⟨hs1, hs2, _⟩ := hsz
    have g1 := of_decide_eq_true hs1
    rw [bRec2] at g1
    simp [reachBytes] at g1
    refine ⟨by omega, fun u hu => ?_⟩
    obtain ⟨i, hi, rfl⟩ := List.getElem_of_mem hu
    have hil : i < len := by omega
    have him : i < m := by rw [hmm]; simp; omega
    obtain ⟨cs', k1, k2⟩ := hel i him
    obtain ⟨_, k3, k4⟩ := World.cells?_some k1
    rw [cRec] at k3 k4
    obtain ⟨b, o, ha, _, _, q0, lv, q1, q2⟩ := recs_in hus hi
    subst h1
    injection ha with ha
    subst ha
    obtain ⟨la, lc, rfl⟩ := vals_end q2
    simp only [add_nil] at k4
    have z0 : cs'[0]? = some (Value.int .i64 (us[i]'hi).seq) := (k4 0 (by decide)).symm.trans q0
    have z1 : cs'[1]? = some (Value.slice la (us[i]'hi).row.length lc) := (k4 1 (by decide)).symm.trans q1
    have ec : cs' = [.int .i64 (us[i]'hi).seq, .slice la (us[i]'hi).row.length lc] := by
      match cs', k3 with
      | [y0, y1], _ => simp at z0 z1; rw [z0, z1]
    exact rec_sz k2 (weightsAll_all hs2 (D i) (List.mem_map.2 ⟨i, List.mem_range.2 hil, rfl⟩)) _ _ _ _ ec
set_option maxRecDepth 100000 in
theorem batchSplits_lifted (os : Os) (started : os.Started) (H : Type) (enc : TypeId × Value → H) :
    ReturnsInHanded {} Try.checked os 10 .any (Rows.batchSplitsSpec.pre6 enc Try.prog Try.f10 Rows.batchSplitsRow.domain false) (Rows.batchSplitsSpec.post enc Try.prog Try.f10 false true false false) := by
  refine lifted_of_walk_sized (C := Try.checked) (tb := 4) own started (by kernel_rfl) Try.func10
    (ChangeSpec.witness6 (enc := enc) (C := Try.checked) false ⟨#[], #[.slice none 0 0, .int .i64 0, .slice none 0 0, .slice none 0 0], []⟩ 8 (by kernel_rfl) (by kernel_rfl) (by kernel_rfl) (by kernel_rfl))
    laid (params_ok (by kernel_rfl)) (by kernel_rfl) Try.underlying4 rfl
    (fun ds hds => by match ds, hds with | [d0, d1, d2, d3], _ => exact ⟨rfl, rfl, rfl⟩) ?_
  intro W base args ds ps gs hval0 hA0 hsz
  have hval : ∀ (j : Nat) t v, Try.f10.params[j]? = some t → args[j]? = some v → Value.okWide Try.prog W .any base t v := hval0
  have hA : DataW.TrodAll enc Try.prog W 0 (fun _ => true) true Try.f10.params.toList args.toList ds ps := hA0
  rw [Try.params10] at hA hval
  obtain ⟨v0, vs0, d0, ds0, p0, q0, hargs, rfl, rfl, h0, r0⟩ := trodAll_cons hA
  obtain ⟨v1, vs1, d1, ds1, p1, q1, rfl, rfl, rfl, h1, r1⟩ := trodAll_cons r0
  obtain ⟨v2, vs2, d2, ds2, p2, q2, rfl, rfl, rfl, h2, r2⟩ := trodAll_cons r1
  obtain ⟨v3, vs3, d3, ds3, p3, q3, rfl, rfl, rfl, h3, r3⟩ := trodAll_cons r2
  obtain ⟨rfl, rfl, rfl⟩ := trodAll_nil r3
  obtain rfl : args = #[v0, v1, v2, v3] := by cases args; simp_all
  obtain ⟨rrs, hrr, hrl, hrw⟩ := open_recsz2 (hval 0 _ v0 rfl rfl) h0 (sized_head hsz)
  obtain ⟨kn, rfl, hkn⟩ := open_i64 Try.underlying3 (hval 1 _ v1 rfl rfl) h1
  obtain ⟨l2, y2⟩ := open_intsv Try.underlying36 Try.underlying3 cells3 (hval 2 _ v2 rfl rfl) h2
  obtain ⟨l3, y3⟩ := open_intsv Try.underlying36 Try.underlying3 cells3 (hval 3 _ v3 rfl rfl) h3
  exact bsl_walk _ _ _ _ _ _ _ _ hrr hrl hrw hkn y2 y3

theorem batchSplits_holds : Rows.BatchSplitsSaid :=
  OpenClaim.holds_of_wide 10 Try.f10 rfl rfl rfl rfl rfl rfl rfl ⟨rfl, rfl, rfl, rfl, rfl⟩ rfl rfl rfl rfl rfl (by kernel_rfl) Try.func10 (by kernel_rfl)
    (of_decide_eq_true (by kernel_rfl)) (by unfold Func.isWrapper; first | (rw [if_pos (by decide +kernel)]; kernel_rfl) | (rw [if_neg (by decide +kernel)]; exact ⟨rfl, rfl⟩))
    (fun os started H enc _ => batchSplits_lifted os started H enc)
#print axioms batchSplits_holds
end Go.Proofs.Ytkblkjfejaflkaa
