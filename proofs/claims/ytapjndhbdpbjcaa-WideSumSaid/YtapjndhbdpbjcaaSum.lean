/-
  WIDESUM: the walk and the statement. Conditions: none.
-/
import Derived.Test.YtapjndhbdpbjcaaGroup
import Derived.Test.YtapjndhbdpbjcaaFloat
import Derived.Lib.Hide
import Derived.Deep.LoopGhost
import Derived.Deep.CutBlock
import Derived.ChangeSlices
import Derived.SizedLaws
set_option linter.unusedVariables false
set_option linter.unusedSimpArgs false
namespace Go.Proofs.Ytapjndhbdpbjcaa
open Go.RowKit Go.ChangeShapes Go.WideShapes Go.ChangeAt
/-! ### the plain law -/
def hiOf (s : Int) : Int := (s / 18446744073709551616 + 9223372036854775808) % 18446744073709551616 - 9223372036854775808
def loOf (s : Int) : Int := s % 18446744073709551616
theorem isU_loOf (s : Int) : isU (loOf s) := by unfold isU loOf; omega
theorem addHi_sum (s : Int) {x : Int} (hx : isI x) : addHi (hiOf s) (loOf s) (ofHi x) (ofLo x) = hiOf (s + x) := by
  rw [addHi_eq, ofLo_eq]
  have h1 : hiOf s = s / 18446744073709551616 - 18446744073709551616 * ((s / 18446744073709551616 + 9223372036854775808) / 18446744073709551616) := by unfold hiOf; omega
  have h2 : s / 18446744073709551616 + (ofHi x + (loOf s + x % 18446744073709551616) / 18446744073709551616) = (s + x) / 18446744073709551616 := by
    unfold ofHi loOf isI at *
    rcases Int.lt_or_le x 0 with hn | hn
    · rw [show x / 9223372036854775808 = -1 by omega, show x % 18446744073709551616 = x + 18446744073709551616 by omega]; omega
    · rw [show x / 9223372036854775808 = 0 by omega, show x % 18446744073709551616 = x by omega]; omega
  rw [h1]
  generalize (s / 18446744073709551616 + 9223372036854775808) / 18446744073709551616 = a
  unfold hiOf
  rw [← h2]
  generalize s / 18446744073709551616 = q
  generalize (loOf s + x % 18446744073709551616) / 18446744073709551616 = c
  omega
theorem addLo_sum (s x : Int) : addLo (loOf s) (ofLo x) = loOf (s + x) := by
  rw [addLo_eq, ofLo_eq]; unfold loOf; omega
def sumF (f : Nat → Int) : Nat → Int
  | 0 => 0
  | k + 1 => sumF f k + f k
theorem sumF_add (f : Nat → Int) (a b : Nat) : sumF f (a + b) = sumF f a + sumF (fun i => f (a + i)) b := by
  induction b with
  | zero => simp [sumF]
  | succ b ih => rw [← Nat.add_assoc, sumF, ih, sumF]; omega
theorem sumF_congr {f g : Nat → Int} {n : Nat} (h : ∀ i, i < n → f i = g i) : sumF f n = sumF g n := by
  induction n with
  | zero => rfl
  | succ n ih => rw [sumF, sumF, ih fun i hi => h i (by omega), h n (by omega)]
theorem sumF_turn (f : Nat → Int) {n k : Nat} (h : k ≤ n) : sumF (fun i => f ((i + k) % n)) n = sumF f n := by
  have e1 : n = (n - k) + k := by omega
  have e2 : n = k + (n - k) := by omega
  have a := sumF_add (fun i => f ((i + k) % n)) (n - k) k
  have b := sumF_add f k (n - k)
  rw [← e1] at a
  rw [← e2] at b
  rw [a, b]
  have c : sumF (fun i => f ((i + k) % n)) (n - k) = sumF (fun i => f (k + i)) (n - k) := sumF_congr fun i hi => by
    show f ((i + k) % n) = f (k + i)
    rw [Nat.mod_eq_of_lt (by omega), Nat.add_comm]
  have d : sumF (fun i => f ((n - k + i + k) % n)) k = sumF f k := sumF_congr fun i hi => by
    show f ((n - k + i + k) % n) = f i
    rw [show n - k + i + k = i + n by omega, Nat.add_mod_right, Nat.mod_eq_of_lt (by omega)]
  rw [c, d]; omega
/-! ### the list and the choice -/
def pickI (v n : Int) : Int := v % 18446744073709551616 % n
theorem pickI_bd (v : Int) {n : Int} (h : 0 < n) : 0 ≤ pickI v n ∧ pickI v n < n := ⟨Int.emod_nonneg _ (by omega), Int.emod_lt_of_pos _ h⟩
theorem pick_eq (v n : Int) (h0 : 0 < n) (h1 : n < 9223372036854775808) : wrap64 ((IntKind.u64.wrap v).tmod n) = pickI v n := by
  have e : ∀ x : Int, IntKind.u64.wrap x = x % 18446744073709551616 := fun x => by simp [IntKind.wrap, IntKind.bits, IntKind.signed]
  have b := pickI_bd v h0
  unfold pickI at b ⊢
  rw [e, Int.tmod_eq_emod_of_nonneg (by omega)]
  unfold wrap64
  omega
set_option maxHeartbeats 400000 in
theorem pick_any (v n : Int) (h0 : 0 < n) (h1 : n < 9223372036854775808) (w : World) :
    Calls Try.prog 13 #[.int .i64 v, .int .i64 n] w fun e w' => e = .returned (.int .i64 (pickI v n)) ∧ w = w' := by
  have e0 : IntKind.u64.wrap n = n := by simp [IntKind.wrap, IntKind.bits, IntKind.signed]; omega
  have e1 := pick_eq v n h0 h1
  go_enter Try.func13, Try.ntmps13
  go_wp2
  go_ret
  exact ⟨by rw [← e1]; rfl, rfl⟩
def IntsAt (w : World) (B : Nat) (v : Value) (zs : List Int) : Prop :=
  (∀ z ∈ zs, isI z) ∧ zs.length ≤ 9223372036854775807 ∧
    ((zs = [] ∧ ∃ a c, v = .slice a 0 c) ∨ ∃ b o c, v = .slice (some ⟨b, o, none⟩) zs.length c ∧ b < B ∧ ∀ j, j < zs.length → w.cell? ⟨b, o + j, none⟩ = some (.int .i64 (zs.getD j 0)))
theorem ints_end {w : World} {B : Nat} {v : Value} {zs : List Int} (h : IntsAt w B v zs) : ∃ a c, v = .slice a zs.length c := by
  rcases h.2.2 with ⟨e, a, c, rfl⟩ | ⟨b, o, c, rfl, _⟩
  · exact ⟨a, c, by rw [e]; rfl⟩
  · exact ⟨_, c, rfl⟩
theorem ints_in {w : World} {B : Nat} {v : Value} {zs : List Int} (h : IntsAt w B v zs) {i : Nat} (hi : i < zs.length) : ∃ b o c, v = .slice (some ⟨b, o, none⟩) zs.length c ∧ b < B ∧ ∀ j, j < zs.length → w.cell? ⟨b, o + j, none⟩ = some (.int .i64 (zs.getD j 0)) := by
  rcases h.2.2 with ⟨e, _⟩ | h
  · rw [e] at hi; simp at hi
  · exact h

theorem open_intsz {H : Type} {enc : TypeId × Value → H} {P : Program} {w : World} {r : Reach} {b0 : Nat} {t e : TypeId} {v : Value} {d : DataW H} {p : List MemPlace} (ht : P.underlying t = some (.slice e)) (he : P.underlying e = some (.int .i64)) (hc : P.cellsOf e = 1) (hb8 : P.bytesOf e = 8)
    (hv : Value.okWide P w r b0 t v) (h : DataW.Trod enc P w 0 (fun _ => true) true t v d p) (hsz : (d.weights P t).all (· ≤ reachBytes) = true) : ∃ zs, IntsAt w w.heap.size v zs ∧ zs.length ≤ 17592186044416 := by
  obtain ⟨a, l, c, rfl⟩ := okWide_slice ht hv
  obtain ⟨fuel, hf⟩ := h
  rcases open_ints ht he hc hf with ⟨hcs, _⟩ | ⟨ad, l', c', zs, hcs, _, hl, hm, hz, hx, hcell, hw⟩
  · simp [Value.cells] at hcs
    obtain ⟨rfl, rfl, rfl⟩ := hcs
    exact ⟨[], ⟨by simp, by simp, .inl ⟨rfl, _, _, rfl⟩⟩, by simp⟩
  · simp [Value.cells] at hcs
    obtain ⟨rfl, rfl, rfl⟩ := hcs
    simp at hz
    have hlen : (zs.take l).length = l := by simp; omega
    have hd : d = .slice (lits .i64 (zs.take l)) (lits .i64 (zs.drop l)) := congrArg Prod.fst hx
    have hl44 : l ≤ 17592186044416 := by
      rw [hd] at hsz
      unfold DataW.weights at hsz
      simp only [ht] at hsz
      rw [List.all_cons, Bool.and_eq_true] at hsz
      have h1 := of_decide_eq_true hsz.1
      simp [reachBytes, hb8, lits] at h1
      omega
    refine ⟨zs.take l, ⟨fun z hz' => ?_, ?_, ?_⟩, by omega⟩
    · have := hw z (List.mem_of_mem_take hz')
      simp [Lit.wf, IntKind.min, IntKind.max, IntKind.signed, IntKind.bits] at this
      unfold isI; omega
    · rw [hlen]; unfold maxLen at hm; omega
    · by_cases h0 : l = 0
      · subst h0; exact .inl ⟨by simp, _, _, rfl⟩
      · obtain ⟨b, o, s⟩ := ad
        have c0 := hcell 0 (by omega)
        have hs : s = none := by
          cases s with
          | none => rfl
          | some s => exfalso; simp only [World.cell?, Addr.add] at c0; split at c0 <;> simp at c0
        subst hs
        refine .inr ⟨b, o, c, by rw [hlen], ?_, fun j hj => ?_⟩
        · rcases Nat.lt_or_ge b w.heap.size with h1 | h1
          · exact h1
          · have : w.heap[b]? = none := Array.getElem?_eq_none h1
            simp [World.cell?, Addr.add, this] at c0
        · have := hcell j (by omega)
          rw [hlen] at hj
          have e : (zs.take l).getD j 0 = zs.getD j 0 := by simp [List.getD_eq_getElem?_getD, List.getElem?_take, hj]
          rw [e]
          by_cases hj0 : j = 0 <;> simpa [Addr.add, hj0] using this
theorem sized_head {H : Type} {P : Program} {t : TypeId} {ts : List TypeId} {d : DataW H} {ds : List (DataW H)} (h : (DataW.weightsEach P (t :: ts) (d :: ds)).all (· ≤ reachBytes) = true) : (d.weights P t).all (· ≤ reachBytes) = true := by
  rw [DataW.weightsEach, List.all_append, Bool.and_eq_true] at h
  exact h.1
theorem lifted_of_walk_sized {H : Type} {enc : TypeId × Value → H} {C : Checked} {os : Os} {f : FuncId} {fn : Func} {s : ChangeSpec} {tb : TypeId}
    (own : ownKnob C.prog.godebug = none) (started : os.Started) (noInit : C.prog.inits.idxOf? f = none) (hfn : C.prog.funcs[f]? = some fn)
    (witness : ∃ (w : World) (tape : Tape) (i : Input), w.os = os ∧ (w.forCall tape i).Shaped C.prog ∧ i.vars = [] ∧ Input.okWide C.prog (w.forCall tape i) .any w.heap.size f i ∧
      s.pre6 enc C.prog fn [] false (w.forCall tape i).memory i.args ∧ ({} : Assume).holds C.prog (lone (Frame.enter C.prog f i.args .normal) [] (w.forCall tape i)))
    (hl : laidOutB C.prog = true) (hr : ∀ t ∈ fn.params.toList, C.prog.readableRec t = true ∧ t < C.prog.types.size) (hrt : fn.resultTypes = #[tb]) (htb : C.prog.underlying tb = some .bool) (hv : s.vars = [])
    (hs : ∀ ds : List (DataW H), ds.length = fn.params.size → (s.fn H ds).results = [.lit (.bool true)] ∧ (s.fn H ds).args = ds ∧ (s.fn H ds).vars = [])
    (walk : ∀ (W : World) (base : Nat) (args : Array Value) (ds : List (DataW H)) (ps : List MemPlace) (gs : List (DataW H)), (∀ (j : Nat) t v, fn.params[j]? = some t → args[j]? = some v → Value.okWide C.prog W .any base t v) →
      DataW.TrodAll enc C.prog W 0 (fun _ => true) true fn.params.toList args.toList ds ps → (DataW.weightsEach C.prog (fn.params.toList ++ s.plain.varTypes C.prog) (ds ++ gs)).all (· ≤ reachBytes) = true → Calls C.prog f args W fun e W' => e = .returned (.bool true) ∧ Below W.heap.size W W') :
    ReturnsInHanded {} C os f .any (s.pre6 enc C.prog fn [] false) (s.post enc C.prog fn false true false false) := by
  refine returnsInHanded_of_change_sized (C := C) own started noInit hfn witness ?_
  intro W base args ds gs before hval hW _ hsz _
  have hW' := hW
  obtain ⟨p, q, hA, _, _, _, _⟩ := hW'
  exact (walk W base args ds p gs hval hA hsz).mono fun e W' ⟨he, hb⟩ => ⟨_, he, post_true hl hr hrt htb hv hs hW hb⟩
theorem captureE {P : Program} {c : Code} {Q : Exit → Act → World → Prop} {a : Act} {W : World} (h : ∀ y : Ext W, y.it = W → c.wp P Q a y.it) : c.wp P Q a W := h ⟨W, Below.refl _ _⟩ rfl
set_option maxRecDepth 8000 in
set_option maxHeartbeats 4000000 in
theorem sum_walk (v : Value) (zs : List Int) (t : Int) (w : World) (hi : IntsAt w w.heap.size v zs) (hz : zs.length ≤ 17592186044416) :
    Calls Try.prog 4 #[v, .int .i64 t] w fun e w' => e = .returned (.bool true) ∧ Below w.heap.size w w' := by
  have HI := Lib.hid hi
  have ISI := Lib.hid hi.1
  obtain ⟨a, c, rfl⟩ := ints_end hi
  clear hi
  generalize hn : zs.length = n at *
  have hw1 : wrap64 ((n : Int) + 1) = n + 1 := by rw [wrap64_eq]; omega
  obtain ⟨K, hK⟩ : ∃ K : Nat, pickI t ((n : Int) + 1) = K := ⟨(pickI t (n + 1)).toNat, by have := pickI_bd t (n := (n : Int) + 1) (by omega); omega⟩
  have hKn : K ≤ n := by have := pickI_bd t (n := (n : Int) + 1) (by omega); omega
  obtain ⟨f, hf⟩ : ∃ f : Nat → Int, f = fun i => zs.getD i 0 := ⟨_, rfl⟩
  obtain ⟨g, hg⟩ : ∃ g : Nat → Int, g = fun i => f ((i + K) % n) := ⟨_, rfl⟩
  have FI : ∀ i, isI (f i) := by
    intro i
    rw [hf]
    by_cases h : i < zs.length
    · have := ISI.out (zs.getD i 0) (by rw [List.getD_eq_getElem?_getD, List.getElem?_eq_getElem h]; exact List.getElem_mem h)
      exact this
    · have : zs.getD i 0 = 0 := by rw [List.getD_eq_getElem?_getD, List.getElem?_eq_none (by omega)]; rfl
      show isI (zs.getD i 0)
      rw [this]; unfold isI; omega
  have hS : sumF g n = sumF f n := by rw [hg]; exact sumF_turn f hKn
  have EQ := Lib.hid (show eqW (hiOf (sumF f n)) (loOf (sumF f n)) (hiOf (sumF g n)) (loOf (sumF g n)) = true by rw [hS]; exact eqW_of rfl rfl)
  have HF := Lib.hid hf
  have HG := Lib.hid hg
  have FI' := Lib.hid FI
  have HN := Lib.hid hn
  clear hf hg FI hS hn ISI
  have S1 : ∀ f : Nat → Int, hiOf (sumF f 0) = 0 := fun f => by show hiOf 0 = 0; decide
  have S2 : ∀ f : Nat → Int, loOf (sumF f 0) = 0 := fun f => by show loOf 0 = 0; decide
  go_enter Try.func4, Try.ntmps4
  go_upto_region 3 with (go_at_call 13; refine (pick_any _ _ (by omega) (by omega) _).mono ?_; rintro e w1 ⟨rfl, rfl⟩)
  go_wp2_with fail
  go_loopg [18] n (fun gg s18 wr => ∃ k : Nat, k + gg = n ∧ s18 = .int .i64 k ∧ wr.cell? ⟨w.heap.size, 0, none⟩ = some (.int .i64 (hiOf (sumF f k))) ∧ wr.cell? ⟨w.heap.size, 1, none⟩ = some (.int .u64 (loOf (sumF f k))) ∧ wr.cell? ⟨w.heap.size + 1, 0, none⟩ = some (.int .i64 (hiOf (sumF g k))) ∧ wr.cell? ⟨w.heap.size + 1, 1, none⟩ = some (.int .u64 (loOf (sumF g k))) ∧ (∀ j, wr.frozen? ⟨w.heap.size, j, none⟩ = false) ∧ (∀ j, wr.frozen? ⟨w.heap.size + 1, j, none⟩ = false) ∧ w.heap.size + 1 < wr.heap.size ∧ Below w.heap.size w wr)
  case atStart => exact ⟨0, by omega, rfl, by simp (maxDischargeDepth := 9) [go_sem, *], by simp (maxDischargeDepth := 9) [go_sem, *], by simp (maxDischargeDepth := 9) [go_sem, *], by simp (maxDischargeDepth := 9) [go_sem, *], by intro j; simp [go_sem], by intro j; simp [go_sem], by simp, by repeat (first | with_reducible exact Below.refl _ _ | with_reducible assumption | with_reducible refine Below.al ?_ _ | with_reducible refine Below.on ?_ _ | with_reducible refine Below.st ?_ (by first | assumption | (simp; done) | (simp; omega)) _ | with_reducible refine Below.drew ?_)⟩
  case round =>
    obtain ⟨k, hk, rfl, c1, c2, c3, c4, fx, fy, sz, bel⟩ := hrel
    by_cases hg0 : gk = 0
    · subst hg0
      obtain rfl : k = n := by omega
      have eq := EQ.out
      have zx : w.heap.size < wr.heap.size := by omega
      go_wp2_with (go_at_call 9; refine (awake_any _).mono ?_; rintro e w1 ⟨rfl, hb1⟩; obtain ⟨x1, rfl⟩ := Ext.of hb1)
      exact bodyPost_ret (v := .bool true) (by simp [results, Try.results4, go_sem, *]) rfl (⟨rfl, by repeat (first | with_reducible exact Below.refl _ _ | with_reducible assumption | with_reducible refine Below.al ?_ _ | with_reducible refine Below.on ?_ _ | with_reducible refine Below.st ?_ (by first | assumption | (simp; done) | (simp; omega)) _ | with_reducible refine Below.drew ?_)⟩)
    · have hkn : k < n := by omega
      have hkn' : (k : Int) < n := by omega
      obtain ⟨b, o, c', hv, hb, hcell⟩ := ints_in HI.out (i := k) (by rw [HN.out]; exact hkn)
      have ha : a = some ⟨b, o, none⟩ := by injection hv
      subst ha
      obtain ⟨y, rfl⟩ := Ext.of bel
      obtain ⟨m, hm⟩ : ∃ m : Nat, (k + K) % n = m := ⟨_, rfl⟩
      have hmn : m < n := by rw [← hm]; exact Nat.mod_lt _ (by omega)
      have hmn' : (m : Int) < n := by omega
      have hw2 : wrap64 ((k : Int) + K) = k + K := by rw [wrap64_eq]; omega
      have hw3 : ((k : Int) + K).tmod n = m := by rw [Int.tmod_eq_emod_of_nonneg (Int.add_nonneg (Int.natCast_nonneg k) (Int.natCast_nonneg K)), ← hm]; push_cast; rfl
      have hn0 : ¬ (n : Int) = 0 := by omega
      have hn1 : ¬ n = 0 := by omega
      have fk : y.it.cell? ⟨b, o + k, none⟩ = some (.int .i64 (f k)) := (y.cell b (o + k) hb).trans (by rw [hcell k (by rw [HN.out]; exact hkn), HF.out])
      have gck : y.it.cell? ⟨b, o + m, none⟩ = some (.int .i64 (g k)) := (y.cell b (o + m) hb).trans (by rw [hcell m (by rw [HN.out]; exact hmn), HG.out]; show _ = some (Value.int .i64 (f ((k + K) % n))); rw [hm, HF.out])
      have A1 : addHi (hiOf (sumF f k)) (loOf (sumF f k)) (ofHi (f k)) (ofLo (f k)) = hiOf (sumF f (k + 1)) := addHi_sum _ (FI'.out k)
      have A2 : addLo (loOf (sumF f k)) (ofLo (f k)) = loOf (sumF f (k + 1)) := addLo_sum _ _
      have A3 : addHi (hiOf (sumF g k)) (loOf (sumF g k)) (ofHi (g k)) (ofLo (g k)) = hiOf (sumF g (k + 1)) := addHi_sum _ (by rw [HG.out]; exact FI'.out _)
      have A4 : addLo (loOf (sumF g k)) (ofLo (g k)) = loOf (sumF g (k + 1)) := addLo_sum _ _
      have zb : b < y.it.heap.size := y.lt hb
      have zx : w.heap.size < y.it.heap.size := by omega
      have bx : b ≠ w.heap.size := by omega
      have by' : b ≠ w.heap.size + 1 := by omega
      have hk' := Lib.hid hk
      have hm' := Lib.hid hm
      clear hk hg0 hv hcell hm
      go_upto_region 6 with fail
      refine wp_region_ext_tail 7 (by kernel_rfl) (by kernel_rfl) ?_
      dsimp only [List.take, List.drop]
      repeat (go_big_quiet_step ((first | (go_at_call 12; exact Calls.ext (of_any _ _)) | (go_at_call 10; exact Calls.ext (add_any _ _ _ _ (isU_loOf _) (isU_ofLo _) _)))))
      refine wpQuiet_nil ?_
      rintro _ ⟨x6, rfl⟩
      go_upto_region 7 with fail
      refine captureE ?_
      intro y7 e7
      have d1 : y7.it.cell? ⟨w.heap.size, 0, none⟩ = some (.int .i64 (hiOf (sumF f (k + 1)))) := by simp (maxDischargeDepth := 9) [go_sem, *]
      have d2 : y7.it.cell? ⟨w.heap.size, 1, none⟩ = some (.int .u64 (loOf (sumF f (k + 1)))) := by simp (maxDischargeDepth := 9) [go_sem, *]
      have d3 : y7.it.cell? ⟨w.heap.size + 1, 0, none⟩ = some (.int .i64 (hiOf (sumF g k))) := by simp (maxDischargeDepth := 9) [go_sem, *]
      have d4 : y7.it.cell? ⟨w.heap.size + 1, 1, none⟩ = some (.int .u64 (loOf (sumF g k))) := by simp (maxDischargeDepth := 9) [go_sem, *]
      have d5 : y7.it.cell? ⟨b, o + m, none⟩ = some (.int .i64 (g k)) := by simp (maxDischargeDepth := 9) [go_sem, *]
      have dx : ∀ j, y7.it.frozen? ⟨w.heap.size, j, none⟩ = false := by intro j; simp [go_sem, *]
      have dy : ∀ j, y7.it.frozen? ⟨w.heap.size + 1, j, none⟩ = false := by intro j; simp [go_sem, *]
      have z0 : w.heap.size < y7.it.heap.size := by rw [e7]; simp only [World.size_setCell]; exact x6.lt zx
      have z1 : w.heap.size + 1 < y7.it.heap.size := by rw [e7]; simp only [World.size_setCell]; exact x6.lt sz
      have z2 : b < y7.it.heap.size := by omega
      have b7 : Below w.heap.size w y7.it := by rw [e7]; exact (by repeat (first | with_reducible exact Below.refl _ _ | with_reducible assumption | with_reducible refine Below.al ?_ _ | with_reducible refine Below.on ?_ _ | with_reducible refine Below.st ?_ (by first | assumption | (simp; done) | (simp; omega)) _ | with_reducible refine Below.drew ?_))
      clear e7 c1 c2 c3 c4 fx fy fk gck A1 A2
      refine wp_region_ext_tail 12 (by kernel_rfl) (by kernel_rfl) ?_
      dsimp only [List.take, List.drop]
      repeat (go_big_quiet_step ((first | (go_at_call 12; exact Calls.ext (of_any _ _)) | (go_at_call 10; exact Calls.ext (add_any _ _ _ _ (isU_loOf _) (isU_ofLo _) _)))))
      refine wpQuiet_nil ?_
      rintro _ ⟨x7, rfl⟩
      go_wp2
      go_roundg (gk - 1)
      case measure => have := hk'.out; omega
      case rel => exact ⟨k + 1, by have := hk'.out; omega, by go_num, by simp (maxDischargeDepth := 9) [go_sem, *], by simp (maxDischargeDepth := 9) [go_sem, *], by simp (maxDischargeDepth := 9) [go_sem, *], by simp (maxDischargeDepth := 9) [go_sem, *], by intro j; simp [go_sem, *], by intro j; simp [go_sem, *], by simp only [World.size_setCell]; exact x7.lt z1, by repeat (first | with_reducible exact Below.refl _ _ | with_reducible assumption | with_reducible refine Below.al ?_ _ | with_reducible refine Below.on ?_ _ | with_reducible refine Below.st ?_ (by first | assumption | (simp; done) | (simp; omega)) _ | with_reducible refine Below.drew ?_)⟩
set_option maxRecDepth 100000 in
theorem wideSum_lifted (os : Os) (started : os.Started) (H : Type) (enc : TypeId × Value → H) :
    ReturnsInHanded {} Try.checked os 4 .any (Rows.wideSumSpec.pre6 enc Try.prog Try.f4 Rows.wideSumRow.domain false) (Rows.wideSumSpec.post enc Try.prog Try.f4 false true false false) := by
  refine lifted_of_walk_sized (C := Try.checked) (tb := 4) own started (by kernel_rfl) Try.func4
    (ChangeSpec.witness6 (enc := enc) (C := Try.checked) false ⟨#[], #[.slice none 0 0, .int .i64 0], []⟩ 8 (by kernel_rfl) (by kernel_rfl) (by kernel_rfl) (by kernel_rfl))
    laid (params_ok (by kernel_rfl)) (by kernel_rfl) Try.underlying4 rfl
    (fun ds hds => by match ds, hds with | [d0, d1], _ => exact ⟨rfl, rfl, rfl⟩) ?_
  intro W base args ds ps gs hval0 hA0 hsz
  have hval : ∀ (j : Nat) t v, Try.f4.params[j]? = some t → args[j]? = some v → Value.okWide Try.prog W .any base t v := hval0
  have hA : DataW.TrodAll enc Try.prog W 0 (fun _ => true) true Try.f4.params.toList args.toList ds ps := hA0
  rw [Try.params4] at hA hval
  obtain ⟨v0, vs0, d0, ds0, p0, q0, hargs, rfl, rfl, h0, r0⟩ := trodAll_cons hA
  obtain ⟨v1, vs1, d1, ds1, p1, q1, rfl, rfl, rfl, h1, r1⟩ := trodAll_cons r0
  obtain ⟨rfl, rfl, rfl⟩ := trodAll_nil r1
  obtain rfl : args = #[v0, v1] := by cases args; simp_all
  obtain ⟨l, y0⟩ := open_intsz Try.underlying30 Try.underlying2 (by kernel_rfl) (by kernel_rfl) (hval 0 _ v0 rfl rfl) h0 (sized_head hsz)
  obtain ⟨t, rfl, ht0⟩ := open_i64 Try.underlying3 (hval 1 _ v1 rfl rfl) h1
  exact sum_walk _ _ _ _ y0.1 y0.2

theorem wideSum_holds : Rows.WideSumSaid :=
  OpenClaim.holds_of_wide 4 Try.f4 rfl rfl rfl rfl rfl rfl rfl ⟨rfl, rfl, rfl, rfl, rfl⟩ rfl rfl rfl rfl rfl (by kernel_rfl) Try.func4 (by kernel_rfl)
    (of_decide_eq_true (by kernel_rfl)) (by unfold Func.isWrapper; first | (rw [if_pos (by decide +kernel)]; kernel_rfl) | (rw [if_neg (by decide +kernel)]; exact ⟨rfl, rfl⟩))
    (fun os started H enc _ => wideSum_lifted os started H enc)
#print axioms wideSum_holds
end Go.Proofs.Ytapjndhbdpbjcaa
