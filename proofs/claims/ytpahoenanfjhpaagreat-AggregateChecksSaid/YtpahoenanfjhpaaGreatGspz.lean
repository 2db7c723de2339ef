/-
  GROUPS under way: a list of lists of rows, each in a block of its own. Conditions: each theorem states its own.
-/
import Derived.Test.YtpahoenanfjhpaaGreatZh
import Derived.Test.YtpahoenanfjhpaaGreatZg
import Derived.Test.YtpahoenanfjhpaaGreatZs
import Derived.Test.YtpahoenanfjhpaaGreatNewz
import Derived.Laws.OwnMore
set_option linter.unusedVariables false
set_option linter.unusedSimpArgs false
namespace Go.Proofs.YtpahoenanfjhpaaGreat
open Go.RowKit Srt
theorem infoGrp : (Tryz.prog.info? 30).map (fun i => (i.zero, i.size, i.bytes)) = some (some (.slice none 0 0), 1, 24) := by kernel_rfl
/-- The groups: the slice of slices, the inner slices, and the elements (their slices and what they hold). -/
structure GM (base : Nat) (W : World) (v : Value) (hs : List Value) (gs : List (List (Value × List Val))) : Prop where
  len : hs.length = gs.length
  own : W.ownsRow base 30 1 v hs.length hs
  inn : ∀ k (h : k < hs.length) (h' : k < gs.length), W.ownsRow base 42 1 (hs[k]'h) (gs[k]'(h')).length ((gs[k]'(h')).map (·.1))
  dis : ∀ i j b (hi : i < hs.length) (hj : j < hs.length), i ≠ j → (hs[i]'hi).ownBlock = some b → (hs[j]'hj).ownBlock ≠ some b
  far : ∀ i b (hi : i < hs.length), (hs[i]'hi).ownBlock = some b → v.ownBlock ≠ some b
theorem GM.nil (base : Nat) (W : World) : GM base W (.slice none 0 0) [] [] := ⟨rfl, World.ownsRow_nil _ _ _ _, fun k h => absurd h (by simp), fun i j b hi => absurd hi (by simp), fun i b hi => absurd hi (by simp)⟩
theorem GM.on {base : Nat} {W W' : World} {v : Value} {hs : List Value} {gs : List (List (Value × List Val))} (h : GM base W v hs gs) (hb : Below W.heap.size W W') : GM base W' v hs gs :=
  ⟨h.len, own_to h.own hb, fun k h1 h2 => own_to (h.inn k h1 h2) hb, h.dis, h.far⟩
/-- The slice's form. -/
theorem GM.form {base : Nat} {W : World} {v : Value} {hs : List Value} {gs : List (List (Value × List Val))} (h : GM base W v hs gs) : ∃ a c, v = .slice a gs.length c := by
  have := own_form h.own
  rwa [h.len] at this
theorem GM.at {base : Nat} {W : World} {v : Value} {hs : List Value} {gs : List (List (Value × List Val))} (h : GM base W v hs gs) {k : Nat} (hk : k < gs.length) :
    ∃ g c, v = .slice (some ⟨g, 0, none⟩) gs.length c ∧ g < W.heap.size ∧ base ≤ g ∧ gs.length ≤ c ∧ ∃ hv, hs[k]? = some hv ∧ W.cell? ⟨g, k, none⟩ = some hv ∧ (∀ q, W.frozen? ⟨g, q, none⟩ = false) ∧ W.ownsRow base 42 1 hv (gs[k]'hk).length ((gs[k]'hk).map (·.1)) := by
  have hk' : k < hs.length := by rw [h.len]; exact hk
  have ho := h.own
  rcases h.own.2 with ⟨_, h0⟩ | ⟨g, c, cur, rfl, hb, _, hnc, _⟩
  · omega
  · refine ⟨g, c, by rw [h.len], (h.own.lt g rfl).2, hb, by rw [← h.len]; exact hnc, hs[k]'hk', List.getElem?_eq_getElem hk', ?_, fun q => ho.frozenAt q, h.inn k hk' hk⟩
    rw [ho.cellAt k (by omega)]; exact List.getElem?_eq_getElem hk'
/-- An element more in a group. -/
theorem GM.put {base g c k : Nat} {W W1 : World} {hs : List Value} {gs : List (List (Value × List Val))} {hv nv : Value} {x : Value × List Val} (h : GM base W (.slice (some ⟨g, 0, none⟩) gs.length c) hs gs) (hk : k < gs.length) (hh : hs[k]? = some hv)
    (hown : W1.ownsRow base 42 1 nv ((gs[k]'hk).length + 1) ((gs[k]'hk).map (·.1) ++ [x.1])) (hg : W.grownBy W1 hv.ownBlock) (hat : nv.ownBlock = hv.ownBlock ∨ nv.ownBlock = some W.heap.size) :
    GM base (W1.setCell ⟨g, k, none⟩ nv) (.slice (some ⟨g, 0, none⟩) gs.length c) (hs.set k nv) (gs.set k (gs[k]'hk ++ [x])) := by
  have hk' : k < hs.length := by rw [h.len]; exact hk
  obtain rfl : hs[k]'hk' = hv := by rw [List.getElem?_eq_getElem hk'] at hh; injection hh
  have hgb : g < W.heap.size := (h.own.lt g rfl).2
  have far0 : (hs[k]'hk').ownBlock ≠ some g := fun e => h.far k g hk' e rfl
  have ownW1 : W1.ownsRow base 30 1 (.slice (some ⟨g, 0, none⟩) gs.length c) gs.length hs := by
    have := h.own; rw [h.len] at this
    exact own_keep' this (fun b hb => by
      obtain rfl : g = b := by simpa [Value.ownBlock] using hb
      exact hg.block _ hgb (fun e => far0 e.symm))
  obtain ⟨s1, s2⟩ := ownW1.stored k nv
  have nvg : nv.ownBlock ≠ some g := fun e => by
    rcases hat with q | q
    · exact far0 (q.symm.trans e)
    · rw [q] at e; injection e with e; omega
  have other : ∀ b, b ≠ g → (W1.setCell ⟨g, k, none⟩ nv).heap[b]? = W1.heap[b]? := fun b hb => Below.heap_setCell _ _ _ b hb
  refine ⟨by simp [h.len], by rw [List.length_set, h.len]; exact s1, fun i hi hi' => ?_, fun i j b hi hj hne e1 e2 => ?_, fun i b hi e1 e2 => ?_⟩
  · simp only [List.length_set] at hi hi'
    by_cases e : k = i
    · subst e
      simp only [List.getElem_set_self, List.map_append, List.map_cons, List.map_nil, List.length_append, List.length_cons, List.length_nil]
      exact own_keep' hown fun b hb => other b (fun q => nvg (by rw [hb, q]))
    · rw [List.getElem_set_ne e, List.getElem_set_ne e]
      refine own_keep' (h.inn i hi hi') fun b hb => ?_
      have hb2 := (h.inn i hi hi').lt b hb
      have hbg : b ≠ g := fun q => h.far i b hi hb (by rw [q]; rfl)
      exact (other b hbg).trans (hg.block b hb2.2 (fun q => h.dis i k b hi hk' (fun q => e q.symm) hb q.symm))
  · simp only [List.length_set] at hi hj
    by_cases e : k = i
    · subst e
      rw [List.getElem_set_self] at e1
      rw [List.getElem_set_ne hne] at e2
      rcases hat with q | q
      · exact h.dis k j b hk' hj hne (q.symm.trans e1) e2
      · have := ((h.inn j hj (by rw [← h.len]; exact hj)).lt b e2).2
        rw [q] at e1; injection e1 with e1; omega
    · rw [List.getElem_set_ne e] at e1
      by_cases e' : k = j
      · subst e'
        rw [List.getElem_set_self] at e2
        rcases hat with q | q
        · exact h.dis i k b hi hk' hne e1 (q.symm.trans e2)
        · have := ((h.inn i hi (by rw [← h.len]; exact hi)).lt b e1).2
          rw [q] at e2; injection e2 with e2; omega
      · rw [List.getElem_set_ne e'] at e2
        exact h.dis i j b hi hj hne e1 e2
  · simp only [List.length_set] at hi
    obtain rfl : g = b := by simpa [Value.ownBlock] using e2
    by_cases e : k = i
    · subst e
      rw [List.getElem_set_self] at e1
      exact nvg e1
    · rw [List.getElem_set_ne e] at e1
      exact h.far i _ hi e1 rfl
/-- A group more. -/
theorem GM.new {base k : Nat} {W W3 : World} {v v3 nv : Value} {hs : List Value} {gs : List (List (Value × List Val))} {x : Value × List Val} (h : GM base W v hs gs) (hk : k ≤ gs.length) (hb : Below W.heap.size W W3) (hbase : base ≤ W.heap.size)
    (own3 : W3.ownsRow W.heap.size 30 1 v3 (gs.length + 1) (hs.take k ++ nv :: hs.drop k)) (ownn : W3.ownsRow W.heap.size 42 1 nv 1 [x.1]) (hne : ∀ b, nv.ownBlock = some b → v3.ownBlock ≠ some b) :
    GM base W3 v3 (hs.take k ++ nv :: hs.drop k) (gs.take k ++ [x] :: gs.drop k) := by
  have kh : (hs.take k).length = k := by rw [List.length_take, h.len]; omega
  have kg : (gs.take k).length = k := by rw [List.length_take]; omega
  have ll : (hs.take k ++ nv :: hs.drop k).length = gs.length + 1 := by simp [h.len]; omega
  have old : ∀ i b (hi : i < hs.length), (hs[i]'hi).ownBlock = some b → b < W.heap.size := fun i b hi e => ((h.inn i hi (by rw [← h.len]; exact hi)).lt b e).2
  -- an inner slice is the new one or an old one
  have pick : ∀ i (hi : i < (hs.take k ++ nv :: hs.drop k).length), (i = k ∧ (hs.take k ++ nv :: hs.drop k)[i]'hi = nv) ∨ ∃ j, ∃ hj : j < hs.length, (i < k → j = i) ∧ (k < i → j + 1 = i) ∧ i ≠ k ∧ (hs.take k ++ nv :: hs.drop k)[i]'hi = hs[j]'hj := by
    intro i hi
    rcases Nat.lt_trichotomy i k with q | q | q
    · refine .inr ⟨i, by rw [h.len]; omega, fun _ => rfl, fun q' => by omega, by omega, ?_⟩
      rw [List.getElem_append_left (by omega), List.getElem_take]
    · subst q
      refine .inl ⟨rfl, ?_⟩
      rw [List.getElem_append_right (by omega)]
      simp [kh]
    · have hi' := hi
      rw [ll] at hi'
      refine .inr ⟨i - 1, by rw [h.len]; omega, fun q' => by omega, fun _ => by omega, by omega, ?_⟩
      rw [List.getElem_append_right (by omega)]
      have e : i - (hs.take k).length = (i - 1 - k) + 1 := by omega
      simp only [e, List.getElem_cons_succ, List.getElem_drop]
      congr 1; omega
  refine ⟨by rw [ll]; simp; omega, by rw [ll]; exact own_low own3 hbase, fun i hi hi' => ?_, fun i j b hi hj hne' e1 e2 => ?_, fun i b hi e1 e2 => ?_⟩
  · rcases Nat.lt_trichotomy i k with q | q | q
    · have e1 : (hs.take k ++ nv :: hs.drop k)[i]'hi = hs[i]'(by rw [h.len]; omega) := by rw [List.getElem_append_left (by omega), List.getElem_take]
      have e2 : (gs.take k ++ [x] :: gs.drop k)[i]'hi' = gs[i]'(by omega) := by rw [List.getElem_append_left (by omega), List.getElem_take]
      rw [e1, e2]
      exact own_to (h.inn i _ _) hb
    · subst q
      have e1 : (hs.take i ++ nv :: hs.drop i)[i]'hi = nv := by rw [List.getElem_append_right (by omega)]; simp [kh]
      have e2 : (gs.take i ++ [x] :: gs.drop i)[i]'hi' = [x] := by rw [List.getElem_append_right (by omega)]; simp [kg]
      rw [e1, e2]
      exact own_low ownn hbase
    · have hi2 := hi
      rw [ll] at hi2
      have e1 : (hs.take k ++ nv :: hs.drop k)[i]'hi = hs[i - 1]'(by rw [h.len]; omega) := by
        rw [List.getElem_append_right (by omega)]
        have e : i - (hs.take k).length = (i - 1 - k) + 1 := by omega
        simp only [e, List.getElem_cons_succ, List.getElem_drop]
        congr 1; omega
      have e2 : (gs.take k ++ [x] :: gs.drop k)[i]'hi' = gs[i - 1]'(by omega) := by
        rw [List.getElem_append_right (by omega)]
        have e : i - (gs.take k).length = (i - 1 - k) + 1 := by omega
        simp only [e, List.getElem_cons_succ, List.getElem_drop]
        congr 1; omega
      rw [e1, e2]
      exact own_to (h.inn (i - 1) _ _) hb
  · rcases pick i hi with ⟨p1, p2⟩ | ⟨i', hi', p1, p2, p3, p4⟩ <;> rcases pick j hj with ⟨q1, q2⟩ | ⟨j', hj', q1, q2, q3, q4⟩
    · omega
    · rw [p2] at e1; rw [q4] at e2
      have := (ownn.lt b e1).1
      have := old j' b hj' e2
      omega
    · rw [p4] at e1; rw [q2] at e2
      have := (ownn.lt b e2).1
      have := old i' b hi' e1
      omega
    · rw [p4] at e1; rw [q4] at e2
      refine h.dis i' j' b hi' hj' (fun e => hne' ?_) e1 e2
      rcases Nat.lt_trichotomy i k with r | r | r <;> rcases Nat.lt_trichotomy j k with t | t | t <;> omega
  · rcases pick i hi with ⟨p1, p2⟩ | ⟨i', hi', p1, p2, p3, p4⟩
    · rw [p2] at e1; exact hne b e1 e2
    · rw [p4] at e1
      have := old i' b hi' e1
      have := (own3.lt b e2).1
      omega
/-- Parts of the slice as sources of an append. -/
theorem GM.srcL {base : Nat} {W : World} {a : Option Addr} {n c k : Nat} {hs : List Value} {gs : List (List (Value × List Val))} (h : GM base W (.slice a n c) hs gs) (hn : gs.length = n) (hk : k ≤ n) {W' : World} (hb : Below W.heap.size W W') : SrcRow W' (sliced a 0 k c 1) k 1 (hs.take k) := by
  have kl : (hs.take k).length = k := by rw [List.length_take, h.len]; omega
  have e : (sliced a 0 k c 1) = .slice a k c := by
    unfold sliced
    by_cases q : c = 0
    · simp [q]
    · rw [if_neg q]; cases a <;> simp [Addr.add]
  rw [e]
  have ho := own_to h.own hb
  rw [h.len, hn] at ho
  refine ⟨by rw [kl, Nat.mul_one], fun u hu => ?_, ?_⟩
  · obtain ⟨j, hj, rfl⟩ := List.getElem_of_mem hu
    rw [List.getElem_take]
    obtain ⟨a', c', e'⟩ := own_form (h.inn j (by rw [kl] at hj; rw [h.len]; omega) (by rw [kl] at hj; omega))
    rw [e']; rfl
  · by_cases k0 : k = 0
    · subst k0; exact .inl ⟨rfl, a, c, rfl⟩
    · rcases ho.2 with ⟨_, h0⟩ | ⟨g, c', cur, e1, _⟩
      · omega
      · injection e1 with e1 e2 e3
        subst e1
        refine .inr ⟨_, c, rfl, fun j u hj => ?_⟩
        have hjl := (List.getElem?_eq_some_iff.1 hj).1
        rw [kl] at hjl
        rw [List.getElem?_take, if_pos hjl] at hj
        rw [add_nil, Nat.zero_add, ho.cellAt j (by omega)]
        exact hj
theorem GM.srcR {base : Nat} {W : World} {a : Option Addr} {n c k : Nat} {hs : List Value} {gs : List (List (Value × List Val))} (h : GM base W (.slice a n c) hs gs) (hn : gs.length = n) (hk : k ≤ n) {W' : World} (hb : Below W.heap.size W W') : SrcRow W' (sliced a k n c 1) (n - k) 1 (hs.drop k) := by
  have kl : (hs.drop k).length = n - k := by rw [List.length_drop, h.len, hn]
  have ho := own_to h.own hb
  rw [h.len, hn] at ho
  refine ⟨by rw [kl, Nat.mul_one], fun u hu => ?_, ?_⟩
  · obtain ⟨j, hj, rfl⟩ := List.getElem_of_mem hu
    rw [List.getElem_drop]
    obtain ⟨a', c', e'⟩ := own_form (h.inn (k + j) (by rw [kl] at hj; rw [h.len]; omega) (by rw [kl] at hj; omega))
    rw [e']; rfl
  · by_cases hkn : k = n
    · subst hkn
      exact .inl ⟨Nat.sub_self _, _, _, by unfold sliced; rw [Nat.sub_self]⟩
    · rcases ho.2 with ⟨_, h0⟩ | ⟨g, c', cur, e1, _, _, hnc, _⟩
      · omega
      · injection e1 with e1 e2 e3
        subst e1 e3
        refine .inr ⟨⟨g, k, none⟩, c - k, ?_, fun j u hj => ?_⟩
        · unfold sliced; rw [if_neg (by omega)]
          by_cases k0 : k = 0 <;> simp [Addr.add, k0]
        · have hjl := (List.getElem?_eq_some_iff.1 hj).1
          rw [kl] at hjl
          rw [List.getElem?_drop] at hj
          rw [add_nil, ho.cellAt (k + j) (by omega)]
          exact hj
theorem run_grps_h {a : Option Addr} {n c K : Nat} (hK : K ≤ c) (W : World) : (Instr.slice 110 (.slice a n c) none (some (.int .i64 (K : Int))) none).run Tryz.prog W = .ok (sliced a 0 K c 1) W := by
  have ht : Tryz.prog.underlying 110 = some (.slice (Tryz.prog.elem 110)) := by kernel_rfl
  have he : Tryz.prog.elem 110 = 30 := by kernel_rfl
  obtain ⟨i1, hj, hy0, hy1, hy2⟩ := info_parts infoGrp
  rw [run_slice_h (ht := ht) (h0 := by omega) (h2 := by omega), he]
  simp [sizeOf, typeInfo, hj, hy1, Result.andThen]
theorem run_grps_l {a : Option Addr} {n c K : Nat} (hK : K ≤ n) (W : World) : (Instr.slice 110 (.slice a n c) (some (.int .i64 (K : Int))) none none).run Tryz.prog W = .ok (sliced a K n c 1) W := by
  have ht : Tryz.prog.underlying 110 = some (.slice (Tryz.prog.elem 110)) := by kernel_rfl
  have he : Tryz.prog.elem 110 = 30 := by kernel_rfl
  obtain ⟨i1, hj, hy0, hy1, hy2⟩ := info_parts infoGrp
  rw [run_slice_l (ht := ht) (h0 := by omega) (h1 := by omega), he]
  simp [sizeOf, typeInfo, hj, hy1, Result.andThen]
end Go.Proofs.YtpahoenanfjhpaaGreat
