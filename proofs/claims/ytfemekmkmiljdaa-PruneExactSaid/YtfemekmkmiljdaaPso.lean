/-
  PRUNEISSOUND: the plain law of whole predicates; the zones of valid rows are valid. Conditions: none.
-/
import Derived.Test.YtfemekmkmiljdaaPsn
import Derived.Test.YtfemekmkmiljdaaKsc
import Derived.Test.YtfemekmkmiljdaaKpr
set_option linter.unusedVariables false
set_option linter.unusedSimpArgs false
namespace Go.Proofs.Ytfemekmkmiljdaa
open Go.RowKit
theorem combS_has {op x y : Int} {a b : TS} (ho : op = 9 ∨ op = 10) (hx : T3 x) (hy : T3 y) (ha : a.has x = true) (hb : b.has y = true) : (combS op a b).has (combT op x y) = true := by
  obtain ⟨f, t, u⟩ := a
  obtain ⟨f', t', u'⟩ := b
  rcases ho with rfl | rfl <;> rcases hx with rfl | rfl | rfl <;> rcases hy with rfl | rfl | rfl <;> (revert f t u f' t' u'; decide)
theorem notS_has {x : Int} {a : TS} (hx : T3 x) (ha : a.has x = true) : (notS a).has (notT x) = true := by
  obtain ⟨f, t, u⟩ := a
  rcases hx with rfl | rfl | rfl <;> (revert f t u; decide)
theorem accT_3 (cs : List Col) (row : List Val) (l : List Nod) : ∀ a ∈ accT cs row l, T3 a := by
  unfold accT
  suffices h : ∀ (l : List Nod) (acc : List Int), (∀ a ∈ acc, T3 a) → ∀ a ∈ l.foldl (fun acc d => acc ++ [stepT cs row acc d]) acc, T3 a from h l [] (fun a ha => absurd ha (by simp))
  intro l
  induction l with
  | nil => intro acc h; exact h
  | cons d r ih =>
    intro acc h
    rw [List.foldl_cons]
    exact ih _ fun a ha => (List.mem_append.1 ha).elim (fun q => h a q) (fun q => by rw [List.mem_singleton.1 q]; exact stepT_3 cs row h d)
theorem zonsOf_at {cs : List Col} {rows : List (List Val)} {K : Nat} (h : K < cs.length) : (zonsOf cs rows).getD K zon0 = zoneF (colTy cs (K : Int)) (colK K rows) := by
  have hl : K < (zonsOf cs rows).length := by unfold zonsOf; rw [zonsK_len]; exact h
  simp [zonsOf, zonsK, List.getD_eq_getElem?_getD, h]
theorem col_mem {rows : List (List Val)} {row : List Val} {K : Nat} (h : row ∈ rows) : row.getD K Val.zero ∈ colK K rows := by
  unfold colK; exact List.mem_map.2 ⟨row, h, rfl⟩
def SndK (P : List TS) (T : List Int) : Prop := ∀ i, i < T.length → (P.getD i TS.non).has (T.getD i 0) = true
theorem SndK.snoc {P : List TS} {T : List Int} {p : TS} {t : Int} (h : SndK P T) (hl : P.length = T.length) (ht : p.has t = true) : SndK (P ++ [p]) (T ++ [t]) := by
  intro i hi
  rcases Nat.lt_or_ge i T.length with q | q
  · have := h i q
    simp only [List.getD_eq_getElem?_getD] at this ⊢
    rw [List.getElem?_append_left (by omega), List.getElem?_append_left q]
    exact this
  · obtain rfl : i = T.length := by simp at hi; omega
    simp only [List.getD_eq_getElem?_getD]
    rw [List.getElem?_append_right (by omega), List.getElem?_append_right (by omega), hl]
    simpa using ht
theorem step_sound {cs : List Col} {rows : List (List Val)} {row : List Val} (hr : row ∈ rows) {k : Nat} {d : Nod} (hd : nodE cs (k : Int) d = 0) {P : List TS} {T : List Int} (hT : T.length = k) (h3 : ∀ a ∈ T, T3 a) (h : SndK P T) : (stepP cs (zonsOf cs rows) P d).has (stepT cs row T d) = true := by
  obtain ⟨o1, o2, oa, ob⟩ := nodE_ok hd
  unfold stepP stepT
  by_cases h9 : d.op = 9
  · rw [if_pos h9, if_pos h9]
    exact combS_has (op := 9) (.inl rfl) (getD_3 h3 _) (getD_3 h3 _) (h _ (by have := oa (by omega); omega)) (h _ (by have := ob (by omega) (by omega); omega))
  · rw [if_neg h9, if_neg h9]
    by_cases h10 : d.op = 10
    · rw [if_pos h10, if_pos h10]
      exact combS_has (op := 10) (.inr rfl) (getD_3 h3 _) (getD_3 h3 _) (h _ (by have := oa (by omega); omega)) (h _ (by have := ob (by omega) (by omega); omega))
    · rw [if_neg h10, if_neg h10]
      by_cases h11 : d.op = 11
      · rw [if_pos h11, if_pos h11]
        exact notS_has (getD_3 h3 _) (h _ (by have := oa (by omega); omega))
      · rw [if_neg h11, if_neg h11]
        obtain ⟨c0, c1⟩ := nodE_leaf hd (by omega)
        rw [zonsOf_at (by omega), show ((d.col.toNat : Nat) : Int) = d.col by omega]
        exact leaf_sound (col_mem hr) o1 (by omega)
theorem acc_sound {cs : List Col} {rows : List (List Val)} {row : List Val} (hr : row ∈ rows) {ns : List Nod} (hn : ∀ j (hj : j < ns.length), nodE cs j (ns[j]'hj) = 0) : ∀ k, k ≤ ns.length → SndK (accP cs (zonsOf cs rows) (ns.take k)) (accT cs row (ns.take k))
  | 0, _ => fun i hi => absurd hi (by simp [accT])
  | k + 1, h => by
    have ih := acc_sound hr hn k (by omega)
    have hk : k < ns.length := h
    rw [accP_succ cs _ hk, accT_succ cs row hk]
    refine ih.snoc (by rw [accP_len, accT_len]) (step_sound hr (hn k hk) (by rw [accT_len]; simp; omega) (accT_3 cs row _) ih)
theorem pos_sound {cs : List Col} {key : Int} {rows : List (List Val)} {row : List Val} (hr : row ∈ rows) {ns : List Nod} (hp : predF cs key ns = 0) : (posS cs (zonsOf cs rows) ns).has (evalF cs row ns) = true := by
  have h := acc_sound hr (predF_all hp).2 ns.length (Nat.le_refl _)
  rw [List.take_length] at h
  have l1 := accP_len cs (zonsOf cs rows) ns
  have l2 := accT_len cs row ns
  unfold posS evalF
  rw [List.getLast?_eq_getElem?, List.getLast?_eq_getElem?, l1, l2]
  rcases Nat.eq_zero_or_pos ns.length with q | q
  · rw [List.getElem?_eq_none (by omega), List.getElem?_eq_none (by omega)]; rfl
  · have := h (ns.length - 1) (by omega)
    rw [List.getD_eq_getElem?_getD, List.getD_eq_getElem?_getD] at this
    rw [List.getElem?_eq_getElem (by omega), List.getElem?_eq_getElem (by omega)] at this ⊢
    exact this
theorem eval_3 (cs : List Col) (row : List Val) (ns : List Nod) : T3 (evalF cs row ns) := by
  unfold evalF
  cases h : (accT cs row ns).getLast? with
  | none => exact .inr (.inl rfl)
  | some t => exact accT_3 cs row ns t (List.mem_of_getLast? h)
theorem two_parts (l : List Val) : (l.filter fun v => v.null).length + (l.filter fun v => !v.null).length = l.length := by
  induction l with
  | nil => rfl
  | cons v r ih => rw [List.filter_cons, List.filter_cons]; cases v.null <;> simp <;> omega
theorem cmpV_self (ty : Int) (v : Val) : cmpV ty v v = 0 := by
  have a := (cmpV_le ty v v).2 (leV_refl _ _)
  have b := (cmpV_ge ty v v).2 (leV_refl _ _)
  omega
theorem zone_ok {ty : Int} {nul : Bool} {l : List Val} (h1 : 1 ≤ ty) (h5 : ty ≤ 5) (hl : l.length ≤ 4096) (hv : ∀ v ∈ l, vchk ty nul v.null v.n v.s = 0) : zonF ty nul (zoneF ty l) = true := by
  have hc := (zinv ty l).cnt
  have hr := zrows ty l
  have hle := List.length_filter_le (fun v : Val => v.null) l
  have tp := two_parts l
  unfold zonF
  rw [if_neg, hr, hc]
  · by_cases e : ((l.filter fun v => v.null).length : Int) = l.length
    · rw [if_pos e]
      have all : ∀ v ∈ l, v.null = true := (List.length_filter_eq_length_iff (p := fun v : Val => v.null)).1 (by omega)
      obtain ⟨e1, e2⟩ := (zinv ty l).none all
      rw [e1, e2]
      simp [isN, nulV, e_tl0]
    · rw [if_neg e]
      have ex : ∃ v ∈ l, v.null = false := by
        have : 0 < (l.filter fun v => !v.null).length := by omega
        obtain ⟨v, hv'⟩ := List.exists_mem_of_length_pos this
        obtain ⟨m, n⟩ := List.mem_filter.1 hv'
        exact ⟨v, m, by simpa using n⟩
      have E := (zinv ty l).some ex
      have v1 := hv _ E.lom
      have v2 := hv _ E.him
      rw [if_neg (by rw [E.lon] at v1 ⊢; rw [E.hin] at v2 ⊢; simp [v1, v2])]
      have le := (cmpV_le ty (zoneF ty l).min (zoneF ty l).max).2 (E.low _ E.him E.hin)
      unfold zonD
      by_cases z : cmpV ty (zoneF ty l).min (zoneF ty l).max = 0
      · simp [z]
      · have m1 : (zoneF ty l).min ∈ l.filter fun v => !v.null := List.mem_filter.2 ⟨E.lom, by simp [E.lon]⟩
        have m2 : (zoneF ty l).max ∈ l.filter fun v => !v.null := List.mem_filter.2 ⟨E.him, by simp [E.hin]⟩
        have two : 1 < (l.filter fun v => !v.null).length := by
          rcases hq : (l.filter fun v => !v.null) with _ | ⟨a, _ | ⟨b, r⟩⟩
          · rw [hq] at m1; cases m1
          · rw [hq] at m1 m2
            rw [List.mem_singleton.1 m1, List.mem_singleton.1 m2] at z
            exact absurd (cmpV_self ty a) z
          · rw [hq, List.length_cons, List.length_cons]; omega
        have c1 : cmpV ty (zoneF ty l).min (zoneF ty l).max < 0 := by omega
        have c2 : 1 < (l.length : Int) - ((l.filter fun v => v.null).length : Int) := by omega
        simp [c1, c2]
  · rw [hr, hc]
    rintro (q | q | q | q | q | ⟨q1, q2⟩) <;> try omega
    have : 0 < (l.filter fun v => v.null).length := by omega
    obtain ⟨v, hv'⟩ := List.exists_mem_of_length_pos this
    obtain ⟨m, n⟩ := List.mem_filter.1 hv'
    have := hv v m
    rw [n] at this
    unfold vchk at this
    rw [if_neg (by omega), if_pos rfl] at this
    subst q2
    split at this <;> simp at this
theorem zs_ok {cs : List Col} {rows : List (List Val)} (hty : ∀ j (h : j < cs.length), 1 ≤ (cs[j]'h).ty ∧ (cs[j]'h).ty ≤ 5) (hr9 : rows.length ≤ 4096) (hrl : ∀ r ∈ rows, r.length = cs.length ∧ RowPre cs r) : zsE cs (zonsOf cs rows) = 0 := by
  have hl : (zonsOf cs rows).length = cs.length := by unfold zonsOf; rw [zonsK_len]
  have cell : ∀ j (hj : j < (zonsOf cs rows).length), (zonsOf cs rows)[j]'hj = zoneF (colTy cs (j : Int)) (colK j rows) := by
    intro j hj
    rw [← zonsOf_at (by omega), List.getD_eq_getElem?_getD, List.getElem?_eq_getElem hj, Option.getD_some]
  have rw0 : ∀ j (hj : j < (zonsOf cs rows).length), ((zonsOf cs rows)[j]'hj).rows = rows.length := by
    intro j hj; rw [cell j hj, zrows]; unfold colK; simp
  refine zsE_ok hl fun j hj => ?_
  have hj' : j < cs.length := by omega
  rw [okAt_eq hj' hj]
  have hd : ((zonsOf cs rows).headD zon0).rows = rows.length := by
    have := rw0 0 (by omega)
    rcases hq : zonsOf cs rows with _ | ⟨z, r⟩
    · rw [hq] at hj; cases hj
    · simp only [hq, List.getElem_cons_zero] at this; exact this
  rw [hd, rw0 j hj, cell j hj]
  have ct : colTy cs (j : Int) = (cs[j]'hj').ty := by unfold colTy; rw [Int.toNat_natCast, List.getElem?_eq_getElem hj']
  rw [ct, zone_ok (hty j hj').1 (hty j hj').2 (by unfold colK; simpa using hr9)]
  · simp
  · intro v hv
    unfold colK at hv
    obtain ⟨r, hr, rfl⟩ := List.mem_map.1 hv
    obtain ⟨h1, h2⟩ := hrl r hr
    rw [getDv (by omega)]
    exact h2 j (by omega) hj'
end Go.Proofs.Ytfemekmkmiljdaa
