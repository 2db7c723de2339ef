/-
  CHAPTER 25: parts of lists: slices of rows, a spread append of integers. Conditions: each theorem states its own.
-/
import Derived.Test.YtploieofmnlomaaVco
import Derived.Laws.OwnMore
set_option linter.unusedVariables false
set_option linter.unusedSimpArgs false
namespace Go.Proofs.Ytploieofmnlomaa
open Go.RowKit
theorem rows_take {w : World} {B : Nat} {a : Option Addr} {n c K : Nat} {rows : List (List Val)} (h : RowsAt w B (.slice a n c) rows) (hn : rows.length = n) (hK : K ≤ n) : RowsAt w B (sliced a 0 K c 1) (rows.take K) := by
  have h9 := h.1
  have hl : (rows.take K).length = K := by simp; omega
  have e : (sliced a 0 K c 1) = .slice a K c := by
    unfold sliced
    by_cases q : c = 0
    · simp [q]
    · rw [if_neg q]; cases a <;> simp [Addr.add]
  rw [e]
  refine ⟨by rw [hl]; omega, ?_⟩
  rcases h.2 with ⟨e0, a', c', e1⟩ | ⟨b, o, c', hv, hc, hb, hr⟩
  · subst e0
    simp at hn
    subst hn
    obtain rfl : K = 0 := by omega
    exact .inl ⟨rfl, _, _, rfl⟩
  · injection hv with e1 e2 e3
    subst e1 e3
    exact .inr ⟨b, o, c, by rw [hl], by rw [hl]; omega, hb, fun j hj => by
      have hj' : j < rows.length := by rw [hl] at hj; omega
      obtain ⟨lv, p, q⟩ := hr j hj'
      exact ⟨lv, p, by rw [List.getElem_take]; exact q⟩⟩
theorem rows_drop {w : World} {B : Nat} {a : Option Addr} {n c K : Nat} {rows : List (List Val)} (h : RowsAt w B (.slice a n c) rows) (hn : rows.length = n) (hK : K ≤ n) : RowsAt w B (sliced a K n c 1) (rows.drop K) := by
  have h9 := h.1
  have hl : (rows.drop K).length = n - K := by simp; omega
  refine ⟨by rw [hl]; omega, ?_⟩
  by_cases hKn : K = n
  · subst hKn
    exact .inl ⟨List.eq_nil_of_length_eq_zero (by omega), _, _, by unfold sliced; rw [Nat.sub_self]⟩
  · rcases h.2 with ⟨e0, a', c', e1⟩ | ⟨b, o, c', hv, hc, hb, hr⟩
    · subst e0
      simp at hn
      omega
    · injection hv with e1 e2 e3
      subst e1 e3
      refine .inr ⟨b, o + K, c - K, ?_, by rw [hl]; omega, hb, fun j hj => ?_⟩
      · rw [hl]; unfold sliced; rw [if_neg (by omega)]
        by_cases k0 : K = 0 <;> simp [Addr.add, k0]
      · have hj' : K + j < rows.length := by rw [hl] at hj; omega
        obtain ⟨lv, p, q⟩ := hr (K + j) hj'
        exact ⟨lv, by rw [Nat.add_assoc]; exact p, by rw [List.getElem_drop]; exact q⟩
theorem run_rows_h {a : Option Addr} {n c K : Nat} (hK : K ≤ c) (W : World) : (Instr.slice 30 (.slice a n c) none (some (.int .i64 (K : Int))) none).run Try.prog W = .ok (sliced a 0 K c 1) W := by
  have ht : Try.prog.underlying 30 = some (.slice (Try.prog.elem 30)) := by kernel_rfl
  have he : Try.prog.elem 30 = 39 := by kernel_rfl
  obtain ⟨i1, hj, hy0, hy1, hy2⟩ := info_parts infoRow
  rw [run_slice_h (ht := ht) (h0 := by omega) (h2 := by omega), he]
  simp [sizeOf, typeInfo, hj, hy1, Result.andThen]
theorem run_rows_l {a : Option Addr} {n c K : Nat} (hK : K ≤ n) (W : World) : (Instr.slice 30 (.slice a n c) (some (.int .i64 (K : Int))) none none).run Try.prog W = .ok (sliced a K n c 1) W := by
  have ht : Try.prog.underlying 30 = some (.slice (Try.prog.elem 30)) := by kernel_rfl
  have he : Try.prog.elem 30 = 39 := by kernel_rfl
  obtain ⟨i1, hj, hy0, hy1, hy2⟩ := info_parts infoRow
  rw [run_slice_l (ht := ht) (h0 := by omega) (h1 := by omega), he]
  simp [sizeOf, typeInfo, hj, hy1, Result.andThen]
theorem intC_map (zs : List Int) : zs.flatMap intC = zs.map (Value.int .i64) := by
  induction zs with
  | nil => rfl
  | cons z l ih => rw [List.flatMap_cons, ih]; rfl
theorem run_append_ints {P : Program} {w : World} (base : Nat) (t ty e : TypeId) (i : TypeInfo) (ht : P.underlying t = some (.slice e)) (hi : P.info? e = some i) (hz : i.zero = some (.int .i64 0)) (hsize : i.size = 1) (hby : i.bytes = 8)
    (v : Value) (n : Nat) (xs : List Value) (hown : w.ownsRow base e 1 v n xs) (xv : Value) (zs : List Int) (hx : IntsAt w w.heap.size xv zs) (h63 : n + zs.length ≤ maxLen) (hbytes : (n + zs.length) * 8 ≤ 140737488355328) (hbase : base ≤ w.heap.size) :
    ∃ v' w', (Builtin.append_ #[t, t] ty #[v, xv]).run P w = .ok v' w' ∧ w'.ownsRow base e 1 v' (n + zs.length) (xs ++ zs.flatMap intC) ∧ w.grownBy w' v.ownBlock := by
  rcases hx.2.2 with ⟨rfl, a, c, rfl⟩ | ⟨b, o, c, rfl, hb, hc⟩
  · cases a with
    | none =>
      refine ⟨v, w, ?_, by simpa using hown, ⟨rfl, rfl, rfl, Nat.le_refl _, fun _ _ _ => rfl⟩⟩
      rcases hown.2 with ⟨rfl, rfl⟩ | ⟨g, cap, cur, rfl, _, _, hnc, _⟩
      · simp [Builtin.append_, run_underlying ht, sizeOf, typeInfo, hi, Builtin.lenOf, Builtin.firstCells]
      · simp [Builtin.append_, run_underlying ht, sizeOf, typeInfo, hi, Builtin.lenOf, Builtin.firstCells, hnc, storeCells]
    | some a =>
      obtain ⟨v', w', h1, h2, h3, _⟩ := run_append_own_at (P := P) (w := w) base t ty e i _ 1 8 ht hi hz hsize hby rfl (by decide) v n xs hown a 0 c [] rfl (fun j u hj => by simp at hj) (fun u hu => by simp at hu) (by simpa using h63) (by simpa using hbytes) hbase
      exact ⟨v', w', h1, by simpa using h2, h3⟩
  · obtain ⟨v', w', h1, h2, h3, _⟩ := run_append_own_at (P := P) (w := w) base t ty e i _ 1 8 ht hi hz hsize hby rfl (by decide) v n xs hown ⟨b, o, none⟩ zs.length c (zs.flatMap intC) (by rw [intC_map]; simp) (fun j u hj => by
      rw [intC_map, List.getElem?_map] at hj
      obtain ⟨z, hz1, rfl⟩ := Option.map_eq_some_iff.1 hj
      obtain ⟨hjl, hz2⟩ := List.getElem?_eq_some_iff.1 hz1
      have := hc j hjl
      rw [List.getD_eq_getElem?_getD, hz1] at this
      by_cases k0 : j = 0 <;> simpa [Addr.add, k0] using this) (fun u hu => by
      rw [intC_map] at hu
      obtain ⟨z, _, rfl⟩ := List.mem_map.1 hu
      rfl) h63 hbytes hbase
    exact ⟨v', w', h1, h2, h3⟩
theorem wpList_append_ints {P : Program} {w : World} {ops : Array Oper} {rest : List Oper} {o : Oper} {a : Act} {Q : Exit → Act → World → Prop} (hw : Region.wanted o (yielded ops a.tmps) = true) (s x : Operand) (t : TypeId)
    (ho : o.op = .call { callee := .builtin .append, args := #[s, x], argTypes := #[t, t] })
    (base : Nat) (e : TypeId) (i : TypeInfo) (ht : P.underlying t = some (.slice e)) (hi : P.info? e = some i) (hz : i.zero = some (.int .i64 0)) (hsize : i.size = 1) (hby : i.bytes = 8)
    (v : Value) (n : Nat) (xs : List Value) (hs : a.eval s = v) (hown : w.ownsRow base e 1 v n xs) (xv : Value) (zs : List Int) (hxv : a.eval x = xv) (hx : IntsAt w w.heap.size xv zs) (h63 : n + zs.length ≤ maxLen) (hbytes : (n + zs.length) * 8 ≤ 140737488355328) (hbase : base ≤ w.heap.size)
    (h : ∀ v' w', w'.ownsRow base e 1 v' (n + zs.length) (xs ++ zs.flatMap intC) → w.grownBy w' v.ownBlock → wpList P ops Q rest (a.put o.dst v') w') : wpList P ops Q (o :: rest) a w := by
  refine wpList_step fun K hK => ?_
  rw [if_pos hw]
  obtain ⟨v', w', hr, h2, h3⟩ := run_append_ints (P := P) base t o.type e i ht hi hz hsize hby v n xs hown xv zs hx h63 hbytes hbase
  unfold Oper.wp execOp
  simp only [ho, resolve, invoke, builtin, Sem.run_bind, Sem.run_pure, Result.andThen_ok, List.map_toArray, List.map_cons, List.map_nil, hs, hxv, hr]
  exact hK _ _ (h v' w' h2 h3)
end Go.Proofs.Ytploieofmnlomaa
