/-
  CHAPTER 26: Cln, Con (several texts in one). Conditions: each theorem states its own.
-/
import Derived.Test.YtpahoenanfjhpaaGreatZh
import Derived.Deep.AppendLies
import Derived.Lib.SliceRun
import Derived.Lib.AppendZeros
set_option linter.unusedVariables false
set_option linter.unusedSimpArgs false
namespace Go.Proofs.YtpahoenanfjhpaaGreat
open Go.RowKit
/-- A row of n elements that the call owns, and all that was there as it was. -/
def RowPost (T : TypeId) (k : Nat) (w : World) (n : Nat) (L : List Value) (e : Ending) (w' : World) : Prop := ∃ v, e = .returned v ∧ w'.ownsRow w.heap.size T k v n L ∧ Below w.heap.size w w'

@[go_sem] theorem eql_int_none (w : World) (n c : Nat) : (binOp .eql 26 (.slice none n c) (.slice none 0 0)).run Tryz.prog w = .ok (.bool true) w := Lib.run_eql_slice_nil w _ _ none n c 0 0 Tryz.underlying26
@[go_sem] theorem eql_int_some (w : World) (a : Addr) (n c : Nat) : (binOp .eql 26 (.slice (some a) n c) (.slice none 0 0)).run Tryz.prog w = .ok (.bool false) w := Lib.run_eql_slice_nil w _ _ (some a) n c 0 0 Tryz.underlying26
theorem info_int : (Tryz.prog.info? 3).map (fun i => (i.zero, i.size, i.bytes)) = some (some (.int .i64 0), 1, 8) := by kernel_rfl
set_option maxRecDepth 8000 in
set_option maxHeartbeats 1000000 in
theorem clone_int (lv : Value) (n : Nat) (L : List Value) (w : World) (h : ∀ W, Below w.heap.size w W → SrcRow W lv n 1 L) (hb : n ≤ 2199023255552) :
    Calls Tryz.prog 31 #[lv] w (RowPost 3 1 w n L) := by
  obtain ⟨i0, hi, hz0, hz1, hz2⟩ := info_parts info_int
  obtain ⟨a, c, rfl⟩ : ∃ a c, lv = .slice a n c := by
    rcases (h w (Below.refl _ _)).2.2 with ⟨rfl, a, c, e⟩ | ⟨a, c, e, _⟩
    · exact ⟨a, c, e⟩
    · exact ⟨_, c, e⟩
  cases a with
  | none =>
    obtain rfl : n = 0 := by
      rcases (h w (Below.refl _ _)).2.2 with ⟨e, _⟩ | ⟨a, c', e, _⟩
      · exact e
      · injection e with q; cases q
    have e0 : L = [] := List.eq_nil_of_length_eq_zero (by simpa using (h w (Below.refl _ _)).1)
    subst e0
    clear h
    go_enter Tryz.func31, Tryz.ntmps31
    go_wp2
    refine bodyPost_ret (v := .slice none 0 0) ?_ rfl ⟨_, rfl, World.ownsRow_nil _ _ _ _, Below.refl _ _⟩
    simp (maxDischargeDepth := 9) [results, Tryz.results31, go_sem, *]
  | some a =>
    have SR2 : Hid (SrcRow (w.alloc (.cells #[] 3)) (.slice (some a) n c) n 1 L) := Lib.hid (h _ ((Below.refl _ _).alloc (Nat.le_refl _) _))
    have OW : Hid ((w.alloc (.cells #[] 3)).ownsRow w.heap.size 3 1 (.slice (some ⟨w.heap.size, 0, none⟩) 0 0) 0 []) := Lib.hid ⟨rfl, .inr ⟨w.heap.size, 0, #[], rfl, Nat.le_refl _, heap_alloc_new w _, Nat.le_refl _, Nat.zero_le _, rfl, rfl⟩⟩
    have CP : Hid (∀ v w', w'.ownsRow w.heap.size 3 1 v n L → Below w.heap.size w w' → RowPost 3 1 w n L (.returned v) w') := Lib.hid (fun v w' h1 h2 => ⟨v, rfl, h1, h2⟩)
    clear h
    go_enter Tryz.func31, Tryz.ntmps31
    go_wp2_with (at_builtin; go_must (refine wpList_append_row (by rfl) _ _ 26 rfl w.heap.size 3 i0 _ 1 8 Tryz.underlying26 hi hz0 hz1 hz2 rfl (by decide) (.slice (some ⟨w.heap.size, 0, none⟩) 0 0) 0 [] rfl OW.out _ n L rfl SR2.out (by unfold maxLen; omega) (by omega) (by simp) ?_); intro v1 w1 hown hg ha; rw [Nat.zero_add, List.nil_append] at hown; have R1 := Lib.hid hown; have B1 : Hid (Below w.heap.size w w1) := Lib.hid (Below.gr (Below.al (Below.refl _ _) _) OW.out hg); obtain ⟨a1, c1, rfl⟩ := own_form hown; clear hown hg ha)
    refine bodyPost_ret (v := .slice a1 n c1) ?_ rfl (CP.out _ _ R1.out B1.out)
    simp (maxDischargeDepth := 9) [results, Tryz.results31, go_sem, *]

@[go_sem] theorem eql_ag_none (w : World) (n c : Nat) : (binOp .eql 27 (.slice none n c) (.slice none 0 0)).run Tryz.prog w = .ok (.bool true) w := Lib.run_eql_slice_nil w _ _ none n c 0 0 Tryz.underlying27
@[go_sem] theorem eql_ag_some (w : World) (a : Addr) (n c : Nat) : (binOp .eql 27 (.slice (some a) n c) (.slice none 0 0)).run Tryz.prog w = .ok (.bool false) w := Lib.run_eql_slice_nil w _ _ (some a) n c 0 0 Tryz.underlying27
theorem info_ag : (Tryz.prog.info? 39).map (fun i => (i.zero, i.size, i.bytes)) = some (some (.agg #[.int .i64 0, .int .i64 0]), 2, 16) := by kernel_rfl
set_option maxRecDepth 8000 in
set_option maxHeartbeats 1000000 in
theorem clone_ag (lv : Value) (n : Nat) (L : List Value) (w : World) (h : ∀ W, Below w.heap.size w W → SrcRow W lv n 2 L) (hb : n ≤ 2199023255552) :
    Calls Tryz.prog 32 #[lv] w (RowPost 39 2 w n L) := by
  obtain ⟨i0, hi, hz0, hz1, hz2⟩ := info_parts info_ag
  obtain ⟨a, c, rfl⟩ : ∃ a c, lv = .slice a n c := by
    rcases (h w (Below.refl _ _)).2.2 with ⟨rfl, a, c, e⟩ | ⟨a, c, e, _⟩
    · exact ⟨a, c, e⟩
    · exact ⟨_, c, e⟩
  cases a with
  | none =>
    obtain rfl : n = 0 := by
      rcases (h w (Below.refl _ _)).2.2 with ⟨e, _⟩ | ⟨a, c', e, _⟩
      · exact e
      · injection e with q; cases q
    have e0 : L = [] := List.eq_nil_of_length_eq_zero (by simpa using (h w (Below.refl _ _)).1)
    subst e0
    clear h
    go_enter Tryz.func32, Tryz.ntmps32
    go_wp2
    refine bodyPost_ret (v := .slice none 0 0) ?_ rfl ⟨_, rfl, World.ownsRow_nil _ _ _ _, Below.refl _ _⟩
    simp (maxDischargeDepth := 9) [results, Tryz.results32, go_sem, *]
  | some a =>
    have SR2 : Hid (SrcRow (w.alloc (.cells #[] 39)) (.slice (some a) n c) n 2 L) := Lib.hid (h _ ((Below.refl _ _).alloc (Nat.le_refl _) _))
    have OW : Hid ((w.alloc (.cells #[] 39)).ownsRow w.heap.size 39 2 (.slice (some ⟨w.heap.size, 0, none⟩) 0 0) 0 []) := Lib.hid ⟨rfl, .inr ⟨w.heap.size, 0, #[], rfl, Nat.le_refl _, heap_alloc_new w _, Nat.le_refl _, Nat.zero_le _, rfl, rfl⟩⟩
    have CP : Hid (∀ v w', w'.ownsRow w.heap.size 39 2 v n L → Below w.heap.size w w' → RowPost 39 2 w n L (.returned v) w') := Lib.hid (fun v w' h1 h2 => ⟨v, rfl, h1, h2⟩)
    clear h
    go_enter Tryz.func32, Tryz.ntmps32
    go_wp2_with (at_builtin; go_must (refine wpList_append_row (by rfl) _ _ 27 rfl w.heap.size 39 i0 _ 2 16 Tryz.underlying27 hi hz0 hz1 hz2 rfl (by decide) (.slice (some ⟨w.heap.size, 0, none⟩) 0 0) 0 [] rfl OW.out _ n L rfl SR2.out (by unfold maxLen; omega) (by omega) (by simp) ?_); intro v1 w1 hown hg ha; rw [Nat.zero_add, List.nil_append] at hown; have R1 := Lib.hid hown; have B1 : Hid (Below w.heap.size w w1) := Lib.hid (Below.gr (Below.al (Below.refl _ _) _) OW.out hg); obtain ⟨a1, c1, rfl⟩ := own_form hown; clear hown hg ha)
    refine bodyPost_ret (v := .slice a1 n c1) ?_ rfl (CP.out _ _ R1.out B1.out)
    simp (maxDischargeDepth := 9) [results, Tryz.results32, go_sem, *]

@[go_sem] theorem eql_val_none (w : World) (n c : Nat) : (binOp .eql 42 (.slice none n c) (.slice none 0 0)).run Tryz.prog w = .ok (.bool true) w := Lib.run_eql_slice_nil w _ _ none n c 0 0 Tryz.underlying42
@[go_sem] theorem eql_val_some (w : World) (a : Addr) (n c : Nat) : (binOp .eql 42 (.slice (some a) n c) (.slice none 0 0)).run Tryz.prog w = .ok (.bool false) w := Lib.run_eql_slice_nil w _ _ (some a) n c 0 0 Tryz.underlying42
theorem info_val : (Tryz.prog.info? 41).map (fun i => (i.zero, i.size, i.bytes)) = some (some (.agg #[.bool false, .int .i64 0, .string ⟨#[]⟩]), 3, 32) := by kernel_rfl
set_option maxRecDepth 8000 in
set_option maxHeartbeats 1000000 in
theorem clone_val (lv : Value) (n : Nat) (L : List Value) (w : World) (h : ∀ W, Below w.heap.size w W → SrcRow W lv n 3 L) (hb : n ≤ 4398046511104) :
    Calls Tryz.prog 33 #[lv] w (RowPost 41 3 w n L) := by
  obtain ⟨i0, hi, hz0, hz1, hz2⟩ := info_parts info_val
  obtain ⟨a, c, rfl⟩ : ∃ a c, lv = .slice a n c := by
    rcases (h w (Below.refl _ _)).2.2 with ⟨rfl, a, c, e⟩ | ⟨a, c, e, _⟩
    · exact ⟨a, c, e⟩
    · exact ⟨_, c, e⟩
  cases a with
  | none =>
    obtain rfl : n = 0 := by
      rcases (h w (Below.refl _ _)).2.2 with ⟨e, _⟩ | ⟨a, c', e, _⟩
      · exact e
      · injection e with q; cases q
    have e0 : L = [] := List.eq_nil_of_length_eq_zero (by simpa using (h w (Below.refl _ _)).1)
    subst e0
    clear h
    go_enter Tryz.func33, Tryz.ntmps33
    go_wp2
    refine bodyPost_ret (v := .slice none 0 0) ?_ rfl ⟨_, rfl, World.ownsRow_nil _ _ _ _, Below.refl _ _⟩
    simp (maxDischargeDepth := 9) [results, Tryz.results33, go_sem, *]
  | some a =>
    have SR2 : Hid (SrcRow (w.alloc (.cells #[] 41)) (.slice (some a) n c) n 3 L) := Lib.hid (h _ ((Below.refl _ _).alloc (Nat.le_refl _) _))
    have OW : Hid ((w.alloc (.cells #[] 41)).ownsRow w.heap.size 41 3 (.slice (some ⟨w.heap.size, 0, none⟩) 0 0) 0 []) := Lib.hid ⟨rfl, .inr ⟨w.heap.size, 0, #[], rfl, Nat.le_refl _, heap_alloc_new w _, Nat.le_refl _, Nat.zero_le _, rfl, rfl⟩⟩
    have CP : Hid (∀ v w', w'.ownsRow w.heap.size 41 3 v n L → Below w.heap.size w w' → RowPost 41 3 w n L (.returned v) w') := Lib.hid (fun v w' h1 h2 => ⟨v, rfl, h1, h2⟩)
    clear h
    go_enter Tryz.func33, Tryz.ntmps33
    go_wp2_with (at_builtin; go_must (refine wpList_append_row (by rfl) _ _ 42 rfl w.heap.size 41 i0 _ 3 32 Tryz.underlying42 hi hz0 hz1 hz2 rfl (by decide) (.slice (some ⟨w.heap.size, 0, none⟩) 0 0) 0 [] rfl OW.out _ n L rfl SR2.out (by unfold maxLen; omega) (by omega) (by simp) ?_); intro v1 w1 hown hg ha; rw [Nat.zero_add, List.nil_append] at hown; have R1 := Lib.hid hown; have B1 : Hid (Below w.heap.size w w1) := Lib.hid (Below.gr (Below.al (Below.refl _ _) _) OW.out hg); obtain ⟨a1, c1, rfl⟩ := own_form hown; clear hown hg ha)
    refine bodyPost_ret (v := .slice a1 n c1) ?_ rfl (CP.out _ _ R1.out B1.out)
    simp (maxDischargeDepth := 9) [results, Tryz.results33, go_sem, *]

@[go_sem] theorem eql_col_none (w : World) (n c : Nat) : (binOp .eql 22 (.slice none n c) (.slice none 0 0)).run Tryz.prog w = .ok (.bool true) w := Lib.run_eql_slice_nil w _ _ none n c 0 0 Tryz.underlying22
@[go_sem] theorem eql_col_some (w : World) (a : Addr) (n c : Nat) : (binOp .eql 22 (.slice (some a) n c) (.slice none 0 0)).run Tryz.prog w = .ok (.bool false) w := Lib.run_eql_slice_nil w _ _ (some a) n c 0 0 Tryz.underlying22
theorem info_col : (Tryz.prog.info? 58).map (fun i => (i.zero, i.size, i.bytes)) = some (some (.agg #[.string ⟨#[]⟩, .int .i64 0, .int .i64 0, .bool false]), 4, 40) := by kernel_rfl
set_option maxRecDepth 8000 in
set_option maxHeartbeats 1000000 in
theorem clone_col (lv : Value) (n : Nat) (L : List Value) (w : World) (h : ∀ W, Below w.heap.size w W → SrcRow W lv n 4 L) (hb : n ≤ 2199023255552) :
    Calls Tryz.prog 34 #[lv] w (RowPost 58 4 w n L) := by
  obtain ⟨i0, hi, hz0, hz1, hz2⟩ := info_parts info_col
  obtain ⟨a, c, rfl⟩ : ∃ a c, lv = .slice a n c := by
    rcases (h w (Below.refl _ _)).2.2 with ⟨rfl, a, c, e⟩ | ⟨a, c, e, _⟩
    · exact ⟨a, c, e⟩
    · exact ⟨_, c, e⟩
  cases a with
  | none =>
    obtain rfl : n = 0 := by
      rcases (h w (Below.refl _ _)).2.2 with ⟨e, _⟩ | ⟨a, c', e, _⟩
      · exact e
      · injection e with q; cases q
    have e0 : L = [] := List.eq_nil_of_length_eq_zero (by simpa using (h w (Below.refl _ _)).1)
    subst e0
    clear h
    go_enter Tryz.func34, Tryz.ntmps34
    go_wp2
    refine bodyPost_ret (v := .slice none 0 0) ?_ rfl ⟨_, rfl, World.ownsRow_nil _ _ _ _, Below.refl _ _⟩
    simp (maxDischargeDepth := 9) [results, Tryz.results34, go_sem, *]
  | some a =>
    have SR2 : Hid (SrcRow (w.alloc (.cells #[] 58)) (.slice (some a) n c) n 4 L) := Lib.hid (h _ ((Below.refl _ _).alloc (Nat.le_refl _) _))
    have OW : Hid ((w.alloc (.cells #[] 58)).ownsRow w.heap.size 58 4 (.slice (some ⟨w.heap.size, 0, none⟩) 0 0) 0 []) := Lib.hid ⟨rfl, .inr ⟨w.heap.size, 0, #[], rfl, Nat.le_refl _, heap_alloc_new w _, Nat.le_refl _, Nat.zero_le _, rfl, rfl⟩⟩
    have CP : Hid (∀ v w', w'.ownsRow w.heap.size 58 4 v n L → Below w.heap.size w w' → RowPost 58 4 w n L (.returned v) w') := Lib.hid (fun v w' h1 h2 => ⟨v, rfl, h1, h2⟩)
    clear h
    go_enter Tryz.func34, Tryz.ntmps34
    go_wp2_with (at_builtin; go_must (refine wpList_append_row (by rfl) _ _ 22 rfl w.heap.size 58 i0 _ 4 40 Tryz.underlying22 hi hz0 hz1 hz2 rfl (by decide) (.slice (some ⟨w.heap.size, 0, none⟩) 0 0) 0 [] rfl OW.out _ n L rfl SR2.out (by unfold maxLen; omega) (by omega) (by simp) ?_); intro v1 w1 hown hg ha; rw [Nat.zero_add, List.nil_append] at hown; have R1 := Lib.hid hown; have B1 : Hid (Below w.heap.size w w1) := Lib.hid (Below.gr (Below.al (Below.refl _ _) _) OW.out hg); obtain ⟨a1, c1, rfl⟩ := own_form hown; clear hown hg ha)
    refine bodyPost_ret (v := .slice a1 n c1) ?_ rfl (CP.out _ _ R1.out B1.out)
    simp (maxDischargeDepth := 9) [results, Tryz.results34, go_sem, *]

@[go_sem] theorem eql_row_none (w : World) (n c : Nat) : (binOp .eql 30 (.slice none n c) (.slice none 0 0)).run Tryz.prog w = .ok (.bool true) w := Lib.run_eql_slice_nil w _ _ none n c 0 0 Tryz.underlying30
@[go_sem] theorem eql_row_some (w : World) (a : Addr) (n c : Nat) : (binOp .eql 30 (.slice (some a) n c) (.slice none 0 0)).run Tryz.prog w = .ok (.bool false) w := Lib.run_eql_slice_nil w _ _ (some a) n c 0 0 Tryz.underlying30
theorem info_row : (Tryz.prog.info? 42).map (fun i => (i.zero, i.size, i.bytes)) = some (some (.slice none 0 0), 1, 24) := by kernel_rfl
set_option maxRecDepth 8000 in
set_option maxHeartbeats 1000000 in
theorem clone_row (lv : Value) (n : Nat) (L : List Value) (w : World) (h : ∀ W, Below w.heap.size w W → SrcRow W lv n 1 L) (hb : n ≤ 2199023255552) :
    Calls Tryz.prog 40 #[lv] w (RowPost 42 1 w n L) := by
  obtain ⟨i0, hi, hz0, hz1, hz2⟩ := info_parts info_row
  obtain ⟨a, c, rfl⟩ : ∃ a c, lv = .slice a n c := by
    rcases (h w (Below.refl _ _)).2.2 with ⟨rfl, a, c, e⟩ | ⟨a, c, e, _⟩
    · exact ⟨a, c, e⟩
    · exact ⟨_, c, e⟩
  cases a with
  | none =>
    obtain rfl : n = 0 := by
      rcases (h w (Below.refl _ _)).2.2 with ⟨e, _⟩ | ⟨a, c', e, _⟩
      · exact e
      · injection e with q; cases q
    have e0 : L = [] := List.eq_nil_of_length_eq_zero (by simpa using (h w (Below.refl _ _)).1)
    subst e0
    clear h
    go_enter Tryz.func40, Tryz.ntmps40
    go_wp2
    refine bodyPost_ret (v := .slice none 0 0) ?_ rfl ⟨_, rfl, World.ownsRow_nil _ _ _ _, Below.refl _ _⟩
    simp (maxDischargeDepth := 9) [results, Tryz.results40, go_sem, *]
  | some a =>
    have SR2 : Hid (SrcRow (w.alloc (.cells #[] 42)) (.slice (some a) n c) n 1 L) := Lib.hid (h _ ((Below.refl _ _).alloc (Nat.le_refl _) _))
    have OW : Hid ((w.alloc (.cells #[] 42)).ownsRow w.heap.size 42 1 (.slice (some ⟨w.heap.size, 0, none⟩) 0 0) 0 []) := Lib.hid ⟨rfl, .inr ⟨w.heap.size, 0, #[], rfl, Nat.le_refl _, heap_alloc_new w _, Nat.le_refl _, Nat.zero_le _, rfl, rfl⟩⟩
    have CP : Hid (∀ v w', w'.ownsRow w.heap.size 42 1 v n L → Below w.heap.size w w' → RowPost 42 1 w n L (.returned v) w') := Lib.hid (fun v w' h1 h2 => ⟨v, rfl, h1, h2⟩)
    clear h
    go_enter Tryz.func40, Tryz.ntmps40
    go_wp2_with (at_builtin; go_must (refine wpList_append_row (by rfl) _ _ 30 rfl w.heap.size 42 i0 _ 1 24 Tryz.underlying30 hi hz0 hz1 hz2 rfl (by decide) (.slice (some ⟨w.heap.size, 0, none⟩) 0 0) 0 [] rfl OW.out _ n L rfl SR2.out (by unfold maxLen; omega) (by omega) (by simp) ?_); intro v1 w1 hown hg ha; rw [Nat.zero_add, List.nil_append] at hown; have R1 := Lib.hid hown; have B1 : Hid (Below w.heap.size w w1) := Lib.hid (Below.gr (Below.al (Below.refl _ _) _) OW.out hg); obtain ⟨a1, c1, rfl⟩ := own_form hown; clear hown hg ha)
    refine bodyPost_ret (v := .slice a1 n c1) ?_ rfl (CP.out _ _ R1.out B1.out)
    simp (maxDischargeDepth := 9) [results, Tryz.results40, go_sem, *]
end Go.Proofs.YtpahoenanfjhpaaGreat
namespace Go.Proofs.YtpahoenanfjhpaaGreat
open Go.RowKit
theorem wpList_append_run {P : Program} {w : World} {ops : Array Oper} {rest : List Oper} {o : Oper} {a : Act} {Q : Exit → Act → World → Prop} (hw : Region.wanted o (yielded ops a.tmps) = true) (s x : Operand) (t tn : TypeId)
    (ho : o.op = .call { callee := .builtin .append, args := #[s, x], argTypes := #[t, tn] }) (v xv : Value) (hs : a.eval s = v) (hxv : a.eval x = xv) (v' : Value) (w' : World) (hr : (Builtin.append_ #[t, tn] o.type #[v, xv]).run P w = .ok v' w')
    (h : wpList P ops Q rest (a.put o.dst v') w') : wpList P ops Q (o :: rest) a w := by
  refine wpList_step fun K hK => ?_
  rw [if_pos hw]
  unfold Oper.wp execOp
  simp only [ho, resolve, invoke, builtin, Sem.run_bind, Sem.run_pure, Result.andThen_ok, List.map_toArray, List.map_cons, List.map_nil, hs, hxv, hr]
  exact hK _ _ h
set_option maxRecDepth 8000 in
set_option maxHeartbeats 1000000 in
theorem grow_int (n : Nat) (w : World) (hb : n ≤ 1099511627776) : Calls Tryz.prog 78 #[.slice none 0 0, .int .i64 (n : Int)] w (RowPost 3 1 w 0 []) := by
  obtain ⟨i0, hi, hz0, hz1, hz2⟩ := info_parts info_int
  by_cases h0 : n = 0
  · subst h0
    go_enter Tryz.func78, Tryz.ntmps78
    go_wp2
    refine bodyPost_ret (v := .slice none 0 0) ?_ rfl ⟨_, rfl, World.ownsRow_nil _ _ _ _, Below.refl _ _⟩
    simp (maxDischargeDepth := 9) [results, Tryz.results78, go_sem, *]
  have hn0 : 0 < n := by omega
  have t1 : ¬ ((n : Int) < 0) := by omega
  have t2 : (0 : Int) < (n : Int) := by omega
  have hw : IntKind.i64.wrap (n : Int) = (n : Int) := by rw [IntKind.wrap_i64]; omega
  have hge := grownCap_ge w n 0 3
  have hle := grownCap_le_maxLen w n 0 3 (by unfold maxLen; omega)
  have run : ∀ ty, (Builtin.append_ #[26, 3] ty #[.slice none 0 0, .int .i64 (n : Int)]).run Tryz.prog w = .ok (.slice (some ⟨w.heap.size, 0, none⟩) n (grownCap w n 0 3)) (w.drew.alloc (.cells (Builtin.zeroCells ((.int .i64 0) : Value).cells n ++ Builtin.zeroCells ((.int .i64 0) : Value).cells (grownCap w n 0 3 - n)) 3)) := fun ty => by
    exact Lib.run_append_nil_zeros (P := Tryz.prog) w 26 3 ty 3 i0 _ .i64 .i64 Tryz.underlying26 Tryz.underlying3 hi hz0 n hn0 (by rw [hz1]; decide) (by omega) (by rw [hz2]; omega)
  obtain ⟨G, hG⟩ : ∃ G, grownCap w n 0 3 = G := ⟨_, rfl⟩
  rw [hG] at hge hle
  simp only [hG] at run
  obtain ⟨W1, hW1⟩ : ∃ W1, w.drew.alloc (.cells (Builtin.zeroCells ((.int .i64 0) : Value).cells n ++ Builtin.zeroCells ((.int .i64 0) : Value).cells (G - n)) 3) = W1 := ⟨_, rfl⟩
  rw [hW1] at run
  have FIN : Hid (RowPost 3 1 w 0 [] (.returned (.slice (some ⟨w.heap.size, 0, none⟩) 0 G)) W1) := Lib.hid ⟨_, rfl, ⟨rfl, .inr ⟨w.heap.size, G, _, rfl, Nat.le_refl _, by rw [← hW1]; exact heap_alloc_new w.drew _, Nat.zero_le _, hle, by rw [Array.size_append, size_zeroCells, size_zeroCells, ← Nat.add_mul, show n + (G - n) = G by omega]; rfl, by simp⟩⟩, by rw [← hW1]; exact ((Below.refl _ _).drew).alloc (Nat.le_refl _) _⟩
  have RUN := Lib.hid run
  clear run hG hW1
  go_enter Tryz.func78, Tryz.ntmps78
  go_wp2_with (at_builtin; go_must (refine wpList_append_run (by rfl) _ _ 26 3 rfl (.slice none 0 0) (.int .i64 (n : Int)) rfl rfl _ _ (RUN.out _) ?_))
  refine bodyPost_ret (v := .slice (some ⟨w.heap.size, 0, none⟩) 0 G) ?_ rfl FIN.out
  simp (maxDischargeDepth := 9) [results, Tryz.results78, go_sem, *]
set_option maxRecDepth 8000 in
set_option maxHeartbeats 1000000 in
theorem concat_int (b : Nat) (a1 a2 : Option Addr) (c1 c2 n m : Nat) (xs ys : List Value) (w : World) (h1 : ∀ W, Below w.heap.size w W → SrcRow W (.slice a1 n c1) n 1 xs) (h2 : ∀ W, Below w.heap.size w W → SrcRow W (.slice a2 m c2) m 1 ys)
    (hb : b < w.heap.size) (k0 : w.cell? ⟨b, 0, none⟩ = some (.slice a1 n c1)) (k1 : w.cell? ⟨b, 1, none⟩ = some (.slice a2 m c2)) (hnm : n + m ≤ 549755813888) :
    Calls Tryz.prog 52 #[.slice (some ⟨b, 0, none⟩) 2 2] w (RowPost 3 1 w (n + m) (xs ++ ys)) := by
  obtain ⟨i0, hi, hz0, hz1, hz2⟩ := info_parts info_int
  have H1 := Lib.hid h1
  have H2 := Lib.hid h2
  obtain ⟨N, hN⟩ : ∃ N, n + m = N := ⟨_, rfl⟩
  have HN := Lib.hid hN
  have w1 : IntKind.i64.wrap (n : Int) = (n : Int) := by rw [IntKind.wrap_i64]; omega
  have w2 : IntKind.i64.wrap ((n : Int) + (m : Int)) = (N : Int) := by rw [IntKind.wrap_i64]; omega
  have t1 : ¬ ((n : Int) < 0) := by omega
  have t2 : ¬ ((N : Int) < 0) := by omega
  have N40 : N ≤ 549755813888 := by omega
  have GR := Lib.hid (fun W => grow_int N W (by omega))
  rw [hN]
  clear h1 h2 hN hnm
  go_enter Tryz.func52, Tryz.ntmps52
  go_wp2
  refine wp_loop_rounds 3 ?_
  rw [rounds_succ]
  go_wp2
  rw [rounds_succ]
  go_wp2
  rw [rounds_succ]
  go_wp2_with (go_at_call 78; refine Calls.mono (GR.out _) ?_; rintro e wg ⟨vg, rfl, ho, hbl⟩; obtain ⟨ag, cg, rfl⟩ := own_form ho; have OG := Lib.hid ho; have BG := Lib.hid hbl; have kg0 := (hbl.cell (p := ⟨b, 0, none⟩) hb).trans k0; have kg1 := (hbl.cell (p := ⟨b, 1, none⟩) hb).trans k1; clear ho hbl)
  refine wp_loop_rounds 3 ?_
  rw [rounds_succ]
  go_wp2_with (at_builtin; go_must (refine wpList_append_row (by rfl) _ _ 26 rfl w.heap.size 3 i0 _ 1 8 Tryz.underlying26 hi hz0 hz1 hz2 rfl (by decide) (.slice ag 0 cg) 0 [] rfl OG.out _ n xs rfl (H1.out _ BG.out) (by unfold maxLen; have := HN.out; omega) (by have := HN.out; omega) (by have := BG.out.size; omega) ?_); intro v3 w3 hown hg ha; rw [Nat.zero_add, List.nil_append] at hown; have O3 := Lib.hid hown; have B3 : Hid (Below w.heap.size w w3) := Lib.hid (Below.gr BG.out OG.out hg); obtain ⟨a3, c3, rfl⟩ := own_form hown; have kh1 := (B3.out.cell (p := ⟨b, 1, none⟩) hb).trans k1; clear hown hg ha kg0 kg1)
  rw [rounds_succ]
  go_wp2_with (at_builtin; go_must (refine wpList_append_row (by rfl) _ _ 26 rfl w.heap.size 3 i0 _ 1 8 Tryz.underlying26 hi hz0 hz1 hz2 rfl (by decide) (.slice a3 n c3) n xs rfl O3.out _ m ys rfl (H2.out _ B3.out) (by unfold maxLen; have := HN.out; omega) (by have := HN.out; omega) (by have := B3.out.size; omega) ?_); intro v4 w4 hown hg ha; rw [HN.out] at hown; have O4 := Lib.hid hown; have B4 : Hid (Below w.heap.size w w4) := Lib.hid (Below.gr B3.out O3.out hg); obtain ⟨a4, c4, rfl⟩ := own_form hown; clear hown hg ha kh1)
  rw [rounds_succ]
  go_wp2
  refine bodyPost_ret (v := .slice a4 N c4) ?_ rfl ⟨_, rfl, O4.out, B4.out⟩
  simp (maxDischargeDepth := 9) [results, Tryz.results52, go_sem, *]
end Go.Proofs.YtpahoenanfjhpaaGreat
