/-
  CHAPTER 24: May and Must of prune and of its reference; law24.agrees. Conditions: the schema, the predicate and the zones lie in memory.
-/
import Derived.Test.YtfemekmkmiljdaaPpr
set_option linter.unusedVariables false
set_option linter.unusedSimpArgs false
namespace Go.Proofs.Ytfemekmkmiljdaa
open Go.RowKit
def posT (cs : List Col) (key : Int) (ns : List Nod) (zs : List Zon) : TS := if predF cs key ns = 0 ∧ zsE cs zs = 0 then posS cs zs ns else TS.non
theorem posF_1 (cs : List Col) (key : Int) (ns : List Nod) (zs : List Zon) : (posF cs key ns zs).1 = (posT cs key ns zs).int := by
  unfold posF posT
  by_cases h : predF cs key ns = 0
  · by_cases k : zsE cs zs = 0
    · rw [if_pos h, if_pos k, if_pos ⟨h, k⟩]
    · rw [if_pos h, if_neg k, if_neg (fun q => k q.2)]; rfl
  · rw [if_neg h, if_neg (fun q => h q.1)]; rfl
set_option maxRecDepth 8000 in
set_option maxHeartbeats 1000000 in
theorem may_any (cv : Value) (cs : List Col) (key : Int) (nv : Value) (ns : List Nod) (zv : Value) (zs : List Zon) (w : World) (hc : ColsAt w w.heap.size cv cs) (hn : NodsAt w w.heap.size nv ns) (hz : ZonsAt w w.heap.size zv zs) :
    Calls Try.prog 22 #[.agg #[cv, .int .i64 key], nv, zv] w fun e w' => e = .returned (.tuple #[.bool (posT cs key ns zs).t, .int .i64 (posF cs key ns zs).2]) ∧ Below w.heap.size w w' := by
  have HC : Hid (ColsAt (w.alloc (.cells #[cv, .int .i64 key] 27)) (w.alloc (.cells #[cv, .int .i64 key] 27)).heap.size cv cs) := Lib.hid (hc.mono ((Below.refl w.heap.size w).alloc (Nat.le_refl _) _) (by simp))
  have HN : Hid (NodsAt (w.alloc (.cells #[cv, .int .i64 key] 27)) (w.alloc (.cells #[cv, .int .i64 key] 27)).heap.size nv ns) := Lib.hid (hn.mono ((Below.refl w.heap.size w).alloc (Nat.le_refl _) _) (by simp))
  have HZ : Hid (ZonsAt (w.alloc (.cells #[cv, .int .i64 key] 27)) (w.alloc (.cells #[cv, .int .i64 key] 27)).heap.size zv zs) := Lib.hid (hz.mono ((Below.refl w.heap.size w).alloc (Nat.le_refl _) _) (by simp))
  have PC := possible_any cv cs key nv ns zv zs _ HC.out HN.out HZ.out
  rw [posF_1] at PC
  obtain ⟨v2, hv2⟩ : ∃ v, (posF cs key ns zs).2 = v := ⟨_, rfl⟩
  rw [hv2] at PC ⊢
  obtain ⟨⟨f, t, u⟩, hT⟩ : ∃ T, posT cs key ns zs = T := ⟨_, rfl⟩
  rw [hT] at PC ⊢
  clear hc hn hz HC HN HZ hv2 hT
  cases f <;> cases t <;> cases u <;> simp only [TS.int, if_true, if_false, reduceCtorEq, Bool.false_eq_true, Int.reduceAdd, Int.zero_add, Int.add_zero] at PC ⊢
  all_goals
    have PCH := Lib.hid PC
    clear PC
    go_enter Try.func22, Try.ntmps22
    go_wp2_with (first | (go_at_call 10; refine Calls.mono PCH.out ?_; rintro e w1 ⟨rfl, hb1⟩; obtain ⟨x1, rfl⟩ := Ext.of hb1) | (go_at_call 27; refine Calls.mono (one_any (t := 1) (.inr (.inl rfl)) _) ?_; rintro e w2 ⟨rfl, hb2⟩; obtain ⟨x2, rfl⟩ := Ext.of hb2))
    refine bodyPost_ret (v := .tuple #[_, .int .i64 v2]) (by simp [results, Try.results22, go_sem, *] <;> decide) rfl ⟨rfl, by repeat (first | with_reducible exact Below.refl _ _ | with_reducible assumption | with_reducible refine Below.al ?_ _ | with_reducible refine Below.on ?_ _ | with_reducible refine Below.st ?_ (by first | assumption | (simp; done) | (simp; omega)) _ | with_reducible refine Below.drew ?_)⟩
set_option maxRecDepth 8000 in
set_option maxHeartbeats 1000000 in
theorem refmay_any (cv : Value) (cs : List Col) (key : Int) (nv : Value) (ns : List Nod) (zv : Value) (zs : List Zon) (w : World) (hc : ColsAt w w.heap.size cv cs) (hn : NodsAt w w.heap.size nv ns) (hz : ZonsAt w w.heap.size zv zs) :
    Calls Try.prog 33 #[.agg #[cv, .int .i64 key], nv, zv] w fun e w' => e = .returned (.tuple #[.bool (posT cs key ns zs).t, .int .i64 (posF cs key ns zs).2]) ∧ Below w.heap.size w w' := by
  have HC : Hid (ColsAt (w.alloc (.cells #[cv, .int .i64 key] 27)) (w.alloc (.cells #[cv, .int .i64 key] 27)).heap.size cv cs) := Lib.hid (hc.mono ((Below.refl w.heap.size w).alloc (Nat.le_refl _) _) (by simp))
  have HN : Hid (NodsAt (w.alloc (.cells #[cv, .int .i64 key] 27)) (w.alloc (.cells #[cv, .int .i64 key] 27)).heap.size nv ns) := Lib.hid (hn.mono ((Below.refl w.heap.size w).alloc (Nat.le_refl _) _) (by simp))
  have HZ : Hid (ZonsAt (w.alloc (.cells #[cv, .int .i64 key] 27)) (w.alloc (.cells #[cv, .int .i64 key] 27)).heap.size zv zs) := Lib.hid (hz.mono ((Below.refl w.heap.size w).alloc (Nat.le_refl _) _) (by simp))
  have PC := refpossible_any cv cs key nv ns zv zs _ HC.out HN.out HZ.out
  rw [posF_1] at PC
  obtain ⟨v2, hv2⟩ : ∃ v, (posF cs key ns zs).2 = v := ⟨_, rfl⟩
  rw [hv2] at PC ⊢
  obtain ⟨⟨f, t, u⟩, hT⟩ : ∃ T, posT cs key ns zs = T := ⟨_, rfl⟩
  rw [hT] at PC ⊢
  clear hc hn hz HC HN HZ hv2 hT
  cases f <;> cases t <;> cases u <;> simp only [TS.int, if_true, if_false, reduceCtorEq, Bool.false_eq_true, Int.reduceAdd, Int.zero_add, Int.add_zero] at PC ⊢
  all_goals
    have PCH := Lib.hid PC
    clear PC
    go_enter Try.func33, Try.ntmps33
    go_wp2_with (first | (go_at_call 32; refine Calls.mono PCH.out ?_; rintro e w1 ⟨rfl, hb1⟩; obtain ⟨x1, rfl⟩ := Ext.of hb1))
    refine bodyPost_ret (v := .tuple #[_, .int .i64 v2]) (by simp [results, Try.results33, go_sem, *] <;> decide) rfl ⟨rfl, by repeat (first | with_reducible exact Below.refl _ _ | with_reducible assumption | with_reducible refine Below.al ?_ _ | with_reducible refine Below.on ?_ _ | with_reducible refine Below.st ?_ (by first | assumption | (simp; done) | (simp; omega)) _ | with_reducible refine Below.drew ?_)⟩
set_option maxRecDepth 8000 in
set_option maxHeartbeats 1000000 in
theorem must_any (cv : Value) (cs : List Col) (key : Int) (nv : Value) (ns : List Nod) (zv : Value) (zs : List Zon) (w : World) (hc : ColsAt w w.heap.size cv cs) (hn : NodsAt w w.heap.size nv ns) (hz : ZonsAt w w.heap.size zv zs) :
    Calls Try.prog 23 #[.agg #[cv, .int .i64 key], nv, zv] w fun e w' => e = .returned (.tuple #[.bool (decide ((posT cs key ns zs).int = 2)), .int .i64 (posF cs key ns zs).2]) ∧ Below w.heap.size w w' := by
  have HC : Hid (ColsAt (w.alloc (.cells #[cv, .int .i64 key] 27)) (w.alloc (.cells #[cv, .int .i64 key] 27)).heap.size cv cs) := Lib.hid (hc.mono ((Below.refl w.heap.size w).alloc (Nat.le_refl _) _) (by simp))
  have HN : Hid (NodsAt (w.alloc (.cells #[cv, .int .i64 key] 27)) (w.alloc (.cells #[cv, .int .i64 key] 27)).heap.size nv ns) := Lib.hid (hn.mono ((Below.refl w.heap.size w).alloc (Nat.le_refl _) _) (by simp))
  have HZ : Hid (ZonsAt (w.alloc (.cells #[cv, .int .i64 key] 27)) (w.alloc (.cells #[cv, .int .i64 key] 27)).heap.size zv zs) := Lib.hid (hz.mono ((Below.refl w.heap.size w).alloc (Nat.le_refl _) _) (by simp))
  have PC := possible_any cv cs key nv ns zv zs _ HC.out HN.out HZ.out
  rw [posF_1] at PC
  obtain ⟨v2, hv2⟩ : ∃ v, (posF cs key ns zs).2 = v := ⟨_, rfl⟩
  rw [hv2] at PC ⊢
  obtain ⟨⟨f, t, u⟩, hT⟩ : ∃ T, posT cs key ns zs = T := ⟨_, rfl⟩
  rw [hT] at PC ⊢
  clear hc hn hz HC HN HZ hv2 hT
  cases f <;> cases t <;> cases u <;> simp only [TS.int, if_true, if_false, reduceCtorEq, Bool.false_eq_true, Int.reduceAdd, Int.zero_add, Int.add_zero] at PC ⊢
  all_goals
    have PCH := Lib.hid PC
    clear PC
    go_enter Try.func23, Try.ntmps23
    go_wp2_with (first | (go_at_call 10; refine Calls.mono PCH.out ?_; rintro e w1 ⟨rfl, hb1⟩; obtain ⟨x1, rfl⟩ := Ext.of hb1) | (go_at_call 27; refine Calls.mono (one_any (t := 1) (.inr (.inl rfl)) _) ?_; rintro e w2 ⟨rfl, hb2⟩; obtain ⟨x2, rfl⟩ := Ext.of hb2))
    refine bodyPost_ret (v := .tuple #[_, .int .i64 v2]) (by simp [results, Try.results23, go_sem, *] <;> decide) rfl ⟨rfl, by repeat (first | with_reducible exact Below.refl _ _ | with_reducible assumption | with_reducible refine Below.al ?_ _ | with_reducible refine Below.on ?_ _ | with_reducible refine Below.st ?_ (by first | assumption | (simp; done) | (simp; omega)) _ | with_reducible refine Below.drew ?_)⟩
set_option maxRecDepth 8000 in
set_option maxHeartbeats 1000000 in
theorem refmust_any (cv : Value) (cs : List Col) (key : Int) (nv : Value) (ns : List Nod) (zv : Value) (zs : List Zon) (w : World) (hc : ColsAt w w.heap.size cv cs) (hn : NodsAt w w.heap.size nv ns) (hz : ZonsAt w w.heap.size zv zs) :
    Calls Try.prog 34 #[.agg #[cv, .int .i64 key], nv, zv] w fun e w' => e = .returned (.tuple #[.bool (decide ((posT cs key ns zs).int = 2)), .int .i64 (posF cs key ns zs).2]) ∧ Below w.heap.size w w' := by
  have HC : Hid (ColsAt (w.alloc (.cells #[cv, .int .i64 key] 27)) (w.alloc (.cells #[cv, .int .i64 key] 27)).heap.size cv cs) := Lib.hid (hc.mono ((Below.refl w.heap.size w).alloc (Nat.le_refl _) _) (by simp))
  have HN : Hid (NodsAt (w.alloc (.cells #[cv, .int .i64 key] 27)) (w.alloc (.cells #[cv, .int .i64 key] 27)).heap.size nv ns) := Lib.hid (hn.mono ((Below.refl w.heap.size w).alloc (Nat.le_refl _) _) (by simp))
  have HZ : Hid (ZonsAt (w.alloc (.cells #[cv, .int .i64 key] 27)) (w.alloc (.cells #[cv, .int .i64 key] 27)).heap.size zv zs) := Lib.hid (hz.mono ((Below.refl w.heap.size w).alloc (Nat.le_refl _) _) (by simp))
  have PC := refpossible_any cv cs key nv ns zv zs _ HC.out HN.out HZ.out
  rw [posF_1] at PC
  obtain ⟨v2, hv2⟩ : ∃ v, (posF cs key ns zs).2 = v := ⟨_, rfl⟩
  rw [hv2] at PC ⊢
  obtain ⟨⟨f, t, u⟩, hT⟩ : ∃ T, posT cs key ns zs = T := ⟨_, rfl⟩
  rw [hT] at PC ⊢
  clear hc hn hz HC HN HZ hv2 hT
  cases f <;> cases t <;> cases u <;> simp only [TS.int, if_true, if_false, reduceCtorEq, Bool.false_eq_true, Int.reduceAdd, Int.zero_add, Int.add_zero] at PC ⊢
  all_goals
    have PCH := Lib.hid PC
    clear PC
    go_enter Try.func34, Try.ntmps34
    go_wp2_with (first | (go_at_call 32; refine Calls.mono PCH.out ?_; rintro e w1 ⟨rfl, hb1⟩; obtain ⟨x1, rfl⟩ := Ext.of hb1))
    refine bodyPost_ret (v := .tuple #[_, .int .i64 v2]) (by simp [results, Try.results34, go_sem, *] <;> decide) rfl ⟨rfl, by repeat (first | with_reducible exact Below.refl _ _ | with_reducible assumption | with_reducible refine Below.al ?_ _ | with_reducible refine Below.on ?_ _ | with_reducible refine Below.st ?_ (by first | assumption | (simp; done) | (simp; omega)) _ | with_reducible refine Below.drew ?_)⟩
set_option maxRecDepth 8000 in
set_option maxHeartbeats 1000000 in
theorem agrees24_any (cv : Value) (cs : List Col) (key : Int) (nv : Value) (ns : List Nod) (zv : Value) (zs : List Zon) (w : World) (hc : ColsAt w w.heap.size cv cs) (hn : NodsAt w w.heap.size nv ns) (hz : ZonsAt w w.heap.size zv zs) :
    Calls Try.prog 16 #[.agg #[cv, .int .i64 key], nv, zv] w fun e w' => e = .returned (.bool true) ∧ Below w.heap.size w w' := by
  have W0 : ∀ W, Below w.heap.size w W → (ColsAt W W.heap.size cv cs ∧ NodsAt W W.heap.size nv ns ∧ ZonsAt W W.heap.size zv zs) := fun W hb => ⟨hc.mono hb hb.size, hn.mono hb hb.size, hz.mono hb hb.size⟩
  obtain ⟨p1, hp1⟩ : ∃ p, (posF cs key ns zs).1 = p := ⟨_, rfl⟩
  obtain ⟨p2, hp2⟩ : ∃ p, (posF cs key ns zs).2 = p := ⟨_, rfl⟩
  obtain ⟨p3, hp3⟩ : ∃ p, (posT cs key ns zs).t = p := ⟨_, rfl⟩
  obtain ⟨p4, hp4⟩ : ∃ p, decide ((posT cs key ns zs).int = 2) = p := ⟨_, rfl⟩
  have C1 := Lib.hid (fun (W : World) (hb : Below w.heap.size w W) => (by have h := possible_any cv cs key nv ns zv zs W (W0 W hb).1 (W0 W hb).2.1 (W0 W hb).2.2; rw [hp1, hp2] at h; exact h : Calls Try.prog 10 #[.agg #[cv, .int .i64 key], nv, zv] W fun e w' => e = .returned (.tuple #[.int .i64 p1, .int .i64 p2]) ∧ Below W.heap.size W w'))
  have C2 := Lib.hid (fun (W : World) (hb : Below w.heap.size w W) => (by have h := refpossible_any cv cs key nv ns zv zs W (W0 W hb).1 (W0 W hb).2.1 (W0 W hb).2.2; rw [hp1, hp2] at h; exact h : Calls Try.prog 32 #[.agg #[cv, .int .i64 key], nv, zv] W fun e w' => e = .returned (.tuple #[.int .i64 p1, .int .i64 p2]) ∧ Below W.heap.size W w'))
  have C3 := Lib.hid (fun (W : World) (hb : Below w.heap.size w W) => (by have h := may_any cv cs key nv ns zv zs W (W0 W hb).1 (W0 W hb).2.1 (W0 W hb).2.2; rw [hp3, hp2] at h; exact h : Calls Try.prog 22 #[.agg #[cv, .int .i64 key], nv, zv] W fun e w' => e = .returned (.tuple #[.bool p3, .int .i64 p2]) ∧ Below W.heap.size W w'))
  have C4 := Lib.hid (fun (W : World) (hb : Below w.heap.size w W) => (by have h := refmay_any cv cs key nv ns zv zs W (W0 W hb).1 (W0 W hb).2.1 (W0 W hb).2.2; rw [hp3, hp2] at h; exact h : Calls Try.prog 33 #[.agg #[cv, .int .i64 key], nv, zv] W fun e w' => e = .returned (.tuple #[.bool p3, .int .i64 p2]) ∧ Below W.heap.size W w'))
  have C5 := Lib.hid (fun (W : World) (hb : Below w.heap.size w W) => (by have h := must_any cv cs key nv ns zv zs W (W0 W hb).1 (W0 W hb).2.1 (W0 W hb).2.2; rw [hp4, hp2] at h; exact h : Calls Try.prog 23 #[.agg #[cv, .int .i64 key], nv, zv] W fun e w' => e = .returned (.tuple #[.bool p4, .int .i64 p2]) ∧ Below W.heap.size W w'))
  have C6 := Lib.hid (fun (W : World) (hb : Below w.heap.size w W) => (by have h := refmust_any cv cs key nv ns zv zs W (W0 W hb).1 (W0 W hb).2.1 (W0 W hb).2.2; rw [hp4, hp2] at h; exact h : Calls Try.prog 34 #[.agg #[cv, .int .i64 key], nv, zv] W fun e w' => e = .returned (.tuple #[.bool p4, .int .i64 p2]) ∧ Below W.heap.size W w'))
  clear hc hn hz W0 hp1 hp2 hp3 hp4
  go_enter Try.func16, Try.ntmps16
  go_wp2_with (first | (go_at_call 10; (with_reducible refine Calls.mono (C1.out _ ?_) ?_); (focus (repeat (first | with_reducible exact Below.refl _ _ | with_reducible assumption | with_reducible refine Below.al ?_ _ | with_reducible refine Below.on ?_ _ | with_reducible refine Below.st ?_ (by first | assumption | (simp; done) | (simp; omega)) _ | with_reducible refine Below.drew ?_))); rintro e w1 ⟨rfl, hb1⟩; obtain ⟨x1, rfl⟩ := Ext.of hb1; have z1 : w.heap.size < x1.it.heap.size := x1.lt (by simp)) | (go_at_call 32; (with_reducible refine Calls.mono (C2.out _ ?_) ?_); (focus (repeat (first | with_reducible exact Below.refl _ _ | with_reducible assumption | with_reducible refine Below.al ?_ _ | with_reducible refine Below.on ?_ _ | with_reducible refine Below.st ?_ (by first | assumption | (simp; done) | (simp; omega)) _ | with_reducible refine Below.drew ?_))); rintro e w2 ⟨rfl, hb2⟩; obtain ⟨x2, rfl⟩ := Ext.of hb2; have z2 : w.heap.size < x2.it.heap.size := x2.lt z1) | (go_at_call 22; (with_reducible refine Calls.mono (C3.out _ ?_) ?_); (focus (repeat (first | with_reducible exact Below.refl _ _ | with_reducible assumption | with_reducible refine Below.al ?_ _ | with_reducible refine Below.on ?_ _ | with_reducible refine Below.st ?_ (by first | assumption | (simp; done) | (simp; omega)) _ | with_reducible refine Below.drew ?_))); rintro e w3 ⟨rfl, hb3⟩; obtain ⟨x3, rfl⟩ := Ext.of hb3; have z3 : w.heap.size < x3.it.heap.size := x3.lt z2) | (go_at_call 33; (with_reducible refine Calls.mono (C4.out _ ?_) ?_); (focus (repeat (first | with_reducible exact Below.refl _ _ | with_reducible assumption | with_reducible refine Below.al ?_ _ | with_reducible refine Below.on ?_ _ | with_reducible refine Below.st ?_ (by first | assumption | (simp; done) | (simp; omega)) _ | with_reducible refine Below.drew ?_))); rintro e w4 ⟨rfl, hb4⟩; obtain ⟨x4, rfl⟩ := Ext.of hb4; have z4 : w.heap.size < x4.it.heap.size := x4.lt z3) | (go_at_call 23; (with_reducible refine Calls.mono (C5.out _ ?_) ?_); (focus (repeat (first | with_reducible exact Below.refl _ _ | with_reducible assumption | with_reducible refine Below.al ?_ _ | with_reducible refine Below.on ?_ _ | with_reducible refine Below.st ?_ (by first | assumption | (simp; done) | (simp; omega)) _ | with_reducible refine Below.drew ?_))); rintro e w5 ⟨rfl, hb5⟩; obtain ⟨x5, rfl⟩ := Ext.of hb5; have z5 : w.heap.size < x5.it.heap.size := x5.lt z4) | (go_at_call 34; (with_reducible refine Calls.mono (C6.out _ ?_) ?_); (focus (repeat (first | with_reducible exact Below.refl _ _ | with_reducible assumption | with_reducible refine Below.al ?_ _ | with_reducible refine Below.on ?_ _ | with_reducible refine Below.st ?_ (by first | assumption | (simp; done) | (simp; omega)) _ | with_reducible refine Below.drew ?_))); rintro e w6 ⟨rfl, hb6⟩; obtain ⟨x6, rfl⟩ := Ext.of hb6; have z6 : w.heap.size < x6.it.heap.size := x6.lt z5))
  exact bodyPost_ret (v := .bool true) (by simp [results, Try.results16, go_sem, *]) rfl (⟨rfl, by repeat (first | with_reducible exact Below.refl _ _ | with_reducible assumption | with_reducible refine Below.al ?_ _ | with_reducible refine Below.on ?_ _ | with_reducible refine Below.st ?_ (by first | assumption | (simp; done) | (simp; omega)) _ | with_reducible refine Below.drew ?_)⟩)
end Go.Proofs.Ytfemekmkmiljdaa
