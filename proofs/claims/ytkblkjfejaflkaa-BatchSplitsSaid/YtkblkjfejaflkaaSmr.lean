/-
  EQUALITY: keep.Same of values, keep.SameRec, keep.SameRecs, of whatever lists ('allB', 'eqV', 'eqRc'). Conditions: the lists lie in memory as 'ValsAt', 'RecsAt' say.
-/
import Derived.Test.YtkblkjfejaflkaaApp
import Derived.Laws.StructEq
set_option linter.unusedVariables false
set_option linter.unusedSimpArgs false
namespace Go.Proofs.Ytkblkjfejaflkaa
open Go.RowKit
def eqV (a b : Val) : Bool := decide (a.null = b.null) && (decide (a.n = b.n) && decide (a.s.toList = b.s.toList))
theorem bytes_inj {a b : ByteArray} (h : a.toList = b.toList) : a = b := by
  rw [ByteArray.toList_eq, ByteArray.toList_eq] at h
  cases a; cases b
  simp only [ByteArray.mk.injEq]
  exact Array.toList_inj.1 h
theorem eqV_iff (a b : Val) : eqV a b = true ↔ a = b := by
  constructor
  · intro h
    obtain ⟨a1, a2, a3⟩ := a
    obtain ⟨b1, b2, b3⟩ := b
    simp [eqV] at h
    obtain ⟨h1, h2, h3⟩ := h
    rw [h1, h2, bytes_inj h3]
  · rintro rfl
    simp [eqV]
@[go_sem high] theorem run_neV (an : Bool) (a : Int) (as' : ByteArray) (bn : Bool) (b : Int) (bs' : ByteArray) (w : World) :
    (binOp .neq 33 (.agg #[.bool an, .int .i64 a, .string as']) (.agg #[.bool bn, .int .i64 b, .string bs'])).run Try.prog w = .ok (.bool (!eqV ⟨an, a, as'⟩ ⟨bn, b, bs'⟩)) w := by
  rw [run_neq_struct]
  unfold eqV
  simp [go_sem]
  repeat' split
  all_goals simp [*]
def allB {α : Type} (p : α → α → Bool) : List α → List α → Bool
  | [], [] => true
  | x :: xs, y :: ys => p x y && allB p xs ys
  | _, _ => false
theorem allB_refl {α : Type} {p : α → α → Bool} (h : ∀ x, p x x = true) : ∀ l, allB p l l = true
  | [] => rfl
  | x :: xs => by unfold allB; rw [h x, allB_refl h xs]; rfl
theorem allB_len {α : Type} {p : α → α → Bool} : ∀ {l m : List α}, l.length ≠ m.length → allB p l m = false
  | [], [], h => absurd rfl h
  | [], _ :: _, _ => rfl
  | _ :: _, [], _ => rfl
  | x :: xs, y :: ys, h => by unfold allB; rw [allB_len (by simpa using h)]; simp
theorem allB_eq {α : Type} {p : α → α → Bool} (h : ∀ x y, p x y = true → x = y) : ∀ {l m : List α}, allB p l m = true → l = m
  | [], [], _ => rfl
  | [], _ :: _, k => by cases k
  | _ :: _, [], k => by cases k
  | x :: xs, y :: ys, k => by
    unfold allB at k
    rw [Bool.and_eq_true] at k
    rw [h x y k.1, allB_eq h k.2]
theorem allB_drop {α : Type} {p : α → α → Bool} {l m : List α} {k : Nat} (h : k < l.length) (h' : k < m.length) : allB p (l.drop k) (m.drop k) = (p (l[k]'h) (m[k]'(h')) && allB p (l.drop (k + 1)) (m.drop (k + 1))) := by
  rw [List.drop_eq_getElem_cons h, List.drop_eq_getElem_cons h']
  rfl
def eqRc (a b : Rc) : Bool := decide (a.seq = b.seq) && allB eqV a.row b.row
theorem eqVs_iff (l m : List Val) : allB eqV l m = true ↔ l = m := ⟨allB_eq fun x y h => (eqV_iff x y).1 h, fun h => h ▸ allB_refl (fun x => (eqV_iff x x).2 rfl) l⟩
theorem eqRc_iff (a b : Rc) : eqRc a b = true ↔ a = b := by
  constructor
  · intro h
    unfold eqRc at h
    rw [Bool.and_eq_true] at h
    obtain ⟨h1, h2⟩ := h
    obtain ⟨a1, a2⟩ := a
    obtain ⟨b1, b2⟩ := b
    have h1 : a1 = b1 := by simpa using h1
    have h2 : a2 = b2 := (eqVs_iff _ _).1 h2
    rw [h1, h2]
  · rintro rfl
    unfold eqRc
    rw [(eqVs_iff _ _).2 rfl]
    simp
theorem eqRs_iff (l m : List Rc) : allB eqRc l m = true ↔ l = m := ⟨allB_eq fun x y h => (eqRc_iff x y).1 h, fun h => h ▸ allB_refl (fun x => (eqRc_iff x x).2 rfl) l⟩
set_option maxRecDepth 8000 in
set_option maxHeartbeats 1000000 in
theorem same_val (va vb : Value) (xs ys : List Val) (w : World) (ha : ValsAt w w.heap.size va xs) (hb : ValsAt w w.heap.size vb ys) :
    Calls Try.prog 52 #[va, vb] w fun e w' => e = .returned (.bool (allB eqV xs ys)) ∧ Below w.heap.size w w' := by
  obtain ⟨aa, ac, rfl⟩ := vals_end ha
  obtain ⟨ba, bc, rfl⟩ := vals_end hb
  obtain ⟨n, hn⟩ : ∃ n, xs.length = n := ⟨_, rfl⟩
  obtain ⟨m, hm⟩ : ∃ m, ys.length = m := ⟨_, rfl⟩
  have n63 := ha.1
  have m63 := hb.1
  by_cases hnm : xs.length = ys.length
  rotate_left
  focus
    have E := allB_len (p := eqV) hnm
    rw [E]
    rw [hn, hm] at hnm ⊢
    have t : ((n : Int) != (m : Int)) = true := by simp; omega
    clear ha hb hn hm E n63 m63
    go_enter Try.func52, Try.ntmps52
    go_wp2_with fail
    exact bodyPost_ret (v := .bool false) (by simp [results, Try.results52, go_sem, *]) rfl (⟨rfl, by repeat (first | with_reducible exact Below.refl _ _ | with_reducible assumption | with_reducible refine Below.al ?_ _ | with_reducible refine Below.on ?_ _ | with_reducible refine Below.st ?_ (by first | assumption | (simp; done) | (simp; omega)) _ | with_reducible refine Below.drew ?_)⟩)
  obtain rfl : n = m := by omega
  have t : ((n : Int) != (n : Int)) = false := by simp
  obtain ⟨B, hB⟩ : ∃ B, allB eqV xs ys = B := ⟨_, rfl⟩
  rw [hB]
  have HA := Lib.hid ha
  have HB := Lib.hid hb
  have HN := Lib.hid hn
  have HM := Lib.hid hm
  have HBB := Lib.hid hB
  rw [hn] at n63 HA ⊢
  rw [hm] at HB ⊢
  clear ha hb hn hm hB m63 hnm
  go_enter Try.func52, Try.ntmps52
  go_wp2_with fail
  go_loopg [13] n (fun g st wr => ∃ k : Nat, k + g = n ∧ st = .int .i64 (k : Int) ∧ allB eqV (xs.drop k) (ys.drop k) = B ∧ ∃ x : Ext w, x.it = wr)
  case atStart => exact ⟨0, by omega, rfl, by simpa using HBB.out, ⟨w, Below.refl _ _⟩, rfl⟩
  case round =>
    obtain ⟨k, hk, rfl, hF, x, rfl⟩ := hrel
    have hx := x.below
    by_cases hg0 : gk = 0
    · subst hg0
      obtain rfl : k = n := by omega
      obtain rfl : true = B := by rw [← hF, List.drop_of_length_le (by rw [HN.out]; exact Nat.le_refl _), List.drop_of_length_le (by rw [HM.out]; exact Nat.le_refl _)]; rfl
      clear hk hF
      go_wp2
      exact bodyPost_ret (v := .bool true) (by simp [results, Try.results52, go_sem, *]) rfl (⟨rfl, by repeat (first | with_reducible exact Below.refl _ _ | with_reducible assumption | with_reducible refine Below.al ?_ _ | with_reducible refine Below.on ?_ _ | with_reducible refine Below.st ?_ (by first | assumption | (simp; done) | (simp; omega)) _ | with_reducible refine Below.drew ?_)⟩)
    · have hkm : k < n := by omega
      have hkm' : (k : Int) < (n : Int) := by omega
      have hkx : k < xs.length := by rw [HN.out]; exact hkm
      have hky : k < ys.length := by rw [HM.out]; exact hkm
      have AD := allB_drop (p := eqV) hkx hky
      rw [hF] at AD
      obtain ⟨b1, o1, rfl, _, hb1, c0, c1, c2⟩ := vals_in HA.out hkx
      obtain ⟨b2, o2, rfl, _, hb2, d0, d1, d2⟩ := vals_in HB.out hky
      obtain ⟨u, hu⟩ : ∃ u, xs[k]'hkx = u := ⟨_, rfl⟩
      obtain ⟨v, hv⟩ : ∃ v, ys[k]'hky = v := ⟨_, rfl⟩
      rw [hu, hv] at AD
      rw [hu] at c0 c1 c2
      rw [hv] at d0 d1 d2
      obtain ⟨un, ui, us⟩ := u
      obtain ⟨vn, vi, vs⟩ := v
      dsimp only at c0 c1 c2 d0 d1 d2
      have f0 := (hx.cell (p := ⟨b1, o1 + k * 3, none⟩) hb1).trans c0
      have f1 := (hx.cell (p := ⟨b1, o1 + k * 3 + 1, none⟩) hb1).trans c1
      have f2 := (hx.cell (p := ⟨b1, o1 + k * 3 + 2, none⟩) hb1).trans c2
      have g0 := (hx.cell (p := ⟨b2, o2 + k * 3, none⟩) hb2).trans d0
      have g1 := (hx.cell (p := ⟨b2, o2 + k * 3 + 1, none⟩) hb2).trans d1
      have g2 := (hx.cell (p := ⟨b2, o2 + k * 3 + 2, none⟩) hb2).trans d2
      have z1 : b1 < x.it.heap.size := Nat.lt_of_lt_of_le hb1 hx.size
      have z2 : b2 < x.it.heap.size := Nat.lt_of_lt_of_le hb2 hx.size
      have HK := Lib.hid (And.intro hk hg0)
      have HAD := Lib.hid AD
      clear hk hg0 hu hv hF AD hkx hky c0 c1 c2 d0 d1 d2
      obtain ⟨C, hC⟩ : ∃ C, eqV ⟨un, ui, us⟩ ⟨vn, vi, vs⟩ = C := ⟨_, rfl⟩
      rw [hC] at HAD
      go_upto_region 6 with fail
      cases C with
      | true =>
        have F2 := Lib.hid (show allB eqV (xs.drop (k + 1)) (ys.drop (k + 1)) = B by have := HAD.out; rw [Bool.true_and] at this; exact this.symm)
        refine wp_region_ext (by kernel_rfl) (by kernel_rfl) ?_
        repeat (go_big_quiet_step ((fail)))
        refine wpQuiet_nil ?_
        rintro _ ⟨x5, rfl⟩
        clear hC
        go_wp2_with fail
        go_roundg (gk - 1)
        case measure => have := HK.out; omega
        case rel => exact ⟨k + 1, by have := HK.out; omega, by go_num, F2.out, ⟨x5.it, Below.on hx x5⟩, rfl⟩
      | false =>
        obtain rfl : false = B := by have := HAD.out; rw [Bool.false_and] at this; exact this.symm
        refine wp_region_ext (by kernel_rfl) (by kernel_rfl) ?_
        repeat (go_big_quiet_step ((fail)))
        refine wpQuiet_nil ?_
        rintro _ ⟨x5, rfl⟩
        clear hC
        go_wp2_with fail
        exact bodyPost_ret (v := .bool false) (by simp [results, Try.results52, go_sem, *]) rfl (⟨rfl, by repeat (first | with_reducible exact Below.refl _ _ | with_reducible assumption | with_reducible refine Below.al ?_ _ | with_reducible refine Below.on ?_ _ | with_reducible refine Below.st ?_ (by first | assumption | (simp; done) | (simp; omega)) _ | with_reducible refine Below.drew ?_)⟩)
set_option maxRecDepth 8000 in
set_option maxHeartbeats 1000000 in
theorem sameRec_any (asq : Int) (alv : Value) (arow : List Val) (bsq : Int) (blv : Value) (brow : List Val) (w : World) (ha : ValsAt w w.heap.size alv arow) (hb : ValsAt w w.heap.size blv brow) :
    Calls Try.prog 26 #[.agg #[.int .i64 asq, alv], .agg #[.int .i64 bsq, blv]] w fun e w' => e = .returned (.bool (eqRc ⟨asq, arow⟩ ⟨bsq, brow⟩)) ∧ Below w.heap.size w w' := by
  obtain ⟨C, hC⟩ : ∃ C, allB eqV arow brow = C := ⟨_, rfl⟩
  have SV := Lib.hid (fun (W : World) (h : Below w.heap.size w W) => (by have z := same_val alv blv arow brow W (ha.mono h h.size) (hb.mono h h.size); rw [hC] at z; exact z : Calls Try.prog 52 #[alv, blv] W fun e w' => e = .returned (.bool C) ∧ Below W.heap.size W w'))
  have E : eqRc ⟨asq, arow⟩ ⟨bsq, brow⟩ = (decide (asq = bsq) && C) := by unfold eqRc; rw [hC]
  rw [E]
  obtain ⟨la, lc, rfl⟩ := vals_end ha
  obtain ⟨ma, mc, rfl⟩ := vals_end hb
  clear E hC ha hb
  generalize arow.length = m1 at *
  generalize brow.length = m2 at *
  by_cases hs : asq = bsq
  · have t : (asq == bsq) = true := by simpa using hs
    have t' : decide (asq = bsq) = true := by simpa using hs
    rw [t', Bool.true_and]
    clear hs
    go_enter Try.func26, Try.ntmps26
    go_wp2_with (go_at_call 52; refine Calls.mono (SV.out _ (by repeat (first | with_reducible exact Below.refl _ _ | with_reducible assumption | with_reducible refine Below.al ?_ _ | with_reducible refine Below.on ?_ _ | with_reducible refine Below.st ?_ (by first | assumption | (simp; done) | (simp; omega)) _ | with_reducible refine Below.drew ?_))) ?_; rintro e w1 ⟨rfl, hb1⟩; obtain ⟨x1, rfl⟩ := Ext.of hb1)
    go_ret
    exact ⟨rfl, by repeat (first | with_reducible exact Below.refl _ _ | with_reducible assumption | with_reducible refine Below.al ?_ _ | with_reducible refine Below.on ?_ _ | with_reducible refine Below.st ?_ (by first | assumption | (simp; done) | (simp; omega)) _ | with_reducible refine Below.drew ?_)⟩
  · have t : (asq == bsq) = false := by simpa using hs
    have t' : decide (asq = bsq) = false := by simpa using hs
    rw [t', Bool.false_and]
    clear hs
    go_enter Try.func26, Try.ntmps26
    go_wp2_with (go_at_call 52; refine Calls.mono (SV.out _ (by repeat (first | with_reducible exact Below.refl _ _ | with_reducible assumption | with_reducible refine Below.al ?_ _ | with_reducible refine Below.on ?_ _ | with_reducible refine Below.st ?_ (by first | assumption | (simp; done) | (simp; omega)) _ | with_reducible refine Below.drew ?_))) ?_; rintro e w1 ⟨rfl, hb1⟩; obtain ⟨x1, rfl⟩ := Ext.of hb1)
    go_ret
    exact ⟨rfl, by repeat (first | with_reducible exact Below.refl _ _ | with_reducible assumption | with_reducible refine Below.al ?_ _ | with_reducible refine Below.on ?_ _ | with_reducible refine Below.st ?_ (by first | assumption | (simp; done) | (simp; omega)) _ | with_reducible refine Below.drew ?_)⟩
set_option maxRecDepth 8000 in
set_option maxHeartbeats 1000000 in
theorem same_recs (va vb : Value) (xs ys : List Rc) (w : World) (ha : RecsAt w w.heap.size va xs) (hb : RecsAt w w.heap.size vb ys) :
    Calls Try.prog 23 #[va, vb] w fun e w' => e = .returned (.bool (allB eqRc xs ys)) ∧ Below w.heap.size w w' := by
  obtain ⟨aa, ac, rfl⟩ := recs_end ha
  obtain ⟨ba, bc, rfl⟩ := recs_end hb
  obtain ⟨n, hn⟩ : ∃ n, xs.length = n := ⟨_, rfl⟩
  obtain ⟨m, hm⟩ : ∃ m, ys.length = m := ⟨_, rfl⟩
  have n63 := ha.1
  have m63 := hb.1
  by_cases hnm : xs.length = ys.length
  rotate_left
  focus
    have E := allB_len (p := eqRc) hnm
    rw [E]
    rw [hn, hm] at hnm ⊢
    have t : ((n : Int) != (m : Int)) = true := by simp; omega
    clear ha hb hn hm E n63 m63
    go_enter Try.func23, Try.ntmps23
    go_wp2_with fail
    exact bodyPost_ret (v := .bool false) (by simp [results, Try.results23, go_sem, *]) rfl (⟨rfl, by repeat (first | with_reducible exact Below.refl _ _ | with_reducible assumption | with_reducible refine Below.al ?_ _ | with_reducible refine Below.on ?_ _ | with_reducible refine Below.st ?_ (by first | assumption | (simp; done) | (simp; omega)) _ | with_reducible refine Below.drew ?_)⟩)
  obtain rfl : n = m := by omega
  have t : ((n : Int) != (n : Int)) = false := by simp
  obtain ⟨B, hB⟩ : ∃ B, allB eqRc xs ys = B := ⟨_, rfl⟩
  rw [hB]
  have HA := Lib.hid ha
  have HB := Lib.hid hb
  have HN := Lib.hid hn
  have HM := Lib.hid hm
  have HBB := Lib.hid hB
  rw [hn] at n63 HA ⊢
  rw [hm] at HB ⊢
  clear ha hb hn hm hB m63 hnm
  go_enter Try.func23, Try.ntmps23
  go_wp2_with fail
  go_loopg [13] n (fun g st wr => ∃ k : Nat, k + g = n ∧ st = .int .i64 (k : Int) ∧ allB eqRc (xs.drop k) (ys.drop k) = B ∧ ∃ x : Ext w, x.it = wr)
  case atStart => exact ⟨0, by omega, rfl, by simpa using HBB.out, ⟨w, Below.refl _ _⟩, rfl⟩
  case round =>
    obtain ⟨k, hk, rfl, hF, x, rfl⟩ := hrel
    have hx := x.below
    by_cases hg0 : gk = 0
    · subst hg0
      obtain rfl : k = n := by omega
      obtain rfl : true = B := by rw [← hF, List.drop_of_length_le (by rw [HN.out]; exact Nat.le_refl _), List.drop_of_length_le (by rw [HM.out]; exact Nat.le_refl _)]; rfl
      clear hk hF
      go_wp2
      exact bodyPost_ret (v := .bool true) (by simp [results, Try.results23, go_sem, *]) rfl (⟨rfl, by repeat (first | with_reducible exact Below.refl _ _ | with_reducible assumption | with_reducible refine Below.al ?_ _ | with_reducible refine Below.on ?_ _ | with_reducible refine Below.st ?_ (by first | assumption | (simp; done) | (simp; omega)) _ | with_reducible refine Below.drew ?_)⟩)
    · have hkm : k < n := by omega
      have hkm' : (k : Int) < (n : Int) := by omega
      have hkx : k < xs.length := by rw [HN.out]; exact hkm
      have hky : k < ys.length := by rw [HM.out]; exact hkm
      have AD := allB_drop (p := eqRc) hkx hky
      rw [hF] at AD
      obtain ⟨b1, o1, rfl, _, hb1, c0, lv, c1, c2⟩ := recs_in HA.out hkx
      obtain ⟨b2, o2, rfl, _, hb2, d0, mv, d1, d2⟩ := recs_in HB.out hky
      obtain ⟨u, hu⟩ : ∃ u, xs[k]'hkx = u := ⟨_, rfl⟩
      obtain ⟨v, hv⟩ : ∃ v, ys[k]'hky = v := ⟨_, rfl⟩
      rw [hu, hv] at AD
      rw [hu] at c0 c2
      rw [hv] at d0 d2
      obtain ⟨asq, arow⟩ := u
      obtain ⟨bsq, brow⟩ := v
      dsimp only at c0 c2 d0 d2
      have f0 := (hx.cell (p := ⟨b1, o1 + k * 2, none⟩) hb1).trans c0
      have f1 := (hx.cell (p := ⟨b1, o1 + k * 2 + 1, none⟩) hb1).trans c1
      have g0 := (hx.cell (p := ⟨b2, o2 + k * 2, none⟩) hb2).trans d0
      have g1 := (hx.cell (p := ⟨b2, o2 + k * 2 + 1, none⟩) hb2).trans d1
      have V1 := Lib.hid (c2.mono hx hx.size)
      have V2 := Lib.hid (d2.mono hx hx.size)
      obtain ⟨la, lc, rfl⟩ := vals_end c2
      obtain ⟨ma, mc, rfl⟩ := vals_end d2
      have z1 : b1 < x.it.heap.size := Nat.lt_of_lt_of_le hb1 hx.size
      have z2 : b2 < x.it.heap.size := Nat.lt_of_lt_of_le hb2 hx.size
      have HK := Lib.hid (And.intro hk hg0)
      have HAD := Lib.hid AD
      clear hk hg0 hu hv hF AD hkx hky c0 c1 c2 d0 d1 d2
      obtain ⟨C, hC⟩ : ∃ C, eqRc ⟨asq, arow⟩ ⟨bsq, brow⟩ = C := ⟨_, rfl⟩
      rw [hC] at HAD
      have SRC := Lib.hid (fun (W : World) (h : Below x.it.heap.size x.it W) => (by have z := sameRec_any asq _ arow bsq _ brow W (V1.out.mono h h.size) (V2.out.mono h h.size); rw [hC] at z; exact z : Calls Try.prog 26 #[.agg #[.int .i64 asq, .slice la arow.length lc], .agg #[.int .i64 bsq, .slice ma brow.length mc]] W fun e w' => e = .returned (.bool C) ∧ Below W.heap.size W w'))
      generalize arow.length = m1 at *
      generalize brow.length = m2 at *
      go_upto_region 6 with fail
      cases C with
      | true =>
        have F2 := Lib.hid (show allB eqRc (xs.drop (k + 1)) (ys.drop (k + 1)) = B by have := HAD.out; rw [Bool.true_and] at this; exact this.symm)
        refine wp_region_ext (by kernel_rfl) (by kernel_rfl) ?_
        repeat (go_big_quiet_step (((go_at_call 26; exact Calls.ext (SRC.out _ (Ext.below _))))))
        refine wpQuiet_nil ?_
        rintro _ ⟨x5, rfl⟩
        clear hC
        go_wp2_with fail
        go_roundg (gk - 1)
        case measure => have := HK.out; omega
        case rel => exact ⟨k + 1, by have := HK.out; omega, by go_num, F2.out, ⟨x5.it, Below.on hx x5⟩, rfl⟩
      | false =>
        obtain rfl : false = B := by have := HAD.out; rw [Bool.false_and] at this; exact this.symm
        refine wp_region_ext (by kernel_rfl) (by kernel_rfl) ?_
        repeat (go_big_quiet_step (((go_at_call 26; exact Calls.ext (SRC.out _ (Ext.below _))))))
        refine wpQuiet_nil ?_
        rintro _ ⟨x5, rfl⟩
        clear hC
        go_wp2_with fail
        exact bodyPost_ret (v := .bool false) (by simp [results, Try.results23, go_sem, *]) rfl (⟨rfl, by repeat (first | with_reducible exact Below.refl _ _ | with_reducible assumption | with_reducible refine Below.al ?_ _ | with_reducible refine Below.on ?_ _ | with_reducible refine Below.st ?_ (by first | assumption | (simp; done) | (simp; omega)) _ | with_reducible refine Below.drew ?_)⟩)
end Go.Proofs.Ytkblkjfejaflkaa
