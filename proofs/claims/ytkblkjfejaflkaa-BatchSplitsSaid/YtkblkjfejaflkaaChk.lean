/-
  PARTS: slices.Chunk of records, as an iterator. Conditions: the records lie in memory; at most 2^42 of them; n from 1 on.
-/
import Derived.RangeFuncNested
import Derived.RangeFuncBound
import Derived.RangeFuncCalls
import Derived.RangeFuncLeaves
import Derived.RangeFuncBox
import Derived.Shelf.Abstract
import Derived.Shelf.RegionOpen
import Derived.WalkKit
import Derived.OwnWalkIn
import Derived.TacticsInMore
import Derived.LoopNIn
import Derived.LoopIn
import Derived.Sort.BigQuietIn
import Derived.Sort.CutIn
import Derived.Test.YtkblkjfejaflkaaRst
set_option linter.unusedVariables false
set_option linter.unusedSimpArgs false
namespace Go.Proofs.Ytkblkjfejaflkaa
open Go.RowKit Go.Shelf
attribute [local go_sem] Oper.semAt_some
def starts (n k : Nat) : List Nat := (List.range k).map (· * n)
theorem starts_succ (n k : Nat) : starts n (k + 1) = starts n k ++ [k * n] := by simp [starts, List.range_succ]
theorem starts_len (n k : Nat) : (starts n k).length = k := by simp [starts]
/-- The part from place i on. -/
def partV (b off n len i : Nat) : Value := .slice (some ⟨b, off + i * 2, none⟩) (min n (len - i)) (min n (len - i))
/-- What the loop's body keeps. -/
def KpC (n₀ Bs Bn : Nat) (W W' : World) : Prop := Below n₀ W W' ∧ W'.cell? ⟨Bs, 0, none⟩ = W.cell? ⟨Bs, 0, none⟩ ∧ W'.cell? ⟨Bn, 0, none⟩ = W.cell? ⟨Bn, 0, none⟩
theorem KpC.refl (n₀ Bs Bn : Nat) (W : World) : KpC n₀ Bs Bn W W := ⟨Below.refl _ _, rfl, rfl⟩
theorem KpC.trans {n₀ Bs Bn : Nat} {A B C : World} (h : KpC n₀ Bs Bn A B) (k : KpC n₀ Bs Bn B C) : KpC n₀ Bs Bn A C := ⟨h.1.trans k.1, k.2.1.trans h.2.1, k.2.2.trans h.2.2⟩
theorem run_recs_x {b off n c lo e : Nat} (he : 0 < e) (h : lo + e ≤ c) (W : World) : (Instr.slice 24 (.slice (some ⟨b, off, none⟩) n c) (some (.int .i64 (lo : Int))) (some (.int .i64 ((lo : Int) + (e : Int)))) (some (.int .i64 ((lo : Int) + (e : Int))))).run Try.prog W = .ok (.slice (some ⟨b, off + lo * 2, none⟩) e e) W := by
  have ht : Try.prog.underlying 24 = some (.slice (Try.prog.elem 24)) := by kernel_rfl
  have he' : Try.prog.elem 24 = 31 := by kernel_rfl
  obtain ⟨i1, hj, hy0, hy1, hy2⟩ := info_parts infoRec
  rw [run_slice_lhm (ht := ht) (h0 := by omega) (h1 := by omega) (h2 := by omega) (h3 := by omega), he']
  have ne : ¬ e = 0 := by omega
  by_cases q : lo = 0
  · subst q
    simp [sizeOf, typeInfo, hj, hy1, Result.andThen, sliced, Addr.add, ne]
  · have h1 : ((lo : Int) + (e : Int)).toNat = lo + e := by omega
    have h2 : ¬ lo * 2 = 0 := by omega
    simp [sizeOf, typeInfo, hj, hy1, Result.andThen, sliced, Addr.add, ne, h1, h2]
theorem belowDrewN {n : Nat} {A B : World} (h : Below n A B) (m : Nat) : Below n A (B.drewN m) := ⟨h.os, h.tape, h.output, h.size, h.block⟩
set_option maxRecDepth 100000 in
set_option maxHeartbeats 1000000 in
theorem chunk1_in (n1 : Nat) (hn1 : 1 ≤ n1) (l Bs Bn n₀ b off len cap n : Nat) (a : Option Addr) (ha : len ≠ 0 → a = some ⟨b, off, none⟩) (hn0 : 0 < n) (hlc : len ≤ cap) (hlen : len ≤ 4398046511104) (hn63 : n ≤ 9223372036854775807) (J Jx : List Nat → World → Prop) (hJd : ∀ pre W m, J pre W → J pre (World.drewN W m))
    (hY : ∀ pre x W, J pre W → pre.length < len → YieldAt Fence.wide (n1 - 1) Try.prog l #[partV b off n len x] W fun e W' => (e = .returned (.bool true) ∧ J (pre ++ [x]) W' ∧ KpC n₀ Bs Bn W W') ∨ (e = .returned (.bool false) ∧ Jx (pre ++ [x]) W'))
    (W : World) (hBs : W.cell? ⟨Bs, 0, none⟩ = some (.slice a len cap)) (hBn : W.cell? ⟨Bn, 0, none⟩ = some (.int .i64 (n : Int))) (h0 : J [] W) :
    CallsIn Fence.wide n1 Try.prog 58 #[.func (.yield l) #[] #[], .pointer (some ⟨Bs, 0, none⟩), .pointer (some ⟨Bn, 0, none⟩)] W fun e W' => (∃ v, e = .returned v) ∧
      ((∃ ys, (∃ k, ys = starts n k ∧ len ≤ k * n ∧ ∀ j, j < k → j * n < len) ∧ J ys W') ∨ (∃ pre, True ∧ Jx pre W')) := by
  have HY := Lib.hid hY
  have HA := Lib.hid ha
  have HBs := Lib.hid hBs
  have HBn := Lib.hid hBn
  clear hY ha hBs hBn
  refine callsIn_of_wp Try.func58 rfl trivial ?_ rfl
  simp only [Try.ntmps58, List.size_toArray, List.length_cons, List.length_nil, Nat.reduceAdd, Nat.reduceSub, Array.replicate_succ, Array.replicate_zero, List.push_toArray, List.append_toArray, List.nil_append, List.cons_append]
  gi_wp2
  gi_loopw [4, 5] (fun vi _ wr => ∃ i k : Nat, vi = .int .i64 (i : Int) ∧ i = k * n ∧ k ≤ i ∧ (i = 0 ∨ n ≤ i) ∧ (∀ j, j < k → j * n < len) ∧ (i = 0 ∨ i ≤ len + n) ∧ J (starts n k) wr ∧ KpC n₀ Bs Bn W wr)
    (fun vi _ _ => len - (intOf vi).toNat)
  case atStart => exact ⟨0, 0, rfl, by omega, by omega, .inl rfl, fun j hj => by omega, .inl rfl, h0, KpC.refl _ _ _ _⟩
  case round =>
    obtain ⟨i, k, rfl, hik, hki, hi0, hall, hib, hJ, hK⟩ := hrel
    have c1 : wr.cell? ⟨Bs, 0, none⟩ = some (.slice a len cap) := hK.2.1.trans HBs.out
    have c2 : wr.cell? ⟨Bn, 0, none⟩ = some (.int .i64 (n : Int)) := hK.2.2.trans HBn.out
    have HIK := Lib.hid hik
    have HALL := Lib.hid hall
    have HJ := Lib.hid hJ
    have HK := Lib.hid hK
    have HI0 := Lib.hid hi0
    clear hik hall hJ hK
    by_cases hlt : i < len
    · obtain rfl := HA.out (by omega)
      obtain ⟨q, hq⟩ : ∃ q, len - i = q := ⟨_, rfl⟩
      obtain ⟨e, he⟩ : ∃ e, min n q = e := ⟨_, rfl⟩
      have q0 : 0 < q := by omega
      have qc : i + q ≤ cap := by omega
      have qi : i + q ≤ len := by omega
      have qi2 : len ≤ i + q := by omega
      have HQ := Lib.hid hq
      have HE := Lib.hid he
      have HKI := Lib.hid hki
      have HIB := Lib.hid hib
      have t : (i : Int) < (len : Int) := by omega
      have r1 : ∀ W, (Instr.slice 24 (.slice (some ⟨b, off, none⟩) len cap) (some (.int .i64 (i : Int))) none none).run Try.prog W = .ok (.slice (if cap = i then some ⟨b, off, none⟩ else (some (⟨b, off, none⟩ : Addr)).map (·.add (i * 2))) q (cap - i)) W := fun W => by rw [run_recs_l (by omega)]; unfold sliced; rw [hq]
      generalize (if cap = i then some (⟨b, off, none⟩ : Addr) else (some (⟨b, off, none⟩ : Addr)).map (·.add (i * 2))) = A0 at r1
      clear hi0 hib hki
      by_cases hc : n ≤ q
      · obtain rfl : n = e := by omega
        have t2 : (n : Int) ≤ (q : Int) := by omega
        have t3 : ¬ (q : Int) < (n : Int) := by omega
        have r2 := fun W => run_recs_x (b := b) (off := off) (n := len) (c := cap) (lo := i) (e := n) (by omega) (by omega) W
        clear hc hq he
        gi_upto_region 3 with (fail)
        gi_quiet (fail)
        obtain ⟨fn, tmps, assign, body, hy, hR⟩ := HY.out _ i (wr.drewN nq) (hJd _ _ _ HJ.out) (by rw [starts_len]; have := HKI.out; omega)
        unfold partV at hy
        rw [HQ.out, HE.out] at hy
        have HR := Lib.hid hR
        clear hR
        gi_wp2
        refine HR.out.mono ?_
        rintro e' W3 (⟨rfl, hJ3, hk3⟩ | ⟨rfl, hJx3⟩)
        · have d2 : W3.cell? ⟨Bn, 0, none⟩ = some (.int .i64 (n : Int)) := hk3.2.2.trans c2
          have HK3 := Lib.hid hk3
          have HJ3 := Lib.hid hJ3
          clear hk3 hJ3
          have w1 : (i : Int) + (n : Int) ≤ 9223372036854775807 := by have := HI0.out; omega
          gi_wp2
          go_roundw
          case rel => exact ⟨i + n, k + 1, by go_num, by rw [Nat.succ_mul, ← HIK.out], by have := HKI.out; omega, .inr (by omega), fun j hj => (by rcases Nat.lt_or_ge j k with q | q; exact HALL.out j q; (obtain rfl : j = k := by omega); rw [← HIK.out]; exact hlt), .inr (by omega), by rw [starts_succ, ← HIK.out]; exact HJ3.out, (HK.out.trans ⟨belowDrewN (Below.refl _ _) _, rfl, rfl⟩).trans HK3.out⟩
          case measure => simp [intOf]; omega
        · gi_wp2
          refine bodyPost_ret (results_none rfl _ _ _) rfl ?_
          exact ⟨⟨_, rfl⟩, .inr ⟨_, trivial, hJx3⟩⟩
      · obtain rfl : q = e := by omega
        have t2 : ¬ (n : Int) ≤ (q : Int) := by omega
        have t3 : (q : Int) < (n : Int) := by omega
        have r2 := fun W => run_recs_x (b := b) (off := off) (n := len) (c := cap) (lo := i) (e := q) (by omega) (by omega) W
        clear hc hq he
        gi_upto_region 3 with (fail)
        gi_quiet (fail)
        obtain ⟨fn, tmps, assign, body, hy, hR⟩ := HY.out _ i (wr.drewN nq) (hJd _ _ _ HJ.out) (by rw [starts_len]; have := HKI.out; omega)
        unfold partV at hy
        rw [HQ.out, HE.out] at hy
        have HR := Lib.hid hR
        clear hR
        gi_wp2
        refine HR.out.mono ?_
        rintro e' W3 (⟨rfl, hJ3, hk3⟩ | ⟨rfl, hJx3⟩)
        · have d2 : W3.cell? ⟨Bn, 0, none⟩ = some (.int .i64 (n : Int)) := hk3.2.2.trans c2
          have HK3 := Lib.hid hk3
          have HJ3 := Lib.hid hJ3
          clear hk3 hJ3
          have w1 : (i : Int) + (n : Int) ≤ 9223372036854775807 := by have := HI0.out; omega
          gi_wp2
          go_roundw
          case rel => exact ⟨i + n, k + 1, by go_num, by rw [Nat.succ_mul, ← HIK.out], by have := HKI.out; omega, .inr (by omega), fun j hj => (by rcases Nat.lt_or_ge j k with q | q; exact HALL.out j q; (obtain rfl : j = k := by omega); rw [← HIK.out]; exact hlt), .inr (by omega), by rw [starts_succ, ← HIK.out]; exact HJ3.out, (HK.out.trans ⟨belowDrewN (Below.refl _ _) _, rfl, rfl⟩).trans HK3.out⟩
          case measure => simp [intOf]; omega
        · gi_wp2
          refine bodyPost_ret (results_none rfl _ _ _) rfl ?_
          exact ⟨⟨_, rfl⟩, .inr ⟨_, trivial, hJx3⟩⟩
    · have t : ¬ ((i : Int) < (len : Int)) := by omega
      gi_wp2
      go_end0
      exact ⟨⟨_, rfl⟩, .inl ⟨_, ⟨k, rfl, by have := HIK.out; omega, HALL.out⟩, HJ.out⟩⟩
end Go.Proofs.Ytkblkjfejaflkaa
