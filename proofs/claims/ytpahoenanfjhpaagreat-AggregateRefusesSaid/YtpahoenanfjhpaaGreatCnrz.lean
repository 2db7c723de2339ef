/-
  slices.Concat of two lists of rows. Conditions: the lists lie in memory.
-/
import Derived.Test.YtpahoenanfjhpaaGreatZi
set_option linter.unusedVariables false
set_option linter.unusedSimpArgs false
namespace Go.Proofs.YtpahoenanfjhpaaGreat
open Go.RowKit
set_option maxRecDepth 8000 in
set_option maxHeartbeats 1000000 in
theorem grow_row (n : Nat) (w : World) (hb : n ≤ 1099511627776) : Calls Tryz.prog 76 #[.slice none 0 0, .int .i64 (n : Int)] w (RowPost 42 1 w 0 []) := by
  obtain ⟨i0, hi, hz0, hz1, hz2⟩ := info_parts info_row
  by_cases h0 : n = 0
  · subst h0
    go_enter Tryz.func76, Tryz.ntmps76
    go_wp2
    refine bodyPost_ret (v := .slice none 0 0) ?_ rfl ⟨_, rfl, World.ownsRow_nil _ _ _ _, Below.refl _ _⟩
    simp (maxDischargeDepth := 9) [results, Tryz.results76, go_sem, *]
  have hn0 : 0 < n := by omega
  have t1 : ¬ ((n : Int) < 0) := by omega
  have t2 : (0 : Int) < (n : Int) := by omega
  have hw : IntKind.i64.wrap (n : Int) = (n : Int) := by rw [IntKind.wrap_i64]; omega
  have hge := grownCap_ge w n 0 42
  have hle := grownCap_le_maxLen w n 0 42 (by unfold maxLen; omega)
  have run : ∀ ty, (Builtin.append_ #[30, 3] ty #[.slice none 0 0, .int .i64 (n : Int)]).run Tryz.prog w = .ok (.slice (some ⟨w.heap.size, 0, none⟩) n (grownCap w n 0 42)) (w.drew.alloc (.cells (Builtin.zeroCells (.slice none 0 0 : Value).cells n ++ Builtin.zeroCells (.slice none 0 0 : Value).cells (grownCap w n 0 42 - n)) 42)) := fun ty => by
    exact Lib.run_append_nil_zeros (P := Tryz.prog) w 30 3 ty 42 i0 _ .i64 .i64 Tryz.underlying30 Tryz.underlying3 hi hz0 n hn0 (by rw [hz1]; decide) (by omega) (by rw [hz2]; omega)
  obtain ⟨G, hG⟩ : ∃ G, grownCap w n 0 42 = G := ⟨_, rfl⟩
  rw [hG] at hge hle
  simp only [hG] at run
  obtain ⟨W1, hW1⟩ : ∃ W1, w.drew.alloc (.cells (Builtin.zeroCells (.slice none 0 0 : Value).cells n ++ Builtin.zeroCells (.slice none 0 0 : Value).cells (G - n)) 42) = W1 := ⟨_, rfl⟩
  rw [hW1] at run
  have FIN : Hid (RowPost 42 1 w 0 [] (.returned (.slice (some ⟨w.heap.size, 0, none⟩) 0 G)) W1) := Lib.hid ⟨_, rfl, ⟨rfl, .inr ⟨w.heap.size, G, _, rfl, Nat.le_refl _, by rw [← hW1]; exact heap_alloc_new w.drew _, Nat.zero_le _, hle, by rw [Array.size_append, size_zeroCells, size_zeroCells, ← Nat.add_mul, show n + (G - n) = G by omega]; rfl, by simp⟩⟩, by rw [← hW1]; exact ((Below.refl _ _).drew).alloc (Nat.le_refl _) _⟩
  have RUN := Lib.hid run
  clear run hG hW1
  go_enter Tryz.func76, Tryz.ntmps76
  go_wp2_with (at_builtin; go_must (refine wpList_append_run (by rfl) _ _ 30 3 rfl (.slice none 0 0) (.int .i64 (n : Int)) rfl rfl _ _ (RUN.out _) ?_))
  refine bodyPost_ret (v := .slice (some ⟨w.heap.size, 0, none⟩) 0 G) ?_ rfl FIN.out
  simp (maxDischargeDepth := 9) [results, Tryz.results76, go_sem, *]
set_option maxRecDepth 8000 in
set_option maxHeartbeats 1000000 in
theorem concat_row (b : Nat) (a1 a2 : Option Addr) (c1 c2 n m : Nat) (xs ys : List Value) (w : World) (h1 : ∀ W, Below w.heap.size w W → SrcRow W (.slice a1 n c1) n 1 xs) (h2 : ∀ W, Below w.heap.size w W → SrcRow W (.slice a2 m c2) m 1 ys)
    (hb : b < w.heap.size) (k0 : w.cell? ⟨b, 0, none⟩ = some (.slice a1 n c1)) (k1 : w.cell? ⟨b, 1, none⟩ = some (.slice a2 m c2)) (hnm : n + m ≤ 549755813888) :
    Calls Tryz.prog 48 #[.slice (some ⟨b, 0, none⟩) 2 2] w (RowPost 42 1 w (n + m) (xs ++ ys)) := by
  obtain ⟨i0, hi, hz0, hz1, hz2⟩ := info_parts info_row
  have H1 := Lib.hid h1
  have H2 := Lib.hid h2
  obtain ⟨N, hN⟩ : ∃ N, n + m = N := ⟨_, rfl⟩
  have HN := Lib.hid hN
  have w1 : IntKind.i64.wrap (n : Int) = (n : Int) := by rw [IntKind.wrap_i64]; omega
  have w2 : IntKind.i64.wrap ((n : Int) + (m : Int)) = (N : Int) := by rw [IntKind.wrap_i64]; omega
  have t1 : ¬ ((n : Int) < 0) := by omega
  have t2 : ¬ ((N : Int) < 0) := by omega
  have N40 : N ≤ 549755813888 := by omega
  have GR := Lib.hid (fun W => grow_row N W (by omega))
  rw [hN]
  clear h1 h2 hN hnm
  go_enter Tryz.func48, Tryz.ntmps48
  go_wp2
  refine wp_loop_rounds 3 ?_
  rw [rounds_succ]
  go_wp2
  rw [rounds_succ]
  go_wp2
  rw [rounds_succ]
  go_wp2_with (go_at_call 76; refine Calls.mono (GR.out _) ?_; rintro e wg ⟨vg, rfl, ho, hbl⟩; obtain ⟨ag, cg, rfl⟩ := own_form ho; have OG := Lib.hid ho; have BG := Lib.hid hbl; have kg0 := (hbl.cell (p := ⟨b, 0, none⟩) hb).trans k0; have kg1 := (hbl.cell (p := ⟨b, 1, none⟩) hb).trans k1; clear ho hbl)
  refine wp_loop_rounds 3 ?_
  rw [rounds_succ]
  go_wp2_with (at_builtin; go_must (refine wpList_append_row (by rfl) _ _ 30 rfl w.heap.size 42 i0 _ 1 24 Tryz.underlying30 hi hz0 hz1 hz2 rfl (by decide) (.slice ag 0 cg) 0 [] rfl OG.out _ n xs rfl (H1.out _ BG.out) (by unfold maxLen; have := HN.out; omega) (by have := HN.out; omega) (by have := BG.out.size; omega) ?_); intro v3 w3 hown hg ha; rw [Nat.zero_add, List.nil_append] at hown; have O3 := Lib.hid hown; have B3 : Hid (Below w.heap.size w w3) := Lib.hid (Below.gr BG.out OG.out hg); obtain ⟨a3, c3, rfl⟩ := own_form hown; have kh1 := (B3.out.cell (p := ⟨b, 1, none⟩) hb).trans k1; clear hown hg ha kg0 kg1)
  rw [rounds_succ]
  go_wp2_with (at_builtin; go_must (refine wpList_append_row (by rfl) _ _ 30 rfl w.heap.size 42 i0 _ 1 24 Tryz.underlying30 hi hz0 hz1 hz2 rfl (by decide) (.slice a3 n c3) n xs rfl O3.out _ m ys rfl (H2.out _ B3.out) (by unfold maxLen; have := HN.out; omega) (by have := HN.out; omega) (by have := B3.out.size; omega) ?_); intro v4 w4 hown hg ha; rw [HN.out] at hown; have O4 := Lib.hid hown; have B4 : Hid (Below w.heap.size w w4) := Lib.hid (Below.gr B3.out O3.out hg); obtain ⟨a4, c4, rfl⟩ := own_form hown; clear hown hg ha kh1)
  rw [rounds_succ]
  go_wp2
  refine bodyPost_ret (v := .slice a4 N c4) ?_ rfl ⟨_, rfl, O4.out, B4.out⟩
  simp (maxDischargeDepth := 9) [results, Tryz.results48, go_sem, *]
end Go.Proofs.YtpahoenanfjhpaaGreat
