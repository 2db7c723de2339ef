/-
  INTERVALMEETISAND: the walk and the statement. Conditions: none.
-/
import Derived.Test.YtjojnakgadfgmaaOpn
set_option linter.unusedVariables false
set_option linter.unusedSimpArgs false
namespace Go.Proofs.Ytjojnakgadfgmaa
open Go.RowKit Go.ChangeShapes Go.WideShapes Go.ChangeAt

set_option maxRecDepth 8000 in
set_option maxHeartbeats 16000000 in
theorem the_walk (t : Int) (vl vm vn : Value) (zl zm zn : List Int) (w : World) (h0 : IntsAt w w.heap.size vl zl) (h1 : IntsAt w w.heap.size vm zm) (h2 : IntsAt w w.heap.size vn zn) :
    Calls Try.prog 5 #[.int .i64 t, vl, vm, vn] w fun e w' => e = .returned (.bool true) ∧ Below w.heap.size w w' := by
  have H := Lib.hid (And.intro h0 (And.intro h1 (h2)))
  clear h0 h1 h2
  go_enter Try.func5, Try.ntmps5
  go_upto_region 2 with (go_at_call 11; refine (column_any _ _).mono ?_; rintro e w1 ⟨rfl, hb1⟩; obtain ⟨x1, rfl⟩ := Ext.of hb1)
  obtain ⟨h0, h1, h2⟩ := H.out
  generalize hty : 1 + pickI t 5 = ty
  obtain ⟨⟨an, as', al, ah, ⟨ln, l, ls⟩, ⟨hn, h, hs⟩⟩, hB0⟩ : ∃ b, boundsF ty zl = b := ⟨_, rfl⟩
  obtain ⟨⟨bn, bs, bl, bh, ⟨lm, m, ms⟩, ⟨gn, g, gs⟩⟩, hB1⟩ : ∃ b, boundsF ty zm = b := ⟨_, rfl⟩
  obtain ⟨⟨⟨xn, xi, xv⟩, rx⟩, hX⟩ : ∃ b, valF ty true zn = b := ⟨_, rfl⟩
  have up : ∀ (v : Value) (zs : List Int), IntsAt w w.heap.size v zs → IntsAt (x1.it.alloc (.cells #[.string ⟨#[120]⟩, .int .i64 ty, .int .i64 0, .bool true] 28)) (x1.it.alloc (.cells #[.string ⟨#[120]⟩, .int .i64 ty, .int .i64 0, .bool true] 28)).heap.size v zs := fun v zs h =>
    ((h.ext x1).to fun k hk => Below.heap_alloc _ _ _ hk).mono (by simp)
  have H0 := Lib.hid (And.intro hB0 (up _ _ h0))
  have H1 := Lib.hid (And.intro hB1 (up _ _ h1))
  have H2 := Lib.hid (And.intro hX (up _ _ h2))
  have C0 := Lib.hid (sumB hB0)
  have C1 := Lib.hid (sumB hB1)
  have hcw := x1.below.size
  clear up h0 h1 h2 hB0 hB1 hX H hb1 hty
  refine wp_region_float 12 [none, none, none, none, none, none, none, none, none, some (10, 25, #[.bool false, .bool false, .bool false, .bool false, .bool false, .int .i64 0, .string ⟨#[]⟩, .bool false, .int .i64 0, .string ⟨#[]⟩]), some (11, 25, #[.bool false, .bool false, .bool false, .bool false, .bool false, .int .i64 0, .string ⟨#[]⟩, .bool false, .int .i64 0, .string ⟨#[]⟩]), some (12, 23, #[.bool false, .int .i64 0, .string ⟨#[]⟩])] (by kernel_rfl) (by kernel_rfl) (by kernel_rfl) ⟨allocBnd, allocBnd, allocVal, trivial⟩ ?_
  dsimp only [ghosts, ghost, List.take, List.drop]
  repeat (refine wpE_step (fun K hK => ?_); go_simp; first | (refine hK _ ?_; clear hK K) | (apply Exists.intro; refine ⟨fun _ => ?_, hK _ ?_⟩; (first | (go_at_call 12; exact bounds_eq H0.out.1 (H0.out.2.ext _)) | (go_at_call 12; exact bounds_eq H1.out.1 (H1.out.2.ext _)) | (go_at_call 13; exact valueOf_eq H2.out.1 (H2.out.2.ext _))); clear hK K))
  refine wpE_nil ?_
  intro x
  dsimp only [floated]
  intro b1 q1 _ g1 b2 q2 d2 g2 b3 q3 d3 g3
  have e1 := (Array.getElem?_eq_some_iff.1 g1).1
  have e2 := (Array.getElem?_eq_some_iff.1 g2).1
  have e3 := (Array.getElem?_eq_some_iff.1 g3).1
  have n21 : b2 ≠ b1 := d2 b1 (by simp)
  have n12 := n21.symm
  have n31 : b3 ≠ b1 := d3 b1 (by simp)
  have n13 := n31.symm
  have n32 : b3 ≠ b2 := d3 b2 (by simp)
  have n23 := n32.symm
  simp only [World.size_alloc] at q1 q2 q3
  have mb1 : b1 ≠ x1.it.heap.size := by omega
  have ob1 : w.heap.size ≤ b1 := by omega
  have mb2 : b2 ≠ x1.it.heap.size := by omega
  have ob2 : w.heap.size ≤ b2 := by omega
  have mb3 : b3 ≠ x1.it.heap.size := by omega
  have ob3 : w.heap.size ≤ b3 := by omega
  have zx : x1.it.heap.size < x.it.heap.size := x.lt (by simp)
  have belx : Below w.heap.size w x.it := Below.on (Below.al (Below.on (Below.refl _ _) x1) _) x
  have f1 := fun j => frozen_of_row x.it b1 j _ _ g1
  have f2 := fun j => frozen_of_row x.it b2 j _ _ g2
  have f3 := fun j => frozen_of_row x.it b3 j _ _ g3
  have k10 : x.it.cell? ⟨b1, 0, none⟩ = some (.bool false) := by have := cell_of_row x.it b1 0 _ _ _ g1; simpa using this
  have k11 : x.it.cell? ⟨b1, 1, none⟩ = some (.bool false) := by have := cell_of_row x.it b1 1 _ _ _ g1; simpa using this
  have k12 : x.it.cell? ⟨b1, 2, none⟩ = some (.bool false) := by have := cell_of_row x.it b1 2 _ _ _ g1; simpa using this
  have k13 : x.it.cell? ⟨b1, 3, none⟩ = some (.bool false) := by have := cell_of_row x.it b1 3 _ _ _ g1; simpa using this
  have k14 : x.it.cell? ⟨b1, 4, none⟩ = some (.bool false) := by have := cell_of_row x.it b1 4 _ _ _ g1; simpa using this
  have k15 : x.it.cell? ⟨b1, 5, none⟩ = some (.int .i64 0) := by have := cell_of_row x.it b1 5 _ _ _ g1; simpa using this
  have k16 : x.it.cell? ⟨b1, 6, none⟩ = some (.string ⟨#[]⟩) := by have := cell_of_row x.it b1 6 _ _ _ g1; simpa using this
  have k17 : x.it.cell? ⟨b1, 7, none⟩ = some (.bool false) := by have := cell_of_row x.it b1 7 _ _ _ g1; simpa using this
  have k18 : x.it.cell? ⟨b1, 8, none⟩ = some (.int .i64 0) := by have := cell_of_row x.it b1 8 _ _ _ g1; simpa using this
  have k19 : x.it.cell? ⟨b1, 9, none⟩ = some (.string ⟨#[]⟩) := by have := cell_of_row x.it b1 9 _ _ _ g1; simpa using this
  have k20 : x.it.cell? ⟨b2, 0, none⟩ = some (.bool false) := by have := cell_of_row x.it b2 0 _ _ _ g2; simpa using this
  have k21 : x.it.cell? ⟨b2, 1, none⟩ = some (.bool false) := by have := cell_of_row x.it b2 1 _ _ _ g2; simpa using this
  have k22 : x.it.cell? ⟨b2, 2, none⟩ = some (.bool false) := by have := cell_of_row x.it b2 2 _ _ _ g2; simpa using this
  have k23 : x.it.cell? ⟨b2, 3, none⟩ = some (.bool false) := by have := cell_of_row x.it b2 3 _ _ _ g2; simpa using this
  have k24 : x.it.cell? ⟨b2, 4, none⟩ = some (.bool false) := by have := cell_of_row x.it b2 4 _ _ _ g2; simpa using this
  have k25 : x.it.cell? ⟨b2, 5, none⟩ = some (.int .i64 0) := by have := cell_of_row x.it b2 5 _ _ _ g2; simpa using this
  have k26 : x.it.cell? ⟨b2, 6, none⟩ = some (.string ⟨#[]⟩) := by have := cell_of_row x.it b2 6 _ _ _ g2; simpa using this
  have k27 : x.it.cell? ⟨b2, 7, none⟩ = some (.bool false) := by have := cell_of_row x.it b2 7 _ _ _ g2; simpa using this
  have k28 : x.it.cell? ⟨b2, 8, none⟩ = some (.int .i64 0) := by have := cell_of_row x.it b2 8 _ _ _ g2; simpa using this
  have k29 : x.it.cell? ⟨b2, 9, none⟩ = some (.string ⟨#[]⟩) := by have := cell_of_row x.it b2 9 _ _ _ g2; simpa using this
  have k30 : x.it.cell? ⟨b3, 0, none⟩ = some (.bool false) := by have := cell_of_row x.it b3 0 _ _ _ g3; simpa using this
  have k31 : x.it.cell? ⟨b3, 1, none⟩ = some (.int .i64 0) := by have := cell_of_row x.it b3 1 _ _ _ g3; simpa using this
  have k32 : x.it.cell? ⟨b3, 2, none⟩ = some (.string ⟨#[]⟩) := by have := cell_of_row x.it b3 2 _ _ _ g3; simpa using this
  have k00 : x.it.cell? ⟨x1.it.heap.size, 0, none⟩ = some (.string ⟨#[120]⟩) := by simp [go_sem, *]
  have k01 : x.it.cell? ⟨x1.it.heap.size, 1, none⟩ = some (.int .i64 ty) := by simp [go_sem, *]
  have k02 : x.it.cell? ⟨x1.it.heap.size, 2, none⟩ = some (.int .i64 0) := by simp [go_sem, *]
  have k03 : x.it.cell? ⟨x1.it.heap.size, 3, none⟩ = some (.bool true) := by simp [go_sem, *]
  clear g1 g2 g3 d2 d3 H0 H1 H2
  go_upto_region 3 with fail
  refine captureE ?_
  intro y e8
  have r10 : y.it.cell? ⟨b1, 0, none⟩ = some (.bool an) := by simp (maxDischargeDepth := 9) [go_sem, *]
  have r11 : y.it.cell? ⟨b1, 1, none⟩ = some (.bool as') := by simp (maxDischargeDepth := 9) [go_sem, *]
  have r12 : y.it.cell? ⟨b1, 2, none⟩ = some (.bool al) := by simp (maxDischargeDepth := 9) [go_sem, *]
  have r13 : y.it.cell? ⟨b1, 3, none⟩ = some (.bool ah) := by simp (maxDischargeDepth := 9) [go_sem, *]
  have r14 : y.it.cell? ⟨b1, 4, none⟩ = some (.bool ln) := by simp (maxDischargeDepth := 9) [go_sem, *]
  have r15 : y.it.cell? ⟨b1, 5, none⟩ = some (.int .i64 l) := by simp (maxDischargeDepth := 9) [go_sem, *]
  have r16 : y.it.cell? ⟨b1, 6, none⟩ = some (.string ls) := by simp (maxDischargeDepth := 9) [go_sem, *]
  have r17 : y.it.cell? ⟨b1, 7, none⟩ = some (.bool hn) := by simp (maxDischargeDepth := 9) [go_sem, *]
  have r18 : y.it.cell? ⟨b1, 8, none⟩ = some (.int .i64 h) := by simp (maxDischargeDepth := 9) [go_sem, *]
  have r19 : y.it.cell? ⟨b1, 9, none⟩ = some (.string hs) := by simp (maxDischargeDepth := 9) [go_sem, *]
  have r20 : y.it.cell? ⟨b2, 0, none⟩ = some (.bool bn) := by simp (maxDischargeDepth := 9) [go_sem, *]
  have r21 : y.it.cell? ⟨b2, 1, none⟩ = some (.bool bs) := by simp (maxDischargeDepth := 9) [go_sem, *]
  have r22 : y.it.cell? ⟨b2, 2, none⟩ = some (.bool bl) := by simp (maxDischargeDepth := 9) [go_sem, *]
  have r23 : y.it.cell? ⟨b2, 3, none⟩ = some (.bool bh) := by simp (maxDischargeDepth := 9) [go_sem, *]
  have r24 : y.it.cell? ⟨b2, 4, none⟩ = some (.bool lm) := by simp (maxDischargeDepth := 9) [go_sem, *]
  have r25 : y.it.cell? ⟨b2, 5, none⟩ = some (.int .i64 m) := by simp (maxDischargeDepth := 9) [go_sem, *]
  have r26 : y.it.cell? ⟨b2, 6, none⟩ = some (.string ms) := by simp (maxDischargeDepth := 9) [go_sem, *]
  have r27 : y.it.cell? ⟨b2, 7, none⟩ = some (.bool gn) := by simp (maxDischargeDepth := 9) [go_sem, *]
  have r28 : y.it.cell? ⟨b2, 8, none⟩ = some (.int .i64 g) := by simp (maxDischargeDepth := 9) [go_sem, *]
  have r29 : y.it.cell? ⟨b2, 9, none⟩ = some (.string gs) := by simp (maxDischargeDepth := 9) [go_sem, *]
  have r30 : y.it.cell? ⟨b3, 0, none⟩ = some (.bool xn) := by simp (maxDischargeDepth := 9) [go_sem, *]
  have r31 : y.it.cell? ⟨b3, 1, none⟩ = some (.int .i64 xi) := by simp (maxDischargeDepth := 9) [go_sem, *]
  have r32 : y.it.cell? ⟨b3, 2, none⟩ = some (.string xv) := by simp (maxDischargeDepth := 9) [go_sem, *]
  have r00 : y.it.cell? ⟨x1.it.heap.size, 0, none⟩ = some (.string ⟨#[120]⟩) := by simp (maxDischargeDepth := 9) [go_sem, *]
  have r01 : y.it.cell? ⟨x1.it.heap.size, 1, none⟩ = some (.int .i64 ty) := by simp (maxDischargeDepth := 9) [go_sem, *]
  have r02 : y.it.cell? ⟨x1.it.heap.size, 2, none⟩ = some (.int .i64 0) := by simp (maxDischargeDepth := 9) [go_sem, *]
  have r03 : y.it.cell? ⟨x1.it.heap.size, 3, none⟩ = some (.bool true) := by simp (maxDischargeDepth := 9) [go_sem, *]
  have s0 : b1 < y.it.heap.size := by rw [e8]; (first | with_reducible assumption | (simp only [World.size_setCell, World.size_alloc, World.size_drew]; first | with_reducible assumption | omega))
  have s1 : b2 < y.it.heap.size := by rw [e8]; (first | with_reducible assumption | (simp only [World.size_setCell, World.size_alloc, World.size_drew]; first | with_reducible assumption | omega))
  have s2 : b3 < y.it.heap.size := by rw [e8]; (first | with_reducible assumption | (simp only [World.size_setCell, World.size_alloc, World.size_drew]; first | with_reducible assumption | omega))
  have s3 : x1.it.heap.size < y.it.heap.size := by rw [e8]; (first | with_reducible assumption | (simp only [World.size_setCell, World.size_alloc, World.size_drew]; first | with_reducible assumption | omega))
  have bely : Below w.heap.size w y.it := by rw [e8]; repeat (first | with_reducible assumption | with_reducible refine Below.on ?_ _ | with_reducible refine Below.drew ?_ | with_reducible refine Below.st ?_ (by (first | with_reducible assumption | (simp only [World.size_setCell, World.size_alloc, World.size_drew]; first | with_reducible assumption | omega))) _)
  clear e8 k10 k11 k12 k13 k14 k15 k16 k17 k18 k19 k20 k21 k22 k23 k24 k25 k26 k27 k28 k29 k30 k31 k32 k00 k01 k02 k03 f1 f2 f3 belx
  obtain ⟨p, hp⟩ : ∃ p, touchF ty ⟨an, as', al, ah, ⟨ln, l, ls⟩, ⟨hn, h, hs⟩⟩ ⟨xn, xi, xv⟩ ⟨xn, xi, xv⟩ = p := ⟨_, rfl⟩
  obtain ⟨q, hq⟩ : ∃ q, touchF ty ⟨bn, bs, bl, bh, ⟨lm, m, ms⟩, ⟨gn, g, gs⟩⟩ ⟨xn, xi, xv⟩ ⟨xn, xi, xv⟩ = q := ⟨_, rfl⟩
  obtain ⟨⟨mn, ms', ml, mh, ⟨mln, mli, mls⟩, ⟨mhn, mhi, mhs⟩⟩, hM⟩ : ∃ b, meetF ty ⟨an, as', al, ah, ⟨ln, l, ls⟩, ⟨hn, h, hs⟩⟩ ⟨bn, bs, bl, bh, ⟨lm, m, ms⟩, ⟨gn, g, gs⟩⟩ = b := ⟨_, rfl⟩
  obtain ⟨⟨jn, js', jl, jh, ⟨jln, jli, jls⟩, ⟨jhn, jhi, jhs⟩⟩, hJ⟩ : ∃ b, joinF ty ⟨an, as', al, ah, ⟨ln, l, ls⟩, ⟨hn, h, hs⟩⟩ ⟨bn, bs, bl, bh, ⟨lm, m, ms⟩, ⟨gn, g, gs⟩⟩ = b := ⟨_, rfl⟩
  have hm : touchF ty ⟨mn, ms', ml, mh, ⟨mln, mli, mls⟩, ⟨mhn, mhi, mhs⟩⟩ ⟨xn, xi, xv⟩ ⟨xn, xi, xv⟩ = (p && q) := by rw [← hM, meet_has C0.out C1.out, hp, hq]
  have hj : (p = true ∨ q = true) → touchF ty ⟨jn, js', jl, jh, ⟨jln, jli, jls⟩, ⟨jhn, jhi, jhs⟩⟩ ⟨xn, xi, xv⟩ ⟨xn, xi, xv⟩ = true := by rw [← hJ, ← hp, ← hq]; exact join_has C0.out C1.out _
  clear C0 C1
  cases p <;> cases q
  · clear hj
    simp only [Bool.false_and] at hm
    refine wp_region_ext (by kernel_rfl) (by kernel_rfl) ?_
    repeat (go_big_quiet_step ((first | (go_at_call 15; exact Calls.ext (awake_any _)) | (go_at_call 22; exact Calls.ext (meet_eq (by with_reducible assumption))) | (go_at_call 23; exact Calls.ext (join_eq (by with_reducible assumption))) | (go_at_call 18; exact Calls.ext (has_eq (by with_reducible assumption))))))
    refine wpQuiet_nil ?_
    rintro _ ⟨y3, rfl⟩
    have u0 := y3.lt s0
    have u1 := y3.lt s1
    have u2 := y3.lt s2
    have u3 := y3.lt s3
    go_upto_region 4 with fail
    refine wp_region_ext (by kernel_rfl) (by kernel_rfl) ?_
    repeat (go_big_quiet_step ((first | (go_at_call 15; exact Calls.ext (awake_any _)) | (go_at_call 22; exact Calls.ext (meet_eq (by with_reducible assumption))) | (go_at_call 23; exact Calls.ext (join_eq (by with_reducible assumption))) | (go_at_call 18; exact Calls.ext (has_eq (by with_reducible assumption))))))
    refine wpQuiet_nil ?_
    rintro _ ⟨y4, rfl⟩
    go_wp2
    exact bodyPost_ret (v := .bool true) (by simp [results, Try.results5, go_sem, *]) rfl (⟨rfl, by repeat (first | with_reducible assumption | with_reducible refine Below.on ?_ _ | with_reducible refine Below.drew ?_)⟩)
  · have hj := hj (by simp)
    simp only [Bool.false_and] at hm
    refine wp_region_ext (by kernel_rfl) (by kernel_rfl) ?_
    repeat (go_big_quiet_step ((first | (go_at_call 15; exact Calls.ext (awake_any _)) | (go_at_call 22; exact Calls.ext (meet_eq (by with_reducible assumption))) | (go_at_call 23; exact Calls.ext (join_eq (by with_reducible assumption))) | (go_at_call 18; exact Calls.ext (has_eq (by with_reducible assumption))))))
    refine wpQuiet_nil ?_
    rintro _ ⟨y3, rfl⟩
    have u0 := y3.lt s0
    have u1 := y3.lt s1
    have u2 := y3.lt s2
    have u3 := y3.lt s3
    go_upto_region 4 with fail
    refine wp_region_ext (by kernel_rfl) (by kernel_rfl) ?_
    repeat (go_big_quiet_step ((first | (go_at_call 15; exact Calls.ext (awake_any _)) | (go_at_call 22; exact Calls.ext (meet_eq (by with_reducible assumption))) | (go_at_call 23; exact Calls.ext (join_eq (by with_reducible assumption))) | (go_at_call 18; exact Calls.ext (has_eq (by with_reducible assumption))))))
    refine wpQuiet_nil ?_
    rintro _ ⟨y4, rfl⟩
    go_wp2
    exact bodyPost_ret (v := .bool true) (by simp [results, Try.results5, go_sem, *]) rfl (⟨rfl, by repeat (first | with_reducible assumption | with_reducible refine Below.on ?_ _ | with_reducible refine Below.drew ?_)⟩)
  · have hj := hj (by simp)
    simp only [Bool.true_and] at hm
    refine wp_region_ext (by kernel_rfl) (by kernel_rfl) ?_
    repeat (go_big_quiet_step ((first | (go_at_call 15; exact Calls.ext (awake_any _)) | (go_at_call 22; exact Calls.ext (meet_eq (by with_reducible assumption))) | (go_at_call 23; exact Calls.ext (join_eq (by with_reducible assumption))) | (go_at_call 18; exact Calls.ext (has_eq (by with_reducible assumption))))))
    refine wpQuiet_nil ?_
    rintro _ ⟨y3, rfl⟩
    have u0 := y3.lt s0
    have u1 := y3.lt s1
    have u2 := y3.lt s2
    have u3 := y3.lt s3
    go_upto_region 4 with fail
    refine wp_region_ext (by kernel_rfl) (by kernel_rfl) ?_
    repeat (go_big_quiet_step ((first | (go_at_call 15; exact Calls.ext (awake_any _)) | (go_at_call 22; exact Calls.ext (meet_eq (by with_reducible assumption))) | (go_at_call 23; exact Calls.ext (join_eq (by with_reducible assumption))) | (go_at_call 18; exact Calls.ext (has_eq (by with_reducible assumption))))))
    refine wpQuiet_nil ?_
    rintro _ ⟨y4, rfl⟩
    go_wp2
    exact bodyPost_ret (v := .bool true) (by simp [results, Try.results5, go_sem, *]) rfl (⟨rfl, by repeat (first | with_reducible assumption | with_reducible refine Below.on ?_ _ | with_reducible refine Below.drew ?_)⟩)
  · have hj := hj (by simp)
    simp only [Bool.true_and] at hm
    refine wp_region_ext (by kernel_rfl) (by kernel_rfl) ?_
    repeat (go_big_quiet_step ((first | (go_at_call 15; exact Calls.ext (awake_any _)) | (go_at_call 22; exact Calls.ext (meet_eq (by with_reducible assumption))) | (go_at_call 23; exact Calls.ext (join_eq (by with_reducible assumption))) | (go_at_call 18; exact Calls.ext (has_eq (by with_reducible assumption))))))
    refine wpQuiet_nil ?_
    rintro _ ⟨y3, rfl⟩
    have u0 := y3.lt s0
    have u1 := y3.lt s1
    have u2 := y3.lt s2
    have u3 := y3.lt s3
    go_upto_region 4 with fail
    refine wp_region_ext (by kernel_rfl) (by kernel_rfl) ?_
    repeat (go_big_quiet_step ((first | (go_at_call 15; exact Calls.ext (awake_any _)) | (go_at_call 22; exact Calls.ext (meet_eq (by with_reducible assumption))) | (go_at_call 23; exact Calls.ext (join_eq (by with_reducible assumption))) | (go_at_call 18; exact Calls.ext (has_eq (by with_reducible assumption))))))
    refine wpQuiet_nil ?_
    rintro _ ⟨y4, rfl⟩
    go_wp2
    exact bodyPost_ret (v := .bool true) (by simp [results, Try.results5, go_sem, *]) rfl (⟨rfl, by repeat (first | with_reducible assumption | with_reducible refine Below.on ?_ _ | with_reducible refine Below.drew ?_)⟩)
set_option maxRecDepth 100000 in
theorem intervalMeetIsAnd_lifted (os : Os) (started : os.Started) (H : Type) (enc : TypeId × Value → H) :
    ReturnsInHanded {} Try.checked os 5 .any (Rows.intervalMeetIsAndSpec.pre6 enc Try.prog Try.f5 Rows.intervalMeetIsAndRow.domain false) (Rows.intervalMeetIsAndSpec.post enc Try.prog Try.f5 false true false false) := by
  refine lifted_of_walk (C := Try.checked) (tb := 4) own started (by kernel_rfl) Try.func5
    (ChangeSpec.witness6 (enc := enc) (C := Try.checked) false ⟨#[], #[.int .i64 0, .slice none 0 0, .slice none 0 0, .slice none 0 0], []⟩ 8 (by kernel_rfl) (by kernel_rfl) (by kernel_rfl) (by kernel_rfl))
    laid (params_ok (by kernel_rfl)) (by kernel_rfl) Try.underlying4 rfl
    (fun ds hds => by match ds, hds with | [d0, d1, d2, d3], _ => exact ⟨rfl, rfl, rfl⟩) ?_
  intro W base args ds ps hval0 hA0
  have hval : ∀ (j : Nat) t v, Try.f5.params[j]? = some t → args[j]? = some v → Value.okWide Try.prog W .any base t v := hval0
  have hA : DataW.TrodAll enc Try.prog W 0 (fun _ => true) true Try.f5.params.toList args.toList ds ps := hA0
  rw [Try.params5] at hA hval
  obtain ⟨v0, vs0, d0, ds0, p0, q0, hargs, rfl, rfl, h0, r0⟩ := trodAll_cons hA
  obtain ⟨v1, vs1, d1, ds1, p1, q1, rfl, rfl, rfl, h1, r1⟩ := trodAll_cons r0
  obtain ⟨v2, vs2, d2, ds2, p2, q2, rfl, rfl, rfl, h2, r2⟩ := trodAll_cons r1
  obtain ⟨v3, vs3, d3, ds3, p3, q3, rfl, rfl, rfl, h3, r3⟩ := trodAll_cons r2
  obtain ⟨rfl, rfl, rfl⟩ := trodAll_nil r3
  obtain rfl : args = #[v0, v1, v2, v3] := by cases args; simp_all
  obtain ⟨t, rfl, ht0⟩ := open_i64 Try.underlying3 (hval 0 _ v0 rfl rfl) h0
  obtain ⟨l0, y0⟩ := open_intsv Try.underlying26 Try.underlying3 cells3 (hval 1 _ v1 rfl rfl) h1
  obtain ⟨l1, y1⟩ := open_intsv Try.underlying26 Try.underlying3 cells3 (hval 2 _ v2 rfl rfl) h2
  obtain ⟨l2, y2⟩ := open_intsv Try.underlying26 Try.underlying3 cells3 (hval 3 _ v3 rfl rfl) h3
  exact the_walk _ _ _ _ _ _ _ _ y0 y1 y2

theorem intervalMeetIsAnd_holds : Rows.IntervalMeetIsAndSaid :=
  OpenClaim.holds_of_wide 5 Try.f5 rfl rfl rfl rfl rfl rfl rfl ⟨rfl, rfl, rfl, rfl, rfl⟩ rfl rfl rfl rfl rfl (by kernel_rfl) Try.func5 (by kernel_rfl)
    (of_decide_eq_true (by kernel_rfl)) (by unfold Func.isWrapper; first | (rw [if_pos (by decide +kernel)]; kernel_rfl) | (rw [if_neg (by decide +kernel)]; exact ⟨rfl, rfl⟩))
    (fun os started H enc _ => intervalMeetIsAnd_lifted os started H enc)
#print axioms intervalMeetIsAnd_holds

end Go.Proofs.Ytjojnakgadfgmaa
