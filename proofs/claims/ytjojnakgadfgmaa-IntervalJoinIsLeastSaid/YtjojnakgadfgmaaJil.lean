/-
  INTERVALJOINISLEAST: the walk and the statement. Conditions: none.
-/
import Derived.Test.YtjojnakgadfgmaaOpn
set_option linter.unusedVariables false
set_option linter.unusedSimpArgs false
namespace Go.Proofs.Ytjojnakgadfgmaa
open Go.RowKit Go.ChangeShapes Go.WideShapes Go.ChangeAt

set_option maxRecDepth 8000 in
set_option maxHeartbeats 16000000 in
theorem the_walk (t : Int) (vl vm vo vn : Value) (zl zm zo zn : List Int) (w : World) (h0 : IntsAt w w.heap.size vl zl) (h1 : IntsAt w w.heap.size vm zm) (h2 : IntsAt w w.heap.size vo zo) (h3 : IntsAt w w.heap.size vn zn) :
    Calls Try.prog 6 #[.int .i64 t, vl, vm, vo, vn] w fun e w' => e = .returned (.bool true) ∧ Below w.heap.size w w' := by
  have H := Lib.hid (And.intro h0 (And.intro h1 (And.intro h2 (h3))))
  clear h0 h1 h2 h3
  go_enter Try.func6, Try.ntmps6
  go_upto_region 2 with (go_at_call 11; refine (column_any _ _).mono ?_; rintro e w1 ⟨rfl, hb1⟩; obtain ⟨x1, rfl⟩ := Ext.of hb1)
  obtain ⟨h0, h1, h2, h3⟩ := H.out
  generalize hty : 1 + pickI t 5 = ty
  obtain ⟨⟨an, as', al, ah, ⟨ln, l, ls⟩, ⟨hn, h, hs⟩⟩, hB0⟩ : ∃ b, boundsF ty zl = b := ⟨_, rfl⟩
  obtain ⟨⟨bn, bs, bl, bh, ⟨lm, m, ms⟩, ⟨gn, g, gs⟩⟩, hB1⟩ : ∃ b, boundsF ty zm = b := ⟨_, rfl⟩
  obtain ⟨⟨cn, cs, cl, ch, ⟨lp, o, os⟩, ⟨rn, r, rs⟩⟩, hB2⟩ : ∃ b, boundsF ty zo = b := ⟨_, rfl⟩
  obtain ⟨⟨⟨xn, xi, xv⟩, rx⟩, hX⟩ : ∃ b, valF ty true zn = b := ⟨_, rfl⟩
  have up : ∀ (v : Value) (zs : List Int), IntsAt w w.heap.size v zs → IntsAt (x1.it.alloc (.cells #[.string ⟨#[120]⟩, .int .i64 ty, .int .i64 0, .bool true] 28)) (x1.it.alloc (.cells #[.string ⟨#[120]⟩, .int .i64 ty, .int .i64 0, .bool true] 28)).heap.size v zs := fun v zs h =>
    ((h.ext x1).to fun k hk => Below.heap_alloc _ _ _ hk).mono (by simp)
  have H0 := Lib.hid (And.intro hB0 (up _ _ h0))
  have H1 := Lib.hid (And.intro hB1 (up _ _ h1))
  have H2 := Lib.hid (And.intro hB2 (up _ _ h2))
  have H3 := Lib.hid (And.intro hX (up _ _ h3))
  have C0 := Lib.hid (sumB hB0)
  have C1 := Lib.hid (sumB hB1)
  have C2 := Lib.hid (sumB hB2)
  have hcw := x1.below.size
  clear up h0 h1 h2 h3 hB0 hB1 hB2 hX H hb1 hty
  refine wp_region_float 16 [none, none, none, none, none, none, none, none, none, none, none, none, some (12, 25, #[.bool false, .bool false, .bool false, .bool false, .bool false, .int .i64 0, .string ⟨#[]⟩, .bool false, .int .i64 0, .string ⟨#[]⟩]), some (13, 25, #[.bool false, .bool false, .bool false, .bool false, .bool false, .int .i64 0, .string ⟨#[]⟩, .bool false, .int .i64 0, .string ⟨#[]⟩]), some (14, 25, #[.bool false, .bool false, .bool false, .bool false, .bool false, .int .i64 0, .string ⟨#[]⟩, .bool false, .int .i64 0, .string ⟨#[]⟩]), some (15, 23, #[.bool false, .int .i64 0, .string ⟨#[]⟩])] (by kernel_rfl) (by kernel_rfl) (by kernel_rfl) ⟨allocBnd, allocBnd, allocBnd, allocVal, trivial⟩ ?_
  dsimp only [ghosts, ghost, List.take, List.drop]
  repeat (refine wpE_step (fun K hK => ?_); go_simp; first | (refine hK _ ?_; clear hK K) | (apply Exists.intro; refine ⟨fun _ => ?_, hK _ ?_⟩; (first | (go_at_call 12; exact bounds_eq H0.out.1 (H0.out.2.ext _)) | (go_at_call 12; exact bounds_eq H1.out.1 (H1.out.2.ext _)) | (go_at_call 12; exact bounds_eq H2.out.1 (H2.out.2.ext _)) | (go_at_call 13; exact valueOf_eq H3.out.1 (H3.out.2.ext _))); clear hK K))
  refine wpE_nil ?_
  intro x
  dsimp only [floated]
  intro b1 q1 _ g1 b2 q2 d2 g2 b3 q3 d3 g3 b4 q4 d4 g4
  have e1 := (Array.getElem?_eq_some_iff.1 g1).1
  have e2 := (Array.getElem?_eq_some_iff.1 g2).1
  have e3 := (Array.getElem?_eq_some_iff.1 g3).1
  have e4 := (Array.getElem?_eq_some_iff.1 g4).1
  have n21 : b2 ≠ b1 := d2 b1 (by simp)
  have n12 := n21.symm
  have n31 : b3 ≠ b1 := d3 b1 (by simp)
  have n13 := n31.symm
  have n32 : b3 ≠ b2 := d3 b2 (by simp)
  have n23 := n32.symm
  have n41 : b4 ≠ b1 := d4 b1 (by simp)
  have n14 := n41.symm
  have n42 : b4 ≠ b2 := d4 b2 (by simp)
  have n24 := n42.symm
  have n43 : b4 ≠ b3 := d4 b3 (by simp)
  have n34 := n43.symm
  simp only [World.size_alloc] at q1 q2 q3 q4
  have mb1 : b1 ≠ x1.it.heap.size := by omega
  have ob1 : w.heap.size ≤ b1 := by omega
  have mb2 : b2 ≠ x1.it.heap.size := by omega
  have ob2 : w.heap.size ≤ b2 := by omega
  have mb3 : b3 ≠ x1.it.heap.size := by omega
  have ob3 : w.heap.size ≤ b3 := by omega
  have mb4 : b4 ≠ x1.it.heap.size := by omega
  have ob4 : w.heap.size ≤ b4 := by omega
  have zx : x1.it.heap.size < x.it.heap.size := x.lt (by simp)
  have belx : Below w.heap.size w x.it := Below.on (Below.al (Below.on (Below.refl _ _) x1) _) x
  have f1 := fun j => frozen_of_row x.it b1 j _ _ g1
  have f2 := fun j => frozen_of_row x.it b2 j _ _ g2
  have f3 := fun j => frozen_of_row x.it b3 j _ _ g3
  have f4 := fun j => frozen_of_row x.it b4 j _ _ g4
  have k10 : x.it.cell? ⟨b1, 0, none⟩ = some (.bool false) := by have := cell_of_row x.it b1 0 _ _ _ g1; simpa using this
  have k11 : x.it.cell? ⟨b1, 1, none⟩ = some (.bool false) := by have := cell_of_row x.it b1 1 _ _ _ g1; simpa using this
  have k12 : x.it.cell? ⟨b1, 2, none⟩ = some (.bool false) := by have := cell_of_row x.it b1 2 _ _ _ g1; simpa using this
  have k13 : x.it.cell? ⟨b1, 3, none⟩ = some (.bool false) := by have := cell_of_row x.it b1 3 _ _ _ g1; simpa using this
  have k14 : x.it.cell? ⟨b1, 4, none⟩ = some (.bool false) := by have := cell_of_row x.it b1 4 _ _ _ g1; simpa using this
  have k15 : x.it.cell? ⟨b1, 5, none⟩ = some (.int .i64 0) := by have := cell_of_row x.it b1 5 _ _ _ g1; simpa using this
  have k16 : x.it.cell? ⟨b1, 6, none⟩ = some (.string ⟨#[]⟩) := by have := cell_of_row x.it b1 6 _ _ _ g1; simpa using this
  have k17 : x.it.cell? ⟨b1, 7, none⟩ = some (.bool false) := by have := cell_of_row x.it b1 7 _ _ _ g1; simpa using this
  have k18 : x.it.cell? ⟨b1, 8, none⟩ = some (.int .i64 0) := by have := cell_of_row x.it b1 8 _ _ _ g1; simpa using this
  have k19 : x.it.cell? ⟨b1, 9, none⟩ = some (.string ⟨#[]⟩) := by have := cell_of_row x.it b1 9 _ _ _ g1; simpa using this
  have k20 : x.it.cell? ⟨b2, 0, none⟩ = some (.bool false) := by have := cell_of_row x.it b2 0 _ _ _ g2; simpa using this
  have k21 : x.it.cell? ⟨b2, 1, none⟩ = some (.bool false) := by have := cell_of_row x.it b2 1 _ _ _ g2; simpa using this
  have k22 : x.it.cell? ⟨b2, 2, none⟩ = some (.bool false) := by have := cell_of_row x.it b2 2 _ _ _ g2; simpa using this
  have k23 : x.it.cell? ⟨b2, 3, none⟩ = some (.bool false) := by have := cell_of_row x.it b2 3 _ _ _ g2; simpa using this
  have k24 : x.it.cell? ⟨b2, 4, none⟩ = some (.bool false) := by have := cell_of_row x.it b2 4 _ _ _ g2; simpa using this
  have k25 : x.it.cell? ⟨b2, 5, none⟩ = some (.int .i64 0) := by have := cell_of_row x.it b2 5 _ _ _ g2; simpa using this
  have k26 : x.it.cell? ⟨b2, 6, none⟩ = some (.string ⟨#[]⟩) := by have := cell_of_row x.it b2 6 _ _ _ g2; simpa using this
  have k27 : x.it.cell? ⟨b2, 7, none⟩ = some (.bool false) := by have := cell_of_row x.it b2 7 _ _ _ g2; simpa using this
  have k28 : x.it.cell? ⟨b2, 8, none⟩ = some (.int .i64 0) := by have := cell_of_row x.it b2 8 _ _ _ g2; simpa using this
  have k29 : x.it.cell? ⟨b2, 9, none⟩ = some (.string ⟨#[]⟩) := by have := cell_of_row x.it b2 9 _ _ _ g2; simpa using this
  have k30 : x.it.cell? ⟨b3, 0, none⟩ = some (.bool false) := by have := cell_of_row x.it b3 0 _ _ _ g3; simpa using this
  have k31 : x.it.cell? ⟨b3, 1, none⟩ = some (.bool false) := by have := cell_of_row x.it b3 1 _ _ _ g3; simpa using this
  have k32 : x.it.cell? ⟨b3, 2, none⟩ = some (.bool false) := by have := cell_of_row x.it b3 2 _ _ _ g3; simpa using this
  have k33 : x.it.cell? ⟨b3, 3, none⟩ = some (.bool false) := by have := cell_of_row x.it b3 3 _ _ _ g3; simpa using this
  have k34 : x.it.cell? ⟨b3, 4, none⟩ = some (.bool false) := by have := cell_of_row x.it b3 4 _ _ _ g3; simpa using this
  have k35 : x.it.cell? ⟨b3, 5, none⟩ = some (.int .i64 0) := by have := cell_of_row x.it b3 5 _ _ _ g3; simpa using this
  have k36 : x.it.cell? ⟨b3, 6, none⟩ = some (.string ⟨#[]⟩) := by have := cell_of_row x.it b3 6 _ _ _ g3; simpa using this
  have k37 : x.it.cell? ⟨b3, 7, none⟩ = some (.bool false) := by have := cell_of_row x.it b3 7 _ _ _ g3; simpa using this
  have k38 : x.it.cell? ⟨b3, 8, none⟩ = some (.int .i64 0) := by have := cell_of_row x.it b3 8 _ _ _ g3; simpa using this
  have k39 : x.it.cell? ⟨b3, 9, none⟩ = some (.string ⟨#[]⟩) := by have := cell_of_row x.it b3 9 _ _ _ g3; simpa using this
  have k40 : x.it.cell? ⟨b4, 0, none⟩ = some (.bool false) := by have := cell_of_row x.it b4 0 _ _ _ g4; simpa using this
  have k41 : x.it.cell? ⟨b4, 1, none⟩ = some (.int .i64 0) := by have := cell_of_row x.it b4 1 _ _ _ g4; simpa using this
  have k42 : x.it.cell? ⟨b4, 2, none⟩ = some (.string ⟨#[]⟩) := by have := cell_of_row x.it b4 2 _ _ _ g4; simpa using this
  have k00 : x.it.cell? ⟨x1.it.heap.size, 0, none⟩ = some (.string ⟨#[120]⟩) := by simp [go_sem, *]
  have k01 : x.it.cell? ⟨x1.it.heap.size, 1, none⟩ = some (.int .i64 ty) := by simp [go_sem, *]
  have k02 : x.it.cell? ⟨x1.it.heap.size, 2, none⟩ = some (.int .i64 0) := by simp [go_sem, *]
  have k03 : x.it.cell? ⟨x1.it.heap.size, 3, none⟩ = some (.bool true) := by simp [go_sem, *]
  clear g1 g2 g3 g4 d2 d3 d4 H0 H1 H2 H3
  go_upto_region 3 with fail
  refine captureE ?_
  intro y e8
  have r10 : y.it.cell? ⟨b1, 0, none⟩ = some (.bool an) := by simp (maxDischargeDepth := 9) [go_sem, *]
  have r11 : y.it.cell? ⟨b1, 1, none⟩ = some (.bool as') := by simp (maxDischargeDepth := 9) [go_sem, *]
  have r12 : y.it.cell? ⟨b1, 2, none⟩ = some (.bool al) := by simp (maxDischargeDepth := 9) [go_sem, *]
  have r13 : y.it.cell? ⟨b1, 3, none⟩ = some (.bool ah) := by simp (maxDischargeDepth := 9) [go_sem, *]
  have r14 : y.it.cell? ⟨b1, 4, none⟩ = some (.bool ln) := by simp (maxDischargeDepth := 9) [go_sem, *]
  have r15 : y.it.cell? ⟨b1, 5, none⟩ = some (.int .i64 l) := by simp (maxDischargeDepth := 9) [go_sem, *]
  have r16 : y.it.cell? ⟨b1, 6, none⟩ = some (.string ls) := by simp (maxDischargeDepth := 9) [go_sem, *]
  have r17 : y.it.cell? ⟨b1, 7, none⟩ = some (.bool hn) := by simp (maxDischargeDepth := 9) [go_sem, *]
  have r18 : y.it.cell? ⟨b1, 8, none⟩ = some (.int .i64 h) := by simp (maxDischargeDepth := 9) [go_sem, *]
  have r19 : y.it.cell? ⟨b1, 9, none⟩ = some (.string hs) := by simp (maxDischargeDepth := 9) [go_sem, *]
  have r20 : y.it.cell? ⟨b2, 0, none⟩ = some (.bool bn) := by simp (maxDischargeDepth := 9) [go_sem, *]
  have r21 : y.it.cell? ⟨b2, 1, none⟩ = some (.bool bs) := by simp (maxDischargeDepth := 9) [go_sem, *]
  have r22 : y.it.cell? ⟨b2, 2, none⟩ = some (.bool bl) := by simp (maxDischargeDepth := 9) [go_sem, *]
  have r23 : y.it.cell? ⟨b2, 3, none⟩ = some (.bool bh) := by simp (maxDischargeDepth := 9) [go_sem, *]
  have r24 : y.it.cell? ⟨b2, 4, none⟩ = some (.bool lm) := by simp (maxDischargeDepth := 9) [go_sem, *]
  have r25 : y.it.cell? ⟨b2, 5, none⟩ = some (.int .i64 m) := by simp (maxDischargeDepth := 9) [go_sem, *]
  have r26 : y.it.cell? ⟨b2, 6, none⟩ = some (.string ms) := by simp (maxDischargeDepth := 9) [go_sem, *]
  have r27 : y.it.cell? ⟨b2, 7, none⟩ = some (.bool gn) := by simp (maxDischargeDepth := 9) [go_sem, *]
  have r28 : y.it.cell? ⟨b2, 8, none⟩ = some (.int .i64 g) := by simp (maxDischargeDepth := 9) [go_sem, *]
  have r29 : y.it.cell? ⟨b2, 9, none⟩ = some (.string gs) := by simp (maxDischargeDepth := 9) [go_sem, *]
  have r30 : y.it.cell? ⟨b3, 0, none⟩ = some (.bool cn) := by simp (maxDischargeDepth := 9) [go_sem, *]
  have r31 : y.it.cell? ⟨b3, 1, none⟩ = some (.bool cs) := by simp (maxDischargeDepth := 9) [go_sem, *]
  have r32 : y.it.cell? ⟨b3, 2, none⟩ = some (.bool cl) := by simp (maxDischargeDepth := 9) [go_sem, *]
  have r33 : y.it.cell? ⟨b3, 3, none⟩ = some (.bool ch) := by simp (maxDischargeDepth := 9) [go_sem, *]
  have r34 : y.it.cell? ⟨b3, 4, none⟩ = some (.bool lp) := by simp (maxDischargeDepth := 9) [go_sem, *]
  have r35 : y.it.cell? ⟨b3, 5, none⟩ = some (.int .i64 o) := by simp (maxDischargeDepth := 9) [go_sem, *]
  have r36 : y.it.cell? ⟨b3, 6, none⟩ = some (.string os) := by simp (maxDischargeDepth := 9) [go_sem, *]
  have r37 : y.it.cell? ⟨b3, 7, none⟩ = some (.bool rn) := by simp (maxDischargeDepth := 9) [go_sem, *]
  have r38 : y.it.cell? ⟨b3, 8, none⟩ = some (.int .i64 r) := by simp (maxDischargeDepth := 9) [go_sem, *]
  have r39 : y.it.cell? ⟨b3, 9, none⟩ = some (.string rs) := by simp (maxDischargeDepth := 9) [go_sem, *]
  have r40 : y.it.cell? ⟨b4, 0, none⟩ = some (.bool xn) := by simp (maxDischargeDepth := 9) [go_sem, *]
  have r41 : y.it.cell? ⟨b4, 1, none⟩ = some (.int .i64 xi) := by simp (maxDischargeDepth := 9) [go_sem, *]
  have r42 : y.it.cell? ⟨b4, 2, none⟩ = some (.string xv) := by simp (maxDischargeDepth := 9) [go_sem, *]
  have r00 : y.it.cell? ⟨x1.it.heap.size, 0, none⟩ = some (.string ⟨#[120]⟩) := by simp (maxDischargeDepth := 9) [go_sem, *]
  have r01 : y.it.cell? ⟨x1.it.heap.size, 1, none⟩ = some (.int .i64 ty) := by simp (maxDischargeDepth := 9) [go_sem, *]
  have r02 : y.it.cell? ⟨x1.it.heap.size, 2, none⟩ = some (.int .i64 0) := by simp (maxDischargeDepth := 9) [go_sem, *]
  have r03 : y.it.cell? ⟨x1.it.heap.size, 3, none⟩ = some (.bool true) := by simp (maxDischargeDepth := 9) [go_sem, *]
  have s0 : b1 < y.it.heap.size := by rw [e8]; (first | with_reducible assumption | (simp only [World.size_setCell, World.size_alloc, World.size_drew]; first | with_reducible assumption | omega))
  have s1 : b2 < y.it.heap.size := by rw [e8]; (first | with_reducible assumption | (simp only [World.size_setCell, World.size_alloc, World.size_drew]; first | with_reducible assumption | omega))
  have s2 : b3 < y.it.heap.size := by rw [e8]; (first | with_reducible assumption | (simp only [World.size_setCell, World.size_alloc, World.size_drew]; first | with_reducible assumption | omega))
  have s3 : b4 < y.it.heap.size := by rw [e8]; (first | with_reducible assumption | (simp only [World.size_setCell, World.size_alloc, World.size_drew]; first | with_reducible assumption | omega))
  have s4 : x1.it.heap.size < y.it.heap.size := by rw [e8]; (first | with_reducible assumption | (simp only [World.size_setCell, World.size_alloc, World.size_drew]; first | with_reducible assumption | omega))
  have bely : Below w.heap.size w y.it := by rw [e8]; repeat (first | with_reducible assumption | with_reducible refine Below.on ?_ _ | with_reducible refine Below.drew ?_ | with_reducible refine Below.st ?_ (by (first | with_reducible assumption | (simp only [World.size_setCell, World.size_alloc, World.size_drew]; first | with_reducible assumption | omega))) _)
  clear e8 k10 k11 k12 k13 k14 k15 k16 k17 k18 k19 k20 k21 k22 k23 k24 k25 k26 k27 k28 k29 k30 k31 k32 k33 k34 k35 k36 k37 k38 k39 k40 k41 k42 k00 k01 k02 k03 f1 f2 f3 f4 belx
  obtain ⟨⟨jn, js', jl, jh, ⟨jln, jli, jls⟩, ⟨jhn, jhi, jhs⟩⟩, hJ⟩ : ∃ b, joinF ty ⟨an, as', al, ah, ⟨ln, l, ls⟩, ⟨hn, h, hs⟩⟩ ⟨bn, bs, bl, bh, ⟨lm, m, ms⟩, ⟨gn, g, gs⟩⟩ = b := ⟨_, rfl⟩
  go_upto_region 4 with (go_at_call 23; refine (join_eq hJ).mono ?_; rintro e w5 ⟨rfl, hb5⟩; obtain ⟨x5, rfl⟩ := Ext.of hb5; have v0 := x5.lt s0; have v1 := x5.lt s1; have v2 := x5.lt s2; have v3 := x5.lt s3; have v4 := x5.lt s4)
  refine captureE ?_
  intro y5 e5
  have w0 : b1 ≠ x5.it.heap.size := by omega
  have w1 : b2 ≠ x5.it.heap.size := by omega
  have w2 : b3 ≠ x5.it.heap.size := by omega
  have w3 : b4 ≠ x5.it.heap.size := by omega
  have w4 : x1.it.heap.size ≠ x5.it.heap.size := by omega
  have l10 : y5.it.cell? ⟨b1, 0, none⟩ = some (.bool an) := by simp (maxDischargeDepth := 9) [go_sem, *]
  have l11 : y5.it.cell? ⟨b1, 1, none⟩ = some (.bool as') := by simp (maxDischargeDepth := 9) [go_sem, *]
  have l12 : y5.it.cell? ⟨b1, 2, none⟩ = some (.bool al) := by simp (maxDischargeDepth := 9) [go_sem, *]
  have l13 : y5.it.cell? ⟨b1, 3, none⟩ = some (.bool ah) := by simp (maxDischargeDepth := 9) [go_sem, *]
  have l14 : y5.it.cell? ⟨b1, 4, none⟩ = some (.bool ln) := by simp (maxDischargeDepth := 9) [go_sem, *]
  have l15 : y5.it.cell? ⟨b1, 5, none⟩ = some (.int .i64 l) := by simp (maxDischargeDepth := 9) [go_sem, *]
  have l16 : y5.it.cell? ⟨b1, 6, none⟩ = some (.string ls) := by simp (maxDischargeDepth := 9) [go_sem, *]
  have l17 : y5.it.cell? ⟨b1, 7, none⟩ = some (.bool hn) := by simp (maxDischargeDepth := 9) [go_sem, *]
  have l18 : y5.it.cell? ⟨b1, 8, none⟩ = some (.int .i64 h) := by simp (maxDischargeDepth := 9) [go_sem, *]
  have l19 : y5.it.cell? ⟨b1, 9, none⟩ = some (.string hs) := by simp (maxDischargeDepth := 9) [go_sem, *]
  have l20 : y5.it.cell? ⟨b2, 0, none⟩ = some (.bool bn) := by simp (maxDischargeDepth := 9) [go_sem, *]
  have l21 : y5.it.cell? ⟨b2, 1, none⟩ = some (.bool bs) := by simp (maxDischargeDepth := 9) [go_sem, *]
  have l22 : y5.it.cell? ⟨b2, 2, none⟩ = some (.bool bl) := by simp (maxDischargeDepth := 9) [go_sem, *]
  have l23 : y5.it.cell? ⟨b2, 3, none⟩ = some (.bool bh) := by simp (maxDischargeDepth := 9) [go_sem, *]
  have l24 : y5.it.cell? ⟨b2, 4, none⟩ = some (.bool lm) := by simp (maxDischargeDepth := 9) [go_sem, *]
  have l25 : y5.it.cell? ⟨b2, 5, none⟩ = some (.int .i64 m) := by simp (maxDischargeDepth := 9) [go_sem, *]
  have l26 : y5.it.cell? ⟨b2, 6, none⟩ = some (.string ms) := by simp (maxDischargeDepth := 9) [go_sem, *]
  have l27 : y5.it.cell? ⟨b2, 7, none⟩ = some (.bool gn) := by simp (maxDischargeDepth := 9) [go_sem, *]
  have l28 : y5.it.cell? ⟨b2, 8, none⟩ = some (.int .i64 g) := by simp (maxDischargeDepth := 9) [go_sem, *]
  have l29 : y5.it.cell? ⟨b2, 9, none⟩ = some (.string gs) := by simp (maxDischargeDepth := 9) [go_sem, *]
  have l30 : y5.it.cell? ⟨b3, 0, none⟩ = some (.bool cn) := by simp (maxDischargeDepth := 9) [go_sem, *]
  have l31 : y5.it.cell? ⟨b3, 1, none⟩ = some (.bool cs) := by simp (maxDischargeDepth := 9) [go_sem, *]
  have l32 : y5.it.cell? ⟨b3, 2, none⟩ = some (.bool cl) := by simp (maxDischargeDepth := 9) [go_sem, *]
  have l33 : y5.it.cell? ⟨b3, 3, none⟩ = some (.bool ch) := by simp (maxDischargeDepth := 9) [go_sem, *]
  have l34 : y5.it.cell? ⟨b3, 4, none⟩ = some (.bool lp) := by simp (maxDischargeDepth := 9) [go_sem, *]
  have l35 : y5.it.cell? ⟨b3, 5, none⟩ = some (.int .i64 o) := by simp (maxDischargeDepth := 9) [go_sem, *]
  have l36 : y5.it.cell? ⟨b3, 6, none⟩ = some (.string os) := by simp (maxDischargeDepth := 9) [go_sem, *]
  have l37 : y5.it.cell? ⟨b3, 7, none⟩ = some (.bool rn) := by simp (maxDischargeDepth := 9) [go_sem, *]
  have l38 : y5.it.cell? ⟨b3, 8, none⟩ = some (.int .i64 r) := by simp (maxDischargeDepth := 9) [go_sem, *]
  have l39 : y5.it.cell? ⟨b3, 9, none⟩ = some (.string rs) := by simp (maxDischargeDepth := 9) [go_sem, *]
  have l40 : y5.it.cell? ⟨b4, 0, none⟩ = some (.bool xn) := by simp (maxDischargeDepth := 9) [go_sem, *]
  have l41 : y5.it.cell? ⟨b4, 1, none⟩ = some (.int .i64 xi) := by simp (maxDischargeDepth := 9) [go_sem, *]
  have l42 : y5.it.cell? ⟨b4, 2, none⟩ = some (.string xv) := by simp (maxDischargeDepth := 9) [go_sem, *]
  have l50 : y5.it.cell? ⟨x5.it.heap.size, 0, none⟩ = some (.bool jn) := by simp (maxDischargeDepth := 9) [go_sem, *]
  have l51 : y5.it.cell? ⟨x5.it.heap.size, 1, none⟩ = some (.bool js') := by simp (maxDischargeDepth := 9) [go_sem, *]
  have l52 : y5.it.cell? ⟨x5.it.heap.size, 2, none⟩ = some (.bool jl) := by simp (maxDischargeDepth := 9) [go_sem, *]
  have l53 : y5.it.cell? ⟨x5.it.heap.size, 3, none⟩ = some (.bool jh) := by simp (maxDischargeDepth := 9) [go_sem, *]
  have l54 : y5.it.cell? ⟨x5.it.heap.size, 4, none⟩ = some (.bool jln) := by simp (maxDischargeDepth := 9) [go_sem, *]
  have l55 : y5.it.cell? ⟨x5.it.heap.size, 5, none⟩ = some (.int .i64 jli) := by simp (maxDischargeDepth := 9) [go_sem, *]
  have l56 : y5.it.cell? ⟨x5.it.heap.size, 6, none⟩ = some (.string jls) := by simp (maxDischargeDepth := 9) [go_sem, *]
  have l57 : y5.it.cell? ⟨x5.it.heap.size, 7, none⟩ = some (.bool jhn) := by simp (maxDischargeDepth := 9) [go_sem, *]
  have l58 : y5.it.cell? ⟨x5.it.heap.size, 8, none⟩ = some (.int .i64 jhi) := by simp (maxDischargeDepth := 9) [go_sem, *]
  have l59 : y5.it.cell? ⟨x5.it.heap.size, 9, none⟩ = some (.string jhs) := by simp (maxDischargeDepth := 9) [go_sem, *]
  have l00 : y5.it.cell? ⟨x1.it.heap.size, 0, none⟩ = some (.string ⟨#[120]⟩) := by simp (maxDischargeDepth := 9) [go_sem, *]
  have l01 : y5.it.cell? ⟨x1.it.heap.size, 1, none⟩ = some (.int .i64 ty) := by simp (maxDischargeDepth := 9) [go_sem, *]
  have l02 : y5.it.cell? ⟨x1.it.heap.size, 2, none⟩ = some (.int .i64 0) := by simp (maxDischargeDepth := 9) [go_sem, *]
  have l03 : y5.it.cell? ⟨x1.it.heap.size, 3, none⟩ = some (.bool true) := by simp (maxDischargeDepth := 9) [go_sem, *]
  have t0 : b1 < y5.it.heap.size := by rw [e5]; (first | with_reducible assumption | (simp only [World.size_setCell, World.size_alloc, World.size_drew]; first | with_reducible assumption | omega))
  have t1 : b2 < y5.it.heap.size := by rw [e5]; (first | with_reducible assumption | (simp only [World.size_setCell, World.size_alloc, World.size_drew]; first | with_reducible assumption | omega))
  have t2 : b3 < y5.it.heap.size := by rw [e5]; (first | with_reducible assumption | (simp only [World.size_setCell, World.size_alloc, World.size_drew]; first | with_reducible assumption | omega))
  have t3 : b4 < y5.it.heap.size := by rw [e5]; (first | with_reducible assumption | (simp only [World.size_setCell, World.size_alloc, World.size_drew]; first | with_reducible assumption | omega))
  have t4 : x1.it.heap.size < y5.it.heap.size := by rw [e5]; (first | with_reducible assumption | (simp only [World.size_setCell, World.size_alloc, World.size_drew]; first | with_reducible assumption | omega))
  have t5 : x5.it.heap.size < y5.it.heap.size := by rw [e5]; (first | with_reducible assumption | (simp only [World.size_setCell, World.size_alloc, World.size_drew]; first | with_reducible assumption | omega))
  have bel5 : Below w.heap.size w y5.it := by rw [e5]; repeat (first | with_reducible assumption | with_reducible refine Below.on ?_ _ | with_reducible refine Below.al ?_ _ | with_reducible refine Below.drew ?_ | with_reducible refine Below.st ?_ (by first | (first | with_reducible assumption | (simp only [World.size_setCell, World.size_alloc, World.size_drew]; first | with_reducible assumption | omega)) | (have := x5.below.size; omega)) _)
  clear e5 r10 r11 r12 r13 r14 r15 r16 r17 r18 r19 r20 r21 r22 r23 r24 r25 r26 r27 r28 r29 r30 r31 r32 r33 r34 r35 r36 r37 r38 r39 r40 r41 r42 r00 r01 r02 r03 bely
  obtain ⟨⟨mn, ms', ml, mh, ⟨mln, mli, mls⟩, ⟨mhn, mhi, mhs⟩⟩, hMA⟩ : ∃ b, meetF ty ⟨an, as', al, ah, ⟨ln, l, ls⟩, ⟨hn, h, hs⟩⟩ ⟨cn, cs, cl, ch, ⟨lp, o, os⟩, ⟨rn, r, rs⟩⟩ = b := ⟨_, rfl⟩
  obtain ⟨⟨kn, ks', kl, kh, ⟨kln, kli, kls⟩, ⟨khn, khi, khs⟩⟩, hMB⟩ : ∃ b, meetF ty ⟨bn, bs, bl, bh, ⟨lm, m, ms⟩, ⟨gn, g, gs⟩⟩ ⟨cn, cs, cl, ch, ⟨lp, o, os⟩, ⟨rn, r, rs⟩⟩ = b := ⟨_, rfl⟩
  obtain ⟨eA, hA⟩ : ∃ c, eqB ⟨mn, ms', ml, mh, ⟨mln, mli, mls⟩, ⟨mhn, mhi, mhs⟩⟩ ⟨an, as', al, ah, ⟨ln, l, ls⟩, ⟨hn, h, hs⟩⟩ = c := ⟨_, rfl⟩
  obtain ⟨eB, hB⟩ : ∃ c, eqB ⟨kn, ks', kl, kh, ⟨kln, kli, kls⟩, ⟨khn, khi, khs⟩⟩ ⟨bn, bs, bl, bh, ⟨lm, m, ms⟩, ⟨gn, g, gs⟩⟩ = c := ⟨_, rfl⟩
  cases eA
  · clear C0 C1 C2 hJ
    refine wp_region_ext (by kernel_rfl) (by kernel_rfl) ?_
    repeat (go_big_quiet_step ((first | (go_at_call 15; exact Calls.ext (awake_any _)) | (go_at_call 22; exact Calls.ext (meet_eq (by with_reducible assumption))) | (go_at_call 23; exact Calls.ext (join_eq (by with_reducible assumption))) | (go_at_call 18; exact Calls.ext (has_eq (by with_reducible assumption))))))
    refine wpQuiet_nil ?_
    rintro _ ⟨y6, rfl⟩
    go_wp2_with (go_at_call 15; refine (awake_any _).mono ?_; rintro e w9 ⟨rfl, hb9⟩; obtain ⟨x9, rfl⟩ := Ext.of hb9)
    exact bodyPost_ret (v := .bool true) (by simp [results, Try.results6, go_sem, *]) rfl (⟨rfl, by repeat (first | with_reducible assumption | with_reducible refine Below.on ?_ _ | with_reducible refine Below.drew ?_)⟩)
  cases eB
  · clear C0 C1 C2 hJ
    refine wp_region_ext (by kernel_rfl) (by kernel_rfl) ?_
    repeat (go_big_quiet_step ((first | (go_at_call 15; exact Calls.ext (awake_any _)) | (go_at_call 22; exact Calls.ext (meet_eq (by with_reducible assumption))) | (go_at_call 23; exact Calls.ext (join_eq (by with_reducible assumption))) | (go_at_call 18; exact Calls.ext (has_eq (by with_reducible assumption))))))
    refine wpQuiet_nil ?_
    rintro _ ⟨y6, rfl⟩
    go_wp2_with (go_at_call 15; refine (awake_any _).mono ?_; rintro e w9 ⟨rfl, hb9⟩; obtain ⟨x9, rfl⟩ := Ext.of hb9)
    exact bodyPost_ret (v := .bool true) (by simp [results, Try.results6, go_sem, *]) rfl (⟨rfl, by repeat (first | with_reducible assumption | with_reducible refine Below.on ?_ _ | with_reducible refine Below.drew ?_)⟩)
  have hJD := join_least C0.out C1.out C2.out (hMA.trans ((eqB_iff _ _).1 hA)) (hMB.trans ((eqB_iff _ _).1 hB))
  have hJC := join_check C0.out C1.out
  rw [hJ] at hJD hJC
  obtain ⟨p, hp⟩ : ∃ p, touchF ty ⟨jn, js', jl, jh, ⟨jln, jli, jls⟩, ⟨jhn, jhi, jhs⟩⟩ ⟨xn, xi, xv⟩ ⟨xn, xi, xv⟩ = p := ⟨_, rfl⟩
  obtain ⟨q, hq⟩ : ∃ q, touchF ty ⟨cn, cs, cl, ch, ⟨lp, o, os⟩, ⟨rn, r, rs⟩⟩ ⟨xn, xi, xv⟩ ⟨xn, xi, xv⟩ = q := ⟨_, rfl⟩
  have hpq : p = (p && q) := by have := meet_has hJC C2.out ⟨xn, xi, xv⟩; rw [hJD, hp, hq] at this; exact this
  have hEJ : eqB ⟨jn, js', jl, jh, ⟨jln, jli, jls⟩, ⟨jhn, jhi, jhs⟩⟩ ⟨jn, js', jl, jh, ⟨jln, jli, jls⟩, ⟨jhn, jhi, jhs⟩⟩ = true := (eqB_iff _ _).2 rfl
  clear C0 C1 C2 hJ hJC
  refine wp_region_ext (by kernel_rfl) (by kernel_rfl) ?_
  repeat (go_big_quiet_step ((first | (go_at_call 15; exact Calls.ext (awake_any _)) | (go_at_call 22; exact Calls.ext (meet_eq (by with_reducible assumption))) | (go_at_call 23; exact Calls.ext (join_eq (by with_reducible assumption))) | (go_at_call 18; exact Calls.ext (has_eq (by with_reducible assumption))))))
  refine wpQuiet_nil ?_
  rintro _ ⟨y6, rfl⟩
  have u0 := y6.lt t0
  have u1 := y6.lt t1
  have u2 := y6.lt t2
  have u3 := y6.lt t3
  have u4 := y6.lt t4
  have u5 := y6.lt t5
  go_upto_region 6 with fail
  cases p
  · clear hpq
    refine wp_region_ext (by kernel_rfl) (by kernel_rfl) ?_
    repeat (go_big_quiet_step ((first | (go_at_call 15; exact Calls.ext (awake_any _)) | (go_at_call 22; exact Calls.ext (meet_eq (by with_reducible assumption))) | (go_at_call 23; exact Calls.ext (join_eq (by with_reducible assumption))) | (go_at_call 18; exact Calls.ext (has_eq (by with_reducible assumption))))))
    refine wpQuiet_nil ?_
    rintro _ ⟨y7, rfl⟩
    go_wp2
    exact bodyPost_ret (v := .bool true) (by simp [results, Try.results6, go_sem, *]) rfl (⟨rfl, by repeat (first | with_reducible assumption | with_reducible refine Below.on ?_ _ | with_reducible refine Below.drew ?_)⟩)
  · obtain rfl : q = true := by simpa using hpq.symm
    clear hpq
    refine wp_region_ext (by kernel_rfl) (by kernel_rfl) ?_
    repeat (go_big_quiet_step ((first | (go_at_call 15; exact Calls.ext (awake_any _)) | (go_at_call 22; exact Calls.ext (meet_eq (by with_reducible assumption))) | (go_at_call 23; exact Calls.ext (join_eq (by with_reducible assumption))) | (go_at_call 18; exact Calls.ext (has_eq (by with_reducible assumption))))))
    refine wpQuiet_nil ?_
    rintro _ ⟨y7, rfl⟩
    go_wp2
    exact bodyPost_ret (v := .bool true) (by simp [results, Try.results6, go_sem, *]) rfl (⟨rfl, by repeat (first | with_reducible assumption | with_reducible refine Below.on ?_ _ | with_reducible refine Below.drew ?_)⟩)
set_option maxRecDepth 100000 in
theorem intervalJoinIsLeast_lifted (os : Os) (started : os.Started) (H : Type) (enc : TypeId × Value → H) :
    ReturnsInHanded {} Try.checked os 6 .any (Rows.intervalJoinIsLeastSpec.pre6 enc Try.prog Try.f6 Rows.intervalJoinIsLeastRow.domain false) (Rows.intervalJoinIsLeastSpec.post enc Try.prog Try.f6 false true false false) := by
  refine lifted_of_walk (C := Try.checked) (tb := 4) own started (by kernel_rfl) Try.func6
    (ChangeSpec.witness6 (enc := enc) (C := Try.checked) false ⟨#[], #[.int .i64 0, .slice none 0 0, .slice none 0 0, .slice none 0 0, .slice none 0 0], []⟩ 8 (by kernel_rfl) (by kernel_rfl) (by kernel_rfl) (by kernel_rfl))
    laid (params_ok (by kernel_rfl)) (by kernel_rfl) Try.underlying4 rfl
    (fun ds hds => by match ds, hds with | [d0, d1, d2, d3, d4], _ => exact ⟨rfl, rfl, rfl⟩) ?_
  intro W base args ds ps hval0 hA0
  have hval : ∀ (j : Nat) t v, Try.f6.params[j]? = some t → args[j]? = some v → Value.okWide Try.prog W .any base t v := hval0
  have hA : DataW.TrodAll enc Try.prog W 0 (fun _ => true) true Try.f6.params.toList args.toList ds ps := hA0
  rw [Try.params6] at hA hval
  obtain ⟨v0, vs0, d0, ds0, p0, q0, hargs, rfl, rfl, h0, r0⟩ := trodAll_cons hA
  obtain ⟨v1, vs1, d1, ds1, p1, q1, rfl, rfl, rfl, h1, r1⟩ := trodAll_cons r0
  obtain ⟨v2, vs2, d2, ds2, p2, q2, rfl, rfl, rfl, h2, r2⟩ := trodAll_cons r1
  obtain ⟨v3, vs3, d3, ds3, p3, q3, rfl, rfl, rfl, h3, r3⟩ := trodAll_cons r2
  obtain ⟨v4, vs4, d4, ds4, p4, q4, rfl, rfl, rfl, h4, r4⟩ := trodAll_cons r3
  obtain ⟨rfl, rfl, rfl⟩ := trodAll_nil r4
  obtain rfl : args = #[v0, v1, v2, v3, v4] := by cases args; simp_all
  obtain ⟨t, rfl, ht0⟩ := open_i64 Try.underlying3 (hval 0 _ v0 rfl rfl) h0
  obtain ⟨l0, y0⟩ := open_intsv Try.underlying26 Try.underlying3 cells3 (hval 1 _ v1 rfl rfl) h1
  obtain ⟨l1, y1⟩ := open_intsv Try.underlying26 Try.underlying3 cells3 (hval 2 _ v2 rfl rfl) h2
  obtain ⟨l2, y2⟩ := open_intsv Try.underlying26 Try.underlying3 cells3 (hval 3 _ v3 rfl rfl) h3
  obtain ⟨l3, y3⟩ := open_intsv Try.underlying26 Try.underlying3 cells3 (hval 4 _ v4 rfl rfl) h4
  exact the_walk _ _ _ _ _ _ _ _ _ _ y0 y1 y2 y3

theorem intervalJoinIsLeast_holds : Rows.IntervalJoinIsLeastSaid :=
  OpenClaim.holds_of_wide 6 Try.f6 rfl rfl rfl rfl rfl rfl rfl ⟨rfl, rfl, rfl, rfl, rfl⟩ rfl rfl rfl rfl rfl (by kernel_rfl) Try.func6 (by kernel_rfl)
    (of_decide_eq_true (by kernel_rfl)) (by unfold Func.isWrapper; first | (rw [if_pos (by decide +kernel)]; kernel_rfl) | (rw [if_neg (by decide +kernel)]; exact ⟨rfl, rfl⟩))
    (fun os started H enc _ => intervalJoinIsLeast_lifted os started H enc)
#print axioms intervalJoinIsLeast_holds

end Go.Proofs.Ytjojnakgadfgmaa
