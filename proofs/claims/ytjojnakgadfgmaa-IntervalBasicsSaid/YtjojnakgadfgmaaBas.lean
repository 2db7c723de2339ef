/-
  INTERVALBASICS: the walk and the statement. Conditions: none.
-/
import Derived.Test.YtjojnakgadfgmaaInt4
import Derived.Test.YtjojnakgadfgmaaIntA
import Derived.Test.YtjojnakgadfgmaaBop
set_option linter.unusedVariables false
set_option linter.unusedSimpArgs false
namespace Go.Proofs.Ytjojnakgadfgmaa
open Go.RowKit Go.ChangeShapes Go.WideShapes Go.ChangeAt
theorem open_intsv {H : Type} {enc : TypeId × Value → H} {P : Program} {w : World} {r : Reach} {b0 : Nat} {t e : TypeId} {v : Value} {d : DataW H} {p : List MemPlace} (ht : P.underlying t = some (.slice e)) (he : P.underlying e = some (.int .i64)) (hc : P.cellsOf e = 1)
    (hv : Value.okWide P w r b0 t v) (h : DataW.Trod enc P w 0 (fun _ => true) true t v d p) : ∃ zs, IntsAt w w.heap.size v zs := by
  obtain ⟨a, l, c, rfl⟩ := okWide_slice ht hv
  obtain ⟨fuel, hf⟩ := h
  rcases open_ints ht he hc hf with ⟨hcs, _⟩ | ⟨ad, l', c', zs, hcs, _, hl, hm, hz, _, hcell, hw⟩
  · simp [Value.cells] at hcs
    obtain ⟨rfl, rfl, rfl⟩ := hcs
    exact ⟨[], by simp, by simp, .inl ⟨rfl, _, _, rfl⟩⟩
  · simp [Value.cells] at hcs
    obtain ⟨rfl, rfl, rfl⟩ := hcs
    simp at hz
    have hlen : (zs.take l).length = l := by simp; omega
    refine ⟨zs.take l, fun z hz' => ?_, ?_, ?_⟩
    · have := hw z (List.mem_of_mem_take hz')
      simp [Lit.wf, IntKind.min, IntKind.max, IntKind.signed, IntKind.bits] at this
      unfold isI; omega
    · rw [hlen]; unfold maxLen at hm; omega
    · by_cases h0 : l = 0
      · subst h0; exact .inl ⟨by simp, _, _, rfl⟩
      · obtain ⟨b, o, s⟩ := ad
        have c0 := hcell 0 (by omega)
        have hs : s = none := by
          cases s with
          | none => rfl
          | some s => exfalso; simp only [World.cell?, Addr.add] at c0; split at c0 <;> simp at c0
        subst hs
        refine .inr ⟨b, o, c, by rw [hlen], ?_, fun j hj => ?_⟩
        · rcases Nat.lt_or_ge b w.heap.size with h1 | h1
          · exact h1
          · have : w.heap[b]? = none := Array.getElem?_eq_none h1
            simp [World.cell?, Addr.add, this] at c0
        · have := hcell j (by omega)
          rw [hlen] at hj
          have e : (zs.take l).getD j 0 = zs.getD j 0 := by simp [List.getD_eq_getElem?_getD, List.getElem?_take, hj]
          rw [e]
          by_cases hj0 : j = 0 <;> simpa [Addr.add, hj0] using this
theorem bounds_eq {lv : Value} {zs : List Int} {n1 : ByteArray} {ty sc : Int} {nu : Bool} {w : World} {an as' al ah ln : Bool} {l : Int} {ls : ByteArray} {hn : Bool} {h : Int} {hs : ByteArray} (hb : boundsF ty zs = ⟨an, as', al, ah, ⟨ln, l, ls⟩, ⟨hn, h, hs⟩⟩) (hi : IntsAt w w.heap.size lv zs) :
    Calls Try.prog 12 #[.agg #[.string n1, .int .i64 ty, .int .i64 sc, .bool nu], lv] w fun e w' => e = .returned (.agg #[.bool an, .bool as', .bool al, .bool ah, .bool ln, .int .i64 l, .string ls, .bool hn, .int .i64 h, .string hs]) ∧ Below w.heap.size w w' := by
  have := bounds_any lv zs n1 ty sc nu w hi
  rw [hb] at this
  exact this
theorem allocBnd : AllocOk Try.prog 25 #[.bool false, .bool false, .bool false, .bool false, .bool false, .int .i64 0, .string ⟨#[]⟩, .bool false, .int .i64 0, .string ⟨#[]⟩] := by
  intro ρ o w h; obtain ⟨dst, op, type, pos, after, guard⟩ := o; dsimp only at h; subst h; go_simp
theorem own : ownKnob Try.prog.godebug = none := by kernel_rfl
theorem laid : laidOutB Try.prog = true := by kernel_rfl
theorem cells3 : Try.prog.cellsOf 3 = 1 := by kernel_rfl
theorem captureE {P : Program} {c : Code} {Q : Exit → Act → World → Prop} {a : Act} {W : World} (h : ∀ y : Ext W, y.it = W → c.wp P Q a y.it) : c.wp P Q a W := h ⟨W, Below.refl _ _⟩ rfl
set_option maxRecDepth 100000 in
set_option maxHeartbeats 16000000 in
theorem basics_walk (tt : Int) (cn cs cl ch lp : Bool) (o : Int) (os : ByteArray) (rn : Bool) (r : Int) (rs : ByteArray) (pn : Bool) (pi : Int) (ps : ByteArray) (qn : Bool) (qi : Int) (qs : ByteArray) (t : Int) (vl vm vn : Value) (zl zm zn : List Int) (w : World) (h0 : IntsAt w w.heap.size vl zl) (h1 : IntsAt w w.heap.size vm zm) (h2 : IntsAt w w.heap.size vn zn) :
    Calls Try.prog 3 #[.int .i64 tt, .agg #[.bool cn, .bool cs, .bool cl, .bool ch, .bool lp, .int .i64 o, .string os, .bool rn, .int .i64 r, .string rs], .agg #[.bool pn, .int .i64 pi, .string ps], .agg #[.bool qn, .int .i64 qi, .string qs], .int .i64 t, vl, vm, vn] w fun e w' => e = .returned (.bool true) ∧ Below w.heap.size w w' := by
  have H := Lib.hid (And.intro h0 (And.intro h1 h2))
  clear h0 h1 h2
  go_enter Try.func3, Try.ntmps3
  go_upto_region 2 with (go_at_call 11; refine (column_any _ _).mono ?_; rintro e w1 ⟨rfl, hb1⟩; obtain ⟨x1, rfl⟩ := Ext.of hb1)
  obtain ⟨h0, h1, h2⟩ := H.out
  generalize hty : 1 + pickI t 5 = ty
  obtain ⟨⟨an, as', al, ah, ⟨ln, l, ls⟩, ⟨hn, h, hs⟩⟩, hB0⟩ : ∃ b, boundsF ty zl = b := ⟨_, rfl⟩
  obtain ⟨⟨⟨xn, xi, xs⟩, rx⟩, hX⟩ : ∃ b, valF ty true zm = b := ⟨_, rfl⟩
  obtain ⟨⟨⟨yn, yi, ys⟩, ry⟩, hY⟩ : ∃ b, valF ty true zn = b := ⟨_, rfl⟩
  refine captureE ?_
  intro y1 e1
  have bel1 : Below w.heap.size w y1.it := by rw [e1]; exact (by repeat (first | with_reducible exact Below.refl _ _ | with_reducible assumption | with_reducible refine Below.al ?_ _ | with_reducible refine Below.on ?_ _ | with_reducible refine Below.st ?_ (by first | assumption | (simp; done) | (simp; omega)) _ | with_reducible refine Below.drew ?_))
  have hcw : w.heap.size + 1 + 1 < x1.it.heap.size := x1.lt (by simp)
  have hcw1 : w.heap.size + 1 < x1.it.heap.size := by omega
  have hcw0 : w.heap.size < x1.it.heap.size := by omega
  have nekr : w.heap.size ≠ x1.it.heap.size := by omega
  have nekp : w.heap.size + 1 ≠ x1.it.heap.size := by omega
  have nekq : w.heap.size + 1 + 1 ≠ x1.it.heap.size := by omega
  have kr0 : y1.it.cell? ⟨w.heap.size, 0, none⟩ = some (.bool cn) := by simp (maxDischargeDepth := 9) [go_sem, *]
  have kr1 : y1.it.cell? ⟨w.heap.size, 1, none⟩ = some (.bool cs) := by simp (maxDischargeDepth := 9) [go_sem, *]
  have kr2 : y1.it.cell? ⟨w.heap.size, 2, none⟩ = some (.bool cl) := by simp (maxDischargeDepth := 9) [go_sem, *]
  have kr3 : y1.it.cell? ⟨w.heap.size, 3, none⟩ = some (.bool ch) := by simp (maxDischargeDepth := 9) [go_sem, *]
  have kr4 : y1.it.cell? ⟨w.heap.size, 4, none⟩ = some (.bool lp) := by simp (maxDischargeDepth := 9) [go_sem, *]
  have kr5 : y1.it.cell? ⟨w.heap.size, 5, none⟩ = some (.int .i64 o) := by simp (maxDischargeDepth := 9) [go_sem, *]
  have kr6 : y1.it.cell? ⟨w.heap.size, 6, none⟩ = some (.string os) := by simp (maxDischargeDepth := 9) [go_sem, *]
  have kr7 : y1.it.cell? ⟨w.heap.size, 7, none⟩ = some (.bool rn) := by simp (maxDischargeDepth := 9) [go_sem, *]
  have kr8 : y1.it.cell? ⟨w.heap.size, 8, none⟩ = some (.int .i64 r) := by simp (maxDischargeDepth := 9) [go_sem, *]
  have kr9 : y1.it.cell? ⟨w.heap.size, 9, none⟩ = some (.string rs) := by simp (maxDischargeDepth := 9) [go_sem, *]
  have kp0 : y1.it.cell? ⟨w.heap.size + 1, 0, none⟩ = some (.bool pn) := by simp (maxDischargeDepth := 9) [go_sem, *]
  have kp1 : y1.it.cell? ⟨w.heap.size + 1, 1, none⟩ = some (.int .i64 pi) := by simp (maxDischargeDepth := 9) [go_sem, *]
  have kp2 : y1.it.cell? ⟨w.heap.size + 1, 2, none⟩ = some (.string ps) := by simp (maxDischargeDepth := 9) [go_sem, *]
  have kq0 : y1.it.cell? ⟨w.heap.size + 1 + 1, 0, none⟩ = some (.bool qn) := by simp (maxDischargeDepth := 9) [go_sem, *]
  have kq1 : y1.it.cell? ⟨w.heap.size + 1 + 1, 1, none⟩ = some (.int .i64 qi) := by simp (maxDischargeDepth := 9) [go_sem, *]
  have kq2 : y1.it.cell? ⟨w.heap.size + 1 + 1, 2, none⟩ = some (.string qs) := by simp (maxDischargeDepth := 9) [go_sem, *]
  have k00 : y1.it.cell? ⟨x1.it.heap.size, 0, none⟩ = some (.string ⟨#[120]⟩) := by simp (maxDischargeDepth := 9) [go_sem, *]
  have k01 : y1.it.cell? ⟨x1.it.heap.size, 1, none⟩ = some (.int .i64 ty) := by simp (maxDischargeDepth := 9) [go_sem, *]
  have k02 : y1.it.cell? ⟨x1.it.heap.size, 2, none⟩ = some (.int .i64 0) := by simp (maxDischargeDepth := 9) [go_sem, *]
  have k03 : y1.it.cell? ⟨x1.it.heap.size, 3, none⟩ = some (.bool true) := by simp (maxDischargeDepth := 9) [go_sem, *]
  have z0 : w.heap.size < y1.it.heap.size := by rw [e1]; (first | with_reducible assumption | (simp only [World.size_setCell, World.size_alloc, World.size_drew]; first | with_reducible assumption | omega))
  have z1 : w.heap.size + 1 < y1.it.heap.size := by rw [e1]; (first | with_reducible assumption | (simp only [World.size_setCell, World.size_alloc, World.size_drew]; first | with_reducible assumption | omega))
  have z2 : w.heap.size + 1 + 1 < y1.it.heap.size := by rw [e1]; (first | with_reducible assumption | (simp only [World.size_setCell, World.size_alloc, World.size_drew]; first | with_reducible assumption | omega))
  have z3 : x1.it.heap.size < y1.it.heap.size := by rw [e1]; (first | with_reducible assumption | (simp only [World.size_setCell, World.size_alloc, World.size_drew]; first | with_reducible assumption | omega))
  clear e1
  have up : ∀ (v : Value) (zs : List Int), IntsAt w w.heap.size v zs → IntsAt y1.it y1.it.heap.size v zs := fun v zs h => (h.to fun k hk => bel1.block k hk).mono bel1.size
  have H0 := Lib.hid (And.intro hB0 (up _ _ h0))
  have H1 := Lib.hid (And.intro hX (up _ _ h1))
  have H2 := Lib.hid (And.intro hY (up _ _ h2))
  have C0 : checkF ty ⟨an, as', al, ah, ⟨ln, l, ls⟩, ⟨hn, h, hs⟩⟩ = true := hB0 ▸ boundsF_check ty zl
  clear up h0 h1 h2 hB0 hX hY H hb1 hty
  refine wp_region_float 12 [none, none, none, none, none, none, none, none, none, some (18, 25, #[.bool false, .bool false, .bool false, .bool false, .bool false, .int .i64 0, .string ⟨#[]⟩, .bool false, .int .i64 0, .string ⟨#[]⟩]), some (19, 23, #[.bool false, .int .i64 0, .string ⟨#[]⟩]), some (20, 23, #[.bool false, .int .i64 0, .string ⟨#[]⟩])] (by kernel_rfl) (by kernel_rfl) (by kernel_rfl) ⟨allocBnd, allocVal, allocVal, trivial⟩ ?_
  dsimp only [ghosts, ghost, List.take, List.drop]
  repeat (refine wpE_step (fun K hK => ?_); go_simp; first | (refine hK _ ?_; clear hK K) | (apply Exists.intro; refine ⟨fun _ => ?_, hK _ ?_⟩; (first | (go_at_call 12; exact bounds_eq H0.out.1 (H0.out.2.ext _)) | (go_at_call 13; exact valueOf_eq H1.out.1 (H1.out.2.ext _)) | (go_at_call 13; exact valueOf_eq H2.out.1 (H2.out.2.ext _))); clear hK K))
  refine wpE_nil ?_
  intro x
  dsimp only [floated]
  intro b1 q1 _ g1 b2 q2 d2 g2 b3 q3 d3 g3
  have e1 := (Array.getElem?_eq_some_iff.1 g1).1
  have e2 := (Array.getElem?_eq_some_iff.1 g2).1
  have e3 := (Array.getElem?_eq_some_iff.1 g3).1
  have n21 : b2 ≠ b1 := d2 b1 (by simp)
  have n12 := n21.symm
  have n31 : b3 ≠ b1 := d3 b1 (by simp)
  have n13 := n31.symm
  have n32 : b3 ≠ b2 := d3 b2 (by simp)
  have n23 := n32.symm
  have m10 : b1 ≠ w.heap.size := by omega
  have m11 : b1 ≠ w.heap.size + 1 := by omega
  have m12 : b1 ≠ w.heap.size + 1 + 1 := by omega
  have m13 : b1 ≠ x1.it.heap.size := by omega
  have o1 : w.heap.size ≤ b1 := by omega
  have m20 : b2 ≠ w.heap.size := by omega
  have m21 : b2 ≠ w.heap.size + 1 := by omega
  have m22 : b2 ≠ w.heap.size + 1 + 1 := by omega
  have m23 : b2 ≠ x1.it.heap.size := by omega
  have o2 : w.heap.size ≤ b2 := by omega
  have m30 : b3 ≠ w.heap.size := by omega
  have m31 : b3 ≠ w.heap.size + 1 := by omega
  have m32 : b3 ≠ w.heap.size + 1 + 1 := by omega
  have m33 : b3 ≠ x1.it.heap.size := by omega
  have o3 : w.heap.size ≤ b3 := by omega
  have zx0 : w.heap.size < x.it.heap.size := x.lt z0
  have zx1 : w.heap.size + 1 < x.it.heap.size := x.lt z1
  have zx2 : w.heap.size + 1 + 1 < x.it.heap.size := x.lt z2
  have zx3 : x1.it.heap.size < x.it.heap.size := x.lt z3
  have belx : Below w.heap.size w x.it := Below.on bel1 x
  have f1 := fun j => frozen_of_row x.it b1 j _ _ g1
  have f2 := fun j => frozen_of_row x.it b2 j _ _ g2
  have f3 := fun j => frozen_of_row x.it b3 j _ _ g3
  have k10 : x.it.cell? ⟨b1, 0, none⟩ = some (.bool false) := by have := cell_of_row x.it b1 0 _ _ _ g1; simpa using this
  have k11 : x.it.cell? ⟨b1, 1, none⟩ = some (.bool false) := by have := cell_of_row x.it b1 1 _ _ _ g1; simpa using this
  have k12 : x.it.cell? ⟨b1, 2, none⟩ = some (.bool false) := by have := cell_of_row x.it b1 2 _ _ _ g1; simpa using this
  have k13 : x.it.cell? ⟨b1, 3, none⟩ = some (.bool false) := by have := cell_of_row x.it b1 3 _ _ _ g1; simpa using this
  have k14 : x.it.cell? ⟨b1, 4, none⟩ = some (.bool false) := by have := cell_of_row x.it b1 4 _ _ _ g1; simpa using this
  have k15 : x.it.cell? ⟨b1, 5, none⟩ = some (.int .i64 0) := by have := cell_of_row x.it b1 5 _ _ _ g1; simpa using this
  have k16 : x.it.cell? ⟨b1, 6, none⟩ = some (.string ⟨#[]⟩) := by have := cell_of_row x.it b1 6 _ _ _ g1; simpa using this
  have k17 : x.it.cell? ⟨b1, 7, none⟩ = some (.bool false) := by have := cell_of_row x.it b1 7 _ _ _ g1; simpa using this
  have k18 : x.it.cell? ⟨b1, 8, none⟩ = some (.int .i64 0) := by have := cell_of_row x.it b1 8 _ _ _ g1; simpa using this
  have k19 : x.it.cell? ⟨b1, 9, none⟩ = some (.string ⟨#[]⟩) := by have := cell_of_row x.it b1 9 _ _ _ g1; simpa using this
  have k20 : x.it.cell? ⟨b2, 0, none⟩ = some (.bool false) := by have := cell_of_row x.it b2 0 _ _ _ g2; simpa using this
  have k21 : x.it.cell? ⟨b2, 1, none⟩ = some (.int .i64 0) := by have := cell_of_row x.it b2 1 _ _ _ g2; simpa using this
  have k22 : x.it.cell? ⟨b2, 2, none⟩ = some (.string ⟨#[]⟩) := by have := cell_of_row x.it b2 2 _ _ _ g2; simpa using this
  have k30 : x.it.cell? ⟨b3, 0, none⟩ = some (.bool false) := by have := cell_of_row x.it b3 0 _ _ _ g3; simpa using this
  have k31 : x.it.cell? ⟨b3, 1, none⟩ = some (.int .i64 0) := by have := cell_of_row x.it b3 1 _ _ _ g3; simpa using this
  have k32 : x.it.cell? ⟨b3, 2, none⟩ = some (.string ⟨#[]⟩) := by have := cell_of_row x.it b3 2 _ _ _ g3; simpa using this
  clear g1 g2 g3 d2 d3 H0 H1 H2
  go_upto_region 3 with fail
  refine captureE ?_
  intro y3 e3'
  have ry3kr0 : y3.it.cell? ⟨w.heap.size, 0, none⟩ = some (.bool cn) := by simp (maxDischargeDepth := 9) [go_sem, *]
  have ry3kr1 : y3.it.cell? ⟨w.heap.size, 1, none⟩ = some (.bool cs) := by simp (maxDischargeDepth := 9) [go_sem, *]
  have ry3kr2 : y3.it.cell? ⟨w.heap.size, 2, none⟩ = some (.bool cl) := by simp (maxDischargeDepth := 9) [go_sem, *]
  have ry3kr3 : y3.it.cell? ⟨w.heap.size, 3, none⟩ = some (.bool ch) := by simp (maxDischargeDepth := 9) [go_sem, *]
  have ry3kr4 : y3.it.cell? ⟨w.heap.size, 4, none⟩ = some (.bool lp) := by simp (maxDischargeDepth := 9) [go_sem, *]
  have ry3kr5 : y3.it.cell? ⟨w.heap.size, 5, none⟩ = some (.int .i64 o) := by simp (maxDischargeDepth := 9) [go_sem, *]
  have ry3kr6 : y3.it.cell? ⟨w.heap.size, 6, none⟩ = some (.string os) := by simp (maxDischargeDepth := 9) [go_sem, *]
  have ry3kr7 : y3.it.cell? ⟨w.heap.size, 7, none⟩ = some (.bool rn) := by simp (maxDischargeDepth := 9) [go_sem, *]
  have ry3kr8 : y3.it.cell? ⟨w.heap.size, 8, none⟩ = some (.int .i64 r) := by simp (maxDischargeDepth := 9) [go_sem, *]
  have ry3kr9 : y3.it.cell? ⟨w.heap.size, 9, none⟩ = some (.string rs) := by simp (maxDischargeDepth := 9) [go_sem, *]
  have ry3kp0 : y3.it.cell? ⟨w.heap.size + 1, 0, none⟩ = some (.bool pn) := by simp (maxDischargeDepth := 9) [go_sem, *]
  have ry3kp1 : y3.it.cell? ⟨w.heap.size + 1, 1, none⟩ = some (.int .i64 pi) := by simp (maxDischargeDepth := 9) [go_sem, *]
  have ry3kp2 : y3.it.cell? ⟨w.heap.size + 1, 2, none⟩ = some (.string ps) := by simp (maxDischargeDepth := 9) [go_sem, *]
  have ry3kq0 : y3.it.cell? ⟨w.heap.size + 1 + 1, 0, none⟩ = some (.bool qn) := by simp (maxDischargeDepth := 9) [go_sem, *]
  have ry3kq1 : y3.it.cell? ⟨w.heap.size + 1 + 1, 1, none⟩ = some (.int .i64 qi) := by simp (maxDischargeDepth := 9) [go_sem, *]
  have ry3kq2 : y3.it.cell? ⟨w.heap.size + 1 + 1, 2, none⟩ = some (.string qs) := by simp (maxDischargeDepth := 9) [go_sem, *]
  have ry3k00 : y3.it.cell? ⟨x1.it.heap.size, 0, none⟩ = some (.string ⟨#[120]⟩) := by simp (maxDischargeDepth := 9) [go_sem, *]
  have ry3k01 : y3.it.cell? ⟨x1.it.heap.size, 1, none⟩ = some (.int .i64 ty) := by simp (maxDischargeDepth := 9) [go_sem, *]
  have ry3k02 : y3.it.cell? ⟨x1.it.heap.size, 2, none⟩ = some (.int .i64 0) := by simp (maxDischargeDepth := 9) [go_sem, *]
  have ry3k03 : y3.it.cell? ⟨x1.it.heap.size, 3, none⟩ = some (.bool true) := by simp (maxDischargeDepth := 9) [go_sem, *]
  have ry3k10 : y3.it.cell? ⟨b1, 0, none⟩ = some (.bool an) := by simp (maxDischargeDepth := 9) [go_sem, *]
  have ry3k11 : y3.it.cell? ⟨b1, 1, none⟩ = some (.bool as') := by simp (maxDischargeDepth := 9) [go_sem, *]
  have ry3k12 : y3.it.cell? ⟨b1, 2, none⟩ = some (.bool al) := by simp (maxDischargeDepth := 9) [go_sem, *]
  have ry3k13 : y3.it.cell? ⟨b1, 3, none⟩ = some (.bool ah) := by simp (maxDischargeDepth := 9) [go_sem, *]
  have ry3k14 : y3.it.cell? ⟨b1, 4, none⟩ = some (.bool ln) := by simp (maxDischargeDepth := 9) [go_sem, *]
  have ry3k15 : y3.it.cell? ⟨b1, 5, none⟩ = some (.int .i64 l) := by simp (maxDischargeDepth := 9) [go_sem, *]
  have ry3k16 : y3.it.cell? ⟨b1, 6, none⟩ = some (.string ls) := by simp (maxDischargeDepth := 9) [go_sem, *]
  have ry3k17 : y3.it.cell? ⟨b1, 7, none⟩ = some (.bool hn) := by simp (maxDischargeDepth := 9) [go_sem, *]
  have ry3k18 : y3.it.cell? ⟨b1, 8, none⟩ = some (.int .i64 h) := by simp (maxDischargeDepth := 9) [go_sem, *]
  have ry3k19 : y3.it.cell? ⟨b1, 9, none⟩ = some (.string hs) := by simp (maxDischargeDepth := 9) [go_sem, *]
  have ry3k20 : y3.it.cell? ⟨b2, 0, none⟩ = some (.bool xn) := by simp (maxDischargeDepth := 9) [go_sem, *]
  have ry3k21 : y3.it.cell? ⟨b2, 1, none⟩ = some (.int .i64 xi) := by simp (maxDischargeDepth := 9) [go_sem, *]
  have ry3k22 : y3.it.cell? ⟨b2, 2, none⟩ = some (.string xs) := by simp (maxDischargeDepth := 9) [go_sem, *]
  have ry3k30 : y3.it.cell? ⟨b3, 0, none⟩ = some (.bool yn) := by simp (maxDischargeDepth := 9) [go_sem, *]
  have ry3k31 : y3.it.cell? ⟨b3, 1, none⟩ = some (.int .i64 yi) := by simp (maxDischargeDepth := 9) [go_sem, *]
  have ry3k32 : y3.it.cell? ⟨b3, 2, none⟩ = some (.string ys) := by simp (maxDischargeDepth := 9) [go_sem, *]
  have fy3b2 : ∀ j, y3.it.frozen? ⟨b2, j, none⟩ = false := by intro j; simp [go_sem, *]
  have fy3b3 : ∀ j, y3.it.frozen? ⟨b3, j, none⟩ = false := by intro j; simp [go_sem, *]
  have sy30 : w.heap.size < y3.it.heap.size := by rw [e3']; (first | with_reducible assumption | (simp only [World.size_setCell, World.size_alloc, World.size_drew]; first | with_reducible assumption | omega))
  have sy31 : w.heap.size + 1 < y3.it.heap.size := by rw [e3']; (first | with_reducible assumption | (simp only [World.size_setCell, World.size_alloc, World.size_drew]; first | with_reducible assumption | omega))
  have sy32 : w.heap.size + 1 + 1 < y3.it.heap.size := by rw [e3']; (first | with_reducible assumption | (simp only [World.size_setCell, World.size_alloc, World.size_drew]; first | with_reducible assumption | omega))
  have sy33 : x1.it.heap.size < y3.it.heap.size := by rw [e3']; (first | with_reducible assumption | (simp only [World.size_setCell, World.size_alloc, World.size_drew]; first | with_reducible assumption | omega))
  have sy34 : b1 < y3.it.heap.size := by rw [e3']; (first | with_reducible assumption | (simp only [World.size_setCell, World.size_alloc, World.size_drew]; first | with_reducible assumption | omega))
  have sy35 : b2 < y3.it.heap.size := by rw [e3']; (first | with_reducible assumption | (simp only [World.size_setCell, World.size_alloc, World.size_drew]; first | with_reducible assumption | omega))
  have sy36 : b3 < y3.it.heap.size := by rw [e3']; (first | with_reducible assumption | (simp only [World.size_setCell, World.size_alloc, World.size_drew]; first | with_reducible assumption | omega))
  have bely3 : Below w.heap.size w y3.it := by rw [e3']; repeat (first | with_reducible assumption | with_reducible refine Below.on ?_ _ | with_reducible refine Below.drew ?_ | with_reducible refine Below.st ?_ (by (first | with_reducible assumption | (simp only [World.size_setCell, World.size_alloc, World.size_drew]; first | with_reducible assumption | omega))) _)
  clear e3' kr0 kr1 kr2 kr3 kr4 kr5 kr6 kr7 kr8 kr9 kp0 kp1 kp2 kq0 kq1 kq2 k00 k01 k02 k03 k10 k11 k12 k13 k14 k15 k16 k17 k18 k19 k20 k21 k22 k30 k31 k32 belx f1 f2 f3
  by_cases hc : 0 < cmpV ty ⟨xn, xi, xs⟩ ⟨yn, yi, ys⟩
  · skip
    go_upto_region 4 with (go_at_call 14; refine (refCompare_any _ _ _ _ _ _ _ _).mono ?_; rintro e w5 ⟨rfl, hb5⟩; obtain ⟨x5, rfl⟩ := Ext.of hb5; have v0 := x5.lt sy30; have v1 := x5.lt sy31; have v2 := x5.lt sy32; have v3 := x5.lt sy33; have v4 := x5.lt sy34; have v5 := x5.lt sy35; have v6 := x5.lt sy36)
    go_upto_region 5 with fail
    refine captureE ?_
    intro y5 e5
    have ry5kr0 : y5.it.cell? ⟨w.heap.size, 0, none⟩ = some (.bool cn) := by simp (maxDischargeDepth := 9) [go_sem, *]
    have ry5kr1 : y5.it.cell? ⟨w.heap.size, 1, none⟩ = some (.bool cs) := by simp (maxDischargeDepth := 9) [go_sem, *]
    have ry5kr2 : y5.it.cell? ⟨w.heap.size, 2, none⟩ = some (.bool cl) := by simp (maxDischargeDepth := 9) [go_sem, *]
    have ry5kr3 : y5.it.cell? ⟨w.heap.size, 3, none⟩ = some (.bool ch) := by simp (maxDischargeDepth := 9) [go_sem, *]
    have ry5kr4 : y5.it.cell? ⟨w.heap.size, 4, none⟩ = some (.bool lp) := by simp (maxDischargeDepth := 9) [go_sem, *]
    have ry5kr5 : y5.it.cell? ⟨w.heap.size, 5, none⟩ = some (.int .i64 o) := by simp (maxDischargeDepth := 9) [go_sem, *]
    have ry5kr6 : y5.it.cell? ⟨w.heap.size, 6, none⟩ = some (.string os) := by simp (maxDischargeDepth := 9) [go_sem, *]
    have ry5kr7 : y5.it.cell? ⟨w.heap.size, 7, none⟩ = some (.bool rn) := by simp (maxDischargeDepth := 9) [go_sem, *]
    have ry5kr8 : y5.it.cell? ⟨w.heap.size, 8, none⟩ = some (.int .i64 r) := by simp (maxDischargeDepth := 9) [go_sem, *]
    have ry5kr9 : y5.it.cell? ⟨w.heap.size, 9, none⟩ = some (.string rs) := by simp (maxDischargeDepth := 9) [go_sem, *]
    have ry5kp0 : y5.it.cell? ⟨w.heap.size + 1, 0, none⟩ = some (.bool pn) := by simp (maxDischargeDepth := 9) [go_sem, *]
    have ry5kp1 : y5.it.cell? ⟨w.heap.size + 1, 1, none⟩ = some (.int .i64 pi) := by simp (maxDischargeDepth := 9) [go_sem, *]
    have ry5kp2 : y5.it.cell? ⟨w.heap.size + 1, 2, none⟩ = some (.string ps) := by simp (maxDischargeDepth := 9) [go_sem, *]
    have ry5kq0 : y5.it.cell? ⟨w.heap.size + 1 + 1, 0, none⟩ = some (.bool qn) := by simp (maxDischargeDepth := 9) [go_sem, *]
    have ry5kq1 : y5.it.cell? ⟨w.heap.size + 1 + 1, 1, none⟩ = some (.int .i64 qi) := by simp (maxDischargeDepth := 9) [go_sem, *]
    have ry5kq2 : y5.it.cell? ⟨w.heap.size + 1 + 1, 2, none⟩ = some (.string qs) := by simp (maxDischargeDepth := 9) [go_sem, *]
    have ry5k00 : y5.it.cell? ⟨x1.it.heap.size, 0, none⟩ = some (.string ⟨#[120]⟩) := by simp (maxDischargeDepth := 9) [go_sem, *]
    have ry5k01 : y5.it.cell? ⟨x1.it.heap.size, 1, none⟩ = some (.int .i64 ty) := by simp (maxDischargeDepth := 9) [go_sem, *]
    have ry5k02 : y5.it.cell? ⟨x1.it.heap.size, 2, none⟩ = some (.int .i64 0) := by simp (maxDischargeDepth := 9) [go_sem, *]
    have ry5k03 : y5.it.cell? ⟨x1.it.heap.size, 3, none⟩ = some (.bool true) := by simp (maxDischargeDepth := 9) [go_sem, *]
    have ry5k10 : y5.it.cell? ⟨b1, 0, none⟩ = some (.bool an) := by simp (maxDischargeDepth := 9) [go_sem, *]
    have ry5k11 : y5.it.cell? ⟨b1, 1, none⟩ = some (.bool as') := by simp (maxDischargeDepth := 9) [go_sem, *]
    have ry5k12 : y5.it.cell? ⟨b1, 2, none⟩ = some (.bool al) := by simp (maxDischargeDepth := 9) [go_sem, *]
    have ry5k13 : y5.it.cell? ⟨b1, 3, none⟩ = some (.bool ah) := by simp (maxDischargeDepth := 9) [go_sem, *]
    have ry5k14 : y5.it.cell? ⟨b1, 4, none⟩ = some (.bool ln) := by simp (maxDischargeDepth := 9) [go_sem, *]
    have ry5k15 : y5.it.cell? ⟨b1, 5, none⟩ = some (.int .i64 l) := by simp (maxDischargeDepth := 9) [go_sem, *]
    have ry5k16 : y5.it.cell? ⟨b1, 6, none⟩ = some (.string ls) := by simp (maxDischargeDepth := 9) [go_sem, *]
    have ry5k17 : y5.it.cell? ⟨b1, 7, none⟩ = some (.bool hn) := by simp (maxDischargeDepth := 9) [go_sem, *]
    have ry5k18 : y5.it.cell? ⟨b1, 8, none⟩ = some (.int .i64 h) := by simp (maxDischargeDepth := 9) [go_sem, *]
    have ry5k19 : y5.it.cell? ⟨b1, 9, none⟩ = some (.string hs) := by simp (maxDischargeDepth := 9) [go_sem, *]
    have ry5k20 : y5.it.cell? ⟨b2, 0, none⟩ = some (.bool yn) := by simp (maxDischargeDepth := 9) [go_sem, *]
    have ry5k21 : y5.it.cell? ⟨b2, 1, none⟩ = some (.int .i64 yi) := by simp (maxDischargeDepth := 9) [go_sem, *]
    have ry5k22 : y5.it.cell? ⟨b2, 2, none⟩ = some (.string ys) := by simp (maxDischargeDepth := 9) [go_sem, *]
    have ry5k30 : y5.it.cell? ⟨b3, 0, none⟩ = some (.bool xn) := by simp (maxDischargeDepth := 9) [go_sem, *]
    have ry5k31 : y5.it.cell? ⟨b3, 1, none⟩ = some (.int .i64 xi) := by simp (maxDischargeDepth := 9) [go_sem, *]
    have ry5k32 : y5.it.cell? ⟨b3, 2, none⟩ = some (.string xs) := by simp (maxDischargeDepth := 9) [go_sem, *]
    have fy5b2 : ∀ j, y5.it.frozen? ⟨b2, j, none⟩ = false := by intro j; simp [go_sem, *]
    have fy5b3 : ∀ j, y5.it.frozen? ⟨b3, j, none⟩ = false := by intro j; simp [go_sem, *]
    have sy50 : w.heap.size < y5.it.heap.size := by rw [e5]; (first | with_reducible assumption | (simp only [World.size_setCell, World.size_alloc, World.size_drew]; first | with_reducible assumption | omega))
    have sy51 : w.heap.size + 1 < y5.it.heap.size := by rw [e5]; (first | with_reducible assumption | (simp only [World.size_setCell, World.size_alloc, World.size_drew]; first | with_reducible assumption | omega))
    have sy52 : w.heap.size + 1 + 1 < y5.it.heap.size := by rw [e5]; (first | with_reducible assumption | (simp only [World.size_setCell, World.size_alloc, World.size_drew]; first | with_reducible assumption | omega))
    have sy53 : x1.it.heap.size < y5.it.heap.size := by rw [e5]; (first | with_reducible assumption | (simp only [World.size_setCell, World.size_alloc, World.size_drew]; first | with_reducible assumption | omega))
    have sy54 : b1 < y5.it.heap.size := by rw [e5]; (first | with_reducible assumption | (simp only [World.size_setCell, World.size_alloc, World.size_drew]; first | with_reducible assumption | omega))
    have sy55 : b2 < y5.it.heap.size := by rw [e5]; (first | with_reducible assumption | (simp only [World.size_setCell, World.size_alloc, World.size_drew]; first | with_reducible assumption | omega))
    have sy56 : b3 < y5.it.heap.size := by rw [e5]; (first | with_reducible assumption | (simp only [World.size_setCell, World.size_alloc, World.size_drew]; first | with_reducible assumption | omega))
    have bely5 : Below w.heap.size w y5.it := by rw [e5]; repeat (first | with_reducible assumption | with_reducible refine Below.on ?_ _ | with_reducible refine Below.drew ?_ | with_reducible refine Below.st ?_ (by (first | with_reducible assumption | (simp only [World.size_setCell, World.size_alloc, World.size_drew]; first | with_reducible assumption | omega))) _)
    clear e5 ry3kr0 ry3kr1 ry3kr2 ry3kr3 ry3kr4 ry3kr5 ry3kr6 ry3kr7 ry3kr8 ry3kr9 ry3kp0 ry3kp1 ry3kp2 ry3kq0 ry3kq1 ry3kq2 ry3k00 ry3k01 ry3k02 ry3k03 ry3k10 ry3k11 ry3k12 ry3k13 ry3k14 ry3k15 ry3k16 ry3k17 ry3k18 ry3k19 ry3k20 ry3k21 ry3k22 ry3k30 ry3k31 ry3k32
    refine wp_region_ext (by kernel_rfl) (by kernel_rfl) ?_
    dsimp only [List.append]
    repeat (go_big_quiet_step ((first | (go_at_call 15; exact Calls.ext (awake_any _)) | (go_at_call 16; exact Calls.ext (check_any _ _ _ _ _ _ _ _ _ _ _ _)) | (go_at_call 17; exact Calls.ext (refCheck_any _ _ _ _ _ _ _ _ _ _ _ _)) | (go_at_call 18; exact Calls.ext (has_any _ _ _ _ _ _ _ _ _ _ _ _ _ _ _)) | (go_at_call 19; exact Calls.ext (refHas_any _ _ _ _ _ _ _ _ _ _ _ _ _ _ _)) | (go_at_call 20; exact Calls.ext (touch_any _ _ _ _ _ _ _ _ _ _ _ _ _ _ _ _ _ _)) | (go_at_call 21; exact Calls.ext (refTouch_any _ _ _ _ _ _ _ _ _ _ _ _ _ _ _ _ _ _)))))
    refine wpQuiet_nil ?_
    rintro _ ⟨y7, rfl⟩
    go_wp2
    exact bodyPost_ret (v := .bool true) (by simp [results, Try.results3, go_sem, *]) rfl (⟨rfl, by repeat (first | with_reducible assumption | with_reducible refine Below.on ?_ _ | with_reducible refine Below.drew ?_)⟩)
  · skip
    go_upto_region 5 with (go_at_call 14; refine (refCompare_any _ _ _ _ _ _ _ _).mono ?_; rintro e w5 ⟨rfl, hb5⟩; obtain ⟨x5, rfl⟩ := Ext.of hb5; have v0 := x5.lt sy30; have v1 := x5.lt sy31; have v2 := x5.lt sy32; have v3 := x5.lt sy33; have v4 := x5.lt sy34; have v5 := x5.lt sy35; have v6 := x5.lt sy36)
    refine captureE ?_
    intro y5 e5
    have ry5kr0 : y5.it.cell? ⟨w.heap.size, 0, none⟩ = some (.bool cn) := by simp (maxDischargeDepth := 9) [go_sem, *]
    have ry5kr1 : y5.it.cell? ⟨w.heap.size, 1, none⟩ = some (.bool cs) := by simp (maxDischargeDepth := 9) [go_sem, *]
    have ry5kr2 : y5.it.cell? ⟨w.heap.size, 2, none⟩ = some (.bool cl) := by simp (maxDischargeDepth := 9) [go_sem, *]
    have ry5kr3 : y5.it.cell? ⟨w.heap.size, 3, none⟩ = some (.bool ch) := by simp (maxDischargeDepth := 9) [go_sem, *]
    have ry5kr4 : y5.it.cell? ⟨w.heap.size, 4, none⟩ = some (.bool lp) := by simp (maxDischargeDepth := 9) [go_sem, *]
    have ry5kr5 : y5.it.cell? ⟨w.heap.size, 5, none⟩ = some (.int .i64 o) := by simp (maxDischargeDepth := 9) [go_sem, *]
    have ry5kr6 : y5.it.cell? ⟨w.heap.size, 6, none⟩ = some (.string os) := by simp (maxDischargeDepth := 9) [go_sem, *]
    have ry5kr7 : y5.it.cell? ⟨w.heap.size, 7, none⟩ = some (.bool rn) := by simp (maxDischargeDepth := 9) [go_sem, *]
    have ry5kr8 : y5.it.cell? ⟨w.heap.size, 8, none⟩ = some (.int .i64 r) := by simp (maxDischargeDepth := 9) [go_sem, *]
    have ry5kr9 : y5.it.cell? ⟨w.heap.size, 9, none⟩ = some (.string rs) := by simp (maxDischargeDepth := 9) [go_sem, *]
    have ry5kp0 : y5.it.cell? ⟨w.heap.size + 1, 0, none⟩ = some (.bool pn) := by simp (maxDischargeDepth := 9) [go_sem, *]
    have ry5kp1 : y5.it.cell? ⟨w.heap.size + 1, 1, none⟩ = some (.int .i64 pi) := by simp (maxDischargeDepth := 9) [go_sem, *]
    have ry5kp2 : y5.it.cell? ⟨w.heap.size + 1, 2, none⟩ = some (.string ps) := by simp (maxDischargeDepth := 9) [go_sem, *]
    have ry5kq0 : y5.it.cell? ⟨w.heap.size + 1 + 1, 0, none⟩ = some (.bool qn) := by simp (maxDischargeDepth := 9) [go_sem, *]
    have ry5kq1 : y5.it.cell? ⟨w.heap.size + 1 + 1, 1, none⟩ = some (.int .i64 qi) := by simp (maxDischargeDepth := 9) [go_sem, *]
    have ry5kq2 : y5.it.cell? ⟨w.heap.size + 1 + 1, 2, none⟩ = some (.string qs) := by simp (maxDischargeDepth := 9) [go_sem, *]
    have ry5k00 : y5.it.cell? ⟨x1.it.heap.size, 0, none⟩ = some (.string ⟨#[120]⟩) := by simp (maxDischargeDepth := 9) [go_sem, *]
    have ry5k01 : y5.it.cell? ⟨x1.it.heap.size, 1, none⟩ = some (.int .i64 ty) := by simp (maxDischargeDepth := 9) [go_sem, *]
    have ry5k02 : y5.it.cell? ⟨x1.it.heap.size, 2, none⟩ = some (.int .i64 0) := by simp (maxDischargeDepth := 9) [go_sem, *]
    have ry5k03 : y5.it.cell? ⟨x1.it.heap.size, 3, none⟩ = some (.bool true) := by simp (maxDischargeDepth := 9) [go_sem, *]
    have ry5k10 : y5.it.cell? ⟨b1, 0, none⟩ = some (.bool an) := by simp (maxDischargeDepth := 9) [go_sem, *]
    have ry5k11 : y5.it.cell? ⟨b1, 1, none⟩ = some (.bool as') := by simp (maxDischargeDepth := 9) [go_sem, *]
    have ry5k12 : y5.it.cell? ⟨b1, 2, none⟩ = some (.bool al) := by simp (maxDischargeDepth := 9) [go_sem, *]
    have ry5k13 : y5.it.cell? ⟨b1, 3, none⟩ = some (.bool ah) := by simp (maxDischargeDepth := 9) [go_sem, *]
    have ry5k14 : y5.it.cell? ⟨b1, 4, none⟩ = some (.bool ln) := by simp (maxDischargeDepth := 9) [go_sem, *]
    have ry5k15 : y5.it.cell? ⟨b1, 5, none⟩ = some (.int .i64 l) := by simp (maxDischargeDepth := 9) [go_sem, *]
    have ry5k16 : y5.it.cell? ⟨b1, 6, none⟩ = some (.string ls) := by simp (maxDischargeDepth := 9) [go_sem, *]
    have ry5k17 : y5.it.cell? ⟨b1, 7, none⟩ = some (.bool hn) := by simp (maxDischargeDepth := 9) [go_sem, *]
    have ry5k18 : y5.it.cell? ⟨b1, 8, none⟩ = some (.int .i64 h) := by simp (maxDischargeDepth := 9) [go_sem, *]
    have ry5k19 : y5.it.cell? ⟨b1, 9, none⟩ = some (.string hs) := by simp (maxDischargeDepth := 9) [go_sem, *]
    have ry5k20 : y5.it.cell? ⟨b2, 0, none⟩ = some (.bool xn) := by simp (maxDischargeDepth := 9) [go_sem, *]
    have ry5k21 : y5.it.cell? ⟨b2, 1, none⟩ = some (.int .i64 xi) := by simp (maxDischargeDepth := 9) [go_sem, *]
    have ry5k22 : y5.it.cell? ⟨b2, 2, none⟩ = some (.string xs) := by simp (maxDischargeDepth := 9) [go_sem, *]
    have ry5k30 : y5.it.cell? ⟨b3, 0, none⟩ = some (.bool yn) := by simp (maxDischargeDepth := 9) [go_sem, *]
    have ry5k31 : y5.it.cell? ⟨b3, 1, none⟩ = some (.int .i64 yi) := by simp (maxDischargeDepth := 9) [go_sem, *]
    have ry5k32 : y5.it.cell? ⟨b3, 2, none⟩ = some (.string ys) := by simp (maxDischargeDepth := 9) [go_sem, *]
    have fy5b2 : ∀ j, y5.it.frozen? ⟨b2, j, none⟩ = false := by intro j; simp [go_sem, *]
    have fy5b3 : ∀ j, y5.it.frozen? ⟨b3, j, none⟩ = false := by intro j; simp [go_sem, *]
    have sy50 : w.heap.size < y5.it.heap.size := by rw [e5]; (first | with_reducible assumption | (simp only [World.size_setCell, World.size_alloc, World.size_drew]; first | with_reducible assumption | omega))
    have sy51 : w.heap.size + 1 < y5.it.heap.size := by rw [e5]; (first | with_reducible assumption | (simp only [World.size_setCell, World.size_alloc, World.size_drew]; first | with_reducible assumption | omega))
    have sy52 : w.heap.size + 1 + 1 < y5.it.heap.size := by rw [e5]; (first | with_reducible assumption | (simp only [World.size_setCell, World.size_alloc, World.size_drew]; first | with_reducible assumption | omega))
    have sy53 : x1.it.heap.size < y5.it.heap.size := by rw [e5]; (first | with_reducible assumption | (simp only [World.size_setCell, World.size_alloc, World.size_drew]; first | with_reducible assumption | omega))
    have sy54 : b1 < y5.it.heap.size := by rw [e5]; (first | with_reducible assumption | (simp only [World.size_setCell, World.size_alloc, World.size_drew]; first | with_reducible assumption | omega))
    have sy55 : b2 < y5.it.heap.size := by rw [e5]; (first | with_reducible assumption | (simp only [World.size_setCell, World.size_alloc, World.size_drew]; first | with_reducible assumption | omega))
    have sy56 : b3 < y5.it.heap.size := by rw [e5]; (first | with_reducible assumption | (simp only [World.size_setCell, World.size_alloc, World.size_drew]; first | with_reducible assumption | omega))
    have bely5 : Below w.heap.size w y5.it := by rw [e5]; repeat (first | with_reducible assumption | with_reducible refine Below.on ?_ _ | with_reducible refine Below.drew ?_ | with_reducible refine Below.st ?_ (by (first | with_reducible assumption | (simp only [World.size_setCell, World.size_alloc, World.size_drew]; first | with_reducible assumption | omega))) _)
    clear e5 ry3kr0 ry3kr1 ry3kr2 ry3kr3 ry3kr4 ry3kr5 ry3kr6 ry3kr7 ry3kr8 ry3kr9 ry3kp0 ry3kp1 ry3kp2 ry3kq0 ry3kq1 ry3kq2 ry3k00 ry3k01 ry3k02 ry3k03 ry3k10 ry3k11 ry3k12 ry3k13 ry3k14 ry3k15 ry3k16 ry3k17 ry3k18 ry3k19 ry3k20 ry3k21 ry3k22 ry3k30 ry3k31 ry3k32
    refine wp_region_ext (by kernel_rfl) (by kernel_rfl) ?_
    dsimp only [List.append]
    repeat (go_big_quiet_step ((first | (go_at_call 15; exact Calls.ext (awake_any _)) | (go_at_call 16; exact Calls.ext (check_any _ _ _ _ _ _ _ _ _ _ _ _)) | (go_at_call 17; exact Calls.ext (refCheck_any _ _ _ _ _ _ _ _ _ _ _ _)) | (go_at_call 18; exact Calls.ext (has_any _ _ _ _ _ _ _ _ _ _ _ _ _ _ _)) | (go_at_call 19; exact Calls.ext (refHas_any _ _ _ _ _ _ _ _ _ _ _ _ _ _ _)) | (go_at_call 20; exact Calls.ext (touch_any _ _ _ _ _ _ _ _ _ _ _ _ _ _ _ _ _ _)) | (go_at_call 21; exact Calls.ext (refTouch_any _ _ _ _ _ _ _ _ _ _ _ _ _ _ _ _ _ _)))))
    refine wpQuiet_nil ?_
    rintro _ ⟨y7, rfl⟩
    go_wp2
    exact bodyPost_ret (v := .bool true) (by simp [results, Try.results3, go_sem, *]) rfl (⟨rfl, by repeat (first | with_reducible assumption | with_reducible refine Below.on ?_ _ | with_reducible refine Below.drew ?_)⟩)
set_option maxRecDepth 100000 in
theorem intervalBasics_lifted (os : Os) (started : os.Started) (H : Type) (enc : TypeId × Value → H) :
    ReturnsInHanded {} Try.checked os 3 .any (Rows.intervalBasicsSpec.pre6 enc Try.prog Try.f3 Rows.intervalBasicsRow.domain false) (Rows.intervalBasicsSpec.post enc Try.prog Try.f3 false true false false) := by
  refine lifted_of_walk (C := Try.checked) (tb := 4) own started (by kernel_rfl) Try.func3
    (ChangeSpec.witness6 (enc := enc) (C := Try.checked) false ⟨#[], #[.int .i64 0, .agg #[.bool false, .bool false, .bool false, .bool false, .bool false, .int .i64 0, .string ⟨#[]⟩, .bool false, .int .i64 0, .string ⟨#[]⟩], .agg #[.bool false, .int .i64 0, .string ⟨#[]⟩], .agg #[.bool false, .int .i64 0, .string ⟨#[]⟩], .int .i64 0, .slice none 0 0, .slice none 0 0, .slice none 0 0], []⟩ 8 (by kernel_rfl) (by kernel_rfl) (by kernel_rfl) (by kernel_rfl))
    laid (params_ok (by kernel_rfl)) (by kernel_rfl) Try.underlying4 rfl
    (fun ds hds => by match ds, hds with | [d0, d1, d2, d3, d4, d5, d6, d7], _ => exact ⟨rfl, rfl, rfl⟩) ?_
  intro W base args ds ps hval0 hA0
  have hval : ∀ (j : Nat) t v, Try.f3.params[j]? = some t → args[j]? = some v → Value.okWide Try.prog W .any base t v := hval0
  have hA : DataW.TrodAll enc Try.prog W 0 (fun _ => true) true Try.f3.params.toList args.toList ds ps := hA0
  rw [Try.params3] at hA hval
  obtain ⟨v0, vs0, d0, ds0, p0, q0, hargs, rfl, rfl, h0, r0⟩ := trodAll_cons hA
  obtain ⟨v1, vs1, d1, ds1, p1, q1, rfl, rfl, rfl, h1, r1⟩ := trodAll_cons r0
  obtain ⟨v2, vs2, d2, ds2, p2, q2, rfl, rfl, rfl, h2, r2⟩ := trodAll_cons r1
  obtain ⟨v3, vs3, d3, ds3, p3, q3, rfl, rfl, rfl, h3, r3⟩ := trodAll_cons r2
  obtain ⟨v4, vs4, d4, ds4, p4, q4, rfl, rfl, rfl, h4, r4⟩ := trodAll_cons r3
  obtain ⟨v5, vs5, d5, ds5, p5, q5, rfl, rfl, rfl, h5, r5⟩ := trodAll_cons r4
  obtain ⟨v6, vs6, d6, ds6, p6, q6, rfl, rfl, rfl, h6, r6⟩ := trodAll_cons r5
  obtain ⟨v7, vs7, d7, ds7, p7, q7, rfl, rfl, rfl, h7, r7⟩ := trodAll_cons r6
  obtain ⟨rfl, rfl, rfl⟩ := trodAll_nil r7
  obtain rfl : args = #[v0, v1, v2, v3, v4, v5, v6, v7] := by cases args; simp_all
  obtain ⟨tt, rfl, ht0⟩ := open_i64 Try.underlying3 (hval 0 _ v0 rfl rfl) h0
  obtain ⟨cn, cs, cl, ch, lp, o, ob, rn, r, rs, rfl⟩ := open_bnd (hval 1 _ v1 rfl rfl) h1
  obtain ⟨pn, pi, ps', rfl⟩ := open_val (hval 2 _ v2 rfl rfl) h2
  obtain ⟨qn, qi, qs, rfl⟩ := open_val (hval 3 _ v3 rfl rfl) h3
  obtain ⟨t, rfl, ht1⟩ := open_i64 Try.underlying3 (hval 4 _ v4 rfl rfl) h4
  obtain ⟨l0, y0⟩ := open_intsv Try.underlying26 Try.underlying3 cells3 (hval 5 _ v5 rfl rfl) h5
  obtain ⟨l1, y1⟩ := open_intsv Try.underlying26 Try.underlying3 cells3 (hval 6 _ v6 rfl rfl) h6
  obtain ⟨l2, y2⟩ := open_intsv Try.underlying26 Try.underlying3 cells3 (hval 7 _ v7 rfl rfl) h7
  exact basics_walk _ _ _ _ _ _ _ _ _ _ _ _ _ _ _ _ _ _ _ _ _ _ _ _ _ y0 y1 y2

theorem intervalBasics_holds : Rows.IntervalBasicsSaid :=
  OpenClaim.holds_of_wide 3 Try.f3 rfl rfl rfl rfl rfl rfl rfl ⟨rfl, rfl, rfl, rfl, rfl⟩ rfl rfl rfl rfl rfl (by kernel_rfl) Try.func3 (by kernel_rfl)
    (of_decide_eq_true (by kernel_rfl)) (by unfold Func.isWrapper; first | (rw [if_pos (by decide +kernel)]; kernel_rfl) | (rw [if_neg (by decide +kernel)]; exact ⟨rfl, rfl⟩))
    (fun os started H enc _ => intervalBasics_lifted os started H enc)
#print axioms intervalBasics_holds

end Go.Proofs.Ytjojnakgadfgmaa
