/-
  INTERVALTOUCHES: the walk and the statement. Conditions: none.
-/
import Derived.Test.YtjojnakgadfgmaaInt4
import Derived.Test.YtjojnakgadfgmaaIntA
import Derived.Test.YtjojnakgadfgmaaOrd
import Derived.ChangeSlices
set_option linter.unusedVariables false
set_option linter.unusedSimpArgs false
namespace Go.Proofs.Ytjojnakgadfgmaa
open Go.RowKit Go.ChangeShapes Go.WideShapes Go.ChangeAt
theorem open_intsv {H : Type} {enc : TypeId × Value → H} {P : Program} {w : World} {r : Reach} {b0 : Nat} {t e : TypeId} {v : Value} {d : DataW H} {p : List MemPlace} (ht : P.underlying t = some (.slice e)) (he : P.underlying e = some (.int .i64)) (hc : P.cellsOf e = 1)
    (hv : Value.okWide P w r b0 t v) (h : DataW.Trod enc P w 0 (fun _ => true) true t v d p) : ∃ zs, IntsAt w w.heap.size v zs := by
  obtain ⟨a, l, c, rfl⟩ := okWide_slice ht hv
  obtain ⟨fuel, hf⟩ := h
  rcases open_ints ht he hc hf with ⟨hcs, _⟩ | ⟨ad, l', c', zs, hcs, _, hl, hm, hz, _, hcell, hw⟩
  · simp [Value.cells] at hcs
    obtain ⟨rfl, rfl, rfl⟩ := hcs
    exact ⟨[], by simp, by simp, .inl ⟨rfl, _, _, rfl⟩⟩
  · simp [Value.cells] at hcs
    obtain ⟨rfl, rfl, rfl⟩ := hcs
    simp at hz
    have hlen : (zs.take l).length = l := by simp; omega
    refine ⟨zs.take l, fun z hz' => ?_, ?_, ?_⟩
    · have := hw z (List.mem_of_mem_take hz')
      simp [Lit.wf, IntKind.min, IntKind.max, IntKind.signed, IntKind.bits] at this
      unfold isI; omega
    · rw [hlen]; unfold maxLen at hm; omega
    · by_cases h0 : l = 0
      · subst h0; exact .inl ⟨by simp, _, _, rfl⟩
      · obtain ⟨b, o, s⟩ := ad
        have c0 := hcell 0 (by omega)
        have hs : s = none := by
          cases s with
          | none => rfl
          | some s => exfalso; simp only [World.cell?, Addr.add] at c0; split at c0 <;> simp at c0
        subst hs
        refine .inr ⟨b, o, c, by rw [hlen], ?_, fun j hj => ?_⟩
        · rcases Nat.lt_or_ge b w.heap.size with h1 | h1
          · exact h1
          · have : w.heap[b]? = none := Array.getElem?_eq_none h1
            simp [World.cell?, Addr.add, this] at c0
        · have := hcell j (by omega)
          rw [hlen] at hj
          have e : (zs.take l).getD j 0 = zs.getD j 0 := by simp [List.getD_eq_getElem?_getD, List.getElem?_take, hj]
          rw [e]
          by_cases hj0 : j = 0 <;> simpa [Addr.add, hj0] using this
theorem bounds_eq {lv : Value} {zs : List Int} {n1 : ByteArray} {ty sc : Int} {nu : Bool} {w : World} {an as' al ah ln : Bool} {l : Int} {ls : ByteArray} {hn : Bool} {h : Int} {hs : ByteArray} (hb : boundsF ty zs = ⟨an, as', al, ah, ⟨ln, l, ls⟩, ⟨hn, h, hs⟩⟩) (hi : IntsAt w w.heap.size lv zs) :
    Calls Try.prog 12 #[.agg #[.string n1, .int .i64 ty, .int .i64 sc, .bool nu], lv] w fun e w' => e = .returned (.agg #[.bool an, .bool as', .bool al, .bool ah, .bool ln, .int .i64 l, .string ls, .bool hn, .int .i64 h, .string hs]) ∧ Below w.heap.size w w' := by
  have := bounds_any lv zs n1 ty sc nu w hi
  rw [hb] at this
  exact this
theorem allocBnd : AllocOk Try.prog 25 #[.bool false, .bool false, .bool false, .bool false, .bool false, .int .i64 0, .string ⟨#[]⟩, .bool false, .int .i64 0, .string ⟨#[]⟩] := by
  intro ρ o w h; obtain ⟨dst, op, type, pos, after, guard⟩ := o; dsimp only at h; subst h; go_simp
set_option maxHeartbeats 16000000 in
theorem touches_walk (t : Int) (vl vm vn vo : Value) (l m n o : List Int) (w : World) (h1 : IntsAt w w.heap.size vl l) (h2 : IntsAt w w.heap.size vm m) (h3 : IntsAt w w.heap.size vn n) (h4 : IntsAt w w.heap.size vo o) :
    Calls Try.prog 4 #[.int .i64 t, vl, vm, vn, vo] w fun e w' => e = .returned (.bool true) ∧ Below w.heap.size w w' := by
  have H := Lib.hid (And.intro h1 (And.intro h2 (And.intro h3 h4)))
  clear h1 h2 h3 h4
  go_enter Try.func4, Try.ntmps4
  go_upto_region 2 with (go_at_call 11; refine (column_any _ _).mono ?_; rintro e w1 ⟨rfl, hb1⟩; obtain ⟨x1, rfl⟩ := Ext.of hb1)
  obtain ⟨h1, h2, h3, h4⟩ := H.out
  generalize hty : 1 + pickI t 5 = ty
  obtain ⟨⟨an, as', al, ah, ⟨ln, li, lv⟩, ⟨hn, hi, hv⟩⟩, hB⟩ : ∃ b, boundsF ty l = b := ⟨_, rfl⟩
  obtain ⟨⟨⟨xn, xi, xv⟩, rx⟩, hX⟩ : ∃ b, valF ty true m = b := ⟨_, rfl⟩
  obtain ⟨⟨⟨yn, yi, yv⟩, ry⟩, hY⟩ : ∃ b, valF ty true n = b := ⟨_, rfl⟩
  obtain ⟨⟨⟨vvn, vi, vv⟩, rv⟩, hV⟩ : ∃ b, valF ty true o = b := ⟨_, rfl⟩
  have up : ∀ (v : Value) (zs : List Int), IntsAt w w.heap.size v zs → IntsAt (x1.it.alloc (.cells #[.string ⟨#[120]⟩, .int .i64 ty, .int .i64 0, .bool true] 28)) (x1.it.alloc (.cells #[.string ⟨#[120]⟩, .int .i64 ty, .int .i64 0, .bool true] 28)).heap.size v zs := fun v zs h =>
    ((h.ext x1).to fun k hk => Below.heap_alloc _ _ _ hk).mono (by simp)
  have H1 := Lib.hid (And.intro hB (up _ _ h1))
  have H2 := Lib.hid (And.intro hX (up _ _ h2))
  have H3 := Lib.hid (And.intro hY (up _ _ h3))
  have H4 := Lib.hid (And.intro hV (up _ _ h4))
  have hcw := x1.below.size
  clear up h1 h2 h3 h4 hB hX hY hV H hb1 hty

  refine wp_region_float 16 [none, none, none, none, none, none, none, none, none, none, none, none, some (12, 25, #[.bool false, .bool false, .bool false, .bool false, .bool false, .int .i64 0, .string ⟨#[]⟩, .bool false, .int .i64 0, .string ⟨#[]⟩]), some (13, 23, #[.bool false, .int .i64 0, .string ⟨#[]⟩]), some (14, 23, #[.bool false, .int .i64 0, .string ⟨#[]⟩]), some (15, 23, #[.bool false, .int .i64 0, .string ⟨#[]⟩])] (by kernel_rfl) (by kernel_rfl) (by kernel_rfl) ⟨allocBnd, allocVal, allocVal, allocVal, trivial⟩ ?_
  dsimp only [ghosts, ghost, List.take, List.drop]
  repeat (refine wpE_step (fun K hK => ?_); go_simp; first | (refine hK _ ?_; clear hK K) | (apply Exists.intro; refine ⟨fun _ => ?_, hK _ ?_⟩; (first | (go_at_call 12; exact bounds_eq H1.out.1 (H1.out.2.ext _)) | (go_at_call 13; exact valueOf_eq H2.out.1 (H2.out.2.ext _)) | (go_at_call 13; exact valueOf_eq H3.out.1 (H3.out.2.ext _)) | (go_at_call 13; exact valueOf_eq H4.out.1 (H4.out.2.ext _))); clear hK K))
  refine wpE_nil ?_
  intro x
  dsimp only [floated]
  intro b1 q1 _ g1 b2 q2 d2 g2 b3 q3 d3 g3 b4 q4 d4 g4
  have e1 := (Array.getElem?_eq_some_iff.1 g1).1
  have e2 := (Array.getElem?_eq_some_iff.1 g2).1
  have e3 := (Array.getElem?_eq_some_iff.1 g3).1
  have e4 := (Array.getElem?_eq_some_iff.1 g4).1
  have n21 : b2 ≠ b1 := d2 b1 (by simp)
  have n31 : b3 ≠ b1 := d3 b1 (by simp)
  have n32 : b3 ≠ b2 := d3 b2 (by simp)
  have n41 : b4 ≠ b1 := d4 b1 (by simp)
  have n42 : b4 ≠ b2 := d4 b2 (by simp)
  have n43 : b4 ≠ b3 := d4 b3 (by simp)
  have n12 := n21.symm
  have n13 := n31.symm
  have n23 := n32.symm
  have n14 := n41.symm
  have n24 := n42.symm
  have n34 := n43.symm
  simp only [World.size_alloc] at q1 q2 q3 q4
  have m1 : b1 ≠ x1.it.heap.size := by omega
  have m2 : b2 ≠ x1.it.heap.size := by omega
  have m3 : b3 ≠ x1.it.heap.size := by omega
  have m4 : b4 ≠ x1.it.heap.size := by omega
  have o1 : w.heap.size ≤ b1 := by omega
  have o2 : w.heap.size ≤ b2 := by omega
  have o3 : w.heap.size ≤ b3 := by omega
  have o4 : w.heap.size ≤ b4 := by omega
  have zx : x1.it.heap.size < x.it.heap.size := x.lt (by simp)
  have belx : Below w.heap.size w x.it := Below.on (Below.al (Below.on (Below.refl _ _) x1) _) x
  have f1 := fun j => frozen_of_row x.it b1 j _ _ g1
  have f2 := fun j => frozen_of_row x.it b2 j _ _ g2
  have f3 := fun j => frozen_of_row x.it b3 j _ _ g3
  have f4 := fun j => frozen_of_row x.it b4 j _ _ g4
  have k10 : x.it.cell? ⟨b1, 0, none⟩ = some (.bool false) := by have := cell_of_row x.it b1 0 _ _ _ g1; simpa using this
  have k11 : x.it.cell? ⟨b1, 1, none⟩ = some (.bool false) := by have := cell_of_row x.it b1 1 _ _ _ g1; simpa using this
  have k12 : x.it.cell? ⟨b1, 2, none⟩ = some (.bool false) := by have := cell_of_row x.it b1 2 _ _ _ g1; simpa using this
  have k13 : x.it.cell? ⟨b1, 3, none⟩ = some (.bool false) := by have := cell_of_row x.it b1 3 _ _ _ g1; simpa using this
  have k14 : x.it.cell? ⟨b1, 4, none⟩ = some (.bool false) := by have := cell_of_row x.it b1 4 _ _ _ g1; simpa using this
  have k15 : x.it.cell? ⟨b1, 5, none⟩ = some (.int .i64 0) := by have := cell_of_row x.it b1 5 _ _ _ g1; simpa using this
  have k16 : x.it.cell? ⟨b1, 6, none⟩ = some (.string ⟨#[]⟩) := by have := cell_of_row x.it b1 6 _ _ _ g1; simpa using this
  have k17 : x.it.cell? ⟨b1, 7, none⟩ = some (.bool false) := by have := cell_of_row x.it b1 7 _ _ _ g1; simpa using this
  have k18 : x.it.cell? ⟨b1, 8, none⟩ = some (.int .i64 0) := by have := cell_of_row x.it b1 8 _ _ _ g1; simpa using this
  have k19 : x.it.cell? ⟨b1, 9, none⟩ = some (.string ⟨#[]⟩) := by have := cell_of_row x.it b1 9 _ _ _ g1; simpa using this
  have k20 : x.it.cell? ⟨b2, 0, none⟩ = some (.bool false) := by have := cell_of_row x.it b2 0 _ _ _ g2; simpa using this
  have k21 : x.it.cell? ⟨b2, 1, none⟩ = some (.int .i64 0) := by have := cell_of_row x.it b2 1 _ _ _ g2; simpa using this
  have k22 : x.it.cell? ⟨b2, 2, none⟩ = some (.string ⟨#[]⟩) := by have := cell_of_row x.it b2 2 _ _ _ g2; simpa using this
  have k30 : x.it.cell? ⟨b3, 0, none⟩ = some (.bool false) := by have := cell_of_row x.it b3 0 _ _ _ g3; simpa using this
  have k31 : x.it.cell? ⟨b3, 1, none⟩ = some (.int .i64 0) := by have := cell_of_row x.it b3 1 _ _ _ g3; simpa using this
  have k32 : x.it.cell? ⟨b3, 2, none⟩ = some (.string ⟨#[]⟩) := by have := cell_of_row x.it b3 2 _ _ _ g3; simpa using this
  have k40 : x.it.cell? ⟨b4, 0, none⟩ = some (.bool false) := by have := cell_of_row x.it b4 0 _ _ _ g4; simpa using this
  have k41 : x.it.cell? ⟨b4, 1, none⟩ = some (.int .i64 0) := by have := cell_of_row x.it b4 1 _ _ _ g4; simpa using this
  have k42 : x.it.cell? ⟨b4, 2, none⟩ = some (.string ⟨#[]⟩) := by have := cell_of_row x.it b4 2 _ _ _ g4; simpa using this
  have k00 : x.it.cell? ⟨x1.it.heap.size, 0, none⟩ = some (.string ⟨#[120]⟩) := by simp [go_sem, *]
  have k01 : x.it.cell? ⟨x1.it.heap.size, 1, none⟩ = some (.int .i64 ty) := by simp [go_sem, *]
  have k02 : x.it.cell? ⟨x1.it.heap.size, 2, none⟩ = some (.int .i64 0) := by simp [go_sem, *]
  have k03 : x.it.cell? ⟨x1.it.heap.size, 3, none⟩ = some (.bool true) := by simp [go_sem, *]
  clear g1 g2 g3 g4 d2 d3 d4 H1 H2 H3 H4
  have LAW := Lib.hid (fun a b c => @touch_between ty ⟨an, as', al, ah, ⟨ln, li, lv⟩, ⟨hn, hi, hv⟩⟩ ⟨xn, xi, xv⟩ ⟨vvn, vi, vv⟩ ⟨yn, yi, yv⟩ a b c)
  by_cases ha : 0 < cmpV ty ⟨xn, xi, xv⟩ ⟨vvn, vi, vv⟩
  · go_wp2_with (first | (go_at_call 14; refine (refCompare_any _ _ _ _ _ _ _ _).mono ?_; rintro e w1 ⟨rfl, hb1⟩; obtain ⟨x5, rfl⟩ := Ext.of hb1; have zx1 : x1.it.heap.size < x5.it.heap.size := x5.lt (by (first | with_reducible assumption | (simp only [World.size_setCell, World.size_alloc, World.size_drew]; first | with_reducible assumption | omega))); have zb1 : b1 < x5.it.heap.size := x5.lt (by (first | with_reducible assumption | (simp only [World.size_setCell, World.size_alloc, World.size_drew]; first | with_reducible assumption | omega))); have zb2 : b2 < x5.it.heap.size := x5.lt (by (first | with_reducible assumption | (simp only [World.size_setCell, World.size_alloc, World.size_drew]; first | with_reducible assumption | omega))); have zb3 : b3 < x5.it.heap.size := x5.lt (by (first | with_reducible assumption | (simp only [World.size_setCell, World.size_alloc, World.size_drew]; first | with_reducible assumption | omega))); have zb4 : b4 < x5.it.heap.size := x5.lt (by (first | with_reducible assumption | (simp only [World.size_setCell, World.size_alloc, World.size_drew]; first | with_reducible assumption | omega)))) | (go_at_call 18; refine (has_any _ _ _ _ _ _ _ _ _ _ _ _ _ _ _).mono ?_; rintro e w1 ⟨rfl, hb1⟩; obtain ⟨x5, rfl⟩ := Ext.of hb1; have zx1 : x1.it.heap.size < x5.it.heap.size := x5.lt (by (first | with_reducible assumption | (simp only [World.size_setCell, World.size_alloc, World.size_drew]; first | with_reducible assumption | omega))); have zb1 : b1 < x5.it.heap.size := x5.lt (by (first | with_reducible assumption | (simp only [World.size_setCell, World.size_alloc, World.size_drew]; first | with_reducible assumption | omega))); have zb2 : b2 < x5.it.heap.size := x5.lt (by (first | with_reducible assumption | (simp only [World.size_setCell, World.size_alloc, World.size_drew]; first | with_reducible assumption | omega))); have zb3 : b3 < x5.it.heap.size := x5.lt (by (first | with_reducible assumption | (simp only [World.size_setCell, World.size_alloc, World.size_drew]; first | with_reducible assumption | omega))); have zb4 : b4 < x5.it.heap.size := x5.lt (by (first | with_reducible assumption | (simp only [World.size_setCell, World.size_alloc, World.size_drew]; first | with_reducible assumption | omega)))) | (go_at_call 20; refine (touch_any _ _ _ _ _ _ _ _ _ _ _ _ _ _ _ _ _ _).mono ?_; rintro e w1 ⟨rfl, hb1⟩; obtain ⟨x5, rfl⟩ := Ext.of hb1; have zx1 : x1.it.heap.size < x5.it.heap.size := x5.lt (by (first | with_reducible assumption | (simp only [World.size_setCell, World.size_alloc, World.size_drew]; first | with_reducible assumption | omega))); have zb1 : b1 < x5.it.heap.size := x5.lt (by (first | with_reducible assumption | (simp only [World.size_setCell, World.size_alloc, World.size_drew]; first | with_reducible assumption | omega))); have zb2 : b2 < x5.it.heap.size := x5.lt (by (first | with_reducible assumption | (simp only [World.size_setCell, World.size_alloc, World.size_drew]; first | with_reducible assumption | omega))); have zb3 : b3 < x5.it.heap.size := x5.lt (by (first | with_reducible assumption | (simp only [World.size_setCell, World.size_alloc, World.size_drew]; first | with_reducible assumption | omega))); have zb4 : b4 < x5.it.heap.size := x5.lt (by (first | with_reducible assumption | (simp only [World.size_setCell, World.size_alloc, World.size_drew]; first | with_reducible assumption | omega)))) | (go_at_call 15; refine (awake_any _).mono ?_; rintro e w1 ⟨rfl, hb1⟩; obtain ⟨x5, rfl⟩ := Ext.of hb1; have zx1 : x1.it.heap.size < x5.it.heap.size := x5.lt (by (first | with_reducible assumption | (simp only [World.size_setCell, World.size_alloc, World.size_drew]; first | with_reducible assumption | omega))); have zb1 : b1 < x5.it.heap.size := x5.lt (by (first | with_reducible assumption | (simp only [World.size_setCell, World.size_alloc, World.size_drew]; first | with_reducible assumption | omega))); have zb2 : b2 < x5.it.heap.size := x5.lt (by (first | with_reducible assumption | (simp only [World.size_setCell, World.size_alloc, World.size_drew]; first | with_reducible assumption | omega))); have zb3 : b3 < x5.it.heap.size := x5.lt (by (first | with_reducible assumption | (simp only [World.size_setCell, World.size_alloc, World.size_drew]; first | with_reducible assumption | omega))); have zb4 : b4 < x5.it.heap.size := x5.lt (by (first | with_reducible assumption | (simp only [World.size_setCell, World.size_alloc, World.size_drew]; first | with_reducible assumption | omega)))))
    go_ret
    exact ⟨rfl, by repeat (first | with_reducible assumption | with_reducible refine Below.on ?_ _ | with_reducible refine Below.drew ?_ | with_reducible refine Below.st ?_ (by (first | with_reducible assumption | (simp only [World.size_setCell, World.size_alloc, World.size_drew]; first | with_reducible assumption | omega))) _)⟩
  by_cases hb : 0 < cmpV ty ⟨vvn, vi, vv⟩ ⟨yn, yi, yv⟩
  · go_wp2_with (first | (go_at_call 14; refine (refCompare_any _ _ _ _ _ _ _ _).mono ?_; rintro e w1 ⟨rfl, hb1⟩; obtain ⟨x5, rfl⟩ := Ext.of hb1; have zx1 : x1.it.heap.size < x5.it.heap.size := x5.lt (by (first | with_reducible assumption | (simp only [World.size_setCell, World.size_alloc, World.size_drew]; first | with_reducible assumption | omega))); have zb1 : b1 < x5.it.heap.size := x5.lt (by (first | with_reducible assumption | (simp only [World.size_setCell, World.size_alloc, World.size_drew]; first | with_reducible assumption | omega))); have zb2 : b2 < x5.it.heap.size := x5.lt (by (first | with_reducible assumption | (simp only [World.size_setCell, World.size_alloc, World.size_drew]; first | with_reducible assumption | omega))); have zb3 : b3 < x5.it.heap.size := x5.lt (by (first | with_reducible assumption | (simp only [World.size_setCell, World.size_alloc, World.size_drew]; first | with_reducible assumption | omega))); have zb4 : b4 < x5.it.heap.size := x5.lt (by (first | with_reducible assumption | (simp only [World.size_setCell, World.size_alloc, World.size_drew]; first | with_reducible assumption | omega)))) | (go_at_call 18; refine (has_any _ _ _ _ _ _ _ _ _ _ _ _ _ _ _).mono ?_; rintro e w1 ⟨rfl, hb1⟩; obtain ⟨x5, rfl⟩ := Ext.of hb1; have zx1 : x1.it.heap.size < x5.it.heap.size := x5.lt (by (first | with_reducible assumption | (simp only [World.size_setCell, World.size_alloc, World.size_drew]; first | with_reducible assumption | omega))); have zb1 : b1 < x5.it.heap.size := x5.lt (by (first | with_reducible assumption | (simp only [World.size_setCell, World.size_alloc, World.size_drew]; first | with_reducible assumption | omega))); have zb2 : b2 < x5.it.heap.size := x5.lt (by (first | with_reducible assumption | (simp only [World.size_setCell, World.size_alloc, World.size_drew]; first | with_reducible assumption | omega))); have zb3 : b3 < x5.it.heap.size := x5.lt (by (first | with_reducible assumption | (simp only [World.size_setCell, World.size_alloc, World.size_drew]; first | with_reducible assumption | omega))); have zb4 : b4 < x5.it.heap.size := x5.lt (by (first | with_reducible assumption | (simp only [World.size_setCell, World.size_alloc, World.size_drew]; first | with_reducible assumption | omega)))) | (go_at_call 20; refine (touch_any _ _ _ _ _ _ _ _ _ _ _ _ _ _ _ _ _ _).mono ?_; rintro e w1 ⟨rfl, hb1⟩; obtain ⟨x5, rfl⟩ := Ext.of hb1; have zx1 : x1.it.heap.size < x5.it.heap.size := x5.lt (by (first | with_reducible assumption | (simp only [World.size_setCell, World.size_alloc, World.size_drew]; first | with_reducible assumption | omega))); have zb1 : b1 < x5.it.heap.size := x5.lt (by (first | with_reducible assumption | (simp only [World.size_setCell, World.size_alloc, World.size_drew]; first | with_reducible assumption | omega))); have zb2 : b2 < x5.it.heap.size := x5.lt (by (first | with_reducible assumption | (simp only [World.size_setCell, World.size_alloc, World.size_drew]; first | with_reducible assumption | omega))); have zb3 : b3 < x5.it.heap.size := x5.lt (by (first | with_reducible assumption | (simp only [World.size_setCell, World.size_alloc, World.size_drew]; first | with_reducible assumption | omega))); have zb4 : b4 < x5.it.heap.size := x5.lt (by (first | with_reducible assumption | (simp only [World.size_setCell, World.size_alloc, World.size_drew]; first | with_reducible assumption | omega)))) | (go_at_call 15; refine (awake_any _).mono ?_; rintro e w1 ⟨rfl, hb1⟩; obtain ⟨x5, rfl⟩ := Ext.of hb1; have zx1 : x1.it.heap.size < x5.it.heap.size := x5.lt (by (first | with_reducible assumption | (simp only [World.size_setCell, World.size_alloc, World.size_drew]; first | with_reducible assumption | omega))); have zb1 : b1 < x5.it.heap.size := x5.lt (by (first | with_reducible assumption | (simp only [World.size_setCell, World.size_alloc, World.size_drew]; first | with_reducible assumption | omega))); have zb2 : b2 < x5.it.heap.size := x5.lt (by (first | with_reducible assumption | (simp only [World.size_setCell, World.size_alloc, World.size_drew]; first | with_reducible assumption | omega))); have zb3 : b3 < x5.it.heap.size := x5.lt (by (first | with_reducible assumption | (simp only [World.size_setCell, World.size_alloc, World.size_drew]; first | with_reducible assumption | omega))); have zb4 : b4 < x5.it.heap.size := x5.lt (by (first | with_reducible assumption | (simp only [World.size_setCell, World.size_alloc, World.size_drew]; first | with_reducible assumption | omega)))))
    go_ret
    exact ⟨rfl, by repeat (first | with_reducible assumption | with_reducible refine Below.on ?_ _ | with_reducible refine Below.drew ?_ | with_reducible refine Below.st ?_ (by (first | with_reducible assumption | (simp only [World.size_setCell, World.size_alloc, World.size_drew]; first | with_reducible assumption | omega))) _)⟩
  obtain ⟨c, hc⟩ : ∃ c, touchF ty ⟨an, as', al, ah, ⟨ln, li, lv⟩, ⟨hn, hi, hv⟩⟩ ⟨vvn, vi, vv⟩ ⟨vvn, vi, vv⟩ = c := ⟨_, rfl⟩
  cases c
  · clear LAW
    go_wp2_with (first | (go_at_call 14; refine (refCompare_any _ _ _ _ _ _ _ _).mono ?_; rintro e w1 ⟨rfl, hb1⟩; obtain ⟨x5, rfl⟩ := Ext.of hb1; have zx1 : x1.it.heap.size < x5.it.heap.size := x5.lt (by (first | with_reducible assumption | (simp only [World.size_setCell, World.size_alloc, World.size_drew]; first | with_reducible assumption | omega))); have zb1 : b1 < x5.it.heap.size := x5.lt (by (first | with_reducible assumption | (simp only [World.size_setCell, World.size_alloc, World.size_drew]; first | with_reducible assumption | omega))); have zb2 : b2 < x5.it.heap.size := x5.lt (by (first | with_reducible assumption | (simp only [World.size_setCell, World.size_alloc, World.size_drew]; first | with_reducible assumption | omega))); have zb3 : b3 < x5.it.heap.size := x5.lt (by (first | with_reducible assumption | (simp only [World.size_setCell, World.size_alloc, World.size_drew]; first | with_reducible assumption | omega))); have zb4 : b4 < x5.it.heap.size := x5.lt (by (first | with_reducible assumption | (simp only [World.size_setCell, World.size_alloc, World.size_drew]; first | with_reducible assumption | omega)))) | (go_at_call 18; refine (has_any _ _ _ _ _ _ _ _ _ _ _ _ _ _ _).mono ?_; rintro e w1 ⟨rfl, hb1⟩; obtain ⟨x5, rfl⟩ := Ext.of hb1; have zx1 : x1.it.heap.size < x5.it.heap.size := x5.lt (by (first | with_reducible assumption | (simp only [World.size_setCell, World.size_alloc, World.size_drew]; first | with_reducible assumption | omega))); have zb1 : b1 < x5.it.heap.size := x5.lt (by (first | with_reducible assumption | (simp only [World.size_setCell, World.size_alloc, World.size_drew]; first | with_reducible assumption | omega))); have zb2 : b2 < x5.it.heap.size := x5.lt (by (first | with_reducible assumption | (simp only [World.size_setCell, World.size_alloc, World.size_drew]; first | with_reducible assumption | omega))); have zb3 : b3 < x5.it.heap.size := x5.lt (by (first | with_reducible assumption | (simp only [World.size_setCell, World.size_alloc, World.size_drew]; first | with_reducible assumption | omega))); have zb4 : b4 < x5.it.heap.size := x5.lt (by (first | with_reducible assumption | (simp only [World.size_setCell, World.size_alloc, World.size_drew]; first | with_reducible assumption | omega)))) | (go_at_call 20; refine (touch_any _ _ _ _ _ _ _ _ _ _ _ _ _ _ _ _ _ _).mono ?_; rintro e w1 ⟨rfl, hb1⟩; obtain ⟨x5, rfl⟩ := Ext.of hb1; have zx1 : x1.it.heap.size < x5.it.heap.size := x5.lt (by (first | with_reducible assumption | (simp only [World.size_setCell, World.size_alloc, World.size_drew]; first | with_reducible assumption | omega))); have zb1 : b1 < x5.it.heap.size := x5.lt (by (first | with_reducible assumption | (simp only [World.size_setCell, World.size_alloc, World.size_drew]; first | with_reducible assumption | omega))); have zb2 : b2 < x5.it.heap.size := x5.lt (by (first | with_reducible assumption | (simp only [World.size_setCell, World.size_alloc, World.size_drew]; first | with_reducible assumption | omega))); have zb3 : b3 < x5.it.heap.size := x5.lt (by (first | with_reducible assumption | (simp only [World.size_setCell, World.size_alloc, World.size_drew]; first | with_reducible assumption | omega))); have zb4 : b4 < x5.it.heap.size := x5.lt (by (first | with_reducible assumption | (simp only [World.size_setCell, World.size_alloc, World.size_drew]; first | with_reducible assumption | omega)))) | (go_at_call 15; refine (awake_any _).mono ?_; rintro e w1 ⟨rfl, hb1⟩; obtain ⟨x5, rfl⟩ := Ext.of hb1; have zx1 : x1.it.heap.size < x5.it.heap.size := x5.lt (by (first | with_reducible assumption | (simp only [World.size_setCell, World.size_alloc, World.size_drew]; first | with_reducible assumption | omega))); have zb1 : b1 < x5.it.heap.size := x5.lt (by (first | with_reducible assumption | (simp only [World.size_setCell, World.size_alloc, World.size_drew]; first | with_reducible assumption | omega))); have zb2 : b2 < x5.it.heap.size := x5.lt (by (first | with_reducible assumption | (simp only [World.size_setCell, World.size_alloc, World.size_drew]; first | with_reducible assumption | omega))); have zb3 : b3 < x5.it.heap.size := x5.lt (by (first | with_reducible assumption | (simp only [World.size_setCell, World.size_alloc, World.size_drew]; first | with_reducible assumption | omega))); have zb4 : b4 < x5.it.heap.size := x5.lt (by (first | with_reducible assumption | (simp only [World.size_setCell, World.size_alloc, World.size_drew]; first | with_reducible assumption | omega)))))
    go_ret
    exact ⟨rfl, by repeat (first | with_reducible assumption | with_reducible refine Below.on ?_ _ | with_reducible refine Below.drew ?_ | with_reducible refine Below.st ?_ (by (first | with_reducible assumption | (simp only [World.size_setCell, World.size_alloc, World.size_drew]; first | with_reducible assumption | omega))) _)⟩
  · have hd : touchF ty ⟨an, as', al, ah, ⟨ln, li, lv⟩, ⟨hn, hi, hv⟩⟩ ⟨xn, xi, xv⟩ ⟨yn, yi, yv⟩ = true := LAW.out (by omega) (by omega) hc
    clear LAW
    go_wp2_with (first | (go_at_call 14; refine (refCompare_any _ _ _ _ _ _ _ _).mono ?_; rintro e w1 ⟨rfl, hb1⟩; obtain ⟨x5, rfl⟩ := Ext.of hb1; have zx1 : x1.it.heap.size < x5.it.heap.size := x5.lt (by (first | with_reducible assumption | (simp only [World.size_setCell, World.size_alloc, World.size_drew]; first | with_reducible assumption | omega))); have zb1 : b1 < x5.it.heap.size := x5.lt (by (first | with_reducible assumption | (simp only [World.size_setCell, World.size_alloc, World.size_drew]; first | with_reducible assumption | omega))); have zb2 : b2 < x5.it.heap.size := x5.lt (by (first | with_reducible assumption | (simp only [World.size_setCell, World.size_alloc, World.size_drew]; first | with_reducible assumption | omega))); have zb3 : b3 < x5.it.heap.size := x5.lt (by (first | with_reducible assumption | (simp only [World.size_setCell, World.size_alloc, World.size_drew]; first | with_reducible assumption | omega))); have zb4 : b4 < x5.it.heap.size := x5.lt (by (first | with_reducible assumption | (simp only [World.size_setCell, World.size_alloc, World.size_drew]; first | with_reducible assumption | omega)))) | (go_at_call 18; refine (has_any _ _ _ _ _ _ _ _ _ _ _ _ _ _ _).mono ?_; rintro e w1 ⟨rfl, hb1⟩; obtain ⟨x5, rfl⟩ := Ext.of hb1; have zx1 : x1.it.heap.size < x5.it.heap.size := x5.lt (by (first | with_reducible assumption | (simp only [World.size_setCell, World.size_alloc, World.size_drew]; first | with_reducible assumption | omega))); have zb1 : b1 < x5.it.heap.size := x5.lt (by (first | with_reducible assumption | (simp only [World.size_setCell, World.size_alloc, World.size_drew]; first | with_reducible assumption | omega))); have zb2 : b2 < x5.it.heap.size := x5.lt (by (first | with_reducible assumption | (simp only [World.size_setCell, World.size_alloc, World.size_drew]; first | with_reducible assumption | omega))); have zb3 : b3 < x5.it.heap.size := x5.lt (by (first | with_reducible assumption | (simp only [World.size_setCell, World.size_alloc, World.size_drew]; first | with_reducible assumption | omega))); have zb4 : b4 < x5.it.heap.size := x5.lt (by (first | with_reducible assumption | (simp only [World.size_setCell, World.size_alloc, World.size_drew]; first | with_reducible assumption | omega)))) | (go_at_call 20; refine (touch_any _ _ _ _ _ _ _ _ _ _ _ _ _ _ _ _ _ _).mono ?_; rintro e w1 ⟨rfl, hb1⟩; obtain ⟨x5, rfl⟩ := Ext.of hb1; have zx1 : x1.it.heap.size < x5.it.heap.size := x5.lt (by (first | with_reducible assumption | (simp only [World.size_setCell, World.size_alloc, World.size_drew]; first | with_reducible assumption | omega))); have zb1 : b1 < x5.it.heap.size := x5.lt (by (first | with_reducible assumption | (simp only [World.size_setCell, World.size_alloc, World.size_drew]; first | with_reducible assumption | omega))); have zb2 : b2 < x5.it.heap.size := x5.lt (by (first | with_reducible assumption | (simp only [World.size_setCell, World.size_alloc, World.size_drew]; first | with_reducible assumption | omega))); have zb3 : b3 < x5.it.heap.size := x5.lt (by (first | with_reducible assumption | (simp only [World.size_setCell, World.size_alloc, World.size_drew]; first | with_reducible assumption | omega))); have zb4 : b4 < x5.it.heap.size := x5.lt (by (first | with_reducible assumption | (simp only [World.size_setCell, World.size_alloc, World.size_drew]; first | with_reducible assumption | omega)))) | (go_at_call 15; refine (awake_any _).mono ?_; rintro e w1 ⟨rfl, hb1⟩; obtain ⟨x5, rfl⟩ := Ext.of hb1; have zx1 : x1.it.heap.size < x5.it.heap.size := x5.lt (by (first | with_reducible assumption | (simp only [World.size_setCell, World.size_alloc, World.size_drew]; first | with_reducible assumption | omega))); have zb1 : b1 < x5.it.heap.size := x5.lt (by (first | with_reducible assumption | (simp only [World.size_setCell, World.size_alloc, World.size_drew]; first | with_reducible assumption | omega))); have zb2 : b2 < x5.it.heap.size := x5.lt (by (first | with_reducible assumption | (simp only [World.size_setCell, World.size_alloc, World.size_drew]; first | with_reducible assumption | omega))); have zb3 : b3 < x5.it.heap.size := x5.lt (by (first | with_reducible assumption | (simp only [World.size_setCell, World.size_alloc, World.size_drew]; first | with_reducible assumption | omega))); have zb4 : b4 < x5.it.heap.size := x5.lt (by (first | with_reducible assumption | (simp only [World.size_setCell, World.size_alloc, World.size_drew]; first | with_reducible assumption | omega)))))
    go_ret
    exact ⟨rfl, by repeat (first | with_reducible assumption | with_reducible refine Below.on ?_ _ | with_reducible refine Below.drew ?_ | with_reducible refine Below.st ?_ (by (first | with_reducible assumption | (simp only [World.size_setCell, World.size_alloc, World.size_drew]; first | with_reducible assumption | omega))) _)⟩

theorem own : ownKnob Try.prog.godebug = none := by kernel_rfl
theorem laid : laidOutB Try.prog = true := by kernel_rfl
theorem cells3 : Try.prog.cellsOf 3 = 1 := by kernel_rfl
set_option maxRecDepth 100000 in
theorem intervalTouches_lifted (os : Os) (started : os.Started) (H : Type) (enc : TypeId × Value → H) :
    ReturnsInHanded {} Try.checked os 4 .any (Rows.intervalTouchesSpec.pre6 enc Try.prog Try.f4 Rows.intervalTouchesRow.domain false) (Rows.intervalTouchesSpec.post enc Try.prog Try.f4 false true false false) := by
  refine lifted_of_walk (C := Try.checked) (tb := 4) own started (by kernel_rfl) Try.func4
    (ChangeSpec.witness6 (enc := enc) (C := Try.checked) false ⟨#[], #[.int .i64 0, .slice none 0 0, .slice none 0 0, .slice none 0 0, .slice none 0 0], []⟩ 8 (by kernel_rfl) (by kernel_rfl) (by kernel_rfl) (by kernel_rfl))
    laid (params_ok (by kernel_rfl)) (by kernel_rfl) Try.underlying4 rfl
    (fun ds hds => by match ds, hds with | [d0, d1, d2, d3, d4], _ => exact ⟨rfl, rfl, rfl⟩) ?_
  intro W base args ds ps hval0 hA0
  have hval : ∀ (j : Nat) t v, Try.f4.params[j]? = some t → args[j]? = some v → Value.okWide Try.prog W .any base t v := hval0
  have hA : DataW.TrodAll enc Try.prog W 0 (fun _ => true) true Try.f4.params.toList args.toList ds ps := hA0
  rw [Try.params4] at hA hval
  obtain ⟨v0, vs0, d0, ds0, p0, q0, hargs, rfl, rfl, h0, r0⟩ := trodAll_cons hA
  obtain ⟨v1, vs1, d1, ds1, p1, q1, rfl, rfl, rfl, h1, r1⟩ := trodAll_cons r0
  obtain ⟨v2, vs2, d2, ds2, p2, q2, rfl, rfl, rfl, h2, r2⟩ := trodAll_cons r1
  obtain ⟨v3, vs3, d3, ds3, p3, q3, rfl, rfl, rfl, h3, r3⟩ := trodAll_cons r2
  obtain ⟨v4, vs4, d4, ds4, p4, q4, rfl, rfl, rfl, h4, r4⟩ := trodAll_cons r3
  obtain ⟨rfl, rfl, rfl⟩ := trodAll_nil r4
  obtain rfl : args = #[v0, v1, v2, v3, v4] := by cases args; simp_all
  obtain ⟨t, rfl, ht0⟩ := open_i64 Try.underlying3 (hval 0 _ v0 rfl rfl) h0
  obtain ⟨l1, z1⟩ := open_intsv Try.underlying26 Try.underlying3 cells3 (hval 1 _ v1 rfl rfl) h1
  obtain ⟨l2, z2⟩ := open_intsv Try.underlying26 Try.underlying3 cells3 (hval 2 _ v2 rfl rfl) h2
  obtain ⟨l3, z3⟩ := open_intsv Try.underlying26 Try.underlying3 cells3 (hval 3 _ v3 rfl rfl) h3
  obtain ⟨l4, z4⟩ := open_intsv Try.underlying26 Try.underlying3 cells3 (hval 4 _ v4 rfl rfl) h4
  exact touches_walk _ _ _ _ _ _ _ _ _ _ z1 z2 z3 z4

theorem intervalTouches_holds : Rows.IntervalTouchesSaid :=
  OpenClaim.holds_of_wide 4 Try.f4 rfl rfl rfl rfl rfl rfl rfl ⟨rfl, rfl, rfl, rfl, rfl⟩ rfl rfl rfl rfl rfl (by kernel_rfl) Try.func4 (by kernel_rfl)
    (of_decide_eq_true (by kernel_rfl)) (by unfold Func.isWrapper; first | (rw [if_pos (by decide +kernel)]; kernel_rfl) | (rw [if_neg (by decide +kernel)]; exact ⟨rfl, rfl⟩))
    (fun os started H enc _ => intervalTouches_lifted os started H enc)
#print axioms intervalTouches_holds

end Go.Proofs.Ytjojnakgadfgmaa
