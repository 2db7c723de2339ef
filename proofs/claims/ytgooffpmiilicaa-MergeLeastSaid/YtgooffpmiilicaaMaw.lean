/-
  CHAPTER 29: awake. Conditions: none.
-/
import Derived.Test.YtgooffpmiilicaaMle
set_option linter.unusedVariables false
set_option linter.unusedSimpArgs false
namespace Go.Proofs.Ytgooffpmiilicaa
open Go.RowKit Srt
def aLs : List (List Rc) := [listF 1 [4], listF 2 [3]]
def aOut : List Rc := [⟨2, [⟨false, 3, ⟨#[]⟩⟩]⟩, ⟨1, [⟨false, 4, ⟨#[]⟩⟩]⟩]
theorem a_sorted : sortB [aCol] 0 aLs = true := by
  unfold sortB aLs
  simp only [List.all_cons, List.all_nil, Bool.and_true, Bool.and_eq_true]
  constructor <;> (unfold sortedF validF; rw [a_schema]; simp [listF, badR, rowE, rowEs, aCol, vchk, permF, a_tl0, ascF])
theorem a_merge : mergeE [aCol] 0 aLs = 0 ∧ mergeR [aCol] 0 aLs = aOut := by
  obtain ⟨h1, h2⟩ := mergeE_ok (Ls := aLs) a_schema (by simp [aLs]) (by simp [longB, aLs, listF]) a_sorted
  refine ⟨h1, ?_⟩
  rw [h2]
  simp [aLs, aOut, listF, srt, srtR, insR, recD, rankF, cmpR, cmpV, cmpI, orF, tyK, aCol]
theorem rks_nil (w : World) : RksAt w w.heap.size (.slice none 0 0) [] := ⟨by simp, .inl ⟨rfl, none, 0, rfl⟩⟩
/-- Two slices of records, side by side. -/
theorem parts_two {w : World} {g : Nat} {v0 v1 : Value} {l0 l1 : List Rc} (hg : g < w.heap.size) (c0 : w.cell? ⟨g, 0, none⟩ = some v0) (c1 : w.cell? ⟨g, 1, none⟩ = some v1) (h0 : RecsAt w w.heap.size v0 l0) (h1 : RecsAt w w.heap.size v1 l1) : PartsAt w w.heap.size (.slice (some ⟨g, 0, none⟩) 2 2) [l0, l1] := by
  refine ⟨by simp, .inr ⟨g, 0, 2, rfl, by simp, hg, fun j hj => ?_⟩⟩
  rcases j with _ | _ | j
  · exact ⟨v0, c0, h0⟩
  · exact ⟨v1, c1, h1⟩
  · simp at hj; omega
def LitPost (w : World) (rs : List Rc) (n : Nat) (e : Ending) (w' : World) : Prop := ∃ a c, e = .returned (.slice a n c) ∧ RecsAt w' w'.heap.size (.slice a n c) rs ∧ Below w.heap.size w w'
theorem isI_small {z : Int} (h0 : -1000 ≤ z) (h1 : z ≤ 1000) : isI z := by unfold isI; omega
theorem list_lit (seq : Int) (zs : List Int) (T : TypeId) (W : World) (h0 : 0 ≤ seq) (h1 : seq ≤ 1000) (hz : zs.length ≤ 100) (hi : ∀ z ∈ zs, -1000 ≤ z ∧ z ≤ 1000) (hn : 0 < zs.length) (cs : Array Value) (hcs : cs = (zs.map (Value.int .i64 ·)).toArray) :
    Calls Try.prog 12 #[.int .i64 seq, .slice (some ⟨W.heap.size, 0, none⟩) zs.length zs.length] (W.alloc (.cells cs T)) (LitPost (W.alloc (.cells cs T)) (listF seq zs) zs.length) := by
  subst hcs
  refine Calls.mono (list_any seq _ zs _ ⟨fun z hz => isI_small (hi z hz).1 (hi z hz).2, by omega, .inr ⟨W.heap.size, 0, zs.length, rfl, by simp, fun j hj => ?_⟩⟩ h0 h1 (by omega)) ?_
  · rw [cell_of_row _ W.heap.size (0 + j) _ T (0, 0) (heap_alloc_new W _)]
    simp [List.getD, List.getElem?_eq_getElem hj]
  · rintro e w' ⟨v, rfl, hr, hb⟩
    obtain ⟨a, c, rfl⟩ := recs_end hr
    rw [listF_len] at hr ⊢
    exact ⟨a, c, rfl, hr, hb⟩
set_option maxRecDepth 8000 in
set_option maxHeartbeats 1000000 in
theorem awake29 (w : World) : Calls Try.prog 17 #[] w fun e w' => e = .returned (.bool true) ∧ Below w.heap.size w w' := by
  have L1 : Hid (∀ W : World, Calls Try.prog 12 #[.int .i64 1, .slice (some ⟨W.heap.size, 0, none⟩) 1 1] (W.alloc (.cells #[.int .i64 4] 2)) (LitPost (W.alloc (.cells #[.int .i64 4] 2)) (listF 1 [4]) 1)) := Lib.hid (fun W => list_lit 1 [4] 2 W (by decide) (by decide) (by decide) (by simp) (by decide) _ rfl)
  have L2 : Hid (∀ W : World, Calls Try.prog 12 #[.int .i64 2, .slice (some ⟨W.heap.size, 0, none⟩) 1 1] (W.alloc (.cells #[.int .i64 3] 2)) (LitPost (W.alloc (.cells #[.int .i64 3] 2)) (listF 2 [3]) 1)) := Lib.hid (fun W => list_lit 2 [3] 2 W (by decide) (by decide) (by decide) (by simp) (by decide) _ rfl)
  have LE : Hid (∀ W : World, Calls Try.prog 19 #[.int .i64 1, .slice none 0 0] W fun e w' => e = .returned (.int .i64 (-1)) ∧ Below W.heap.size W w') := Lib.hid (fun W => least_any 1 _ [] W (rks_nil W))
  have MG : Hid (∀ (W : World) (cv : Value) (g : Nat) (v0 v1 : Value), ColsAt W W.heap.size cv [aCol] → g < W.heap.size → W.cell? ⟨g, 0, none⟩ = some v0 → W.cell? ⟨g, 1, none⟩ = some v1 → RecsAt W W.heap.size v0 (listF 1 [4]) → RecsAt W W.heap.size v1 (listF 2 [3]) → Calls Try.prog 10 #[.agg #[cv, .int .i64 0], .slice (some ⟨g, 0, none⟩) 2 2] W fun e w' => ∃ b o c, e = .returned (.tuple #[.slice (some ⟨b, o, none⟩) 2 c, .int .i64 0]) ∧ b < w'.heap.size ∧ w'.cell? ⟨b, o, none⟩ = some (.int .i64 2) ∧ Below W.heap.size W w') := Lib.hid (fun W cv g v0 v1 hc hg c0 c1 h0 h1 => by
    refine Calls.mono (merge_any cv [aCol] 0 _ aLs W hc (parts_two hg c0 c1 h0 h1)) ?_
    rintro e w' ⟨v, rfl, hr, hb⟩
    rw [a_merge.1]
    rw [a_merge.2] at hr
    obtain ⟨a, c, rfl⟩ := recs_end hr
    obtain ⟨b, o, rfl, _, hb2, k0, _⟩ := recs_in hr (i := 0) (by simp [aOut])
    exact ⟨b, o, c, rfl, hb2, by simpa [aOut] using k0, hb⟩)
  go_enter Try.func17, Try.ntmps17
  go_upto_region 2 with (first | (go_at_call 11; refine Calls.mono (one_any _) ?_; rintro e w1 ⟨g1, rfl, hc1, hb1⟩; have HC1 := Lib.hid hc1; clear hc1; obtain ⟨x1, rfl⟩ := Ext.of hb1) | (go_at_call 12; (with_reducible refine Calls.mono (L1.out _) ?_); rintro e w2 ⟨a2, c2, rfl, hr2, hb2⟩; have HR2 := Lib.hid hr2; clear hr2; obtain ⟨x2, rfl⟩ := Ext.of hb2) | (go_at_call 12; (with_reducible refine Calls.mono (L2.out _) ?_); rintro e w3 ⟨a3, c3, rfl, hr3, hb3⟩; have HR3 := Lib.hid hr3; clear hr3; obtain ⟨x3, rfl⟩ := Ext.of hb3) | (go_at_call 10; refine Calls.mono (MG.out _ _ _ _ _ (HC1.out.mono (by repeat (first | with_reducible exact Below.refl _ _ | with_reducible assumption | with_reducible refine Below.al ?_ _ | with_reducible refine Below.on ?_ _ | with_reducible refine Below.st ?_ (by first | assumption | (simp; done) | (simp; omega)) _ | with_reducible refine Below.drew ?_)) (by have := x2.below.size; have := x3.below.size; simp at *; omega)) (by simp) (by simp [go_sem]) (by simp [go_sem]) (HR2.out.mono (by repeat (first | with_reducible exact Below.refl _ _ | with_reducible assumption | with_reducible refine Below.al ?_ _ | with_reducible refine Below.on ?_ _ | with_reducible refine Below.st ?_ (by first | assumption | (simp; done) | (simp; omega)) _ | with_reducible refine Below.drew ?_)) (by have := x3.below.size; simp at *; omega)) (HR3.out.mono (by repeat (first | with_reducible exact Below.refl _ _ | with_reducible assumption | with_reducible refine Below.al ?_ _ | with_reducible refine Below.on ?_ _ | with_reducible refine Below.st ?_ (by first | assumption | (simp; done) | (simp; omega)) _ | with_reducible refine Below.drew ?_)) (by simp))) ?_; rintro e w4 ⟨b4, o4, c4, rfl, hz4, k4, hb4⟩; have K4 := Lib.hid k4; have Z4 := Lib.hid hz4; clear k4 hz4; obtain ⟨x4, rfl⟩ := Ext.of hb4))
  have k4 := K4.out
  have z4 := Z4.out
  go_wp2_with (go_at_call 19; refine Calls.mono (LE.out _) ?_; rintro e w5 ⟨rfl, hb5⟩; obtain ⟨x5, rfl⟩ := Ext.of hb5)
  exact bodyPost_ret (v := .bool true) (by simp [results, Try.results17, go_sem, *]) rfl (⟨rfl, by repeat (first | with_reducible exact Below.refl _ _ | with_reducible assumption | with_reducible refine Below.al ?_ _ | with_reducible refine Below.on ?_ _ | with_reducible refine Below.st ?_ (by first | assumption | (simp; done) | (simp; omega)) _ | with_reducible refine Below.drew ?_)⟩)
end Go.Proofs.Ytgooffpmiilicaa
