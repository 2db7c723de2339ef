/-
  MERGEEXAMPLES: the walk. Conditions: none.
-/
import Derived.Test.YtgooffpmiilicaaMaw
set_option linter.unusedVariables false
set_option linter.unusedSimpArgs false
namespace Go.Proofs.Ytgooffpmiilicaa
open Go.RowKit Srt
def bLs : List (List Rc) := [listF 1 [1, 5], listF 3 [2, 3]]
def bKs : List Int := [1, 2, 3, 5]
def bOut : List Rc := [⟨1, [⟨false, 1, ⟨#[]⟩⟩]⟩, ⟨3, [⟨false, 2, ⟨#[]⟩⟩]⟩, ⟨4, [⟨false, 3, ⟨#[]⟩⟩]⟩, ⟨2, [⟨false, 5, ⟨#[]⟩⟩]⟩]
theorem b_sorted : sortB [aCol] 0 bLs = true := by
  unfold sortB bLs
  simp only [List.all_cons, List.all_nil, Bool.and_true, Bool.and_eq_true]
  constructor <;> (unfold sortedF validF; rw [a_schema]; simp [listF, badR, rowE, rowEs, aCol, vchk, permF, a_tl0, ascF, recD, rankF, cmpR, cmpV, cmpI, orF, tyK])
theorem b_merge : mergeE [aCol] 0 bLs = 0 ∧ mergeR [aCol] 0 bLs = bOut := by
  obtain ⟨h1, h2⟩ := mergeE_ok (Ls := bLs) a_schema (by simp [bLs]) (by simp [longB, bLs, listF]) b_sorted
  refine ⟨h1, ?_⟩
  rw [h2]
  simp [bLs, bOut, listF, srt, srtR, insR, recD, rankF, cmpR, cmpV, cmpI, orF, tyK, aCol]
theorem b_out (k : Nat) (hk : k < bOut.length) (hk' : k < bKs.length) : (bOut[k]'hk).row = [⟨false, bKs[k]'hk', ⟨#[]⟩⟩] := by
  rcases k with _ | _ | _ | _ | k
  · rfl
  · rfl
  · rfl
  · rfl
  · simp [bOut] at hk; omega
set_option maxRecDepth 8000 in
set_option maxHeartbeats 1000000 in
theorem mex_walk (w : World) : Calls Try.prog 3 #[] w fun e w' => e = .returned (.bool true) ∧ Below w.heap.size w w' := by
  have L1 : Hid (∀ W : World, Calls Try.prog 12 #[.int .i64 1, .slice (some ⟨W.heap.size, 0, none⟩) 2 2] (W.alloc (.cells #[.int .i64 1, .int .i64 5] 2)) (LitPost (W.alloc (.cells #[.int .i64 1, .int .i64 5] 2)) (listF 1 [1, 5]) 2)) := Lib.hid (fun W => list_lit 1 [1, 5] 2 W (by decide) (by decide) (by decide) (by simp) (by decide) _ rfl)
  have L2 : Hid (∀ W : World, Calls Try.prog 12 #[.int .i64 3, .slice (some ⟨W.heap.size, 0, none⟩) 2 2] (W.alloc (.cells #[.int .i64 2, .int .i64 3] 2)) (LitPost (W.alloc (.cells #[.int .i64 2, .int .i64 3] 2)) (listF 3 [2, 3]) 2)) := Lib.hid (fun W => list_lit 3 [2, 3] 2 W (by decide) (by decide) (by decide) (by simp) (by decide) _ rfl)
  have MG : Hid (∀ (W : World) (cv : Value) (g : Nat) (v0 v1 : Value), ColsAt W W.heap.size cv [aCol] → g < W.heap.size → W.cell? ⟨g, 0, none⟩ = some v0 → W.cell? ⟨g, 1, none⟩ = some v1 → RecsAt W W.heap.size v0 (listF 1 [1, 5]) → RecsAt W W.heap.size v1 (listF 3 [2, 3]) → Calls Try.prog 10 #[.agg #[cv, .int .i64 0], .slice (some ⟨g, 0, none⟩) 2 2] W fun e w' => ∃ a c, e = .returned (.tuple #[.slice a 4 c, .int .i64 0]) ∧ RecsAt w' w'.heap.size (.slice a 4 c) bOut ∧ Below W.heap.size W w') := Lib.hid (fun W cv g v0 v1 hc hg c0 c1 h0 h1 => by
    refine Calls.mono (merge_any cv [aCol] 0 _ bLs W hc (parts_two hg c0 c1 h0 h1)) ?_
    rintro e w' ⟨v, rfl, hr, hb⟩
    rw [b_merge.1]
    rw [b_merge.2] at hr
    obtain ⟨a, c, rfl⟩ := recs_end hr
    exact ⟨a, c, rfl, hr, hb⟩)
  go_enter Try.func3, Try.ntmps3
  go_upto_region 2 with (first | (go_at_call 11; refine Calls.mono (one_any _) ?_; rintro e w1 ⟨g1, rfl, hc1, hb1⟩; have HC1 := Lib.hid hc1; clear hc1; obtain ⟨x1, rfl⟩ := Ext.of hb1) | (go_at_call 12; (with_reducible refine Calls.mono (L1.out _) ?_); rintro e w2 ⟨a2, c2, rfl, hr2, hb2⟩; have HR2 := Lib.hid hr2; clear hr2; obtain ⟨x2, rfl⟩ := Ext.of hb2) | (go_at_call 12; (with_reducible refine Calls.mono (L2.out _) ?_); rintro e w3 ⟨a3, c3, rfl, hr3, hb3⟩; have HR3 := Lib.hid hr3; clear hr3; obtain ⟨x3, rfl⟩ := Ext.of hb3) | (go_at_call 10; refine Calls.mono (MG.out _ _ _ _ _ (HC1.out.mono (by repeat (first | with_reducible exact Below.refl _ _ | with_reducible assumption | with_reducible refine Below.al ?_ _ | with_reducible refine Below.on ?_ _ | with_reducible refine Below.st ?_ (by first | assumption | (simp; done) | (simp; omega)) _ | with_reducible refine Below.drew ?_)) (by have := x2.below.size; have := x3.below.size; simp at *; omega)) (by simp) (by simp [go_sem]) (by simp [go_sem]) (HR2.out.mono (by repeat (first | with_reducible exact Below.refl _ _ | with_reducible assumption | with_reducible refine Below.al ?_ _ | with_reducible refine Below.on ?_ _ | with_reducible refine Below.st ?_ (by first | assumption | (simp; done) | (simp; omega)) _ | with_reducible refine Below.drew ?_)) (by have := x3.below.size; simp at *; omega)) (HR3.out.mono (by repeat (first | with_reducible exact Below.refl _ _ | with_reducible assumption | with_reducible refine Below.al ?_ _ | with_reducible refine Below.on ?_ _ | with_reducible refine Below.st ?_ (by first | assumption | (simp; done) | (simp; omega)) _ | with_reducible refine Below.drew ?_)) (by simp))) ?_; rintro e w4 ⟨a4, c4, rfl, hr4, hb4⟩; have HR4 := Lib.hid hr4; clear hr4; obtain ⟨x4, rfl⟩ := Ext.of hb4))
  go_upto_region 4 with fail
  have yb : Below w.heap.size w x4.it := (by repeat (first | with_reducible exact Below.refl _ _ | with_reducible assumption | with_reducible refine Below.al ?_ _ | with_reducible refine Below.on ?_ _ | with_reducible refine Below.st ?_ (by first | assumption | (simp; done) | (simp; omega)) _ | with_reducible refine Below.drew ?_))
  clear hb1 hb2 hb3 hb4
  generalize x4.it = z at *
  clear x4
  clear HR3 HR2 HC1
  go_wp2_with fail
  refine captureM ?_
  intro y ey
  have yz : Below z.heap.size z y := by rw [ey]; exact (by repeat (first | with_reducible exact Below.refl _ _ | with_reducible assumption | with_reducible refine Below.al ?_ _ | with_reducible refine Below.on ?_ _ | with_reducible refine Below.st ?_ (by first | assumption | (simp; done) | (simp; omega)) _ | with_reducible refine Below.drew ?_))
  have KC : Hid (∀ (k : Nat) (h : k < bKs.length), y.cell? ⟨z.heap.size, k, none⟩ = some (.int .i64 (bKs[k]'h))) := Lib.hid (fun k h => by
    rw [ey, cell_of_row _ z.heap.size k _ _ (0, 0) (heap_alloc_new z _)]
    rcases k with _ | _ | _ | _ | k
    · rfl
    · rfl
    · rfl
    · rfl
    · simp [bKs] at h; omega)
  have ys : z.heap.size < y.heap.size := by rw [ey]; simp
  have HR5 := Lib.hid (HR4.out.mono yz yz.size)
  have YB := Lib.hid (Below.to yb yz)
  clear ey yb yz
  go_loopg [24] 4 (fun g st wr => ∃ k : Nat, k + g = 4 ∧ st = .int .i64 (k : Int) ∧ ∃ x : Ext y, x.it = wr)
  case atStart => exact ⟨0, by omega, rfl, ext_of (Below.refl _ _)⟩
  case round =>
    obtain ⟨k, hk, rfl, x, rfl⟩ := hrel
    have yb := YB.out
    by_cases hg0 : gk = 0
    · subst hg0
      obtain rfl : k = 4 := by omega
      clear hk
      go_wp2_with fail
      exact bodyPost_ret (v := .bool true) (by simp (maxDischargeDepth := 9) [results, Try.results3, go_sem, *]) rfl ⟨rfl, by repeat (first | with_reducible exact Below.refl _ _ | with_reducible assumption | with_reducible refine Below.al ?_ _ | with_reducible refine Below.on ?_ _ | with_reducible refine Below.st ?_ (by first | assumption | (simp; done) | (simp; omega)) _ | with_reducible refine Below.drew ?_)⟩
    · have hk4 : k < 4 := by omega
      have hk4' : (k : Int) < 4 := by omega
      obtain ⟨b, o, rfl, _, hb, c0, lv, c1, c2⟩ := recs_in HR5.out (i := k) (by simp [bOut]; omega)
      rw [b_out k (by simp [bOut]; omega) (by simp [bKs]; omega)] at c2
      have kc := KC.out k (by simp [bKs]; omega)
      obtain ⟨Z, hZ⟩ : ∃ Z, bKs[k]'(by simp [bKs]; omega) = Z := ⟨_, rfl⟩
      rw [hZ] at c2 kc
      obtain ⟨la, lc, rfl⟩ := vals_end c2
      obtain ⟨rb, ro, rfl, _, hrb, d0, d1, d2⟩ := vals_in c2 (i := 0) (by simp)
      simp only [List.getElem_cons_zero, Nat.zero_mul, Nat.add_zero, List.length_singleton] at d1 c1
      have f1 := (x.cell b (o + k * 2 + 1) hb).trans c1
      have f2 := (x.cell rb (ro + 1) hrb).trans d1
      have f3 := (x.cell z.heap.size k ys).trans kc
      have bz := x.lt hb
      have rz := x.lt hrb
      have yz2 := x.lt ys
      have GZ := Lib.hid (And.intro hk hg0)
      clear c0 c1 c2 d0 d1 d2 kc hZ hk hg0
      go_wp2_with fail
      go_roundg (gk - 1)
      case measure => have := GZ.out; omega
      case rel => exact ⟨k + 1, by have := GZ.out; omega, by go_num, x, rfl⟩
end Go.Proofs.Ytgooffpmiilicaa
