/-
  THE MAKERS: keep.Value. Conditions: the choices lie in memory as 'IntsAt' says.
-/
import Derived.Test.YtfemekmkmiljdaaInt3
set_option linter.unusedVariables false
set_option linter.unusedSimpArgs false
namespace Go.Proofs.Ytfemekmkmiljdaa
open Go.RowKit
set_option maxHeartbeats 1000000 in
theorem valueOf_any (lv : Value) (zs : List Int) (n1 : ByteArray) (ty sc : Int) (nu : Bool) (w : World) (h : IntsAt w w.heap.size lv zs) :
    Calls Try.prog 24 #[.agg #[.string n1, .int .i64 ty, .int .i64 sc, .bool nu], lv] w fun e w' => e = .returned (valF ty nu zs).1.enc ∧ Below w.heap.size w w' := by
  have h3 : IntsAt ((w.alloc (.cells #[.string n1, .int .i64 ty, .int .i64 sc, .bool nu] 49)).alloc (.cells #[.bool false, .int .i64 0, .string ⟨#[]⟩] 44)) ((w.alloc (.cells #[.string n1, .int .i64 ty, .int .i64 sc, .bool nu] 49)).alloc (.cells #[.bool false, .int .i64 0, .string ⟨#[]⟩] 44)).heap.size lv zs :=
    ((h.to (fun k hk => Below.heap_alloc _ _ _ hk)).mono (B' := w.heap.size + 1) (by omega) |>.to (fun k hk => Below.heap_alloc _ _ _ (by simpa using hk))).mono (by simp)
  clear h
  obtain ⟨⟨⟨vn, vi, vs⟩, rr⟩, hv0⟩ : ∃ p, valF ty nu zs = p := ⟨_, rfl⟩
  rw [hv0]
  have hv := Lib.hid hv0
  clear hv0
  go_enter Try.func24, Try.ntmps24
  go_wp2_with fail
  go_region_held3 (fun w' => w'.cell? ⟨w.heap.size, 0, none⟩ = some (.string n1) ∧ w'.cell? ⟨w.heap.size, 1, none⟩ = some (.int .i64 ty) ∧ w'.cell? ⟨w.heap.size, 2, none⟩ = some (.int .i64 sc) ∧ w'.cell? ⟨w.heap.size, 3, none⟩ = some (.bool nu)) (refine ⟨?_, ?_, ?_, ?_⟩ <;> simp [go_sem, *])
    (first | (go_at_call 30; refine (from_any lv zs _ (h3.to (w' := World.drew _) (fun k hk => rfl))).mono ?_; rintro e w1 ⟨rfl, hb1, hs1⟩; replace hs1 : SrcAt w1 (w.heap.size + 1 + 1) zs := (by simpa using hs1); obtain ⟨x1, rfl⟩ := Ext.of hb1; have z0 : w.heap.size < x1.it.heap.size := x1.lt (by (first | assumption | (simp; done) | (simp; omega))); have z1 : w.heap.size + 1 < x1.it.heap.size := x1.lt (by (first | assumption | (simp; done) | (simp; omega))); have ne0 : w.heap.size ≠ w.heap.size + 1 + 1 := (by omega); have ne1 : w.heap.size + 1 ≠ w.heap.size + 1 + 1 := (by omega)) | (go_at_call 41; refine (value_eq hv.out _ _ _ _ hs1).mono ?_; rintro e w2 ⟨rfl, hm2, hs2⟩; obtain ⟨x2, rfl⟩ := ExtM.of hm2))
  go_wp2
  exact bodyPost_ret (v := .agg #[.bool vn, .int .i64 vi, .string vs]) (by simp [results, Try.results24, go_sem, *]) rfl (⟨rfl, Below.st (Below.st (Below.st (Moved.below (by repeat (first | with_reducible exact Below.refl _ _ | with_reducible assumption | with_reducible refine Below.al ?_ _ | with_reducible refine Below.on ?_ _ | with_reducible refine Below.st ?_ (by first | assumption | (simp; done) | (simp; omega)) _ | with_reducible refine Below.drew ?_)) hm2 (by omega)) (by simp) _) (by simp) _) (by simp) _⟩)
end Go.Proofs.Ytfemekmkmiljdaa
