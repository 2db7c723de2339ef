/-
  BOUNDS: keep.Value; the law's makers column, bounds; awake. Conditions: each theorem states its own.
-/
import Derived.Test.YtjojnakgadfgmaaKeep
set_option linter.unusedVariables false
set_option linter.unusedSimpArgs false
namespace Go.Proofs.Ytjojnakgadfgmaa
open Go.RowKit
theorem value_eq {ty : Int} {nu : Bool} {r rr : List Int} {vn : Bool} {vi : Int} {vs : ByteArray} (hv : valF ty nu r = (⟨vn, vi, vs⟩, rr)) (sb : Nat) (n1 : ByteArray) (sc : Int) (w : World) (h : SrcAt w sb r) :
    Calls Try.prog 35 #[.pointer (some ⟨sb, 0, none⟩), .agg #[.string n1, .int .i64 ty, .int .i64 sc, .bool nu]] w fun e w' => e = .returned (.agg #[.bool vn, .int .i64 vi, .string vs]) ∧ Moved sb w w' ∧ SrcAt w' sb rr := by
  have := value_any sb r n1 ty sc nu w h
  rw [hv] at this
  exact this
set_option maxHeartbeats 1000000 in
theorem valueOf_any (lv : Value) (zs : List Int) (n1 : ByteArray) (ty sc : Int) (nu : Bool) (w : World) (h : IntsAt w w.heap.size lv zs) :
    Calls Try.prog 13 #[.agg #[.string n1, .int .i64 ty, .int .i64 sc, .bool nu], lv] w fun e w' => e = .returned (valF ty nu zs).1.enc ∧ Below w.heap.size w w' := by
  have h3 : IntsAt ((w.alloc (.cells #[.string n1, .int .i64 ty, .int .i64 sc, .bool nu] 28)).alloc (.cells #[.bool false, .int .i64 0, .string ⟨#[]⟩] 23)) ((w.alloc (.cells #[.string n1, .int .i64 ty, .int .i64 sc, .bool nu] 28)).alloc (.cells #[.bool false, .int .i64 0, .string ⟨#[]⟩] 23)).heap.size lv zs :=
    ((h.to (fun k hk => Below.heap_alloc _ _ _ hk)).mono (B' := w.heap.size + 1) (by omega) |>.to (fun k hk => Below.heap_alloc _ _ _ (by simpa using hk))).mono (by simp)
  clear h
  obtain ⟨⟨⟨vn, vi, vs⟩, rr⟩, hv0⟩ : ∃ p, valF ty nu zs = p := ⟨_, rfl⟩
  rw [hv0]
  have hv := Lib.hid hv0
  clear hv0
  go_enter Try.func13, Try.ntmps13
  go_wp2_with fail
  go_region_held3 (fun w' => w'.cell? ⟨w.heap.size, 0, none⟩ = some (.string n1) ∧ w'.cell? ⟨w.heap.size, 1, none⟩ = some (.int .i64 ty) ∧ w'.cell? ⟨w.heap.size, 2, none⟩ = some (.int .i64 sc) ∧ w'.cell? ⟨w.heap.size, 3, none⟩ = some (.bool nu)) (refine ⟨?_, ?_, ?_, ?_⟩ <;> simp [go_sem, *])
    (first | (go_at_call 32; refine (from_any lv zs _ (h3.to (w' := World.drew _) (fun k hk => rfl))).mono ?_; rintro e w1 ⟨rfl, hb1, hs1⟩; replace hs1 : SrcAt w1 (w.heap.size + 1 + 1) zs := (by simpa using hs1); obtain ⟨x1, rfl⟩ := Ext.of hb1; have z0 : w.heap.size < x1.it.heap.size := x1.lt (by (first | assumption | (simp; done) | (simp; omega))); have z1 : w.heap.size + 1 < x1.it.heap.size := x1.lt (by (first | assumption | (simp; done) | (simp; omega))); have ne0 : w.heap.size ≠ w.heap.size + 1 + 1 := (by omega); have ne1 : w.heap.size + 1 ≠ w.heap.size + 1 + 1 := (by omega)) | (go_at_call 35; refine (value_eq hv.out _ _ _ _ hs1).mono ?_; rintro e w2 ⟨rfl, hm2, hs2⟩; obtain ⟨x2, rfl⟩ := ExtM.of hm2))
  go_wp2
  exact bodyPost_ret (v := .agg #[.bool vn, .int .i64 vi, .string vs]) (by simp [results, Try.results13, go_sem, *]) rfl (⟨rfl, Below.st (Below.st (Below.st (Moved.below (by repeat (first | with_reducible exact Below.refl _ _ | with_reducible assumption | with_reducible refine Below.al ?_ _ | with_reducible refine Below.on ?_ _ | with_reducible refine Below.st ?_ (by first | assumption | (simp; done) | (simp; omega)) _ | with_reducible refine Below.drew ?_)) hm2 (by omega)) (by simp) _) (by simp) _) (by simp) _⟩)
set_option maxHeartbeats 1000000 in
theorem column_any (t : Int) (w : World) :
    Calls Try.prog 11 #[.int .i64 t] w fun e w' => e = .returned (.agg #[.string ⟨#[120]⟩, .int .i64 (1 + pickI t 5), .int .i64 0, .bool true]) ∧ Below w.heap.size w w' := by
  go_enter Try.func11, Try.ntmps11
  go_wp2_with (go_at_call 29; refine (pick_any _ _ (by decide) (by decide) _).mono ?_; rintro e w1 ⟨rfl, rfl⟩)
  have b5 := pickI_bd t (n := 5) (by decide)
  have e5 : wrap64 (1 + pickI t 5) = 1 + pickI t 5 := by unfold wrap64; omega
  exact bodyPost_ret (v := .agg #[.string ⟨#[120]⟩, .int .i64 (1 + pickI t 5), .int .i64 0, .bool true]) (by simp [results, Try.results11, go_sem, *]) rfl (⟨rfl, by repeat (first | with_reducible exact Below.refl _ _ | with_reducible assumption | with_reducible refine Below.al ?_ _ | with_reducible refine Below.on ?_ _ | with_reducible refine Below.st ?_ (by first | assumption | (simp; done) | (simp; omega)) _ | with_reducible refine Below.drew ?_)⟩)
end Go.Proofs.Ytjojnakgadfgmaa
