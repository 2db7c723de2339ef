/-
  THE WALKS of the small functions of wide: each returns what the plain arithmetic says; memory that was there stays as it was.
  Conditions: the low limbs are numbers of 64 bits.
-/
import Derived.Test.YtapjndhbdpbjcaaDoorRows
import Derived.Test.YtapjndhbdpbjcaaDoorArith
import Derived.Test.YtapjndhbdpbjcaaDoorTail
namespace Go.Proofs.YtapjndhbdpbjcaaDoor
open Go.RowKit

theorem add64_run (x y c : Int) (hx : 0 ≤ x) (hy : 0 ≤ y) (hc0 : 0 ≤ c) (hc : c ≤ 1) (w : World) :
    (callFunc 15 #[.int .u64 x, .int .u64 y, .int .u64 c]).run Tryd.prog w = .ok (.value (.tuple #[.int .u64 (sumLo x y c), .int .u64 (sumC x y c)])) w := by
  rw [run_callFunc_extern Tryd.func15 (by kernel_rfl) (by kernel_rfl) (by kernel_rfl) (e := add64Entry) (by kernel_rfl), run_add64 x y c hx hy hc0 hc]
  rfl

set_option maxHeartbeats 400000 in
theorem add_any (h1 l1 h2 l2 : Int) (b1 : isU l1) (b2 : isU l2) (w : World) :
    Calls Tryd.prog 28 #[.agg #[.int .i64 h1, .int .u64 l1], .agg #[.int .i64 h2, .int .u64 l2]] w fun e w' =>
      e = .returned (.agg #[.int .i64 (addHi h1 l1 h2 l2), .int .u64 (addLo l1 l2)]) ∧ Below w.heap.size w w' := by
  have c := sumC_bd b1 b2 (Int.le_refl 0) (by omega)
  have e1 := fun w => add64_run l1 l2 0 b1.1 b2.1 (Int.le_refl 0) (by omega) w
  have e2 := fun w => add64_run (IntKind.u64.wrap h1) (IntKind.u64.wrap h2) (sumC l1 l2 0) (wrapU h1).1 (wrapU h2).1 c.1 c.2 w
  clear c b1 b2
  go_enter Tryd.func28, Tryd.ntmps28
  go_wp2
  exact bodyPost_ret (v := .agg #[.int .i64 (addHi h1 l1 h2 l2), .int .u64 (addLo l1 l2)]) (by simp [results, Tryd.results28, go_sem, addHi, addLo]) rfl ⟨rfl, by repeat (first | exact Below.refl _ _ | apply Below.al | apply Below.on | (refine Below.st ?_ (by simp) _) | apply Below.drew)⟩

set_option maxHeartbeats 400000 in
theorem of_any (n : Int) (w : World) :
    Calls Tryd.prog 18 #[.int .i64 n] w fun e w' => e = .returned (.agg #[.int .i64 (ofHi n), .int .u64 (ofLo n)]) ∧ Below w.heap.size w w' := by
  go_enter Tryd.func18, Tryd.ntmps18
  go_wp2
  exact bodyPost_ret (v := .agg #[.int .i64 (ofHi n), .int .u64 (ofLo n)]) (by simp [results, Tryd.results18, go_sem, ofHi, ofLo]) rfl ⟨rfl, by repeat (first | exact Below.refl _ _ | apply Below.al | apply Below.on | (refine Below.st ?_ (by simp) _) | apply Below.drew)⟩

theorem not_hi (h : Int) (a : isI h) : bits BinOp.xor IntKind.i64 (-1) h = notHi h := by
  show IntKind.i64.wrap ((BitVec.ofInt 64 (-1) ^^^ BitVec.ofInt 64 h).toNat : Int) = _
  have h1 : BitVec.ofInt 64 (-1) = BitVec.allOnes 64 := by decide
  rw [h1, BitVec.allOnes_xor, BitVec.toNat_not, BitVec.toNat_ofInt]
  unfold isI at a; unfold notHi
  simp [IntKind.wrap, IntKind.bits, IntKind.signed]
  omega
theorem not_lo (l : Int) (a : isU l) : bits BinOp.xor IntKind.u64 IntKind.u64.max l = notLo l := by
  show IntKind.u64.wrap ((BitVec.ofInt 64 IntKind.u64.max ^^^ BitVec.ofInt 64 l).toNat : Int) = _
  have h1 : BitVec.ofInt 64 IntKind.u64.max = BitVec.allOnes 64 := by decide
  rw [h1, BitVec.allOnes_xor, BitVec.toNat_not, BitVec.toNat_ofInt]
  unfold isU at a; unfold notLo
  simp [IntKind.wrap, IntKind.bits, IntKind.signed]
  omega

set_option maxHeartbeats 400000 in
theorem neg_any (h l : Int) (a : isI h) (b : isU l) (w : World) :
    Calls Tryd.prog 16 #[.agg #[.int .i64 h, .int .u64 l]] w fun e w' => e = .returned (.agg #[.int .i64 (negHi h l), .int .u64 (negLo l)]) ∧ Below w.heap.size w w' := by
  have x1 := not_hi h a
  have x2 := not_lo l b
  have un := isU_notLo b
  clear a b
  have s1 : IntKind.i64.signed = true := rfl
  have s2 : IntKind.u64.signed = false := rfl
  go_enter Tryd.func16, Tryd.ntmps16
  go_wp2
  refine wp_region_ext_tail 9 (by kernel_rfl) (by kernel_rfl) ?_
  dsimp only [List.take, List.drop]
  repeat (go_big_quiet_step ((first
    | (go_at_call 18; exact Calls.ext (of_any _ _))
    | (go_at_call 28; exact Calls.ext (add_any _ _ _ _ un (isU_ofLo 1) _)))))
  refine wpQuiet_nil ?_
  rintro _ ⟨x, rfl⟩
  go_wp2
  refine bodyPost_ret (v := .agg #[.int .i64 (negHi h l), .int .u64 (negLo l)]) (by simp [results, Tryd.results16, go_sem, negHi, negLo]) rfl ⟨rfl, by repeat (first | exact Below.refl _ _ | apply Below.al | apply Below.on | (refine Below.st ?_ (by simp) _) | apply Below.drew)⟩

/-- Equality of two numbers. -/
@[go_sem high] theorem run_eqW (a b c d : Int) (w : World) : (binOp .eql 24 (.agg #[.int .i64 a, .int .u64 b]) (.agg #[.int .i64 c, .int .u64 d])).run Tryd.prog w = .ok (.bool (eqW a b c d)) w := by
  rw [run_eql_struct, run_equalIn_agg _ _ _ _ _ (by kernel_rfl) (by kernel_rfl)]
  have hf : (Tryd.prog.fieldsOf 24).toList = [{ name := "Hi", type := 2, offset := 0, embedded := false, tag := "", pkgPath := "", byteOffset := 0 }, { name := "Lo", type := 22, offset := 1, embedded := false, tag := "", pkgPath := "", byteOffset := 8 }] := by kernel_rfl
  rw [hf]
  simp [go_sem, Op.eqFields, eqW]
  by_cases h1 : a = c <;> by_cases h2 : b = d <;> simp [h1, h2]
@[go_sem high] theorem run_neW (a b c d : Int) (w : World) : (binOp .neq 24 (.agg #[.int .i64 a, .int .u64 b]) (.agg #[.int .i64 c, .int .u64 d])).run Tryd.prog w = .ok (.bool (!eqW a b c d)) w := by
  rw [run_neq_struct, run_equalIn_agg _ _ _ _ _ (by kernel_rfl) (by kernel_rfl)]
  have hf : (Tryd.prog.fieldsOf 24).toList = [{ name := "Hi", type := 2, offset := 0, embedded := false, tag := "", pkgPath := "", byteOffset := 0 }, { name := "Lo", type := 22, offset := 1, embedded := false, tag := "", pkgPath := "", byteOffset := 8 }] := by kernel_rfl
  rw [hf]
  simp [go_sem, Op.eqFields, eqW]
  by_cases h1 : a = c <;> by_cases h2 : b = d <;> simp [h1, h2]

end Go.Proofs.YtapjndhbdpbjcaaDoor
