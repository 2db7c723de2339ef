/-
  BOUNDS OF A NODE: interval.leaf but for IN. Conditions: none beyond those of the node.
-/
import Derived.Test.YtjojnakgadfgmaaPck
import Derived.Deep.MidRow
set_option linter.unusedVariables false
set_option linter.unusedSimpArgs false
namespace Go.Proofs.Ytjojnakgadfgmaa
open Go.RowKit
theorem Below.stc {a w : World} (h : Below a.heap.size a w) {b : Nat} (hp : a.heap.size ≤ b) (o : Nat) (vs : List Value) : Below a.heap.size a (w.setCells b o vs) := by
  induction vs generalizing o w with
  | nil => exact h
  | cons v r ih => exact ih (Below.st h (p := ⟨b, o, none⟩) hp v) (o + 1)
theorem there_new {w : World} (c : Array Value) (t : TypeId) (n : Nat) (hn : n = w.heap.size) : (w.alloc (.cells c t)).there n 0 c.size := by
  intro j hj
  subst hn
  rw [World.cell?_alloc_at _ _ _ _ rfl, World.frozen?_alloc_at _ _ _ _ rfl]
  exact ⟨by simp [hj], rfl⟩
theorem results_cell_mid {P : Program} {fn : Func} {p : Tmp} {ty : TypeId} (h : fn.results = #[.cell p ty]) (tmps : Array Value) (w : World) (b o : Nat) (cs : List Value) (d : TypeDesc)
    (hp : tmps.getD p undef = .pointer (some ⟨b, o, none⟩)) (hg : w.rangeAt b o cs) (hu : P.underlying ty = some d) (hd : d.isRow = true) (hi : (P.info? ty).map (·.size) = some cs.length) :
    (results fn tmps).run P w = .ok (.agg cs.toArray) w := by
  have hp' : tmps[p]?.getD undef = .pointer (some ⟨b, o, none⟩) := by simpa using hp
  simp [results, h, hp', asAddr, run_loadVar_mid w b o ty cs d hg hu hd hi]
def bndC (b : Bnd) : List Value := [.bool b.null, .bool b.some, .bool b.hasLo, .bool b.hasHi, .bool b.lo.null, .int .i64 b.lo.n, .string b.lo.s, .bool b.hi.null, .int .i64 b.hi.n, .string b.hi.s]
def vz : Val := ⟨false, 0, ⟨#[]⟩⟩
def bSome : Bnd := ⟨false, true, false, false, vz, vz⟩
def bOne (v : Val) : Bnd := ⟨false, true, true, true, v, v⟩
def bUp (v : Val) : Bnd := ⟨false, true, false, true, vz, v⟩
def bFrom (v : Val) : Bnd := ⟨false, true, true, false, v, vz⟩
def bNull : Bnd := ⟨true, false, false, false, vz, vz⟩
def bZero : Bnd := ⟨false, false, false, false, vz, vz⟩
def bAll : Bnd := ⟨true, true, false, false, vz, vz⟩
def leafF (op : Int) (v : Val) : Bnd × Bnd :=
  if op = 1 then (bOne v, bSome) else if op = 2 then (bSome, bOne v) else if op = 3 ∨ op = 4 then (bUp v, bFrom v) else if op = 5 ∨ op = 6 then (bFrom v, bUp v) else (bNull, bSome)
set_option maxRecDepth 8000 in
set_option maxHeartbeats 1000000 in
theorem leaf_1 (t col : Int) (vn : Bool) (n : Int) (s : ByteArray) (lv : Value) (a b : Int) (hlv : lv.oneCell' = true) (w : World) :
    Calls Try.prog 40 #[.int .i64 t, .agg #[.int .i64 1, .int .i64 col, .bool vn, .int .i64 n, .string s, lv, .int .i64 a, .int .i64 b]] w fun e w' => e = .returned (.agg #[.bool false, .bool true, .bool true, .bool true, .bool vn, .int .i64 n, .string s, .bool vn, .int .i64 n, .string s, .bool false, .bool true, .bool false, .bool false, .bool false, .int .i64 0, .string ⟨#[]⟩, .bool false, .int .i64 0, .string ⟨#[]⟩]) ∧ Below w.heap.size w w' := by
  go_enter Try.func40, Try.ntmps40
  go_upto_region 7 with fail
  go_wp2_with (refine wpList_store_mid rfl 74 _ _ rfl _ _ _ rfl rfl ?ht (by kernel_rfl) ?h1 ?hm)
  case ht => repeat (first | exact there_new _ _ _ (by simp) | refine World.there_alloc ?_ _)
  case h1 => simp [Value.oneCell']
  case hm =>
    refine bodyPost_ret (v := .agg #[.bool false, .bool true, .bool true, .bool true, .bool vn, .int .i64 n, .string s, .bool vn, .int .i64 n, .string s, .bool false, .bool true, .bool false, .bool false, .bool false, .int .i64 0, .string ⟨#[]⟩, .bool false, .int .i64 0, .string ⟨#[]⟩]) ?hr rfl ⟨rfl, ?hb⟩
    case hr =>
      refine results_cell_mid Try.results40 _ _ (w.heap.size + 1) 0 [.bool false, .bool true, .bool true, .bool true, .bool vn, .int .i64 n, .string s, .bool vn, .int .i64 n, .string s, .bool false, .bool true, .bool false, .bool false, .bool false, .int .i64 0, .string ⟨#[]⟩, .bool false, .int .i64 0, .string ⟨#[]⟩] _ rfl ?_ Try.underlying74 rfl (by kernel_rfl)
      refine World.rangeAt_setCells_same _ _ _ _ ?_
      repeat (first | exact there_new _ _ _ (by simp) | refine World.there_alloc ?_ _)
    case hb => exact (by repeat (first | with_reducible exact Below.refl _ _ | with_reducible assumption | with_reducible refine Below.al ?_ _ | with_reducible refine Below.on ?_ _ | with_reducible refine Below.stc ?_ (by simp) _ _ | with_reducible refine Below.drew ?_))
set_option maxRecDepth 8000 in
set_option maxHeartbeats 1000000 in
theorem leaf_2 (t col : Int) (vn : Bool) (n : Int) (s : ByteArray) (lv : Value) (a b : Int) (hlv : lv.oneCell' = true) (w : World) :
    Calls Try.prog 40 #[.int .i64 t, .agg #[.int .i64 2, .int .i64 col, .bool vn, .int .i64 n, .string s, lv, .int .i64 a, .int .i64 b]] w fun e w' => e = .returned (.agg #[.bool false, .bool true, .bool false, .bool false, .bool false, .int .i64 0, .string ⟨#[]⟩, .bool false, .int .i64 0, .string ⟨#[]⟩, .bool false, .bool true, .bool true, .bool true, .bool vn, .int .i64 n, .string s, .bool vn, .int .i64 n, .string s]) ∧ Below w.heap.size w w' := by
  go_enter Try.func40, Try.ntmps40
  go_upto_region 9 with fail
  go_wp2_with (refine wpList_store_mid rfl 74 _ _ rfl _ _ _ rfl rfl ?ht (by kernel_rfl) ?h1 ?hm)
  case ht => repeat (first | exact there_new _ _ _ (by simp) | refine World.there_alloc ?_ _)
  case h1 => simp [Value.oneCell']
  case hm =>
    refine bodyPost_ret (v := .agg #[.bool false, .bool true, .bool false, .bool false, .bool false, .int .i64 0, .string ⟨#[]⟩, .bool false, .int .i64 0, .string ⟨#[]⟩, .bool false, .bool true, .bool true, .bool true, .bool vn, .int .i64 n, .string s, .bool vn, .int .i64 n, .string s]) ?hr rfl ⟨rfl, ?hb⟩
    case hr =>
      refine results_cell_mid Try.results40 _ _ (w.heap.size + 1) 0 [.bool false, .bool true, .bool false, .bool false, .bool false, .int .i64 0, .string ⟨#[]⟩, .bool false, .int .i64 0, .string ⟨#[]⟩, .bool false, .bool true, .bool true, .bool true, .bool vn, .int .i64 n, .string s, .bool vn, .int .i64 n, .string s] _ rfl ?_ Try.underlying74 rfl (by kernel_rfl)
      refine World.rangeAt_setCells_same _ _ _ _ ?_
      repeat (first | exact there_new _ _ _ (by simp) | refine World.there_alloc ?_ _)
    case hb => exact (by repeat (first | with_reducible exact Below.refl _ _ | with_reducible assumption | with_reducible refine Below.al ?_ _ | with_reducible refine Below.on ?_ _ | with_reducible refine Below.stc ?_ (by simp) _ _ | with_reducible refine Below.drew ?_))
set_option maxRecDepth 8000 in
set_option maxHeartbeats 1000000 in
theorem leaf_3 (t col : Int) (vn : Bool) (n : Int) (s : ByteArray) (lv : Value) (a b : Int) (hlv : lv.oneCell' = true) (w : World) :
    Calls Try.prog 40 #[.int .i64 t, .agg #[.int .i64 3, .int .i64 col, .bool vn, .int .i64 n, .string s, lv, .int .i64 a, .int .i64 b]] w fun e w' => e = .returned (.agg #[.bool false, .bool true, .bool false, .bool true, .bool false, .int .i64 0, .string ⟨#[]⟩, .bool vn, .int .i64 n, .string s, .bool false, .bool true, .bool true, .bool false, .bool vn, .int .i64 n, .string s, .bool false, .int .i64 0, .string ⟨#[]⟩]) ∧ Below w.heap.size w w' := by
  go_enter Try.func40, Try.ntmps40
  go_upto_region 12 with fail
  go_wp2_with (refine wpList_store_mid rfl 74 _ _ rfl _ _ _ rfl rfl ?ht (by kernel_rfl) ?h1 ?hm)
  case ht => repeat (first | exact there_new _ _ _ (by simp) | refine World.there_alloc ?_ _)
  case h1 => simp [Value.oneCell']
  case hm =>
    refine bodyPost_ret (v := .agg #[.bool false, .bool true, .bool false, .bool true, .bool false, .int .i64 0, .string ⟨#[]⟩, .bool vn, .int .i64 n, .string s, .bool false, .bool true, .bool true, .bool false, .bool vn, .int .i64 n, .string s, .bool false, .int .i64 0, .string ⟨#[]⟩]) ?hr rfl ⟨rfl, ?hb⟩
    case hr =>
      refine results_cell_mid Try.results40 _ _ (w.heap.size + 1) 0 [.bool false, .bool true, .bool false, .bool true, .bool false, .int .i64 0, .string ⟨#[]⟩, .bool vn, .int .i64 n, .string s, .bool false, .bool true, .bool true, .bool false, .bool vn, .int .i64 n, .string s, .bool false, .int .i64 0, .string ⟨#[]⟩] _ rfl ?_ Try.underlying74 rfl (by kernel_rfl)
      refine World.rangeAt_setCells_same _ _ _ _ ?_
      repeat (first | exact there_new _ _ _ (by simp) | refine World.there_alloc ?_ _)
    case hb => exact (by repeat (first | with_reducible exact Below.refl _ _ | with_reducible assumption | with_reducible refine Below.al ?_ _ | with_reducible refine Below.on ?_ _ | with_reducible refine Below.stc ?_ (by simp) _ _ | with_reducible refine Below.drew ?_))
set_option maxRecDepth 8000 in
set_option maxHeartbeats 1000000 in
theorem leaf_4 (t col : Int) (vn : Bool) (n : Int) (s : ByteArray) (lv : Value) (a b : Int) (hlv : lv.oneCell' = true) (w : World) :
    Calls Try.prog 40 #[.int .i64 t, .agg #[.int .i64 4, .int .i64 col, .bool vn, .int .i64 n, .string s, lv, .int .i64 a, .int .i64 b]] w fun e w' => e = .returned (.agg #[.bool false, .bool true, .bool false, .bool true, .bool false, .int .i64 0, .string ⟨#[]⟩, .bool vn, .int .i64 n, .string s, .bool false, .bool true, .bool true, .bool false, .bool vn, .int .i64 n, .string s, .bool false, .int .i64 0, .string ⟨#[]⟩]) ∧ Below w.heap.size w w' := by
  go_enter Try.func40, Try.ntmps40
  go_upto_region 12 with fail
  go_wp2_with (refine wpList_store_mid rfl 74 _ _ rfl _ _ _ rfl rfl ?ht (by kernel_rfl) ?h1 ?hm)
  case ht => repeat (first | exact there_new _ _ _ (by simp) | refine World.there_alloc ?_ _)
  case h1 => simp [Value.oneCell']
  case hm =>
    refine bodyPost_ret (v := .agg #[.bool false, .bool true, .bool false, .bool true, .bool false, .int .i64 0, .string ⟨#[]⟩, .bool vn, .int .i64 n, .string s, .bool false, .bool true, .bool true, .bool false, .bool vn, .int .i64 n, .string s, .bool false, .int .i64 0, .string ⟨#[]⟩]) ?hr rfl ⟨rfl, ?hb⟩
    case hr =>
      refine results_cell_mid Try.results40 _ _ (w.heap.size + 1) 0 [.bool false, .bool true, .bool false, .bool true, .bool false, .int .i64 0, .string ⟨#[]⟩, .bool vn, .int .i64 n, .string s, .bool false, .bool true, .bool true, .bool false, .bool vn, .int .i64 n, .string s, .bool false, .int .i64 0, .string ⟨#[]⟩] _ rfl ?_ Try.underlying74 rfl (by kernel_rfl)
      refine World.rangeAt_setCells_same _ _ _ _ ?_
      repeat (first | exact there_new _ _ _ (by simp) | refine World.there_alloc ?_ _)
    case hb => exact (by repeat (first | with_reducible exact Below.refl _ _ | with_reducible assumption | with_reducible refine Below.al ?_ _ | with_reducible refine Below.on ?_ _ | with_reducible refine Below.stc ?_ (by simp) _ _ | with_reducible refine Below.drew ?_))
set_option maxRecDepth 8000 in
set_option maxHeartbeats 1000000 in
theorem leaf_5 (t col : Int) (vn : Bool) (n : Int) (s : ByteArray) (lv : Value) (a b : Int) (hlv : lv.oneCell' = true) (w : World) :
    Calls Try.prog 40 #[.int .i64 t, .agg #[.int .i64 5, .int .i64 col, .bool vn, .int .i64 n, .string s, lv, .int .i64 a, .int .i64 b]] w fun e w' => e = .returned (.agg #[.bool false, .bool true, .bool true, .bool false, .bool vn, .int .i64 n, .string s, .bool false, .int .i64 0, .string ⟨#[]⟩, .bool false, .bool true, .bool false, .bool true, .bool false, .int .i64 0, .string ⟨#[]⟩, .bool vn, .int .i64 n, .string s]) ∧ Below w.heap.size w w' := by
  go_enter Try.func40, Try.ntmps40
  go_upto_region 15 with fail
  go_wp2_with (refine wpList_store_mid rfl 74 _ _ rfl _ _ _ rfl rfl ?ht (by kernel_rfl) ?h1 ?hm)
  case ht => repeat (first | exact there_new _ _ _ (by simp) | refine World.there_alloc ?_ _)
  case h1 => simp [Value.oneCell']
  case hm =>
    refine bodyPost_ret (v := .agg #[.bool false, .bool true, .bool true, .bool false, .bool vn, .int .i64 n, .string s, .bool false, .int .i64 0, .string ⟨#[]⟩, .bool false, .bool true, .bool false, .bool true, .bool false, .int .i64 0, .string ⟨#[]⟩, .bool vn, .int .i64 n, .string s]) ?hr rfl ⟨rfl, ?hb⟩
    case hr =>
      refine results_cell_mid Try.results40 _ _ (w.heap.size + 1) 0 [.bool false, .bool true, .bool true, .bool false, .bool vn, .int .i64 n, .string s, .bool false, .int .i64 0, .string ⟨#[]⟩, .bool false, .bool true, .bool false, .bool true, .bool false, .int .i64 0, .string ⟨#[]⟩, .bool vn, .int .i64 n, .string s] _ rfl ?_ Try.underlying74 rfl (by kernel_rfl)
      refine World.rangeAt_setCells_same _ _ _ _ ?_
      repeat (first | exact there_new _ _ _ (by simp) | refine World.there_alloc ?_ _)
    case hb => exact (by repeat (first | with_reducible exact Below.refl _ _ | with_reducible assumption | with_reducible refine Below.al ?_ _ | with_reducible refine Below.on ?_ _ | with_reducible refine Below.stc ?_ (by simp) _ _ | with_reducible refine Below.drew ?_))
set_option maxRecDepth 8000 in
set_option maxHeartbeats 1000000 in
theorem leaf_6 (t col : Int) (vn : Bool) (n : Int) (s : ByteArray) (lv : Value) (a b : Int) (hlv : lv.oneCell' = true) (w : World) :
    Calls Try.prog 40 #[.int .i64 t, .agg #[.int .i64 6, .int .i64 col, .bool vn, .int .i64 n, .string s, lv, .int .i64 a, .int .i64 b]] w fun e w' => e = .returned (.agg #[.bool false, .bool true, .bool true, .bool false, .bool vn, .int .i64 n, .string s, .bool false, .int .i64 0, .string ⟨#[]⟩, .bool false, .bool true, .bool false, .bool true, .bool false, .int .i64 0, .string ⟨#[]⟩, .bool vn, .int .i64 n, .string s]) ∧ Below w.heap.size w w' := by
  go_enter Try.func40, Try.ntmps40
  go_upto_region 15 with fail
  go_wp2_with (refine wpList_store_mid rfl 74 _ _ rfl _ _ _ rfl rfl ?ht (by kernel_rfl) ?h1 ?hm)
  case ht => repeat (first | exact there_new _ _ _ (by simp) | refine World.there_alloc ?_ _)
  case h1 => simp [Value.oneCell']
  case hm =>
    refine bodyPost_ret (v := .agg #[.bool false, .bool true, .bool true, .bool false, .bool vn, .int .i64 n, .string s, .bool false, .int .i64 0, .string ⟨#[]⟩, .bool false, .bool true, .bool false, .bool true, .bool false, .int .i64 0, .string ⟨#[]⟩, .bool vn, .int .i64 n, .string s]) ?hr rfl ⟨rfl, ?hb⟩
    case hr =>
      refine results_cell_mid Try.results40 _ _ (w.heap.size + 1) 0 [.bool false, .bool true, .bool true, .bool false, .bool vn, .int .i64 n, .string s, .bool false, .int .i64 0, .string ⟨#[]⟩, .bool false, .bool true, .bool false, .bool true, .bool false, .int .i64 0, .string ⟨#[]⟩, .bool vn, .int .i64 n, .string s] _ rfl ?_ Try.underlying74 rfl (by kernel_rfl)
      refine World.rangeAt_setCells_same _ _ _ _ ?_
      repeat (first | exact there_new _ _ _ (by simp) | refine World.there_alloc ?_ _)
    case hb => exact (by repeat (first | with_reducible exact Below.refl _ _ | with_reducible assumption | with_reducible refine Below.al ?_ _ | with_reducible refine Below.on ?_ _ | with_reducible refine Below.stc ?_ (by simp) _ _ | with_reducible refine Below.drew ?_))
set_option maxRecDepth 8000 in
set_option maxHeartbeats 1000000 in
theorem leaf_8 (t col : Int) (vn : Bool) (n : Int) (s : ByteArray) (lv : Value) (a b : Int) (hlv : lv.oneCell' = true) (w : World) :
    Calls Try.prog 40 #[.int .i64 t, .agg #[.int .i64 8, .int .i64 col, .bool vn, .int .i64 n, .string s, lv, .int .i64 a, .int .i64 b]] w fun e w' => e = .returned (.agg #[.bool true, .bool false, .bool false, .bool false, .bool false, .int .i64 0, .string ⟨#[]⟩, .bool false, .int .i64 0, .string ⟨#[]⟩, .bool false, .bool true, .bool false, .bool false, .bool false, .int .i64 0, .string ⟨#[]⟩, .bool false, .int .i64 0, .string ⟨#[]⟩]) ∧ Below w.heap.size w w' := by
  go_enter Try.func40, Try.ntmps40
  go_upto_region 17 with fail
  go_wp2_with (refine wpList_store_mid rfl 74 _ _ rfl _ _ _ rfl rfl ?ht (by kernel_rfl) ?h1 ?hm)
  case ht => repeat (first | exact there_new _ _ _ (by simp) | refine World.there_alloc ?_ _)
  case h1 => simp [Value.oneCell']
  case hm =>
    refine bodyPost_ret (v := .agg #[.bool true, .bool false, .bool false, .bool false, .bool false, .int .i64 0, .string ⟨#[]⟩, .bool false, .int .i64 0, .string ⟨#[]⟩, .bool false, .bool true, .bool false, .bool false, .bool false, .int .i64 0, .string ⟨#[]⟩, .bool false, .int .i64 0, .string ⟨#[]⟩]) ?hr rfl ⟨rfl, ?hb⟩
    case hr =>
      refine results_cell_mid Try.results40 _ _ (w.heap.size + 1) 0 [.bool true, .bool false, .bool false, .bool false, .bool false, .int .i64 0, .string ⟨#[]⟩, .bool false, .int .i64 0, .string ⟨#[]⟩, .bool false, .bool true, .bool false, .bool false, .bool false, .int .i64 0, .string ⟨#[]⟩, .bool false, .int .i64 0, .string ⟨#[]⟩] _ rfl ?_ Try.underlying74 rfl (by kernel_rfl)
      refine World.rangeAt_setCells_same _ _ _ _ ?_
      repeat (first | exact there_new _ _ _ (by simp) | refine World.there_alloc ?_ _)
    case hb => exact (by repeat (first | with_reducible exact Below.refl _ _ | with_reducible assumption | with_reducible refine Below.al ?_ _ | with_reducible refine Below.on ?_ _ | with_reducible refine Below.stc ?_ (by simp) _ _ | with_reducible refine Below.drew ?_))
end Go.Proofs.Ytjojnakgadfgmaa
