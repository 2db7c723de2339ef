/-
  THE SOURCE of choices: keep.Pick, keep.From, Source.Next, Source.Raw: a list of integers that are used one after another.
  Conditions: each theorem states its own.
-/
import Derived.Test.YtgooffpmiilicaaVal
set_option linter.unusedVariables false
set_option linter.unusedSimpArgs false
namespace Go.Proofs.Ytgooffpmiilicaa
open Go.RowKit

/-- a number of 64 bits, as it is stored in an int -/
def isI (x : Int) : Prop := -9223372036854775808 ≤ x ∧ x < 9223372036854775808
/-- keep.Pick -/
def pickI (v n : Int) : Int := v % 18446744073709551616 % n
def nextF (n : Int) : List Int → Int × List Int
  | [] => (0, [])
  | z :: r => (pickI z n, r)
def rawF : List Int → Int × List Int
  | [] => (0, [])
  | z :: r => (z, r)
theorem pickI_bd (v : Int) {n : Int} (h : 0 < n) : 0 ≤ pickI v n ∧ pickI v n < n := ⟨Int.emod_nonneg _ (by omega), Int.emod_lt_of_pos _ h⟩
theorem nextF_bd (r : List Int) {n : Int} (h : 0 < n) : 0 ≤ (nextF n r).1 ∧ (nextF n r).1 < n := by
  cases r with
  | nil => exact ⟨Int.le_refl _, h⟩
  | cons z r => exact pickI_bd z h

/-! ### Integers in memory -/
/-- In world w the value v is a slice of the integers zs, its cells in blocks below B. -/
def IntsAt (w : World) (B : Nat) (v : Value) (zs : List Int) : Prop :=
  (∀ z ∈ zs, isI z) ∧ zs.length ≤ 9223372036854775807 ∧
    ((zs = [] ∧ ∃ a c, v = .slice a 0 c) ∨ ∃ b o c, v = .slice (some ⟨b, o, none⟩) zs.length c ∧ b < B ∧ ∀ j, j < zs.length → w.cell? ⟨b, o + j, none⟩ = some (.int .i64 (zs.getD j 0)))
theorem IntsAt.to {w w' : World} {B : Nat} {v : Value} {zs : List Int} (h : IntsAt w B v zs) (hb : ∀ k, k < B → w'.heap[k]? = w.heap[k]?) : IntsAt w' B v zs := by
  refine ⟨h.1, h.2.1, h.2.2.imp id ?_⟩
  rintro ⟨b, o, c, h1, h2, h3⟩
  exact ⟨b, o, c, h1, h2, fun j hj => by rw [World.cell?_of_block (w := w) (hb b h2)]; exact h3 j hj⟩
theorem IntsAt.mono {w : World} {B B' : Nat} {v : Value} {zs : List Int} (h : IntsAt w B v zs) (hB : B ≤ B') : IntsAt w B' v zs :=
  ⟨h.1, h.2.1, h.2.2.imp id fun ⟨b, o, c, h1, h2, h3⟩ => ⟨b, o, c, h1, Nat.lt_of_lt_of_le h2 hB, h3⟩⟩

/-- Nothing that was there has turned but block sb. -/
structure Moved (sb : Nat) (w w' : World) : Prop where
  os : w'.os = w.os
  tape : w'.tape = w.tape
  output : w'.output = w.output
  size : w.heap.size ≤ w'.heap.size
  block : ∀ k, k < w.heap.size → k ≠ sb → w'.heap[k]? = w.heap[k]?
theorem Moved.refl (sb : Nat) (w : World) : Moved sb w w := ⟨rfl, rfl, rfl, Nat.le_refl _, fun _ _ _ => rfl⟩
theorem Moved.of_below {sb : Nat} {w w' : World} (h : Below w.heap.size w w') : Moved sb w w' := ⟨h.os, h.tape, h.output, h.size, fun k hk _ => h.block k hk⟩
theorem Moved.trans {sb : Nat} {a b c : World} (h : Moved sb a b) (k : Moved sb b c) : Moved sb a c :=
  ⟨k.os.trans h.os, k.tape.trans h.tape, k.output.trans h.output, Nat.le_trans h.size k.size, fun i hi hs => (k.block i (Nat.lt_of_lt_of_le hi h.size) hs).trans (h.block i hi hs)⟩
theorem Moved.below {sb : Nat} {a w w' : World} (h : Below a.heap.size a w) (k : Moved sb w w') (hs : a.heap.size ≤ sb) : Below a.heap.size a w' :=
  h.trans ⟨k.os, k.tape, k.output, k.size, fun i hi => k.block i (Nat.lt_of_lt_of_le hi h.size) (by omega)⟩
theorem Moved.al {sb : Nat} {a w : World} (h : Moved sb a w) (o : Obj) : Moved sb a (w.alloc o) :=
  h.trans ⟨rfl, rfl, rfl, by simp, fun k hk _ => Below.heap_alloc _ _ _ hk⟩
theorem Moved.drew {sb : Nat} {a w : World} (h : Moved sb a w) : Moved sb a w.drew := ⟨h.os, h.tape, h.output, h.size, h.block⟩
theorem Moved.st {sb : Nat} {a w : World} (h : Moved sb a w) (i : Nat) (sp : Option Nat) (u : Value) : Moved sb a (w.setCell ⟨sb, i, sp⟩ u) :=
  h.trans ⟨rfl, rfl, rfl, by simp [World.setCell], fun k _ hs => Below.heap_setCell _ _ _ _ hs⟩
theorem Moved.stn {sb : Nat} {a w : World} (h : Moved sb a w) {p : Addr} (hp : a.heap.size ≤ p.block) (u : Value) : Moved sb a (w.setCell p u) :=
  ⟨h.os, h.tape, h.output, by simpa [World.setCell] using h.size, fun k hk hs => (Below.heap_setCell _ _ _ _ (by omega)).trans (h.block k hk hs)⟩

/-- A world that holds all that W held but for block sb. -/
structure ExtM (W : World) (sb : Nat) where
  it : World
  moved : Moved sb W it
theorem ExtM.of {W w : World} {sb : Nat} (h : Moved sb W w) : ∃ x : ExtM W sb, w = x.it := ⟨⟨w, h⟩, rfl⟩
theorem ExtM.lt {W : World} {sb : Nat} (x : ExtM W sb) {n : Nat} (h : n < W.heap.size) : n < x.it.heap.size := Nat.lt_of_lt_of_le h x.moved.size
@[go_sem] theorem ExtM.cell {W : World} {sb : Nat} (x : ExtM W sb) (n i : Nat) (hn : n < W.heap.size) (hs : n ≠ sb) : x.it.cell? ⟨n, i, none⟩ = W.cell? ⟨n, i, none⟩ := World.cell?_of_block (w := W) (x.moved.block n hn hs)
@[go_sem] theorem ExtM.frozen {W : World} {sb : Nat} (x : ExtM W sb) (n i : Nat) (hn : n < W.heap.size) (hs : n ≠ sb) : x.it.frozen? ⟨n, i, none⟩ = W.frozen? ⟨n, i, none⟩ := World.frozen?_of_block (w := W) (x.moved.block n hn hs)
theorem Moved.on {a W : World} {sb : Nat} (h : Moved sb a W) (x : ExtM W sb) : Moved sb a x.it := h.trans x.moved
theorem Moved.onE {a W : World} {sb : Nat} (h : Moved sb a W) (x : Ext W) : Moved sb a x.it := h.trans (Moved.of_below x.below)

/-- In world w block sb is a source of which the choices r are left. -/
def SrcAt (w : World) (sb : Nat) (r : List Int) : Prop :=
  ∃ (zs : List Int) (i : Nat) (lv : Value), i ≤ zs.length ∧ r = zs.drop i ∧ sb < w.heap.size ∧ w.cell? ⟨sb, 0, none⟩ = some lv ∧ w.cell? ⟨sb, 1, none⟩ = some (.int .i64 i) ∧ (∀ j, w.frozen? ⟨sb, j, none⟩ = false) ∧ IntsAt w sb lv zs
theorem SrcAt.to {w w' : World} {sb : Nat} {r : List Int} (h : SrcAt w sb r) (hb : Below w.heap.size w w') : SrcAt w' sb r := by
  obtain ⟨zs, i, lv, h1, h2, h3, h4, h5, h6, h7⟩ := h
  exact ⟨zs, i, lv, h1, h2, Nat.lt_of_lt_of_le h3 hb.size, (hb.cell (p := ⟨sb, 0, none⟩) h3).trans h4, (hb.cell (p := ⟨sb, 1, none⟩) h3).trans h5, fun j => (hb.frozen (p := ⟨sb, j, none⟩) h3).trans (h6 j), h7.to fun k hk => hb.block k (Nat.lt_trans hk h3)⟩
theorem SrcAt.ext {W : World} {sb : Nat} {r : List Int} (h : SrcAt W sb r) (x : Ext W) : SrcAt x.it sb r := h.to x.below
theorem SrcAt.al {w : World} {sb : Nat} {r : List Int} (h : SrcAt w sb r) (o : Obj) : SrcAt (w.alloc o) sb r := h.to ((Below.refl _ _).alloc (Nat.le_refl _) o)
theorem SrcAt.drew {w : World} {sb : Nat} {r : List Int} (h : SrcAt w sb r) : SrcAt w.drew sb r := h
theorem SrcAt.lt {w : World} {sb : Nat} {r : List Int} (h : SrcAt w sb r) : sb < w.heap.size := by obtain ⟨_, _, _, _, _, h3, _⟩ := h; exact h3
theorem SrcAt.stn {w : World} {sb : Nat} {r : List Int} (h : SrcAt w sb r) {p : Addr} (hp : sb < p.block) (u : Value) : SrcAt (w.setCell p u) sb r := by
  obtain ⟨zs, i, lv, h1, h2, h3, h4, h5, h6, h7⟩ := h
  have hb : ∀ k, k ≤ sb → (w.setCell p u).heap[k]? = w.heap[k]? := fun k hk => Below.heap_setCell _ _ _ _ (by omega)
  exact ⟨zs, i, lv, h1, h2, by simpa [World.setCell] using h3, (World.cell?_of_block (w := w) (hb sb (Nat.le_refl _))).trans h4, (World.cell?_of_block (w := w) (hb sb (Nat.le_refl _))).trans h5,
    fun j => (World.frozen?_of_block (w := w) (hb sb (Nat.le_refl _))).trans (h6 j), h7.to fun k hk => hb k (by omega)⟩

/-! ### keep.Pick, keep.From -/
theorem pick_eq (v n : Int) (h0 : 0 < n) (h1 : n < 9223372036854775808) : wrap64 ((IntKind.u64.wrap v).tmod n) = pickI v n := by
  have e : ∀ x : Int, IntKind.u64.wrap x = x % 18446744073709551616 := fun x => by simp [IntKind.wrap, IntKind.bits, IntKind.signed]
  have b := pickI_bd v h0
  unfold pickI at b ⊢
  rw [e, Int.tmod_eq_emod_of_nonneg (by omega)]
  unfold wrap64
  omega
set_option maxHeartbeats 400000 in
theorem pick_any (v n : Int) (h0 : 0 < n) (h1 : n < 9223372036854775808) (w : World) :
    Calls Try.prog 16 #[.int .i64 v, .int .i64 n] w fun e w' => e = .returned (.int .i64 (pickI v n)) ∧ w = w' := by
  have e0 : IntKind.u64.wrap n = n := by simp [IntKind.wrap, IntKind.bits, IntKind.signed]; omega
  have e1 := pick_eq v n h0 h1
  go_enter Try.func16, Try.ntmps16
  go_wp2
  go_ret
  exact ⟨by rw [← e1]; rfl, rfl⟩
set_option maxHeartbeats 400000 in
theorem from_any (lv : Value) (zs : List Int) (w : World) (h : IntsAt w w.heap.size lv zs) :
    Calls Try.prog 36 #[lv] w fun e w' => e = .returned (.pointer (some ⟨w.heap.size, 0, none⟩)) ∧ Below w.heap.size w w' ∧ SrcAt w' w.heap.size zs := by
  rcases h.2.2 with ⟨hz, a, c, rfl⟩ | ⟨b, o, c, rfl, h2, h3⟩
  all_goals
    have H := Lib.hid h
    clear h
    go_enter Try.func36, Try.ntmps36
    go_wp2
    go_ret
    exact ⟨rfl, (Below.refl _ _).alloc (Nat.le_refl _) _, zs, 0, _, Nat.zero_le _, rfl, by simp, by simp, by simp, by simp, H.out.to fun k hk => Below.heap_alloc _ _ _ hk⟩

/-! ### Source.Next, Source.Raw -/
theorem drop_cons {zs : List Int} {i : Nat} (h : i < zs.length) : zs.drop i = zs.getD i 0 :: zs.drop (i + 1) := by rw [List.drop_eq_getElem_cons h]; simp [h]
theorem ints_end {w : World} {B : Nat} {v : Value} {zs : List Int} (h : IntsAt w B v zs) : ∃ a c, v = .slice a zs.length c := by
  rcases h.2.2 with ⟨e, a, c, rfl⟩ | ⟨b, o, c, rfl, _⟩
  · exact ⟨a, c, by rw [e]; rfl⟩
  · exact ⟨_, c, rfl⟩
theorem ints_in {w : World} {B : Nat} {v : Value} {zs : List Int} (h : IntsAt w B v zs) {i : Nat} (hi : i < zs.length) : ∃ b o c, v = .slice (some ⟨b, o, none⟩) zs.length c ∧ b < B ∧ ∀ j, j < zs.length → w.cell? ⟨b, o + j, none⟩ = some (.int .i64 (zs.getD j 0)) := by
  rcases h.2.2 with ⟨e, _⟩ | h
  · rw [e] at hi; simp at hi
  · exact h
/-- A source one choice on. -/
theorem src_next {w w' : World} {sb i b o c : Nat} {zs : List Int} (hlt : i < zs.length) (hs : sb < w.heap.size) (c0 : w.cell? ⟨sb, 0, none⟩ = some (.slice (some ⟨b, o, none⟩) zs.length c)) (c1 : w.cell? ⟨sb, 1, none⟩ = some (.int .i64 i)) (fr : ∀ j, w.frozen? ⟨sb, j, none⟩ = false)
    (hz : IntsAt w sb (.slice (some ⟨b, o, none⟩) zs.length c) zs) (hb : Below w.heap.size w w') : SrcAt (w'.setCell ⟨sb, 1, none⟩ (.int .i64 ((i : Int) + 1))) sb (zs.drop (i + 1)) := by
  have d0 := (hb.cell (p := ⟨sb, 0, none⟩) hs).trans c0
  have d1 := (hb.cell (p := ⟨sb, 1, none⟩) hs).trans c1
  refine ⟨zs, i + 1, .slice (some ⟨b, o, none⟩) zs.length c, hlt, rfl, ?_, ?_, ?_, ?_, ?_⟩
  · have := hb.size; simp [World.setCell]; omega
  · go_simp
  · go_simp
  · intro j
    rw [World.frozen?_setCell]
    exact (hb.frozen (p := ⟨sb, j, none⟩) hs).trans (fr j)
  · exact hz.to fun k hk => (Below.heap_setCell _ _ _ _ (by show k ≠ sb; omega)).trans (hb.block k (Nat.lt_trans hk hs))

set_option maxHeartbeats 1000000 in
theorem next_any (sb : Nat) (r : List Int) (n : Int) (h0 : 0 < n) (h1 : n < 9223372036854775808) (w : World) (h : SrcAt w sb r) :
    Calls Try.prog 37 #[.pointer (some ⟨sb, 0, none⟩), .int .i64 n] w fun e w' => e = .returned (.int .i64 (nextF n r).1) ∧ Moved sb w w' ∧ SrcAt w' sb (nextF n r).2 := by
  obtain ⟨zs, i, lv, hi, rfl, hs, c0, c1, fr, hz⟩ := h
  by_cases he : i = zs.length
  · have er : zs.drop i = [] := by rw [he]; simp
    rw [er]
    obtain ⟨a, c, rfl⟩ := ints_end hz
    have hm := hz.2.1
    have H := Lib.hid (And.intro hi (And.intro fr (And.intro hz er)))
    clear hi fr hz er
    obtain rfl := he
    go_enter Try.func37, Try.ntmps37
    go_wp2
    refine wp_region_ext (by kernel_rfl) (by kernel_rfl) ?_
    repeat (go_big_quiet_step ((fail)))
    refine wpQuiet_nil ?_
    rintro _ ⟨x, rfl⟩
    go_wp2
    go_ret
    exact ⟨rfl, Moved.of_below x.below, SrcAt.to ⟨_, _, _, H.out.1, H.out.2.2.2.symm, hs, c0, c1, H.out.2.1, H.out.2.2.1⟩ x.below⟩
  · have hlt : i < zs.length := by omega
    obtain ⟨b, o, c, rfl, hb, hc⟩ := ints_in hz hlt
    rw [drop_cons hlt, show zs.getD i 0 = zs[i] from by simp [hlt]]
    have hm := hz.2.1
    have cc := hc i hlt
    have hbw : b < w.heap.size := by omega
    have nb : b ≠ sb := by omega
    have f1 := fr 1
    have H := Lib.hid (And.intro fr hz)
    clear hi fr hz hc he
    go_enter Try.func37, Try.ntmps37
    go_wp2
    refine wp_region_ext (by kernel_rfl) (by kernel_rfl) ?_
    repeat (go_big_quiet_step ((fail)))
    refine wpQuiet_nil ?_
    rintro _ ⟨x, rfl⟩
    have hsx := x.lt hs
    have hbx := x.lt hbw
    go_wp2
    refine wp_region_ext (by kernel_rfl) (by kernel_rfl) ?_
    repeat (go_big_quiet_step (((go_at_call 16; exact Calls.ext_same (pick_any _ _ h0 h1 _)))))
    refine wpQuiet_nil ?_
    rintro _ ⟨y, rfl⟩
    go_wp2
    go_ret
    exact ⟨rfl, ((Moved.of_below x.below).st 1 none _).onE y, (src_next hlt hs c0 c1 H.out.1 H.out.2 x.below).to y.below⟩

set_option maxHeartbeats 1000000 in
theorem raw_any (sb : Nat) (r : List Int)  (w : World) (h : SrcAt w sb r) :
    Calls Try.prog 38 #[.pointer (some ⟨sb, 0, none⟩)] w fun e w' => e = .returned (.int .i64 (rawF r).1) ∧ Moved sb w w' ∧ SrcAt w' sb (rawF r).2 := by
  obtain ⟨zs, i, lv, hi, rfl, hs, c0, c1, fr, hz⟩ := h
  by_cases he : i = zs.length
  · have er : zs.drop i = [] := by rw [he]; simp
    rw [er]
    obtain ⟨a, c, rfl⟩ := ints_end hz
    have hm := hz.2.1
    have H := Lib.hid (And.intro hi (And.intro fr (And.intro hz er)))
    clear hi fr hz er
    obtain rfl := he
    go_enter Try.func38, Try.ntmps38
    go_wp2
    refine wp_region_ext (by kernel_rfl) (by kernel_rfl) ?_
    repeat (go_big_quiet_step ((fail)))
    refine wpQuiet_nil ?_
    rintro _ ⟨x, rfl⟩
    go_wp2
    go_ret
    exact ⟨rfl, Moved.of_below x.below, SrcAt.to ⟨_, _, _, H.out.1, H.out.2.2.2.symm, hs, c0, c1, H.out.2.1, H.out.2.2.1⟩ x.below⟩
  · have hlt : i < zs.length := by omega
    obtain ⟨b, o, c, rfl, hb, hc⟩ := ints_in hz hlt
    rw [drop_cons hlt, show zs.getD i 0 = zs[i] from by simp [hlt]]
    have hm := hz.2.1
    have cc := hc i hlt
    have hbw : b < w.heap.size := by omega
    have nb : b ≠ sb := by omega
    have f1 := fr 1
    have H := Lib.hid (And.intro fr hz)
    clear hi fr hz hc he
    go_enter Try.func38, Try.ntmps38
    go_wp2
    refine wp_region_ext (by kernel_rfl) (by kernel_rfl) ?_
    repeat (go_big_quiet_step ((fail)))
    refine wpQuiet_nil ?_
    rintro _ ⟨x, rfl⟩
    have hsx := x.lt hs
    have hbx := x.lt hbw
    go_wp2
    refine wp_region_ext (by kernel_rfl) (by kernel_rfl) ?_
    repeat (go_big_quiet_step ((fail)))
    refine wpQuiet_nil ?_
    rintro _ ⟨y, rfl⟩
    go_wp2
    go_ret
    exact ⟨rfl, ((Moved.of_below x.below).st 1 none _).onE y, (src_next hlt hs c0 c1 H.out.1 H.out.2 x.below).to y.below⟩

end Go.Proofs.Ytgooffpmiilicaa
