/-
  BOUNDS: the law's maker bounds. Conditions: each theorem states its own.
-/
import Derived.Test.YtjojnakgadfgmaaInt2
import Derived.Test.YtjojnakgadfgmaaInt3
import Derived.Maps.AppendAt
set_option linter.unusedVariables false
set_option linter.unusedSimpArgs false
namespace Go.Proofs.Ytjojnakgadfgmaa
open Go.RowKit
def Bnd.enc (b : Bnd) : Value := .agg #[.bool b.null, .bool b.some, .bool b.hasLo, .bool b.hasHi, .bool b.lo.null, .int .i64 b.lo.n, .string b.lo.s, .bool b.hi.null, .int .i64 b.hi.n, .string b.hi.s]
theorem Moved.gb {sb : Nat} {w w' : World} (h : Moved sb w w') : w.grownBy w' (some sb) := ⟨h.os, h.tape, h.output, h.size, fun k hk hne => h.block k hk (by rintro rfl; exact hne rfl)⟩
theorem own_moved {w w' : World} {base : Nat} {e : TypeId} {size : Nat} {v : Value} {n : Nat} {xs : List Value} {sb : Nat} (h : w.ownsRow base e size v n xs) (hm : Moved sb w w') (hs : sb < base) : w'.ownsRow base e size v n xs :=
  h.kept hm.gb (.inr fun e => by have := own_base h sb e; omega)
theorem Moved.grown {sb : Nat} {a w w' : World} {row : Option Nat} (h : Moved sb a w) (hg : w.grownBy w' row) (hd : ∀ j, row = some j → a.heap.size ≤ j) : Moved sb a w' :=
  ⟨hg.os.trans h.os, hg.tape.trans h.tape, hg.output.trans h.output, Nat.le_trans h.size hg.size, fun k hk hs => (hg.block k (Nat.lt_of_lt_of_le hk h.size) (fun e => by have := hd k e.symm; omega)).trans (h.block k hk hs)⟩
theorem SrcAt.low {w w' : World} {sb : Nat} {r : List Int} (h : SrcAt w sb r) (hsz : sb < w'.heap.size) (hb : ∀ k, k ≤ sb → w'.heap[k]? = w.heap[k]?) : SrcAt w' sb r := by
  obtain ⟨zs, i, lv, h1, h2, h3, h4, h5, h6, h7⟩ := h
  exact ⟨zs, i, lv, h1, h2, hsz, (World.cell?_of_block (w := w) (hb sb (Nat.le_refl _))).trans h4, (World.cell?_of_block (w := w) (hb sb (Nat.le_refl _))).trans h5,
    fun j => (World.frozen?_of_block (w := w) (hb sb (Nat.le_refl _))).trans (h6 j), h7.to fun k hk => hb k (by omega)⟩
theorem SrcAt.gr {w w' : World} {sb : Nat} {r : List Int} {row : Option Nat} (h : SrcAt w sb r) (hg : w.grownBy w' row) (hd : ∀ j, row = some j → sb < j) : SrcAt w' sb r :=
  h.low (Nat.lt_of_lt_of_le h.lt hg.size) fun k hk => hg.block k (Nat.lt_of_le_of_lt hk h.lt) fun e => by have := hd k e.symm; omega
theorem rawF_isI {w : World} {sb : Nat} {r : List Int} (h : SrcAt w sb r) : isI (rawF r).1 := by
  obtain ⟨zs, i, lv, h1, rfl, _, _, _, _, h7⟩ := h
  unfold rawF
  split
  · exact ⟨by decide, by decide⟩
  · rename_i z r' hz
    exact h7.1 z (List.mem_of_mem_drop (i := i) (by rw [hz]; simp))
theorem ints_of_own {w : World} {base : Nat} {e : TypeId} {v : Value} {n : Nat} {xs : List Int} (h : w.ownsRow base e 1 v n (xs.map (Value.int .i64))) (hx : ∀ z ∈ xs, isI z) (hn : n ≤ 9223372036854775807) : IntsAt w w.heap.size v xs := by
  have hl : xs.length = n := by have := h.1; simpa using this
  refine ⟨hx, by omega, ?_⟩
  rcases h.2 with ⟨rfl, rfl⟩ | ⟨g, cap, cur, rfl, hg, hh, _⟩
  · exact .inl ⟨List.eq_nil_of_length_eq_zero hl, _, _, rfl⟩
  · refine .inr ⟨g, 0, cap, by rw [hl], (Array.getElem?_eq_some_iff.1 hh).1, fun j hj => ?_⟩
    have := h.cellAt j (by simpa [hl] using hj)
    rw [List.getElem?_map, List.getElem?_eq_getElem hj] at this
    simpa [hj] using this
theorem own_lt {w : World} {base : Nat} {e : TypeId} {size : Nat} {v : Value} {n : Nat} {xs : List Value} (h : w.ownsRow base e size v n xs) : ∀ k, v.ownBlock = some k → k < w.heap.size := by
  intro k hk
  rcases h.2 with ⟨rfl, _⟩ | ⟨g, cap, cur, rfl, h2, h3, _⟩
  · simp [Value.ownBlock] at hk
  · simp [Value.ownBlock] at hk; subst hk; exact (Array.getElem?_eq_some_iff.1 h3).1
/-- two lists of integers, each in a block of its own -/
structure Two (e : TypeId) (B : Nat) (w : World) (v1 v2 : Value) (k1 k2 : Nat) (xs ys : List Int) : Prop where
  o1 : w.ownsRow B e 1 v1 k1 (xs.map (Value.int .i64))
  o2 : w.ownsRow B e 1 v2 k2 (ys.map (Value.int .i64))
  d : ∀ j, v1.ownBlock = some j → v2.ownBlock = some j → False
  x : ∀ z ∈ xs, isI z
  y : ∀ z ∈ ys, isI z
theorem Two.symm {e : TypeId} {B : Nat} {w : World} {v1 v2 : Value} {k1 k2 : Nat} {xs ys : List Int} (h : Two e B w v1 v2 k1 k2 xs ys) : Two e B w v2 v1 k2 k1 ys xs := ⟨h.o2, h.o1, fun j a b => h.d j b a, h.y, h.x⟩
theorem Two.moved {e : TypeId} {B S : Nat} {w wa : World} {v1 v2 : Value} {k1 k2 : Nat} {xs ys : List Int} (h : Two e B w v1 v2 k1 k2 xs ys) (hm : Moved S w wa) (hS : S < B) (o : Obj) : Two e B (wa.alloc o) v1 v2 k1 k2 xs ys :=
  ⟨(own_moved h.o1 hm hS).alloc _, (own_moved h.o2 hm hS).alloc _, h.d, h.x, h.y⟩
theorem Two.step {e : TypeId} {B : Nat} {w w2 : World} {v1 v2 v1' : Value} {k1 k2 : Nat} {xs ys : List Int} {a : Int} (h : Two e B w v1 v2 k1 k2 xs ys)
    (ho : w2.ownsRow B e 1 v1' (k1 + 1) (xs.map (Value.int .i64) ++ [.int .i64 a])) (hg : w.grownBy w2 v1.ownBlock) (hb : v1'.ownBlock = v1.ownBlock ∨ v1'.ownBlock = some w.heap.size) (ha : isI a) : Two e B w2 v1' v2 (k1 + 1) k2 (xs ++ [a]) ys := by
  refine ⟨by simpa using ho, h.o2.kept hg ?_, ?_, ?_, h.y⟩
  · cases hv : v2.ownBlock with
    | none => exact .inl rfl
    | some j => exact .inr fun e => h.d j e.symm hv
  · intro j h1 h2
    rcases hb with hb | hb
    · exact h.d j (hb.symm.trans h1) h2
    · have := own_lt h.o2 j h2
      rw [hb] at h1
      simp at h1
      omega
  · intro z hz
    rcases List.mem_append.1 hz with hz | hz
    · exact h.x z hz
    · simp at hz; subst hz; exact ha
/-- the loop's two lists, k numbers each, and the choices that are left -/
def twoF (r : List Int) : Nat → List Int × List Int × List Int
  | 0 => ([], [], r)
  | k + 1 => ((twoF r k).1 ++ [(rawF (twoF r k).2.2).1], (twoF r k).2.1 ++ [(rawF (rawF (twoF r k).2.2).2).1], (rawF (rawF (twoF r k).2.2).2).2)
def Val.z : Val := ⟨false, 0, ⟨#[]⟩⟩
theorem isZ_z : isZ Val.z = true := by
  have : (⟨#[]⟩ : ByteArray).toList = [] := by rw [ByteArray.toList_eq]
  simp [isZ, Val.z, this]
theorem check_none (ty : Int) (p : Bool) : checkF ty ⟨p, false, false, false, Val.z, Val.z⟩ = true := by simp [checkF, endF, isZ_z]
theorem check_some (ty : Int) (p hl hh : Bool) (x y : Val) (hx : x.null = false) (hy : y.null = false) (hc : cmpV ty x y ≤ 0) : checkF ty ⟨p, true, hl, hh, if hl = true then x else Val.z, if hh = true then y else Val.z⟩ = true := by
  cases hl <;> cases hh <;> simp [checkF, endF, isZ_z, hx, hy, hc]
theorem capture_wp {P : Program} {c : Code} {Q : Exit → Act → World → Prop} {a : Act} {W : World} (sb : Nat) (h : ∀ y : ExtM W sb, y.it = W → c.wp P Q a y.it) : c.wp P Q a W := h ⟨W, Moved.refl _ _⟩ rfl
theorem valF_null (ty : Int) (r : List Int) : (valF ty false r).1.null = false := by
  unfold valF
  rw [if_neg (by simp [nullF])]
  split <;> rfl
theorem valueOf_eq {lv : Value} {zs rr : List Int} {n1 : ByteArray} {ty sc : Int} {nu : Bool} {w : World} {vn : Bool} {vi : Int} {vs : ByteArray} (hv : valF ty nu zs = (⟨vn, vi, vs⟩, rr)) (h : IntsAt w w.heap.size lv zs) :
    Calls Try.prog 13 #[.agg #[.string n1, .int .i64 ty, .int .i64 sc, .bool nu], lv] w fun e w' => e = .returned (.agg #[.bool vn, .int .i64 vi, .string vs]) ∧ Below w.heap.size w w' := by
  have := valueOf_any lv zs n1 ty sc nu w h
  rw [hv] at this
  exact this
theorem allocVal : AllocOk Try.prog 23 #[.bool false, .int .i64 0, .string ⟨#[]⟩] := by
  intro ρ o w h; obtain ⟨dst, op, type, pos, after, guard⟩ := o; dsimp only at h; subst h; go_simp
theorem IntsAt.ext {W : World} {v : Value} {zs : List Int} (h : IntsAt W W.heap.size v zs) (x : Ext W) : IntsAt x.it x.it.heap.size v zs := (h.to fun k hk => x.below.block k hk).mono x.below.size
theorem cmpV_swap (t : Int) (a : Int) (sa : ByteArray) (b : Int) (sb : ByteArray) (h : 0 < cmpV t ⟨false, a, sa⟩ ⟨false, b, sb⟩) : cmpV t ⟨false, b, sb⟩ ⟨false, a, sa⟩ ≤ 0 := by
  unfold cmpV at h ⊢
  simp only [Bool.false_eq_true, if_false] at h ⊢
  by_cases ht : t = 3
  · rw [if_pos ht] at h ⊢
    unfold cmpS at h ⊢
    rcases bytesLess_total sa.toList sb.toList with h1 | h1 | h1
    · rw [if_pos h1] at h; omega
    · rw [h1, if_neg (by rw [bytesLess_irrefl]; decide), if_pos rfl] at h; omega
    · rw [if_pos h1]; decide
  · rw [if_neg ht] at h ⊢
    unfold cmpI at h ⊢
    split at h
    · omega
    · split at h
      · omega
      · rw [if_pos (by omega)]; decide
/-- the law's maker bounds -/
def boundsF (ty : Int) (zs : List Int) : Bnd :=
  let p := ((nextF 2 zs).1 == 0)
  if decide (0 < (nextF 4 (nextF 2 zs).2).1) = false then ⟨p, false, false, false, Val.z, Val.z⟩ else
  let t := twoF (nextF 4 (nextF 2 zs).2).2 5
  let x := (valF ty false t.1).1
  let y := (valF ty false t.2.1).1
  let c := decide (0 < cmpV ty x y)
  let hl := decide (0 < (nextF 3 t.2.2).1)
  let hh := decide (0 < (nextF 3 (nextF 3 t.2.2).2).1)
  ⟨p, true, hl, hh, if hl = true then (if c = true then y else x) else Val.z, if hh = true then (if c = true then x else y) else Val.z⟩
theorem boundsF_check (ty : Int) (zs : List Int) : checkF ty (boundsF ty zs) = true := by
  unfold boundsF
  split
  · exact check_none _ _
  · dsimp only
    generalize hX : (valF ty false (twoF (nextF 4 (nextF 2 zs).2).2 5).1).1 = x
    generalize hY : (valF ty false (twoF (nextF 4 (nextF 2 zs).2).2 5).2.1).1 = y
    have nx : x.null = false := by rw [← hX]; exact valF_null _ _
    have ny : y.null = false := by rw [← hY]; exact valF_null _ _
    by_cases hc : 0 < cmpV ty x y
    · simp only [decide_eq_true hc, if_true]
      exact check_some _ _ _ _ _ _ ny nx (by obtain ⟨_, a, s⟩ := x; obtain ⟨_, b, u⟩ := y; cases nx; cases ny; exact cmpV_swap _ _ _ _ _ hc)
    · simp only [decide_eq_false hc, Bool.false_eq_true, if_false]
      exact check_some _ _ _ _ _ _ nx ny (by omega)
theorem infoI64 : (Try.prog.info? 3).map (fun i => (i.zero, i.size, i.bytes)) = some (some (.int .i64 0), 1, 8) := by kernel_rfl
set_option maxHeartbeats 400000 in
theorem from_cells (lv : Value) (zs : List Int) (w : World) (h : IntsAt w w.heap.size lv zs) :
    Calls Try.prog 32 #[lv] w fun e w' => e = .returned (.pointer (some ⟨w.heap.size, 0, none⟩)) ∧ Below w.heap.size w w' ∧ w.heap.size < w'.heap.size ∧ w'.cell? ⟨w.heap.size, 0, none⟩ = some lv ∧ w'.cell? ⟨w.heap.size, 1, none⟩ = some (.int .i64 0) ∧ ∀ j, w'.frozen? ⟨w.heap.size, j, none⟩ = false := by
  rcases h.2.2 with ⟨hz, a, c, rfl⟩ | ⟨b, o, c, rfl, h2, h3⟩
  all_goals
    have H := Lib.hid h
    clear h
    go_enter Try.func32, Try.ntmps32
    go_wp2
    go_ret
    exact ⟨rfl, (Below.refl _ _).alloc (Nat.le_refl _) _, by simp, by simp, by simp, by simp⟩
set_option maxHeartbeats 16000000 in
theorem bounds_any (lv : Value) (zs : List Int) (n1 : ByteArray) (ty sc : Int) (nu : Bool) (w : World) (h : IntsAt w w.heap.size lv zs) :
    Calls Try.prog 12 #[.agg #[.string n1, .int .i64 ty, .int .i64 sc, .bool nu], lv] w fun e w' => e = .returned (boundsF ty zs).enc ∧ Below w.heap.size w w' := by
  have h3 : IntsAt ((w.alloc (.cells #[.string n1, .int .i64 ty, .int .i64 sc, .bool nu] 28)).alloc (.cells #[.bool false, .bool false, .bool false, .bool false, .bool false, .int .i64 0, .string ⟨#[]⟩, .bool false, .int .i64 0, .string ⟨#[]⟩] 25)) ((w.alloc (.cells #[.string n1, .int .i64 ty, .int .i64 sc, .bool nu] 28)).alloc (.cells #[.bool false, .bool false, .bool false, .bool false, .bool false, .int .i64 0, .string ⟨#[]⟩, .bool false, .int .i64 0, .string ⟨#[]⟩] 25)).heap.size lv zs :=
    ((h.to (fun k hk => Below.heap_alloc _ _ _ hk)).mono (B' := w.heap.size + 1) (by omega) |>.to (fun k hk => Below.heap_alloc _ _ _ (by simpa using hk))).mono (by simp)
  have h0 := Lib.hid h
  clear h
  go_enter Try.func12, Try.ntmps12
  go_upto_region 3 with (go_at_call 32; refine (from_cells lv zs _ h3).mono ?_; rintro e w1 ⟨rfl, hb1, hl1, hc0, hc1, hf⟩; obtain ⟨x1, rfl⟩ := Ext.of hb1; have z0 : w.heap.size < x1.it.heap.size := x1.lt (by (first | assumption | (simp; done) | (simp; omega))); have z1 : w.heap.size + 1 < x1.it.heap.size := x1.lt (by (first | assumption | (simp; done) | (simp; omega))))
  clear h3
  simp only [World.size_alloc] at hl1 hc0 hc1 hf
  refine capture_wp (w.heap.size + 1 + 1) ?_
  intro y0 e0
  have hs0 : SrcAt y0.it (w.heap.size + 1 + 1) zs := by
    rw [e0]
    refine ⟨zs, 0, lv, Nat.zero_le _, rfl, by simpa [World.setCell] using hl1, ?_, ?_, ?_, ?_⟩
    · simpa [go_sem] using hc0
    · simpa [go_sem] using hc1
    · intro j; simpa [go_sem] using hf j
    · refine (h0.out.to (w' := x1.it.setCell ⟨w.heap.size, 3, none⟩ (.bool false)) fun k hk => ?_).mono (by omega)
      exact (Below.heap_setCell _ _ _ _ (by show k ≠ w.heap.size; omega)).trans ((hb1.block k (by simp; omega)).trans ((Below.al (Below.al (Below.refl w.heap.size w) _) _).block k hk))
  have z3 : w.heap.size + 1 + 1 < y0.it.heap.size := hs0.lt
  have z0' : w.heap.size < y0.it.heap.size := by omega
  have z1' : w.heap.size + 1 < y0.it.heap.size := by omega
  have ne0 : w.heap.size ≠ w.heap.size + 1 + 1 := by omega
  have ne1 : w.heap.size + 1 ≠ w.heap.size + 1 + 1 := by omega
  have bel0 : Below w.heap.size w y0.it := by rw [e0]; exact Below.st (Below.on (Below.al (Below.al (Below.refl _ _) _) _) x1) (Nat.le_refl _) _
  have k1 : y0.it.cell? ⟨w.heap.size, 1, none⟩ = some (.int .i64 ty) := by rw [e0]; simp [go_sem, *]
  clear e0
  go_upto_region 4 with (first | (go_at_call 33; refine (next_any _ (nextF 2 zs).2 4 (by decide) (by decide) _ hs1).mono ?_; rintro e w1 ⟨rfl, hm2, hs2⟩; obtain ⟨y2, rfl⟩ := y1.to hm2) | (go_at_call 33; refine (next_any _ zs 2 (by decide) (by decide) _ hs0).mono ?_; rintro e w1 ⟨rfl, hm1, hs1⟩; obtain ⟨y1, rfl⟩ := y0.to hm1))
  have e13 : x1.it.cell? ⟨w.heap.size, 3, none⟩ = some (.bool nu) := by simp [go_sem, *]
  have EV := Lib.hid (show boundsF ty zs = _ from rfl)
  generalize hp : ((nextF 2 zs).1 == 0) = p
  generalize hq : decide (0 < (nextF 4 (nextF 2 zs).2).1) = q
  have HP := Lib.hid (And.intro hp hq)
  clear hp hq EV
  have bel2 : Below w.heap.size w y2.it := Moved.below bel0 (hm1.trans hm2) (by omega)
  have zy2 : w.heap.size + 1 + 1 < y2.it.heap.size := hs2.lt
  have zy1 : w.heap.size + 1 < y2.it.heap.size := by omega
  have zy0 : w.heap.size < y2.it.heap.size := by omega
  have ky : y2.it.cell? ⟨w.heap.size, 1, none⟩ = some (.int .i64 ty) := by simp [go_sem, *]
  clear hs0 hs1 hm1 hm2 k1 hb1 hc0 hc1 hf z3 z0' z1' bel0 y0 y1
  cases q
  · go_wp2
    exact bodyPost_ret (v := .agg #[.bool p, .bool false, .bool false, .bool false, .bool false, .int .i64 0, .string ⟨#[]⟩, .bool false, .int .i64 0, .string ⟨#[]⟩]) (by simp [results, Try.results12, go_sem, *]) rfl (⟨by unfold boundsF; rw [if_pos HP.out.2, HP.out.1]; rfl, by repeat (first | with_reducible exact Below.refl _ _ | with_reducible assumption | with_reducible refine Below.al ?_ _ | with_reducible refine Below.on ?_ _ | with_reducible refine Below.st ?_ (by first | assumption | (simp; done) | (simp; omega)) _ | with_reducible refine Below.drew ?_)⟩)
  go_upto_block 0 with fail
  obtain ⟨i0, hi, hz0, hz1, hz2⟩ := info_parts infoI64
  refine capture_wp (w.heap.size + 1 + 1) ?_
  intro y3 e3
  have hs3 : SrcAt y3.it (w.heap.size + 1 + 1) (nextF 4 (nextF 2 zs).2).2 := by rw [e3]; exact hs2.al _
  have bel3 : Below w.heap.size w y3.it := by rw [e3]; exact Below.al bel2 _
  have zb : y2.it.heap.size < y3.it.heap.size := by rw [e3]; simp
  have ky3 : y3.it.cell? ⟨w.heap.size, 1, none⟩ = some (.int .i64 ty) := by rw [e3]; simp [go_sem, *]
  generalize hr3 : (nextF 4 (nextF 2 zs).2).2 = r3 at hs3
  have HR := Lib.hid hr3
  clear hr3
  clear e3 hs2 bel2
  have I := Lib.hid (And.intro hi (And.intro hz0 (And.intro hz1 hz2)))
  clear hi hz0 hz1 hz2
  go_wp2_with fail
  have hSB : w.heap.size + 1 + 1 < y3.it.heap.size := by omega
  go_loopg [7, 8, 9] 5 (fun g v1 v2 i wr => ∃ (k : Nat) (xs ys r : List Int), (xs, ys, r) = twoF r3 k ∧ k + g = 5 ∧ i = .int .i64 k ∧ Two 3 y3.it.heap.size wr v1 v2 k k xs ys ∧ Moved (w.heap.size + 1 + 1) y3.it wr ∧ SrcAt wr (w.heap.size + 1 + 1) r)
  case atStart => exact ⟨0, [], [], r3, rfl, rfl, rfl, ⟨World.ownsRow_nil _ _ _ _, World.ownsRow_nil _ _ _ _, (by intro j hj; cases hj), (by simp), (by simp)⟩, Moved.refl _ _, hs3⟩
  case round =>
    obtain ⟨k, xs, ys, r, htw, hk, rfl, ht, hm, hs⟩ := hrel
    have HT := Lib.hid htw
    clear htw
    by_cases hg : gk = 0
    · subst hg
      obtain rfl : k = 5 := by omega
      obtain ⟨y4, rfl⟩ := ExtM.of hm
      have z40 : w.heap.size < y3.it.heap.size := by omega
      have z41 : w.heap.size + 1 < y3.it.heap.size := by omega
      have zs4 := hm.size
      have z50 : w.heap.size < y4.it.heap.size := by omega
      have z51 : w.heap.size + 1 < y4.it.heap.size := by omega
      have z52 : y2.it.heap.size < y4.it.heap.size := by omega
      have b0 : y4.it.cell? ⟨w.heap.size, 0, none⟩ = some (.string n1) := by simp [go_sem, *]
      have b1 : y4.it.cell? ⟨w.heap.size, 1, none⟩ = some (.int .i64 ty) := by simp [go_sem, *]
      have b2 : y4.it.cell? ⟨w.heap.size, 2, none⟩ = some (.int .i64 sc) := by simp [go_sem, *]
      have b3 : y4.it.cell? ⟨w.heap.size, 3, none⟩ = some (.bool false) := by simp [go_sem, *]
      have bel4 : Below w.heap.size w y4.it := Moved.below bel3 hm (by omega)
      have hx := ints_of_own ht.o1 ht.x (by omega)
      have hy := ints_of_own ht.o2 ht.y (by omega)
      obtain ⟨⟨⟨xn, xi, xv⟩, rx⟩, hvx⟩ : ∃ p, valF ty false xs = p := ⟨_, rfl⟩
      obtain ⟨⟨⟨yn, yi, yv⟩, ry⟩, hvy⟩ : ∃ p, valF ty false ys = p := ⟨_, rfl⟩
      obtain rfl : xn = false := by have := valF_null ty xs; rw [hvx] at this; exact this
      obtain rfl : yn = false := by have := valF_null ty ys; rw [hvy] at this; exact this
      have HX := Lib.hid (And.intro hvx hx)
      have HY := Lib.hid (And.intro hvy hy)
      clear hvx hvy hx hy ht hm bel3 hs3 I hk zs4
      go_wp2_with fail
      refine wp_region_float 8 [none, none, none, none, none, none, some (10, 23, #[.bool false, .int .i64 0, .string ⟨#[]⟩]), some (11, 23, #[.bool false, .int .i64 0, .string ⟨#[]⟩])] (by kernel_rfl) (by kernel_rfl) (by kernel_rfl) ⟨allocVal, allocVal, trivial⟩ ?_
      dsimp only [ghosts, ghost, List.take, List.drop]
      repeat (refine wpE_step (fun K hK => ?_); go_simp; first | (refine hK _ ?_; clear hK K) | (apply Exists.intro; refine ⟨fun _ => ?_, hK _ ?_⟩; (first | (go_at_call 13; exact valueOf_eq HX.out.1 (HX.out.2.ext _)) | (go_at_call 13; exact valueOf_eq HY.out.1 (HY.out.2.ext _))); clear hK K))
      refine wpE_nil ?_
      intro x
      dsimp only [floated]
      intro b q1 _ q3 d q1' q2' q3'
      have zb1 := (Array.getElem?_eq_some_iff.1 q3).1
      have zb2 := (Array.getElem?_eq_some_iff.1 q3').1
      have nbd : d ≠ b := q2' b (by simp)
      have nbd' : b ≠ d := Ne.symm nbd
      have t0 : w.heap.size < x.it.heap.size := x.lt z50
      have t1 : w.heap.size + 1 < x.it.heap.size := x.lt z51
      have t2 : y2.it.heap.size < x.it.heap.size := x.lt z52
      have nb0 : b ≠ w.heap.size := by omega
      have nb1 : b ≠ w.heap.size + 1 := by omega
      have nb2 : b ≠ w.heap.size + 1 + 1 := by omega
      have nb3 : b ≠ y2.it.heap.size := by omega
      have nd0 : d ≠ w.heap.size := by omega
      have nd1 : d ≠ w.heap.size + 1 := by omega
      have nd2 : d ≠ w.heap.size + 1 + 1 := by omega
      have nd3 : d ≠ y2.it.heap.size := by omega
      have ny0 : y2.it.heap.size ≠ w.heap.size := by omega
      have ny1 : y2.it.heap.size ≠ w.heap.size + 1 := by omega
      have ny2 : y2.it.heap.size ≠ w.heap.size + 1 + 1 := by omega
      have gb : w.heap.size + 1 + 1 < b := by omega
      have gd : w.heap.size + 1 + 1 < d := by omega
      have ob : w.heap.size ≤ b := by omega
      have od : w.heap.size ≤ d := by omega
      have oy : w.heap.size ≤ y2.it.heap.size := by omega
      have cb0 := cell_of_row x.it b 0 _ _ _ q3
      have cb1 := cell_of_row x.it b 1 _ _ _ q3
      have cb2 := cell_of_row x.it b 2 _ _ _ q3
      have cd0 := cell_of_row x.it d 0 _ _ _ q3'
      have cd1 := cell_of_row x.it d 1 _ _ _ q3'
      have cd2 := cell_of_row x.it d 2 _ _ _ q3'
      have fb := fun j => frozen_of_row x.it b j _ _ q3
      have fd := fun j => frozen_of_row x.it d j _ _ q3'
      simp at cb0 cb1 cb2 cd0 cd1 cd2
      have hs0 := hs.ext x
      have HXY := Lib.hid (And.intro q1 q1')
      clear q1 q1' q2' q3 q3' hs
      have hh := Lib.hid (cmpV_swap ty xi xv yi yv)
      go_upto_region 12 with fail
      have belx : Below w.heap.size w x.it := Below.on bel4 x
      have ow1 : w.heap.size ≤ w.heap.size + 1 := by omega
      have belx : Below w.heap.size w x.it := Below.on bel4 x
      have ow1 : w.heap.size ≤ w.heap.size + 1 := by omega
      have xr0 : x.it.cell? ⟨w.heap.size + 1, 0, none⟩ = some (.bool false) := by simp (maxDischargeDepth := 9) [go_sem, *]
      have xb0 : x.it.cell? ⟨y2.it.heap.size, 0, none⟩ = some (.bool p) := by simp (maxDischargeDepth := 9) [go_sem, *]
      have xr1 : x.it.cell? ⟨w.heap.size + 1, 1, none⟩ = some (.bool false) := by simp (maxDischargeDepth := 9) [go_sem, *]
      have xb1 : x.it.cell? ⟨y2.it.heap.size, 1, none⟩ = some (.bool true) := by simp (maxDischargeDepth := 9) [go_sem, *]
      have xr2 : x.it.cell? ⟨w.heap.size + 1, 2, none⟩ = some (.bool false) := by simp (maxDischargeDepth := 9) [go_sem, *]
      have xb2 : x.it.cell? ⟨y2.it.heap.size, 2, none⟩ = some (.bool false) := by simp (maxDischargeDepth := 9) [go_sem, *]
      have xr3 : x.it.cell? ⟨w.heap.size + 1, 3, none⟩ = some (.bool false) := by simp (maxDischargeDepth := 9) [go_sem, *]
      have xb3 : x.it.cell? ⟨y2.it.heap.size, 3, none⟩ = some (.bool false) := by simp (maxDischargeDepth := 9) [go_sem, *]
      have xr4 : x.it.cell? ⟨w.heap.size + 1, 4, none⟩ = some (.bool false) := by simp (maxDischargeDepth := 9) [go_sem, *]
      have xb4 : x.it.cell? ⟨y2.it.heap.size, 4, none⟩ = some (.bool false) := by simp (maxDischargeDepth := 9) [go_sem, *]
      have xr5 : x.it.cell? ⟨w.heap.size + 1, 5, none⟩ = some (.int .i64 0) := by simp (maxDischargeDepth := 9) [go_sem, *]
      have xb5 : x.it.cell? ⟨y2.it.heap.size, 5, none⟩ = some (.int .i64 0) := by simp (maxDischargeDepth := 9) [go_sem, *]
      have xr6 : x.it.cell? ⟨w.heap.size + 1, 6, none⟩ = some (.string ⟨#[]⟩) := by simp (maxDischargeDepth := 9) [go_sem, *]
      have xb6 : x.it.cell? ⟨y2.it.heap.size, 6, none⟩ = some (.string ⟨#[]⟩) := by simp (maxDischargeDepth := 9) [go_sem, *]
      have xr7 : x.it.cell? ⟨w.heap.size + 1, 7, none⟩ = some (.bool false) := by simp (maxDischargeDepth := 9) [go_sem, *]
      have xb7 : x.it.cell? ⟨y2.it.heap.size, 7, none⟩ = some (.bool false) := by simp (maxDischargeDepth := 9) [go_sem, *]
      have xr8 : x.it.cell? ⟨w.heap.size + 1, 8, none⟩ = some (.int .i64 0) := by simp (maxDischargeDepth := 9) [go_sem, *]
      have xb8 : x.it.cell? ⟨y2.it.heap.size, 8, none⟩ = some (.int .i64 0) := by simp (maxDischargeDepth := 9) [go_sem, *]
      have xr9 : x.it.cell? ⟨w.heap.size + 1, 9, none⟩ = some (.string ⟨#[]⟩) := by simp (maxDischargeDepth := 9) [go_sem, *]
      have xb9 : x.it.cell? ⟨y2.it.heap.size, 9, none⟩ = some (.string ⟨#[]⟩) := by simp (maxDischargeDepth := 9) [go_sem, *]
      have belx : Below w.heap.size w x.it := Below.on bel4 x
      have ow1 : w.heap.size ≤ w.heap.size + 1 := by omega
      have xr0 : x.it.cell? ⟨w.heap.size + 1, 0, none⟩ = some (.bool false) := by simp (maxDischargeDepth := 9) [go_sem, *]
      have xb0 : x.it.cell? ⟨y2.it.heap.size, 0, none⟩ = some (.bool p) := by simp (maxDischargeDepth := 9) [go_sem, *]
      have xr1 : x.it.cell? ⟨w.heap.size + 1, 1, none⟩ = some (.bool false) := by simp (maxDischargeDepth := 9) [go_sem, *]
      have xb1 : x.it.cell? ⟨y2.it.heap.size, 1, none⟩ = some (.bool true) := by simp (maxDischargeDepth := 9) [go_sem, *]
      have xr2 : x.it.cell? ⟨w.heap.size + 1, 2, none⟩ = some (.bool false) := by simp (maxDischargeDepth := 9) [go_sem, *]
      have xb2 : x.it.cell? ⟨y2.it.heap.size, 2, none⟩ = some (.bool false) := by simp (maxDischargeDepth := 9) [go_sem, *]
      have xr3 : x.it.cell? ⟨w.heap.size + 1, 3, none⟩ = some (.bool false) := by simp (maxDischargeDepth := 9) [go_sem, *]
      have xb3 : x.it.cell? ⟨y2.it.heap.size, 3, none⟩ = some (.bool false) := by simp (maxDischargeDepth := 9) [go_sem, *]
      have xr4 : x.it.cell? ⟨w.heap.size + 1, 4, none⟩ = some (.bool false) := by simp (maxDischargeDepth := 9) [go_sem, *]
      have xb4 : x.it.cell? ⟨y2.it.heap.size, 4, none⟩ = some (.bool false) := by simp (maxDischargeDepth := 9) [go_sem, *]
      have xr5 : x.it.cell? ⟨w.heap.size + 1, 5, none⟩ = some (.int .i64 0) := by simp (maxDischargeDepth := 9) [go_sem, *]
      have xb5 : x.it.cell? ⟨y2.it.heap.size, 5, none⟩ = some (.int .i64 0) := by simp (maxDischargeDepth := 9) [go_sem, *]
      have xr6 : x.it.cell? ⟨w.heap.size + 1, 6, none⟩ = some (.string ⟨#[]⟩) := by simp (maxDischargeDepth := 9) [go_sem, *]
      have xb6 : x.it.cell? ⟨y2.it.heap.size, 6, none⟩ = some (.string ⟨#[]⟩) := by simp (maxDischargeDepth := 9) [go_sem, *]
      have xr7 : x.it.cell? ⟨w.heap.size + 1, 7, none⟩ = some (.bool false) := by simp (maxDischargeDepth := 9) [go_sem, *]
      have xb7 : x.it.cell? ⟨y2.it.heap.size, 7, none⟩ = some (.bool false) := by simp (maxDischargeDepth := 9) [go_sem, *]
      have xr8 : x.it.cell? ⟨w.heap.size + 1, 8, none⟩ = some (.int .i64 0) := by simp (maxDischargeDepth := 9) [go_sem, *]
      have xb8 : x.it.cell? ⟨y2.it.heap.size, 8, none⟩ = some (.int .i64 0) := by simp (maxDischargeDepth := 9) [go_sem, *]
      have xr9 : x.it.cell? ⟨w.heap.size + 1, 9, none⟩ = some (.string ⟨#[]⟩) := by simp (maxDischargeDepth := 9) [go_sem, *]
      have xb9 : x.it.cell? ⟨y2.it.heap.size, 9, none⟩ = some (.string ⟨#[]⟩) := by simp (maxDischargeDepth := 9) [go_sem, *]
      by_cases hc : 0 < cmpV ty ⟨false, xi, xv⟩ ⟨false, yi, yv⟩ <;> by_cases hl : 0 < (nextF 3 r).1 <;> by_cases hr : 0 < (nextF 3 (nextF 3 r).2).1
      · have HC := Lib.hid (decide_eq_true hc)
        have HL := Lib.hid (decide_eq_true hl)
        have HH := Lib.hid (decide_eq_true hr)
        go_upto_region 14 with (go_at_call 14; refine (refCompare_any _ _ _ _ _ _ _ _).mono ?_; rintro e w1 ⟨rfl, hb1⟩; obtain ⟨x5, rfl⟩ := Ext.of hb1; have q0 : w.heap.size < x5.it.heap.size := x5.lt (by (first | with_reducible assumption | (simp only [World.size_setCell, World.size_alloc, World.size_drew]; first | with_reducible assumption | omega))); have q1 : w.heap.size + 1 < x5.it.heap.size := x5.lt (by (first | with_reducible assumption | (simp only [World.size_setCell, World.size_alloc, World.size_drew]; first | with_reducible assumption | omega))); have q2 : y2.it.heap.size < x5.it.heap.size := x5.lt (by (first | with_reducible assumption | (simp only [World.size_setCell, World.size_alloc, World.size_drew]; first | with_reducible assumption | omega))); have q3 : b < x5.it.heap.size := x5.lt (by (first | with_reducible assumption | (simp only [World.size_setCell, World.size_alloc, World.size_drew]; first | with_reducible assumption | omega))); have q4 : d < x5.it.heap.size := x5.lt (by (first | with_reducible assumption | (simp only [World.size_setCell, World.size_alloc, World.size_drew]; first | with_reducible assumption | omega))))
        go_upto_region 16 with (go_at_call 33; refine (next_any _ r 3 (by decide) (by decide) _ (by repeat (first | with_reducible assumption | with_reducible refine SrcAt.ext ?_ _ | with_reducible refine SrcAt.drew ?_ | with_reducible refine SrcAt.stn ?_ (by (first | with_reducible assumption | (simp only [World.size_setCell, World.size_alloc, World.size_drew]; first | with_reducible assumption | omega))) _))).mono ?_; rintro e w5 ⟨rfl, hm5, hs5⟩; obtain ⟨y5, rfl⟩ := ExtM.of hm5; have u0 : w.heap.size < y5.it.heap.size := y5.lt (by (first | with_reducible assumption | (simp only [World.size_setCell, World.size_alloc, World.size_drew]; first | with_reducible assumption | omega))); have u1 : w.heap.size + 1 < y5.it.heap.size := y5.lt (by (first | with_reducible assumption | (simp only [World.size_setCell, World.size_alloc, World.size_drew]; first | with_reducible assumption | omega))); have u2 : y2.it.heap.size < y5.it.heap.size := y5.lt (by (first | with_reducible assumption | (simp only [World.size_setCell, World.size_alloc, World.size_drew]; first | with_reducible assumption | omega))); have u3 : b < y5.it.heap.size := y5.lt (by (first | with_reducible assumption | (simp only [World.size_setCell, World.size_alloc, World.size_drew]; first | with_reducible assumption | omega))); have u4 : d < y5.it.heap.size := y5.lt (by (first | with_reducible assumption | (simp only [World.size_setCell, World.size_alloc, World.size_drew]; first | with_reducible assumption | omega))))
        have ga0 : y5.it.cell? ⟨b, 0, none⟩ = some (.bool false) := by simp (maxDischargeDepth := 9) [go_sem, *]
        have ga1 : y5.it.cell? ⟨b, 1, none⟩ = some (.int .i64 yi) := by simp (maxDischargeDepth := 9) [go_sem, *]
        have ga2 : y5.it.cell? ⟨b, 2, none⟩ = some (.string yv) := by simp (maxDischargeDepth := 9) [go_sem, *]
        have gb0 : y5.it.cell? ⟨y2.it.heap.size, 2, none⟩ = some (.bool false) := by simp (maxDischargeDepth := 9) [go_sem, *]
        have gb1 : y5.it.cell? ⟨y2.it.heap.size, 4, none⟩ = some (.bool false) := by simp (maxDischargeDepth := 9) [go_sem, *]
        have gb2 : y5.it.cell? ⟨y2.it.heap.size, 5, none⟩ = some (.int .i64 0) := by simp (maxDischargeDepth := 9) [go_sem, *]
        have gb3 : y5.it.cell? ⟨y2.it.heap.size, 6, none⟩ = some (.string ⟨#[]⟩) := by simp (maxDischargeDepth := 9) [go_sem, *]
        have gf : ∀ j, y5.it.frozen? ⟨y2.it.heap.size, j, none⟩ = false := by intro j; simp [go_sem, *]
        go_region
        go_upto_region 16 with fail
        go_upto_region 18 with (go_at_call 33; refine (next_any _ (nextF 3 r).2 3 (by decide) (by decide) _ (by repeat (first | with_reducible assumption | with_reducible refine SrcAt.ext ?_ _ | with_reducible refine SrcAt.drew ?_ | with_reducible refine SrcAt.stn ?_ (by (first | with_reducible assumption | (simp only [World.size_setCell, World.size_alloc, World.size_drew]; first | with_reducible assumption | omega))) _))).mono ?_; rintro e w5 ⟨rfl, hm6, hs6⟩; obtain ⟨y6, rfl⟩ := ExtM.of hm6; have v0 : w.heap.size < y6.it.heap.size := y6.lt (by (first | with_reducible assumption | (simp only [World.size_setCell, World.size_alloc, World.size_drew]; first | with_reducible assumption | omega))); have v1 : w.heap.size + 1 < y6.it.heap.size := y6.lt (by (first | with_reducible assumption | (simp only [World.size_setCell, World.size_alloc, World.size_drew]; first | with_reducible assumption | omega))); have v2 : y2.it.heap.size < y6.it.heap.size := y6.lt (by (first | with_reducible assumption | (simp only [World.size_setCell, World.size_alloc, World.size_drew]; first | with_reducible assumption | omega))); have v3 : b < y6.it.heap.size := y6.lt (by (first | with_reducible assumption | (simp only [World.size_setCell, World.size_alloc, World.size_drew]; first | with_reducible assumption | omega))); have v4 : d < y6.it.heap.size := y6.lt (by (first | with_reducible assumption | (simp only [World.size_setCell, World.size_alloc, World.size_drew]; first | with_reducible assumption | omega))))
        have ea0 : y6.it.cell? ⟨d, 0, none⟩ = some (.bool false) := by simp (maxDischargeDepth := 9) [go_sem, *]
        have ea1 : y6.it.cell? ⟨d, 1, none⟩ = some (.int .i64 xi) := by simp (maxDischargeDepth := 9) [go_sem, *]
        have ea2 : y6.it.cell? ⟨d, 2, none⟩ = some (.string xv) := by simp (maxDischargeDepth := 9) [go_sem, *]
        have eb0 : y6.it.cell? ⟨y2.it.heap.size, 3, none⟩ = some (.bool false) := by simp (maxDischargeDepth := 9) [go_sem, *]
        have eb1 : y6.it.cell? ⟨y2.it.heap.size, 7, none⟩ = some (.bool false) := by simp (maxDischargeDepth := 9) [go_sem, *]
        have eb2 : y6.it.cell? ⟨y2.it.heap.size, 8, none⟩ = some (.int .i64 0) := by simp (maxDischargeDepth := 9) [go_sem, *]
        have eb3 : y6.it.cell? ⟨y2.it.heap.size, 9, none⟩ = some (.string ⟨#[]⟩) := by simp (maxDischargeDepth := 9) [go_sem, *]
        have ef : ∀ j, y6.it.frozen? ⟨y2.it.heap.size, j, none⟩ = false := by intro j; simp [go_sem, *]
        go_region
        go_upto_region 18 with fail
        go_wp2
        have hbF := Lib.hid (show boundsF ty zs = ⟨p, true, true, true, ⟨false, yi, yv⟩, ⟨false, xi, xv⟩⟩ by unfold boundsF; rw [HP.out.1, HP.out.2, HR.out, ← HT.out]; simp [HX.out.1, HY.out.1, HC.out, HL.out, HH.out, -decide_eq_false_iff_not, -decide_eq_true_eq])
        exact bodyPost_ret (v := .agg #[.bool p, .bool true, .bool true, .bool true, .bool false, .int .i64 yi, .string yv, .bool false, .int .i64 xi, .string xv]) (by simp (maxDischargeDepth := 5) [results, Try.results12, go_sem, *]) rfl (⟨by rw [hbF.out]; rfl, by repeat (first | with_reducible assumption | with_reducible refine Below.on ?_ _ | with_reducible refine Below.drew ?_ | with_reducible refine Below.st ?_ (by (first | with_reducible assumption | (simp only [World.size_setCell, World.size_alloc, World.size_drew]; first | with_reducible assumption | omega))) _ | (refine Moved.below ?_ (by with_reducible assumption) (by omega)))⟩)
      · have HC := Lib.hid (decide_eq_true hc)
        have HL := Lib.hid (decide_eq_true hl)
        have HH := Lib.hid (decide_eq_false hr)
        go_upto_region 14 with (go_at_call 14; refine (refCompare_any _ _ _ _ _ _ _ _).mono ?_; rintro e w1 ⟨rfl, hb1⟩; obtain ⟨x5, rfl⟩ := Ext.of hb1; have q0 : w.heap.size < x5.it.heap.size := x5.lt (by (first | with_reducible assumption | (simp only [World.size_setCell, World.size_alloc, World.size_drew]; first | with_reducible assumption | omega))); have q1 : w.heap.size + 1 < x5.it.heap.size := x5.lt (by (first | with_reducible assumption | (simp only [World.size_setCell, World.size_alloc, World.size_drew]; first | with_reducible assumption | omega))); have q2 : y2.it.heap.size < x5.it.heap.size := x5.lt (by (first | with_reducible assumption | (simp only [World.size_setCell, World.size_alloc, World.size_drew]; first | with_reducible assumption | omega))); have q3 : b < x5.it.heap.size := x5.lt (by (first | with_reducible assumption | (simp only [World.size_setCell, World.size_alloc, World.size_drew]; first | with_reducible assumption | omega))); have q4 : d < x5.it.heap.size := x5.lt (by (first | with_reducible assumption | (simp only [World.size_setCell, World.size_alloc, World.size_drew]; first | with_reducible assumption | omega))))
        go_upto_region 16 with (go_at_call 33; refine (next_any _ r 3 (by decide) (by decide) _ (by repeat (first | with_reducible assumption | with_reducible refine SrcAt.ext ?_ _ | with_reducible refine SrcAt.drew ?_ | with_reducible refine SrcAt.stn ?_ (by (first | with_reducible assumption | (simp only [World.size_setCell, World.size_alloc, World.size_drew]; first | with_reducible assumption | omega))) _))).mono ?_; rintro e w5 ⟨rfl, hm5, hs5⟩; obtain ⟨y5, rfl⟩ := ExtM.of hm5; have u0 : w.heap.size < y5.it.heap.size := y5.lt (by (first | with_reducible assumption | (simp only [World.size_setCell, World.size_alloc, World.size_drew]; first | with_reducible assumption | omega))); have u1 : w.heap.size + 1 < y5.it.heap.size := y5.lt (by (first | with_reducible assumption | (simp only [World.size_setCell, World.size_alloc, World.size_drew]; first | with_reducible assumption | omega))); have u2 : y2.it.heap.size < y5.it.heap.size := y5.lt (by (first | with_reducible assumption | (simp only [World.size_setCell, World.size_alloc, World.size_drew]; first | with_reducible assumption | omega))); have u3 : b < y5.it.heap.size := y5.lt (by (first | with_reducible assumption | (simp only [World.size_setCell, World.size_alloc, World.size_drew]; first | with_reducible assumption | omega))); have u4 : d < y5.it.heap.size := y5.lt (by (first | with_reducible assumption | (simp only [World.size_setCell, World.size_alloc, World.size_drew]; first | with_reducible assumption | omega))))
        have ga0 : y5.it.cell? ⟨b, 0, none⟩ = some (.bool false) := by simp (maxDischargeDepth := 9) [go_sem, *]
        have ga1 : y5.it.cell? ⟨b, 1, none⟩ = some (.int .i64 yi) := by simp (maxDischargeDepth := 9) [go_sem, *]
        have ga2 : y5.it.cell? ⟨b, 2, none⟩ = some (.string yv) := by simp (maxDischargeDepth := 9) [go_sem, *]
        have gb0 : y5.it.cell? ⟨y2.it.heap.size, 2, none⟩ = some (.bool false) := by simp (maxDischargeDepth := 9) [go_sem, *]
        have gb1 : y5.it.cell? ⟨y2.it.heap.size, 4, none⟩ = some (.bool false) := by simp (maxDischargeDepth := 9) [go_sem, *]
        have gb2 : y5.it.cell? ⟨y2.it.heap.size, 5, none⟩ = some (.int .i64 0) := by simp (maxDischargeDepth := 9) [go_sem, *]
        have gb3 : y5.it.cell? ⟨y2.it.heap.size, 6, none⟩ = some (.string ⟨#[]⟩) := by simp (maxDischargeDepth := 9) [go_sem, *]
        have gf : ∀ j, y5.it.frozen? ⟨y2.it.heap.size, j, none⟩ = false := by intro j; simp [go_sem, *]
        go_region
        go_upto_region 16 with fail
        go_upto_region 18 with (go_at_call 33; refine (next_any _ (nextF 3 r).2 3 (by decide) (by decide) _ (by repeat (first | with_reducible assumption | with_reducible refine SrcAt.ext ?_ _ | with_reducible refine SrcAt.drew ?_ | with_reducible refine SrcAt.stn ?_ (by (first | with_reducible assumption | (simp only [World.size_setCell, World.size_alloc, World.size_drew]; first | with_reducible assumption | omega))) _))).mono ?_; rintro e w5 ⟨rfl, hm6, hs6⟩; obtain ⟨y6, rfl⟩ := ExtM.of hm6; have v0 : w.heap.size < y6.it.heap.size := y6.lt (by (first | with_reducible assumption | (simp only [World.size_setCell, World.size_alloc, World.size_drew]; first | with_reducible assumption | omega))); have v1 : w.heap.size + 1 < y6.it.heap.size := y6.lt (by (first | with_reducible assumption | (simp only [World.size_setCell, World.size_alloc, World.size_drew]; first | with_reducible assumption | omega))); have v2 : y2.it.heap.size < y6.it.heap.size := y6.lt (by (first | with_reducible assumption | (simp only [World.size_setCell, World.size_alloc, World.size_drew]; first | with_reducible assumption | omega))); have v3 : b < y6.it.heap.size := y6.lt (by (first | with_reducible assumption | (simp only [World.size_setCell, World.size_alloc, World.size_drew]; first | with_reducible assumption | omega))); have v4 : d < y6.it.heap.size := y6.lt (by (first | with_reducible assumption | (simp only [World.size_setCell, World.size_alloc, World.size_drew]; first | with_reducible assumption | omega))))
        go_wp2
        have hbF := Lib.hid (show boundsF ty zs = ⟨p, true, true, false, ⟨false, yi, yv⟩, Val.z⟩ by unfold boundsF; rw [HP.out.1, HP.out.2, HR.out, ← HT.out]; simp [HX.out.1, HY.out.1, HC.out, HL.out, HH.out, -decide_eq_false_iff_not, -decide_eq_true_eq])
        exact bodyPost_ret (v := .agg #[.bool p, .bool true, .bool true, .bool false, .bool false, .int .i64 yi, .string yv, .bool false, .int .i64 0, .string ⟨#[]⟩]) (by simp (maxDischargeDepth := 5) [results, Try.results12, go_sem, *]) rfl (⟨by rw [hbF.out]; rfl, by repeat (first | with_reducible assumption | with_reducible refine Below.on ?_ _ | with_reducible refine Below.drew ?_ | with_reducible refine Below.st ?_ (by (first | with_reducible assumption | (simp only [World.size_setCell, World.size_alloc, World.size_drew]; first | with_reducible assumption | omega))) _ | (refine Moved.below ?_ (by with_reducible assumption) (by omega)))⟩)
      · have HC := Lib.hid (decide_eq_true hc)
        have HL := Lib.hid (decide_eq_false hl)
        have HH := Lib.hid (decide_eq_true hr)
        go_upto_region 14 with (go_at_call 14; refine (refCompare_any _ _ _ _ _ _ _ _).mono ?_; rintro e w1 ⟨rfl, hb1⟩; obtain ⟨x5, rfl⟩ := Ext.of hb1; have q0 : w.heap.size < x5.it.heap.size := x5.lt (by (first | with_reducible assumption | (simp only [World.size_setCell, World.size_alloc, World.size_drew]; first | with_reducible assumption | omega))); have q1 : w.heap.size + 1 < x5.it.heap.size := x5.lt (by (first | with_reducible assumption | (simp only [World.size_setCell, World.size_alloc, World.size_drew]; first | with_reducible assumption | omega))); have q2 : y2.it.heap.size < x5.it.heap.size := x5.lt (by (first | with_reducible assumption | (simp only [World.size_setCell, World.size_alloc, World.size_drew]; first | with_reducible assumption | omega))); have q3 : b < x5.it.heap.size := x5.lt (by (first | with_reducible assumption | (simp only [World.size_setCell, World.size_alloc, World.size_drew]; first | with_reducible assumption | omega))); have q4 : d < x5.it.heap.size := x5.lt (by (first | with_reducible assumption | (simp only [World.size_setCell, World.size_alloc, World.size_drew]; first | with_reducible assumption | omega))))
        go_upto_region 16 with (go_at_call 33; refine (next_any _ r 3 (by decide) (by decide) _ (by repeat (first | with_reducible assumption | with_reducible refine SrcAt.ext ?_ _ | with_reducible refine SrcAt.drew ?_ | with_reducible refine SrcAt.stn ?_ (by (first | with_reducible assumption | (simp only [World.size_setCell, World.size_alloc, World.size_drew]; first | with_reducible assumption | omega))) _))).mono ?_; rintro e w5 ⟨rfl, hm5, hs5⟩; obtain ⟨y5, rfl⟩ := ExtM.of hm5; have u0 : w.heap.size < y5.it.heap.size := y5.lt (by (first | with_reducible assumption | (simp only [World.size_setCell, World.size_alloc, World.size_drew]; first | with_reducible assumption | omega))); have u1 : w.heap.size + 1 < y5.it.heap.size := y5.lt (by (first | with_reducible assumption | (simp only [World.size_setCell, World.size_alloc, World.size_drew]; first | with_reducible assumption | omega))); have u2 : y2.it.heap.size < y5.it.heap.size := y5.lt (by (first | with_reducible assumption | (simp only [World.size_setCell, World.size_alloc, World.size_drew]; first | with_reducible assumption | omega))); have u3 : b < y5.it.heap.size := y5.lt (by (first | with_reducible assumption | (simp only [World.size_setCell, World.size_alloc, World.size_drew]; first | with_reducible assumption | omega))); have u4 : d < y5.it.heap.size := y5.lt (by (first | with_reducible assumption | (simp only [World.size_setCell, World.size_alloc, World.size_drew]; first | with_reducible assumption | omega))))
        go_upto_region 18 with (go_at_call 33; refine (next_any _ (nextF 3 r).2 3 (by decide) (by decide) _ (by repeat (first | with_reducible assumption | with_reducible refine SrcAt.ext ?_ _ | with_reducible refine SrcAt.drew ?_ | with_reducible refine SrcAt.stn ?_ (by (first | with_reducible assumption | (simp only [World.size_setCell, World.size_alloc, World.size_drew]; first | with_reducible assumption | omega))) _))).mono ?_; rintro e w5 ⟨rfl, hm6, hs6⟩; obtain ⟨y6, rfl⟩ := ExtM.of hm6; have v0 : w.heap.size < y6.it.heap.size := y6.lt (by (first | with_reducible assumption | (simp only [World.size_setCell, World.size_alloc, World.size_drew]; first | with_reducible assumption | omega))); have v1 : w.heap.size + 1 < y6.it.heap.size := y6.lt (by (first | with_reducible assumption | (simp only [World.size_setCell, World.size_alloc, World.size_drew]; first | with_reducible assumption | omega))); have v2 : y2.it.heap.size < y6.it.heap.size := y6.lt (by (first | with_reducible assumption | (simp only [World.size_setCell, World.size_alloc, World.size_drew]; first | with_reducible assumption | omega))); have v3 : b < y6.it.heap.size := y6.lt (by (first | with_reducible assumption | (simp only [World.size_setCell, World.size_alloc, World.size_drew]; first | with_reducible assumption | omega))); have v4 : d < y6.it.heap.size := y6.lt (by (first | with_reducible assumption | (simp only [World.size_setCell, World.size_alloc, World.size_drew]; first | with_reducible assumption | omega))))
        have ea0 : y6.it.cell? ⟨d, 0, none⟩ = some (.bool false) := by simp (maxDischargeDepth := 9) [go_sem, *]
        have ea1 : y6.it.cell? ⟨d, 1, none⟩ = some (.int .i64 xi) := by simp (maxDischargeDepth := 9) [go_sem, *]
        have ea2 : y6.it.cell? ⟨d, 2, none⟩ = some (.string xv) := by simp (maxDischargeDepth := 9) [go_sem, *]
        have eb0 : y6.it.cell? ⟨y2.it.heap.size, 3, none⟩ = some (.bool false) := by simp (maxDischargeDepth := 9) [go_sem, *]
        have eb1 : y6.it.cell? ⟨y2.it.heap.size, 7, none⟩ = some (.bool false) := by simp (maxDischargeDepth := 9) [go_sem, *]
        have eb2 : y6.it.cell? ⟨y2.it.heap.size, 8, none⟩ = some (.int .i64 0) := by simp (maxDischargeDepth := 9) [go_sem, *]
        have eb3 : y6.it.cell? ⟨y2.it.heap.size, 9, none⟩ = some (.string ⟨#[]⟩) := by simp (maxDischargeDepth := 9) [go_sem, *]
        have ef : ∀ j, y6.it.frozen? ⟨y2.it.heap.size, j, none⟩ = false := by intro j; simp [go_sem, *]
        go_region
        go_upto_region 18 with fail
        go_wp2
        have hbF := Lib.hid (show boundsF ty zs = ⟨p, true, false, true, Val.z, ⟨false, xi, xv⟩⟩ by unfold boundsF; rw [HP.out.1, HP.out.2, HR.out, ← HT.out]; simp [HX.out.1, HY.out.1, HC.out, HL.out, HH.out, -decide_eq_false_iff_not, -decide_eq_true_eq])
        exact bodyPost_ret (v := .agg #[.bool p, .bool true, .bool false, .bool true, .bool false, .int .i64 0, .string ⟨#[]⟩, .bool false, .int .i64 xi, .string xv]) (by simp (maxDischargeDepth := 5) [results, Try.results12, go_sem, *]) rfl (⟨by rw [hbF.out]; rfl, by repeat (first | with_reducible assumption | with_reducible refine Below.on ?_ _ | with_reducible refine Below.drew ?_ | with_reducible refine Below.st ?_ (by (first | with_reducible assumption | (simp only [World.size_setCell, World.size_alloc, World.size_drew]; first | with_reducible assumption | omega))) _ | (refine Moved.below ?_ (by with_reducible assumption) (by omega)))⟩)
      · have HC := Lib.hid (decide_eq_true hc)
        have HL := Lib.hid (decide_eq_false hl)
        have HH := Lib.hid (decide_eq_false hr)
        go_upto_region 14 with (go_at_call 14; refine (refCompare_any _ _ _ _ _ _ _ _).mono ?_; rintro e w1 ⟨rfl, hb1⟩; obtain ⟨x5, rfl⟩ := Ext.of hb1; have q0 : w.heap.size < x5.it.heap.size := x5.lt (by (first | with_reducible assumption | (simp only [World.size_setCell, World.size_alloc, World.size_drew]; first | with_reducible assumption | omega))); have q1 : w.heap.size + 1 < x5.it.heap.size := x5.lt (by (first | with_reducible assumption | (simp only [World.size_setCell, World.size_alloc, World.size_drew]; first | with_reducible assumption | omega))); have q2 : y2.it.heap.size < x5.it.heap.size := x5.lt (by (first | with_reducible assumption | (simp only [World.size_setCell, World.size_alloc, World.size_drew]; first | with_reducible assumption | omega))); have q3 : b < x5.it.heap.size := x5.lt (by (first | with_reducible assumption | (simp only [World.size_setCell, World.size_alloc, World.size_drew]; first | with_reducible assumption | omega))); have q4 : d < x5.it.heap.size := x5.lt (by (first | with_reducible assumption | (simp only [World.size_setCell, World.size_alloc, World.size_drew]; first | with_reducible assumption | omega))))
        go_upto_region 16 with (go_at_call 33; refine (next_any _ r 3 (by decide) (by decide) _ (by repeat (first | with_reducible assumption | with_reducible refine SrcAt.ext ?_ _ | with_reducible refine SrcAt.drew ?_ | with_reducible refine SrcAt.stn ?_ (by (first | with_reducible assumption | (simp only [World.size_setCell, World.size_alloc, World.size_drew]; first | with_reducible assumption | omega))) _))).mono ?_; rintro e w5 ⟨rfl, hm5, hs5⟩; obtain ⟨y5, rfl⟩ := ExtM.of hm5; have u0 : w.heap.size < y5.it.heap.size := y5.lt (by (first | with_reducible assumption | (simp only [World.size_setCell, World.size_alloc, World.size_drew]; first | with_reducible assumption | omega))); have u1 : w.heap.size + 1 < y5.it.heap.size := y5.lt (by (first | with_reducible assumption | (simp only [World.size_setCell, World.size_alloc, World.size_drew]; first | with_reducible assumption | omega))); have u2 : y2.it.heap.size < y5.it.heap.size := y5.lt (by (first | with_reducible assumption | (simp only [World.size_setCell, World.size_alloc, World.size_drew]; first | with_reducible assumption | omega))); have u3 : b < y5.it.heap.size := y5.lt (by (first | with_reducible assumption | (simp only [World.size_setCell, World.size_alloc, World.size_drew]; first | with_reducible assumption | omega))); have u4 : d < y5.it.heap.size := y5.lt (by (first | with_reducible assumption | (simp only [World.size_setCell, World.size_alloc, World.size_drew]; first | with_reducible assumption | omega))))
        go_upto_region 18 with (go_at_call 33; refine (next_any _ (nextF 3 r).2 3 (by decide) (by decide) _ (by repeat (first | with_reducible assumption | with_reducible refine SrcAt.ext ?_ _ | with_reducible refine SrcAt.drew ?_ | with_reducible refine SrcAt.stn ?_ (by (first | with_reducible assumption | (simp only [World.size_setCell, World.size_alloc, World.size_drew]; first | with_reducible assumption | omega))) _))).mono ?_; rintro e w5 ⟨rfl, hm6, hs6⟩; obtain ⟨y6, rfl⟩ := ExtM.of hm6; have v0 : w.heap.size < y6.it.heap.size := y6.lt (by (first | with_reducible assumption | (simp only [World.size_setCell, World.size_alloc, World.size_drew]; first | with_reducible assumption | omega))); have v1 : w.heap.size + 1 < y6.it.heap.size := y6.lt (by (first | with_reducible assumption | (simp only [World.size_setCell, World.size_alloc, World.size_drew]; first | with_reducible assumption | omega))); have v2 : y2.it.heap.size < y6.it.heap.size := y6.lt (by (first | with_reducible assumption | (simp only [World.size_setCell, World.size_alloc, World.size_drew]; first | with_reducible assumption | omega))); have v3 : b < y6.it.heap.size := y6.lt (by (first | with_reducible assumption | (simp only [World.size_setCell, World.size_alloc, World.size_drew]; first | with_reducible assumption | omega))); have v4 : d < y6.it.heap.size := y6.lt (by (first | with_reducible assumption | (simp only [World.size_setCell, World.size_alloc, World.size_drew]; first | with_reducible assumption | omega))))
        go_wp2
        have hbF := Lib.hid (show boundsF ty zs = ⟨p, true, false, false, Val.z, Val.z⟩ by unfold boundsF; rw [HP.out.1, HP.out.2, HR.out, ← HT.out]; simp [HX.out.1, HY.out.1, HC.out, HL.out, HH.out, -decide_eq_false_iff_not, -decide_eq_true_eq])
        exact bodyPost_ret (v := .agg #[.bool p, .bool true, .bool false, .bool false, .bool false, .int .i64 0, .string ⟨#[]⟩, .bool false, .int .i64 0, .string ⟨#[]⟩]) (by simp (maxDischargeDepth := 5) [results, Try.results12, go_sem, *]) rfl (⟨by rw [hbF.out]; rfl, by repeat (first | with_reducible assumption | with_reducible refine Below.on ?_ _ | with_reducible refine Below.drew ?_ | with_reducible refine Below.st ?_ (by (first | with_reducible assumption | (simp only [World.size_setCell, World.size_alloc, World.size_drew]; first | with_reducible assumption | omega))) _ | (refine Moved.below ?_ (by with_reducible assumption) (by omega)))⟩)
      · have HC := Lib.hid (decide_eq_false hc)
        have HL := Lib.hid (decide_eq_true hl)
        have HH := Lib.hid (decide_eq_true hr)
        go_upto_region 14 with (go_at_call 14; refine (refCompare_any _ _ _ _ _ _ _ _).mono ?_; rintro e w1 ⟨rfl, hb1⟩; obtain ⟨x5, rfl⟩ := Ext.of hb1; have q0 : w.heap.size < x5.it.heap.size := x5.lt (by (first | with_reducible assumption | (simp only [World.size_setCell, World.size_alloc, World.size_drew]; first | with_reducible assumption | omega))); have q1 : w.heap.size + 1 < x5.it.heap.size := x5.lt (by (first | with_reducible assumption | (simp only [World.size_setCell, World.size_alloc, World.size_drew]; first | with_reducible assumption | omega))); have q2 : y2.it.heap.size < x5.it.heap.size := x5.lt (by (first | with_reducible assumption | (simp only [World.size_setCell, World.size_alloc, World.size_drew]; first | with_reducible assumption | omega))); have q3 : b < x5.it.heap.size := x5.lt (by (first | with_reducible assumption | (simp only [World.size_setCell, World.size_alloc, World.size_drew]; first | with_reducible assumption | omega))); have q4 : d < x5.it.heap.size := x5.lt (by (first | with_reducible assumption | (simp only [World.size_setCell, World.size_alloc, World.size_drew]; first | with_reducible assumption | omega))))
        go_upto_region 16 with (go_at_call 33; refine (next_any _ r 3 (by decide) (by decide) _ (by repeat (first | with_reducible assumption | with_reducible refine SrcAt.ext ?_ _ | with_reducible refine SrcAt.drew ?_ | with_reducible refine SrcAt.stn ?_ (by (first | with_reducible assumption | (simp only [World.size_setCell, World.size_alloc, World.size_drew]; first | with_reducible assumption | omega))) _))).mono ?_; rintro e w5 ⟨rfl, hm5, hs5⟩; obtain ⟨y5, rfl⟩ := ExtM.of hm5; have u0 : w.heap.size < y5.it.heap.size := y5.lt (by (first | with_reducible assumption | (simp only [World.size_setCell, World.size_alloc, World.size_drew]; first | with_reducible assumption | omega))); have u1 : w.heap.size + 1 < y5.it.heap.size := y5.lt (by (first | with_reducible assumption | (simp only [World.size_setCell, World.size_alloc, World.size_drew]; first | with_reducible assumption | omega))); have u2 : y2.it.heap.size < y5.it.heap.size := y5.lt (by (first | with_reducible assumption | (simp only [World.size_setCell, World.size_alloc, World.size_drew]; first | with_reducible assumption | omega))); have u3 : b < y5.it.heap.size := y5.lt (by (first | with_reducible assumption | (simp only [World.size_setCell, World.size_alloc, World.size_drew]; first | with_reducible assumption | omega))); have u4 : d < y5.it.heap.size := y5.lt (by (first | with_reducible assumption | (simp only [World.size_setCell, World.size_alloc, World.size_drew]; first | with_reducible assumption | omega))))
        have ga0 : y5.it.cell? ⟨b, 0, none⟩ = some (.bool false) := by simp (maxDischargeDepth := 9) [go_sem, *]
        have ga1 : y5.it.cell? ⟨b, 1, none⟩ = some (.int .i64 xi) := by simp (maxDischargeDepth := 9) [go_sem, *]
        have ga2 : y5.it.cell? ⟨b, 2, none⟩ = some (.string xv) := by simp (maxDischargeDepth := 9) [go_sem, *]
        have gb0 : y5.it.cell? ⟨y2.it.heap.size, 2, none⟩ = some (.bool false) := by simp (maxDischargeDepth := 9) [go_sem, *]
        have gb1 : y5.it.cell? ⟨y2.it.heap.size, 4, none⟩ = some (.bool false) := by simp (maxDischargeDepth := 9) [go_sem, *]
        have gb2 : y5.it.cell? ⟨y2.it.heap.size, 5, none⟩ = some (.int .i64 0) := by simp (maxDischargeDepth := 9) [go_sem, *]
        have gb3 : y5.it.cell? ⟨y2.it.heap.size, 6, none⟩ = some (.string ⟨#[]⟩) := by simp (maxDischargeDepth := 9) [go_sem, *]
        have gf : ∀ j, y5.it.frozen? ⟨y2.it.heap.size, j, none⟩ = false := by intro j; simp [go_sem, *]
        go_region
        go_upto_region 16 with fail
        go_upto_region 18 with (go_at_call 33; refine (next_any _ (nextF 3 r).2 3 (by decide) (by decide) _ (by repeat (first | with_reducible assumption | with_reducible refine SrcAt.ext ?_ _ | with_reducible refine SrcAt.drew ?_ | with_reducible refine SrcAt.stn ?_ (by (first | with_reducible assumption | (simp only [World.size_setCell, World.size_alloc, World.size_drew]; first | with_reducible assumption | omega))) _))).mono ?_; rintro e w5 ⟨rfl, hm6, hs6⟩; obtain ⟨y6, rfl⟩ := ExtM.of hm6; have v0 : w.heap.size < y6.it.heap.size := y6.lt (by (first | with_reducible assumption | (simp only [World.size_setCell, World.size_alloc, World.size_drew]; first | with_reducible assumption | omega))); have v1 : w.heap.size + 1 < y6.it.heap.size := y6.lt (by (first | with_reducible assumption | (simp only [World.size_setCell, World.size_alloc, World.size_drew]; first | with_reducible assumption | omega))); have v2 : y2.it.heap.size < y6.it.heap.size := y6.lt (by (first | with_reducible assumption | (simp only [World.size_setCell, World.size_alloc, World.size_drew]; first | with_reducible assumption | omega))); have v3 : b < y6.it.heap.size := y6.lt (by (first | with_reducible assumption | (simp only [World.size_setCell, World.size_alloc, World.size_drew]; first | with_reducible assumption | omega))); have v4 : d < y6.it.heap.size := y6.lt (by (first | with_reducible assumption | (simp only [World.size_setCell, World.size_alloc, World.size_drew]; first | with_reducible assumption | omega))))
        have ea0 : y6.it.cell? ⟨d, 0, none⟩ = some (.bool false) := by simp (maxDischargeDepth := 9) [go_sem, *]
        have ea1 : y6.it.cell? ⟨d, 1, none⟩ = some (.int .i64 yi) := by simp (maxDischargeDepth := 9) [go_sem, *]
        have ea2 : y6.it.cell? ⟨d, 2, none⟩ = some (.string yv) := by simp (maxDischargeDepth := 9) [go_sem, *]
        have eb0 : y6.it.cell? ⟨y2.it.heap.size, 3, none⟩ = some (.bool false) := by simp (maxDischargeDepth := 9) [go_sem, *]
        have eb1 : y6.it.cell? ⟨y2.it.heap.size, 7, none⟩ = some (.bool false) := by simp (maxDischargeDepth := 9) [go_sem, *]
        have eb2 : y6.it.cell? ⟨y2.it.heap.size, 8, none⟩ = some (.int .i64 0) := by simp (maxDischargeDepth := 9) [go_sem, *]
        have eb3 : y6.it.cell? ⟨y2.it.heap.size, 9, none⟩ = some (.string ⟨#[]⟩) := by simp (maxDischargeDepth := 9) [go_sem, *]
        have ef : ∀ j, y6.it.frozen? ⟨y2.it.heap.size, j, none⟩ = false := by intro j; simp [go_sem, *]
        go_region
        go_upto_region 18 with fail
        go_wp2
        have hbF := Lib.hid (show boundsF ty zs = ⟨p, true, true, true, ⟨false, xi, xv⟩, ⟨false, yi, yv⟩⟩ by unfold boundsF; rw [HP.out.1, HP.out.2, HR.out, ← HT.out]; simp [HX.out.1, HY.out.1, HC.out, HL.out, HH.out, -decide_eq_false_iff_not, -decide_eq_true_eq])
        exact bodyPost_ret (v := .agg #[.bool p, .bool true, .bool true, .bool true, .bool false, .int .i64 xi, .string xv, .bool false, .int .i64 yi, .string yv]) (by simp (maxDischargeDepth := 5) [results, Try.results12, go_sem, *]) rfl (⟨by rw [hbF.out]; rfl, by repeat (first | with_reducible assumption | with_reducible refine Below.on ?_ _ | with_reducible refine Below.drew ?_ | with_reducible refine Below.st ?_ (by (first | with_reducible assumption | (simp only [World.size_setCell, World.size_alloc, World.size_drew]; first | with_reducible assumption | omega))) _ | (refine Moved.below ?_ (by with_reducible assumption) (by omega)))⟩)
      · have HC := Lib.hid (decide_eq_false hc)
        have HL := Lib.hid (decide_eq_true hl)
        have HH := Lib.hid (decide_eq_false hr)
        go_upto_region 14 with (go_at_call 14; refine (refCompare_any _ _ _ _ _ _ _ _).mono ?_; rintro e w1 ⟨rfl, hb1⟩; obtain ⟨x5, rfl⟩ := Ext.of hb1; have q0 : w.heap.size < x5.it.heap.size := x5.lt (by (first | with_reducible assumption | (simp only [World.size_setCell, World.size_alloc, World.size_drew]; first | with_reducible assumption | omega))); have q1 : w.heap.size + 1 < x5.it.heap.size := x5.lt (by (first | with_reducible assumption | (simp only [World.size_setCell, World.size_alloc, World.size_drew]; first | with_reducible assumption | omega))); have q2 : y2.it.heap.size < x5.it.heap.size := x5.lt (by (first | with_reducible assumption | (simp only [World.size_setCell, World.size_alloc, World.size_drew]; first | with_reducible assumption | omega))); have q3 : b < x5.it.heap.size := x5.lt (by (first | with_reducible assumption | (simp only [World.size_setCell, World.size_alloc, World.size_drew]; first | with_reducible assumption | omega))); have q4 : d < x5.it.heap.size := x5.lt (by (first | with_reducible assumption | (simp only [World.size_setCell, World.size_alloc, World.size_drew]; first | with_reducible assumption | omega))))
        go_upto_region 16 with (go_at_call 33; refine (next_any _ r 3 (by decide) (by decide) _ (by repeat (first | with_reducible assumption | with_reducible refine SrcAt.ext ?_ _ | with_reducible refine SrcAt.drew ?_ | with_reducible refine SrcAt.stn ?_ (by (first | with_reducible assumption | (simp only [World.size_setCell, World.size_alloc, World.size_drew]; first | with_reducible assumption | omega))) _))).mono ?_; rintro e w5 ⟨rfl, hm5, hs5⟩; obtain ⟨y5, rfl⟩ := ExtM.of hm5; have u0 : w.heap.size < y5.it.heap.size := y5.lt (by (first | with_reducible assumption | (simp only [World.size_setCell, World.size_alloc, World.size_drew]; first | with_reducible assumption | omega))); have u1 : w.heap.size + 1 < y5.it.heap.size := y5.lt (by (first | with_reducible assumption | (simp only [World.size_setCell, World.size_alloc, World.size_drew]; first | with_reducible assumption | omega))); have u2 : y2.it.heap.size < y5.it.heap.size := y5.lt (by (first | with_reducible assumption | (simp only [World.size_setCell, World.size_alloc, World.size_drew]; first | with_reducible assumption | omega))); have u3 : b < y5.it.heap.size := y5.lt (by (first | with_reducible assumption | (simp only [World.size_setCell, World.size_alloc, World.size_drew]; first | with_reducible assumption | omega))); have u4 : d < y5.it.heap.size := y5.lt (by (first | with_reducible assumption | (simp only [World.size_setCell, World.size_alloc, World.size_drew]; first | with_reducible assumption | omega))))
        have ga0 : y5.it.cell? ⟨b, 0, none⟩ = some (.bool false) := by simp (maxDischargeDepth := 9) [go_sem, *]
        have ga1 : y5.it.cell? ⟨b, 1, none⟩ = some (.int .i64 xi) := by simp (maxDischargeDepth := 9) [go_sem, *]
        have ga2 : y5.it.cell? ⟨b, 2, none⟩ = some (.string xv) := by simp (maxDischargeDepth := 9) [go_sem, *]
        have gb0 : y5.it.cell? ⟨y2.it.heap.size, 2, none⟩ = some (.bool false) := by simp (maxDischargeDepth := 9) [go_sem, *]
        have gb1 : y5.it.cell? ⟨y2.it.heap.size, 4, none⟩ = some (.bool false) := by simp (maxDischargeDepth := 9) [go_sem, *]
        have gb2 : y5.it.cell? ⟨y2.it.heap.size, 5, none⟩ = some (.int .i64 0) := by simp (maxDischargeDepth := 9) [go_sem, *]
        have gb3 : y5.it.cell? ⟨y2.it.heap.size, 6, none⟩ = some (.string ⟨#[]⟩) := by simp (maxDischargeDepth := 9) [go_sem, *]
        have gf : ∀ j, y5.it.frozen? ⟨y2.it.heap.size, j, none⟩ = false := by intro j; simp [go_sem, *]
        go_region
        go_upto_region 16 with fail
        go_upto_region 18 with (go_at_call 33; refine (next_any _ (nextF 3 r).2 3 (by decide) (by decide) _ (by repeat (first | with_reducible assumption | with_reducible refine SrcAt.ext ?_ _ | with_reducible refine SrcAt.drew ?_ | with_reducible refine SrcAt.stn ?_ (by (first | with_reducible assumption | (simp only [World.size_setCell, World.size_alloc, World.size_drew]; first | with_reducible assumption | omega))) _))).mono ?_; rintro e w5 ⟨rfl, hm6, hs6⟩; obtain ⟨y6, rfl⟩ := ExtM.of hm6; have v0 : w.heap.size < y6.it.heap.size := y6.lt (by (first | with_reducible assumption | (simp only [World.size_setCell, World.size_alloc, World.size_drew]; first | with_reducible assumption | omega))); have v1 : w.heap.size + 1 < y6.it.heap.size := y6.lt (by (first | with_reducible assumption | (simp only [World.size_setCell, World.size_alloc, World.size_drew]; first | with_reducible assumption | omega))); have v2 : y2.it.heap.size < y6.it.heap.size := y6.lt (by (first | with_reducible assumption | (simp only [World.size_setCell, World.size_alloc, World.size_drew]; first | with_reducible assumption | omega))); have v3 : b < y6.it.heap.size := y6.lt (by (first | with_reducible assumption | (simp only [World.size_setCell, World.size_alloc, World.size_drew]; first | with_reducible assumption | omega))); have v4 : d < y6.it.heap.size := y6.lt (by (first | with_reducible assumption | (simp only [World.size_setCell, World.size_alloc, World.size_drew]; first | with_reducible assumption | omega))))
        go_wp2
        have hbF := Lib.hid (show boundsF ty zs = ⟨p, true, true, false, ⟨false, xi, xv⟩, Val.z⟩ by unfold boundsF; rw [HP.out.1, HP.out.2, HR.out, ← HT.out]; simp [HX.out.1, HY.out.1, HC.out, HL.out, HH.out, -decide_eq_false_iff_not, -decide_eq_true_eq])
        exact bodyPost_ret (v := .agg #[.bool p, .bool true, .bool true, .bool false, .bool false, .int .i64 xi, .string xv, .bool false, .int .i64 0, .string ⟨#[]⟩]) (by simp (maxDischargeDepth := 5) [results, Try.results12, go_sem, *]) rfl (⟨by rw [hbF.out]; rfl, by repeat (first | with_reducible assumption | with_reducible refine Below.on ?_ _ | with_reducible refine Below.drew ?_ | with_reducible refine Below.st ?_ (by (first | with_reducible assumption | (simp only [World.size_setCell, World.size_alloc, World.size_drew]; first | with_reducible assumption | omega))) _ | (refine Moved.below ?_ (by with_reducible assumption) (by omega)))⟩)
      · have HC := Lib.hid (decide_eq_false hc)
        have HL := Lib.hid (decide_eq_false hl)
        have HH := Lib.hid (decide_eq_true hr)
        go_upto_region 14 with (go_at_call 14; refine (refCompare_any _ _ _ _ _ _ _ _).mono ?_; rintro e w1 ⟨rfl, hb1⟩; obtain ⟨x5, rfl⟩ := Ext.of hb1; have q0 : w.heap.size < x5.it.heap.size := x5.lt (by (first | with_reducible assumption | (simp only [World.size_setCell, World.size_alloc, World.size_drew]; first | with_reducible assumption | omega))); have q1 : w.heap.size + 1 < x5.it.heap.size := x5.lt (by (first | with_reducible assumption | (simp only [World.size_setCell, World.size_alloc, World.size_drew]; first | with_reducible assumption | omega))); have q2 : y2.it.heap.size < x5.it.heap.size := x5.lt (by (first | with_reducible assumption | (simp only [World.size_setCell, World.size_alloc, World.size_drew]; first | with_reducible assumption | omega))); have q3 : b < x5.it.heap.size := x5.lt (by (first | with_reducible assumption | (simp only [World.size_setCell, World.size_alloc, World.size_drew]; first | with_reducible assumption | omega))); have q4 : d < x5.it.heap.size := x5.lt (by (first | with_reducible assumption | (simp only [World.size_setCell, World.size_alloc, World.size_drew]; first | with_reducible assumption | omega))))
        go_upto_region 16 with (go_at_call 33; refine (next_any _ r 3 (by decide) (by decide) _ (by repeat (first | with_reducible assumption | with_reducible refine SrcAt.ext ?_ _ | with_reducible refine SrcAt.drew ?_ | with_reducible refine SrcAt.stn ?_ (by (first | with_reducible assumption | (simp only [World.size_setCell, World.size_alloc, World.size_drew]; first | with_reducible assumption | omega))) _))).mono ?_; rintro e w5 ⟨rfl, hm5, hs5⟩; obtain ⟨y5, rfl⟩ := ExtM.of hm5; have u0 : w.heap.size < y5.it.heap.size := y5.lt (by (first | with_reducible assumption | (simp only [World.size_setCell, World.size_alloc, World.size_drew]; first | with_reducible assumption | omega))); have u1 : w.heap.size + 1 < y5.it.heap.size := y5.lt (by (first | with_reducible assumption | (simp only [World.size_setCell, World.size_alloc, World.size_drew]; first | with_reducible assumption | omega))); have u2 : y2.it.heap.size < y5.it.heap.size := y5.lt (by (first | with_reducible assumption | (simp only [World.size_setCell, World.size_alloc, World.size_drew]; first | with_reducible assumption | omega))); have u3 : b < y5.it.heap.size := y5.lt (by (first | with_reducible assumption | (simp only [World.size_setCell, World.size_alloc, World.size_drew]; first | with_reducible assumption | omega))); have u4 : d < y5.it.heap.size := y5.lt (by (first | with_reducible assumption | (simp only [World.size_setCell, World.size_alloc, World.size_drew]; first | with_reducible assumption | omega))))
        go_upto_region 18 with (go_at_call 33; refine (next_any _ (nextF 3 r).2 3 (by decide) (by decide) _ (by repeat (first | with_reducible assumption | with_reducible refine SrcAt.ext ?_ _ | with_reducible refine SrcAt.drew ?_ | with_reducible refine SrcAt.stn ?_ (by (first | with_reducible assumption | (simp only [World.size_setCell, World.size_alloc, World.size_drew]; first | with_reducible assumption | omega))) _))).mono ?_; rintro e w5 ⟨rfl, hm6, hs6⟩; obtain ⟨y6, rfl⟩ := ExtM.of hm6; have v0 : w.heap.size < y6.it.heap.size := y6.lt (by (first | with_reducible assumption | (simp only [World.size_setCell, World.size_alloc, World.size_drew]; first | with_reducible assumption | omega))); have v1 : w.heap.size + 1 < y6.it.heap.size := y6.lt (by (first | with_reducible assumption | (simp only [World.size_setCell, World.size_alloc, World.size_drew]; first | with_reducible assumption | omega))); have v2 : y2.it.heap.size < y6.it.heap.size := y6.lt (by (first | with_reducible assumption | (simp only [World.size_setCell, World.size_alloc, World.size_drew]; first | with_reducible assumption | omega))); have v3 : b < y6.it.heap.size := y6.lt (by (first | with_reducible assumption | (simp only [World.size_setCell, World.size_alloc, World.size_drew]; first | with_reducible assumption | omega))); have v4 : d < y6.it.heap.size := y6.lt (by (first | with_reducible assumption | (simp only [World.size_setCell, World.size_alloc, World.size_drew]; first | with_reducible assumption | omega))))
        have ea0 : y6.it.cell? ⟨d, 0, none⟩ = some (.bool false) := by simp (maxDischargeDepth := 9) [go_sem, *]
        have ea1 : y6.it.cell? ⟨d, 1, none⟩ = some (.int .i64 yi) := by simp (maxDischargeDepth := 9) [go_sem, *]
        have ea2 : y6.it.cell? ⟨d, 2, none⟩ = some (.string yv) := by simp (maxDischargeDepth := 9) [go_sem, *]
        have eb0 : y6.it.cell? ⟨y2.it.heap.size, 3, none⟩ = some (.bool false) := by simp (maxDischargeDepth := 9) [go_sem, *]
        have eb1 : y6.it.cell? ⟨y2.it.heap.size, 7, none⟩ = some (.bool false) := by simp (maxDischargeDepth := 9) [go_sem, *]
        have eb2 : y6.it.cell? ⟨y2.it.heap.size, 8, none⟩ = some (.int .i64 0) := by simp (maxDischargeDepth := 9) [go_sem, *]
        have eb3 : y6.it.cell? ⟨y2.it.heap.size, 9, none⟩ = some (.string ⟨#[]⟩) := by simp (maxDischargeDepth := 9) [go_sem, *]
        have ef : ∀ j, y6.it.frozen? ⟨y2.it.heap.size, j, none⟩ = false := by intro j; simp [go_sem, *]
        go_region
        go_upto_region 18 with fail
        go_wp2
        have hbF := Lib.hid (show boundsF ty zs = ⟨p, true, false, true, Val.z, ⟨false, yi, yv⟩⟩ by unfold boundsF; rw [HP.out.1, HP.out.2, HR.out, ← HT.out]; simp [HX.out.1, HY.out.1, HC.out, HL.out, HH.out, -decide_eq_false_iff_not, -decide_eq_true_eq])
        exact bodyPost_ret (v := .agg #[.bool p, .bool true, .bool false, .bool true, .bool false, .int .i64 0, .string ⟨#[]⟩, .bool false, .int .i64 yi, .string yv]) (by simp (maxDischargeDepth := 5) [results, Try.results12, go_sem, *]) rfl (⟨by rw [hbF.out]; rfl, by repeat (first | with_reducible assumption | with_reducible refine Below.on ?_ _ | with_reducible refine Below.drew ?_ | with_reducible refine Below.st ?_ (by (first | with_reducible assumption | (simp only [World.size_setCell, World.size_alloc, World.size_drew]; first | with_reducible assumption | omega))) _ | (refine Moved.below ?_ (by with_reducible assumption) (by omega)))⟩)
      · have HC := Lib.hid (decide_eq_false hc)
        have HL := Lib.hid (decide_eq_false hl)
        have HH := Lib.hid (decide_eq_false hr)
        go_upto_region 14 with (go_at_call 14; refine (refCompare_any _ _ _ _ _ _ _ _).mono ?_; rintro e w1 ⟨rfl, hb1⟩; obtain ⟨x5, rfl⟩ := Ext.of hb1; have q0 : w.heap.size < x5.it.heap.size := x5.lt (by (first | with_reducible assumption | (simp only [World.size_setCell, World.size_alloc, World.size_drew]; first | with_reducible assumption | omega))); have q1 : w.heap.size + 1 < x5.it.heap.size := x5.lt (by (first | with_reducible assumption | (simp only [World.size_setCell, World.size_alloc, World.size_drew]; first | with_reducible assumption | omega))); have q2 : y2.it.heap.size < x5.it.heap.size := x5.lt (by (first | with_reducible assumption | (simp only [World.size_setCell, World.size_alloc, World.size_drew]; first | with_reducible assumption | omega))); have q3 : b < x5.it.heap.size := x5.lt (by (first | with_reducible assumption | (simp only [World.size_setCell, World.size_alloc, World.size_drew]; first | with_reducible assumption | omega))); have q4 : d < x5.it.heap.size := x5.lt (by (first | with_reducible assumption | (simp only [World.size_setCell, World.size_alloc, World.size_drew]; first | with_reducible assumption | omega))))
        go_upto_region 16 with (go_at_call 33; refine (next_any _ r 3 (by decide) (by decide) _ (by repeat (first | with_reducible assumption | with_reducible refine SrcAt.ext ?_ _ | with_reducible refine SrcAt.drew ?_ | with_reducible refine SrcAt.stn ?_ (by (first | with_reducible assumption | (simp only [World.size_setCell, World.size_alloc, World.size_drew]; first | with_reducible assumption | omega))) _))).mono ?_; rintro e w5 ⟨rfl, hm5, hs5⟩; obtain ⟨y5, rfl⟩ := ExtM.of hm5; have u0 : w.heap.size < y5.it.heap.size := y5.lt (by (first | with_reducible assumption | (simp only [World.size_setCell, World.size_alloc, World.size_drew]; first | with_reducible assumption | omega))); have u1 : w.heap.size + 1 < y5.it.heap.size := y5.lt (by (first | with_reducible assumption | (simp only [World.size_setCell, World.size_alloc, World.size_drew]; first | with_reducible assumption | omega))); have u2 : y2.it.heap.size < y5.it.heap.size := y5.lt (by (first | with_reducible assumption | (simp only [World.size_setCell, World.size_alloc, World.size_drew]; first | with_reducible assumption | omega))); have u3 : b < y5.it.heap.size := y5.lt (by (first | with_reducible assumption | (simp only [World.size_setCell, World.size_alloc, World.size_drew]; first | with_reducible assumption | omega))); have u4 : d < y5.it.heap.size := y5.lt (by (first | with_reducible assumption | (simp only [World.size_setCell, World.size_alloc, World.size_drew]; first | with_reducible assumption | omega))))
        go_upto_region 18 with (go_at_call 33; refine (next_any _ (nextF 3 r).2 3 (by decide) (by decide) _ (by repeat (first | with_reducible assumption | with_reducible refine SrcAt.ext ?_ _ | with_reducible refine SrcAt.drew ?_ | with_reducible refine SrcAt.stn ?_ (by (first | with_reducible assumption | (simp only [World.size_setCell, World.size_alloc, World.size_drew]; first | with_reducible assumption | omega))) _))).mono ?_; rintro e w5 ⟨rfl, hm6, hs6⟩; obtain ⟨y6, rfl⟩ := ExtM.of hm6; have v0 : w.heap.size < y6.it.heap.size := y6.lt (by (first | with_reducible assumption | (simp only [World.size_setCell, World.size_alloc, World.size_drew]; first | with_reducible assumption | omega))); have v1 : w.heap.size + 1 < y6.it.heap.size := y6.lt (by (first | with_reducible assumption | (simp only [World.size_setCell, World.size_alloc, World.size_drew]; first | with_reducible assumption | omega))); have v2 : y2.it.heap.size < y6.it.heap.size := y6.lt (by (first | with_reducible assumption | (simp only [World.size_setCell, World.size_alloc, World.size_drew]; first | with_reducible assumption | omega))); have v3 : b < y6.it.heap.size := y6.lt (by (first | with_reducible assumption | (simp only [World.size_setCell, World.size_alloc, World.size_drew]; first | with_reducible assumption | omega))); have v4 : d < y6.it.heap.size := y6.lt (by (first | with_reducible assumption | (simp only [World.size_setCell, World.size_alloc, World.size_drew]; first | with_reducible assumption | omega))))
        go_wp2
        have hbF := Lib.hid (show boundsF ty zs = ⟨p, true, false, false, Val.z, Val.z⟩ by unfold boundsF; rw [HP.out.1, HP.out.2, HR.out, ← HT.out]; simp [HX.out.1, HY.out.1, HC.out, HL.out, HH.out, -decide_eq_false_iff_not, -decide_eq_true_eq])
        exact bodyPost_ret (v := .agg #[.bool p, .bool true, .bool false, .bool false, .bool false, .int .i64 0, .string ⟨#[]⟩, .bool false, .int .i64 0, .string ⟨#[]⟩]) (by simp (maxDischargeDepth := 5) [results, Try.results12, go_sem, *]) rfl (⟨by rw [hbF.out]; rfl, by repeat (first | with_reducible assumption | with_reducible refine Below.on ?_ _ | with_reducible refine Below.drew ?_ | with_reducible refine Below.st ?_ (by (first | with_reducible assumption | (simp only [World.size_setCell, World.size_alloc, World.size_drew]; first | with_reducible assumption | omega))) _ | (refine Moved.below ?_ (by with_reducible assumption) (by omega)))⟩)
    · have hk5 : (k : Int) < 5 := by omega
      have hkn : k < 5 := by omega
      have hK := Lib.hid hk
      obtain ⟨hi, hz0, hz1, hz2⟩ := I.out
      clear hk hg hs3
      go_wp2_with (first | (go_at_call 34; refine (raw_any _ r _ hs).mono ?_; rintro e wa ⟨rfl, hma, hsa⟩) | (at_builtin; go_must (refine wpList_append_own_at _ rfl _ _ 26 rfl y3.it.heap.size 3 i0 (.int .i64 0) 1 8 Try.underlying26 hi hz0 hz1 hz2 rfl (by decide) _ k (xs.map (Value.int .i64)) rfl ?c0 _ 1 1 [.int .i64 (rawF r).1] rfl rfl ?c1 ?c2 ?c3 ?c4 ?c5 ?_)))
      case c0 => exact (ht.moved hma hSB _).o1
      case c1 => exact cell_one_new _ _ _
      case c2 => intro u hu; simp at hu; subst hu; rfl
      case c3 => unfold maxLen; omega
      case c4 => omega
      case c5 => exact Nat.le_trans hm.size (Nat.le_trans hma.size (by simp))
      intro v1' w2 hown1 hgrow1 hnn1 hblk1
      have ht2 := (ht.moved hma hSB _).step hown1 hgrow1 (by simpa using hblk1) (rawF_isI hs)
      have hm2 := ((hm.trans hma).al _).grown hgrow1 (own_base ht.o1)
      have hs2 := (hsa.al _).gr hgrow1 (fun j hj => Nat.lt_of_lt_of_le hSB (own_base ht.o1 j hj))
      clear hown1 hgrow1 hnn1 hblk1 ht hm hs hma hsa
      go_wp2_with (first | (go_at_call 34; refine (raw_any _ (rawF r).2 _ hs2).mono ?_; rintro e wa2 ⟨rfl, hma, hsa⟩) | (at_builtin; go_must (refine wpList_append_own_at _ rfl _ _ 26 rfl y3.it.heap.size 3 i0 (.int .i64 0) 1 8 Try.underlying26 hi hz0 hz1 hz2 rfl (by decide) _ k (ys.map (Value.int .i64)) rfl ?e0 _ 1 1 [.int .i64 (rawF (rawF r).2).1] rfl rfl ?e1 ?e2 ?e3 ?e4 ?e5 ?_)))
      case e0 => exact (ht2.moved hma hSB _).o2
      case e1 => exact cell_one_new _ _ _
      case e2 => intro u hu; simp at hu; subst hu; rfl
      case e3 => unfold maxLen; omega
      case e4 => omega
      case e5 => exact Nat.le_trans hm2.size (Nat.le_trans hma.size (by simp))
      intro v2' w3 hown2 hgrow2 hnn2 hblk2
      have ht3 := ((ht2.moved hma hSB _).symm.step hown2 hgrow2 (by simpa using hblk2) (rawF_isI hs2)).symm
      have hm3 := ((hm2.trans hma).al _).grown hgrow2 (own_base ht2.o2)
      have hs3 := (hsa.al _).gr hgrow2 (fun j hj => Nat.lt_of_lt_of_le hSB (own_base ht2.o2 j hj))
      clear hown2 hgrow2 hnn2 hblk2 ht2 hm2 hs2 hma hsa
      go_wp2
      go_roundg (gk - 1)
      case measure => have := hK.out; omega
      case rel => exact ⟨k + 1, _, _, _, (by unfold twoF; rw [← HT.out]), by have := hK.out; omega, by go_num, ht3, hm3, hs3⟩
end Go.Proofs.Ytjojnakgadfgmaa
