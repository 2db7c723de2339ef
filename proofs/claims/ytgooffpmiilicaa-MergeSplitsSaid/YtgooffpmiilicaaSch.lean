/-
  SCHEMAS: schema.Find, schema.Check and micropartref6.CheckSchema of whatever columns: 'schemaF'. Conditions: the columns lie in memory as 'ColsAt' says.
-/
import Derived.Test.YtgooffpmiilicaaNam
import Derived.Test.YtgooffpmiilicaaInt
set_option linter.unusedVariables false
set_option linter.unusedSimpArgs false
namespace Go.Proofs.Ytgooffpmiilicaa
open Go.RowKit
theorem ext_of {W w : World} (h : Below W.heap.size W w) : ∃ x : Ext W, x.it = w := ⟨⟨w, h⟩, rfl⟩
theorem take_cons_drop {α : Type} {l : List α} {k : Nat} (h : k < l.length) : l.take k ++ l[k]'h :: l.drop (k + 1) = l := by rw [← List.drop_eq_getElem_cons h, List.take_append_drop]
structure Col where
  nm : ByteArray
  ty : Int
  sc : Int
  nul : Bool
def ColCells (w : World) (b o : Nat) (c : Col) : Prop := w.cell? ⟨b, o, none⟩ = some (.string c.nm) ∧ w.cell? ⟨b, o + 1, none⟩ = some (.int .i64 c.ty) ∧ w.cell? ⟨b, o + 2, none⟩ = some (.int .i64 c.sc) ∧ w.cell? ⟨b, o + 3, none⟩ = some (.bool c.nul)
def ColsAt (w : World) (B : Nat) (v : Value) (cs : List Col) : Prop :=
  cs.length ≤ 9223372036854775807 ∧
    ((cs = [] ∧ ∃ a c, v = .slice a 0 c) ∨ ∃ b o c, v = .slice (some ⟨b, o, none⟩) cs.length c ∧ cs.length ≤ c ∧ b < B ∧ ∀ j (h : j < cs.length), ColCells w b (o + j * 4) (cs[j]'h))
theorem cols_end {w : World} {B : Nat} {v : Value} {cs : List Col} (h : ColsAt w B v cs) : ∃ a c, v = .slice a cs.length c := by
  rcases h.2 with ⟨e, a, c, rfl⟩ | ⟨b, o, c, rfl, _⟩
  · exact ⟨a, c, by rw [e]; rfl⟩
  · exact ⟨_, c, rfl⟩
theorem cols_in {w : World} {B : Nat} {a : Option Addr} {n c : Nat} {cs : List Col} (h : ColsAt w B (.slice a n c) cs) {i : Nat} (hi : i < cs.length) : ∃ b o, a = some ⟨b, o, none⟩ ∧ cs.length ≤ c ∧ b < B ∧ ColCells w b (o + i * 4) (cs[i]'hi) := by
  rcases h.2 with ⟨e, _⟩ | ⟨b, o, c, hv, hcap, hb, hc⟩
  · subst e; exact absurd hi (by simp)
  · injection hv with h1 h2 h3
    subst h3
    exact ⟨b, o, h1, hcap, hb, hc i hi⟩
theorem ColCells.mono {w w' : World} {B b o : Nat} {c : Col} (h : ColCells w b o c) (hb : Below B w w') (hlt : b < B) : ColCells w' b o c :=
  ⟨(hb.cell (p := ⟨b, o, none⟩) hlt).trans h.1, (hb.cell (p := ⟨b, o + 1, none⟩) hlt).trans h.2.1, (hb.cell (p := ⟨b, o + 2, none⟩) hlt).trans h.2.2.1, (hb.cell (p := ⟨b, o + 3, none⟩) hlt).trans h.2.2.2⟩
theorem ColsAt.mono {w w' : World} {B B' : Nat} {v : Value} {cs : List Col} (h : ColsAt w B v cs) (hb : Below B w w') (hB : B ≤ B') : ColsAt w' B' v cs := by
  refine ⟨h.1, h.2.imp id ?_⟩
  rintro ⟨b, o, c, hv, hcap, hlt, hc⟩
  exact ⟨b, o, c, hv, hcap, Nat.lt_of_lt_of_le hlt hB, fun j hj => (hc j hj).mono hb hlt⟩
theorem ColsAt.ext {w : World} {v : Value} {cs : List Col} (h : ColsAt w w.heap.size v cs) (x : Ext w) : ColsAt x.it x.it.heap.size v cs := h.mono x.below x.below.size
def findFrom (nm : ByteArray) (i : Int) : List Col → Int
  | [] => -1
  | c :: r => if c.nm.toList = nm.toList then i else findFrom nm (i + 1) r
theorem findFrom_none {nm : ByteArray} : ∀ (cs : List Col) (i : Int), (∀ c ∈ cs, ¬ c.nm.toList = nm.toList) → findFrom nm i cs = -1
  | [], _, _ => rfl
  | c :: r, i, h => by
    unfold findFrom
    rw [if_neg (h c (by simp))]
    exact findFrom_none r (i + 1) fun d hd => h d (by simp [hd])
theorem findFrom_at {nm : ByteArray} : ∀ (pre : List Col) (c : Col) (r : List Col) (i : Int), c.nm.toList = nm.toList → (findFrom nm i (pre ++ c :: r) < i + pre.length ↔ (pre.any fun d => d.nm.toList == nm.toList) = true) ∧ i ≤ findFrom nm i (pre ++ c :: r)
  | [], c, r, i, h => by simp [findFrom, h]
  | d :: pre, c, r, i, h => by
    by_cases e : d.nm.toList = nm.toList
    · simp [findFrom, e]; omega
    · have := findFrom_at pre c r (i + 1) h
      have e' : (d.nm.toList == nm.toList) = false := by simpa using e
      simp only [List.cons_append, findFrom, if_neg e, List.any_cons, e', Bool.false_or, List.length_cons]
      refine ⟨?_, by omega⟩
      rw [← this.1]
      omega
theorem findFrom_bd {nm : ByteArray} : ∀ (cs : List Col) (i : Int), -1 ≤ i → -1 ≤ findFrom nm i cs ∧ findFrom nm i cs < i + cs.length + 1
  | [], i, h => by simp [findFrom]; omega
  | c :: r, i, h => by
    unfold findFrom
    split
    · simp; omega
    · have := findFrom_bd (nm := nm) r (i + 1) (by omega)
      simp only [List.length_cons]; omega
def colE (pre : List Col) (c : Col) : Int :=
  if nameF c.nm.toList = false then 3 else if (pre.any fun d => d.nm.toList == c.nm.toList) = true then 5 else if c.ty < 1 ∨ 5 < c.ty then 11 else if c.sc < 0 ∨ 18 < c.sc ∨ (¬ c.ty = 5 ∧ ¬ c.sc = 0) then 4 else 0
def colsE : List Col → List Col → Int
  | _, [] => 0
  | pre, c :: r => if colE pre c = 0 then colsE (pre ++ [c]) r else colE pre c
def schemaF (cs : List Col) (key : Int) : Int :=
  if cs.length = 0 then 1 else if 12 < cs.length then 7 else if colsE [] cs = 0 then (if key < 0 ∨ (cs.length : Int) ≤ key then 4 else 0) else colsE [] cs
theorem colsE_ok {cs : List Col} {k : Nat} (h : k < cs.length) (h0 : colE (cs.take k) (cs[k]'h) = 0) : colsE (cs.take k) (cs.drop k) = colsE (cs.take (k + 1)) (cs.drop (k + 1)) := by
  rw [List.drop_eq_getElem_cons h]
  simp only [colsE]
  rw [if_pos h0, List.take_succ_eq_append_getElem h]
theorem colsE_bad {cs : List Col} {k : Nat} {e : Int} (h : k < cs.length) (h0 : colE (cs.take k) (cs[k]'h) = e) (hn : ¬ e = 0) : colsE (cs.take k) (cs.drop k) = e := by
  rw [List.drop_eq_getElem_cons h]
  simp only [colsE]
  rw [h0, if_neg hn]
theorem schemaF_bad {cs : List Col} {key e : Int} (h0 : ¬ cs.length = 0) (h1 : ¬ 12 < cs.length) (he : colsE [] cs = e) (hn : ¬ e = 0) : schemaF cs key = e := by
  unfold schemaF; rw [if_neg h0, if_neg h1, if_neg (by rw [he]; exact hn), he]
/-! ### Find -/
set_option maxRecDepth 8000 in
set_option maxHeartbeats 2000000 in
theorem idx_any (v : Value) (cs : List Col) (nm : ByteArray) (p : Nat) (w : World) (hc : ColsAt w w.heap.size v cs) (hp : p < w.heap.size) (hn : w.cell? ⟨p, 0, none⟩ = some (.string nm)) :
    Calls Try.prog 61 #[v, .func (.func 62) #[] #[.pointer (some ⟨p, 0, none⟩)]] w fun e w' => e = .returned (.int .i64 (findFrom nm 0 cs)) ∧ Below w.heap.size w w' := by
  have HC := Lib.hid hc
  have h63 := hc.1
  obtain ⟨a, c, rfl⟩ := cols_end hc
  clear hc
  generalize hl : cs.length = n at *
  have HL := Lib.hid hl
  clear hl
  go_enter Try.func61, Try.ntmps61
  go_wp2_with fail
  go_loopg [8] n (fun g s wr => ∃ k : Nat, k + g = n ∧ s = .int .i64 (k : Int) ∧ findFrom nm 0 cs = findFrom nm k (cs.drop k) ∧ ∃ x : Ext w, x.it = wr)
  case atStart => exact ⟨0, by omega, rfl, by simp, ⟨w, Below.refl _ _⟩, rfl⟩
  case round =>
    obtain ⟨k, hk, rfl, hF, x, rfl⟩ := hrel
    have hx := x.below
    by_cases hg0 : gk = 0
    · subst hg0
      obtain rfl : k = n := by omega
      have FF := Lib.hid (show findFrom nm 0 cs = -1 by rw [hF, List.drop_of_length_le (by rw [HL.out]; exact Nat.le_refl _)]; rfl)
      clear hF hk
      go_wp2
      exact bodyPost_ret (v := .int .i64 (-1)) (by simp [results, Try.results61, go_sem, *]) rfl (⟨by rw [FF.out], by repeat (first | with_reducible exact Below.refl _ _ | with_reducible assumption | with_reducible refine Below.al ?_ _ | with_reducible refine Below.on ?_ _ | with_reducible refine Below.st ?_ (by first | assumption | (simp; done) | (simp; omega)) _ | with_reducible refine Below.drew ?_)⟩)
    · have hkn : k < n := by omega
      have hkn' : (k : Int) < n := by omega
      have hkl : k < cs.length := by rw [HL.out]; exact hkn
      obtain ⟨b, o, rfl, hcap, hb, c0, c1, c2, c3⟩ := cols_in HC.out hkl
      rw [List.drop_eq_getElem_cons hkl] at hF
      obtain ⟨d, hd⟩ : ∃ d, cs[k]'hkl = d := ⟨_, rfl⟩
      rw [hd] at hF c0 c1 c2 c3
      obtain ⟨dn, dt, ds, dl⟩ := d
      dsimp only at c0 c1 c2 c3
      have f0 := (x.cell b (o + k * 4) hb).trans c0
      have f1 := (x.cell b (o + k * 4 + 1) hb).trans c1
      have f2 := (x.cell b (o + k * 4 + 2) hb).trans c2
      have f3 := (x.cell b (o + k * 4 + 3) hb).trans c3
      have fp := (x.cell p 0 hp).trans hn
      have zb : b < x.it.heap.size := x.lt hb
      have zp : p < x.it.heap.size := x.lt hp
      have np : p ≠ x.it.heap.size := by omega
      have nb : b ≠ x.it.heap.size := by omega
      have HK := Lib.hid hk
      clear c0 c1 c2 c3 hcap hd hk hg0
      by_cases hq : dn.toList = nm.toList
      · have hq' : (dn.toList == nm.toList) = true := by simpa using hq
        have FF := Lib.hid (show findFrom nm 0 cs = k by rw [hF]; show (if dn.toList = nm.toList then _ else _) = _; rw [if_pos hq])
        clear hF hq
        go_wp2
        exact bodyPost_ret (v := .int .i64 k) (by simp [results, Try.results61, go_sem, *]) rfl (⟨by rw [FF.out], by repeat (first | with_reducible exact Below.refl _ _ | with_reducible assumption | with_reducible refine Below.al ?_ _ | with_reducible refine Below.on ?_ _ | with_reducible refine Below.st ?_ (by first | assumption | (simp; done) | (simp; omega)) _ | with_reducible refine Below.drew ?_)⟩)
      · have hq' : (dn.toList == nm.toList) = false := by simpa using hq
        have FF := Lib.hid (show findFrom nm 0 cs = findFrom nm ((k + 1 : Nat) : Int) (cs.drop (k + 1)) by rw [hF]; show (if dn.toList = nm.toList then _ else _) = _; rw [if_neg hq]; rfl)
        clear hF hq
        go_wp2
        go_roundg (gk - 1)
        case measure => have := HK.out; omega
        case rel => exact ⟨k + 1, by have := HK.out; omega, by go_num, FF.out, ext_of (by repeat (first | with_reducible exact Below.refl _ _ | with_reducible assumption | with_reducible refine Below.al ?_ _ | with_reducible refine Below.on ?_ _ | with_reducible refine Below.st ?_ (by first | assumption | (simp; done) | (simp; omega)) _ | with_reducible refine Below.drew ?_))⟩
set_option maxHeartbeats 1000000 in
theorem find_any (v : Value) (cs : List Col) (key : Int) (nm : ByteArray) (w : World) (hc : ColsAt w w.heap.size v cs) :
    Calls Try.prog 48 #[.agg #[v, .int .i64 key], .string nm] w fun e w' => e = .returned (.int .i64 (findFrom nm 0 cs)) ∧ Below w.heap.size w w' := by
  have HC := Lib.hid hc
  obtain ⟨a, c, rfl⟩ := cols_end hc
  clear hc
  generalize hl : cs.length = n at *
  clear hl
  go_enter Try.func48, Try.ntmps48
  go_wp2_with (go_at_call 61; refine (idx_any _ cs nm _ _ (HC.out.mono (by repeat (first | with_reducible exact Below.refl _ _ | with_reducible assumption | with_reducible refine Below.al ?_ _ | with_reducible refine Below.on ?_ _ | with_reducible refine Below.st ?_ (by first | assumption | (simp; done) | (simp; omega)) _ | with_reducible refine Below.drew ?_)) (by simp; omega)) (by simp) (by simp [go_sem])).mono ?_; rintro e w1 ⟨rfl, hb1⟩; obtain ⟨x1, rfl⟩ := Ext.of hb1)
  exact bodyPost_ret (v := .int .i64 (findFrom nm 0 cs)) (by simp [results, Try.results48, go_sem, *]) rfl (⟨rfl, by repeat (first | with_reducible exact Below.refl _ _ | with_reducible assumption | with_reducible refine Below.al ?_ _ | with_reducible refine Below.on ?_ _ | with_reducible refine Below.st ?_ (by first | assumption | (simp; done) | (simp; omega)) _ | with_reducible refine Below.drew ?_)⟩)
end Go.Proofs.Ytgooffpmiilicaa
