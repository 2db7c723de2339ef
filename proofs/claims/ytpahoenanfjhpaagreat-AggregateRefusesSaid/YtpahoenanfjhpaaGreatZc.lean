/-
  CHAPTER 26: Sch, Sc3, Vck, Vok (several texts in one). Conditions: each theorem states its own.
-/
import Derived.Test.YtpahoenanfjhpaaGreatZb
import Derived.Laws.Bits128
set_option linter.unusedVariables false
set_option linter.unusedSimpArgs false
namespace Go.Proofs.YtpahoenanfjhpaaGreat
open Go.RowKit
theorem ext_of {W w : World} (h : Below W.heap.size W w) : ∃ x : Ext W, x.it = w := ⟨⟨w, h⟩, rfl⟩
theorem take_cons_drop {α : Type} {l : List α} {k : Nat} (h : k < l.length) : l.take k ++ l[k]'h :: l.drop (k + 1) = l := by rw [← List.drop_eq_getElem_cons h, List.take_append_drop]
structure Col where
  nm : ByteArray
  ty : Int
  sc : Int
  nul : Bool
def ColCells (w : World) (b o : Nat) (c : Col) : Prop := w.cell? ⟨b, o, none⟩ = some (.string c.nm) ∧ w.cell? ⟨b, o + 1, none⟩ = some (.int .i64 c.ty) ∧ w.cell? ⟨b, o + 2, none⟩ = some (.int .i64 c.sc) ∧ w.cell? ⟨b, o + 3, none⟩ = some (.bool c.nul)
def ColsAt (w : World) (B : Nat) (v : Value) (cs : List Col) : Prop :=
  cs.length ≤ 9223372036854775807 ∧
    ((cs = [] ∧ ∃ a c, v = .slice a 0 c) ∨ ∃ b o c, v = .slice (some ⟨b, o, none⟩) cs.length c ∧ cs.length ≤ c ∧ b < B ∧ ∀ j (h : j < cs.length), ColCells w b (o + j * 4) (cs[j]'h))
theorem cols_end {w : World} {B : Nat} {v : Value} {cs : List Col} (h : ColsAt w B v cs) : ∃ a c, v = .slice a cs.length c := by
  rcases h.2 with ⟨e, a, c, rfl⟩ | ⟨b, o, c, rfl, _⟩
  · exact ⟨a, c, by rw [e]; rfl⟩
  · exact ⟨_, c, rfl⟩
theorem cols_in {w : World} {B : Nat} {a : Option Addr} {n c : Nat} {cs : List Col} (h : ColsAt w B (.slice a n c) cs) {i : Nat} (hi : i < cs.length) : ∃ b o, a = some ⟨b, o, none⟩ ∧ cs.length ≤ c ∧ b < B ∧ ColCells w b (o + i * 4) (cs[i]'hi) := by
  rcases h.2 with ⟨e, _⟩ | ⟨b, o, c, hv, hcap, hb, hc⟩
  · subst e; exact absurd hi (by simp)
  · injection hv with h1 h2 h3
    subst h3
    exact ⟨b, o, h1, hcap, hb, hc i hi⟩
theorem ColCells.mono {w w' : World} {B b o : Nat} {c : Col} (h : ColCells w b o c) (hb : Below B w w') (hlt : b < B) : ColCells w' b o c :=
  ⟨(hb.cell (p := ⟨b, o, none⟩) hlt).trans h.1, (hb.cell (p := ⟨b, o + 1, none⟩) hlt).trans h.2.1, (hb.cell (p := ⟨b, o + 2, none⟩) hlt).trans h.2.2.1, (hb.cell (p := ⟨b, o + 3, none⟩) hlt).trans h.2.2.2⟩
theorem ColsAt.mono {w w' : World} {B B' : Nat} {v : Value} {cs : List Col} (h : ColsAt w B v cs) (hb : Below B w w') (hB : B ≤ B') : ColsAt w' B' v cs := by
  refine ⟨h.1, h.2.imp id ?_⟩
  rintro ⟨b, o, c, hv, hcap, hlt, hc⟩
  exact ⟨b, o, c, hv, hcap, Nat.lt_of_lt_of_le hlt hB, fun j hj => (hc j hj).mono hb hlt⟩
def findFrom (nm : ByteArray) (i : Int) : List Col → Int
  | [] => -1
  | c :: r => if c.nm.toList = nm.toList then i else findFrom nm (i + 1) r
theorem findFrom_at {nm : ByteArray} : ∀ (pre : List Col) (c : Col) (r : List Col) (i : Int), c.nm.toList = nm.toList → (findFrom nm i (pre ++ c :: r) < i + pre.length ↔ (pre.any fun d => d.nm.toList == nm.toList) = true) ∧ i ≤ findFrom nm i (pre ++ c :: r)
  | [], c, r, i, h => by simp [findFrom, h]
  | d :: pre, c, r, i, h => by
    by_cases e : d.nm.toList = nm.toList
    · simp [findFrom, e]; omega
    · have := findFrom_at pre c r (i + 1) h
      have e' : (d.nm.toList == nm.toList) = false := by simpa using e
      simp only [List.cons_append, findFrom, if_neg e, List.any_cons, e', Bool.false_or, List.length_cons]
      refine ⟨?_, by omega⟩
      rw [← this.1]
      omega
theorem findFrom_bd {nm : ByteArray} : ∀ (cs : List Col) (i : Int), -1 ≤ i → -1 ≤ findFrom nm i cs ∧ findFrom nm i cs < i + cs.length + 1
  | [], i, h => by simp [findFrom]; omega
  | c :: r, i, h => by
    unfold findFrom
    split
    · simp; omega
    · have := findFrom_bd (nm := nm) r (i + 1) (by omega)
      simp only [List.length_cons]; omega
def colE (pre : List Col) (c : Col) : Int :=
  if nameF c.nm.toList = false then 3 else if (pre.any fun d => d.nm.toList == c.nm.toList) = true then 5 else if c.ty < 1 ∨ 5 < c.ty then 11 else if c.sc < 0 ∨ 18 < c.sc ∨ (¬ c.ty = 5 ∧ ¬ c.sc = 0) then 4 else 0
def colsE : List Col → List Col → Int
  | _, [] => 0
  | pre, c :: r => if colE pre c = 0 then colsE (pre ++ [c]) r else colE pre c
def schemaF (cs : List Col) (key : Int) : Int :=
  if cs.length = 0 then 1 else if 12 < cs.length then 7 else if colsE [] cs = 0 then (if key < 0 ∨ (cs.length : Int) ≤ key then 4 else 0) else colsE [] cs
theorem colsE_ok {cs : List Col} {k : Nat} (h : k < cs.length) (h0 : colE (cs.take k) (cs[k]'h) = 0) : colsE (cs.take k) (cs.drop k) = colsE (cs.take (k + 1)) (cs.drop (k + 1)) := by
  rw [List.drop_eq_getElem_cons h]
  simp only [colsE]
  rw [if_pos h0, List.take_succ_eq_append_getElem h]
theorem colsE_bad {cs : List Col} {k : Nat} {e : Int} (h : k < cs.length) (h0 : colE (cs.take k) (cs[k]'h) = e) (hn : ¬ e = 0) : colsE (cs.take k) (cs.drop k) = e := by
  rw [List.drop_eq_getElem_cons h]
  simp only [colsE]
  rw [h0, if_neg hn]
theorem schemaF_bad {cs : List Col} {key e : Int} (h0 : ¬ cs.length = 0) (h1 : ¬ 12 < cs.length) (he : colsE [] cs = e) (hn : ¬ e = 0) : schemaF cs key = e := by
  unfold schemaF; rw [if_neg h0, if_neg h1, if_neg (by rw [he]; exact hn), he]
set_option maxRecDepth 8000 in
set_option maxHeartbeats 2000000 in
theorem idx_any (v : Value) (cs : List Col) (nm : ByteArray) (p : Nat) (w : World) (hc : ColsAt w w.heap.size v cs) (hp : p < w.heap.size) (hn : w.cell? ⟨p, 0, none⟩ = some (.string nm)) :
    Calls Tryz.prog 111 #[v, .func (.func 112) #[] #[.pointer (some ⟨p, 0, none⟩)]] w fun e w' => e = .returned (.int .i64 (findFrom nm 0 cs)) ∧ Below w.heap.size w w' := by
  have HC := Lib.hid hc
  have h63 := hc.1
  obtain ⟨a, c, rfl⟩ := cols_end hc
  clear hc
  generalize hl : cs.length = n at *
  have HL := Lib.hid hl
  clear hl
  go_enter Tryz.func111, Tryz.ntmps111
  go_wp2_with fail
  go_loopg [8] n (fun g s wr => ∃ k : Nat, k + g = n ∧ s = .int .i64 (k : Int) ∧ findFrom nm 0 cs = findFrom nm k (cs.drop k) ∧ ∃ x : Ext w, x.it = wr)
  case atStart => exact ⟨0, by omega, rfl, by simp, ⟨w, Below.refl _ _⟩, rfl⟩
  case round =>
    obtain ⟨k, hk, rfl, hF, x, rfl⟩ := hrel
    have hx := x.below
    by_cases hg0 : gk = 0
    · subst hg0
      obtain rfl : k = n := by omega
      have FF := Lib.hid (show findFrom nm 0 cs = -1 by rw [hF, List.drop_of_length_le (by rw [HL.out]; exact Nat.le_refl _)]; rfl)
      clear hF hk
      go_wp2
      exact bodyPost_ret (v := .int .i64 (-1)) (by simp [results, Tryz.results111, go_sem, *]) rfl (⟨by rw [FF.out], by with_reducible repeat (first | exact Below.refl _ _ | assumption | refine Below.al ?_ _ | refine Below.on ?_ _ | refine Below.st ?_ (by first | assumption | (simp; done) | (simp; omega)) _ | refine Below.drew ?_)⟩)
    · have hkn : k < n := by omega
      have hkn' : (k : Int) < n := by omega
      have hkl : k < cs.length := by rw [HL.out]; exact hkn
      obtain ⟨b, o, rfl, hcap, hb, c0, c1, c2, c3⟩ := cols_in HC.out hkl
      rw [List.drop_eq_getElem_cons hkl] at hF
      obtain ⟨d, hd⟩ : ∃ d, cs[k]'hkl = d := ⟨_, rfl⟩
      rw [hd] at hF c0 c1 c2 c3
      obtain ⟨dn, dt, ds, dl⟩ := d
      dsimp only at c0 c1 c2 c3
      have f0 := (x.cell b (o + k * 4) hb).trans c0
      have f1 := (x.cell b (o + k * 4 + 1) hb).trans c1
      have f2 := (x.cell b (o + k * 4 + 2) hb).trans c2
      have f3 := (x.cell b (o + k * 4 + 3) hb).trans c3
      have fp := (x.cell p 0 hp).trans hn
      have zb : b < x.it.heap.size := x.lt hb
      have zp : p < x.it.heap.size := x.lt hp
      have np : p ≠ x.it.heap.size := by omega
      have nb : b ≠ x.it.heap.size := by omega
      have HK := Lib.hid hk
      clear c0 c1 c2 c3 hcap hd hk hg0
      by_cases hq : dn.toList = nm.toList
      · have hq' : (dn.toList == nm.toList) = true := by simpa using hq
        have FF := Lib.hid (show findFrom nm 0 cs = k by rw [hF]; show (if dn.toList = nm.toList then _ else _) = _; rw [if_pos hq])
        clear hF hq
        go_wp2
        exact bodyPost_ret (v := .int .i64 k) (by simp [results, Tryz.results111, go_sem, *]) rfl (⟨by rw [FF.out], by with_reducible repeat (first | exact Below.refl _ _ | assumption | refine Below.al ?_ _ | refine Below.on ?_ _ | refine Below.st ?_ (by first | assumption | (simp; done) | (simp; omega)) _ | refine Below.drew ?_)⟩)
      · have hq' : (dn.toList == nm.toList) = false := by simpa using hq
        have FF := Lib.hid (show findFrom nm 0 cs = findFrom nm ((k + 1 : Nat) : Int) (cs.drop (k + 1)) by rw [hF]; show (if dn.toList = nm.toList then _ else _) = _; rw [if_neg hq]; rfl)
        clear hF hq
        go_wp2
        go_roundg (gk - 1)
        case measure => have := HK.out; omega
        case rel => exact ⟨k + 1, by have := HK.out; omega, by go_num, FF.out, ext_of (by with_reducible repeat (first | exact Below.refl _ _ | assumption | refine Below.al ?_ _ | refine Below.on ?_ _ | refine Below.st ?_ (by first | assumption | (simp; done) | (simp; omega)) _ | refine Below.drew ?_))⟩
set_option maxHeartbeats 1000000 in
theorem find_any (v : Value) (cs : List Col) (key : Int) (nm : ByteArray) (w : World) (hc : ColsAt w w.heap.size v cs) :
    Calls Tryz.prog 81 #[.agg #[v, .int .i64 key], .string nm] w fun e w' => e = .returned (.int .i64 (findFrom nm 0 cs)) ∧ Below w.heap.size w w' := by
  have HC := Lib.hid hc
  obtain ⟨a, c, rfl⟩ := cols_end hc
  clear hc
  generalize hl : cs.length = n at *
  clear hl
  go_enter Tryz.func81, Tryz.ntmps81
  go_wp2_with (go_at_call 111; refine (idx_any _ cs nm _ _ (HC.out.mono (by with_reducible repeat (first | exact Below.refl _ _ | assumption | refine Below.al ?_ _ | refine Below.on ?_ _ | refine Below.st ?_ (by first | assumption | (simp; done) | (simp; omega)) _ | refine Below.drew ?_)) (by simp; omega)) (by simp) (by simp [go_sem])).mono ?_; rintro e w1 ⟨rfl, hb1⟩; obtain ⟨x1, rfl⟩ := Ext.of hb1)
  exact bodyPost_ret (v := .int .i64 (findFrom nm 0 cs)) (by simp [results, Tryz.results81, go_sem, *]) rfl (⟨rfl, by with_reducible repeat (first | exact Below.refl _ _ | assumption | refine Below.al ?_ _ | refine Below.on ?_ _ | refine Below.st ?_ (by first | assumption | (simp; done) | (simp; omega)) _ | refine Below.drew ?_)⟩)
end Go.Proofs.YtpahoenanfjhpaaGreat
namespace Go.Proofs.YtpahoenanfjhpaaGreat
open Go.RowKit
set_option maxHeartbeats 400000 in
theorem typed_any (t : Int) (w : World) : Calls Tryz.prog 97 #[.int .i64 t] w fun e w' => e = .returned (.bool (decide (1 ≤ t) && decide (t ≤ 5))) ∧ Below w.heap.size w w' := by
  by_cases h1 : 1 ≤ t
  · by_cases h2 : t ≤ 5
    all_goals
      go_enter Tryz.func97, Tryz.ntmps97
      go_wp2
      go_ret
      exact ⟨by simp [h1, h2], Below.refl _ _⟩
  ·
    go_enter Tryz.func97, Tryz.ntmps97
    go_wp2
    go_ret
    exact ⟨by rw [decide_eq_false (by omega : ¬ 1 ≤ t)]; rfl, Below.refl _ _⟩
set_option maxRecDepth 8000 in
set_option maxHeartbeats 2000000 in
theorem refSchema_any (v : Value) (cs : List Col) (key : Int) (w : World) (hc : ColsAt w w.heap.size v cs) :
    Calls Tryz.prog 64 #[.agg #[v, .int .i64 key]] w fun e w' => e = .returned (.int .i64 (schemaF cs key)) ∧ Below w.heap.size w w' := by
  have h63 := hc.1
  obtain ⟨a, c, rfl⟩ := cols_end hc
  obtain ⟨n, hl⟩ : ∃ n, cs.length = n := ⟨_, rfl⟩
  have HC : Hid (ColsAt w w.heap.size (.slice a n c) cs) := Lib.hid (by rw [← hl]; exact hc)
  clear hc
  have HL := Lib.hid hl
  rw [hl] at h63 ⊢
  by_cases hn0 : n = 0
  · have SF := Lib.hid (show schemaF cs key = 1 by unfold schemaF; rw [if_pos (by omega)])
    clear hl
    subst hn0
    go_enter Tryz.func64, Tryz.ntmps64
    go_wp2
    exact bodyPost_ret (v := .int .i64 1) (by simp [results, Tryz.results64, go_sem, *]) rfl (⟨by rw [SF.out], by with_reducible repeat (first | exact Below.refl _ _ | assumption | refine Below.al ?_ _ | refine Below.on ?_ _ | refine Below.st ?_ (by first | assumption | (simp; done) | (simp; omega)) _ | refine Below.drew ?_)⟩)
  by_cases hn12 : 12 < n
  · have SF := Lib.hid (show schemaF cs key = 7 by unfold schemaF; rw [if_neg (by omega), if_pos (by omega)])
    have h12 : (12 : Int) < (n : Int) := by omega
    clear hl
    go_enter Tryz.func64, Tryz.ntmps64
    go_wp2
    exact bodyPost_ret (v := .int .i64 7) (by simp [results, Tryz.results64, go_sem, *]) rfl (⟨by rw [SF.out], by with_reducible repeat (first | exact Below.refl _ _ | assumption | refine Below.al ?_ _ | refine Below.on ?_ _ | refine Below.st ?_ (by first | assumption | (simp; done) | (simp; omega)) _ | refine Below.drew ?_)⟩)
  have h12 : ¬ (12 : Int) < (n : Int) := by omega
  have hn0' : ¬ (n : Int) = 0 := by omega
  have SB := Lib.hid (And.intro hn0 hn12)
  have SG : Hid (∀ e : Int, ¬ e = 0 → colsE [] cs = e → schemaF cs key = e) := Lib.hid fun e he h => schemaF_bad (by omega) (by omega) h he
  clear hl hn12
  go_enter Tryz.func64, Tryz.ntmps64
  go_wp2_with fail
  go_loopg [18] n (fun g s wr => ∃ k : Nat, k + g = n ∧ s = .int .i64 (k : Int) ∧ colsE [] cs = colsE (cs.take k) (cs.drop k) ∧ ∃ x : Ext (w.alloc (.cells #[.slice a n c, .int .i64 key] 24)), x.it = wr)
  case atStart => exact ⟨0, by omega, rfl, by simp, ext_of (Below.refl _ _)⟩
  case round =>
    obtain ⟨k, hk, rfl, hF, x, rfl⟩ := hrel
    have b0 : x.it.cell? ⟨w.heap.size, 0, none⟩ = some (.slice a n c) := (x.cell w.heap.size 0 (by simp)).trans (by simp [go_sem])
    have b1 : x.it.cell? ⟨w.heap.size, 1, none⟩ = some (.int .i64 key) := (x.cell w.heap.size 1 (by simp)).trans (by simp [go_sem])
    have z0 : w.heap.size < x.it.heap.size := x.lt (by simp)
    have hx : Below w.heap.size w x.it := Below.on (Below.al (Below.refl _ _) _) x
    have hx1 := x.below
    by_cases hg0 : gk = 0
    · subst hg0
      obtain rfl : k = n := by omega
      have CE : colsE [] cs = 0 := by rw [hF, List.drop_of_length_le (by rw [HL.out]; exact Nat.le_refl _)]; rfl
      have SK : schemaF cs key = (if key < 0 ∨ (k : Int) ≤ key then 4 else 0) := by have := SB.out; have := HL.out; unfold schemaF; rw [if_neg (by omega), if_neg (by omega), if_pos CE, HL.out]
      clear hF hk CE
      by_cases k0 : key < 0
      · have SF := Lib.hid (SK.trans (if_pos (Or.inl k0)))
        clear SK
        go_wp2
        exact bodyPost_ret (v := .int .i64 4) (by simp [results, Tryz.results64, go_sem, *]) rfl (⟨by rw [SF.out], by with_reducible repeat (first | exact Below.refl _ _ | assumption | refine Below.al ?_ _ | refine Below.on ?_ _ | refine Below.st ?_ (by first | assumption | (simp; done) | (simp; omega)) _ | refine Below.drew ?_)⟩)
      · by_cases k1 : (k : Int) ≤ key
        · have SF := Lib.hid (SK.trans (if_pos (Or.inr k1)))
          clear SK
          go_wp2
          exact bodyPost_ret (v := .int .i64 4) (by simp [results, Tryz.results64, go_sem, *]) rfl (⟨by rw [SF.out], by with_reducible repeat (first | exact Below.refl _ _ | assumption | refine Below.al ?_ _ | refine Below.on ?_ _ | refine Below.st ?_ (by first | assumption | (simp; done) | (simp; omega)) _ | refine Below.drew ?_)⟩)
        · have SF := Lib.hid (SK.trans (if_neg (by omega)))
          clear SK
          go_wp2
          exact bodyPost_ret (v := .int .i64 0) (by simp [results, Tryz.results64, go_sem, *]) rfl (⟨by rw [SF.out], by with_reducible repeat (first | exact Below.refl _ _ | assumption | refine Below.al ?_ _ | refine Below.on ?_ _ | refine Below.st ?_ (by first | assumption | (simp; done) | (simp; omega)) _ | refine Below.drew ?_)⟩)
    · have hkn : k < n := by omega
      have hkn' : (k : Int) < n := by omega
      have hkl : k < cs.length := by rw [HL.out]; exact hkn
      obtain ⟨b, o, rfl, hcap, hb, c0, c1, c2, c3⟩ := cols_in HC.out hkl
      have BD := fun e => colsE_bad (e := e) hkl
      have GD := colsE_ok hkl
      skip
      skip
      obtain ⟨d, hd⟩ : ∃ d, cs[k]'hkl = d := ⟨_, rfl⟩
      rw [hd] at c0 c1 c2 c3 BD GD
      rw [← hF] at BD GD
      obtain ⟨dn, dt, ds, dl⟩ := d
      dsimp only at c0 c1 c2 c3
      have f0 := (x.cell b (o + k * 4) (by simp; omega)).trans ((World.cell?_alloc_past _ _ _ hb).trans c0)
      have f1 := (x.cell b (o + k * 4 + 1) (by simp; omega)).trans ((World.cell?_alloc_past _ _ _ hb).trans c1)
      have f2 := (x.cell b (o + k * 4 + 2) (by simp; omega)).trans ((World.cell?_alloc_past _ _ _ hb).trans c2)
      have f3 := (x.cell b (o + k * 4 + 3) (by simp; omega)).trans ((World.cell?_alloc_past _ _ _ hb).trans c3)
      have zb : b < x.it.heap.size := x.lt (by simp; omega)
      have HK := Lib.hid hk
      have BD' := Lib.hid BD
      have GD' := Lib.hid GD
      have HD := Lib.hid hd
      clear c0 c1 c2 c3 hd hk hg0 hF BD GD
      by_cases hN : nameF dn.toList = false
      · have SF := Lib.hid (SG.out 3 (by omega) (BD'.out 3 (by unfold colE; rw [if_pos hN]) (by omega)))
        go_wp2_with (first | (go_at_call 96; refine (refName_any _ _).mono ?_; rintro e w1 ⟨rfl, hb1⟩; obtain ⟨x1, rfl⟩ := Ext.of hb1; have y0 : w.heap.size < x1.it.heap.size := x1.lt (by (first | with_reducible assumption | (simp only [World.size_setCell, World.size_alloc, World.size_drew]; first | with_reducible assumption | omega))); have y1 : b < x1.it.heap.size := x1.lt (by (first | with_reducible assumption | (simp only [World.size_setCell, World.size_alloc, World.size_drew]; first | with_reducible assumption | omega))); have y2 : x.it.heap.size < x1.it.heap.size := x1.lt (by simp)) | (go_at_call 97; refine (typed_any _ _).mono ?_; rintro e w3 ⟨rfl, hb3⟩; obtain ⟨x3, rfl⟩ := Ext.of hb3; have u0 : w.heap.size < x3.it.heap.size := x3.lt (by (first | with_reducible assumption | (simp only [World.size_setCell, World.size_alloc, World.size_drew]; first | with_reducible assumption | omega))); have u1 : b < x3.it.heap.size := x3.lt (by (first | with_reducible assumption | (simp only [World.size_setCell, World.size_alloc, World.size_drew]; first | with_reducible assumption | omega))); have u2 : x.it.heap.size < x3.it.heap.size := x3.lt (by (first | with_reducible assumption | (simp only [World.size_setCell, World.size_alloc, World.size_drew]; first | with_reducible assumption | omega)))))
        exact bodyPost_ret (v := .int .i64 3) (by simp [results, Tryz.results64, go_sem, *]) rfl (⟨by rw [SF.out], by with_reducible repeat (first | exact Below.refl _ _ | assumption | refine Below.al ?_ _ | refine Below.on ?_ _ | refine Below.st ?_ (by first | assumption | (simp; done) | (simp; omega)) _ | refine Below.drew ?_)⟩)
      have hN' : nameF dn.toList = true := by simpa using hN
      clear hN
      have kc : (k : Int) ≤ (c : Int) := by have := HL.out; omega
      obtain ⟨go, hgo⟩ : ∃ go, gk = go := ⟨_, rfl⟩
      rw [hgo] at HK
      have HGO := Lib.hid hgo
      clear hgo hcap
      go_upto_region 11 with (go_at_call 96; refine (refName_any _ _).mono ?_; rintro e w1 ⟨rfl, hb1⟩; obtain ⟨x1, rfl⟩ := Ext.of hb1; have y0 : w.heap.size < x1.it.heap.size := x1.lt (by (first | with_reducible assumption | (simp only [World.size_setCell, World.size_alloc, World.size_drew]; first | with_reducible assumption | omega))); have y1 : b < x1.it.heap.size := x1.lt (by (first | with_reducible assumption | (simp only [World.size_setCell, World.size_alloc, World.size_drew]; first | with_reducible assumption | omega))); have y2 : x.it.heap.size < x1.it.heap.size := x1.lt (by simp))
      go_loopg [32] k (fun g s wr => ∃ j : Nat, j + g = k ∧ s = .int .i64 (j : Int) ∧ (∀ i (h : i < cs.length), i < j → ¬ ((cs[i]'h).nm.toList = dn.toList)) ∧ ∃ y : Ext x1.it, y.it = wr)
      case atStart => exact ⟨0, by omega, rfl, fun i _ q => absurd q (by omega), ext_of (Below.refl _ _)⟩
      case round =>
        obtain ⟨j, hj, rfl, hD, y, rfl⟩ := hrel
        have hy := y.below
        have r0 : w.heap.size < y.it.heap.size := y.lt y0
        have r1 : b < y.it.heap.size := y.lt y1
        have r2 : x.it.heap.size < y.it.heap.size := y.lt y2
        by_cases hg1 : gk = 0
        · subst hg1
          obtain rfl : j = k := by omega
          have HP : ¬ ((cs.take j).any fun d => d.nm.toList == dn.toList) = true := by
            intro q; rw [List.any_eq_true] at q; obtain ⟨z, hz, hq⟩ := q
            obtain ⟨i, hi, rfl⟩ := List.getElem_of_mem hz
            rw [List.getElem_take] at hq
            exact hD i (by rw [List.length_take] at hi; omega) (by rw [List.length_take] at hi; omega) (by simpa using hq)
          have HP' := Lib.hid HP
          clear HP hD hj
          by_cases t0 : dt < 1 ∨ 5 < dt
          · have SF := Lib.hid (SG.out 11 (by omega) (BD'.out 11 (by unfold colE; rw [if_neg (by rw [hN']; decide), if_neg HP'.out, if_pos t0]) (by omega)))
            have ty : (decide (1 ≤ dt) && decide (dt ≤ 5)) = false := by rw [Bool.and_eq_false_iff]; rcases t0 with q | q; exact .inl (decide_eq_false (by omega)); exact .inr (decide_eq_false (by omega))
            clear t0
            go_wp2_with (go_at_call 97; refine (typed_any _ _).mono ?_; rintro e w3 ⟨rfl, hb3⟩; obtain ⟨x3, rfl⟩ := Ext.of hb3; have u0 : w.heap.size < x3.it.heap.size := x3.lt (by (first | with_reducible assumption | (simp only [World.size_setCell, World.size_alloc, World.size_drew]; first | with_reducible assumption | omega))); have u1 : b < x3.it.heap.size := x3.lt (by (first | with_reducible assumption | (simp only [World.size_setCell, World.size_alloc, World.size_drew]; first | with_reducible assumption | omega))); have u2 : x.it.heap.size < x3.it.heap.size := x3.lt (by (first | with_reducible assumption | (simp only [World.size_setCell, World.size_alloc, World.size_drew]; first | with_reducible assumption | omega))))
            exact bodyPost_ret (v := .int .i64 11) (by simp [results, Tryz.results64, go_sem, *]) rfl (⟨by rw [SF.out], by with_reducible repeat (first | exact Below.refl _ _ | assumption | refine Below.al ?_ _ | refine Below.on ?_ _ | refine Below.st ?_ (by first | assumption | (simp; done) | (simp; omega)) _ | refine Below.drew ?_)⟩)
          have ty : (decide (1 ≤ dt) && decide (dt ≤ 5)) = true := by rw [decide_eq_true (by omega), decide_eq_true (by omega)]; rfl
          have HT := Lib.hid t0
          clear t0
          by_cases s1 : ds < 0
          · have SF := Lib.hid (SG.out 4 (by omega) (BD'.out 4 (by unfold colE; rw [if_neg (by rw [hN']; decide), if_neg HP'.out, if_neg HT.out, if_pos (Or.inl s1)]) (by omega)))
            go_wp2_with (go_at_call 97; refine (typed_any _ _).mono ?_; rintro e w3 ⟨rfl, hb3⟩; obtain ⟨x3, rfl⟩ := Ext.of hb3; have u0 : w.heap.size < x3.it.heap.size := x3.lt (by (first | with_reducible assumption | (simp only [World.size_setCell, World.size_alloc, World.size_drew]; first | with_reducible assumption | omega))); have u1 : b < x3.it.heap.size := x3.lt (by (first | with_reducible assumption | (simp only [World.size_setCell, World.size_alloc, World.size_drew]; first | with_reducible assumption | omega))); have u2 : x.it.heap.size < x3.it.heap.size := x3.lt (by (first | with_reducible assumption | (simp only [World.size_setCell, World.size_alloc, World.size_drew]; first | with_reducible assumption | omega))))
            exact bodyPost_ret (v := .int .i64 4) (by simp [results, Tryz.results64, go_sem, *]) rfl (⟨by rw [SF.out], by with_reducible repeat (first | exact Below.refl _ _ | assumption | refine Below.al ?_ _ | refine Below.on ?_ _ | refine Below.st ?_ (by first | assumption | (simp; done) | (simp; omega)) _ | refine Below.drew ?_)⟩)
          by_cases s2 : 18 < ds
          · have SF := Lib.hid (SG.out 4 (by omega) (BD'.out 4 (by unfold colE; rw [if_neg (by rw [hN']; decide), if_neg HP'.out, if_neg HT.out, if_pos (Or.inr (Or.inl s2))]) (by omega)))
            go_wp2_with (go_at_call 97; refine (typed_any _ _).mono ?_; rintro e w3 ⟨rfl, hb3⟩; obtain ⟨x3, rfl⟩ := Ext.of hb3; have u0 : w.heap.size < x3.it.heap.size := x3.lt (by (first | with_reducible assumption | (simp only [World.size_setCell, World.size_alloc, World.size_drew]; first | with_reducible assumption | omega))); have u1 : b < x3.it.heap.size := x3.lt (by (first | with_reducible assumption | (simp only [World.size_setCell, World.size_alloc, World.size_drew]; first | with_reducible assumption | omega))); have u2 : x.it.heap.size < x3.it.heap.size := x3.lt (by (first | with_reducible assumption | (simp only [World.size_setCell, World.size_alloc, World.size_drew]; first | with_reducible assumption | omega))))
            exact bodyPost_ret (v := .int .i64 4) (by simp [results, Tryz.results64, go_sem, *]) rfl (⟨by rw [SF.out], by with_reducible repeat (first | exact Below.refl _ _ | assumption | refine Below.al ?_ _ | refine Below.on ?_ _ | refine Below.st ?_ (by first | assumption | (simp; done) | (simp; omega)) _ | refine Below.drew ?_)⟩)
          by_cases s3 : ¬ dt = 5 ∧ ¬ ds = 0
          · obtain ⟨s4, s5⟩ := s3
            have SF := Lib.hid (SG.out 4 (by omega) (BD'.out 4 (by unfold colE; rw [if_neg (by rw [hN']; decide), if_neg HP'.out, if_neg HT.out, if_pos (Or.inr (Or.inr ⟨s4, s5⟩))]) (by omega)))
            have q0 : (dt != 5) = true := by simpa using s4
            have q1 : (ds != 0) = true := by simpa using s5
            go_wp2_with (go_at_call 97; refine (typed_any _ _).mono ?_; rintro e w3 ⟨rfl, hb3⟩; obtain ⟨x3, rfl⟩ := Ext.of hb3; have u0 : w.heap.size < x3.it.heap.size := x3.lt (by (first | with_reducible assumption | (simp only [World.size_setCell, World.size_alloc, World.size_drew]; first | with_reducible assumption | omega))); have u1 : b < x3.it.heap.size := x3.lt (by (first | with_reducible assumption | (simp only [World.size_setCell, World.size_alloc, World.size_drew]; first | with_reducible assumption | omega))); have u2 : x.it.heap.size < x3.it.heap.size := x3.lt (by (first | with_reducible assumption | (simp only [World.size_setCell, World.size_alloc, World.size_drew]; first | with_reducible assumption | omega))))
            exact bodyPost_ret (v := .int .i64 4) (by simp [results, Tryz.results64, go_sem, *]) rfl (⟨by rw [SF.out], by with_reducible repeat (first | exact Below.refl _ _ | assumption | refine Below.al ?_ _ | refine Below.on ?_ _ | refine Below.st ?_ (by first | assumption | (simp; done) | (simp; omega)) _ | refine Below.drew ?_)⟩)
          have hs : ¬ (ds < 0 ∨ 18 < ds ∨ (¬ dt = 5 ∧ ¬ ds = 0)) := by omega
          have OK := Lib.hid (GD'.out (by unfold colE; rw [if_neg (by rw [hN']; decide), if_neg HP'.out, if_neg HT.out, if_neg hs]))
          clear hs
          by_cases s6 : dt = 5
          · have q0 : (dt != 5) = false := by simpa using s6
            clear s3
            go_wp2_with (go_at_call 97; refine (typed_any _ _).mono ?_; rintro e w3 ⟨rfl, hb3⟩; obtain ⟨x3, rfl⟩ := Ext.of hb3; have u0 : w.heap.size < x3.it.heap.size := x3.lt (by (first | with_reducible assumption | (simp only [World.size_setCell, World.size_alloc, World.size_drew]; first | with_reducible assumption | omega))); have u1 : b < x3.it.heap.size := x3.lt (by (first | with_reducible assumption | (simp only [World.size_setCell, World.size_alloc, World.size_drew]; first | with_reducible assumption | omega))); have u2 : x.it.heap.size < x3.it.heap.size := x3.lt (by (first | with_reducible assumption | (simp only [World.size_setCell, World.size_alloc, World.size_drew]; first | with_reducible assumption | omega))))
            go_roundg (go - 1)
            case measure => have := HK.out; have := HGO.out; omega
            case rel => exact ⟨j + 1, by have := HK.out; omega, by go_num, OK.out, ext_of (by with_reducible repeat (first | exact Below.refl _ _ | assumption | refine Below.al ?_ _ | refine Below.on ?_ _ | refine Below.st ?_ (by first | assumption | (simp; done) | (simp; omega)) _ | refine Below.drew ?_))⟩
          · have q0 : (dt != 5) = true := by simpa using s6
            have q1 : (ds != 0) = false := by simp; omega
            clear s3
            go_wp2_with (go_at_call 97; refine (typed_any _ _).mono ?_; rintro e w3 ⟨rfl, hb3⟩; obtain ⟨x3, rfl⟩ := Ext.of hb3; have u0 : w.heap.size < x3.it.heap.size := x3.lt (by (first | with_reducible assumption | (simp only [World.size_setCell, World.size_alloc, World.size_drew]; first | with_reducible assumption | omega))); have u1 : b < x3.it.heap.size := x3.lt (by (first | with_reducible assumption | (simp only [World.size_setCell, World.size_alloc, World.size_drew]; first | with_reducible assumption | omega))); have u2 : x.it.heap.size < x3.it.heap.size := x3.lt (by (first | with_reducible assumption | (simp only [World.size_setCell, World.size_alloc, World.size_drew]; first | with_reducible assumption | omega))))
            go_roundg (go - 1)
            case measure => have := HK.out; have := HGO.out; omega
            case rel => exact ⟨j + 1, by have := HK.out; omega, by go_num, OK.out, ext_of (by with_reducible repeat (first | exact Below.refl _ _ | assumption | refine Below.al ?_ _ | refine Below.on ?_ _ | refine Below.st ?_ (by first | assumption | (simp; done) | (simp; omega)) _ | refine Below.drew ?_))⟩
        · have hjk : j < k := by omega
          have hjk' : (j : Int) < (k : Int) := by omega
          have hjl : j < cs.length := by omega
          obtain ⟨b', o', hbo, _, hb', e0, e1, e2, e3⟩ := cols_in HC.out hjl
          obtain ⟨rfl, rfl⟩ : b = b' ∧ o = o' := by injection hbo with hbo; injection hbo with h1 h2; exact ⟨h1, h2⟩
          have T := fun (hq : (cs[j]'hjl).nm.toList = dn.toList) => (show ((cs.take k).any fun d => d.nm.toList == dn.toList) = true from List.any_eq_true.2 ⟨cs[j]'hjl, List.mem_take_iff_getElem.2 ⟨j, by omega, rfl⟩, by simpa using hq⟩)
          obtain ⟨d', hd'⟩ : ∃ d', cs[j]'hjl = d' := ⟨_, rfl⟩
          rw [hd'] at e0 e1 e2 e3 T
          obtain ⟨en, et, es, el⟩ := d'
          dsimp only at e0 e1 e2 e3 T
          have g0 := (y.cell b (o + j * 4) y1).trans ((x1.cell b (o + j * 4) (by simp; omega)).trans ((World.cell?_alloc_past _ _ _ zb).trans ((x.cell b (o + j * 4) (by simp; omega)).trans ((World.cell?_alloc_past _ _ _ hb).trans e0))))
          have g1 := (y.cell b (o + j * 4 + 1) y1).trans ((x1.cell b (o + j * 4 + 1) (by simp; omega)).trans ((World.cell?_alloc_past _ _ _ zb).trans ((x.cell b (o + j * 4 + 1) (by simp; omega)).trans ((World.cell?_alloc_past _ _ _ hb).trans e1))))
          have g2 := (y.cell b (o + j * 4 + 2) y1).trans ((x1.cell b (o + j * 4 + 2) (by simp; omega)).trans ((World.cell?_alloc_past _ _ _ zb).trans ((x.cell b (o + j * 4 + 2) (by simp; omega)).trans ((World.cell?_alloc_past _ _ _ hb).trans e2))))
          have g3 := (y.cell b (o + j * 4 + 3) y1).trans ((x1.cell b (o + j * 4 + 3) (by simp; omega)).trans ((World.cell?_alloc_past _ _ _ zb).trans ((x.cell b (o + j * 4 + 3) (by simp; omega)).trans ((World.cell?_alloc_past _ _ _ hb).trans e3))))
          have HJ := Lib.hid hj
          have HD0 := Lib.hid hD
          have HE := Lib.hid hd'
          clear e0 e1 e2 e3 hj hD hd' hg1
          by_cases hq : en.toList = dn.toList
          · have SF := Lib.hid (SG.out 5 (by omega) (BD'.out 5 (by unfold colE; rw [if_neg (by rw [hN']; decide), if_pos (T hq)]) (by omega)))
            have hq' : (en.toList == dn.toList) = true := by simpa using hq
            clear hq T
            go_wp2_with fail
            exact bodyPost_ret (v := .int .i64 5) (by simp [results, Tryz.results64, go_sem, *]) rfl (⟨by rw [SF.out], by with_reducible repeat (first | exact Below.refl _ _ | assumption | refine Below.al ?_ _ | refine Below.on ?_ _ | refine Below.st ?_ (by first | assumption | (simp; done) | (simp; omega)) _ | refine Below.drew ?_)⟩)
          · have hq' : (en.toList == dn.toList) = false := by simpa using hq
            have HQ := Lib.hid hq
            clear hq T
            go_wp2_with fail
            go_roundg (gk - 1)
            case measure => have := HJ.out; omega
            case rel => exact ⟨j + 1, by have := HJ.out; omega, by go_num, (fun i h hi => by rcases Nat.lt_or_ge i j with q | q; exact HD0.out i h q; obtain rfl : i = j := (by omega); rw [HE.out]; exact HQ.out), ext_of (by with_reducible repeat (first | exact Below.refl _ _ | assumption | refine Below.al ?_ _ | refine Below.on ?_ _ | refine Below.st ?_ (by first | assumption | (simp; done) | (simp; omega)) _ | refine Below.drew ?_))⟩
end Go.Proofs.YtpahoenanfjhpaaGreat
namespace Go.Proofs.YtpahoenanfjhpaaGreat
open Go.RowKit
def permF (ty n : Int) (s : ByteArray) : Bool :=
  if ty = 2 then decide (n = 0) || decide (n = 1) else if ty = 4 then decide (-719162 ≤ n) && decide (n ≤ 2932896) else if ty = 5 then decide (-999999999999999999 ≤ n) && decide (n ≤ 999999999999999999) else if ty = 3 then decide (s.size ≤ 64) else true
def vchk (ty : Int) (nul vn : Bool) (n : Int) (s : ByteArray) : Int :=
  if ty < 1 ∨ 5 < ty then 1 else
  if vn = true then (if ¬ s.toList = [] ∨ ¬ n = 0 then 11 else if nul = true then 0 else 12) else
  if (¬ ty = 3 ∧ ¬ s.toList = []) ∨ (ty = 3 ∧ ¬ n = 0) then 11 else if permF ty n s = true then 0 else 4
set_option maxHeartbeats 400000 in
theorem known_any (t : Int) (w : World) : Calls Tryz.prog 113 #[.int .i64 t] w fun e w' => e = .returned (.bool (decide (1 ≤ t) && decide (t ≤ 5))) ∧ Below w.heap.size w w' := by
  by_cases h1 : 1 ≤ t
  · by_cases h2 : t ≤ 5
    all_goals
      go_enter Tryz.func113, Tryz.ntmps113
      go_wp2
      go_ret
      exact ⟨by simp [h1, h2], Below.refl _ _⟩
  ·
    go_enter Tryz.func113, Tryz.ntmps113
    go_wp2
    go_ret
    exact ⟨by rw [decide_eq_false (by omega : ¬ 1 ≤ t)]; rfl, Below.refl _ _⟩
set_option maxRecDepth 8000 in
set_option maxHeartbeats 2000000 in
theorem perm_any (ty : Int) (vn : Bool) (n : Int) (s : ByteArray) (w : World) : Calls Tryz.prog 114 #[.int .i64 ty, .agg #[.bool vn, .int .i64 n, .string s]] w fun e w' => e = .returned (.bool (permF ty n s)) ∧ Below w.heap.size w w' := by
  obtain ⟨pb, hpb⟩ : ∃ pb, permF ty n s = pb := ⟨_, rfl⟩
  rw [hpb]
  by_cases ht2 : ty = 2
  · skip
    by_cases hq : n = 0
    · skip
      have t2 : (ty = 2) := by omega
      have t3 : ¬ (ty = 3) := by omega
      have t4 : ¬ (ty = 4) := by omega
      have t5 : ¬ (ty = 5) := by omega
      have q0 : n = 0 := hq
      have PF : permF ty n s = true := by unfold permF; rw [if_pos t2]; simp [*]
      obtain rfl : true = pb := PF.symm.trans hpb
      clear PF hpb
      go_enter Tryz.func114, Tryz.ntmps114
      go_wp2
      exact bodyPost_ret (v := .bool true) (by simp [results, Tryz.results114, go_sem, *]) rfl (⟨rfl, by with_reducible repeat (first | exact Below.refl _ _ | assumption | refine Below.al ?_ _ | refine Below.on ?_ _ | refine Below.st ?_ (by first | assumption | (simp; done) | (simp; omega)) _ | refine Below.drew ?_)⟩)
    by_cases hq : ¬ n = 0 ∧ n = 1
    · skip
      have t2 : (ty = 2) := by omega
      have t3 : ¬ (ty = 3) := by omega
      have t4 : ¬ (ty = 4) := by omega
      have t5 : ¬ (ty = 5) := by omega
      have q0 : ¬ n = 0 := hq.1
      have q1 : n = 1 := hq.2
      have PF : permF ty n s = true := by unfold permF; rw [if_pos t2]; simp [*]
      obtain rfl : true = pb := PF.symm.trans hpb
      clear PF hpb
      go_enter Tryz.func114, Tryz.ntmps114
      go_wp2
      exact bodyPost_ret (v := .bool true) (by simp [results, Tryz.results114, go_sem, *]) rfl (⟨rfl, by with_reducible repeat (first | exact Below.refl _ _ | assumption | refine Below.al ?_ _ | refine Below.on ?_ _ | refine Below.st ?_ (by first | assumption | (simp; done) | (simp; omega)) _ | refine Below.drew ?_)⟩)
    have hq : ¬ n = 0 ∧ ¬ n = 1 := by omega
    have t2 : (ty = 2) := by omega
    have t3 : ¬ (ty = 3) := by omega
    have t4 : ¬ (ty = 4) := by omega
    have t5 : ¬ (ty = 5) := by omega
    have q0 : ¬ n = 0 := hq.1
    have q1 : ¬ n = 1 := hq.2
    have q2 : (n == 1) = false := by simpa using hq.2
    have q3 : (n == 0) = false := by simpa using hq.1
    have PF : permF ty n s = false := by unfold permF; rw [if_pos t2]; simp [*]
    obtain rfl : false = pb := PF.symm.trans hpb
    clear PF hpb
    go_enter Tryz.func114, Tryz.ntmps114
    go_wp2
    exact bodyPost_ret (v := .bool false) (by simp [results, Tryz.results114, go_sem, *]) rfl (⟨rfl, by with_reducible repeat (first | exact Below.refl _ _ | assumption | refine Below.al ?_ _ | refine Below.on ?_ _ | refine Below.st ?_ (by first | assumption | (simp; done) | (simp; omega)) _ | refine Below.drew ?_)⟩)
  by_cases ht4 : ty = 4
  · skip
    by_cases hq : n < -719162
    · skip
      have t2 : ¬ (ty = 2) := by omega
      have t3 : ¬ (ty = 3) := by omega
      have t4 : (ty = 4) := by omega
      have t5 : ¬ (ty = 5) := by omega
      have q0 : ¬ ((-719162 : Int) ≤ n) := by omega
      have PF : permF ty n s = false := by unfold permF; rw [if_neg t2, if_pos t4]; simp; omega
      obtain rfl : false = pb := PF.symm.trans hpb
      clear PF hpb
      go_enter Tryz.func114, Tryz.ntmps114
      go_wp2
      exact bodyPost_ret (v := .bool false) (by simp [results, Tryz.results114, go_sem, *]) rfl (⟨rfl, by with_reducible repeat (first | exact Below.refl _ _ | assumption | refine Below.al ?_ _ | refine Below.on ?_ _ | refine Below.st ?_ (by first | assumption | (simp; done) | (simp; omega)) _ | refine Below.drew ?_)⟩)
    by_cases hq : ¬ n < -719162 ∧ 2932896 < n
    · skip
      have t2 : ¬ (ty = 2) := by omega
      have t3 : ¬ (ty = 3) := by omega
      have t4 : (ty = 4) := by omega
      have t5 : ¬ (ty = 5) := by omega
      have q0 : ((-719162 : Int) ≤ n) := by omega
      have q1 : ¬ (n ≤ 2932896) := by omega
      have q2 : decide (n ≤ 2932896) = false := decide_eq_false q1
      have PF : permF ty n s = false := by unfold permF; rw [if_neg t2, if_pos t4]; simp; omega
      obtain rfl : false = pb := PF.symm.trans hpb
      clear PF hpb
      go_enter Tryz.func114, Tryz.ntmps114
      go_wp2
      exact bodyPost_ret (v := .bool false) (by simp [results, Tryz.results114, go_sem, *]) rfl (⟨rfl, by with_reducible repeat (first | exact Below.refl _ _ | assumption | refine Below.al ?_ _ | refine Below.on ?_ _ | refine Below.st ?_ (by first | assumption | (simp; done) | (simp; omega)) _ | refine Below.drew ?_)⟩)
    have hq : ¬ n < -719162 ∧ ¬ 2932896 < n := by omega
    have t2 : ¬ (ty = 2) := by omega
    have t3 : ¬ (ty = 3) := by omega
    have t4 : (ty = 4) := by omega
    have t5 : ¬ (ty = 5) := by omega
    have q0 : ((-719162 : Int) ≤ n) := by omega
    have q1 : n ≤ 2932896 := by omega
    have PF : permF ty n s = true := by unfold permF; rw [if_neg t2, if_pos t4]; simp; omega
    obtain rfl : true = pb := PF.symm.trans hpb
    clear PF hpb
    go_enter Tryz.func114, Tryz.ntmps114
    go_wp2
    exact bodyPost_ret (v := .bool true) (by simp [results, Tryz.results114, go_sem, *]) rfl (⟨rfl, by with_reducible repeat (first | exact Below.refl _ _ | assumption | refine Below.al ?_ _ | refine Below.on ?_ _ | refine Below.st ?_ (by first | assumption | (simp; done) | (simp; omega)) _ | refine Below.drew ?_)⟩)
  by_cases ht5 : ty = 5
  · skip
    by_cases hq : n < -999999999999999999
    · skip
      have t2 : ¬ (ty = 2) := by omega
      have t3 : ¬ (ty = 3) := by omega
      have t4 : ¬ (ty = 4) := by omega
      have t5 : (ty = 5) := by omega
      have q0 : ¬ ((-999999999999999999 : Int) ≤ n) := by omega
      have PF : permF ty n s = false := by unfold permF; rw [if_neg t2, if_neg t4, if_pos t5]; simp; omega
      obtain rfl : false = pb := PF.symm.trans hpb
      clear PF hpb
      go_enter Tryz.func114, Tryz.ntmps114
      go_wp2
      exact bodyPost_ret (v := .bool false) (by simp [results, Tryz.results114, go_sem, *]) rfl (⟨rfl, by with_reducible repeat (first | exact Below.refl _ _ | assumption | refine Below.al ?_ _ | refine Below.on ?_ _ | refine Below.st ?_ (by first | assumption | (simp; done) | (simp; omega)) _ | refine Below.drew ?_)⟩)
    by_cases hq : ¬ n < -999999999999999999 ∧ 999999999999999999 < n
    · skip
      have t2 : ¬ (ty = 2) := by omega
      have t3 : ¬ (ty = 3) := by omega
      have t4 : ¬ (ty = 4) := by omega
      have t5 : (ty = 5) := by omega
      have q0 : ((-999999999999999999 : Int) ≤ n) := by omega
      have q1 : ¬ (n ≤ 999999999999999999) := by omega
      have q2 : decide (n ≤ 999999999999999999) = false := decide_eq_false q1
      have PF : permF ty n s = false := by unfold permF; rw [if_neg t2, if_neg t4, if_pos t5]; simp; omega
      obtain rfl : false = pb := PF.symm.trans hpb
      clear PF hpb
      go_enter Tryz.func114, Tryz.ntmps114
      go_wp2
      exact bodyPost_ret (v := .bool false) (by simp [results, Tryz.results114, go_sem, *]) rfl (⟨rfl, by with_reducible repeat (first | exact Below.refl _ _ | assumption | refine Below.al ?_ _ | refine Below.on ?_ _ | refine Below.st ?_ (by first | assumption | (simp; done) | (simp; omega)) _ | refine Below.drew ?_)⟩)
    have hq : ¬ n < -999999999999999999 ∧ ¬ 999999999999999999 < n := by omega
    have t2 : ¬ (ty = 2) := by omega
    have t3 : ¬ (ty = 3) := by omega
    have t4 : ¬ (ty = 4) := by omega
    have t5 : (ty = 5) := by omega
    have q0 : ((-999999999999999999 : Int) ≤ n) := by omega
    have q1 : n ≤ 999999999999999999 := by omega
    have PF : permF ty n s = true := by unfold permF; rw [if_neg t2, if_neg t4, if_pos t5]; simp; omega
    obtain rfl : true = pb := PF.symm.trans hpb
    clear PF hpb
    go_enter Tryz.func114, Tryz.ntmps114
    go_wp2
    exact bodyPost_ret (v := .bool true) (by simp [results, Tryz.results114, go_sem, *]) rfl (⟨rfl, by with_reducible repeat (first | exact Below.refl _ _ | assumption | refine Below.al ?_ _ | refine Below.on ?_ _ | refine Below.st ?_ (by first | assumption | (simp; done) | (simp; omega)) _ | refine Below.drew ?_)⟩)
  by_cases ht3 : ty = 3
  · skip
    by_cases hq : s.size ≤ 64
    · skip
      have t2 : ¬ (ty = 2) := by omega
      have t3 : (ty = 3) := by omega
      have t4 : ¬ (ty = 4) := by omega
      have t5 : ¬ (ty = 5) := by omega
      have q0 : (s.size : Int) ≤ 64 := by omega
      have PF : permF ty n s = true := by unfold permF; rw [if_neg t2, if_neg t4, if_neg t5, if_pos t3]; simp; omega
      obtain rfl : true = pb := PF.symm.trans hpb
      clear PF hpb
      go_enter Tryz.func114, Tryz.ntmps114
      go_wp2
      exact bodyPost_ret (v := .bool true) (by simp [results, Tryz.results114, go_sem, *]) rfl (⟨rfl, by with_reducible repeat (first | exact Below.refl _ _ | assumption | refine Below.al ?_ _ | refine Below.on ?_ _ | refine Below.st ?_ (by first | assumption | (simp; done) | (simp; omega)) _ | refine Below.drew ?_)⟩)
    have hq : 64 < s.size := by omega
    have t2 : ¬ (ty = 2) := by omega
    have t3 : (ty = 3) := by omega
    have t4 : ¬ (ty = 4) := by omega
    have t5 : ¬ (ty = 5) := by omega
    have q0 : ¬ (s.size : Int) ≤ 64 := by omega
    have PF : permF ty n s = false := by unfold permF; rw [if_neg t2, if_neg t4, if_neg t5, if_pos t3]; simp; omega
    obtain rfl : false = pb := PF.symm.trans hpb
    clear PF hpb
    go_enter Tryz.func114, Tryz.ntmps114
    go_wp2
    exact bodyPost_ret (v := .bool false) (by simp [results, Tryz.results114, go_sem, *]) rfl (⟨rfl, by with_reducible repeat (first | exact Below.refl _ _ | assumption | refine Below.al ?_ _ | refine Below.on ?_ _ | refine Below.st ?_ (by first | assumption | (simp; done) | (simp; omega)) _ | refine Below.drew ?_)⟩)
  have t2 : ¬ (ty = 2) := by omega
  have t3 : ¬ (ty = 3) := by omega
  have t4 : ¬ (ty = 4) := by omega
  have t5 : ¬ (ty = 5) := by omega
  have PF : permF ty n s = true := by unfold permF; rw [if_neg t2, if_neg t4, if_neg t5, if_neg t3]
  obtain rfl : true = pb := PF.symm.trans hpb
  clear PF hpb
  go_enter Tryz.func114, Tryz.ntmps114
  go_wp2
  exact bodyPost_ret (v := .bool true) (by simp [results, Tryz.results114, go_sem, *]) rfl (⟨rfl, by with_reducible repeat (first | exact Below.refl _ _ | assumption | refine Below.al ?_ _ | refine Below.on ?_ _ | refine Below.st ?_ (by first | assumption | (simp; done) | (simp; omega)) _ | refine Below.drew ?_)⟩)
set_option maxRecDepth 8000 in
set_option maxHeartbeats 4000000 in
theorem vcheck_any (cn : ByteArray) (ty sc : Int) (nul vn : Bool) (n : Int) (s : ByteArray) (w : World) : Calls Tryz.prog 82 #[.agg #[.string cn, .int .i64 ty, .int .i64 sc, .bool nul], .agg #[.bool vn, .int .i64 n, .string s]] w fun e w' => e = .returned (.int .i64 (vchk ty nul vn n s)) ∧ Below w.heap.size w w' := by
  obtain ⟨vb, hvb⟩ : ∃ vb, vchk ty nul vn n s = vb := ⟨_, rfl⟩
  rw [hvb]
  by_cases t0 : ty < 1 ∨ 5 < ty
  · obtain rfl : 1 = vb := (show vchk ty nul vn n s = 1 by unfold vchk; rw [if_pos t0]).symm.trans hvb
    clear hvb
    have tk : (decide (1 ≤ ty) && decide (ty ≤ 5)) = false := by rw [Bool.and_eq_false_iff]; rcases t0 with q | q; exact .inl (decide_eq_false (by omega)); exact .inr (decide_eq_false (by omega))
    clear t0
    go_enter Tryz.func82, Tryz.ntmps82
    go_wp2_with (first | (go_at_call 113; refine (known_any _ _).mono ?_; rintro e w1 ⟨rfl, hb1⟩; obtain ⟨x1, rfl⟩ := Ext.of hb1; have z0 : w.heap.size < x1.it.heap.size := x1.lt (by simp; omega); have z1 : w.heap.size + 1 < x1.it.heap.size := x1.lt (by simp)) | (go_at_call 114; refine (perm_any _ _ _ _ _).mono ?_; rintro e w2 ⟨rfl, hb2⟩; obtain ⟨x2, rfl⟩ := Ext.of hb2))
    exact bodyPost_ret (v := .int .i64 1) (by simp [results, Tryz.results82, go_sem, *]) rfl (⟨rfl, by with_reducible repeat (first | exact Below.refl _ _ | assumption | refine Below.al ?_ _ | refine Below.on ?_ _ | refine Below.st ?_ (by first | assumption | (simp; done) | (simp; omega)) _ | refine Below.drew ?_)⟩)
  have tk : (decide (1 ≤ ty) && decide (ty ≤ 5)) = true := by rw [decide_eq_true (by omega), decide_eq_true (by omega)]; rfl
  have T0 := Lib.hid t0
  have VS : vchk ty nul vn n s = if vn = true then (if ¬ s.toList = [] ∨ ¬ n = 0 then 11 else if nul = true then 0 else 12) else if (¬ ty = 3 ∧ ¬ s.toList = []) ∨ (ty = 3 ∧ ¬ n = 0) then 11 else if permF ty n s = true then 0 else 4 := by unfold vchk; rw [if_neg t0]
  clear t0
  cases vn with
  | true =>
    by_cases hs : s.toList = []
    · by_cases hn : n = 0
      · cases nul
        ·
          obtain rfl : 12 = vb := (VS.trans (by rw [if_pos rfl, if_neg (by simp [hs, hn]), if_neg (by decide)])).symm.trans hvb
          have e0 : s.toList.isEmpty = true := by rw [hs]; rfl
          have n0 : (n != 0) = false := by simpa using hn
          clear VS hvb
          go_enter Tryz.func82, Tryz.ntmps82
          go_wp2_with (first | (go_at_call 113; refine (known_any _ _).mono ?_; rintro e w1 ⟨rfl, hb1⟩; obtain ⟨x1, rfl⟩ := Ext.of hb1; have z0 : w.heap.size < x1.it.heap.size := x1.lt (by simp; omega); have z1 : w.heap.size + 1 < x1.it.heap.size := x1.lt (by simp)) | (go_at_call 114; refine (perm_any _ _ _ _ _).mono ?_; rintro e w2 ⟨rfl, hb2⟩; obtain ⟨x2, rfl⟩ := Ext.of hb2))
          exact bodyPost_ret (v := .int .i64 12) (by simp [results, Tryz.results82, go_sem, *]) rfl (⟨rfl, by with_reducible repeat (first | exact Below.refl _ _ | assumption | refine Below.al ?_ _ | refine Below.on ?_ _ | refine Below.st ?_ (by first | assumption | (simp; done) | (simp; omega)) _ | refine Below.drew ?_)⟩)
        ·
          obtain rfl : 0 = vb := (VS.trans (by rw [if_pos rfl, if_neg (by simp [hs, hn]), if_pos rfl])).symm.trans hvb
          have e0 : s.toList.isEmpty = true := by rw [hs]; rfl
          have n0 : (n != 0) = false := by simpa using hn
          clear VS hvb
          go_enter Tryz.func82, Tryz.ntmps82
          go_wp2_with (first | (go_at_call 113; refine (known_any _ _).mono ?_; rintro e w1 ⟨rfl, hb1⟩; obtain ⟨x1, rfl⟩ := Ext.of hb1; have z0 : w.heap.size < x1.it.heap.size := x1.lt (by simp; omega); have z1 : w.heap.size + 1 < x1.it.heap.size := x1.lt (by simp)) | (go_at_call 114; refine (perm_any _ _ _ _ _).mono ?_; rintro e w2 ⟨rfl, hb2⟩; obtain ⟨x2, rfl⟩ := Ext.of hb2))
          exact bodyPost_ret (v := .int .i64 0) (by simp [results, Tryz.results82, go_sem, *]) rfl (⟨rfl, by with_reducible repeat (first | exact Below.refl _ _ | assumption | refine Below.al ?_ _ | refine Below.on ?_ _ | refine Below.st ?_ (by first | assumption | (simp; done) | (simp; omega)) _ | refine Below.drew ?_)⟩)
      ·
        obtain rfl : 11 = vb := (VS.trans (by rw [if_pos rfl, if_pos (Or.inr hn)])).symm.trans hvb
        have e0 : s.toList.isEmpty = true := by rw [hs]; rfl
        have n0 : (n != 0) = true := by simpa using hn
        clear VS hvb
        go_enter Tryz.func82, Tryz.ntmps82
        go_wp2_with (first | (go_at_call 113; refine (known_any _ _).mono ?_; rintro e w1 ⟨rfl, hb1⟩; obtain ⟨x1, rfl⟩ := Ext.of hb1; have z0 : w.heap.size < x1.it.heap.size := x1.lt (by simp; omega); have z1 : w.heap.size + 1 < x1.it.heap.size := x1.lt (by simp)) | (go_at_call 114; refine (perm_any _ _ _ _ _).mono ?_; rintro e w2 ⟨rfl, hb2⟩; obtain ⟨x2, rfl⟩ := Ext.of hb2))
        exact bodyPost_ret (v := .int .i64 11) (by simp [results, Tryz.results82, go_sem, *]) rfl (⟨rfl, by with_reducible repeat (first | exact Below.refl _ _ | assumption | refine Below.al ?_ _ | refine Below.on ?_ _ | refine Below.st ?_ (by first | assumption | (simp; done) | (simp; omega)) _ | refine Below.drew ?_)⟩)
    · by_cases hn : n = 0
      ·
        obtain rfl : 11 = vb := (VS.trans (by rw [if_pos rfl, if_pos (Or.inl hs)])).symm.trans hvb
        have e0 : s.toList.isEmpty = false := by cases hx : s.toList with | nil => exact absurd hx hs | cons _ _ => rfl
        have n0 : (n != 0) = false := by simpa using hn
        clear VS hvb
        go_enter Tryz.func82, Tryz.ntmps82
        go_wp2_with (first | (go_at_call 113; refine (known_any _ _).mono ?_; rintro e w1 ⟨rfl, hb1⟩; obtain ⟨x1, rfl⟩ := Ext.of hb1; have z0 : w.heap.size < x1.it.heap.size := x1.lt (by simp; omega); have z1 : w.heap.size + 1 < x1.it.heap.size := x1.lt (by simp)) | (go_at_call 114; refine (perm_any _ _ _ _ _).mono ?_; rintro e w2 ⟨rfl, hb2⟩; obtain ⟨x2, rfl⟩ := Ext.of hb2))
        exact bodyPost_ret (v := .int .i64 11) (by simp [results, Tryz.results82, go_sem, *]) rfl (⟨rfl, by with_reducible repeat (first | exact Below.refl _ _ | assumption | refine Below.al ?_ _ | refine Below.on ?_ _ | refine Below.st ?_ (by first | assumption | (simp; done) | (simp; omega)) _ | refine Below.drew ?_)⟩)
      ·
        obtain rfl : 11 = vb := (VS.trans (by rw [if_pos rfl, if_pos (Or.inl hs)])).symm.trans hvb
        have e0 : s.toList.isEmpty = false := by cases hx : s.toList with | nil => exact absurd hx hs | cons _ _ => rfl
        have n0 : (n != 0) = true := by simpa using hn
        clear VS hvb
        go_enter Tryz.func82, Tryz.ntmps82
        go_wp2_with (first | (go_at_call 113; refine (known_any _ _).mono ?_; rintro e w1 ⟨rfl, hb1⟩; obtain ⟨x1, rfl⟩ := Ext.of hb1; have z0 : w.heap.size < x1.it.heap.size := x1.lt (by simp; omega); have z1 : w.heap.size + 1 < x1.it.heap.size := x1.lt (by simp)) | (go_at_call 114; refine (perm_any _ _ _ _ _).mono ?_; rintro e w2 ⟨rfl, hb2⟩; obtain ⟨x2, rfl⟩ := Ext.of hb2))
        exact bodyPost_ret (v := .int .i64 11) (by simp [results, Tryz.results82, go_sem, *]) rfl (⟨rfl, by with_reducible repeat (first | exact Below.refl _ _ | assumption | refine Below.al ?_ _ | refine Below.on ?_ _ | refine Below.st ?_ (by first | assumption | (simp; done) | (simp; omega)) _ | refine Below.drew ?_)⟩)
  | false =>
    by_cases h3 : ty = 3
    · by_cases hn : n = 0
      · cases hp : permF ty n s
        ·
          obtain rfl : 4 = vb := (VS.trans (by rw [if_neg (by decide), if_neg (by simp [h3, hn]), if_neg (by rw [hp]; decide)])).symm.trans hvb
          have u0 : (ty != 3) = false := by simpa using h3
          have u1 : (ty == 3) = true := by simpa using h3
          have n0 : (n != 0) = false := by simpa using hn
          clear VS hvb h3 hn
          go_enter Tryz.func82, Tryz.ntmps82
          go_wp2_with (first | (go_at_call 113; refine (known_any _ _).mono ?_; rintro e w1 ⟨rfl, hb1⟩; obtain ⟨x1, rfl⟩ := Ext.of hb1; have z0 : w.heap.size < x1.it.heap.size := x1.lt (by simp; omega); have z1 : w.heap.size + 1 < x1.it.heap.size := x1.lt (by simp)) | (go_at_call 114; refine (perm_any _ _ _ _ _).mono ?_; rintro e w2 ⟨rfl, hb2⟩; obtain ⟨x2, rfl⟩ := Ext.of hb2))
          exact bodyPost_ret (v := .int .i64 4) (by simp [results, Tryz.results82, go_sem, *]) rfl (⟨rfl, by with_reducible repeat (first | exact Below.refl _ _ | assumption | refine Below.al ?_ _ | refine Below.on ?_ _ | refine Below.st ?_ (by first | assumption | (simp; done) | (simp; omega)) _ | refine Below.drew ?_)⟩)
        ·
          obtain rfl : 0 = vb := (VS.trans (by rw [if_neg (by decide), if_neg (by simp [h3, hn]), if_pos hp])).symm.trans hvb
          have u0 : (ty != 3) = false := by simpa using h3
          have u1 : (ty == 3) = true := by simpa using h3
          have n0 : (n != 0) = false := by simpa using hn
          clear VS hvb h3 hn
          go_enter Tryz.func82, Tryz.ntmps82
          go_wp2_with (first | (go_at_call 113; refine (known_any _ _).mono ?_; rintro e w1 ⟨rfl, hb1⟩; obtain ⟨x1, rfl⟩ := Ext.of hb1; have z0 : w.heap.size < x1.it.heap.size := x1.lt (by simp; omega); have z1 : w.heap.size + 1 < x1.it.heap.size := x1.lt (by simp)) | (go_at_call 114; refine (perm_any _ _ _ _ _).mono ?_; rintro e w2 ⟨rfl, hb2⟩; obtain ⟨x2, rfl⟩ := Ext.of hb2))
          exact bodyPost_ret (v := .int .i64 0) (by simp [results, Tryz.results82, go_sem, *]) rfl (⟨rfl, by with_reducible repeat (first | exact Below.refl _ _ | assumption | refine Below.al ?_ _ | refine Below.on ?_ _ | refine Below.st ?_ (by first | assumption | (simp; done) | (simp; omega)) _ | refine Below.drew ?_)⟩)
      ·
        obtain rfl : 11 = vb := (VS.trans (by rw [if_neg (by decide), if_pos (Or.inr ⟨h3, hn⟩)])).symm.trans hvb
        have u0 : (ty != 3) = false := by simpa using h3
        have u1 : (ty == 3) = true := by simpa using h3
        have n0 : (n != 0) = true := by simpa using hn
        clear VS hvb
        go_enter Tryz.func82, Tryz.ntmps82
        go_wp2_with (first | (go_at_call 113; refine (known_any _ _).mono ?_; rintro e w1 ⟨rfl, hb1⟩; obtain ⟨x1, rfl⟩ := Ext.of hb1; have z0 : w.heap.size < x1.it.heap.size := x1.lt (by simp; omega); have z1 : w.heap.size + 1 < x1.it.heap.size := x1.lt (by simp)) | (go_at_call 114; refine (perm_any _ _ _ _ _).mono ?_; rintro e w2 ⟨rfl, hb2⟩; obtain ⟨x2, rfl⟩ := Ext.of hb2))
        exact bodyPost_ret (v := .int .i64 11) (by simp [results, Tryz.results82, go_sem, *]) rfl (⟨rfl, by with_reducible repeat (first | exact Below.refl _ _ | assumption | refine Below.al ?_ _ | refine Below.on ?_ _ | refine Below.st ?_ (by first | assumption | (simp; done) | (simp; omega)) _ | refine Below.drew ?_)⟩)
    · by_cases hs : s.toList = []
      · cases hp : permF ty n s
        ·
          obtain rfl : 4 = vb := (VS.trans (by rw [if_neg (by decide), if_neg (by simp [h3, hs]), if_neg (by rw [hp]; decide)])).symm.trans hvb
          have u0 : (ty != 3) = true := by simpa using h3
          have u1 : (ty == 3) = false := by simpa using h3
          have e0 : s.toList.isEmpty = true := by rw [hs]; rfl
          clear VS hvb
          go_enter Tryz.func82, Tryz.ntmps82
          go_wp2_with (first | (go_at_call 113; refine (known_any _ _).mono ?_; rintro e w1 ⟨rfl, hb1⟩; obtain ⟨x1, rfl⟩ := Ext.of hb1; have z0 : w.heap.size < x1.it.heap.size := x1.lt (by simp; omega); have z1 : w.heap.size + 1 < x1.it.heap.size := x1.lt (by simp)) | (go_at_call 114; refine (perm_any _ _ _ _ _).mono ?_; rintro e w2 ⟨rfl, hb2⟩; obtain ⟨x2, rfl⟩ := Ext.of hb2))
          exact bodyPost_ret (v := .int .i64 4) (by simp [results, Tryz.results82, go_sem, *]) rfl (⟨rfl, by with_reducible repeat (first | exact Below.refl _ _ | assumption | refine Below.al ?_ _ | refine Below.on ?_ _ | refine Below.st ?_ (by first | assumption | (simp; done) | (simp; omega)) _ | refine Below.drew ?_)⟩)
        ·
          obtain rfl : 0 = vb := (VS.trans (by rw [if_neg (by decide), if_neg (by simp [h3, hs]), if_pos hp])).symm.trans hvb
          have u0 : (ty != 3) = true := by simpa using h3
          have u1 : (ty == 3) = false := by simpa using h3
          have e0 : s.toList.isEmpty = true := by rw [hs]; rfl
          clear VS hvb
          go_enter Tryz.func82, Tryz.ntmps82
          go_wp2_with (first | (go_at_call 113; refine (known_any _ _).mono ?_; rintro e w1 ⟨rfl, hb1⟩; obtain ⟨x1, rfl⟩ := Ext.of hb1; have z0 : w.heap.size < x1.it.heap.size := x1.lt (by simp; omega); have z1 : w.heap.size + 1 < x1.it.heap.size := x1.lt (by simp)) | (go_at_call 114; refine (perm_any _ _ _ _ _).mono ?_; rintro e w2 ⟨rfl, hb2⟩; obtain ⟨x2, rfl⟩ := Ext.of hb2))
          exact bodyPost_ret (v := .int .i64 0) (by simp [results, Tryz.results82, go_sem, *]) rfl (⟨rfl, by with_reducible repeat (first | exact Below.refl _ _ | assumption | refine Below.al ?_ _ | refine Below.on ?_ _ | refine Below.st ?_ (by first | assumption | (simp; done) | (simp; omega)) _ | refine Below.drew ?_)⟩)
      ·
        obtain rfl : 11 = vb := (VS.trans (by rw [if_neg (by decide), if_pos (Or.inl ⟨h3, hs⟩)])).symm.trans hvb
        have u0 : (ty != 3) = true := by simpa using h3
        have u1 : (ty == 3) = false := by simpa using h3
        have e0 : s.toList.isEmpty = false := by cases hx : s.toList with | nil => exact absurd hx hs | cons _ _ => rfl
        clear VS hvb
        go_enter Tryz.func82, Tryz.ntmps82
        go_wp2_with (first | (go_at_call 113; refine (known_any _ _).mono ?_; rintro e w1 ⟨rfl, hb1⟩; obtain ⟨x1, rfl⟩ := Ext.of hb1; have z0 : w.heap.size < x1.it.heap.size := x1.lt (by simp; omega); have z1 : w.heap.size + 1 < x1.it.heap.size := x1.lt (by simp)) | (go_at_call 114; refine (perm_any _ _ _ _ _).mono ?_; rintro e w2 ⟨rfl, hb2⟩; obtain ⟨x2, rfl⟩ := Ext.of hb2))
        exact bodyPost_ret (v := .int .i64 11) (by simp [results, Tryz.results82, go_sem, *]) rfl (⟨rfl, by with_reducible repeat (first | exact Below.refl _ _ | assumption | refine Below.al ?_ _ | refine Below.on ?_ _ | refine Below.st ?_ (by first | assumption | (simp; done) | (simp; omega)) _ | refine Below.drew ?_)⟩)
set_option maxRecDepth 8000 in
set_option maxHeartbeats 4000000 in
theorem refVcheck_any (cn : ByteArray) (ty sc : Int) (nul vn : Bool) (n : Int) (s : ByteArray) (w : World) : Calls Tryz.prog 98 #[.agg #[.string cn, .int .i64 ty, .int .i64 sc, .bool nul], .agg #[.bool vn, .int .i64 n, .string s]] w fun e w' => e = .returned (.int .i64 (vchk ty nul vn n s)) ∧ Below w.heap.size w w' := by
  obtain ⟨vb, hvb⟩ : ∃ vb, vchk ty nul vn n s = vb := ⟨_, rfl⟩
  rw [hvb]
  by_cases t0 : ty < 1 ∨ 5 < ty
  · obtain rfl : 1 = vb := (show vchk ty nul vn n s = 1 by unfold vchk; rw [if_pos t0]).symm.trans hvb
    clear hvb
    have tk : (decide (1 ≤ ty) && decide (ty ≤ 5)) = false := by rw [Bool.and_eq_false_iff]; rcases t0 with q | q; exact .inl (decide_eq_false (by omega)); exact .inr (decide_eq_false (by omega))
    clear t0
    go_enter Tryz.func98, Tryz.ntmps98
    go_wp2_with (go_at_call 97; refine (typed_any _ _).mono ?_; rintro e w1 ⟨rfl, hb1⟩; obtain ⟨x1, rfl⟩ := Ext.of hb1; have z0 : w.heap.size < x1.it.heap.size := x1.lt (by simp; omega); have z1 : w.heap.size + 1 < x1.it.heap.size := x1.lt (by simp))
    exact bodyPost_ret (v := .int .i64 1) (by simp [results, Tryz.results98, go_sem, *]) rfl (⟨rfl, by with_reducible repeat (first | exact Below.refl _ _ | assumption | refine Below.al ?_ _ | refine Below.on ?_ _ | refine Below.st ?_ (by first | assumption | (simp; done) | (simp; omega)) _ | refine Below.drew ?_)⟩)
  have tk : (decide (1 ≤ ty) && decide (ty ≤ 5)) = true := by rw [decide_eq_true (by omega), decide_eq_true (by omega)]; rfl
  have T0 := Lib.hid t0
  have VS : vchk ty nul vn n s = if vn = true then (if ¬ s.toList = [] ∨ ¬ n = 0 then 11 else if nul = true then 0 else 12) else if (¬ ty = 3 ∧ ¬ s.toList = []) ∨ (ty = 3 ∧ ¬ n = 0) then 11 else if permF ty n s = true then 0 else 4 := by unfold vchk; rw [if_neg t0]
  clear t0
  cases vn with
  | true =>
    by_cases hs : s.toList = []
    · by_cases hn : n = 0
      · cases nul
        ·
          obtain rfl : 12 = vb := (VS.trans (by rw [if_pos rfl, if_neg (by simp [hs, hn]), if_neg (by decide)])).symm.trans hvb
          have e0 : s.toList.isEmpty = true := by rw [hs]; rfl
          have n0 : (n != 0) = false := by simpa using hn
          clear VS hvb
          go_enter Tryz.func98, Tryz.ntmps98
          go_wp2_with (go_at_call 97; refine (typed_any _ _).mono ?_; rintro e w1 ⟨rfl, hb1⟩; obtain ⟨x1, rfl⟩ := Ext.of hb1; have z0 : w.heap.size < x1.it.heap.size := x1.lt (by simp; omega); have z1 : w.heap.size + 1 < x1.it.heap.size := x1.lt (by simp))
          exact bodyPost_ret (v := .int .i64 12) (by simp [results, Tryz.results98, go_sem, *]) rfl (⟨rfl, by with_reducible repeat (first | exact Below.refl _ _ | assumption | refine Below.al ?_ _ | refine Below.on ?_ _ | refine Below.st ?_ (by first | assumption | (simp; done) | (simp; omega)) _ | refine Below.drew ?_)⟩)
        ·
          obtain rfl : 0 = vb := (VS.trans (by rw [if_pos rfl, if_neg (by simp [hs, hn]), if_pos rfl])).symm.trans hvb
          have e0 : s.toList.isEmpty = true := by rw [hs]; rfl
          have n0 : (n != 0) = false := by simpa using hn
          clear VS hvb
          go_enter Tryz.func98, Tryz.ntmps98
          go_wp2_with (go_at_call 97; refine (typed_any _ _).mono ?_; rintro e w1 ⟨rfl, hb1⟩; obtain ⟨x1, rfl⟩ := Ext.of hb1; have z0 : w.heap.size < x1.it.heap.size := x1.lt (by simp; omega); have z1 : w.heap.size + 1 < x1.it.heap.size := x1.lt (by simp))
          exact bodyPost_ret (v := .int .i64 0) (by simp [results, Tryz.results98, go_sem, *]) rfl (⟨rfl, by with_reducible repeat (first | exact Below.refl _ _ | assumption | refine Below.al ?_ _ | refine Below.on ?_ _ | refine Below.st ?_ (by first | assumption | (simp; done) | (simp; omega)) _ | refine Below.drew ?_)⟩)
      ·
        obtain rfl : 11 = vb := (VS.trans (by rw [if_pos rfl, if_pos (Or.inr hn)])).symm.trans hvb
        have e0 : s.toList.isEmpty = true := by rw [hs]; rfl
        have n0 : (n != 0) = true := by simpa using hn
        clear VS hvb
        go_enter Tryz.func98, Tryz.ntmps98
        go_wp2_with (go_at_call 97; refine (typed_any _ _).mono ?_; rintro e w1 ⟨rfl, hb1⟩; obtain ⟨x1, rfl⟩ := Ext.of hb1; have z0 : w.heap.size < x1.it.heap.size := x1.lt (by simp; omega); have z1 : w.heap.size + 1 < x1.it.heap.size := x1.lt (by simp))
        exact bodyPost_ret (v := .int .i64 11) (by simp [results, Tryz.results98, go_sem, *]) rfl (⟨rfl, by with_reducible repeat (first | exact Below.refl _ _ | assumption | refine Below.al ?_ _ | refine Below.on ?_ _ | refine Below.st ?_ (by first | assumption | (simp; done) | (simp; omega)) _ | refine Below.drew ?_)⟩)
    · by_cases hn : n = 0
      ·
        obtain rfl : 11 = vb := (VS.trans (by rw [if_pos rfl, if_pos (Or.inl hs)])).symm.trans hvb
        have e0 : s.toList.isEmpty = false := by cases hx : s.toList with | nil => exact absurd hx hs | cons _ _ => rfl
        have n0 : (n != 0) = false := by simpa using hn
        clear VS hvb
        go_enter Tryz.func98, Tryz.ntmps98
        go_wp2_with (go_at_call 97; refine (typed_any _ _).mono ?_; rintro e w1 ⟨rfl, hb1⟩; obtain ⟨x1, rfl⟩ := Ext.of hb1; have z0 : w.heap.size < x1.it.heap.size := x1.lt (by simp; omega); have z1 : w.heap.size + 1 < x1.it.heap.size := x1.lt (by simp))
        exact bodyPost_ret (v := .int .i64 11) (by simp [results, Tryz.results98, go_sem, *]) rfl (⟨rfl, by with_reducible repeat (first | exact Below.refl _ _ | assumption | refine Below.al ?_ _ | refine Below.on ?_ _ | refine Below.st ?_ (by first | assumption | (simp; done) | (simp; omega)) _ | refine Below.drew ?_)⟩)
      ·
        obtain rfl : 11 = vb := (VS.trans (by rw [if_pos rfl, if_pos (Or.inl hs)])).symm.trans hvb
        have e0 : s.toList.isEmpty = false := by cases hx : s.toList with | nil => exact absurd hx hs | cons _ _ => rfl
        have n0 : (n != 0) = true := by simpa using hn
        clear VS hvb
        go_enter Tryz.func98, Tryz.ntmps98
        go_wp2_with (go_at_call 97; refine (typed_any _ _).mono ?_; rintro e w1 ⟨rfl, hb1⟩; obtain ⟨x1, rfl⟩ := Ext.of hb1; have z0 : w.heap.size < x1.it.heap.size := x1.lt (by simp; omega); have z1 : w.heap.size + 1 < x1.it.heap.size := x1.lt (by simp))
        exact bodyPost_ret (v := .int .i64 11) (by simp [results, Tryz.results98, go_sem, *]) rfl (⟨rfl, by with_reducible repeat (first | exact Below.refl _ _ | assumption | refine Below.al ?_ _ | refine Below.on ?_ _ | refine Below.st ?_ (by first | assumption | (simp; done) | (simp; omega)) _ | refine Below.drew ?_)⟩)
  | false =>
    by_cases h3 : ty = 3
    · by_cases hn : n = 0
      · have PS : permF ty n s = decide (s.size ≤ 64) := by unfold permF; rw [if_neg (by omega), if_neg (by omega), if_neg (by omega), if_pos h3]
        by_cases hz : s.size ≤ 64
        ·
          obtain rfl : 0 = vb := (VS.trans (by rw [if_neg (by decide), if_neg (by simp [h3, hn]), if_pos (by rw [PS]; exact decide_eq_true hz)])).symm.trans hvb
          have u0 : (ty != 3) = false := by simpa using h3
          have u1 : (ty == 3) = true := by simpa using h3
          have n0 : (n != 0) = false := by simpa using hn
          have hz' : (s.size : Int) ≤ 64 := by omega
          clear VS hvb PS
          go_enter Tryz.func98, Tryz.ntmps98
          go_wp2_with (go_at_call 97; refine (typed_any _ _).mono ?_; rintro e w1 ⟨rfl, hb1⟩; obtain ⟨x1, rfl⟩ := Ext.of hb1; have z0 : w.heap.size < x1.it.heap.size := x1.lt (by simp; omega); have z1 : w.heap.size + 1 < x1.it.heap.size := x1.lt (by simp))
          exact bodyPost_ret (v := .int .i64 0) (by simp [results, Tryz.results98, go_sem, *]) rfl (⟨rfl, by with_reducible repeat (first | exact Below.refl _ _ | assumption | refine Below.al ?_ _ | refine Below.on ?_ _ | refine Below.st ?_ (by first | assumption | (simp; done) | (simp; omega)) _ | refine Below.drew ?_)⟩)
        ·
          obtain rfl : 4 = vb := (VS.trans (by rw [if_neg (by decide), if_neg (by simp [h3, hn]), if_neg (by rw [PS, decide_eq_false hz]; decide)])).symm.trans hvb
          have u0 : (ty != 3) = false := by simpa using h3
          have u1 : (ty == 3) = true := by simpa using h3
          have n0 : (n != 0) = false := by simpa using hn
          have hz' : ¬ (s.size : Int) ≤ 64 := by omega
          have hb' : decide ((s.size : Int) ≤ 64) = false := decide_eq_false hz'
          clear VS hvb PS
          go_enter Tryz.func98, Tryz.ntmps98
          go_wp2_with (go_at_call 97; refine (typed_any _ _).mono ?_; rintro e w1 ⟨rfl, hb1⟩; obtain ⟨x1, rfl⟩ := Ext.of hb1; have z0 : w.heap.size < x1.it.heap.size := x1.lt (by simp; omega); have z1 : w.heap.size + 1 < x1.it.heap.size := x1.lt (by simp))
          exact bodyPost_ret (v := .int .i64 4) (by simp [results, Tryz.results98, go_sem, *]) rfl (⟨rfl, by with_reducible repeat (first | exact Below.refl _ _ | assumption | refine Below.al ?_ _ | refine Below.on ?_ _ | refine Below.st ?_ (by first | assumption | (simp; done) | (simp; omega)) _ | refine Below.drew ?_)⟩)
      ·
        obtain rfl : 11 = vb := (VS.trans (by rw [if_neg (by decide), if_pos (Or.inr ⟨h3, hn⟩)])).symm.trans hvb
        have u0 : (ty != 3) = false := by simpa using h3
        have u1 : (ty == 3) = true := by simpa using h3
        have n0 : (n != 0) = true := by simpa using hn
        clear VS hvb
        go_enter Tryz.func98, Tryz.ntmps98
        go_wp2_with (go_at_call 97; refine (typed_any _ _).mono ?_; rintro e w1 ⟨rfl, hb1⟩; obtain ⟨x1, rfl⟩ := Ext.of hb1; have z0 : w.heap.size < x1.it.heap.size := x1.lt (by simp; omega); have z1 : w.heap.size + 1 < x1.it.heap.size := x1.lt (by simp))
        exact bodyPost_ret (v := .int .i64 11) (by simp [results, Tryz.results98, go_sem, *]) rfl (⟨rfl, by with_reducible repeat (first | exact Below.refl _ _ | assumption | refine Below.al ?_ _ | refine Below.on ?_ _ | refine Below.st ?_ (by first | assumption | (simp; done) | (simp; omega)) _ | refine Below.drew ?_)⟩)
    · by_cases hs : s.toList = []
      · have VS2 := VS.trans (show _ = (if permF ty n s = true then 0 else 4 : Int) by rw [if_neg (by decide), if_neg (by simp [h3, hs])])
        clear VS
        have u0 : (ty != 3) = true := by simpa using h3
        have u1 : (ty == 3) = false := by simpa using h3
        have e0 : s.toList.isEmpty = true := by rw [hs]; rfl
        by_cases ht2 : ty = 2
        · skip
          by_cases hq : n = 0
          · skip
            have t2 : (ty = 2) := by omega
            have t3 : ¬ (ty = 3) := by omega
            have t4 : ¬ (ty = 4) := by omega
            have t5 : ¬ (ty = 5) := by omega
            have q0 : n = 0 := hq
            have PF : permF ty n s = true := by unfold permF; rw [if_pos t2]; simp [*]
            obtain rfl : 0 = vb := (VS2.trans (by simp [PF])).symm.trans hvb
            clear PF VS2 hvb
            go_enter Tryz.func98, Tryz.ntmps98
            go_wp2_with (go_at_call 97; refine (typed_any _ _).mono ?_; rintro e w1 ⟨rfl, hb1⟩; obtain ⟨x1, rfl⟩ := Ext.of hb1; have z0 : w.heap.size < x1.it.heap.size := x1.lt (by simp; omega); have z1 : w.heap.size + 1 < x1.it.heap.size := x1.lt (by simp))
            exact bodyPost_ret (v := .int .i64 0) (by simp [results, Tryz.results98, go_sem, *]) rfl (⟨rfl, by with_reducible repeat (first | exact Below.refl _ _ | assumption | refine Below.al ?_ _ | refine Below.on ?_ _ | refine Below.st ?_ (by first | assumption | (simp; done) | (simp; omega)) _ | refine Below.drew ?_)⟩)
          by_cases hq : ¬ n = 0 ∧ n = 1
          · skip
            have t2 : (ty = 2) := by omega
            have t3 : ¬ (ty = 3) := by omega
            have t4 : ¬ (ty = 4) := by omega
            have t5 : ¬ (ty = 5) := by omega
            have q0 : ¬ n = 0 := hq.1
            have q1 : n = 1 := hq.2
            have PF : permF ty n s = true := by unfold permF; rw [if_pos t2]; simp [*]
            obtain rfl : 0 = vb := (VS2.trans (by simp [PF])).symm.trans hvb
            clear PF VS2 hvb
            go_enter Tryz.func98, Tryz.ntmps98
            go_wp2_with (go_at_call 97; refine (typed_any _ _).mono ?_; rintro e w1 ⟨rfl, hb1⟩; obtain ⟨x1, rfl⟩ := Ext.of hb1; have z0 : w.heap.size < x1.it.heap.size := x1.lt (by simp; omega); have z1 : w.heap.size + 1 < x1.it.heap.size := x1.lt (by simp))
            exact bodyPost_ret (v := .int .i64 0) (by simp [results, Tryz.results98, go_sem, *]) rfl (⟨rfl, by with_reducible repeat (first | exact Below.refl _ _ | assumption | refine Below.al ?_ _ | refine Below.on ?_ _ | refine Below.st ?_ (by first | assumption | (simp; done) | (simp; omega)) _ | refine Below.drew ?_)⟩)
          have hq : ¬ n = 0 ∧ ¬ n = 1 := by omega
          have t2 : (ty = 2) := by omega
          have t3 : ¬ (ty = 3) := by omega
          have t4 : ¬ (ty = 4) := by omega
          have t5 : ¬ (ty = 5) := by omega
          have q0 : ¬ n = 0 := hq.1
          have q1 : ¬ n = 1 := hq.2
          have q2 : (n == 1) = false := by simpa using hq.2
          have q3 : (n == 0) = false := by simpa using hq.1
          have PF : permF ty n s = false := by unfold permF; rw [if_pos t2]; simp [*]
          obtain rfl : 4 = vb := (VS2.trans (by simp [PF])).symm.trans hvb
          clear PF VS2 hvb
          go_enter Tryz.func98, Tryz.ntmps98
          go_wp2_with (go_at_call 97; refine (typed_any _ _).mono ?_; rintro e w1 ⟨rfl, hb1⟩; obtain ⟨x1, rfl⟩ := Ext.of hb1; have z0 : w.heap.size < x1.it.heap.size := x1.lt (by simp; omega); have z1 : w.heap.size + 1 < x1.it.heap.size := x1.lt (by simp))
          exact bodyPost_ret (v := .int .i64 4) (by simp [results, Tryz.results98, go_sem, *]) rfl (⟨rfl, by with_reducible repeat (first | exact Below.refl _ _ | assumption | refine Below.al ?_ _ | refine Below.on ?_ _ | refine Below.st ?_ (by first | assumption | (simp; done) | (simp; omega)) _ | refine Below.drew ?_)⟩)
        by_cases ht4 : ty = 4
        · skip
          by_cases hq : n < -719162
          · skip
            have t2 : ¬ (ty = 2) := by omega
            have t3 : ¬ (ty = 3) := by omega
            have t4 : (ty = 4) := by omega
            have t5 : ¬ (ty = 5) := by omega
            have q0 : ¬ ((-719162 : Int) ≤ n) := by omega
            have PF : permF ty n s = false := by unfold permF; rw [if_neg t2, if_pos t4]; simp; omega
            obtain rfl : 4 = vb := (VS2.trans (by simp [PF])).symm.trans hvb
            clear PF VS2 hvb
            go_enter Tryz.func98, Tryz.ntmps98
            go_wp2_with (go_at_call 97; refine (typed_any _ _).mono ?_; rintro e w1 ⟨rfl, hb1⟩; obtain ⟨x1, rfl⟩ := Ext.of hb1; have z0 : w.heap.size < x1.it.heap.size := x1.lt (by simp; omega); have z1 : w.heap.size + 1 < x1.it.heap.size := x1.lt (by simp))
            exact bodyPost_ret (v := .int .i64 4) (by simp [results, Tryz.results98, go_sem, *]) rfl (⟨rfl, by with_reducible repeat (first | exact Below.refl _ _ | assumption | refine Below.al ?_ _ | refine Below.on ?_ _ | refine Below.st ?_ (by first | assumption | (simp; done) | (simp; omega)) _ | refine Below.drew ?_)⟩)
          by_cases hq : ¬ n < -719162 ∧ 2932896 < n
          · skip
            have t2 : ¬ (ty = 2) := by omega
            have t3 : ¬ (ty = 3) := by omega
            have t4 : (ty = 4) := by omega
            have t5 : ¬ (ty = 5) := by omega
            have q0 : ((-719162 : Int) ≤ n) := by omega
            have q1 : ¬ (n ≤ 2932896) := by omega
            have q2 : decide (n ≤ 2932896) = false := decide_eq_false q1
            have PF : permF ty n s = false := by unfold permF; rw [if_neg t2, if_pos t4]; simp; omega
            obtain rfl : 4 = vb := (VS2.trans (by simp [PF])).symm.trans hvb
            clear PF VS2 hvb
            go_enter Tryz.func98, Tryz.ntmps98
            go_wp2_with (go_at_call 97; refine (typed_any _ _).mono ?_; rintro e w1 ⟨rfl, hb1⟩; obtain ⟨x1, rfl⟩ := Ext.of hb1; have z0 : w.heap.size < x1.it.heap.size := x1.lt (by simp; omega); have z1 : w.heap.size + 1 < x1.it.heap.size := x1.lt (by simp))
            exact bodyPost_ret (v := .int .i64 4) (by simp [results, Tryz.results98, go_sem, *]) rfl (⟨rfl, by with_reducible repeat (first | exact Below.refl _ _ | assumption | refine Below.al ?_ _ | refine Below.on ?_ _ | refine Below.st ?_ (by first | assumption | (simp; done) | (simp; omega)) _ | refine Below.drew ?_)⟩)
          have hq : ¬ n < -719162 ∧ ¬ 2932896 < n := by omega
          have t2 : ¬ (ty = 2) := by omega
          have t3 : ¬ (ty = 3) := by omega
          have t4 : (ty = 4) := by omega
          have t5 : ¬ (ty = 5) := by omega
          have q0 : ((-719162 : Int) ≤ n) := by omega
          have q1 : n ≤ 2932896 := by omega
          have PF : permF ty n s = true := by unfold permF; rw [if_neg t2, if_pos t4]; simp; omega
          obtain rfl : 0 = vb := (VS2.trans (by simp [PF])).symm.trans hvb
          clear PF VS2 hvb
          go_enter Tryz.func98, Tryz.ntmps98
          go_wp2_with (go_at_call 97; refine (typed_any _ _).mono ?_; rintro e w1 ⟨rfl, hb1⟩; obtain ⟨x1, rfl⟩ := Ext.of hb1; have z0 : w.heap.size < x1.it.heap.size := x1.lt (by simp; omega); have z1 : w.heap.size + 1 < x1.it.heap.size := x1.lt (by simp))
          exact bodyPost_ret (v := .int .i64 0) (by simp [results, Tryz.results98, go_sem, *]) rfl (⟨rfl, by with_reducible repeat (first | exact Below.refl _ _ | assumption | refine Below.al ?_ _ | refine Below.on ?_ _ | refine Below.st ?_ (by first | assumption | (simp; done) | (simp; omega)) _ | refine Below.drew ?_)⟩)
        by_cases ht5 : ty = 5
        · skip
          by_cases hq : n < -999999999999999999
          · skip
            have t2 : ¬ (ty = 2) := by omega
            have t3 : ¬ (ty = 3) := by omega
            have t4 : ¬ (ty = 4) := by omega
            have t5 : (ty = 5) := by omega
            have q0 : ¬ ((-999999999999999999 : Int) ≤ n) := by omega
            have PF : permF ty n s = false := by unfold permF; rw [if_neg t2, if_neg t4, if_pos t5]; simp; omega
            obtain rfl : 4 = vb := (VS2.trans (by simp [PF])).symm.trans hvb
            clear PF VS2 hvb
            go_enter Tryz.func98, Tryz.ntmps98
            go_wp2_with (go_at_call 97; refine (typed_any _ _).mono ?_; rintro e w1 ⟨rfl, hb1⟩; obtain ⟨x1, rfl⟩ := Ext.of hb1; have z0 : w.heap.size < x1.it.heap.size := x1.lt (by simp; omega); have z1 : w.heap.size + 1 < x1.it.heap.size := x1.lt (by simp))
            exact bodyPost_ret (v := .int .i64 4) (by simp [results, Tryz.results98, go_sem, *]) rfl (⟨rfl, by with_reducible repeat (first | exact Below.refl _ _ | assumption | refine Below.al ?_ _ | refine Below.on ?_ _ | refine Below.st ?_ (by first | assumption | (simp; done) | (simp; omega)) _ | refine Below.drew ?_)⟩)
          by_cases hq : ¬ n < -999999999999999999 ∧ 999999999999999999 < n
          · skip
            have t2 : ¬ (ty = 2) := by omega
            have t3 : ¬ (ty = 3) := by omega
            have t4 : ¬ (ty = 4) := by omega
            have t5 : (ty = 5) := by omega
            have q0 : ((-999999999999999999 : Int) ≤ n) := by omega
            have q1 : ¬ (n ≤ 999999999999999999) := by omega
            have q2 : decide (n ≤ 999999999999999999) = false := decide_eq_false q1
            have PF : permF ty n s = false := by unfold permF; rw [if_neg t2, if_neg t4, if_pos t5]; simp; omega
            obtain rfl : 4 = vb := (VS2.trans (by simp [PF])).symm.trans hvb
            clear PF VS2 hvb
            go_enter Tryz.func98, Tryz.ntmps98
            go_wp2_with (go_at_call 97; refine (typed_any _ _).mono ?_; rintro e w1 ⟨rfl, hb1⟩; obtain ⟨x1, rfl⟩ := Ext.of hb1; have z0 : w.heap.size < x1.it.heap.size := x1.lt (by simp; omega); have z1 : w.heap.size + 1 < x1.it.heap.size := x1.lt (by simp))
            exact bodyPost_ret (v := .int .i64 4) (by simp [results, Tryz.results98, go_sem, *]) rfl (⟨rfl, by with_reducible repeat (first | exact Below.refl _ _ | assumption | refine Below.al ?_ _ | refine Below.on ?_ _ | refine Below.st ?_ (by first | assumption | (simp; done) | (simp; omega)) _ | refine Below.drew ?_)⟩)
          have hq : ¬ n < -999999999999999999 ∧ ¬ 999999999999999999 < n := by omega
          have t2 : ¬ (ty = 2) := by omega
          have t3 : ¬ (ty = 3) := by omega
          have t4 : ¬ (ty = 4) := by omega
          have t5 : (ty = 5) := by omega
          have q0 : ((-999999999999999999 : Int) ≤ n) := by omega
          have q1 : n ≤ 999999999999999999 := by omega
          have PF : permF ty n s = true := by unfold permF; rw [if_neg t2, if_neg t4, if_pos t5]; simp; omega
          obtain rfl : 0 = vb := (VS2.trans (by simp [PF])).symm.trans hvb
          clear PF VS2 hvb
          go_enter Tryz.func98, Tryz.ntmps98
          go_wp2_with (go_at_call 97; refine (typed_any _ _).mono ?_; rintro e w1 ⟨rfl, hb1⟩; obtain ⟨x1, rfl⟩ := Ext.of hb1; have z0 : w.heap.size < x1.it.heap.size := x1.lt (by simp; omega); have z1 : w.heap.size + 1 < x1.it.heap.size := x1.lt (by simp))
          exact bodyPost_ret (v := .int .i64 0) (by simp [results, Tryz.results98, go_sem, *]) rfl (⟨rfl, by with_reducible repeat (first | exact Below.refl _ _ | assumption | refine Below.al ?_ _ | refine Below.on ?_ _ | refine Below.st ?_ (by first | assumption | (simp; done) | (simp; omega)) _ | refine Below.drew ?_)⟩)
        have t2 : ¬ (ty = 2) := by omega
        have t3 : ¬ (ty = 3) := by omega
        have t4 : ¬ (ty = 4) := by omega
        have t5 : ¬ (ty = 5) := by omega
        have PF : permF ty n s = true := by unfold permF; rw [if_neg t2, if_neg t4, if_neg t5, if_neg t3]
        obtain rfl : 0 = vb := (VS2.trans (by simp [PF])).symm.trans hvb
        clear PF VS2 hvb
        go_enter Tryz.func98, Tryz.ntmps98
        go_wp2_with (go_at_call 97; refine (typed_any _ _).mono ?_; rintro e w1 ⟨rfl, hb1⟩; obtain ⟨x1, rfl⟩ := Ext.of hb1; have z0 : w.heap.size < x1.it.heap.size := x1.lt (by simp; omega); have z1 : w.heap.size + 1 < x1.it.heap.size := x1.lt (by simp))
        exact bodyPost_ret (v := .int .i64 0) (by simp [results, Tryz.results98, go_sem, *]) rfl (⟨rfl, by with_reducible repeat (first | exact Below.refl _ _ | assumption | refine Below.al ?_ _ | refine Below.on ?_ _ | refine Below.st ?_ (by first | assumption | (simp; done) | (simp; omega)) _ | refine Below.drew ?_)⟩)
      ·
        obtain rfl : 11 = vb := (VS.trans (by rw [if_neg (by decide), if_pos (Or.inl ⟨h3, hs⟩)])).symm.trans hvb
        have u0 : (ty != 3) = true := by simpa using h3
        have u1 : (ty == 3) = false := by simpa using h3
        have e0 : s.toList.isEmpty = false := by cases hx : s.toList with | nil => exact absurd hx hs | cons _ _ => rfl
        clear VS hvb
        go_enter Tryz.func98, Tryz.ntmps98
        go_wp2_with (go_at_call 97; refine (typed_any _ _).mono ?_; rintro e w1 ⟨rfl, hb1⟩; obtain ⟨x1, rfl⟩ := Ext.of hb1; have z0 : w.heap.size < x1.it.heap.size := x1.lt (by simp; omega); have z1 : w.heap.size + 1 < x1.it.heap.size := x1.lt (by simp))
        exact bodyPost_ret (v := .int .i64 11) (by simp [results, Tryz.results98, go_sem, *]) rfl (⟨rfl, by with_reducible repeat (first | exact Below.refl _ _ | assumption | refine Below.al ?_ _ | refine Below.on ?_ _ | refine Below.st ?_ (by first | assumption | (simp; done) | (simp; omega)) _ | refine Below.drew ?_)⟩)
end Go.Proofs.YtpahoenanfjhpaaGreat
namespace Go.Proofs.YtpahoenanfjhpaaGreat
open Go.RowKit
theorem strF_size : ∀ (k : Nat) (s : ByteArray) (r : List Int), (strF k s r).1.size = s.size + k
  | 0, s, r => rfl
  | k + 1, s, r => by
    show (strF k _ _).1.size = _
    rw [strF_size k, ByteArray.size_append]
    show s.size + 1 + k = s.size + (k + 1)
    omega
theorem tmod_bd (n : Int) {m : Int} (h : 0 < m) : -m < n.tmod m ∧ n.tmod m < m := by
  have h1 := Int.natAbs_tmod n m
  have h2 : n.natAbs % m.natAbs < m.natAbs := Nat.mod_lt _ (by omega)
  omega
theorem i64_and1 (n : Int) : bits .and .i64 n 1 = n % 2 := by
  have h1 : (BitVec.ofInt 64 1).toNat = 2 ^ 1 - 1 := by decide
  have key : (BitVec.ofInt 64 n &&& BitVec.ofInt 64 1).toNat = (n % ((2 ^ 64 : Nat) : Int)).toNat % 2 ^ 1 := by
    rw [BitVec.toNat_and, BitVec.toNat_ofInt, h1, Nat.and_two_pow_sub_one_eq_mod]
  show IntKind.i64.wrap ((BitVec.ofInt 64 n &&& BitVec.ofInt 64 1).toNat : Nat) = n % 2
  rw [key, IntKind.wrap_i64]
  omega
theorem fitN_ok {ty : Int} (n : Int) (h3 : ¬ ty = 3) : permF ty (fitN ty n) ⟨#[]⟩ = true := by
  unfold permF fitN
  by_cases h2 : ty = 2
  · rw [if_pos h2, if_pos h2, i64_and1]
    simp; omega
  · by_cases h4 : ty = 4
    · have := tmod_bd n (m := 700000) (by omega)
      rw [if_neg h2, if_neg h2, if_pos h4, if_pos h4]
      simp; omega
    · by_cases h5 : ty = 5
      · have := tmod_bd n (m := 1000000000000000000) (by omega)
        rw [if_neg h2, if_neg h2, if_neg h4, if_neg h4, if_pos h5, if_pos h5]
        simp; omega
      · simp only [if_neg h2, if_neg h4, if_neg h5, if_neg h3]
theorem valF_ok {ty : Int} (nul : Bool) (r : List Int) (h1 : 1 ≤ ty) (h5 : ty ≤ 5) : vchk ty nul (valF ty nul r).1.null (valF ty nul r).1.n (valF ty nul r).1.s = 0 := by
  have te : (⟨#[]⟩ : ByteArray).toList = [] := by rw [ByteArray.toList_eq]
  unfold valF
  by_cases h0 : (nullF nul r).1 = 0
  · rw [if_pos h0]
    have hn : nul = true := by
      cases nul with
      | true => rfl
      | false => simp [nullF] at h0
    unfold vchk
    rw [if_neg (by omega), if_pos rfl, if_neg (by simp [te]), if_pos hn]
  · rw [if_neg h0]
    by_cases h3 : ty = 3
    · rw [if_pos h3]
      unfold vchk
      rw [if_neg (by omega), if_neg (by simp), if_neg (by simp [h3]), if_pos ?_]
      have hb := nextF_bd (numF (nullF nul r).2).2 (n := 4) (by omega)
      have hs := strF_size (nextF 4 (numF (nullF nul r).2).2).1.toNat ⟨#[]⟩ (nextF 4 (numF (nullF nul r).2).2).2
      have hz : (⟨#[]⟩ : ByteArray).size = 0 := rfl
      unfold permF
      rw [if_neg (by omega), if_neg (by omega), if_neg (by omega), if_pos h3]
      dsimp only
      rw [hs, hz]
      exact decide_eq_true (by omega)
    · rw [if_neg h3]
      unfold vchk
      rw [if_neg (by omega), if_neg (by simp), if_neg (by simp [h3, te]), if_pos (fitN_ok _ h3)]
end Go.Proofs.YtpahoenanfjhpaaGreat
