/-
  VALID RECORDS: batch.valid and the reference's Valid ('validF'). Conditions: schema and records lie in memory as 'ColsAt', 'RecsAt' say.
-/
import Derived.Test.YtgooffpmiilicaaBrw
import Derived.Test.YtgooffpmiilicaaApp
set_option linter.unusedVariables false
set_option linter.unusedSimpArgs false
namespace Go.Proofs.Ytgooffpmiilicaa
open Go.RowKit
def badR (cs : List Col) (r : Rc) : Bool := decide (r.seq < 0) || decide (1099511627776 < r.seq) || (rowE cs r.row != 0)
def validF (cs : List Col) (key : Int) (rs : List Rc) : Bool := (schemaF cs key == 0) && !(rs.any (badR cs))
def idxF (p : Rc → Bool) : Int → List Rc → Int
  | _, [] => -1
  | i, r :: rs => if p r = true then i else idxF p (i + 1) rs
theorem idxF_ge (p : Rc → Bool) : ∀ (rs : List Rc) (i : Int), 0 ≤ i → decide (0 ≤ idxF p i rs) = rs.any p
  | [], i, h => rfl
  | r :: rs, i, h => by
    unfold idxF
    rw [List.any_cons]
    by_cases q : p r = true
    · rw [if_pos q, q, Bool.true_or]; exact decide_eq_true h
    · rw [if_neg q, idxF_ge p rs (i + 1) (by omega), Bool.eq_false_iff.2 q, Bool.false_or]
set_option maxRecDepth 8000 in
set_option maxHeartbeats 1000000 in
theorem valid1_any (sb : Nat) (cv : Value) (cs : List Col) (key sq : Int) (lv : Value) (row : List Val) (w : World) (hc : ColsAt w w.heap.size cv cs) (hr : ValsAt w w.heap.size lv row) (hs : sb < w.heap.size) (h0 : w.cell? ⟨sb, 0, none⟩ = some cv) (h1 : w.cell? ⟨sb, 1, none⟩ = some (.int .i64 key)) :
    Calls Try.prog 64 #[.agg #[.int .i64 sq, lv], .pointer (some ⟨sb, 0, none⟩)] w fun e w' => e = .returned (.bool (badR cs ⟨sq, row⟩)) ∧ Below w.heap.size w w' := by
  obtain ⟨E, hE⟩ : ∃ E, rowE cs row = E := ⟨_, rfl⟩
  have RW := Lib.hid (fun (W : World) (hb : Below w.heap.size w W) => (by have q := brow_any cv cs key lv row W (hc.mono hb hb.size) (hr.mono hb hb.size); rw [hE] at q; exact q : Calls Try.prog 65 #[.agg #[cv, .int .i64 key], lv] W fun e w' => e = .returned (.int .i64 E) ∧ Below W.heap.size W w'))
  obtain ⟨ca, cc, rfl⟩ := cols_end hc
  obtain ⟨la, lc, rfl⟩ := vals_end hr
  have BR : badR cs ⟨sq, row⟩ = (decide (sq < 0) || decide (1099511627776 < sq) || (E != 0)) := by unfold badR; rw [hE]
  rw [BR]
  clear BR hE hc hr
  generalize cs.length = n at *
  generalize row.length = m at *
  have n0 : sb ≠ w.heap.size := by omega
  by_cases s0 : sq < 0
  · have t0 : decide (sq < 0) = true := by simpa using s0
    rw [t0, Bool.true_or, Bool.true_or]
    go_enter Try.func64, Try.ntmps64
    go_wp2_with (go_at_call 65; refine Calls.mono (RW.out _ (by repeat (first | with_reducible exact Below.refl _ _ | with_reducible assumption | with_reducible refine Below.al ?_ _ | with_reducible refine Below.on ?_ _ | with_reducible refine Below.st ?_ (by first | assumption | (simp; done) | (simp; omega)) _ | with_reducible refine Below.drew ?_))) ?_; rintro e w1 ⟨rfl, hb1⟩; obtain ⟨x1, rfl⟩ := Ext.of hb1)
    go_ret
    exact ⟨rfl, by repeat (first | with_reducible exact Below.refl _ _ | with_reducible assumption | with_reducible refine Below.al ?_ _ | with_reducible refine Below.on ?_ _ | with_reducible refine Below.st ?_ (by first | assumption | (simp; done) | (simp; omega)) _ | with_reducible refine Below.drew ?_)⟩
  · have t0 : decide (sq < 0) = false := by simpa using s0
    rw [t0, Bool.false_or]
    by_cases s1 : 1099511627776 < sq
    · have t1 : decide (1099511627776 < sq) = true := by simpa using s1
      rw [t1, Bool.true_or]
      go_enter Try.func64, Try.ntmps64
      go_wp2_with (go_at_call 65; refine Calls.mono (RW.out _ (by repeat (first | with_reducible exact Below.refl _ _ | with_reducible assumption | with_reducible refine Below.al ?_ _ | with_reducible refine Below.on ?_ _ | with_reducible refine Below.st ?_ (by first | assumption | (simp; done) | (simp; omega)) _ | with_reducible refine Below.drew ?_))) ?_; rintro e w1 ⟨rfl, hb1⟩; obtain ⟨x1, rfl⟩ := Ext.of hb1)
      go_ret
      exact ⟨rfl, by repeat (first | with_reducible exact Below.refl _ _ | with_reducible assumption | with_reducible refine Below.al ?_ _ | with_reducible refine Below.on ?_ _ | with_reducible refine Below.st ?_ (by first | assumption | (simp; done) | (simp; omega)) _ | with_reducible refine Below.drew ?_)⟩
    · have t1 : decide (1099511627776 < sq) = false := by simpa using s1
      rw [t1, Bool.false_or]
      go_enter Try.func64, Try.ntmps64
      go_wp2_with (go_at_call 65; refine Calls.mono (RW.out _ (by repeat (first | with_reducible exact Below.refl _ _ | with_reducible assumption | with_reducible refine Below.al ?_ _ | with_reducible refine Below.on ?_ _ | with_reducible refine Below.st ?_ (by first | assumption | (simp; done) | (simp; omega)) _ | with_reducible refine Below.drew ?_))) ?_; rintro e w1 ⟨rfl, hb1⟩; obtain ⟨x1, rfl⟩ := Ext.of hb1)
      go_ret
      exact ⟨rfl, by repeat (first | with_reducible exact Below.refl _ _ | with_reducible assumption | with_reducible refine Below.al ?_ _ | with_reducible refine Below.on ?_ _ | with_reducible refine Below.st ?_ (by first | assumption | (simp; done) | (simp; omega)) _ | with_reducible refine Below.drew ?_)⟩
set_option maxRecDepth 8000 in
set_option maxHeartbeats 1000000 in
theorem rindex_any (cb : Value) (p : Rc → Bool) (v : Value) (rs : List Rc) (w : World) (h : RecsAt w w.heap.size v rs)
    (H : ∀ W, Below w.heap.size w W → ∀ (sq : Int) (lv : Value) (row : List Val), ValsAt W W.heap.size lv row → Calls Try.prog 64 #[.agg #[.int .i64 sq, lv], cb] W fun e w' => e = .returned (.bool (p ⟨sq, row⟩)) ∧ Below W.heap.size W w') :
    Calls Try.prog 72 #[v, .func (.func 64) #[] #[cb]] w fun e w' => e = .returned (.int .i64 (idxF p 0 rs)) ∧ Below w.heap.size w w' := by
  have HC := Lib.hid h
  have HH := Lib.hid H
  have h63 := h.1
  obtain ⟨a, c, rfl⟩ := recs_end h
  clear h H
  generalize hl : rs.length = n at *
  have HL := Lib.hid hl
  clear hl
  go_enter Try.func72, Try.ntmps72
  go_wp2_with fail
  go_loopg [8] n (fun g s wr => ∃ k : Nat, k + g = n ∧ s = .int .i64 (k : Int) ∧ idxF p 0 rs = idxF p k (rs.drop k) ∧ ∃ x : Ext w, x.it = wr)
  case atStart => exact ⟨0, by omega, rfl, by simp, ⟨w, Below.refl _ _⟩, rfl⟩
  case round =>
    obtain ⟨k, hk, rfl, hF, x, rfl⟩ := hrel
    have hx := x.below
    by_cases hg0 : gk = 0
    · subst hg0
      obtain rfl : k = n := by omega
      have FF := Lib.hid (show idxF p 0 rs = -1 by rw [hF, List.drop_of_length_le (by rw [HL.out]; exact Nat.le_refl _)]; rfl)
      clear hF hk
      go_wp2
      exact bodyPost_ret (v := .int .i64 (-1)) (by simp [results, Try.results72, go_sem, *]) rfl (⟨by rw [FF.out], by repeat (first | with_reducible exact Below.refl _ _ | with_reducible assumption | with_reducible refine Below.al ?_ _ | with_reducible refine Below.on ?_ _ | with_reducible refine Below.st ?_ (by first | assumption | (simp; done) | (simp; omega)) _ | with_reducible refine Below.drew ?_)⟩)
    · have hkn : k < n := by omega
      have hkn' : (k : Int) < n := by omega
      have hkl : k < rs.length := by rw [HL.out]; exact hkn
      obtain ⟨b, o, rfl, hcap, hb, c0, lv, c1', c2⟩ := recs_in HC.out hkl
      rw [List.drop_eq_getElem_cons hkl] at hF
      obtain ⟨d, hd⟩ : ∃ d, rs[k]'hkl = d := ⟨_, rfl⟩
      rw [hd] at hF c0 c2
      obtain ⟨sq, row⟩ := d
      dsimp only at c0 c2
      have f0 := (x.cell b (o + k * 2) hb).trans c0
      have f1 := (x.cell b (o + k * 2 + 1) hb).trans c1'
      have zb : b < x.it.heap.size := x.lt hb
      have HV := Lib.hid (c2.mono hx hx.size)
      obtain ⟨la, lc, rfl⟩ := vals_end c2
      obtain ⟨B, hB⟩ : ∃ B, p ⟨sq, row⟩ = B := ⟨_, rfl⟩
      have CX := Lib.hid (by have q := HH.out x.it hx sq _ row HV.out; rw [hB] at q; exact q : Calls Try.prog 64 #[.agg #[.int .i64 sq, .slice la row.length lc], cb] x.it fun e w' => e = .returned (.bool B) ∧ Below x.it.heap.size x.it w')
      have HK := Lib.hid hk
      generalize row.length = m at *
      clear c0 c1' c2 hcap hd hk hg0
      cases B with
      | true =>
        have FF := Lib.hid (show idxF p 0 rs = k by rw [hF]; show (if p ⟨sq, row⟩ = true then _ else _) = _; rw [if_pos hB])
        clear hF hB
        go_wp2_with (go_at_call 64; refine Calls.mono CX.out ?_; rintro e w1 ⟨rfl, hb1⟩; obtain ⟨x1, rfl⟩ := Ext.of hb1)
        exact bodyPost_ret (v := .int .i64 k) (by simp [results, Try.results72, go_sem, *]) rfl (⟨by rw [FF.out], by repeat (first | with_reducible exact Below.refl _ _ | with_reducible assumption | with_reducible refine Below.al ?_ _ | with_reducible refine Below.on ?_ _ | with_reducible refine Below.st ?_ (by first | assumption | (simp; done) | (simp; omega)) _ | with_reducible refine Below.drew ?_)⟩)
      | false =>
        have FF := Lib.hid (show idxF p 0 rs = idxF p ((k + 1 : Nat) : Int) (rs.drop (k + 1)) by rw [hF]; show (if p ⟨sq, row⟩ = true then _ else _) = _; rw [if_neg (by rw [hB]; decide)]; rfl)
        clear hF hB
        go_wp2_with (go_at_call 64; refine Calls.mono CX.out ?_; rintro e w1 ⟨rfl, hb1⟩; obtain ⟨x1, rfl⟩ := Ext.of hb1)
        go_roundg (gk - 1)
        case measure => have := HK.out; omega
        case rel => exact ⟨k + 1, by have := HK.out; omega, by go_num, FF.out, ext_of (by repeat (first | with_reducible exact Below.refl _ _ | with_reducible assumption | with_reducible refine Below.al ?_ _ | with_reducible refine Below.on ?_ _ | with_reducible refine Below.st ?_ (by first | assumption | (simp; done) | (simp; omega)) _ | with_reducible refine Below.drew ?_))⟩
set_option maxRecDepth 8000 in
set_option maxHeartbeats 1000000 in
theorem contains_any (cb : Value) (p : Rc → Bool) (v : Value) (rs : List Rc) (w : World) (h : RecsAt w w.heap.size v rs)
    (H : ∀ W, Below w.heap.size w W → ∀ (sq : Int) (lv : Value) (row : List Val), ValsAt W W.heap.size lv row → Calls Try.prog 64 #[.agg #[.int .i64 sq, lv], cb] W fun e w' => e = .returned (.bool (p ⟨sq, row⟩)) ∧ Below W.heap.size W w') :
    Calls Try.prog 63 #[v, .func (.func 64) #[] #[cb]] w fun e w' => e = .returned (.bool (rs.any p)) ∧ Below w.heap.size w w' := by
  have GE := idxF_ge p rs 0 (Int.le_refl _)
  obtain ⟨R, hR⟩ : ∃ R, idxF p 0 rs = R := ⟨_, rfl⟩
  have IXH := Lib.hid (by have q := rindex_any cb p v rs w h H; rw [hR] at q; exact q : Calls Try.prog 72 #[v, .func (.func 64) #[] #[cb]] w fun e w' => e = .returned (.int .i64 R) ∧ Below w.heap.size w w')
  obtain ⟨a, c, rfl⟩ := recs_end h
  rw [hR] at GE
  rw [← GE]
  clear GE hR h H
  generalize rs.length = n at *
  go_enter Try.func63, Try.ntmps63
  go_wp2_with (go_at_call 72; refine Calls.mono IXH.out ?_; rintro e w1 ⟨rfl, hb1⟩; obtain ⟨x1, rfl⟩ := Ext.of hb1)
  go_ret
  exact ⟨rfl, by repeat (first | with_reducible exact Below.refl _ _ | with_reducible assumption | with_reducible refine Below.al ?_ _ | with_reducible refine Below.on ?_ _ | with_reducible refine Below.st ?_ (by first | assumption | (simp; done) | (simp; omega)) _ | with_reducible refine Below.drew ?_)⟩
set_option maxRecDepth 8000 in
set_option maxHeartbeats 1000000 in
theorem valid_any (cv : Value) (cs : List Col) (key : Int) (v : Value) (rs : List Rc) (w : World) (hc : ColsAt w w.heap.size cv cs) (h : RecsAt w w.heap.size v rs) :
    Calls Try.prog 49 #[.agg #[cv, .int .i64 key], v] w fun e w' => e = .returned (.bool (validF cs key rs)) ∧ Below w.heap.size w w' := by
  obtain ⟨S, hS⟩ : ∃ S, schemaF cs key = S := ⟨_, rfl⟩
  obtain ⟨B, hB⟩ : ∃ B, rs.any (badR cs) = B := ⟨_, rfl⟩
  have VF : validF cs key rs = ((S == 0) && !B) := by unfold validF; rw [hS, hB]
  rw [VF]
  have SC := Lib.hid (fun (W : World) (hb : Below w.heap.size w W) => (by have q := schema_any cv cs key W (hc.mono hb hb.size); rw [hS] at q; exact q : Calls Try.prog 29 #[.agg #[cv, .int .i64 key]] W fun e w' => e = .returned (.int .i64 S) ∧ Below W.heap.size W w'))
  have CO := Lib.hid (fun (W : World) (hb : Below w.heap.size w W) (sb : Nat) (hs : sb < W.heap.size) (h0 : W.cell? ⟨sb, 0, none⟩ = some cv) (h1 : W.cell? ⟨sb, 1, none⟩ = some (.int .i64 key)) => (by
    have q := contains_any (.pointer (some ⟨sb, 0, none⟩)) (badR cs) v rs W (h.mono hb hb.size) (fun W2 hb2 sq lv row hv => valid1_any sb cv cs key sq lv row W2 (hc.mono (Below.to hb hb2) (Below.to hb hb2).size) hv (Nat.lt_of_lt_of_le hs hb2.size) ((hb2.cell (p := ⟨sb, 0, none⟩) hs).trans h0) ((hb2.cell (p := ⟨sb, 1, none⟩) hs).trans h1))
    rw [hB] at q; exact q : Calls Try.prog 63 #[v, .func (.func 64) #[] #[.pointer (some ⟨sb, 0, none⟩)]] W fun e w' => e = .returned (.bool B) ∧ Below W.heap.size W w'))
  obtain ⟨ca, cc, rfl⟩ := cols_end hc
  obtain ⟨ra, rc, rfl⟩ := recs_end h
  clear VF hS hB hc h
  generalize cs.length = n at *
  generalize rs.length = m at *
  by_cases s0 : S = 0
  · have t0 : (S == 0) = true := by simpa using s0
    rw [t0, Bool.true_and]
    clear t0
    subst s0
    go_enter Try.func49, Try.ntmps49
    go_wp2_with (first | (go_at_call 29; refine Calls.mono (SC.out _ (by repeat (first | with_reducible exact Below.refl _ _ | with_reducible assumption | with_reducible refine Below.al ?_ _ | with_reducible refine Below.on ?_ _ | with_reducible refine Below.st ?_ (by first | assumption | (simp; done) | (simp; omega)) _ | with_reducible refine Below.drew ?_))) ?_; rintro e w1 ⟨rfl, hb1⟩; obtain ⟨x1, rfl⟩ := Ext.of hb1; have z1 : w.heap.size < x1.it.heap.size := x1.lt (by simp); have q0 := (x1.cell w.heap.size 0 (by simp)).trans (by simp [go_sem] : _ = some (.slice ca n cc)); have q1 := (x1.cell w.heap.size 1 (by simp)).trans (by simp [go_sem] : _ = some (.int .i64 key)); have bb1 : Below w.heap.size w x1.it := (by repeat (first | with_reducible exact Below.refl _ _ | with_reducible assumption | with_reducible refine Below.al ?_ _ | with_reducible refine Below.on ?_ _ | with_reducible refine Below.st ?_ (by first | assumption | (simp; done) | (simp; omega)) _ | with_reducible refine Below.drew ?_))) | (go_at_call 63; refine Calls.mono (CO.out _ bb1 w.heap.size z1 q0 q1) ?_; rintro e w2 ⟨rfl, hb2⟩; obtain ⟨x2, rfl⟩ := Ext.of hb2))
    go_ret
    exact ⟨rfl, by repeat (first | with_reducible exact Below.refl _ _ | with_reducible assumption | with_reducible refine Below.al ?_ _ | with_reducible refine Below.on ?_ _ | with_reducible refine Below.st ?_ (by first | assumption | (simp; done) | (simp; omega)) _ | with_reducible refine Below.drew ?_)⟩
  · have t0 : (S == 0) = false := by simpa using s0
    rw [t0, Bool.false_and]
    go_enter Try.func49, Try.ntmps49
    go_wp2_with (go_at_call 29; refine Calls.mono (SC.out _ (by repeat (first | with_reducible exact Below.refl _ _ | with_reducible assumption | with_reducible refine Below.al ?_ _ | with_reducible refine Below.on ?_ _ | with_reducible refine Below.st ?_ (by first | assumption | (simp; done) | (simp; omega)) _ | with_reducible refine Below.drew ?_))) ?_; rintro e w1 ⟨rfl, hb1⟩; obtain ⟨x1, rfl⟩ := Ext.of hb1)
    go_ret
    exact ⟨rfl, by repeat (first | with_reducible exact Below.refl _ _ | with_reducible assumption | with_reducible refine Below.al ?_ _ | with_reducible refine Below.on ?_ _ | with_reducible refine Below.st ?_ (by first | assumption | (simp; done) | (simp; omega)) _ | with_reducible refine Below.drew ?_)⟩
set_option maxRecDepth 8000 in
set_option maxHeartbeats 2000000 in
theorem refValid_any (cv : Value) (cs : List Col) (key : Int) (v : Value) (rs : List Rc) (w : World) (hc : ColsAt w w.heap.size cv cs) (h : RecsAt w w.heap.size v rs) :
    Calls Try.prog 44 #[.agg #[cv, .int .i64 key], v] w fun e w' => e = .returned (.bool (validF cs key rs)) ∧ Below w.heap.size w w' := by
  obtain ⟨S, hS⟩ : ∃ S, schemaF cs key = S := ⟨_, rfl⟩
  obtain ⟨B, hB⟩ : ∃ B, rs.any (badR cs) = B := ⟨_, rfl⟩
  have VF : validF cs key rs = ((S == 0) && !B) := by unfold validF; rw [hS, hB]
  rw [VF]
  have SC := Lib.hid (fun (W : World) (hb : Below w.heap.size w W) => (by have q := refSchema_any cv cs key W (hc.mono hb hb.size); rw [hS] at q; exact q : Calls Try.prog 54 #[.agg #[cv, .int .i64 key]] W fun e w' => e = .returned (.int .i64 S) ∧ Below W.heap.size W w'))
  obtain ⟨ca, cc, rfl⟩ := cols_end hc
  obtain ⟨ra, rc, rfl⟩ := recs_end h
  obtain ⟨nc, hnc⟩ : ∃ nc, cs.length = nc := ⟨_, rfl⟩
  rw [hnc] at hc SC ⊢
  obtain ⟨m, hm⟩ : ∃ m, rs.length = m := ⟨_, rfl⟩
  have h63 := h.1
  rw [hm] at h h63 ⊢
  have HC := Lib.hid hc
  have HR := Lib.hid h
  have HM := Lib.hid hm
  have HB := Lib.hid hB
  clear VF hS hB hc h hm hnc
  by_cases s0 : S = 0
  · have t0 : (S == 0) = true := by simpa using s0
    rw [t0, Bool.true_and]
    clear t0
    subst s0
    go_enter Try.func44, Try.ntmps44
    go_upto_region 4 with (go_at_call 54; refine Calls.mono (SC.out _ (by repeat (first | with_reducible exact Below.refl _ _ | with_reducible assumption | with_reducible refine Below.al ?_ _ | with_reducible refine Below.on ?_ _ | with_reducible refine Below.st ?_ (by first | assumption | (simp; done) | (simp; omega)) _ | with_reducible refine Below.drew ?_))) ?_; rintro e w1 ⟨rfl, hb1⟩; obtain ⟨x1, rfl⟩ := Ext.of hb1; have z0 : w.heap.size < x1.it.heap.size := x1.lt (by (first | assumption | (simp; done) | (simp; omega))))
    refine captureP ?_
    intro y ey
    have yb : Below w.heap.size w y.it := by rw [ey]; exact (by repeat (first | with_reducible exact Below.refl _ _ | with_reducible assumption | with_reducible refine Below.al ?_ _ | with_reducible refine Below.on ?_ _ | with_reducible refine Below.st ?_ (by first | assumption | (simp; done) | (simp; omega)) _ | with_reducible refine Below.drew ?_))
    have y0 : y.it.cell? ⟨w.heap.size, 0, none⟩ = some (.slice ca nc cc) := by rw [ey]; simp (maxDischargeDepth := 9) [go_sem, *]
    have y1 : y.it.cell? ⟨w.heap.size, 1, none⟩ = some (.int .i64 key) := by rw [ey]; simp (maxDischargeDepth := 9) [go_sem, *]
    have yz : w.heap.size < y.it.heap.size := by rw [ey]; (first | with_reducible assumption | (simp only [World.size_setCell, World.size_alloc, World.size_drew]; first | with_reducible assumption | omega))
    clear ey
    go_wp2_with fail
    go_loopg [12] m (fun g st wr => ∃ k : Nat, k + g = m ∧ st = .int .i64 (k : Int) ∧ (rs.drop k).any (badR cs) = B ∧ ∃ x : Ext y.it, x.it = wr)
    case atStart => exact ⟨0, by omega, rfl, by simpa using HB.out, ext_of (Below.refl _ _)⟩
    case round =>
      obtain ⟨k, hk, rfl, hF, x, rfl⟩ := hrel
      have hx := Below.on yb x
      have s0 := (x.cell w.heap.size 0 yz).trans y0
      have s1 := (x.cell w.heap.size 1 yz).trans y1
      have zw := x.lt yz
      by_cases hg0 : gk = 0
      · subst hg0
        obtain rfl : k = m := by omega
        obtain rfl : false = B := by rw [← hF, List.drop_of_length_le (by rw [HM.out]; exact Nat.le_refl _)]; rfl
        clear hF hk
        go_wp2
        exact bodyPost_ret (v := .bool true) (by simp [results, Try.results44, go_sem, *]) rfl (⟨rfl, by repeat (first | with_reducible exact Below.refl _ _ | with_reducible assumption | with_reducible refine Below.al ?_ _ | with_reducible refine Below.on ?_ _ | with_reducible refine Below.st ?_ (by first | assumption | (simp; done) | (simp; omega)) _ | with_reducible refine Below.drew ?_)⟩)
      · have hkm : k < m := by omega
        have hkm' : (k : Int) < (m : Int) := by omega
        have hkr : k < rs.length := by rw [HM.out]; exact hkm
        obtain ⟨rb, ro, rfl, _, hrb, c0, lv, c1, hlv⟩ := recs_in HR.out hkr
        obtain ⟨d, hd⟩ : ∃ d, rs[k]'hkr = d := ⟨_, rfl⟩
        rw [List.drop_eq_getElem_cons hkr, List.any_cons] at hF
        rw [hd] at c0 hlv hF
        obtain ⟨sq, row⟩ := d
        dsimp only at c0 hlv
        have f0 := (hx.cell (p := ⟨rb, ro + k * 2, none⟩) hrb).trans c0
        have f1 := (hx.cell (p := ⟨rb, ro + k * 2 + 1, none⟩) hrb).trans c1
        have zr : rb < x.it.heap.size := Nat.lt_of_lt_of_le hrb hx.size
        obtain ⟨E, hE⟩ : ∃ E, rowE cs row = E := ⟨_, rfl⟩
        have BR : badR cs ⟨sq, row⟩ = (decide (sq < 0) || decide (1099511627776 < sq) || (E != 0)) := by unfold badR; rw [hE]
        rw [BR] at hF
        have RW := Lib.hid (fun (W : World) (hb : Below w.heap.size w W) => (by have q := checkRow_any _ cs key lv row W (HC.out.mono hb hb.size) (hlv.mono hb hb.size); rw [hE] at q; exact q : Calls Try.prog 59 #[.agg #[.slice ca nc cc, .int .i64 key], lv] W fun e w' => e = .returned (.int .i64 E) ∧ Below W.heap.size W w'))
        obtain ⟨la, lc, rfl⟩ := vals_end hlv
        have HK := Lib.hid (And.intro hk hg0)
        have HF := Lib.hid hF
        clear c0 c1 hk hg0 hF hE BR hlv hd
        generalize row.length = rl at *
        by_cases s2 : sq < 0
        · obtain rfl : true = B := by rw [← HF.out]; simp [s2]
          go_wp2_with (go_at_call 59; refine Calls.mono (RW.out _ (by repeat (first | with_reducible exact Below.refl _ _ | with_reducible assumption | with_reducible refine Below.al ?_ _ | with_reducible refine Below.on ?_ _ | with_reducible refine Below.st ?_ (by first | assumption | (simp; done) | (simp; omega)) _ | with_reducible refine Below.drew ?_))) ?_; rintro e w5 ⟨rfl, hb5⟩; obtain ⟨x5, rfl⟩ := Ext.of hb5)
          exact bodyPost_ret (v := .bool false) (by simp [results, Try.results44, go_sem, *]) rfl (⟨rfl, by repeat (first | with_reducible exact Below.refl _ _ | with_reducible assumption | with_reducible refine Below.al ?_ _ | with_reducible refine Below.on ?_ _ | with_reducible refine Below.st ?_ (by first | assumption | (simp; done) | (simp; omega)) _ | with_reducible refine Below.drew ?_)⟩)
        by_cases s3 : 1099511627776 < sq
        · obtain rfl : true = B := by rw [← HF.out]; simp [s3]
          go_wp2_with (go_at_call 59; refine Calls.mono (RW.out _ (by repeat (first | with_reducible exact Below.refl _ _ | with_reducible assumption | with_reducible refine Below.al ?_ _ | with_reducible refine Below.on ?_ _ | with_reducible refine Below.st ?_ (by first | assumption | (simp; done) | (simp; omega)) _ | with_reducible refine Below.drew ?_))) ?_; rintro e w5 ⟨rfl, hb5⟩; obtain ⟨x5, rfl⟩ := Ext.of hb5)
          exact bodyPost_ret (v := .bool false) (by simp [results, Try.results44, go_sem, *]) rfl (⟨rfl, by repeat (first | with_reducible exact Below.refl _ _ | with_reducible assumption | with_reducible refine Below.al ?_ _ | with_reducible refine Below.on ?_ _ | with_reducible refine Below.st ?_ (by first | assumption | (simp; done) | (simp; omega)) _ | with_reducible refine Below.drew ?_)⟩)
        by_cases s4 : E = 0
        · have v0' : (E != 0) = false := by simpa using s4
          have HF2 := Lib.hid (show (rs.drop (k + 1)).any (badR cs) = B by rw [← HF.out, decide_eq_false s2, decide_eq_false s3, v0']; rfl)
          go_wp2_with (go_at_call 59; refine Calls.mono (RW.out _ (by repeat (first | with_reducible exact Below.refl _ _ | with_reducible assumption | with_reducible refine Below.al ?_ _ | with_reducible refine Below.on ?_ _ | with_reducible refine Below.st ?_ (by first | assumption | (simp; done) | (simp; omega)) _ | with_reducible refine Below.drew ?_))) ?_; rintro e w5 ⟨rfl, hb5⟩; obtain ⟨x5, rfl⟩ := Ext.of hb5)
          go_roundg (gk - 1)
          case measure => have := HK.out; omega
          case rel => exact ⟨k + 1, by have := HK.out; omega, by go_num, HF2.out, ext_of (Below.on (Below.al x.below _) x5)⟩
        · have v0' : (E != 0) = true := by simpa using s4
          obtain rfl : true = B := by rw [← HF.out, v0']; simp
          go_wp2_with (go_at_call 59; refine Calls.mono (RW.out _ (by repeat (first | with_reducible exact Below.refl _ _ | with_reducible assumption | with_reducible refine Below.al ?_ _ | with_reducible refine Below.on ?_ _ | with_reducible refine Below.st ?_ (by first | assumption | (simp; done) | (simp; omega)) _ | with_reducible refine Below.drew ?_))) ?_; rintro e w5 ⟨rfl, hb5⟩; obtain ⟨x5, rfl⟩ := Ext.of hb5)
          exact bodyPost_ret (v := .bool false) (by simp [results, Try.results44, go_sem, *]) rfl (⟨rfl, by repeat (first | with_reducible exact Below.refl _ _ | with_reducible assumption | with_reducible refine Below.al ?_ _ | with_reducible refine Below.on ?_ _ | with_reducible refine Below.st ?_ (by first | assumption | (simp; done) | (simp; omega)) _ | with_reducible refine Below.drew ?_)⟩)
  · have t0 : (S == 0) = false := by simpa using s0
    have t1 : (S != 0) = true := by simpa using s0
    rw [t0, Bool.false_and]
    go_enter Try.func44, Try.ntmps44
    go_wp2_with (go_at_call 54; refine Calls.mono (SC.out _ (by repeat (first | with_reducible exact Below.refl _ _ | with_reducible assumption | with_reducible refine Below.al ?_ _ | with_reducible refine Below.on ?_ _ | with_reducible refine Below.st ?_ (by first | assumption | (simp; done) | (simp; omega)) _ | with_reducible refine Below.drew ?_))) ?_; rintro e w1 ⟨rfl, hb1⟩; obtain ⟨x1, rfl⟩ := Ext.of hb1; have z0 : w.heap.size < x1.it.heap.size := x1.lt (by (first | assumption | (simp; done) | (simp; omega))))
    exact bodyPost_ret (v := .bool false) (by simp [results, Try.results44, go_sem, *]) rfl (⟨rfl, by repeat (first | with_reducible exact Below.refl _ _ | with_reducible assumption | with_reducible refine Below.al ?_ _ | with_reducible refine Below.on ?_ _ | with_reducible refine Below.st ?_ (by first | assumption | (simp; done) | (simp; omega)) _ | with_reducible refine Below.drew ?_)⟩)
end Go.Proofs.Ytgooffpmiilicaa
