/-
  CHAPTER 26: Pck, Prr, Pcr (several texts in one). Conditions: each theorem states its own.
-/
import Derived.Test.YtpahoenanfjhpaaGreatPrdz
import Derived.Test.YtpahoenanfjhpaaGreatSc2z
set_option linter.unusedVariables false
set_option linter.unusedSimpArgs false
namespace Go.Proofs.YtpahoenanfjhpaaGreat
open Go.RowKit
def NodCells (w : World) (B b o : Nat) (d : Nod) : Prop := ∃ lv, w.cell? ⟨b, o, none⟩ = some (.int .i64 d.op) ∧ w.cell? ⟨b, o + 1, none⟩ = some (.int .i64 d.col) ∧ w.cell? ⟨b, o + 2, none⟩ = some (.bool d.v.null) ∧ w.cell? ⟨b, o + 3, none⟩ = some (.int .i64 d.v.n) ∧ w.cell? ⟨b, o + 4, none⟩ = some (.string d.v.s) ∧
  w.cell? ⟨b, o + 5, none⟩ = some lv ∧ w.cell? ⟨b, o + 6, none⟩ = some (.int .i64 d.a) ∧ w.cell? ⟨b, o + 7, none⟩ = some (.int .i64 d.b) ∧ ValsAt w B lv d.ls
def NodsAt (w : World) (B : Nat) (v : Value) (cs : List Nod) : Prop :=
  cs.length ≤ 9223372036854775807 ∧
    ((cs = [] ∧ ∃ a c, v = .slice a 0 c) ∨ ∃ b o c, v = .slice (some ⟨b, o, none⟩) cs.length c ∧ cs.length ≤ c ∧ b < B ∧ ∀ j (h : j < cs.length), NodCells w B b (o + j * 8) (cs[j]'h))
theorem nods_end {w : World} {B : Nat} {v : Value} {cs : List Nod} (h : NodsAt w B v cs) : ∃ a c, v = .slice a cs.length c := by
  rcases h.2 with ⟨e, a, c, rfl⟩ | ⟨b, o, c, rfl, _⟩
  · exact ⟨a, c, by rw [e]; rfl⟩
  · exact ⟨_, c, rfl⟩
theorem nods_in {w : World} {B : Nat} {a : Option Addr} {n c : Nat} {cs : List Nod} (h : NodsAt w B (.slice a n c) cs) {i : Nat} (hi : i < cs.length) : ∃ b o, a = some ⟨b, o, none⟩ ∧ cs.length ≤ c ∧ b < B ∧ NodCells w B b (o + i * 8) (cs[i]'hi) := by
  rcases h.2 with ⟨e, _⟩ | ⟨b, o, c, hv, hcap, hb, hc⟩
  · subst e; exact absurd hi (by simp)
  · injection hv with h1 h2 h3
    subst h3
    exact ⟨b, o, h1, hcap, hb, hc i hi⟩
theorem NodCells.mono {w w' : World} {B B' b o : Nat} {d : Nod} (h : NodCells w B b o d) (hb : Below B w w') (hB : B ≤ B') (hlt : b < B) : NodCells w' B' b o d := by
  obtain ⟨lv, h0, h1, h2, h3, h4, h5, h6, h7, hv⟩ := h
  exact ⟨lv, (hb.cell (p := ⟨b, o, none⟩) hlt).trans h0, (hb.cell (p := ⟨b, o + 1, none⟩) hlt).trans h1, (hb.cell (p := ⟨b, o + 2, none⟩) hlt).trans h2, (hb.cell (p := ⟨b, o + 3, none⟩) hlt).trans h3, (hb.cell (p := ⟨b, o + 4, none⟩) hlt).trans h4,
    (hb.cell (p := ⟨b, o + 5, none⟩) hlt).trans h5, (hb.cell (p := ⟨b, o + 6, none⟩) hlt).trans h6, (hb.cell (p := ⟨b, o + 7, none⟩) hlt).trans h7, hv.mono hb hB⟩
theorem NodsAt.mono {w w' : World} {B B' : Nat} {v : Value} {cs : List Nod} (h : NodsAt w B v cs) (hb : Below B w w') (hB : B ≤ B') : NodsAt w' B' v cs := by
  refine ⟨h.1, h.2.imp id ?_⟩
  rintro ⟨b, o, c, hv, hcap, hlt, hc⟩
  exact ⟨b, o, c, hv, hcap, Nat.lt_of_lt_of_le hlt hB, fun j hj => (hc j hj).mono hb hB hlt⟩
def nodsE (cs : List Col) (i : Int) : List Nod → Int
  | [] => 0
  | d :: r => if nodE cs i d = 0 then nodsE cs (i + 1) r else nodE cs i d
def predF (cs : List Col) (key : Int) (ns : List Nod) : Int := if schemaF cs key = 0 then (if 64 < ns.length then 7 else nodsE cs 0 ns) else schemaF cs key
theorem nodsE_ok {cs : List Col} {ns : List Nod} {k : Nat} (h : k < ns.length) (h0 : nodE cs (k : Int) (ns[k]'h) = 0) : nodsE cs (k : Int) (ns.drop k) = nodsE cs ((k + 1 : Nat) : Int) (ns.drop (k + 1)) := by
  rw [List.drop_eq_getElem_cons h]
  simp only [nodsE]
  rw [if_pos h0]; rfl
theorem nodsE_bad {cs : List Col} {ns : List Nod} {k : Nat} (h : k < ns.length) (h0 : ¬ nodE cs (k : Int) (ns[k]'h) = 0) : nodsE cs (k : Int) (ns.drop k) = nodE cs (k : Int) (ns[k]'h) := by
  rw [List.drop_eq_getElem_cons h]
  simp only [nodsE]
  rw [if_neg h0]

set_option maxRecDepth 8000 in
set_option maxHeartbeats 2000000 in
theorem predCheck_any (cv : Value) (cs : List Col) (key : Int) (nv : Value) (ns : List Nod) (w : World) (hc : ColsAt w w.heap.size cv cs) (hn : NodsAt w w.heap.size nv ns) :
    Calls Tryz.prog 51 #[.agg #[cv, .int .i64 key], nv] w fun e w' => e = .returned (.int .i64 (predF cs key ns)) ∧ Below w.heap.size w w' := by
  have h63 := hn.1
  obtain ⟨ca, cc, rfl⟩ := cols_end hc
  obtain ⟨na, pc, rfl⟩ := nods_end hn
  obtain ⟨nc, hl⟩ : ∃ nc, cs.length = nc := ⟨_, rfl⟩
  obtain ⟨m, hm⟩ : ∃ m, ns.length = m := ⟨_, rfl⟩
  have HC : Hid (ColsAt w w.heap.size (.slice ca nc cc) cs) := Lib.hid (by rw [← hl]; exact hc)
  have HN : Hid (NodsAt w w.heap.size (.slice na m pc) ns) := Lib.hid (by rw [← hm]; exact hn)
  clear hc hn
  have HM := Lib.hid hm
  rw [hl, hm]
  rw [hm] at h63
  obtain ⟨e0, he0⟩ : ∃ e0, predF cs key ns = e0 := ⟨_, rfl⟩
  rw [he0]
  obtain ⟨es, hes⟩ : ∃ es, schemaF cs key = es := ⟨_, rfl⟩
  have HE : e0 = if es = 0 then (if 64 < ns.length then 7 else nodsE cs 0 ns) else es := by rw [← he0, ← hes]; rfl
  have HES := Lib.hid hes
  clear hl hm he0 hes
  by_cases s0 : es = 0
  · subst s0
    rw [if_pos rfl] at HE
    go_enter Tryz.func51, Tryz.ntmps51
    go_upto_region 2 with (go_at_call 56; have hC1 : ColsAt (w.alloc (.cells #[.slice ca nc cc, .int .i64 key] 24)) (w.alloc (.cells #[.slice ca nc cc, .int .i64 key] 24)).heap.size _ cs := HC.out.mono (Below.al (Below.refl _ _) _) (by simp); refine (schema_any _ cs key _ hC1).mono ?_; rintro e w1 ⟨rfl, hb1⟩; obtain ⟨x1, rfl⟩ := Ext.of hb1; have z0 : w.heap.size < x1.it.heap.size := x1.lt (by simp))
    simp only [HES.out]
    refine captureP ?_
    intro y ey
    have b0 : y.it.cell? ⟨w.heap.size, 0, none⟩ = some (.slice ca nc cc) := by simp (maxDischargeDepth := 9) [go_sem, *]
    have b1 : y.it.cell? ⟨w.heap.size, 1, none⟩ = some (.int .i64 key) := by simp (maxDischargeDepth := 9) [go_sem, *]
    have y0 : w.heap.size < y.it.heap.size := by rw [ey]; (first | with_reducible assumption | (simp only [World.size_setCell, World.size_alloc, World.size_drew]; first | with_reducible assumption | omega))
    have yb : Below w.heap.size w y.it := by rw [ey]; exact (by with_reducible repeat (first | exact Below.refl _ _ | assumption | refine Below.al ?_ _ | refine Below.on ?_ _ | refine Below.st ?_ (by first | assumption | (simp; done) | (simp; omega)) _ | refine Below.drew ?_))
    clear ey
    by_cases m64 : 64 < m
    · obtain rfl : 7 = e0 := (HE.trans (if_pos (by rw [HM.out]; exact m64))).symm
      have m64' : (64 : Int) < (m : Int) := by omega
      clear HE
      go_wp2_with fail
      exact bodyPost_ret (v := .int .i64 (7)) (by simp [results, Tryz.results51, go_sem, *]) rfl (⟨rfl, by with_reducible repeat (first | exact Below.refl _ _ | assumption | refine Below.al ?_ _ | refine Below.on ?_ _ | refine Below.st ?_ (by first | assumption | (simp; done) | (simp; omega)) _ | refine Below.drew ?_)⟩)
    have m64' : ¬ (64 : Int) < (m : Int) := by omega
    have HE2 := Lib.hid (HE.trans (if_neg (by rw [HM.out]; exact m64)))
    clear HE
    go_wp2_with fail
    go_loopg [19] m (fun g st wr => ∃ k : Nat, k + g = m ∧ st = .int .i64 (k : Int) ∧ nodsE cs 0 ns = nodsE cs (k : Int) (ns.drop k) ∧ ∃ x : Ext y.it, x.it = wr)
    case atStart => exact ⟨0, by omega, rfl, by simp, ext_of (Below.refl _ _)⟩
    case round =>
      obtain ⟨k, hk, rfl, hF, x, rfl⟩ := hrel
      have hx := x.below
      have hx2 : Below w.heap.size w x.it := Below.on yb x
      have x0 : w.heap.size < x.it.heap.size := x.lt y0
      by_cases hg0 : gk = 0
      · subst hg0
        obtain rfl : k = m := by omega
        obtain rfl : 0 = e0 := by rw [HE2.out, hF, List.drop_of_length_le (by rw [HM.out]; exact Nat.le_refl _)]; rfl
        clear hF hk HE2
        go_wp2
        exact bodyPost_ret (v := .int .i64 (0)) (by simp [results, Tryz.results51, go_sem, *]) rfl (⟨rfl, by with_reducible repeat (first | exact Below.refl _ _ | assumption | refine Below.al ?_ _ | refine Below.on ?_ _ | refine Below.st ?_ (by first | assumption | (simp; done) | (simp; omega)) _ | refine Below.drew ?_)⟩)
      · have hkm : k < m := by omega
        have hkm' : (k : Int) < (m : Int) := by omega
        have hkl : k < ns.length := by rw [HM.out]; exact hkm
        obtain ⟨b, o, rfl, _, hb, lv, c0, c1, c2, c3, c4, c5, c6, c7, hlv⟩ := nods_in HN.out hkl
        have OKL := nodsE_ok (cs := cs) hkl
        have BDL := nodsE_bad (cs := cs) hkl
        obtain ⟨d, hd⟩ : ∃ d, ns[k]'hkl = d := ⟨_, rfl⟩
        rw [hd] at OKL BDL c0 c1 c2 c3 c4 c6 c7 hlv
        rw [← hF] at OKL BDL
        obtain ⟨dop, dcol, ⟨dvn, dn, ds⟩, dls, da, db⟩ := d
        dsimp only at c0 c1 c2 c3 c4 c6 c7 hlv
        have f0 := (hx2.cell (p := ⟨b, o + k * 8, none⟩) hb).trans c0
        have f1 := (hx2.cell (p := ⟨b, o + k * 8 + 1, none⟩) hb).trans c1
        have f2 := (hx2.cell (p := ⟨b, o + k * 8 + 2, none⟩) hb).trans c2
        have f3 := (hx2.cell (p := ⟨b, o + k * 8 + 3, none⟩) hb).trans c3
        have f4 := (hx2.cell (p := ⟨b, o + k * 8 + 4, none⟩) hb).trans c4
        have f5 := (hx2.cell (p := ⟨b, o + k * 8 + 5, none⟩) hb).trans c5
        have f6 := (hx2.cell (p := ⟨b, o + k * 8 + 6, none⟩) hb).trans c6
        have f7 := (hx2.cell (p := ⟨b, o + k * 8 + 7, none⟩) hb).trans c7
        have zb : b < x.it.heap.size := Nat.lt_of_lt_of_le hb hx2.size
        obtain ⟨la, lc, rfl⟩ := vals_end hlv
        obtain ⟨lm, hlm⟩ : ∃ lm, dls.length = lm := ⟨_, rfl⟩
        rw [hlm] at f5 c5 hlv
        have HC1 : Hid (ColsAt (x.it.alloc (.cells #[.int .i64 dop, .int .i64 dcol, .bool dvn, .int .i64 dn, .string ds, .slice la lm lc, .int .i64 da, .int .i64 db] 44)) (x.it.alloc (.cells #[.int .i64 dop, .int .i64 dcol, .bool dvn, .int .i64 dn, .string ds, .slice la lm lc, .int .i64 da, .int .i64 db] 44)).heap.size (.slice ca nc cc) cs) := Lib.hid (HC.out.mono (Below.al hx2 _) (by simp; omega))
        have HV1 : Hid (ValsAt (x.it.alloc (.cells #[.int .i64 dop, .int .i64 dcol, .bool dvn, .int .i64 dn, .string ds, .slice la lm lc, .int .i64 da, .int .i64 db] 44)) (x.it.alloc (.cells #[.int .i64 dop, .int .i64 dcol, .bool dvn, .int .i64 dn, .string ds, .slice la lm lc, .int .i64 da, .int .i64 db] 44)).heap.size (.slice la lm lc) dls) := Lib.hid (hlv.mono (Below.al hx2 _) (by simp; omega))
        obtain ⟨ve, hve⟩ : ∃ ve, nodE cs (k : Int) ⟨dop, dcol, ⟨dvn, dn, ds⟩, dls, da, db⟩ = ve := ⟨_, rfl⟩
        rw [hve] at OKL BDL
        have HVE := Lib.hid hve
        have HK := Lib.hid hk
        clear c0 c1 c2 c3 c4 c5 c6 c7 hlv hlm hd hk hF hve hg0
        by_cases v0 : ve = 0
        · have OK := Lib.hid (OKL v0)
          have v0' : (ve != 0) = false := by simpa using v0
          clear OKL BDL
          go_wp2_with ((go_at_call 77; refine (node_any _ cs key _ _ _ _ _ _ _ dls _ _ _ HC1.out HV1.out).mono ?_; rintro e w3 ⟨rfl, hb3⟩; obtain ⟨x3, rfl⟩ := Ext.of hb3; have t0 : w.heap.size < x3.it.heap.size := x3.lt (by (first | with_reducible assumption | (simp only [World.size_setCell, World.size_alloc, World.size_drew]; first | with_reducible assumption | omega)))); simp only [HVE.out])
          go_roundg (gk - 1)
          case measure => have := HK.out; omega
          case rel => exact ⟨k + 1, by have := HK.out; omega, by go_num, OK.out, ext_of (by with_reducible repeat (first | exact Below.refl _ _ | assumption | refine Below.al ?_ _ | refine Below.on ?_ _ | refine Below.st ?_ (by first | assumption | (simp; done) | (simp; omega)) _ | refine Below.drew ?_))⟩
        · have v0' : (ve != 0) = true := by simpa using v0
          obtain rfl : ve = e0 := ((HE2.out.trans (BDL v0))).symm
          clear OKL BDL HE2
          go_wp2_with ((go_at_call 77; refine (node_any _ cs key _ _ _ _ _ _ _ dls _ _ _ HC1.out HV1.out).mono ?_; rintro e w3 ⟨rfl, hb3⟩; obtain ⟨x3, rfl⟩ := Ext.of hb3; have t0 : w.heap.size < x3.it.heap.size := x3.lt (by (first | with_reducible assumption | (simp only [World.size_setCell, World.size_alloc, World.size_drew]; first | with_reducible assumption | omega)))); simp only [HVE.out])
          exact bodyPost_ret (v := .int .i64 (ve)) (by simp [results, Tryz.results51, go_sem, *]) rfl (⟨rfl, by with_reducible repeat (first | exact Below.refl _ _ | assumption | refine Below.al ?_ _ | refine Below.on ?_ _ | refine Below.st ?_ (by first | assumption | (simp; done) | (simp; omega)) _ | refine Below.drew ?_)⟩)
  · obtain rfl : es = e0 := (HE.trans (if_neg s0)).symm
    have s0' : (es != 0) = true := by simpa using s0
    clear HE
    go_enter Tryz.func51, Tryz.ntmps51
    go_wp2_with ((go_at_call 56; have hC1 : ColsAt (w.alloc (.cells #[.slice ca nc cc, .int .i64 key] 24)) (w.alloc (.cells #[.slice ca nc cc, .int .i64 key] 24)).heap.size _ cs := HC.out.mono (Below.al (Below.refl _ _) _) (by simp); refine (schema_any _ cs key _ hC1).mono ?_; rintro e w1 ⟨rfl, hb1⟩; obtain ⟨x1, rfl⟩ := Ext.of hb1; have z0 : w.heap.size < x1.it.heap.size := x1.lt (by simp)); simp only [HES.out])
    exact bodyPost_ret (v := .int .i64 (es)) (by simp [results, Tryz.results51, go_sem, *]) rfl (⟨rfl, by with_reducible repeat (first | exact Below.refl _ _ | assumption | refine Below.al ?_ _ | refine Below.on ?_ _ | refine Below.st ?_ (by first | assumption | (simp; done) | (simp; omega)) _ | refine Below.drew ?_)⟩)
end Go.Proofs.YtpahoenanfjhpaaGreat
namespace Go.Proofs.YtpahoenanfjhpaaGreat
open Go.RowKit

set_option maxHeartbeats 400000 in
theorem leafB_any (t : Int) (w : World) : Calls Tryz.prog 108 #[.int .i64 t] w fun e w' => e = .returned (.bool (decide (1 ≤ t) && decide (t ≤ 8))) ∧ Below w.heap.size w w' := by
  by_cases h1 : 1 ≤ t
  · by_cases h2 : t ≤ 8
    all_goals
      go_enter Tryz.func108, Tryz.ntmps108
      go_wp2
      go_ret
      exact ⟨by simp [h1, h2], Below.refl _ _⟩
  ·
    go_enter Tryz.func108, Tryz.ntmps108
    go_wp2
    go_ret
    exact ⟨by rw [decide_eq_false (by omega : ¬ 1 ≤ t)]; rfl, Below.refl _ _⟩
set_option maxHeartbeats 400000 in
theorem comparisonB_any (t : Int) (w : World) : Calls Tryz.prog 109 #[.int .i64 t] w fun e w' => e = .returned (.bool (decide (1 ≤ t) && decide (t ≤ 6))) ∧ Below w.heap.size w w' := by
  by_cases h1 : 1 ≤ t
  · by_cases h2 : t ≤ 6
    all_goals
      go_enter Tryz.func109, Tryz.ntmps109
      go_wp2
      go_ret
      exact ⟨by simp [h1, h2], Below.refl _ _⟩
  ·
    go_enter Tryz.func109, Tryz.ntmps109
    go_wp2
    go_ret
    exact ⟨by rw [decide_eq_false (by omega : ¬ 1 ≤ t)]; rfl, Below.refl _ _⟩
set_option maxHeartbeats 400000 in
theorem nullable_any (cn : ByteArray) (ty sc : Int) (nul : Bool) (w : World) : Calls Tryz.prog 110 #[.agg #[.string cn, .int .i64 ty, .int .i64 sc, .bool nul]] w fun e w' => e = .returned (.agg #[.string cn, .int .i64 ty, .int .i64 sc, .bool true]) ∧ Below w.heap.size w w' := by
  go_enter Tryz.func110, Tryz.ntmps110
  go_wp2
  exact bodyPost_ret (v := .agg #[.string cn, .int .i64 ty, .int .i64 sc, .bool true]) (by simp [results, Tryz.results110, go_sem, *]) rfl (⟨rfl, by with_reducible repeat (first | exact Below.refl _ _ | assumption | refine Below.al ?_ _ | refine Below.on ?_ _ | refine Below.st ?_ (by first | assumption | (simp; done) | (simp; omega)) _ | refine Below.drew ?_)⟩)
set_option maxRecDepth 8000 in
set_option maxHeartbeats 4000000 in
theorem refNode_any (cv : Value) (cs : List Col) (key i op col : Int) (vn : Bool) (n : Int) (s : ByteArray) (lv : Value) (ls : List Val) (a b : Int) (w : World) (hc : ColsAt w w.heap.size cv cs) (hv : ValsAt w w.heap.size lv ls) :
    Calls Tryz.prog 79 #[.agg #[cv, .int .i64 key], .agg #[.int .i64 op, .int .i64 col, .bool vn, .int .i64 n, .string s, lv, .int .i64 a, .int .i64 b], .int .i64 i] w fun e w' => e = .returned (.int .i64 (nodE cs i ⟨op, col, ⟨vn, n, s⟩, ls, a, b⟩)) ∧ Below w.heap.size w w' := by
  have h63 := hc.1
  have hm63 := hv.1
  obtain ⟨ca, cc, rfl⟩ := cols_end hc
  obtain ⟨la, lc, rfl⟩ := vals_end hv
  obtain ⟨nc, hl⟩ : ∃ nc, cs.length = nc := ⟨_, rfl⟩
  obtain ⟨m, hm⟩ : ∃ m, ls.length = m := ⟨_, rfl⟩
  have HC : Hid (ColsAt w w.heap.size (.slice ca nc cc) cs) := Lib.hid (by rw [← hl]; exact hc)
  have HV : Hid (ValsAt w w.heap.size (.slice la m lc) ls) := Lib.hid (by rw [← hm]; exact hv)
  clear hc hv
  have HL := Lib.hid hl
  have HM := Lib.hid hm
  rw [hl] at h63 ⊢
  rw [hm] at hm63 ⊢
  obtain ⟨e0, he0⟩ : ∃ e0, nodE cs i ⟨op, col, ⟨vn, n, s⟩, ls, a, b⟩ = e0 := ⟨_, rfl⟩
  rw [he0]
  have HE := Lib.hid he0
  clear he0 hl hm
  by_cases o1 : op < 1
  · skip
    obtain rfl : (1 : Int) = e0 := (show nodE cs i ⟨op, col, ⟨vn, n, s⟩, ls, a, b⟩ = 1 by unfold nodE; dsimp only; rw [if_pos (Or.inl o1)]).symm.trans HE.out
    clear HE
    go_enter Tryz.func79, Tryz.ntmps79
    go_wp2_with (go_at_call 108; refine (leafB_any _ _).mono ?_; rintro e w1 ⟨rfl, hb1⟩; obtain ⟨x1, rfl⟩ := Ext.of hb1; have z0 : w.heap.size < x1.it.heap.size := x1.lt (by simp; omega); have z1 : w.heap.size + 1 < x1.it.heap.size := x1.lt (by simp))
    exact bodyPost_ret (v := .int .i64 1) (by simp (maxDischargeDepth := 5) [results, Tryz.results79, go_sem, *]) rfl (⟨rfl, by with_reducible repeat (first | exact Below.refl _ _ | assumption | refine Below.al ?_ _ | refine Below.on ?_ _ | refine Below.st ?_ (by first | assumption | (simp; done) | (simp; omega)) _ | refine Below.drew ?_)⟩)
  by_cases o2 : 11 < op
  · skip
    obtain rfl : (1 : Int) = e0 := (show nodE cs i ⟨op, col, ⟨vn, n, s⟩, ls, a, b⟩ = 1 by unfold nodE; dsimp only; rw [if_pos (Or.inr o2)]).symm.trans HE.out
    clear HE
    go_enter Tryz.func79, Tryz.ntmps79
    go_wp2_with (go_at_call 108; refine (leafB_any _ _).mono ?_; rintro e w1 ⟨rfl, hb1⟩; obtain ⟨x1, rfl⟩ := Ext.of hb1; have z0 : w.heap.size < x1.it.heap.size := x1.lt (by simp; omega); have z1 : w.heap.size + 1 < x1.it.heap.size := x1.lt (by simp))
    exact bodyPost_ret (v := .int .i64 1) (by simp (maxDischargeDepth := 5) [results, Tryz.results79, go_sem, *]) rfl (⟨rfl, by with_reducible repeat (first | exact Below.refl _ _ | assumption | refine Below.al ?_ _ | refine Below.on ?_ _ | refine Below.st ?_ (by first | assumption | (simp; done) | (simp; omega)) _ | refine Below.drew ?_)⟩)
  have o0 : ¬ (op < 1 ∨ 11 < op) := by omega
  by_cases o9 : 9 ≤ op
  · skip
    by_cases a1 : a < 0
    · skip
      obtain rfl : (4 : Int) = e0 := (show nodE cs i ⟨op, col, ⟨vn, n, s⟩, ls, a, b⟩ = 4 by unfold nodE; dsimp only; rw [if_neg o0, if_pos o9, if_pos (Or.inl a1)]).symm.trans HE.out
      have tl : (decide (1 ≤ op) && decide (op ≤ 8)) = false := by rw [Bool.and_eq_false_iff]; exact .inr (decide_eq_false (by omega))
      have tl8 : decide (op ≤ 8) = false := decide_eq_false (by omega)
      clear HE o0
      go_enter Tryz.func79, Tryz.ntmps79
      go_wp2_with (go_at_call 108; refine (leafB_any _ _).mono ?_; rintro e w1 ⟨rfl, hb1⟩; obtain ⟨x1, rfl⟩ := Ext.of hb1; have z0 : w.heap.size < x1.it.heap.size := x1.lt (by simp; omega); have z1 : w.heap.size + 1 < x1.it.heap.size := x1.lt (by simp))
      exact bodyPost_ret (v := .int .i64 4) (by simp (maxDischargeDepth := 5) [results, Tryz.results79, go_sem, *]) rfl (⟨rfl, by with_reducible repeat (first | exact Below.refl _ _ | assumption | refine Below.al ?_ _ | refine Below.on ?_ _ | refine Below.st ?_ (by first | assumption | (simp; done) | (simp; omega)) _ | refine Below.drew ?_)⟩)
    by_cases a2 : i ≤ a
    · skip
      obtain rfl : (4 : Int) = e0 := (show nodE cs i ⟨op, col, ⟨vn, n, s⟩, ls, a, b⟩ = 4 by unfold nodE; dsimp only; rw [if_neg o0, if_pos o9, if_pos (Or.inr (Or.inl a2))]).symm.trans HE.out
      have tl : (decide (1 ≤ op) && decide (op ≤ 8)) = false := by rw [Bool.and_eq_false_iff]; exact .inr (decide_eq_false (by omega))
      have tl8 : decide (op ≤ 8) = false := decide_eq_false (by omega)
      clear HE o0
      go_enter Tryz.func79, Tryz.ntmps79
      go_wp2_with (go_at_call 108; refine (leafB_any _ _).mono ?_; rintro e w1 ⟨rfl, hb1⟩; obtain ⟨x1, rfl⟩ := Ext.of hb1; have z0 : w.heap.size < x1.it.heap.size := x1.lt (by simp; omega); have z1 : w.heap.size + 1 < x1.it.heap.size := x1.lt (by simp))
      exact bodyPost_ret (v := .int .i64 4) (by simp (maxDischargeDepth := 5) [results, Tryz.results79, go_sem, *]) rfl (⟨rfl, by with_reducible repeat (first | exact Below.refl _ _ | assumption | refine Below.al ?_ _ | refine Below.on ?_ _ | refine Below.st ?_ (by first | assumption | (simp; done) | (simp; omega)) _ | refine Below.drew ?_)⟩)
    by_cases o11 : op = 11
    · skip
      obtain rfl : (0 : Int) = e0 := (show nodE cs i ⟨op, col, ⟨vn, n, s⟩, ls, a, b⟩ = 0 by unfold nodE; dsimp only; rw [if_neg o0, if_pos o9, if_neg (by omega)]).symm.trans HE.out
      have tl : (decide (1 ≤ op) && decide (op ≤ 8)) = false := by rw [Bool.and_eq_false_iff]; exact .inr (decide_eq_false (by omega))
      have tl8 : decide (op ≤ 8) = false := decide_eq_false (by omega)
      have q0 : (op != 11) = false := by simpa using o11
      clear HE o0 o11
      go_enter Tryz.func79, Tryz.ntmps79
      go_wp2_with (go_at_call 108; refine (leafB_any _ _).mono ?_; rintro e w1 ⟨rfl, hb1⟩; obtain ⟨x1, rfl⟩ := Ext.of hb1; have z0 : w.heap.size < x1.it.heap.size := x1.lt (by simp; omega); have z1 : w.heap.size + 1 < x1.it.heap.size := x1.lt (by simp))
      exact bodyPost_ret (v := .int .i64 0) (by simp (maxDischargeDepth := 5) [results, Tryz.results79, go_sem, *]) rfl (⟨rfl, by with_reducible repeat (first | exact Below.refl _ _ | assumption | refine Below.al ?_ _ | refine Below.on ?_ _ | refine Below.st ?_ (by first | assumption | (simp; done) | (simp; omega)) _ | refine Below.drew ?_)⟩)
    by_cases b1 : b < 0
    · skip
      obtain rfl : (4 : Int) = e0 := (show nodE cs i ⟨op, col, ⟨vn, n, s⟩, ls, a, b⟩ = 4 by unfold nodE; dsimp only; rw [if_neg o0, if_pos o9, if_pos (Or.inr (Or.inr ⟨o11, Or.inl b1⟩))]).symm.trans HE.out
      have tl : (decide (1 ≤ op) && decide (op ≤ 8)) = false := by rw [Bool.and_eq_false_iff]; exact .inr (decide_eq_false (by omega))
      have tl8 : decide (op ≤ 8) = false := decide_eq_false (by omega)
      have q0 : (op != 11) = true := by simpa using o11
      clear HE o0 o11
      go_enter Tryz.func79, Tryz.ntmps79
      go_wp2_with (go_at_call 108; refine (leafB_any _ _).mono ?_; rintro e w1 ⟨rfl, hb1⟩; obtain ⟨x1, rfl⟩ := Ext.of hb1; have z0 : w.heap.size < x1.it.heap.size := x1.lt (by simp; omega); have z1 : w.heap.size + 1 < x1.it.heap.size := x1.lt (by simp))
      exact bodyPost_ret (v := .int .i64 4) (by simp (maxDischargeDepth := 5) [results, Tryz.results79, go_sem, *]) rfl (⟨rfl, by with_reducible repeat (first | exact Below.refl _ _ | assumption | refine Below.al ?_ _ | refine Below.on ?_ _ | refine Below.st ?_ (by first | assumption | (simp; done) | (simp; omega)) _ | refine Below.drew ?_)⟩)
    by_cases b2 : i ≤ b
    · skip
      obtain rfl : (4 : Int) = e0 := (show nodE cs i ⟨op, col, ⟨vn, n, s⟩, ls, a, b⟩ = 4 by unfold nodE; dsimp only; rw [if_neg o0, if_pos o9, if_pos (Or.inr (Or.inr ⟨o11, Or.inr b2⟩))]).symm.trans HE.out
      have tl : (decide (1 ≤ op) && decide (op ≤ 8)) = false := by rw [Bool.and_eq_false_iff]; exact .inr (decide_eq_false (by omega))
      have tl8 : decide (op ≤ 8) = false := decide_eq_false (by omega)
      have q0 : (op != 11) = true := by simpa using o11
      clear HE o0 o11
      go_enter Tryz.func79, Tryz.ntmps79
      go_wp2_with (go_at_call 108; refine (leafB_any _ _).mono ?_; rintro e w1 ⟨rfl, hb1⟩; obtain ⟨x1, rfl⟩ := Ext.of hb1; have z0 : w.heap.size < x1.it.heap.size := x1.lt (by simp; omega); have z1 : w.heap.size + 1 < x1.it.heap.size := x1.lt (by simp))
      exact bodyPost_ret (v := .int .i64 4) (by simp (maxDischargeDepth := 5) [results, Tryz.results79, go_sem, *]) rfl (⟨rfl, by with_reducible repeat (first | exact Below.refl _ _ | assumption | refine Below.al ?_ _ | refine Below.on ?_ _ | refine Below.st ?_ (by first | assumption | (simp; done) | (simp; omega)) _ | refine Below.drew ?_)⟩)
    skip
    obtain rfl : (0 : Int) = e0 := (show nodE cs i ⟨op, col, ⟨vn, n, s⟩, ls, a, b⟩ = 0 by unfold nodE; dsimp only; rw [if_neg o0, if_pos o9, if_neg (by omega)]).symm.trans HE.out
    have tl : (decide (1 ≤ op) && decide (op ≤ 8)) = false := by rw [Bool.and_eq_false_iff]; exact .inr (decide_eq_false (by omega))
    have tl8 : decide (op ≤ 8) = false := decide_eq_false (by omega)
    have q0 : (op != 11) = true := by simpa using o11
    clear HE o0 o11
    go_enter Tryz.func79, Tryz.ntmps79
    go_wp2_with (go_at_call 108; refine (leafB_any _ _).mono ?_; rintro e w1 ⟨rfl, hb1⟩; obtain ⟨x1, rfl⟩ := Ext.of hb1; have z0 : w.heap.size < x1.it.heap.size := x1.lt (by simp; omega); have z1 : w.heap.size + 1 < x1.it.heap.size := x1.lt (by simp))
    exact bodyPost_ret (v := .int .i64 0) (by simp (maxDischargeDepth := 5) [results, Tryz.results79, go_sem, *]) rfl (⟨rfl, by with_reducible repeat (first | exact Below.refl _ _ | assumption | refine Below.al ?_ _ | refine Below.on ?_ _ | refine Below.st ?_ (by first | assumption | (simp; done) | (simp; omega)) _ | refine Below.drew ?_)⟩)
  have tl : (decide (1 ≤ op) && decide (op ≤ 8)) = true := by rw [decide_eq_true (by omega), decide_eq_true (by omega)]; rfl
  have tl8 : decide (op ≤ 8) = true := decide_eq_true (by omega)
  by_cases k1 : col < 0
  · skip
    obtain rfl : (4 : Int) = e0 := (show nodE cs i ⟨op, col, ⟨vn, n, s⟩, ls, a, b⟩ = 4 by unfold nodE; dsimp only; rw [if_neg o0, if_neg o9, if_pos (Or.inl k1)]).symm.trans HE.out
    clear HE o0
    go_enter Tryz.func79, Tryz.ntmps79
    go_wp2_with (go_at_call 108; refine (leafB_any _ _).mono ?_; rintro e w1 ⟨rfl, hb1⟩; obtain ⟨x1, rfl⟩ := Ext.of hb1; have z0 : w.heap.size < x1.it.heap.size := x1.lt (by simp; omega); have z1 : w.heap.size + 1 < x1.it.heap.size := x1.lt (by simp))
    exact bodyPost_ret (v := .int .i64 4) (by simp (maxDischargeDepth := 5) [results, Tryz.results79, go_sem, *]) rfl (⟨rfl, by with_reducible repeat (first | exact Below.refl _ _ | assumption | refine Below.al ?_ _ | refine Below.on ?_ _ | refine Below.st ?_ (by first | assumption | (simp; done) | (simp; omega)) _ | refine Below.drew ?_)⟩)
  by_cases k2 : (nc : Int) ≤ col
  · skip
    obtain rfl : (4 : Int) = e0 := (show nodE cs i ⟨op, col, ⟨vn, n, s⟩, ls, a, b⟩ = 4 by unfold nodE; dsimp only; rw [if_neg o0, if_neg o9, if_pos (Or.inr (by rw [HL.out]; exact k2))]).symm.trans HE.out
    clear HE o0
    go_enter Tryz.func79, Tryz.ntmps79
    go_wp2_with (go_at_call 108; refine (leafB_any _ _).mono ?_; rintro e w1 ⟨rfl, hb1⟩; obtain ⟨x1, rfl⟩ := Ext.of hb1; have z0 : w.heap.size < x1.it.heap.size := x1.lt (by simp; omega); have z1 : w.heap.size + 1 < x1.it.heap.size := x1.lt (by simp))
    exact bodyPost_ret (v := .int .i64 4) (by simp (maxDischargeDepth := 5) [results, Tryz.results79, go_sem, *]) rfl (⟨rfl, by with_reducible repeat (first | exact Below.refl _ _ | assumption | refine Below.al ?_ _ | refine Below.on ?_ _ | refine Below.st ?_ (by first | assumption | (simp; done) | (simp; omega)) _ | refine Below.drew ?_)⟩)
  obtain ⟨K, rfl⟩ : ∃ K : Nat, col = K := ⟨col.toNat, by omega⟩
  have hkl : K < cs.length := by rw [HL.out]; omega
  have NE := nodE_col (cs := cs) (i := i) (d := ⟨op, K, ⟨vn, n, s⟩, ls, a, b⟩) o0 o9 rfl hkl
  rw [HE.out] at NE
  dsimp only at NE
  obtain ⟨cb, co, rfl, _, hcb, c0, c1, c2, c3⟩ := cols_in HC.out hkl
  obtain ⟨d, hd⟩ : ∃ d, cs[K]'hkl = d := ⟨_, rfl⟩
  rw [hd] at NE c0 c1 c2 c3
  obtain ⟨cn, ty, sc, nul⟩ := d
  dsimp only at NE c0 c1 c2 c3
  have k3 : (K : Int) < (nc : Int) := by omega
  have HN := Lib.hid NE
  clear NE HE hd o0 k1
  go_enter Tryz.func79, Tryz.ntmps79
  go_upto_region 9 with (go_at_call 108; refine (leafB_any _ _).mono ?_; rintro e w1 ⟨rfl, hb1⟩; obtain ⟨x1, rfl⟩ := Ext.of hb1; have z0 : w.heap.size < x1.it.heap.size := x1.lt (by simp; omega); have z1 : w.heap.size + 1 < x1.it.heap.size := x1.lt (by simp))
  refine captureP ?_
  intro y ey
  have b0 : y.it.cell? ⟨w.heap.size, 0, none⟩ = some (.slice (some ⟨cb, co, none⟩) nc cc) := by simp (maxDischargeDepth := 9) [go_sem, *]
  have n0 : y.it.cell? ⟨w.heap.size + 1, 0, none⟩ = some (.int .i64 op) := by simp (maxDischargeDepth := 9) [go_sem, *]
  have n1 : y.it.cell? ⟨w.heap.size + 1, 1, none⟩ = some (.int .i64 K) := by simp (maxDischargeDepth := 9) [go_sem, *]
  have n2 : y.it.cell? ⟨w.heap.size + 1, 2, none⟩ = some (.bool vn) := by simp (maxDischargeDepth := 9) [go_sem, *]
  have n3 : y.it.cell? ⟨w.heap.size + 1, 3, none⟩ = some (.int .i64 n) := by simp (maxDischargeDepth := 9) [go_sem, *]
  have n4 : y.it.cell? ⟨w.heap.size + 1, 4, none⟩ = some (.string s) := by simp (maxDischargeDepth := 9) [go_sem, *]
  have n5 : y.it.cell? ⟨w.heap.size + 1, 5, none⟩ = some (.slice la m lc) := by simp (maxDischargeDepth := 9) [go_sem, *]
  have n6 : y.it.cell? ⟨w.heap.size + 1, 6, none⟩ = some (.int .i64 a) := by simp (maxDischargeDepth := 9) [go_sem, *]
  have n7 : y.it.cell? ⟨w.heap.size + 1, 7, none⟩ = some (.int .i64 b) := by simp (maxDischargeDepth := 9) [go_sem, *]
  have y0 : w.heap.size < y.it.heap.size := by rw [ey]; (first | with_reducible assumption | (simp only [World.size_setCell, World.size_alloc, World.size_drew]; first | with_reducible assumption | omega))
  have y1 : w.heap.size + 1 < y.it.heap.size := by rw [ey]; (first | with_reducible assumption | (simp only [World.size_setCell, World.size_alloc, World.size_drew]; first | with_reducible assumption | omega))
  have yb : Below w.heap.size w y.it := by rw [ey]; exact (by with_reducible repeat (first | exact Below.refl _ _ | assumption | refine Below.al ?_ _ | refine Below.on ?_ _ | refine Below.st ?_ (by first | assumption | (simp; done) | (simp; omega)) _ | refine Below.drew ?_))
  have g0 := (yb.cell (p := ⟨cb, co + K * 4, none⟩) hcb).trans c0
  have g1 := (yb.cell (p := ⟨cb, co + K * 4 + 1, none⟩) hcb).trans c1
  have g2 := (yb.cell (p := ⟨cb, co + K * 4 + 2, none⟩) hcb).trans c2
  have g3 := (yb.cell (p := ⟨cb, co + K * 4 + 3, none⟩) hcb).trans c3
  have yc : cb < y.it.heap.size := by omega
  clear ey c0 c1 c2 c3
  by_cases o8 : op = 8
  · skip
    obtain rfl : 0 = e0 := (HN.out.trans (by rw [if_pos o8])).symm
    have tc : (decide (1 ≤ op) && decide (op ≤ 6)) = false := by rw [Bool.and_eq_false_iff]; exact .inr (decide_eq_false (by omega))
    have tc6 : decide (op ≤ 6) = false := decide_eq_false (by omega)
    clear HN
    go_wp2_with (first | (go_at_call 109; refine (comparisonB_any _ _).mono ?_; rintro e w2 ⟨rfl, hb2⟩; obtain ⟨x2, rfl⟩ := Ext.of hb2; have v0 : w.heap.size < x2.it.heap.size := x2.lt (by (first | with_reducible assumption | (simp only [World.size_setCell, World.size_alloc, World.size_drew]; first | with_reducible assumption | omega))); have v1 : w.heap.size + 1 < x2.it.heap.size := x2.lt (by (first | with_reducible assumption | (simp only [World.size_setCell, World.size_alloc, World.size_drew]; first | with_reducible assumption | omega))); have v2 : y.it.heap.size < x2.it.heap.size := x2.lt (by simp)) | (go_at_call 98; refine (refVcheck_any _ _ _ _ _ _ _ _).mono ?_; rintro e w3 ⟨rfl, hb3⟩; obtain ⟨x3, rfl⟩ := Ext.of hb3; ))
    exact bodyPost_ret (v := .int .i64 (0)) (by simp (maxDischargeDepth := 5) [results, Tryz.results79, go_sem, *]) rfl (⟨rfl, by with_reducible repeat (first | exact Below.refl _ _ | assumption | refine Below.al ?_ _ | refine Below.on ?_ _ | refine Below.st ?_ (by first | assumption | (simp; done) | (simp; omega)) _ | refine Below.drew ?_)⟩)
  by_cases o7 : ¬ op = 7
  · cases vn with
    | true =>
      obtain rfl : 12 = e0 := (HN.out.trans (by rw [if_neg o8, if_pos o7]; rfl)).symm
      have tc : (decide (1 ≤ op) && decide (op ≤ 6)) = true := by rw [decide_eq_true (by omega), decide_eq_true (by omega)]; rfl
      have tc6 : decide (op ≤ 6) = true := decide_eq_true (by omega)
      have q0 : (op != 7) = true := by simpa using o7
      clear HN
      go_wp2_with (first | (go_at_call 109; refine (comparisonB_any _ _).mono ?_; rintro e w2 ⟨rfl, hb2⟩; obtain ⟨x2, rfl⟩ := Ext.of hb2; have v0 : w.heap.size < x2.it.heap.size := x2.lt (by (first | with_reducible assumption | (simp only [World.size_setCell, World.size_alloc, World.size_drew]; first | with_reducible assumption | omega))); have v1 : w.heap.size + 1 < x2.it.heap.size := x2.lt (by (first | with_reducible assumption | (simp only [World.size_setCell, World.size_alloc, World.size_drew]; first | with_reducible assumption | omega))); have v2 : y.it.heap.size < x2.it.heap.size := x2.lt (by simp)) | (go_at_call 98; refine (refVcheck_any _ _ _ _ _ _ _ _).mono ?_; rintro e w3 ⟨rfl, hb3⟩; obtain ⟨x3, rfl⟩ := Ext.of hb3; ))
      exact bodyPost_ret (v := .int .i64 (12)) (by simp (maxDischargeDepth := 5) [results, Tryz.results79, go_sem, *]) rfl (⟨rfl, by with_reducible repeat (first | exact Below.refl _ _ | assumption | refine Below.al ?_ _ | refine Below.on ?_ _ | refine Below.st ?_ (by first | assumption | (simp; done) | (simp; omega)) _ | refine Below.drew ?_)⟩)
    | false =>
      obtain rfl : vchk ty nul false n s = e0 := (HN.out.trans (by rw [if_neg o8, if_pos o7]; rfl)).symm
      have tc : (decide (1 ≤ op) && decide (op ≤ 6)) = true := by rw [decide_eq_true (by omega), decide_eq_true (by omega)]; rfl
      have tc6 : decide (op ≤ 6) = true := decide_eq_true (by omega)
      have q0 : (op != 7) = true := by simpa using o7
      clear HN
      go_wp2_with (first | (go_at_call 109; refine (comparisonB_any _ _).mono ?_; rintro e w2 ⟨rfl, hb2⟩; obtain ⟨x2, rfl⟩ := Ext.of hb2; have v0 : w.heap.size < x2.it.heap.size := x2.lt (by (first | with_reducible assumption | (simp only [World.size_setCell, World.size_alloc, World.size_drew]; first | with_reducible assumption | omega))); have v1 : w.heap.size + 1 < x2.it.heap.size := x2.lt (by (first | with_reducible assumption | (simp only [World.size_setCell, World.size_alloc, World.size_drew]; first | with_reducible assumption | omega))); have v2 : y.it.heap.size < x2.it.heap.size := x2.lt (by simp)) | (go_at_call 98; refine (refVcheck_any _ _ _ _ _ _ _ _).mono ?_; rintro e w3 ⟨rfl, hb3⟩; obtain ⟨x3, rfl⟩ := Ext.of hb3; ))
      exact bodyPost_ret (v := .int .i64 (vchk ty nul false n s)) (by simp (maxDischargeDepth := 5) [results, Tryz.results79, go_sem, *]) rfl (⟨rfl, by with_reducible repeat (first | exact Below.refl _ _ | assumption | refine Below.al ?_ _ | refine Below.on ?_ _ | refine Below.st ?_ (by first | assumption | (simp; done) | (simp; omega)) _ | refine Below.drew ?_)⟩)
  have o7' : op = 7 := by omega
  have q0 : (op != 7) = false := by simpa using o7'
  have tc : (decide (1 ≤ op) && decide (op ≤ 6)) = false := by rw [Bool.and_eq_false_iff]; exact .inr (decide_eq_false (by omega))
  have tc6 : decide (op ≤ 6) = false := decide_eq_false (by omega)
  have q8 : ¬ (op = 8) := o8
  by_cases m0 : m = 0
  · skip
    obtain rfl : 1 = e0 := (HN.out.trans (by rw [if_neg o8, if_neg o7, if_pos (by rw [HM.out]; exact m0)])).symm
    have m0' : (m : Int) = 0 := by omega
    clear HN
    go_wp2_with (first | (go_at_call 109; refine (comparisonB_any _ _).mono ?_; rintro e w2 ⟨rfl, hb2⟩; obtain ⟨x2, rfl⟩ := Ext.of hb2; have v0 : w.heap.size < x2.it.heap.size := x2.lt (by (first | with_reducible assumption | (simp only [World.size_setCell, World.size_alloc, World.size_drew]; first | with_reducible assumption | omega))); have v1 : w.heap.size + 1 < x2.it.heap.size := x2.lt (by (first | with_reducible assumption | (simp only [World.size_setCell, World.size_alloc, World.size_drew]; first | with_reducible assumption | omega))); have v2 : y.it.heap.size < x2.it.heap.size := x2.lt (by simp)) | (go_at_call 98; refine (refVcheck_any _ _ _ _ _ _ _ _).mono ?_; rintro e w3 ⟨rfl, hb3⟩; obtain ⟨x3, rfl⟩ := Ext.of hb3; ))
    exact bodyPost_ret (v := .int .i64 (1)) (by simp (maxDischargeDepth := 5) [results, Tryz.results79, go_sem, *]) rfl (⟨rfl, by with_reducible repeat (first | exact Below.refl _ _ | assumption | refine Below.al ?_ _ | refine Below.on ?_ _ | refine Below.st ?_ (by first | assumption | (simp; done) | (simp; omega)) _ | refine Below.drew ?_)⟩)
  by_cases m16 : 16 < m
  · skip
    obtain rfl : 7 = e0 := (HN.out.trans (by rw [if_neg o8, if_neg o7, if_neg (by rw [HM.out]; exact m0), if_pos (by rw [HM.out]; exact m16)])).symm
    have m0' : ¬ (m : Int) = 0 := by omega
    have m16' : (16 : Int) < (m : Int) := by omega
    clear HN
    go_wp2_with (first | (go_at_call 109; refine (comparisonB_any _ _).mono ?_; rintro e w2 ⟨rfl, hb2⟩; obtain ⟨x2, rfl⟩ := Ext.of hb2; have v0 : w.heap.size < x2.it.heap.size := x2.lt (by (first | with_reducible assumption | (simp only [World.size_setCell, World.size_alloc, World.size_drew]; first | with_reducible assumption | omega))); have v1 : w.heap.size + 1 < x2.it.heap.size := x2.lt (by (first | with_reducible assumption | (simp only [World.size_setCell, World.size_alloc, World.size_drew]; first | with_reducible assumption | omega))); have v2 : y.it.heap.size < x2.it.heap.size := x2.lt (by simp)) | (go_at_call 98; refine (refVcheck_any _ _ _ _ _ _ _ _).mono ?_; rintro e w3 ⟨rfl, hb3⟩; obtain ⟨x3, rfl⟩ := Ext.of hb3; ))
    exact bodyPost_ret (v := .int .i64 (7)) (by simp (maxDischargeDepth := 5) [results, Tryz.results79, go_sem, *]) rfl (⟨rfl, by with_reducible repeat (first | exact Below.refl _ _ | assumption | refine Below.al ?_ _ | refine Below.on ?_ _ | refine Below.st ?_ (by first | assumption | (simp; done) | (simp; omega)) _ | refine Below.drew ?_)⟩)
  have m0' : ¬ (m : Int) = 0 := by omega
  have m16' : ¬ (16 : Int) < (m : Int) := by omega
  have LE : e0 = listE ty ls := HN.out.trans (by rw [if_neg o8, if_neg o7, if_neg (by rw [HM.out]; exact m0), if_neg (by rw [HM.out]; exact m16)])
  have HLE := Lib.hid LE
  clear LE HN
  go_upto_region 20 with (go_at_call 109; refine (comparisonB_any _ _).mono ?_; rintro e w2 ⟨rfl, hb2⟩; obtain ⟨x2, rfl⟩ := Ext.of hb2; have v0 : w.heap.size < x2.it.heap.size := x2.lt (by (first | with_reducible assumption | (simp only [World.size_setCell, World.size_alloc, World.size_drew]; first | with_reducible assumption | omega))); have v1 : w.heap.size + 1 < x2.it.heap.size := x2.lt (by (first | with_reducible assumption | (simp only [World.size_setCell, World.size_alloc, World.size_drew]; first | with_reducible assumption | omega))); have v2 : y.it.heap.size < x2.it.heap.size := x2.lt (by simp))
  refine captureP ?_
  intro z ez
  have d0 : z.it.cell? ⟨y.it.heap.size, 0, none⟩ = some (.string cn) := by simp (maxDischargeDepth := 9) [go_sem, *]
  have d1 : z.it.cell? ⟨y.it.heap.size, 1, none⟩ = some (.int .i64 ty) := by simp (maxDischargeDepth := 9) [go_sem, *]
  have d2 : z.it.cell? ⟨y.it.heap.size, 2, none⟩ = some (.int .i64 sc) := by simp (maxDischargeDepth := 9) [go_sem, *]
  have d3 : z.it.cell? ⟨y.it.heap.size, 3, none⟩ = some (.bool nul) := by simp (maxDischargeDepth := 9) [go_sem, *]
  have n5' : z.it.cell? ⟨w.heap.size + 1, 5, none⟩ = some (.slice la m lc) := by simp (maxDischargeDepth := 9) [go_sem, *]
  have r0 : w.heap.size + 1 < z.it.heap.size := by rw [ez]; (first | with_reducible assumption | (simp only [World.size_setCell, World.size_alloc, World.size_drew]; first | with_reducible assumption | omega))
  have r1 : y.it.heap.size < z.it.heap.size := by rw [ez]; (first | with_reducible assumption | (simp; done) | (first | with_reducible assumption | (simp only [World.size_setCell, World.size_alloc, World.size_drew]; first | with_reducible assumption | omega)))
  have zb : Below w.heap.size w z.it := by rw [ez]; exact (by with_reducible repeat (first | exact Below.refl _ _ | assumption | refine Below.al ?_ _ | refine Below.on ?_ _ | refine Below.st ?_ (by first | assumption | (simp; done) | (simp; omega)) _ | refine Below.drew ?_))
  clear ez g0 g1 g2 g3 b0 n0 n1 n2 n3 n4 n5 n6 n7
  go_wp2_with fail
  go_loopg [89] m (fun g st wr => ∃ k : Nat, k + g = m ∧ st = .int .i64 (k : Int) ∧ listE ty ls = listE ty (ls.drop k) ∧ ∃ x : Ext z.it, x.it = wr)
  case atStart => exact ⟨0, by omega, rfl, by simp, ext_of (Below.refl _ _)⟩
  case round =>
    obtain ⟨k, hk, rfl, hF, x, rfl⟩ := hrel
    have hx := x.below
    have hx2 : Below w.heap.size w x.it := Below.on zb x
    by_cases hg0 : gk = 0
    · subst hg0
      obtain rfl : k = m := by omega
      obtain rfl : 0 = e0 := by rw [HLE.out, hF, List.drop_of_length_le (by rw [HM.out]; exact Nat.le_refl _)]; rfl
      clear hF hk HLE
      go_wp2
      exact bodyPost_ret (v := .int .i64 0) (by simp (maxDischargeDepth := 5) [results, Tryz.results79, go_sem, *]) rfl (⟨rfl, by with_reducible repeat (first | exact Below.refl _ _ | assumption | refine Below.al ?_ _ | refine Below.on ?_ _ | refine Below.st ?_ (by first | assumption | (simp; done) | (simp; omega)) _ | refine Below.drew ?_)⟩)
    · have hkm : k < m := by omega
      have hkm' : (k : Int) < (m : Int) := by omega
      have hkl' : k < ls.length := by rw [HM.out]; exact hkm
      obtain ⟨lb, lo, rfl, _, hlb, e0', e1', e2'⟩ := vals_in HV.out hkl'
      have OKL := listE_ok (ty := ty) hkl'
      have BDL := listE_bad (ty := ty) hkl'
      obtain ⟨u, hu⟩ : ∃ u, ls[k]'hkl' = u := ⟨_, rfl⟩
      rw [hu] at OKL BDL e0' e1' e2'
      rw [← hF] at OKL BDL
      obtain ⟨un, uN, us⟩ := u
      dsimp only at OKL BDL e0' e1' e2'
      have p0 := (hx2.cell (p := ⟨lb, lo + k * 3, none⟩) hlb).trans e0'
      have p1 := (hx2.cell (p := ⟨lb, lo + k * 3 + 1, none⟩) hlb).trans e1'
      have p2 := (hx2.cell (p := ⟨lb, lo + k * 3 + 2, none⟩) hlb).trans e2'
      have r2 : lb < x.it.heap.size := Nat.lt_of_lt_of_le hlb hx2.size
      have r3 : y.it.heap.size < x.it.heap.size := x.lt r1
      have HK := Lib.hid hk
      obtain ⟨ve, hve⟩ : ∃ ve, vchk ty true un uN us = ve := ⟨_, rfl⟩
      rw [hve] at OKL BDL
      have HVE := Lib.hid hve
      clear e0' e1' e2' hu hk hg0 hF hve
      by_cases v0 : ve = 0
      · have OK := Lib.hid (OKL v0)
        have v0' : (ve != 0) = false := by simpa using v0
        clear OKL BDL
        have RV := Lib.hid (fun W => (by have h := refVcheck_any cn ty sc true un uN us W; rw [HVE.out] at h; exact h : Calls Tryz.prog 98 #[.agg #[.string cn, .int .i64 ty, .int .i64 sc, .bool true], .agg #[.bool un, .int .i64 uN, .string us]] W fun e w' => e = .returned (.int .i64 ve) ∧ Below W.heap.size W w'))
        go_upto_region 23 with fail
        refine wp_region_ext (by kernel_rfl) (by kernel_rfl) ?_
        repeat (go_big_quiet_step ((first | (go_at_call 110; exact Calls.ext (nullable_any _ _ _ _ _)) | (go_at_call 98; exact Calls.ext (RV.out _)))))
        refine wpQuiet_nil ?_
        rintro _ ⟨x5, rfl⟩
        go_wp2
        go_roundg (gk - 1)
        case measure => have := HK.out; omega
        case rel => exact ⟨k + 1, by have := HK.out; omega, by go_num, OK.out, ext_of (by with_reducible repeat (first | exact Below.refl _ _ | assumption | refine Below.al ?_ _ | refine Below.on ?_ _ | refine Below.st ?_ (by first | assumption | (simp; done) | (simp; omega)) _ | refine Below.drew ?_))⟩
      · have v0' : (ve != 0) = true := by simpa using v0
        obtain rfl : ve = e0 := ((HLE.out.trans (BDL v0))).symm
        clear OKL BDL HLE
        have RV := Lib.hid (fun W => (by have h := refVcheck_any cn ty sc true un uN us W; rw [HVE.out] at h; exact h : Calls Tryz.prog 98 #[.agg #[.string cn, .int .i64 ty, .int .i64 sc, .bool true], .agg #[.bool un, .int .i64 uN, .string us]] W fun e w' => e = .returned (.int .i64 ve) ∧ Below W.heap.size W w'))
        go_upto_region 23 with fail
        refine wp_region_ext (by kernel_rfl) (by kernel_rfl) ?_
        repeat (go_big_quiet_step ((first | (go_at_call 110; exact Calls.ext (nullable_any _ _ _ _ _)) | (go_at_call 98; exact Calls.ext (RV.out _)))))
        refine wpQuiet_nil ?_
        rintro _ ⟨x5, rfl⟩
        go_wp2
        exact bodyPost_ret (v := .int .i64 ve) (by simp (maxDischargeDepth := 5) [results, Tryz.results79, go_sem, *]) rfl (⟨rfl, by with_reducible repeat (first | exact Below.refl _ _ | assumption | refine Below.al ?_ _ | refine Below.on ?_ _ | refine Below.st ?_ (by first | assumption | (simp; done) | (simp; omega)) _ | refine Below.drew ?_)⟩)
end Go.Proofs.YtpahoenanfjhpaaGreat
namespace Go.Proofs.YtpahoenanfjhpaaGreat
open Go.RowKit
set_option maxRecDepth 8000 in
set_option maxHeartbeats 2000000 in
theorem refPredCheck_any (cv : Value) (cs : List Col) (key : Int) (nv : Value) (ns : List Nod) (w : World) (hc : ColsAt w w.heap.size cv cs) (hn : NodsAt w w.heap.size nv ns) :
    Calls Tryz.prog 54 #[.agg #[cv, .int .i64 key], nv] w fun e w' => e = .returned (.int .i64 (predF cs key ns)) ∧ Below w.heap.size w w' := by
  have h63 := hn.1
  obtain ⟨ca, cc, rfl⟩ := cols_end hc
  obtain ⟨na, pc, rfl⟩ := nods_end hn
  obtain ⟨nc, hl⟩ : ∃ nc, cs.length = nc := ⟨_, rfl⟩
  obtain ⟨m, hm⟩ : ∃ m, ns.length = m := ⟨_, rfl⟩
  have HC : Hid (ColsAt w w.heap.size (.slice ca nc cc) cs) := Lib.hid (by rw [← hl]; exact hc)
  have HN : Hid (NodsAt w w.heap.size (.slice na m pc) ns) := Lib.hid (by rw [← hm]; exact hn)
  clear hc hn
  have HM := Lib.hid hm
  rw [hl, hm]
  rw [hm] at h63
  obtain ⟨e0, he0⟩ : ∃ e0, predF cs key ns = e0 := ⟨_, rfl⟩
  rw [he0]
  obtain ⟨es, hes⟩ : ∃ es, schemaF cs key = es := ⟨_, rfl⟩
  have HE : e0 = if es = 0 then (if 64 < ns.length then 7 else nodsE cs 0 ns) else es := by rw [← he0, ← hes]; rfl
  have HES := Lib.hid hes
  clear hl hm he0 hes
  by_cases s0 : es = 0
  · subst s0
    rw [if_pos rfl] at HE
    go_enter Tryz.func54, Tryz.ntmps54
    go_upto_region 2 with (go_at_call 64; have hC1 : ColsAt (w.alloc (.cells #[.slice ca nc cc, .int .i64 key] 24)) (w.alloc (.cells #[.slice ca nc cc, .int .i64 key] 24)).heap.size _ cs := HC.out.mono (Below.al (Below.refl _ _) _) (by simp); refine (refSchema_any _ cs key _ hC1).mono ?_; rintro e w1 ⟨rfl, hb1⟩; obtain ⟨x1, rfl⟩ := Ext.of hb1; have z0 : w.heap.size < x1.it.heap.size := x1.lt (by simp))
    simp only [HES.out]
    refine captureP ?_
    intro y ey
    have b0 : y.it.cell? ⟨w.heap.size, 0, none⟩ = some (.slice ca nc cc) := by simp (maxDischargeDepth := 9) [go_sem, *]
    have b1 : y.it.cell? ⟨w.heap.size, 1, none⟩ = some (.int .i64 key) := by simp (maxDischargeDepth := 9) [go_sem, *]
    have y0 : w.heap.size < y.it.heap.size := by rw [ey]; (first | with_reducible assumption | (simp only [World.size_setCell, World.size_alloc, World.size_drew]; first | with_reducible assumption | omega))
    have yb : Below w.heap.size w y.it := by rw [ey]; exact (by with_reducible repeat (first | exact Below.refl _ _ | assumption | refine Below.al ?_ _ | refine Below.on ?_ _ | refine Below.st ?_ (by first | assumption | (simp; done) | (simp; omega)) _ | refine Below.drew ?_))
    clear ey
    by_cases m64 : 64 < m
    · obtain rfl : 7 = e0 := (HE.trans (if_pos (by rw [HM.out]; exact m64))).symm
      have m64' : (64 : Int) < (m : Int) := by omega
      clear HE
      go_wp2_with fail
      exact bodyPost_ret (v := .int .i64 (7)) (by simp [results, Tryz.results54, go_sem, *]) rfl (⟨rfl, by with_reducible repeat (first | exact Below.refl _ _ | assumption | refine Below.al ?_ _ | refine Below.on ?_ _ | refine Below.st ?_ (by first | assumption | (simp; done) | (simp; omega)) _ | refine Below.drew ?_)⟩)
    have m64' : ¬ (64 : Int) < (m : Int) := by omega
    have HE2 := Lib.hid (HE.trans (if_neg (by rw [HM.out]; exact m64)))
    clear HE
    go_wp2_with fail
    go_loopg [19] m (fun g st wr => ∃ k : Nat, k + g = m ∧ st = .int .i64 (k : Int) ∧ nodsE cs 0 ns = nodsE cs (k : Int) (ns.drop k) ∧ ∃ x : Ext y.it, x.it = wr)
    case atStart => exact ⟨0, by omega, rfl, by simp, ext_of (Below.refl _ _)⟩
    case round =>
      obtain ⟨k, hk, rfl, hF, x, rfl⟩ := hrel
      have hx := x.below
      have hx2 : Below w.heap.size w x.it := Below.on yb x
      have x0 : w.heap.size < x.it.heap.size := x.lt y0
      by_cases hg0 : gk = 0
      · subst hg0
        obtain rfl : k = m := by omega
        obtain rfl : 0 = e0 := by rw [HE2.out, hF, List.drop_of_length_le (by rw [HM.out]; exact Nat.le_refl _)]; rfl
        clear hF hk HE2
        go_wp2
        exact bodyPost_ret (v := .int .i64 (0)) (by simp [results, Tryz.results54, go_sem, *]) rfl (⟨rfl, by with_reducible repeat (first | exact Below.refl _ _ | assumption | refine Below.al ?_ _ | refine Below.on ?_ _ | refine Below.st ?_ (by first | assumption | (simp; done) | (simp; omega)) _ | refine Below.drew ?_)⟩)
      · have hkm : k < m := by omega
        have hkm' : (k : Int) < (m : Int) := by omega
        have hkl : k < ns.length := by rw [HM.out]; exact hkm
        obtain ⟨b, o, rfl, _, hb, lv, c0, c1, c2, c3, c4, c5, c6, c7, hlv⟩ := nods_in HN.out hkl
        have OKL := nodsE_ok (cs := cs) hkl
        have BDL := nodsE_bad (cs := cs) hkl
        obtain ⟨d, hd⟩ : ∃ d, ns[k]'hkl = d := ⟨_, rfl⟩
        rw [hd] at OKL BDL c0 c1 c2 c3 c4 c6 c7 hlv
        rw [← hF] at OKL BDL
        obtain ⟨dop, dcol, ⟨dvn, dn, ds⟩, dls, da, db⟩ := d
        dsimp only at c0 c1 c2 c3 c4 c6 c7 hlv
        have f0 := (hx2.cell (p := ⟨b, o + k * 8, none⟩) hb).trans c0
        have f1 := (hx2.cell (p := ⟨b, o + k * 8 + 1, none⟩) hb).trans c1
        have f2 := (hx2.cell (p := ⟨b, o + k * 8 + 2, none⟩) hb).trans c2
        have f3 := (hx2.cell (p := ⟨b, o + k * 8 + 3, none⟩) hb).trans c3
        have f4 := (hx2.cell (p := ⟨b, o + k * 8 + 4, none⟩) hb).trans c4
        have f5 := (hx2.cell (p := ⟨b, o + k * 8 + 5, none⟩) hb).trans c5
        have f6 := (hx2.cell (p := ⟨b, o + k * 8 + 6, none⟩) hb).trans c6
        have f7 := (hx2.cell (p := ⟨b, o + k * 8 + 7, none⟩) hb).trans c7
        have zb : b < x.it.heap.size := Nat.lt_of_lt_of_le hb hx2.size
        obtain ⟨la, lc, rfl⟩ := vals_end hlv
        obtain ⟨lm, hlm⟩ : ∃ lm, dls.length = lm := ⟨_, rfl⟩
        rw [hlm] at f5 c5 hlv
        have HC1 : Hid (ColsAt (x.it.alloc (.cells #[.int .i64 dop, .int .i64 dcol, .bool dvn, .int .i64 dn, .string ds, .slice la lm lc, .int .i64 da, .int .i64 db] 44)) (x.it.alloc (.cells #[.int .i64 dop, .int .i64 dcol, .bool dvn, .int .i64 dn, .string ds, .slice la lm lc, .int .i64 da, .int .i64 db] 44)).heap.size (.slice ca nc cc) cs) := Lib.hid (HC.out.mono (Below.al hx2 _) (by simp; omega))
        have HV1 : Hid (ValsAt (x.it.alloc (.cells #[.int .i64 dop, .int .i64 dcol, .bool dvn, .int .i64 dn, .string ds, .slice la lm lc, .int .i64 da, .int .i64 db] 44)) (x.it.alloc (.cells #[.int .i64 dop, .int .i64 dcol, .bool dvn, .int .i64 dn, .string ds, .slice la lm lc, .int .i64 da, .int .i64 db] 44)).heap.size (.slice la lm lc) dls) := Lib.hid (hlv.mono (Below.al hx2 _) (by simp; omega))
        obtain ⟨ve, hve⟩ : ∃ ve, nodE cs (k : Int) ⟨dop, dcol, ⟨dvn, dn, ds⟩, dls, da, db⟩ = ve := ⟨_, rfl⟩
        rw [hve] at OKL BDL
        have HVE := Lib.hid hve
        have HK := Lib.hid hk
        clear c0 c1 c2 c3 c4 c5 c6 c7 hlv hlm hd hk hF hve hg0
        by_cases v0 : ve = 0
        · have OK := Lib.hid (OKL v0)
          have v0' : (ve != 0) = false := by simpa using v0
          clear OKL BDL
          go_wp2_with ((go_at_call 79; refine (refNode_any _ cs key _ _ _ _ _ _ _ dls _ _ _ HC1.out HV1.out).mono ?_; rintro e w3 ⟨rfl, hb3⟩; obtain ⟨x3, rfl⟩ := Ext.of hb3; have t0 : w.heap.size < x3.it.heap.size := x3.lt (by (first | with_reducible assumption | (simp only [World.size_setCell, World.size_alloc, World.size_drew]; first | with_reducible assumption | omega)))); simp only [HVE.out])
          go_roundg (gk - 1)
          case measure => have := HK.out; omega
          case rel => exact ⟨k + 1, by have := HK.out; omega, by go_num, OK.out, ext_of (by with_reducible repeat (first | exact Below.refl _ _ | assumption | refine Below.al ?_ _ | refine Below.on ?_ _ | refine Below.st ?_ (by first | assumption | (simp; done) | (simp; omega)) _ | refine Below.drew ?_))⟩
        · have v0' : (ve != 0) = true := by simpa using v0
          obtain rfl : ve = e0 := ((HE2.out.trans (BDL v0))).symm
          clear OKL BDL HE2
          go_wp2_with ((go_at_call 79; refine (refNode_any _ cs key _ _ _ _ _ _ _ dls _ _ _ HC1.out HV1.out).mono ?_; rintro e w3 ⟨rfl, hb3⟩; obtain ⟨x3, rfl⟩ := Ext.of hb3; have t0 : w.heap.size < x3.it.heap.size := x3.lt (by (first | with_reducible assumption | (simp only [World.size_setCell, World.size_alloc, World.size_drew]; first | with_reducible assumption | omega)))); simp only [HVE.out])
          exact bodyPost_ret (v := .int .i64 (ve)) (by simp [results, Tryz.results54, go_sem, *]) rfl (⟨rfl, by with_reducible repeat (first | exact Below.refl _ _ | assumption | refine Below.al ?_ _ | refine Below.on ?_ _ | refine Below.st ?_ (by first | assumption | (simp; done) | (simp; omega)) _ | refine Below.drew ?_)⟩)
  · obtain rfl : es = e0 := (HE.trans (if_neg s0)).symm
    have s0' : (es != 0) = true := by simpa using s0
    clear HE
    go_enter Tryz.func54, Tryz.ntmps54
    go_wp2_with ((go_at_call 64; have hC1 : ColsAt (w.alloc (.cells #[.slice ca nc cc, .int .i64 key] 24)) (w.alloc (.cells #[.slice ca nc cc, .int .i64 key] 24)).heap.size _ cs := HC.out.mono (Below.al (Below.refl _ _) _) (by simp); refine (refSchema_any _ cs key _ hC1).mono ?_; rintro e w1 ⟨rfl, hb1⟩; obtain ⟨x1, rfl⟩ := Ext.of hb1; have z0 : w.heap.size < x1.it.heap.size := x1.lt (by simp)); simp only [HES.out])
    exact bodyPost_ret (v := .int .i64 (es)) (by simp [results, Tryz.results54, go_sem, *]) rfl (⟨rfl, by with_reducible repeat (first | exact Below.refl _ _ | assumption | refine Below.al ?_ _ | refine Below.on ?_ _ | refine Below.st ?_ (by first | assumption | (simp; done) | (simp; omega)) _ | refine Below.drew ?_)⟩)
end Go.Proofs.YtpahoenanfjhpaaGreat
