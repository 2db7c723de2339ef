/-
  PREDICATES: predicate.Check of whatever schema and predicate: 'predF'. Conditions: both lie in memory as 'ColsAt', 'NodsAt' say.
-/
import Derived.Test.YtjojnakgadfgmaaPrd
import Derived.Test.YtjojnakgadfgmaaSc2
set_option linter.unusedVariables false
set_option linter.unusedSimpArgs false
namespace Go.Proofs.Ytjojnakgadfgmaa
open Go.RowKit
def NodCells (w : World) (B b o : Nat) (d : Nod) : Prop := ∃ lv, w.cell? ⟨b, o, none⟩ = some (.int .i64 d.op) ∧ w.cell? ⟨b, o + 1, none⟩ = some (.int .i64 d.col) ∧ w.cell? ⟨b, o + 2, none⟩ = some (.bool d.v.null) ∧ w.cell? ⟨b, o + 3, none⟩ = some (.int .i64 d.v.n) ∧ w.cell? ⟨b, o + 4, none⟩ = some (.string d.v.s) ∧
  w.cell? ⟨b, o + 5, none⟩ = some lv ∧ w.cell? ⟨b, o + 6, none⟩ = some (.int .i64 d.a) ∧ w.cell? ⟨b, o + 7, none⟩ = some (.int .i64 d.b) ∧ ValsAt w B lv d.ls
def NodsAt (w : World) (B : Nat) (v : Value) (cs : List Nod) : Prop :=
  cs.length ≤ 9223372036854775807 ∧
    ((cs = [] ∧ ∃ a c, v = .slice a 0 c) ∨ ∃ b o c, v = .slice (some ⟨b, o, none⟩) cs.length c ∧ cs.length ≤ c ∧ b < B ∧ ∀ j (h : j < cs.length), NodCells w B b (o + j * 8) (cs[j]'h))
theorem nods_end {w : World} {B : Nat} {v : Value} {cs : List Nod} (h : NodsAt w B v cs) : ∃ a c, v = .slice a cs.length c := by
  rcases h.2 with ⟨e, a, c, rfl⟩ | ⟨b, o, c, rfl, _⟩
  · exact ⟨a, c, by rw [e]; rfl⟩
  · exact ⟨_, c, rfl⟩
theorem nods_in {w : World} {B : Nat} {a : Option Addr} {n c : Nat} {cs : List Nod} (h : NodsAt w B (.slice a n c) cs) {i : Nat} (hi : i < cs.length) : ∃ b o, a = some ⟨b, o, none⟩ ∧ cs.length ≤ c ∧ b < B ∧ NodCells w B b (o + i * 8) (cs[i]'hi) := by
  rcases h.2 with ⟨e, _⟩ | ⟨b, o, c, hv, hcap, hb, hc⟩
  · subst e; exact absurd hi (by simp)
  · injection hv with h1 h2 h3
    subst h3
    exact ⟨b, o, h1, hcap, hb, hc i hi⟩
theorem NodCells.mono {w w' : World} {B B' b o : Nat} {d : Nod} (h : NodCells w B b o d) (hb : Below B w w') (hB : B ≤ B') (hlt : b < B) : NodCells w' B' b o d := by
  obtain ⟨lv, h0, h1, h2, h3, h4, h5, h6, h7, hv⟩ := h
  exact ⟨lv, (hb.cell (p := ⟨b, o, none⟩) hlt).trans h0, (hb.cell (p := ⟨b, o + 1, none⟩) hlt).trans h1, (hb.cell (p := ⟨b, o + 2, none⟩) hlt).trans h2, (hb.cell (p := ⟨b, o + 3, none⟩) hlt).trans h3, (hb.cell (p := ⟨b, o + 4, none⟩) hlt).trans h4,
    (hb.cell (p := ⟨b, o + 5, none⟩) hlt).trans h5, (hb.cell (p := ⟨b, o + 6, none⟩) hlt).trans h6, (hb.cell (p := ⟨b, o + 7, none⟩) hlt).trans h7, hv.mono hb hB⟩
theorem NodsAt.mono {w w' : World} {B B' : Nat} {v : Value} {cs : List Nod} (h : NodsAt w B v cs) (hb : Below B w w') (hB : B ≤ B') : NodsAt w' B' v cs := by
  refine ⟨h.1, h.2.imp id ?_⟩
  rintro ⟨b, o, c, hv, hcap, hlt, hc⟩
  exact ⟨b, o, c, hv, hcap, Nat.lt_of_lt_of_le hlt hB, fun j hj => (hc j hj).mono hb hB hlt⟩
def nodsE (cs : List Col) (i : Int) : List Nod → Int
  | [] => 0
  | d :: r => if nodE cs i d = 0 then nodsE cs (i + 1) r else nodE cs i d
def predF (cs : List Col) (key : Int) (ns : List Nod) : Int := if schemaF cs key = 0 then (if 64 < ns.length then 7 else nodsE cs 0 ns) else schemaF cs key
theorem nodsE_ok {cs : List Col} {ns : List Nod} {k : Nat} (h : k < ns.length) (h0 : nodE cs (k : Int) (ns[k]'h) = 0) : nodsE cs (k : Int) (ns.drop k) = nodsE cs ((k + 1 : Nat) : Int) (ns.drop (k + 1)) := by
  rw [List.drop_eq_getElem_cons h]
  simp only [nodsE]
  rw [if_pos h0]; rfl
theorem nodsE_bad {cs : List Col} {ns : List Nod} {k : Nat} (h : k < ns.length) (h0 : ¬ nodE cs (k : Int) (ns[k]'h) = 0) : nodsE cs (k : Int) (ns.drop k) = nodE cs (k : Int) (ns[k]'h) := by
  rw [List.drop_eq_getElem_cons h]
  simp only [nodsE]
  rw [if_neg h0]

set_option maxRecDepth 8000 in
set_option maxHeartbeats 2000000 in
theorem predCheck_any (cv : Value) (cs : List Col) (key : Int) (nv : Value) (ns : List Nod) (w : World) (hc : ColsAt w w.heap.size cv cs) (hn : NodsAt w w.heap.size nv ns) :
    Calls Try.prog 39 #[.agg #[cv, .int .i64 key], nv] w fun e w' => e = .returned (.int .i64 (predF cs key ns)) ∧ Below w.heap.size w w' := by
  have h63 := hn.1
  obtain ⟨ca, cc, rfl⟩ := cols_end hc
  obtain ⟨na, pc, rfl⟩ := nods_end hn
  obtain ⟨nc, hl⟩ : ∃ nc, cs.length = nc := ⟨_, rfl⟩
  obtain ⟨m, hm⟩ : ∃ m, ns.length = m := ⟨_, rfl⟩
  have HC : Hid (ColsAt w w.heap.size (.slice ca nc cc) cs) := Lib.hid (by rw [← hl]; exact hc)
  have HN : Hid (NodsAt w w.heap.size (.slice na m pc) ns) := Lib.hid (by rw [← hm]; exact hn)
  clear hc hn
  have HM := Lib.hid hm
  rw [hl, hm]
  rw [hm] at h63
  obtain ⟨e0, he0⟩ : ∃ e0, predF cs key ns = e0 := ⟨_, rfl⟩
  rw [he0]
  obtain ⟨es, hes⟩ : ∃ es, schemaF cs key = es := ⟨_, rfl⟩
  have HE : e0 = if es = 0 then (if 64 < ns.length then 7 else nodsE cs 0 ns) else es := by rw [← he0, ← hes]; rfl
  have HES := Lib.hid hes
  clear hl hm he0 hes
  by_cases s0 : es = 0
  · subst s0
    rw [if_pos rfl] at HE
    go_enter Try.func39, Try.ntmps39
    go_upto_region 2 with (go_at_call 52; have hC1 : ColsAt (w.alloc (.cells #[.slice ca nc cc, .int .i64 key] 50)) (w.alloc (.cells #[.slice ca nc cc, .int .i64 key] 50)).heap.size _ cs := HC.out.mono (Below.al (Below.refl _ _) _) (by simp); refine (schema_any _ cs key _ hC1).mono ?_; rintro e w1 ⟨rfl, hb1⟩; obtain ⟨x1, rfl⟩ := Ext.of hb1; have z0 : w.heap.size < x1.it.heap.size := x1.lt (by simp))
    simp only [HES.out]
    refine captureP ?_
    intro y ey
    have b0 : y.it.cell? ⟨w.heap.size, 0, none⟩ = some (.slice ca nc cc) := by simp (maxDischargeDepth := 9) [go_sem, *]
    have b1 : y.it.cell? ⟨w.heap.size, 1, none⟩ = some (.int .i64 key) := by simp (maxDischargeDepth := 9) [go_sem, *]
    have y0 : w.heap.size < y.it.heap.size := by rw [ey]; (first | with_reducible assumption | (simp only [World.size_setCell, World.size_alloc, World.size_drew]; first | with_reducible assumption | omega))
    have yb : Below w.heap.size w y.it := by rw [ey]; exact (by repeat (first | with_reducible exact Below.refl _ _ | with_reducible assumption | with_reducible refine Below.al ?_ _ | with_reducible refine Below.on ?_ _ | with_reducible refine Below.st ?_ (by first | assumption | (simp; done) | (simp; omega)) _ | with_reducible refine Below.drew ?_))
    clear ey
    by_cases m64 : 64 < m
    · obtain rfl : 7 = e0 := (HE.trans (if_pos (by rw [HM.out]; exact m64))).symm
      have m64' : (64 : Int) < (m : Int) := by omega
      clear HE
      go_wp2_with fail
      exact bodyPost_ret (v := .int .i64 (7)) (by simp [results, Try.results39, go_sem, *]) rfl (⟨rfl, by repeat (first | with_reducible exact Below.refl _ _ | with_reducible assumption | with_reducible refine Below.al ?_ _ | with_reducible refine Below.on ?_ _ | with_reducible refine Below.st ?_ (by first | assumption | (simp; done) | (simp; omega)) _ | with_reducible refine Below.drew ?_)⟩)
    have m64' : ¬ (64 : Int) < (m : Int) := by omega
    have HE2 := Lib.hid (HE.trans (if_neg (by rw [HM.out]; exact m64)))
    clear HE
    go_wp2_with fail
    go_loopg [19] m (fun g st wr => ∃ k : Nat, k + g = m ∧ st = .int .i64 (k : Int) ∧ nodsE cs 0 ns = nodsE cs (k : Int) (ns.drop k) ∧ ∃ x : Ext y.it, x.it = wr)
    case atStart => exact ⟨0, by omega, rfl, by simp, ext_of (Below.refl _ _)⟩
    case round =>
      obtain ⟨k, hk, rfl, hF, x, rfl⟩ := hrel
      have hx := x.below
      have hx2 : Below w.heap.size w x.it := Below.on yb x
      have x0 : w.heap.size < x.it.heap.size := x.lt y0
      by_cases hg0 : gk = 0
      · subst hg0
        obtain rfl : k = m := by omega
        obtain rfl : 0 = e0 := by rw [HE2.out, hF, List.drop_of_length_le (by rw [HM.out]; exact Nat.le_refl _)]; rfl
        clear hF hk HE2
        go_wp2
        exact bodyPost_ret (v := .int .i64 (0)) (by simp [results, Try.results39, go_sem, *]) rfl (⟨rfl, by repeat (first | with_reducible exact Below.refl _ _ | with_reducible assumption | with_reducible refine Below.al ?_ _ | with_reducible refine Below.on ?_ _ | with_reducible refine Below.st ?_ (by first | assumption | (simp; done) | (simp; omega)) _ | with_reducible refine Below.drew ?_)⟩)
      · have hkm : k < m := by omega
        have hkm' : (k : Int) < (m : Int) := by omega
        have hkl : k < ns.length := by rw [HM.out]; exact hkm
        obtain ⟨b, o, rfl, _, hb, lv, c0, c1, c2, c3, c4, c5, c6, c7, hlv⟩ := nods_in HN.out hkl
        have OKL := nodsE_ok (cs := cs) hkl
        have BDL := nodsE_bad (cs := cs) hkl
        obtain ⟨d, hd⟩ : ∃ d, ns[k]'hkl = d := ⟨_, rfl⟩
        rw [hd] at OKL BDL c0 c1 c2 c3 c4 c6 c7 hlv
        rw [← hF] at OKL BDL
        obtain ⟨dop, dcol, ⟨dvn, dn, ds⟩, dls, da, db⟩ := d
        dsimp only at c0 c1 c2 c3 c4 c6 c7 hlv
        have f0 := (hx2.cell (p := ⟨b, o + k * 8, none⟩) hb).trans c0
        have f1 := (hx2.cell (p := ⟨b, o + k * 8 + 1, none⟩) hb).trans c1
        have f2 := (hx2.cell (p := ⟨b, o + k * 8 + 2, none⟩) hb).trans c2
        have f3 := (hx2.cell (p := ⟨b, o + k * 8 + 3, none⟩) hb).trans c3
        have f4 := (hx2.cell (p := ⟨b, o + k * 8 + 4, none⟩) hb).trans c4
        have f5 := (hx2.cell (p := ⟨b, o + k * 8 + 5, none⟩) hb).trans c5
        have f6 := (hx2.cell (p := ⟨b, o + k * 8 + 6, none⟩) hb).trans c6
        have f7 := (hx2.cell (p := ⟨b, o + k * 8 + 7, none⟩) hb).trans c7
        have zb : b < x.it.heap.size := Nat.lt_of_lt_of_le hb hx2.size
        obtain ⟨la, lc, rfl⟩ := vals_end hlv
        obtain ⟨lm, hlm⟩ : ∃ lm, dls.length = lm := ⟨_, rfl⟩
        rw [hlm] at f5 c5 hlv
        have HC1 : Hid (ColsAt (x.it.alloc (.cells #[.int .i64 dop, .int .i64 dcol, .bool dvn, .int .i64 dn, .string ds, .slice la lm lc, .int .i64 da, .int .i64 db] 43)) (x.it.alloc (.cells #[.int .i64 dop, .int .i64 dcol, .bool dvn, .int .i64 dn, .string ds, .slice la lm lc, .int .i64 da, .int .i64 db] 43)).heap.size (.slice ca nc cc) cs) := Lib.hid (HC.out.mono (Below.al hx2 _) (by simp; omega))
        have HV1 : Hid (ValsAt (x.it.alloc (.cells #[.int .i64 dop, .int .i64 dcol, .bool dvn, .int .i64 dn, .string ds, .slice la lm lc, .int .i64 da, .int .i64 db] 43)) (x.it.alloc (.cells #[.int .i64 dop, .int .i64 dcol, .bool dvn, .int .i64 dn, .string ds, .slice la lm lc, .int .i64 da, .int .i64 db] 43)).heap.size (.slice la lm lc) dls) := Lib.hid (hlv.mono (Below.al hx2 _) (by simp; omega))
        obtain ⟨ve, hve⟩ : ∃ ve, nodE cs (k : Int) ⟨dop, dcol, ⟨dvn, dn, ds⟩, dls, da, db⟩ = ve := ⟨_, rfl⟩
        rw [hve] at OKL BDL
        have HVE := Lib.hid hve
        have HK := Lib.hid hk
        clear c0 c1 c2 c3 c4 c5 c6 c7 hlv hlm hd hk hF hve hg0
        by_cases v0 : ve = 0
        · have OK := Lib.hid (OKL v0)
          have v0' : (ve != 0) = false := by simpa using v0
          clear OKL BDL
          go_wp2_with ((go_at_call 53; refine (node_any _ cs key _ _ _ _ _ _ _ dls _ _ _ HC1.out HV1.out).mono ?_; rintro e w3 ⟨rfl, hb3⟩; obtain ⟨x3, rfl⟩ := Ext.of hb3; have t0 : w.heap.size < x3.it.heap.size := x3.lt (by (first | with_reducible assumption | (simp only [World.size_setCell, World.size_alloc, World.size_drew]; first | with_reducible assumption | omega)))); simp only [HVE.out])
          go_roundg (gk - 1)
          case measure => have := HK.out; omega
          case rel => exact ⟨k + 1, by have := HK.out; omega, by go_num, OK.out, ext_of (by repeat (first | with_reducible exact Below.refl _ _ | with_reducible assumption | with_reducible refine Below.al ?_ _ | with_reducible refine Below.on ?_ _ | with_reducible refine Below.st ?_ (by first | assumption | (simp; done) | (simp; omega)) _ | with_reducible refine Below.drew ?_))⟩
        · have v0' : (ve != 0) = true := by simpa using v0
          obtain rfl : ve = e0 := ((HE2.out.trans (BDL v0))).symm
          clear OKL BDL HE2
          go_wp2_with ((go_at_call 53; refine (node_any _ cs key _ _ _ _ _ _ _ dls _ _ _ HC1.out HV1.out).mono ?_; rintro e w3 ⟨rfl, hb3⟩; obtain ⟨x3, rfl⟩ := Ext.of hb3; have t0 : w.heap.size < x3.it.heap.size := x3.lt (by (first | with_reducible assumption | (simp only [World.size_setCell, World.size_alloc, World.size_drew]; first | with_reducible assumption | omega)))); simp only [HVE.out])
          exact bodyPost_ret (v := .int .i64 (ve)) (by simp [results, Try.results39, go_sem, *]) rfl (⟨rfl, by repeat (first | with_reducible exact Below.refl _ _ | with_reducible assumption | with_reducible refine Below.al ?_ _ | with_reducible refine Below.on ?_ _ | with_reducible refine Below.st ?_ (by first | assumption | (simp; done) | (simp; omega)) _ | with_reducible refine Below.drew ?_)⟩)
  · obtain rfl : es = e0 := (HE.trans (if_neg s0)).symm
    have s0' : (es != 0) = true := by simpa using s0
    clear HE
    go_enter Try.func39, Try.ntmps39
    go_wp2_with ((go_at_call 52; have hC1 : ColsAt (w.alloc (.cells #[.slice ca nc cc, .int .i64 key] 50)) (w.alloc (.cells #[.slice ca nc cc, .int .i64 key] 50)).heap.size _ cs := HC.out.mono (Below.al (Below.refl _ _) _) (by simp); refine (schema_any _ cs key _ hC1).mono ?_; rintro e w1 ⟨rfl, hb1⟩; obtain ⟨x1, rfl⟩ := Ext.of hb1; have z0 : w.heap.size < x1.it.heap.size := x1.lt (by simp)); simp only [HES.out])
    exact bodyPost_ret (v := .int .i64 (es)) (by simp [results, Try.results39, go_sem, *]) rfl (⟨rfl, by repeat (first | with_reducible exact Below.refl _ _ | with_reducible assumption | with_reducible refine Below.al ?_ _ | with_reducible refine Below.on ?_ _ | with_reducible refine Below.st ?_ (by first | assumption | (simp; done) | (simp; omega)) _ | with_reducible refine Below.drew ?_)⟩)
end Go.Proofs.Ytjojnakgadfgmaa
