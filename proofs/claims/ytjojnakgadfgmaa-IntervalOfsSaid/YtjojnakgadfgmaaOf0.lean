/-
  INTERVAL.OF: small tools, and the whole of 'leaf': IN too. Conditions: each theorem states its own.
-/
import Derived.Test.YtjojnakgadfgmaaOfc
import Derived.Deep.CutRange
set_option linter.unusedVariables false
set_option linter.unusedSimpArgs false
namespace Go.Proofs.Ytjojnakgadfgmaa
open Go.RowKit
theorem wpList_here {P : Program} {ops : Array Oper} {Q : Exit → Act → World → Prop} {l : List Oper} {a : Act} {w : World} (h : wpList P ops Q l a w) : wpList P ops Q l a w := h
theorem bnd_one (b : Bnd) : (bndC b).toArray.all (·.oneCell') = true := by simp [bndC, Value.oneCell']
theorem pair_one (p : Bnd × Bnd) : (pairC p).toArray.all (·.oneCell') = true := by simp [pairC, bndC, Value.oneCell']
theorem results_cell_tmp {P : Program} {fn : Func} {p q : Tmp} {ty : TypeId} (h : fn.results = #[.cell p ty, .tmp q]) (tmps : Array Value) (w : World) (b o : Nat) (cs : List Value) (d : TypeDesc) (v : Value)
    (hp : tmps.getD p undef = .pointer (some ⟨b, o, none⟩)) (hg : w.rangeAt b o cs) (hu : P.underlying ty = some d) (hd : d.isRow = true) (hi : (P.info? ty).map (·.size) = some cs.length) (hq : tmps.getD q undef = v) :
    (results fn tmps).run P w = .ok (.tuple #[.agg cs.toArray, v]) w := by
  have hp' : tmps[p]?.getD undef = .pointer (some ⟨b, o, none⟩) := by simpa using hp
  have hq' : tmps[q]?.getD undef = v := by simpa using hq
  simp [results, h, hp', hq', asAddr, run_loadVar_mid w b o ty cs d hg hu hd hi]
theorem infoPair : (Try.prog.info? 74).map (fun i => (i.zero, i.size, i.bytes)) = some (some (.agg #[.bool false, .bool false, .bool false, .bool false, .bool false, .int .i64 0, .string ⟨#[]⟩, .bool false, .int .i64 0, .string ⟨#[]⟩, .bool false, .bool false, .bool false, .bool false, .bool false, .int .i64 0, .string ⟨#[]⟩, .bool false, .int .i64 0, .string ⟨#[]⟩]), 20, 144) := by kernel_rfl
theorem rangeAt_new {w : World} (c : Array Value) (t : TypeId) (n : Nat) (hn : n = w.heap.size) (cs : List Value) (hc : c = cs.toArray) : (w.alloc (.cells c t)).rangeAt n 0 cs := by
  intro j v hv
  subst hn hc
  rw [World.cell?_alloc_at _ _ _ _ rfl]
  simpa using hv
theorem there_new' {w : World} (c : Array Value) (t : TypeId) (n N : Nat) (hn : n = w.heap.size) (hN : c.size = N) : (w.alloc (.cells c t)).there n 0 N := hN ▸ there_new c t n hn
def inStep (ty : Int) (p : Bnd × Bnd) (v : Val) : Bnd × Bnd := if v.null = true then (p.1, bZero) else (joinF ty p.1 (bOne v), p.2)
def inF (ty : Int) (ls : List Val) : Bnd × Bnd := ls.foldl (inStep ty) (bZero, bSome)
theorem inF_succ (ty : Int) {l : List Val} {k : Nat} (h : k < l.length) : inF ty (l.take (k + 1)) = inStep ty (inF ty (l.take k)) (l[k]'h) := by
  unfold inF
  rw [List.take_succ_eq_append_getElem h, List.foldl_append]
  rfl
theorem rangeAt_post {w : World} {b o : Nat} {xs ys : List Value} (h : w.rangeAt b o (xs ++ ys)) : w.rangeAt b (o + xs.length) ys := fun j v hv => by
  have := h (xs.length + j) v (by rw [List.getElem?_append_right (by omega), Nat.add_sub_cancel_left]; exact hv)
  rw [Nat.add_assoc]; exact this
theorem rangeAt_app {w : World} {b o : Nat} {xs ys : List Value} (h : w.rangeAt b o xs) (k : w.rangeAt b (o + xs.length) ys) : w.rangeAt b o (xs ++ ys) := fun j v hv => by
  rcases Nat.lt_or_ge j xs.length with q | q
  · rw [List.getElem?_append_left q] at hv; exact h j v hv
  · rw [List.getElem?_append_right q] at hv
    have := k (j - xs.length) v hv
    rw [show o + xs.length + (j - xs.length) = o + j by omega] at this
    exact this
theorem there_at {w : World} {b N o n : Nat} (h : w.there b 0 N) (hn : o + n ≤ N) : w.there b o n := fun j hj => by
  have := h (o + j) (by omega)
  rw [Nat.zero_add] at this
  exact this
/-- The pair of leaf's loop, in block OB; RB holds the result. -/
structure LfMem (w : World) (OB RB : Nat) (p : Bnd × Bnd) : Prop where
  o : OB < w.heap.size
  r : RB < w.heap.size
  ro : RB ≠ OB
  ot : w.there OB 0 20
  rt : w.there RB 0 20
  ov : w.rangeAt OB 0 (pairC p)
theorem LfMem.below {w w' : World} {OB RB : Nat} {p : Bnd × Bnd} (h : LfMem w OB RB p) (hb : Below w.heap.size w w') : LfMem w' OB RB p :=
  ⟨Nat.lt_of_lt_of_le h.o hb.size, Nat.lt_of_lt_of_le h.r hb.size, h.ro, there_below h.ot hb h.o, there_below h.rt hb h.r, rangeAt_below h.ov hb h.o⟩
theorem LfMem.yes {w : World} {OB RB : Nat} {p : Bnd × Bnd} (h : LfMem w OB RB p) (q : Bnd) : LfMem (w.setCells OB 0 (bndC q)) OB RB (q, p.2) := by
  refine ⟨by rw [size_setCells]; exact h.o, by rw [size_setCells]; exact h.r, h.ro, World.there_setCells h.ot _ _ _, World.there_setCells h.rt _ _ _, rangeAt_app (World.rangeAt_setCells_same _ _ _ _ (there_at h.ot (by show 0 + 10 ≤ 20; omega))) ?_⟩
  exact World.rangeAt_setCells_apart (rangeAt_post (xs := bndC p.1) h.ov) _ _ _ (.inr (.inr (by show 0 + 10 ≤ 0 + 10; omega)))
theorem LfMem.no {w : World} {OB RB : Nat} {p : Bnd × Bnd} (h : LfMem w OB RB p) (q : Bnd) : LfMem (w.setCells OB 10 (bndC q)) OB RB (p.1, q) := by
  refine ⟨by rw [size_setCells]; exact h.o, by rw [size_setCells]; exact h.r, h.ro, World.there_setCells h.ot _ _ _, World.there_setCells h.rt _ _ _, rangeAt_app ?_ (World.rangeAt_setCells_same _ _ _ _ (there_at h.ot (by show 10 + 10 ≤ 20; omega)))⟩
  exact World.rangeAt_setCells_apart (rangeAt_pre (xs := bndC p.1) (ys := bndC p.2) h.ov) _ _ _ (.inr (.inl (by show 0 + 10 ≤ 10; omega)))
theorem in_yes {w : World} {OB RB : Nat} {t : Int} {ui : Int} {us : ByteArray} {q J : Bnd} {F : Bnd × Bnd} {y : Bnd} (hF : F = inStep t (y, q) ⟨false, ui, us⟩) (hJ : joinF t y (bOne ⟨false, ui, us⟩) = J) (h : LfMem w OB RB (y, q)) : LfMem (w.setCells OB 0 (bndC J)) OB RB F := by
  have e : inStep t (y, q) ⟨false, ui, us⟩ = (joinF t y (bOne ⟨false, ui, us⟩), q) := if_neg (by simp)
  rw [hF, e, hJ]
  exact h.yes J
set_option maxRecDepth 8000 in
set_option maxHeartbeats 1000000 in
theorem leaf_7 (t col : Int) (vn : Bool) (n : Int) (s : ByteArray) (lv : Value) (ls : List Val) (a b : Int) (w : World) (hv : ValsAt w w.heap.size lv ls) :
    Calls Try.prog 40 #[.int .i64 t, .agg #[.int .i64 7, .int .i64 col, .bool vn, .int .i64 n, .string s, lv, .int .i64 a, .int .i64 b]] w fun e w' => e = .returned (.agg (pairC (inF t ls)).toArray) ∧ Below w.heap.size w w' := by
  obtain ⟨la, lc, rfl⟩ := vals_end hv
  obtain ⟨m, hm⟩ : ∃ m, ls.length = m := ⟨_, rfl⟩
  have h63 := hv.1
  have HV : Hid (ValsAt w w.heap.size (.slice la m lc) ls) := Lib.hid (by rw [← hm]; exact hv)
  have HM := Lib.hid hm
  rw [hm] at h63 ⊢
  clear hv hm
  go_enter Try.func40, Try.ntmps40
  go_upto_region 18 with fail
  refine captureE ?_
  intro v ev
  have vb : Below w.heap.size w v.it := by rw [ev]; exact (by repeat (first | with_reducible exact Below.refl _ _ | with_reducible assumption | with_reducible refine Below.al ?_ _ | with_reducible refine Below.on ?_ _ | with_reducible refine Below.st ?_ (by first | assumption | (simp; done) | (simp; omega)) _ | with_reducible refine Below.drew ?_))
  have rt : v.it.there (w.heap.size + 1) 0 20 := by
    rw [ev]
    repeat (first | exact there_new _ _ _ (by simp) | refine World.there_alloc ?_ _)
  have n5 : v.it.cell? ⟨w.heap.size, 5, none⟩ = some (.slice la m lc) := by rw [ev]; simp (maxDischargeDepth := 9) [go_sem, *]
  have k0 : v.it.cell? ⟨w.heap.size + 1 + 1, 0, none⟩ = some (.bool false) := by rw [ev]; simp (maxDischargeDepth := 9) [go_sem, *]
  have k1 : v.it.cell? ⟨w.heap.size + 1 + 1, 1, none⟩ = some (.bool true) := by rw [ev]; simp (maxDischargeDepth := 9) [go_sem, *]
  have k2 : v.it.cell? ⟨w.heap.size + 1 + 1, 2, none⟩ = some (.bool false) := by rw [ev]; simp (maxDischargeDepth := 9) [go_sem, *]
  have k3 : v.it.cell? ⟨w.heap.size + 1 + 1, 3, none⟩ = some (.bool false) := by rw [ev]; simp (maxDischargeDepth := 9) [go_sem, *]
  have k4 : v.it.cell? ⟨w.heap.size + 1 + 1, 4, none⟩ = some (.bool false) := by rw [ev]; simp (maxDischargeDepth := 9) [go_sem, *]
  have k5 : v.it.cell? ⟨w.heap.size + 1 + 1, 5, none⟩ = some (.int .i64 0) := by rw [ev]; simp (maxDischargeDepth := 9) [go_sem, *]
  have k6 : v.it.cell? ⟨w.heap.size + 1 + 1, 6, none⟩ = some (.string ⟨#[]⟩) := by rw [ev]; simp (maxDischargeDepth := 9) [go_sem, *]
  have k7 : v.it.cell? ⟨w.heap.size + 1 + 1, 7, none⟩ = some (.bool false) := by rw [ev]; simp (maxDischargeDepth := 9) [go_sem, *]
  have k8 : v.it.cell? ⟨w.heap.size + 1 + 1, 8, none⟩ = some (.int .i64 0) := by rw [ev]; simp (maxDischargeDepth := 9) [go_sem, *]
  have k9 : v.it.cell? ⟨w.heap.size + 1 + 1, 9, none⟩ = some (.string ⟨#[]⟩) := by rw [ev]; simp (maxDischargeDepth := 9) [go_sem, *]
  have z5 : w.heap.size + 1 + 1 < v.it.heap.size := by rw [ev]; simp
  have z0 : w.heap.size < v.it.heap.size := by omega
  have RT := Lib.hid rt
  clear ev rt
  go_upto_region 19 with ((with_reducible refine wpList_here ?_); refine wpList_store_mid rfl 74 _ _ rfl v.it.heap.size 0 (pairC (bZero, bSome)).toArray rfl rfl (there_new _ _ _ rfl) (by kernel_rfl) (pair_one _) ?_)
  have LM : LfMem ((v.it.alloc (.cells #[.bool false, .bool false, .bool false, .bool false, .bool false, .int .i64 0, .string ⟨#[]⟩, .bool false, .int .i64 0, .string ⟨#[]⟩, .bool false, .bool false, .bool false, .bool false, .bool false, .int .i64 0, .string ⟨#[]⟩, .bool false, .int .i64 0, .string ⟨#[]⟩] 74)).setCells v.it.heap.size 0 (pairC (bZero, bSome))) v.it.heap.size (w.heap.size + 1) (bZero, bSome) :=
    ⟨by rw [size_setCells]; simp, by rw [size_setCells]; simp; omega, by omega, World.there_setCells (there_new _ _ _ rfl) _ _ _, World.there_setCells (World.there_alloc RT.out _) _ _ _, World.rangeAt_setCells_same _ _ _ _ (there_new _ _ _ rfl)⟩
  have LMH := Lib.hid LM
  refine captureE ?_
  intro y ey
  have yv : Below v.it.heap.size v.it y.it := by rw [ey]; exact Below.stc (Below.al (Below.refl _ _) _) (Nat.le_refl _) _ _
  have yb : Below w.heap.size w y.it := vb.trans (yv.mono vb.size)
  have LY : Hid (LfMem y.it v.it.heap.size (w.heap.size + 1) (bZero, bSome)) := Lib.hid (by rw [ey]; exact LMH.out)
  have n5' := (yv.cell (p := ⟨w.heap.size, 5, none⟩) z0).trans n5
  have zO : w.heap.size ≤ v.it.heap.size := by omega
  have y0 : w.heap.size < y.it.heap.size := Nat.lt_of_lt_of_le z0 yv.size
  clear ey LM LMH k0 k1 k2 k3 k4 k5 k6 k7 k8 k9 n5 z5 z0 RT yv vb
  generalize v.it.heap.size = OB at *
  go_wp2_with fail
  go_loopg [58] m (fun g st wr => ∃ k : Nat, k + g = m ∧ st = .int .i64 (k : Int) ∧ ∃ x : Ext w, x.it = wr ∧ LfMem x.it OB (w.heap.size + 1) (inF t (ls.take k)))
  case atStart => exact ⟨0, by omega, rfl, ⟨y.it, yb⟩, rfl, LY.out⟩
  case round =>
    obtain ⟨k, hk, rfl, x, rfl, M⟩ := hrel
    clear LY n5' y0 yb
    have hx := x.below
    have zO' := M.o
    have zR := M.r
    by_cases hg0 : gk = 0
    · subst hg0
      obtain rfl : k = m := by omega
      have TK : ls.take k = ls := List.take_of_length_le (by rw [HM.out]; exact Nat.le_refl _)
      rw [TK] at M
      obtain ⟨R, hR⟩ : ∃ R, inF t ls = R := ⟨_, rfl⟩
      rw [hR] at M
      have HR := Lib.hid hR
      have OV := Lib.hid M.ov
      have RT := Lib.hid M.rt
      clear M TK hk hR
      go_wp2_with (first | ((with_reducible refine wpList_here ?_); refine wpList_load_mid rfl 74 _ rfl OB 0 rfl (pairC R) _ OV.out Try.underlying74 rfl (by kernel_rfl) ?_) | ((with_reducible refine wpList_here ?_); refine wpList_store_mid rfl 74 _ _ rfl (w.heap.size + 1) 0 (pairC R).toArray rfl rfl RT.out (by kernel_rfl) (pair_one R) ?_))
      refine bodyPost_ret (v := .agg (pairC R).toArray) ?_ rfl ⟨by rw [HR.out], ?_⟩
      · exact results_cell_mid Try.results40 _ _ (w.heap.size + 1) 0 (pairC R) _ rfl (World.rangeAt_setCells_same _ _ _ _ RT.out) Try.underlying74 rfl (by kernel_rfl)
      · exact Below.stc hx (by omega) _ _
    · have hkm : k < m := by omega
      have hkm' : (k : Int) < (m : Int) := by omega
      have hkl : k < ls.length := by rw [HM.out]; exact hkm
      obtain ⟨b, o, rfl, _, hb, c0, c1, c2⟩ := vals_in HV.out hkl
      have AS := Lib.hid (inF_succ t hkl)
      obtain ⟨u, hu⟩ : ∃ u, ls[k]'hkl = u := ⟨_, rfl⟩
      rw [hu] at AS c0 c1 c2
      obtain ⟨un, ui, us⟩ := u
      dsimp only at c0 c1 c2
      have f0 := (hx.cell (p := ⟨b, o + k * 3, none⟩) hb).trans c0
      have f1 := (hx.cell (p := ⟨b, o + k * 3 + 1, none⟩) hb).trans c1
      have f2 := (hx.cell (p := ⟨b, o + k * 3 + 2, none⟩) hb).trans c2
      have zb : b < x.it.heap.size := Nat.lt_of_lt_of_le hb hx.size
      have HK := Lib.hid (And.intro hk hg0)
      obtain ⟨p, hp⟩ : ∃ p, inF t (ls.take k) = p := ⟨_, rfl⟩
      rw [hp] at M AS
      have M' := Lib.hid M
      clear c0 c1 c2 hu hk hg0 M hp
      cases un with
      | true =>
        have MA := Lib.hid (M'.out.below (w' := x.it.alloc (.cells #[.bool true, .int .i64 ui, .string us] 23)) ((Below.refl _ _).alloc (Nat.le_refl _) _))
        have MN : Hid (LfMem ((x.it.alloc (.cells #[.bool true, .int .i64 ui, .string us] 23)).setCells OB 10 (bndC bZero)) OB (w.heap.size + 1) (inF t (ls.take (k + 1)))) := Lib.hid (by
          have h := MA.out.no bZero
          have e : inStep t p ⟨true, ui, us⟩ = (p.1, bZero) := if_pos rfl
          rw [AS.out, e]
          exact h)
        have BN : Hid (Below w.heap.size w ((x.it.alloc (.cells #[.bool true, .int .i64 ui, .string us] 23)).setCells OB 10 (bndC bZero))) := Lib.hid (Below.stc (Below.al hx _) zO _ _)
        go_upto_region 23 with fail
        go_upto_region 25 with ((with_reducible refine wpList_here ?_); refine wpList_store_mid rfl 25 _ _ rfl OB 10 (bndC bZero).toArray rfl rfl (there_at MA.out.ot (by show 10 + 10 ≤ 20; omega)) (by kernel_rfl) (bnd_one _) ?_)
        go_wp2_with fail
        go_roundg (gk - 1)
        case measure => have := HK.out; omega
        case rel => exact ⟨k + 1, by have := HK.out; omega, by go_num, ⟨_, BN.out⟩, rfl, MN.out⟩
      | false =>
        obtain ⟨⟨y0, y1, y2, y3, ⟨y4, y5, y6⟩, ⟨y7, y8, y9⟩⟩, q⟩ := p
        obtain ⟨J, hJ⟩ : ∃ J, joinF t ⟨y0, y1, y2, y3, ⟨y4, y5, y6⟩, ⟨y7, y8, y9⟩⟩ (bOne ⟨false, ui, us⟩) = J := ⟨_, rfl⟩
        have K1 := fun w => join_any t y0 y1 y2 y3 y4 y5 y6 y7 y8 y9 false true true true false ui us false ui us w
        have hJ' : joinF t ⟨y0, y1, y2, y3, ⟨y4, y5, y6⟩, ⟨y7, y8, y9⟩⟩ ⟨false, true, true, true, ⟨false, ui, us⟩, ⟨false, ui, us⟩⟩ = J := hJ
        simp only [hJ'] at K1
        obtain ⟨j0, j1, j2, j3, ⟨j4, j5, j6⟩, ⟨j7, j8, j9⟩⟩ := J
        simp only [Bnd.enc'] at K1
        have K1' := Lib.hid K1
        have HJ := Lib.hid hJ
        have MA := Lib.hid (M'.out.below (w' := x.it.alloc (.cells #[.bool false, .int .i64 ui, .string us] 23)) ((Below.refl _ _).alloc (Nat.le_refl _) _))
        have RG := Lib.hid (rangeAt_pre (xs := bndC ⟨y0, y1, y2, y3, ⟨y4, y5, y6⟩, ⟨y7, y8, y9⟩⟩) (ys := bndC q) MA.out.ov)
        clear K1 hJ hJ'
        go_upto_region 24 with fail
        go_upto_region 25 with (first | ((with_reducible refine wpList_here ?_); refine wpList_load_mid rfl 25 _ rfl OB 0 rfl [.bool y0, .bool y1, .bool y2, .bool y3, .bool y4, .int .i64 y5, .string y6, .bool y7, .int .i64 y8, .string y9] _ RG.out Try.underlying25 rfl (by kernel_rfl) ?_) | (go_at_call 23; refine Calls.mono (K1'.out _) ?_; rintro e w3 ⟨rfl, hb3⟩; have MB := Lib.hid (MA.out.below hb3); have MN : Hid (LfMem (w3.setCells OB 0 (bndC ⟨j0, j1, j2, j3, ⟨j4, j5, j6⟩, ⟨j7, j8, j9⟩⟩)) OB (w.heap.size + 1) (inF t (ls.take (k + 1)))) := Lib.hid (in_yes AS.out HJ.out MB.out); have BN : Hid (Below w.heap.size w (w3.setCells OB 0 (bndC ⟨j0, j1, j2, j3, ⟨j4, j5, j6⟩, ⟨j7, j8, j9⟩⟩))) := Lib.hid (Below.stc ((Below.al hx _).trans (hb3.mono (by simp; have := hx.size; omega))) zO _ _); clear hb3) | ((with_reducible refine wpList_here ?_); refine wpList_store_mid rfl 25 _ _ rfl OB 0 (bndC ⟨j0, j1, j2, j3, ⟨j4, j5, j6⟩, ⟨j7, j8, j9⟩⟩).toArray rfl rfl (there_at MB.out.ot (by show 0 + 10 ≤ 20; omega)) (by kernel_rfl) (bnd_one _) ?_))
        go_wp2_with fail
        go_roundg (gk - 1)
        case measure => have := HK.out; omega
        case rel => exact ⟨k + 1, by have := HK.out; omega, by go_num, ⟨_, BN.out⟩, rfl, MN.out⟩
end Go.Proofs.Ytjojnakgadfgmaa
