/-
  PREDICATES: a node's check, in predicate: 'nodE'. Conditions: the columns and the list lie in memory as 'ColsAt', 'ValsAt' say.
-/
import Derived.Test.YtpahoenanfjhpaaGreatZc
set_option linter.unusedVariables false
set_option linter.unusedSimpArgs false
namespace Go.Proofs.YtpahoenanfjhpaaGreat
open Go.RowKit
theorem captureP {P : Program} {c : Code} {Q : Exit → Act → World → Prop} {a : Act} {W : World} (h : ∀ y : Ext W, y.it = W → c.wp P Q a y.it) : c.wp P Q a W := h ⟨W, Below.refl _ _⟩ rfl
def ValCells (w : World) (b o : Nat) (c : Val) : Prop := w.cell? ⟨b, o, none⟩ = some (.bool c.null) ∧ w.cell? ⟨b, o + 1, none⟩ = some (.int .i64 c.n) ∧ w.cell? ⟨b, o + 2, none⟩ = some (.string c.s)
def ValsAt (w : World) (B : Nat) (v : Value) (cs : List Val) : Prop :=
  cs.length ≤ 9223372036854775807 ∧
    ((cs = [] ∧ ∃ a c, v = .slice a 0 c) ∨ ∃ b o c, v = .slice (some ⟨b, o, none⟩) cs.length c ∧ cs.length ≤ c ∧ b < B ∧ ∀ j (h : j < cs.length), ValCells w b (o + j * 3) (cs[j]'h))
theorem vals_end {w : World} {B : Nat} {v : Value} {cs : List Val} (h : ValsAt w B v cs) : ∃ a c, v = .slice a cs.length c := by
  rcases h.2 with ⟨e, a, c, rfl⟩ | ⟨b, o, c, rfl, _⟩
  · exact ⟨a, c, by rw [e]; rfl⟩
  · exact ⟨_, c, rfl⟩
theorem vals_in {w : World} {B : Nat} {a : Option Addr} {n c : Nat} {cs : List Val} (h : ValsAt w B (.slice a n c) cs) {i : Nat} (hi : i < cs.length) : ∃ b o, a = some ⟨b, o, none⟩ ∧ cs.length ≤ c ∧ b < B ∧ ValCells w b (o + i * 3) (cs[i]'hi) := by
  rcases h.2 with ⟨e, _⟩ | ⟨b, o, c, hv, hcap, hb, hc⟩
  · subst e; exact absurd hi (by simp)
  · injection hv with h1 h2 h3
    subst h3
    exact ⟨b, o, h1, hcap, hb, hc i hi⟩
theorem ValCells.mono {w w' : World} {B b o : Nat} {c : Val} (h : ValCells w b o c) (hb : Below B w w') (hlt : b < B) : ValCells w' b o c :=
  ⟨(hb.cell (p := ⟨b, o, none⟩) hlt).trans h.1, (hb.cell (p := ⟨b, o + 1, none⟩) hlt).trans h.2.1, (hb.cell (p := ⟨b, o + 2, none⟩) hlt).trans h.2.2⟩
theorem ValsAt.mono {w w' : World} {B B' : Nat} {v : Value} {cs : List Val} (h : ValsAt w B v cs) (hb : Below B w w') (hB : B ≤ B') : ValsAt w' B' v cs := by
  refine ⟨h.1, h.2.imp id ?_⟩
  rintro ⟨b, o, c, hv, hcap, hlt, hc⟩
  exact ⟨b, o, c, hv, hcap, Nat.lt_of_lt_of_le hlt hB, fun j hj => (hc j hj).mono hb hlt⟩
def listE (ty : Int) : List Val → Int
  | [] => 0
  | v :: r => if vchk ty true v.null v.n v.s = 0 then listE ty r else vchk ty true v.null v.n v.s
structure Nod where
  op : Int
  col : Int
  v : Val
  ls : List Val
  a : Int
  b : Int
def nodE (cs : List Col) (i : Int) (d : Nod) : Int :=
  if d.op < 1 ∨ 11 < d.op then 1 else
  if 9 ≤ d.op then (if d.a < 0 ∨ i ≤ d.a ∨ (¬ d.op = 11 ∧ (d.b < 0 ∨ i ≤ d.b)) then 4 else 0) else
  if d.col < 0 ∨ (cs.length : Int) ≤ d.col then 4 else
  match cs[d.col.toNat]? with
  | none => 4
  | some c => if d.op = 8 then 0 else if ¬ d.op = 7 then (if d.v.null = true then 12 else vchk c.ty c.nul false d.v.n d.v.s) else if d.ls.length = 0 then 1 else if 16 < d.ls.length then 7 else listE c.ty d.ls
theorem nodE_col {cs : List Col} {i : Int} {d : Nod} {K : Nat} (h0 : ¬ (d.op < 1 ∨ 11 < d.op)) (h9 : ¬ 9 ≤ d.op) (hk : d.col = K) (hl : K < cs.length) :
    nodE cs i d = if d.op = 8 then 0 else if ¬ d.op = 7 then (if d.v.null = true then 12 else vchk (cs[K]'hl).ty (cs[K]'hl).nul false d.v.n d.v.s) else if d.ls.length = 0 then 1 else if 16 < d.ls.length then 7 else listE (cs[K]'hl).ty d.ls := by
  unfold nodE
  rw [if_neg h0, if_neg h9, if_neg (by omega)]
  rw [hk, Int.toNat_natCast, List.getElem?_eq_getElem hl]
theorem listE_ok {ty : Int} {ls : List Val} {k : Nat} (h : k < ls.length) (h0 : vchk ty true (ls[k]'h).null (ls[k]'h).n (ls[k]'h).s = 0) : listE ty (ls.drop k) = listE ty (ls.drop (k + 1)) := by
  rw [List.drop_eq_getElem_cons h]
  simp only [listE]
  rw [if_pos h0]
theorem listE_bad {ty : Int} {ls : List Val} {k : Nat} (h : k < ls.length) (h0 : ¬ vchk ty true (ls[k]'h).null (ls[k]'h).n (ls[k]'h).s = 0) : listE ty (ls.drop k) = vchk ty true (ls[k]'h).null (ls[k]'h).n (ls[k]'h).s := by
  rw [List.drop_eq_getElem_cons h]
  simp only [listE]
  rw [if_neg h0]
set_option maxRecDepth 8000 in
set_option maxHeartbeats 4000000 in
theorem node_any (cv : Value) (cs : List Col) (key i op col : Int) (vn : Bool) (n : Int) (s : ByteArray) (lv : Value) (ls : List Val) (a b : Int) (w : World) (hc : ColsAt w w.heap.size cv cs) (hv : ValsAt w w.heap.size lv ls) :
    Calls Tryz.prog 77 #[.agg #[cv, .int .i64 key], .int .i64 i, .agg #[.int .i64 op, .int .i64 col, .bool vn, .int .i64 n, .string s, lv, .int .i64 a, .int .i64 b]] w fun e w' => e = .returned (.int .i64 (nodE cs i ⟨op, col, ⟨vn, n, s⟩, ls, a, b⟩)) ∧ Below w.heap.size w w' := by
  have h63 := hc.1
  have hm63 := hv.1
  obtain ⟨ca, cc, rfl⟩ := cols_end hc
  obtain ⟨la, lc, rfl⟩ := vals_end hv
  obtain ⟨nc, hl⟩ : ∃ nc, cs.length = nc := ⟨_, rfl⟩
  obtain ⟨m, hm⟩ : ∃ m, ls.length = m := ⟨_, rfl⟩
  have HC : Hid (ColsAt w w.heap.size (.slice ca nc cc) cs) := Lib.hid (by rw [← hl]; exact hc)
  have HV : Hid (ValsAt w w.heap.size (.slice la m lc) ls) := Lib.hid (by rw [← hm]; exact hv)
  clear hc hv
  have HL := Lib.hid hl
  have HM := Lib.hid hm
  rw [hl] at h63 ⊢
  rw [hm] at hm63 ⊢
  obtain ⟨e0, he0⟩ : ∃ e0, nodE cs i ⟨op, col, ⟨vn, n, s⟩, ls, a, b⟩ = e0 := ⟨_, rfl⟩
  rw [he0]
  have HE := Lib.hid he0
  clear he0 hl hm
  by_cases o1 : op < 1
  · skip
    obtain rfl : (1 : Int) = e0 := (show nodE cs i ⟨op, col, ⟨vn, n, s⟩, ls, a, b⟩ = 1 by unfold nodE; dsimp only; rw [if_pos (Or.inl o1)]).symm.trans HE.out
    clear HE
    go_enter Tryz.func77, Tryz.ntmps77
    go_wp2_with fail
    exact bodyPost_ret (v := .int .i64 1) (by simp (maxDischargeDepth := 5) [results, Tryz.results77, go_sem, *]) rfl (⟨rfl, by with_reducible repeat (first | exact Below.refl _ _ | assumption | refine Below.al ?_ _ | refine Below.on ?_ _ | refine Below.st ?_ (by first | assumption | (simp; done) | (simp; omega)) _ | refine Below.drew ?_)⟩)
  by_cases o2 : 11 < op
  · skip
    obtain rfl : (1 : Int) = e0 := (show nodE cs i ⟨op, col, ⟨vn, n, s⟩, ls, a, b⟩ = 1 by unfold nodE; dsimp only; rw [if_pos (Or.inr o2)]).symm.trans HE.out
    clear HE
    go_enter Tryz.func77, Tryz.ntmps77
    go_wp2_with fail
    exact bodyPost_ret (v := .int .i64 1) (by simp (maxDischargeDepth := 5) [results, Tryz.results77, go_sem, *]) rfl (⟨rfl, by with_reducible repeat (first | exact Below.refl _ _ | assumption | refine Below.al ?_ _ | refine Below.on ?_ _ | refine Below.st ?_ (by first | assumption | (simp; done) | (simp; omega)) _ | refine Below.drew ?_)⟩)
  have o0 : ¬ (op < 1 ∨ 11 < op) := by omega
  by_cases o9 : 9 ≤ op
  · skip
    by_cases a1 : a < 0
    · skip
      obtain rfl : (4 : Int) = e0 := (show nodE cs i ⟨op, col, ⟨vn, n, s⟩, ls, a, b⟩ = 4 by unfold nodE; dsimp only; rw [if_neg o0, if_pos o9, if_pos (Or.inl a1)]).symm.trans HE.out
      clear HE o0
      go_enter Tryz.func77, Tryz.ntmps77
      go_wp2_with fail
      exact bodyPost_ret (v := .int .i64 4) (by simp (maxDischargeDepth := 5) [results, Tryz.results77, go_sem, *]) rfl (⟨rfl, by with_reducible repeat (first | exact Below.refl _ _ | assumption | refine Below.al ?_ _ | refine Below.on ?_ _ | refine Below.st ?_ (by first | assumption | (simp; done) | (simp; omega)) _ | refine Below.drew ?_)⟩)
    by_cases a2 : i ≤ a
    · skip
      obtain rfl : (4 : Int) = e0 := (show nodE cs i ⟨op, col, ⟨vn, n, s⟩, ls, a, b⟩ = 4 by unfold nodE; dsimp only; rw [if_neg o0, if_pos o9, if_pos (Or.inr (Or.inl a2))]).symm.trans HE.out
      clear HE o0
      go_enter Tryz.func77, Tryz.ntmps77
      go_wp2_with fail
      exact bodyPost_ret (v := .int .i64 4) (by simp (maxDischargeDepth := 5) [results, Tryz.results77, go_sem, *]) rfl (⟨rfl, by with_reducible repeat (first | exact Below.refl _ _ | assumption | refine Below.al ?_ _ | refine Below.on ?_ _ | refine Below.st ?_ (by first | assumption | (simp; done) | (simp; omega)) _ | refine Below.drew ?_)⟩)
    by_cases o11 : op = 11
    · skip
      obtain rfl : (0 : Int) = e0 := (show nodE cs i ⟨op, col, ⟨vn, n, s⟩, ls, a, b⟩ = 0 by unfold nodE; dsimp only; rw [if_neg o0, if_pos o9, if_neg (by omega)]).symm.trans HE.out
      have q0 : (op != 11) = false := by simpa using o11
      clear HE o0 o11
      go_enter Tryz.func77, Tryz.ntmps77
      go_wp2_with fail
      exact bodyPost_ret (v := .int .i64 0) (by simp (maxDischargeDepth := 5) [results, Tryz.results77, go_sem, *]) rfl (⟨rfl, by with_reducible repeat (first | exact Below.refl _ _ | assumption | refine Below.al ?_ _ | refine Below.on ?_ _ | refine Below.st ?_ (by first | assumption | (simp; done) | (simp; omega)) _ | refine Below.drew ?_)⟩)
    by_cases b1 : b < 0
    · skip
      obtain rfl : (4 : Int) = e0 := (show nodE cs i ⟨op, col, ⟨vn, n, s⟩, ls, a, b⟩ = 4 by unfold nodE; dsimp only; rw [if_neg o0, if_pos o9, if_pos (Or.inr (Or.inr ⟨o11, Or.inl b1⟩))]).symm.trans HE.out
      have q0 : (op != 11) = true := by simpa using o11
      clear HE o0 o11
      go_enter Tryz.func77, Tryz.ntmps77
      go_wp2_with fail
      exact bodyPost_ret (v := .int .i64 4) (by simp (maxDischargeDepth := 5) [results, Tryz.results77, go_sem, *]) rfl (⟨rfl, by with_reducible repeat (first | exact Below.refl _ _ | assumption | refine Below.al ?_ _ | refine Below.on ?_ _ | refine Below.st ?_ (by first | assumption | (simp; done) | (simp; omega)) _ | refine Below.drew ?_)⟩)
    by_cases b2 : i ≤ b
    · skip
      obtain rfl : (4 : Int) = e0 := (show nodE cs i ⟨op, col, ⟨vn, n, s⟩, ls, a, b⟩ = 4 by unfold nodE; dsimp only; rw [if_neg o0, if_pos o9, if_pos (Or.inr (Or.inr ⟨o11, Or.inr b2⟩))]).symm.trans HE.out
      have q0 : (op != 11) = true := by simpa using o11
      clear HE o0 o11
      go_enter Tryz.func77, Tryz.ntmps77
      go_wp2_with fail
      exact bodyPost_ret (v := .int .i64 4) (by simp (maxDischargeDepth := 5) [results, Tryz.results77, go_sem, *]) rfl (⟨rfl, by with_reducible repeat (first | exact Below.refl _ _ | assumption | refine Below.al ?_ _ | refine Below.on ?_ _ | refine Below.st ?_ (by first | assumption | (simp; done) | (simp; omega)) _ | refine Below.drew ?_)⟩)
    skip
    obtain rfl : (0 : Int) = e0 := (show nodE cs i ⟨op, col, ⟨vn, n, s⟩, ls, a, b⟩ = 0 by unfold nodE; dsimp only; rw [if_neg o0, if_pos o9, if_neg (by omega)]).symm.trans HE.out
    have q0 : (op != 11) = true := by simpa using o11
    clear HE o0 o11
    go_enter Tryz.func77, Tryz.ntmps77
    go_wp2_with fail
    exact bodyPost_ret (v := .int .i64 0) (by simp (maxDischargeDepth := 5) [results, Tryz.results77, go_sem, *]) rfl (⟨rfl, by with_reducible repeat (first | exact Below.refl _ _ | assumption | refine Below.al ?_ _ | refine Below.on ?_ _ | refine Below.st ?_ (by first | assumption | (simp; done) | (simp; omega)) _ | refine Below.drew ?_)⟩)
  by_cases k1 : col < 0
  · skip
    obtain rfl : (4 : Int) = e0 := (show nodE cs i ⟨op, col, ⟨vn, n, s⟩, ls, a, b⟩ = 4 by unfold nodE; dsimp only; rw [if_neg o0, if_neg o9, if_pos (Or.inl k1)]).symm.trans HE.out
    clear HE o0
    go_enter Tryz.func77, Tryz.ntmps77
    go_wp2_with fail
    exact bodyPost_ret (v := .int .i64 4) (by simp (maxDischargeDepth := 5) [results, Tryz.results77, go_sem, *]) rfl (⟨rfl, by with_reducible repeat (first | exact Below.refl _ _ | assumption | refine Below.al ?_ _ | refine Below.on ?_ _ | refine Below.st ?_ (by first | assumption | (simp; done) | (simp; omega)) _ | refine Below.drew ?_)⟩)
  by_cases k2 : (nc : Int) ≤ col
  · skip
    obtain rfl : (4 : Int) = e0 := (show nodE cs i ⟨op, col, ⟨vn, n, s⟩, ls, a, b⟩ = 4 by unfold nodE; dsimp only; rw [if_neg o0, if_neg o9, if_pos (Or.inr (by rw [HL.out]; exact k2))]).symm.trans HE.out
    clear HE o0
    go_enter Tryz.func77, Tryz.ntmps77
    go_wp2_with fail
    exact bodyPost_ret (v := .int .i64 4) (by simp (maxDischargeDepth := 5) [results, Tryz.results77, go_sem, *]) rfl (⟨rfl, by with_reducible repeat (first | exact Below.refl _ _ | assumption | refine Below.al ?_ _ | refine Below.on ?_ _ | refine Below.st ?_ (by first | assumption | (simp; done) | (simp; omega)) _ | refine Below.drew ?_)⟩)
  obtain ⟨K, rfl⟩ : ∃ K : Nat, col = K := ⟨col.toNat, by omega⟩
  have hkl : K < cs.length := by rw [HL.out]; omega
  have NE := nodE_col (cs := cs) (i := i) (d := ⟨op, K, ⟨vn, n, s⟩, ls, a, b⟩) o0 o9 rfl hkl
  rw [HE.out] at NE
  dsimp only at NE
  obtain ⟨cb, co, rfl, _, hcb, c0, c1, c2, c3⟩ := cols_in HC.out hkl
  obtain ⟨d, hd⟩ : ∃ d, cs[K]'hkl = d := ⟨_, rfl⟩
  rw [hd] at NE c0 c1 c2 c3
  obtain ⟨cn, ty, sc, nul⟩ := d
  dsimp only at NE c0 c1 c2 c3
  have k3 : (K : Int) < (nc : Int) := by omega
  have HN := Lib.hid NE
  clear NE HE hd o0 k1
  go_enter Tryz.func77, Tryz.ntmps77
  go_upto_region 9 with fail
  refine captureP ?_
  intro y ey
  have b0 : y.it.cell? ⟨w.heap.size, 0, none⟩ = some (.slice (some ⟨cb, co, none⟩) nc cc) := by simp (maxDischargeDepth := 9) [go_sem, *]
  have n0 : y.it.cell? ⟨w.heap.size + 1, 0, none⟩ = some (.int .i64 op) := by simp (maxDischargeDepth := 9) [go_sem, *]
  have n1 : y.it.cell? ⟨w.heap.size + 1, 1, none⟩ = some (.int .i64 K) := by simp (maxDischargeDepth := 9) [go_sem, *]
  have n2 : y.it.cell? ⟨w.heap.size + 1, 2, none⟩ = some (.bool vn) := by simp (maxDischargeDepth := 9) [go_sem, *]
  have n3 : y.it.cell? ⟨w.heap.size + 1, 3, none⟩ = some (.int .i64 n) := by simp (maxDischargeDepth := 9) [go_sem, *]
  have n4 : y.it.cell? ⟨w.heap.size + 1, 4, none⟩ = some (.string s) := by simp (maxDischargeDepth := 9) [go_sem, *]
  have n5 : y.it.cell? ⟨w.heap.size + 1, 5, none⟩ = some (.slice la m lc) := by simp (maxDischargeDepth := 9) [go_sem, *]
  have n6 : y.it.cell? ⟨w.heap.size + 1, 6, none⟩ = some (.int .i64 a) := by simp (maxDischargeDepth := 9) [go_sem, *]
  have n7 : y.it.cell? ⟨w.heap.size + 1, 7, none⟩ = some (.int .i64 b) := by simp (maxDischargeDepth := 9) [go_sem, *]
  have y0 : w.heap.size < y.it.heap.size := by rw [ey]; (first | with_reducible assumption | (simp only [World.size_setCell, World.size_alloc, World.size_drew]; first | with_reducible assumption | omega))
  have y1 : w.heap.size + 1 < y.it.heap.size := by rw [ey]; (first | with_reducible assumption | (simp only [World.size_setCell, World.size_alloc, World.size_drew]; first | with_reducible assumption | omega))
  have yb : Below w.heap.size w y.it := by rw [ey]; exact (by with_reducible repeat (first | exact Below.refl _ _ | assumption | refine Below.al ?_ _ | refine Below.on ?_ _ | refine Below.st ?_ (by first | assumption | (simp; done) | (simp; omega)) _ | refine Below.drew ?_))
  have g0 := (yb.cell (p := ⟨cb, co + K * 4, none⟩) hcb).trans c0
  have g1 := (yb.cell (p := ⟨cb, co + K * 4 + 1, none⟩) hcb).trans c1
  have g2 := (yb.cell (p := ⟨cb, co + K * 4 + 2, none⟩) hcb).trans c2
  have g3 := (yb.cell (p := ⟨cb, co + K * 4 + 3, none⟩) hcb).trans c3
  have yc : cb < y.it.heap.size := by omega
  clear ey c0 c1 c2 c3
  by_cases o8 : op = 8
  · skip
    obtain rfl : 0 = e0 := (HN.out.trans (by rw [if_pos o8])).symm
    clear HN
    go_wp2_with (go_at_call 82; refine (vcheck_any _ _ _ _ _ _ _ _).mono ?_; rintro e w3 ⟨rfl, hb3⟩; obtain ⟨x3, rfl⟩ := Ext.of hb3; )
    exact bodyPost_ret (v := .int .i64 (0)) (by simp (maxDischargeDepth := 5) [results, Tryz.results77, go_sem, *]) rfl (⟨rfl, by with_reducible repeat (first | exact Below.refl _ _ | assumption | refine Below.al ?_ _ | refine Below.on ?_ _ | refine Below.st ?_ (by first | assumption | (simp; done) | (simp; omega)) _ | refine Below.drew ?_)⟩)
  by_cases o7 : ¬ op = 7
  · cases vn with
    | true =>
      obtain rfl : 12 = e0 := (HN.out.trans (by rw [if_neg o8, if_pos o7]; rfl)).symm
      have q0 : (op != 7) = true := by simpa using o7
      clear HN
      go_wp2_with (go_at_call 82; refine (vcheck_any _ _ _ _ _ _ _ _).mono ?_; rintro e w3 ⟨rfl, hb3⟩; obtain ⟨x3, rfl⟩ := Ext.of hb3; )
      exact bodyPost_ret (v := .int .i64 (12)) (by simp (maxDischargeDepth := 5) [results, Tryz.results77, go_sem, *]) rfl (⟨rfl, by with_reducible repeat (first | exact Below.refl _ _ | assumption | refine Below.al ?_ _ | refine Below.on ?_ _ | refine Below.st ?_ (by first | assumption | (simp; done) | (simp; omega)) _ | refine Below.drew ?_)⟩)
    | false =>
      obtain rfl : vchk ty nul false n s = e0 := (HN.out.trans (by rw [if_neg o8, if_pos o7]; rfl)).symm
      have q0 : (op != 7) = true := by simpa using o7
      clear HN
      go_wp2_with (go_at_call 82; refine (vcheck_any _ _ _ _ _ _ _ _).mono ?_; rintro e w3 ⟨rfl, hb3⟩; obtain ⟨x3, rfl⟩ := Ext.of hb3; )
      exact bodyPost_ret (v := .int .i64 (vchk ty nul false n s)) (by simp (maxDischargeDepth := 5) [results, Tryz.results77, go_sem, *]) rfl (⟨rfl, by with_reducible repeat (first | exact Below.refl _ _ | assumption | refine Below.al ?_ _ | refine Below.on ?_ _ | refine Below.st ?_ (by first | assumption | (simp; done) | (simp; omega)) _ | refine Below.drew ?_)⟩)
  have o7' : op = 7 := by omega
  have q0 : (op != 7) = false := by simpa using o7'
  have q8 : ¬ (op = 8) := o8
  by_cases m0 : m = 0
  · skip
    obtain rfl : 1 = e0 := (HN.out.trans (by rw [if_neg o8, if_neg o7, if_pos (by rw [HM.out]; exact m0)])).symm
    have m0' : (m : Int) = 0 := by omega
    clear HN
    go_wp2_with (go_at_call 82; refine (vcheck_any _ _ _ _ _ _ _ _).mono ?_; rintro e w3 ⟨rfl, hb3⟩; obtain ⟨x3, rfl⟩ := Ext.of hb3; )
    exact bodyPost_ret (v := .int .i64 (1)) (by simp (maxDischargeDepth := 5) [results, Tryz.results77, go_sem, *]) rfl (⟨rfl, by with_reducible repeat (first | exact Below.refl _ _ | assumption | refine Below.al ?_ _ | refine Below.on ?_ _ | refine Below.st ?_ (by first | assumption | (simp; done) | (simp; omega)) _ | refine Below.drew ?_)⟩)
  by_cases m16 : 16 < m
  · skip
    obtain rfl : 7 = e0 := (HN.out.trans (by rw [if_neg o8, if_neg o7, if_neg (by rw [HM.out]; exact m0), if_pos (by rw [HM.out]; exact m16)])).symm
    have m0' : ¬ (m : Int) = 0 := by omega
    have m16' : (16 : Int) < (m : Int) := by omega
    clear HN
    go_wp2_with (go_at_call 82; refine (vcheck_any _ _ _ _ _ _ _ _).mono ?_; rintro e w3 ⟨rfl, hb3⟩; obtain ⟨x3, rfl⟩ := Ext.of hb3; )
    exact bodyPost_ret (v := .int .i64 (7)) (by simp (maxDischargeDepth := 5) [results, Tryz.results77, go_sem, *]) rfl (⟨rfl, by with_reducible repeat (first | exact Below.refl _ _ | assumption | refine Below.al ?_ _ | refine Below.on ?_ _ | refine Below.st ?_ (by first | assumption | (simp; done) | (simp; omega)) _ | refine Below.drew ?_)⟩)
  have m0' : ¬ (m : Int) = 0 := by omega
  have m16' : ¬ (16 : Int) < (m : Int) := by omega
  have LE : e0 = listE ty ls := HN.out.trans (by rw [if_neg o8, if_neg o7, if_neg (by rw [HM.out]; exact m0), if_neg (by rw [HM.out]; exact m16)])
  have HLE := Lib.hid LE
  clear LE HN
  go_upto_region 21 with fail
  refine captureP ?_
  intro z ez
  have d0 : z.it.cell? ⟨y.it.heap.size, 0, none⟩ = some (.string cn) := by simp (maxDischargeDepth := 9) [go_sem, *]
  have d1 : z.it.cell? ⟨y.it.heap.size, 1, none⟩ = some (.int .i64 ty) := by simp (maxDischargeDepth := 9) [go_sem, *]
  have d2 : z.it.cell? ⟨y.it.heap.size, 2, none⟩ = some (.int .i64 sc) := by simp (maxDischargeDepth := 9) [go_sem, *]
  have d3 : z.it.cell? ⟨y.it.heap.size, 3, none⟩ = some (.bool true) := by simp (maxDischargeDepth := 9) [go_sem, *]
  have n5' : z.it.cell? ⟨w.heap.size + 1, 5, none⟩ = some (.slice la m lc) := by simp (maxDischargeDepth := 9) [go_sem, *]
  have r0 : w.heap.size + 1 < z.it.heap.size := by rw [ez]; (first | with_reducible assumption | (simp only [World.size_setCell, World.size_alloc, World.size_drew]; first | with_reducible assumption | omega))
  have r1 : y.it.heap.size < z.it.heap.size := by rw [ez]; (first | with_reducible assumption | (simp; done) | (first | with_reducible assumption | (simp only [World.size_setCell, World.size_alloc, World.size_drew]; first | with_reducible assumption | omega)))
  have zb : Below w.heap.size w z.it := by rw [ez]; exact (by with_reducible repeat (first | exact Below.refl _ _ | assumption | refine Below.al ?_ _ | refine Below.on ?_ _ | refine Below.st ?_ (by first | assumption | (simp; done) | (simp; omega)) _ | refine Below.drew ?_))
  clear ez g0 g1 g2 g3 b0 n0 n1 n2 n3 n4 n5 n6 n7
  go_wp2_with fail
  go_loopg [99] m (fun g st wr => ∃ k : Nat, k + g = m ∧ st = .int .i64 (k : Int) ∧ listE ty ls = listE ty (ls.drop k) ∧ ∃ x : Ext z.it, x.it = wr)
  case atStart => exact ⟨0, by omega, rfl, by simp, ext_of (Below.refl _ _)⟩
  case round =>
    obtain ⟨k, hk, rfl, hF, x, rfl⟩ := hrel
    have hx := x.below
    have hx2 : Below w.heap.size w x.it := Below.on zb x
    by_cases hg0 : gk = 0
    · subst hg0
      obtain rfl : k = m := by omega
      obtain rfl : 0 = e0 := by rw [HLE.out, hF, List.drop_of_length_le (by rw [HM.out]; exact Nat.le_refl _)]; rfl
      clear hF hk HLE
      go_wp2
      exact bodyPost_ret (v := .int .i64 0) (by simp (maxDischargeDepth := 5) [results, Tryz.results77, go_sem, *]) rfl (⟨rfl, by with_reducible repeat (first | exact Below.refl _ _ | assumption | refine Below.al ?_ _ | refine Below.on ?_ _ | refine Below.st ?_ (by first | assumption | (simp; done) | (simp; omega)) _ | refine Below.drew ?_)⟩)
    · have hkm : k < m := by omega
      have hkm' : (k : Int) < (m : Int) := by omega
      have hkl' : k < ls.length := by rw [HM.out]; exact hkm
      obtain ⟨lb, lo, rfl, _, hlb, e0', e1', e2'⟩ := vals_in HV.out hkl'
      have OKL := listE_ok (ty := ty) hkl'
      have BDL := listE_bad (ty := ty) hkl'
      obtain ⟨u, hu⟩ : ∃ u, ls[k]'hkl' = u := ⟨_, rfl⟩
      rw [hu] at OKL BDL e0' e1' e2'
      rw [← hF] at OKL BDL
      obtain ⟨un, uN, us⟩ := u
      dsimp only at OKL BDL e0' e1' e2'
      have p0 := (hx2.cell (p := ⟨lb, lo + k * 3, none⟩) hlb).trans e0'
      have p1 := (hx2.cell (p := ⟨lb, lo + k * 3 + 1, none⟩) hlb).trans e1'
      have p2 := (hx2.cell (p := ⟨lb, lo + k * 3 + 2, none⟩) hlb).trans e2'
      have r2 : lb < x.it.heap.size := Nat.lt_of_lt_of_le hlb hx2.size
      have r3 : y.it.heap.size < x.it.heap.size := x.lt r1
      have HK := Lib.hid hk
      obtain ⟨ve, hve⟩ : ∃ ve, vchk ty true un uN us = ve := ⟨_, rfl⟩
      rw [hve] at OKL BDL
      have HVE := Lib.hid hve
      clear e0' e1' e2' hu hk hg0 hF hve
      by_cases v0 : ve = 0
      · have OK := Lib.hid (OKL v0)
        have v0' : (ve != 0) = false := by simpa using v0
        clear OKL BDL
        go_wp2_with ((go_at_call 82; refine (vcheck_any _ _ _ _ _ _ _ _).mono ?_; rintro e w3 ⟨rfl, hb3⟩; obtain ⟨x3, rfl⟩ := Ext.of hb3; ); simp only [HVE.out])
        go_roundg (gk - 1)
        case measure => have := HK.out; omega
        case rel => exact ⟨k + 1, by have := HK.out; omega, by go_num, OK.out, ext_of (by with_reducible repeat (first | exact Below.refl _ _ | assumption | refine Below.al ?_ _ | refine Below.on ?_ _ | refine Below.st ?_ (by first | assumption | (simp; done) | (simp; omega)) _ | refine Below.drew ?_))⟩
      · have v0' : (ve != 0) = true := by simpa using v0
        obtain rfl : ve = e0 := ((HLE.out.trans (BDL v0))).symm
        clear OKL BDL HLE
        go_wp2_with ((go_at_call 82; refine (vcheck_any _ _ _ _ _ _ _ _).mono ?_; rintro e w3 ⟨rfl, hb3⟩; obtain ⟨x3, rfl⟩ := Ext.of hb3; ); simp only [HVE.out])
        exact bodyPost_ret (v := .int .i64 ve) (by simp (maxDischargeDepth := 5) [results, Tryz.results77, go_sem, *]) rfl (⟨rfl, by with_reducible repeat (first | exact Below.refl _ _ | assumption | refine Below.al ?_ _ | refine Below.on ?_ _ | refine Below.st ?_ (by first | assumption | (simp; done) | (simp; omega)) _ | refine Below.drew ?_)⟩)
end Go.Proofs.YtpahoenanfjhpaaGreat
