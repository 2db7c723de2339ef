/-
  PREDICATES: the reference's EvalRow of a valid predicate and a row of the right length: 'evalF'. Conditions: all lie in memory as 'ColsAt', 'NodsAt', 'ValsAt' say.
-/
import Derived.Test.YtfemekmkmiljdaaEvr
set_option linter.unusedVariables false
set_option linter.unusedSimpArgs false
namespace Go.Proofs.Ytfemekmkmiljdaa
open Go.RowKit
def colTy (cs : List Col) (col : Int) : Int := match cs[col.toNat]? with
  | some c => c.ty
  | none => 0
def stepT (cs : List Col) (row : List Val) (acc : List Int) (d : Nod) : Int :=
  if d.op = 9 then andT (acc.getD d.a.toNat 0) (acc.getD d.b.toNat 0) else if d.op = 10 then orT (acc.getD d.a.toNat 0) (acc.getD d.b.toNat 0) else if d.op = 11 then notT (acc.getD d.a.toNat 0) else leafT (colTy cs d.col) d (row.getD d.col.toNat Val.zero)
def accT (cs : List Col) (row : List Val) (l : List Nod) : List Int := l.foldl (fun acc d => acc ++ [stepT cs row acc d]) []
def evalF (cs : List Col) (row : List Val) (l : List Nod) : Int := match (accT cs row l).getLast? with
  | some t => t
  | none => 1
theorem accT_succ (cs : List Col) (row : List Val) {l : List Nod} {k : Nat} (h : k < l.length) : accT cs row (l.take (k + 1)) = accT cs row (l.take k) ++ [stepT cs row (accT cs row (l.take k)) (l[k]'h)] := by
  unfold accT
  rw [List.take_succ_eq_append_getElem h, List.foldl_append]
  rfl
theorem accT_len (cs : List Col) (row : List Val) (l : List Nod) : (accT cs row l).length = l.length := by
  unfold accT
  suffices h : ∀ (l : List Nod) (a : List Int), (l.foldl (fun acc d => acc ++ [stepT cs row acc d]) a).length = a.length + l.length by simpa using h l []
  intro l
  induction l with
  | nil => intro a; rfl
  | cons d r ih => intro a; rw [List.foldl_cons, ih]; simp; omega
theorem getD_3 {acc : List Int} (h : ∀ a ∈ acc, T3 a) (i : Nat) : T3 (acc.getD i 0) := by
  rw [List.getD_eq_getElem?_getD]
  rcases Nat.lt_or_ge i acc.length with q | q
  · rw [List.getElem?_eq_getElem q]; exact h _ (List.getElem_mem q)
  · rw [List.getElem?_eq_none q]; exact .inl rfl
theorem stepT_3 (cs : List Col) (row : List Val) {acc : List Int} (h : ∀ a ∈ acc, T3 a) (d : Nod) : T3 (stepT cs row acc d) := by
  unfold stepT
  split
  · exact andT_3 (getD_3 h _) (getD_3 h _)
  · split
    · exact orT_3 (getD_3 h _) (getD_3 h _)
    · split
      · exact notT_3 (getD_3 h _)
      · exact leafT_3 _ _ _
theorem nodE_leaf {cs : List Col} {i : Int} {d : Nod} (h : nodE cs i d = 0) (h9 : ¬ 9 ≤ d.op) : 0 ≤ d.col ∧ d.col < cs.length := by
  unfold nodE at h
  split at h
  · exact absurd h (by decide)
  · split at h
    · exact absurd h (by decide)
    · omega
/-- The truth values so far, in the block TB. -/
structure EvMem (w : World) (TB m : Nat) (acc : List Int) : Prop where
  lt : TB < w.heap.size
  len : acc.length ≤ m
  th : ∀ j, j < m → (∃ u, w.cell? ⟨TB, j, none⟩ = some u) ∧ w.frozen? ⟨TB, j, none⟩ = false
  lv : ∀ j (h : j < acc.length), w.cell? ⟨TB, j, none⟩ = some (.int .i64 (acc[j]'h))
  t3 : ∀ a ∈ acc, T3 a
theorem EvMem.to {w w' : World} {TB m : Nat} {acc : List Int} (h : EvMem w TB m acc) (hb : Below w.heap.size w w') : EvMem w' TB m acc :=
  ⟨Nat.lt_of_lt_of_le h.lt hb.size, h.len, fun j hj => ⟨(h.th j hj).1.imp fun u hu => (hb.cell (p := ⟨TB, j, none⟩) h.lt).trans hu, (hb.frozen (p := ⟨TB, j, none⟩) h.lt).trans (h.th j hj).2⟩, fun j hj => (hb.cell (p := ⟨TB, j, none⟩) h.lt).trans (h.lv j hj), h.t3⟩
theorem EvMem.step {w : World} {TB m k : Nat} {acc : List Int} (h : EvMem w TB m acc) (hk : acc.length = k) (hm : k < m) {t : Int} (ht : T3 t) : EvMem (w.setCell ⟨TB, k, none⟩ (.int .i64 t)) TB m (acc ++ [t]) := by
  obtain ⟨⟨u, hu⟩, hf⟩ := h.th k hm
  have same : (w.setCell ⟨TB, k, none⟩ (.int .i64 t)).cell? ⟨TB, k, none⟩ = some (.int .i64 t) := World.cell?_setCell_same _ _ _ hu
  have other : ∀ j, j ≠ k → (w.setCell ⟨TB, k, none⟩ (.int .i64 t)).cell? ⟨TB, j, none⟩ = w.cell? ⟨TB, j, none⟩ := fun j hj => World.cell?_setCell_other _ _ _ _ (by intro e; injection e with _ e; exact hj e.symm)
  refine ⟨by simpa [World.setCell] using h.lt, by simp; omega, fun j hj => ⟨?_, by rw [World.frozen?_setCell]; exact (h.th j hj).2⟩, fun j hj => ?_, ?_⟩
  · by_cases e : j = k
    · subst e; exact ⟨_, same⟩
    · rw [other j e]; exact (h.th j hj).1
  · rcases Nat.lt_or_ge j acc.length with q | q
    · rw [other j (by omega), List.getElem_append_left q]; exact h.lv j q
    · obtain rfl : j = acc.length := by simp at hj; omega
      subst hk
      rw [same]; simp
  · intro a ha
    rcases List.mem_append.1 ha with q | q
    · exact h.t3 a q
    · rw [List.mem_singleton.1 q]; exact ht
theorem ExtC.of_set {w v : World} {TB m k : Nat} {acc : List Int} {u : Value} {ca : Option Addr} {nc cc : Nat} {key : Int} (hb : Below w.heap.size w v) (hT : w.heap.size ≤ TB) (h : EvMem (v.setCell ⟨TB, k, none⟩ u) TB m acc) (h0 : v.cell? ⟨w.heap.size, 0, none⟩ = some (.slice ca nc cc)) (h1 : v.cell? ⟨w.heap.size, 1, none⟩ = some (.int .i64 key)) (hn : w.heap.size ≠ TB) :
    ∃ x : Ext w, x.it = v.setCell ⟨TB, k, none⟩ u ∧ EvMem x.it TB m acc ∧ x.it.cell? ⟨w.heap.size, 0, none⟩ = some (.slice ca nc cc) ∧ x.it.cell? ⟨w.heap.size, 1, none⟩ = some (.int .i64 key) :=
  ⟨⟨_, Below.st hb hT u⟩, rfl, h, (World.cell?_setCell_other _ _ _ _ (by intro e; injection e with e; exact hn e.symm)).trans h0, (World.cell?_setCell_other _ _ _ _ (by intro e; injection e with e; exact hn e.symm)).trans h1⟩
theorem infoInt : (Try.prog.info? 3).map (fun i => (i.zero, i.size, i.bytes)) = some (some (.int .i64 0), 1, 8) := by kernel_rfl
set_option maxRecDepth 8000 in
set_option maxHeartbeats 4000000 in
theorem evalRow_any (cv : Value) (cs : List Col) (key : Int) (nv : Value) (ns : List Nod) (rv : Value) (row : List Val) (w : World) (hc : ColsAt w w.heap.size cv cs) (hn : NodsAt w w.heap.size nv ns) (hr : ValsAt w w.heap.size rv row) (hp : ns.length ≤ 64 ∧ ∀ j (hj : j < ns.length), nodE cs j (ns[j]'hj) = 0) (hrl : row.length = cs.length) :
    Calls Try.prog 40 #[.agg #[cv, .int .i64 key], nv, rv] w fun e w' => e = .returned (.int .i64 (evalF cs row ns)) ∧ Below w.heap.size w w' := by
  obtain ⟨m64, NA⟩ := hp
  obtain ⟨ca, cc, rfl⟩ := cols_end hc
  obtain ⟨na, pc, rfl⟩ := nods_end hn
  obtain ⟨ra, rc, rfl⟩ := vals_end hr
  rw [hrl] at hr ⊢
  obtain ⟨nc, hl⟩ : ∃ nc, cs.length = nc := ⟨_, rfl⟩
  obtain ⟨m, hm⟩ : ∃ m, ns.length = m := ⟨_, rfl⟩
  have HC : Hid (ColsAt w w.heap.size (.slice ca nc cc) cs) := Lib.hid (by rw [← hl]; exact hc)
  have HN : Hid (NodsAt w w.heap.size (.slice na m pc) ns) := Lib.hid (by rw [← hm]; exact hn)
  have HRW : Hid (ValsAt w w.heap.size (.slice ra nc rc) row) := Lib.hid (by rw [← hl]; exact hr)
  have HM := Lib.hid hm
  have HL := Lib.hid hl
  have HRL := Lib.hid (hrl.trans hl)
  rw [hl, hm]
  rw [hm] at m64
  have NA' := Lib.hid NA
  obtain ⟨i0, hi, hz0, hz1, hz2⟩ := info_parts infoInt
  by_cases m0 : m = 0
  · have e0 : ns = [] := List.eq_nil_of_length_eq_zero (by omega)
    subst m0 e0
    clear hc hn hr hrl hl hm NA
    go_enter Try.func40, Try.ntmps40
    go_wp2
    exact bodyPost_ret (v := .int .i64 1) (by simp [results, Try.results40, go_sem, *]) rfl (⟨rfl, by repeat (first | with_reducible exact Below.refl _ _ | with_reducible assumption | with_reducible refine Below.al ?_ _ | with_reducible refine Below.on ?_ _ | with_reducible refine Below.st ?_ (by first | assumption | (simp; done) | (simp; omega)) _ | with_reducible refine Below.drew ?_)⟩)
  have hmk := fun w => run_make (P := Try.prog) w 34 3 i0 _ Try.underlying34 hi hz0 .i64 .i64 (m : Int) (m : Int) (by omega) (Int.le_refl _) (by rw [hz2]; omega) (by omega)
  simp only [Int.toNat_natCast, hz1] at hmk
  obtain ⟨MC, hMC⟩ : ∃ MC, madeCells (Value.cells (.int .i64 0)) (m * 1) = MC := ⟨_, rfl⟩
  have hMS : MC.size = m * 1 := by rw [← hMC]; exact size_madeCells _ _
  rw [hMC] at hmk
  have HMS := Lib.hid hMS
  have m0' : ((m : Int) == 0) = false := by simp; omega
  have m0'' : ¬ (m : Int) = 0 := by omega
  clear hc hn hr hrl hl hm NA hz0 hz1 hz2 hMC hMS
  go_enter Try.func40, Try.ntmps40
  go_upto_region 4 with fail
  refine captureP ?_
  intro y ey
  have yb : Below w.heap.size w y.it := by rw [ey]; exact (by repeat (first | with_reducible exact Below.refl _ _ | with_reducible assumption | with_reducible refine Below.al ?_ _ | with_reducible refine Below.on ?_ _ | with_reducible refine Below.st ?_ (by first | assumption | (simp; done) | (simp; omega)) _ | with_reducible refine Below.drew ?_))
  have y0 : y.it.cell? ⟨w.heap.size, 0, none⟩ = some (.slice ca nc cc) := by rw [ey]; simp (maxDischargeDepth := 9) [go_sem, *]
  have y1 : y.it.cell? ⟨w.heap.size, 1, none⟩ = some (.int .i64 key) := by rw [ey]; simp (maxDischargeDepth := 9) [go_sem, *]
  have yz : w.heap.size < y.it.heap.size := by rw [ey]; simp; omega
  have EM : Hid (EvMem y.it (w.heap.size + 1) m []) := Lib.hid ⟨by rw [ey]; simp, by simp, fun j hj => by
      have h := there_new (w := w.alloc (.cells #[.slice ca nc cc, .int .i64 key] 27)) MC 3 (w.heap.size + 1) (by simp) j (by rw [HMS.out]; omega)
      rw [Nat.zero_add] at h
      rw [ey]
      exact ⟨Option.isSome_iff_exists.1 h.1, h.2⟩, fun j hj => absurd hj (by simp), fun a ha => absurd ha (by simp)⟩
  clear ey hmk
  go_wp2_with fail
  go_loopg [18] m (fun g st wr => ∃ k : Nat, k + g = m ∧ st = .int .i64 (k : Int) ∧ ∃ x : Ext w, x.it = wr ∧ EvMem x.it (w.heap.size + 1) m (accT cs row (ns.take k)) ∧ x.it.cell? ⟨w.heap.size, 0, none⟩ = some (.slice ca nc cc) ∧ x.it.cell? ⟨w.heap.size, 1, none⟩ = some (.int .i64 key))
  case atStart => exact ⟨0, by omega, rfl, ⟨y.it, yb⟩, rfl, EM.out, y0, y1⟩
  case round =>
    obtain ⟨k, hk, rfl, x, rfl, M, s0, s1⟩ := hrel
    clear EM y0 y1 yz yb
    have hx := x.below
    have zT := M.lt
    have zw : w.heap.size < x.it.heap.size := by omega
    by_cases hg0 : gk = 0
    · subst hg0
      obtain rfl : k = m := by omega
      have TK : ns.take k = ns := List.take_of_length_le (by rw [HM.out]; exact Nat.le_refl _)
      rw [TK] at M
      have AL : (accT cs row ns).length = k := by rw [accT_len]; exact HM.out
      have EV : evalF cs row ns = (accT cs row ns)[k - 1]'(by omega) := by unfold evalF; rw [List.getLast?_eq_getElem?, List.getElem?_eq_getElem (by omega)]; simp only [AL]
      have LV := M.lv (k - 1) (by omega)
      rw [← EV] at LV
      obtain ⟨R, hR⟩ : ∃ R, evalF cs row ns = R := ⟨_, rfl⟩
      rw [hR] at LV
      have HR := Lib.hid hR
      have ck : ((k - 1 : Nat) : Int) = (k : Int) - 1 := by omega
      obtain ⟨k1, rfl⟩ : ∃ k1, k = k1 + 1 := ⟨k - 1, by omega⟩
      rw [Nat.add_sub_cancel] at LV
      clear hk TK M EV AL ck hR m0 m0' m0''
      go_wp2
      exact bodyPost_ret (v := .int .i64 R) (by simp [results, Try.results40, go_sem, *]) rfl (⟨by rw [HR.out], by repeat (first | with_reducible exact Below.refl _ _ | with_reducible assumption | with_reducible refine Below.al ?_ _ | with_reducible refine Below.on ?_ _ | with_reducible refine Below.st ?_ (by first | assumption | (simp; done) | (simp; omega)) _ | with_reducible refine Below.drew ?_)⟩)
    · have hkm : k < m := by omega
      have hkm' : (k : Int) < (m : Int) := by omega
      have hkl : k < ns.length := by rw [HM.out]; exact hkm
      obtain ⟨b, o, rfl, _, hb, lv, c0, c1, c2, c3, c4, c5, c6, c7, hlv⟩ := nods_in HN.out hkl
      have NK := nodE_ok (NA'.out k hkl)
      have NL := Lib.hid (nodE_leaf (NA'.out k hkl))
      have AS := Lib.hid (accT_succ cs row hkl)
      have AL : (accT cs row (ns.take k)).length = k := by rw [accT_len, List.length_take]; omega
      obtain ⟨d, hd⟩ : ∃ d, ns[k]'hkl = d := ⟨_, rfl⟩
      rw [hd] at NK NL AS c0 c1 c2 c3 c4 c6 c7 hlv
      obtain ⟨acc, hacc⟩ : ∃ acc, accT cs row (ns.take k) = acc := ⟨_, rfl⟩
      rw [hacc] at M AS AL
      clear hacc
      obtain ⟨dop, dcol, ⟨dvn, dn, ds⟩, dls, da, db⟩ := d
      dsimp only at NK NL c0 c1 c2 c3 c4 c6 c7 hlv
      have f0' := (hx.cell (p := ⟨b, o + k * 8, none⟩) hb).trans c0
      have f1' := (hx.cell (p := ⟨b, o + k * 8 + 1, none⟩) hb).trans c1
      have f2' := (hx.cell (p := ⟨b, o + k * 8 + 2, none⟩) hb).trans c2
      have f3' := (hx.cell (p := ⟨b, o + k * 8 + 3, none⟩) hb).trans c3
      have f4' := (hx.cell (p := ⟨b, o + k * 8 + 4, none⟩) hb).trans c4
      have f5' := (hx.cell (p := ⟨b, o + k * 8 + 5, none⟩) hb).trans c5
      have f6' := (hx.cell (p := ⟨b, o + k * 8 + 6, none⟩) hb).trans c6
      have f7' := (hx.cell (p := ⟨b, o + k * 8 + 7, none⟩) hb).trans c7
      have zb : b < x.it.heap.size := Nat.lt_of_lt_of_le hb hx.size
      obtain ⟨la, lc, rfl⟩ := vals_end hlv
      obtain ⟨lm, hlm⟩ : ∃ lm, dls.length = lm := ⟨_, rfl⟩
      rw [hlm] at f5' c5 hlv
      have HLV := Lib.hid hlv
      have HK := Lib.hid (And.intro (And.intro hk hg0) AL)
      have M' := Lib.hid M
      clear c0 c1 c2 c3 c4 c5 c6 c7 hlv hd M hk AL hg0 hlm
      go_upto_region 7 with fail
      refine captureE ?_
      intro v ev
      have n0 : v.it.cell? ⟨x.it.heap.size, 0, none⟩ = some (.int .i64 dop) := by simp (maxDischargeDepth := 9) [go_sem, *]
      have n1 : v.it.cell? ⟨x.it.heap.size, 1, none⟩ = some (.int .i64 dcol) := by simp (maxDischargeDepth := 9) [go_sem, *]
      have n2 : v.it.cell? ⟨x.it.heap.size, 2, none⟩ = some (.bool dvn) := by simp (maxDischargeDepth := 9) [go_sem, *]
      have n3 : v.it.cell? ⟨x.it.heap.size, 3, none⟩ = some (.int .i64 dn) := by simp (maxDischargeDepth := 9) [go_sem, *]
      have n4 : v.it.cell? ⟨x.it.heap.size, 4, none⟩ = some (.string ds) := by simp (maxDischargeDepth := 9) [go_sem, *]
      have n5 : v.it.cell? ⟨x.it.heap.size, 5, none⟩ = some (.slice la lm lc) := by simp (maxDischargeDepth := 9) [go_sem, *]
      have n6' : v.it.cell? ⟨x.it.heap.size, 6, none⟩ = some (.int .i64 da) := by simp (maxDischargeDepth := 9) [go_sem, *]
      have n7' : v.it.cell? ⟨x.it.heap.size, 7, none⟩ = some (.int .i64 db) := by simp (maxDischargeDepth := 9) [go_sem, *]
      have vb : Below w.heap.size w v.it := by rw [ev]; exact Below.al hx _
      have vxb : Below x.it.heap.size x.it v.it := by rw [ev]; exact Below.al (Below.refl _ _) _
      have vn : x.it.heap.size < v.it.heap.size := by rw [ev]; simp
      have MN := Lib.hid (M'.out.to vxb)
      have vT : w.heap.size + 1 < v.it.heap.size := by omega
      have vw : w.heap.size < v.it.heap.size := by omega
      have v0 := (vxb.cell (p := ⟨w.heap.size, 0, none⟩) zw).trans s0
      have v1 := (vxb.cell (p := ⟨w.heap.size, 1, none⟩) zw).trans s1
      obtain ⟨⟨old, hold⟩, hfro⟩ := MN.out.th k hkm
      clear ev f0' f1' f2' f3' f4' f5' f6' f7' s0 s1
      by_cases o9 : dop = 9
      · subst o9
        obtain ⟨a0, a1⟩ := NK.2.2.1 (by omega)
        obtain ⟨b0, b1⟩ := NK.2.2.2 (by omega) (by omega)
        obtain ⟨Ai, rfl⟩ : ∃ Ai : Nat, da = Ai := ⟨da.toNat, by omega⟩
        obtain ⟨Bi, rfl⟩ : ∃ Bi : Nat, db = Bi := ⟨db.toNat, by omega⟩
        have Aik : Ai < acc.length := by have := HK.out.2; omega
        have Bik : Bi < acc.length := by have := HK.out.2; omega
        have Aim : (Ai : Int) < (m : Int) := by omega
        have Bim : (Bi : Int) < (m : Int) := by omega
        have hA := MN.out.lv Ai Aik
        have hB := MN.out.lv Bi Bik
        obtain ⟨ta, hta⟩ : ∃ ta, acc[Ai]'Aik = ta := ⟨_, rfl⟩
        obtain ⟨tb, htb⟩ : ∃ tb, acc[Bi]'Bik = tb := ⟨_, rfl⟩
        have T1 : T3 ta := hta ▸ MN.out.t3 _ (List.getElem_mem Aik)
        have T2 : T3 tb := htb ▸ MN.out.t3 _ (List.getElem_mem Bik)
        rw [hta] at hA
        rw [htb] at hB
        have NP : stepT cs row acc ⟨9, dcol, ⟨dvn, dn, ds⟩, dls, Ai, Bi⟩ = andT ta tb := by
          unfold stepT; simp only [Int.toNat_natCast, List.getD_eq_getElem?_getD, List.getElem?_eq_getElem Aik, List.getElem?_eq_getElem Bik, Option.getD_some, hta, htb]; rfl
        have HT12 := Lib.hid (And.intro T1 T2)
        have HNP := Lib.hid NP
        clear NP T1 T2 hta htb NK n1 n2 n3 n4 n5 n7'
        go_upto_region 10 with fail
        refine wp_region_ext_tail 14 (by kernel_rfl) (by kernel_rfl) ?_
        dsimp only [List.take, List.drop]
        repeat (go_big_quiet_step (((go_at_call 60; exact Calls.ext (and3_any HT12.out.1 HT12.out.2 _)))))
        refine wpQuiet_nil ?_
        rintro _ ⟨x2, rfl⟩
        have c2 := x2.lt vT
        have hs2 := (x2.cell (w.heap.size + 1) k vT).trans hold
        have hf2 := (x2.frozen (w.heap.size + 1) k vT).trans hfro
        go_wp2_with fail
        go_roundg (gk - 1)
        case measure => have := HK.out.1; omega
        case rel => exact ⟨k + 1, by have := HK.out.1; omega, by go_num, ExtC.of_set (Below.on vb x2) (by omega) (by rw [AS.out, HNP.out]; exact (MN.out.to x2.below).step HK.out.2 hkm (andT_3 HT12.out.1 HT12.out.2)) ((x2.cell _ 0 vw).trans v0) ((x2.cell _ 1 vw).trans v1) (by omega)⟩
      by_cases o10 : dop = 10
      · subst o10
        obtain ⟨a0, a1⟩ := NK.2.2.1 (by omega)
        obtain ⟨b0, b1⟩ := NK.2.2.2 (by omega) (by omega)
        obtain ⟨Ai, rfl⟩ : ∃ Ai : Nat, da = Ai := ⟨da.toNat, by omega⟩
        obtain ⟨Bi, rfl⟩ : ∃ Bi : Nat, db = Bi := ⟨db.toNat, by omega⟩
        have Aik : Ai < acc.length := by have := HK.out.2; omega
        have Bik : Bi < acc.length := by have := HK.out.2; omega
        have Aim : (Ai : Int) < (m : Int) := by omega
        have Bim : (Bi : Int) < (m : Int) := by omega
        have hA := MN.out.lv Ai Aik
        have hB := MN.out.lv Bi Bik
        obtain ⟨ta, hta⟩ : ∃ ta, acc[Ai]'Aik = ta := ⟨_, rfl⟩
        obtain ⟨tb, htb⟩ : ∃ tb, acc[Bi]'Bik = tb := ⟨_, rfl⟩
        have T1 : T3 ta := hta ▸ MN.out.t3 _ (List.getElem_mem Aik)
        have T2 : T3 tb := htb ▸ MN.out.t3 _ (List.getElem_mem Bik)
        rw [hta] at hA
        rw [htb] at hB
        have NP : stepT cs row acc ⟨10, dcol, ⟨dvn, dn, ds⟩, dls, Ai, Bi⟩ = orT ta tb := by
          unfold stepT; simp only [Int.toNat_natCast, List.getD_eq_getElem?_getD, List.getElem?_eq_getElem Aik, List.getElem?_eq_getElem Bik, Option.getD_some, hta, htb]; rfl
        have HT12 := Lib.hid (And.intro T1 T2)
        have HNP := Lib.hid NP
        clear NP T1 T2 hta htb NK n1 n2 n3 n4 n5 n7'
        go_upto_region 12 with fail
        refine wp_region_ext_tail 14 (by kernel_rfl) (by kernel_rfl) ?_
        dsimp only [List.take, List.drop]
        repeat (go_big_quiet_step (((go_at_call 61; exact Calls.ext (or3_any HT12.out.1 HT12.out.2 _)))))
        refine wpQuiet_nil ?_
        rintro _ ⟨x2, rfl⟩
        have c2 := x2.lt vT
        have hs2 := (x2.cell (w.heap.size + 1) k vT).trans hold
        have hf2 := (x2.frozen (w.heap.size + 1) k vT).trans hfro
        go_wp2_with fail
        go_roundg (gk - 1)
        case measure => have := HK.out.1; omega
        case rel => exact ⟨k + 1, by have := HK.out.1; omega, by go_num, ExtC.of_set (Below.on vb x2) (by omega) (by rw [AS.out, HNP.out]; exact (MN.out.to x2.below).step HK.out.2 hkm (orT_3 HT12.out.1 HT12.out.2)) ((x2.cell _ 0 vw).trans v0) ((x2.cell _ 1 vw).trans v1) (by omega)⟩
      by_cases o11 : dop = 11
      · subst o11
        obtain ⟨a0, a1⟩ := NK.2.2.1 (by omega)
        obtain ⟨Ai, rfl⟩ : ∃ Ai : Nat, da = Ai := ⟨da.toNat, by omega⟩
        have Aik : Ai < acc.length := by have := HK.out.2; omega
        have Aim : (Ai : Int) < (m : Int) := by omega
        have hA := MN.out.lv Ai Aik
        obtain ⟨ta, hta⟩ : ∃ ta, acc[Ai]'Aik = ta := ⟨_, rfl⟩
        have T1 : T3 ta := hta ▸ MN.out.t3 _ (List.getElem_mem Aik)
        rw [hta] at hA
        have NP : stepT cs row acc ⟨11, dcol, ⟨dvn, dn, ds⟩, dls, Ai, db⟩ = notT ta := by
          unfold stepT; simp only [Int.toNat_natCast, List.getD_eq_getElem?_getD, List.getElem?_eq_getElem Aik, Option.getD_some, hta]; rfl
        have HT12 := Lib.hid T1
        have HNP := Lib.hid NP
        clear NP T1 hta NK n1 n2 n3 n4 n5 n7'
        go_wp2_with (go_at_call 52; refine Calls.mono (not3_any HT12.out _) ?_; rintro e w3 ⟨rfl, hb3⟩; obtain ⟨x2, rfl⟩ := Ext.of hb3; have c2 := x2.lt vT; have hs2 := (x2.cell (w.heap.size + 1) k vT).trans hold; have hf2 := (x2.frozen (w.heap.size + 1) k vT).trans hfro)
        go_roundg (gk - 1)
        case measure => have := HK.out.1; omega
        case rel => exact ⟨k + 1, by have := HK.out.1; omega, by go_num, ExtC.of_set (Below.on vb x2) (by omega) (by rw [AS.out, HNP.out]; exact (MN.out.to x2.below).step HK.out.2 hkm (notT_3 HT12.out)) ((x2.cell _ 0 vw).trans v0) ((x2.cell _ 1 vw).trans v1) (by omega)⟩
      have h19 : 1 ≤ dop ∧ dop ≤ 8 := by have := NK.1; have := NK.2.1; omega
      have CL := NL.out (by omega)
      obtain ⟨K, rfl⟩ : ∃ K : Nat, dcol = K := ⟨dcol.toNat, by omega⟩
      have Kl : K < cs.length := by omega
      have Kr : K < row.length := by rw [HRL.out, ← HL.out]; exact Kl
      have KnI : (K : Int) < (nc : Int) := by have := HL.out; omega
      obtain ⟨rb, ro, rfl, _, hrb, e0, e1, e2⟩ := vals_in HRW.out Kr
      obtain ⟨u, hu⟩ : ∃ u, row[K]'Kr = u := ⟨_, rfl⟩
      rw [hu] at e0 e1 e2
      obtain ⟨un, ui, us⟩ := u
      dsimp only at e0 e1 e2
      have r0 := (vb.cell (p := ⟨rb, ro + K * 3, none⟩) hrb).trans e0
      have r1 := (vb.cell (p := ⟨rb, ro + K * 3 + 1, none⟩) hrb).trans e1
      have r2 := (vb.cell (p := ⟨rb, ro + K * 3 + 2, none⟩) hrb).trans e2
      have zr : rb < v.it.heap.size := Nat.lt_of_lt_of_le hrb vb.size
      have q9 : (dop == 9) = false := by simpa using o9
      have q10 : (dop == 10) = false := by simpa using o10
      have q11 : (dop == 11) = false := by simpa using o11
      have NP : stepT cs row acc ⟨dop, K, ⟨dvn, dn, ds⟩, dls, da, db⟩ = leafT (cs[K]'Kl).ty ⟨dop, K, ⟨dvn, dn, ds⟩, dls, da, db⟩ ⟨un, ui, us⟩ := by
        unfold stepT colTy
        simp only [Int.toNat_natCast, List.getD_eq_getElem?_getD, List.getElem?_eq_getElem Kl, List.getElem?_eq_getElem Kr, Option.getD_some, hu]
        rw [if_neg o9, if_neg o10, if_neg o11]
      have HNP := Lib.hid NP
      have HCv := Lib.hid (HC.out.mono vb vb.size)
      have HLv := Lib.hid (HLV.out.mono vb vb.size)
      have H18 := Lib.hid h19
      obtain ⟨R, hR⟩ : ∃ R, leafT (cs[K]'Kl).ty ⟨dop, K, ⟨dvn, dn, ds⟩, dls, da, db⟩ ⟨un, ui, us⟩ = R := ⟨_, rfl⟩
      have HR3 : Hid (T3 R) := Lib.hid (hR ▸ leafT_3 _ _ _)
      have LT := Lib.hid (fun x : Ext v.it => (by have h := leafTruth_any (.slice ca nc cc) cs key K dop dvn dn ds (.slice la lm lc) dls da db un ui us x.it (HCv.out.mono x.below x.below.size) (HLv.out.mono x.below x.below.size) Kl H18.out.1 H18.out.2; rw [hR] at h; exact h : Calls Try.prog 62 #[.agg #[.slice ca nc cc, .int .i64 key], .agg #[.int .i64 dop, .int .i64 (K : Int), .bool dvn, .int .i64 dn, .string ds, .slice la lm lc, .int .i64 da, .int .i64 db], .agg #[.bool un, .int .i64 ui, .string us]] x.it fun e w' => e = .returned (.int .i64 R) ∧ Below x.it.heap.size x.it w'))
      have HR := Lib.hid hR
      clear NP hu e0 e1 e2 CL NK hR o9 o10 o11 h19
      go_upto_region 8 with fail
      refine wp_region_ext_tail 11 (by kernel_rfl) (by kernel_rfl) ?_
      dsimp only [List.take, List.drop]
      repeat (go_big_quiet_step (((go_at_call 62; exact Calls.ext (LT.out _)))))
      refine wpQuiet_nil ?_
      rintro _ ⟨x2, rfl⟩
      have c2 := x2.lt vT
      have hs2 := (x2.cell (w.heap.size + 1) k vT).trans hold
      have hf2 := (x2.frozen (w.heap.size + 1) k vT).trans hfro
      go_wp2_with fail
      go_roundg (gk - 1)
      case measure => have := HK.out.1; omega
      case rel => exact ⟨k + 1, by have := HK.out.1; omega, by go_num, ExtC.of_set (Below.on vb x2) (by omega) (by rw [AS.out, HNP.out, HR.out]; exact (MN.out.to x2.below).step HK.out.2 hkm HR3.out) ((x2.cell _ 0 vw).trans v0) ((x2.cell _ 1 vw).trans v1) (by omega)⟩
end Go.Proofs.Ytfemekmkmiljdaa
