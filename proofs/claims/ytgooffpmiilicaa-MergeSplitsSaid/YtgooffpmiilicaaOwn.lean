/-
  COPIES OF RECORDS: slices.Clone of a row, batch.Own. Conditions: the records lie in memory as 'RecsAt' says; at most 2^42 of them, each row at most 2^42 long.
-/
import Derived.Test.YtgooffpmiilicaaApp
import Derived.Deep.AppendLies
import Derived.Lib.SliceRun
set_option linter.unusedVariables false
set_option linter.unusedSimpArgs false
namespace Go.Proofs.Ytgooffpmiilicaa
open Go.RowKit
@[go_sem] theorem eql_vals_none (w : World) (n c : Nat) : (binOp .eql 33 (.slice none n c) (.slice none 0 0)).run Try.prog w = .ok (.bool true) w := Lib.run_eql_slice_nil w _ _ none n c 0 0 Try.underlying33
@[go_sem] theorem eql_vals_some (w : World) (a : Addr) (n c : Nat) : (binOp .eql 33 (.slice (some a) n c) (.slice none 0 0)).run Try.prog w = .ok (.bool false) w := Lib.run_eql_slice_nil w _ _ (some a) n c 0 0 Try.underlying33
def ClonePost (w : World) (l : List Val) (e : Ending) (w' : World) : Prop := ∃ v, e = .returned v ∧ w'.ownsRow w.heap.size 37 3 v l.length (l.flatMap valC) ∧ Below w.heap.size w w'
set_option maxRecDepth 8000 in
set_option maxHeartbeats 1000000 in
theorem clone_any (lv : Value) (l : List Val) (w : World) (h : ValsAt w w.heap.size lv l) (hb : l.length ≤ 4398046511104) :
    Calls Try.prog 53 #[lv] w (ClonePost w l) := by
  obtain ⟨i0, hi, hz0, hz1, hz2⟩ := info_parts infoVal
  obtain ⟨a, c, rfl⟩ := vals_end h
  have SR := Lib.hid (vals_row h)
  have HV := Lib.hid h
  cases a with
  | none =>
    have e0 : l = [] := by
      rcases h.2 with ⟨e, _⟩ | ⟨b, o, c', hv, _⟩
      · exact e
      · injection hv with q; cases q
    subst e0
    clear h SR HV
    go_enter Try.func53, Try.ntmps53
    go_wp2
    refine bodyPost_ret (v := .slice none 0 0) ?_ rfl ⟨_, rfl, World.ownsRow_nil _ _ _ _, Below.refl _ _⟩
    simp (maxDischargeDepth := 9) [results, Try.results53, go_sem, *]
  | some a =>
    have SR2 : Hid (SrcRow (w.alloc (.cells #[] 37)) (.slice (some a) l.length c) l.length 3 (l.flatMap valC)) := Lib.hid (vals_row (h.mono (B' := w.heap.size) ((Below.refl _ _).alloc (Nat.le_refl _) _) (Nat.le_refl _)))
    have OW : Hid ((w.alloc (.cells #[] 37)).ownsRow w.heap.size 37 3 (.slice (some ⟨w.heap.size, 0, none⟩) 0 0) 0 []) := Lib.hid ⟨rfl, .inr ⟨w.heap.size, 0, #[], rfl, Nat.le_refl _, heap_alloc_new w _, Nat.le_refl _, by simp, rfl, rfl⟩⟩
    clear h SR HV
    have CP : Hid (∀ v w', w'.ownsRow w.heap.size 37 3 v l.length (l.flatMap valC) → Below w.heap.size w w' → ClonePost w l (.returned v) w') := Lib.hid (fun v w' h1 h2 => ⟨v, rfl, h1, h2⟩)
    generalize hL : l.flatMap valC = L at *
    generalize l.length = n at *
    clear hL
    go_enter Try.func53, Try.ntmps53
    go_wp2_with (at_builtin; go_must (refine wpList_append_row (by rfl) _ _ 33 rfl w.heap.size 37 i0 _ 3 32 Try.underlying33 hi hz0 hz1 hz2 rfl (by decide) (.slice (some ⟨w.heap.size, 0, none⟩) 0 0) 0 [] rfl OW.out _ n L rfl SR2.out (by unfold maxLen; omega) (by omega) (by simp) ?_); intro v1 w1 hown hg ha; rw [Nat.zero_add, List.nil_append] at hown; have R1 := Lib.hid hown; have B1 : Hid (Below w.heap.size w w1) := Lib.hid (Below.gr (Below.al (Below.refl _ _) _) OW.out hg); obtain ⟨a1, c1, rfl⟩ := own_form hown; clear hown hg ha)
    refine bodyPost_ret (v := .slice a1 n c1) ?_ rfl (CP.out _ _ R1.out B1.out)
    simp (maxDischargeDepth := 9) [results, Try.results53, go_sem, *]
/-- The records that batch.Own has copied. -/
structure OwnMem (w0 : World) (wr : World) (v : Value) (ps : List (Int × Value)) (rs : List Rc) : Prop where
  below : Below w0.heap.size w0 wr
  own : wr.ownsRow w0.heap.size 35 2 v ps.length (ps.flatMap rcC)
  inn : InnR w0.heap.size wr v ps rs
theorem OwnMem.on {w0 wr wx : World} {v : Value} {ps : List (Int × Value)} {rs : List Rc} (h : OwnMem w0 wr v ps rs) (hb : Below wr.heap.size wr wx) : OwnMem w0 wx v ps rs := by
  refine ⟨Below.to h.below hb, own_to h.own hb, h.inn.1, fun j hj hj' => ?_⟩
  obtain ⟨h0, h1, h2⟩ := h.inn.2 j hj hj'
  exact ⟨h0, h1.mono hb hb.size, fun k hk => ⟨(h2 k hk).1, Nat.lt_of_lt_of_le (h2 k hk).2.1 hb.size, (h2 k hk).2.2⟩⟩
theorem OwnMem.step {w0 wr w1 : World} {v v1 : Value} {ps : List (Int × Value)} {rs : List Rc} {sq : Int} {lv : Value} {row : List Val} (h : OwnMem w0 wr v ps rs) (hv : ValsAt wr wr.heap.size lv row) (hl : ∀ k, lv.ownBlock = some k → w0.heap.size ≤ k ∧ k < wr.heap.size ∧ v.ownBlock ≠ some k)
    (hg : wr.grownBy w1 v.ownBlock) (ho : w1.ownsRow w0.heap.size 35 2 v1 (ps.length + 1) (ps.flatMap rcC ++ rcC (sq, lv))) (ha : v.ownBlock = v1.ownBlock ∨ v1.ownBlock = some wr.heap.size) : OwnMem w0 w1 v1 (ps ++ [(sq, lv)]) (rs ++ [⟨sq, row⟩]) :=
  ⟨Below.gr h.below h.own hg, by rw [List.length_append, List.flatMap_append]; simpa using ho, h.inn.step (p := (sq, lv)) (r := ⟨sq, row⟩) rfl hv hl hg ha⟩
def OwnPost (w : World) (rs : List Rc) (e : Ending) (w' : World) : Prop := ∃ v1 ps, e = .returned v1 ∧ OwnMem w w' v1 ps rs
set_option maxRecDepth 8000 in
set_option maxHeartbeats 1000000 in
theorem own_any (v : Value) (rs : List Rc) (w : World) (h : RecsAt w w.heap.size v rs) (hb : rs.length ≤ 4398046511104) (hr : ∀ r ∈ rs, r.row.length ≤ 4398046511104) :
    Calls Try.prog 35 #[v] w (OwnPost w rs) := by
  obtain ⟨i0, hi, hz0, hz1, hz2⟩ := info_parts infoRec
  obtain ⟨a, c, rfl⟩ := recs_end h
  obtain ⟨n, hn⟩ : ∃ n, rs.length = n := ⟨_, rfl⟩
  have h63 := h.1
  rw [hn] at h h63 hb ⊢
  have HC := Lib.hid h
  have HL := Lib.hid hn
  have HR := Lib.hid hr
  clear h hn hr
  go_enter Try.func35, Try.ntmps35
  go_upto_region 3 with fail
  go_wp2_with fail
  go_loopg [3, 8] n (fun g vo st wr => ∃ (k : Nat) (ps : List (Int × Value)), k + g = n ∧ st = .int .i64 (k : Int) ∧ OwnMem w wr vo ps (rs.take k))
  case atStart => exact ⟨0, [], by omega, rfl, Below.refl _ _, World.ownsRow_nil _ _ _ _, by rw [List.take_zero]; exact ⟨rfl, fun j hj => absurd hj (by simp)⟩⟩
  case round =>
    obtain ⟨k, ps, hk, rfl, M⟩ := hrel
    have hx := M.below
    have HK := Lib.hid hk
    have MH := Lib.hid M
    have zw := hx.size
    have PL : ps.length = k := by rw [M.inn.1, List.length_take, HL.out]; omega
    have PH := Lib.hid PL
    obtain ⟨va, vc, ev⟩ := own_form M.own
    rw [PL] at ev
    subst ev
    clear M
    by_cases hg0 : gk = 0
    · subst hg0
      have hkn := Lib.hid (show k = n by omega)
      have hkn' : ¬ (k : Int) < (n : Int) := by omega
      clear hk PL
      go_wp2
      refine bodyPost_ret (v := .slice va k vc) ?_ rfl ⟨_, ps, rfl, by have := MH.out; rwa [List.take_of_length_le (by rw [HL.out, hkn.out]; exact Nat.le_refl _)] at this⟩
      simp (maxDischargeDepth := 9) [results, Try.results35, go_sem, *]
    · have hkn : k < n := by omega
      have hkn' : (k : Int) < n := by omega
      have hkl : k < rs.length := by rw [HL.out]; exact hkn
      obtain ⟨b, o, rfl, hcap, hb', c0, lv, c1, c2⟩ := recs_in HC.out hkl
      have TS := Lib.hid (List.take_succ_eq_append_getElem hkl)
      have RB := HR.out _ (List.getElem_mem hkl)
      obtain ⟨d, hd⟩ : ∃ d, rs[k]'hkl = d := ⟨_, rfl⟩
      rw [hd] at c0 c2 RB
      have TS2 : Hid (rs.take (k + 1) = rs.take k ++ [d]) := Lib.hid (by rw [TS.out, hd])
      obtain ⟨sq, row⟩ := d
      dsimp only at c0 c2 RB
      have f0 := (hx.cell (p := ⟨b, o + k * 2, none⟩) hb').trans c0
      have f1 := (hx.cell (p := ⟨b, o + k * 2 + 1, none⟩) hb').trans c1
      have zb : b < wr.heap.size := Nat.lt_of_lt_of_le hb' zw
      have VV := Lib.hid (c2.mono hx zw)
      obtain ⟨la, lc, rfl⟩ := vals_end c2
      obtain ⟨rl, hrl⟩ : ∃ rl, row.length = rl := ⟨_, rfl⟩
      rw [hrl] at f1 VV RB
      have HRL := Lib.hid hrl
      have GZ := Lib.hid hg0
      clear c0 c1 c2 hcap hd hk hg0 TS hrl PL
      go_upto_region 5 with fail
      refine captureM ?_
      intro y ey
      have yb : Below wr.heap.size wr y := by rw [ey]; exact (by repeat (first | with_reducible exact Below.refl _ _ | with_reducible assumption | with_reducible refine Below.al ?_ _ | with_reducible refine Below.on ?_ _ | with_reducible refine Below.st ?_ (by first | assumption | (simp; done) | (simp; omega)) _ | with_reducible refine Below.drew ?_))
      have yz : wr.heap.size < y.heap.size := by rw [ey]; simp
      have y0 : y.cell? ⟨wr.heap.size, 0, none⟩ = some (.int .i64 sq) := by rw [ey]; simp (maxDischargeDepth := 9) [go_sem, *]
      have y1 : y.cell? ⟨wr.heap.size, 1, none⟩ = some (.slice la rl lc) := by rw [ey]; simp (maxDischargeDepth := 9) [go_sem, *]
      have MY := Lib.hid (MH.out.on yb)
      have VY := Lib.hid (VV.out.mono yb yb.size)
      have HV := Lib.hid (fun q (hq : Value.ownBlock (.slice va k vc) = some q) => (MH.out.own.lt q hq).2)
      clear ey f0 f1 yb
      generalize wr.heap.size = CB at *
      have CLH := Lib.hid (fun (W : World) (hb : Below y.heap.size y W) => clone_any (.slice la rl lc) row W (VY.out.mono hb hb.size) (by rw [HRL.out]; exact RB))
      go_region_held3 (fun w' => w'.cell? ⟨CB, 0, none⟩ = some (.int .i64 sq) ∧ w'.cell? ⟨CB, 1, none⟩ = some (.slice la rl lc)) (first | exact ⟨by assumption, by assumption⟩ | (refine ⟨?_, ?_⟩ <;> simp [go_sem, *]))
        (first | (refine step_append_lies _ (by rfl) _ _ 22 (by rfl) w.heap.size 35 i0 _ 2 32 Try.underlying22 hi hz0 hz1 hz2 rfl (by decide) (.slice va k vc) ps.length (ps.flatMap rcC) (by rfl) (M3.out.own.alloc _) ⟨x3.it.heap.size, 0, none⟩ 1 1 (rcC (sq, .slice a3 rl q3)) (by rfl) rfl (World.news_of_block (heap_alloc_new x3.it _)) (rcC_one _ rfl) (by omega) (by have := PH.out; unfold maxLen; omega) (by have := PH.out; omega) (by simp; omega) (x3.it.heap.size + 1) (by simp) ?_; intro gb cap w7 hown hgrow hat hlt7; have q70 : w7.cell? ⟨CB, 0, none⟩ = some (.int .i64 sq) := hgrow.cell (a := ⟨CB, 0, none⟩) (by simp (maxDischargeDepth := 9) [go_sem, *]) (fun e => by have := HV.out CB e.symm; omega); have q71 : w7.cell? ⟨CB, 1, none⟩ = some (.slice la rl lc) := hgrow.cell (a := ⟨CB, 1, none⟩) (by simp (maxDischargeDepth := 9) [go_sem, *]) (fun e => by have := HV.out CB e.symm; omega)) | (go_at_call 53; refine Calls.mono (CLH.out _ (by repeat (first | with_reducible exact Below.refl _ _ | with_reducible assumption | with_reducible refine Below.al ?_ _ | with_reducible refine Below.on ?_ _ | with_reducible refine Below.st ?_ (by first | assumption | (simp; done) | (simp; omega)) _ | with_reducible refine Below.drew ?_))) ?_; rintro e w3 ⟨v3, rfl, ho3, hb3⟩; have hgt3 := (fun k (hk : v3.ownBlock = some k) => ho3.lt k hk); have OV := Lib.hid (own_vals (by rw [HRL.out]; omega) ho3); obtain ⟨a3, q3, rfl⟩ := own_form ho3; rw [HRL.out] at hgt3 OV; have G3 := Lib.hid hgt3; have B3 : Hid (Below y.heap.size y w3) := Lib.hid (Below.to (by repeat (first | with_reducible exact Below.refl _ _ | with_reducible assumption | with_reducible refine Below.al ?_ _ | with_reducible refine Below.on ?_ _ | with_reducible refine Below.st ?_ (by first | assumption | (simp; done) | (simp; omega)) _ | with_reducible refine Below.drew ?_)) hb3); rw [HRL.out]; clear hgt3 ho3; obtain ⟨x3, rfl⟩ := Ext.of hb3; have z3 : CB < x3.it.heap.size := x3.lt (by simpa using yz); have q30 : x3.it.cell? ⟨CB, 0, none⟩ = some (.int .i64 sq) := (x3.cell CB 0 (by simpa using yz)).trans y0; have q31 : x3.it.cell? ⟨CB, 1, none⟩ = some (.slice la rl lc) := (x3.cell CB 1 (by simpa using yz)).trans y1; have M3 : Hid (OwnMem w x3.it (.slice va k vc) ps (rs.take k)) := Lib.hid (MY.out.on B3.out); clear hb3))
      have MS := Lib.hid ((M3.out.on (Below.al (Below.refl _ _) _)).step (row := row) (OV.out.mono ((Below.refl _ _).alloc (Nat.le_refl _) _) (by simp)) (fun q hq => ⟨by have := (G3.out q hq).1; simp at this; omega, by have := (G3.out q hq).2; simp; omega, fun e => by have := HV.out q e; have := (G3.out q hq).1; simp at this; omega⟩) hgrow hown (hat.imp (fun q => q.trans rfl) (fun q => by rw [q]; simp [Value.ownBlock])))
      clear hown hgrow hat hlt7
      go_wp2_with fail
      go_roundg (gk - 1)
      case measure => have := HK.out; have := GZ.out; omega
      case rel => exact ⟨k + 1, _, by have := HK.out; have := GZ.out; omega, by go_num, by have := MS.out; rw [← TS2.out] at this; exact this⟩
end Go.Proofs.Ytgooffpmiilicaa
