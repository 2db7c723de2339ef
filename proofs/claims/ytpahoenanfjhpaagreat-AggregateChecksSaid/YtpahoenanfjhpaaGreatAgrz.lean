/-
  CHAPTER 26: law26.agrees of any arguments. Conditions: the schema, the query and the rows lie in memory; the lists of the nodes have at most 2^42 values.
-/
import Derived.Test.YtpahoenanfjhpaaGreatRanz
import Derived.Test.YtpahoenanfjhpaaGreatRunz
import Derived.Test.YtpahoenanfjhpaaGreatZj
set_option linter.unusedVariables false
set_option linter.unusedSimpArgs false
namespace Go.Proofs.YtpahoenanfjhpaaGreat
open Go.RowKit
set_option maxRecDepth 8000 in
set_option maxHeartbeats 2000000 in
theorem agrees26_any (cv : Value) (cs : List Col) (key : Int) (nv : Value) (ns : List Nod) (pv : Value) (pr : List Int) (gv : Value) (gr : List Int) (av : Value) (ag : List Ag) (rv : Value) (rows : List (List Val)) (w : World)
    (hc : ColsAt w w.heap.size cv cs) (hn : NodsAt w w.heap.size nv ns) (hp : IntsAt w w.heap.size pv pr) (hg : IntsAt w w.heap.size gv gr) (ha : AgsAt w w.heap.size av ag) (hr : RowsAt w w.heap.size rv rows) (hls : ∀ d ∈ ns, d.ls.length ≤ 4398046511104) :
    Calls Tryz.prog 11 #[.agg #[cv, .int .i64 key], .agg #[nv, pv, gv, av], rv] w fun e w' => e = .returned (.bool true) ∧ Below w.heap.size w w' := by
  have RN := Lib.hid (fun (W : World) (hb : Below w.heap.size w W) => arun_any cv cs key nv ns pv pr gv gr av ag rv rows W (hc.mono hb hb.size) (hn.mono hb hb.size) (ints_on hp hb hb.size) (ints_on hg hb hb.size) (ha.mono hb hb.size) (hr.mono hb hb.size) hls)
  have RR := Lib.hid (fun (W : World) (hb : Below w.heap.size w W) => refrun_any cv cs key nv ns pv pr gv gr av ag rv rows W (hc.mono hb hb.size) (hn.mono hb hb.size) (ints_on hp hb hb.size) (ints_on hg hb hb.size) (ha.mono hb hb.size) (hr.mono hb hb.size))
  have CK := Lib.hid (fun (W : World) (hb : Below w.heap.size w W) => acheck_any cv cs key nv ns pv pr gv gr av ag W (hc.mono hb hb.size) (hn.mono hb hb.size) (ints_on hp hb hb.size) (ints_on hg hb hb.size) (ha.mono hb hb.size))
  have CQ := Lib.hid (fun (W : World) (hb : Below w.heap.size w W) => refquery_any cv cs key nv ns pv pr gv gr av ag W (hc.mono hb hb.size) (hn.mono hb hb.size) (ints_on hp hb hb.size) (ints_on hg hb hb.size) (ha.mono hb hb.size))
  obtain ⟨ca, cc, rfl⟩ := cols_end hc
  obtain ⟨na, nnc, rfl⟩ := nods_end hn
  obtain ⟨pa, pc, rfl⟩ := ints_end hp
  obtain ⟨ga, gc, rfl⟩ := ints_end hg
  obtain ⟨aa, ac, rfl⟩ := ags_end ha
  obtain ⟨ra, rc, rfl⟩ := rows_end hr
  generalize cs.length = kc at RN RR CK CQ ⊢
  generalize ns.length = kn at RN RR CK CQ ⊢
  generalize pr.length = kp at RN RR CK CQ ⊢
  generalize gr.length = kg at RN RR CK CQ ⊢
  generalize ag.length = ka at RN RR CK CQ ⊢
  generalize rows.length = kr at RN RR CK CQ ⊢
  obtain ⟨R, hR⟩ : ∃ R, runF cs key ns pr gr ag rows = R := ⟨_, rfl⟩
  obtain ⟨E, hE⟩ : ∃ E, queryE cs key ns pr gr ag = E := ⟨_, rfl⟩
  rw [hR] at RN RR
  rw [hE] at CK CQ
  obtain ⟨R1, R2⟩ := R
  dsimp only at RN RR
  clear hc hn hp hg ha hr hls hR hE
  go_enter Tryz.func11, Tryz.ntmps11
  go_upto_region 3 with (first
    | (go_at_call 25; refine Calls.mono (RN.out _ (by repeat (first | with_reducible exact Below.refl _ _ | with_reducible assumption | with_reducible refine Below.al ?_ _ | with_reducible refine Below.on ?_ _ | with_reducible refine Below.st ?_ (by first | assumption | (simp; done) | (simp; omega)) _ | with_reducible refine Below.drew ?_))) ?_; rintro e w1 ⟨v1, rfl, hr1, hb1⟩; obtain ⟨x1, rfl⟩ := Ext.of hb1; have k1 : w.heap.size + 1 < x1.it.heap.size := x1.lt (by (first | assumption | (simp; done) | (simp; omega))); have k0 : w.heap.size < x1.it.heap.size := x1.lt (by (first | assumption | (simp; done) | (simp; omega))); have H1 := Lib.hid hr1; clear hr1)
    | (go_at_call 16; refine Calls.mono (RR.out _ (by repeat (first | with_reducible exact Below.refl _ _ | with_reducible assumption | with_reducible refine Below.al ?_ _ | with_reducible refine Below.on ?_ _ | with_reducible refine Below.st ?_ (by first | assumption | (simp; done) | (simp; omega)) _ | with_reducible refine Below.drew ?_))) ?_; rintro e w2 ⟨v2, rfl, hr2, hb2⟩; obtain ⟨x2, rfl⟩ := Ext.of hb2; have k3 : w.heap.size + 1 < x2.it.heap.size := x2.lt k1; have k2 : w.heap.size < x2.it.heap.size := x2.lt k0; have H2 := Lib.hid hr2; have H1' := Lib.hid (H1.out.mono x2.below x2.below.size); clear hr2))
  have SM := Lib.hid (fun (W : World) (hb : Below x2.it.heap.size x2.it W) => same_lists v1 v2 R1 W (H1'.out.mono hb hb.size) (H2.out.mono hb hb.size))
  have tR : (R2 == R2) = true := by simp
  have tE : (E == E) = true := by simp
  have XB : Below w.heap.size w x2.it := by repeat (first | with_reducible exact Below.refl _ _ | with_reducible assumption | with_reducible refine Below.al ?_ _ | with_reducible refine Below.on ?_ _ | with_reducible refine Below.st ?_ (by first | assumption | (simp; done) | (simp; omega)) _ | with_reducible refine Below.drew ?_)
  have CK' := Lib.hid (fun (W : World) (hb : Below x2.it.heap.size x2.it W) => CK.out W (Below.to XB hb))
  have CQ' := Lib.hid (fun (W : World) (hb : Below x2.it.heap.size x2.it W) => CQ.out W (Below.to XB hb))
  clear CK CQ RN RR
  refine wp_region_ext (by kernel_rfl) (by kernel_rfl) ?_
  repeat (go_big_quiet_step ((first | (go_at_call 17; exact Calls.ext (SM.out _ (Ext.below _))) | (go_at_call 29; exact Calls.ext (CK'.out _ (Ext.below _))) | (go_at_call 30; exact Calls.ext (CQ'.out _ (Ext.below _))))))
  refine wpQuiet_nil ?_
  rintro _ ⟨x5, rfl⟩
  go_wp2
  exact bodyPost_ret (v := .bool true) (by simp [results, Tryz.results11, go_sem, *]) rfl (⟨rfl, by repeat (first | with_reducible exact Below.refl _ _ | with_reducible assumption | with_reducible refine Below.al ?_ _ | with_reducible refine Below.on ?_ _ | with_reducible refine Below.st ?_ (by first | assumption | (simp; done) | (simp; omega)) _ | with_reducible refine Below.drew ?_)⟩)
end Go.Proofs.YtpahoenanfjhpaaGreat
