/-
  PREDICATES: the reference's leafTruth, EvalRow, CheckRow, Eval of a valid predicate and a valid row: 'evalF'. Conditions: all lie in memory as 'ColsAt', 'NodsAt', 'ValsAt' say.
-/
import Derived.Test.YtfemekmkmiljdaaEvl
import Derived.Test.YtfemekmkmiljdaaOfc
set_option linter.unusedVariables false
set_option linter.unusedSimpArgs false
namespace Go.Proofs.Ytfemekmkmiljdaa
open Go.RowKit
def leafT (ty : Int) (d : Nod) (v : Val) : Int :=
  if d.op = 8 then b2t v.null else if v.null = true then 2 else if d.op ≤ 6 then b2t (holdsB d.op (cmpV ty v d.v)) else
  if (!(amongF ty v d.ls (false, false)).1 && (amongF ty v d.ls (false, false)).2) = true then 2 else b2t (amongF ty v d.ls (false, false)).1
theorem leafT_3 (ty : Int) (d : Nod) (v : Val) : T3 (leafT ty d v) := by
  unfold leafT
  repeat (first | split | exact b2t_3 _ | exact .inr (.inr rfl))
theorem leafT_in {ty : Int} {d : Nod} {v : Val} {fb nb : Bool} (h8 : ¬ d.op = 8) (h6 : ¬ d.op ≤ 6) (hv : v.null = false) (hf : amongF ty v d.ls (false, false) = (fb, nb)) : leafT ty d v = if (!fb && nb) = true then 2 else b2t fb := by
  unfold leafT
  rw [if_neg h8, hv, if_neg (by simp), if_neg h6, hf]
set_option maxRecDepth 8000 in
set_option maxHeartbeats 4000000 in
theorem leafTruth_any (cv : Value) (cs : List Col) (key : Int) (K : Nat) (op : Int) (vn : Bool) (n : Int) (s : ByteArray) (lv : Value) (ls : List Val) (a b : Int) (xn : Bool) (xi : Int) (xs : ByteArray) (w : World) (hc : ColsAt w w.heap.size cv cs) (hv : ValsAt w w.heap.size lv ls) (hK : K < cs.length) (h1 : 1 ≤ op) (h8 : op ≤ 8) :
    Calls Try.prog 62 #[.agg #[cv, .int .i64 key], .agg #[.int .i64 op, .int .i64 (K : Int), .bool vn, .int .i64 n, .string s, lv, .int .i64 a, .int .i64 b], .agg #[.bool xn, .int .i64 xi, .string xs]] w fun e w' => e = .returned (.int .i64 (leafT (cs[K]'hK).ty ⟨op, K, ⟨vn, n, s⟩, ls, a, b⟩ ⟨xn, xi, xs⟩)) ∧ Below w.heap.size w w' := by
  obtain ⟨ca, cc, rfl⟩ := cols_end hc
  obtain ⟨la, lc, rfl⟩ := vals_end hv
  obtain ⟨nc, hl⟩ : ∃ nc, cs.length = nc := ⟨_, rfl⟩
  obtain ⟨m, hm⟩ : ∃ m, ls.length = m := ⟨_, rfl⟩
  have hc' : ColsAt w w.heap.size (.slice ca nc cc) cs := (by rw [← hl]; exact hc)
  have HV : Hid (ValsAt w w.heap.size (.slice la m lc) ls) := Lib.hid (by rw [← hm]; exact hv)
  rw [hl, hm]
  obtain ⟨cb, co, rfl, _, hcb, c0, c1, c2, c3⟩ := cols_in hc' hK
  obtain ⟨ty, hty⟩ : ∃ ty, (cs[K]'hK).ty = ty := ⟨_, rfl⟩
  rw [hty] at c1 ⊢
  have cl' : (K : Int) < (nc : Int) := by omega
  obtain ⟨R, hR⟩ : ∃ R, leafT ty ⟨op, K, ⟨vn, n, s⟩, ls, a, b⟩ ⟨xn, xi, xs⟩ = R := ⟨_, rfl⟩
  rw [hR]
  have HR := Lib.hid hR
  clear hR hc hc' hv hl hm hty c0 c2 c3
  go_enter Try.func62, Try.ntmps62
  go_upto_region 1 with fail
  refine captureP ?_
  intro y ey
  have n0 : y.it.cell? ⟨w.heap.size + 1, 0, none⟩ = some (.int .i64 op) := by rw [ey]; simp (maxDischargeDepth := 9) [go_sem, *]
  have n1 : y.it.cell? ⟨w.heap.size + 1, 1, none⟩ = some (.int .i64 (K : Int)) := by rw [ey]; simp (maxDischargeDepth := 9) [go_sem, *]
  have b0 : y.it.cell? ⟨w.heap.size, 0, none⟩ = some (.slice (some ⟨cb, co, none⟩) nc cc) := by rw [ey]; simp (maxDischargeDepth := 9) [go_sem, *]
  have n2 : y.it.cell? ⟨w.heap.size + 1, 2, none⟩ = some (.bool vn) := by rw [ey]; simp (maxDischargeDepth := 9) [go_sem, *]
  have n3 : y.it.cell? ⟨w.heap.size + 1, 3, none⟩ = some (.int .i64 n) := by rw [ey]; simp (maxDischargeDepth := 9) [go_sem, *]
  have n4 : y.it.cell? ⟨w.heap.size + 1, 4, none⟩ = some (.string s) := by rw [ey]; simp (maxDischargeDepth := 9) [go_sem, *]
  have n5 : y.it.cell? ⟨w.heap.size + 1, 5, none⟩ = some (.slice la m lc) := by rw [ey]; simp (maxDischargeDepth := 9) [go_sem, *]
  have x0 : y.it.cell? ⟨w.heap.size + 1 + 1, 0, none⟩ = some (.bool xn) := by rw [ey]; simp (maxDischargeDepth := 9) [go_sem, *]
  have x1 : y.it.cell? ⟨w.heap.size + 1 + 1, 1, none⟩ = some (.int .i64 xi) := by rw [ey]; simp (maxDischargeDepth := 9) [go_sem, *]
  have x2 : y.it.cell? ⟨w.heap.size + 1 + 1, 2, none⟩ = some (.string xs) := by rw [ey]; simp (maxDischargeDepth := 9) [go_sem, *]
  have z2 : w.heap.size + 1 + 1 < y.it.heap.size := by rw [ey]; simp
  have z1 : w.heap.size + 1 < y.it.heap.size := by omega
  have yb : Below w.heap.size w y.it := by rw [ey]; exact (by repeat (first | with_reducible exact Below.refl _ _ | with_reducible assumption | with_reducible refine Below.al ?_ _ | with_reducible refine Below.on ?_ _ | with_reducible refine Below.st ?_ (by first | assumption | (simp; done) | (simp; omega)) _ | with_reducible refine Below.drew ?_))
  have HVy := Lib.hid (HV.out.mono yb yb.size)
  have f1 := (yb.cell (p := ⟨cb, co + K * 4 + 1, none⟩) hcb).trans c1
  have z0 : cb < y.it.heap.size := by omega
  clear ey c1
  go_upto_region 2 with fail
  by_cases o8 : op = 8
  · subst o8
    obtain rfl : b2t xn = R := by rw [← HR.out]; unfold leafT; rw [if_pos rfl]
    go_wp2_with (go_at_call 80; refine Calls.mono (truth_any _ _) ?_; rintro e w3 ⟨rfl, hb3⟩; obtain ⟨x3, rfl⟩ := Ext.of hb3)
    exact bodyPost_ret (v := .int .i64 (b2t xn)) (by simp [results, Try.results62, go_sem, *]) rfl (⟨rfl, by repeat (first | with_reducible exact Below.refl _ _ | with_reducible assumption | with_reducible refine Below.al ?_ _ | with_reducible refine Below.on ?_ _ | with_reducible refine Below.st ?_ (by first | assumption | (simp; done) | (simp; omega)) _ | with_reducible refine Below.drew ?_)⟩)
  have q8 : (op == 8) = false := by simpa using o8
  cases xn with
  | true =>
    obtain rfl : 2 = R := by rw [← HR.out]; unfold leafT; rw [if_neg (by exact o8), if_pos rfl]
    go_wp2
    exact bodyPost_ret (v := .int .i64 2) (by simp [results, Try.results62, go_sem, *]) rfl (⟨rfl, by repeat (first | with_reducible exact Below.refl _ _ | with_reducible assumption | with_reducible refine Below.al ?_ _ | with_reducible refine Below.on ?_ _ | with_reducible refine Below.st ?_ (by first | assumption | (simp; done) | (simp; omega)) _ | with_reducible refine Below.drew ?_)⟩)
  | false =>
    by_cases o6 : op ≤ 6
    · obtain rfl : b2t (holdsB op (cmpV ty ⟨false, xi, xs⟩ ⟨vn, n, s⟩)) = R := by rw [← HR.out]; unfold leafT; rw [if_neg (by exact o8), if_neg (by simp), if_pos (by exact o6)]
      have tc : (decide (1 ≤ op) && decide (op ≤ 6)) = true := by rw [decide_eq_true h1, decide_eq_true o6]; rfl
      have H6 := Lib.hid (And.intro h1 o6)
      go_upto_region 7 with (go_at_call 72; refine (comparisonB_any _ _).mono ?_; rintro e w3 ⟨rfl, hb3⟩; obtain ⟨x3, rfl⟩ := Ext.of hb3; have v1 := x3.lt z1; have v2 := x3.lt z2)
      refine wp_region_ext (by kernel_rfl) (by kernel_rfl) ?_
      repeat (go_big_quiet_step ((first | (go_at_call 71; exact Calls.ext (refCompare_any _ _ _ _ _ _ _ _)) | (go_at_call 81; exact Calls.ext (holds_any H6.out.1 H6.out.2 (cmpV_3 _ _ _) _)) | (go_at_call 80; exact Calls.ext (truth_any _ _)))))
      refine wpQuiet_nil ?_
      rintro _ ⟨x4, rfl⟩
      go_wp2
      exact bodyPost_ret (v := .int .i64 (b2t (holdsB op (cmpV ty ⟨false, xi, xs⟩ ⟨vn, n, s⟩)))) (by simp [results, Try.results62, go_sem, *]) rfl (⟨rfl, by repeat (first | with_reducible exact Below.refl _ _ | with_reducible assumption | with_reducible refine Below.al ?_ _ | with_reducible refine Below.on ?_ _ | with_reducible refine Below.st ?_ (by first | assumption | (simp; done) | (simp; omega)) _ | with_reducible refine Below.drew ?_)⟩)
    · have tc : (decide (1 ≤ op) && decide (op ≤ 6)) = false := by rw [Bool.and_eq_false_iff]; exact .inr (decide_eq_false o6)
      obtain ⟨fb, nb, hfn⟩ : ∃ fb nb, amongF ty ⟨false, xi, xs⟩ ls (false, false) = (fb, nb) := ⟨_, _, rfl⟩
      have HF := Lib.hid hfn
      have HRR : (if (!fb && nb) = true then 2 else b2t fb) = R := by rw [← HR.out]; exact (leafT_in (d := ⟨op, K, ⟨vn, n, s⟩, ls, a, b⟩) o8 o6 rfl hfn).symm
      have HRR' := Lib.hid HRR
      clear hfn HRR
      go_upto_region 9 with (first | (go_at_call 72; refine (comparisonB_any _ _).mono ?_; rintro e w3 ⟨rfl, hb3⟩; obtain ⟨x3, rfl⟩ := Ext.of hb3; have v1 := x3.lt z1; have v2 := x3.lt z2; have HVx := Lib.hid (HVy.out.mono hb3 hb3.size)) | (go_at_call 82; refine Calls.mono (among_any ty false xi xs (.slice la m lc) ls _ HVx.out) ?_; rintro e w4 ⟨rfl, hb4⟩; rw [HF.out]; obtain ⟨x4, rfl⟩ := Ext.of hb4))
      cases fb <;> cases nb
      all_goals
        first | (obtain rfl : 2 = R := HRR'.out) | (obtain rfl : b2t false = R := HRR'.out) | (obtain rfl : b2t true = R := HRR'.out)
        go_wp2_with (go_at_call 80; refine Calls.mono (truth_any _ _) ?_; rintro e w5 ⟨rfl, hb5⟩; obtain ⟨x5, rfl⟩ := Ext.of hb5)
      exact bodyPost_ret (v := .int .i64 (b2t false)) (by simp [results, Try.results62, go_sem, *]) rfl (⟨rfl, by repeat (first | with_reducible exact Below.refl _ _ | with_reducible assumption | with_reducible refine Below.al ?_ _ | with_reducible refine Below.on ?_ _ | with_reducible refine Below.st ?_ (by first | assumption | (simp; done) | (simp; omega)) _ | with_reducible refine Below.drew ?_)⟩)
      exact bodyPost_ret (v := .int .i64 2) (by simp [results, Try.results62, go_sem, *]) rfl (⟨rfl, by repeat (first | with_reducible exact Below.refl _ _ | with_reducible assumption | with_reducible refine Below.al ?_ _ | with_reducible refine Below.on ?_ _ | with_reducible refine Below.st ?_ (by first | assumption | (simp; done) | (simp; omega)) _ | with_reducible refine Below.drew ?_)⟩)
      exact bodyPost_ret (v := .int .i64 (b2t true)) (by simp [results, Try.results62, go_sem, *]) rfl (⟨rfl, by repeat (first | with_reducible exact Below.refl _ _ | with_reducible assumption | with_reducible refine Below.al ?_ _ | with_reducible refine Below.on ?_ _ | with_reducible refine Below.st ?_ (by first | assumption | (simp; done) | (simp; omega)) _ | with_reducible refine Below.drew ?_)⟩)
      exact bodyPost_ret (v := .int .i64 (b2t true)) (by simp [results, Try.results62, go_sem, *]) rfl (⟨rfl, by repeat (first | with_reducible exact Below.refl _ _ | with_reducible assumption | with_reducible refine Below.al ?_ _ | with_reducible refine Below.on ?_ _ | with_reducible refine Below.st ?_ (by first | assumption | (simp; done) | (simp; omega)) _ | with_reducible refine Below.drew ?_)⟩)
end Go.Proofs.Ytfemekmkmiljdaa
