/-
  BOUNDS OF A NODE: the reference's every, from, to, only, listed, leafBounds. Conditions: each theorem states its own.
-/
import Derived.Test.YtjojnakgadfgmaaOf0
import Derived.Test.YtjojnakgadfgmaaRjo
set_option linter.unusedVariables false
set_option linter.unusedSimpArgs false
namespace Go.Proofs.Ytjojnakgadfgmaa
open Go.RowKit
set_option maxHeartbeats 1000000 in
theorem every_any (b : Bool) (w : World) : Calls Try.prog 43 #[.bool b] w fun e w' => e = .returned (.agg #[.bool b, .bool true, .bool false, .bool false, .bool false, .int .i64 0, .string ⟨#[]⟩, .bool false, .int .i64 0, .string ⟨#[]⟩]) ∧ Below w.heap.size w w' := by
  go_enter Try.func43, Try.ntmps43
  go_wp2
  exact bodyPost_ret (v := .agg #[.bool b, .bool true, .bool false, .bool false, .bool false, .int .i64 0, .string ⟨#[]⟩, .bool false, .int .i64 0, .string ⟨#[]⟩]) (by simp (maxDischargeDepth := 5) [results, Try.results43, go_sem, *]) rfl (⟨rfl, by repeat (first | with_reducible exact Below.refl _ _ | with_reducible assumption | with_reducible refine Below.al ?_ _ | with_reducible refine Below.on ?_ _ | with_reducible refine Below.st ?_ (by first | assumption | (simp; done) | (simp; omega)) _ | with_reducible refine Below.drew ?_)⟩)
set_option maxHeartbeats 1000000 in
theorem rfrom_any (vn : Bool) (n : Int) (s : ByteArray) (w : World) : Calls Try.prog 58 #[.agg #[.bool vn, .int .i64 n, .string s]] w fun e w' => e = .returned (.agg #[.bool false, .bool true, .bool true, .bool false, .bool vn, .int .i64 n, .string s, .bool false, .int .i64 0, .string ⟨#[]⟩]) ∧ Below w.heap.size w w' := by
  go_enter Try.func58, Try.ntmps58
  go_wp2
  exact bodyPost_ret (v := .agg #[.bool false, .bool true, .bool true, .bool false, .bool vn, .int .i64 n, .string s, .bool false, .int .i64 0, .string ⟨#[]⟩]) (by simp (maxDischargeDepth := 5) [results, Try.results58, go_sem, *]) rfl (⟨rfl, by repeat (first | with_reducible exact Below.refl _ _ | with_reducible assumption | with_reducible refine Below.al ?_ _ | with_reducible refine Below.on ?_ _ | with_reducible refine Below.st ?_ (by first | assumption | (simp; done) | (simp; omega)) _ | with_reducible refine Below.drew ?_)⟩)
set_option maxHeartbeats 1000000 in
theorem rto_any (vn : Bool) (n : Int) (s : ByteArray) (w : World) : Calls Try.prog 57 #[.agg #[.bool vn, .int .i64 n, .string s]] w fun e w' => e = .returned (.agg #[.bool false, .bool true, .bool false, .bool true, .bool false, .int .i64 0, .string ⟨#[]⟩, .bool vn, .int .i64 n, .string s]) ∧ Below w.heap.size w w' := by
  go_enter Try.func57, Try.ntmps57
  go_wp2
  exact bodyPost_ret (v := .agg #[.bool false, .bool true, .bool false, .bool true, .bool false, .int .i64 0, .string ⟨#[]⟩, .bool vn, .int .i64 n, .string s]) (by simp (maxDischargeDepth := 5) [results, Try.results57, go_sem, *]) rfl (⟨rfl, by repeat (first | with_reducible exact Below.refl _ _ | with_reducible assumption | with_reducible refine Below.al ?_ _ | with_reducible refine Below.on ?_ _ | with_reducible refine Below.st ?_ (by first | assumption | (simp; done) | (simp; omega)) _ | with_reducible refine Below.drew ?_)⟩)
set_option maxHeartbeats 1000000 in
theorem ronly_any (vn : Bool) (n : Int) (s : ByteArray) (w : World) : Calls Try.prog 56 #[.agg #[.bool vn, .int .i64 n, .string s]] w fun e w' => e = .returned (.agg #[.bool false, .bool true, .bool true, .bool true, .bool vn, .int .i64 n, .string s, .bool vn, .int .i64 n, .string s]) ∧ Below w.heap.size w w' := by
  go_enter Try.func56, Try.ntmps56
  go_wp2
  exact bodyPost_ret (v := .agg #[.bool false, .bool true, .bool true, .bool true, .bool vn, .int .i64 n, .string s, .bool vn, .int .i64 n, .string s]) (by simp (maxDischargeDepth := 5) [results, Try.results56, go_sem, *]) rfl (⟨rfl, by repeat (first | with_reducible exact Below.refl _ _ | with_reducible assumption | with_reducible refine Below.al ?_ _ | with_reducible refine Below.on ?_ _ | with_reducible refine Below.st ?_ (by first | assumption | (simp; done) | (simp; omega)) _ | with_reducible refine Below.drew ?_)⟩)
def lsStep (ty : Int) (p : Bnd × Bool) (v : Val) : Bnd × Bool := if v.null = true then (p.1, true) else (joinF ty p.1 (bOne v), p.2)
def lsF (ty : Int) (ls : List Val) : Bnd × Bool := ls.foldl (lsStep ty) (bZero, false)
theorem lsF_succ (ty : Int) {l : List Val} {k : Nat} (h : k < l.length) : lsF ty (l.take (k + 1)) = lsStep ty (lsF ty (l.take k)) (l[k]'h) := by
  unfold lsF
  rw [List.take_succ_eq_append_getElem h, List.foldl_append]
  rfl
theorem inF_ls (ty : Int) (ls : List Val) : inF ty ls = ((lsF ty ls).1, if (lsF ty ls).2 = true then bZero else bSome) := by
  unfold inF lsF
  suffices h : ∀ (l : List Val) (p : Bnd) (b : Bool), l.foldl (inStep ty) (p, if b = true then bZero else bSome) = ((l.foldl (lsStep ty) (p, b)).1, if (l.foldl (lsStep ty) (p, b)).2 = true then bZero else bSome) from h ls bZero false
  intro l
  induction l with
  | nil => intro p b; rfl
  | cons v r ih =>
    intro p b
    rw [List.foldl_cons, List.foldl_cons]
    by_cases h : v.null = true
    · have e1 : inStep ty (p, if b = true then bZero else bSome) v = (p, if true = true then bZero else bSome) := by unfold inStep; rw [if_pos h]; rfl
      have e2 : lsStep ty (p, b) v = (p, true) := by unfold lsStep; rw [if_pos h]
      rw [e1, e2]; exact ih p true
    · have e1 : inStep ty (p, if b = true then bZero else bSome) v = (joinF ty p (bOne v), if b = true then bZero else bSome) := by unfold inStep; rw [if_neg h]
      have e2 : lsStep ty (p, b) v = (joinF ty p (bOne v), b) := by unfold lsStep; rw [if_neg h]
      rw [e1, e2]; exact ih _ b
/-- The bounds so far in the block BB; the result's block RB. -/
structure LsMem (w : World) (BB RB : Nat) (b : Bnd) : Prop where
  o : BB < w.heap.size
  r : RB < w.heap.size
  ne : RB ≠ BB
  ot : w.there BB 0 10
  rt : w.there RB 0 10
  ov : w.rangeAt BB 0 (bndC b)
theorem LsMem.below {w w' : World} {BB RB : Nat} {b : Bnd} (h : LsMem w BB RB b) (hb : Below w.heap.size w w') : LsMem w' BB RB b :=
  ⟨Nat.lt_of_lt_of_le h.o hb.size, Nat.lt_of_lt_of_le h.r hb.size, h.ne, there_below h.ot hb h.o, there_below h.rt hb h.r, rangeAt_below h.ov hb h.o⟩
theorem LsMem.put {w : World} {BB RB : Nat} {b : Bnd} (h : LsMem w BB RB b) (q : Bnd) : LsMem (w.setCells BB 0 (bndC q)) BB RB q :=
  ⟨by rw [size_setCells]; exact h.o, by rw [size_setCells]; exact h.r, h.ne, World.there_setCells h.ot _ _ _, World.there_setCells h.rt _ _ _, World.rangeAt_setCells_same _ _ _ _ h.ot⟩
set_option maxRecDepth 8000 in
set_option maxHeartbeats 2000000 in
theorem listed_any (t : Int) (lv : Value) (ls : List Val) (w : World) (hv : ValsAt w w.heap.size lv ls) :
    Calls Try.prog 59 #[.int .i64 t, lv] w fun e w' => e = .returned (.tuple #[.agg (bndC (lsF t ls).1).toArray, .bool (lsF t ls).2]) ∧ Below w.heap.size w w' := by
  obtain ⟨la, lc, rfl⟩ := vals_end hv
  obtain ⟨m, hm⟩ : ∃ m, ls.length = m := ⟨_, rfl⟩
  have h63 := hv.1
  have HV : Hid (ValsAt w w.heap.size (.slice la m lc) ls) := Lib.hid (by rw [← hm]; exact hv)
  have HM := Lib.hid hm
  rw [hm] at h63 ⊢
  clear hv hm
  go_enter Try.func59, Try.ntmps59
  go_upto_region 3 with fail
  refine captureE ?_
  intro y ey
  have yb : Below w.heap.size w y.it := by rw [ey]; exact (by repeat (first | with_reducible exact Below.refl _ _ | with_reducible assumption | with_reducible refine Below.al ?_ _ | with_reducible refine Below.on ?_ _ | with_reducible refine Below.st ?_ (by first | assumption | (simp; done) | (simp; omega)) _ | with_reducible refine Below.drew ?_))
  have LY : Hid (LsMem y.it (w.heap.size + 1) w.heap.size bZero) := Lib.hid (by
    rw [ey]
    exact ⟨by simp, by simp; omega, by omega, there_new' _ _ _ 10 (by simp) rfl, World.there_alloc (there_new' _ _ _ 10 (by simp) rfl) _, rangeAt_new _ _ _ (by simp) _ rfl⟩)
  clear ey
  go_wp2_with fail
  go_loopg [7, 12] m (fun g nl st wr => ∃ k : Nat, k + g = m ∧ nl = .bool (lsF t (ls.take k)).2 ∧ st = .int .i64 (k : Int) ∧ ∃ x : Ext w, x.it = wr ∧ LsMem x.it (w.heap.size + 1) w.heap.size (lsF t (ls.take k)).1)
  case atStart => exact ⟨0, by omega, rfl, rfl, ⟨y.it, yb⟩, rfl, LY.out⟩
  case round =>
    obtain ⟨k, hk, rfl, rfl, x, rfl, M⟩ := hrel
    clear LY yb
    have hx := x.below
    have zO := M.o
    have zR := M.r
    by_cases hg0 : gk = 0
    · subst hg0
      obtain rfl : k = m := by omega
      have TK : ls.take k = ls := List.take_of_length_le (by rw [HM.out]; exact Nat.le_refl _)
      rw [TK] at M ⊢
      obtain ⟨⟨R, nb⟩, hR⟩ : ∃ R, lsF t ls = R := ⟨_, rfl⟩
      rw [hR] at M
      have HR := Lib.hid hR
      have OV := Lib.hid M.ov
      have RT := Lib.hid M.rt
      clear M TK hk
      rw [hR]
      clear hR
      dsimp only at OV
      go_wp2_with (first | ((with_reducible refine wpList_here ?_); refine wpList_load_mid rfl 25 _ rfl (w.heap.size + 1) 0 rfl (bndC R) _ OV.out Try.underlying25 rfl (by kernel_rfl) ?_) | ((with_reducible refine wpList_here ?_); refine wpList_store_mid rfl 25 _ _ rfl w.heap.size 0 (bndC R).toArray rfl rfl RT.out (by kernel_rfl) (bnd_one R) ?_))
      refine bodyPost_ret (v := .tuple #[.agg (bndC R).toArray, .bool nb]) ?hr rfl ⟨by rw [HR.out], ?hb⟩
      case hr => exact results_cell_tmp Try.results59 _ _ w.heap.size 0 (bndC R) _ _ rfl (World.rangeAt_setCells_same _ _ _ _ RT.out) Try.underlying25 rfl (by kernel_rfl) rfl
      case hb => exact Below.stc hx (Nat.le_refl _) _ _
    · have hkm : k < m := by omega
      have hkm' : (k : Int) < (m : Int) := by omega
      have hkl : k < ls.length := by rw [HM.out]; exact hkm
      obtain ⟨b, o, rfl, _, hb, c0, c1, c2⟩ := vals_in HV.out hkl
      have AS := Lib.hid (lsF_succ t hkl)
      obtain ⟨v, hvk⟩ : ∃ v, ls[k]'hkl = v := ⟨_, rfl⟩
      rw [hvk] at AS c0 c1 c2
      obtain ⟨un, ui, us⟩ := v
      dsimp only at c0 c1 c2
      obtain ⟨⟨cur, nl⟩, hcur⟩ : ∃ p, lsF t (ls.take k) = p := ⟨_, rfl⟩
      rw [hcur] at AS M ⊢
      dsimp only at M ⊢
      have f0 := (hx.cell (p := ⟨b, o + k * 3, none⟩) hb).trans c0
      have f1 := (hx.cell (p := ⟨b, o + k * 3 + 1, none⟩) hb).trans c1
      have f2 := (hx.cell (p := ⟨b, o + k * 3 + 2, none⟩) hb).trans c2
      have zb : b < x.it.heap.size := Nat.lt_of_lt_of_le hb hx.size
      have HK := Lib.hid (And.intro hk hg0)
      have MH := Lib.hid M
      clear c0 c1 c2 hvk hcur hk hg0 M
      cases un with
      | true =>
        have EQ : lsF t (ls.take (k + 1)) = (cur, true) := by rw [AS.out]; unfold lsStep; rw [if_pos rfl]
        have EQH := Lib.hid EQ
        clear AS EQ
        go_wp2_with fail
        go_roundg (gk - 1)
        case measure => have := HK.out; omega
        case rel => exact ⟨k + 1, by have := HK.out; omega, by rw [EQH.out], by go_num, ⟨_, Below.al hx _⟩, rfl, by rw [EQH.out]; exact MH.out.below (Below.al (Below.refl _ _) _)⟩
      | false =>
        obtain ⟨J, hJ⟩ : ∃ J, joinF t cur (bOne ⟨false, ui, us⟩) = J := ⟨_, rfl⟩
        have EQ : lsF t (ls.take (k + 1)) = (J, nl) := by rw [AS.out, ← hJ]; unfold lsStep; rw [if_neg (by simp)]
        have EQH := Lib.hid EQ
        obtain ⟨q0, q1, q2, q3, ⟨q4, q5, q6⟩, ⟨q7, q8, q9⟩⟩ := cur
        have KJ := fun W => refJoin_any t q0 q1 q2 q3 q4 q5 q6 q7 q8 q9 false true true true false ui us false ui us W
        have hJ' : joinF t ⟨q0, q1, q2, q3, ⟨q4, q5, q6⟩, ⟨q7, q8, q9⟩⟩ ⟨false, true, true, true, ⟨false, ui, us⟩, ⟨false, ui, us⟩⟩ = J := hJ
        simp only [hJ'] at KJ
        obtain ⟨j0, j1, j2, j3, ⟨j4, j5, j6⟩, ⟨j7, j8, j9⟩⟩ := J
        simp only [Bnd.enc'] at KJ
        have KJH := Lib.hid KJ
        clear AS EQ hJ hJ' KJ
        go_upto_region 8 with fail
        refine captureE ?_
        intro v ev
        have vx : Below x.it.heap.size x.it v.it := by rw [ev]; exact Below.al (Below.refl _ _) _
        have vz' : x.it.heap.size < v.it.heap.size := by rw [ev]; simp
        have b0 : v.it.cell? ⟨x.it.heap.size, 0, none⟩ = some (.bool false) := by rw [ev]; simp (maxDischargeDepth := 9) [go_sem, *]
        have b1 : v.it.cell? ⟨x.it.heap.size, 1, none⟩ = some (.int .i64 ui) := by rw [ev]; simp (maxDischargeDepth := 9) [go_sem, *]
        have b2 : v.it.cell? ⟨x.it.heap.size, 2, none⟩ = some (.string us) := by rw [ev]; simp (maxDischargeDepth := 9) [go_sem, *]
        have MV := MH.out.below vx
        have RV := MV.ov

        have d0 : v.it.cell? ⟨w.heap.size + 1, 0, none⟩ = some (.bool q0) := RV 0 _ rfl
        have d1 : v.it.cell? ⟨w.heap.size + 1, 1, none⟩ = some (.bool q1) := RV 1 _ rfl
        have d2 : v.it.cell? ⟨w.heap.size + 1, 2, none⟩ = some (.bool q2) := RV 2 _ rfl
        have d3 : v.it.cell? ⟨w.heap.size + 1, 3, none⟩ = some (.bool q3) := RV 3 _ rfl
        have d4 : v.it.cell? ⟨w.heap.size + 1, 4, none⟩ = some (.bool q4) := RV 4 _ rfl
        have d5 : v.it.cell? ⟨w.heap.size + 1, 5, none⟩ = some (.int .i64 q5) := RV 5 _ rfl
        have d6 : v.it.cell? ⟨w.heap.size + 1, 6, none⟩ = some (.string q6) := RV 6 _ rfl
        have d7 : v.it.cell? ⟨w.heap.size + 1, 7, none⟩ = some (.bool q7) := RV 7 _ rfl
        have d8 : v.it.cell? ⟨w.heap.size + 1, 8, none⟩ = some (.int .i64 q8) := RV 8 _ rfl
        have d9 : v.it.cell? ⟨w.heap.size + 1, 9, none⟩ = some (.string q9) := RV 9 _ rfl
        have zO2 : w.heap.size + 1 < v.it.heap.size := MV.o
        have bv : Below w.heap.size w v.it := hx.trans (vx.mono hx.size)
        have MVH := Lib.hid MV
        clear ev f0 f1 f2 RV MV MH
        refine wp_region_ext_tail 5 (by kernel_rfl) (by kernel_rfl) ?_
        dsimp only [List.take, List.drop]
        repeat (go_big_quiet_step ((first | (go_at_call 56; exact Calls.ext (ronly_any _ _ _ _)) | (go_at_call 45; exact Calls.ext (KJH.out _)))))
        refine wpQuiet_nil ?_
        rintro _ ⟨x8, rfl⟩
        have M8 := Lib.hid (MVH.out.below x8.below)
        have OT := Lib.hid M8.out.ot
        refine wpList_store_mid rfl 25 _ _ rfl (w.heap.size + 1) 0 (bndC ⟨j0, j1, j2, j3, ⟨j4, j5, j6⟩, ⟨j7, j8, j9⟩⟩).toArray rfl rfl OT.out (by kernel_rfl) (bnd_one _) ?_
        have b8 : Below w.heap.size w x8.it := Below.on bv x8
        go_wp2_with fail
        go_roundg (gk - 1)
        case measure => have := HK.out; omega
        case rel => exact ⟨k + 1, by have := HK.out; omega, by rw [EQH.out], by go_num, ⟨x8.it.setCells (w.heap.size + 1) 0 (bndC ⟨j0, j1, j2, j3, ⟨j4, j5, j6⟩, ⟨j7, j8, j9⟩⟩), Below.stc b8 (by omega) _ _⟩, rfl, by rw [EQH.out]; exact M8.out.put _⟩

set_option maxRecDepth 8000 in
set_option maxHeartbeats 1000000 in
theorem rleaf_1 (t col : Int) (vn : Bool) (n : Int) (s : ByteArray) (lv : Value) (a b : Int) (hlv : lv.oneCell' = true) (w : World) :
    Calls Try.prog 46 #[.int .i64 t, .agg #[.int .i64 1, .int .i64 col, .bool vn, .int .i64 n, .string s, lv, .int .i64 a, .int .i64 b]] w fun e w' => e = .returned (.agg #[.bool false, .bool true, .bool true, .bool true, .bool vn, .int .i64 n, .string s, .bool vn, .int .i64 n, .string s, .bool false, .bool true, .bool false, .bool false, .bool false, .int .i64 0, .string ⟨#[]⟩, .bool false, .int .i64 0, .string ⟨#[]⟩]) ∧ Below w.heap.size w w' := by
  go_enter Try.func46, Try.ntmps46
  go_upto_region 4 with fail
  refine captureE ?_
  intro v ev
  have vb : Below w.heap.size w v.it := by rw [ev]; exact (by repeat (first | with_reducible exact Below.refl _ _ | with_reducible assumption | with_reducible refine Below.al ?_ _ | with_reducible refine Below.on ?_ _ | with_reducible refine Below.st ?_ (by first | assumption | (simp; done) | (simp; omega)) _ | with_reducible refine Below.drew ?_))
  have v0 : v.it.cell? ⟨w.heap.size + 1 + 1, 0, none⟩ = some (.bool vn) := by rw [ev]; simp (maxDischargeDepth := 9) [go_sem, *]
  have v1 : v.it.cell? ⟨w.heap.size + 1 + 1, 1, none⟩ = some (.int .i64 n) := by rw [ev]; simp (maxDischargeDepth := 9) [go_sem, *]
  have v2 : v.it.cell? ⟨w.heap.size + 1 + 1, 2, none⟩ = some (.string s) := by rw [ev]; simp (maxDischargeDepth := 9) [go_sem, *]
  have vz' : w.heap.size + 1 + 1 < v.it.heap.size := by rw [ev]; simp
  have RT : v.it.there (w.heap.size + 1) 0 20 := by
    rw [ev]
    repeat (first | exact there_new' _ _ _ 20 (by simp) rfl | refine World.there_alloc ?_ _)
  have RTH := Lib.hid RT
  clear ev RT
  go_wp2_with (first | (go_at_call 56; (refine Calls.mono (ronly_any _ _ _ _) ?_); rintro e w6 ⟨rfl, hb6⟩; obtain ⟨x6, rfl⟩ := Ext.of hb6; have z6 : w.heap.size + 1 < x6.it.heap.size := x6.lt (by first | assumption | omega)) | (go_at_call 43; (refine Calls.mono (every_any _ _) ?_); rintro e w7 ⟨rfl, hb7⟩; obtain ⟨x7, rfl⟩ := Ext.of hb7; have z7 : w.heap.size + 1 < x7.it.heap.size := x7.lt (by first | assumption | omega)) | ((with_reducible refine wpList_here ?_); refine wpList_store_mid rfl 80 _ _ rfl (w.heap.size + 1) 0 #[.bool false, .bool true, .bool true, .bool true, .bool vn, .int .i64 n, .string s, .bool vn, .int .i64 n, .string s, .bool false, .bool true, .bool false, .bool false, .bool false, .int .i64 0, .string ⟨#[]⟩, .bool false, .int .i64 0, .string ⟨#[]⟩] rfl rfl ?ht (by kernel_rfl) ?h1 ?hm))
  case ht => exact there_below (there_below RTH.out x6.below (by omega)) x7.below z6
  case h1 => simp [Value.oneCell']
  case hm =>
    refine bodyPost_ret (v := .agg #[.bool false, .bool true, .bool true, .bool true, .bool vn, .int .i64 n, .string s, .bool vn, .int .i64 n, .string s, .bool false, .bool true, .bool false, .bool false, .bool false, .int .i64 0, .string ⟨#[]⟩, .bool false, .int .i64 0, .string ⟨#[]⟩]) ?hr rfl ⟨rfl, ?hb⟩
    case hr =>
      refine results_cell_mid Try.results46 _ _ (w.heap.size + 1) 0 [.bool false, .bool true, .bool true, .bool true, .bool vn, .int .i64 n, .string s, .bool vn, .int .i64 n, .string s, .bool false, .bool true, .bool false, .bool false, .bool false, .int .i64 0, .string ⟨#[]⟩, .bool false, .int .i64 0, .string ⟨#[]⟩] _ rfl ?_ Try.underlying80 rfl (by kernel_rfl)
      refine World.rangeAt_setCells_same _ _ _ _ ?_
      exact there_below (there_below RTH.out x6.below (by omega)) x7.below z6
    case hb => exact Below.stc (Below.on (Below.on vb x6) x7) (by omega) _ _
set_option maxRecDepth 8000 in
set_option maxHeartbeats 1000000 in
theorem rleaf_2 (t col : Int) (vn : Bool) (n : Int) (s : ByteArray) (lv : Value) (a b : Int) (hlv : lv.oneCell' = true) (w : World) :
    Calls Try.prog 46 #[.int .i64 t, .agg #[.int .i64 2, .int .i64 col, .bool vn, .int .i64 n, .string s, lv, .int .i64 a, .int .i64 b]] w fun e w' => e = .returned (.agg #[.bool false, .bool true, .bool false, .bool false, .bool false, .int .i64 0, .string ⟨#[]⟩, .bool false, .int .i64 0, .string ⟨#[]⟩, .bool false, .bool true, .bool true, .bool true, .bool vn, .int .i64 n, .string s, .bool vn, .int .i64 n, .string s]) ∧ Below w.heap.size w w' := by
  go_enter Try.func46, Try.ntmps46
  go_upto_region 6 with fail
  refine captureE ?_
  intro v ev
  have vb : Below w.heap.size w v.it := by rw [ev]; exact (by repeat (first | with_reducible exact Below.refl _ _ | with_reducible assumption | with_reducible refine Below.al ?_ _ | with_reducible refine Below.on ?_ _ | with_reducible refine Below.st ?_ (by first | assumption | (simp; done) | (simp; omega)) _ | with_reducible refine Below.drew ?_))
  have v0 : v.it.cell? ⟨w.heap.size + 1 + 1, 0, none⟩ = some (.bool vn) := by rw [ev]; simp (maxDischargeDepth := 9) [go_sem, *]
  have v1 : v.it.cell? ⟨w.heap.size + 1 + 1, 1, none⟩ = some (.int .i64 n) := by rw [ev]; simp (maxDischargeDepth := 9) [go_sem, *]
  have v2 : v.it.cell? ⟨w.heap.size + 1 + 1, 2, none⟩ = some (.string s) := by rw [ev]; simp (maxDischargeDepth := 9) [go_sem, *]
  have vz' : w.heap.size + 1 + 1 < v.it.heap.size := by rw [ev]; simp
  have RT : v.it.there (w.heap.size + 1) 0 20 := by
    rw [ev]
    repeat (first | exact there_new' _ _ _ 20 (by simp) rfl | refine World.there_alloc ?_ _)
  have RTH := Lib.hid RT
  clear ev RT
  refine wp_region_ext_tail 4 (by kernel_rfl) (by kernel_rfl) ?_
  dsimp only [List.take, List.drop]
  repeat (go_big_quiet_step ((first | (go_at_call 56; exact Calls.ext (ronly_any _ _ _ _)) | (go_at_call 43; exact Calls.ext (every_any _ _)) | (go_at_call 57; exact Calls.ext (rto_any _ _ _ _)) | (go_at_call 58; exact Calls.ext (rfrom_any _ _ _ _)))))
  refine wpQuiet_nil ?_
  rintro _ ⟨x6, rfl⟩
  have OT := Lib.hid (there_below RTH.out x6.below (by omega))
  refine wpList_store_mid rfl 80 _ _ rfl (w.heap.size + 1) 0 #[.bool false, .bool true, .bool false, .bool false, .bool false, .int .i64 0, .string ⟨#[]⟩, .bool false, .int .i64 0, .string ⟨#[]⟩, .bool false, .bool true, .bool true, .bool true, .bool vn, .int .i64 n, .string s, .bool vn, .int .i64 n, .string s] rfl rfl OT.out (by kernel_rfl) (by simp [Value.oneCell']) ?_
  go_wp2_with fail
  refine bodyPost_ret (v := .agg #[.bool false, .bool true, .bool false, .bool false, .bool false, .int .i64 0, .string ⟨#[]⟩, .bool false, .int .i64 0, .string ⟨#[]⟩, .bool false, .bool true, .bool true, .bool true, .bool vn, .int .i64 n, .string s, .bool vn, .int .i64 n, .string s]) ?hr rfl ⟨rfl, ?hb⟩
  case hr => exact results_cell_mid Try.results46 _ _ (w.heap.size + 1) 0 [.bool false, .bool true, .bool false, .bool false, .bool false, .int .i64 0, .string ⟨#[]⟩, .bool false, .int .i64 0, .string ⟨#[]⟩, .bool false, .bool true, .bool true, .bool true, .bool vn, .int .i64 n, .string s, .bool vn, .int .i64 n, .string s] _ rfl (World.rangeAt_setCells_same _ _ _ _ OT.out) Try.underlying80 rfl (by kernel_rfl)
  case hb => exact Below.stc (Below.on vb x6) (by omega) _ _
set_option maxRecDepth 8000 in
set_option maxHeartbeats 1000000 in
theorem rleaf_3 (t col : Int) (vn : Bool) (n : Int) (s : ByteArray) (lv : Value) (a b : Int) (hlv : lv.oneCell' = true) (w : World) :
    Calls Try.prog 46 #[.int .i64 t, .agg #[.int .i64 3, .int .i64 col, .bool vn, .int .i64 n, .string s, lv, .int .i64 a, .int .i64 b]] w fun e w' => e = .returned (.agg #[.bool false, .bool true, .bool false, .bool true, .bool false, .int .i64 0, .string ⟨#[]⟩, .bool vn, .int .i64 n, .string s, .bool false, .bool true, .bool true, .bool false, .bool vn, .int .i64 n, .string s, .bool false, .int .i64 0, .string ⟨#[]⟩]) ∧ Below w.heap.size w w' := by
  go_enter Try.func46, Try.ntmps46
  go_upto_region 9 with fail
  refine captureE ?_
  intro v ev
  have vb : Below w.heap.size w v.it := by rw [ev]; exact (by repeat (first | with_reducible exact Below.refl _ _ | with_reducible assumption | with_reducible refine Below.al ?_ _ | with_reducible refine Below.on ?_ _ | with_reducible refine Below.st ?_ (by first | assumption | (simp; done) | (simp; omega)) _ | with_reducible refine Below.drew ?_))
  have v0 : v.it.cell? ⟨w.heap.size + 1 + 1, 0, none⟩ = some (.bool vn) := by rw [ev]; simp (maxDischargeDepth := 9) [go_sem, *]
  have v1 : v.it.cell? ⟨w.heap.size + 1 + 1, 1, none⟩ = some (.int .i64 n) := by rw [ev]; simp (maxDischargeDepth := 9) [go_sem, *]
  have v2 : v.it.cell? ⟨w.heap.size + 1 + 1, 2, none⟩ = some (.string s) := by rw [ev]; simp (maxDischargeDepth := 9) [go_sem, *]
  have vz' : w.heap.size + 1 + 1 < v.it.heap.size := by rw [ev]; simp
  have RT : v.it.there (w.heap.size + 1) 0 20 := by
    rw [ev]
    repeat (first | exact there_new' _ _ _ 20 (by simp) rfl | refine World.there_alloc ?_ _)
  have RTH := Lib.hid RT
  clear ev RT
  refine wp_region_ext_tail 5 (by kernel_rfl) (by kernel_rfl) ?_
  dsimp only [List.take, List.drop]
  repeat (go_big_quiet_step ((first | (go_at_call 56; exact Calls.ext (ronly_any _ _ _ _)) | (go_at_call 43; exact Calls.ext (every_any _ _)) | (go_at_call 57; exact Calls.ext (rto_any _ _ _ _)) | (go_at_call 58; exact Calls.ext (rfrom_any _ _ _ _)))))
  refine wpQuiet_nil ?_
  rintro _ ⟨x6, rfl⟩
  have OT := Lib.hid (there_below RTH.out x6.below (by omega))
  refine wpList_store_mid rfl 80 _ _ rfl (w.heap.size + 1) 0 #[.bool false, .bool true, .bool false, .bool true, .bool false, .int .i64 0, .string ⟨#[]⟩, .bool vn, .int .i64 n, .string s, .bool false, .bool true, .bool true, .bool false, .bool vn, .int .i64 n, .string s, .bool false, .int .i64 0, .string ⟨#[]⟩] rfl rfl OT.out (by kernel_rfl) (by simp [Value.oneCell']) ?_
  go_wp2_with fail
  refine bodyPost_ret (v := .agg #[.bool false, .bool true, .bool false, .bool true, .bool false, .int .i64 0, .string ⟨#[]⟩, .bool vn, .int .i64 n, .string s, .bool false, .bool true, .bool true, .bool false, .bool vn, .int .i64 n, .string s, .bool false, .int .i64 0, .string ⟨#[]⟩]) ?hr rfl ⟨rfl, ?hb⟩
  case hr => exact results_cell_mid Try.results46 _ _ (w.heap.size + 1) 0 [.bool false, .bool true, .bool false, .bool true, .bool false, .int .i64 0, .string ⟨#[]⟩, .bool vn, .int .i64 n, .string s, .bool false, .bool true, .bool true, .bool false, .bool vn, .int .i64 n, .string s, .bool false, .int .i64 0, .string ⟨#[]⟩] _ rfl (World.rangeAt_setCells_same _ _ _ _ OT.out) Try.underlying80 rfl (by kernel_rfl)
  case hb => exact Below.stc (Below.on vb x6) (by omega) _ _
set_option maxRecDepth 8000 in
set_option maxHeartbeats 1000000 in
theorem rleaf_4 (t col : Int) (vn : Bool) (n : Int) (s : ByteArray) (lv : Value) (a b : Int) (hlv : lv.oneCell' = true) (w : World) :
    Calls Try.prog 46 #[.int .i64 t, .agg #[.int .i64 4, .int .i64 col, .bool vn, .int .i64 n, .string s, lv, .int .i64 a, .int .i64 b]] w fun e w' => e = .returned (.agg #[.bool false, .bool true, .bool false, .bool true, .bool false, .int .i64 0, .string ⟨#[]⟩, .bool vn, .int .i64 n, .string s, .bool false, .bool true, .bool true, .bool false, .bool vn, .int .i64 n, .string s, .bool false, .int .i64 0, .string ⟨#[]⟩]) ∧ Below w.heap.size w w' := by
  go_enter Try.func46, Try.ntmps46
  go_upto_region 9 with fail
  refine captureE ?_
  intro v ev
  have vb : Below w.heap.size w v.it := by rw [ev]; exact (by repeat (first | with_reducible exact Below.refl _ _ | with_reducible assumption | with_reducible refine Below.al ?_ _ | with_reducible refine Below.on ?_ _ | with_reducible refine Below.st ?_ (by first | assumption | (simp; done) | (simp; omega)) _ | with_reducible refine Below.drew ?_))
  have v0 : v.it.cell? ⟨w.heap.size + 1 + 1, 0, none⟩ = some (.bool vn) := by rw [ev]; simp (maxDischargeDepth := 9) [go_sem, *]
  have v1 : v.it.cell? ⟨w.heap.size + 1 + 1, 1, none⟩ = some (.int .i64 n) := by rw [ev]; simp (maxDischargeDepth := 9) [go_sem, *]
  have v2 : v.it.cell? ⟨w.heap.size + 1 + 1, 2, none⟩ = some (.string s) := by rw [ev]; simp (maxDischargeDepth := 9) [go_sem, *]
  have vz' : w.heap.size + 1 + 1 < v.it.heap.size := by rw [ev]; simp
  have RT : v.it.there (w.heap.size + 1) 0 20 := by
    rw [ev]
    repeat (first | exact there_new' _ _ _ 20 (by simp) rfl | refine World.there_alloc ?_ _)
  have RTH := Lib.hid RT
  clear ev RT
  refine wp_region_ext_tail 5 (by kernel_rfl) (by kernel_rfl) ?_
  dsimp only [List.take, List.drop]
  repeat (go_big_quiet_step ((first | (go_at_call 56; exact Calls.ext (ronly_any _ _ _ _)) | (go_at_call 43; exact Calls.ext (every_any _ _)) | (go_at_call 57; exact Calls.ext (rto_any _ _ _ _)) | (go_at_call 58; exact Calls.ext (rfrom_any _ _ _ _)))))
  refine wpQuiet_nil ?_
  rintro _ ⟨x6, rfl⟩
  have OT := Lib.hid (there_below RTH.out x6.below (by omega))
  refine wpList_store_mid rfl 80 _ _ rfl (w.heap.size + 1) 0 #[.bool false, .bool true, .bool false, .bool true, .bool false, .int .i64 0, .string ⟨#[]⟩, .bool vn, .int .i64 n, .string s, .bool false, .bool true, .bool true, .bool false, .bool vn, .int .i64 n, .string s, .bool false, .int .i64 0, .string ⟨#[]⟩] rfl rfl OT.out (by kernel_rfl) (by simp [Value.oneCell']) ?_
  go_wp2_with fail
  refine bodyPost_ret (v := .agg #[.bool false, .bool true, .bool false, .bool true, .bool false, .int .i64 0, .string ⟨#[]⟩, .bool vn, .int .i64 n, .string s, .bool false, .bool true, .bool true, .bool false, .bool vn, .int .i64 n, .string s, .bool false, .int .i64 0, .string ⟨#[]⟩]) ?hr rfl ⟨rfl, ?hb⟩
  case hr => exact results_cell_mid Try.results46 _ _ (w.heap.size + 1) 0 [.bool false, .bool true, .bool false, .bool true, .bool false, .int .i64 0, .string ⟨#[]⟩, .bool vn, .int .i64 n, .string s, .bool false, .bool true, .bool true, .bool false, .bool vn, .int .i64 n, .string s, .bool false, .int .i64 0, .string ⟨#[]⟩] _ rfl (World.rangeAt_setCells_same _ _ _ _ OT.out) Try.underlying80 rfl (by kernel_rfl)
  case hb => exact Below.stc (Below.on vb x6) (by omega) _ _
set_option maxRecDepth 8000 in
set_option maxHeartbeats 1000000 in
theorem rleaf_5 (t col : Int) (vn : Bool) (n : Int) (s : ByteArray) (lv : Value) (a b : Int) (hlv : lv.oneCell' = true) (w : World) :
    Calls Try.prog 46 #[.int .i64 t, .agg #[.int .i64 5, .int .i64 col, .bool vn, .int .i64 n, .string s, lv, .int .i64 a, .int .i64 b]] w fun e w' => e = .returned (.agg #[.bool false, .bool true, .bool true, .bool false, .bool vn, .int .i64 n, .string s, .bool false, .int .i64 0, .string ⟨#[]⟩, .bool false, .bool true, .bool false, .bool true, .bool false, .int .i64 0, .string ⟨#[]⟩, .bool vn, .int .i64 n, .string s]) ∧ Below w.heap.size w w' := by
  go_enter Try.func46, Try.ntmps46
  go_upto_region 12 with fail
  refine captureE ?_
  intro v ev
  have vb : Below w.heap.size w v.it := by rw [ev]; exact (by repeat (first | with_reducible exact Below.refl _ _ | with_reducible assumption | with_reducible refine Below.al ?_ _ | with_reducible refine Below.on ?_ _ | with_reducible refine Below.st ?_ (by first | assumption | (simp; done) | (simp; omega)) _ | with_reducible refine Below.drew ?_))
  have v0 : v.it.cell? ⟨w.heap.size + 1 + 1, 0, none⟩ = some (.bool vn) := by rw [ev]; simp (maxDischargeDepth := 9) [go_sem, *]
  have v1 : v.it.cell? ⟨w.heap.size + 1 + 1, 1, none⟩ = some (.int .i64 n) := by rw [ev]; simp (maxDischargeDepth := 9) [go_sem, *]
  have v2 : v.it.cell? ⟨w.heap.size + 1 + 1, 2, none⟩ = some (.string s) := by rw [ev]; simp (maxDischargeDepth := 9) [go_sem, *]
  have vz' : w.heap.size + 1 + 1 < v.it.heap.size := by rw [ev]; simp
  have RT : v.it.there (w.heap.size + 1) 0 20 := by
    rw [ev]
    repeat (first | exact there_new' _ _ _ 20 (by simp) rfl | refine World.there_alloc ?_ _)
  have RTH := Lib.hid RT
  clear ev RT
  refine wp_region_ext_tail 5 (by kernel_rfl) (by kernel_rfl) ?_
  dsimp only [List.take, List.drop]
  repeat (go_big_quiet_step ((first | (go_at_call 56; exact Calls.ext (ronly_any _ _ _ _)) | (go_at_call 43; exact Calls.ext (every_any _ _)) | (go_at_call 57; exact Calls.ext (rto_any _ _ _ _)) | (go_at_call 58; exact Calls.ext (rfrom_any _ _ _ _)))))
  refine wpQuiet_nil ?_
  rintro _ ⟨x6, rfl⟩
  have OT := Lib.hid (there_below RTH.out x6.below (by omega))
  refine wpList_store_mid rfl 80 _ _ rfl (w.heap.size + 1) 0 #[.bool false, .bool true, .bool true, .bool false, .bool vn, .int .i64 n, .string s, .bool false, .int .i64 0, .string ⟨#[]⟩, .bool false, .bool true, .bool false, .bool true, .bool false, .int .i64 0, .string ⟨#[]⟩, .bool vn, .int .i64 n, .string s] rfl rfl OT.out (by kernel_rfl) (by simp [Value.oneCell']) ?_
  go_wp2_with fail
  refine bodyPost_ret (v := .agg #[.bool false, .bool true, .bool true, .bool false, .bool vn, .int .i64 n, .string s, .bool false, .int .i64 0, .string ⟨#[]⟩, .bool false, .bool true, .bool false, .bool true, .bool false, .int .i64 0, .string ⟨#[]⟩, .bool vn, .int .i64 n, .string s]) ?hr rfl ⟨rfl, ?hb⟩
  case hr => exact results_cell_mid Try.results46 _ _ (w.heap.size + 1) 0 [.bool false, .bool true, .bool true, .bool false, .bool vn, .int .i64 n, .string s, .bool false, .int .i64 0, .string ⟨#[]⟩, .bool false, .bool true, .bool false, .bool true, .bool false, .int .i64 0, .string ⟨#[]⟩, .bool vn, .int .i64 n, .string s] _ rfl (World.rangeAt_setCells_same _ _ _ _ OT.out) Try.underlying80 rfl (by kernel_rfl)
  case hb => exact Below.stc (Below.on vb x6) (by omega) _ _
set_option maxRecDepth 8000 in
set_option maxHeartbeats 1000000 in
theorem rleaf_6 (t col : Int) (vn : Bool) (n : Int) (s : ByteArray) (lv : Value) (a b : Int) (hlv : lv.oneCell' = true) (w : World) :
    Calls Try.prog 46 #[.int .i64 t, .agg #[.int .i64 6, .int .i64 col, .bool vn, .int .i64 n, .string s, lv, .int .i64 a, .int .i64 b]] w fun e w' => e = .returned (.agg #[.bool false, .bool true, .bool true, .bool false, .bool vn, .int .i64 n, .string s, .bool false, .int .i64 0, .string ⟨#[]⟩, .bool false, .bool true, .bool false, .bool true, .bool false, .int .i64 0, .string ⟨#[]⟩, .bool vn, .int .i64 n, .string s]) ∧ Below w.heap.size w w' := by
  go_enter Try.func46, Try.ntmps46
  go_upto_region 12 with fail
  refine captureE ?_
  intro v ev
  have vb : Below w.heap.size w v.it := by rw [ev]; exact (by repeat (first | with_reducible exact Below.refl _ _ | with_reducible assumption | with_reducible refine Below.al ?_ _ | with_reducible refine Below.on ?_ _ | with_reducible refine Below.st ?_ (by first | assumption | (simp; done) | (simp; omega)) _ | with_reducible refine Below.drew ?_))
  have v0 : v.it.cell? ⟨w.heap.size + 1 + 1, 0, none⟩ = some (.bool vn) := by rw [ev]; simp (maxDischargeDepth := 9) [go_sem, *]
  have v1 : v.it.cell? ⟨w.heap.size + 1 + 1, 1, none⟩ = some (.int .i64 n) := by rw [ev]; simp (maxDischargeDepth := 9) [go_sem, *]
  have v2 : v.it.cell? ⟨w.heap.size + 1 + 1, 2, none⟩ = some (.string s) := by rw [ev]; simp (maxDischargeDepth := 9) [go_sem, *]
  have vz' : w.heap.size + 1 + 1 < v.it.heap.size := by rw [ev]; simp
  have RT : v.it.there (w.heap.size + 1) 0 20 := by
    rw [ev]
    repeat (first | exact there_new' _ _ _ 20 (by simp) rfl | refine World.there_alloc ?_ _)
  have RTH := Lib.hid RT
  clear ev RT
  refine wp_region_ext_tail 5 (by kernel_rfl) (by kernel_rfl) ?_
  dsimp only [List.take, List.drop]
  repeat (go_big_quiet_step ((first | (go_at_call 56; exact Calls.ext (ronly_any _ _ _ _)) | (go_at_call 43; exact Calls.ext (every_any _ _)) | (go_at_call 57; exact Calls.ext (rto_any _ _ _ _)) | (go_at_call 58; exact Calls.ext (rfrom_any _ _ _ _)))))
  refine wpQuiet_nil ?_
  rintro _ ⟨x6, rfl⟩
  have OT := Lib.hid (there_below RTH.out x6.below (by omega))
  refine wpList_store_mid rfl 80 _ _ rfl (w.heap.size + 1) 0 #[.bool false, .bool true, .bool true, .bool false, .bool vn, .int .i64 n, .string s, .bool false, .int .i64 0, .string ⟨#[]⟩, .bool false, .bool true, .bool false, .bool true, .bool false, .int .i64 0, .string ⟨#[]⟩, .bool vn, .int .i64 n, .string s] rfl rfl OT.out (by kernel_rfl) (by simp [Value.oneCell']) ?_
  go_wp2_with fail
  refine bodyPost_ret (v := .agg #[.bool false, .bool true, .bool true, .bool false, .bool vn, .int .i64 n, .string s, .bool false, .int .i64 0, .string ⟨#[]⟩, .bool false, .bool true, .bool false, .bool true, .bool false, .int .i64 0, .string ⟨#[]⟩, .bool vn, .int .i64 n, .string s]) ?hr rfl ⟨rfl, ?hb⟩
  case hr => exact results_cell_mid Try.results46 _ _ (w.heap.size + 1) 0 [.bool false, .bool true, .bool true, .bool false, .bool vn, .int .i64 n, .string s, .bool false, .int .i64 0, .string ⟨#[]⟩, .bool false, .bool true, .bool false, .bool true, .bool false, .int .i64 0, .string ⟨#[]⟩, .bool vn, .int .i64 n, .string s] _ rfl (World.rangeAt_setCells_same _ _ _ _ OT.out) Try.underlying80 rfl (by kernel_rfl)
  case hb => exact Below.stc (Below.on vb x6) (by omega) _ _
set_option maxRecDepth 8000 in
set_option maxHeartbeats 1000000 in
theorem rleaf_8 (t col : Int) (vn : Bool) (n : Int) (s : ByteArray) (lv : Value) (a b : Int) (hlv : lv.oneCell' = true) (w : World) :
    Calls Try.prog 46 #[.int .i64 t, .agg #[.int .i64 8, .int .i64 col, .bool vn, .int .i64 n, .string s, lv, .int .i64 a, .int .i64 b]] w fun e w' => e = .returned (.agg #[.bool true, .bool false, .bool false, .bool false, .bool false, .int .i64 0, .string ⟨#[]⟩, .bool false, .int .i64 0, .string ⟨#[]⟩, .bool false, .bool true, .bool false, .bool false, .bool false, .int .i64 0, .string ⟨#[]⟩, .bool false, .int .i64 0, .string ⟨#[]⟩]) ∧ Below w.heap.size w w' := by
  go_enter Try.func46, Try.ntmps46
  go_upto_region 14 with fail
  refine captureE ?_
  intro v ev
  have vb : Below w.heap.size w v.it := by rw [ev]; exact (by repeat (first | with_reducible exact Below.refl _ _ | with_reducible assumption | with_reducible refine Below.al ?_ _ | with_reducible refine Below.on ?_ _ | with_reducible refine Below.st ?_ (by first | assumption | (simp; done) | (simp; omega)) _ | with_reducible refine Below.drew ?_))
  have v0 : v.it.cell? ⟨w.heap.size + 1 + 1, 0, none⟩ = some (.bool vn) := by rw [ev]; simp (maxDischargeDepth := 9) [go_sem, *]
  have v1 : v.it.cell? ⟨w.heap.size + 1 + 1, 1, none⟩ = some (.int .i64 n) := by rw [ev]; simp (maxDischargeDepth := 9) [go_sem, *]
  have v2 : v.it.cell? ⟨w.heap.size + 1 + 1, 2, none⟩ = some (.string s) := by rw [ev]; simp (maxDischargeDepth := 9) [go_sem, *]
  have vz' : w.heap.size + 1 + 1 < v.it.heap.size := by rw [ev]; simp
  have RT : v.it.there (w.heap.size + 1) 0 20 := by
    rw [ev]
    repeat (first | exact there_new' _ _ _ 20 (by simp) rfl | refine World.there_alloc ?_ _)
  have RTH := Lib.hid RT
  clear ev RT
  go_wp2_with (first | (go_at_call 56; (refine Calls.mono (ronly_any _ _ _ _) ?_); rintro e w6 ⟨rfl, hb6⟩; obtain ⟨x6, rfl⟩ := Ext.of hb6; have z6 : w.heap.size + 1 < x6.it.heap.size := x6.lt (by first | assumption | omega)) | (go_at_call 43; (refine Calls.mono (every_any _ _) ?_); rintro e w7 ⟨rfl, hb7⟩; obtain ⟨x7, rfl⟩ := Ext.of hb7; have z7 : w.heap.size + 1 < x7.it.heap.size := x7.lt (by first | assumption | omega)) | ((with_reducible refine wpList_here ?_); refine wpList_store_mid rfl 80 _ _ rfl (w.heap.size + 1) 0 #[.bool true, .bool false, .bool false, .bool false, .bool false, .int .i64 0, .string ⟨#[]⟩, .bool false, .int .i64 0, .string ⟨#[]⟩, .bool false, .bool true, .bool false, .bool false, .bool false, .int .i64 0, .string ⟨#[]⟩, .bool false, .int .i64 0, .string ⟨#[]⟩] rfl rfl ?ht (by kernel_rfl) ?h1 ?hm))
  case ht => exact there_below RTH.out x7.below (by omega)
  case h1 => simp [Value.oneCell']
  case hm =>
    refine bodyPost_ret (v := .agg #[.bool true, .bool false, .bool false, .bool false, .bool false, .int .i64 0, .string ⟨#[]⟩, .bool false, .int .i64 0, .string ⟨#[]⟩, .bool false, .bool true, .bool false, .bool false, .bool false, .int .i64 0, .string ⟨#[]⟩, .bool false, .int .i64 0, .string ⟨#[]⟩]) ?hr rfl ⟨rfl, ?hb⟩
    case hr =>
      refine results_cell_mid Try.results46 _ _ (w.heap.size + 1) 0 [.bool true, .bool false, .bool false, .bool false, .bool false, .int .i64 0, .string ⟨#[]⟩, .bool false, .int .i64 0, .string ⟨#[]⟩, .bool false, .bool true, .bool false, .bool false, .bool false, .int .i64 0, .string ⟨#[]⟩, .bool false, .int .i64 0, .string ⟨#[]⟩] _ rfl ?_ Try.underlying80 rfl (by kernel_rfl)
      refine World.rangeAt_setCells_same _ _ _ _ ?_
      exact there_below RTH.out x7.below (by omega)
    case hb => exact Below.stc (Below.on vb x7) (by omega) _ _
set_option maxRecDepth 8000 in
set_option maxHeartbeats 1000000 in
theorem rleaf_7 (t col : Int) (vn : Bool) (n : Int) (s : ByteArray) (lv : Value) (ls : List Val) (a b : Int) (w : World) (hv : ValsAt w w.heap.size lv ls) :
    Calls Try.prog 46 #[.int .i64 t, .agg #[.int .i64 7, .int .i64 col, .bool vn, .int .i64 n, .string s, lv, .int .i64 a, .int .i64 b]] w fun e w' => e = .returned (.agg (pairC (inF t ls)).toArray) ∧ Below w.heap.size w w' := by
  rw [inF_ls]
  obtain ⟨⟨J, nl⟩, hJ⟩ : ∃ p, lsF t ls = p := ⟨_, rfl⟩
  rw [hJ]
  have HJ := Lib.hid hJ
  clear hJ
  obtain ⟨la, lc, hlv⟩ := vals_end hv
  obtain ⟨m, hm⟩ : ∃ m, ls.length = m := ⟨_, rfl⟩
  rw [hm] at hlv
  subst hlv
  have HV : Hid (ValsAt w w.heap.size (.slice la m lc) ls) := Lib.hid hv
  clear hv hm
  go_enter Try.func46, Try.ntmps46
  go_upto_region 15 with fail
  refine captureE ?_
  intro v ev
  have vb : Below w.heap.size w v.it := by rw [ev]; exact (by repeat (first | with_reducible exact Below.refl _ _ | with_reducible assumption | with_reducible refine Below.al ?_ _ | with_reducible refine Below.on ?_ _ | with_reducible refine Below.st ?_ (by first | assumption | (simp; done) | (simp; omega)) _ | with_reducible refine Below.drew ?_))
  have v5 : v.it.cell? ⟨w.heap.size, 5, none⟩ = some (.slice la m lc) := by rw [ev]; simp (maxDischargeDepth := 9) [go_sem, *]
  have vz' : w.heap.size + 1 < v.it.heap.size := by rw [ev]; simp
  have vz0 : w.heap.size < v.it.heap.size := by omega
  have RT : v.it.there (w.heap.size + 1) 0 20 := by
    rw [ev]
    repeat (first | exact there_new' _ _ _ 20 (by simp) rfl | refine World.there_alloc ?_ _)
  have RTH := Lib.hid RT
  have LC := listed_any t (.slice la m lc) ls v.it (HV.out.mono vb vb.size)
  rw [HJ.out] at LC
  obtain ⟨j0, j1, j2, j3, ⟨j4, j5, j6⟩, ⟨j7, j8, j9⟩⟩ := J
  have LC' : Calls Try.prog 59 #[.int .i64 t, .slice la m lc] v.it fun e w' => e = .returned (.tuple #[.agg #[.bool j0, .bool j1, .bool j2, .bool j3, .bool j4, .int .i64 j5, .string j6, .bool j7, .int .i64 j8, .string j9], .bool nl]) ∧ Below v.it.heap.size v.it w' := LC
  have LCH := Lib.hid LC'
  clear ev RT LC LC'
  go_upto_region 16 with (go_at_call 59; refine LCH.out.mono ?_; rintro e w6 ⟨rfl, hb6⟩; obtain ⟨x6, rfl⟩ := Ext.of hb6)
  refine captureE ?_
  intro u eu
  have ub : Below v.it.heap.size v.it u.it := by rw [eu]; exact Below.al (Below.on (Below.refl _ _) x6) _
  have uz : x6.it.heap.size < u.it.heap.size := by rw [eu]; simp
  have ut := Lib.hid (there_below RTH.out ub vz')
  have d0 : u.it.cell? ⟨x6.it.heap.size, 0, none⟩ = some (.bool j0) := by rw [eu]; simp (maxDischargeDepth := 9) [go_sem, *]
  have d1 : u.it.cell? ⟨x6.it.heap.size, 1, none⟩ = some (.bool j1) := by rw [eu]; simp (maxDischargeDepth := 9) [go_sem, *]
  have d2 : u.it.cell? ⟨x6.it.heap.size, 2, none⟩ = some (.bool j2) := by rw [eu]; simp (maxDischargeDepth := 9) [go_sem, *]
  have d3 : u.it.cell? ⟨x6.it.heap.size, 3, none⟩ = some (.bool j3) := by rw [eu]; simp (maxDischargeDepth := 9) [go_sem, *]
  have d4 : u.it.cell? ⟨x6.it.heap.size, 4, none⟩ = some (.bool j4) := by rw [eu]; simp (maxDischargeDepth := 9) [go_sem, *]
  have d5 : u.it.cell? ⟨x6.it.heap.size, 5, none⟩ = some (.int .i64 j5) := by rw [eu]; simp (maxDischargeDepth := 9) [go_sem, *]
  have d6 : u.it.cell? ⟨x6.it.heap.size, 6, none⟩ = some (.string j6) := by rw [eu]; simp (maxDischargeDepth := 9) [go_sem, *]
  have d7 : u.it.cell? ⟨x6.it.heap.size, 7, none⟩ = some (.bool j7) := by rw [eu]; simp (maxDischargeDepth := 9) [go_sem, *]
  have d8 : u.it.cell? ⟨x6.it.heap.size, 8, none⟩ = some (.int .i64 j8) := by rw [eu]; simp (maxDischargeDepth := 9) [go_sem, *]
  have d9 : u.it.cell? ⟨x6.it.heap.size, 9, none⟩ = some (.string j9) := by rw [eu]; simp (maxDischargeDepth := 9) [go_sem, *]
  have ubw : Below w.heap.size w u.it := vb.trans (ub.mono vb.size)
  have uz1 : w.heap.size + 1 < u.it.heap.size := Nat.lt_of_lt_of_le vz' ub.size
  clear eu hb6 LCH
  generalize x6.it.heap.size = BB at *
  cases nl with
  | true =>
    go_wp2_with ((with_reducible refine wpList_here ?_); refine wpList_store_mid rfl 80 _ _ rfl (w.heap.size + 1) 0 (pairC (⟨j0, j1, j2, j3, ⟨j4, j5, j6⟩, ⟨j7, j8, j9⟩⟩, bZero)).toArray rfl rfl ut.out (by kernel_rfl) (pair_one _) ?_)
    refine bodyPost_ret (v := .agg (pairC (⟨j0, j1, j2, j3, ⟨j4, j5, j6⟩, ⟨j7, j8, j9⟩⟩, bZero)).toArray) ?hr rfl ⟨rfl, ?hb⟩
    case hr => exact results_cell_mid Try.results46 _ _ (w.heap.size + 1) 0 (pairC (⟨j0, j1, j2, j3, ⟨j4, j5, j6⟩, ⟨j7, j8, j9⟩⟩, bZero)) _ rfl (World.rangeAt_setCells_same _ _ _ _ ut.out) Try.underlying80 rfl (by kernel_rfl)
    case hb => exact Below.stc ubw (by omega) _ _
  | false =>
    go_upto_region 18 with fail
    refine wp_region_ext_tail 3 (by kernel_rfl) (by kernel_rfl) ?_
    dsimp only [List.take, List.drop]
    repeat (go_big_quiet_step (((go_at_call 43; exact Calls.ext (every_any _ _)))))
    refine wpQuiet_nil ?_
    rintro _ ⟨x8, rfl⟩
    have OT := Lib.hid (there_below ut.out x8.below uz1)
    refine wpList_store_mid rfl 80 _ _ rfl (w.heap.size + 1) 0 (pairC (⟨j0, j1, j2, j3, ⟨j4, j5, j6⟩, ⟨j7, j8, j9⟩⟩, bSome)).toArray rfl rfl OT.out (by kernel_rfl) (pair_one _) ?_
    go_wp2_with fail
    refine bodyPost_ret (v := .agg (pairC (⟨j0, j1, j2, j3, ⟨j4, j5, j6⟩, ⟨j7, j8, j9⟩⟩, bSome)).toArray) ?hr rfl ⟨rfl, ?hb⟩
    case hr => exact results_cell_mid Try.results46 _ _ (w.heap.size + 1) 0 (pairC (⟨j0, j1, j2, j3, ⟨j4, j5, j6⟩, ⟨j7, j8, j9⟩⟩, bSome)) _ rfl (World.rangeAt_setCells_same _ _ _ _ OT.out) Try.underlying80 rfl (by kernel_rfl)
    case hb => exact Below.stc (Below.on ubw x8) (by omega) _ _
theorem leafG_ref (t col op : Int) (vn : Bool) (n : Int) (s : ByteArray) (lv : Value) (ls : List Val) (a b : Int) (hlv : lv.oneCell' = true) (h1 : 1 ≤ op) (h8 : op ≤ 8) (w : World) (hv : ValsAt w w.heap.size lv ls) :
    Calls Try.prog 46 #[.int .i64 t, .agg #[.int .i64 op, .int .i64 col, .bool vn, .int .i64 n, .string s, lv, .int .i64 a, .int .i64 b]] w fun e w' => e = .returned (.agg (pairC (if op = 7 then inF t ls else leafF op ⟨vn, n, s⟩)).toArray) ∧ Below w.heap.size w w' := by
  have : op = 1 ∨ op = 2 ∨ op = 3 ∨ op = 4 ∨ op = 5 ∨ op = 6 ∨ op = 8 ∨ op = 7 := by omega
  rcases this with rfl | rfl | rfl | rfl | rfl | rfl | rfl | rfl
  · exact rleaf_1 t col vn n s lv a b hlv w
  · exact rleaf_2 t col vn n s lv a b hlv w
  · exact rleaf_3 t col vn n s lv a b hlv w
  · exact rleaf_4 t col vn n s lv a b hlv w
  · exact rleaf_5 t col vn n s lv a b hlv w
  · exact rleaf_6 t col vn n s lv a b hlv w
  · exact rleaf_8 t col vn n s lv a b hlv w
  · exact rleaf_7 t col vn n s lv ls a b w hv
end Go.Proofs.Ytjojnakgadfgmaa
