/-
  INTERVALNEGATION: the walk and the statement. Conditions: none.
-/
import Derived.Test.YtjojnakgadfgmaaOfw
import Derived.Test.YtjojnakgadfgmaaKsc
import Derived.Test.YtjojnakgadfgmaaInt3
import Derived.Test.YtjojnakgadfgmaaIntA
import Derived.Test.YtjojnakgadfgmaaOpn
set_option linter.unusedVariables false
set_option linter.unusedSimpArgs false
namespace Go.Proofs.Ytjojnakgadfgmaa
open Go.RowKit Go.ChangeShapes Go.WideShapes Go.ChangeAt
def NegPair (a b : Int) : Prop := (a = 1 ∧ b = 2) ∨ (a = 2 ∧ b = 1) ∨ (a = 4 ∧ b = 5) ∨ (a = 6 ∧ b = 3)
def ngA (a k : Int) (v : Val) : Nod := ⟨a, k, v, [], 0, 0⟩
def ngN : Nod := ⟨11, 0, ⟨false, 0, ⟨#[]⟩⟩, [], 0, 0⟩
theorem neg_law {a b : Int} (h : NegPair a b) (ty k : Int) (v : Val) : outF ty k [ngA a k v, ngN] = outF ty k [ngA b k v] ∧ (outF ty k [ngA b k v]).null = false := by
  rcases h with ⟨rfl, rfl⟩ | ⟨rfl, rfl⟩ | ⟨rfl, rfl⟩ | ⟨rfl, rfl⟩ <;> simp [outF, accF, stepP, ngA, ngN, leafF, bOne, bSome, bUp, bFrom]
theorem vchk_nul {ty : Int} {a b : Bool} {n : Int} {s : ByteArray} (h : vchk ty a false n s = 0) : vchk ty b false n s = 0 := by
  unfold vchk at h ⊢
  simpa using h
theorem neg_node {a : Int} (h1 : 1 ≤ a) (h6 : a ≤ 6) {cs : List Col} {K : Nat} (hK : K < cs.length) {n : Int} {s : ByteArray} (hv : vchk (cs[K]'hK).ty false false n s = 0) (i : Int) : nodE cs i (ngA a K ⟨false, n, s⟩) = 0 := by
  rw [nodE_col (K := K) (by simp [ngA]; omega) (by simp [ngA]; omega) rfl hK, if_neg (by simp [ngA]; omega), if_pos (by simp [ngA]; omega)]
  simp only [ngA, Bool.false_eq_true, if_false]
  exact vchk_nul hv
theorem neg_pred2 {a : Int} (h1 : 1 ≤ a) (h6 : a ≤ 6) {cs : List Col} {key : Int} (hs : schemaF cs key = 0) {K : Nat} (hK : K < cs.length) {n : Int} {s : ByteArray} (hv : vchk (cs[K]'hK).ty false false n s = 0) : predF cs key [ngA a K ⟨false, n, s⟩, ngN] = 0 := by
  have h0 := neg_node h1 h6 hK hv 0
  have h2 : nodE cs (0 + 1) ngN = 0 := by simp [nodE, ngN]
  unfold predF
  rw [if_pos hs, if_neg (by simp)]
  simp only [nodsE, h0, h2, if_true]
theorem neg_pred1 {a : Int} (h1 : 1 ≤ a) (h6 : a ≤ 6) {cs : List Col} {key : Int} (hs : schemaF cs key = 0) {K : Nat} (hK : K < cs.length) {n : Int} {s : ByteArray} (hv : vchk (cs[K]'hK).ty false false n s = 0) : predF cs key [ngA a K ⟨false, n, s⟩] = 0 := by
  have h0 := neg_node h1 h6 hK hv 0
  unfold predF
  rw [if_pos hs, if_neg (by simp)]
  simp only [nodsE, h0, if_true]
theorem nilVals (W : World) (B : Nat) : ValsAt W B (.slice none 0 0) [] := ⟨by simp, .inl ⟨rfl, none, 0, rfl⟩⟩
theorem of_two {a : Int} (h1 : 1 ≤ a) (h6 : a ≤ 6) {cv : Value} {cs : List Col} {key : Int} {K : Nat} {n : Int} {s : ByteArray} {T : TypeId} {W : World} (hc : ColsAt W W.heap.size cv cs) (hs : schemaF cs key = 0) (hK : K < cs.length) (hv : vchk (cs[K]'hK).ty false false n s = 0) {R : Bnd} (hR : outF (cs[K]'hK).ty K [ngA a K ⟨false, n, s⟩, ngN] = R) :
    Calls Try.prog 24 #[.agg #[cv, .int .i64 key], .slice (some ⟨W.heap.size, 0, none⟩) 2 2, .int .i64 (K : Int)] (W.alloc (.cells #[.int .i64 a, .int .i64 K, .bool false, .int .i64 n, .string s, .slice none 0 0, .int .i64 0, .int .i64 0, .int .i64 11, .int .i64 0, .bool false, .int .i64 0, .string ⟨#[]⟩, .slice none 0 0, .int .i64 0, .int .i64 0] T))
      fun e w' => e = .returned (.tuple #[.agg (bndC R).toArray, .int .i64 0]) ∧ Below (W.alloc (.cells #[.int .i64 a, .int .i64 K, .bool false, .int .i64 n, .string s, .slice none 0 0, .int .i64 0, .int .i64 0, .int .i64 11, .int .i64 0, .bool false, .int .i64 0, .string ⟨#[]⟩, .slice none 0 0, .int .i64 0, .int .i64 0] T)).heap.size (W.alloc (.cells #[.int .i64 a, .int .i64 K, .bool false, .int .i64 n, .string s, .slice none 0 0, .int .i64 0, .int .i64 0, .int .i64 11, .int .i64 0, .bool false, .int .i64 0, .string ⟨#[]⟩, .slice none 0 0, .int .i64 0, .int .i64 0] T)) w' := by
  subst hR
  refine of_any cv cs key _ [ngA a K ⟨false, n, s⟩, ngN] K _ (hc.mono ((Below.refl _ _).alloc (Nat.le_refl _) _) (by simp)) ⟨by simp, .inr ⟨W.heap.size, 0, 2, rfl, by simp, by simp, ?_⟩⟩ (neg_pred2 h1 h6 hs hK hv) hK (by intro d hd; simp at hd; rcases hd with rfl | rfl <;> simp [ngA, ngN]; omega)
  intro j hj
  rcases j with _ | _ | j
  · exact ⟨.slice none 0 0, by simp [go_sem, ngA], by simp [go_sem, ngA], by simp [go_sem, ngA], by simp [go_sem, ngA], by simp [go_sem, ngA], by simp [go_sem, ngA], by simp [go_sem, ngA], by simp [go_sem, ngA], nilVals _ _⟩
  · exact ⟨.slice none 0 0, by simp [go_sem, ngN], by simp [go_sem, ngN], by simp [go_sem, ngN], by simp [go_sem, ngN], by simp [go_sem, ngN], by simp [go_sem, ngN], by simp [go_sem, ngN], by simp [go_sem, ngN], nilVals _ _⟩
  · simp at hj; omega
theorem of_one {a : Int} (h1 : 1 ≤ a) (h6 : a ≤ 6) {cv : Value} {cs : List Col} {key : Int} {K : Nat} {n : Int} {s : ByteArray} {T : TypeId} {W : World} (hc : ColsAt W W.heap.size cv cs) (hs : schemaF cs key = 0) (hK : K < cs.length) (hv : vchk (cs[K]'hK).ty false false n s = 0) {R : Bnd} (hR : outF (cs[K]'hK).ty K [ngA a K ⟨false, n, s⟩] = R) :
    Calls Try.prog 24 #[.agg #[cv, .int .i64 key], .slice (some ⟨W.heap.size, 0, none⟩) 1 1, .int .i64 (K : Int)] (W.alloc (.cells #[.int .i64 a, .int .i64 K, .bool false, .int .i64 n, .string s, .slice none 0 0, .int .i64 0, .int .i64 0] T))
      fun e w' => e = .returned (.tuple #[.agg (bndC R).toArray, .int .i64 0]) ∧ Below (W.alloc (.cells #[.int .i64 a, .int .i64 K, .bool false, .int .i64 n, .string s, .slice none 0 0, .int .i64 0, .int .i64 0] T)).heap.size (W.alloc (.cells #[.int .i64 a, .int .i64 K, .bool false, .int .i64 n, .string s, .slice none 0 0, .int .i64 0, .int .i64 0] T)) w' := by
  subst hR
  refine of_any cv cs key _ [ngA a K ⟨false, n, s⟩] K _ (hc.mono ((Below.refl _ _).alloc (Nat.le_refl _) _) (by simp)) ⟨by simp, .inr ⟨W.heap.size, 0, 1, rfl, by simp, by simp, ?_⟩⟩ (neg_pred1 h1 h6 hs hK hv) hK (by intro d hd; simp at hd; rcases hd with rfl; simp [ngA]; omega)
  intro j hj
  rcases j with _ | j
  · exact ⟨.slice none 0 0, by simp [go_sem, ngA], by simp [go_sem, ngA], by simp [go_sem, ngA], by simp [go_sem, ngA], by simp [go_sem, ngA], by simp [go_sem, ngA], by simp [go_sem, ngA], by simp [go_sem, ngA], nilVals _ _⟩
  · simp at hj
theorem colsE_ty : ∀ (cs pre : List Col), colsE pre cs = 0 → ∀ j (h : j < cs.length), 1 ≤ (cs[j]'h).ty ∧ (cs[j]'h).ty ≤ 5
  | [], _, _, j, h => absurd h (by simp)
  | c :: cs, pre, h0, j, h => by
    simp only [colsE] at h0
    by_cases e : colE pre c = 0
    · rw [if_pos e] at h0
      cases j with
      | zero =>
        unfold colE at e
        split at e
        · exact absurd e (by decide)
        · split at e
          · exact absurd e (by decide)
          · split at e
            · exact absurd e (by decide)
            · show 1 ≤ c.ty ∧ c.ty ≤ 5; omega
      | succ j => exact colsE_ty cs _ h0 j (by simpa using h)
    · rw [if_neg e] at h0; exact absurd h0 e
theorem ScTy {cs : List Col} {key : Int} (hs : schemaF cs key = 0) {j : Nat} (h : j < cs.length) : 1 ≤ (cs[j]'h).ty ∧ (cs[j]'h).ty ≤ 5 := by
  unfold schemaF at hs
  split at hs
  · exact absurd hs (by decide)
  · split at hs
    · exact absurd hs (by decide)
    · split at hs
      · rename_i e; exact colsE_ty cs [] e j h
      · rename_i e; exact absurd hs e
theorem neg_pick (op : Int) : ∃ a b, NegPair a b ∧ ∀ w : World, (Instr.index 62 (.agg #[.int .i64 1, .int .i64 2, .int .i64 2, .int .i64 1, .int .i64 4, .int .i64 5, .int .i64 6, .int .i64 3]) (.int .i64 (pickI op 4))).run Try.prog w = .ok (.agg #[.int .i64 a, .int .i64 b]) w := by
  have h := pickI_bd op (n := 4) (by decide)
  have : pickI op 4 = 0 ∨ pickI op 4 = 1 ∨ pickI op 4 = 2 ∨ pickI op 4 = 3 := by omega
  rcases this with h | h | h | h <;> rw [h]
  · exact ⟨1, 2, .inl ⟨rfl, rfl⟩, fun w => by kernel_rfl⟩
  · exact ⟨2, 1, .inr (.inl ⟨rfl, rfl⟩), fun w => by kernel_rfl⟩
  · exact ⟨4, 5, .inr (.inr (.inl ⟨rfl, rfl⟩)), fun w => by kernel_rfl⟩
  · exact ⟨6, 3, .inr (.inr (.inr ⟨rfl, rfl⟩)), fun w => by kernel_rfl⟩
theorem neg_bd {a b : Int} (h : NegPair a b) : 1 ≤ a ∧ a ≤ 6 ∧ 1 ≤ b ∧ b ≤ 6 := by unfold NegPair at h; omega
theorem valF_nn (ty : Int) (r : List Int) : (valF ty false r).1.null = false := by
  unfold valF
  rw [if_neg (by simp [nullF])]
  split <;> rfl
set_option maxRecDepth 8000 in
set_option maxHeartbeats 4000000 in
theorem neg_walk (vx vv : Value) (zx zv : List Int) (col op : Int) (w : World) (h0 : IntsAt w w.heap.size vx zx) (h1 : IntsAt w w.heap.size vv zv) :
    Calls Try.prog 10 #[vx, .int .i64 col, .int .i64 op, vv] w fun e w' => e = .returned (.bool true) ∧ Below w.heap.size w w' := by
  obtain ⟨o0, o1, hp, hix⟩ := neg_pick op
  have H0 := Lib.hid h0
  have H1 := Lib.hid h1
  have HP := Lib.hid hp
  clear h0 h1 hp
  go_enter Try.func10, Try.ntmps10
  go_upto_region 2 with (go_at_call 26; refine (keepSchema_any _ _ _ H0.out).mono ?_; rintro e w1 ⟨cv, cs, key, rfl, hc1, hs1, hl1, hb1⟩; obtain ⟨x1, rfl⟩ := Ext.of hb1; obtain ⟨ca, cc, rfl⟩ := cols_end hc1; obtain ⟨nn, hnn⟩ : ∃ nn, cs.length = nn := ⟨_, rfl⟩; rw [hnn] at hc1 hl1 ⊢; have HNN := Lib.hid hnn; clear hnn)
  have n1 : 1 ≤ nn := by
    have := HNN.out
    rcases Nat.eq_zero_or_pos nn with h | h
    · unfold schemaF at hs1; rw [if_pos (by omega)] at hs1; exact absurd hs1 (by decide)
    · omega
  have nI : (0 : Int) < (nn : Int) := by omega
  have kb := pickI_bd col nI
  obtain ⟨K, hK⟩ : ∃ K : Nat, pickI col nn = K := ⟨(pickI col nn).toNat, by omega⟩
  have kn : K < nn := by omega
  have kl : K < cs.length := by rw [HNN.out]; exact kn
  have knI : (K : Int) < (nn : Int) := by omega
  obtain ⟨cb, co, rfl, hcap, hcb, c0, c1, c2, c3⟩ := cols_in hc1 kl
  obtain ⟨⟨cn, ty, sc, nul⟩, hd⟩ : ∃ d, cs[K]'kl = d := ⟨_, rfl⟩
  rw [hd] at c0 c1 c2 c3
  dsimp only at c0 c1 c2 c3
  have hcell : Below x1.it.heap.size x1.it (x1.it.alloc (.cells #[.slice (some ⟨cb, co, none⟩) nn cc, .int .i64 key] 50)) := (Below.refl _ _).alloc (Nat.le_refl _) _
  have HK := Lib.hid hK
  have HC := Lib.hid hc1
  have HS := Lib.hid hs1
  have HD := Lib.hid hd
  clear hc1 hs1 hd hb1
  go_upto_region 3 with (go_at_call 29; refine (pick_any col (nn : Int) nI (by omega) _).mono ?_; rintro e w2 ⟨rfl, rfl⟩; rw [HK.out])
  clear kb
  go_upto_region 6 with (go_at_call 29; refine (pick_any op 4 (by decide) (by decide) _).mono ?_; rintro e w2 ⟨rfl, rfl⟩)
  refine captureM ?_
  intro y ey
  have yb1 : Below x1.it.heap.size x1.it y := by rw [ey]; exact (by repeat (first | with_reducible exact Below.refl _ _ | with_reducible assumption | with_reducible refine Below.al ?_ _ | with_reducible refine Below.on ?_ _ | with_reducible refine Below.st ?_ (by first | assumption | (simp; done) | (simp; omega)) _ | with_reducible refine Below.drew ?_))
  have yb : Below w.heap.size w y := by rw [ey]; exact (by repeat (first | with_reducible exact Below.refl _ _ | with_reducible assumption | with_reducible refine Below.al ?_ _ | with_reducible refine Below.on ?_ _ | with_reducible refine Below.st ?_ (by first | assumption | (simp; done) | (simp; omega)) _ | with_reducible refine Below.drew ?_))
  have z2 : x1.it.heap.size + 1 + 1 < y.heap.size := by rw [ey]; simp
  have z1 : x1.it.heap.size + 1 < y.heap.size := by omega
  have z0 : x1.it.heap.size < y.heap.size := by omega
  have s0 : y.cell? ⟨x1.it.heap.size, 0, none⟩ = some (.slice (some ⟨cb, co, none⟩) nn cc) := by rw [ey]; simp (maxDischargeDepth := 9) [go_sem, *]
  have s1 : y.cell? ⟨x1.it.heap.size, 1, none⟩ = some (.int .i64 key) := by rw [ey]; simp (maxDischargeDepth := 9) [go_sem, *]
  have t0 : y.cell? ⟨x1.it.heap.size + 1, 0, none⟩ = some (.string cn) := by rw [ey]; simp (maxDischargeDepth := 9) [go_sem, *]
  have t1 : y.cell? ⟨x1.it.heap.size + 1, 1, none⟩ = some (.int .i64 ty) := by rw [ey]; simp (maxDischargeDepth := 9) [go_sem, *]
  have t2 : y.cell? ⟨x1.it.heap.size + 1, 2, none⟩ = some (.int .i64 sc) := by rw [ey]; simp (maxDischargeDepth := 9) [go_sem, *]
  have t3 : y.cell? ⟨x1.it.heap.size + 1, 3, none⟩ = some (.bool false) := by rw [ey]; simp (maxDischargeDepth := 9) [go_sem, *]
  have p0 : y.cell? ⟨x1.it.heap.size + 1 + 1, 0, none⟩ = some (.int .i64 o0) := by rw [ey]; simp (maxDischargeDepth := 9) [go_sem, *]
  have p1 : y.cell? ⟨x1.it.heap.size + 1 + 1, 1, none⟩ = some (.int .i64 o1) := by rw [ey]; simp (maxDischargeDepth := 9) [go_sem, *]
  have HCy := Lib.hid (HC.out.mono yb1 (by omega : x1.it.heap.size ≤ y.heap.size))
  have HVy : IntsAt y y.heap.size vv zv := (H1.out.to fun k hk => yb.block k hk).mono yb.size
  clear ey hix c0 c1 c2 c3 hcell HC H0 H1
  generalize x1.it.heap.size = sb at *
  obtain ⟨⟨vn, vi, vs⟩, hvv⟩ : ∃ q, (valF ty false zv).1 = q := ⟨_, rfl⟩
  have vnf : vn = false := by have := valF_nn ty zv; rw [hvv] at this; exact this
  subst vnf
  have VO := valueOf_any vv zv cn ty sc false y HVy
  rw [hvv] at VO
  simp only [Val.enc] at VO
  have HVO := Lib.hid VO
  have HVV := Lib.hid hvv
  clear VO hvv HVy
  go_upto_region 7 with (go_at_call 13; refine HVO.out.mono ?_; rintro e w3 ⟨rfl, hb3⟩; obtain ⟨x3, rfl⟩ := Ext.of hb3)
  have HCx := HCy.out.mono hb3 hb3.size
  have q0 := x3.lt z0
  have q1 := x3.lt z1
  have q2 := x3.lt z2
  have hbx : Below w.heap.size w x3.it := Below.on yb x3
  refine captureM ?_
  intro v ev
  have vb1 : Below x3.it.heap.size x3.it v := by rw [ev]; exact (by repeat (first | with_reducible exact Below.refl _ _ | with_reducible assumption | with_reducible refine Below.al ?_ _ | with_reducible refine Below.on ?_ _ | with_reducible refine Below.st ?_ (by first | assumption | (simp; done) | (simp; omega)) _ | with_reducible refine Below.drew ?_))
  have vb : Below w.heap.size w v := by rw [ev]; exact (by repeat (first | with_reducible exact Below.refl _ _ | with_reducible assumption | with_reducible refine Below.al ?_ _ | with_reducible refine Below.on ?_ _ | with_reducible refine Below.st ?_ (by first | assumption | (simp; done) | (simp; omega)) _ | with_reducible refine Below.drew ?_))
  have HCv := Lib.hid (HCx.mono vb1 vb1.size)
  have g0 : v.cell? ⟨sb, 0, none⟩ = some (.slice (some ⟨cb, co, none⟩) nn cc) := by rw [ev]; simp (maxDischargeDepth := 9) [go_sem, *]
  have g1 : v.cell? ⟨sb, 1, none⟩ = some (.int .i64 key) := by rw [ev]; simp (maxDischargeDepth := 9) [go_sem, *]
  have p0' : v.cell? ⟨sb + 1 + 1, 0, none⟩ = some (.int .i64 o0) := by rw [ev]; simp (maxDischargeDepth := 9) [go_sem, *]
  have p1' : v.cell? ⟨sb + 1 + 1, 1, none⟩ = some (.int .i64 o1) := by rw [ev]; simp (maxDischargeDepth := 9) [go_sem, *]
  have v0 : v.cell? ⟨x3.it.heap.size, 0, none⟩ = some (.bool false) := by rw [ev]; simp (maxDischargeDepth := 9) [go_sem, *]
  have v1 : v.cell? ⟨x3.it.heap.size, 1, none⟩ = some (.int .i64 vi) := by rw [ev]; simp (maxDischargeDepth := 9) [go_sem, *]
  have v2 : v.cell? ⟨x3.it.heap.size, 2, none⟩ = some (.string vs) := by rw [ev]; simp (maxDischargeDepth := 9) [go_sem, *]
  have u3 : x3.it.heap.size < v.heap.size := by rw [ev]; simp
  have u0 : sb < v.heap.size := by omega
  have u2 : sb + 1 + 1 < v.heap.size := by omega
  clear ev s0 s1 t0 t1 t2 t3 p0 p1 HCy HCx hb3 q0 q1 q2 hbx z0 z1 z2 vb1
  generalize x3.it.heap.size = vb0 at *
  have HVC : vchk (cs[K]'kl).ty false false vi vs = 0 := by
    have h1 := ScTy HS.out kl
    rw [HD.out] at h1 ⊢
    have := valF_ok (ty := ty) false zv h1.1 h1.2
    rw [HVV.out] at this
    exact this
  obtain ⟨b1, b2, b3, b4⟩ := neg_bd HP.out
  obtain ⟨⟨R0, R1, R2, R3, ⟨R4, R5, R6⟩, ⟨R7, R8, R9⟩⟩, hR⟩ : ∃ R, outF (cs[K]'kl).ty K [ngA o1 K ⟨false, vi, vs⟩] = R := ⟨_, rfl⟩
  have NL := neg_law HP.out (cs[K]'kl).ty K ⟨false, vi, vs⟩
  rw [hR] at NL
  have r0 : R0 = false := NL.2
  subst r0
  have NL1 := NL.1
  have HF := Lib.hid (And.intro NL1 (And.intro hR HVC))
  clear NL NL1 hR HVC
  go_upto_region 8 with (go_at_call 24; refine Calls.mono (of_two b1 b2 HCv.out HS.out kl HF.out.2.2 HF.out.1) ?_; rintro e w4 ⟨rfl, hb4⟩; obtain ⟨x4, rfl⟩ := Ext.of hb4; dsimp only [bndC])
  have b4' : Below v.heap.size v x4.it := ((Below.refl _ _).alloc (Nat.le_refl _) _).trans (x4.below.mono (by simp))
  have l0 := Nat.lt_of_lt_of_le u0 b4'.size
  have l2 := Nat.lt_of_lt_of_le u2 b4'.size
  have l3 := Nat.lt_of_lt_of_le u3 b4'.size
  have e0 := (b4'.cell (p := ⟨sb, 0, none⟩) u0).trans g0
  have e1 := (b4'.cell (p := ⟨sb, 1, none⟩) u0).trans g1
  have e3 := (b4'.cell (p := ⟨sb + 1 + 1, 1, none⟩) u2).trans p1'
  have e4 := (b4'.cell (p := ⟨vb0, 0, none⟩) u3).trans v0
  have e5 := (b4'.cell (p := ⟨vb0, 1, none⟩) u3).trans v1
  have e6 := (b4'.cell (p := ⟨vb0, 2, none⟩) u3).trans v2
  refine captureM ?_
  intro u eu
  have ub1 : Below x4.it.heap.size x4.it u := by rw [eu]; exact (by repeat (first | with_reducible exact Below.refl _ _ | with_reducible assumption | with_reducible refine Below.al ?_ _ | with_reducible refine Below.on ?_ _ | with_reducible refine Below.st ?_ (by first | assumption | (simp; done) | (simp; omega)) _ | with_reducible refine Below.drew ?_))
  have ub : Below w.heap.size w u := by rw [eu]; exact Below.al (vb.trans (b4'.mono vb.size)) _
  have HCu := Lib.hid ((HCv.out.mono b4' b4'.size).mono ub1 ub1.size)
  have h0 : u.cell? ⟨sb, 0, none⟩ = some (.slice (some ⟨cb, co, none⟩) nn cc) := by rw [eu]; simp (maxDischargeDepth := 9) [go_sem, *]
  have h1 : u.cell? ⟨sb, 1, none⟩ = some (.int .i64 key) := by rw [eu]; simp (maxDischargeDepth := 9) [go_sem, *]
  have h3 : u.cell? ⟨sb + 1 + 1, 1, none⟩ = some (.int .i64 o1) := by rw [eu]; simp (maxDischargeDepth := 9) [go_sem, *]
  have h4 : u.cell? ⟨vb0, 0, none⟩ = some (.bool false) := by rw [eu]; simp (maxDischargeDepth := 9) [go_sem, *]
  have h5 : u.cell? ⟨vb0, 1, none⟩ = some (.int .i64 vi) := by rw [eu]; simp (maxDischargeDepth := 9) [go_sem, *]
  have h6 : u.cell? ⟨vb0, 2, none⟩ = some (.string vs) := by rw [eu]; simp (maxDischargeDepth := 9) [go_sem, *]
  have m0 : u.cell? ⟨x4.it.heap.size, 0, none⟩ = some ((bndC ⟨false, R1, R2, R3, ⟨R4, R5, R6⟩, ⟨R7, R8, R9⟩⟩).getD 0 undef) := by rw [eu]; simp (maxDischargeDepth := 9) [go_sem, bndC]
  have m1 : u.cell? ⟨x4.it.heap.size, 1, none⟩ = some ((bndC ⟨false, R1, R2, R3, ⟨R4, R5, R6⟩, ⟨R7, R8, R9⟩⟩).getD 1 undef) := by rw [eu]; simp (maxDischargeDepth := 9) [go_sem, bndC]
  have m2 : u.cell? ⟨x4.it.heap.size, 2, none⟩ = some ((bndC ⟨false, R1, R2, R3, ⟨R4, R5, R6⟩, ⟨R7, R8, R9⟩⟩).getD 2 undef) := by rw [eu]; simp (maxDischargeDepth := 9) [go_sem, bndC]
  have m3 : u.cell? ⟨x4.it.heap.size, 3, none⟩ = some ((bndC ⟨false, R1, R2, R3, ⟨R4, R5, R6⟩, ⟨R7, R8, R9⟩⟩).getD 3 undef) := by rw [eu]; simp (maxDischargeDepth := 9) [go_sem, bndC]
  have m4 : u.cell? ⟨x4.it.heap.size, 4, none⟩ = some ((bndC ⟨false, R1, R2, R3, ⟨R4, R5, R6⟩, ⟨R7, R8, R9⟩⟩).getD 4 undef) := by rw [eu]; simp (maxDischargeDepth := 9) [go_sem, bndC]
  have m5 : u.cell? ⟨x4.it.heap.size, 5, none⟩ = some ((bndC ⟨false, R1, R2, R3, ⟨R4, R5, R6⟩, ⟨R7, R8, R9⟩⟩).getD 5 undef) := by rw [eu]; simp (maxDischargeDepth := 9) [go_sem, bndC]
  have m6 : u.cell? ⟨x4.it.heap.size, 6, none⟩ = some ((bndC ⟨false, R1, R2, R3, ⟨R4, R5, R6⟩, ⟨R7, R8, R9⟩⟩).getD 6 undef) := by rw [eu]; simp (maxDischargeDepth := 9) [go_sem, bndC]
  have m7 : u.cell? ⟨x4.it.heap.size, 7, none⟩ = some ((bndC ⟨false, R1, R2, R3, ⟨R4, R5, R6⟩, ⟨R7, R8, R9⟩⟩).getD 7 undef) := by rw [eu]; simp (maxDischargeDepth := 9) [go_sem, bndC]
  have m8 : u.cell? ⟨x4.it.heap.size, 8, none⟩ = some ((bndC ⟨false, R1, R2, R3, ⟨R4, R5, R6⟩, ⟨R7, R8, R9⟩⟩).getD 8 undef) := by rw [eu]; simp (maxDischargeDepth := 9) [go_sem, bndC]
  have m9 : u.cell? ⟨x4.it.heap.size, 9, none⟩ = some ((bndC ⟨false, R1, R2, R3, ⟨R4, R5, R6⟩, ⟨R7, R8, R9⟩⟩).getD 9 undef) := by rw [eu]; simp (maxDischargeDepth := 9) [go_sem, bndC]
  have mlt : x4.it.heap.size < u.heap.size := by rw [eu]; simp
  simp only [bndC, List.getD_cons_zero, List.getD_cons_succ] at m0 m1 m2 m3 m4 m5 m6 m7 m8 m9
  clear eu e0 e1 e3 e4 e5 e6 g0 g1 p0' p1' v0 v1 v2 HCv l0 l2 l3 ub1 b4' hb4
  generalize x4.it.heap.size = rb at *
  go_upto_region 9 with (go_at_call 24; refine Calls.mono (of_one b3 b4 HCu.out HS.out kl HF.out.2.2 HF.out.2.1) ?_; rintro e w5 ⟨rfl, hb5⟩; obtain ⟨x5, rfl⟩ := Ext.of hb5; dsimp only [bndC])
  have b5' : Below u.heap.size u x5.it := ((Below.refl _ _).alloc (Nat.le_refl _) _).trans (x5.below.mono (by simp))
  have l0 := Nat.lt_of_lt_of_le mlt b5'.size
  have n0 := (b5'.cell (p := ⟨rb, 0, none⟩) mlt).trans m0
  have n1 := (b5'.cell (p := ⟨rb, 1, none⟩) mlt).trans m1
  have n2 := (b5'.cell (p := ⟨rb, 2, none⟩) mlt).trans m2
  have n3 := (b5'.cell (p := ⟨rb, 3, none⟩) mlt).trans m3
  have n4 := (b5'.cell (p := ⟨rb, 4, none⟩) mlt).trans m4
  have n5 := (b5'.cell (p := ⟨rb, 5, none⟩) mlt).trans m5
  have n6 := (b5'.cell (p := ⟨rb, 6, none⟩) mlt).trans m6
  have n7 := (b5'.cell (p := ⟨rb, 7, none⟩) mlt).trans m7
  have n8 := (b5'.cell (p := ⟨rb, 8, none⟩) mlt).trans m8
  have n9 := (b5'.cell (p := ⟨rb, 9, none⟩) mlt).trans m9
  clear m0 m1 m2 m3 m4 m5 m6 m7 m8 m9 h0 h1 h3 h4 h5 h6
  have hq : eqB ⟨false, R1, R2, R3, ⟨R4, R5, R6⟩, ⟨R7, R8, R9⟩⟩ ⟨false, R1, R2, R3, ⟨R4, R5, R6⟩, ⟨R7, R8, R9⟩⟩ = true := (eqB_iff _ _).2 rfl
  have hbu : Below w.heap.size w x5.it := ub.trans (b5'.mono ub.size)
  go_wp2_with (go_at_call 15; refine (awake_any _).mono ?_; rintro e w6 ⟨rfl, hb6⟩; obtain ⟨x6, rfl⟩ := Ext.of hb6)
  exact bodyPost_ret (v := .bool true) (by simp [results, Try.results10, go_sem, *]) rfl (⟨rfl, by repeat (first | with_reducible exact Below.refl _ _ | with_reducible assumption | with_reducible refine Below.al ?_ _ | with_reducible refine Below.on ?_ _ | with_reducible refine Below.st ?_ (by first | assumption | (simp; done) | (simp; omega)) _ | with_reducible refine Below.drew ?_)⟩)
set_option maxRecDepth 100000 in
theorem intervalNegation_lifted (os : Os) (started : os.Started) (H : Type) (enc : TypeId × Value → H) :
    ReturnsInHanded {} Try.checked os 10 .any (Rows.intervalNegationSpec.pre6 enc Try.prog Try.f10 Rows.intervalNegationRow.domain false) (Rows.intervalNegationSpec.post enc Try.prog Try.f10 false true false false) := by
  refine lifted_of_walk (C := Try.checked) (tb := 4) own started (by kernel_rfl) Try.func10
    (ChangeSpec.witness6 (enc := enc) (C := Try.checked) false ⟨#[], #[.slice none 0 0, .int .i64 0, .int .i64 0, .slice none 0 0], []⟩ 8 (by kernel_rfl) (by kernel_rfl) (by kernel_rfl) (by kernel_rfl))
    laid (params_ok (by kernel_rfl)) (by kernel_rfl) Try.underlying4 rfl
    (fun ds hds => by match ds, hds with | [d0, d1, d2, d3], _ => exact ⟨rfl, rfl, rfl⟩) ?_
  intro W base args ds ps hval0 hA0
  have hval : ∀ (j : Nat) t v, Try.f10.params[j]? = some t → args[j]? = some v → Value.okWide Try.prog W .any base t v := hval0
  have hA : DataW.TrodAll enc Try.prog W 0 (fun _ => true) true Try.f10.params.toList args.toList ds ps := hA0
  rw [Try.params10] at hA hval
  obtain ⟨v0, vs0, d0, ds0, p0, q0, hargs, rfl, rfl, h0, r0⟩ := trodAll_cons hA
  obtain ⟨v1, vs1, d1, ds1, p1, q1, rfl, rfl, rfl, h1, r1⟩ := trodAll_cons r0
  obtain ⟨v2, vs2, d2, ds2, p2, q2, rfl, rfl, rfl, h2, r2⟩ := trodAll_cons r1
  obtain ⟨v3, vs3, d3, ds3, p3, q3, rfl, rfl, rfl, h3, r3⟩ := trodAll_cons r2
  obtain ⟨rfl, rfl, rfl⟩ := trodAll_nil r3
  obtain rfl : args = #[v0, v1, v2, v3] := by cases args; simp_all
  obtain ⟨l0, y0⟩ := open_intsv Try.underlying26 Try.underlying3 cells3 (hval 0 _ v0 rfl rfl) h0
  obtain ⟨c1, rfl, y1⟩ := open_i64 Try.underlying3 (hval 1 _ v1 rfl rfl) h1
  obtain ⟨c2, rfl, y2⟩ := open_i64 Try.underlying3 (hval 2 _ v2 rfl rfl) h2
  obtain ⟨l3, y3⟩ := open_intsv Try.underlying26 Try.underlying3 cells3 (hval 3 _ v3 rfl rfl) h3
  exact neg_walk _ _ _ _ _ _ _ y0 y3

theorem intervalNegation_holds : Rows.IntervalNegationSaid :=
  OpenClaim.holds_of_wide 10 Try.f10 rfl rfl rfl rfl rfl rfl rfl ⟨rfl, rfl, rfl, rfl, rfl⟩ rfl rfl rfl rfl rfl (by kernel_rfl) Try.func10 (by kernel_rfl)
    (of_decide_eq_true (by kernel_rfl)) (by unfold Func.isWrapper; first | (rw [if_pos (by decide +kernel)]; kernel_rfl) | (rw [if_neg (by decide +kernel)]; exact ⟨rfl, rfl⟩))
    (fun os started H enc _ => intervalNegation_lifted os started H enc)
#print axioms intervalNegation_holds
end Go.Proofs.Ytjojnakgadfgmaa
