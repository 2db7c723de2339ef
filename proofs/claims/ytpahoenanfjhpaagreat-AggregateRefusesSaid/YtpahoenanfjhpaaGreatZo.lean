/-
  CHAPTER 26: Wd, Res (several texts in one). Conditions: each theorem states its own.
-/
import Derived.Test.YtpahoenanfjhpaaGreatRows
import Derived.Test.YtpahoenanfjhpaaGreatZa
import Derived.Test.YtpahoenanfjhpaaGreatMmxz
import Derived.Test.YtpahoenanfjhpaaGreatPrjz
import Derived.BigRegion
set_option linter.unusedVariables false
set_option linter.unusedSimpArgs false
namespace Go.Proofs.YtpahoenanfjhpaaGreat
namespace Wd
open Go.RowKit

def isU (x : Int) : Prop := 0 ≤ x ∧ x < 18446744073709551616
def isI (x : Int) : Prop := -9223372036854775808 ≤ x ∧ x < 9223372036854775808
/-- the sum's low limb and its carry -/
def sumLo (x y c : Int) : Int := (x + y + c) % 18446744073709551616
def sumC (x y c : Int) : Int := (x + y + c) / 18446744073709551616
/-- the high limb of the sum, as a signed number -/
def addHi (h1 l1 h2 l2 : Int) : Int := wrap64 (sumLo (IntKind.u64.wrap h1) (IntKind.u64.wrap h2) (sumC l1 l2 0))
def addLo (l1 l2 : Int) : Int := sumLo l1 l2 0
/-- the sign's spread, the number's 64 bits -/
def ofHi (n : Int) : Int := n / 9223372036854775808
def ofLo (n : Int) : Int := IntKind.u64.wrap n
/-- the limbs, every bit turned -/
def notHi (h : Int) : Int := -1 - h
def notLo (l : Int) : Int := 18446744073709551615 - l
def negHi (h l : Int) : Int := addHi (notHi h) (notLo l) (ofHi 1) (ofLo 1)
def negLo (l : Int) : Int := addLo (notLo l) (ofLo 1)
/-- equality of two numbers -/
def eqW (a b c d : Int) : Bool := a == c && b == d

/-- the order of two integers, as -1, 0, 1; the first of two numbers that is not 0 -/
def cmpI (a b : Int) : Int := if a < b then -1 else if a = b then 0 else 1
def orI (x y : Int) : Int := if x = 0 then y else x

/-- does the number have 64 bits; and the number -/
def fitsB (h l : Int) : Bool := eqW (ofHi (wrap64 l)) (ofLo (wrap64 l)) h l
def intN (h l : Int) : Int := if fitsB h l = true then wrap64 l else 0
theorem intN_yes {h l : Int} (f : fitsB h l = true) : intN h l = wrap64 l := if_pos f
theorem intN_no {h l : Int} (f : fitsB h l = false) : intN h l = 0 := if_neg (by rw [f]; decide)
theorem fitsB_yes {h l : Int} (f : fitsB h l = true) : eqW (ofHi (wrap64 l)) (ofLo (wrap64 l)) h l = true := f
theorem fitsB_no {h l : Int} (f : fitsB h l = false) : eqW (ofHi (wrap64 l)) (ofLo (wrap64 l)) h l = false := f

/-- the quotient and the rest of a number of two limbs by 10 -/
def divQ (h l : Int) : Int := (h * 18446744073709551616 + l) / 10
def divR (h l : Int) : Int := (h * 18446744073709551616 + l) % 10

theorem wrap64_eq (n : Int) : wrap64 n = (n + 9223372036854775808) % 18446744073709551616 - 9223372036854775808 := by unfold wrap64; rfl
theorem wrapU_eq (n : Int) : IntKind.u64.wrap n = n % 18446744073709551616 := by simp [IntKind.wrap, IntKind.bits, IntKind.signed]

theorem sumC_bd {x y c : Int} (hx : isU x) (hy : isU y) (hc0 : 0 ≤ c) (hc : c ≤ 1) : 0 ≤ sumC x y c ∧ sumC x y c ≤ 1 := by
  unfold isU sumC at *; omega
theorem wrapU (x : Int) : isU (IntKind.u64.wrap x) := by rw [wrapU_eq]; unfold isU; omega
theorem isU_sumLo (x y c : Int) : isU (sumLo x y c) := by unfold isU sumLo; omega
theorem isU_addLo (x y : Int) : isU (addLo x y) := isU_sumLo _ _ _
theorem isU_ofLo (n : Int) : isU (ofLo n) := wrapU n
/-- What the high limb is. -/
theorem addHi_eq (a b c d : Int) : addHi a b c d = (a + c + (b + d) / 18446744073709551616 + 9223372036854775808) % 18446744073709551616 - 9223372036854775808 := by
  unfold addHi sumLo sumC; rw [wrap64_eq, wrapU_eq, wrapU_eq]; omega
theorem addLo_eq (b d : Int) : addLo b d = (b + d) % 18446744073709551616 := by unfold addLo sumLo; omega
theorem ofLo_eq (n : Int) : ofLo n = n % 18446744073709551616 := wrapU_eq n
theorem eqW_iff {a b c d : Int} : eqW a b c d = true ↔ a = c ∧ b = d := by simp [eqW]

theorem add64_run (x y c : Int) (hx : 0 ≤ x) (hy : 0 ≤ y) (hc0 : 0 ≤ c) (hc : c ≤ 1) (w : World) :
    (callFunc 119 #[.int .u64 x, .int .u64 y, .int .u64 c]).run Tryz.prog w = .ok (.value (.tuple #[.int .u64 (sumLo x y c), .int .u64 (sumC x y c)])) w := by
  rw [run_callFunc_extern Tryz.func119 (by kernel_rfl) (by kernel_rfl) (by kernel_rfl) (e := add64Entry) (by kernel_rfl), run_add64 x y c hx hy hc0 hc]
  rfl

set_option maxHeartbeats 400000 in
theorem add_any (h1 l1 h2 l2 : Int) (b1 : isU l1) (b2 : isU l2) (w : World) :
    Calls Tryz.prog 93 #[.agg #[.int .i64 h1, .int .u64 l1], .agg #[.int .i64 h2, .int .u64 l2]] w fun e w' =>
      e = .returned (.agg #[.int .i64 (addHi h1 l1 h2 l2), .int .u64 (addLo l1 l2)]) ∧ Below w.heap.size w w' := by
  have c := sumC_bd b1 b2 (Int.le_refl 0) (by omega)
  have e1 := fun w => add64_run l1 l2 0 b1.1 b2.1 (Int.le_refl 0) (by omega) w
  have e2 := fun w => add64_run (IntKind.u64.wrap h1) (IntKind.u64.wrap h2) (sumC l1 l2 0) (wrapU h1).1 (wrapU h2).1 c.1 c.2 w
  clear c b1 b2
  go_enter Tryz.func93, Tryz.ntmps93
  go_wp2
  exact bodyPost_ret (v := .agg #[.int .i64 (addHi h1 l1 h2 l2), .int .u64 (addLo l1 l2)]) (by simp [results, Tryz.results93, go_sem, addHi, addLo]) rfl ⟨rfl, by repeat (first | exact Below.refl _ _ | apply Below.al | apply Below.on | (refine Below.st ?_ (by simp) _) | apply Below.drew)⟩

set_option maxHeartbeats 400000 in
theorem of_any (n : Int) (w : World) :
    Calls Tryz.prog 94 #[.int .i64 n] w fun e w' => e = .returned (.agg #[.int .i64 (ofHi n), .int .u64 (ofLo n)]) ∧ Below w.heap.size w w' := by
  go_enter Tryz.func94, Tryz.ntmps94
  go_wp2
  exact bodyPost_ret (v := .agg #[.int .i64 (ofHi n), .int .u64 (ofLo n)]) (by simp [results, Tryz.results94, go_sem, ofHi, ofLo]) rfl ⟨rfl, by repeat (first | exact Below.refl _ _ | apply Below.al | apply Below.on | (refine Below.st ?_ (by simp) _) | apply Below.drew)⟩
@[go_sem high] theorem run_eqW (a b c d : Int) (w : World) : (binOp .eql 137 (.agg #[.int .i64 a, .int .u64 b]) (.agg #[.int .i64 c, .int .u64 d])).run Tryz.prog w = .ok (.bool (eqW a b c d)) w := by
  rw [run_eql_struct, run_equalIn_agg _ _ _ _ _ (by kernel_rfl) (by kernel_rfl)]
  have hf : (Tryz.prog.fieldsOf 137).toList = [{ name := "Hi", type := 2, offset := 0, embedded := false, tag := "", pkgPath := "", byteOffset := 0 }, { name := "Lo", type := 135, offset := 1, embedded := false, tag := "", pkgPath := "", byteOffset := 8 }] := by kernel_rfl
  rw [hf]
  simp [go_sem, Op.eqFields, eqW]
  by_cases h1 : a = c <;> by_cases h2 : b = d <;> simp [h1, h2]
@[go_sem high] theorem run_neW (a b c d : Int) (w : World) : (binOp .neq 137 (.agg #[.int .i64 a, .int .u64 b]) (.agg #[.int .i64 c, .int .u64 d])).run Tryz.prog w = .ok (.bool (!eqW a b c d)) w := by
  rw [run_neq_struct, run_equalIn_agg _ _ _ _ _ (by kernel_rfl) (by kernel_rfl)]
  have hf : (Tryz.prog.fieldsOf 137).toList = [{ name := "Hi", type := 2, offset := 0, embedded := false, tag := "", pkgPath := "", byteOffset := 0 }, { name := "Lo", type := 135, offset := 1, embedded := false, tag := "", pkgPath := "", byteOffset := 8 }] := by kernel_rfl
  rw [hf]
  simp [go_sem, Op.eqFields, eqW]
  by_cases h1 : a = c <;> by_cases h2 : b = d <;> simp [h1, h2]

set_option maxHeartbeats 400000 in
theorem int_any (h l : Int) (w : World) :
    Calls Tryz.prog 95 #[.agg #[.int .i64 h, .int .u64 l]] w fun e w' =>
      e = .returned (.tuple #[.int .i64 (intN h l), .bool (fitsB h l)]) ∧ Below w.heap.size w w' := by
  cases hf : fitsB h l with
  | true =>
    rw [intN_yes hf]
    have h0 := fitsB_yes hf
    clear hf
    go_enter Tryz.func95, Tryz.ntmps95
    go_wp2
    refine wp_region_ext (by kernel_rfl) (by kernel_rfl) ?_
    repeat (go_big_quiet_step ((go_at_call 94; exact Calls.ext (of_any _ _))))
    refine wpQuiet_nil ?_
    rintro _ ⟨x, rfl⟩
    go_wp2
    go_ret2
    exact ⟨rfl, by repeat (first | exact Below.refl _ _ | apply Below.al | apply Below.on | (refine Below.st ?_ (by simp) _) | apply Below.drew)⟩
  | false =>
    rw [intN_no hf]
    have h0 := fitsB_no hf
    clear hf
    go_enter Tryz.func95, Tryz.ntmps95
    go_wp2
    refine wp_region_ext (by kernel_rfl) (by kernel_rfl) ?_
    repeat (go_big_quiet_step ((go_at_call 94; exact Calls.ext (of_any _ _))))
    refine wpQuiet_nil ?_
    rintro _ ⟨x, rfl⟩
    go_wp2
    go_ret2
    exact ⟨rfl, by repeat (first | exact Below.refl _ _ | apply Below.al | apply Below.on | (refine Below.st ?_ (by simp) _) | apply Below.drew)⟩

end Wd
end Go.Proofs.YtpahoenanfjhpaaGreat
namespace Go.Proofs.YtpahoenanfjhpaaGreat
open Go.RowKit
/-- The values of a column that are not null. -/
def valsC (rows : List (List Val)) (c : Nat) : List Val := (rows.map fun r => r.getD c Val.zero).filter fun v => !v.null
theorem valsC_succ {rows : List (List Val)} {c k : Nat} (h : k < rows.length) : valsC (rows.take (k + 1)) c = valsC (rows.take k) c ++ (if ((rows[k]'h).getD c Val.zero).null = true then [] else [(rows[k]'h).getD c Val.zero]) := by
  unfold valsC
  rw [List.take_succ_eq_append_getElem h, List.map_append, List.filter_append]
  congr 1
  simp only [List.map_cons, List.map_nil, List.filter_cons, List.filter_nil]
  cases ((rows[k]'h).getD c Val.zero).null <;> simp
theorem valsC_len (rows : List (List Val)) (c : Nat) : (valsC rows c).length ≤ rows.length := by
  unfold valsC; exact Nat.le_trans (List.length_filter_le _ _) (by simp)
/-- The sum in two limbs. -/
def sumW (l : List Val) : Int × Int := l.foldl (fun p v => (Wd.addHi p.1 p.2 (Wd.ofHi v.n) (Wd.ofLo v.n), Wd.addLo p.2 (Wd.ofLo v.n))) (0, 0)
theorem sumW_succ {l : List Val} {k : Nat} (h : k < l.length) : sumW (l.take (k + 1)) = (Wd.addHi (sumW (l.take k)).1 (sumW (l.take k)).2 (Wd.ofHi (l[k]'h).n) (Wd.ofLo (l[k]'h).n), Wd.addLo (sumW (l.take k)).2 (Wd.ofLo (l[k]'h).n)) := by
  unfold sumW; rw [List.take_succ_eq_append_getElem h, List.foldl_append]; rfl
theorem sumW_lo (l : List Val) : Wd.isU (sumW l).2 := by
  rcases List.eq_nil_or_concat l with rfl | ⟨L, v, rfl⟩
  · exact ⟨Int.le_refl 0, by decide⟩
  · unfold sumW; rw [List.concat_eq_append, List.foldl_append]; exact Wd.isU_addLo _ _
def minV (ty : Int) : List Val → Val := selM (fun x m => decide (cmpV ty x m < 0))
def maxV (ty : Int) : List Val → Val := selM (fun x m => decide (0 < cmpV ty x m))
/-- The value of an aggregate, and its error. -/
def aggF (cs : List Col) (a : Ag) (rows : List (List Val)) : Val × Int :=
  if a.op = 1 then (⟨false, rows.length, ⟨#[]⟩⟩, 0)
  else if a.op = 2 then (⟨false, (valsC rows a.col.toNat).length, ⟨#[]⟩⟩, 0)
  else if valsC rows a.col.toNat = [] then (⟨true, 0, ⟨#[]⟩⟩, 0)
  else if a.op = 4 then (minV (colTy cs a.col) (valsC rows a.col.toNat), 0)
  else if a.op = 5 then (maxV (colTy cs a.col) (valsC rows a.col.toNat), 0)
  else if Wd.fitsB (sumW (valsC rows a.col.toNat)).1 (sumW (valsC rows a.col.toNat)).2 = true then (⟨false, Wd.intN (sumW (valsC rows a.col.toNat)).1 (sumW (valsC rows a.col.toNat)).2, ⟨#[]⟩⟩, 0)
  else (⟨false, 0, ⟨#[]⟩⟩, 8)
set_option maxRecDepth 8000 in
set_option maxHeartbeats 2000000 in
theorem result_any (SB : Nat) (cv : Value) (cs : List Col) (op : Int) (K : Nat) (rv : Value) (rows : List (List Val)) (w : World) (hS : SB < w.heap.size) (s0 : w.cell? ⟨SB, 0, none⟩ = some cv)
    (hc : ColsAt w w.heap.size cv cs) (hr : RowsAt w w.heap.size rv rows) (hK : K < cs.length) (h1 : 1 ≤ op) (h5 : op ≤ 5) (hrl : ∀ r ∈ rows, r.length = cs.length) (h9 : rows.length ≤ 1099511627776) :
    Calls Tryz.prog 63 #[.pointer (some ⟨SB, 0, none⟩), .agg #[.int .i64 op, .int .i64 (K : Int)], rv] w fun e w' => e = .returned (.tuple #[.agg #[.bool (aggF cs ⟨op, K⟩ rows).1.null, .int .i64 (aggF cs ⟨op, K⟩ rows).1.n, .string (aggF cs ⟨op, K⟩ rows).1.s], .int .i64 (aggF cs ⟨op, K⟩ rows).2]) ∧ Below w.heap.size w w' := by
  obtain ⟨i0, hi, hz0, hz1, hz2⟩ := info_parts infoVal
  obtain ⟨ca, cc, rfl⟩ := cols_end hc
  obtain ⟨ra, rc, rfl⟩ := rows_end hr
  obtain ⟨nc, hnc⟩ : ∃ n, cs.length = n := ⟨_, rfl⟩
  obtain ⟨n, hn⟩ : ∃ n, rows.length = n := ⟨_, rfl⟩
  obtain ⟨cb, co, rfl, _, hcb, e0, e1, e2, e3⟩ := cols_in hc hK
  have hty : colTy cs (K : Int) = (cs[K]'hK).ty := colTy_at hK
  obtain ⟨ty, hty'⟩ : ∃ t, (cs[K]'hK).ty = t := ⟨_, rfl⟩
  rw [hty'] at e1 hty
  rw [hn] at hr h9 ⊢
  rw [hnc] at s0 hc hrl hK
  have hK' : (K : Int) < (nc : Int) := by omega
  have HR := Lib.hid hr
  have HN := Lib.hid hn
  have HRL := Lib.hid hrl
  obtain ⟨R, hR⟩ : ∃ R, aggF cs ⟨op, K⟩ rows = R := ⟨_, rfl⟩
  rw [hR]
  have HRR : Hid ((if op = 1 then ((⟨false, n, ⟨#[]⟩⟩, 0) : Val × Int)
    else if op = 2 then (⟨false, (valsC rows K).length, ⟨#[]⟩⟩, 0)
    else if valsC rows K = [] then (⟨true, 0, ⟨#[]⟩⟩, 0)
    else if op = 4 then (minV ty (valsC rows K), 0)
    else if op = 5 then (maxV ty (valsC rows K), 0)
    else if Wd.fitsB (sumW (valsC rows K)).1 (sumW (valsC rows K)).2 = true then (⟨false, Wd.intN (sumW (valsC rows K)).1 (sumW (valsC rows K)).2, ⟨#[]⟩⟩, 0)
    else (⟨false, 0, ⟨#[]⟩⟩, 8)) = R) := Lib.hid (by
      rw [← hR, ← hn]; unfold aggF; dsimp only; rw [hty, Int.toNat_natCast])
  clear hc hr hn hnc hrl hR hty hty' e0 e2 e3
  go_enter Tryz.func63, Tryz.ntmps63
  go_upto_region 3 with fail
  refine captureP ?_
  intro y ey
  have yb : Below w.heap.size w y.it := by rw [ey]; exact (by with_reducible repeat (first | exact Below.refl _ _ | assumption | refine Below.al ?_ _ | refine Below.on ?_ _ | refine Below.st ?_ (by first | assumption | (simp; done) | (simp; omega)) _ | refine Below.drew ?_))
  have y0 : y.it.cell? ⟨w.heap.size, 0, none⟩ = some (.int .i64 op) := by rw [ey]; simp (maxDischargeDepth := 9) [go_sem, *]
  have y1 : y.it.cell? ⟨w.heap.size, 1, none⟩ = some (.int .i64 (K : Int)) := by rw [ey]; simp (maxDischargeDepth := 9) [go_sem, *]
  have z0 : y.it.cell? ⟨w.heap.size + 1, 0, none⟩ = some (.bool false) := by rw [ey]; simp (maxDischargeDepth := 9) [go_sem, *]
  have z1 : y.it.cell? ⟨w.heap.size + 1, 1, none⟩ = some (.int .i64 0) := by rw [ey]; simp (maxDischargeDepth := 9) [go_sem, *]
  have z2 : y.it.cell? ⟨w.heap.size + 1, 2, none⟩ = some (.string ⟨#[]⟩) := by rw [ey]; simp (maxDischargeDepth := 9) [go_sem, *]
  have zf : ∀ q, y.it.frozen? ⟨w.heap.size + 1, q, none⟩ = false := fun q => by rw [ey]; simp (maxDischargeDepth := 9) [go_sem, *]
  have yz : w.heap.size + 1 < y.it.heap.size := by rw [ey]; simp
  have ZF := Lib.hid zf
  clear ey zf
  obtain ⟨A, hA⟩ : ∃ b, w.heap.size = b := ⟨_, rfl⟩
  rw [hA] at y0 y1 z0 z1 z2 yz ZF ⊢
  have HA := Lib.hid hA
  clear hA
  go_loopg [8, 21] n (fun g v st wr => ∃ k : Nat, k + g = n ∧ st = .int .i64 (k : Int) ∧ ∃ x : Ext y.it, x.it = wr ∧ wr.ownsRow y.it.heap.size 41 3 v (valsC (rows.take k) K).length ((valsC (rows.take k) K).flatMap valC))
  case atStart => exact ⟨0, by omega, rfl, ⟨y.it, Below.refl _ _⟩, rfl, World.ownsRow_nil _ _ _ _⟩
  case round =>
    obtain ⟨k, hk, rfl, x, rfl, hown⟩ := hrel
    have hx := Below.on yb x
    have zA := Nat.lt_of_succ_lt yz
    have q0 := (x.cell A 0 zA).trans y0
    have q1 := (x.cell A 1 zA).trans y1
    have zw := x.lt zA
    by_cases hg0 : gk = 0
    · subst hg0
      obtain rfl : k = n := by omega
      rw [List.take_of_length_le (by rw [HN.out]; exact Nat.le_refl _)] at hown
      have LL : (valsC rows K).length ≤ 1099511627776 := Nat.le_trans (valsC_len _ _) (by rw [HN.out]; exact h9)
      obtain ⟨L, hL⟩ : ∃ l, valsC rows K = l := ⟨_, rfl⟩
      rw [hL] at hown LL HRR
      obtain ⟨la, lc, rfl⟩ := own_form hown
      have HV := Lib.hid (own_vals (by omega) hown)
      obtain ⟨m, hm⟩ : ∃ m, L.length = m := ⟨_, rfl⟩
      rw [hm] at HV LL ⊢
      have HM := Lib.hid hm
      have r0 := (x.cell (A + 1) 0 yz).trans z0
      have r1 := (x.cell (A + 1) 1 yz).trans z1
      have r2 := (x.cell (A + 1) 2 yz).trans z2
      have rf : ∀ q, x.it.frozen? ⟨A + 1, q, none⟩ = false := fun q => (x.frozen (A + 1) q yz).trans (ZF.out q)
      have zr := x.lt yz
      have c0 := (hx.cell (p := ⟨SB, 0, none⟩) hS).trans s0
      have c1 := (hx.cell (p := ⟨cb, co + K * 4 + 1, none⟩) hcb).trans e1
      have zs : SB < x.it.heap.size := Nat.lt_of_lt_of_le hS hx.size
      have zc : cb < x.it.heap.size := Nat.lt_of_lt_of_le hcb hx.size
      have tk : ¬ (k : Int) < (k : Int) := by omega
      clear hown hk hL hm
      go_upto_region 9 with fail
      go_region
      go_upto_region 11 with fail
      refine captureM ?_
      intro Y eY
      have Yb : Below w.heap.size w Y := by rw [eY]; exact (by with_reducible repeat (first | exact Below.refl _ _ | assumption | refine Below.al ?_ _ | refine Below.on ?_ _ | refine Below.st ?_ (by first | assumption | (simp; done) | (simp; omega)) _ | refine Below.drew ?_))
      have Xb : Below x.it.heap.size x.it Y := by rw [eY]; exact (Below.al (Below.refl _ _) _).drew
      have TB0 : Y.cell? ⟨x.it.heap.size, 0, none⟩ = some (.int .i64 ty) := by rw [eY]; simp (maxDischargeDepth := 9) [go_sem, *]
      have zT : x.it.heap.size < Y.heap.size := by rw [eY]; simp
      obtain ⟨TB, hTB⟩ : ∃ b, x.it.heap.size = b := ⟨_, rfl⟩
      have q0' := (Xb.cell (p := ⟨A, 0, none⟩) zw).trans q0
      have q1' := (Xb.cell (p := ⟨A, 1, none⟩) zw).trans q1
      have r0' := (Xb.cell (p := ⟨A + 1, 0, none⟩) zr).trans r0
      have r1' := (Xb.cell (p := ⟨A + 1, 1, none⟩) zr).trans r1
      have r2' := (Xb.cell (p := ⟨A + 1, 2, none⟩) zr).trans r2
      have rf' : ∀ q, Y.frozen? ⟨A + 1, q, none⟩ = false := fun q => (Xb.frozen (p := ⟨A + 1, q, none⟩) zr).trans (rf q)
      have zY : A + 1 < Y.heap.size := Nat.lt_of_lt_of_le zr Xb.size
      have zY0 : A < Y.heap.size := Nat.lt_of_succ_lt zY
      have HV2 := Lib.hid (HV.out.mono Xb Xb.size)
      rw [hTB] at TB0 zT ⊢
      have hAw : w.heap.size ≤ A + 1 := by have := HA.out; omega
      have hTw : w.heap.size ≤ TB := by rw [← hTB]; exact hx.size
      clear eY q0 q1 r0 r1 r2 rf zr zw c0 c1 zs zc HV y0 y1 z0 z1 z2 yz
      by_cases o1 : op = 1
      · have t1 : (op == 1) = true := by simpa using o1
        obtain rfl : ((⟨false, k, ⟨#[]⟩⟩, 0) : Val × Int) = R := by rw [← HRR.out, if_pos o1]
        clear HRR
        go_wp2
        exact bodyPost_ret (v := .tuple #[.agg #[.bool false, .int .i64 (k : Int), .string ⟨#[]⟩], .int .i64 0]) (by simp (maxDischargeDepth := 9) [results, Tryz.results63, go_sem, *]) rfl (⟨rfl, (by with_reducible repeat (first | exact Below.refl _ _ | assumption | refine Below.al ?_ _ | refine Below.on ?_ _ | refine Below.st ?_ (by first | assumption | (simp; done) | (simp; omega)) _ | refine Below.drew ?_))⟩)
      have t1 : (op == 1) = false := by simpa using o1
      by_cases o2 : op = 2
      · have t2 : (op == 2) = true := by simpa using o2
        obtain rfl : ((⟨false, m, ⟨#[]⟩⟩, 0) : Val × Int) = R := by rw [← HRR.out, if_neg o1, if_pos o2, HM.out]
        clear HRR
        go_wp2
        exact bodyPost_ret (v := .tuple #[.agg #[.bool false, .int .i64 (m : Int), .string ⟨#[]⟩], .int .i64 0]) (by simp (maxDischargeDepth := 9) [results, Tryz.results63, go_sem, *]) rfl (⟨rfl, (by with_reducible repeat (first | exact Below.refl _ _ | assumption | refine Below.al ?_ _ | refine Below.on ?_ _ | refine Below.st ?_ (by first | assumption | (simp; done) | (simp; omega)) _ | refine Below.drew ?_))⟩)
      have t2 : (op == 2) = false := by simpa using o2
      by_cases o3 : m = 0
      · obtain rfl : ((⟨true, 0, ⟨#[]⟩⟩, 0) : Val × Int) = R := by rw [← HRR.out, if_neg o1, if_neg o2, if_pos (List.eq_nil_of_length_eq_zero (HM.out.trans o3))]
        subst o3
        have t3 : (((0 : Nat) : Int) == 0) = true := rfl
        clear HRR
        go_wp2
        exact bodyPost_ret (v := .tuple #[.agg #[.bool true, .int .i64 0, .string ⟨#[]⟩], .int .i64 0]) (by simp (maxDischargeDepth := 9) [results, Tryz.results63, go_sem, *]) rfl (⟨rfl, (by with_reducible repeat (first | exact Below.refl _ _ | assumption | refine Below.al ?_ _ | refine Below.on ?_ _ | refine Below.st ?_ (by first | assumption | (simp; done) | (simp; omega)) _ | refine Below.drew ?_))⟩)
      have t3 : ((m : Int) == 0) = false := by simp; omega
      have hL0 : ¬ L = [] := by intro e; apply o3; rw [← HM.out, e]; rfl
      have hL1 : 0 < L.length := by rw [HM.out]; omega
      by_cases o4 : op = 4
      · have t4 : (op == 4) = true := by simpa using o4
        have MN := Lib.hid (min_any TB ty (.slice la m lc) L Y zT TB0 HV2.out hL1)
        have MN2 : Hid (Calls Tryz.prog 91 #[.slice la m lc, .func (.func 90) #[] #[.pointer (some ⟨TB, 0, none⟩)]] Y fun e w' => e = .returned (.agg #[.bool (minV ty L).null, .int .i64 (minV ty L).n, .string (minV ty L).s]) ∧ Below Y.heap.size Y w') := MN
        obtain ⟨V, hV⟩ : ∃ v, minV ty L = v := ⟨_, rfl⟩
        obtain ⟨vn, vi, vs⟩ := V
        obtain rfl : ((⟨vn, vi, vs⟩, 0) : Val × Int) = R := by rw [← HRR.out, if_neg o1, if_neg o2, if_neg hL0, if_pos o4, hV]
        rw [hV] at MN2
        dsimp only at MN2
        clear HRR MN hV
        go_wp2_with (go_at_call 91; refine Calls.mono MN2.out ?_; rintro e w7 ⟨rfl, hb7⟩; obtain ⟨x7, rfl⟩ := Ext.of hb7; have z7 := x7.lt zY)
        exact bodyPost_ret (v := .tuple #[.agg #[.bool vn, .int .i64 vi, .string vs], .int .i64 0]) (by simp (maxDischargeDepth := 9) [results, Tryz.results63, go_sem, *]) rfl (⟨rfl, (by with_reducible repeat (first | exact Below.refl _ _ | assumption | refine Below.al ?_ _ | refine Below.on ?_ _ | refine Below.st ?_ (by first | assumption | (simp; done) | (simp; omega)) _ | refine Below.drew ?_))⟩)
      have t4 : (op == 4) = false := by simpa using o4
      by_cases o5 : op = 5
      · have t5 : (op == 5) = true := by simpa using o5
        have MN := Lib.hid (max_any TB ty (.slice la m lc) L Y zT TB0 HV2.out hL1)
        have MN2 : Hid (Calls Tryz.prog 92 #[.slice la m lc, .func (.func 90) #[] #[.pointer (some ⟨TB, 0, none⟩)]] Y fun e w' => e = .returned (.agg #[.bool (maxV ty L).null, .int .i64 (maxV ty L).n, .string (maxV ty L).s]) ∧ Below Y.heap.size Y w') := MN
        obtain ⟨V, hV⟩ : ∃ v, maxV ty L = v := ⟨_, rfl⟩
        obtain ⟨vn, vi, vs⟩ := V
        obtain rfl : ((⟨vn, vi, vs⟩, 0) : Val × Int) = R := by rw [← HRR.out, if_neg o1, if_neg o2, if_neg hL0, if_neg o4, if_pos o5, hV]
        rw [hV] at MN2
        dsimp only at MN2
        clear HRR MN hV
        go_wp2_with (go_at_call 92; refine Calls.mono MN2.out ?_; rintro e w7 ⟨rfl, hb7⟩; obtain ⟨x7, rfl⟩ := Ext.of hb7; have z7 := x7.lt zY)
        exact bodyPost_ret (v := .tuple #[.agg #[.bool vn, .int .i64 vi, .string vs], .int .i64 0]) (by simp (maxDischargeDepth := 9) [results, Tryz.results63, go_sem, *]) rfl (⟨rfl, (by with_reducible repeat (first | exact Below.refl _ _ | assumption | refine Below.al ?_ _ | refine Below.on ?_ _ | refine Below.st ?_ (by first | assumption | (simp; done) | (simp; omega)) _ | refine Below.drew ?_))⟩)
      have t5 : (op == 5) = false := by simpa using o5
      have HS : Hid ((if Wd.fitsB (sumW L).1 (sumW L).2 = true then ((⟨false, Wd.intN (sumW L).1 (sumW L).2, ⟨#[]⟩⟩, 0) : Val × Int) else (⟨false, 0, ⟨#[]⟩⟩, 8)) = R) := Lib.hid (by have := HRR.out; rwa [if_neg o1, if_neg o2, if_neg hL0, if_neg o4, if_neg o5] at this)
      clear HRR hL0
      go_upto_region 23 with fail
      refine captureM ?_
      intro U eU
      have Ub : Below Y.heap.size Y U := by rw [eU]; exact (Below.al (Below.refl _ _) _)
      have zU : Y.heap.size < U.heap.size := by rw [eU]; simp
      have U0 : U.cell? ⟨Y.heap.size, 0, none⟩ = some (.int .i64 0) := by rw [eU]; simp (maxDischargeDepth := 9) [go_sem, *]
      have U1 : U.cell? ⟨Y.heap.size, 1, none⟩ = some (.int .u64 0) := by rw [eU]; simp (maxDischargeDepth := 9) [go_sem, *]
      have UF : ∀ q, U.frozen? ⟨Y.heap.size, q, none⟩ = false := fun q => by rw [eU]; simp (maxDischargeDepth := 9) [go_sem, *]
      have HU := Lib.hid (And.intro Ub (And.intro zU (And.intro U0 (And.intro U1 UF))))
      clear eU Ub zU U0 U1 UF
      obtain ⟨D, hD⟩ : ∃ b, Y.heap.size = b := ⟨_, rfl⟩
      have HD := Lib.hid hD
      have hD0 : A + 1 < D := by rw [← hD]; exact zY
      have hDw : w.heap.size ≤ D := by omega
      rw [hD] at HU ⊢
      clear hD
      go_loopg [84] m (fun g st wr => ∃ j : Nat, j + g = m ∧ st = .int .i64 (j : Int) ∧ Below Y.heap.size Y wr ∧ D < wr.heap.size ∧ wr.cell? ⟨D, 0, none⟩ = some (.int .i64 (sumW (L.take j)).1) ∧ wr.cell? ⟨D, 1, none⟩ = some (.int .u64 (sumW (L.take j)).2) ∧ ∀ q, wr.frozen? ⟨D, q, none⟩ = false)
      case atStart => exact ⟨0, by omega, rfl, by rw [HD.out]; exact HU.out.1, HU.out.2.1, HU.out.2.2.1, HU.out.2.2.2.1, HU.out.2.2.2.2⟩
      case round =>
        clear HU
        obtain ⟨j, hj, rfl, hbw, hDz, d0, d1, df⟩ := hrel
        have Wb := Below.to Yb hbw
        by_cases hg0 : gk = 0
        · subst hg0
          obtain rfl : j = m := by omega
          rw [List.take_of_length_le (by rw [HM.out]; exact Nat.le_refl _)] at d0 d1
          have r0 := (hbw.cell (p := ⟨A + 1, 0, none⟩) zY).trans r0'
          have r1 := (hbw.cell (p := ⟨A + 1, 1, none⟩) zY).trans r1'
          have r2 := (hbw.cell (p := ⟨A + 1, 2, none⟩) zY).trans r2'
          have rf : ∀ q, wr.frozen? ⟨A + 1, q, none⟩ = false := fun q => (hbw.frozen (p := ⟨A + 1, q, none⟩) zY).trans (rf' q)
          have zr : A + 1 < wr.heap.size := Nat.lt_of_lt_of_le zY hbw.size
          obtain ⟨h1', hh1⟩ : ∃ z, (sumW L).1 = z := ⟨_, rfl⟩
          obtain ⟨l1', hl1⟩ : ∃ z, (sumW L).2 = z := ⟨_, rfl⟩
          rw [hh1] at d0 HS
          rw [hl1] at d1 HS
          have tj : ¬ (j : Int) < (j : Int) := by omega
          clear hj hh1 hl1 q0' q1' r0' r1' r2' rf' TB0
          cases hf : Wd.fitsB h1' l1' with
          | true =>
            have IN := Lib.hid (fun W => (by have q := Wd.int_any h1' l1' W; rw [hf] at q; exact q : Calls Tryz.prog 95 #[.agg #[.int .i64 h1', .int .u64 l1']] W fun e w' => e = .returned (.tuple #[.int .i64 (Wd.intN h1' l1'), .bool true]) ∧ Below W.heap.size W w'))
            obtain ⟨N, hN⟩ : ∃ N, Wd.intN h1' l1' = N := ⟨_, rfl⟩
            obtain rfl : ((⟨false, N, ⟨#[]⟩⟩, 0) : Val × Int) = R := by rw [← HS.out, if_pos hf, hN]
            rw [hN] at IN
            clear HS hf hN
            go_wp2_with (go_at_call 95; refine Calls.mono (IN.out _) ?_; rintro e w7 ⟨rfl, hb7⟩; obtain ⟨x7, rfl⟩ := Ext.of hb7; have z7 := x7.lt zr)
            exact bodyPost_ret (v := .tuple #[.agg #[.bool false, .int .i64 N, .string ⟨#[]⟩], .int .i64 0]) (by simp (maxDischargeDepth := 9) [results, Tryz.results63, go_sem, *]) rfl (⟨rfl, (by with_reducible repeat (first | exact Below.refl _ _ | assumption | refine Below.al ?_ _ | refine Below.on ?_ _ | refine Below.st ?_ (by first | assumption | (simp; done) | (simp; omega)) _ | refine Below.drew ?_))⟩)
          | false =>
            obtain rfl : ((⟨false, 0, ⟨#[]⟩⟩, 8) : Val × Int) = R := by rw [← HS.out, if_neg (by rw [hf]; decide)]
            have IN := Lib.hid (fun W => (by have q := Wd.int_any h1' l1' W; rw [hf] at q; exact q : Calls Tryz.prog 95 #[.agg #[.int .i64 h1', .int .u64 l1']] W fun e w' => e = .returned (.tuple #[.int .i64 (Wd.intN h1' l1'), .bool false]) ∧ Below W.heap.size W w'))
            try dsimp only
            clear HS hf
            go_wp2_with (go_at_call 95; refine Calls.mono (IN.out _) ?_; rintro e w7 ⟨rfl, hb7⟩; obtain ⟨x7, rfl⟩ := Ext.of hb7; have z7 := x7.lt zr)
            exact bodyPost_ret (v := .tuple #[.agg #[.bool false, .int .i64 0, .string ⟨#[]⟩], .int .i64 8]) (by simp (maxDischargeDepth := 9) [results, Tryz.results63, go_sem, *]) rfl (⟨rfl, (by with_reducible repeat (first | exact Below.refl _ _ | assumption | refine Below.al ?_ _ | refine Below.on ?_ _ | refine Below.st ?_ (by first | assumption | (simp; done) | (simp; omega)) _ | refine Below.drew ?_))⟩)
        · have hjm : j < m := by omega
          have hjm' : (j : Int) < (m : Int) := by omega
          have hjL : j < L.length := by rw [HM.out]; exact hjm
          obtain ⟨vb, vo, rfl, _, hvb, k0, k1, k2⟩ := vals_in HV2.out hjL
          have SU := sumW_succ hjL
          have LO := sumW_lo (L.take j)
          obtain ⟨u, hu⟩ : ∃ u, L[j]'hjL = u := ⟨_, rfl⟩
          rw [hu] at k0 k1 k2 SU
          obtain ⟨un, ui, us⟩ := u
          dsimp only at k0 k1 k2 SU
          obtain ⟨S, hS2⟩ : ∃ z, sumW (L.take j) = z := ⟨_, rfl⟩
          rw [hS2] at d0 d1 SU LO
          obtain ⟨sh, sl⟩ := S
          dsimp only at d0 d1 SU LO
          have f0 := (hbw.cell (p := ⟨vb, vo + j * 3, none⟩) hvb).trans k0
          have f1 := (hbw.cell (p := ⟨vb, vo + j * 3 + 1, none⟩) hvb).trans k1
          have f2 := (hbw.cell (p := ⟨vb, vo + j * 3 + 2, none⟩) hvb).trans k2
          have zv : vb < wr.heap.size := Nat.lt_of_lt_of_le hvb hbw.size
          have HK := Lib.hid (And.intro hj hg0)
          have HSU := Lib.hid SU
          have HB := Lib.hid (And.intro hbw Wb)
          have hDY : Y.heap.size ≤ D := by rw [HD.out]; exact Nat.le_refl _
          have OF := Lib.hid (fun W => Wd.of_any ui W)
          have AD := Lib.hid (fun W => Wd.add_any sh sl (Wd.ofHi ui) (Wd.ofLo ui) LO (Wd.isU_ofLo ui) W)
          obtain ⟨oh, hoh⟩ : ∃ z, Wd.ofHi ui = z := ⟨_, rfl⟩
          obtain ⟨ol, hol⟩ : ∃ z, Wd.ofLo ui = z := ⟨_, rfl⟩
          rw [hoh] at OF AD HSU
          rw [hol] at OF AD HSU
          obtain ⟨nh, hnh⟩ : ∃ z, Wd.addHi sh sl oh ol = z := ⟨_, rfl⟩
          obtain ⟨nl, hnl⟩ : ∃ z, Wd.addLo sl ol = z := ⟨_, rfl⟩
          rw [hnh, hnl] at AD HSU
          clear k0 k1 k2 hu hj hg0 SU hS2 hbw Wb LO hoh hol hnh hnl
          go_upto_region 25 with fail
          refine wp_region_ext_tail 5 (by kernel_rfl) (by kernel_rfl) ?_
          dsimp only [List.take, List.drop]
          repeat (go_big_quiet_step ((first | (go_at_call 94; exact Calls.ext (OF.out _)) | (go_at_call 93; exact Calls.ext (AD.out _)))))
          refine wpQuiet_nil ?_
          rintro _ ⟨x7, rfl⟩
          have z7 := x7.lt (show D < (wr.alloc (.cells #[.bool un, .int .i64 ui, .string us] 41)).heap.size by simp; omega)
          have zA := Nat.lt_of_lt_of_le (Nat.lt_of_succ_lt zY) HB.out.1.size
          have f7 : ∀ q, x7.it.frozen? ⟨D, q, none⟩ = false := fun q => (x7.frozen D q (by simp; omega)).trans (by simp (maxDischargeDepth := 9) [go_sem, *])
          have hbY := HB.out.1
          go_wp2
          go_roundg (gk - 1)
          case measure => have := HK.out; omega
          case rel =>
            refine ⟨j + 1, by have := HK.out; omega, by go_num, (by with_reducible repeat (first | exact Below.refl _ _ | assumption | refine Below.al ?_ _ | refine Below.on ?_ _ | refine Below.st ?_ (by first | assumption | (simp; done) | (simp; omega)) _ | refine Below.drew ?_)), by simpa using z7, ?_, ?_, fun q => ?_⟩
            · rw [HSU.out]; simp (maxDischargeDepth := 9) [go_sem, *]
            · rw [HSU.out]; simp (maxDischargeDepth := 9) [go_sem, *]
            · rw [World.frozen?_setCell, World.frozen?_setCell]; exact f7 q
    · have hkm : k < n := by omega
      have hkm' : (k : Int) < (n : Int) := by omega
      have hkx : k < rows.length := by rw [HN.out]; exact hkm
      obtain ⟨rb, ro, rfl, _, hrb, lv, f0, hlv⟩ := rows_in HR.out hkx
      have hrl := HRL.out _ (List.getElem_mem hkx)
      have TS := valsC_succ (c := K) hkx
      obtain ⟨r, hr⟩ : ∃ r, rows[k]'hkx = r := ⟨_, rfl⟩
      rw [hr] at hlv hrl TS
      obtain ⟨la, lc, rfl⟩ := vals_end hlv
      have hKr : K < r.length := by omega
      obtain ⟨vb, vo, rfl, _, hvb, d0, d1, d2⟩ := vals_in hlv hKr
      rw [getDv_in hKr] at TS
      obtain ⟨u, hu⟩ : ∃ u, r[K]'hKr = u := ⟨_, rfl⟩
      rw [hu] at d0 d1 d2 TS
      rw [hrl] at f0
      obtain ⟨un, ui, us⟩ := u
      dsimp only at d0 d1 d2 TS
      have f1 := (hx.cell (p := ⟨rb, ro + k, none⟩) hrb).trans f0
      have g1 := (hx.cell (p := ⟨vb, vo + K * 3, none⟩) hvb).trans d0
      have g2 := (hx.cell (p := ⟨vb, vo + K * 3 + 1, none⟩) hvb).trans d1
      have g3 := (hx.cell (p := ⟨vb, vo + K * 3 + 2, none⟩) hvb).trans d2
      have zb1 : rb < x.it.heap.size := Nat.lt_of_lt_of_le hrb hx.size
      have zb2 : vb < x.it.heap.size := Nat.lt_of_lt_of_le hvb hx.size
      have hlk : (valsC (rows.take k) K).length ≤ k := Nat.le_trans (valsC_len _ _) (by simp; omega)
      obtain ⟨vs, hvs⟩ : ∃ vs, valsC (rows.take k) K = vs := ⟨_, rfl⟩
      rw [hvs] at hown TS hlk
      have OW := Lib.hid hown
      have XB := Lib.hid hx
      have HK := Lib.hid (And.intro hk hg0)
      have HXS := x.below.size
      have HXW := hx.size
      clear f0 d0 d1 d2 hlv hr hu hown hvs hk hg0 hrl hKr
      cases un with
      | true =>
        have SO := Lib.hid (TS.trans (by rw [if_pos rfl, List.append_nil]))
        clear TS
        go_wp2
        go_roundg (gk - 1)
        case measure => have := HK.out; omega
        case rel => exact ⟨k + 1, by have := HK.out; omega, by go_num, ⟨_, Below.al x.below _⟩, rfl, by rw [SO.out]; exact OW.out.alloc _⟩
      | false =>
        have SO := Lib.hid (TS.trans (by rw [if_neg (by decide)]))
        clear TS
        go_upto_region 7 with fail
        refine captureM ?_
        intro Z eZ
        have Zb : Below x.it.heap.size x.it Z := by rw [eZ]; exact Below.al (Below.refl _ _) _
        have OWZ : Hid (Z.ownsRow y.it.heap.size 41 3 u8 vs.length (vs.flatMap valC)) := Lib.hid (own_to OW.out Zb)
        have Z0 : Z.cell? ⟨x.it.heap.size, 0, none⟩ = some (.bool false) := by rw [eZ]; simp (maxDischargeDepth := 9) [go_sem, *]
        have Z1 : Z.cell? ⟨x.it.heap.size, 1, none⟩ = some (.int .i64 ui) := by rw [eZ]; simp (maxDischargeDepth := 9) [go_sem, *]
        have Z2 : Z.cell? ⟨x.it.heap.size, 2, none⟩ = some (.string us) := by rw [eZ]; simp (maxDischargeDepth := 9) [go_sem, *]
        have zZ : x.it.heap.size < Z.heap.size := by rw [eZ]; simp
        have ZBY : Hid (Below y.it.heap.size y.it Z) := Lib.hid (Below.to x.below Zb)
        have ZBW : Hid (Below w.heap.size w Z) := Lib.hid (Below.to yb ZBY.out)
        have zwZ := ZBW.out.size
        have zyZ := ZBY.out.size
        have HAA : w.heap.size + 1 < y.it.heap.size := by have := HA.out; omega
        clear eZ Zb
        go_wp2_with (at_builtin; go_must (refine wpList_append_lies _ rfl _ _ 42 rfl y.it.heap.size 41 i0 _ 3 32 Tryz.underlying42 hi hz0 hz1 hz2 rfl (by decide) u8 vs.length (vs.flatMap valC) rfl (OWZ.out.alloc _) ⟨Z.heap.size, 0, none⟩ 1 1 (valC ⟨false, ui, us⟩) rfl rfl (World.news_of_block (heap_alloc_new Z _)) (by simp [valC, Value.oneCell']) (by omega) (by unfold maxLen; omega) (by omega) (by simp; omega) (Z.heap.size + 1) (by simp) ?_); intro gb cap w4 hown hgrow hat hlt4; go_must (have MS := Lib.hid (And.intro hown (show Below y.it.heap.size y.it w4 from Below.gr (Below.al ZBY.out _) OWZ.out hgrow))); clear hown hgrow hat hlt4)
        go_roundg (gk - 1)
        case measure => have := HK.out; omega
        case rel => exact ⟨k + 1, by have := HK.out; omega, by go_num, ⟨_, MS.out.2⟩, rfl, by rw [SO.out, List.flatMap_append, List.length_append]; exact MS.out.1⟩
end Go.Proofs.YtpahoenanfjhpaaGreat
