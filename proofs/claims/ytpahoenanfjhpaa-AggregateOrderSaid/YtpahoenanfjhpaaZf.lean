/-
  CHAPTER 26: Evl, Ofc, Evr, Evw, Ckr (several texts in one). Conditions: each theorem states its own.
-/
import Derived.Test.YtpahoenanfjhpaaZe
import Derived.Deep.MidRow
set_option linter.unusedVariables false
set_option linter.unusedSimpArgs false
namespace Go.Proofs.Ytpahoenanfjhpaa
open Go.RowKit
def T3 (a : Int) : Prop := a = 0 ∨ a = 1 ∨ a = 2
def notT (a : Int) : Int := if a = 2 then 2 else 1 - a
def andT (a b : Int) : Int := if a = 0 ∨ b = 0 then 0 else if a = 1 ∧ b = 1 then 1 else 2
def orT (a b : Int) : Int := notT (andT (notT a) (notT b))
def b2t (b : Bool) : Int := if b = true then 1 else 0
def holdsB (op k : Int) : Bool := if op = 1 then decide (k = 0) else if op = 2 then !decide (k = 0) else if op = 3 then decide (k < 0) else if op = 4 then decide (k ≤ 0) else if op = 5 then decide (0 < k) else decide (0 ≤ k)
theorem notT_3 {a : Int} (h : T3 a) : T3 (notT a) := by rcases h with rfl | rfl | rfl <;> simp [T3, notT]
theorem andT_3 {a b : Int} (h : T3 a) (k : T3 b) : T3 (andT a b) := by rcases h with rfl | rfl | rfl <;> rcases k with rfl | rfl | rfl <;> simp [T3, andT]
theorem orT_3 {a b : Int} (h : T3 a) (k : T3 b) : T3 (orT a b) := notT_3 (andT_3 (notT_3 h) (notT_3 k))
theorem b2t_3 (b : Bool) : T3 (b2t b) := by cases b <;> simp [T3, b2t]
set_option maxHeartbeats 400000 in
theorem not3_any {a : Int} (h : T3 a) (w : World) : Calls Try.prog 52 #[.int .i64 a] w fun e w' => e = .returned (.int .i64 (notT a)) ∧ Below w.heap.size w w' := by
  rcases h with rfl | rfl | rfl
  all_goals
    go_enter Try.func52, Try.ntmps52
    go_wp2
    go_ret
    exact ⟨rfl, Below.refl _ _⟩
set_option maxHeartbeats 1000000 in
theorem and3_any {a b : Int} (h : T3 a) (k : T3 b) (w : World) : Calls Try.prog 50 #[.int .i64 a, .int .i64 b] w fun e w' => e = .returned (.int .i64 (andT a b)) ∧ Below w.heap.size w w' := by
  rcases h with rfl | rfl | rfl <;> rcases k with rfl | rfl | rfl
  all_goals
    go_enter Try.func50, Try.ntmps50
    go_wp2
    go_ret
    exact ⟨rfl, Below.refl _ _⟩
set_option maxHeartbeats 1000000 in
theorem or3_any {a b : Int} (h : T3 a) (k : T3 b) (w : World) : Calls Try.prog 51 #[.int .i64 a, .int .i64 b] w fun e w' => e = .returned (.int .i64 (orT a b)) ∧ Below w.heap.size w w' := by
  have H := Lib.hid (And.intro h k)
  clear h k
  go_enter Try.func51, Try.ntmps51
  go_wp2_with (first | (go_at_call 50; refine Calls.mono (and3_any (notT_3 H.out.1) (notT_3 H.out.2) _) ?_; rintro e w3 ⟨rfl, hb3⟩; obtain ⟨x3, rfl⟩ := Ext.of hb3) | (go_at_call 52; (with_reducible refine Calls.mono (not3_any H.out.1 _) ?_); rintro e w1 ⟨rfl, hb1⟩; obtain ⟨x1, rfl⟩ := Ext.of hb1) | (go_at_call 52; (with_reducible refine Calls.mono (not3_any H.out.2 _) ?_); rintro e w2 ⟨rfl, hb2⟩; obtain ⟨x2, rfl⟩ := Ext.of hb2) | (go_at_call 52; (with_reducible refine Calls.mono (not3_any (andT_3 (notT_3 H.out.1) (notT_3 H.out.2)) _) ?_); rintro e w4 ⟨rfl, hb4⟩; obtain ⟨x4, rfl⟩ := Ext.of hb4))
  exact bodyPost_ret (v := .int .i64 (notT (andT (notT a) (notT b)))) (by simp [results, Try.results51, go_sem, *]) rfl (⟨rfl, by repeat (first | with_reducible exact Below.refl _ _ | with_reducible assumption | with_reducible refine Below.al ?_ _ | with_reducible refine Below.on ?_ _ | with_reducible refine Below.st ?_ (by first | assumption | (simp; done) | (simp; omega)) _ | with_reducible refine Below.drew ?_)⟩)
set_option maxHeartbeats 400000 in
theorem truth_any (b : Bool) (w : World) : Calls Try.prog 70 #[.bool b] w fun e w' => e = .returned (.int .i64 (b2t b)) ∧ Below w.heap.size w w' := by
  cases b
  all_goals
    go_enter Try.func70, Try.ntmps70
    go_wp2
    go_ret
    exact ⟨rfl, Below.refl _ _⟩
theorem op6 {op : Int} (h1 : 1 ≤ op) (h6 : op ≤ 6) : op = 1 ∨ op = 2 ∨ op = 3 ∨ op = 4 ∨ op = 5 ∨ op = 6 := by omega
theorem cmpV_3 (t : Int) (x y : Val) : cmpV t x y = -1 ∨ cmpV t x y = 0 ∨ cmpV t x y = 1 := by
  unfold cmpV cmpS cmpI
  repeat (first | split | simp)
set_option maxHeartbeats 4000000 in
theorem holds_any {op k : Int} (h1 : 1 ≤ op) (h6 : op ≤ 6) (hk : k = -1 ∨ k = 0 ∨ k = 1) (w : World) : Calls Try.prog 71 #[.int .i64 op, .int .i64 k] w fun e w' => e = .returned (.bool (holdsB op k)) ∧ Below w.heap.size w w' := by
  rcases op6 h1 h6 with rfl | rfl | rfl | rfl | rfl | rfl <;> rcases hk with rfl | rfl | rfl
  all_goals
    clear h1 h6
    go_enter Try.func71, Try.ntmps71
    go_wp2
    go_ret
    exact ⟨rfl, Below.refl _ _⟩
/-- among: whether a value is found, and whether there is a null value, behind what is known so far. -/
def amongF (ty : Int) (x : Val) : List Val → Bool × Bool → Bool × Bool
  | [], a => a
  | v :: r, a => amongF ty x r (a.1 || (!v.null && decide (cmpV ty x v = 0)), a.2 || v.null)
theorem amongF_step {ty : Int} {x : Val} {ls : List Val} {k : Nat} (h : k < ls.length) {f n : Bool} : amongF ty x (ls.drop k) (f, n) = amongF ty x (ls.drop (k + 1)) (f || (!(ls[k]'h).null && decide (cmpV ty x (ls[k]'h) = 0)), n || (ls[k]'h).null) := by
  rw [List.drop_eq_getElem_cons h]; rfl
set_option maxRecDepth 8000 in
set_option maxHeartbeats 4000000 in
theorem among_any (ty : Int) (xn : Bool) (xi : Int) (xs : ByteArray) (lv : Value) (ls : List Val) (w : World) (hv : ValsAt w w.heap.size lv ls) :
    Calls Try.prog 73 #[.int .i64 ty, .agg #[.bool xn, .int .i64 xi, .string xs], lv] w fun e w' => e = .returned (.tuple #[.bool (amongF ty ⟨xn, xi, xs⟩ ls (false, false)).1, .bool (amongF ty ⟨xn, xi, xs⟩ ls (false, false)).2]) ∧ Below w.heap.size w w' := by
  have hm63 := hv.1
  obtain ⟨la, lc, rfl⟩ := vals_end hv
  obtain ⟨m, hm⟩ : ∃ m, ls.length = m := ⟨_, rfl⟩
  have HV : Hid (ValsAt w w.heap.size (.slice la m lc) ls) := Lib.hid (by rw [← hm]; exact hv)
  have HM := Lib.hid hm
  rw [hm] at hm63 ⊢
  clear hv hm
  obtain ⟨R, hR⟩ : ∃ R, amongF ty ⟨xn, xi, xs⟩ ls (false, false) = R := ⟨_, rfl⟩
  rw [hR]
  have HR := Lib.hid hR
  clear hR
  go_enter Try.func73, Try.ntmps73
  go_wp2_with fail
  go_loopg [8, 9, 14] m (fun g f n i wr => ∃ (k : Nat) (fb nb : Bool), k + g = m ∧ i = .int .i64 (k : Int) ∧ f = .bool fb ∧ n = .bool nb ∧ amongF ty ⟨xn, xi, xs⟩ (ls.drop k) (fb, nb) = R ∧ ∃ x : Ext (w.alloc (.cells #[.bool xn, .int .i64 xi, .string xs] 40)), x.it = wr)
  case atStart => exact ⟨0, false, false, by omega, rfl, rfl, rfl, by simpa using HR.out, ext_of (Below.refl _ _)⟩
  case round =>
    obtain ⟨k, fb, nb, hk, rfl, rfl, rfl, hF, x, rfl⟩ := hrel
    have hx1 := x.below
    have hx : Below w.heap.size w x.it := Below.on (Below.al (Below.refl _ _) _) x
    by_cases hg0 : gk = 0
    · subst hg0
      obtain rfl : k = m := by omega
      obtain rfl : (fb, nb) = R := by rw [← hF, List.drop_of_length_le (by rw [HM.out]; exact Nat.le_refl _)]; rfl
      clear hF hk
      go_wp2
      refine bodyPost_ret (v := .tuple #[.bool fb, .bool nb]) (by simp [results, Try.results73, go_sem, *]) rfl ⟨rfl, by repeat (first | with_reducible exact Below.refl _ _ | with_reducible assumption | with_reducible refine Below.al ?_ _ | with_reducible refine Below.on ?_ _ | with_reducible refine Below.st ?_ (by first | assumption | (simp; done) | (simp; omega)) _ | with_reducible refine Below.drew ?_)⟩
    · have hkm : k < m := by omega
      have hkm' : (k : Int) < (m : Int) := by omega
      have hkl : k < ls.length := by rw [HM.out]; exact hkm
      obtain ⟨b, o, rfl, _, hb, c0, c1, c2⟩ := vals_in HV.out hkl
      rw [amongF_step hkl] at hF
      obtain ⟨u, hu⟩ : ∃ u, ls[k]'hkl = u := ⟨_, rfl⟩
      rw [hu] at hF c0 c1 c2
      obtain ⟨un, ui, us⟩ := u
      dsimp only at hF c0 c1 c2
      have f0 := (hx.cell (p := ⟨b, o + k * 3, none⟩) hb).trans c0
      have f1 := (hx.cell (p := ⟨b, o + k * 3 + 1, none⟩) hb).trans c1
      have f2 := (hx.cell (p := ⟨b, o + k * 3 + 2, none⟩) hb).trans c2
      have b0 : x.it.cell? ⟨w.heap.size, 0, none⟩ = some (.bool xn) := (x.cell w.heap.size 0 (by simp)).trans (by simp [go_sem])
      have b1 : x.it.cell? ⟨w.heap.size, 1, none⟩ = some (.int .i64 xi) := (x.cell w.heap.size 1 (by simp)).trans (by simp [go_sem])
      have b2 : x.it.cell? ⟨w.heap.size, 2, none⟩ = some (.string xs) := (x.cell w.heap.size 2 (by simp)).trans (by simp [go_sem])
      have zb : b < x.it.heap.size := Nat.lt_of_lt_of_le hb hx.size
      have zw : w.heap.size < x.it.heap.size := x.lt (by simp)
      have HK := Lib.hid (And.intro hk hg0)
      obtain ⟨cv, hcv⟩ : ∃ cv, cmpV ty ⟨xn, xi, xs⟩ ⟨un, ui, us⟩ = cv := ⟨_, rfl⟩
      rw [hcv] at hF
      have HF := Lib.hid hF
      have HCV := Lib.hid hcv
      clear c0 c1 c2 hu hk hg0 hF hcv
      have CMP := Lib.hid (fun W => (by have h := refCompare_any ty xn xi xs un ui us W; rw [HCV.out] at h; exact h : Calls Try.prog 72 #[.int .i64 ty, .agg #[.bool xn, .int .i64 xi, .string xs], .agg #[.bool un, .int .i64 ui, .string us]] W fun e w' => e = .returned (.int .i64 cv) ∧ Below W.heap.size W w'))
      clear HCV
      by_cases hc0 : cv = 0
      · subst hc0
        cases fb <;> cases nb <;> cases un
        all_goals
          go_wp2_with (go_at_call 72; refine Calls.mono (CMP.out _) ?_; rintro e w3 ⟨rfl, hb3⟩; obtain ⟨x3, rfl⟩ := Ext.of hb3)
          go_roundg (gk - 1)
          case measure => have := HK.out; omega
          case rel => exact ⟨k + 1, _, _, by have := HK.out; omega, by go_num, rfl, rfl, HF.out, ext_of (by repeat (first | with_reducible exact Below.refl _ _ | with_reducible assumption | with_reducible refine Below.al ?_ _ | with_reducible refine Below.on ?_ _ | with_reducible refine Below.st ?_ (by first | assumption | (simp; done) | (simp; omega)) _ | with_reducible refine Below.drew ?_))⟩
      · have hc1 : (cv == 0) = false := by simpa using hc0
        have HF2 : Hid (amongF ty ⟨xn, xi, xs⟩ (ls.drop (k + 1)) (fb || (!un && false), nb || un) = R) := Lib.hid (by have := HF.out; rw [decide_eq_false hc0] at this; exact this)
        clear HF
        cases fb <;> cases nb <;> cases un
        all_goals
          go_wp2_with (go_at_call 72; refine Calls.mono (CMP.out _) ?_; rintro e w3 ⟨rfl, hb3⟩; obtain ⟨x3, rfl⟩ := Ext.of hb3)
          go_roundg (gk - 1)
          case measure => have := HK.out; omega
          case rel => exact ⟨k + 1, _, _, by have := HK.out; omega, by go_num, rfl, rfl, HF2.out, ext_of (by repeat (first | with_reducible exact Below.refl _ _ | with_reducible assumption | with_reducible refine Below.al ?_ _ | with_reducible refine Below.on ?_ _ | with_reducible refine Below.st ?_ (by first | assumption | (simp; done) | (simp; omega)) _ | with_reducible refine Below.drew ?_))⟩
end Go.Proofs.Ytpahoenanfjhpaa
namespace Go.Proofs.Ytpahoenanfjhpaa
open Go.RowKit
theorem there_new {w : World} (c : Array Value) (t : TypeId) (n : Nat) (hn : n = w.heap.size) : (w.alloc (.cells c t)).there n 0 c.size := by
  intro j hj
  subst hn
  rw [World.cell?_alloc_at _ _ _ _ rfl, World.frozen?_alloc_at _ _ _ _ rfl]
  exact ⟨by simp [hj], rfl⟩
theorem nodsE_all {cs : List Col} : ∀ (ns : List Nod) (i : Int), nodsE cs i ns = 0 → ∀ j (h : j < ns.length), nodE cs (i + j) (ns[j]'h) = 0
  | [], _, _, j, h => absurd h (by simp)
  | d :: r, i, h0, j, h => by
    simp only [nodsE] at h0
    by_cases e : nodE cs i d = 0
    · rw [if_pos e] at h0
      cases j with
      | zero => simpa using e
      | succ j =>
        have := nodsE_all r (i + 1) h0 j (by simpa using h)
        rw [show i + ((j + 1 : Nat) : Int) = i + 1 + (j : Int) by omega]
        simpa using this
    · rw [if_neg e] at h0; exact absurd h0 e
theorem predF_all {cs : List Col} {key : Int} {ns : List Nod} (h : predF cs key ns = 0) : ns.length ≤ 64 ∧ ∀ j (hj : j < ns.length), nodE cs j (ns[j]'hj) = 0 := by
  unfold predF at h
  split at h
  · split at h
    · omega
    · rename_i h64
      refine ⟨by omega, fun j hj => ?_⟩
      have := nodsE_all ns 0 h j hj
      simpa using this
  · rename_i h0; exact absurd h h0
theorem nodE_ok {cs : List Col} {i : Int} {d : Nod} (h : nodE cs i d = 0) : 1 ≤ d.op ∧ d.op ≤ 11 ∧ (9 ≤ d.op → 0 ≤ d.a ∧ d.a < i) ∧ (9 ≤ d.op → ¬ d.op = 11 → 0 ≤ d.b ∧ d.b < i) := by
  unfold nodE at h
  split at h
  · omega
  · rename_i h0
    by_cases h9 : 9 ≤ d.op
    · rw [if_pos h9] at h
      split at h
      · omega
      · rename_i h1
        exact ⟨by omega, by omega, fun _ => by omega, fun _ _ => by omega⟩
    · exact ⟨by omega, by omega, fun q => absurd q h9, fun q => absurd q h9⟩
end Go.Proofs.Ytpahoenanfjhpaa
namespace Go.Proofs.Ytpahoenanfjhpaa
open Go.RowKit
def leafT (ty : Int) (d : Nod) (v : Val) : Int :=
  if d.op = 8 then b2t v.null else if v.null = true then 2 else if d.op ≤ 6 then b2t (holdsB d.op (cmpV ty v d.v)) else
  if (!(amongF ty v d.ls (false, false)).1 && (amongF ty v d.ls (false, false)).2) = true then 2 else b2t (amongF ty v d.ls (false, false)).1
theorem leafT_3 (ty : Int) (d : Nod) (v : Val) : T3 (leafT ty d v) := by
  unfold leafT
  repeat (first | split | exact b2t_3 _ | exact .inr (.inr rfl))
theorem leafT_in {ty : Int} {d : Nod} {v : Val} {fb nb : Bool} (h8 : ¬ d.op = 8) (h6 : ¬ d.op ≤ 6) (hv : v.null = false) (hf : amongF ty v d.ls (false, false) = (fb, nb)) : leafT ty d v = if (!fb && nb) = true then 2 else b2t fb := by
  unfold leafT
  rw [if_neg h8, hv, if_neg (by simp), if_neg h6, hf]
set_option maxRecDepth 8000 in
set_option maxHeartbeats 4000000 in
theorem leafTruth_any (cv : Value) (cs : List Col) (key : Int) (K : Nat) (op : Int) (vn : Bool) (n : Int) (s : ByteArray) (lv : Value) (ls : List Val) (a b : Int) (xn : Bool) (xi : Int) (xs : ByteArray) (w : World) (hc : ColsAt w w.heap.size cv cs) (hv : ValsAt w w.heap.size lv ls) (hK : K < cs.length) (h1 : 1 ≤ op) (h8 : op ≤ 8) :
    Calls Try.prog 53 #[.agg #[cv, .int .i64 key], .agg #[.int .i64 op, .int .i64 (K : Int), .bool vn, .int .i64 n, .string s, lv, .int .i64 a, .int .i64 b], .agg #[.bool xn, .int .i64 xi, .string xs]] w fun e w' => e = .returned (.int .i64 (leafT (cs[K]'hK).ty ⟨op, K, ⟨vn, n, s⟩, ls, a, b⟩ ⟨xn, xi, xs⟩)) ∧ Below w.heap.size w w' := by
  obtain ⟨ca, cc, rfl⟩ := cols_end hc
  obtain ⟨la, lc, rfl⟩ := vals_end hv
  obtain ⟨nc, hl⟩ : ∃ nc, cs.length = nc := ⟨_, rfl⟩
  obtain ⟨m, hm⟩ : ∃ m, ls.length = m := ⟨_, rfl⟩
  have hc' : ColsAt w w.heap.size (.slice ca nc cc) cs := (by rw [← hl]; exact hc)
  have HV : Hid (ValsAt w w.heap.size (.slice la m lc) ls) := Lib.hid (by rw [← hm]; exact hv)
  rw [hl, hm]
  obtain ⟨cb, co, rfl, _, hcb, c0, c1, c2, c3⟩ := cols_in hc' hK
  obtain ⟨ty, hty⟩ : ∃ ty, (cs[K]'hK).ty = ty := ⟨_, rfl⟩
  rw [hty] at c1 ⊢
  have cl' : (K : Int) < (nc : Int) := by omega
  obtain ⟨R, hR⟩ : ∃ R, leafT ty ⟨op, K, ⟨vn, n, s⟩, ls, a, b⟩ ⟨xn, xi, xs⟩ = R := ⟨_, rfl⟩
  rw [hR]
  have HR := Lib.hid hR
  clear hR hc hc' hv hl hm hty c0 c2 c3
  go_enter Try.func53, Try.ntmps53
  go_upto_region 1 with fail
  refine captureP ?_
  intro y ey
  have n0 : y.it.cell? ⟨w.heap.size + 1, 0, none⟩ = some (.int .i64 op) := by rw [ey]; simp (maxDischargeDepth := 9) [go_sem, *]
  have n1 : y.it.cell? ⟨w.heap.size + 1, 1, none⟩ = some (.int .i64 (K : Int)) := by rw [ey]; simp (maxDischargeDepth := 9) [go_sem, *]
  have b0 : y.it.cell? ⟨w.heap.size, 0, none⟩ = some (.slice (some ⟨cb, co, none⟩) nc cc) := by rw [ey]; simp (maxDischargeDepth := 9) [go_sem, *]
  have n2 : y.it.cell? ⟨w.heap.size + 1, 2, none⟩ = some (.bool vn) := by rw [ey]; simp (maxDischargeDepth := 9) [go_sem, *]
  have n3 : y.it.cell? ⟨w.heap.size + 1, 3, none⟩ = some (.int .i64 n) := by rw [ey]; simp (maxDischargeDepth := 9) [go_sem, *]
  have n4 : y.it.cell? ⟨w.heap.size + 1, 4, none⟩ = some (.string s) := by rw [ey]; simp (maxDischargeDepth := 9) [go_sem, *]
  have n5 : y.it.cell? ⟨w.heap.size + 1, 5, none⟩ = some (.slice la m lc) := by rw [ey]; simp (maxDischargeDepth := 9) [go_sem, *]
  have x0 : y.it.cell? ⟨w.heap.size + 1 + 1, 0, none⟩ = some (.bool xn) := by rw [ey]; simp (maxDischargeDepth := 9) [go_sem, *]
  have x1 : y.it.cell? ⟨w.heap.size + 1 + 1, 1, none⟩ = some (.int .i64 xi) := by rw [ey]; simp (maxDischargeDepth := 9) [go_sem, *]
  have x2 : y.it.cell? ⟨w.heap.size + 1 + 1, 2, none⟩ = some (.string xs) := by rw [ey]; simp (maxDischargeDepth := 9) [go_sem, *]
  have z2 : w.heap.size + 1 + 1 < y.it.heap.size := by rw [ey]; simp
  have z1 : w.heap.size + 1 < y.it.heap.size := by omega
  have yb : Below w.heap.size w y.it := by rw [ey]; exact (by repeat (first | with_reducible exact Below.refl _ _ | with_reducible assumption | with_reducible refine Below.al ?_ _ | with_reducible refine Below.on ?_ _ | with_reducible refine Below.st ?_ (by first | assumption | (simp; done) | (simp; omega)) _ | with_reducible refine Below.drew ?_))
  have HVy := Lib.hid (HV.out.mono yb yb.size)
  have f1 := (yb.cell (p := ⟨cb, co + K * 4 + 1, none⟩) hcb).trans c1
  have z0 : cb < y.it.heap.size := by omega
  clear ey c1
  go_upto_region 2 with fail
  by_cases o8 : op = 8
  · subst o8
    obtain rfl : b2t xn = R := by rw [← HR.out]; unfold leafT; rw [if_pos rfl]
    go_wp2_with (go_at_call 70; refine Calls.mono (truth_any _ _) ?_; rintro e w3 ⟨rfl, hb3⟩; obtain ⟨x3, rfl⟩ := Ext.of hb3)
    exact bodyPost_ret (v := .int .i64 (b2t xn)) (by simp [results, Try.results53, go_sem, *]) rfl (⟨rfl, by repeat (first | with_reducible exact Below.refl _ _ | with_reducible assumption | with_reducible refine Below.al ?_ _ | with_reducible refine Below.on ?_ _ | with_reducible refine Below.st ?_ (by first | assumption | (simp; done) | (simp; omega)) _ | with_reducible refine Below.drew ?_)⟩)
  have q8 : (op == 8) = false := by simpa using o8
  cases xn with
  | true =>
    obtain rfl : 2 = R := by rw [← HR.out]; unfold leafT; rw [if_neg (by exact o8), if_pos rfl]
    go_wp2
    exact bodyPost_ret (v := .int .i64 2) (by simp [results, Try.results53, go_sem, *]) rfl (⟨rfl, by repeat (first | with_reducible exact Below.refl _ _ | with_reducible assumption | with_reducible refine Below.al ?_ _ | with_reducible refine Below.on ?_ _ | with_reducible refine Below.st ?_ (by first | assumption | (simp; done) | (simp; omega)) _ | with_reducible refine Below.drew ?_)⟩)
  | false =>
    by_cases o6 : op ≤ 6
    · obtain rfl : b2t (holdsB op (cmpV ty ⟨false, xi, xs⟩ ⟨vn, n, s⟩)) = R := by rw [← HR.out]; unfold leafT; rw [if_neg (by exact o8), if_neg (by simp), if_pos (by exact o6)]
      have tc : (decide (1 ≤ op) && decide (op ≤ 6)) = true := by rw [decide_eq_true h1, decide_eq_true o6]; rfl
      have H6 := Lib.hid (And.intro h1 o6)
      go_upto_region 7 with (go_at_call 68; refine (comparisonB_any _ _).mono ?_; rintro e w3 ⟨rfl, hb3⟩; obtain ⟨x3, rfl⟩ := Ext.of hb3; have v1 := x3.lt z1; have v2 := x3.lt z2)
      refine wp_region_ext (by kernel_rfl) (by kernel_rfl) ?_
      repeat (go_big_quiet_step ((first | (go_at_call 72; exact Calls.ext (refCompare_any _ _ _ _ _ _ _ _)) | (go_at_call 71; exact Calls.ext (holds_any H6.out.1 H6.out.2 (cmpV_3 _ _ _) _)) | (go_at_call 70; exact Calls.ext (truth_any _ _)))))
      refine wpQuiet_nil ?_
      rintro _ ⟨x4, rfl⟩
      go_wp2
      exact bodyPost_ret (v := .int .i64 (b2t (holdsB op (cmpV ty ⟨false, xi, xs⟩ ⟨vn, n, s⟩)))) (by simp [results, Try.results53, go_sem, *]) rfl (⟨rfl, by repeat (first | with_reducible exact Below.refl _ _ | with_reducible assumption | with_reducible refine Below.al ?_ _ | with_reducible refine Below.on ?_ _ | with_reducible refine Below.st ?_ (by first | assumption | (simp; done) | (simp; omega)) _ | with_reducible refine Below.drew ?_)⟩)
    · have tc : (decide (1 ≤ op) && decide (op ≤ 6)) = false := by rw [Bool.and_eq_false_iff]; exact .inr (decide_eq_false o6)
      obtain ⟨fb, nb, hfn⟩ : ∃ fb nb, amongF ty ⟨false, xi, xs⟩ ls (false, false) = (fb, nb) := ⟨_, _, rfl⟩
      have HF := Lib.hid hfn
      have HRR : (if (!fb && nb) = true then 2 else b2t fb) = R := by rw [← HR.out]; exact (leafT_in (d := ⟨op, K, ⟨vn, n, s⟩, ls, a, b⟩) o8 o6 rfl hfn).symm
      have HRR' := Lib.hid HRR
      clear hfn HRR
      go_upto_region 9 with (first | (go_at_call 68; refine (comparisonB_any _ _).mono ?_; rintro e w3 ⟨rfl, hb3⟩; obtain ⟨x3, rfl⟩ := Ext.of hb3; have v1 := x3.lt z1; have v2 := x3.lt z2; have HVx := Lib.hid (HVy.out.mono hb3 hb3.size)) | (go_at_call 73; refine Calls.mono (among_any ty false xi xs (.slice la m lc) ls _ HVx.out) ?_; rintro e w4 ⟨rfl, hb4⟩; rw [HF.out]; obtain ⟨x4, rfl⟩ := Ext.of hb4))
      cases fb <;> cases nb
      all_goals
        first | (obtain rfl : 2 = R := HRR'.out) | (obtain rfl : b2t false = R := HRR'.out) | (obtain rfl : b2t true = R := HRR'.out)
        go_wp2_with (go_at_call 70; refine Calls.mono (truth_any _ _) ?_; rintro e w5 ⟨rfl, hb5⟩; obtain ⟨x5, rfl⟩ := Ext.of hb5)
      exact bodyPost_ret (v := .int .i64 (b2t false)) (by simp [results, Try.results53, go_sem, *]) rfl (⟨rfl, by repeat (first | with_reducible exact Below.refl _ _ | with_reducible assumption | with_reducible refine Below.al ?_ _ | with_reducible refine Below.on ?_ _ | with_reducible refine Below.st ?_ (by first | assumption | (simp; done) | (simp; omega)) _ | with_reducible refine Below.drew ?_)⟩)
      exact bodyPost_ret (v := .int .i64 2) (by simp [results, Try.results53, go_sem, *]) rfl (⟨rfl, by repeat (first | with_reducible exact Below.refl _ _ | with_reducible assumption | with_reducible refine Below.al ?_ _ | with_reducible refine Below.on ?_ _ | with_reducible refine Below.st ?_ (by first | assumption | (simp; done) | (simp; omega)) _ | with_reducible refine Below.drew ?_)⟩)
      exact bodyPost_ret (v := .int .i64 (b2t true)) (by simp [results, Try.results53, go_sem, *]) rfl (⟨rfl, by repeat (first | with_reducible exact Below.refl _ _ | with_reducible assumption | with_reducible refine Below.al ?_ _ | with_reducible refine Below.on ?_ _ | with_reducible refine Below.st ?_ (by first | assumption | (simp; done) | (simp; omega)) _ | with_reducible refine Below.drew ?_)⟩)
      exact bodyPost_ret (v := .int .i64 (b2t true)) (by simp [results, Try.results53, go_sem, *]) rfl (⟨rfl, by repeat (first | with_reducible exact Below.refl _ _ | with_reducible assumption | with_reducible refine Below.al ?_ _ | with_reducible refine Below.on ?_ _ | with_reducible refine Below.st ?_ (by first | assumption | (simp; done) | (simp; omega)) _ | with_reducible refine Below.drew ?_)⟩)
end Go.Proofs.Ytpahoenanfjhpaa
namespace Go.Proofs.Ytpahoenanfjhpaa
open Go.RowKit
def colTy (cs : List Col) (col : Int) : Int := match cs[col.toNat]? with
  | some c => c.ty
  | none => 0
def stepT (cs : List Col) (row : List Val) (acc : List Int) (d : Nod) : Int :=
  if d.op = 9 then andT (acc.getD d.a.toNat 0) (acc.getD d.b.toNat 0) else if d.op = 10 then orT (acc.getD d.a.toNat 0) (acc.getD d.b.toNat 0) else if d.op = 11 then notT (acc.getD d.a.toNat 0) else leafT (colTy cs d.col) d (row.getD d.col.toNat Val.zero)
def accT (cs : List Col) (row : List Val) (l : List Nod) : List Int := l.foldl (fun acc d => acc ++ [stepT cs row acc d]) []
def evalF (cs : List Col) (row : List Val) (l : List Nod) : Int := match (accT cs row l).getLast? with
  | some t => t
  | none => 1
theorem accT_succ (cs : List Col) (row : List Val) {l : List Nod} {k : Nat} (h : k < l.length) : accT cs row (l.take (k + 1)) = accT cs row (l.take k) ++ [stepT cs row (accT cs row (l.take k)) (l[k]'h)] := by
  unfold accT
  rw [List.take_succ_eq_append_getElem h, List.foldl_append]
  rfl
theorem accT_len (cs : List Col) (row : List Val) (l : List Nod) : (accT cs row l).length = l.length := by
  unfold accT
  suffices h : ∀ (l : List Nod) (a : List Int), (l.foldl (fun acc d => acc ++ [stepT cs row acc d]) a).length = a.length + l.length by simpa using h l []
  intro l
  induction l with
  | nil => intro a; rfl
  | cons d r ih => intro a; rw [List.foldl_cons, ih]; simp; omega
theorem getD_3 {acc : List Int} (h : ∀ a ∈ acc, T3 a) (i : Nat) : T3 (acc.getD i 0) := by
  rw [List.getD_eq_getElem?_getD]
  rcases Nat.lt_or_ge i acc.length with q | q
  · rw [List.getElem?_eq_getElem q]; exact h _ (List.getElem_mem q)
  · rw [List.getElem?_eq_none q]; exact .inl rfl
theorem stepT_3 (cs : List Col) (row : List Val) {acc : List Int} (h : ∀ a ∈ acc, T3 a) (d : Nod) : T3 (stepT cs row acc d) := by
  unfold stepT
  split
  · exact andT_3 (getD_3 h _) (getD_3 h _)
  · split
    · exact orT_3 (getD_3 h _) (getD_3 h _)
    · split
      · exact notT_3 (getD_3 h _)
      · exact leafT_3 _ _ _
theorem nodE_leaf {cs : List Col} {i : Int} {d : Nod} (h : nodE cs i d = 0) (h9 : ¬ 9 ≤ d.op) : 0 ≤ d.col ∧ d.col < cs.length := by
  unfold nodE at h
  split at h
  · exact absurd h (by decide)
  · split at h
    · exact absurd h (by decide)
    · omega
/-- The truth values so far, in the block TB. -/
structure EvMem (w : World) (TB m : Nat) (acc : List Int) : Prop where
  lt : TB < w.heap.size
  len : acc.length ≤ m
  th : ∀ j, j < m → (∃ u, w.cell? ⟨TB, j, none⟩ = some u) ∧ w.frozen? ⟨TB, j, none⟩ = false
  lv : ∀ j (h : j < acc.length), w.cell? ⟨TB, j, none⟩ = some (.int .i64 (acc[j]'h))
  t3 : ∀ a ∈ acc, T3 a
theorem EvMem.to {w w' : World} {TB m : Nat} {acc : List Int} (h : EvMem w TB m acc) (hb : Below w.heap.size w w') : EvMem w' TB m acc :=
  ⟨Nat.lt_of_lt_of_le h.lt hb.size, h.len, fun j hj => ⟨(h.th j hj).1.imp fun u hu => (hb.cell (p := ⟨TB, j, none⟩) h.lt).trans hu, (hb.frozen (p := ⟨TB, j, none⟩) h.lt).trans (h.th j hj).2⟩, fun j hj => (hb.cell (p := ⟨TB, j, none⟩) h.lt).trans (h.lv j hj), h.t3⟩
theorem EvMem.step {w : World} {TB m k : Nat} {acc : List Int} (h : EvMem w TB m acc) (hk : acc.length = k) (hm : k < m) {t : Int} (ht : T3 t) : EvMem (w.setCell ⟨TB, k, none⟩ (.int .i64 t)) TB m (acc ++ [t]) := by
  obtain ⟨⟨u, hu⟩, hf⟩ := h.th k hm
  have same : (w.setCell ⟨TB, k, none⟩ (.int .i64 t)).cell? ⟨TB, k, none⟩ = some (.int .i64 t) := World.cell?_setCell_same _ _ _ hu
  have other : ∀ j, j ≠ k → (w.setCell ⟨TB, k, none⟩ (.int .i64 t)).cell? ⟨TB, j, none⟩ = w.cell? ⟨TB, j, none⟩ := fun j hj => World.cell?_setCell_other _ _ _ _ (by intro e; injection e with _ e; exact hj e.symm)
  refine ⟨by simpa [World.setCell] using h.lt, by simp; omega, fun j hj => ⟨?_, by rw [World.frozen?_setCell]; exact (h.th j hj).2⟩, fun j hj => ?_, ?_⟩
  · by_cases e : j = k
    · subst e; exact ⟨_, same⟩
    · rw [other j e]; exact (h.th j hj).1
  · rcases Nat.lt_or_ge j acc.length with q | q
    · rw [other j (by omega), List.getElem_append_left q]; exact h.lv j q
    · obtain rfl : j = acc.length := by simp at hj; omega
      subst hk
      rw [same]; simp
  · intro a ha
    rcases List.mem_append.1 ha with q | q
    · exact h.t3 a q
    · rw [List.mem_singleton.1 q]; exact ht
theorem ExtC.of_set {w v : World} {TB m k : Nat} {acc : List Int} {u : Value} {ca : Option Addr} {nc cc : Nat} {key : Int} (hb : Below w.heap.size w v) (hT : w.heap.size ≤ TB) (h : EvMem (v.setCell ⟨TB, k, none⟩ u) TB m acc) (h0 : v.cell? ⟨w.heap.size, 0, none⟩ = some (.slice ca nc cc)) (h1 : v.cell? ⟨w.heap.size, 1, none⟩ = some (.int .i64 key)) (hn : w.heap.size ≠ TB) :
    ∃ x : Ext w, x.it = v.setCell ⟨TB, k, none⟩ u ∧ EvMem x.it TB m acc ∧ x.it.cell? ⟨w.heap.size, 0, none⟩ = some (.slice ca nc cc) ∧ x.it.cell? ⟨w.heap.size, 1, none⟩ = some (.int .i64 key) :=
  ⟨⟨_, Below.st hb hT u⟩, rfl, h, (World.cell?_setCell_other _ _ _ _ (by intro e; injection e with e; exact hn e.symm)).trans h0, (World.cell?_setCell_other _ _ _ _ (by intro e; injection e with e; exact hn e.symm)).trans h1⟩
theorem infoInt : (Try.prog.info? 3).map (fun i => (i.zero, i.size, i.bytes)) = some (some (.int .i64 0), 1, 8) := by kernel_rfl
set_option maxRecDepth 8000 in
set_option maxHeartbeats 4000000 in
theorem evalRow_any (cv : Value) (cs : List Col) (key : Int) (nv : Value) (ns : List Nod) (rv : Value) (row : List Val) (w : World) (hc : ColsAt w w.heap.size cv cs) (hn : NodsAt w w.heap.size nv ns) (hr : ValsAt w w.heap.size rv row) (hp : ns.length ≤ 64 ∧ ∀ j (hj : j < ns.length), nodE cs j (ns[j]'hj) = 0) (hrl : row.length = cs.length) :
    Calls Try.prog 30 #[.agg #[cv, .int .i64 key], nv, rv] w fun e w' => e = .returned (.int .i64 (evalF cs row ns)) ∧ Below w.heap.size w w' := by
  obtain ⟨m64, NA⟩ := hp
  obtain ⟨ca, cc, rfl⟩ := cols_end hc
  obtain ⟨na, pc, rfl⟩ := nods_end hn
  obtain ⟨ra, rc, rfl⟩ := vals_end hr
  rw [hrl] at hr ⊢
  obtain ⟨nc, hl⟩ : ∃ nc, cs.length = nc := ⟨_, rfl⟩
  obtain ⟨m, hm⟩ : ∃ m, ns.length = m := ⟨_, rfl⟩
  have HC : Hid (ColsAt w w.heap.size (.slice ca nc cc) cs) := Lib.hid (by rw [← hl]; exact hc)
  have HN : Hid (NodsAt w w.heap.size (.slice na m pc) ns) := Lib.hid (by rw [← hm]; exact hn)
  have HRW : Hid (ValsAt w w.heap.size (.slice ra nc rc) row) := Lib.hid (by rw [← hl]; exact hr)
  have HM := Lib.hid hm
  have HL := Lib.hid hl
  have HRL := Lib.hid (hrl.trans hl)
  rw [hl, hm]
  rw [hm] at m64
  have NA' := Lib.hid NA
  obtain ⟨i0, hi, hz0, hz1, hz2⟩ := info_parts infoInt
  by_cases m0 : m = 0
  · have e0 : ns = [] := List.eq_nil_of_length_eq_zero (by omega)
    subst m0 e0
    clear hc hn hr hrl hl hm NA
    go_enter Try.func30, Try.ntmps30
    go_wp2
    exact bodyPost_ret (v := .int .i64 1) (by simp [results, Try.results30, go_sem, *]) rfl (⟨rfl, by repeat (first | with_reducible exact Below.refl _ _ | with_reducible assumption | with_reducible refine Below.al ?_ _ | with_reducible refine Below.on ?_ _ | with_reducible refine Below.st ?_ (by first | assumption | (simp; done) | (simp; omega)) _ | with_reducible refine Below.drew ?_)⟩)
  have hmk := fun w => run_make (P := Try.prog) w 31 3 i0 _ Try.underlying31 hi hz0 .i64 .i64 (m : Int) (m : Int) (by omega) (Int.le_refl _) (by rw [hz2]; omega) (by omega)
  simp only [Int.toNat_natCast, hz1] at hmk
  obtain ⟨MC, hMC⟩ : ∃ MC, madeCells (Value.cells (.int .i64 0)) (m * 1) = MC := ⟨_, rfl⟩
  have hMS : MC.size = m * 1 := by rw [← hMC]; exact size_madeCells _ _
  rw [hMC] at hmk
  have HMS := Lib.hid hMS
  have m0' : ((m : Int) == 0) = false := by simp; omega
  have m0'' : ¬ (m : Int) = 0 := by omega
  clear hc hn hr hrl hl hm NA hz0 hz1 hz2 hMC hMS
  go_enter Try.func30, Try.ntmps30
  go_upto_region 4 with fail
  refine captureP ?_
  intro y ey
  have yb : Below w.heap.size w y.it := by rw [ey]; exact (by repeat (first | with_reducible exact Below.refl _ _ | with_reducible assumption | with_reducible refine Below.al ?_ _ | with_reducible refine Below.on ?_ _ | with_reducible refine Below.st ?_ (by first | assumption | (simp; done) | (simp; omega)) _ | with_reducible refine Below.drew ?_))
  have y0 : y.it.cell? ⟨w.heap.size, 0, none⟩ = some (.slice ca nc cc) := by rw [ey]; simp (maxDischargeDepth := 9) [go_sem, *]
  have y1 : y.it.cell? ⟨w.heap.size, 1, none⟩ = some (.int .i64 key) := by rw [ey]; simp (maxDischargeDepth := 9) [go_sem, *]
  have yz : w.heap.size < y.it.heap.size := by rw [ey]; simp; omega
  have EM : Hid (EvMem y.it (w.heap.size + 1) m []) := Lib.hid ⟨by rw [ey]; simp, by simp, fun j hj => by
      have h := there_new (w := w.alloc (.cells #[.slice ca nc cc, .int .i64 key] 28)) MC 3 (w.heap.size + 1) (by simp) j (by rw [HMS.out]; omega)
      rw [Nat.zero_add] at h
      rw [ey]
      exact ⟨Option.isSome_iff_exists.1 h.1, h.2⟩, fun j hj => absurd hj (by simp), fun a ha => absurd ha (by simp)⟩
  clear ey hmk
  go_wp2_with fail
  go_loopg [18] m (fun g st wr => ∃ k : Nat, k + g = m ∧ st = .int .i64 (k : Int) ∧ ∃ x : Ext w, x.it = wr ∧ EvMem x.it (w.heap.size + 1) m (accT cs row (ns.take k)) ∧ x.it.cell? ⟨w.heap.size, 0, none⟩ = some (.slice ca nc cc) ∧ x.it.cell? ⟨w.heap.size, 1, none⟩ = some (.int .i64 key))
  case atStart => exact ⟨0, by omega, rfl, ⟨y.it, yb⟩, rfl, EM.out, y0, y1⟩
  case round =>
    obtain ⟨k, hk, rfl, x, rfl, M, s0, s1⟩ := hrel
    clear EM y0 y1 yz yb
    have hx := x.below
    have zT := M.lt
    have zw : w.heap.size < x.it.heap.size := by omega
    by_cases hg0 : gk = 0
    · subst hg0
      obtain rfl : k = m := by omega
      have TK : ns.take k = ns := List.take_of_length_le (by rw [HM.out]; exact Nat.le_refl _)
      rw [TK] at M
      have AL : (accT cs row ns).length = k := by rw [accT_len]; exact HM.out
      have EV : evalF cs row ns = (accT cs row ns)[k - 1]'(by omega) := by unfold evalF; rw [List.getLast?_eq_getElem?, List.getElem?_eq_getElem (by omega)]; simp only [AL]
      have LV := M.lv (k - 1) (by omega)
      rw [← EV] at LV
      obtain ⟨R, hR⟩ : ∃ R, evalF cs row ns = R := ⟨_, rfl⟩
      rw [hR] at LV
      have HR := Lib.hid hR
      have ck : ((k - 1 : Nat) : Int) = (k : Int) - 1 := by omega
      obtain ⟨k1, rfl⟩ : ∃ k1, k = k1 + 1 := ⟨k - 1, by omega⟩
      rw [Nat.add_sub_cancel] at LV
      clear hk TK M EV AL ck hR m0 m0' m0''
      go_wp2
      exact bodyPost_ret (v := .int .i64 R) (by simp [results, Try.results30, go_sem, *]) rfl (⟨by rw [HR.out], by repeat (first | with_reducible exact Below.refl _ _ | with_reducible assumption | with_reducible refine Below.al ?_ _ | with_reducible refine Below.on ?_ _ | with_reducible refine Below.st ?_ (by first | assumption | (simp; done) | (simp; omega)) _ | with_reducible refine Below.drew ?_)⟩)
    · have hkm : k < m := by omega
      have hkm' : (k : Int) < (m : Int) := by omega
      have hkl : k < ns.length := by rw [HM.out]; exact hkm
      obtain ⟨b, o, rfl, _, hb, lv, c0, c1, c2, c3, c4, c5, c6, c7, hlv⟩ := nods_in HN.out hkl
      have NK := nodE_ok (NA'.out k hkl)
      have NL := Lib.hid (nodE_leaf (NA'.out k hkl))
      have AS := Lib.hid (accT_succ cs row hkl)
      have AL : (accT cs row (ns.take k)).length = k := by rw [accT_len, List.length_take]; omega
      obtain ⟨d, hd⟩ : ∃ d, ns[k]'hkl = d := ⟨_, rfl⟩
      rw [hd] at NK NL AS c0 c1 c2 c3 c4 c6 c7 hlv
      obtain ⟨acc, hacc⟩ : ∃ acc, accT cs row (ns.take k) = acc := ⟨_, rfl⟩
      rw [hacc] at M AS AL
      clear hacc
      obtain ⟨dop, dcol, ⟨dvn, dn, ds⟩, dls, da, db⟩ := d
      dsimp only at NK NL c0 c1 c2 c3 c4 c6 c7 hlv
      have f0' := (hx.cell (p := ⟨b, o + k * 8, none⟩) hb).trans c0
      have f1' := (hx.cell (p := ⟨b, o + k * 8 + 1, none⟩) hb).trans c1
      have f2' := (hx.cell (p := ⟨b, o + k * 8 + 2, none⟩) hb).trans c2
      have f3' := (hx.cell (p := ⟨b, o + k * 8 + 3, none⟩) hb).trans c3
      have f4' := (hx.cell (p := ⟨b, o + k * 8 + 4, none⟩) hb).trans c4
      have f5' := (hx.cell (p := ⟨b, o + k * 8 + 5, none⟩) hb).trans c5
      have f6' := (hx.cell (p := ⟨b, o + k * 8 + 6, none⟩) hb).trans c6
      have f7' := (hx.cell (p := ⟨b, o + k * 8 + 7, none⟩) hb).trans c7
      have zb : b < x.it.heap.size := Nat.lt_of_lt_of_le hb hx.size
      obtain ⟨la, lc, rfl⟩ := vals_end hlv
      obtain ⟨lm, hlm⟩ : ∃ lm, dls.length = lm := ⟨_, rfl⟩
      rw [hlm] at f5' c5 hlv
      have HLV := Lib.hid hlv
      have HK := Lib.hid (And.intro (And.intro hk hg0) AL)
      have M' := Lib.hid M
      clear c0 c1 c2 c3 c4 c5 c6 c7 hlv hd M hk AL hg0 hlm
      go_upto_region 7 with fail
      refine captureE ?_
      intro v ev
      have n0 : v.it.cell? ⟨x.it.heap.size, 0, none⟩ = some (.int .i64 dop) := by simp (maxDischargeDepth := 9) [go_sem, *]
      have n1 : v.it.cell? ⟨x.it.heap.size, 1, none⟩ = some (.int .i64 dcol) := by simp (maxDischargeDepth := 9) [go_sem, *]
      have n2 : v.it.cell? ⟨x.it.heap.size, 2, none⟩ = some (.bool dvn) := by simp (maxDischargeDepth := 9) [go_sem, *]
      have n3 : v.it.cell? ⟨x.it.heap.size, 3, none⟩ = some (.int .i64 dn) := by simp (maxDischargeDepth := 9) [go_sem, *]
      have n4 : v.it.cell? ⟨x.it.heap.size, 4, none⟩ = some (.string ds) := by simp (maxDischargeDepth := 9) [go_sem, *]
      have n5 : v.it.cell? ⟨x.it.heap.size, 5, none⟩ = some (.slice la lm lc) := by simp (maxDischargeDepth := 9) [go_sem, *]
      have n6' : v.it.cell? ⟨x.it.heap.size, 6, none⟩ = some (.int .i64 da) := by simp (maxDischargeDepth := 9) [go_sem, *]
      have n7' : v.it.cell? ⟨x.it.heap.size, 7, none⟩ = some (.int .i64 db) := by simp (maxDischargeDepth := 9) [go_sem, *]
      have vb : Below w.heap.size w v.it := by rw [ev]; exact Below.al hx _
      have vxb : Below x.it.heap.size x.it v.it := by rw [ev]; exact Below.al (Below.refl _ _) _
      have vn : x.it.heap.size < v.it.heap.size := by rw [ev]; simp
      have MN := Lib.hid (M'.out.to vxb)
      have vT : w.heap.size + 1 < v.it.heap.size := by omega
      have vw : w.heap.size < v.it.heap.size := by omega
      have v0 := (vxb.cell (p := ⟨w.heap.size, 0, none⟩) zw).trans s0
      have v1 := (vxb.cell (p := ⟨w.heap.size, 1, none⟩) zw).trans s1
      obtain ⟨⟨old, hold⟩, hfro⟩ := MN.out.th k hkm
      clear ev f0' f1' f2' f3' f4' f5' f6' f7' s0 s1
      by_cases o9 : dop = 9
      · subst o9
        obtain ⟨a0, a1⟩ := NK.2.2.1 (by omega)
        obtain ⟨b0, b1⟩ := NK.2.2.2 (by omega) (by omega)
        obtain ⟨Ai, rfl⟩ : ∃ Ai : Nat, da = Ai := ⟨da.toNat, by omega⟩
        obtain ⟨Bi, rfl⟩ : ∃ Bi : Nat, db = Bi := ⟨db.toNat, by omega⟩
        have Aik : Ai < acc.length := by have := HK.out.2; omega
        have Bik : Bi < acc.length := by have := HK.out.2; omega
        have Aim : (Ai : Int) < (m : Int) := by omega
        have Bim : (Bi : Int) < (m : Int) := by omega
        have hA := MN.out.lv Ai Aik
        have hB := MN.out.lv Bi Bik
        obtain ⟨ta, hta⟩ : ∃ ta, acc[Ai]'Aik = ta := ⟨_, rfl⟩
        obtain ⟨tb, htb⟩ : ∃ tb, acc[Bi]'Bik = tb := ⟨_, rfl⟩
        have T1 : T3 ta := hta ▸ MN.out.t3 _ (List.getElem_mem Aik)
        have T2 : T3 tb := htb ▸ MN.out.t3 _ (List.getElem_mem Bik)
        rw [hta] at hA
        rw [htb] at hB
        have NP : stepT cs row acc ⟨9, dcol, ⟨dvn, dn, ds⟩, dls, Ai, Bi⟩ = andT ta tb := by
          unfold stepT; simp only [Int.toNat_natCast, List.getD_eq_getElem?_getD, List.getElem?_eq_getElem Aik, List.getElem?_eq_getElem Bik, Option.getD_some, hta, htb]; rfl
        have HT12 := Lib.hid (And.intro T1 T2)
        have HNP := Lib.hid NP
        clear NP T1 T2 hta htb NK n1 n2 n3 n4 n5 n7'
        go_upto_region 10 with fail
        refine wp_region_ext_tail 14 (by kernel_rfl) (by kernel_rfl) ?_
        dsimp only [List.take, List.drop]
        repeat (go_big_quiet_step (((go_at_call 50; exact Calls.ext (and3_any HT12.out.1 HT12.out.2 _)))))
        refine wpQuiet_nil ?_
        rintro _ ⟨x2, rfl⟩
        have c2 := x2.lt vT
        have hs2 := (x2.cell (w.heap.size + 1) k vT).trans hold
        have hf2 := (x2.frozen (w.heap.size + 1) k vT).trans hfro
        go_wp2_with fail
        go_roundg (gk - 1)
        case measure => have := HK.out.1; omega
        case rel => exact ⟨k + 1, by have := HK.out.1; omega, by go_num, ExtC.of_set (Below.on vb x2) (by omega) (by rw [AS.out, HNP.out]; exact (MN.out.to x2.below).step HK.out.2 hkm (andT_3 HT12.out.1 HT12.out.2)) ((x2.cell _ 0 vw).trans v0) ((x2.cell _ 1 vw).trans v1) (by omega)⟩
      by_cases o10 : dop = 10
      · subst o10
        obtain ⟨a0, a1⟩ := NK.2.2.1 (by omega)
        obtain ⟨b0, b1⟩ := NK.2.2.2 (by omega) (by omega)
        obtain ⟨Ai, rfl⟩ : ∃ Ai : Nat, da = Ai := ⟨da.toNat, by omega⟩
        obtain ⟨Bi, rfl⟩ : ∃ Bi : Nat, db = Bi := ⟨db.toNat, by omega⟩
        have Aik : Ai < acc.length := by have := HK.out.2; omega
        have Bik : Bi < acc.length := by have := HK.out.2; omega
        have Aim : (Ai : Int) < (m : Int) := by omega
        have Bim : (Bi : Int) < (m : Int) := by omega
        have hA := MN.out.lv Ai Aik
        have hB := MN.out.lv Bi Bik
        obtain ⟨ta, hta⟩ : ∃ ta, acc[Ai]'Aik = ta := ⟨_, rfl⟩
        obtain ⟨tb, htb⟩ : ∃ tb, acc[Bi]'Bik = tb := ⟨_, rfl⟩
        have T1 : T3 ta := hta ▸ MN.out.t3 _ (List.getElem_mem Aik)
        have T2 : T3 tb := htb ▸ MN.out.t3 _ (List.getElem_mem Bik)
        rw [hta] at hA
        rw [htb] at hB
        have NP : stepT cs row acc ⟨10, dcol, ⟨dvn, dn, ds⟩, dls, Ai, Bi⟩ = orT ta tb := by
          unfold stepT; simp only [Int.toNat_natCast, List.getD_eq_getElem?_getD, List.getElem?_eq_getElem Aik, List.getElem?_eq_getElem Bik, Option.getD_some, hta, htb]; rfl
        have HT12 := Lib.hid (And.intro T1 T2)
        have HNP := Lib.hid NP
        clear NP T1 T2 hta htb NK n1 n2 n3 n4 n5 n7'
        go_upto_region 12 with fail
        refine wp_region_ext_tail 14 (by kernel_rfl) (by kernel_rfl) ?_
        dsimp only [List.take, List.drop]
        repeat (go_big_quiet_step (((go_at_call 51; exact Calls.ext (or3_any HT12.out.1 HT12.out.2 _)))))
        refine wpQuiet_nil ?_
        rintro _ ⟨x2, rfl⟩
        have c2 := x2.lt vT
        have hs2 := (x2.cell (w.heap.size + 1) k vT).trans hold
        have hf2 := (x2.frozen (w.heap.size + 1) k vT).trans hfro
        go_wp2_with fail
        go_roundg (gk - 1)
        case measure => have := HK.out.1; omega
        case rel => exact ⟨k + 1, by have := HK.out.1; omega, by go_num, ExtC.of_set (Below.on vb x2) (by omega) (by rw [AS.out, HNP.out]; exact (MN.out.to x2.below).step HK.out.2 hkm (orT_3 HT12.out.1 HT12.out.2)) ((x2.cell _ 0 vw).trans v0) ((x2.cell _ 1 vw).trans v1) (by omega)⟩
      by_cases o11 : dop = 11
      · subst o11
        obtain ⟨a0, a1⟩ := NK.2.2.1 (by omega)
        obtain ⟨Ai, rfl⟩ : ∃ Ai : Nat, da = Ai := ⟨da.toNat, by omega⟩
        have Aik : Ai < acc.length := by have := HK.out.2; omega
        have Aim : (Ai : Int) < (m : Int) := by omega
        have hA := MN.out.lv Ai Aik
        obtain ⟨ta, hta⟩ : ∃ ta, acc[Ai]'Aik = ta := ⟨_, rfl⟩
        have T1 : T3 ta := hta ▸ MN.out.t3 _ (List.getElem_mem Aik)
        rw [hta] at hA
        have NP : stepT cs row acc ⟨11, dcol, ⟨dvn, dn, ds⟩, dls, Ai, db⟩ = notT ta := by
          unfold stepT; simp only [Int.toNat_natCast, List.getD_eq_getElem?_getD, List.getElem?_eq_getElem Aik, Option.getD_some, hta]; rfl
        have HT12 := Lib.hid T1
        have HNP := Lib.hid NP
        clear NP T1 hta NK n1 n2 n3 n4 n5 n7'
        go_wp2_with (go_at_call 52; refine Calls.mono (not3_any HT12.out _) ?_; rintro e w3 ⟨rfl, hb3⟩; obtain ⟨x2, rfl⟩ := Ext.of hb3; have c2 := x2.lt vT; have hs2 := (x2.cell (w.heap.size + 1) k vT).trans hold; have hf2 := (x2.frozen (w.heap.size + 1) k vT).trans hfro)
        go_roundg (gk - 1)
        case measure => have := HK.out.1; omega
        case rel => exact ⟨k + 1, by have := HK.out.1; omega, by go_num, ExtC.of_set (Below.on vb x2) (by omega) (by rw [AS.out, HNP.out]; exact (MN.out.to x2.below).step HK.out.2 hkm (notT_3 HT12.out)) ((x2.cell _ 0 vw).trans v0) ((x2.cell _ 1 vw).trans v1) (by omega)⟩
      have h19 : 1 ≤ dop ∧ dop ≤ 8 := by have := NK.1; have := NK.2.1; omega
      have CL := NL.out (by omega)
      obtain ⟨K, rfl⟩ : ∃ K : Nat, dcol = K := ⟨dcol.toNat, by omega⟩
      have Kl : K < cs.length := by omega
      have Kr : K < row.length := by rw [HRL.out, ← HL.out]; exact Kl
      have KnI : (K : Int) < (nc : Int) := by have := HL.out; omega
      obtain ⟨rb, ro, rfl, _, hrb, e0, e1, e2⟩ := vals_in HRW.out Kr
      obtain ⟨u, hu⟩ : ∃ u, row[K]'Kr = u := ⟨_, rfl⟩
      rw [hu] at e0 e1 e2
      obtain ⟨un, ui, us⟩ := u
      dsimp only at e0 e1 e2
      have r0 := (vb.cell (p := ⟨rb, ro + K * 3, none⟩) hrb).trans e0
      have r1 := (vb.cell (p := ⟨rb, ro + K * 3 + 1, none⟩) hrb).trans e1
      have r2 := (vb.cell (p := ⟨rb, ro + K * 3 + 2, none⟩) hrb).trans e2
      have zr : rb < v.it.heap.size := Nat.lt_of_lt_of_le hrb vb.size
      have q9 : (dop == 9) = false := by simpa using o9
      have q10 : (dop == 10) = false := by simpa using o10
      have q11 : (dop == 11) = false := by simpa using o11
      have NP : stepT cs row acc ⟨dop, K, ⟨dvn, dn, ds⟩, dls, da, db⟩ = leafT (cs[K]'Kl).ty ⟨dop, K, ⟨dvn, dn, ds⟩, dls, da, db⟩ ⟨un, ui, us⟩ := by
        unfold stepT colTy
        simp only [Int.toNat_natCast, List.getD_eq_getElem?_getD, List.getElem?_eq_getElem Kl, List.getElem?_eq_getElem Kr, Option.getD_some, hu]
        rw [if_neg o9, if_neg o10, if_neg o11]
      have HNP := Lib.hid NP
      have HCv := Lib.hid (HC.out.mono vb vb.size)
      have HLv := Lib.hid (HLV.out.mono vb vb.size)
      have H18 := Lib.hid h19
      obtain ⟨R, hR⟩ : ∃ R, leafT (cs[K]'Kl).ty ⟨dop, K, ⟨dvn, dn, ds⟩, dls, da, db⟩ ⟨un, ui, us⟩ = R := ⟨_, rfl⟩
      have HR3 : Hid (T3 R) := Lib.hid (hR ▸ leafT_3 _ _ _)
      have LT := Lib.hid (fun x : Ext v.it => (by have h := leafTruth_any (.slice ca nc cc) cs key K dop dvn dn ds (.slice la lm lc) dls da db un ui us x.it (HCv.out.mono x.below x.below.size) (HLv.out.mono x.below x.below.size) Kl H18.out.1 H18.out.2; rw [hR] at h; exact h : Calls Try.prog 53 #[.agg #[.slice ca nc cc, .int .i64 key], .agg #[.int .i64 dop, .int .i64 (K : Int), .bool dvn, .int .i64 dn, .string ds, .slice la lm lc, .int .i64 da, .int .i64 db], .agg #[.bool un, .int .i64 ui, .string us]] x.it fun e w' => e = .returned (.int .i64 R) ∧ Below x.it.heap.size x.it w'))
      have HR := Lib.hid hR
      clear NP hu e0 e1 e2 CL NK hR o9 o10 o11 h19
      go_upto_region 8 with fail
      refine wp_region_ext_tail 11 (by kernel_rfl) (by kernel_rfl) ?_
      dsimp only [List.take, List.drop]
      repeat (go_big_quiet_step (((go_at_call 53; exact Calls.ext (LT.out _)))))
      refine wpQuiet_nil ?_
      rintro _ ⟨x2, rfl⟩
      have c2 := x2.lt vT
      have hs2 := (x2.cell (w.heap.size + 1) k vT).trans hold
      have hf2 := (x2.frozen (w.heap.size + 1) k vT).trans hfro
      go_wp2_with fail
      go_roundg (gk - 1)
      case measure => have := HK.out.1; omega
      case rel => exact ⟨k + 1, by have := HK.out.1; omega, by go_num, ExtC.of_set (Below.on vb x2) (by omega) (by rw [AS.out, HNP.out, HR.out]; exact (MN.out.to x2.below).step HK.out.2 hkm HR3.out) ((x2.cell _ 0 vw).trans v0) ((x2.cell _ 1 vw).trans v1) (by omega)⟩
end Go.Proofs.Ytpahoenanfjhpaa
namespace Go.Proofs.Ytpahoenanfjhpaa
open Go.RowKit
def rowEs : List Col → List Val → Int
  | c :: cs, v :: vs => if vchk c.ty c.nul v.null v.n v.s = 0 then rowEs cs vs else vchk c.ty c.nul v.null v.n v.s
  | _, _ => 0
def rowE (cs : List Col) (row : List Val) : Int := if row.length = cs.length then rowEs cs row else 1
theorem rowEs_ok {cs : List Col} {row : List Val} {k : Nat} (h : k < cs.length) (h' : k < row.length) (h0 : vchk (cs[k]'h).ty (cs[k]'h).nul (row[k]'(h')).null (row[k]'(h')).n (row[k]'(h')).s = 0) : rowEs (cs.drop k) (row.drop k) = rowEs (cs.drop (k + 1)) (row.drop (k + 1)) := by
  rw [List.drop_eq_getElem_cons h, List.drop_eq_getElem_cons h']
  simp only [rowEs]
  rw [if_pos h0]
theorem rowEs_bad {cs : List Col} {row : List Val} {k : Nat} (h : k < cs.length) (h' : k < row.length) (h0 : ¬ vchk (cs[k]'h).ty (cs[k]'h).nul (row[k]'(h')).null (row[k]'(h')).n (row[k]'(h')).s = 0) : rowEs (cs.drop k) (row.drop k) = vchk (cs[k]'h).ty (cs[k]'h).nul (row[k]'(h')).null (row[k]'(h')).n (row[k]'(h')).s := by
  rw [List.drop_eq_getElem_cons h, List.drop_eq_getElem_cons h']
  simp only [rowEs]
  rw [if_neg h0]
set_option maxRecDepth 8000 in
set_option maxHeartbeats 4000000 in
theorem checkRow_any (cv : Value) (cs : List Col) (key : Int) (rv : Value) (row : List Val) (w : World) (hc : ColsAt w w.heap.size cv cs) (hr : ValsAt w w.heap.size rv row) :
    Calls Try.prog 29 #[.agg #[cv, .int .i64 key], rv] w fun e w' => e = .returned (.int .i64 (rowE cs row)) ∧ Below w.heap.size w w' := by
  obtain ⟨ca, cc, rfl⟩ := cols_end hc
  obtain ⟨ra, rc, rfl⟩ := vals_end hr
  obtain ⟨nc, hl⟩ : ∃ nc, cs.length = nc := ⟨_, rfl⟩
  obtain ⟨m, hm⟩ : ∃ m, row.length = m := ⟨_, rfl⟩
  have h63 := hr.1
  have HC : Hid (ColsAt w w.heap.size (.slice ca nc cc) cs) := Lib.hid (by rw [← hl]; exact hc)
  have HRW : Hid (ValsAt w w.heap.size (.slice ra m rc) row) := Lib.hid (by rw [← hm]; exact hr)
  have HM := Lib.hid hm
  have HL := Lib.hid hl
  rw [hl, hm]
  rw [hm] at h63
  obtain ⟨R, hR⟩ : ∃ R, rowE cs row = R := ⟨_, rfl⟩
  rw [hR]
  have HR := Lib.hid hR
  clear hc hr hl hm hR
  by_cases hne : m = nc
  · have hne' : ((m : Int) != (nc : Int)) = false := by simp; omega
    subst hne
    have HE : Hid (rowEs cs row = R) := Lib.hid (by rw [← HR.out]; unfold rowE; rw [if_pos (by rw [HM.out, HL.out])])
    clear HR
    go_enter Try.func29, Try.ntmps29
    go_upto_region 3 with fail
    refine captureP ?_
    intro y ey
    have yb : Below w.heap.size w y.it := by rw [ey]; exact (by repeat (first | with_reducible exact Below.refl _ _ | with_reducible assumption | with_reducible refine Below.al ?_ _ | with_reducible refine Below.on ?_ _ | with_reducible refine Below.st ?_ (by first | assumption | (simp; done) | (simp; omega)) _ | with_reducible refine Below.drew ?_))
    have y0 : y.it.cell? ⟨w.heap.size, 0, none⟩ = some (.slice ca m cc) := by rw [ey]; simp (maxDischargeDepth := 9) [go_sem, *]
    have yz : w.heap.size < y.it.heap.size := by rw [ey]; simp
    clear ey
    go_wp2_with fail
    go_loopg [16] m (fun g st wr => ∃ k : Nat, k + g = m ∧ st = .int .i64 (k : Int) ∧ rowEs (cs.drop k) (row.drop k) = R ∧ ∃ x : Ext y.it, x.it = wr)
    case atStart => exact ⟨0, by omega, rfl, by simpa using HE.out, ext_of (Below.refl _ _)⟩
    case round =>
      obtain ⟨k, hk, rfl, hF, x, rfl⟩ := hrel
      clear HE
      have hx := Below.on yb x
      have s0 := (x.cell w.heap.size 0 yz).trans y0
      have zw := x.lt yz
      by_cases hg0 : gk = 0
      · subst hg0
        obtain rfl : k = m := by omega
        obtain rfl : 0 = R := by rw [← hF, List.drop_of_length_le (by rw [HL.out]; exact Nat.le_refl _)]; rfl
        clear hF hk
        go_wp2
        exact bodyPost_ret (v := .int .i64 0) (by simp [results, Try.results29, go_sem, *]) rfl (⟨rfl, by repeat (first | with_reducible exact Below.refl _ _ | with_reducible assumption | with_reducible refine Below.al ?_ _ | with_reducible refine Below.on ?_ _ | with_reducible refine Below.st ?_ (by first | assumption | (simp; done) | (simp; omega)) _ | with_reducible refine Below.drew ?_)⟩)
      · have hkm : k < m := by omega
        have hkm' : (k : Int) < (m : Int) := by omega
        have hkc : k < cs.length := by rw [HL.out]; exact hkm
        have hkr : k < row.length := by rw [HM.out]; exact hkm
        obtain ⟨cb, co, rfl, _, hcb, c0, c1, c2, c3⟩ := cols_in HC.out hkc
        obtain ⟨rb, ro, rfl, _, hrb, e0, e1, e2⟩ := vals_in HRW.out hkr
        have OKL := rowEs_ok hkc hkr
        have BDL := rowEs_bad hkc hkr
        obtain ⟨d, hd⟩ : ∃ d, cs[k]'hkc = d := ⟨_, rfl⟩
        obtain ⟨u, hu⟩ : ∃ u, row[k]'hkr = u := ⟨_, rfl⟩
        rw [hd] at OKL BDL c0 c1 c2 c3
        rw [hu] at OKL BDL e0 e1 e2
        rw [hF] at OKL BDL
        obtain ⟨cn, ty, sc, nul⟩ := d
        obtain ⟨un, ui, us⟩ := u
        dsimp only at OKL BDL c0 c1 c2 c3 e0 e1 e2
        have f0 := (hx.cell (p := ⟨cb, co + k * 4, none⟩) hcb).trans c0
        have f1 := (hx.cell (p := ⟨cb, co + k * 4 + 1, none⟩) hcb).trans c1
        have f2 := (hx.cell (p := ⟨cb, co + k * 4 + 2, none⟩) hcb).trans c2
        have f3 := (hx.cell (p := ⟨cb, co + k * 4 + 3, none⟩) hcb).trans c3
        have g0 := (hx.cell (p := ⟨rb, ro + k * 3, none⟩) hrb).trans e0
        have g1 := (hx.cell (p := ⟨rb, ro + k * 3 + 1, none⟩) hrb).trans e1
        have g2 := (hx.cell (p := ⟨rb, ro + k * 3 + 2, none⟩) hrb).trans e2
        have zc : cb < x.it.heap.size := Nat.lt_of_lt_of_le hcb hx.size
        have zr : rb < x.it.heap.size := Nat.lt_of_lt_of_le hrb hx.size
        have HK := Lib.hid (And.intro hk hg0)
        obtain ⟨ve, hve⟩ : ∃ ve, vchk ty nul un ui us = ve := ⟨_, rfl⟩
        rw [hve] at OKL BDL
        have RV := Lib.hid (fun W => (by have h := refVcheck_any cn ty sc nul un ui us W; rw [hve] at h; exact h : Calls Try.prog 49 #[.agg #[.string cn, .int .i64 ty, .int .i64 sc, .bool nul], .agg #[.bool un, .int .i64 ui, .string us]] W fun e w' => e = .returned (.int .i64 ve) ∧ Below W.heap.size W w'))
        clear c0 c1 c2 c3 e0 e1 e2 hd hu hk hg0 hF hve
        go_upto_region 6 with fail
        refine wp_region_ext (by kernel_rfl) (by kernel_rfl) ?_
        repeat (go_big_quiet_step (((go_at_call 49; exact Calls.ext (RV.out _)))))
        refine wpQuiet_nil ?_
        rintro _ ⟨x5, rfl⟩
        by_cases v0 : ve = 0
        · have v0' : (ve != 0) = false := by simpa using v0
          have OK := Lib.hid (OKL v0)
          clear OKL BDL
          go_wp2
          go_roundg (gk - 1)
          case measure => have := HK.out; omega
          case rel => exact ⟨k + 1, by have := HK.out; omega, by go_num, OK.out.symm, ext_of (Below.on (Below.al x.below _) x5)⟩
        · have v0' : (ve != 0) = true := by simpa using v0
          obtain rfl : ve = R := (BDL v0).symm
          clear OKL BDL
          go_wp2
          exact bodyPost_ret (v := .int .i64 ve) (by simp [results, Try.results29, go_sem, *]) rfl (⟨rfl, by repeat (first | with_reducible exact Below.refl _ _ | with_reducible assumption | with_reducible refine Below.al ?_ _ | with_reducible refine Below.on ?_ _ | with_reducible refine Below.st ?_ (by first | assumption | (simp; done) | (simp; omega)) _ | with_reducible refine Below.drew ?_)⟩)
  · have hne' : ((m : Int) != (nc : Int)) = true := by simp; omega
    obtain rfl : 1 = R := by rw [← HR.out]; unfold rowE; rw [if_neg (by rw [HM.out, HL.out]; exact hne)]
    clear HR hne
    go_enter Try.func29, Try.ntmps29
    go_wp2
    exact bodyPost_ret (v := .int .i64 1) (by simp [results, Try.results29, go_sem, *]) rfl (⟨rfl, by repeat (first | with_reducible exact Below.refl _ _ | with_reducible assumption | with_reducible refine Below.al ?_ _ | with_reducible refine Below.on ?_ _ | with_reducible refine Below.st ?_ (by first | assumption | (simp; done) | (simp; omega)) _ | with_reducible refine Below.drew ?_)⟩)
theorem rowEs_pre : ∀ {cs : List Col} {row : List Val}, (∀ j (h : j < cs.length) (h' : j < row.length), vchk (cs[j]'h).ty (cs[j]'h).nul (row[j]'(h')).null (row[j]'(h')).n (row[j]'(h')).s = 0) → rowEs cs row = 0
  | [], _, _ => rfl
  | _ :: _, [], _ => rfl
  | c :: cs, v :: vs, h => by
    simp only [rowEs]
    have h0 := h 0 (by simp) (by simp)
    simp only [List.getElem_cons_zero] at h0
    rw [if_pos h0]
    exact rowEs_pre fun j hj hj' => h (j + 1) (by simpa using hj) (by simpa using hj')
/-- Eval: the truth value, or the first error. -/
def evalP (cs : List Col) (key : Int) (ns : List Nod) (row : List Val) : Int × Int := if predF cs key ns = 0 then (if rowE cs row = 0 then (evalF cs row ns, 0) else (0, rowE cs row)) else (0, predF cs key ns)
set_option maxRecDepth 8000 in
set_option maxHeartbeats 4000000 in
theorem refEval_any (cv : Value) (cs : List Col) (key : Int) (nv : Value) (ns : List Nod) (rv : Value) (row : List Val) (w : World) (hc : ColsAt w w.heap.size cv cs) (hn : NodsAt w w.heap.size nv ns) (hr : ValsAt w w.heap.size rv row) :
    Calls Try.prog 17 #[.agg #[cv, .int .i64 key], nv, rv] w fun e w' => e = .returned (.tuple #[.int .i64 (evalP cs key ns row).1, .int .i64 (evalP cs key ns row).2]) ∧ Below w.heap.size w w' := by
  obtain ⟨ca, cc, rfl⟩ := cols_end hc
  obtain ⟨na, pc, rfl⟩ := nods_end hn
  obtain ⟨ra, rc, rfl⟩ := vals_end hr
  obtain ⟨nc, hl⟩ : ∃ nc, cs.length = nc := ⟨_, rfl⟩
  obtain ⟨m, hm⟩ : ∃ m, ns.length = m := ⟨_, rfl⟩
  obtain ⟨mr, hmr⟩ : ∃ mr, row.length = mr := ⟨_, rfl⟩
  have HC : Hid (ColsAt w w.heap.size (.slice ca nc cc) cs) := Lib.hid (by rw [← hl]; exact hc)
  have HN : Hid (NodsAt w w.heap.size (.slice na m pc) ns) := Lib.hid (by rw [← hm]; exact hn)
  have HRW : Hid (ValsAt w w.heap.size (.slice ra mr rc) row) := Lib.hid (by rw [← hmr]; exact hr)
  rw [hl, hm, hmr]
  obtain ⟨r1, r2, hR⟩ : ∃ r1 r2, evalP cs key ns row = (r1, r2) := ⟨_, _, rfl⟩
  rw [hR]
  have HR := Lib.hid hR
  clear hc hn hr hl hm hmr hR
  go_enter Try.func17, Try.ntmps17
  go_upto_region 1 with fail
  refine captureP ?_
  intro y ey
  have yb : Below w.heap.size w y.it := by rw [ey]; exact (by repeat (first | with_reducible exact Below.refl _ _ | with_reducible assumption | with_reducible refine Below.al ?_ _ | with_reducible refine Below.on ?_ _ | with_reducible refine Below.st ?_ (by first | assumption | (simp; done) | (simp; omega)) _ | with_reducible refine Below.drew ?_))
  have y0 : y.it.cell? ⟨w.heap.size, 0, none⟩ = some (.slice ca nc cc) := by rw [ey]; simp (maxDischargeDepth := 9) [go_sem, *]
  have y1 : y.it.cell? ⟨w.heap.size, 1, none⟩ = some (.int .i64 key) := by rw [ey]; simp (maxDischargeDepth := 9) [go_sem, *]
  have yz : w.heap.size < y.it.heap.size := by rw [ey]; simp
  have HCy := Lib.hid (HC.out.mono yb yb.size)
  have HNy := Lib.hid (HN.out.mono yb yb.size)
  have HRy := Lib.hid (HRW.out.mono yb yb.size)
  clear ey HC HN HRW
  obtain ⟨pe, hpe⟩ : ∃ pe, predF cs key ns = pe := ⟨_, rfl⟩
  have PC := Lib.hid (by have h := refPredCheck_any (.slice ca nc cc) cs key (.slice na m pc) ns y.it HCy.out HNy.out; rw [hpe] at h; exact h)
  by_cases p0 : pe = 0
  · subst p0
    obtain ⟨re, hre⟩ : ∃ re, rowE cs row = re := ⟨_, rfl⟩
    have CR := Lib.hid (fun x : Ext y.it => (by have h := checkRow_any (.slice ca nc cc) cs key (.slice ra mr rc) row x.it (HCy.out.mono x.below x.below.size) (HRy.out.mono x.below x.below.size); rw [hre] at h; exact h : Calls Try.prog 29 #[.agg #[.slice ca nc cc, .int .i64 key], .slice ra mr rc] x.it fun e w' => e = .returned (.int .i64 re) ∧ Below x.it.heap.size x.it w'))
    by_cases e0 : re = 0
    · subst e0
      have hrl : row.length = cs.length := by
        unfold rowE at hre
        by_cases q : row.length = cs.length
        · exact q
        · rw [if_neg q] at hre; exact absurd hre (by decide)
      have hE : (evalF cs row ns, (0 : Int)) = (r1, r2) := by rw [← HR.out]; unfold evalP; rw [if_pos hpe, if_pos hre]
      obtain ⟨rfl, rfl⟩ : evalF cs row ns = r1 ∧ 0 = r2 := by simpa using hE
      have ER := Lib.hid (fun x : Ext y.it => evalRow_any (.slice ca nc cc) cs key (.slice na m pc) ns (.slice ra mr rc) row x.it (HCy.out.mono x.below x.below.size) (HNy.out.mono x.below x.below.size) (HRy.out.mono x.below x.below.size) (predF_all hpe) hrl)
      clear hE hpe hre hrl HR
      go_wp2_with (first | (go_at_call 28; refine Calls.mono PC.out ?_; rintro e w1 ⟨rfl, hb1⟩; obtain ⟨x1, rfl⟩ := Ext.of hb1; have z1 := x1.lt yz) | (go_at_call 29; refine Calls.mono (CR.out x1) ?_; rintro e w2 ⟨rfl, hb2⟩; obtain ⟨x2, rfl⟩ := Ext.of (x1.below.trans (hb2.mono x1.below.size)); have z2 := x2.lt yz) | (go_at_call 30; refine Calls.mono (ER.out x2) ?_; rintro e w3 ⟨rfl, hb3⟩; obtain ⟨x3, rfl⟩ := Ext.of hb3))
      refine bodyPost_ret (v := .tuple #[.int .i64 (evalF cs row ns), .int .i64 0]) (by simp [results, Try.results17, go_sem, *]) rfl ⟨rfl, Below.on (Below.on yb x2) x3⟩
    · have e0' : (re != 0) = true := by simpa using e0
      have hE : ((0 : Int), re) = (r1, r2) := by rw [← HR.out]; unfold evalP; rw [if_pos hpe, if_neg (by rw [hre]; exact e0), hre]
      obtain ⟨rfl, rfl⟩ : 0 = r1 ∧ re = r2 := by simpa using hE
      clear hE hpe hre HR
      go_wp2_with (first | (go_at_call 28; refine Calls.mono PC.out ?_; rintro e w1 ⟨rfl, hb1⟩; obtain ⟨x1, rfl⟩ := Ext.of hb1; have z1 := x1.lt yz) | (go_at_call 29; refine Calls.mono (CR.out x1) ?_; rintro e w2 ⟨rfl, hb2⟩; obtain ⟨x2, rfl⟩ := Ext.of (x1.below.trans (hb2.mono x1.below.size)); have z2 := x2.lt yz))
      refine bodyPost_ret (v := .tuple #[.int .i64 0, .int .i64 re]) (by simp [results, Try.results17, go_sem, *]) rfl ⟨rfl, Below.on yb x2⟩
  · have p0' : (pe != 0) = true := by simpa using p0
    have hE : ((0 : Int), pe) = (r1, r2) := by rw [← HR.out]; unfold evalP; rw [if_neg (by rw [hpe]; exact p0), hpe]
    obtain ⟨rfl, rfl⟩ : 0 = r1 ∧ pe = r2 := by simpa using hE
    clear hE hpe HR
    go_wp2_with (go_at_call 28; refine Calls.mono PC.out ?_; rintro e w1 ⟨rfl, hb1⟩; obtain ⟨x1, rfl⟩ := Ext.of hb1; have z1 := x1.lt yz)
    refine bodyPost_ret (v := .tuple #[.int .i64 0, .int .i64 pe]) (by simp [results, Try.results17, go_sem, *]) rfl ⟨rfl, Below.on yb x1⟩
end Go.Proofs.Ytpahoenanfjhpaa
