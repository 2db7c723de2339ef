/-
  THE ORDER OF RECORDS: ref13.KeyType, batch.order, batch.Sorted and the reference's Sorted ('recD', 'sortedF'). Conditions: schema and records lie in memory as 'ColsAt', 'RecsAt' say; the key is a column where order is called.
-/
import Derived.Test.YtgooffpmiilicaaVld
import Derived.Test.YtgooffpmiilicaaOrr
set_option linter.unusedVariables false
set_option linter.unusedSimpArgs false
namespace Go.Proofs.Ytgooffpmiilicaa
open Go.RowKit
def tyK (cs : List Col) (key : Int) : Int := match cs[key.toNat]? with
  | some c => c.ty
  | none => 0
theorem tyK_at {cs : List Col} {K : Nat} (h : K < cs.length) : tyK cs K = (cs[K]'h).ty := by unfold tyK; simp only [Int.toNat_natCast, List.getElem?_eq_getElem h]
theorem schema_key {cs : List Col} {key : Int} (h : schemaF cs key = 0) : ∃ K : Nat, key = K ∧ K < cs.length := by
  unfold schemaF at h
  split at h
  · cases h
  split at h
  · cases h
  split at h
  · split at h
    · cases h
    · exact ⟨key.toNat, by omega, by omega⟩
  · rename_i q; exact absurd h q
theorem keyType_any (cv : Value) (cs : List Col) (K : Nat) (hk : K < cs.length) (w : World) (hc : ColsAt w w.heap.size cv cs) :
    Calls Try.prog 23 #[.agg #[cv, .int .i64 (K : Int)]] w fun e w' => e = .returned (.int .i64 (tyK cs K)) ∧ Below w.heap.size w w' := by
  rw [tyK_at hk]
  obtain ⟨ca, cc, rfl⟩ := cols_end hc
  obtain ⟨n, hn⟩ : ∃ n, cs.length = n := ⟨_, rfl⟩
  have h63 := hc.1
  obtain ⟨b, o, rfl, hcap, hb, c0, c1, c2, c3⟩ := cols_in hc hk
  obtain ⟨ty, hty⟩ : ∃ ty, (cs[K]'hk).ty = ty := ⟨_, rfl⟩
  rw [hty] at c1 ⊢
  rw [hn] at h63 ⊢
  have kn : (K : Int) < (n : Int) := by omega
  have nb : b ≠ w.heap.size := by omega
  clear hc c0 c2 c3 hn hty hcap hk
  go_enter Try.func23, Try.ntmps23
  go_wp2
  go_ret
  exact ⟨rfl, by repeat (first | with_reducible exact Below.refl _ _ | with_reducible assumption | with_reducible refine Below.al ?_ _ | with_reducible refine Below.on ?_ _ | with_reducible refine Below.st ?_ (by first | assumption | (simp; done) | (simp; omega)) _ | with_reducible refine Below.drew ?_)⟩
set_option maxRecDepth 8000 in
set_option maxHeartbeats 1000000 in
theorem border_any (cv : Value) (cs : List Col) (K : Nat) (hk : K < cs.length) (asq : Int) (alv : Value) (arow : List Val) (bsq : Int) (blv : Value) (brow : List Val) (w : World) (hc : ColsAt w w.heap.size cv cs) (ha : ValsAt w w.heap.size alv arow) (hb : ValsAt w w.heap.size blv brow) :
    Calls Try.prog 50 #[.agg #[cv, .int .i64 (K : Int)], .agg #[.int .i64 asq, alv], .agg #[.int .i64 bsq, blv]] w fun e w' => e = .returned (.int .i64 (recD (tyK cs K) K ⟨asq, arow⟩ ⟨bsq, brow⟩)) ∧ Below w.heap.size w w' := by
  rw [tyK_at hk]
  unfold recD
  obtain ⟨⟨⟨an, ai, as'⟩, p⟩, hA⟩ : ∃ r, rankF K ⟨asq, arow⟩ = r := ⟨_, rfl⟩
  obtain ⟨⟨⟨bn, bi, bs'⟩, q⟩, hB⟩ : ∃ r, rankF K ⟨bsq, brow⟩ = r := ⟨_, rfl⟩
  rw [hA, hB]
  obtain ⟨ty, hty⟩ : ∃ ty, (cs[K]'hk).ty = ty := ⟨_, rfl⟩
  obtain ⟨C, hC⟩ : ∃ C, cmpR ty ⟨⟨an, ai, as'⟩, p⟩ ⟨⟨bn, bi, bs'⟩, q⟩ = C := ⟨_, rfl⟩
  rw [hty, hC]
  have RA := Lib.hid (fun (W : World) (h : Below w.heap.size w W) => (by have z := rank_any cv K asq alv arow W (ha.mono h h.size); rw [hA] at z; exact z : Calls Try.prog 66 #[.agg #[cv, .int .i64 (K : Int)], .agg #[.int .i64 asq, alv]] W fun e w' => e = .returned (.agg #[.bool an, .int .i64 ai, .string as', .int .i64 p]) ∧ Below W.heap.size W w'))
  have RB := Lib.hid (fun (W : World) (h : Below w.heap.size w W) => (by have z := rank_any cv K bsq blv brow W (hb.mono h h.size); rw [hB] at z; exact z : Calls Try.prog 66 #[.agg #[cv, .int .i64 (K : Int)], .agg #[.int .i64 bsq, blv]] W fun e w' => e = .returned (.agg #[.bool bn, .int .i64 bi, .string bs', .int .i64 q]) ∧ Below W.heap.size W w'))
  have CM := Lib.hid (fun W => (by have z := bcompare_any ty an ai as' p bn bi bs' q W; rw [hC] at z; exact z : Calls Try.prog 41 #[.int .i64 ty, .agg #[.bool an, .int .i64 ai, .string as', .int .i64 p], .agg #[.bool bn, .int .i64 bi, .string bs', .int .i64 q]] W fun e w' => e = .returned (.int .i64 C) ∧ Below W.heap.size W w'))
  obtain ⟨ca, cc, rfl⟩ := cols_end hc
  obtain ⟨n, hn⟩ : ∃ n, cs.length = n := ⟨_, rfl⟩
  have h63 := hc.1
  obtain ⟨b, o, rfl, hcap, hbb, c0, c1, c2, c3⟩ := cols_in hc hk
  obtain ⟨la, lc, rfl⟩ := vals_end ha
  obtain ⟨ma, mc, rfl⟩ := vals_end hb
  rw [hty] at c1
  rw [hn] at RA RB h63 ⊢
  have kn : (K : Int) < (n : Int) := by omega
  have k0 : (0 : Int) ≤ (K : Int) := by omega
  clear hc ha hb c0 c2 c3 hn hty hcap hk hA hB hC
  generalize arow.length = m1 at *
  generalize brow.length = m2 at *
  go_enter Try.func50, Try.ntmps50
  go_upto_region 1 with fail
  refine captureM ?_
  intro y ey
  have yb : Below w.heap.size w y := by rw [ey]; exact (by repeat (first | with_reducible exact Below.refl _ _ | with_reducible assumption | with_reducible refine Below.al ?_ _ | with_reducible refine Below.on ?_ _ | with_reducible refine Below.st ?_ (by first | assumption | (simp; done) | (simp; omega)) _ | with_reducible refine Below.drew ?_))
  have YB := Lib.hid yb
  have s0 : y.cell? ⟨w.heap.size, 0, none⟩ = some (.slice (some ⟨b, o, none⟩) n cc) := by rw [ey]; simp (maxDischargeDepth := 9) [go_sem, *]
  have s1 : y.cell? ⟨w.heap.size, 1, none⟩ = some (.int .i64 (K : Int)) := by rw [ey]; simp (maxDischargeDepth := 9) [go_sem, *]
  have s2 : y.cell? ⟨w.heap.size + 1, 0, none⟩ = some (.int .i64 asq) := by rw [ey]; simp (maxDischargeDepth := 9) [go_sem, *]
  have s3 : y.cell? ⟨w.heap.size + 1, 1, none⟩ = some (.slice la m1 lc) := by rw [ey]; simp (maxDischargeDepth := 9) [go_sem, *]
  have s4 : y.cell? ⟨w.heap.size + 1 + 1, 0, none⟩ = some (.int .i64 bsq) := by rw [ey]; simp (maxDischargeDepth := 9) [go_sem, *]
  have s5 : y.cell? ⟨w.heap.size + 1 + 1, 1, none⟩ = some (.slice ma m2 mc) := by rw [ey]; simp (maxDischargeDepth := 9) [go_sem, *]
  have s6 := (yb.cell (p := ⟨b, o + K * 4 + 1, none⟩) hbb).trans c1
  have z0 : w.heap.size < y.heap.size := by rw [ey]; simp; omega
  have z1 : w.heap.size + 1 < y.heap.size := by rw [ey]; simp
  have z2 : w.heap.size + 1 + 1 < y.heap.size := by rw [ey]; simp
  have z3 : b < y.heap.size := by omega
  clear ey yb c1
  refine wp_region_ext (by kernel_rfl) (by kernel_rfl) ?_
  repeat (go_big_quiet_step ((first | (go_at_call 66; with_reducible exact Calls.ext (RA.out _ (Below.on YB.out _))) | (go_at_call 66; with_reducible exact Calls.ext (RB.out _ (Below.on YB.out _))) | (go_at_call 41; exact Calls.ext (CM.out _)))))
  refine wpQuiet_nil ?_
  rintro _ ⟨x, rfl⟩
  have yb := YB.out
  go_wp2_with fail
  go_ret
  exact ⟨rfl, by repeat (first | with_reducible exact Below.refl _ _ | with_reducible assumption | with_reducible refine Below.al ?_ _ | with_reducible refine Below.on ?_ _ | with_reducible refine Below.st ?_ (by first | assumption | (simp; done) | (simp; omega)) _ | with_reducible refine Below.drew ?_)⟩
def ascF (d : Rc → Rc → Int) : List Rc → Bool
  | [] => true
  | [_] => true
  | x :: y :: r => decide (d x y < 0) && ascF d (y :: r)
theorem ascF_short (d : Rc → Rc → Int) {l : List Rc} (h : l.length ≤ 1) : ascF d l = true := by
  match l, h with
  | [], _ => rfl
  | [_], _ => rfl
theorem ascF_drop (d : Rc → Rc → Int) {l : List Rc} {k : Nat} (h : k + 1 < l.length) : ascF d (l.drop k) = (decide (d (l[k]'(by omega)) (l[k + 1]'h) < 0) && ascF d (l.drop (k + 1))) := by
  rw [List.drop_eq_getElem_cons (show k < l.length by omega), List.drop_eq_getElem_cons h]
  rfl
def sortedF (cs : List Col) (key : Int) (rs : List Rc) : Bool := validF cs key rs && ascF (recD (tyK cs key) key) rs
theorem validF_key {cs : List Col} {key : Int} {rs : List Rc} (h : validF cs key rs = true) : ∃ K : Nat, key = K ∧ K < cs.length := by
  unfold validF at h
  rw [Bool.and_eq_true] at h
  exact schema_key (by simpa using h.1)
set_option maxRecDepth 8000 in
set_option maxHeartbeats 1000000 in
theorem sorted_any (cv : Value) (cs : List Col) (key : Int) (v : Value) (rs : List Rc) (w : World) (hc : ColsAt w w.heap.size cv cs) (h : RecsAt w w.heap.size v rs) :
    Calls Try.prog 30 #[.agg #[cv, .int .i64 key], v] w fun e w' => e = .returned (.bool (sortedF cs key rs)) ∧ Below w.heap.size w w' := by
  obtain ⟨V, hV⟩ : ∃ V, validF cs key rs = V := ⟨_, rfl⟩
  have VC := Lib.hid (fun (W : World) (hb : Below w.heap.size w W) => (by have q := valid_any cv cs key v rs W (hc.mono hb hb.size) (h.mono hb hb.size); rw [hV] at q; exact q : Calls Try.prog 49 #[.agg #[cv, .int .i64 key], v] W fun e w' => e = .returned (.bool V) ∧ Below W.heap.size W w'))
  obtain ⟨ca, cc, rfl⟩ := cols_end hc
  obtain ⟨ra, rc, rfl⟩ := recs_end h
  obtain ⟨nc, hnc⟩ : ∃ nc, cs.length = nc := ⟨_, rfl⟩
  obtain ⟨m, hm⟩ : ∃ m, rs.length = m := ⟨_, rfl⟩
  have h63 := h.1
  rw [hnc] at hc VC ⊢
  rw [hm] at h h63 VC ⊢
  have HC := Lib.hid hc
  have HR := Lib.hid h
  have HM := Lib.hid hm
  cases V with
  | false =>
    have E : sortedF cs key rs = false := by unfold sortedF; rw [hV]; rfl
    rw [E]
    clear E hV hc h hnc hm
    go_enter Try.func30, Try.ntmps30
    go_wp2_with (go_at_call 49; refine Calls.mono (VC.out _ (by repeat (first | with_reducible exact Below.refl _ _ | with_reducible assumption | with_reducible refine Below.al ?_ _ | with_reducible refine Below.on ?_ _ | with_reducible refine Below.st ?_ (by first | assumption | (simp; done) | (simp; omega)) _ | with_reducible refine Below.drew ?_))) ?_; rintro e w1 ⟨rfl, hb1⟩; obtain ⟨x1, rfl⟩ := Ext.of hb1; have z0 : w.heap.size < x1.it.heap.size := x1.lt (by (first | assumption | (simp; done) | (simp; omega))))
    exact bodyPost_ret (v := .bool false) (by simp [results, Try.results30, go_sem, *]) rfl (⟨rfl, by repeat (first | with_reducible exact Below.refl _ _ | with_reducible assumption | with_reducible refine Below.al ?_ _ | with_reducible refine Below.on ?_ _ | with_reducible refine Below.st ?_ (by first | assumption | (simp; done) | (simp; omega)) _ | with_reducible refine Below.drew ?_)⟩)
  | true =>
    obtain ⟨K, rfl, hk⟩ := validF_key hV
    have E : sortedF cs K rs = ascF (recD (tyK cs K) K) rs := by unfold sortedF; rw [hV]; rfl
    rw [E]
    have HK0 := Lib.hid hk
    obtain ⟨B, hB⟩ : ∃ B, ascF (recD (tyK cs K) K) rs = B := ⟨_, rfl⟩
    rw [hB]
    have HB := Lib.hid hB
    clear E hV hc h hnc hm hB hk
    go_enter Try.func30, Try.ntmps30
    go_upto_region 3 with (go_at_call 49; refine Calls.mono (VC.out _ (by repeat (first | with_reducible exact Below.refl _ _ | with_reducible assumption | with_reducible refine Below.al ?_ _ | with_reducible refine Below.on ?_ _ | with_reducible refine Below.st ?_ (by first | assumption | (simp; done) | (simp; omega)) _ | with_reducible refine Below.drew ?_))) ?_; rintro e w1 ⟨rfl, hb1⟩; obtain ⟨x1, rfl⟩ := Ext.of hb1; have z0 : w.heap.size < x1.it.heap.size := x1.lt (by (first | assumption | (simp; done) | (simp; omega))))
    refine captureP ?_
    intro y ey
    have yb : Below w.heap.size w y.it := by rw [ey]; exact (by repeat (first | with_reducible exact Below.refl _ _ | with_reducible assumption | with_reducible refine Below.al ?_ _ | with_reducible refine Below.on ?_ _ | with_reducible refine Below.st ?_ (by first | assumption | (simp; done) | (simp; omega)) _ | with_reducible refine Below.drew ?_))
    have y0 : y.it.cell? ⟨w.heap.size, 0, none⟩ = some (.slice ca nc cc) := by rw [ey]; simp (maxDischargeDepth := 9) [go_sem, *]
    have y1 : y.it.cell? ⟨w.heap.size, 1, none⟩ = some (.int .i64 (K : Int)) := by rw [ey]; simp (maxDischargeDepth := 9) [go_sem, *]
    have yz : w.heap.size < y.it.heap.size := by rw [ey]; (first | with_reducible assumption | (simp only [World.size_setCell, World.size_alloc, World.size_drew]; first | with_reducible assumption | omega))
    clear ey
    go_wp2_with fail
    go_loopg [5] (m - 1) (fun g st wr => ∃ k : Nat, k + g = m - 1 ∧ st = .int .i64 ((k : Int) + 1) ∧ ascF (recD (tyK cs K) K) (rs.drop k) = B ∧ ∃ x : Ext y.it, x.it = wr)
    case atStart => exact ⟨0, by omega, by go_num, by simpa using HB.out, ext_of (Below.refl _ _)⟩
    case round =>
      obtain ⟨k, hk, rfl, hF, x, rfl⟩ := hrel
      have hx := Below.on yb x
      have s0 := (x.cell w.heap.size 0 yz).trans y0
      have s1 := (x.cell w.heap.size 1 yz).trans y1
      have zw := x.lt yz
      by_cases hg0 : gk = 0
      · subst hg0
        have hkm : ¬ ((k : Int) + 1 < (m : Int)) := by omega
        obtain rfl : true = B := by rw [← hF]; exact (ascF_short _ (by rw [List.length_drop, HM.out]; omega)).symm
        clear hF hk
        go_wp2
        exact bodyPost_ret (v := .bool true) (by simp [results, Try.results30, go_sem, *]) rfl (⟨rfl, by repeat (first | with_reducible exact Below.refl _ _ | with_reducible assumption | with_reducible refine Below.al ?_ _ | with_reducible refine Below.on ?_ _ | with_reducible refine Below.st ?_ (by first | assumption | (simp; done) | (simp; omega)) _ | with_reducible refine Below.drew ?_)⟩)
      · have hkm : (k : Int) + 1 < (m : Int) := by omega
        have hk1 : k + 1 < rs.length := by rw [HM.out]; omega
        have hk0 : k < rs.length := by omega
        have AD := ascF_drop (recD (tyK cs K) K) hk1
        rw [hF] at AD
        obtain ⟨rb, ro, rfl, _, hrb, c0, lv, c1, hlv⟩ := recs_in HR.out hk0
        obtain ⟨rb2, ro2, e2, _, _, d0, mv, d1, hmv⟩ := recs_in HR.out hk1
        injection e2 with e2
        injection e2 with e2 e3
        subst e2 e3
        obtain ⟨⟨asq, arow⟩, hd⟩ : ∃ d, rs[k]'hk0 = d := ⟨_, rfl⟩
        obtain ⟨⟨bsq, brow⟩, hd2⟩ : ∃ d, rs[k + 1]'hk1 = d := ⟨_, rfl⟩
        rw [hd] at c0 hlv AD
        rw [hd2] at d0 hmv AD
        dsimp only at c0 hlv d0 hmv
        have f0 := (hx.cell (p := ⟨rb, ro + k * 2, none⟩) hrb).trans c0
        have f1 := (hx.cell (p := ⟨rb, ro + k * 2 + 1, none⟩) hrb).trans c1
        have g0 := (hx.cell (p := ⟨rb, ro + (k + 1) * 2, none⟩) hrb).trans d0
        have g1 := (hx.cell (p := ⟨rb, ro + (k + 1) * 2 + 1, none⟩) hrb).trans d1
        have zr : rb < x.it.heap.size := Nat.lt_of_lt_of_le hrb hx.size
        obtain ⟨C, hC⟩ : ∃ C, recD (tyK cs K) K ⟨asq, arow⟩ ⟨bsq, brow⟩ = C := ⟨_, rfl⟩
        rw [hC] at AD
        have HX := Lib.hid hx
        have HAD := Lib.hid AD
        have HK := Lib.hid (And.intro hk hg0)
        have OC := Lib.hid (fun (W : World) (h : Below x.it.heap.size x.it W) => (by have z := border_any _ cs K HK0.out asq lv arow bsq mv brow W (HC.out.mono (Below.to hx h) (Below.to hx h).size) (hlv.mono (Below.to hx h) (Below.to hx h).size) (hmv.mono (Below.to hx h) (Below.to hx h).size); rw [hC] at z; exact z : Calls Try.prog 50 #[.agg #[.slice ca nc cc, .int .i64 (K : Int)], .agg #[.int .i64 asq, lv], .agg #[.int .i64 bsq, mv]] W fun e w' => e = .returned (.int .i64 C) ∧ Below W.heap.size W w'))
        obtain ⟨la, lc, rfl⟩ := vals_end hlv
        obtain ⟨ma, mc, rfl⟩ := vals_end hmv
        generalize arow.length = m1 at *
        generalize brow.length = m2 at *
        have i0 : IntKind.i64.wrap ((k : Int) + 1 - 1) = (k : Int) := by rw [IntKind.wrap_i64]; omega
        have i0' : (k : Int) + 1 - 1 = (k : Int) := by omega
        have i1 : (0 : Int) ≤ (k : Int) + 1 := by omega
        have i2 : ((k : Int) + 1).toNat = k + 1 := by omega
        have i3 : (0 : Int) ≤ (k : Int) := by omega
        have i4 : (k : Int) < (m : Int) := by omega
        clear c0 c1 d0 d1 hk hg0 hF AD hlv hmv hd hd2 hk0 hk1 hC
        by_cases s2 : C < 0
        · have t0 : decide (C < 0) = true := by simpa using s2
          have t1 : ¬ (C ≥ 0) := by omega
          have t2 : decide (0 ≤ C) = false := by simp; omega
          have F2 := Lib.hid (show ascF (recD (tyK cs K) K) (rs.drop (k + 1)) = B by rw [HAD.out, t0, Bool.true_and])
          go_upto_region 6 with fail
          refine wp_region_ext (by kernel_rfl) (by kernel_rfl) ?_
          repeat (go_big_quiet_step (((go_at_call 50; exact Calls.ext (OC.out _ (Ext.below _))))))
          refine wpQuiet_nil ?_
          rintro _ ⟨x2, rfl⟩
          clear i0 i0' i1 i2 i3 i4
          go_wp2_with fail
          go_roundg (gk - 1)
          case measure => have := HK.out; omega
          case rel => exact ⟨k + 1, by have := HK.out; omega, by go_num, F2.out, ext_of (Below.on x.below x2)⟩
        · have t0 : decide (C < 0) = false := by simpa using s2
          have t1 : C ≥ 0 := by omega
          have t2 : decide (0 ≤ C) = true := by simp; omega
          obtain rfl : false = B := by rw [HAD.out, t0, Bool.false_and]
          go_upto_region 6 with fail
          refine wp_region_ext (by kernel_rfl) (by kernel_rfl) ?_
          repeat (go_big_quiet_step (((go_at_call 50; exact Calls.ext (OC.out _ (Ext.below _))))))
          refine wpQuiet_nil ?_
          rintro _ ⟨x2, rfl⟩
          clear i0 i0' i1 i2 i3 i4
          go_wp2_with fail
          exact bodyPost_ret (v := .bool false) (by simp [results, Try.results30, go_sem, *]) rfl (⟨rfl, by repeat (first | with_reducible exact Below.refl _ _ | with_reducible assumption | with_reducible refine Below.al ?_ _ | with_reducible refine Below.on ?_ _ | with_reducible refine Below.st ?_ (by first | assumption | (simp; done) | (simp; omega)) _ | with_reducible refine Below.drew ?_)⟩)
set_option maxRecDepth 8000 in
set_option maxHeartbeats 1000000 in
theorem refSorted_any (cv : Value) (cs : List Col) (key : Int) (v : Value) (rs : List Rc) (w : World) (hc : ColsAt w w.heap.size cv cs) (h : RecsAt w w.heap.size v rs) :
    Calls Try.prog 25 #[.agg #[cv, .int .i64 key], v] w fun e w' => e = .returned (.bool (sortedF cs key rs)) ∧ Below w.heap.size w w' := by
  obtain ⟨V, hV⟩ : ∃ V, validF cs key rs = V := ⟨_, rfl⟩
  have VC := Lib.hid (fun (W : World) (hb : Below w.heap.size w W) => (by have q := refValid_any cv cs key v rs W (hc.mono hb hb.size) (h.mono hb hb.size); rw [hV] at q; exact q : Calls Try.prog 44 #[.agg #[cv, .int .i64 key], v] W fun e w' => e = .returned (.bool V) ∧ Below W.heap.size W w'))
  obtain ⟨ca, cc, rfl⟩ := cols_end hc
  obtain ⟨ra, rc, rfl⟩ := recs_end h
  obtain ⟨nc, hnc⟩ : ∃ nc, cs.length = nc := ⟨_, rfl⟩
  obtain ⟨m, hm⟩ : ∃ m, rs.length = m := ⟨_, rfl⟩
  have h63 := h.1
  rw [hnc] at hc VC ⊢
  rw [hm] at h h63 VC ⊢
  have HC := Lib.hid hc
  have HR := Lib.hid h
  have HM := Lib.hid hm
  cases V with
  | false =>
    have E : sortedF cs key rs = false := by unfold sortedF; rw [hV]; rfl
    rw [E]
    clear E hV hc h hnc hm
    go_enter Try.func25, Try.ntmps25
    go_wp2_with (go_at_call 44; refine Calls.mono (VC.out _ (by repeat (first | with_reducible exact Below.refl _ _ | with_reducible assumption | with_reducible refine Below.al ?_ _ | with_reducible refine Below.on ?_ _ | with_reducible refine Below.st ?_ (by first | assumption | (simp; done) | (simp; omega)) _ | with_reducible refine Below.drew ?_))) ?_; rintro e w1 ⟨rfl, hb1⟩; obtain ⟨x1, rfl⟩ := Ext.of hb1; have z0 : w.heap.size < x1.it.heap.size := x1.lt (by (first | assumption | (simp; done) | (simp; omega))))
    exact bodyPost_ret (v := .bool false) (by simp [results, Try.results25, go_sem, *]) rfl (⟨rfl, by repeat (first | with_reducible exact Below.refl _ _ | with_reducible assumption | with_reducible refine Below.al ?_ _ | with_reducible refine Below.on ?_ _ | with_reducible refine Below.st ?_ (by first | assumption | (simp; done) | (simp; omega)) _ | with_reducible refine Below.drew ?_)⟩)
  | true =>
    obtain ⟨K, rfl, hk⟩ := validF_key hV
    have E : sortedF cs K rs = ascF (recD (tyK cs K) K) rs := by unfold sortedF; rw [hV]; rfl
    rw [E]
    have HK0 := Lib.hid hk
    obtain ⟨B, hB⟩ : ∃ B, ascF (recD (tyK cs K) K) rs = B := ⟨_, rfl⟩
    rw [hB]
    have HB := Lib.hid hB
    clear E hV hc h hnc hm hB hk
    go_enter Try.func25, Try.ntmps25
    go_upto_region 3 with (go_at_call 44; refine Calls.mono (VC.out _ (by repeat (first | with_reducible exact Below.refl _ _ | with_reducible assumption | with_reducible refine Below.al ?_ _ | with_reducible refine Below.on ?_ _ | with_reducible refine Below.st ?_ (by first | assumption | (simp; done) | (simp; omega)) _ | with_reducible refine Below.drew ?_))) ?_; rintro e w1 ⟨rfl, hb1⟩; obtain ⟨x1, rfl⟩ := Ext.of hb1; have z0 : w.heap.size < x1.it.heap.size := x1.lt (by (first | assumption | (simp; done) | (simp; omega))))
    refine captureP ?_
    intro y ey
    have yb : Below w.heap.size w y.it := by rw [ey]; exact (by repeat (first | with_reducible exact Below.refl _ _ | with_reducible assumption | with_reducible refine Below.al ?_ _ | with_reducible refine Below.on ?_ _ | with_reducible refine Below.st ?_ (by first | assumption | (simp; done) | (simp; omega)) _ | with_reducible refine Below.drew ?_))
    have y0 : y.it.cell? ⟨w.heap.size, 0, none⟩ = some (.slice ca nc cc) := by rw [ey]; simp (maxDischargeDepth := 9) [go_sem, *]
    have y1 : y.it.cell? ⟨w.heap.size, 1, none⟩ = some (.int .i64 (K : Int)) := by rw [ey]; simp (maxDischargeDepth := 9) [go_sem, *]
    have yz : w.heap.size < y.it.heap.size := by rw [ey]; (first | with_reducible assumption | (simp only [World.size_setCell, World.size_alloc, World.size_drew]; first | with_reducible assumption | omega))
    clear ey
    go_wp2_with fail
    go_loopg [5] (m - 1) (fun g st wr => ∃ k : Nat, k + g = m - 1 ∧ st = .int .i64 ((k : Int) + 1) ∧ ascF (recD (tyK cs K) K) (rs.drop k) = B ∧ ∃ x : Ext y.it, x.it = wr)
    case atStart => exact ⟨0, by omega, by go_num, by simpa using HB.out, ext_of (Below.refl _ _)⟩
    case round =>
      obtain ⟨k, hk, rfl, hF, x, rfl⟩ := hrel
      have hx := Below.on yb x
      have s0 := (x.cell w.heap.size 0 yz).trans y0
      have s1 := (x.cell w.heap.size 1 yz).trans y1
      have zw := x.lt yz
      by_cases hg0 : gk = 0
      · subst hg0
        have hkm : ¬ ((k : Int) + 1 < (m : Int)) := by omega
        obtain rfl : true = B := by rw [← hF]; exact (ascF_short _ (by rw [List.length_drop, HM.out]; omega)).symm
        clear hF hk
        go_wp2
        exact bodyPost_ret (v := .bool true) (by simp [results, Try.results25, go_sem, *]) rfl (⟨rfl, by repeat (first | with_reducible exact Below.refl _ _ | with_reducible assumption | with_reducible refine Below.al ?_ _ | with_reducible refine Below.on ?_ _ | with_reducible refine Below.st ?_ (by first | assumption | (simp; done) | (simp; omega)) _ | with_reducible refine Below.drew ?_)⟩)
      · have hkm : (k : Int) + 1 < (m : Int) := by omega
        have hk1 : k + 1 < rs.length := by rw [HM.out]; omega
        have hk0 : k < rs.length := by omega
        have AD := ascF_drop (recD (tyK cs K) K) hk1
        rw [hF] at AD
        obtain ⟨rb, ro, rfl, _, hrb, c0, lv, c1, hlv⟩ := recs_in HR.out hk0
        obtain ⟨rb2, ro2, e2, _, _, d0, mv, d1, hmv⟩ := recs_in HR.out hk1
        injection e2 with e2
        injection e2 with e2 e3
        subst e2 e3
        obtain ⟨⟨asq, arow⟩, hd⟩ : ∃ d, rs[k]'hk0 = d := ⟨_, rfl⟩
        obtain ⟨⟨bsq, brow⟩, hd2⟩ : ∃ d, rs[k + 1]'hk1 = d := ⟨_, rfl⟩
        rw [hd] at c0 hlv AD
        rw [hd2] at d0 hmv AD
        dsimp only at c0 hlv d0 hmv
        have f0 := (hx.cell (p := ⟨rb, ro + k * 2, none⟩) hrb).trans c0
        have f1 := (hx.cell (p := ⟨rb, ro + k * 2 + 1, none⟩) hrb).trans c1
        have g0 := (hx.cell (p := ⟨rb, ro + (k + 1) * 2, none⟩) hrb).trans d0
        have g1 := (hx.cell (p := ⟨rb, ro + (k + 1) * 2 + 1, none⟩) hrb).trans d1
        have zr : rb < x.it.heap.size := Nat.lt_of_lt_of_le hrb hx.size
        obtain ⟨C, hC⟩ : ∃ C, recD (tyK cs K) K ⟨asq, arow⟩ ⟨bsq, brow⟩ = C := ⟨_, rfl⟩
        rw [hC] at AD
        have HX := Lib.hid hx
        have HAD := Lib.hid AD
        have HK := Lib.hid (And.intro hk hg0)
        obtain ⟨⟨⟨an, ai, as'⟩, p⟩, hA⟩ : ∃ r, rankF K ⟨asq, arow⟩ = r := ⟨_, rfl⟩
        obtain ⟨⟨⟨bn, bi, bs'⟩, q⟩, hB2⟩ : ∃ r, rankF K ⟨bsq, brow⟩ = r := ⟨_, rfl⟩
        unfold recD at hC
        rw [hA, hB2] at hC
        obtain ⟨ty, hty⟩ : ∃ ty, tyK cs K = ty := ⟨_, rfl⟩
        rw [hty] at hC
        have RA := Lib.hid (fun (W : World) (h : Below x.it.heap.size x.it W) => (by have z := refRank_any (.slice ca nc cc) K asq lv arow W (hlv.mono (Below.to hx h) (Below.to hx h).size); rw [hA] at z; exact z : Calls Try.prog 24 #[.agg #[.slice ca nc cc, .int .i64 (K : Int)], .agg #[.int .i64 asq, lv]] W fun e w' => e = .returned (.agg #[.bool an, .int .i64 ai, .string as', .int .i64 p]) ∧ Below W.heap.size W w'))
        have RB := Lib.hid (fun (W : World) (h : Below x.it.heap.size x.it W) => (by have z := refRank_any (.slice ca nc cc) K bsq mv brow W (hmv.mono (Below.to hx h) (Below.to hx h).size); rw [hB2] at z; exact z : Calls Try.prog 24 #[.agg #[.slice ca nc cc, .int .i64 (K : Int)], .agg #[.int .i64 bsq, mv]] W fun e w' => e = .returned (.agg #[.bool bn, .int .i64 bi, .string bs', .int .i64 q]) ∧ Below W.heap.size W w'))
        have CM := Lib.hid (fun W => (by have z := refCompareR_any ty an ai as' p bn bi bs' q W; rw [hC] at z; exact z : Calls Try.prog 20 #[.int .i64 ty, .agg #[.bool an, .int .i64 ai, .string as', .int .i64 p], .agg #[.bool bn, .int .i64 bi, .string bs', .int .i64 q]] W fun e w' => e = .returned (.int .i64 C) ∧ Below W.heap.size W w'))
        have KY := Lib.hid (fun (W : World) (h : Below x.it.heap.size x.it W) => (by have z := keyType_any (.slice ca nc cc) cs K HK0.out W (HC.out.mono (Below.to hx h) (Below.to hx h).size); rw [hty] at z; exact z : Calls Try.prog 23 #[.agg #[.slice ca nc cc, .int .i64 (K : Int)]] W fun e w' => e = .returned (.int .i64 ty) ∧ Below W.heap.size W w'))
        obtain ⟨la, lc, rfl⟩ := vals_end hlv
        obtain ⟨ma, mc, rfl⟩ := vals_end hmv
        generalize arow.length = m1 at *
        generalize brow.length = m2 at *
        have i0 : IntKind.i64.wrap ((k : Int) + 1 - 1) = (k : Int) := by rw [IntKind.wrap_i64]; omega
        have i0' : (k : Int) + 1 - 1 = (k : Int) := by omega
        have i1 : (0 : Int) ≤ (k : Int) + 1 := by omega
        have i2 : ((k : Int) + 1).toNat = k + 1 := by omega
        have i3 : (0 : Int) ≤ (k : Int) := by omega
        have i4 : (k : Int) < (m : Int) := by omega
        clear c0 c1 d0 d1 hk hg0 hF AD hlv hmv hd hd2 hk0 hk1 hC
        by_cases s2 : C < 0
        · have t0 : decide (C < 0) = true := by simpa using s2
          have t1 : ¬ (C ≥ 0) := by omega
          have t2 : decide (0 ≤ C) = false := by simp; omega
          have F2 := Lib.hid (show ascF (recD (tyK cs K) K) (rs.drop (k + 1)) = B by rw [HAD.out, t0, Bool.true_and])
          go_upto_region 6 with fail
          refine wp_region_ext (by kernel_rfl) (by kernel_rfl) ?_
          repeat (go_big_quiet_step ((first | (go_at_call 23; exact Calls.ext (KY.out _ (Ext.below _))) | (go_at_call 24; with_reducible exact Calls.ext (RA.out _ (Ext.below _))) | (go_at_call 24; with_reducible exact Calls.ext (RB.out _ (Ext.below _))) | (go_at_call 20; exact Calls.ext (CM.out _)))))
          refine wpQuiet_nil ?_
          rintro _ ⟨x2, rfl⟩
          clear i0 i0' i1 i2 i3 i4
          go_wp2_with fail
          go_roundg (gk - 1)
          case measure => have := HK.out; omega
          case rel => exact ⟨k + 1, by have := HK.out; omega, by go_num, F2.out, ext_of (Below.on x.below x2)⟩
        · have t0 : decide (C < 0) = false := by simpa using s2
          have t1 : C ≥ 0 := by omega
          have t2 : decide (0 ≤ C) = true := by simp; omega
          obtain rfl : false = B := by rw [HAD.out, t0, Bool.false_and]
          go_upto_region 6 with fail
          refine wp_region_ext (by kernel_rfl) (by kernel_rfl) ?_
          repeat (go_big_quiet_step ((first | (go_at_call 23; exact Calls.ext (KY.out _ (Ext.below _))) | (go_at_call 24; with_reducible exact Calls.ext (RA.out _ (Ext.below _))) | (go_at_call 24; with_reducible exact Calls.ext (RB.out _ (Ext.below _))) | (go_at_call 20; exact Calls.ext (CM.out _)))))
          refine wpQuiet_nil ?_
          rintro _ ⟨x2, rfl⟩
          clear i0 i0' i1 i2 i3 i4
          go_wp2_with fail
          exact bodyPost_ret (v := .bool false) (by simp [results, Try.results25, go_sem, *]) rfl (⟨rfl, by repeat (first | with_reducible exact Below.refl _ _ | with_reducible assumption | with_reducible refine Below.al ?_ _ | with_reducible refine Below.on ?_ _ | with_reducible refine Below.st ?_ (by first | assumption | (simp; done) | (simp; omega)) _ | with_reducible refine Below.drew ?_)⟩)
end Go.Proofs.Ytgooffpmiilicaa
