/-
  CHAPTER 26: Vsl, Vse, Row (several texts in one). Conditions: each theorem states its own.
-/
import Derived.Test.YtpahoenanfjhpaaGreatZd
import Derived.Test.YtpahoenanfjhpaaGreatZh
set_option linter.unusedVariables false
set_option linter.unusedSimpArgs false
namespace Go.Proofs.YtpahoenanfjhpaaGreat
open Go.RowKit
set_option maxRecDepth 8000 in
set_option maxHeartbeats 1000000 in
theorem same_vals (va vb : Value) (xs : List Val) (w : World) (ha : ValsAt w w.heap.size va xs) (hb : ValsAt w w.heap.size vb xs) :
    Calls Tryz.prog 46 #[va, vb] w fun e w' => e = .returned (.bool true) ∧ Below w.heap.size w w' := by
  obtain ⟨aa, ac, rfl⟩ := vals_end ha
  obtain ⟨ba, bc, rfl⟩ := vals_end hb
  obtain ⟨n, hn⟩ : ∃ n, xs.length = n := ⟨_, rfl⟩
  have n63 := ha.1
  have HA := Lib.hid ha
  have HB := Lib.hid hb
  have HN := Lib.hid hn
  rw [hn] at n63 HA HB ⊢
  clear ha hb hn
  go_enter Tryz.func46, Tryz.ntmps46
  go_wp2_with fail
  go_loopg [13] n (fun g st wr => ∃ k : Nat, k + g = n ∧ st = .int .i64 (k : Int) ∧ ∃ x : Ext w, x.it = wr)
  case atStart => exact ⟨0, by omega, rfl, ⟨w, Below.refl _ _⟩, rfl⟩
  case round =>
    obtain ⟨k, hk, rfl, x, rfl⟩ := hrel
    have hx := x.below
    by_cases hg0 : gk = 0
    · subst hg0
      obtain rfl : k = n := by omega
      clear hk
      go_wp2
      exact bodyPost_ret (v := .bool true) (by simp [results, Tryz.results46, go_sem, *]) rfl (⟨rfl, by with_reducible repeat (first | exact Below.refl _ _ | assumption | refine Below.al ?_ _ | refine Below.on ?_ _ | refine Below.st ?_ (by first | assumption | (simp; done) | (simp; omega)) _ | refine Below.drew ?_)⟩)
    · have hkm : k < n := by omega
      have hkm' : (k : Int) < (n : Int) := by omega
      have hkx : k < xs.length := by rw [HN.out]; exact hkm
      obtain ⟨b1, o1, rfl, _, hb1, c0, c1, c2⟩ := vals_in HA.out hkx
      obtain ⟨b2, o2, rfl, _, hb2, d0, d1, d2⟩ := vals_in HB.out hkx
      obtain ⟨u, hu⟩ : ∃ u, xs[k]'hkx = u := ⟨_, rfl⟩
      rw [hu] at c0 c1 c2 d0 d1 d2
      obtain ⟨un, ui, us⟩ := u
      dsimp only at c0 c1 c2 d0 d1 d2
      have f0 := (hx.cell (p := ⟨b1, o1 + k * 3, none⟩) hb1).trans c0
      have f1 := (hx.cell (p := ⟨b1, o1 + k * 3 + 1, none⟩) hb1).trans c1
      have f2 := (hx.cell (p := ⟨b1, o1 + k * 3 + 2, none⟩) hb1).trans c2
      have g0 := (hx.cell (p := ⟨b2, o2 + k * 3, none⟩) hb2).trans d0
      have g1 := (hx.cell (p := ⟨b2, o2 + k * 3 + 1, none⟩) hb2).trans d1
      have g2 := (hx.cell (p := ⟨b2, o2 + k * 3 + 2, none⟩) hb2).trans d2
      have z1 : b1 < x.it.heap.size := Nat.lt_of_lt_of_le hb1 hx.size
      have z2 : b2 < x.it.heap.size := Nat.lt_of_lt_of_le hb2 hx.size
      have HK := Lib.hid (And.intro hk hg0)
      clear hk hg0 hu c0 c1 c2 d0 d1 d2
      go_upto_region 6 with fail
      refine wp_region_ext (by kernel_rfl) (by kernel_rfl) ?_
      repeat (go_big_quiet_step ((fail)))
      refine wpQuiet_nil ?_
      rintro _ ⟨x5, rfl⟩
      go_wp2
      go_roundg (gk - 1)
      case measure => have := HK.out; omega
      case rel => exact ⟨k + 1, by have := HK.out; omega, by go_num, ⟨x5.it, Below.on hx x5⟩, rfl⟩
set_option maxRecDepth 8000 in
set_option maxHeartbeats 1000000 in
theorem same_lists (va vb : Value) (xs : List (List Val)) (w : World) (ha : RowsAt w w.heap.size va xs) (hb : RowsAt w w.heap.size vb xs) :
    Calls Tryz.prog 17 #[va, vb] w fun e w' => e = .returned (.bool true) ∧ Below w.heap.size w w' := by
  obtain ⟨aa, ac, rfl⟩ := rows_end ha
  obtain ⟨ba, bc, rfl⟩ := rows_end hb
  obtain ⟨n, hn⟩ : ∃ n, xs.length = n := ⟨_, rfl⟩
  have n63 := ha.1
  have HA := Lib.hid ha
  have HB := Lib.hid hb
  have HN := Lib.hid hn
  rw [hn] at n63 HA HB ⊢
  clear ha hb hn
  go_enter Tryz.func17, Tryz.ntmps17
  go_wp2_with fail
  go_loopg [13] n (fun g st wr => ∃ k : Nat, k + g = n ∧ st = .int .i64 (k : Int) ∧ ∃ x : Ext w, x.it = wr)
  case atStart => exact ⟨0, by omega, rfl, ⟨w, Below.refl _ _⟩, rfl⟩
  case round =>
    obtain ⟨k, hk, rfl, x, rfl⟩ := hrel
    have hx := x.below
    by_cases hg0 : gk = 0
    · subst hg0
      obtain rfl : k = n := by omega
      clear hk
      go_wp2
      exact bodyPost_ret (v := .bool true) (by simp [results, Tryz.results17, go_sem, *]) rfl (⟨rfl, by with_reducible repeat (first | exact Below.refl _ _ | assumption | refine Below.al ?_ _ | refine Below.on ?_ _ | refine Below.st ?_ (by first | assumption | (simp; done) | (simp; omega)) _ | refine Below.drew ?_)⟩)
    · have hkm : k < n := by omega
      have hkm' : (k : Int) < (n : Int) := by omega
      have hkx : k < xs.length := by rw [HN.out]; exact hkm
      obtain ⟨b1, o1, rfl, _, hb1, l1, e1, h1⟩ := rows_in HA.out hkx
      obtain ⟨b2, o2, rfl, _, hb2, l2, e2, h2⟩ := rows_in HB.out hkx
      have f0 := (hx.cell (p := ⟨b1, o1 + k, none⟩) hb1).trans e1
      have g0 := (hx.cell (p := ⟨b2, o2 + k, none⟩) hb2).trans e2
      have z1 : b1 < x.it.heap.size := Nat.lt_of_lt_of_le hb1 hx.size
      have z2 : b2 < x.it.heap.size := Nat.lt_of_lt_of_le hb2 hx.size
      obtain ⟨l1a, l1c, rfl⟩ := vals_end h1
      obtain ⟨l2a, l2c, rfl⟩ := vals_end h2
      have SE := Lib.hid (fun W (hW : Below w.heap.size w W) => same_vals _ _ _ W (h1.mono hW hW.size) (h2.mono hW hW.size))
      have HK := Lib.hid (And.intro hk hg0)
      clear hk hg0 e1 e2 h1 h2
      go_upto_region 6 with fail
      refine wp_region_ext (by kernel_rfl) (by kernel_rfl) ?_
      repeat (go_big_quiet_step (((go_at_call 46; exact Calls.ext (SE.out _ (by with_reducible repeat (first | exact Below.refl _ _ | assumption | refine Below.al ?_ _ | refine Below.on ?_ _ | refine Below.st ?_ (by first | assumption | (simp; done) | (simp; omega)) _ | refine Below.drew ?_)))))))
      refine wpQuiet_nil ?_
      rintro _ ⟨x5, rfl⟩
      go_wp2
      go_roundg (gk - 1)
      case measure => have := HK.out; omega
      case rel => exact ⟨k + 1, by have := HK.out; omega, by go_num, ⟨x5.it, Below.on hx x5⟩, rfl⟩
end Go.Proofs.YtpahoenanfjhpaaGreat
namespace Go.Proofs.YtpahoenanfjhpaaGreat
open Go.RowKit
/-- The places of True. -/
def selF (zs : List Int) : Nat → List Int
  | 0 => []
  | k + 1 => if zs.getD k 0 = 1 then selF zs k ++ [(k : Int)] else selF zs k
theorem selF_len (zs : List Int) (k : Nat) : (selF zs k).length ≤ k := by
  induction k with
  | zero => simp [selF]
  | succ k ih => unfold selF; split <;> (try simp) <;> omega
theorem selF_lt (zs : List Int) (k : Nat) : ∀ i ∈ selF zs k, 0 ≤ i ∧ i < k := by
  induction k with
  | zero => simp [selF]
  | succ k ih =>
    unfold selF
    intro i hi
    split at hi
    · rw [List.mem_append] at hi
      rcases hi with h | h
      · have := ih i h; omega
      · simp at h; omega
    · have := ih i hi; omega
def intC (i : Int) : List Value := [.int .i64 i]
theorem infoInt1 : (Tryz.prog.info? 3).map (fun i => (i.zero, i.size, i.bytes)) = some (some (.int .i64 0), 1, 8) := by kernel_rfl
theorem own_ints {w : World} {base : Nat} {e : TypeId} {v : Value} {cs : List Int} (hi : ∀ z ∈ cs, isI z) (hl : cs.length ≤ 9223372036854775807) (h : w.ownsRow base e 1 v cs.length (cs.flatMap intC)) : IntsAt w w.heap.size v cs := by
  rcases own_at (f := intC) (k := 1) (fun _ => rfl) h with ⟨rfl, rfl⟩ | ⟨g, c, rfl, hc, _, hg, H⟩
  · exact ⟨hi, hl, .inl ⟨rfl, none, 0, rfl⟩⟩
  · refine ⟨hi, hl, .inr ⟨g, 0, c, rfl, hg, fun j hj => ?_⟩⟩
    have := H j hj 0 (.int .i64 (cs[j]'hj)) (by omega) rfl
    rw [List.getD_eq_getElem?_getD, List.getElem?_eq_getElem hj]
    simpa using this
set_option maxRecDepth 8000 in
set_option maxHeartbeats 1000000 in
theorem select_ints (v : Value) (zs : List Int) (w : World) (h : IntsAt w w.heap.size v zs) (h4 : zs.length ≤ 4096) :
    Calls Tryz.prog 38 #[v] w fun e w' => ∃ u, e = .returned u ∧ IntsAt w' w'.heap.size u (selF zs zs.length) ∧ Below w.heap.size w w' := by
  obtain ⟨i0, hi, hz0, hz1, hz2⟩ := info_parts infoInt1
  obtain ⟨aa, ac, rfl⟩ := ints_end h
  obtain ⟨n, hn⟩ : ∃ n, zs.length = n := ⟨_, rfl⟩
  have HA := Lib.hid h
  have HN := Lib.hid hn
  rw [hn] at h4 HA ⊢
  clear h hn
  go_enter Tryz.func38, Tryz.ntmps38
  go_wp2_with fail
  go_loopg [3, 8] n (fun g v st wr => ∃ k : Nat, k + g = n ∧ st = .int .i64 (k : Int) ∧ ∃ x : Ext w, x.it = wr ∧ wr.ownsRow w.heap.size 3 1 v (selF zs k).length ((selF zs k).flatMap intC))
  case atStart => exact ⟨0, by omega, rfl, ⟨w, Below.refl _ _⟩, rfl, World.ownsRow_nil _ _ _ _⟩
  case round =>
    obtain ⟨k, hk, rfl, x, rfl, hown⟩ := hrel
    have hx := x.below
    have OW := Lib.hid hown
    by_cases hg0 : gk = 0
    · subst hg0
      obtain rfl : k = n := by omega
      have IV := Lib.hid (own_ints (fun z hz => by have := selF_lt zs k z hz; unfold isI; omega) (by have := selF_len zs k; omega) hown)
      clear hk hown
      go_wp2
      refine bodyPost_ret (v := u3) ?_ rfl ⟨u3, rfl, IV.out, hx⟩
      simp (maxDischargeDepth := 9) [results, Tryz.results38, go_sem, *]
    · have hkm : k < n := by omega
      have hkm' : (k : Int) < (n : Int) := by omega
      have hkx : k < zs.length := by rw [HN.out]; exact hkm
      obtain ⟨b1, o1, c1, e1, hb1, hc1⟩ := ints_in HA.out hkx
      injection e1 with e1 e2 e3
      subst e1 e3
      have f1 := (hx.cell (p := ⟨b1, o1 + k, none⟩) hb1).trans (hc1 k hkx)
      have z1 : b1 < x.it.heap.size := Nat.lt_of_lt_of_le hb1 hx.size
      have hle := selF_len zs k
      obtain ⟨z, hz⟩ : ∃ z, zs.getD k 0 = z := ⟨_, rfl⟩
      rw [hz] at f1
      have HZ := Lib.hid hz
      have HK := Lib.hid (And.intro hk hg0)
      have HXS := hx.size
      clear hk hg0 hc1 e2 hz hown
      by_cases h1 : z = 1
      · subst h1
        have ev := Lib.hid (show selF zs (k + 1) = selF zs k ++ [(k : Int)] by rw [selF, if_pos HZ.out])
        have XB := Lib.hid hx
        go_wp2_with (at_builtin; go_must (refine wpList_append_lies _ rfl _ _ 26 rfl w.heap.size 3 i0 _ 1 8 Tryz.underlying26 hi hz0 hz1 hz2 rfl (by decide) u3 (selF zs k).length ((selF zs k).flatMap intC) rfl (OW.out.alloc _) ⟨x.it.heap.size, 0, none⟩ 1 1 [.int .i64 (k : Int)] rfl rfl (World.news_of_block (heap_alloc_new x.it _)) (by simp [Value.oneCell']) (by omega) (by unfold maxLen; omega) (by omega) (by simp; omega) (x.it.heap.size + 1) (by simp) ?_); intro gb cap w4 hown hgrow hat hlt4; go_must (have MS := Lib.hid (And.intro hown (show Below w.heap.size w w4 from Below.gr (Below.al XB.out _) OW.out hgrow))); clear hown hgrow hat hlt4)
        go_roundg (gk - 1)
        case measure => have := HK.out; omega
        case rel => exact ⟨k + 1, by have := HK.out; omega, by go_num, ⟨_, MS.out.2⟩, rfl, by rw [ev.out, List.flatMap_append, List.length_append]; exact MS.out.1⟩
      · have ev := Lib.hid (show selF zs (k + 1) = selF zs k by rw [selF, if_neg (by rw [HZ.out]; exact h1)])
        go_wp2
        go_roundg (gk - 1)
        case measure => have := HK.out; omega
        case rel => exact ⟨k + 1, by have := HK.out; omega, by go_num, x, rfl, by rw [ev.out]; exact OW.out⟩
end Go.Proofs.YtpahoenanfjhpaaGreat
namespace Go.Proofs.YtpahoenanfjhpaaGreat
open Go.RowKit
theorem ints_row {w : World} {B : Nat} {v : Value} {zs : List Int} (h : IntsAt w B v zs) : SrcRow w v zs.length 1 (zs.flatMap intC) := by
  refine srcRow_of (by decide) intC (fun _ => rfl) (fun a u hu => by simp [intC] at hu; rw [hu]; rfl) zs ?_
  rcases h.2.2 with ⟨rfl, h2⟩ | ⟨b, o, c, rfl, _, hc⟩
  · exact .inl ⟨rfl, h2⟩
  · refine .inr ⟨b, o, c, rfl, fun j hj i u hu => ?_⟩
    rcases i with _ | i
    · simp [intC] at hu
      have := hc j hj
      rw [← hu, Nat.mul_one, Nat.add_zero, this]
      simp [List.getD, List.getElem?_eq_getElem hj]
    · simp [intC] at hu
theorem ints_on {w w' : World} {B B' : Nat} {v : Value} {zs : List Int} (h : IntsAt w B v zs) (hb : Below B w w') (hB : B ≤ B') : IntsAt w' B' v zs := (h.to fun k hk => hb.block k hk).mono hB
theorem ints_cell {w : World} {B : Nat} {a : Option Addr} {n c : Nat} {zs : List Int} (h : IntsAt w B (.slice a n c) zs) {i : Nat} (hi : i < zs.length) : ∃ b o, a = some ⟨b, o, none⟩ ∧ b < B ∧ w.cell? ⟨b, o + i, none⟩ = some (.int .i64 (zs[i]'hi)) := by
  obtain ⟨b, o, c', e, hb, hc⟩ := ints_in h hi
  injection e with e1 e2 e3
  refine ⟨b, o, e1, hb, ?_⟩
  have := hc i hi
  rwa [List.getD_eq_getElem?_getD, List.getElem?_eq_getElem hi] at this
end Go.Proofs.YtpahoenanfjhpaaGreat
