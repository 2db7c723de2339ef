/-
  PARTS: keep.SameParts of equal lists; Split and its reference of any number. Conditions: the records lie in memory; at most 2^42 of them, their rows of at most 2^42 values.
-/
import Derived.Test.YtkblkjfejaflkaaRcl
import Derived.Test.YtkblkjfejaflkaaVsl
set_option linter.unusedVariables false
set_option linter.unusedSimpArgs false
namespace Go.Proofs.Ytkblkjfejaflkaa
open Go.RowKit
def SpAll (w : World) (rs : List Rc) (n : Int) (e : Ending) (w' : World) : Prop := ∃ v ps, e = .returned v ∧ ((n < 1 ∧ ps = []) ∨ (1 ≤ n ∧ PartsOf rs n.toNat ps)) ∧ PartsAt w' w'.heap.size v ps ∧ Below w.heap.size w w'
theorem all_uniq {rs : List Rc} {n : Int} {ps qs : List (List Rc)} (h : (n < 1 ∧ ps = []) ∨ (1 ≤ n ∧ PartsOf rs n.toNat ps)) (k : (n < 1 ∧ qs = []) ∨ (1 ≤ n ∧ PartsOf rs n.toNat qs)) : ps = qs := by
  rcases h with ⟨h1, rfl⟩ | ⟨h1, h2⟩ <;> rcases k with ⟨k1, rfl⟩ | ⟨k1, k2⟩
  · rfl
  · omega
  · omega
  · exact h2.uniq k2
theorem spAll_nil {w W : World} (rs : List Rc) {n : Int} (hn : n < 1) (hb : Below w.heap.size w W) : SpAll w rs n (.returned (.slice none 0 0)) W := ⟨_, [], rfl, .inl ⟨hn, rfl⟩, ⟨by simp, .inl ⟨rfl, none, 0, rfl⟩⟩, hb⟩
set_option maxRecDepth 100000 in
set_option maxHeartbeats 1000000 in
theorem split_all (v : Value) (rs : List Rc) (n : Int) (w : World) (h : RecsAt w w.heap.size v rs) (hb : rs.length ≤ 4398046511104) (hr : ∀ r ∈ rs, r.row.length ≤ 4398046511104) (hn63 : n ≤ 9223372036854775807) :
    Calls Try.prog 12 #[v, .int .i64 n] w (SpAll w rs n) := by
  by_cases hn : n < 1
  · obtain ⟨a, c, rfl⟩ := recs_end h
    obtain ⟨L, hL⟩ : ∃ L, rs.length = L := ⟨_, rfl⟩
    rw [hL]
    have NP := Lib.hid (spAll_nil rs hn (Below.refl w.heap.size w))
    clear h hb hr hL
    refine (callsIn_wide (n := 6)).1 ?_
    refine callsIn_of_wp_marks Try.func12 rfl trivial ?_ rfl
    simp only [Try.ntmps12, List.size_toArray, List.length_cons, List.length_nil, Nat.reduceAdd, Nat.reduceSub, Array.replicate_succ, Array.replicate_zero, List.push_toArray, List.append_toArray, List.nil_append, List.cons_append]
    gi_wp2
    refine ⟨.slice none 0 0, ?_, NP.out⟩
    simp (maxDischargeDepth := 9) [results, Try.results12, go_sem, *]
  · refine (split_any v rs n w h hb hr (by omega) hn63).mono ?_
    rintro e w' ⟨v', lvs, ps, rfl, hp, hM, hB⟩
    have h1 := hp.len (by omega)
    exact ⟨v', ps, rfl, .inr ⟨by omega, hp⟩, hM.parts (by omega) (fun p hpp => by have := hp.each p hpp; omega), hB⟩
set_option maxRecDepth 8000 in
theorem refSplit_all (v : Value) (rs : List Rc) (n : Int) (w : World) (h : RecsAt w w.heap.size v rs) (hb : rs.length ≤ 4398046511104) (hn63 : n ≤ 9223372036854775807) :
    Calls Try.prog 33 #[v, .int .i64 n] w (SpAll w rs n) := by
  by_cases hn : n < 1
  · obtain ⟨a, c, rfl⟩ := recs_end h
    obtain ⟨L, hL⟩ : ∃ L, rs.length = L := ⟨_, rfl⟩
    rw [hL]
    have NP := Lib.hid (spAll_nil rs hn (Below.refl w.heap.size w))
    clear h hb hL
    go_enter Try.func33, Try.ntmps33
    go_wp2
    refine bodyPost_ret (v := .slice none 0 0) ?_ rfl NP.out
    simp (maxDischargeDepth := 9) [results, Try.results33, go_sem, *]
  · refine (refSplit_any v rs n w h hb (by omega) hn63).mono ?_
    rintro e w' ⟨v', ps, rfl, hp, hM, hB⟩
    exact ⟨v', ps, rfl, .inr ⟨by omega, hp⟩, hM, hB⟩
set_option maxRecDepth 8000 in
set_option maxHeartbeats 1000000 in
theorem same_parts (va vb : Value) (xs : List (List Rc)) (w : World) (ha : PartsAt w w.heap.size va xs) (hb : PartsAt w w.heap.size vb xs) :
    Calls Try.prog 32 #[va, vb] w fun e w' => e = .returned (.bool true) ∧ Below w.heap.size w w' := by
  obtain ⟨aa, ac, rfl⟩ := parts_end ha
  obtain ⟨ba, bc, rfl⟩ := parts_end hb
  obtain ⟨n, hn⟩ : ∃ n, xs.length = n := ⟨_, rfl⟩
  have n63 := ha.1
  have HA := Lib.hid ha
  have HB := Lib.hid hb
  have HN := Lib.hid hn
  rw [hn] at n63 HA HB ⊢
  clear ha hb hn
  go_enter Try.func32, Try.ntmps32
  go_wp2_with fail
  go_loopg [13] n (fun g st wr => ∃ k : Nat, k + g = n ∧ st = .int .i64 (k : Int) ∧ ∃ x : Ext w, x.it = wr)
  case atStart => exact ⟨0, by omega, rfl, ⟨w, Below.refl _ _⟩, rfl⟩
  case round =>
    obtain ⟨k, hk, rfl, x, rfl⟩ := hrel
    have hx := x.below
    by_cases hg0 : gk = 0
    · subst hg0
      obtain rfl : k = n := by omega
      clear hk
      go_wp2
      exact bodyPost_ret (v := .bool true) (by simp [results, Try.results32, go_sem, *]) rfl (⟨rfl, by repeat (first | with_reducible exact Below.refl _ _ | with_reducible assumption | with_reducible refine Below.al ?_ _ | with_reducible refine Below.on ?_ _ | with_reducible refine Below.st ?_ (by first | assumption | (simp; done) | (simp; omega)) _ | with_reducible refine Below.drew ?_)⟩)
    · have hkm : k < n := by omega
      have hkm' : (k : Int) < (n : Int) := by omega
      have hkx : k < xs.length := by rw [HN.out]; exact hkm
      obtain ⟨b1, o1, rfl, c1, hb1, l1, e1, h1⟩ := parts_in HA.out hkx
      obtain ⟨b2, o2, rfl, c2, hb2, l2, e2, h2⟩ := parts_in HB.out hkx
      have f0 := (hx.cell (p := ⟨b1, o1 + k, none⟩) hb1).trans e1
      have g0 := (hx.cell (p := ⟨b2, o2 + k, none⟩) hb2).trans e2
      have z1 : b1 < x.it.heap.size := Nat.lt_of_lt_of_le hb1 hx.size
      have z2 : b2 < x.it.heap.size := Nat.lt_of_lt_of_le hb2 hx.size
      obtain ⟨l1a, l1c, rfl⟩ := recs_end h1
      obtain ⟨l2a, l2c, rfl⟩ := recs_end h2
      have SE := Lib.hid (fun W (hW : Below w.heap.size w W) => (by have q := same_recs _ _ _ _ W (h1.mono hW hW.size) (h2.mono hW hW.size); rw [(eqRs_iff _ _).2 rfl] at q; exact q))
      have HK := Lib.hid (And.intro hk hg0)
      clear hk hg0 e1 e2 h1 h2
      go_upto_region 6 with fail
      refine wp_region_ext (by kernel_rfl) (by kernel_rfl) ?_
      repeat (go_big_quiet_step (((go_at_call 23; exact Calls.ext (SE.out _ (by repeat (first | with_reducible exact Below.refl _ _ | with_reducible assumption | with_reducible refine Below.al ?_ _ | with_reducible refine Below.on ?_ _ | with_reducible refine Below.st ?_ (by first | assumption | (simp; done) | (simp; omega)) _ | with_reducible refine Below.drew ?_)))))))
      refine wpQuiet_nil ?_
      rintro _ ⟨x5, rfl⟩
      go_wp2
      go_roundg (gk - 1)
      case measure => have := HK.out; omega
      case rel => exact ⟨k + 1, by have := HK.out; omega, by go_num, ⟨x5.it, Below.on hx x5⟩, rfl⟩
end Go.Proofs.Ytkblkjfejaflkaa
