/-
  CHAPTER 25: vector.Select. Conditions: the list lies in memory as 'IntsAt' says; it has at most 4096 elements.
-/
import Derived.Test.YtploieofmnlomaaVsl
set_option linter.unusedVariables false
set_option linter.unusedSimpArgs false
namespace Go.Proofs.Ytploieofmnlomaa
open Go.RowKit
/-- The places of True. -/
def selF (zs : List Int) : Nat → List Int
  | 0 => []
  | k + 1 => if zs.getD k 0 = 1 then selF zs k ++ [(k : Int)] else selF zs k
theorem selF_len (zs : List Int) (k : Nat) : (selF zs k).length ≤ k := by
  induction k with
  | zero => simp [selF]
  | succ k ih => unfold selF; split <;> (try simp) <;> omega
theorem selF_lt (zs : List Int) (k : Nat) : ∀ i ∈ selF zs k, 0 ≤ i ∧ i < k := by
  induction k with
  | zero => simp [selF]
  | succ k ih =>
    unfold selF
    intro i hi
    split at hi
    · rw [List.mem_append] at hi
      rcases hi with h | h
      · have := ih i h; omega
      · simp at h; omega
    · have := ih i hi; omega
def intC (i : Int) : List Value := [.int .i64 i]
theorem infoInt1 : (Try.prog.info? 3).map (fun i => (i.zero, i.size, i.bytes)) = some (some (.int .i64 0), 1, 8) := by kernel_rfl
theorem own_ints {w : World} {base : Nat} {e : TypeId} {v : Value} {cs : List Int} (hi : ∀ z ∈ cs, isI z) (hl : cs.length ≤ 9223372036854775807) (h : w.ownsRow base e 1 v cs.length (cs.flatMap intC)) : IntsAt w w.heap.size v cs := by
  rcases own_at (f := intC) (k := 1) (fun _ => rfl) h with ⟨rfl, rfl⟩ | ⟨g, c, rfl, hc, _, hg, H⟩
  · exact ⟨hi, hl, .inl ⟨rfl, none, 0, rfl⟩⟩
  · refine ⟨hi, hl, .inr ⟨g, 0, c, rfl, hg, fun j hj => ?_⟩⟩
    have := H j hj 0 (.int .i64 (cs[j]'hj)) (by omega) rfl
    rw [List.getD_eq_getElem?_getD, List.getElem?_eq_getElem hj]
    simpa using this
set_option maxRecDepth 8000 in
set_option maxHeartbeats 1000000 in
theorem select_ints (v : Value) (zs : List Int) (w : World) (h : IntsAt w w.heap.size v zs) (h4 : zs.length ≤ 4096) :
    Calls Try.prog 10 #[v] w fun e w' => ∃ u, e = .returned u ∧ IntsAt w' w'.heap.size u (selF zs zs.length) ∧ Below w.heap.size w w' := by
  obtain ⟨i0, hi, hz0, hz1, hz2⟩ := info_parts infoInt1
  obtain ⟨aa, ac, rfl⟩ := ints_end h
  obtain ⟨n, hn⟩ : ∃ n, zs.length = n := ⟨_, rfl⟩
  have HA := Lib.hid h
  have HN := Lib.hid hn
  rw [hn] at h4 HA ⊢
  clear h hn
  go_enter Try.func10, Try.ntmps10
  go_wp2_with fail
  go_loopg [3, 8] n (fun g v st wr => ∃ k : Nat, k + g = n ∧ st = .int .i64 (k : Int) ∧ ∃ x : Ext w, x.it = wr ∧ wr.ownsRow w.heap.size 3 1 v (selF zs k).length ((selF zs k).flatMap intC))
  case atStart => exact ⟨0, by omega, rfl, ⟨w, Below.refl _ _⟩, rfl, World.ownsRow_nil _ _ _ _⟩
  case round =>
    obtain ⟨k, hk, rfl, x, rfl, hown⟩ := hrel
    have hx := x.below
    have OW := Lib.hid hown
    by_cases hg0 : gk = 0
    · subst hg0
      obtain rfl : k = n := by omega
      have IV := Lib.hid (own_ints (fun z hz => by have := selF_lt zs k z hz; unfold isI; omega) (by have := selF_len zs k; omega) hown)
      clear hk hown
      go_wp2
      refine bodyPost_ret (v := u3) ?_ rfl ⟨u3, rfl, IV.out, hx⟩
      simp (maxDischargeDepth := 9) [results, Try.results10, go_sem, *]
    · have hkm : k < n := by omega
      have hkm' : (k : Int) < (n : Int) := by omega
      have hkx : k < zs.length := by rw [HN.out]; exact hkm
      obtain ⟨b1, o1, c1, e1, hb1, hc1⟩ := ints_in HA.out hkx
      injection e1 with e1 e2 e3
      subst e1 e3
      have f1 := (hx.cell (p := ⟨b1, o1 + k, none⟩) hb1).trans (hc1 k hkx)
      have z1 : b1 < x.it.heap.size := Nat.lt_of_lt_of_le hb1 hx.size
      have hle := selF_len zs k
      obtain ⟨z, hz⟩ : ∃ z, zs.getD k 0 = z := ⟨_, rfl⟩
      rw [hz] at f1
      have HZ := Lib.hid hz
      have HK := Lib.hid (And.intro hk hg0)
      have HXS := hx.size
      clear hk hg0 hc1 e2 hz hown
      by_cases h1 : z = 1
      · subst h1
        have ev := Lib.hid (show selF zs (k + 1) = selF zs k ++ [(k : Int)] by rw [selF, if_pos HZ.out])
        have XB := Lib.hid hx
        go_wp2_with (at_builtin; go_must (refine wpList_append_lies _ rfl _ _ 23 rfl w.heap.size 3 i0 _ 1 8 Try.underlying23 hi hz0 hz1 hz2 rfl (by decide) u3 (selF zs k).length ((selF zs k).flatMap intC) rfl (OW.out.alloc _) ⟨x.it.heap.size, 0, none⟩ 1 1 [.int .i64 (k : Int)] rfl rfl (World.news_of_block (heap_alloc_new x.it _)) (by simp [Value.oneCell']) (by omega) (by unfold maxLen; omega) (by omega) (by simp; omega) (x.it.heap.size + 1) (by simp) ?_); intro gb cap w4 hown hgrow hat hlt4; go_must (have MS := Lib.hid (And.intro hown (show Below w.heap.size w w4 from Below.gr (Below.al XB.out _) OW.out hgrow))); clear hown hgrow hat hlt4)
        go_roundg (gk - 1)
        case measure => have := HK.out; omega
        case rel => exact ⟨k + 1, by have := HK.out; omega, by go_num, ⟨_, MS.out.2⟩, rfl, by rw [ev.out, List.flatMap_append, List.length_append]; exact MS.out.1⟩
      · have ev := Lib.hid (show selF zs (k + 1) = selF zs k by rw [selF, if_neg (by rw [HZ.out]; exact h1)])
        go_wp2
        go_roundg (gk - 1)
        case measure => have := HK.out; omega
        case rel => exact ⟨k + 1, by have := HK.out; omega, by go_num, x, rfl, by rw [ev.out]; exact OW.out⟩
end Go.Proofs.Ytploieofmnlomaa
