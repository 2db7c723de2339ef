/-
  VECTOREXAMPLES: the walk and the statement. Conditions: none.
-/
import Derived.Test.YtploieofmnlomaaRows
import Derived.Test.YtploieofmnlomaaTail
import Derived.Maps.AppendAt
import Derived.Lib.Hide
import Derived.Deep.CutBlock
import Derived.Deep.LoopGhost
set_option linter.unusedVariables false
set_option linter.unusedSimpArgs false
namespace Go.Proofs.Ytploieofmnlomaa
open Go.RowKit Go.ChangeShapes Go.WideShapes Go.ChangeAt
def selF (zs : List Int) : Nat → List Int
  | 0 => []
  | k + 1 => if zs.getD k 0 = 1 then selF zs k ++ [(k : Int)] else selF zs k
theorem infoInt : (Try.prog.info? 3).map (fun i => (i.zero, i.size, i.bytes)) = some (some (.int .i64 0), 1, 8) := by kernel_rfl
theorem selF_len (zs : List Int) (k : Nat) : (selF zs k).length ≤ k := by
  induction k with
  | zero => simp [selF]
  | succ k ih => unfold selF; split <;> (try simp) <;> omega
set_option maxHeartbeats 1000000 in
theorem select_any (w : World) (b c n : Nat) (zs : List Int) (hn : n ≤ 1099511627776) (hb : b < w.heap.size) (hc : ∀ k, k < n → w.cell? ⟨b, k, none⟩ = some (.int .i64 (zs.getD k 0))) :
    Calls Try.prog 10 #[.slice (some ⟨b, 0, none⟩) n c] w fun e w' => ∃ v, e = .returned v ∧ w'.ownsRow w.heap.size 3 1 v (selF zs n).length ((selF zs n).map (Value.int .i64)) ∧ Below w.heap.size w w' := by
  have HC := Lib.hid hc
  clear hc
  go_enter Try.func10, Try.ntmps10
  go_wp2_with fail
  go_loopg [3, 8] n (fun g s3 s8 wr => ∃ k : Nat, k + g = n ∧ s8 = .int .i64 k ∧ wr.ownsRow w.heap.size 3 1 s3 (selF zs k).length ((selF zs k).map (Value.int .i64)) ∧ Below w.heap.size w wr)
  case atStart => exact ⟨0, by omega, rfl, World.ownsRow_nil _ _ _ _, Below.refl _ _⟩
  case round =>
    obtain ⟨k, hk, rfl, ho, hbel⟩ := hrel
    by_cases hg : gk = 0
    · subst hg
      obtain rfl : k = n := by omega
      go_wp2_with fail
      exact bodyPost_ret (v := u3) (by simp [results, Try.results10, go_sem, *]) rfl (⟨_, rfl, ho, hbel⟩)
    · have hkn : k < n := by omega
      have hkn' : (k : Int) < n := by omega
      obtain ⟨x, rfl⟩ := Ext.of hbel
      have cell : x.it.cell? ⟨b, k, none⟩ = some (.int .i64 (zs.getD k 0)) := by rw [x.cell b k hb]; exact HC.out k hkn
      have hK := Lib.hid hk
      clear hk hg
      generalize hz : zs.getD k 0 = z at cell
      have HZ := Lib.hid hz
      clear hz
      by_cases h1 : z = 1
      · subst h1
        have ev := Lib.hid (show selF zs (k + 1) = selF zs k ++ [(k : Int)] by rw [selF, if_pos HZ.out])
        have hle := selF_len zs k
        obtain ⟨i0, hi, hz0, hz1, hz2⟩ := info_parts infoInt
        go_wp2_with (at_builtin; go_must (refine wpList_append_own_at _ rfl _ _ 23 rfl w.heap.size 3 i0 (.int .i64 0) 1 8 Try.underlying23 hi hz0 hz1 hz2 rfl (by decide) _ (selF zs k).length ((selF zs k).map (Value.int .i64)) rfl ?c0 _ 1 1 [.int .i64 (k : Int)] rfl rfl ?c1 ?c2 ?c3 ?c4 ?c5 ?_))
        case c0 => exact ho.alloc _
        case c1 => exact cell_one_new _ _ _
        case c2 => intro u hu; simp at hu; subst hu; rfl
        case c3 => unfold maxLen; omega
        case c4 => omega
        case c5 => exact Nat.le_trans hbel.size (by simp)
        intro v1' w2 hown1 hgrow1 hnn1 hblk1
        have hb2 := Below.gr (Below.al hbel _) ho hgrow1
        go_wp2
        go_roundg (gk - 1)
        case measure => have := hK.out; omega
        case rel => exact ⟨k + 1, by have := hK.out; omega, by go_num, by rw [ev.out]; simpa using hown1, hb2⟩
      · have ev := Lib.hid (show selF zs (k + 1) = selF zs k by rw [selF, if_neg (by rw [HZ.out]; exact h1)])
        go_wp2
        go_roundg (gk - 1)
        case measure => have := hK.out; omega
        case rel => exact ⟨k + 1, by have := hK.out; omega, by go_num, by rw [ev.out]; exact ho, hbel⟩
theorem select_ex (w : World) (b c : Nat) (hb : b < w.heap.size) (h0 : w.cell? ⟨b, 0, none⟩ = some (.int .i64 1)) (h1 : w.cell? ⟨b, 1, none⟩ = some (.int .i64 0)) (h2 : w.cell? ⟨b, 2, none⟩ = some (.int .i64 2)) (h3 : w.cell? ⟨b, 3, none⟩ = some (.int .i64 1)) :
    Calls Try.prog 10 #[.slice (some ⟨b, 0, none⟩) 4 c] w fun e w' => ∃ g cap, e = .returned (.slice (some ⟨g, 0, none⟩) 2 cap) ∧ w.heap.size ≤ g ∧ g < w'.heap.size ∧ w'.cell? ⟨g, 0, none⟩ = some (.int .i64 0) ∧ w'.cell? ⟨g, 1, none⟩ = some (.int .i64 3) ∧ Below w.heap.size w w' := by
  refine (select_any w b c 4 [1, 0, 2, 1] (by decide) hb (fun k hk => ?_)).mono ?_
  · match k, hk with
    | 0, _ => exact h0
    | 1, _ => exact h1
    | 2, _ => exact h2
    | 3, _ => exact h3
  · rintro e w1 ⟨v, rfl, ho, hbel⟩
    rw [show selF [1, 0, 2, 1] 4 = [0, 3] by decide] at ho
    obtain ⟨_, ho⟩ := ho
    rcases ho with ⟨_, h⟩ | ⟨g, cap, cur, rfl, hg, hr, _, _, hsz, ht⟩
    · simp at h
    · have hlt := (Array.getElem?_eq_some_iff.1 hr).1
      refine ⟨g, cap, rfl, hg, hlt, ?_, ?_, hbel⟩
      · rw [cell_of_row w1 g 0 _ _ _ hr]; have := congrArg (fun l => l[0]?) ht; simpa [List.getElem?_take] using this
      · rw [cell_of_row w1 g 1 _ _ _ hr]; have := congrArg (fun l => l[1]?) ht; simpa [List.getElem?_take] using this
set_option maxHeartbeats 1000000 in
theorem same_ex (w : World) (b c m n : Nat) (h0 : w.cell? ⟨b, 0, none⟩ = some (.int .i64 0)) (h1 : w.cell? ⟨b, 1, none⟩ = some (.int .i64 3)) (g0 : w.cell? ⟨c, 0, none⟩ = some (.int .i64 0)) (g1 : w.cell? ⟨c, 1, none⟩ = some (.int .i64 3)) : Calls Try.prog 9 #[.slice (some ⟨b, 0, none⟩) 2 m, .slice (some ⟨c, 0, none⟩) 2 n] w fun e w' => e = .returned (.bool true) ∧ Below w.heap.size w w' := by
  have hb : b < w.heap.size := World.block_lt_of_cell? w _ h0
  have hcb : c < w.heap.size := World.block_lt_of_cell? w _ g0
  go_enter Try.func9, Try.ntmps9
  go_wp2_with fail
  go_loopg [13] 2 (fun g s13 wr => ∃ k : Nat, k + g = 2 ∧ s13 = .int .i64 k ∧ Below w.heap.size w wr)
  case atStart => exact ⟨0, by omega, rfl, Below.refl _ _⟩
  case round =>
    obtain ⟨k, hk, rfl, hbel⟩ := hrel
    obtain ⟨x, rfl⟩ := Ext.of hbel
    have x0 := (x.cell b 0 hb).trans h0
    have x1 := (x.cell b 1 hb).trans h1
    have y0 := (x.cell c 0 hcb).trans g0
    have y1 := (x.cell c 1 hcb).trans g1
    obtain rfl | rfl | rfl : k = 0 ∨ k = 1 ∨ k = 2 := by omega
    · obtain rfl : gk = 2 := by omega
      clear hk
      go_upto_region 6 with fail
      go_region
      go_wp2
      go_roundg 1
      case measure => omega
      case rel => exact ⟨1, rfl, by go_num, by repeat (first | with_reducible exact Below.refl _ _ | with_reducible assumption | with_reducible refine Below.al ?_ _ | with_reducible refine Below.on ?_ _ | with_reducible refine Below.st ?_ (by first | assumption | (simp; done) | (simp; omega)) _ | with_reducible refine Below.drew ?_)⟩
    · obtain rfl : gk = 1 := by omega
      clear hk
      go_upto_region 6 with fail
      go_region
      go_wp2
      go_roundg 0
      case measure => omega
      case rel => exact ⟨2, rfl, by go_num, by repeat (first | with_reducible exact Below.refl _ _ | with_reducible assumption | with_reducible refine Below.al ?_ _ | with_reducible refine Below.on ?_ _ | with_reducible refine Below.st ?_ (by first | assumption | (simp; done) | (simp; omega)) _ | with_reducible refine Below.drew ?_)⟩
    · obtain rfl : gk = 0 := by omega
      clear hk
      go_wp2
      exact bodyPost_ret (v := .bool true) (by simp [results, Try.results9, go_sem, *]) rfl (⟨rfl, by repeat (first | with_reducible exact Below.refl _ _ | with_reducible assumption | with_reducible refine Below.al ?_ _ | with_reducible refine Below.on ?_ _ | with_reducible refine Below.st ?_ (by first | assumption | (simp; done) | (simp; omega)) _ | with_reducible refine Below.drew ?_)⟩)
set_option maxHeartbeats 1000000 in
theorem vex (w : World) : Calls Try.prog 3 #[] w fun e w' => e = .returned (.bool true) ∧ Below w.heap.size w w' := by
  go_enter Try.func3, Try.ntmps3
  go_wp2_with (first | (go_at_call 10; refine (select_ex _ _ _ (by simp; try omega) (by simp [go_sem]) (by simp [go_sem]) (by simp [go_sem]) (by simp [go_sem])).mono ?_; rintro e w1 ⟨g, cap, rfl, hg, hlt, k0, k1, hb1⟩; obtain ⟨x1, rfl⟩ := Ext.of hb1) | (go_at_call 9; refine (same_ex _ _ _ _ _ (by simp [go_sem, *]) (by simp [go_sem, *]) (by simp [go_sem, *]) (by simp [go_sem, *])).mono ?_; rintro e w2 ⟨rfl, hb2⟩; obtain ⟨x2, rfl⟩ := Ext.of hb2))
  exact bodyPost_ret (v := .bool true) (by simp [results, Try.results3, go_sem, *]) rfl (⟨rfl, by repeat (first | with_reducible exact Below.refl _ _ | with_reducible assumption | with_reducible refine Below.al ?_ _ | with_reducible refine Below.on ?_ _ | with_reducible refine Below.st ?_ (by first | assumption | (simp; done) | (simp; omega)) _ | with_reducible refine Below.drew ?_)⟩)
theorem own : ownKnob Try.prog.godebug = none := by kernel_rfl
theorem laid : laidOutB Try.prog = true := by kernel_rfl
set_option maxRecDepth 100000 in
theorem vectorExamples_lifted (os : Os) (started : os.Started) (H : Type) (enc : TypeId × Value → H) :
    ReturnsInHanded {} Try.checked os 3 .any (Rows.vectorExamplesSpec.pre6 enc Try.prog Try.f3 Rows.vectorExamplesRow.domain false) (Rows.vectorExamplesSpec.post enc Try.prog Try.f3 false true false false) := by
  refine lifted_of_walk (C := Try.checked) (tb := 4) own started (by kernel_rfl) Try.func3
    (ChangeSpec.witness6 (enc := enc) (C := Try.checked) false ⟨#[], #[], []⟩ 8 (by kernel_rfl) (by kernel_rfl) (by kernel_rfl) (by kernel_rfl))
    laid (params_ok (by kernel_rfl)) (by kernel_rfl) Try.underlying4 rfl
    (fun ds hds => by match ds, hds with | [], _ => exact ⟨rfl, rfl, rfl⟩) ?_
  intro W base args ds ps hval0 hA0
  have hval : ∀ (j : Nat) t v, Try.f3.params[j]? = some t → args[j]? = some v → Value.okWide Try.prog W .any base t v := hval0
  have hA : DataW.TrodAll enc Try.prog W 0 (fun _ => true) true Try.f3.params.toList args.toList ds ps := hA0
  rw [Try.params3] at hA hval
  obtain ⟨hargs, rfl, rfl⟩ := trodAll_nil hA
  obtain rfl : args = #[] := by cases args; simp_all
  exact vex W

theorem vectorExamples_holds : Rows.VectorExamplesSaid :=
  OpenClaim.holds_of_wide 3 Try.f3 rfl rfl rfl rfl rfl rfl rfl ⟨rfl, rfl, rfl, rfl, rfl⟩ rfl rfl rfl rfl rfl (by kernel_rfl) Try.func3 (by kernel_rfl)
    (of_decide_eq_true (by kernel_rfl)) (by unfold Func.isWrapper; first | (rw [if_pos (by decide +kernel)]; kernel_rfl) | (rw [if_neg (by decide +kernel)]; exact ⟨rfl, rfl⟩))
    (fun os started H enc _ => vectorExamples_lifted os started H enc)
#print axioms vectorExamples_holds
end Go.Proofs.Ytploieofmnlomaa
