/-
  SORTING IN MEMORY: the stable sort of fewer than 20 records; slices.SortStableFunc; batch.Sort ('sortF'). Conditions: schema and records lie in memory as 'ColsAt', 'RecsAt' say; at most 2^42 records; 'StableOk' of their number.
-/
import Derived.Test.YtkblkjfejaflkaaSm2
import Derived.Test.YtkblkjfejaflkaaSrd
import Derived.Test.YtkblkjfejaflkaaOwn
set_option linter.unusedVariables false
set_option linter.unusedSimpArgs false
namespace Go.Proofs.Ytkblkjfejaflkaa
open Go.RowKit Srt
/-- The stable sort's contract at n records. -/
def StableOk (n : Nat) : Prop := ∀ (α : Type) (sq : α → Int) (lv : α → Value) (c : α → α → Int) (ix : α → Nat), Pre c → (∀ x, ∃ a n q, lv x = .slice a n q) → ∀ (blk off cap : Nat) (cb : Value) (f : Nat → α) (w0 w : World), CmpOk sq lv c blk w0 cb → Mv (fun k => k = blk) w0 w → RowM sq lv w blk off n f → n ≤ cap → (∀ k, k < n → ix (f k) = k) →
  Calls Try.prog 66 #[.slice (some ⟨blk, off, none⟩) n cap, .int .i64 (n : Int), fnV cb] w fun e w' => e = .returned (.tuple #[]) ∧ ∃ f', Sw 0 n f f' ∧ Ord c ix f' 0 n ∧ RowM sq lv w' blk off n f' ∧ Mv (fun k => k = blk) w w'
def StbRes {α : Type} (sq : α → Int) (lv : α → Value) (c : α → α → Int) (ix : α → Nat) (blk off n : Nat) (f : Nat → α) (w w' : World) : Prop := ∃ f', Sw 0 n f f' ∧ Ord c ix f' 0 n ∧ RowM sq lv w' blk off n f' ∧ Mv (fun k => k = blk) w w'
set_option maxRecDepth 8000 in
set_option maxHeartbeats 1000000 in
theorem stable_small {n : Nat} (hn : n < 20) : StableOk n := by
  intro α sq lv c ix hp hsl blk off cap cb f w0 w HC hm0 hr0 hcap hix
  show Calls Try.prog 66 #[.slice (some ⟨blk, off, none⟩) n cap, .int .i64 (n : Int), fnV cb] w fun e w' => e = .returned (.tuple #[]) ∧ StbRes sq lv c ix blk off n f w w'
  have IN : Hid (Calls Try.prog 76 #[.slice (some ⟨blk, off, none⟩) n cap, .int .i64 (0 : Int), .int .i64 (n : Int), fnV cb] w fun e w' => e = .returned (.tuple #[]) ∧ StbRes sq lv c ix blk off n f w w') := Lib.hid (ins_any hp hsl blk off n cap 0 n cb f w0 w HC hm0 hr0 (Nat.zero_le _) (Nat.le_refl _) (by omega) hcap (fun i j _ h1 h2 => by rw [hix i (by omega), hix j h2]; exact h1))
  generalize StbRes sq lv c ix blk off n f w = R at *
  unfold fnV at *
  have t : ¬ ((20 : Int) ≤ (n : Int)) := by omega
  have t2 : ¬ ((20 : Int) < (n : Int)) := by omega
  clear HC hm0 hr0 hcap hix hn
  go_enter Try.func66, Try.ntmps66
  go_wp2
  refine wp_loop_rounds 1 ?_
  rw [rounds_succ]
  go_wp2_with (go_at_call 76; refine Calls.mono IN.out ?_; rintro e w1 ⟨rfl, hq⟩; have HQ := Lib.hid hq; clear hq)
  refine wp_loop_rounds 1 ?_
  rw [rounds_succ]
  go_wp2
  go_end0
  exact ⟨rfl, HQ.out⟩
end Go.Proofs.Ytkblkjfejaflkaa
