/-
  SORTING IN MEMORY: slices.swapRangeCmpFunc and rotateCmpFunc at records. Conditions: the row lies in memory as 'RowM' says; the places are within it.
-/
import Derived.Test.YtkblkjfejaflkaaSm2
set_option linter.unusedVariables false
set_option linter.unusedSimpArgs false
namespace Go.Proofs.Ytkblkjfejaflkaa
open Go.RowKit Srt
variable {α : Type} {sq : α → Int} {lv : α → Value}
/-- The four stores of an exchange. -/
theorem RowM.swap {w : World} {blk off n i j : Nat} {f : Nat → α} {xi xj : α} {vi vj : Value} (h : RowM sq lv w blk off n f) (hi : i < n) (hj : j < n) (ei : f i = xi) (ej : f j = xj) (evi : lv xi = vi) (evj : lv xj = vj) :
    RowM sq lv ((((w.setCell ⟨blk, off + i * 2, none⟩ (.int .i64 (sq xj))).setCell ⟨blk, off + i * 2 + 1, none⟩ vj).setCell ⟨blk, off + j * 2, none⟩ (.int .i64 (sq xi))).setCell ⟨blk, off + j * 2 + 1, none⟩ vi) blk off n (swp f i j) := by
  refine RowM.ap (RowM.st (x := xi) (RowM.st (x := xj) h hi rfl evj.symm) hj rfl evi.symm) ?_
  funext k
  unfold swp
  rw [ei, ej]
  by_cases q1 : k = i
  · rw [if_pos q1]
    by_cases q2 : k = j
    · rw [if_pos q2]; rw [← ei, ← ej, ← q1, ← q2]
    · rw [if_neg q2, if_pos q1]
  · rw [if_neg q1]
    by_cases q2 : k = j
    · rw [if_pos q2, if_pos q2]
    · rw [if_neg q2, if_neg q2, if_neg q1]
set_option maxRecDepth 8000 in
set_option maxHeartbeats 2000000 in
theorem swr_any (hsl : ∀ x, ∃ a n q, lv x = .slice a n q) (blk off n cap a b m : Nat) (cb : Value) (f : Nat → α) (w : World) (hr0 : RowM sq lv w blk off n f)
    (hab : a + m ≤ b) (hb : b + m ≤ n) (hn : n ≤ 4611686018427387904) (hcap : n ≤ cap) :
    Calls Try.prog 83 #[.slice (some ⟨blk, off, none⟩) n cap, .int .i64 (a : Int), .int .i64 (b : Int), .int .i64 (m : Int), fnV cb] w fun e w' => e = .returned (.tuple #[]) ∧ RowM sq lv w' blk off n (swr f a b m) ∧ Mv (fun k => k = blk) w w' := by
  have HR0 := Lib.hid hr0
  clear hr0
  unfold fnV
  go_enter Try.func83, Try.ntmps83
  go_wp2
  go_loopg [10] m (fun g vi wr => ∃ i : Nat, vi = .int .i64 (i : Int) ∧ i + g = m ∧ RowM sq lv wr blk off n (swr f a b i) ∧ Mv (fun k => k = blk) w wr)
  case atStart => exact ⟨0, by go_num, by omega, by rw [swr_zero]; exact HR0.out, Mv.refl _ _⟩
  case round =>
    obtain ⟨i, rfl, hig, s1, s2⟩ := hrel
    have ST := Lib.hid (And.intro s1 s2)
    clear s1 s2
    by_cases hg0 : gk = 0
    · have him := Lib.hid (show i = m by omega)
      have t : ¬ ((i : Int) < (m : Int)) := by omega
      clear hg0 hig
      go_wp2
      go_end0
      exact ⟨rfl, him.out ▸ ST.out.1, ST.out.2⟩
    have hi : i < m := by omega
    have hiz : (i : Int) < (m : Int) := by omega
    have GZ := Lib.hid (And.intro hg0 hig)
    clear hg0 hig
    go_upto_region 3 with fail
    have ha1 : IntKind.i64.wrap ((a : Int) + (i : Int)) = (a : Int) + (i : Int) := by rw [IntKind.wrap_i64]; omega
    have ha2 : (0 : Int) ≤ (a : Int) + (i : Int) := by omega
    have ha3 : ((a : Int) + (i : Int)).toNat = a + i := by omega
    have ha4 : (a : Int) + (i : Int) < (n : Int) := by omega
    have hb1 : IntKind.i64.wrap ((b : Int) + (i : Int)) = (b : Int) + (i : Int) := by rw [IntKind.wrap_i64]; omega
    have hb2 : (0 : Int) ≤ (b : Int) + (i : Int) := by omega
    have hb3 : ((b : Int) + (i : Int)).toNat = b + i := by omega
    have hb4 : (b : Int) + (i : Int) < (n : Int) := by omega
    have k0 := ST.out.1.c0 (a + i) (by omega)
    have k1 := ST.out.1.c1 (a + i) (by omega)
    have l0 := ST.out.1.c0 (b + i) (by omega)
    have l1 := ST.out.1.c1 (b + i) (by omega)
    have fz := ST.out.1.fr
    have zx := ST.out.1.lt
    obtain ⟨xi, hxi⟩ : ∃ x, swr f a b i (a + i) = x := ⟨_, rfl⟩
    obtain ⟨xj, hxj⟩ : ∃ x, swr f a b i (b + i) = x := ⟨_, rfl⟩
    rw [hxi] at k0 k1
    rw [hxj] at l0 l1
    obtain ⟨ia1, in1, ic1, ei⟩ := hsl xi
    obtain ⟨ja1, jn1, jc1, ej⟩ := hsl xj
    rw [ei] at k1
    rw [ej] at l1
    have EE := Lib.hid (And.intro hxi (And.intro hxj (And.intro ei ej)))
    clear hxi hxj ei ej
    go_region
    clear ha1 ha2 ha3 ha4 hb1 hb2 hb3 hb4 k0 k1 l0 l1
    go_wp2
    go_roundg (gk - 1)
    case measure => have := GZ.out; omega
    case rel =>
      refine ⟨i + 1, by go_num, by have := GZ.out; omega, ?_, ?_⟩
      · rw [swr_succ f (by omega)]
        exact RowM.swap (ST.out.1.on ((Below.refl _ _).drew)) (by omega) (by omega) EE.out.1 EE.out.2.1 EE.out.2.2.1 EE.out.2.2.2
      · exact ((((ST.out.2.drew.st (.inl rfl) _).st (.inl rfl) _).st (.inl rfl) _).st (.inl rfl) _)
set_option maxRecDepth 8000 in
set_option maxHeartbeats 2000000 in
theorem rot_any (hsl : ∀ x, ∃ a n q, lv x = .slice a n q) (blk off n cap a m b : Nat) (cb : Value) (f : Nat → α) (w : World) (hr0 : RowM sq lv w blk off n f)
    (ham : a < m) (hmb : m < b) (hb : b ≤ n) (hn : n ≤ 4611686018427387904) (hcap : n ≤ cap) :
    Calls Try.prog 82 #[.slice (some ⟨blk, off, none⟩) n cap, .int .i64 (a : Int), .int .i64 (m : Int), .int .i64 (b : Int), fnV cb] w fun e w' => e = .returned (.tuple #[]) ∧ Sw a b f (rot f a m b) ∧ RowM sq lv w' blk off n (rot f a m b) ∧ Mv (fun k => k = blk) w w' := by
  have HR0 := Lib.hid hr0
  clear hr0
  have hfn : fnV cb = .func (.func 51) #[] #[cb] := rfl
  rw [hfn]
  clear hfn
  go_enter Try.func82, Try.ntmps82
  go_wp2
  have i0 : ((m : Int) - (a : Int)) = ((m - a : Nat) : Int) := by omega
  have j0 : ((b : Int) - (m : Int)) = ((b - m : Nat) : Int) := by omega
  rw [i0, j0]
  go_loopg [10, 11] (b - a) (fun g vi vj wr => ∃ (i j : Nat) (fi : Nat → α), vi = .int .i64 (i : Int) ∧ vj = .int .i64 (j : Int) ∧ i + j = g ∧ 0 < i ∧ 0 < j ∧ a + i ≤ m ∧ m + j ≤ b ∧ rot fi (m - i) m (m + j) = rot f a m b ∧ Sw a b f fi ∧ RowM sq lv wr blk off n fi ∧ Mv (fun k => k = blk) w wr)
  case atStart => exact ⟨m - a, b - m, f, rfl, rfl, by omega, by omega, by omega, by omega, by omega, by rw [show m - (m - a) = a by omega, show m + (b - m) = b by omega], .refl _, HR0.out, Mv.refl _ _⟩
  case round =>
    obtain ⟨i, j, fi, rfl, rfl, hij, hi0, hj0, hia, hjb, s1, s2, s3, s4⟩ := hrel
    have ST := Lib.hid (And.intro s1 (And.intro s2 (And.intro s3 s4)))
    have HIJ := Lib.hid hij
    clear s1 s2 s3 s4 hij i0 j0
    have hmi : ((m : Int) - (i : Int)) = ((m - i : Nat) : Int) := by omega
    have hmj : ((m : Int) + (j : Int) - (i : Int)) = ((m + j - i : Nat) : Int) := by omega
    by_cases hlt : i < j
    · have H1 : Hid (∀ W, RowM sq lv W blk off n fi → Calls Try.prog 83 #[.slice (some ⟨blk, off, none⟩) n cap, .int .i64 ((m : Int) - (i : Int)), .int .i64 ((m : Int) + (j : Int) - (i : Int)), .int .i64 (i : Int), .func (.func 51) #[] #[cb]] W fun e w' => e = .returned (.tuple #[]) ∧ RowM sq lv w' blk off n (swr fi (m - i) (m + j - i) i) ∧ Mv (fun k => k = blk) W w') := Lib.hid (by
        intro W hW; rw [hmi, hmj]; exact swr_any hsl blk off n cap (m - i) (m + j - i) i cb fi W hW (by omega) (by omega) hn hcap)
      have t1 : ((i : Int) != (j : Int)) = true := by simp; omega
      have t2 : ¬ ((j : Int) < (i : Int)) := by omega
      have e1 : ((j : Int) - (i : Int)) = ((j - i : Nat) : Int) := by omega
      clear hmi hmj e1
      go_wp2_with (go_at_call 83; refine (H1.out _ ST.out.2.2.1).mono ?_; rintro e w1 ⟨rfl, r1, m1⟩; have R1 := Lib.hid (And.intro r1 m1); clear r1 m1)
      go_roundg (gk - i)
      case measure => have := HIJ.out; omega
      case rel =>
        refine ⟨i, j - i, swr fi (m - i) (m + j - i) i, rfl, by first | rfl | (congr 1; omega) | go_num, by have := HIJ.out; omega, hi0, by omega, hia, by omega, (rot_lt fi m i j (by omega) hlt).trans ST.out.1, ST.out.2.1.trans (swr_sw fi i (by omega) (by omega) (by omega)), R1.out.1, ST.out.2.2.2.trans R1.out.2⟩
    by_cases hgt : j < i
    · have H1 : Hid (∀ W, RowM sq lv W blk off n fi → Calls Try.prog 83 #[.slice (some ⟨blk, off, none⟩) n cap, .int .i64 ((m : Int) - (i : Int)), .int .i64 (m : Int), .int .i64 (j : Int), .func (.func 51) #[] #[cb]] W fun e w' => e = .returned (.tuple #[]) ∧ RowM sq lv w' blk off n (swr fi (m - i) m j) ∧ Mv (fun k => k = blk) W w') := Lib.hid (by
        intro W hW; rw [hmi]; exact swr_any hsl blk off n cap (m - i) m j cb fi W hW (by omega) (by omega) hn hcap)
      have t1 : ((i : Int) != (j : Int)) = true := by simp; omega
      have t2 : ((j : Int) < (i : Int)) := by omega
      clear hmi hmj
      go_wp2_with (go_at_call 83; refine (H1.out _ ST.out.2.2.1).mono ?_; rintro e w1 ⟨rfl, r1, m1⟩; have R1 := Lib.hid (And.intro r1 m1); clear r1 m1)
      go_roundg (gk - j)
      case measure => have := HIJ.out; omega
      case rel =>
        refine ⟨i - j, j, swr fi (m - i) m j, by first | rfl | (congr 1; omega) | go_num, rfl, by have := HIJ.out; omega, by omega, hj0, by omega, hjb, (rot_gt fi m i j (by omega) hgt).trans ST.out.1, ST.out.2.1.trans (swr_sw fi j (by omega) (by omega) (by omega)), R1.out.1, ST.out.2.2.2.trans R1.out.2⟩
    · obtain rfl : i = j := by omega
      have H1 : Hid (∀ W, RowM sq lv W blk off n fi → Calls Try.prog 83 #[.slice (some ⟨blk, off, none⟩) n cap, .int .i64 ((m : Int) - (i : Int)), .int .i64 (m : Int), .int .i64 (i : Int), .func (.func 51) #[] #[cb]] W fun e w' => e = .returned (.tuple #[]) ∧ RowM sq lv w' blk off n (swr fi (m - i) m i) ∧ Mv (fun k => k = blk) W w') := Lib.hid (by
        intro W hW; rw [hmi]; exact swr_any hsl blk off n cap (m - i) m i cb fi W hW (by omega) (by omega) hn hcap)
      have t1 : ((i : Int) != (i : Int)) = false := by simp
      clear hmi hmj hlt hgt
      go_wp2_with (go_at_call 83; refine (H1.out _ ST.out.2.2.1).mono ?_; rintro e w1 ⟨rfl, r1, m1⟩; have R1 := Lib.hid (And.intro r1 m1); clear r1 m1)
      go_end0
      have E : rot f a m b = swr fi (m - i) m i := ST.out.1.symm.trans (rot_eq fi m i (by omega))
      refine ⟨rfl, ?_, ?_, ST.out.2.2.2.trans R1.out.2⟩
      · rw [E]; exact ST.out.2.1.trans (swr_sw fi i (by omega) (by omega) (by omega))
      · rw [E]; exact R1.out.1
end Go.Proofs.Ytkblkjfejaflkaa
