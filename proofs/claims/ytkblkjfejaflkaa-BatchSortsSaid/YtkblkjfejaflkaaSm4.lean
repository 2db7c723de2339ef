/-
  SORTING IN MEMORY: slices.symMergeCmpFunc at records, where one half is one element. Conditions: the comparison's contract in every world where only the row's block has turned; the two halves in order.
-/
import Derived.Test.YtkblkjfejaflkaaSm3
import Derived.Test.YtkblkjfejaflkaaSs3
set_option linter.unusedVariables false
set_option linter.unusedSimpArgs false
namespace Go.Proofs.Ytkblkjfejaflkaa
open Go.RowKit Srt
variable {α : Type} {sq : α → Int} {lv : α → Value} {c : α → α → Int} {ix : α → Nat}
set_option maxRecDepth 8000 in
set_option maxHeartbeats 4000000 in
theorem sym_left1 (hp : Pre c) (hsl : ∀ x, ∃ a n q, lv x = .slice a n q) (blk off n cap a m b : Nat) (cb : Value) (f : Nat → α) (w0 w : World) (HC : CmpOk sq lv c blk w0 cb) (hm0 : Mv (fun k => k = blk) w0 w) (hr0 : RowM sq lv w blk off n f)
    (hma : m = a + 1) (hmb : m < b) (hb : b ≤ n) (hn : n ≤ 4611686018427387904) (hcap : n ≤ cap) (hg : Mg c ix f a m b) :
    Calls Try.prog 77 #[.slice (some ⟨blk, off, none⟩) n cap, .int .i64 (a : Int), .int .i64 (m : Int), .int .i64 (b : Int), fnV cb] w fun e w' => e = .returned (.tuple #[]) ∧ ∃ f', Sw a b f f' ∧ Ord c ix f' a b ∧ RowM sq lv w' blk off n f' ∧ Mv (fun k => k = blk) w w' := by
  have HCC := Lib.hid HC
  have HM0 := Lib.hid hm0
  have HR0 := Lib.hid hr0
  have HG : Hid (Mg c ix f a (a + 1) b) := Lib.hid (hma ▸ hg)
  have HMA := Lib.hid hma
  clear HC hm0 hr0 hg
  have hfn : fnV cb = .func (.func 51) #[] #[cb] := rfl
  rw [hfn]
  clear hfn
  have t0 : ((m : Int) - (a : Int) == 1) = true := by simp; omega
  have am : a < m := by omega
  clear hma
  go_enter Try.func77, Try.ntmps77
  go_wp2
  go_loopg [10, 11] (b - m) (fun g vi vj wr => ∃ i j : Nat, vi = .int .i64 (i : Int) ∧ vj = .int .i64 (j : Int) ∧ m ≤ i ∧ i ≤ j ∧ j ≤ b ∧ j ≤ i + g ∧ (∀ k, m ≤ k → k < i → c (f k) (f a) < 0) ∧ (j < b → ¬ c (f j) (f a) < 0) ∧ ∃ x : Ext w, x.it = wr)
  case atStart => exact ⟨m, b, rfl, rfl, by omega, by omega, by omega, by omega, fun k h1 h2 => by omega, fun h => by omega, ⟨w, Below.refl _ _⟩, rfl⟩
  case round =>
    obtain ⟨i, j, rfl, rfl, h1, h2, h3, h4, s1, s2, x, rfl⟩ := hrel
    have ST := Lib.hid (And.intro s1 s2)
    clear s1 s2
    have R0 := HR0.out.on x.below
    have M0 : Mv (fun k => k = blk) w x.it := Mv.of_below x.below
    by_cases hij : i < j
    · have hijz : (i : Int) < (j : Int) := by omega
      obtain ⟨h, hh⟩ : ∃ h : Nat, ((i : Int) + (j : Int)) / 2 = (h : Int) := ⟨(i + j) / 2, by omega⟩
      have hih : i ≤ h := by omega
      have hhj : h < j := by omega
      have hhn : (h : Int) < (n : Int) := by omega
      have han : (a : Int) < (n : Int) := by omega
      go_upto_region 5 with fail
      have k0 := R0.c0 h (by omega)
      have k1 := R0.c1 h (by omega)
      have l0 := R0.c0 a (by omega)
      have l1 := R0.c1 a (by omega)
      have zb := R0.lt
      obtain ⟨xh, hxh⟩ : ∃ x, f h = x := ⟨_, rfl⟩
      obtain ⟨xa, hxa⟩ : ∃ x, f a = x := ⟨_, rfl⟩
      rw [hxh] at k0 k1
      rw [hxa] at l0 l1
      obtain ⟨ja1, jn1, jc1, ej⟩ := hsl xh
      obtain ⟨pa1, pn1, pc1, ep⟩ := hsl xa
      rw [ej] at k1
      rw [ep] at l1
      obtain ⟨cv, hcv⟩ : ∃ cv, c xh xa = cv := ⟨_, rfl⟩
      have CX : Hid (∀ W, Mv (fun k => k = blk) w0 W → Calls Try.prog 51 #[.agg #[.int .i64 (sq xh), .slice ja1 jn1 jc1], .agg #[.int .i64 (sq xa), .slice pa1 pn1 pc1], cb] W fun e w' => e = .returned (.int .i64 cv) ∧ Below W.heap.size W w') := Lib.hid (by
        intro W hW; have := HCC.out W hW xh xa; rw [hcv, ej, ep] at this; exact this)
      have XX : Hid (c (f h) (f a) = cv) := Lib.hid (by rw [hxh, hxa]; exact hcv)
      have HH := Lib.hid hh
      have RM := Lib.hid (And.intro R0 M0)
      clear hxh hxa hcv ej ep hh R0 M0
      refine wp_region_ext (by kernel_rfl) (by kernel_rfl) ?_
      repeat (go_big_quiet_step (((go_at_call 51; exact Calls.ext (CX.out _ ((HM0.out.trans RM.out.2).on (Ext.below _)))))))
      refine wpQuiet_nil ?_
      rintro _ ⟨x5, rfl⟩
      clear k0 k1 l0 l1
      by_cases hlv : cv < 0
      · have hlv' : decide (cv < 0) = true := by simpa using hlv
        go_wp2
        go_roundg (j - (h + 1))
        case measure => omega
        case rel =>
          refine ⟨h + 1, j, by go_num, rfl, by omega, by omega, h3, by omega, fun k k1 k2 => ?_, ST.out.2, ⟨x5.it, Below.on x.below x5⟩, rfl⟩
          by_cases e : k = h
          · rw [e, XX.out]; exact hlv
          · by_cases e2 : k < i
            · exact ST.out.1 k k1 e2
            · have q : c (f k) (f h) ≤ 0 := (HG.out.r k h (by have := HMA.out; omega) (by omega) (by omega)).le
              exact hp.le_lt q (by rw [XX.out]; exact hlv)
      · have hlv' : decide (cv < 0) = false := by simpa using hlv
        go_wp2
        go_roundg (h - i)
        case measure => omega
        case rel => exact ⟨i, h, rfl, rfl, h1, by omega, by omega, by omega, ST.out.1, fun _ => by rw [XX.out]; exact hlv, ⟨x5.it, Below.on x.below x5⟩, rfl⟩
    · obtain rfl : i = j := by omega
      have t : ¬ ((i : Int) < (i : Int)) := by omega
      have RM := Lib.hid (And.intro R0 M0)
      clear R0 M0 hij h2 h4
      obtain ⟨d, hd⟩ : ∃ d, i = a + d + 1 := ⟨i - a - 1, by omega⟩
      have HD := Lib.hid hd
      clear hd
      obtain ⟨y, hy⟩ : ∃ y, x.it = y := ⟨_, rfl⟩
      rw [hy] at RM ⊢
      clear hy x
      go_upto_region 8 with fail
      go_wp2_with fail
      go_loopg [13] d (fun g vk wr => ∃ k : Nat, vk = .int .i64 (k : Int) ∧ a ≤ k ∧ k + g = a + d ∧ RowM sq lv wr blk off n (upF f a k) ∧ Mv (fun k => k = blk) w wr)
      case atStart => exact ⟨a, rfl, Nat.le_refl _, by omega, by rw [upF_zero]; exact RM.out.1, RM.out.2⟩
      case round =>
        obtain ⟨k, rfl, hak, hkg, s1, s2⟩ := hrel
        have SK := Lib.hid (And.intro s1 s2)
        clear s1 s2
        by_cases hg0 : gk = 0
        · have hkd := Lib.hid (show k = a + d by omega)
          have t2 : ¬ ((k : Int) < (i : Int) - 1) := by have := HD.out; omega
          have t2' : (i : Int) - 1 ≤ (k : Int) := by have := HD.out; omega
          clear hg0 hkg
          go_wp2
          (try simp only [Exit.inBlock, Exit.then]); refine bodyPost_ret (results_none rfl _ _ _) rfl ?_
          refine ⟨rfl, upF f a (a + d), upF_sw f d (by have := HD.out; omega), ?_, hkd.out ▸ SK.out.1, SK.out.2⟩
          have q1 := HD.out
          have q2 := HMA.out
          exact Mg.left1 hp HG.out (i := i) (by omega) h3 (fun k k1 k2 => ST.out.1 k (by omega) k2) (fun h => by have := ST.out.2 h; omega) (fun x x1 x2 => by unfold upF; rw [if_pos (by omega)]) (by unfold upF; rw [if_neg (by omega), if_pos (by omega)]) (fun x x1 x2 => by unfold upF; rw [if_neg (by omega), if_neg (by omega)])
        have t2 : ((k : Int) < (i : Int) - 1) := by have := HD.out; omega
        have GZ := Lib.hid (And.intro hg0 hkg)
        have hkn : k + 1 < n := by have := HD.out; omega
        go_upto_region 11 with fail
        have k1z : (k : Int) + 1 < (n : Int) := by omega
        have k2z : (k : Int) < (n : Int) := by omega
        have k3z : (0 : Int) ≤ (k : Int) + 1 := by omega
        have k4z : ((k : Int) + 1).toNat = k + 1 := by omega
        have k5z : IntKind.i64.wrap ((k : Int) + 1) = (k : Int) + 1 := by rw [IntKind.wrap_i64]; omega
        have k0 := SK.out.1.c0 k (by omega)
        have k1 := SK.out.1.c1 k (by omega)
        have l0 := SK.out.1.c0 (k + 1) (by omega)
        have l1 := SK.out.1.c1 (k + 1) (by omega)
        have fz := SK.out.1.fr
        have zx := SK.out.1.lt
        obtain ⟨xi, hxi⟩ : ∃ x, upF f a k k = x := ⟨_, rfl⟩
        obtain ⟨xj, hxj⟩ : ∃ x, upF f a k (k + 1) = x := ⟨_, rfl⟩
        rw [hxi] at k0 k1
        rw [hxj] at l0 l1
        obtain ⟨ia1, in1, ic1, ei⟩ := hsl xi
        obtain ⟨ja1, jn1, jc1, ej⟩ := hsl xj
        rw [ei] at k1
        rw [ej] at l1
        have EE := Lib.hid (And.intro hxi (And.intro hxj (And.intro ei ej)))
        clear hxi hxj ei ej hg0 hkg
        go_region
        clear k0 k1 l0 l1 k1z k2z k3z k4z k5z
        go_wp2
        go_roundg (gk - 1)
        case measure => have := GZ.out; omega
        case rel =>
          refine ⟨k + 1, by go_num, by omega, by have := GZ.out; omega, ?_, ?_⟩
          · rw [upF_succ f hak]
            exact RowM.swap (SK.out.1.on ((Below.refl _ _).drew)) (by omega) (by omega) EE.out.1 EE.out.2.1 EE.out.2.2.1 EE.out.2.2.2
          · exact ((((SK.out.2.drew.st (.inl rfl) _).st (.inl rfl) _).st (.inl rfl) _).st (.inl rfl) _)
end Go.Proofs.Ytkblkjfejaflkaa
