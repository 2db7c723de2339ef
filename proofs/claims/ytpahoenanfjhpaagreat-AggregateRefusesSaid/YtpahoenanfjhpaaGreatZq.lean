/-
  CHAPTER 26: Tm4, Tm5, Tm6 (several texts in one). Conditions: each theorem states its own.
-/
import Derived.Test.YtpahoenanfjhpaaGreatZp
import Derived.Test.YtpahoenanfjhpaaGreatZn
set_option linter.unusedVariables false
set_option linter.unusedSimpArgs false
namespace Go.Proofs.YtpahoenanfjhpaaGreat
open Go.RowKit Srt
variable {α : Type} {lv : α → Value} {c : α → α → Int} {ix : α → Nat}
set_option maxRecDepth 8000 in
set_option maxHeartbeats 4000000 in
theorem symv_left1 (hp : Pre c) (hsl : ∀ x, ∃ a n q, lv x = .slice a n q) (blk off n cap a m b : Nat) (cb : Value) (f : Nat → α) (w0 w : World) (HC : CmpV lv c blk w0 cb) (hm0 : Mv (fun k => k = blk) w0 w) (hr0 : RowV lv w blk off n f)
    (hma : m = a + 1) (hmb : m < b) (hb : b ≤ n) (hn : n ≤ 4611686018427387904) (hcap : n ≤ cap) (hg : Mg c ix f a m b) :
    Calls Tryz.prog 87 #[.slice (some ⟨blk, off, none⟩) n cap, .int .i64 (a : Int), .int .i64 (m : Int), .int .i64 (b : Int), fnC cb] w fun e w' => e = .returned (.tuple #[]) ∧ ∃ f', Sw a b f f' ∧ Ord c ix f' a b ∧ RowV lv w' blk off n f' ∧ Mv (fun k => k = blk) w w' := by
  have HCC := Lib.hid HC
  have HM0 := Lib.hid hm0
  have HR0 := Lib.hid hr0
  have HG : Hid (Mg c ix f a (a + 1) b) := Lib.hid (hma ▸ hg)
  have HMA := Lib.hid hma
  clear HC hm0 hr0 hg
  have hfn : fnC cb = .func (.func 42) #[cb] #[] := rfl
  rw [hfn]
  clear hfn
  have t0 : ((m : Int) - (a : Int) == 1) = true := by simp; omega
  have am : a < m := by omega
  clear hma
  go_enter Tryz.func87, Tryz.ntmps87
  go_wp2
  go_loopg [10, 11] (b - m) (fun g vi vj wr => ∃ i j : Nat, vi = .int .i64 (i : Int) ∧ vj = .int .i64 (j : Int) ∧ m ≤ i ∧ i ≤ j ∧ j ≤ b ∧ j ≤ i + g ∧ (∀ k, m ≤ k → k < i → c (f k) (f a) < 0) ∧ (j < b → ¬ c (f j) (f a) < 0) ∧ ∃ x : Ext w, x.it = wr)
  case atStart => exact ⟨m, b, rfl, rfl, by omega, by omega, by omega, by omega, fun k h1 h2 => by omega, fun h => by omega, ⟨w, Below.refl _ _⟩, rfl⟩
  case round =>
    obtain ⟨i, j, rfl, rfl, h1, h2, h3, h4, s1, s2, x, rfl⟩ := hrel
    have ST := Lib.hid (And.intro s1 s2)
    clear s1 s2
    have R0 := HR0.out.on x.below
    have M0 : Mv (fun k => k = blk) w x.it := Mv.of_below x.below
    by_cases hij : i < j
    · have hijz : (i : Int) < (j : Int) := by omega
      obtain ⟨h, hh⟩ : ∃ h : Nat, ((i : Int) + (j : Int)) / 2 = (h : Int) := ⟨(i + j) / 2, by omega⟩
      have hih : i ≤ h := by omega
      have hhj : h < j := by omega
      have hhn : (h : Int) < (n : Int) := by omega
      have han : (a : Int) < (n : Int) := by omega
      go_upto_region 5 with fail
      have k1 := R0.c0 h (by omega)
      have l1 := R0.c0 a (by omega)
      have zb := R0.lt
      obtain ⟨xh, hxh⟩ : ∃ x, f h = x := ⟨_, rfl⟩
      obtain ⟨xa, hxa⟩ : ∃ x, f a = x := ⟨_, rfl⟩
      rw [hxh] at k1
      rw [hxa] at l1
      obtain ⟨ja1, jn1, jc1, ej⟩ := hsl xh
      obtain ⟨pa1, pn1, pc1, ep⟩ := hsl xa
      rw [ej] at k1
      rw [ep] at l1
      obtain ⟨cv, hcv⟩ : ∃ cv, c xh xa = cv := ⟨_, rfl⟩
      have CX : Hid (∀ W, Mv (fun k => k = blk) w0 W → Calls Tryz.prog 42 #[cb, (.slice ja1 jn1 jc1), (.slice pa1 pn1 pc1)] W fun e w' => e = .returned (.int .i64 cv) ∧ Below W.heap.size W w') := Lib.hid (by
        intro W hW; have := HCC.out W hW xh xa; rw [hcv, ej, ep] at this; exact this)
      have XX : Hid (c (f h) (f a) = cv) := Lib.hid (by rw [hxh, hxa]; exact hcv)
      have HH := Lib.hid hh
      have RM := Lib.hid (And.intro R0 M0)
      clear hxh hxa hcv ej ep hh R0 M0
      refine wp_region_ext (by kernel_rfl) (by kernel_rfl) ?_
      repeat (go_big_quiet_step (((go_at_call 42; exact Calls.ext (CX.out _ ((HM0.out.trans RM.out.2).on (Ext.below _)))))))
      refine wpQuiet_nil ?_
      rintro _ ⟨x5, rfl⟩
      clear k1 l1
      by_cases hlv : cv < 0
      · have hlv' : decide (cv < 0) = true := by simpa using hlv
        go_wp2
        go_roundg (j - (h + 1))
        case measure => omega
        case rel =>
          refine ⟨h + 1, j, by go_num, rfl, by omega, by omega, h3, by omega, fun k k1 k2 => ?_, ST.out.2, ⟨x5.it, Below.on x.below x5⟩, rfl⟩
          by_cases e : k = h
          · rw [e, XX.out]; exact hlv
          · by_cases e2 : k < i
            · exact ST.out.1 k k1 e2
            · have q : c (f k) (f h) ≤ 0 := (HG.out.r k h (by have := HMA.out; omega) (by omega) (by omega)).le
              exact hp.le_lt q (by rw [XX.out]; exact hlv)
      · have hlv' : decide (cv < 0) = false := by simpa using hlv
        go_wp2
        go_roundg (h - i)
        case measure => omega
        case rel => exact ⟨i, h, rfl, rfl, h1, by omega, by omega, by omega, ST.out.1, fun _ => by rw [XX.out]; exact hlv, ⟨x5.it, Below.on x.below x5⟩, rfl⟩
    · obtain rfl : i = j := by omega
      have t : ¬ ((i : Int) < (i : Int)) := by omega
      have RM := Lib.hid (And.intro R0 M0)
      clear R0 M0 hij h2 h4
      obtain ⟨d, hd⟩ : ∃ d, i = a + d + 1 := ⟨i - a - 1, by omega⟩
      have HD := Lib.hid hd
      clear hd
      obtain ⟨y, hy⟩ : ∃ y, x.it = y := ⟨_, rfl⟩
      rw [hy] at RM ⊢
      clear hy x
      go_upto_region 8 with fail
      go_wp2_with fail
      go_loopg [13] d (fun g vk wr => ∃ k : Nat, vk = .int .i64 (k : Int) ∧ a ≤ k ∧ k + g = a + d ∧ RowV lv wr blk off n (upF f a k) ∧ Mv (fun k => k = blk) w wr)
      case atStart => exact ⟨a, rfl, Nat.le_refl _, by omega, by rw [upF_zero]; exact RM.out.1, RM.out.2⟩
      case round =>
        obtain ⟨k, rfl, hak, hkg, s1, s2⟩ := hrel
        have SK := Lib.hid (And.intro s1 s2)
        clear s1 s2
        by_cases hg0 : gk = 0
        · have hkd := Lib.hid (show k = a + d by omega)
          have t2 : ¬ ((k : Int) < (i : Int) - 1) := by have := HD.out; omega
          have t2' : (i : Int) - 1 ≤ (k : Int) := by have := HD.out; omega
          clear hg0 hkg
          go_wp2
          (try simp only [Exit.inBlock, Exit.then]); refine bodyPost_ret (results_none rfl _ _ _) rfl ?_
          refine ⟨rfl, upF f a (a + d), upF_sw f d (by have := HD.out; omega), ?_, hkd.out ▸ SK.out.1, SK.out.2⟩
          have q1 := HD.out
          have q2 := HMA.out
          exact Mg.left1 hp HG.out (i := i) (by omega) h3 (fun k k1 k2 => ST.out.1 k (by omega) k2) (fun h => by have := ST.out.2 h; omega) (fun x x1 x2 => by unfold upF; rw [if_pos (by omega)]) (by unfold upF; rw [if_neg (by omega), if_pos (by omega)]) (fun x x1 x2 => by unfold upF; rw [if_neg (by omega), if_neg (by omega)])
        have t2 : ((k : Int) < (i : Int) - 1) := by have := HD.out; omega
        have GZ := Lib.hid (And.intro hg0 hkg)
        have hkn : k + 1 < n := by have := HD.out; omega
        go_upto_region 11 with fail
        have k1z : (k : Int) + 1 < (n : Int) := by omega
        have k2z : (k : Int) < (n : Int) := by omega
        have k3z : (0 : Int) ≤ (k : Int) + 1 := by omega
        have k4z : ((k : Int) + 1).toNat = k + 1 := by omega
        have k5z : IntKind.i64.wrap ((k : Int) + 1) = (k : Int) + 1 := by rw [IntKind.wrap_i64]; omega
        have k1 := SK.out.1.c0 k (by omega)
        have l1 := SK.out.1.c0 (k + 1) (by omega)
        have fz := SK.out.1.fr
        have zx := SK.out.1.lt
        obtain ⟨xi, hxi⟩ : ∃ x, upF f a k k = x := ⟨_, rfl⟩
        obtain ⟨xj, hxj⟩ : ∃ x, upF f a k (k + 1) = x := ⟨_, rfl⟩
        rw [hxi] at k1
        rw [hxj] at l1
        obtain ⟨ia1, in1, ic1, ei⟩ := hsl xi
        obtain ⟨ja1, jn1, jc1, ej⟩ := hsl xj
        rw [ei] at k1
        rw [ej] at l1
        have EE := Lib.hid (And.intro hxi (And.intro hxj (And.intro ei ej)))
        clear hxi hxj ei ej hg0 hkg
        go_region
        clear k1 l1 k1z k2z k3z k4z k5z
        go_wp2
        go_roundg (gk - 1)
        case measure => have := GZ.out; omega
        case rel =>
          refine ⟨k + 1, by go_num, by omega, by have := GZ.out; omega, ?_, ?_⟩
          · rw [upF_succ f hak]
            exact RowV.swap (SK.out.1.on ((Below.refl _ _).drew)) (by omega) (by omega) EE.out.1 EE.out.2.1 EE.out.2.2.1 EE.out.2.2.2
          · exact ((SK.out.2.drew.st (.inl rfl) _).st (.inl rfl) _)
end Go.Proofs.YtpahoenanfjhpaaGreat
namespace Go.Proofs.YtpahoenanfjhpaaGreat
open Go.RowKit Srt
variable {α : Type} {lv : α → Value} {c : α → α → Int} {ix : α → Nat}
set_option maxRecDepth 8000 in
set_option maxHeartbeats 4000000 in
theorem symv_right1 (hp : Pre c) (hsl : ∀ x, ∃ a n q, lv x = .slice a n q) (blk off n cap a m b : Nat) (cb : Value) (f : Nat → α) (w0 w : World) (HC : CmpV lv c blk w0 cb) (hm0 : Mv (fun k => k = blk) w0 w) (hr0 : RowV lv w blk off n f)
    (hmb : b = m + 1) (ham : a < m) (hne : m ≠ a + 1) (hb : b ≤ n) (hn : n ≤ 4611686018427387904) (hcap : n ≤ cap) (hg : Mg c ix f a m b) :
    Calls Tryz.prog 87 #[.slice (some ⟨blk, off, none⟩) n cap, .int .i64 (a : Int), .int .i64 (m : Int), .int .i64 (b : Int), fnC cb] w fun e w' => e = .returned (.tuple #[]) ∧ ∃ f', Sw a b f f' ∧ Ord c ix f' a b ∧ RowV lv w' blk off n f' ∧ Mv (fun k => k = blk) w w' := by
  have HCC := Lib.hid HC
  have HM0 := Lib.hid hm0
  have HR0 := Lib.hid hr0
  have HG : Hid (Mg c ix f a m (m + 1)) := Lib.hid (hmb ▸ hg)
  have HMB := Lib.hid hmb
  clear HC hm0 hr0 hg
  have hfn : fnC cb = .func (.func 42) #[cb] #[] := rfl
  rw [hfn]
  clear hfn
  have t0 : ((m : Int) - (a : Int) == 1) = false := by simp; omega
  have t00 : ((b : Int) - (m : Int) == 1) = true := by simp; omega
  have mb : m < b := by omega
  clear hmb hne
  go_enter Tryz.func87, Tryz.ntmps87
  go_wp2
  go_loopg [14, 15] (m - a) (fun g vi vj wr => ∃ i j : Nat, vi = .int .i64 (i : Int) ∧ vj = .int .i64 (j : Int) ∧ a ≤ i ∧ i ≤ j ∧ j ≤ m ∧ j ≤ i + g ∧ (∀ k, a ≤ k → k < i → ¬ c (f m) (f k) < 0) ∧ (j < m → c (f m) (f j) < 0) ∧ ∃ x : Ext w, x.it = wr)
  case atStart => exact ⟨a, m, rfl, rfl, by omega, by omega, by omega, by omega, fun k h1 h2 => by omega, fun h => by omega, ⟨w, Below.refl _ _⟩, rfl⟩
  case round =>
    obtain ⟨i, j, rfl, rfl, h1, h2, h3, h4, s1, s2, x, rfl⟩ := hrel
    have ST := Lib.hid (And.intro s1 s2)
    clear s1 s2
    have R0 := HR0.out.on x.below
    have M0 : Mv (fun k => k = blk) w x.it := Mv.of_below x.below
    by_cases hij : i < j
    · have hijz : (i : Int) < (j : Int) := by omega
      obtain ⟨h, hh⟩ : ∃ h : Nat, ((i : Int) + (j : Int)) / 2 = (h : Int) := ⟨(i + j) / 2, by omega⟩
      have hih : i ≤ h := by omega
      have hhj : h < j := by omega
      have hhn : (h : Int) < (n : Int) := by omega
      have han : (m : Int) < (n : Int) := by omega
      go_upto_region 17 with fail
      have k1 := R0.c0 h (by omega)
      have l1 := R0.c0 m (by omega)
      have zb := R0.lt
      obtain ⟨xh, hxh⟩ : ∃ x, f h = x := ⟨_, rfl⟩
      obtain ⟨xa, hxa⟩ : ∃ x, f m = x := ⟨_, rfl⟩
      rw [hxh] at k1
      rw [hxa] at l1
      obtain ⟨ja1, jn1, jc1, ej⟩ := hsl xh
      obtain ⟨pa1, pn1, pc1, ep⟩ := hsl xa
      rw [ej] at k1
      rw [ep] at l1
      obtain ⟨cv, hcv⟩ : ∃ cv, c xa xh = cv := ⟨_, rfl⟩
      have CX : Hid (∀ W, Mv (fun k => k = blk) w0 W → Calls Tryz.prog 42 #[cb, (.slice pa1 pn1 pc1), (.slice ja1 jn1 jc1)] W fun e w' => e = .returned (.int .i64 cv) ∧ Below W.heap.size W w') := Lib.hid (by
        intro W hW; have := HCC.out W hW xa xh; rw [hcv, ej, ep] at this; exact this)
      have XX : Hid (c (f m) (f h) = cv) := Lib.hid (by rw [hxh, hxa]; exact hcv)
      have HH := Lib.hid hh
      have RM := Lib.hid (And.intro R0 M0)
      clear hxh hxa hcv ej ep hh R0 M0
      by_cases hlv : cv < 0
      · have hlv' : decide (cv < 0) = true := by simpa using hlv
        refine wp_region_ext (by kernel_rfl) (by kernel_rfl) ?_
        repeat (go_big_quiet_step (((go_at_call 42; exact Calls.ext (CX.out _ ((HM0.out.trans RM.out.2).on (Ext.below _)))))))
        refine wpQuiet_nil ?_
        rintro _ ⟨x5, rfl⟩
        clear k1 l1
        go_wp2
        go_roundg (h - i)
        case measure => omega
        case rel => exact ⟨i, h, rfl, rfl, h1, by omega, by omega, by omega, fun k q1 q2 => by (have := ST.out.1 k q1 q2); omega, fun _ => by rw [XX.out]; exact hlv, ⟨x5.it, Below.on x.below x5⟩, rfl⟩
      · have hlv' : decide (cv < 0) = false := by simpa using hlv
        refine wp_region_ext (by kernel_rfl) (by kernel_rfl) ?_
        repeat (go_big_quiet_step (((go_at_call 42; exact Calls.ext (CX.out _ ((HM0.out.trans RM.out.2).on (Ext.below _)))))))
        refine wpQuiet_nil ?_
        rintro _ ⟨x5, rfl⟩
        clear k1 l1
        go_wp2
        go_roundg (j - (h + 1))
        case measure => omega
        case rel =>
          refine ⟨h + 1, j, by go_num, rfl, by omega, by omega, h3, by omega, fun k k1 k2 => ?_, ST.out.2, ⟨x5.it, Below.on x.below x5⟩, rfl⟩
          by_cases e : k = h
          · rw [e, XX.out]; omega
          · by_cases e2 : k < i
            · have := ST.out.1 k k1 e2; omega
            · rcases Int.lt_or_le (c (f m) (f k)) 0 with bad | ok
              rotate_left
              · omega
              exfalso
              have q : c (f k) (f h) ≤ 0 := (HG.out.l k h (by omega) (by omega) (by omega)).le
              have := hp.lt_le bad q
              rw [XX.out] at this
              omega
    · obtain rfl : i = j := by omega
      have t : ¬ ((i : Int) < (i : Int)) := by omega
      have RM := Lib.hid (And.intro R0 M0)
      clear R0 M0 hij h2 h4
      obtain ⟨d, hd⟩ : ∃ d, m = i + d := ⟨m - i, by omega⟩
      have HD := Lib.hid hd
      clear hd
      obtain ⟨y, hy⟩ : ∃ y, x.it = y := ⟨_, rfl⟩
      rw [hy] at RM ⊢
      clear hy x
      go_upto_region 20 with fail
      go_wp2_with fail
      go_loopg [17] d (fun g vk wr => ∃ k : Nat, vk = .int .i64 (k : Int) ∧ k ≤ m ∧ k = i + g ∧ RowV lv wr blk off n (dnF f m k) ∧ Mv (fun k => k = blk) w wr)
      case atStart => exact ⟨m, rfl, Nat.le_refl _, HD.out, by rw [dnF_zero]; exact RM.out.1, RM.out.2⟩
      case round =>
        obtain ⟨k, rfl, hkm, hkg, s1, s2⟩ := hrel
        have SK := Lib.hid (And.intro s1 s2)
        clear s1 s2
        by_cases hg0 : gk = 0
        · have hki := Lib.hid (show k = i by omega)
          have t2 : ¬ ((i : Int) < (k : Int)) := by have := hki.out; omega
          have t2' : decide (i < k) = false := by have := hki.out; simp; omega
          clear hg0 hkg
          go_wp2
          (try simp only [Exit.inBlock, Exit.then]); refine bodyPost_ret (results_none rfl _ _ _) rfl ?_
          have sw := dnF_sw f (a := a) (m := m) d (by have := HD.out; omega)
          rw [show m - d = i by have := HD.out; omega] at sw
          have mb' := HMB.out
          refine ⟨rfl, dnF f m i, by rw [mb']; exact sw, ?_, hki.out ▸ SK.out.1, SK.out.2⟩
          rw [mb']
          exact Mg.right1 hp HG.out (i := i) h1 h3 (fun k q1 q2 => by have := ST.out.1 k q1 q2; omega) (fun h => ST.out.2 h) (fun x x1 x2 => by unfold dnF; rw [if_neg (by omega), if_neg (by omega)]) (by unfold dnF; rw [if_pos rfl]) (fun x x1 x2 => by unfold dnF; rw [if_neg (by omega), if_pos (by omega)])
        have t2 : ((i : Int) < (k : Int)) := by omega
        have t2' : decide (i < k) = true := by simp; omega
        obtain ⟨j, hj⟩ : ∃ j, k = j + 1 := ⟨k - 1, by omega⟩
        have HJ := Lib.hid hj
        have GZ := Lib.hid (And.intro hg0 hkg)
        have hkn : k < n := by have := HMB.out; omega
        go_upto_region 23 with fail
        have k1z : (k : Int) < (n : Int) := by omega
        have k2z : (j : Int) < (n : Int) := by omega
        have k3z : (0 : Int) ≤ (k : Int) - 1 := by omega
        have k4z : ((k : Int) - 1).toNat = j := by omega
        have k5z : IntKind.i64.wrap ((k : Int) - 1) = (k : Int) - 1 := by rw [IntKind.wrap_i64]; omega
        have k6z : (k : Int) - 1 < (n : Int) := by omega
        have k1 := SK.out.1.c0 k (by omega)
        have l1 := SK.out.1.c0 j (by omega)
        have fz := SK.out.1.fr
        have zx := SK.out.1.lt
        obtain ⟨xi, hxi⟩ : ∃ x, dnF f m k k = x := ⟨_, rfl⟩
        obtain ⟨xj, hxj⟩ : ∃ x, dnF f m k j = x := ⟨_, rfl⟩
        rw [hxi] at k1
        rw [hxj] at l1
        obtain ⟨ia1, in1, ic1, ei⟩ := hsl xi
        obtain ⟨ja1, jn1, jc1, ej⟩ := hsl xj
        rw [ei] at k1
        rw [ej] at l1
        have EE := Lib.hid (And.intro hxi (And.intro hxj (And.intro ei ej)))
        clear hxi hxj ei ej hg0 hkg hj
        go_region
        clear k1 l1 k1z k2z k3z k4z k5z k6z
        go_wp2
        go_roundg (gk - 1)
        case measure => have := GZ.out; omega
        case rel =>
          refine ⟨j, by have := HJ.out; rw [show (j : Int) = (k : Int) - 1 by omega], by have := HJ.out; omega, by have := GZ.out; have := HJ.out; omega, ?_, ?_⟩
          · have hjk := HJ.out
            subst hjk
            rw [dnF_succ f (by omega)]
            exact RowV.swap (SK.out.1.on ((Below.refl _ _).drew)) (by omega) (by omega) EE.out.1 EE.out.2.1 EE.out.2.2.1 EE.out.2.2.2
          · exact ((SK.out.2.drew.st (.inl rfl) _).st (.inl rfl) _)
end Go.Proofs.YtpahoenanfjhpaaGreat
namespace Go.Proofs.YtpahoenanfjhpaaGreat
open Go.RowKit Srt
variable {α : Type} {lv : α → Value} {c : α → α → Int} {ix : α → Nat}
theorem Srt.Mg.congr {f g : Nat → α} {a m b : Nat} (h : Mg c ix f a m b) (ham : a ≤ m) (hmb : m ≤ b) (e : ∀ k, a ≤ k → k < b → g k = f k) : Mg c ix g a m b :=
  ⟨h.l.congr fun k k1 k2 => e k k1 (by omega), h.r.congr fun k k1 k2 => e k (by omega) k2, fun i j i1 i2 j1 j2 => by rw [e i i1 (by omega), e j (by omega) j2]; exact h.x i j i1 i2 j1 j2⟩
/-- What a merge leaves. -/
def SymV (lv : α → Value) (c : α → α → Int) (ix : α → Nat) (blk off n a b : Nat) (f : Nat → α) (w w' : World) : Prop := ∃ f', Sw a b f f' ∧ Ord c ix f' a b ∧ RowV lv w' blk off n f' ∧ Mv (fun k => k = blk) w w'
set_option maxRecDepth 8000 in
set_option maxHeartbeats 4000000 in
theorem symv_any (hp : Pre c) (hsl : ∀ x, ∃ a n q, lv x = .slice a n q) (blk off n cap : Nat) (cb : Value) (w0 : World) (HC : CmpV lv c blk w0 cb) (hn : n ≤ 4611686018427387904) (hcap : n ≤ cap) :
    ∀ (N a m b : Nat) (f : Nat → α) (w : World), b ≤ a + N → Mv (fun k => k = blk) w0 w → RowV lv w blk off n f → a < m → m < b → b ≤ n → Mg c ix f a m b →
    Calls Tryz.prog 87 #[.slice (some ⟨blk, off, none⟩) n cap, .int .i64 (a : Int), .int .i64 (m : Int), .int .i64 (b : Int), fnC cb] w fun e w' => e = .returned (.tuple #[]) ∧ SymV lv c ix blk off n a b f w w' := by
  intro N
  induction N with
  | zero => intro a m b f w h1 _ _ h2 h3; omega
  | succ N ih =>
  intro a m b f w hN hm0 hr0 ham hmb hb hg
  by_cases hl : m = a + 1
  · exact symv_left1 hp hsl blk off n cap a m b cb f w0 w HC hm0 hr0 hl hmb hb hn hcap hg
  by_cases hr : b = m + 1
  · exact symv_right1 hp hsl blk off n cap a m b cb f w0 w HC hm0 hr0 hr ham hl hb hn hcap hg
  have HCC := Lib.hid HC
  have HM0 := Lib.hid hm0
  have HR0 := Lib.hid hr0
  have HG := Lib.hid hg
  have IH := Lib.hid ih
  have HNN := Lib.hid hN
  have hfn : fnC cb = .func (.func 42) #[cb] #[] := rfl
  clear ih hm0 hr0 hg hN HC
  unfold fnC at IH
  rw [hfn]
  clear hfn
  have t0 : ((m : Int) - (a : Int) == 1) = false := by simp; omega
  have t1 : ((b : Int) - (m : Int) == 1) = false := by simp; omega
  obtain ⟨mid, hmid⟩ : ∃ mid, (a + b) / 2 = mid := ⟨_, rfl⟩
  have hmz : ((a : Int) + (b : Int)) / 2 = (mid : Int) := by omega
  have amid : a < mid := by omega
  have midb : mid < b := by omega
  have HMID := Lib.hid hmid
  have HLR := Lib.hid (And.intro hl hr)
  clear hl hr hmid
  go_enter Tryz.func87, Tryz.ntmps87
  go_upto_if 140 with fail
  have HMZ := Lib.hid hmz
  clear t0 t1 hmz
  go_cut [20, 21] from 140 to 146 (fun s20 s21 wx => wx = w ∧ ∃ S R : Nat, s20 = .int .i64 (S : Int) ∧ s21 = .int .i64 (R : Int) ∧ S ≤ R ∧ R ≤ mid + m - 1 ∧ R ≤ n ∧ mid + m - S ≤ n ∧ ∀ s, Sea c f S R (mid + m - 1) s s → Cut c f a m b s (mid + m - s))
  case first =>
    by_cases hmm : mid < m
    · have z : (mid : Int) < (m : Int) := by omega
      have e1 : (mid : Int) + (m : Int) - (b : Int) = ((mid + m - b : Nat) : Int) := by have := HMID.out; omega
      go_wp2
      go_meet
      exact ⟨rfl, mid + m - b, mid, by first | rfl | rw [e1] | go_num, rfl, by have := HMID.out; omega, by omega, by omega, by have := HMID.out; omega, fun s h => h.cut_hi HMID.out.symm rfl hmm ham hmb⟩
    · have z : ¬ (mid : Int) < (m : Int) := by omega
      go_wp2
      go_meet
      exact ⟨rfl, a, m, rfl, rfl, by omega, by omega, by omega, by have := HMID.out; omega, fun s h => h.cut_lo HMID.out.symm rfl (by omega) ham hmb⟩
  case rest =>
  obtain ⟨hw, S0, R0', rfl, rfl, hSR, hRp, hRn, hSn, hcutF⟩ := hcut
  obtain rfl : w = wc := hw.symm
  have CUTF := Lib.hid hcutF
  obtain ⟨P, hP⟩ : ∃ P, mid + m - 1 = P := ⟨_, rfl⟩
  have pz : (mid : Int) + (m : Int) - 1 = (P : Int) := by omega
  have HP := Lib.hid hP
  rw [hP] at hRp CUTF
  clear hcutF hP
  go_upto_region 32 with fail
  go_wp2_with fail
  go_loopg [20, 21] (R0' - S0) (fun g vi vj wr => ∃ s r : Nat, vi = .int .i64 (s : Int) ∧ vj = .int .i64 (r : Int) ∧ r ≤ s + g ∧ Sea c f S0 R0' P s r ∧ ∃ x : Ext w, x.it = wr)
  case atStart => exact ⟨S0, R0', rfl, rfl, by omega, Sea.start hSR, ⟨w, Below.refl _ _⟩, rfl⟩
  case round =>
    obtain ⟨s, r, rfl, rfl, hg, s1, x, rfl⟩ := hrel
    have ST := Lib.hid s1
    have hlo := s1.lo
    have hsr := s1.sr
    have hhi := s1.hi
    clear s1
    have R0 := HR0.out.on x.below
    have M0 : Mv (fun k => k = blk) w x.it := Mv.of_below x.below
    by_cases hij : s < r
    · have hijz : (s : Int) < (r : Int) := by omega
      obtain ⟨h, hh⟩ : ∃ h : Nat, ((s : Int) + (r : Int)) / 2 = (h : Int) := ⟨(s + r) / 2, by omega⟩
      have hih : s ≤ h := by omega
      have hhj : h < r := by omega
      have hhn : (h : Int) < (n : Int) := by omega
      obtain ⟨q, hq⟩ : ∃ q, P - h = q := ⟨_, rfl⟩
      have hqn : q < n := by have := HP.out; omega
      have hqz : (q : Int) < (n : Int) := by omega
      have hqe : (P : Int) - (h : Int) = (q : Int) := by omega
      have hqw : IntKind.i64.wrap ((P : Int) - (h : Int)) = (q : Int) := by rw [IntKind.wrap_i64]; omega
      have hq0 : (0 : Int) ≤ (q : Int) := by omega
      go_upto_region 35 with fail
      have k1 := R0.c0 q (by omega)
      have l1 := R0.c0 h (by omega)
      have zb := R0.lt
      obtain ⟨xh, hxh⟩ : ∃ x, f q = x := ⟨_, rfl⟩
      obtain ⟨xa, hxa⟩ : ∃ x, f h = x := ⟨_, rfl⟩
      rw [hxh] at k1
      rw [hxa] at l1
      obtain ⟨ja1, jn1, jc1, ej⟩ := hsl xh
      obtain ⟨pa1, pn1, pc1, ep⟩ := hsl xa
      rw [ej] at k1
      rw [ep] at l1
      obtain ⟨cv, hcv⟩ : ∃ cv, c xh xa = cv := ⟨_, rfl⟩
      have CX : Hid (∀ W, Mv (fun k => k = blk) w0 W → Calls Tryz.prog 42 #[cb, (.slice ja1 jn1 jc1), (.slice pa1 pn1 pc1)] W fun e w' => e = .returned (.int .i64 cv) ∧ Below W.heap.size W w') := Lib.hid (by
        intro W hW; have := HCC.out W hW xh xa; rw [hcv, ej, ep] at this; exact this)
      have XX : Hid (c (f (P - h)) (f h) = cv) := Lib.hid (by rw [hq, hxh, hxa]; exact hcv)
      have HH := Lib.hid hh
      have HQ := Lib.hid hq
      have RM := Lib.hid (And.intro R0 M0)
      clear hxh hxa hcv ej ep hh R0 M0 hq
      by_cases hlv : cv < 0
      · have hlv' : decide (cv < 0) = true := by simpa using hlv
        refine wp_region_ext (by kernel_rfl) (by kernel_rfl) ?_
        repeat (go_big_quiet_step (((go_at_call 42; exact Calls.ext (CX.out _ ((HM0.out.trans RM.out.2).on (Ext.below _)))))))
        refine wpQuiet_nil ?_
        rintro _ ⟨x5, rfl⟩
        clear k1 l1 hqe hqw hqz hq0
        go_wp2
        go_roundg (h - s)
        case measure => omega
        case rel => exact ⟨s, h, rfl, rfl, by omega, ST.out.down hih hhj (by rw [XX.out]; exact hlv), ⟨x5.it, Below.on x.below x5⟩, rfl⟩
      · have hlv' : decide (cv < 0) = false := by simpa using hlv
        refine wp_region_ext (by kernel_rfl) (by kernel_rfl) ?_
        repeat (go_big_quiet_step (((go_at_call 42; exact Calls.ext (CX.out _ ((HM0.out.trans RM.out.2).on (Ext.below _)))))))
        refine wpQuiet_nil ?_
        rintro _ ⟨x5, rfl⟩
        clear k1 l1 hqe hqw hqz hq0
        go_wp2
        go_roundg (r - (h + 1))
        case measure => omega
        case rel => exact ⟨h + 1, r, by go_num, rfl, by omega, ST.out.up hih hhj (by rw [XX.out]; omega), ⟨x5.it, Below.on x.below x5⟩, rfl⟩
    obtain rfl : s = r := by omega
    have t : ¬ ((s : Int) < (s : Int)) := by omega
    have CUT := CUTF.out s ⟨hlo, Nat.le_refl _, hhi, ST.out.no, ST.out.yes⟩
    obtain ⟨e, he⟩ : ∃ e, mid + m - s = e := ⟨_, rfl⟩
    rw [he] at CUT
    have ez : (mid : Int) + (m : Int) - (s : Int) = (e : Int) := by omega
    have q1 := CUT.as'
    have q2 := CUT.sm
    have q3 := CUT.me
    have q4 := CUT.eb
    have hd : mid = s + (e - m) := by omega
    obtain ⟨G1, G2, G3⟩ := CUT.rot hp HG.out hd
    have GG := Lib.hid (And.intro G1 (And.intro G2 G3))
    have RM := Lib.hid (And.intro R0 M0)
    have HE := Lib.hid (And.intro he hd)
    have smid : s ≤ mid := by omega
    have mide : mid ≤ e := by omega
    clear CUT G1 G2 G3 he hd R0 M0 hij hg hlo hsr hhi
    go_upto_region 39 with fail
    clear ez pz t
    obtain ⟨c1, hc1⟩ : ∃ c1 : Bool, (decide (s < m) && decide (m < e)) = c1 := ⟨_, rfl⟩
    have HC1 := Lib.hid hc1
    clear hc1
    go_cut [185] from 178 to 185 (fun sx wx => sx = .bool c1 ∧ wx = x.it)
    case first =>
      by_cases h1 : s < m
      · have z1 : (s : Int) < (m : Int) := by omega
        by_cases h2 : m < e
        · have z2 : (m : Int) < (e : Int) := by omega
          go_wp2
          go_meet
          exact ⟨by rw [← HC1.out]; simp [h1, h2], rfl⟩
        · have z2 : ¬ (m : Int) < (e : Int) := by omega
          go_wp2
          go_meet
          exact ⟨by rw [← HC1.out]; simp [h1, h2], rfl⟩
      · have z1 : ¬ (s : Int) < (m : Int) := by omega
        go_wp2
        go_meet
        exact ⟨by rw [← HC1.out]; simp [h1], rfl⟩
    case rest =>
    obtain ⟨rfl, rfl⟩ := hcut
    go_upto_if 185 with fail
    go_cut [] from 185 to 191 (fun wx => RowV lv wx blk off n (rot f s m e) ∧ Sw s e f (rot f s m e) ∧ Mv (fun k => k = blk) w wx)
    case first =>
      by_cases h1 : s < m
      · by_cases h2 : m < e
        · obtain rfl : c1 = true := by rw [← HC1.out]; simp [h1, h2]
          have RC := Lib.hid (rotv_any (cb := cb) hsl blk off n cap s m e f x.it RM.out.1 h1 h2 (by omega) hn hcap)
          have RC2 : Hid (Calls Tryz.prog 116 #[.slice (some ⟨blk, off, none⟩) n cap, .int .i64 (s : Int), .int .i64 (m : Int), .int .i64 (e : Int), .func (.func 42) #[cb] #[]] x.it fun e' w' => e' = .returned (.tuple #[]) ∧ Sw s e f (rot f s m e) ∧ RowV lv w' blk off n (rot f s m e) ∧ Mv (fun k => k = blk) x.it w') := RC
          clear RC
          go_wp2_with (go_at_call 116; refine Calls.mono RC2.out ?_; rintro e' w6 ⟨rfl, r1, r2, r3⟩; have R6 := Lib.hid (And.intro r1 (And.intro r2 r3)); clear r1 r2 r3)
          go_meet
          exact ⟨R6.out.2.1, R6.out.1, RM.out.2.trans R6.out.2.2⟩
        · obtain rfl : c1 = false := by rw [← HC1.out]; simp [h1, h2]
          have E : rot f s m e = f := by rw [show e = m by omega]; exact rot_nil_r f s m (by omega)
          have HE2 := Lib.hid E
          clear E
          go_wp2
          go_meet
          exact ⟨by rw [HE2.out]; exact RM.out.1, by rw [HE2.out]; exact .refl _, RM.out.2⟩
      · obtain rfl : c1 = false := by rw [← HC1.out]; simp [h1]
        have E : rot f s m e = f := by rw [show s = m by omega]; exact rot_nil_l f m e (by omega)
        have HE2 := Lib.hid E
        clear E
        go_wp2
        go_meet
        exact ⟨by rw [HE2.out]; exact RM.out.1, by rw [HE2.out]; exact .refl _, RM.out.2⟩
    case rest =>
    obtain ⟨r1, r2, r3⟩ := hcut
    obtain ⟨f1, hf1⟩ : ∃ f1, rot f s m e = f1 := ⟨_, rfl⟩
    rw [hf1] at r1 r2 GG
    have ST1 := Lib.hid (And.intro r1 (And.intro r2 r3))
    clear r1 r2 r3 hf1 RM
    go_upto_region 41 with fail
    obtain ⟨c2, hc2⟩ : ∃ c2 : Bool, (decide (a < s) && decide (s < mid)) = c2 := ⟨_, rfl⟩
    have HC2 := Lib.hid hc2
    clear hc2
    go_cut [199] from 192 to 199 (fun sx wx => sx = .bool c2 ∧ wx = wc)
    case first =>
      by_cases h1 : a < s
      · have z1 : (a : Int) < (s : Int) := by omega
        by_cases h2 : s < mid
        · have z2 : (s : Int) < (mid : Int) := by omega
          go_wp2
          go_meet
          exact ⟨by rw [← HC2.out]; simp [h1, h2], rfl⟩
        · have z2 : ¬ (s : Int) < (mid : Int) := by omega
          go_wp2
          go_meet
          exact ⟨by rw [← HC2.out]; simp [h1, h2], rfl⟩
      · have z1 : ¬ (a : Int) < (s : Int) := by omega
        go_wp2
        go_meet
        exact ⟨by rw [← HC2.out]; simp [h1], rfl⟩
    case rest =>
    obtain ⟨rfl, rfl⟩ := hcut
    go_upto_if 199 with fail
    go_cut [] from 199 to 205 (fun wx => ∃ g, Sw a mid f1 g ∧ Ord c ix g a mid ∧ RowV lv wx blk off n g ∧ Mv (fun k => k = blk) w wx)
    case first =>
      by_cases h1 : a < s
      · by_cases h2 : s < mid
        · obtain rfl : c2 = true := by rw [← HC2.out]; simp [h1, h2]
          have RC := Lib.hid (IH.out a s mid f1 wc (by have := HNN.out; omega) (HM0.out.trans ST1.out.2.2) ST1.out.1 h1 h2 (by omega) GG.out.1)
          go_wp2_with (go_at_call 87; refine Calls.mono RC.out ?_; rintro e' w6 ⟨rfl, hq⟩; have R6 := Lib.hid hq; clear hq)
          go_meet
          obtain ⟨g, g1, g2, g3, g4⟩ := R6.out
          exact ⟨g, g1, g2, g3, ST1.out.2.2.trans g4⟩
        · obtain rfl : c2 = false := by rw [← HC2.out]; simp [h1, h2]
          have O : Ord c ix f1 a mid := by rw [show mid = s by omega]; exact GG.out.1.l
          have HO := Lib.hid O
          clear O
          go_wp2
          go_meet
          exact ⟨f1, .refl _, HO.out, ST1.out.1, ST1.out.2.2⟩
      · obtain rfl : c2 = false := by rw [← HC2.out]; simp [h1]
        have O : Ord c ix f1 a mid := by have := GG.out.1.r; rwa [show s = a by omega] at this
        have HO := Lib.hid O
        clear O
        go_wp2
        go_meet
        exact ⟨f1, .refl _, HO.out, ST1.out.1, ST1.out.2.2⟩
    case rest =>
    obtain ⟨g, g1, g2, g3, g4⟩ := hcut
    have G2' := GG.out.2.1.congr (g := g) mide q4 (fun k k1 k2 => g1.out (.inr k1))
    have ST2 := Lib.hid (And.intro g1 (And.intro g2 (And.intro g3 g4)))
    have HG2 := Lib.hid G2'
    clear g1 g2 g3 g4 G2'
    have FIN : Hid (∀ (k : Nat → α) (W : World), Sw mid b g k → Ord c ix k mid b → RowV lv W blk off n k → Mv (fun k => k = blk) w W → SymV lv c ix blk off n a b f w W) := Lib.hid (fun k W k1 k2 k3 k4 => ⟨k, ((ST1.out.2.1.mono q1 q4).trans (ST2.out.1.mono (Nat.le_refl _) (by omega))).trans (k1.mono (by omega) (Nat.le_refl _)), halves GG.out.2.2 ST2.out.1 k1 ST2.out.2.1 k2 (by omega), k3, k4⟩)
    by_cases h1 : mid < e
    · have z1 : (mid : Int) < (e : Int) := by omega
      by_cases h2 : e < b
      · have z2 : (e : Int) < (b : Int) := by omega
        have RC := Lib.hid (IH.out mid e b g _ (by have := HNN.out; omega) (HM0.out.trans ST2.out.2.2.2) ST2.out.2.2.1 h1 h2 hb HG2.out)
        go_wp2_with (go_at_call 87; refine Calls.mono RC.out ?_; rintro e' w6 ⟨rfl, hq⟩; have R6 := Lib.hid hq; clear hq)
        go_end0
        obtain ⟨k, k1, k2, k3, k4⟩ := R6.out
        exact ⟨rfl, FIN.out k _ k1 k2 k3 (ST2.out.2.2.2.trans k4)⟩
      · have z2 : ¬ (e : Int) < (b : Int) := by omega
        have O : Ord c ix g mid b := by rw [show b = e by omega]; exact HG2.out.l
        have HO := Lib.hid O
        clear O
        go_wp2
        go_end0
        exact ⟨rfl, FIN.out g _ (.refl _) HO.out ST2.out.2.2.1 ST2.out.2.2.2⟩
    · have z1 : ¬ (mid : Int) < (e : Int) := by omega
      have O : Ord c ix g mid b := by have := HG2.out.r; rwa [show e = mid by omega] at this
      have HO := Lib.hid O
      clear O
      go_wp2
      go_end0
      exact ⟨rfl, FIN.out g _ (.refl _) HO.out ST2.out.2.2.1 ST2.out.2.2.2⟩
end Go.Proofs.YtpahoenanfjhpaaGreat
