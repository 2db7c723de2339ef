/-
  SORTING IN MEMORY: slices.insertionSortCmpFunc at records. Conditions: the comparison's contract in every world where only the row's block has turned.
-/
import Derived.Test.YtkblkjfejaflkaaSm1
import Derived.BigRegion
set_option linter.unusedVariables false
set_option linter.unusedSimpArgs false
namespace Go.Proofs.Ytkblkjfejaflkaa
open Go.RowKit Srt
/-- What is asked of the comparison. -/
def CmpOk {α : Type} (sq : α → Int) (lv : α → Value) (c : α → α → Int) (blk : Nat) (w0 : World) (cb : Value) : Prop :=
  ∀ W, Mv (fun k => k = blk) w0 W → ∀ x y : α, Calls Try.prog 51 #[.agg #[.int .i64 (sq x), lv x], .agg #[.int .i64 (sq y), lv y], cb] W fun e w' => e = .returned (.int .i64 (c x y)) ∧ Below W.heap.size W w'
def fnV (cb : Value) : Value := .func (.func 51) #[] #[cb]
variable {α : Type} {sq : α → Int} {lv : α → Value} {c : α → α → Int} {ix : α → Nat}
set_option maxRecDepth 8000 in
set_option maxHeartbeats 2000000 in
theorem ins_any (hp : Pre c) (hsl : ∀ x, ∃ a n q, lv x = .slice a n q) (blk off n cap a b : Nat) (cb : Value) (f : Nat → α) (w0 w : World) (HC : CmpOk sq lv c blk w0 cb) (hm0 : Mv (fun k => k = blk) w0 w) (hr0 : RowM sq lv w blk off n f)
    (hab : a ≤ b) (hb : b ≤ n) (hn : n ≤ 4611686018427387904) (hcap : n ≤ cap) (hy : ∀ i j, a ≤ i → i < j → j < b → ix (f i) < ix (f j)) :
    Calls Try.prog 76 #[.slice (some ⟨blk, off, none⟩) n cap, .int .i64 (a : Int), .int .i64 (b : Int), fnV cb] w fun e w' => e = .returned (.tuple #[]) ∧ ∃ f', Sw a b f f' ∧ Ord c ix f' a b ∧ RowM sq lv w' blk off n f' ∧ Mv (fun k => k = blk) w w' := by
  have HCC := Lib.hid HC
  have HM0 := Lib.hid hm0
  have HR0 := Lib.hid hr0
  have HY := Lib.hid hy
  clear HC hm0 hr0 hy
  unfold fnV
  by_cases hab' : a = b
  · subst hab'
    have t : ¬ ((a : Int) + 1 < (a : Int)) := by omega
    go_enter Try.func76, Try.ntmps76
    go_wp2
    refine wp_loop_rounds 1 ?_
    rw [rounds_succ]
    go_wp2
    go_end0
    exact ⟨rfl, f, .refl _, Ord.one (by omega), HR0.out, Mv.refl _ _⟩
  have hlt : a < b := by omega
  clear hab' hab
  go_enter Try.func76, Try.ntmps76
  go_wp2
  go_loopg [8] (b - (a + 1)) (fun g vi wr => ∃ (i : Nat) (fi : Nat → α), vi = .int .i64 (i : Int) ∧ a < i ∧ i + g = b ∧ Sw a i f fi ∧ Ord c ix fi a i ∧ RowM sq lv wr blk off n fi ∧ Mv (fun k => k = blk) w wr)
  case atStart => exact ⟨a + 1, f, by go_num, by omega, by omega, .refl _, Ord.one (by omega), HR0.out, Mv.refl _ _⟩
  case round =>
    obtain ⟨i, fi, rfl, hai, hig, s1, s2, s3, s4⟩ := hrel
    have ST := Lib.hid (And.intro s1 (And.intro s2 (And.intro s3 s4)))
    clear s1 s2 s3 s4
    by_cases hg0 : gk = 0
    · subst hg0
      obtain rfl : i = b := by omega
      have t : ¬ ((i : Int) < (i : Int)) := by omega
      go_wp2
      go_end0
      exact ⟨rfl, fi, ST.out.1, ST.out.2.1, ST.out.2.2.1, ST.out.2.2.2⟩
    have hib : i < b := by omega
    have hibz : (i : Int) < (b : Int) := by omega
    have HK := Lib.hid (And.intro hig hg0)
    obtain ⟨gO, hgO⟩ : ∃ gO, gO = gk := ⟨_, rfl⟩
    rw [← hgO] at HK
    have GO := Lib.hid hgO
    clear hig hg0 hgO
    have INS0 : Ins c ix fi a i i := Ins.start (by omega) ST.out.2.1 (by
      rw [ST.out.1.out (.inr (Nat.le_refl _))]
      exact ST.out.1.all (Q := fun x => ix x < ix (f i)) fun k k1 k2 => HY.out k i k1 k2 hib)
    have IN := Lib.hid INS0
    clear INS0
    go_wp2
    go_loopg [9] (i - a) (fun g vj wr2 => ∃ (j : Nat) (fj : Nat → α), vj = .int .i64 (j : Int) ∧ j = a + g ∧ j ≤ i ∧ Ins c ix fj a i j ∧ Sw a (i + 1) f fj ∧ RowM sq lv wr2 blk off n fj ∧ Mv (fun k => k = blk) w wr2)
    case atStart => exact ⟨i, fi, rfl, by omega, Nat.le_refl _, IN.out, ST.out.1.mono (Nat.le_refl _) (by omega), ST.out.2.2.1, ST.out.2.2.2⟩
    case round =>
      obtain ⟨j, fj, rfl, hj, hji, s1, s2, s3, s4⟩ := hrel
      have DN := Lib.hid (fun (hd : j = a ∨ ∃ k, j = k + 1 ∧ ¬ c (fj j) (fj k) < 0) => s1.done hp hd)
      have SJ := Lib.hid (And.intro s1 (And.intro s2 (And.intro s3 s4)))
      clear s1 s2 s3 s4
      clear IN
      by_cases hg0 : gk = 0
      · have hja := Lib.hid (show j = a by omega)
        have t : ¬ ((a : Int) < (j : Int)) := by omega
        have t' : decide ((j : Int) > (a : Int)) = false := decide_eq_false (by omega)
        clear hg0 hj
        go_upto_region 4 with fail
        refine wp_region_ext (by kernel_rfl) (by kernel_rfl) ?_
        repeat (go_big_quiet_step ((fail)))
        refine wpQuiet_nil ?_
        rintro _ ⟨x, rfl⟩
        go_wp2
        go_roundg (gO - 1)
        case measure => have := HK.out; have := GO.out; omega
        case rel => exact ⟨i + 1, fj, by go_num, by omega, by have := HK.out; omega, SJ.out.2.1, DN.out (.inl hja.out), SJ.out.2.2.1.on x.below, SJ.out.2.2.2.on x.below⟩
      obtain ⟨jp, rfl⟩ : ∃ jp, j = jp + 1 := ⟨j - 1, by omega⟩
      have hwp : IntKind.i64.wrap (jp : Int) = (jp : Int) := by rw [IntKind.wrap_i64]; omega
      have jz : (jp : Int) + 1 < (n : Int) := by omega
      have jz1 : (jp : Int) < (n : Int) := by omega
      have ja : (a : Int) < (jp : Int) + 1 := by omega
      have p0 : (0 : Int) ≤ (jp : Int) + 1 := by omega
      have e0 : ((jp : Int) + 1).toNat = jp + 1 := by omega
      have k0 := SJ.out.2.2.1.c0 (jp + 1) (by omega)
      have k1 := SJ.out.2.2.1.c1 (jp + 1) (by omega)
      have l0 := SJ.out.2.2.1.c0 jp (by omega)
      have l1 := SJ.out.2.2.1.c1 jp (by omega)
      have zb := SJ.out.2.2.1.lt
      obtain ⟨xj, hxj⟩ : ∃ x, fj (jp + 1) = x := ⟨_, rfl⟩
      obtain ⟨xp, hxp⟩ : ∃ x, fj jp = x := ⟨_, rfl⟩
      rw [hxj] at k0 k1
      rw [hxp] at l0 l1
      obtain ⟨ja1, jn1, jc1, ej⟩ := hsl xj
      obtain ⟨pa1, pn1, pc1, ep⟩ := hsl xp
      rw [ej] at k1
      rw [ep] at l1
      obtain ⟨cv, hcv⟩ : ∃ cv, c xj xp = cv := ⟨_, rfl⟩
      have CX : Hid (∀ W, Mv (fun k => k = blk) w0 W → Calls Try.prog 51 #[.agg #[.int .i64 (sq xj), .slice ja1 jn1 jc1], .agg #[.int .i64 (sq xp), .slice pa1 pn1 pc1], cb] W fun e w' => e = .returned (.int .i64 cv) ∧ Below W.heap.size W w') := Lib.hid (by
        intro W hW; have := HCC.out W hW xj xp; rw [hcv, ej, ep] at this; exact this)
      have XX := Lib.hid (And.intro hxj (And.intro hxp hcv))
      have EE := Lib.hid (And.intro ej ep)
      have GZ := Lib.hid (And.intro hg0 hj)
      clear hxj hxp hcv hg0 hj ej ep
      by_cases hlv : cv < 0
      · have hlv' : decide (cv < 0) = true := by simpa using hlv
        go_upto_region 4 with fail
        refine wp_region_ext (by kernel_rfl) (by kernel_rfl) ?_
        repeat (go_big_quiet_step (((go_at_call 51; exact Calls.ext (CX.out _ ((HM0.out.trans SJ.out.2.2.2).on (Ext.below _)))))))
        refine wpQuiet_nil ?_
        rintro _ ⟨x, rfl⟩
        clear k0 k1 l0 l1
        have RX := SJ.out.2.2.1.on x.below
        have MX := SJ.out.2.2.2.on x.below
        have zx := RX.lt
        go_upto_region 6 with fail
        refine captureM ?_
        intro y ey
        rw [← ey] at RX MX zx
        clear ey
        have k0 := RX.c0 (jp + 1) (by omega)
        have k1 := RX.c1 (jp + 1) (by omega)
        have l0 := RX.c0 jp (by omega)
        have l1 := RX.c1 jp (by omega)
        have fz := RX.fr
        rw [XX.out.1] at k0 k1
        rw [XX.out.2.1] at l0 l1
        rw [EE.out.1] at k1
        rw [EE.out.2] at l1
        have RY := Lib.hid (And.intro RX MX)
        clear RX MX
        go_region
        go_wp2
        go_roundg (gk - 1)
        case measure => have := GZ.out; omega
        case rel =>
          refine ⟨jp, swp fj (jp + 1) jp, by go_num, by have := GZ.out; omega, by omega, ?_, ?_, ?_, ?_⟩
          · exact SJ.out.1.step (by omega) (by rw [XX.out.1, XX.out.2.1, XX.out.2.2]; exact hlv)
          · exact .step _ _ SJ.out.2.1 (by omega) (by omega) (by omega) (by omega)
          · refine RowM.ap (RowM.st (x := xj) (RowM.st (x := xp) (RY.out.1.on ((Below.refl _ _).drew)) (i := jp + 1) (by omega) rfl EE.out.2.symm) (i := jp) (by omega) rfl EE.out.1.symm) ?_
            funext k
            unfold swp
            rw [XX.out.1, XX.out.2.1]
            by_cases q1 : k = jp + 1
            · rw [if_pos q1, if_neg (by omega), if_pos q1]
            · rw [if_neg q1]
              by_cases q2 : k = jp
              · rw [if_pos q2, if_pos q2]
              · rw [if_neg q2, if_neg q2, if_neg q1]
          · exact ((((RY.out.2.drew.st (.inl rfl) _).st (.inl rfl) _).st (.inl rfl) _).st (.inl rfl) _)
      · have hlv' : decide (cv < 0) = false := by simpa using hlv
        go_upto_region 4 with fail
        refine wp_region_ext (by kernel_rfl) (by kernel_rfl) ?_
        repeat (go_big_quiet_step (((go_at_call 51; exact Calls.ext (CX.out _ ((HM0.out.trans SJ.out.2.2.2).on (Ext.below _)))))))
        refine wpQuiet_nil ?_
        rintro _ ⟨x, rfl⟩
        clear k0 k1 l0 l1
        go_wp2
        go_roundg (gO - 1)
        case measure => have := HK.out; have := GO.out; omega
        case rel => exact ⟨i + 1, fj, by go_num, by omega, by have := HK.out; omega, SJ.out.2.1, DN.out (.inr ⟨jp, rfl, by rw [XX.out.1, XX.out.2.1, XX.out.2.2]; exact hlv⟩), SJ.out.2.2.1.on x.below, SJ.out.2.2.2.on x.below⟩
end Go.Proofs.Ytkblkjfejaflkaa
