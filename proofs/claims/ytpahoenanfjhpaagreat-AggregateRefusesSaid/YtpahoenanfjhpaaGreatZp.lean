/-
  CHAPTER 26: Tm1, Tm2, Tm3 (several texts in one). Conditions: each theorem states its own.
-/
import Derived.Test.YtpahoenanfjhpaaGreatZd
import Derived.Test.YtpahoenanfjhpaaGreatZn
import Derived.BigRegion
set_option linter.unusedVariables false
set_option linter.unusedSimpArgs false
namespace Go.Proofs.YtpahoenanfjhpaaGreat
open Go.RowKit
/-- The block's cells from off on hold the n elements. -/
structure RowV {α : Type} (lv : α → Value) (w : World) (blk off n : Nat) (f : Nat → α) : Prop where
  lt : blk < w.heap.size
  c0 : ∀ k, k < n → w.cell? ⟨blk, off + k, none⟩ = some (lv (f k))
  fr : ∀ q, w.frozen? ⟨blk, q, none⟩ = false
variable {α : Type} {lv : α → Value} {w W : World} {blk off n : Nat} {f : Nat → α}
theorem RowV.on (h : RowV lv w blk off n f) (hb : Below w.heap.size w W) : RowV lv W blk off n f :=
  ⟨Nat.lt_of_lt_of_le h.lt hb.size, fun k hk => (hb.cell (p := ⟨blk, _, none⟩) h.lt).trans (h.c0 k hk), fun q => (hb.frozen (p := ⟨blk, q, none⟩) h.lt).trans (h.fr q)⟩
theorem RowV.st {i : Nat} {x : α} {v : Value} (h : RowV lv w blk off n f) (hi : i < n) (e1 : v = lv x) :
    RowV lv (w.setCell ⟨blk, off + i, none⟩ v) blk off n (fun k => if k = i then x else f k) := by
  subst e1
  refine ⟨by simpa using h.lt, fun k hk => ?_, fun q => by rw [World.frozen?_setCell]; exact h.fr q⟩
  by_cases e : k = i
  · subst e
    rw [if_pos rfl]
    exact World.cell?_setCell_same' _ _ _ (by rw [h.c0 k hk]; rfl)
  · rw [if_neg e, World.cell?_setCell_other (h := by intro e'; simp only [Addr.mk.injEq] at e'; omega)]
    exact h.c0 k hk
theorem RowV.ap {g : Nat → α} (h : RowV lv w blk off n f) (e : g = f) : RowV lv w blk off n g := e ▸ h
end Go.Proofs.YtpahoenanfjhpaaGreat
namespace Go.Proofs.YtpahoenanfjhpaaGreat
open Go.RowKit Srt
/-- What is asked of the comparison. -/
def CmpV {α : Type} (lv : α → Value) (c : α → α → Int) (blk : Nat) (w0 : World) (cb : Value) : Prop :=
  ∀ W, Mv (fun k => k = blk) w0 W → ∀ x y : α, Calls Tryz.prog 42 #[cb, (lv x), (lv y)] W fun e w' => e = .returned (.int .i64 (c x y)) ∧ Below W.heap.size W w'
def fnC (cb : Value) : Value := .func (.func 42) #[cb] #[]
variable {α : Type} {lv : α → Value} {c : α → α → Int} {ix : α → Nat}
set_option maxRecDepth 8000 in
set_option maxHeartbeats 2000000 in
theorem insv_any (hp : Pre c) (hsl : ∀ x, ∃ a n q, lv x = .slice a n q) (blk off n cap a b : Nat) (cb : Value) (f : Nat → α) (w0 w : World) (HC : CmpV lv c blk w0 cb) (hm0 : Mv (fun k => k = blk) w0 w) (hr0 : RowV lv w blk off n f)
    (hab : a ≤ b) (hb : b ≤ n) (hn : n ≤ 4611686018427387904) (hcap : n ≤ cap) (hy : ∀ i j, a ≤ i → i < j → j < b → ix (f i) < ix (f j)) :
    Calls Tryz.prog 86 #[.slice (some ⟨blk, off, none⟩) n cap, .int .i64 (a : Int), .int .i64 (b : Int), fnC cb] w fun e w' => e = .returned (.tuple #[]) ∧ ∃ f', Sw a b f f' ∧ Ord c ix f' a b ∧ RowV lv w' blk off n f' ∧ Mv (fun k => k = blk) w w' := by
  have HCC := Lib.hid HC
  have HM0 := Lib.hid hm0
  have HR0 := Lib.hid hr0
  have HY := Lib.hid hy
  clear HC hm0 hr0 hy
  unfold fnC
  by_cases hab' : a = b
  · subst hab'
    have t : ¬ ((a : Int) + 1 < (a : Int)) := by omega
    go_enter Tryz.func86, Tryz.ntmps86
    go_wp2
    refine wp_loop_rounds 1 ?_
    rw [rounds_succ]
    go_wp2
    go_end0
    exact ⟨rfl, f, .refl _, Ord.one (by omega), HR0.out, Mv.refl _ _⟩
  have hlt : a < b := by omega
  clear hab' hab
  go_enter Tryz.func86, Tryz.ntmps86
  go_wp2
  go_loopg [8] (b - (a + 1)) (fun g vi wr => ∃ (i : Nat) (fi : Nat → α), vi = .int .i64 (i : Int) ∧ a < i ∧ i + g = b ∧ Sw a i f fi ∧ Ord c ix fi a i ∧ RowV lv wr blk off n fi ∧ Mv (fun k => k = blk) w wr)
  case atStart => exact ⟨a + 1, f, by go_num, by omega, by omega, .refl _, Ord.one (by omega), HR0.out, Mv.refl _ _⟩
  case round =>
    obtain ⟨i, fi, rfl, hai, hig, s1, s2, s3, s4⟩ := hrel
    have ST := Lib.hid (And.intro s1 (And.intro s2 (And.intro s3 s4)))
    clear s1 s2 s3 s4
    by_cases hg0 : gk = 0
    · subst hg0
      obtain rfl : i = b := by omega
      have t : ¬ ((i : Int) < (i : Int)) := by omega
      go_wp2
      go_end0
      exact ⟨rfl, fi, ST.out.1, ST.out.2.1, ST.out.2.2.1, ST.out.2.2.2⟩
    have hib : i < b := by omega
    have hibz : (i : Int) < (b : Int) := by omega
    have HK := Lib.hid (And.intro hig hg0)
    obtain ⟨gO, hgO⟩ : ∃ gO, gO = gk := ⟨_, rfl⟩
    rw [← hgO] at HK
    have GO := Lib.hid hgO
    clear hig hg0 hgO
    have INS0 : Ins c ix fi a i i := Ins.start (by omega) ST.out.2.1 (by
      rw [ST.out.1.out (.inr (Nat.le_refl _))]
      exact ST.out.1.all (Q := fun x => ix x < ix (f i)) fun k k1 k2 => HY.out k i k1 k2 hib)
    have IN := Lib.hid INS0
    clear INS0
    go_wp2
    go_loopg [9] (i - a) (fun g vj wr2 => ∃ (j : Nat) (fj : Nat → α), vj = .int .i64 (j : Int) ∧ j = a + g ∧ j ≤ i ∧ Ins c ix fj a i j ∧ Sw a (i + 1) f fj ∧ RowV lv wr2 blk off n fj ∧ Mv (fun k => k = blk) w wr2)
    case atStart => exact ⟨i, fi, rfl, by omega, Nat.le_refl _, IN.out, ST.out.1.mono (Nat.le_refl _) (by omega), ST.out.2.2.1, ST.out.2.2.2⟩
    case round =>
      obtain ⟨j, fj, rfl, hj, hji, s1, s2, s3, s4⟩ := hrel
      have DN := Lib.hid (fun (hd : j = a ∨ ∃ k, j = k + 1 ∧ ¬ c (fj j) (fj k) < 0) => s1.done hp hd)
      have SJ := Lib.hid (And.intro s1 (And.intro s2 (And.intro s3 s4)))
      clear s1 s2 s3 s4
      clear IN
      by_cases hg0 : gk = 0
      · have hja := Lib.hid (show j = a by omega)
        have t : ¬ ((a : Int) < (j : Int)) := by omega
        have t' : decide ((j : Int) > (a : Int)) = false := decide_eq_false (by omega)
        clear hg0 hj
        go_upto_region 4 with fail
        refine wp_region_ext (by kernel_rfl) (by kernel_rfl) ?_
        repeat (go_big_quiet_step ((fail)))
        refine wpQuiet_nil ?_
        rintro _ ⟨x, rfl⟩
        go_wp2
        go_roundg (gO - 1)
        case measure => have := HK.out; have := GO.out; omega
        case rel => exact ⟨i + 1, fj, by go_num, by omega, by have := HK.out; omega, SJ.out.2.1, DN.out (.inl hja.out), SJ.out.2.2.1.on x.below, SJ.out.2.2.2.on x.below⟩
      obtain ⟨jp, rfl⟩ : ∃ jp, j = jp + 1 := ⟨j - 1, by omega⟩
      have hwp : IntKind.i64.wrap (jp : Int) = (jp : Int) := by rw [IntKind.wrap_i64]; omega
      have jz : (jp : Int) + 1 < (n : Int) := by omega
      have jz1 : (jp : Int) < (n : Int) := by omega
      have ja : (a : Int) < (jp : Int) + 1 := by omega
      have p0 : (0 : Int) ≤ (jp : Int) + 1 := by omega
      have e0 : ((jp : Int) + 1).toNat = jp + 1 := by omega
      have k1 := SJ.out.2.2.1.c0 (jp + 1) (by omega)
      have l1 := SJ.out.2.2.1.c0 jp (by omega)
      have zb := SJ.out.2.2.1.lt
      obtain ⟨xj, hxj⟩ : ∃ x, fj (jp + 1) = x := ⟨_, rfl⟩
      obtain ⟨xp, hxp⟩ : ∃ x, fj jp = x := ⟨_, rfl⟩
      rw [hxj] at k1
      rw [hxp] at l1
      obtain ⟨ja1, jn1, jc1, ej⟩ := hsl xj
      obtain ⟨pa1, pn1, pc1, ep⟩ := hsl xp
      rw [ej] at k1
      rw [ep] at l1
      obtain ⟨cv, hcv⟩ : ∃ cv, c xj xp = cv := ⟨_, rfl⟩
      have CX : Hid (∀ W, Mv (fun k => k = blk) w0 W → Calls Tryz.prog 42 #[cb, (.slice ja1 jn1 jc1), (.slice pa1 pn1 pc1)] W fun e w' => e = .returned (.int .i64 cv) ∧ Below W.heap.size W w') := Lib.hid (by
        intro W hW; have := HCC.out W hW xj xp; rw [hcv, ej, ep] at this; exact this)
      have XX := Lib.hid (And.intro hxj (And.intro hxp hcv))
      have EE := Lib.hid (And.intro ej ep)
      have GZ := Lib.hid (And.intro hg0 hj)
      clear hxj hxp hcv hg0 hj ej ep
      by_cases hlv : cv < 0
      · have hlv' : decide (cv < 0) = true := by simpa using hlv
        go_upto_region 4 with fail
        refine wp_region_ext (by kernel_rfl) (by kernel_rfl) ?_
        repeat (go_big_quiet_step (((go_at_call 42; exact Calls.ext (CX.out _ ((HM0.out.trans SJ.out.2.2.2).on (Ext.below _)))))))
        refine wpQuiet_nil ?_
        rintro _ ⟨x, rfl⟩
        clear k1 l1
        have RX := SJ.out.2.2.1.on x.below
        have MX := SJ.out.2.2.2.on x.below
        have zx := RX.lt
        go_upto_region 6 with fail
        refine captureM ?_
        intro y ey
        rw [← ey] at RX MX zx
        clear ey
        have k1 := RX.c0 (jp + 1) (by omega)
        have l1 := RX.c0 jp (by omega)
        have fz := RX.fr
        rw [XX.out.1] at k1
        rw [XX.out.2.1] at l1
        rw [EE.out.1] at k1
        rw [EE.out.2] at l1
        have RY := Lib.hid (And.intro RX MX)
        clear RX MX
        go_region
        go_wp2
        go_roundg (gk - 1)
        case measure => have := GZ.out; omega
        case rel =>
          refine ⟨jp, swp fj (jp + 1) jp, by go_num, by have := GZ.out; omega, by omega, ?_, ?_, ?_, ?_⟩
          · exact SJ.out.1.step (by omega) (by rw [XX.out.1, XX.out.2.1, XX.out.2.2]; exact hlv)
          · exact .step _ _ SJ.out.2.1 (by omega) (by omega) (by omega) (by omega)
          · refine RowV.ap (RowV.st (x := xj) (RowV.st (x := xp) (RY.out.1.on ((Below.refl _ _).drew)) (i := jp + 1) (by omega) EE.out.2.symm) (i := jp) (by omega) EE.out.1.symm) ?_
            funext k
            unfold swp
            rw [XX.out.1, XX.out.2.1]
            by_cases q1 : k = jp + 1
            · rw [if_pos q1, if_neg (by omega), if_pos q1]
            · rw [if_neg q1]
              by_cases q2 : k = jp
              · rw [if_pos q2, if_pos q2]
              · rw [if_neg q2, if_neg q2, if_neg q1]
          · exact ((RY.out.2.drew.st (.inl rfl) _).st (.inl rfl) _)
      · have hlv' : decide (cv < 0) = false := by simpa using hlv
        go_upto_region 4 with fail
        refine wp_region_ext (by kernel_rfl) (by kernel_rfl) ?_
        repeat (go_big_quiet_step (((go_at_call 42; exact Calls.ext (CX.out _ ((HM0.out.trans SJ.out.2.2.2).on (Ext.below _)))))))
        refine wpQuiet_nil ?_
        rintro _ ⟨x, rfl⟩
        clear k1 l1
        go_wp2
        go_roundg (gO - 1)
        case measure => have := HK.out; have := GO.out; omega
        case rel => exact ⟨i + 1, fj, by go_num, by omega, by have := HK.out; omega, SJ.out.2.1, DN.out (.inr ⟨jp, rfl, by rw [XX.out.1, XX.out.2.1, XX.out.2.2]; exact hlv⟩), SJ.out.2.2.1.on x.below, SJ.out.2.2.2.on x.below⟩
end Go.Proofs.YtpahoenanfjhpaaGreat
namespace Go.Proofs.YtpahoenanfjhpaaGreat
open Go.RowKit Srt
variable {α : Type} {lv : α → Value}
/-- The four stores of an exchange. -/
theorem RowV.swap {w : World} {blk off n i j : Nat} {f : Nat → α} {xi xj : α} {vi vj : Value} (h : RowV lv w blk off n f) (hi : i < n) (hj : j < n) (ei : f i = xi) (ej : f j = xj) (evi : lv xi = vi) (evj : lv xj = vj) :
    RowV lv ((w.setCell ⟨blk, off + i, none⟩ vj).setCell ⟨blk, off + j, none⟩ vi) blk off n (swp f i j) := by
  refine RowV.ap (RowV.st (x := xi) (RowV.st (x := xj) h hi evj.symm) hj evi.symm) ?_
  funext k
  unfold swp
  rw [ei, ej]
  by_cases q1 : k = i
  · rw [if_pos q1]
    by_cases q2 : k = j
    · rw [if_pos q2]; rw [← ei, ← ej, ← q1, ← q2]
    · rw [if_neg q2, if_pos q1]
  · rw [if_neg q1]
    by_cases q2 : k = j
    · rw [if_pos q2, if_pos q2]
    · rw [if_neg q2, if_neg q2, if_neg q1]
set_option maxRecDepth 8000 in
set_option maxHeartbeats 2000000 in
theorem swrv_any (hsl : ∀ x, ∃ a n q, lv x = .slice a n q) (blk off n cap a b m : Nat) (cb : Value) (f : Nat → α) (w : World) (hr0 : RowV lv w blk off n f)
    (hab : a + m ≤ b) (hb : b + m ≤ n) (hn : n ≤ 4611686018427387904) (hcap : n ≤ cap) :
    Calls Tryz.prog 126 #[.slice (some ⟨blk, off, none⟩) n cap, .int .i64 (a : Int), .int .i64 (b : Int), .int .i64 (m : Int), fnC cb] w fun e w' => e = .returned (.tuple #[]) ∧ RowV lv w' blk off n (swr f a b m) ∧ Mv (fun k => k = blk) w w' := by
  have HR0 := Lib.hid hr0
  clear hr0
  unfold fnC
  go_enter Tryz.func126, Tryz.ntmps126
  go_wp2
  go_loopg [10] m (fun g vi wr => ∃ i : Nat, vi = .int .i64 (i : Int) ∧ i + g = m ∧ RowV lv wr blk off n (swr f a b i) ∧ Mv (fun k => k = blk) w wr)
  case atStart => exact ⟨0, by go_num, by omega, by rw [swr_zero]; exact HR0.out, Mv.refl _ _⟩
  case round =>
    obtain ⟨i, rfl, hig, s1, s2⟩ := hrel
    have ST := Lib.hid (And.intro s1 s2)
    clear s1 s2
    by_cases hg0 : gk = 0
    · have him := Lib.hid (show i = m by omega)
      have t : ¬ ((i : Int) < (m : Int)) := by omega
      clear hg0 hig
      go_wp2
      go_end0
      exact ⟨rfl, him.out ▸ ST.out.1, ST.out.2⟩
    have hi : i < m := by omega
    have hiz : (i : Int) < (m : Int) := by omega
    have GZ := Lib.hid (And.intro hg0 hig)
    clear hg0 hig
    go_upto_region 3 with fail
    have ha1 : IntKind.i64.wrap ((a : Int) + (i : Int)) = (a : Int) + (i : Int) := by rw [IntKind.wrap_i64]; omega
    have ha2 : (0 : Int) ≤ (a : Int) + (i : Int) := by omega
    have ha3 : ((a : Int) + (i : Int)).toNat = a + i := by omega
    have ha4 : (a : Int) + (i : Int) < (n : Int) := by omega
    have hb1 : IntKind.i64.wrap ((b : Int) + (i : Int)) = (b : Int) + (i : Int) := by rw [IntKind.wrap_i64]; omega
    have hb2 : (0 : Int) ≤ (b : Int) + (i : Int) := by omega
    have hb3 : ((b : Int) + (i : Int)).toNat = b + i := by omega
    have hb4 : (b : Int) + (i : Int) < (n : Int) := by omega
    have k1 := ST.out.1.c0 (a + i) (by omega)
    have l1 := ST.out.1.c0 (b + i) (by omega)
    have fz := ST.out.1.fr
    have zx := ST.out.1.lt
    obtain ⟨xi, hxi⟩ : ∃ x, swr f a b i (a + i) = x := ⟨_, rfl⟩
    obtain ⟨xj, hxj⟩ : ∃ x, swr f a b i (b + i) = x := ⟨_, rfl⟩
    rw [hxi] at k1
    rw [hxj] at l1
    obtain ⟨ia1, in1, ic1, ei⟩ := hsl xi
    obtain ⟨ja1, jn1, jc1, ej⟩ := hsl xj
    rw [ei] at k1
    rw [ej] at l1
    have EE := Lib.hid (And.intro hxi (And.intro hxj (And.intro ei ej)))
    clear hxi hxj ei ej
    go_region
    clear ha1 ha2 ha3 ha4 hb1 hb2 hb3 hb4 k1 l1
    go_wp2
    go_roundg (gk - 1)
    case measure => have := GZ.out; omega
    case rel =>
      refine ⟨i + 1, by go_num, by have := GZ.out; omega, ?_, ?_⟩
      · rw [swr_succ f (by omega)]
        exact RowV.swap (ST.out.1.on ((Below.refl _ _).drew)) (by omega) (by omega) EE.out.1 EE.out.2.1 EE.out.2.2.1 EE.out.2.2.2
      · exact ((ST.out.2.drew.st (.inl rfl) _).st (.inl rfl) _)
set_option maxRecDepth 8000 in
set_option maxHeartbeats 2000000 in
theorem rotv_any (hsl : ∀ x, ∃ a n q, lv x = .slice a n q) (blk off n cap a m b : Nat) (cb : Value) (f : Nat → α) (w : World) (hr0 : RowV lv w blk off n f)
    (ham : a < m) (hmb : m < b) (hb : b ≤ n) (hn : n ≤ 4611686018427387904) (hcap : n ≤ cap) :
    Calls Tryz.prog 116 #[.slice (some ⟨blk, off, none⟩) n cap, .int .i64 (a : Int), .int .i64 (m : Int), .int .i64 (b : Int), fnC cb] w fun e w' => e = .returned (.tuple #[]) ∧ Sw a b f (rot f a m b) ∧ RowV lv w' blk off n (rot f a m b) ∧ Mv (fun k => k = blk) w w' := by
  have HR0 := Lib.hid hr0
  clear hr0
  have hfn : fnC cb = .func (.func 42) #[cb] #[] := rfl
  rw [hfn]
  clear hfn
  go_enter Tryz.func116, Tryz.ntmps116
  go_wp2
  have i0 : ((m : Int) - (a : Int)) = ((m - a : Nat) : Int) := by omega
  have j0 : ((b : Int) - (m : Int)) = ((b - m : Nat) : Int) := by omega
  rw [i0, j0]
  go_loopg [10, 11] (b - a) (fun g vi vj wr => ∃ (i j : Nat) (fi : Nat → α), vi = .int .i64 (i : Int) ∧ vj = .int .i64 (j : Int) ∧ i + j = g ∧ 0 < i ∧ 0 < j ∧ a + i ≤ m ∧ m + j ≤ b ∧ rot fi (m - i) m (m + j) = rot f a m b ∧ Sw a b f fi ∧ RowV lv wr blk off n fi ∧ Mv (fun k => k = blk) w wr)
  case atStart => exact ⟨m - a, b - m, f, rfl, rfl, by omega, by omega, by omega, by omega, by omega, by rw [show m - (m - a) = a by omega, show m + (b - m) = b by omega], .refl _, HR0.out, Mv.refl _ _⟩
  case round =>
    obtain ⟨i, j, fi, rfl, rfl, hij, hi0, hj0, hia, hjb, s1, s2, s3, s4⟩ := hrel
    have ST := Lib.hid (And.intro s1 (And.intro s2 (And.intro s3 s4)))
    have HIJ := Lib.hid hij
    clear s1 s2 s3 s4 hij i0 j0
    have hmi : ((m : Int) - (i : Int)) = ((m - i : Nat) : Int) := by omega
    have hmj : ((m : Int) + (j : Int) - (i : Int)) = ((m + j - i : Nat) : Int) := by omega
    by_cases hlt : i < j
    · have H1 : Hid (∀ W, RowV lv W blk off n fi → Calls Tryz.prog 126 #[.slice (some ⟨blk, off, none⟩) n cap, .int .i64 ((m : Int) - (i : Int)), .int .i64 ((m : Int) + (j : Int) - (i : Int)), .int .i64 (i : Int), .func (.func 42) #[cb] #[]] W fun e w' => e = .returned (.tuple #[]) ∧ RowV lv w' blk off n (swr fi (m - i) (m + j - i) i) ∧ Mv (fun k => k = blk) W w') := Lib.hid (by
        intro W hW; rw [hmi, hmj]; exact swrv_any hsl blk off n cap (m - i) (m + j - i) i cb fi W hW (by omega) (by omega) hn hcap)
      have t1 : ((i : Int) != (j : Int)) = true := by simp; omega
      have t2 : ¬ ((j : Int) < (i : Int)) := by omega
      have e1 : ((j : Int) - (i : Int)) = ((j - i : Nat) : Int) := by omega
      clear hmi hmj e1
      go_wp2_with (go_at_call 126; refine (H1.out _ ST.out.2.2.1).mono ?_; rintro e w1 ⟨rfl, r1, m1⟩; have R1 := Lib.hid (And.intro r1 m1); clear r1 m1)
      go_roundg (gk - i)
      case measure => have := HIJ.out; omega
      case rel =>
        refine ⟨i, j - i, swr fi (m - i) (m + j - i) i, rfl, by first | rfl | (congr 1; omega) | go_num, by have := HIJ.out; omega, hi0, by omega, hia, by omega, (rot_lt fi m i j (by omega) hlt).trans ST.out.1, ST.out.2.1.trans (swr_sw fi i (by omega) (by omega) (by omega)), R1.out.1, ST.out.2.2.2.trans R1.out.2⟩
    by_cases hgt : j < i
    · have H1 : Hid (∀ W, RowV lv W blk off n fi → Calls Tryz.prog 126 #[.slice (some ⟨blk, off, none⟩) n cap, .int .i64 ((m : Int) - (i : Int)), .int .i64 (m : Int), .int .i64 (j : Int), .func (.func 42) #[cb] #[]] W fun e w' => e = .returned (.tuple #[]) ∧ RowV lv w' blk off n (swr fi (m - i) m j) ∧ Mv (fun k => k = blk) W w') := Lib.hid (by
        intro W hW; rw [hmi]; exact swrv_any hsl blk off n cap (m - i) m j cb fi W hW (by omega) (by omega) hn hcap)
      have t1 : ((i : Int) != (j : Int)) = true := by simp; omega
      have t2 : ((j : Int) < (i : Int)) := by omega
      clear hmi hmj
      go_wp2_with (go_at_call 126; refine (H1.out _ ST.out.2.2.1).mono ?_; rintro e w1 ⟨rfl, r1, m1⟩; have R1 := Lib.hid (And.intro r1 m1); clear r1 m1)
      go_roundg (gk - j)
      case measure => have := HIJ.out; omega
      case rel =>
        refine ⟨i - j, j, swr fi (m - i) m j, by first | rfl | (congr 1; omega) | go_num, rfl, by have := HIJ.out; omega, by omega, hj0, by omega, hjb, (rot_gt fi m i j (by omega) hgt).trans ST.out.1, ST.out.2.1.trans (swr_sw fi j (by omega) (by omega) (by omega)), R1.out.1, ST.out.2.2.2.trans R1.out.2⟩
    · obtain rfl : i = j := by omega
      have H1 : Hid (∀ W, RowV lv W blk off n fi → Calls Tryz.prog 126 #[.slice (some ⟨blk, off, none⟩) n cap, .int .i64 ((m : Int) - (i : Int)), .int .i64 (m : Int), .int .i64 (i : Int), .func (.func 42) #[cb] #[]] W fun e w' => e = .returned (.tuple #[]) ∧ RowV lv w' blk off n (swr fi (m - i) m i) ∧ Mv (fun k => k = blk) W w') := Lib.hid (by
        intro W hW; rw [hmi]; exact swrv_any hsl blk off n cap (m - i) m i cb fi W hW (by omega) (by omega) hn hcap)
      have t1 : ((i : Int) != (i : Int)) = false := by simp
      clear hmi hmj hlt hgt
      go_wp2_with (go_at_call 126; refine (H1.out _ ST.out.2.2.1).mono ?_; rintro e w1 ⟨rfl, r1, m1⟩; have R1 := Lib.hid (And.intro r1 m1); clear r1 m1)
      go_end0
      have E : rot f a m b = swr fi (m - i) m i := ST.out.1.symm.trans (rot_eq fi m i (by omega))
      refine ⟨rfl, ?_, ?_, ST.out.2.2.2.trans R1.out.2⟩
      · rw [E]; exact ST.out.2.1.trans (swr_sw fi i (by omega) (by omega) (by omega))
      · rw [E]; exact R1.out.1
end Go.Proofs.YtpahoenanfjhpaaGreat
