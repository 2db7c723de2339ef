/-
  SORTING IN MEMORY: slices.symMergeCmpFunc at records, whole. Conditions: the comparison's contract in every world where only the row's block has turned; the two halves in order.
-/
import Derived.Test.YtkblkjfejaflkaaSm5
set_option linter.unusedVariables false
set_option linter.unusedSimpArgs false
namespace Go.Proofs.Ytkblkjfejaflkaa
open Go.RowKit Srt
variable {α : Type} {sq : α → Int} {lv : α → Value} {c : α → α → Int} {ix : α → Nat}
theorem Srt.Mg.congr {f g : Nat → α} {a m b : Nat} (h : Mg c ix f a m b) (ham : a ≤ m) (hmb : m ≤ b) (e : ∀ k, a ≤ k → k < b → g k = f k) : Mg c ix g a m b :=
  ⟨h.l.congr fun k k1 k2 => e k k1 (by omega), h.r.congr fun k k1 k2 => e k (by omega) k2, fun i j i1 i2 j1 j2 => by rw [e i i1 (by omega), e j (by omega) j2]; exact h.x i j i1 i2 j1 j2⟩
/-- What a merge leaves. -/
def SymRes (sq : α → Int) (lv : α → Value) (c : α → α → Int) (ix : α → Nat) (blk off n a b : Nat) (f : Nat → α) (w w' : World) : Prop := ∃ f', Sw a b f f' ∧ Ord c ix f' a b ∧ RowM sq lv w' blk off n f' ∧ Mv (fun k => k = blk) w w'
set_option maxRecDepth 8000 in
set_option maxHeartbeats 4000000 in
theorem sym_any (hp : Pre c) (hsl : ∀ x, ∃ a n q, lv x = .slice a n q) (blk off n cap : Nat) (cb : Value) (w0 : World) (HC : CmpOk sq lv c blk w0 cb) (hn : n ≤ 4611686018427387904) (hcap : n ≤ cap) :
    ∀ (N a m b : Nat) (f : Nat → α) (w : World), b ≤ a + N → Mv (fun k => k = blk) w0 w → RowM sq lv w blk off n f → a < m → m < b → b ≤ n → Mg c ix f a m b →
    Calls Try.prog 77 #[.slice (some ⟨blk, off, none⟩) n cap, .int .i64 (a : Int), .int .i64 (m : Int), .int .i64 (b : Int), fnV cb] w fun e w' => e = .returned (.tuple #[]) ∧ SymRes sq lv c ix blk off n a b f w w' := by
  intro N
  induction N with
  | zero => intro a m b f w h1 _ _ h2 h3; omega
  | succ N ih =>
  intro a m b f w hN hm0 hr0 ham hmb hb hg
  by_cases hl : m = a + 1
  · exact sym_left1 hp hsl blk off n cap a m b cb f w0 w HC hm0 hr0 hl hmb hb hn hcap hg
  by_cases hr : b = m + 1
  · exact sym_right1 hp hsl blk off n cap a m b cb f w0 w HC hm0 hr0 hr ham hl hb hn hcap hg
  have HCC := Lib.hid HC
  have HM0 := Lib.hid hm0
  have HR0 := Lib.hid hr0
  have HG := Lib.hid hg
  have IH := Lib.hid ih
  have HNN := Lib.hid hN
  have hfn : fnV cb = .func (.func 51) #[] #[cb] := rfl
  clear ih hm0 hr0 hg hN HC
  unfold fnV at IH
  rw [hfn]
  clear hfn
  have t0 : ((m : Int) - (a : Int) == 1) = false := by simp; omega
  have t1 : ((b : Int) - (m : Int) == 1) = false := by simp; omega
  obtain ⟨mid, hmid⟩ : ∃ mid, (a + b) / 2 = mid := ⟨_, rfl⟩
  have hmz : ((a : Int) + (b : Int)) / 2 = (mid : Int) := by omega
  have amid : a < mid := by omega
  have midb : mid < b := by omega
  have HMID := Lib.hid hmid
  have HLR := Lib.hid (And.intro hl hr)
  clear hl hr hmid
  go_enter Try.func77, Try.ntmps77
  go_upto_if 140 with fail
  have HMZ := Lib.hid hmz
  clear t0 t1 hmz
  go_cut [20, 21] from 140 to 146 (fun s20 s21 wx => wx = w ∧ ∃ S R : Nat, s20 = .int .i64 (S : Int) ∧ s21 = .int .i64 (R : Int) ∧ S ≤ R ∧ R ≤ mid + m - 1 ∧ R ≤ n ∧ mid + m - S ≤ n ∧ ∀ s, Sea c f S R (mid + m - 1) s s → Cut c f a m b s (mid + m - s))
  case first =>
    by_cases hmm : mid < m
    · have z : (mid : Int) < (m : Int) := by omega
      have e1 : (mid : Int) + (m : Int) - (b : Int) = ((mid + m - b : Nat) : Int) := by have := HMID.out; omega
      go_wp2
      go_meet
      exact ⟨rfl, mid + m - b, mid, by first | rfl | rw [e1] | go_num, rfl, by have := HMID.out; omega, by omega, by omega, by have := HMID.out; omega, fun s h => h.cut_hi HMID.out.symm rfl hmm ham hmb⟩
    · have z : ¬ (mid : Int) < (m : Int) := by omega
      go_wp2
      go_meet
      exact ⟨rfl, a, m, rfl, rfl, by omega, by omega, by omega, by have := HMID.out; omega, fun s h => h.cut_lo HMID.out.symm rfl (by omega) ham hmb⟩
  case rest =>
  obtain ⟨hw, S0, R0', rfl, rfl, hSR, hRp, hRn, hSn, hcutF⟩ := hcut
  obtain rfl : w = wc := hw.symm
  have CUTF := Lib.hid hcutF
  obtain ⟨P, hP⟩ : ∃ P, mid + m - 1 = P := ⟨_, rfl⟩
  have pz : (mid : Int) + (m : Int) - 1 = (P : Int) := by omega
  have HP := Lib.hid hP
  rw [hP] at hRp CUTF
  clear hcutF hP
  go_upto_region 32 with fail
  go_wp2_with fail
  go_loopg [20, 21] (R0' - S0) (fun g vi vj wr => ∃ s r : Nat, vi = .int .i64 (s : Int) ∧ vj = .int .i64 (r : Int) ∧ r ≤ s + g ∧ Sea c f S0 R0' P s r ∧ ∃ x : Ext w, x.it = wr)
  case atStart => exact ⟨S0, R0', rfl, rfl, by omega, Sea.start hSR, ⟨w, Below.refl _ _⟩, rfl⟩
  case round =>
    obtain ⟨s, r, rfl, rfl, hg, s1, x, rfl⟩ := hrel
    have ST := Lib.hid s1
    have hlo := s1.lo
    have hsr := s1.sr
    have hhi := s1.hi
    clear s1
    have R0 := HR0.out.on x.below
    have M0 : Mv (fun k => k = blk) w x.it := Mv.of_below x.below
    by_cases hij : s < r
    · have hijz : (s : Int) < (r : Int) := by omega
      obtain ⟨h, hh⟩ : ∃ h : Nat, ((s : Int) + (r : Int)) / 2 = (h : Int) := ⟨(s + r) / 2, by omega⟩
      have hih : s ≤ h := by omega
      have hhj : h < r := by omega
      have hhn : (h : Int) < (n : Int) := by omega
      obtain ⟨q, hq⟩ : ∃ q, P - h = q := ⟨_, rfl⟩
      have hqn : q < n := by have := HP.out; omega
      have hqz : (q : Int) < (n : Int) := by omega
      have hqe : (P : Int) - (h : Int) = (q : Int) := by omega
      have hqw : IntKind.i64.wrap ((P : Int) - (h : Int)) = (q : Int) := by rw [IntKind.wrap_i64]; omega
      have hq0 : (0 : Int) ≤ (q : Int) := by omega
      go_upto_region 35 with fail
      have k0 := R0.c0 q (by omega)
      have k1 := R0.c1 q (by omega)
      have l0 := R0.c0 h (by omega)
      have l1 := R0.c1 h (by omega)
      have zb := R0.lt
      obtain ⟨xh, hxh⟩ : ∃ x, f q = x := ⟨_, rfl⟩
      obtain ⟨xa, hxa⟩ : ∃ x, f h = x := ⟨_, rfl⟩
      rw [hxh] at k0 k1
      rw [hxa] at l0 l1
      obtain ⟨ja1, jn1, jc1, ej⟩ := hsl xh
      obtain ⟨pa1, pn1, pc1, ep⟩ := hsl xa
      rw [ej] at k1
      rw [ep] at l1
      obtain ⟨cv, hcv⟩ : ∃ cv, c xh xa = cv := ⟨_, rfl⟩
      have CX : Hid (∀ W, Mv (fun k => k = blk) w0 W → Calls Try.prog 51 #[.agg #[.int .i64 (sq xh), .slice ja1 jn1 jc1], .agg #[.int .i64 (sq xa), .slice pa1 pn1 pc1], cb] W fun e w' => e = .returned (.int .i64 cv) ∧ Below W.heap.size W w') := Lib.hid (by
        intro W hW; have := HCC.out W hW xh xa; rw [hcv, ej, ep] at this; exact this)
      have XX : Hid (c (f (P - h)) (f h) = cv) := Lib.hid (by rw [hq, hxh, hxa]; exact hcv)
      have HH := Lib.hid hh
      have HQ := Lib.hid hq
      have RM := Lib.hid (And.intro R0 M0)
      clear hxh hxa hcv ej ep hh R0 M0 hq
      by_cases hlv : cv < 0
      · have hlv' : decide (cv < 0) = true := by simpa using hlv
        refine wp_region_ext (by kernel_rfl) (by kernel_rfl) ?_
        repeat (go_big_quiet_step (((go_at_call 51; exact Calls.ext (CX.out _ ((HM0.out.trans RM.out.2).on (Ext.below _)))))))
        refine wpQuiet_nil ?_
        rintro _ ⟨x5, rfl⟩
        clear k0 k1 l0 l1 hqe hqw hqz hq0
        go_wp2
        go_roundg (h - s)
        case measure => omega
        case rel => exact ⟨s, h, rfl, rfl, by omega, ST.out.down hih hhj (by rw [XX.out]; exact hlv), ⟨x5.it, Below.on x.below x5⟩, rfl⟩
      · have hlv' : decide (cv < 0) = false := by simpa using hlv
        refine wp_region_ext (by kernel_rfl) (by kernel_rfl) ?_
        repeat (go_big_quiet_step (((go_at_call 51; exact Calls.ext (CX.out _ ((HM0.out.trans RM.out.2).on (Ext.below _)))))))
        refine wpQuiet_nil ?_
        rintro _ ⟨x5, rfl⟩
        clear k0 k1 l0 l1 hqe hqw hqz hq0
        go_wp2
        go_roundg (r - (h + 1))
        case measure => omega
        case rel => exact ⟨h + 1, r, by go_num, rfl, by omega, ST.out.up hih hhj (by rw [XX.out]; omega), ⟨x5.it, Below.on x.below x5⟩, rfl⟩
    obtain rfl : s = r := by omega
    have t : ¬ ((s : Int) < (s : Int)) := by omega
    have CUT := CUTF.out s ⟨hlo, Nat.le_refl _, hhi, ST.out.no, ST.out.yes⟩
    obtain ⟨e, he⟩ : ∃ e, mid + m - s = e := ⟨_, rfl⟩
    rw [he] at CUT
    have ez : (mid : Int) + (m : Int) - (s : Int) = (e : Int) := by omega
    have q1 := CUT.as'
    have q2 := CUT.sm
    have q3 := CUT.me
    have q4 := CUT.eb
    have hd : mid = s + (e - m) := by omega
    obtain ⟨G1, G2, G3⟩ := CUT.rot hp HG.out hd
    have GG := Lib.hid (And.intro G1 (And.intro G2 G3))
    have RM := Lib.hid (And.intro R0 M0)
    have HE := Lib.hid (And.intro he hd)
    have smid : s ≤ mid := by omega
    have mide : mid ≤ e := by omega
    clear CUT G1 G2 G3 he hd R0 M0 hij hg hlo hsr hhi
    go_upto_region 39 with fail
    clear ez pz t
    obtain ⟨c1, hc1⟩ : ∃ c1 : Bool, (decide (s < m) && decide (m < e)) = c1 := ⟨_, rfl⟩
    have HC1 := Lib.hid hc1
    clear hc1
    go_cut [185] from 178 to 185 (fun sx wx => sx = .bool c1 ∧ wx = x.it)
    case first =>
      by_cases h1 : s < m
      · have z1 : (s : Int) < (m : Int) := by omega
        by_cases h2 : m < e
        · have z2 : (m : Int) < (e : Int) := by omega
          go_wp2
          go_meet
          exact ⟨by rw [← HC1.out]; simp [h1, h2], rfl⟩
        · have z2 : ¬ (m : Int) < (e : Int) := by omega
          go_wp2
          go_meet
          exact ⟨by rw [← HC1.out]; simp [h1, h2], rfl⟩
      · have z1 : ¬ (s : Int) < (m : Int) := by omega
        go_wp2
        go_meet
        exact ⟨by rw [← HC1.out]; simp [h1], rfl⟩
    case rest =>
    obtain ⟨rfl, rfl⟩ := hcut
    go_upto_if 185 with fail
    go_cut [] from 185 to 191 (fun wx => RowM sq lv wx blk off n (rot f s m e) ∧ Sw s e f (rot f s m e) ∧ Mv (fun k => k = blk) w wx)
    case first =>
      by_cases h1 : s < m
      · by_cases h2 : m < e
        · obtain rfl : c1 = true := by rw [← HC1.out]; simp [h1, h2]
          have RC := Lib.hid (rot_any (cb := cb) hsl blk off n cap s m e f x.it RM.out.1 h1 h2 (by omega) hn hcap)
          have RC2 : Hid (Calls Try.prog 82 #[.slice (some ⟨blk, off, none⟩) n cap, .int .i64 (s : Int), .int .i64 (m : Int), .int .i64 (e : Int), .func (.func 51) #[] #[cb]] x.it fun e' w' => e' = .returned (.tuple #[]) ∧ Sw s e f (rot f s m e) ∧ RowM sq lv w' blk off n (rot f s m e) ∧ Mv (fun k => k = blk) x.it w') := RC
          clear RC
          go_wp2_with (go_at_call 82; refine Calls.mono RC2.out ?_; rintro e' w6 ⟨rfl, r1, r2, r3⟩; have R6 := Lib.hid (And.intro r1 (And.intro r2 r3)); clear r1 r2 r3)
          go_meet
          exact ⟨R6.out.2.1, R6.out.1, RM.out.2.trans R6.out.2.2⟩
        · obtain rfl : c1 = false := by rw [← HC1.out]; simp [h1, h2]
          have E : rot f s m e = f := by rw [show e = m by omega]; exact rot_nil_r f s m (by omega)
          have HE2 := Lib.hid E
          clear E
          go_wp2
          go_meet
          exact ⟨by rw [HE2.out]; exact RM.out.1, by rw [HE2.out]; exact .refl _, RM.out.2⟩
      · obtain rfl : c1 = false := by rw [← HC1.out]; simp [h1]
        have E : rot f s m e = f := by rw [show s = m by omega]; exact rot_nil_l f m e (by omega)
        have HE2 := Lib.hid E
        clear E
        go_wp2
        go_meet
        exact ⟨by rw [HE2.out]; exact RM.out.1, by rw [HE2.out]; exact .refl _, RM.out.2⟩
    case rest =>
    obtain ⟨r1, r2, r3⟩ := hcut
    obtain ⟨f1, hf1⟩ : ∃ f1, rot f s m e = f1 := ⟨_, rfl⟩
    rw [hf1] at r1 r2 GG
    have ST1 := Lib.hid (And.intro r1 (And.intro r2 r3))
    clear r1 r2 r3 hf1 RM
    go_upto_region 41 with fail
    obtain ⟨c2, hc2⟩ : ∃ c2 : Bool, (decide (a < s) && decide (s < mid)) = c2 := ⟨_, rfl⟩
    have HC2 := Lib.hid hc2
    clear hc2
    go_cut [199] from 192 to 199 (fun sx wx => sx = .bool c2 ∧ wx = wc)
    case first =>
      by_cases h1 : a < s
      · have z1 : (a : Int) < (s : Int) := by omega
        by_cases h2 : s < mid
        · have z2 : (s : Int) < (mid : Int) := by omega
          go_wp2
          go_meet
          exact ⟨by rw [← HC2.out]; simp [h1, h2], rfl⟩
        · have z2 : ¬ (s : Int) < (mid : Int) := by omega
          go_wp2
          go_meet
          exact ⟨by rw [← HC2.out]; simp [h1, h2], rfl⟩
      · have z1 : ¬ (a : Int) < (s : Int) := by omega
        go_wp2
        go_meet
        exact ⟨by rw [← HC2.out]; simp [h1], rfl⟩
    case rest =>
    obtain ⟨rfl, rfl⟩ := hcut
    go_upto_if 199 with fail
    go_cut [] from 199 to 205 (fun wx => ∃ g, Sw a mid f1 g ∧ Ord c ix g a mid ∧ RowM sq lv wx blk off n g ∧ Mv (fun k => k = blk) w wx)
    case first =>
      by_cases h1 : a < s
      · by_cases h2 : s < mid
        · obtain rfl : c2 = true := by rw [← HC2.out]; simp [h1, h2]
          have RC := Lib.hid (IH.out a s mid f1 wc (by have := HNN.out; omega) (HM0.out.trans ST1.out.2.2) ST1.out.1 h1 h2 (by omega) GG.out.1)
          go_wp2_with (go_at_call 77; refine Calls.mono RC.out ?_; rintro e' w6 ⟨rfl, hq⟩; have R6 := Lib.hid hq; clear hq)
          go_meet
          obtain ⟨g, g1, g2, g3, g4⟩ := R6.out
          exact ⟨g, g1, g2, g3, ST1.out.2.2.trans g4⟩
        · obtain rfl : c2 = false := by rw [← HC2.out]; simp [h1, h2]
          have O : Ord c ix f1 a mid := by rw [show mid = s by omega]; exact GG.out.1.l
          have HO := Lib.hid O
          clear O
          go_wp2
          go_meet
          exact ⟨f1, .refl _, HO.out, ST1.out.1, ST1.out.2.2⟩
      · obtain rfl : c2 = false := by rw [← HC2.out]; simp [h1]
        have O : Ord c ix f1 a mid := by have := GG.out.1.r; rwa [show s = a by omega] at this
        have HO := Lib.hid O
        clear O
        go_wp2
        go_meet
        exact ⟨f1, .refl _, HO.out, ST1.out.1, ST1.out.2.2⟩
    case rest =>
    obtain ⟨g, g1, g2, g3, g4⟩ := hcut
    have G2' := GG.out.2.1.congr (g := g) mide q4 (fun k k1 k2 => g1.out (.inr k1))
    have ST2 := Lib.hid (And.intro g1 (And.intro g2 (And.intro g3 g4)))
    have HG2 := Lib.hid G2'
    clear g1 g2 g3 g4 G2'
    have FIN : Hid (∀ (k : Nat → α) (W : World), Sw mid b g k → Ord c ix k mid b → RowM sq lv W blk off n k → Mv (fun k => k = blk) w W → SymRes sq lv c ix blk off n a b f w W) := Lib.hid (fun k W k1 k2 k3 k4 => ⟨k, ((ST1.out.2.1.mono q1 q4).trans (ST2.out.1.mono (Nat.le_refl _) (by omega))).trans (k1.mono (by omega) (Nat.le_refl _)), halves GG.out.2.2 ST2.out.1 k1 ST2.out.2.1 k2 (by omega), k3, k4⟩)
    by_cases h1 : mid < e
    · have z1 : (mid : Int) < (e : Int) := by omega
      by_cases h2 : e < b
      · have z2 : (e : Int) < (b : Int) := by omega
        have RC := Lib.hid (IH.out mid e b g _ (by have := HNN.out; omega) (HM0.out.trans ST2.out.2.2.2) ST2.out.2.2.1 h1 h2 hb HG2.out)
        go_wp2_with (go_at_call 77; refine Calls.mono RC.out ?_; rintro e' w6 ⟨rfl, hq⟩; have R6 := Lib.hid hq; clear hq)
        go_end0
        obtain ⟨k, k1, k2, k3, k4⟩ := R6.out
        exact ⟨rfl, FIN.out k _ k1 k2 k3 (ST2.out.2.2.2.trans k4)⟩
      · have z2 : ¬ (e : Int) < (b : Int) := by omega
        have O : Ord c ix g mid b := by rw [show b = e by omega]; exact HG2.out.l
        have HO := Lib.hid O
        clear O
        go_wp2
        go_end0
        exact ⟨rfl, FIN.out g _ (.refl _) HO.out ST2.out.2.2.1 ST2.out.2.2.2⟩
    · have z1 : ¬ (mid : Int) < (e : Int) := by omega
      have O : Ord c ix g mid b := by have := HG2.out.r; rwa [show e = mid by omega] at this
      have HO := Lib.hid O
      clear O
      go_wp2
      go_end0
      exact ⟨rfl, FIN.out g _ (.refl _) HO.out ST2.out.2.2.1 ST2.out.2.2.2⟩
end Go.Proofs.Ytkblkjfejaflkaa
