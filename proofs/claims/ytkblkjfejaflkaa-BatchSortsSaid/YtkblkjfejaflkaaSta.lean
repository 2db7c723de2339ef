/-
  SORTING IN MEMORY: the stable sort of up to 2^42 records (slices.stableCmpFunc whole): blocks of 20 by insertion, then merged pair by pair. Conditions: those of 'StableOk'.
-/
import Derived.Test.YtkblkjfejaflkaaSm6
import Derived.Test.YtkblkjfejaflkaaStb
set_option linter.unusedVariables false
set_option linter.unusedSimpArgs false
namespace Go.Proofs.Ytkblkjfejaflkaa
open Go.RowKit Srt
variable {α : Type} {sq : α → Int} {lv : α → Value} {c : α → α → Int} {ix : α → Nat}
/-- Behind a blocks of 20. -/
structure StA (c : α → α → Int) (ix : α → Nat) (n : Nat) (f0 f : Nat → α) (a : Nat) : Prop where
  sw : Sw 0 n f0 f
  px : Pfx c ix f 20 a
  id : ∀ k, a ≤ k → k < n → ix (f k) = k
  le : a ≤ n
/-- A level: blocks of 2B up to a, of B behind it. -/
structure StB (c : α → α → Int) (ix : α → Nat) (n B : Nat) (f0 f : Nat → α) (a : Nat) : Prop where
  sw : Sw 0 n f0 f
  px : Pfx c ix f (2 * B) a
  sx : Sfx c ix f B n a
theorem blk_of {f g : Nat → α} {a b : Nat} (hid : ∀ k, a ≤ k → k < b → ix (f k) = k) (p : Sw a b f g) (hg : Ord c ix g a b) : Blk c ix g a b :=
  ⟨hg, p.all (Q := fun x => a ≤ ix x ∧ ix x < b) fun k k1 k2 => by rw [hid k k1 k2]; exact ⟨k1, k2⟩⟩
theorem StA.next {n : Nat} {f0 f g : Nat → α} {a b : Nat} (h : StA c ix n f0 f a) (hb : b = a + 20) (hn : b ≤ n) (p : Sw a b f g) (hg : Ord c ix g a b) : StA c ix n f0 g b := by
  subst hb
  exact ⟨h.sw.trans (p.mono (Nat.zero_le _) hn), .snoc (h.px.congr fun k hk => p.out (.inl hk)) (blk_of (fun k k1 k2 => h.id k k1 (by omega)) p hg), fun k k1 k2 => by rw [p.out (.inr k1)]; exact h.id k (by omega) k2, hn⟩
theorem StA.last {n : Nat} {f0 f g : Nat → α} {a : Nat} (h : StA c ix n f0 f a) (hn : n < a + 20) (p : Sw a n f g) (hg : Ord c ix g a n) : Sw 0 n f0 g ∧ Sfx c ix g 20 n 0 :=
  ⟨h.sw.trans (p.mono (Nat.zero_le _) (Nat.le_refl _)), (h.px.congr fun k hk => p.out (.inl hk)).sfx (.last h.le hn (blk_of h.id p hg))⟩
theorem StB.next {n B : Nat} {f0 f g : Nat → α} {a b : Nat} (h : StB c ix n B f0 f a) (h0 : 0 < B) (hb : b = a + 2 * B) (hn : b ≤ n) (p : Sw a b f g) (hg : Ord c ix g a b) : StB c ix n B f0 g b := by
  subst hb
  obtain ⟨k1, k2, t⟩ := h.sx.two hn h0
  exact ⟨h.sw.trans (p.mono (Nat.zero_le _) hn), .snoc (h.px.congr fun k hk => p.out (.inl hk)) (k1.merged k2 (by omega) (by omega) p hg), t.congr fun k q _ => p.out (.inr q)⟩
theorem StB.mg {n B : Nat} {f0 f : Nat → α} {a m b : Nat} (h : StB c ix n B f0 f a) (h0 : 0 < B) (hm : m = a + B) (hb : b = a + 2 * B) (hn : b ≤ n) : Mg c ix f a m b := by
  subst hb hm
  obtain ⟨k1, k2, t⟩ := h.sx.two hn h0
  exact k1.mg k2
theorem StB.mg_short {n B : Nat} {f0 f : Nat → α} {a m : Nat} (h : StB c ix n B f0 f a) (hm : m = a + B) (hn : n < a + 2 * B) (hl : m < n) : Mg c ix f a m n := by
  subst hm
  obtain ⟨k1, k2⟩ := h.sx.short hn hl
  exact k1.mg k2
theorem StB.end_short {n B : Nat} {f0 f g : Nat → α} {a m : Nat} (h : StB c ix n B f0 f a) (hm : m = a + B) (hn : n < a + 2 * B) (hl : m < n) (p : Sw a n f g) (hg : Ord c ix g a n) : Sw 0 n f0 g ∧ Sfx c ix g (2 * B) n 0 := by
  subst hm
  obtain ⟨k1, k2⟩ := h.sx.short hn hl
  exact ⟨h.sw.trans (p.mono (Nat.zero_le _) (Nat.le_refl _)), (h.px.congr fun k hk => p.out (.inl hk)).sfx (.last (by omega) hn (k1.merged k2 (by omega) (by omega) p hg))⟩
theorem StB.end_single {n B : Nat} {f0 f : Nat → α} {a m : Nat} (h : StB c ix n B f0 f a) (hm : m = a + B) (hn : n < a + 2 * B) (hl : ¬ m < n) : Sw 0 n f0 f ∧ Sfx c ix f (2 * B) n 0 := by
  subst hm
  exact ⟨h.sw, h.px.sfx (.last h.sx.le hn (h.sx.single hl))⟩
set_option maxRecDepth 8000 in
set_option maxHeartbeats 2000000 in
theorem stable_any {n : Nat} (hn : n ≤ 4398046511104) : StableOk n := by
  intro α sq lv c ix hp hsl blk off cap cb f w0 w HC hm0 hr0 hcap hix
  show Calls Try.prog 66 #[.slice (some ⟨blk, off, none⟩) n cap, .int .i64 (n : Int), fnV cb] w fun e w' => e = .returned (.tuple #[]) ∧ StbRes sq lv c ix blk off n f w w'
  have IN : Hid (∀ (a b : Nat) (f : Nat → α) (W : World), a ≤ b → b ≤ n → Mv (fun k => k = blk) w0 W → RowM sq lv W blk off n f → (∀ k, a ≤ k → k < n → ix (f k) = k) → Calls Try.prog 76 #[.slice (some ⟨blk, off, none⟩) n cap, .int .i64 (a : Int), .int .i64 (b : Int), .func (.func 51) #[] #[cb]] W fun e w' => e = .returned (.tuple #[]) ∧ SymRes sq lv c ix blk off n a b f W w') := Lib.hid fun a b f W h1 h2 h3 h4 h5 =>
    ins_any hp hsl blk off n cap a b cb f w0 W HC h3 h4 h1 h2 (by omega) hcap (fun i j g1 g2 g3 => by rw [h5 i g1 (by omega), h5 j (by omega) (by omega)]; exact g2)
  have SY : Hid (∀ (a m b : Nat) (f : Nat → α) (W : World), Mv (fun k => k = blk) w0 W → RowM sq lv W blk off n f → a < m → m < b → b ≤ n → Mg c ix f a m b → Calls Try.prog 77 #[.slice (some ⟨blk, off, none⟩) n cap, .int .i64 (a : Int), .int .i64 (m : Int), .int .i64 (b : Int), .func (.func 51) #[] #[cb]] W fun e w' => e = .returned (.tuple #[]) ∧ SymRes sq lv c ix blk off n a b f W w') := Lib.hid fun a m b f W h1 h2 h3 h4 h5 h6 =>
    sym_any hp hsl blk off n cap cb w0 HC (by omega) hcap b a m b f W (by omega) h1 h2 h3 h4 h5 h6
  have S0 : Hid (StA c ix n f f 0 ∧ RowM sq lv w blk off n f ∧ Mv (fun k => k = blk) w0 w) := Lib.hid ⟨⟨.refl _, .zero, fun k _ h => hix k h, Nat.zero_le _⟩, hr0, hm0⟩
  have hfn : fnV cb = .func (.func 51) #[] #[cb] := rfl
  rw [hfn]
  clear HC hm0 hr0 hcap hix hfn hp hsl
  go_enter Try.func66, Try.ntmps66
  go_wp2
  go_loopg [7, 8] n (fun g vi vj wr => ∃ (a b : Nat) (fi : Nat → α), vi = .int .i64 (a : Int) ∧ vj = .int .i64 (b : Int) ∧ b = a + 20 ∧ n ≤ a + g ∧ StA c ix n f fi a ∧ RowM sq lv wr blk off n fi ∧ Mv (fun k => k = blk) w wr)
  case atStart => exact ⟨0, 20, f, rfl, rfl, rfl, by omega, S0.out.1, S0.out.2.1, Mv.refl _ _⟩
  case round =>
    obtain ⟨a, b, fi, rfl, rfl, hb, hg, s1, s2, s3⟩ := hrel
    have ST := Lib.hid (And.intro s1 (And.intro s2 s3))
    have HB := Lib.hid hb
    have han := s1.le
    have hab : a ≤ b := by omega
    have hb2 : b ≤ a + 20 := by omega
    clear s1 s2 s3 hb
    by_cases hbn : b ≤ n
    · have t : (b : Int) ≤ (n : Int) := by omega
      have IN1 := Lib.hid (IN.out a b fi _ hab hbn (S0.out.2.2.trans ST.out.2.2) ST.out.2.1 ST.out.1.id)
      go_wp2_with (go_at_call 76; refine Calls.mono IN1.out ?_; rintro e w1 ⟨rfl, hq⟩; have HQ := Lib.hid hq; clear hq)
      go_roundg (gk - 1)
      case measure => have := HB.out; omega
      case rel =>
        obtain ⟨g, g1, g2, g3, g4⟩ := HQ.out
        exact ⟨b, b + 20, g, rfl, by go_num, rfl, by have := HB.out; omega, ST.out.1.next HB.out hbn g1 g2, g3, ST.out.2.2.trans g4⟩
    · have t : ¬ ((b : Int) ≤ (n : Int)) := by omega
      have IN1 := Lib.hid (IN.out a n fi _ han (Nat.le_refl _) (S0.out.2.2.trans ST.out.2.2) ST.out.2.1 ST.out.1.id)
      go_wp2_with (go_at_call 76; refine Calls.mono IN1.out ?_; rintro e w1 ⟨rfl, hq⟩; have HQ := Lib.hid hq; clear hq)
      go_loopg [6] n (fun g v6 wr => ∃ (B : Nat) (fi : Nat → α), v6 = .int .i64 (B : Int) ∧ 0 < B ∧ B ≤ 2 * n + 20 ∧ n ≤ B + g ∧ Sw 0 n f fi ∧ Sfx c ix fi B n 0 ∧ RowM sq lv wr blk off n fi ∧ Mv (fun k => k = blk) w wr)
      case atStart =>
        obtain ⟨g, g1, g2, g3, g4⟩ := HQ.out
        obtain ⟨k1, k2⟩ := ST.out.1.last (by omega) g1 g2
        exact ⟨20, g, rfl, by omega, by omega, by omega, k1, k2, g3, ST.out.2.2.trans g4⟩
      case round =>
        clear ST HQ IN1 HB t hbn hab hb2 han hg
        obtain ⟨B, fo, rfl, hB0, hB1, hBg, s1, s2, s3, s4⟩ := hrel
        have SO := Lib.hid (And.intro s1 (And.intro s2 (And.intro s3 s4)))
        clear s1 s2 s3 s4
        by_cases hBn : B < n
        · have t : (B : Int) < (n : Int) := by omega
          obtain ⟨G, hG⟩ : ∃ G, G = gk := ⟨gk, rfl⟩
          subst hG
          have HM := Lib.hid hBg
          clear hBg
          go_wp2
          go_loopg [7, 8] n (fun g vi vj wr => ∃ (a b : Nat) (fi : Nat → α), vi = .int .i64 (a : Int) ∧ vj = .int .i64 (b : Int) ∧ b = a + 2 * B ∧ n ≤ a + g ∧ StB c ix n B f fi a ∧ RowM sq lv wr blk off n fi ∧ Mv (fun k => k = blk) w wr)
          case atStart => exact ⟨0, 2 * B, fo, rfl, by go_num, by omega, by omega, ⟨SO.out.1, .zero, SO.out.2.1⟩, SO.out.2.2.1, SO.out.2.2.2⟩
          case round =>
            obtain ⟨a, b, fi, rfl, rfl, hb, hg, s1, s2, s3⟩ := hrel
            have ST := Lib.hid (And.intro s1 (And.intro s2 s3))
            have HB := Lib.hid hb
            have han := s1.sx.le
            have hb2 : b ≤ a + 2 * B := by omega
            have hb3 : a + 2 * B ≤ b := by omega
            clear s1 s2 s3 hb
            obtain ⟨m, hm⟩ : ∃ m, m = a + B := ⟨_, rfl⟩
            have mz : (a : Int) + (B : Int) = (m : Int) := by omega
            have hm2 : m ≤ a + B := by omega
            have hm3 : a + B ≤ m := by omega
            have HMM := Lib.hid hm
            clear hm
            by_cases hbn : b ≤ n
            · have t : (b : Int) ≤ (n : Int) := by omega
              have SY1 := Lib.hid (SY.out a m b fi _ (S0.out.2.2.trans ST.out.2.2) ST.out.2.1 (by omega) (by omega) hbn (ST.out.1.mg hB0 HMM.out HB.out hbn))
              go_wp2_with (go_at_call 77; refine Calls.mono SY1.out ?_; rintro e w1 ⟨rfl, hq⟩; have HQ := Lib.hid hq; clear hq)
              go_roundg (gk - 1)
              case measure => omega
              case rel =>
                obtain ⟨g, g1, g2, g3, g4⟩ := HQ.out
                exact ⟨b, b + 2 * B, g, rfl, by go_num, rfl, by omega, ST.out.1.next hB0 HB.out hbn g1 g2, g3, ST.out.2.2.trans g4⟩
            · have t : ¬ ((b : Int) ≤ (n : Int)) := by omega
              by_cases hmn : m < n
              · have t2 : (m : Int) < (n : Int) := by omega
                have SY1 := Lib.hid (SY.out a m n fi _ (S0.out.2.2.trans ST.out.2.2) ST.out.2.1 (by omega) hmn (Nat.le_refl _) (ST.out.1.mg_short HMM.out (by omega) hmn))
                go_wp2_with (go_at_call 77; refine Calls.mono SY1.out ?_; rintro e w1 ⟨rfl, hq⟩; have HQ := Lib.hid hq; clear hq)
                go_roundg (G - 1)
                case measure => have := HM.out; omega
                case rel =>
                  obtain ⟨g, g1, g2, g3, g4⟩ := HQ.out
                  obtain ⟨k1, k2⟩ := ST.out.1.end_short HMM.out (by omega) hmn g1 g2
                  exact ⟨2 * B, g, by go_num, by omega, by omega, by have := HM.out; omega, k1, k2, g3, ST.out.2.2.trans g4⟩
              · have t2 : ¬ ((m : Int) < (n : Int)) := by omega
                go_wp2
                go_roundg (G - 1)
                case measure => have := HM.out; omega
                case rel =>
                  obtain ⟨k1, k2⟩ := ST.out.1.end_single HMM.out (by omega) hmn
                  exact ⟨2 * B, fi, by go_num, by omega, by omega, by have := HM.out; omega, k1, k2, ST.out.2.1, ST.out.2.2⟩
        · have t : ¬ ((B : Int) < (n : Int)) := by omega
          have FIN : Hid (StbRes sq lv c ix blk off n f w wr) := Lib.hid ⟨fo, SO.out.1, SO.out.2.1.whole (by omega), SO.out.2.2.1, SO.out.2.2.2⟩
          go_wp2
          go_end0
          exact ⟨rfl, FIN.out⟩
end Go.Proofs.Ytkblkjfejaflkaa
