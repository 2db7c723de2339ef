/-
  CHAPTER 26: Ttb, Tta, Sof (several texts in one). Conditions: each theorem states its own.
-/
import Derived.Test.YtpahoenanfjhpaaZp
import Derived.Test.YtpahoenanfjhpaaZq
import Derived.Test.YtpahoenanfjhpaaPrjz
set_option linter.unusedVariables false
set_option linter.unusedSimpArgs false
namespace Go.Proofs.Ytpahoenanfjhpaa
open Go.RowKit Srt
/-- The stable sort's contract at n rows. -/
def StableV (n : Nat) : Prop := ∀ (α : Type) (lv : α → Value) (c : α → α → Int) (ix : α → Nat), Pre c → (∀ x, ∃ a n q, lv x = .slice a n q) → ∀ (blk off cap : Nat) (cb : Value) (f : Nat → α) (w0 w : World), CmpV lv c blk w0 cb → Mv (fun k => k = blk) w0 w → RowV lv w blk off n f → n ≤ cap → (∀ k, k < n → ix (f k) = k) →
  Calls Try.prog 62 #[.slice (some ⟨blk, off, none⟩) n cap, .int .i64 (n : Int), fnC cb] w fun e w' => e = .returned (.tuple #[]) ∧ ∃ f', Sw 0 n f f' ∧ Ord c ix f' 0 n ∧ RowV lv w' blk off n f' ∧ Mv (fun k => k = blk) w w'
def StbV {α : Type} (lv : α → Value) (c : α → α → Int) (ix : α → Nat) (blk off n : Nat) (f : Nat → α) (w w' : World) : Prop := ∃ f', Sw 0 n f f' ∧ Ord c ix f' 0 n ∧ RowV lv w' blk off n f' ∧ Mv (fun k => k = blk) w w'
set_option maxRecDepth 8000 in
set_option maxHeartbeats 1000000 in
theorem stablev_small {n : Nat} (hn : n < 20) : StableV n := by
  intro α lv c ix hp hsl blk off cap cb f w0 w HC hm0 hr0 hcap hix
  show Calls Try.prog 62 #[.slice (some ⟨blk, off, none⟩) n cap, .int .i64 (n : Int), fnC cb] w fun e w' => e = .returned (.tuple #[]) ∧ StbV lv c ix blk off n f w w'
  have IN : Hid (Calls Try.prog 82 #[.slice (some ⟨blk, off, none⟩) n cap, .int .i64 (0 : Int), .int .i64 (n : Int), fnC cb] w fun e w' => e = .returned (.tuple #[]) ∧ StbV lv c ix blk off n f w w') := Lib.hid (insv_any hp hsl blk off n cap 0 n cb f w0 w HC hm0 hr0 (Nat.zero_le _) (Nat.le_refl _) (by omega) hcap (fun i j _ h1 h2 => by rw [hix i (by omega), hix j h2]; exact h1))
  generalize StbV lv c ix blk off n f w = R at *
  unfold fnC at *
  have t : ¬ ((20 : Int) ≤ (n : Int)) := by omega
  have t2 : ¬ ((20 : Int) < (n : Int)) := by omega
  clear HC hm0 hr0 hcap hix hn
  go_enter Try.func62, Try.ntmps62
  go_wp2
  refine wp_loop_rounds 1 ?_
  rw [rounds_succ]
  go_wp2_with (go_at_call 82; refine Calls.mono IN.out ?_; rintro e w1 ⟨rfl, hq⟩; have HQ := Lib.hid hq; clear hq)
  refine wp_loop_rounds 1 ?_
  rw [rounds_succ]
  go_wp2
  go_end0
  exact ⟨rfl, HQ.out⟩
end Go.Proofs.Ytpahoenanfjhpaa
namespace Go.Proofs.Ytpahoenanfjhpaa
open Go.RowKit Srt
variable {α : Type} {lv : α → Value} {c : α → α → Int} {ix : α → Nat}
/-- Behind a blocks of 20. -/
structure StA (c : α → α → Int) (ix : α → Nat) (n : Nat) (f0 f : Nat → α) (a : Nat) : Prop where
  sw : Sw 0 n f0 f
  px : Pfx c ix f 20 a
  id : ∀ k, a ≤ k → k < n → ix (f k) = k
  le : a ≤ n
/-- A level: blocks of 2B up to a, of B behind it. -/
structure StB (c : α → α → Int) (ix : α → Nat) (n B : Nat) (f0 f : Nat → α) (a : Nat) : Prop where
  sw : Sw 0 n f0 f
  px : Pfx c ix f (2 * B) a
  sx : Sfx c ix f B n a
theorem blk_of {f g : Nat → α} {a b : Nat} (hid : ∀ k, a ≤ k → k < b → ix (f k) = k) (p : Sw a b f g) (hg : Ord c ix g a b) : Blk c ix g a b :=
  ⟨hg, p.all (Q := fun x => a ≤ ix x ∧ ix x < b) fun k k1 k2 => by rw [hid k k1 k2]; exact ⟨k1, k2⟩⟩
theorem StA.next {n : Nat} {f0 f g : Nat → α} {a b : Nat} (h : StA c ix n f0 f a) (hb : b = a + 20) (hn : b ≤ n) (p : Sw a b f g) (hg : Ord c ix g a b) : StA c ix n f0 g b := by
  subst hb
  exact ⟨h.sw.trans (p.mono (Nat.zero_le _) hn), .snoc (h.px.congr fun k hk => p.out (.inl hk)) (blk_of (fun k k1 k2 => h.id k k1 (by omega)) p hg), fun k k1 k2 => by rw [p.out (.inr k1)]; exact h.id k (by omega) k2, hn⟩
theorem StA.last {n : Nat} {f0 f g : Nat → α} {a : Nat} (h : StA c ix n f0 f a) (hn : n < a + 20) (p : Sw a n f g) (hg : Ord c ix g a n) : Sw 0 n f0 g ∧ Sfx c ix g 20 n 0 :=
  ⟨h.sw.trans (p.mono (Nat.zero_le _) (Nat.le_refl _)), (h.px.congr fun k hk => p.out (.inl hk)).sfx (.last h.le hn (blk_of h.id p hg))⟩
theorem StB.next {n B : Nat} {f0 f g : Nat → α} {a b : Nat} (h : StB c ix n B f0 f a) (h0 : 0 < B) (hb : b = a + 2 * B) (hn : b ≤ n) (p : Sw a b f g) (hg : Ord c ix g a b) : StB c ix n B f0 g b := by
  subst hb
  obtain ⟨k1, k2, t⟩ := h.sx.two hn h0
  exact ⟨h.sw.trans (p.mono (Nat.zero_le _) hn), .snoc (h.px.congr fun k hk => p.out (.inl hk)) (k1.merged k2 (by omega) (by omega) p hg), t.congr fun k q _ => p.out (.inr q)⟩
theorem StB.mg {n B : Nat} {f0 f : Nat → α} {a m b : Nat} (h : StB c ix n B f0 f a) (h0 : 0 < B) (hm : m = a + B) (hb : b = a + 2 * B) (hn : b ≤ n) : Mg c ix f a m b := by
  subst hb hm
  obtain ⟨k1, k2, t⟩ := h.sx.two hn h0
  exact k1.mg k2
theorem StB.mg_short {n B : Nat} {f0 f : Nat → α} {a m : Nat} (h : StB c ix n B f0 f a) (hm : m = a + B) (hn : n < a + 2 * B) (hl : m < n) : Mg c ix f a m n := by
  subst hm
  obtain ⟨k1, k2⟩ := h.sx.short hn hl
  exact k1.mg k2
theorem StB.end_short {n B : Nat} {f0 f g : Nat → α} {a m : Nat} (h : StB c ix n B f0 f a) (hm : m = a + B) (hn : n < a + 2 * B) (hl : m < n) (p : Sw a n f g) (hg : Ord c ix g a n) : Sw 0 n f0 g ∧ Sfx c ix g (2 * B) n 0 := by
  subst hm
  obtain ⟨k1, k2⟩ := h.sx.short hn hl
  exact ⟨h.sw.trans (p.mono (Nat.zero_le _) (Nat.le_refl _)), (h.px.congr fun k hk => p.out (.inl hk)).sfx (.last (by omega) hn (k1.merged k2 (by omega) (by omega) p hg))⟩
theorem StB.end_single {n B : Nat} {f0 f : Nat → α} {a m : Nat} (h : StB c ix n B f0 f a) (hm : m = a + B) (hn : n < a + 2 * B) (hl : ¬ m < n) : Sw 0 n f0 f ∧ Sfx c ix f (2 * B) n 0 := by
  subst hm
  exact ⟨h.sw, h.px.sfx (.last h.sx.le hn (h.sx.single hl))⟩
set_option maxRecDepth 8000 in
set_option maxHeartbeats 2000000 in
theorem stablev_any {n : Nat} (hn : n ≤ 4398046511104) : StableV n := by
  intro α lv c ix hp hsl blk off cap cb f w0 w HC hm0 hr0 hcap hix
  show Calls Try.prog 62 #[.slice (some ⟨blk, off, none⟩) n cap, .int .i64 (n : Int), fnC cb] w fun e w' => e = .returned (.tuple #[]) ∧ StbV lv c ix blk off n f w w'
  have IN : Hid (∀ (a b : Nat) (f : Nat → α) (W : World), a ≤ b → b ≤ n → Mv (fun k => k = blk) w0 W → RowV lv W blk off n f → (∀ k, a ≤ k → k < n → ix (f k) = k) → Calls Try.prog 82 #[.slice (some ⟨blk, off, none⟩) n cap, .int .i64 (a : Int), .int .i64 (b : Int), .func (.func 44) #[cb] #[]] W fun e w' => e = .returned (.tuple #[]) ∧ SymV lv c ix blk off n a b f W w') := Lib.hid fun a b f W h1 h2 h3 h4 h5 =>
    insv_any hp hsl blk off n cap a b cb f w0 W HC h3 h4 h1 h2 (by omega) hcap (fun i j g1 g2 g3 => by rw [h5 i g1 (by omega), h5 j (by omega) (by omega)]; exact g2)
  have SY : Hid (∀ (a m b : Nat) (f : Nat → α) (W : World), Mv (fun k => k = blk) w0 W → RowV lv W blk off n f → a < m → m < b → b ≤ n → Mg c ix f a m b → Calls Try.prog 83 #[.slice (some ⟨blk, off, none⟩) n cap, .int .i64 (a : Int), .int .i64 (m : Int), .int .i64 (b : Int), .func (.func 44) #[cb] #[]] W fun e w' => e = .returned (.tuple #[]) ∧ SymV lv c ix blk off n a b f W w') := Lib.hid fun a m b f W h1 h2 h3 h4 h5 h6 =>
    symv_any hp hsl blk off n cap cb w0 HC (by omega) hcap b a m b f W (by omega) h1 h2 h3 h4 h5 h6
  have S0 : Hid (StA c ix n f f 0 ∧ RowV lv w blk off n f ∧ Mv (fun k => k = blk) w0 w) := Lib.hid ⟨⟨.refl _, .zero, fun k _ h => hix k h, Nat.zero_le _⟩, hr0, hm0⟩
  have hfn : fnC cb = .func (.func 44) #[cb] #[] := rfl
  rw [hfn]
  clear HC hm0 hr0 hcap hix hfn hp hsl
  go_enter Try.func62, Try.ntmps62
  go_wp2
  go_loopg [7, 8] n (fun g vi vj wr => ∃ (a b : Nat) (fi : Nat → α), vi = .int .i64 (a : Int) ∧ vj = .int .i64 (b : Int) ∧ b = a + 20 ∧ n ≤ a + g ∧ StA c ix n f fi a ∧ RowV lv wr blk off n fi ∧ Mv (fun k => k = blk) w wr)
  case atStart => exact ⟨0, 20, f, rfl, rfl, rfl, by omega, S0.out.1, S0.out.2.1, Mv.refl _ _⟩
  case round =>
    obtain ⟨a, b, fi, rfl, rfl, hb, hg, s1, s2, s3⟩ := hrel
    have ST := Lib.hid (And.intro s1 (And.intro s2 s3))
    have HB := Lib.hid hb
    have han := s1.le
    have hab : a ≤ b := by omega
    have hb2 : b ≤ a + 20 := by omega
    clear s1 s2 s3 hb
    by_cases hbn : b ≤ n
    · have t : (b : Int) ≤ (n : Int) := by omega
      have IN1 := Lib.hid (IN.out a b fi _ hab hbn (S0.out.2.2.trans ST.out.2.2) ST.out.2.1 ST.out.1.id)
      go_wp2_with (go_at_call 82; refine Calls.mono IN1.out ?_; rintro e w1 ⟨rfl, hq⟩; have HQ := Lib.hid hq; clear hq)
      go_roundg (gk - 1)
      case measure => have := HB.out; omega
      case rel =>
        obtain ⟨g, g1, g2, g3, g4⟩ := HQ.out
        exact ⟨b, b + 20, g, rfl, by go_num, rfl, by have := HB.out; omega, ST.out.1.next HB.out hbn g1 g2, g3, ST.out.2.2.trans g4⟩
    · have t : ¬ ((b : Int) ≤ (n : Int)) := by omega
      have IN1 := Lib.hid (IN.out a n fi _ han (Nat.le_refl _) (S0.out.2.2.trans ST.out.2.2) ST.out.2.1 ST.out.1.id)
      go_wp2_with (go_at_call 82; refine Calls.mono IN1.out ?_; rintro e w1 ⟨rfl, hq⟩; have HQ := Lib.hid hq; clear hq)
      go_loopg [6] n (fun g v6 wr => ∃ (B : Nat) (fi : Nat → α), v6 = .int .i64 (B : Int) ∧ 0 < B ∧ B ≤ 2 * n + 20 ∧ n ≤ B + g ∧ Sw 0 n f fi ∧ Sfx c ix fi B n 0 ∧ RowV lv wr blk off n fi ∧ Mv (fun k => k = blk) w wr)
      case atStart =>
        obtain ⟨g, g1, g2, g3, g4⟩ := HQ.out
        obtain ⟨k1, k2⟩ := ST.out.1.last (by omega) g1 g2
        exact ⟨20, g, rfl, by omega, by omega, by omega, k1, k2, g3, ST.out.2.2.trans g4⟩
      case round =>
        clear ST HQ IN1 HB t hbn hab hb2 han hg
        obtain ⟨B, fo, rfl, hB0, hB1, hBg, s1, s2, s3, s4⟩ := hrel
        have SO := Lib.hid (And.intro s1 (And.intro s2 (And.intro s3 s4)))
        clear s1 s2 s3 s4
        by_cases hBn : B < n
        · have t : (B : Int) < (n : Int) := by omega
          obtain ⟨G, hG⟩ : ∃ G, G = gk := ⟨gk, rfl⟩
          subst hG
          have HM := Lib.hid hBg
          clear hBg
          go_wp2
          go_loopg [7, 8] n (fun g vi vj wr => ∃ (a b : Nat) (fi : Nat → α), vi = .int .i64 (a : Int) ∧ vj = .int .i64 (b : Int) ∧ b = a + 2 * B ∧ n ≤ a + g ∧ StB c ix n B f fi a ∧ RowV lv wr blk off n fi ∧ Mv (fun k => k = blk) w wr)
          case atStart => exact ⟨0, 2 * B, fo, rfl, by go_num, by omega, by omega, ⟨SO.out.1, .zero, SO.out.2.1⟩, SO.out.2.2.1, SO.out.2.2.2⟩
          case round =>
            obtain ⟨a, b, fi, rfl, rfl, hb, hg, s1, s2, s3⟩ := hrel
            have ST := Lib.hid (And.intro s1 (And.intro s2 s3))
            have HB := Lib.hid hb
            have han := s1.sx.le
            have hb2 : b ≤ a + 2 * B := by omega
            have hb3 : a + 2 * B ≤ b := by omega
            clear s1 s2 s3 hb
            obtain ⟨m, hm⟩ : ∃ m, m = a + B := ⟨_, rfl⟩
            have mz : (a : Int) + (B : Int) = (m : Int) := by omega
            have hm2 : m ≤ a + B := by omega
            have hm3 : a + B ≤ m := by omega
            have HMM := Lib.hid hm
            clear hm
            by_cases hbn : b ≤ n
            · have t : (b : Int) ≤ (n : Int) := by omega
              have SY1 := Lib.hid (SY.out a m b fi _ (S0.out.2.2.trans ST.out.2.2) ST.out.2.1 (by omega) (by omega) hbn (ST.out.1.mg hB0 HMM.out HB.out hbn))
              go_wp2_with (go_at_call 83; refine Calls.mono SY1.out ?_; rintro e w1 ⟨rfl, hq⟩; have HQ := Lib.hid hq; clear hq)
              go_roundg (gk - 1)
              case measure => omega
              case rel =>
                obtain ⟨g, g1, g2, g3, g4⟩ := HQ.out
                exact ⟨b, b + 2 * B, g, rfl, by go_num, rfl, by omega, ST.out.1.next hB0 HB.out hbn g1 g2, g3, ST.out.2.2.trans g4⟩
            · have t : ¬ ((b : Int) ≤ (n : Int)) := by omega
              by_cases hmn : m < n
              · have t2 : (m : Int) < (n : Int) := by omega
                have SY1 := Lib.hid (SY.out a m n fi _ (S0.out.2.2.trans ST.out.2.2) ST.out.2.1 (by omega) hmn (Nat.le_refl _) (ST.out.1.mg_short HMM.out (by omega) hmn))
                go_wp2_with (go_at_call 83; refine Calls.mono SY1.out ?_; rintro e w1 ⟨rfl, hq⟩; have HQ := Lib.hid hq; clear hq)
                go_roundg (G - 1)
                case measure => have := HM.out; omega
                case rel =>
                  obtain ⟨g, g1, g2, g3, g4⟩ := HQ.out
                  obtain ⟨k1, k2⟩ := ST.out.1.end_short HMM.out (by omega) hmn g1 g2
                  exact ⟨2 * B, g, by go_num, by omega, by omega, by have := HM.out; omega, k1, k2, g3, ST.out.2.2.trans g4⟩
              · have t2 : ¬ ((m : Int) < (n : Int)) := by omega
                go_wp2
                go_roundg (G - 1)
                case measure => have := HM.out; omega
                case rel =>
                  obtain ⟨k1, k2⟩ := ST.out.1.end_single HMM.out (by omega) hmn
                  exact ⟨2 * B, fi, by go_num, by omega, by omega, by have := HM.out; omega, k1, k2, ST.out.2.1, ST.out.2.2⟩
        · have t : ¬ ((B : Int) < (n : Int)) := by omega
          have FIN : Hid (StbV lv c ix blk off n f w wr) := Lib.hid ⟨fo, SO.out.1, SO.out.2.1.whole (by omega), SO.out.2.2.1, SO.out.2.2.2⟩
          go_wp2
          go_end0
          exact ⟨rfl, FIN.out⟩
end Go.Proofs.Ytpahoenanfjhpaa
namespace Go.Proofs.Ytpahoenanfjhpaa
open Go.RowKit Srt
theorem fin_srt {β : Type} {n : Nat} (d : β → β → Int) (hp : Pre d) (rs : List β) (hn : rs.length = n) (f f' : Nat → Fin n) (hf : ∀ k (h : k < n), f k = ⟨k, h⟩) (sw : Sw 0 n f f')
    (ho : Ord (fun i j : Fin n => d (rs[i.val]'(by rw [hn]; exact i.isLt)) (rs[j.val]'(by rw [hn]; exact j.isLt))) (fun i => i.val) f' 0 n) : (toL f' n).map (fun i : Fin n => rs[i.val]'(by rw [hn]; exact i.isLt)) = srt d rs := by
  have hp' : Pre (fun i j : Fin n => d (rs[i.val]'(by rw [hn]; exact i.isLt)) (rs[j.val]'(by rw [hn]; exact j.isLt))) := ⟨fun x y => hp.anti _ _, fun x y z => hp.trans _ _ _⟩
  have hl : (toL f n).Pairwise (fun a b => a.val < b.val) := by
    rw [List.pairwise_iff_getElem]
    intro i j hi hj hij
    rw [toL_get, toL_get, hf i (by simpa [toL_len] using hi), hf j (by simpa [toL_len] using hj)]; exact hij
  have e : toL f' n = srt (fun i j : Fin n => d (rs[i.val]'(by rw [hn]; exact i.isLt)) (rs[j.val]'(by rw [hn]; exact j.isLt))) (toL f n) :=
    pairwise_unique (fun x y => Lt.asymm hp') ho.pairwise (srt_ord hp' _ hl) ((sw.perm (Nat.le_refl _)).trans (srt_perm _ _).symm)
  rw [e]
  refine (srt_map (fun i : Fin n => rs[i.val]'(by rw [hn]; exact i.isLt)) d (toL f n)).trans ?_
  congr 1
  apply List.ext_getElem
  · simp [toL_len, hn]
  intro k h1 h2
  rw [List.getElem_map, toL_get]
  simp only [hf k (by rw [← hn]; exact h2)]
set_option maxRecDepth 8000 in
theorem ins_nil (v : Value) (fv : Value) (w : World) : Calls Try.prog 82 #[v, .int .i64 (0 : Int), .int .i64 (0 : Int), fv] w fun e w' => e = .returned (.tuple #[]) ∧ w = w' := by
  go_enter Try.func82, Try.ntmps82
  go_wp2
  refine wp_loop_rounds 1 ?_
  rw [rounds_succ]
  go_wp2
  go_end0
  exact ⟨rfl, rfl⟩
set_option maxRecDepth 8000 in
theorem stable_nil (v : Value) (fv : Value) (w : World) : Calls Try.prog 62 #[v, .int .i64 (0 : Int), fv] w fun e w' => e = .returned (.tuple #[]) ∧ w = w' := by
  go_enter Try.func62, Try.ntmps62
  go_wp2
  refine wp_loop_rounds 1 ?_
  rw [rounds_succ]
  go_wp2_with (go_at_call 82; refine Calls.mono (ins_nil _ _ _) ?_; rintro e w1 ⟨rfl, rfl⟩)
  refine wp_loop_rounds 1 ?_
  rw [rounds_succ]
  go_wp2
  go_end0
  exact ⟨rfl, rfl⟩
theorem ssf_any {R : World → Prop} (a : Option Addr) (n cap : Nat) (fv : Value) (w : World) (H : Calls Try.prog 62 #[.slice a n cap, .int .i64 (n : Int), fv] w fun e w' => e = .returned (.tuple #[]) ∧ R w') :
    Calls Try.prog 43 #[.slice a n cap, fv] w fun e w' => e = .returned (.tuple #[]) ∧ R w' := by
  have HH := Lib.hid H
  clear H
  go_enter Try.func43, Try.ntmps43
  go_wp2_with (go_at_call 62; refine Calls.mono HH.out ?_; rintro e w1 ⟨rfl, hq⟩; have HQ := Lib.hid hq; clear hq)
  go_end0
  exact ⟨rfl, HQ.out⟩
theorem sort_rows (SB : Nat) (cv : Value) (cs : List Col) (gv : Value) (gr : List Int) (y w3 : World) (v1 : Value) (lvs : List Value) (rows : List (List Val)) (hown : w3.ownsRow y.heap.size 41 1 v1 lvs.length lvs) (hb : Below y.heap.size y w3) (hL : Lvs y y.heap.size lvs rows)
    (hc : ColsAt y y.heap.size cv cs) (hg : IntsAt y y.heap.size gv gr) (hs : SB < y.heap.size) (s0 : y.cell? ⟨SB, 0, none⟩ = some cv) (s4 : y.cell? ⟨SB, 4, none⟩ = some gv) (hin : InC cs.length gr) (hrl : ∀ r ∈ rows, r.length = cs.length) (h42 : rows.length ≤ 4398046511104) :
    Calls Try.prog 43 #[v1, fnC (.pointer (some ⟨SB, 0, none⟩))] w3 fun e w' => e = .returned (.tuple #[]) ∧ RowsAt w' w'.heap.size v1 (srt (fun x y => grpC cs x y gr) rows) ∧ Below y.heap.size y w' := by
  have hlen := hL.1
  have hown' : w3.ownsRow y.heap.size 41 1 v1 lvs.length (lvs.flatMap one1) := by rw [one_flat]; exact hown
  have nilc : ∀ (a : Option Addr) (c : Nat), lvs.length = 0 → Calls Try.prog 43 #[.slice a 0 c, fnC (.pointer (some ⟨SB, 0, none⟩))] w3 fun e w' => e = .returned (.tuple #[]) ∧ RowsAt w' w'.heap.size (.slice a 0 c) (srt (fun x y => grpC cs x y gr) rows) ∧ Below y.heap.size y w' := fun a c h0 => by
    have e0 : rows = [] := List.eq_nil_of_length_eq_zero (by omega)
    subst e0
    refine ssf_any (R := fun w' => RowsAt w' w'.heap.size (.slice a 0 c) (srt (fun x y => grpC cs x y gr) []) ∧ Below y.heap.size y w') a 0 c _ w3 ((stable_nil _ _ _).mono ?_)
    rintro e w' ⟨rfl, rfl⟩
    exact ⟨rfl, ⟨by simp [srt, srtR], .inl ⟨rfl, a, c, rfl⟩⟩, hb⟩
  rcases own_at (f := one1) (k := 1) (fun _ => rfl) hown' with ⟨e0, rfl⟩ | ⟨g, cap, rfl, hcap, hg0, hgl, H⟩
  · exact nilc none 0 (by rw [e0]; rfl)
  · have frz : ∀ q, w3.frozen? ⟨g, q, none⟩ = false := fun q => World.ownsRow.frozenAt hown q
    by_cases hn0 : lvs.length = 0
    · rw [hn0]; exact nilc _ cap hn0
    · have hrn : rows.length = lvs.length := hlen.symm
      have idx : ∀ i : Fin lvs.length, i.val < rows.length := fun i => by rw [hrn]; exact i.isLt
      have CO : CmpV (fun i : Fin lvs.length => lvs[i.val]'i.isLt) (fun i j => grpC cs (rows[i.val]'(idx i)) (rows[j.val]'(idx j)) gr) g w3 (.pointer (some ⟨SB, 0, none⟩)) := by
        intro W hW i j
        have BW : Below y.heap.size y W := hW.below hb (fun k hk => by rw [hk]; exact hg0)
        exact acmp_any SB cv cs gv gr _ _ _ _ W (Nat.lt_of_lt_of_le hs BW.size) ((BW.cell (p := ⟨SB, 0, none⟩) hs).trans s0) ((BW.cell (p := ⟨SB, 4, none⟩) hs).trans s4) (hc.mono BW BW.size) (ints_on hg BW BW.size) ((hL.2 i.val i.isLt (idx i)).mono BW BW.size) ((hL.2 j.val j.isLt (idx j)).mono BW BW.size) hin (hrl _ (List.getElem_mem _)) (hrl _ (List.getElem_mem _))
      have hpos : 0 < lvs.length := by omega
      obtain ⟨f, hf⟩ : ∃ f : Nat → Fin lvs.length, ∀ k (h : k < lvs.length), f k = ⟨k, h⟩ := ⟨fun k => if h : k < lvs.length then ⟨k, h⟩ else ⟨0, hpos⟩, fun k h => dif_pos h⟩
      have RM : RowV (fun i : Fin lvs.length => lvs[i.val]'i.isLt) w3 g 0 lvs.length f := by
        refine ⟨hgl, fun k hk => ?_, frz⟩
        have := H k hk 0 _ (by omega) rfl
        rw [hf k hk]; simpa using this
      have hp := grpC_pre cs gr
      have hp2 : Pre (fun i j : Fin lvs.length => grpC cs (rows[i.val]'(idx i)) (rows[j.val]'(idx j)) gr) := ⟨fun x y => hp.anti _ _, fun x y z => hp.trans _ _ _⟩
      have ST := stablev_any (n := lvs.length) (by omega) (Fin lvs.length) _ _ (fun i => i.val) hp2 (fun i => by obtain ⟨a, c, e⟩ := vals_end (hL.2 i.val i.isLt (idx i)); exact ⟨a, _, c, e⟩) g 0 cap _ f w3 w3 CO (Mv.refl _ _) RM hcap (fun k hk => by rw [hf k hk])
      refine ssf_any (R := fun w' => RowsAt w' w'.heap.size _ (srt (fun x y => grpC cs x y gr) rows) ∧ Below y.heap.size y w') _ _ _ _ w3 (ST.mono ?_)
      rintro e w' ⟨rfl, f', sw, ho, hr, hm⟩
      have BW : Below y.heap.size y w' := hm.below hb (fun k hk => by rw [hk]; exact hg0)
      refine ⟨rfl, ⟨by rw [srt_len]; omega, .inr ⟨g, 0, cap, by rw [srt_len, hrn], by rw [srt_len]; omega, hr.lt, fun j hj => ?_⟩⟩, BW⟩
      have hj' : j < lvs.length := by rw [srt_len] at hj; omega
      have FSh := fin_srt (fun x y => grpC cs x y gr) hp rows hrn f f' hf sw ho
      refine ⟨_, hr.c0 j hj', ?_⟩
      have e : (srt (fun x y => grpC cs x y gr) rows)[j]'hj = rows[(f' j).val]'(idx _) := by
        simp only [← FSh, List.getElem_map, toL_get]
      rw [e]
      exact (hL.2 (f' j).val (f' j).isLt (idx _)).mono BW BW.size
end Go.Proofs.Ytpahoenanfjhpaa
