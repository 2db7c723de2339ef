/-
  container/heap's up and down over the heads. Conditions: each theorem states its own.
-/
import Derived.Test.YtgooffpmiilicaaHpp
import Derived.Handy
import Derived.Deep.LoopGhost
set_option linter.unusedVariables false
set_option linter.unusedSimpArgs false
namespace Go.Proofs.Ytgooffpmiilicaa
open Go.RowKit Srt
/-- The order of the heads by the key's type and place. -/
def ltK (cs : List Col) (K : Nat) : Hd → Hd → Bool := ltH (recD (tyK cs K) K) Hd.hd Hd.num
theorem Lv.sw {f g : Nat → Hd} {n : Nat} (h : Lv f n) (p : Sw 0 n f g) : Lv g n := fun k hk => p.all (Q := fun x => x.lst ≠ []) (fun k _ hk => h k hk) k (Nat.zero_le _) hk
theorem ltK_swo (cs : List Col) (K : Nat) : Swo (ltK cs K) := ltH_swo (recD_pre _ _) _ _
def UpPost (w : World) (A B0 hb : Nat) (cv : Value) (cs : List Col) (K : Nat) (lv : Value) (f : Nat → Hd) (n N : Nat) (w' : World) : Prop :=
  ∃ f', Sw 0 N f f' ∧ Hp (ltK cs K) f' N ∧ HpM w' A B0 hb cv cs K lv f' n ∧ Mv (fun k => lv.ownBlock = some k) w w'
set_option maxRecDepth 8000 in
set_option maxHeartbeats 1000000 in
theorem up_any {w : World} {A B0 hb : Nat} {cv : Value} {cs : List Col} {K : Nat} {lv : Value} {f : Nat → Hd} {n : Nat} (hM : HpM w A B0 hb cv cs K lv f n) (j0 : Nat) (hj : j0 < n) (hu : HpU (ltK cs K) f n j0) (hlv : Lv f n) (hn : n ≤ 100) :
    Calls Try.prog 51 #[.iface 63 (.pointer (some ⟨hb, 0, none⟩)), .int .i64 (j0 : Int)] w fun e w' => e = .returned (.tuple #[]) ∧ UpPost w A B0 hb cv cs K lv f n n w' := by
  have HM := Lib.hid hM
  have HU := Lib.hid hu
  have HLV := Lib.hid hlv
  clear hM hu hlv
  go_enter Try.func51, Try.ntmps51
  go_wp2_with fail
  go_loopg [1] j0 (fun g st wr => ∃ f', st = .int .i64 (g : Int) ∧ g < n ∧ Sw 0 n f f' ∧ HpU (ltK cs K) f' n g ∧ HpM wr A B0 hb cv cs K lv f' n ∧ Mv (fun k => lv.ownBlock = some k) w wr)
  case atStart => exact ⟨f, rfl, hj, .refl f, HU.out, HM.out, Mv.refl _ _⟩
  case round =>
    obtain ⟨f', rfl, hg, hsw, hu, hM, hv⟩ := hrel
    by_cases h0 : gk = 0
    · subst h0
      have PP : Hid (UpPost w A B0 hb cv cs K lv f n n wr) := Lib.hid ⟨f', hsw, hu.top, hM, hv⟩
      clear hsw hu hM hv
      go_wp2_with fail
      go_end0
      exact ⟨rfl, PP.out⟩
    · obtain ⟨i, hi⟩ : ∃ i, (gk - 1) / 2 = i := ⟨_, rfl⟩
      have t1 : ((gk : Int) - 1).tdiv 2 = (i : Int) := by rw [Int.tdiv_eq_ediv_of_nonneg (by omega)]; omega
      have t2 : ((i : Int) = (gk : Int)) = False := by simp; omega
      have t3 : (gk : Int) ≤ 100 := by omega
      have t4 : (1 : Int) ≤ (gk : Int) := by omega
      have hin : i < n := by omega
      have nik : i ≠ gk := by omega
      obtain ⟨b, hb'⟩ : ∃ b, ltK cs K (f' gk) (f' i) = b := ⟨_, rfl⟩
      have LS := Lib.hid (less_any hM gk i hg hin (HLV.out.sw hsw gk hg) (HLV.out.sw hsw i hin))
      unfold ltK at hb'
      rw [hb'] at LS
      cases b with
      | false =>
        have PP : Hid (∀ x : Ext wr, UpPost w A B0 hb cv cs K lv f n n x.it) := Lib.hid (fun x => ⟨f', hsw, hu.stop (by rw [hi]; exact hb'), hM.on x.below, hv.on x.below⟩)
        clear hsw hu hM hv hb' hi
        go_wp2_with (go_at_call 93; refine Calls.mono LS.out ?_; rintro e w1 ⟨rfl, hb1⟩; obtain ⟨x1, rfl⟩ := Ext.of hb1)
        go_end0
        exact ⟨rfl, PP.out x1⟩
      | true =>
        have SW := Lib.hid (fun x : Ext wr => swap_any (hM.on x.below) i gk hin hg)
        have PP : Hid (∀ (x : Ext wr) (w3 : World), SwPost x.it A B0 hb cv cs K lv (swp f' i gk) n (.returned (.tuple #[])) w3 → ∃ f', Sw 0 n f f' ∧ HpU (ltK cs K) f' n i ∧ HpM w3 A B0 hb cv cs K lv f' n ∧ Mv (fun k => lv.ownBlock = some k) w w3) :=
          Lib.hid (fun x w3 h => ⟨_, hsw.trans (Sw.one f' (by omega) hin (by omega) hg), hu.step (ltK_swo cs K) (by omega) hg hi hb', h.2.1, (hv.on x.below).trans h.2.2⟩)
        have HI := Lib.hid (And.intro hi h0)
        clear hsw hu hM hv hb' hi
        go_wp2_with (first | (go_at_call 93; refine Calls.mono LS.out ?_; rintro e w1 ⟨rfl, hb1⟩; obtain ⟨x1, rfl⟩ := Ext.of hb1) | (go_at_call 96; refine Calls.mono (SW.out x1) ?_; rintro e w3 ⟨rfl, hq⟩; have QQ := Lib.hid (PP.out x1 w3 ⟨rfl, hq⟩); clear hq))
        go_roundg i
        case measure => have := HI.out; omega
        case rel => obtain ⟨f2, a1, a2, a3, a4⟩ := QQ.out; exact ⟨f2, rfl, hin, a1, a2, a3, a4⟩
set_option maxRecDepth 8000 in
set_option maxHeartbeats 4000000 in
theorem down_any {w : World} {A B0 hb : Nat} {cv : Value} {cs : List Col} {K : Nat} {lv : Value} {f : Nat → Hd} {n : Nat} (hM : HpM w A B0 hb cv cs K lv f n) (N : Nat) (hN : N ≤ n) (hu : HpD (ltK cs K) f N 0) (hlv : Lv f N) (hn : n ≤ 100) :
    Calls Try.prog 52 #[.iface 63 (.pointer (some ⟨hb, 0, none⟩)), .int .i64 0, .int .i64 (N : Int)] w fun e w' => (∃ b : Bool, e = .returned (.bool b)) ∧ UpPost w A B0 hb cv cs K lv f n N w' := by
  have HM := Lib.hid hM
  have HU := Lib.hid hu
  have HLV := Lib.hid hlv
  clear hM hu hlv
  go_enter Try.func52, Try.ntmps52
  go_upto_region 2 with fail
  go_loopg [7] N (fun g st wr => ∃ (i : Nat) (f' : Nat → Hd), i + g = N ∧ st = .int .i64 (i : Int) ∧ Sw 0 N f f' ∧ HpD (ltK cs K) f' N i ∧ HpM wr A B0 hb cv cs K lv f' n ∧ Mv (fun k => lv.ownBlock = some k) w wr)
  case atStart => exact ⟨0, f, by omega, rfl, .refl f, HU.out, HM.out, Mv.refl _ _⟩
  case round =>
    obtain ⟨i, f', hg, rfl, hsw, hu, hM, hv⟩ := hrel
    have HG := Lib.hid hg
    have i100 : i ≤ 100 := by omega
    clear hg
    by_cases h1 : N ≤ 2 * i + 1
    · have PP : Hid (UpPost w A B0 hb cv cs K lv f n N wr) := Lib.hid ⟨f', hsw, hu.leaf h1, hM, hv⟩
      have t1 : (N : Int) ≤ 2 * (i : Int) + 1 := by omega
      have t2 : (i : Int) ≤ 100 := by omega
      have t3 : (0 : Int) ≤ (i : Int) := by omega
      clear hsw hu hM hv h1
      go_wp2_with fail
      refine bodyPost_ret (v := .bool (decide ((i : Int) > 0))) ?_ rfl ⟨⟨_, rfl⟩, PP.out⟩
      simp (maxDischargeDepth := 9) [results, Try.results52, go_sem, *]
    · have hi1 : 2 * i + 1 < N := by omega
      have hin : i < N := by omega
      have hinn : i < n := by omega
      have h1n : 2 * i + 1 < n := by omega
      obtain ⟨J1, hJ1⟩ : ∃ J : Nat, J = 2 * i + 1 := ⟨_, rfl⟩
      have t1 : 2 * (i : Int) + 1 = (J1 : Int) := by omega
      have t2 : ((J1 : Int) ≥ (N : Int)) = False := by simp; omega
      have t2' : ((N : Int) ≤ (J1 : Int)) = False := by simp; omega
      have t2n : (N ≤ J1) = False := by simp; omega
      have t3 : ((J1 : Int) < 0) = False := by simp
      have t4 : (i : Int) ≤ 100 := by omega
      have t5 : (0 : Int) ≤ (i : Int) := by omega
      have t6 : (J1 : Int) ≤ 201 := by omega
      have t7 : (0 : Int) ≤ (J1 : Int) := by omega
      by_cases h2 : 2 * i + 2 < N
      · have t8 : ((J1 + 1 : Nat) : Int) < (N : Int) := by omega
        have h2n : 2 * i + 2 < n := by omega
        have t9 : (J1 : Int) + 1 < (N : Int) := by omega
        have t9n : J1 + 1 < N := by omega
        obtain ⟨b2, hb2⟩ : ∃ b, ltK cs K (f' (2 * i + 2)) (f' (2 * i + 1)) = b := ⟨_, rfl⟩
        have L2 := Lib.hid (less_any hM (2 * i + 2) (2 * i + 1) h2n h1n (HLV.out.sw hsw _ (by omega)) (HLV.out.sw hsw _ (by omega)))
        have e2 := hb2
        unfold ltK at e2
        rw [e2] at L2
        have e3 : ((2 * i + 2 : Nat) : Int) = (J1 : Int) + 1 := by omega
        have e4 : ((2 * i + 1 : Nat) : Int) = (J1 : Int) := by omega
        rw [e3, e4] at L2
        clear e2 e3 e4
        cases b2 with
        | false =>
          have C := Chi.left (ltK_swo cs K) h2 hb2
          have eJ : ((2 * i + 1 : Nat) : Int) = (J1 : Int) := by omega
          have hjn : 2 * i + 1 < n := by omega
          have hjN : 2 * i + 1 < N := by omega
          obtain ⟨b3, hb3⟩ : ∃ b, ltK cs K (f' (2 * i + 1)) (f' i) = b := ⟨_, rfl⟩
          have L3 := Lib.hid (fun x : Ext wr => less_any (hM.on x.below) (2 * i + 1) i hjn hinn (HLV.out.sw hsw _ hjN) (HLV.out.sw hsw _ hin))
          have e3 := hb3
          unfold ltK at e3
          rw [e3] at L3
          rw [eJ] at L3
          clear e3
          cases b3 with
          | false =>
            have PP : Hid (∀ x : Ext wr, UpPost w A B0 hb cv cs K lv f n N x.it) := Lib.hid (fun x => ⟨f', hsw, hu.stop (ltK_swo cs K) C hb3, hM.on x.below, hv.on x.below⟩)
            clear hsw hu hM hv hb3 C hb2 h1 h2 eJ hJ1
            go_upto_region 8 with (go_at_call 93; refine Calls.mono L2.out ?_; rintro e w1 ⟨rfl, hb1⟩; obtain ⟨x1, rfl⟩ := Ext.of hb1)
            go_wp2_with (go_at_call 93; refine Calls.mono (L3.out x1) ?_; rintro e w2 ⟨rfl, hb1⟩; obtain ⟨x2, rfl⟩ := Ext.of hb1)
            refine bodyPost_ret (v := .bool (decide ((i : Int) > 0))) ?_ rfl ⟨⟨_, rfl⟩, PP.out (⟨x2.it, Below.on x1.below x2⟩ : Ext wr)⟩
            simp (maxDischargeDepth := 9) [results, Try.results52, go_sem, *]
          | true =>
            have SW := Lib.hid (fun x : Ext wr => swap_any (hM.on x.below) i (2 * i + 1) hinn hjn)
            rw [eJ] at SW
            have PP : Hid (∀ (x : Ext wr) (w3 : World), SwPost x.it A B0 hb cv cs K lv (swp f' i (2 * i + 1)) n (.returned (.tuple #[])) w3 → ∃ f', Sw 0 N f f' ∧ HpD (ltK cs K) f' N (2 * i + 1) ∧ HpM w3 A B0 hb cv cs K lv f' n ∧ Mv (fun k => lv.ownBlock = some k) w w3) :=
              Lib.hid (fun x w3 h => ⟨_, hsw.trans (Sw.one f' (by omega) hin (by omega) hjN), hu.step (ltK_swo cs K) C hb3, h.2.1, (hv.on x.below).trans h.2.2⟩)
            have EJ := Lib.hid (And.intro eJ hjN)
            clear hsw hu hM hv hb3 C hb2 h1 h2 eJ hJ1
            go_upto_region 8 with (go_at_call 93; refine Calls.mono L2.out ?_; rintro e w1 ⟨rfl, hb1⟩; obtain ⟨x1, rfl⟩ := Ext.of hb1)
            go_wp2_with (first | (go_at_call 93; refine Calls.mono (L3.out x1) ?_; rintro e w2 ⟨rfl, hb1⟩; obtain ⟨x2, rfl⟩ := Ext.of hb1) | (go_at_call 96; refine Calls.mono (SW.out (⟨x2.it, Below.on x1.below x2⟩ : Ext wr)) ?_; rintro e w3 ⟨rfl, hq⟩; have QQ := Lib.hid (PP.out (⟨x2.it, Below.on x1.below x2⟩ : Ext wr) w3 ⟨rfl, hq⟩); clear hq))
            go_roundg (N - (2 * i + 1))
            case measure => have := HG.out; have := EJ.out; omega
            case rel => obtain ⟨f2, a1, a2, a3, a4⟩ := QQ.out; exact ⟨2 * i + 1, f2, by have := EJ.out; omega, by rw [EJ.out.1], a1, a2, a3, a4⟩
        | true =>
          have C := Chi.right (ltK_swo cs K) h2 hb2
          obtain ⟨J2, hJ2⟩ : ∃ J : Nat, J = 2 * i + 2 := ⟨_, rfl⟩
          have tj : (J1 : Int) + 1 = (J2 : Int) := by omega
          have eJ : ((2 * i + 2 : Nat) : Int) = (J2 : Int) := by omega
          rw [tj] at L2
          have t9b : (J2 : Int) < (N : Int) := by omega
          have t9c : J2 < N := by omega
          have hjn : 2 * i + 2 < n := by omega
          have hjN : 2 * i + 2 < N := by omega
          obtain ⟨b3, hb3⟩ : ∃ b, ltK cs K (f' (2 * i + 2)) (f' i) = b := ⟨_, rfl⟩
          have L3 := Lib.hid (fun x : Ext wr => less_any (hM.on x.below) (2 * i + 2) i hjn hinn (HLV.out.sw hsw _ hjN) (HLV.out.sw hsw _ hin))
          have e3 := hb3
          unfold ltK at e3
          rw [e3] at L3
          rw [eJ] at L3
          clear e3
          cases b3 with
          | false =>
            have PP : Hid (∀ x : Ext wr, UpPost w A B0 hb cv cs K lv f n N x.it) := Lib.hid (fun x => ⟨f', hsw, hu.stop (ltK_swo cs K) C hb3, hM.on x.below, hv.on x.below⟩)
            clear hsw hu hM hv hb3 C hb2 h1 h2 eJ hJ1 hJ2
            go_upto_region 8 with (go_at_call 93; refine Calls.mono L2.out ?_; rintro e w1 ⟨rfl, hb1⟩; obtain ⟨x1, rfl⟩ := Ext.of hb1)
            go_wp2_with (go_at_call 93; refine Calls.mono (L3.out x1) ?_; rintro e w2 ⟨rfl, hb1⟩; obtain ⟨x2, rfl⟩ := Ext.of hb1)
            refine bodyPost_ret (v := .bool (decide ((i : Int) > 0))) ?_ rfl ⟨⟨_, rfl⟩, PP.out (⟨x2.it, Below.on x1.below x2⟩ : Ext wr)⟩
            simp (maxDischargeDepth := 9) [results, Try.results52, go_sem, *]
          | true =>
            have SW := Lib.hid (fun x : Ext wr => swap_any (hM.on x.below) i (2 * i + 2) hinn hjn)
            rw [eJ] at SW
            have PP : Hid (∀ (x : Ext wr) (w3 : World), SwPost x.it A B0 hb cv cs K lv (swp f' i (2 * i + 2)) n (.returned (.tuple #[])) w3 → ∃ f', Sw 0 N f f' ∧ HpD (ltK cs K) f' N (2 * i + 2) ∧ HpM w3 A B0 hb cv cs K lv f' n ∧ Mv (fun k => lv.ownBlock = some k) w w3) :=
              Lib.hid (fun x w3 h => ⟨_, hsw.trans (Sw.one f' (by omega) hin (by omega) hjN), hu.step (ltK_swo cs K) C hb3, h.2.1, (hv.on x.below).trans h.2.2⟩)
            have EJ := Lib.hid (And.intro eJ hjN)
            clear hsw hu hM hv hb3 C hb2 h1 h2 eJ hJ1 hJ2
            go_upto_region 8 with (go_at_call 93; refine Calls.mono L2.out ?_; rintro e w1 ⟨rfl, hb1⟩; obtain ⟨x1, rfl⟩ := Ext.of hb1)
            go_wp2_with (first | (go_at_call 93; refine Calls.mono (L3.out x1) ?_; rintro e w2 ⟨rfl, hb1⟩; obtain ⟨x2, rfl⟩ := Ext.of hb1) | (go_at_call 96; refine Calls.mono (SW.out (⟨x2.it, Below.on x1.below x2⟩ : Ext wr)) ?_; rintro e w3 ⟨rfl, hq⟩; have QQ := Lib.hid (PP.out (⟨x2.it, Below.on x1.below x2⟩ : Ext wr) w3 ⟨rfl, hq⟩); clear hq))
            go_roundg (N - (2 * i + 2))
            case measure => have := HG.out; have := EJ.out; omega
            case rel => obtain ⟨f2, a1, a2, a3, a4⟩ := QQ.out; exact ⟨2 * i + 2, f2, by have := EJ.out; omega, by rw [EJ.out.1], a1, a2, a3, a4⟩
      · have t8 : ((J1 : Int) + 1 < (N : Int)) = False := by simp; omega
        have t8n : (J1 + 1 < N) = False := by simp; omega
        have t8m : (N : Int) ≤ (J1 : Int) + 1 := by omega
        have C := Chi.one (ltK_swo cs K) (f := f') hi1 h2
        have eJ : ((2 * i + 1 : Nat) : Int) = (J1 : Int) := by omega
        have hjn : 2 * i + 1 < n := by omega
        have hjN : 2 * i + 1 < N := by omega
        obtain ⟨b3, hb3⟩ : ∃ b, ltK cs K (f' (2 * i + 1)) (f' i) = b := ⟨_, rfl⟩
        have L3 := Lib.hid (fun x : Ext wr => less_any (hM.on x.below) (2 * i + 1) i hjn hinn (HLV.out.sw hsw _ hjN) (HLV.out.sw hsw _ hin))
        have e3 := hb3
        unfold ltK at e3
        rw [e3] at L3
        rw [eJ] at L3
        clear e3
        cases b3 with
        | false =>
          have PP : Hid (∀ x : Ext wr, UpPost w A B0 hb cv cs K lv f n N x.it) := Lib.hid (fun x => ⟨f', hsw, hu.stop (ltK_swo cs K) C hb3, hM.on x.below, hv.on x.below⟩)
          clear hsw hu hM hv hb3 C h1 h2 eJ hJ1
          go_upto_region 8 with fail
          go_wp2_with (go_at_call 93; refine Calls.mono (L3.out (⟨wr, Below.refl _ _⟩ : Ext wr)) ?_; rintro e w2 ⟨rfl, hb1⟩; obtain ⟨x2, rfl⟩ := Ext.of hb1)
          refine bodyPost_ret (v := .bool (decide ((i : Int) > 0))) ?_ rfl ⟨⟨_, rfl⟩, PP.out x2⟩
          simp (maxDischargeDepth := 9) [results, Try.results52, go_sem, *]
        | true =>
          have SW := Lib.hid (fun x : Ext wr => swap_any (hM.on x.below) i (2 * i + 1) hinn hjn)
          rw [eJ] at SW
          have PP : Hid (∀ (x : Ext wr) (w3 : World), SwPost x.it A B0 hb cv cs K lv (swp f' i (2 * i + 1)) n (.returned (.tuple #[])) w3 → ∃ f', Sw 0 N f f' ∧ HpD (ltK cs K) f' N (2 * i + 1) ∧ HpM w3 A B0 hb cv cs K lv f' n ∧ Mv (fun k => lv.ownBlock = some k) w w3) :=
            Lib.hid (fun x w3 h => ⟨_, hsw.trans (Sw.one f' (by omega) hin (by omega) hjN), hu.step (ltK_swo cs K) C hb3, h.2.1, (hv.on x.below).trans h.2.2⟩)
          have EJ := Lib.hid (And.intro eJ hjN)
          clear hsw hu hM hv hb3 C h1 h2 eJ hJ1
          go_upto_region 8 with fail
          go_wp2_with (first | (go_at_call 93; refine Calls.mono (L3.out (⟨wr, Below.refl _ _⟩ : Ext wr)) ?_; rintro e w2 ⟨rfl, hb1⟩; obtain ⟨x2, rfl⟩ := Ext.of hb1) | (go_at_call 96; refine Calls.mono (SW.out x2) ?_; rintro e w3 ⟨rfl, hq⟩; have QQ := Lib.hid (PP.out x2 w3 ⟨rfl, hq⟩); clear hq))
          go_roundg (N - (2 * i + 1))
          case measure => have := HG.out; have := EJ.out; omega
          case rel => obtain ⟨f2, a1, a2, a3, a4⟩ := QQ.out; exact ⟨2 * i + 1, f2, by have := EJ.out; omega, by rw [EJ.out.1], a1, a2, a3, a4⟩
end Go.Proofs.Ytgooffpmiilicaa
