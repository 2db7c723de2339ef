/-
  container/heap's Push, Fix and Pop over the heads. Conditions: each theorem states its own.
-/
import Derived.Test.YtgooffpmiilicaaHud
import Derived.Handy
set_option linter.unusedVariables false
set_option linter.unusedSimpArgs false
namespace Go.Proofs.Ytgooffpmiilicaa
open Go.RowKit Srt
theorem hp_up0 {f : Nat → Hd} {n : Nat} {lt : Hd → Hd → Bool} (h : Hp lt f n) : HpU lt f n 0 := ⟨fun k h0 hk _ => h k h0 hk, fun k h0 => absurd h0 (by omega)⟩
def HPuPost (w : World) (A B0 hb : Nat) (cv : Value) (cs : List Col) (K : Nat) (f : Nat → Hd) (n : Nat) (w' : World) : Prop :=
  ∃ lv f', Sw 0 n f f' ∧ Hp (ltK cs K) f' n ∧ HpM w' A B0 hb cv cs K lv f' n ∧ Mv (fun k => B0 ≤ k) w w'
set_option maxRecDepth 8000 in
set_option maxHeartbeats 1000000 in
theorem heapPush_any {w : World} {A B0 hb : Nat} {cv : Value} {cs : List Col} {K : Nat} {lv : Value} {f : Nat → Hd} {n : Nat} (hM : HpM w A B0 hb cv cs K lv f n) (hh : Hp (ltK cs K) f n) (hlv : Lv f n) (x : Hd) (hx : RecsAt w A x.v x.lst) (hx0 : x.lst ≠ []) (hn : n < 100) :
    Calls Try.prog 31 #[.iface 63 (.pointer (some ⟨hb, 0, none⟩)), .iface 69 (.agg #[x.v, .int .i64 (x.num : Int)])] w fun e w' => e = .returned (.tuple #[]) ∧ HPuPost w A B0 hb cv cs K (upd f n x) (n + 1) w' := by
  have PU := Lib.hid (push_any hM x hx (by omega))
  have OW := Lib.hid (fun k (hk : lv.ownBlock = some k) => (hM.own.lt k hk).1)
  have LO := Lib.hid hM.lo
  have HU := Lib.hid (hh.push x)
  have NN := Lib.hid hn
  have HL := Lib.hid (show Lv (upd f n x) (n + 1) from fun k hk => by by_cases e : k = n; (rw [e, upd_s]; exact hx0); (rw [upd_o f x e]; exact hlv k (by omega)))
  have LN := Lib.hid (fun (w1 : World) (gb cap : Nat) (h : HpM w1 A B0 hb cv cs K (.slice (some ⟨gb, 0, none⟩) (n + 1) cap) (upd f n x) (n + 1)) => hlen_any h)
  have UA := Lib.hid (fun (w1 : World) (gb cap : Nat) (h : HpM w1 A B0 hb cv cs K (.slice (some ⟨gb, 0, none⟩) (n + 1) cap) (upd f n x) (n + 1)) => up_any h n (by omega) HU.out HL.out (by omega))
  have n100 : (n : Int) ≤ 100 := by omega
  clear hM hh hx hx0 hlv
  generalize x.v = xv at *
  generalize (x.num : Int) = xn at *
  generalize upd f n x = F at *
  go_enter Try.func31, Try.ntmps31
  go_upto_region 1 with (go_at_call 95; refine Calls.mono PU.out ?_; rintro e w1 ⟨rfl, gb, cap, hm1, hv1⟩; have M1 := Lib.hid hm1; have V1 := Lib.hid hv1; clear hm1 hv1)
  go_wp2_with (first | (go_at_call 32; refine Calls.mono (LN.out w1 gb cap M1.out) ?_; rintro e w2 ⟨rfl, hb2⟩; have M2 := Lib.hid (M1.out.on hb2); have V2 := Lib.hid (V1.out.on hb2); clear hb2) | (go_at_call 51; refine Calls.mono (UA.out w2 gb cap M2.out) ?_; rintro e w3 ⟨rfl, hq⟩; have QQ := Lib.hid hq; clear hq))
  go_end0
  obtain ⟨f2, a1, a2, a3, a4⟩ := QQ.out
  refine ⟨rfl, _, f2, a1, a2, a3, (V2.out.mono (fun k _ h => ?_)).trans (a4.mono (fun k _ h => (M2.out.own.lt k h).1))⟩
  rcases h with rfl | h
  · exact LO.out
  · exact OW.out k h
set_option maxRecDepth 8000 in
set_option maxHeartbeats 1000000 in
theorem heapFix_any {w : World} {A B0 hb : Nat} {cv : Value} {cs : List Col} {K : Nat} {lv : Value} {f : Nat → Hd} {n : Nat} (hM : HpM w A B0 hb cv cs K lv f n) (hh : HpD (ltK cs K) f n 0) (hlv : Lv f n) (h0 : 0 < n) (hn : n ≤ 100) :
    Calls Try.prog 34 #[.iface 63 (.pointer (some ⟨hb, 0, none⟩)), .int .i64 0] w fun e w' => e = .returned (.tuple #[]) ∧ UpPost w A B0 hb cv cs K lv f n n w' := by
  have LN := Lib.hid (hlen_any hM)
  have DN := Lib.hid (fun x : Ext w => down_any (hM.on x.below) n (Nat.le_refl _) hh hlv hn)
  have UA := Lib.hid (fun (w1 : World) (f1 : Nat → Hd) (h : HpM w1 A B0 hb cv cs K lv f1 n) (h1 : Hp (ltK cs K) f1 n) (h2 : Lv f1 n) => up_any h 0 h0 (hp_up0 h1) h2 hn)
  have n100 : (n : Int) ≤ 100 := by omega
  have HL := Lib.hid hlv
  clear hM hh h0 hlv
  go_enter Try.func34, Try.ntmps34
  go_upto_if 9 with (first | (go_at_call 32; refine Calls.mono LN.out ?_; rintro e w1 ⟨rfl, hb1⟩; obtain ⟨x1, rfl⟩ := Ext.of hb1) | (go_at_call 52; refine Calls.mono (DN.out x1) ?_; rintro e w2 ⟨⟨b, rfl⟩, f2, a1, a2, a3, a4⟩; have M2 := Lib.hid a3; have Q2 := Lib.hid (And.intro a1 a2); have V2 := Lib.hid ((Mv.of_below x1.below).trans a4); clear a1 a2 a3 a4))
  cases b with
  | true =>
    go_wp2_with fail
    go_end0
    exact ⟨rfl, f2, Q2.out.1, Q2.out.2, M2.out, V2.out⟩
  | false =>
    go_wp2_with (go_at_call 51; refine Calls.mono (UA.out w2 f2 M2.out Q2.out.2 (HL.out.sw Q2.out.1)) ?_; rintro e w3 ⟨rfl, f3, a1, a2, a3, a4⟩; have M3 := Lib.hid a3; have Q3 := Lib.hid (And.intro a1 a2); have V3 := Lib.hid (V2.out.trans a4); clear a1 a2 a3 a4)
    go_end0
    exact ⟨rfl, f3, Q2.out.1.trans Q3.out.1, Q3.out.2, M3.out, V3.out⟩
set_option maxRecDepth 8000 in
set_option maxHeartbeats 1000000 in
theorem heapPop_any {w : World} {A B0 hb : Nat} {cv : Value} {cs : List Col} {K : Nat} {f : Nat → Hd} {m g cap : Nat} (hM : HpM w A B0 hb cv cs K (.slice (some ⟨g, 0, none⟩) (m + 1) cap) f (m + 1)) (hh : HpD (ltK cs K) (swp f 0 m) m 0) (hlv : Lv (swp f 0 m) m) (hn : m < 100) :
    Calls Try.prog 33 #[.iface 63 (.pointer (some ⟨hb, 0, none⟩))] w fun e w' => (∃ v, e = .returned v) ∧ ∃ f', Sw 0 m (swp f 0 m) f' ∧ Hp (ltK cs K) f' m ∧ HpM w' A B0 hb cv cs K (.slice (some ⟨g, 0, none⟩) m cap) f' m ∧ Mv (fun k => k = hb ∨ k = g) w w' := by
  have LN := Lib.hid (hlen_any hM)
  have SW := Lib.hid (fun x : Ext w => swap_any (hM.on x.below) 0 m (by omega) (by omega))
  have HU := Lib.hid hh
  have HL := Lib.hid hlv
  have DN := Lib.hid (fun (w1 : World) (h : HpM w1 A B0 hb cv cs K (.slice (some ⟨g, 0, none⟩) (m + 1) cap) (swp f 0 m) (m + 1)) => down_any h m (by omega) HU.out HL.out (by omega))
  have PO := Lib.hid (fun (w1 : World) (f1 : Nat → Hd) (h : HpM w1 A B0 hb cv cs K (.slice (some ⟨g, 0, none⟩) (m + 1) cap) f1 (m + 1)) => hpop_any h (by omega))
  have n100 : (m : Int) ≤ 100 := by omega
  have t1 : (((m + 1 : Nat) : Int)) - 1 = (m : Int) := by omega
  have t2 : ((m : Int) + 1) - 1 = (m : Int) := by omega
  clear hM hh hlv
  generalize swp f 0 m = F at *
  go_enter Try.func33, Try.ntmps33
  go_upto_region 1 with fail
  go_upto_region 2 with (go_at_call 32; refine Calls.mono LN.out ?_; rintro e w1 ⟨rfl, hb1⟩; obtain ⟨x1, rfl⟩ := Ext.of hb1)
  go_upto_region 3 with (go_at_call 96; refine Calls.mono (SW.out x1) ?_; rintro e w2 ⟨rfl, hm2, hv2⟩; have M2 := Lib.hid hm2; have V2 := Lib.hid ((Mv.of_below x1.below).trans hv2); clear hm2 hv2)
  go_upto_region 4 with (go_at_call 52; refine Calls.mono (DN.out w2 M2.out) ?_; rintro e w3 ⟨⟨b, rfl⟩, f3, a1, a2, a3, a4⟩; have M3 := Lib.hid a3; have Q3 := Lib.hid (And.intro a1 a2); have V3 := Lib.hid (V2.out.trans a4); clear a1 a2 a3 a4)
  go_wp2_with (go_at_call 94; refine Calls.mono (PO.out w3 f3 M3.out) ?_; rintro e w4 ⟨v4, rfl, hm4, hv4⟩; have M4 := Lib.hid hm4; have V4 := Lib.hid hv4; clear hm4 hv4)
  refine bodyPost_ret (v := v4) ?_ rfl ⟨⟨_, rfl⟩, f3, Q3.out.1, Q3.out.2, M4.out, (V3.out.mono (fun k _ h => .inr (by injection h with h; exact h.symm))).trans (V4.out.mono (fun k _ h => .inl h))⟩
  simp (maxDischargeDepth := 9) [results, Try.results33, go_sem, *]
end Go.Proofs.Ytgooffpmiilicaa
