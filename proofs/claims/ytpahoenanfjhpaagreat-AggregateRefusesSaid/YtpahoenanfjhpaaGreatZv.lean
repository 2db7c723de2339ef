/-
  CHAPTER 26: Sme, Mgs, Two, Asl (several texts in one). Conditions: each theorem states its own.
-/
import Derived.Test.YtpahoenanfjhpaaGreatSamz
import Derived.Test.YtpahoenanfjhpaaGreatNw2z
import Derived.Test.YtpahoenanfjhpaaGreatCnrz
import Derived.Test.YtpahoenanfjhpaaGreatAd2z
import Derived.Test.YtpahoenanfjhpaaGreatRanz
import Derived.Test.YtpahoenanfjhpaaGreatZd
set_option linter.unusedVariables false
set_option linter.unusedSimpArgs false
namespace Go.Proofs.YtpahoenanfjhpaaGreat
open Go.RowKit
set_option maxRecDepth 8000 in
set_option maxHeartbeats 1000000 in
theorem same_eq (SA LA0 SB LB0 : Nat) (cs : List Col) (key : Int) (ns : List Nod) (pr gr prB grB : List Int) (ag agB : List Ag) (rvA rvB : Value) (lvA lvB : List Value) (rA rB : List (List Val)) (w : World) (hA : StAt w SA LA0 cs key ns pr gr ag rvA lvA rA) (hB : StAt w SB LB0 cs key ns pr gr ag rvB lvB rB) :
    Calls Tryz.prog 47 #[.pointer (some ⟨SA, 0, none⟩), .pointer (some ⟨SB, 0, none⟩)] w fun e w' => e = .returned (.bool true) ∧ Below w.heap.size w w' := by
  have uA := Nat.lt_of_lt_of_le hA.lt hA.up
  have uB := Nat.lt_of_lt_of_le hB.lt hB.up
  obtain ⟨cvA, nvA, pvA, gvA, avA, a0, a1, a2, a3, a4, a5, cA, nA, pA, gA, aA⟩ := hA.st
  obtain ⟨cvB, nvB, pvB, gvB, avB, b0, b1, b2, b3, b4, b5, cB, nB, pB, gB, aB⟩ := hB.st
  have LA := Nat.le_of_lt uA
  have LB := Nat.le_of_lt uB
  have E1 := Lib.hid (fun (W : World) (hb : Below w.heap.size w W) => eqv_cols cvA cvB cs W ((cA.mono (Below.refl _ _) LA).mono hb hb.size) ((cB.mono (Below.refl _ _) LB).mono hb hb.size))
  have E2 := Lib.hid (fun (W : World) (hb : Below w.heap.size w W) => eqv_nods nvA nvB ns W ((nA.mono (Below.refl _ _) LA).mono hb hb.size) ((nB.mono (Below.refl _ _) LB).mono hb hb.size))
  have E3 := Lib.hid (fun (W : World) (hb : Below w.heap.size w W) => eqv_ints pvA pvB pr W (ints_on (ints_on pA (Below.refl _ _) LA) hb hb.size) (ints_on (ints_on pB (Below.refl _ _) LB) hb hb.size))
  have E4 := Lib.hid (fun (W : World) (hb : Below w.heap.size w W) => eqv_ints gvA gvB gr W (ints_on (ints_on gA (Below.refl _ _) LA) hb hb.size) (ints_on (ints_on gB (Below.refl _ _) LB) hb hb.size))
  have E5 := Lib.hid (fun (W : World) (hb : Below w.heap.size w W) => eqv_ags avA avB ag W ((aA.mono (Below.refl _ _) LA).mono hb hb.size) ((aB.mono (Below.refl _ _) LB).mono hb hb.size))
  clear hA hB cA cB nA nB pA pB gA gB aA aB LA LB
  have tk : (key == key) = true := by simp
  go_enter Tryz.func47, Tryz.ntmps47
  go_upto_region 2 with fail
  refine wp_region_ext (by kernel_rfl) (by kernel_rfl) ?_
  dsimp only [List.append]
  repeat (go_big_quiet_step ((first | (go_at_call 72; with_reducible exact Calls.ext (E1.out _ (Ext.below _))) | (go_at_call 73; with_reducible exact Calls.ext (E2.out _ (Ext.below _))) | (go_at_call 74; with_reducible exact Calls.ext (E3.out _ (Ext.below _))) | (go_at_call 74; with_reducible exact Calls.ext (E4.out _ (Ext.below _))) | (go_at_call 75; with_reducible exact Calls.ext (E5.out _ (Ext.below _))))))
  refine wpQuiet_nil ?_
  rintro _ ⟨x9, rfl⟩
  go_wp2
  exact bodyPost_ret (v := .bool true) (by simp [results, Tryz.results47, go_sem, *]) rfl (⟨rfl, by with_reducible repeat (first | exact Below.refl _ _ | assumption | refine Below.al ?_ _ | refine Below.on ?_ _ | refine Below.st ?_ (by first | assumption | (simp; done) | (simp; omega)) _ | refine Below.drew ?_)⟩)
set_option maxRecDepth 8000 in
set_option maxHeartbeats 1000000 in
theorem same_cols (SA LA0 SB LB0 : Nat) (cs cs2 : List Col) (key : Int) (ns : List Nod) (pr gr prB grB : List Int) (ag agB : List Ag) (rvA rvB : Value) (lvA lvB : List Value) (rA rB : List (List Val)) (w : World) (hA : StAt w SA LA0 cs key ns pr gr ag rvA lvA rA) (hB : StAt w SB LB0 cs2 key ns prB grB agB rvB lvB rB) (j : Nat) (hl : cs2.length = cs.length) (hj : j < cs.length) (he : ∀ i (h : i < cs.length) (h' : i < cs2.length), i < j → cs2[i]'(h') = cs[i]'h) (hne : ¬ (cs[j]'hj).nm.toList = (cs2[j]'(by omega)).nm.toList) :
    Calls Tryz.prog 47 #[.pointer (some ⟨SA, 0, none⟩), .pointer (some ⟨SB, 0, none⟩)] w fun e w' => e = .returned (.bool false) ∧ Below w.heap.size w w' := by
  have uA := Nat.lt_of_lt_of_le hA.lt hA.up
  have uB := Nat.lt_of_lt_of_le hB.lt hB.up
  obtain ⟨cvA, nvA, pvA, gvA, avA, a0, a1, a2, a3, a4, a5, cA, nA, pA, gA, aA⟩ := hA.st
  obtain ⟨cvB, nvB, pvB, gvB, avB, b0, b1, b2, b3, b4, b5, cB, nB, pB, gB, aB⟩ := hB.st
  have LA := Nat.le_of_lt uA
  have LB := Nat.le_of_lt uB
  have E1 := Lib.hid (fun (W : World) (hb : Below w.heap.size w W) => nev_cols cvA cvB cs cs2 j W ((cA.mono (Below.refl _ _) LA).mono hb hb.size) ((cB.mono (Below.refl _ _) LB).mono hb hb.size) hl hj he hne)
  clear hA hB cA cB nA nB pA pB gA gB aA aB LA LB hl hj he hne
  have tk : (key == key) = true := by simp
  go_enter Tryz.func47, Tryz.ntmps47
  go_upto_region 2 with fail
  refine wp_region_ext (by kernel_rfl) (by kernel_rfl) ?_
  dsimp only [List.append]
  repeat (go_big_quiet_step ((first | (go_at_call 72; with_reducible exact Calls.ext (E1.out _ (Ext.below _))))))
  refine wpQuiet_nil ?_
  rintro _ ⟨x9, rfl⟩
  go_wp2
  exact bodyPost_ret (v := .bool false) (by simp [results, Tryz.results47, go_sem, *]) rfl (⟨rfl, by with_reducible repeat (first | exact Below.refl _ _ | assumption | refine Below.al ?_ _ | refine Below.on ?_ _ | refine Below.st ?_ (by first | assumption | (simp; done) | (simp; omega)) _ | refine Below.drew ?_)⟩)
set_option maxRecDepth 8000 in
set_option maxHeartbeats 1000000 in
theorem same_nods (SA LA0 SB LB0 : Nat) (cs : List Col) (key : Int) (ns ns2 : List Nod) (pr gr prB grB : List Int) (ag agB : List Ag) (rvA rvB : Value) (lvA lvB : List Value) (rA rB : List (List Val)) (w : World) (hA : StAt w SA LA0 cs key ns pr gr ag rvA lvA rA) (hB : StAt w SB LB0 cs key ns2 prB grB agB rvB lvB rB) (hne : ¬ ns.length = ns2.length) :
    Calls Tryz.prog 47 #[.pointer (some ⟨SA, 0, none⟩), .pointer (some ⟨SB, 0, none⟩)] w fun e w' => e = .returned (.bool false) ∧ Below w.heap.size w w' := by
  have uA := Nat.lt_of_lt_of_le hA.lt hA.up
  have uB := Nat.lt_of_lt_of_le hB.lt hB.up
  obtain ⟨cvA, nvA, pvA, gvA, avA, a0, a1, a2, a3, a4, a5, cA, nA, pA, gA, aA⟩ := hA.st
  obtain ⟨cvB, nvB, pvB, gvB, avB, b0, b1, b2, b3, b4, b5, cB, nB, pB, gB, aB⟩ := hB.st
  have LA := Nat.le_of_lt uA
  have LB := Nat.le_of_lt uB
  have E1 := Lib.hid (fun (W : World) (hb : Below w.heap.size w W) => eqv_cols cvA cvB cs W ((cA.mono (Below.refl _ _) LA).mono hb hb.size) ((cB.mono (Below.refl _ _) LB).mono hb hb.size))
  have E2 := Lib.hid (fun (W : World) (hb : Below w.heap.size w W) => nev_nods nvA nvB ns ns2 W ((nA.mono (Below.refl _ _) LA).mono hb hb.size) ((nB.mono (Below.refl _ _) LB).mono hb hb.size) hne)
  clear hA hB cA cB nA nB pA pB gA gB aA aB LA LB hne
  have tk : (key == key) = true := by simp
  go_enter Tryz.func47, Tryz.ntmps47
  go_upto_region 2 with fail
  refine wp_region_ext (by kernel_rfl) (by kernel_rfl) ?_
  dsimp only [List.append]
  repeat (go_big_quiet_step ((first | (go_at_call 72; with_reducible exact Calls.ext (E1.out _ (Ext.below _))) | (go_at_call 73; with_reducible exact Calls.ext (E2.out _ (Ext.below _))))))
  refine wpQuiet_nil ?_
  rintro _ ⟨x9, rfl⟩
  go_wp2
  exact bodyPost_ret (v := .bool false) (by simp [results, Tryz.results47, go_sem, *]) rfl (⟨rfl, by with_reducible repeat (first | exact Below.refl _ _ | assumption | refine Below.al ?_ _ | refine Below.on ?_ _ | refine Below.st ?_ (by first | assumption | (simp; done) | (simp; omega)) _ | refine Below.drew ?_)⟩)
end Go.Proofs.YtpahoenanfjhpaaGreat
namespace Go.Proofs.YtpahoenanfjhpaaGreat
open Go.RowKit
theorem StAt.put {w W1 : World} {SA LA : Nat} {cs : List Col} {key : Int} {ns : List Nod} {pr gr : List Int} {ag : List Ag} {rv v9 : Value} {lvs ps : List Value} {rows rs : List (List Val)} (h : StAt w SA LA cs key ns pr gr ag rv lvs rows) (hb : Below w.heap.size w W1) (ho : W1.ownsRow w.heap.size 42 1 v9 ps.length ps) (hp : Lvs w w.heap.size ps rs) (hl : ∀ lv ∈ ps, ∀ k, lv.ownBlock = some k → LA ≤ k ∧ k < w.heap.size) :
    StAt (W1.setCell ⟨SA, 6, none⟩ v9) SA LA cs key ns pr gr ag v9 ps rs ∧ Mv (fun k => k = SA) w (W1.setCell ⟨SA, 6, none⟩ v9) := by
  have lt := h.lt
  have up := h.up
  have hS : SA < w.heap.size := by omega
  have h1 := h.on hb
  have hS1 : SA < W1.heap.size := Nat.lt_of_lt_of_le hS hb.size
  obtain ⟨cv, nv, pv, gv, av, c0, c1, c2, c3, c4, c5, k0, k1, k2, k3, k4⟩ := h1.st
  have bs : Below SA W1 (W1.setCell ⟨SA, 6, none⟩ v9) := (Below.refl _ _).setCell (p := ⟨SA, 6, none⟩) (Nat.le_refl _) _
  have hsz : (W1.setCell ⟨SA, 6, none⟩ v9).heap.size = W1.heap.size := World.size_setCell _ _ _
  have hm : Mv (fun k => k = SA) w (W1.setCell ⟨SA, 6, none⟩ v9) := Mv.st (S := fun k => k = SA) (p := ⟨SA, 6, none⟩) (Mv.of_below hb) (.inl rfl) v9
  have hne : ∀ k, v9.ownBlock = some k → k ≠ SA := fun k hk => by have := (ho.lt k hk).1; omega
  refine ⟨⟨lt, by rw [hsz]; exact Nat.le_trans up hb.size, fun q => by rw [World.frozen?_setCell]; exact h1.frz q, ⟨cv, nv, pv, gv, av, cell_other c0 (by decide), cell_other c1 (by decide), cell_other c2 (by decide), cell_other c3 (by decide), cell_other c4 (by decide), cell_other c5 (by decide), k0.mono bs (Nat.le_refl _), k1.mono bs (Nat.le_refl _), ints_on k2 bs (Nat.le_refl _), ints_on k3 bs (Nat.le_refl _), k4.mono bs (Nat.le_refl _)⟩, cell_same h1.s6, ?_, ?_, fun j hj hj' => ?_⟩, hm⟩
  · rw [one_flat]
    exact own_low (own_st ho hne _) up
  · exact hp.1
  · have hv := hp.2 j hj hj'
    have hk := hl _ (List.getElem_mem hj)
    refine ⟨(hv.keep fun k k1 k2 => hm.block k k1 (by have := (hk k k2).1; have := h.lt; omega)).up hm.size, fun k e => ⟨(hk k e).1, Nat.lt_of_lt_of_le (hk k e).2 hm.size, fun e2 => ?_⟩⟩
    have := (ho.lt k e2).1
    have := (hk k e).2
    omega
theorem StAt.lvs {w : World} {SA LA : Nat} {cs : List Col} {key : Int} {ns : List Nod} {pr gr : List Int} {ag : List Ag} {rv : Value} {lvs : List Value} {rows : List (List Val)} (h : StAt w SA LA cs key ns pr gr ag rv lvs rows) : Lvs w w.heap.size lvs rows ∧ ∀ lv ∈ lvs, ∀ k, lv.ownBlock = some k → LA ≤ k ∧ k < w.heap.size := by
  refine ⟨⟨h.inn.1, fun j hj hj' => (h.inn.2 j hj hj').1⟩, fun lv hlv k hk => ?_⟩
  obtain ⟨j, hj, rfl⟩ := List.getElem_of_mem hlv
  have := (h.inn.2 j hj (by rw [← h.inn.1]; exact hj)).2 k hk
  exact ⟨this.1, this.2.1⟩
theorem own_src1 {w W : World} {base n : Nat} {T : TypeId} {v : Value} {xs : List Value} (h : w.ownsRow base T 1 v n xs) (h1 : ∀ u ∈ xs, u.oneCell' = true) (hb : Below w.heap.size w W) : SrcRow W v n 1 xs := by
  refine ⟨h.1, h1, ?_⟩
  have ho := own_to h hb
  rcases ho.2 with ⟨rfl, rfl⟩ | ⟨g, c, cur, rfl, _⟩
  · exact .inl ⟨rfl, none, 0, rfl⟩
  · refine .inr ⟨_, c, rfl, fun j u hj => ?_⟩
    have hjl := (List.getElem?_eq_some_iff.1 hj).1
    rw [add_nil, Nat.zero_add, ho.cellAt j (by have := h.1; omega)]
    exact hj
/-- What Merge leaves. -/
def MrgOk (w : World) (SA LA : Nat) (cs : List Col) (key : Int) (ns : List Nod) (pr gr : List Int) (ag : List Ag) (lvs : List Value) (rows : List (List Val)) (e : Ending) (w' : World) : Prop :=
  ∃ rv', e = .returned (.int .i64 0) ∧ StAt w' SA LA cs key ns pr gr ag rv' lvs rows ∧ Mv (fun k => k = SA) w w' ∧ ∀ k, rv'.ownBlock = some k → w.heap.size ≤ k
set_option maxRecDepth 8000 in
set_option maxHeartbeats 2000000 in
theorem amerge_any (SA LA SB LB : Nat) (cs : List Col) (key : Int) (ns : List Nod) (pr gr : List Int) (ag : List Ag) (rvA rvB : Value) (lvA lvB : List Value) (rA rB : List (List Val)) (w : World) (hA : StAt w SA LA cs key ns pr gr ag rvA lvA rA) (hB : StAt w SB LB cs key ns pr gr ag rvB lvB rB) (hL : LA ≤ LB) (h20 : rA.length + rB.length ≤ 1048576) :
    Calls Tryz.prog 18 #[.pointer (some ⟨SA, 0, none⟩), .pointer (some ⟨SB, 0, none⟩)] w (MrgOk w SA LA cs key ns pr gr ag (lvA ++ lvB) (rA ++ rB)) := by
  have uA := Nat.lt_of_lt_of_le hA.lt hA.up
  have uB := Nat.lt_of_lt_of_le hB.lt hB.up
  obtain ⟨aA, cA, rfl⟩ := own_form hA.own
  obtain ⟨aB, cB, rfl⟩ := own_form hB.own
  have SE := Lib.hid (same_eq SA LA SB LB cs key ns pr gr pr gr ag ag _ _ lvA lvB rA rB w hA hB)
  obtain ⟨lvp, lvk⟩ := hA.lvs
  obtain ⟨lwp, lwk⟩ := hB.lvs
  obtain ⟨n, hn⟩ : ∃ n, lvA.length = n := ⟨_, rfl⟩
  obtain ⟨m, hm⟩ : ∃ n, lvB.length = n := ⟨_, rfl⟩
  have hnm : n + m ≤ 1048576 := by rw [← hn, ← hm, lvp.1, lwp.1]; exact h20
  have SRA : ∀ W, Below w.heap.size w W → SrcRow W (.slice aA n cA) n 1 lvA := fun W hW => (by
    have q := own_src1 (xs := lvA) (by have := hA.own; rwa [one_flat] at this) lvp.one hW
    rw [hn] at q; exact q)
  have SRB : ∀ W, Below w.heap.size w W → SrcRow W (.slice aB m cB) m 1 lvB := fun W hW => (by
    have q := own_src1 (xs := lvB) (by have := hB.own; rwa [one_flat] at this) lwp.one hW
    rw [hm] at q; exact q)
  have a6 := hA.s6
  have b6 := hB.s6
  have fA := hA.frz 6
  have HA := Lib.hid hA
  have HS := Lib.hid (And.intro SRA SRB)
  have HP := Lib.hid (lvp.app lwp)
  have HK := Lib.hid (show ∀ lv ∈ lvA ++ lvB, ∀ k, lv.ownBlock = some k → LA ≤ k ∧ k < w.heap.size from fun lv h k e => by
    rcases List.mem_append.1 h with q | q
    · exact lvk lv q k e
    · exact ⟨Nat.le_trans hL (lwk lv q k e).1, (lwk lv q k e).2⟩)
  have HLN := Lib.hid (And.intro hn hm)
  rw [hn] at a6
  rw [hm] at b6
  rw [hn] at HA
  clear hA hB SRA SRB lvp lvk lwp lwk hn hm
  go_enter Tryz.func18, Tryz.ntmps18
  go_upto_region 3 with (go_at_call 47; refine Calls.mono SE.out ?_; rintro e w1 ⟨rfl, hb1⟩; obtain ⟨x1, rfl⟩ := Ext.of hb1)
  have zA := x1.lt uA
  have zB := x1.lt uB
  have gA := (x1.cell SA 6 uA).trans a6
  have gB := (x1.cell SB 6 uB).trans b6
  have gf := (x1.frozen SA 6 uA).trans fA
  have BX := Lib.hid x1.below
  have CC := Lib.hid (fun (W : World) (b : Nat) (hb : Below w.heap.size w W) (hbW : b < W.heap.size) (k0 : W.cell? ⟨b, 0, none⟩ = some (.slice aA n cA)) (k1 : W.cell? ⟨b, 1, none⟩ = some (.slice aB m cB)) => concat_row b aA aB cA cB n m lvA lvB W (fun W2 h2 => HS.out.1 W2 (Below.to hb h2)) (fun W2 h2 => HS.out.2 W2 (Below.to hb h2)) hbW k0 k1 (by omega))
  clear SE a6 b6 fA
  go_region_law ((first
    | (go_simp; go_at_call 48; refine Calls.mono (CC.out _ _ (by with_reducible repeat (first | exact Below.refl _ _ | assumption | refine Below.al ?_ _ | refine Below.on ?_ _ | refine Below.st ?_ (by first | assumption | (simp; done) | (simp; omega)) _ | refine Below.drew ?_)) (by first | (simp; done) | (simp; omega)) (by simp (maxDischargeDepth := 9) [go_sem, *]) (by simp (maxDischargeDepth := 9) [go_sem, *])) ?_; rintro e w4 ⟨v9, rfl, ho9, hb9⟩; obtain ⟨a9, c9, rfl⟩ := own_form ho9; have B9 : Hid (Below w.heap.size w w4) := Lib.hid (Below.to (show Below w.heap.size w _ from (by with_reducible repeat (first | exact Below.refl _ _ | assumption | refine Below.al ?_ _ | refine Below.on ?_ _ | refine Below.st ?_ (by first | assumption | (simp; done) | (simp; omega)) _ | refine Below.drew ?_))) hb9); have O9 : Hid (w4.ownsRow w.heap.size 42 1 (.slice a9 (n + m) c9) (n + m) (lvA ++ lvB)) := Lib.hid (own_low ho9 (Below.size (show Below w.heap.size w _ from (by with_reducible repeat (first | exact Below.refl _ _ | assumption | refine Below.al ?_ _ | refine Below.on ?_ _ | refine Below.st ?_ (by first | assumption | (simp; done) | (simp; omega)) _ | refine Below.drew ?_))))); have yA : w4.cell? ⟨SA, 6, none⟩ = some (.slice aA n cA) := (B9.out.cell (p := ⟨SA, 6, none⟩) uA).trans HA.out.s6; have yf : w4.frozen? ⟨SA, 6, none⟩ = false := (B9.out.frozen (p := ⟨SA, 6, none⟩) uA).trans (HA.out.frz 6); have yz : SA < w4.heap.size := Nat.lt_of_lt_of_le uA B9.out.size; clear ho9 hb9)))
  all_goals (have FIN := Lib.hid (HA.out.put (v9 := .slice a9 (n + m) c9) B9.out (by rw [List.length_append, HLN.out.1, HLN.out.2]; exact O9.out) HP.out HK.out))
  all_goals (have OB := Lib.hid (fun k hk => (O9.out.lt k hk).1))
  all_goals go_wp2
  all_goals (refine bodyPost_ret (v := .int .i64 0) ?_ rfl ⟨_, rfl, FIN.out.1, FIN.out.2, OB.out⟩)
  all_goals (simp (maxDischargeDepth := 9) [results, Tryz.results18, go_sem, *])
end Go.Proofs.YtpahoenanfjhpaaGreat
namespace Go.Proofs.YtpahoenanfjhpaaGreat
open Go.RowKit
/-- Two states for the same query: the second one lies behind lo, the first one before it. -/
structure Two (lo : Nat) (cs : List Col) (key : Int) (ns : List Nod) (pr gr : List Int) (ag : List Ag) (W : World) (SA LA : Nat) (vA : Value) (lA : List Value) (rA : List (List Val)) (SB LB : Nat) (vB : Value) (lB : List Value) (rB : List (List Val)) : Prop where
  a : StAt W SA LA cs key ns pr gr ag vA lA rA
  b : StAt W SB LB cs key ns pr gr ag vB lB rB
  f : StFar W SB lo cs ns pr gr ag
  sa : SA < lo
  sl : lo ≤ SB
  ll : LA ≤ LB
  va : ∀ k, vA.ownBlock = some k → LB ≤ k
  vab : ∀ k, vA.ownBlock = some k → vB.ownBlock ≠ some k
  la : ∀ lv ∈ lA, ∀ k, lv.ownBlock = some k → LB ≤ k ∧ vB.ownBlock ≠ some k
  lb : ∀ lv ∈ lB, ∀ k, lv.ownBlock = some k → vA.ownBlock ≠ some k
section
variable {lo : Nat} {cs : List Col} {key : Int} {ns : List Nod} {pr gr : List Int} {ag : List Ag} {W W' : World} {SA LA : Nat} {vA : Value} {lA : List Value} {rA : List (List Val)} {SB LB : Nat} {vB : Value} {lB : List Value} {rB : List (List Val)}
theorem StFar.on (h : StFar W SB lo cs ns pr gr ag) (hS : SB < W.heap.size) (hb : Below W.heap.size W W') : StFar W' SB lo cs ns pr gr ag := by
  obtain ⟨cv, nv, pv, gv, av, dl, c0, c2, c3, c4, c5, hdl, o1, o2, o3, o4, o5, o6, b1, b2, b4, b5, b6⟩ := h
  exact ⟨cv, nv, pv, gv, av, dl, (hb.cell (p := ⟨SB, 0, none⟩) hS).trans c0, (hb.cell (p := ⟨SB, 2, none⟩) hS).trans c2, (hb.cell (p := ⟨SB, 3, none⟩) hS).trans c3, (hb.cell (p := ⟨SB, 4, none⟩) hS).trans c4, (hb.cell (p := ⟨SB, 5, none⟩) hS).trans c5, hdl, own_to o1 hb, own_to o2 hb, fun p hp => ⟨(o3 p hp).1.mono hb hb.size, (o3 p hp).2⟩, own_to o4 hb, own_to o5 hb, own_to o6 hb, b1, b2, b4, b5, b6⟩
theorem StFar.keep {S : Nat → Prop} (h : StFar W SB lo cs ns pr gr ag) (hm : Mv S W W') (h0 : ∀ k, S k → SB ≤ k) (hc : ∀ i, i ≠ 6 → W'.cell? ⟨SB, i, none⟩ = W.cell? ⟨SB, i, none⟩) : StFar W' SB lo cs ns pr gr ag := by
  obtain ⟨cv, nv, pv, gv, av, dl, c0, c2, c3, c4, c5, hdl, o1, o2, o3, o4, o5, o6, b1, b2, b4, b5, b6⟩ := h
  have out : ∀ k, k < SB → ¬ S k := fun k k2 q => by have := h0 _ q; omega
  exact ⟨cv, nv, pv, gv, av, dl, (hc 0 (by decide)).trans c0, (hc 2 (by decide)).trans c2, (hc 3 (by decide)).trans c3, (hc 4 (by decide)).trans c4, (hc 5 (by decide)).trans c5, hdl, own_mvn o1 hm fun k hk => out k (b1 k hk), own_mvn o2 hm fun k hk => out k (b2 k hk), fun p hp => by
    obtain ⟨x1, x2⟩ := o3 p hp
    exact ⟨(x1.keep fun k hk hq => hm.block k hk (out k (x2 k hq).2)).up hm.size, x2⟩, own_mvn o4 hm fun k hk => out k (b4 k hk), own_mvn o5 hm fun k hk => out k (b5 k hk), own_mvn o6 hm fun k hk => out k (b6 k hk), b1, b2, b4, b5, b6⟩
theorem Two.on (h : Two lo cs key ns pr gr ag W SA LA vA lA rA SB LB vB lB rB) (hb : Below W.heap.size W W') : Two lo cs key ns pr gr ag W' SA LA vA lA rA SB LB vB lB rB :=
  ⟨h.a.on hb, h.b.on hb, h.f.on (Nat.lt_of_lt_of_le h.b.lt h.b.up) hb, h.sa, h.sl, h.ll, h.va, h.vab, h.la, h.lb⟩
theorem Two.init (ha : StAt W SA LA cs key ns pr gr ag (.slice none 0 0) [] []) (hL : LA ≤ W.heap.size) (hb : Below W.heap.size W W') (hB : StAt W' SB W'.heap.size cs key ns pr gr ag (.slice none 0 0) [] []) (hf : StFar W' SB W.heap.size cs ns pr gr ag) (hlo : W.heap.size ≤ SB) : Two W.heap.size cs key ns pr gr ag W' SA LA (.slice none 0 0) [] [] SB W'.heap.size (.slice none 0 0) [] [] :=
  ⟨ha.on hb, hB, hf, Nat.lt_of_lt_of_le ha.lt ha.up, hlo, Nat.le_trans hL hb.size, fun k hk => absurd hk (by simp [Value.ownBlock]), fun k hk => absurd hk (by simp [Value.ownBlock]), fun lv hlv => absurd hlv (by simp), fun lv hlv => absurd hlv (by simp)⟩
theorem Two.bfar (h : Two lo cs key ns pr gr ag W SA LA vA lA rA SB LB vB lB rB) {S : Nat → Prop} (hm : Mv S W W') (hS : ∀ k, S k → k = SA ∨ vA.ownBlock = some k) : StAt W' SB LB cs key ns pr gr ag vB lB rB ∧ StFar W' SB lo cs ns pr gr ag := by
  have hlt := h.b.lt
  have hsa := h.sa
  have hsl := h.sl
  refine h.b.far h.f hm (fun k hk => ?_) h.sl (fun k hk q => ?_) (fun lv hlv k hk q => ?_)
  · rcases hS k hk with e | e
    · exact .inl (by omega)
    · exact .inr (by have := h.va k e; omega)
  · rcases hS k q with e | e
    · have := (h.b.own.lt k hk).1; omega
    · exact h.vab k e hk
  · rcases hS k q with e | e
    · have := (h.b.lvs.2 lv hlv k hk).1; omega
    · exact h.lb lv hlv k hk e
theorem Two.addA (h : Two lo cs key ns pr gr ag W SA LA vA lA rA SB LB vB lB rB) {v' : Value} {ps : List Value} {rs : List (List Val)} (ha : StAt W' SA LA cs key ns pr gr ag v' (lA ++ ps) rs) (hm : Mv (fun k => k = SA ∨ vA.ownBlock = some k) W W') (hv : ∀ k, v'.ownBlock = some k → vA.ownBlock = some k ∨ W.heap.size ≤ k) (hp : ∀ lv ∈ ps, ∀ k, lv.ownBlock = some k → W.heap.size ≤ k) : Two lo cs key ns pr gr ag W' SA LA v' (lA ++ ps) rs SB LB vB lB rB := by
  obtain ⟨hb, hf⟩ := h.bfar hm (fun k hk => hk)
  have hup := h.b.up
  have vlt : ∀ k, vB.ownBlock = some k → k < W.heap.size := fun k hk => (h.b.own.lt k hk).2
  refine ⟨ha, hb, hf, h.sa, h.sl, h.ll, fun k hk => ?_, fun k hk e => ?_, fun lv hlv k hk => ?_, fun lv hlv k hk e => ?_⟩
  · rcases hv k hk with q | q
    · exact h.va k q
    · omega
  · rcases hv k hk with q | q
    · exact h.vab k q e
    · have := vlt k e; omega
  · rcases List.mem_append.1 hlv with q | q
    · exact h.la lv q k hk
    · have := hp lv q k hk
      exact ⟨by omega, fun e => by have := vlt k e; omega⟩
  · have h2 := (h.b.lvs.2 lv hlv k hk).2
    rcases hv k e with q | q
    · exact h.lb lv hlv k hk q
    · omega
theorem Two.addB (h : Two lo cs key ns pr gr ag W SA LA vA lA rA SB LB vB lB rB) {v' : Value} {ps : List Value} {rs : List (List Val)} (hB : StAt W' SB LB cs key ns pr gr ag v' (lB ++ ps) rs) (hm : Mv (fun k => k = SB ∨ vB.ownBlock = some k) W W') (hv : ∀ k, v'.ownBlock = some k → vB.ownBlock = some k ∨ W.heap.size ≤ k) (hp : ∀ lv ∈ ps, ∀ k, lv.ownBlock = some k → W.heap.size ≤ k) (hc : ∀ i, i ≠ 6 → W'.cell? ⟨SB, i, none⟩ = W.cell? ⟨SB, i, none⟩) : Two lo cs key ns pr gr ag W' SA LA vA lA rA SB LB v' (lB ++ ps) rs := by
  have hlt := h.b.lt
  have hsa := h.sa
  have hsl := h.sl
  have hfa : ∀ k, vB.ownBlock = some k → LB ≤ k := fun k hk => (h.b.own.lt k hk).1
  have ha := h.a.mv hm (fun k hk => by rcases hk with e | e; omega; (have := hfa k e; omega)) (fun k hk q => by
    rcases q with e | e
    · have := h.va k hk; omega
    · exact h.vab k hk e) (fun lv hlv k hk q => by
    rcases q with e | e
    · have := (h.la lv hlv k hk).1; omega
    · exact (h.la lv hlv k hk).2 e)
  have hf := h.f.keep hm (fun k hk => by rcases hk with e | e; omega; (have := hfa k e; omega)) hc
  have alt : ∀ k, vA.ownBlock = some k → k < W.heap.size := fun k hk => (h.a.own.lt k hk).2
  refine ⟨ha, hB, hf, h.sa, h.sl, h.ll, h.va, fun k hk e => ?_, fun lv hlv k hk => ⟨(h.la lv hlv k hk).1, fun e => ?_⟩, fun lv hlv k hk e => ?_⟩
  · rcases hv k e with q | q
    · exact h.vab k hk q
    · have := alt k hk; omega
  · have h2 := (h.a.lvs.2 lv hlv k hk).2
    rcases hv k e with q | q
    · exact (h.la lv hlv k hk).2 q
    · omega
  · rcases List.mem_append.1 hlv with q | q
    · exact h.lb lv q k hk e
    · have := hp lv q k hk
      have := alt k e; omega
theorem Two.mrg (h : Two lo cs key ns pr gr ag W SA LA vA lA rA SB LB vB lB rB) {v' : Value} {lX : List Value} {rX : List (List Val)} (ha : StAt W' SA LA cs key ns pr gr ag v' (lA ++ lX) (rA ++ rX)) (hX : lX = lA ∨ lX = lB) (hm : Mv (fun k => k = SA) W W') (hv : ∀ k, v'.ownBlock = some k → W.heap.size ≤ k) : Two lo cs key ns pr gr ag W' SA LA v' (lA ++ lX) (rA ++ rX) SB LB vB lB rB := by
  obtain ⟨hb, hf⟩ := h.bfar hm (fun k hk => .inl hk)
  have hup := h.b.up
  have vlt : ∀ k, vB.ownBlock = some k → k < W.heap.size := fun k hk => (h.b.own.lt k hk).2
  have old : ∀ lv ∈ lB, ∀ k, lv.ownBlock = some k → LB ≤ k ∧ vB.ownBlock ≠ some k := fun lv hlv k hk => by
    obtain ⟨j, hj, rfl⟩ := List.getElem_of_mem hlv
    have := (h.b.inn.2 j hj (by rw [← h.b.inn.1]; exact hj)).2 k hk
    exact ⟨this.1, this.2.2⟩
  refine ⟨ha, hb, hf, h.sa, h.sl, h.ll, fun k hk => by have := hv k hk; omega, fun k hk e => by have := hv k hk; have := vlt k e; omega, fun lv hlv k hk => ?_, fun lv hlv k hk e => ?_⟩
  · rcases List.mem_append.1 hlv with q | q
    · exact h.la lv q k hk
    · rcases hX with e | e
      · subst e; exact h.la lv q k hk
      · subst e; exact old lv q k hk
  · have := (h.b.lvs.2 lv hlv k hk).2
    have := hv k e; omega
end
end Go.Proofs.YtpahoenanfjhpaaGreat
namespace Go.Proofs.YtpahoenanfjhpaaGreat
open Go.RowKit
theorem batchE_rows {cs : List Col} {key : Int} {rows : List (List Val)} (hs : schemaF cs key = 0) (h4 : rows.length ≤ 4096) (hr : ∀ r ∈ rows, r.length = cs.length ∧ RowPre cs r) : batchE cs key rows = 0 := by
  unfold batchE
  rw [if_pos hs, if_neg (by omega)]
  have key : ∀ l : List (List Val), (∀ r ∈ l, r.length = cs.length ∧ RowPre cs r) → rowsE cs l = 0 := by
    intro l
    induction l with
    | nil => intro _; rfl
    | cons r l ih =>
      intro h
      have hr := h r (by simp)
      have e : rowE cs r = 0 := by unfold rowE; rw [if_pos hr.1]; exact rowEs_pre fun i h h' => hr.2 i h' h
      show (if rowE cs r = 0 then rowsE cs l else rowE cs r) = 0
      rw [if_pos e]; exact ih (fun a ha => h a (List.mem_cons_of_mem _ ha))
  exact key rows hr
theorem runF_ok {cs : List Col} {key : Int} {ns : List Nod} {pr gr : List Int} {ag : List Ag} {rows : List (List Val)} (hs : schemaF cs key = 0) (hq : queryE cs key ns pr gr ag = 0) (h4 : rows.length ≤ 4096) (hr : ∀ r ∈ rows, r.length = cs.length ∧ RowPre cs r) : runF cs key ns pr gr ag rows = resF cs pr gr ag (selR cs ns rows) := by
  unfold runF
  rw [if_pos hq, if_pos (batchE_rows hs h4 hr)]
theorem selR_app (cs : List Col) (ns : List Nod) (a b : List (List Val)) : selR cs ns (a ++ b) = selR cs ns a ++ selR cs ns b := by unfold selR; rw [List.filter_append]
/-- What Add leaves where the rows are valid. -/
def AddOk (w : World) (SB L : Nat) (cs : List Col) (key : Int) (ns : List Nod) (pr gr : List Int) (ag : List Ag) (rv : Value) (lvs : List Value) (rows : List (List Val)) (e : Ending) (w' : World) : Prop :=
  ∃ rv' ps, e = .returned (.int .i64 0) ∧ StAt w' SB L cs key ns pr gr ag rv' (lvs ++ ps) rows ∧ Mv (fun k => k = SB ∨ rv.ownBlock = some k) w w' ∧ (∀ k, rv'.ownBlock = some k → rv.ownBlock = some k ∨ w.heap.size ≤ k) ∧ (∀ lv ∈ ps, ∀ k, lv.ownBlock = some k → w.heap.size ≤ k) ∧ (∀ i, i ≠ 6 → w'.cell? ⟨SB, i, none⟩ = w.cell? ⟨SB, i, none⟩)
theorem aadd_ok {SB L : Nat} {cs : List Col} {key : Int} {ns : List Nod} {pr gr : List Int} {ag : List Ag} {rv : Value} {lvs : List Value} {rows0 : List (List Val)} {xv : Value} {rows : List (List Val)} {w : World} (hst : StAt w SB L cs key ns pr gr ag rv lvs rows0) (hr : RowsAt w w.heap.size xv rows) (hq : predF cs key ns = 0) (hs : schemaF cs key = 0) (h4 : rows.length ≤ 4096) (hf : ∀ r ∈ rows, r.length = cs.length ∧ RowPre cs r) (h20 : rows0.length ≤ 1048576) :
    Calls Tryz.prog 14 #[.pointer (some ⟨SB, 0, none⟩), xv] w (AddOk w SB L cs key ns pr gr ag rv lvs (rows0 ++ selR cs ns rows)) := by
  refine Calls.mono (aadd2_any SB L cs key ns pr gr ag rv lvs rows0 xv rows w hst hr hq h20) ?_
  intro e w' h
  unfold AddPost2 at h
  rw [batchE_rows hs h4 hf, if_pos rfl] at h
  obtain ⟨rfl, rv', ps, h1, h2, h3, h4, h5⟩ := h
  exact ⟨rv', ps, rfl, h1, h2, h3, h4, h5⟩
theorem selR_len (cs : List Col) (ns : List Nod) (rows : List (List Val)) : (selR cs ns rows).length ≤ rows.length := List.length_filter_le _ _
theorem selR_fit {cs : List Col} {ns : List Nod} {rows : List (List Val)} (h : ∀ r ∈ rows, r.length = cs.length ∧ RowPre cs r) : ∀ r ∈ selR cs ns rows, r.length = cs.length := fun r hr => (h r (List.mem_filter.1 hr).1).1
/-- The result of a state, once. -/
theorem stres_ok {w : World} {SB L : Nat} {cs : List Col} {key : Int} {ns : List Nod} {pr gr : List Int} {ag : List Ag} {rv : Value} {lvs : List Value} {rows : List (List Val)} {R1 : List (List Val)} {R2 : Int} (h : StAt w SB L cs key ns pr gr ag rv lvs rows) (hq : QOk cs key ns pr gr ag) (hl : ∀ r ∈ rows, r.length = cs.length) (h20 : rows.length ≤ 1048576) (hR : resF cs pr gr ag rows = (R1, R2)) :
    Calls Tryz.prog 15 #[.pointer (some ⟨SB, 0, none⟩)] w (ResPost w R1 R2) := by
  have q := stres_any h hq hl h20
  rw [hR] at q; exact q
theorem refrun_ok {cv : Value} {cs : List Col} {key : Int} {nv : Value} {ns : List Nod} {pv : Value} {pr : List Int} {gv : Value} {gr : List Int} {av : Value} {ag : List Ag} {rv : Value} {rows : List (List Val)} {w : World} {R1 : List (List Val)} {R2 : Int}
    (hc : ColsAt w w.heap.size cv cs) (hn : NodsAt w w.heap.size nv ns) (hp : IntsAt w w.heap.size pv pr) (hg : IntsAt w w.heap.size gv gr) (ha : AgsAt w w.heap.size av ag) (hr : RowsAt w w.heap.size rv rows) (hs : schemaF cs key = 0) (hq : queryE cs key ns pr gr ag = 0) (h4 : rows.length ≤ 4096) (hf : ∀ r ∈ rows, r.length = cs.length ∧ RowPre cs r) (hR : resF cs pr gr ag (selR cs ns rows) = (R1, R2)) :
    Calls Tryz.prog 16 #[.agg #[cv, .int .i64 key], .agg #[nv, pv, gv, av], rv] w (ResPost w R1 R2) := by
  have q := refrun_any cv cs key nv ns pv pr gv gr av ag rv rows w hc hn hp hg ha hr
  rw [runF_ok hs hq h4 hf, hR] at q; exact q
end Go.Proofs.YtpahoenanfjhpaaGreat
