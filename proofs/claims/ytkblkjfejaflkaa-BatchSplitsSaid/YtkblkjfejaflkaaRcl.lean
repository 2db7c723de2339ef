/-
  COLUMNS: the reference's Columns ('colsF'). Conditions: the records lie in memory; at most 2^42 of them.
-/
import Derived.Test.YtkblkjfejaflkaaRsp
import Derived.Test.YtkblkjfejaflkaaClm
set_option linter.unusedVariables false
set_option linter.unusedSimpArgs false
namespace Go.Proofs.Ytkblkjfejaflkaa
open Go.RowKit
theorem null_any (w : World) : Calls Try.prog 57 #[] w fun e w' => e = .returned (.agg #[.bool true, .int .i64 0, .string ⟨#[]⟩]) ∧ Below w.heap.size w w' := by
  go_enter Try.func57, Try.ntmps57
  go_wp2
  exact bodyPost_ret (v := .agg #[.bool true, .int .i64 0, .string ⟨#[]⟩]) (by simp [results, Try.results57, go_sem, *]) rfl (⟨rfl, by repeat (first | with_reducible exact Below.refl _ _ | with_reducible assumption | with_reducible refine Below.al ?_ _ | with_reducible refine Below.on ?_ _ | with_reducible refine Below.st ?_ (by first | assumption | (simp; done) | (simp; omega)) _ | with_reducible refine Below.drew ?_)⟩)
/-- The columns under way. -/
structure RV (w W : World) (v : Value) (lvs : List Value) (ls : List (List Val)) : Prop where
  below : Below w.heap.size w W
  own : W.ownsRow w.heap.size 29 1 v lvs.length lvs
  len : lvs.length = ls.length
  inn : ∀ j (h : j < lvs.length) (h' : j < ls.length), W.ownsRow w.heap.size 33 3 (lvs[j]'h) (ls[j]'(h')).length ((ls[j]'(h')).flatMap valC) ∧ ∀ k, (lvs[j]'h).ownBlock = some k → k < W.heap.size ∧ v.ownBlock ≠ some k
theorem RV.nil (w : World) : RV w w (.slice none 0 0) [] [] := ⟨Below.refl _ _, World.ownsRow_nil _ _ _ _, rfl, fun j h => absurd h (by simp)⟩
theorem RV.snoc {w W W1 W2 : World} {v v' lv : Value} {lvs : List Value} {ls : List (List Val)} {l : List Val} {tmp : Obj} (h : RV w W v lvs ls) (b1 : Below W.heap.size W W1) (ho1 : W1.ownsRow W.heap.size 33 3 lv l.length (l.flatMap valC))
    (ho : W2.ownsRow w.heap.size 29 1 v' (lvs.length + 1) (lvs ++ [lv])) (hg : (W1.alloc tmp).grownBy W2 v.ownBlock) (ha : v'.ownBlock = v.ownBlock ∨ v'.ownBlock = some (W1.alloc tmp).heap.size) : RV w W2 v' (lvs ++ [lv]) (ls ++ [l]) := by
  have b2 : Below W.heap.size W (W1.alloc tmp) := b1.alloc b1.size tmp
  have vb := own_lt2 h.own
  have key : ∀ {u : Value} {r : List Val}, (W1.alloc tmp).ownsRow w.heap.size 33 3 u r.length (r.flatMap valC) → (∀ k, u.ownBlock = some k → k < (W1.alloc tmp).heap.size ∧ v.ownBlock ≠ some k) →
      W2.ownsRow w.heap.size 33 3 u r.length (r.flatMap valC) ∧ ∀ k, u.ownBlock = some k → k < W2.heap.size ∧ v'.ownBlock ≠ some k := fun o hk =>
    ⟨own_keep o fun k e => hg.block k (hk k e).1 (fun q => (hk k e).2 q.symm), fun k e => ⟨Nat.lt_of_lt_of_le (hk k e).1 hg.size, by
      rcases ha with q | q
      · rw [q]; exact (hk k e).2
      · rw [q]; intro e'; injection e' with e'; have := (hk k e).1; omega⟩⟩
  refine ⟨Below.gr (Below.to h.below b2) h.own hg, by simpa using ho, by simp [h.len], fun j h1 h2 => ?_⟩
  rcases Nat.lt_or_ge j lvs.length with q | q
  · have q' : j < ls.length := by rw [← h.len]; exact q
    rw [List.getElem_append_left q, List.getElem_append_left q']
    obtain ⟨k1, k3⟩ := h.inn j q q'
    exact key (own_to k1 b2) (fun k e => ⟨Nat.lt_of_lt_of_le (k3 k e).1 b2.size, (k3 k e).2⟩)
  · obtain rfl : j = lvs.length := by simp at h1; omega
    have e1 : (lvs ++ [lv])[lvs.length]'h1 = lv := by simp
    have e2 : (ls ++ [l])[lvs.length]'h2 = l := by simp [h.len]
    rw [e1, e2]
    have ho1' : (W1.alloc tmp).ownsRow W.heap.size 33 3 lv l.length (l.flatMap valC) := ho1.alloc _
    exact key (own_baseM ho1' h.below.size) (fun k e => ⟨own_lt2 ho1' k e, fun q => by have := vb k q; have := own_base ho1' k e; omega⟩)
theorem RV.rows {w W : World} {v : Value} {lvs : List Value} {ls : List (List Val)} (h : RV w W v lvs ls) (hl : ls.length ≤ 9223372036854775807) (hr : ∀ p ∈ ls, p.length ≤ 9223372036854775807) : RowsAt W W.heap.size v ls := by
  refine ⟨hl, ?_⟩
  have ho := h.own
  rw [show lvs = lvs.flatMap (fun v => [v]) by simp] at ho
  have hl : (lvs.flatMap fun v => [v]).length = lvs.length := by simp
  rw [hl] at ho
  rcases own_at (f := fun v : Value => [v]) (k := 1) (fun _ => rfl) ho with ⟨rfl, rfl⟩ | ⟨g, cap, rfl, hcap, _, hg, H⟩
  · exact .inl ⟨List.eq_nil_of_length_eq_zero h.len.symm, none, 0, rfl⟩
  · refine .inr ⟨g, 0, cap, by rw [h.len], by rw [← h.len]; exact hcap, hg, fun j hj => ?_⟩
    have hj' : j < lvs.length := by rw [h.len]; exact hj
    obtain ⟨k1, _⟩ := h.inn j hj' hj
    have hc := H j hj' 0 _ (by omega) rfl
    exact ⟨lvs[j]'hj', by simpa using hc, own_vals (hr _ (List.getElem_mem hj)) k1⟩
theorem colsF_succ (rs : List Rc) (i : Nat) : colsF rs (i + 1) = colsF rs i ++ [rs.map (cellF i)] := by simp [colsF, List.range_succ]
set_option maxRecDepth 8000 in
set_option maxHeartbeats 1000000 in
theorem refColumns_any (v : Value) (rs : List Rc) (n : Int) (w : World) (h : RecsAt w w.heap.size v rs) (hb : rs.length ≤ 4398046511104) :
    Calls Try.prog 36 #[v, .int .i64 n] w (ClmPost w (if 1 ≤ n ∧ n ≤ 12 then colsF rs n.toNat else [])) := by
  obtain ⟨a, c, rfl⟩ := recs_end h
  obtain ⟨L, hL⟩ : ∃ L, rs.length = L := ⟨_, rfl⟩
  rw [hL] at hb h ⊢
  have HR := Lib.hid h
  have HL := Lib.hid hL
  clear h hL
  have NILP : Hid (∀ W : World, Below w.heap.size w W → ClmPost w [] (.returned (.slice none 0 0)) W) := Lib.hid fun W hW => ⟨_, rfl, ⟨by simp, .inl ⟨rfl, none, 0, rfl⟩⟩, hW⟩
  by_cases hn1 : n < 1
  · rw [if_neg (by omega)]
    have t : n < 1 := hn1
    go_enter Try.func36, Try.ntmps36
    go_wp2
    refine bodyPost_ret (v := .slice none 0 0) ?_ rfl (NILP.out _ (Below.refl _ _))
    simp (maxDischargeDepth := 9) [results, Try.results36, go_sem, *]
  by_cases hn2 : 12 < n
  · rw [if_neg (by omega)]
    have t : ¬ n < 1 := hn1
    have t2 : 12 < n := hn2
    go_enter Try.func36, Try.ntmps36
    go_wp2
    refine bodyPost_ret (v := .slice none 0 0) ?_ rfl (NILP.out _ (Below.refl _ _))
    simp (maxDischargeDepth := 9) [results, Try.results36, go_sem, *]
  rw [if_pos (by omega)]
  obtain ⟨N, rfl⟩ : ∃ N : Nat, n = (N : Int) := ⟨n.toNat, by omega⟩
  rw [Int.toNat_natCast]
  have N1 : 1 ≤ N := by omega
  have N12 : N ≤ 12 := by omega
  have t : ¬ (N : Int) < 1 := hn1
  have t2 : ¬ 12 < (N : Int) := hn2
  obtain ⟨i0, hi, hz0, hz1, hz2⟩ := info_parts infoVal
  obtain ⟨i1, hj, hy0, hy1, hy2⟩ := info_parts infoVlC
  clear NILP
  go_enter Try.func36, Try.ntmps36
  go_wp2_with fail
  go_loopg [5, 6] N (fun g vo s6 wr => ∃ (i : Nat) (lvs : List Value), s6 = .int .i64 (i : Int) ∧ i + g = N ∧ RV w wr vo lvs (colsF rs i))
  case atStart => exact ⟨0, [], rfl, by omega, RV.nil w⟩
  case round =>
    obtain ⟨i, lvs, rfl, hig, hM⟩ := hrel
    have HM := Lib.hid hM
    have HIG := Lib.hid hig
    have HLV : Hid (lvs.length = i) := Lib.hid (by rw [hM.len]; simp [colsF])
    obtain ⟨va, vc, rfl⟩ := own_sl hM.own
    obtain ⟨G, hG⟩ : ∃ G, G = gk := ⟨gk, rfl⟩
    subst hG
    obtain ⟨W0, hW0⟩ : ∃ W0, W0 = wr := ⟨wr, rfl⟩
    subst hW0
    clear hM hig
    by_cases hiN : i < N
    · have ti : (i : Int) < (N : Int) := by omega
      go_wp2_with fail
      go_loopg [7, 23] L (fun g vcol s23 wi => ∃ (j : Nat), s23 = .int .i64 (j : Int) ∧ j + g = L ∧ wi.ownsRow W0.heap.size 33 3 vcol ((rs.take j).map (cellF i)).length (((rs.take j).map (cellF i)).flatMap valC) ∧ Below W0.heap.size W0 wi)
      case atStart => exact ⟨0, rfl, by omega, World.ownsRow_nil _ _ _ _, Below.refl _ _⟩
      case round =>
        obtain ⟨j, rfl, hjg, ho, hB⟩ := hrel
        have hlen : ((rs.take j).map (cellF i)).length = j := by rw [List.length_map, List.length_take, HL.out]; omega
        rw [hlen] at ho
        obtain ⟨ca, cc, rfl⟩ := own_sl ho
        have IC := Lib.hid (And.intro ho hB)
        have HJG := Lib.hid hjg
        have BW := Lib.hid (Below.to HM.out.below hB)
        have LEN := Lib.hid hlen
        clear ho hB hjg hlen
        by_cases hjL : j < L
        · have tj : (j : Int) < (L : Int) := by omega
          obtain ⟨b, off, rfl, hLc, hb', k0, lv, k1, hv⟩ := recs_in HR.out (i := j) (by rw [HL.out]; exact hjL)
          obtain ⟨r, hr⟩ : ∃ r, rs[j]'(by rw [HL.out]; exact hjL) = r := ⟨_, rfl⟩
          rw [hr] at k0 hv
          rw [HL.out] at hLc
          have ET : Hid (rs.take (j + 1) = rs.take j ++ [r]) := Lib.hid (by rw [← hr]; exact List.take_succ_eq_append_getElem (by rw [HL.out]; exact hjL))
          obtain ⟨sq, row⟩ := r
          dsimp only at k0 k1 hv
          obtain ⟨la, lc, rfl⟩ := vals_end hv
          obtain ⟨rl, hrl⟩ : ∃ rl, row.length = rl := ⟨_, rfl⟩
          rw [hrl] at k1 hv
          have HRL := Lib.hid hrl
          have f0 : wr.cell? ⟨b, off + j * 2, none⟩ = some (.int .i64 sq) := (BW.out.cell (p := ⟨b, off + j * 2, none⟩) hb').trans k0
          have f1 : wr.cell? ⟨b, off + j * 2 + 1, none⟩ = some (.slice la rl lc) := (BW.out.cell (p := ⟨b, off + j * 2 + 1, none⟩) hb').trans k1
          have zb : b < wr.heap.size := Nat.lt_of_lt_of_le hb' BW.out.size
          have HV := Lib.hid hv
          have tc : (j : Int) < (c : Int) := by omega
          clear hr k0 k1 hv hrl
          go_upto_region 11 with fail
          refine captureM ?_
          intro y1 ey
          have yb : Below wr.heap.size wr y1 := by rw [ey]; exact (by repeat (first | with_reducible exact Below.refl _ _ | with_reducible assumption | with_reducible refine Below.al ?_ _ | with_reducible refine Below.on ?_ _ | with_reducible refine Below.st ?_ (by first | assumption | (simp; done) | (simp; omega)) _ | with_reducible refine Below.drew ?_))
          have z1 : wr.heap.size < y1.heap.size := by rw [ey]; simp <;> omega
          have d1 : y1.cell? ⟨wr.heap.size, 1, none⟩ = some (.slice la rl lc) := by rw [ey]; simp (maxDischargeDepth := 9) [go_sem, *]
          have YB := Lib.hid yb
          have OY := Lib.hid (own_to IC.out.1 yb)
          have BY := Lib.hid (Below.to IC.out.2 yb)
          clear ey yb f0 f1 zb
          by_cases hir : i < rl
          · have tr : (i : Int) < (rl : Int) := by omega
            obtain ⟨b2, o2, rfl, hrc, hb2, v0, v1, v2⟩ := vals_in HV.out (i := i) (by rw [HRL.out]; exact hir)
            rw [HRL.out] at hrc
            have W1 : Below w.heap.size w y1 := Below.to BW.out YB.out
            have q0 := (W1.cell (p := ⟨b2, o2 + i * 3, none⟩) hb2).trans v0
            have q1 := (W1.cell (p := ⟨b2, o2 + i * 3 + 1, none⟩) hb2).trans v1
            have q2 := (W1.cell (p := ⟨b2, o2 + i * 3 + 2, none⟩) hb2).trans v2
            have zb2 : b2 < y1.heap.size := Nat.lt_of_lt_of_le hb2 W1.size
            have trc : (i : Int) < (lc : Int) := by omega
            obtain ⟨x, hx⟩ : ∃ x, row[i]'(by rw [HRL.out]; exact hir) = x := ⟨_, rfl⟩
            rw [hx] at q0 q1 q2
            have EX : Hid (cellF i ⟨sq, row⟩ = x) := Lib.hid (by unfold cellF; simp only; rw [List.getElem?_eq_getElem (by rw [HRL.out]; exact hir), hx]; rfl)
            obtain ⟨xn, xi, xs⟩ := x
            dsimp only at q0 q1 q2
            clear v0 v1 v2 W1 hx hb2
            go_wp2_with (first | (at_builtin; have zo : (y1.alloc (.cells #[.bool xn, .int .i64 xi, .string xs] 33)).ownsRow W0.heap.size 33 3 (.slice ca j cc) j (((rs.take j).map (cellF i)).flatMap valC) := OY.out.alloc _; refine wpList_append_row (by rfl) _ _ 29 rfl W0.heap.size 33 i0 _ 3 32 Try.underlying29 hi hz0 hz1 hz2 rfl (by decide) (.slice ca j cc) j (((rs.take j).map (cellF i)).flatMap valC) rfl zo (.slice (some ⟨y1.heap.size, 0, none⟩) 1 1) 1 [.bool xn, .int .i64 xi, .string xs] rfl ⟨rfl, (by simp [Value.oneCell']), .inr ⟨_, _, rfl, World.news_of_block (heap_alloc_new y1 _)⟩⟩ (by unfold maxLen; omega) (by omega) (by have := BY.out.size; rw [World.size_alloc]; omega) ?_; intro v4 w4 hown hg4 ha; have O4 := Lib.hid hown; have B4 : Hid (Below W0.heap.size W0 w4) := Lib.hid (Below.gr (show Below W0.heap.size W0 (y1.alloc (.cells #[.bool xn, .int .i64 xi, .string xs] 33)) from BY.out.alloc BY.out.size _) zo hg4); clear hown hg4 ha zo))
            go_roundg (gk - 1)
            case measure => have := HJG.out; omega
            case rel => exact ⟨j + 1, by go_num, by have := HJG.out; omega, by rw [ET.out, List.map_append, List.map_cons, List.map_nil, EX.out, List.length_append, LEN.out, List.flatMap_append]; exact O4.out, B4.out⟩
          · have tr : ¬ (i : Int) < (rl : Int) := by omega
            have EX : Hid (cellF i ⟨sq, row⟩ = ⟨true, 0, ⟨#[]⟩⟩) := Lib.hid (by unfold cellF; simp only; rw [List.getElem?_eq_none (by rw [HRL.out]; omega)]; rfl)
            go_wp2_with (first | (go_at_call 57; refine Calls.mono (null_any _) ?_; rintro e w9 ⟨rfl, hb9⟩; have OY9 := Lib.hid (own_to OY.out hb9); have BY9 := Lib.hid (Below.to BY.out hb9); clear hb9) | (at_builtin; have zo : (w9.alloc (.cells #[.bool true, .int .i64 0, .string ⟨#[]⟩] 33)).ownsRow W0.heap.size 33 3 (.slice ca j cc) j (((rs.take j).map (cellF i)).flatMap valC) := OY9.out.alloc _; refine wpList_append_row (by rfl) _ _ 29 rfl W0.heap.size 33 i0 _ 3 32 Try.underlying29 hi hz0 hz1 hz2 rfl (by decide) (.slice ca j cc) j (((rs.take j).map (cellF i)).flatMap valC) rfl zo (.slice (some ⟨w9.heap.size, 0, none⟩) 1 1) 1 [.bool true, .int .i64 0, .string ⟨#[]⟩] rfl ⟨rfl, (by simp [Value.oneCell']), .inr ⟨_, _, rfl, World.news_of_block (heap_alloc_new w9 _)⟩⟩ (by unfold maxLen; omega) (by omega) (by have := BY9.out.size; rw [World.size_alloc]; omega) ?_; intro v4 w4 hown hg4 ha; have O4 := Lib.hid hown; have B4 : Hid (Below W0.heap.size W0 w4) := Lib.hid (Below.gr (show Below W0.heap.size W0 (w9.alloc (.cells #[.bool true, .int .i64 0, .string ⟨#[]⟩] 33)) from BY9.out.alloc BY9.out.size _) zo hg4); clear hown hg4 ha zo))
            go_roundg (gk - 1)
            case measure => have := HJG.out; omega
            case rel => exact ⟨j + 1, by go_num, by have := HJG.out; omega, by rw [ET.out, List.map_append, List.map_cons, List.map_nil, EX.out, List.length_append, LEN.out, List.flatMap_append]; exact O4.out, B4.out⟩
        · have tj : ¬ (j : Int) < (L : Int) := by omega
          obtain rfl : j = L := by have := HJG.out; omega
          have LV12 : lvs.length ≤ 12 := by rw [HLV.out]; omega
          have ER : rs.take j = rs := List.take_of_length_le (by rw [HL.out]; exact Nat.le_refl _)
          have OC : Hid (wr.ownsRow W0.heap.size 33 3 (.slice ca j cc) (rs.map (cellF i)).length ((rs.map (cellF i)).flatMap valC)) := Lib.hid (by have h1 := IC.out.1; rw [ER] at h1; rw [List.length_map, HL.out]; exact h1)
          clear ER
          go_wp2_with (at_builtin; have zo : (wr.alloc (.cells #[.slice ca j cc] 29)).ownsRow w.heap.size 29 1 (.slice va lvs.length vc) lvs.length lvs := own_to HM.out.own (IC.out.2.alloc IC.out.2.size _); refine wpList_append_row (by rfl) _ _ 50 rfl w.heap.size 29 i1 _ 1 24 Try.underlying50 hj hy0 hy1 hy2 rfl (by decide) (.slice va lvs.length vc) lvs.length lvs rfl zo (.slice (some ⟨wr.heap.size, 0, none⟩) 1 1) 1 [.slice ca j cc] rfl ⟨rfl, (by simp [Value.oneCell']), .inr ⟨_, _, rfl, World.news_of_block (heap_alloc_new wr _)⟩⟩ (by unfold maxLen; omega) (by omega) (by have := BW.out.size; rw [World.size_alloc]; omega) ?_; intro v4 w4 hown hg4 ha; have MS := Lib.hid (HM.out.snoc IC.out.2 OC.out hown hg4 ha); clear hown hg4 ha zo)
          go_roundg (G - 1)
          case measure => have := HIG.out; omega
          case rel => exact ⟨i + 1, _, by go_num, by have := HIG.out; omega, by rw [colsF_succ]; exact MS.out⟩
    · have ti : ¬ (i : Int) < (N : Int) := by omega
      obtain rfl : i = N := by have := HIG.out; omega
      have FIN : Hid (ClmPost w (colsF rs i) (.returned (.slice va lvs.length vc)) W0) := Lib.hid ⟨_, rfl, HM.out.rows (by simp [colsF]; omega) (fun p hp => by
        obtain ⟨k, _, rfl⟩ := List.mem_map.1 hp
        rw [List.length_map, HL.out]; omega), HM.out.below⟩
      go_wp2
      refine bodyPost_ret (v := .slice va lvs.length vc) ?_ rfl FIN.out
      simp (maxDischargeDepth := 9) [results, Try.results36, go_sem, *]
end Go.Proofs.Ytkblkjfejaflkaa
