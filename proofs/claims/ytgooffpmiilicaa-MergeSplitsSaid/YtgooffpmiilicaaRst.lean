/-
  THE REFERENCE'S SORT: ref13.Sort ('sortF'). Conditions: schema and records lie in memory as 'ColsAt', 'RecsAt' say; at most 2^42 records.
-/
import Derived.Test.YtgooffpmiilicaaSrt
import Derived.Deep.AppendLies
set_option linter.unusedVariables false
set_option linter.unusedSimpArgs false
namespace Go.Proofs.Ytgooffpmiilicaa
open Go.RowKit Srt
theorem insR_split {β : Type} (d : β → β → Int) (x : β) : ∀ (l : List β) (s : Nat) (hs : s ≤ l.length), (∀ i (h : i < l.length), i < s → d x (l[i]'h) < 0) → (∀ h : s < l.length, ¬ d x (l[s]'h) < 0) → insR d x l = l.take s ++ x :: l.drop s
  | [], s, hs, _, _ => by simp [insR]
  | y :: r, s, hs, h1, h2 => by
    unfold insR
    cases s with
    | zero => rw [if_neg (show ¬ d x y < 0 from h2 (by simp))]; rfl
    | succ s =>
      rw [if_pos (show d x y < 0 from h1 0 (by simp) (by omega))]
      have := insR_split d x r s (by simpa using hs) (fun i h q => h1 (i + 1) (by simpa using h) (by omega)) (fun h => h2 (by simpa using h))
      rw [this]; rfl
/-- One record more, put in from the right. -/
theorem srt_put {β : Type} (d : β → β → Int) (rs : List β) (k : Nat) (hk : k < rs.length) (O : List β) (hO : srt d (rs.take k) = O) (j : Nat) (hj : j ≤ O.length) (h1 : ∀ i (h : i < O.length), j ≤ i → d (rs[k]'hk) (O[i]'h) < 0) (h2 : ∀ i (h : i < O.length), i + 1 = j → ¬ d (rs[k]'hk) (O[i]'h) < 0) :
    srt d (rs.take (k + 1)) = O.take j ++ (rs[k]'hk) :: O.drop j := by
  have e1 : srtR d (rs.take (k + 1)) = insR d (rs[k]'hk) O.reverse := by
    unfold srtR
    rw [List.take_succ_eq_append_getElem hk, List.foldl_append]
    show insR d _ (srtR d (rs.take k)) = _
    rw [← hO]; unfold srt; rw [List.reverse_reverse]
  unfold srt
  rw [e1, insR_split d _ O.reverse (O.length - j) (by simp) (fun i h q => by
    rw [List.getElem_reverse]; exact h1 _ _ (by omega)) (fun h => by
    rw [List.getElem_reverse]; refine h2 _ _ ?_; simp at h; omega)]
  rw [List.reverse_append, List.reverse_cons, List.take_reverse, List.drop_reverse, List.reverse_reverse, List.reverse_reverse]
  rw [show O.length - (O.length - j) = j by omega]
  simp
theorem own_baseM {w : World} {base base' : Nat} {e : TypeId} {size : Nat} {v : Value} {n : Nat} {xs : List Value} (h : w.ownsRow base e size v n xs) (hb : base' ≤ base) : w.ownsRow base' e size v n xs := by
  refine ⟨h.1, h.2.imp id ?_⟩
  rintro ⟨g, cap, cur, h1, h2, h3, h4⟩
  exact ⟨g, cap, cur, h1, Nat.le_trans hb h2, h3, h4⟩
theorem run_recs_h {a : Option Addr} {n c K : Nat} (hK : K ≤ c) (W : World) : (Instr.slice 22 (.slice a n c) none (some (.int .i64 (K : Int))) none).run Try.prog W = .ok (sliced a 0 K c 2) W := by
  have ht : Try.prog.underlying 22 = some (.slice (Try.prog.elem 22)) := by kernel_rfl
  have he : Try.prog.elem 22 = 35 := by kernel_rfl
  obtain ⟨i1, hj, hy0, hy1, hy2⟩ := info_parts infoRec
  rw [run_slice_h (ht := ht) (h0 := by omega) (h2 := by omega), he]
  simp [sizeOf, typeInfo, hj, hy1, Result.andThen]
theorem run_recs_l {a : Option Addr} {n c K : Nat} (hK : K ≤ n) (W : World) : (Instr.slice 22 (.slice a n c) (some (.int .i64 (K : Int))) none none).run Try.prog W = .ok (sliced a K n c 2) W := by
  have ht : Try.prog.underlying 22 = some (.slice (Try.prog.elem 22)) := by kernel_rfl
  have he : Try.prog.elem 22 = 35 := by kernel_rfl
  obtain ⟨i1, hj, hy0, hy1, hy2⟩ := info_parts infoRec
  rw [run_slice_l (ht := ht) (h0 := by omega) (h1 := by omega), he]
  simp [sizeOf, typeInfo, hj, hy1, Result.andThen]
/-- A part of a row that the call owns, as a source. -/
theorem own_part {w : World} {base : Nat} {T : TypeId} {a : Option Addr} {n c : Nat} {ps : List (Int × Value)} (h : w.ownsRow base T 2 (.slice a n c) ps.length (ps.flatMap rcC)) (h1 : ∀ p ∈ ps, p.2.oneCell' = true) (lo hi m : Nat) (hlo : lo ≤ hi) (hhi : hi ≤ ps.length) (hm : m = c) :
    SrcRow w (sliced a lo hi m 2) (hi - lo) 2 (((ps.drop lo).take (hi - lo)).flatMap rcC) := by
  subst hm
  have hlen : ((ps.drop lo).take (hi - lo)).length = hi - lo := by simp; omega
  have key := srcRow_of (w := w) (xv := sliced a lo hi m 2) (k := 2) (by decide) rcC (fun _ => rfl)
  have one : ∀ u ∈ ((ps.drop lo).take (hi - lo)).flatMap rcC, u.oneCell' = true := by
    intro u hu
    obtain ⟨p, hp, hc⟩ := List.mem_flatMap.1 hu
    exact rcC_one p (h1 p (List.mem_of_mem_drop (List.mem_of_mem_take hp))) u hc
  refine ⟨by rw [flat_len rcC 2 (fun _ => rfl), hlen], one, ?_⟩
  by_cases h0 : hi - lo = 0
  · exact .inl ⟨h0, _, _, by unfold sliced; rw [h0]⟩
  rcases own_at (f := rcC) (k := 2) (fun _ => rfl) h with ⟨e, _⟩ | ⟨g, c', e, hc, _, hg, H⟩
  · subst e; simp at hhi; omega
  · injection e with e1 e2 e3
    subst e1 e3
    refine .inr ⟨⟨g, lo * 2, none⟩, m - lo, ?_, fun j u hj => ?_⟩
    · unfold sliced
      rw [if_neg (by omega)]
      by_cases k0 : lo = 0
      · simp [Addr.add, k0]
      · have k1 : ¬ lo * 2 = 0 := by omega
        simp [Addr.add, k1]
    · have hjl := (List.getElem?_eq_some_iff.1 hj).1
      rw [flat_len rcC 2 (fun _ => rfl), hlen] at hjl
      have hd : j / 2 < ((ps.drop lo).take (hi - lo)).length := by rw [hlen]; omega
      have hg2 := flat_get rcC 2 (fun _ => rfl) ((ps.drop lo).take (hi - lo)) (j / 2) (j % 2) hd (by omega)
      rw [show j / 2 * 2 + j % 2 = j by omega, hj, List.getElem_take, List.getElem_drop] at hg2
      have := H (lo + j / 2) (by rw [hlen] at hd; omega) (j % 2) u (by omega) hg2.symm
      rw [add_nil]
      rwa [show (lo + j / 2) * 2 + j % 2 = lo * 2 + j by omega] at this
theorem own_cap {w : World} {base : Nat} {T : TypeId} {size n m c : Nat} {a : Option Addr} {xs : List Value} (h : w.ownsRow base T size (.slice a n c) m xs) : m ≤ c := by
  rcases h.2 with ⟨_, h2⟩ | ⟨g, cap, cur, e, _, _, hc, _⟩
  · omega
  · injection e with _ _ e3; omega
structure RsMem (w wr : World) (ov : Value) (ps : List (Int × Value)) (rs : List Rc) : Prop where
  below : Below w.heap.size w wr
  own : wr.ownsRow w.heap.size 35 2 ov ps.length (ps.flatMap rcC)
  prs : Prs wr wr.heap.size ps rs
theorem RsMem.on {w wr wx : World} {ov : Value} {ps : List (Int × Value)} {rs : List Rc} (h : RsMem w wr ov ps rs) (hb : Below wr.heap.size wr wx) : RsMem w wx ov ps rs := ⟨Below.to h.below hb, own_to h.own hb, h.prs.mono hb hb.size⟩
theorem RsMem.recs {w wr : World} {ov : Value} {ps : List (Int × Value)} {rs : List Rc} (h : RsMem w wr ov ps rs) (hl : rs.length ≤ 9223372036854775807) : RecsAt wr wr.heap.size ov rs := own_recs hl h.prs h.own
theorem RsMem.ones {w wr : World} {ov : Value} {ps : List (Int × Value)} {rs : List Rc} (h : RsMem w wr ov ps rs) : ∀ p ∈ ps, p.2.oneCell' = true := by
  intro p hp
  obtain ⟨j, hj, rfl⟩ := List.getElem_of_mem hp
  exact vals_one (h.prs.2 j hj (by rw [← h.prs.1]; exact hj)).2
def RsPost (w : World) (rs : List Rc) (e : Ending) (w' : World) : Prop := ∃ v1 ps, e = .returned v1 ∧ RsMem w w' v1 ps rs
set_option maxRecDepth 8000 in
set_option maxHeartbeats 2000000 in
theorem refSort_any (cv : Value) (cs : List Col) (key : Int) (v : Value) (rs : List Rc) (w : World) (hc : ColsAt w w.heap.size cv cs) (h : RecsAt w w.heap.size v rs) (hb : rs.length ≤ 4398046511104) :
    Calls Try.prog 46 #[.agg #[cv, .int .i64 key], v] w (RsPost w (sortF cs key rs)) := by
  obtain ⟨V, hV⟩ : ∃ V, validF cs key rs = V := ⟨_, rfl⟩
  have VC := Lib.hid (fun (W : World) (hb : Below w.heap.size w W) => (by have q := refValid_any cv cs key v rs W (hc.mono hb hb.size) (h.mono hb hb.size); rw [hV] at q; exact q : Calls Try.prog 44 #[.agg #[cv, .int .i64 key], v] W fun e w' => e = .returned (.bool V) ∧ Below W.heap.size W w'))
  obtain ⟨i0, hi, hz0, hz1, hz2⟩ := info_parts infoRec
  obtain ⟨ca, cc, rfl⟩ := cols_end hc
  obtain ⟨ra, rc, rfl⟩ := recs_end h
  obtain ⟨nc, hnc⟩ : ∃ nc, cs.length = nc := ⟨_, rfl⟩
  obtain ⟨m, hm⟩ : ∃ m, rs.length = m := ⟨_, rfl⟩
  rw [hnc] at hc VC ⊢
  rw [hm] at h VC hb ⊢
  have HC := Lib.hid hc
  have HR := Lib.hid h
  have HM := Lib.hid hm
  cases V with
  | false =>
    have E : sortF cs key rs = [] := by unfold sortF; rw [if_neg (by rw [hV]; decide)]
    rw [E]
    clear E hV hc h hnc hm
    go_enter Try.func46, Try.ntmps46
    go_wp2_with (go_at_call 44; refine Calls.mono (VC.out _ (by repeat (first | with_reducible exact Below.refl _ _ | with_reducible assumption | with_reducible refine Below.al ?_ _ | with_reducible refine Below.on ?_ _ | with_reducible refine Below.st ?_ (by first | assumption | (simp; done) | (simp; omega)) _ | with_reducible refine Below.drew ?_))) ?_; rintro e w1 ⟨rfl, hb1⟩; obtain ⟨x1, rfl⟩ := Ext.of hb1; have z0 : w.heap.size < x1.it.heap.size := x1.lt (by (first | assumption | (simp; done) | (simp; omega))))
    refine bodyPost_ret (v := .slice none 0 0) ?_ rfl ⟨_, [], rfl, by repeat (first | with_reducible exact Below.refl _ _ | with_reducible assumption | with_reducible refine Below.al ?_ _ | with_reducible refine Below.on ?_ _ | with_reducible refine Below.st ?_ (by first | assumption | (simp; done) | (simp; omega)) _ | with_reducible refine Below.drew ?_), World.ownsRow_nil _ _ _ _, Prs.nil⟩
    simp (maxDischargeDepth := 9) [results, Try.results46, go_sem, *]
  | true =>
    obtain ⟨K, rfl, hk⟩ := validF_key hV
    have E : sortF cs K rs = srt (recD (tyK cs K) K) rs := by unfold sortF; rw [if_pos hV]
    rw [E]
    have HK0 := Lib.hid hk
    clear E hV hc h hnc hm hk
    go_enter Try.func46, Try.ntmps46
    go_upto_region 5 with (go_at_call 44; refine Calls.mono (VC.out _ (by repeat (first | with_reducible exact Below.refl _ _ | with_reducible assumption | with_reducible refine Below.al ?_ _ | with_reducible refine Below.on ?_ _ | with_reducible refine Below.st ?_ (by first | assumption | (simp; done) | (simp; omega)) _ | with_reducible refine Below.drew ?_))) ?_; rintro e w1 ⟨rfl, hb1⟩; obtain ⟨x1, rfl⟩ := Ext.of hb1; have z0 : w.heap.size < x1.it.heap.size := x1.lt (by (first | assumption | (simp; done) | (simp; omega))))
    refine captureM ?_
    intro y ey
    have yb : Below w.heap.size w y := by rw [ey]; exact (by repeat (first | with_reducible exact Below.refl _ _ | with_reducible assumption | with_reducible refine Below.al ?_ _ | with_reducible refine Below.on ?_ _ | with_reducible refine Below.st ?_ (by first | assumption | (simp; done) | (simp; omega)) _ | with_reducible refine Below.drew ?_))
    have y0 : y.cell? ⟨w.heap.size, 0, none⟩ = some (.slice ca nc cc) := by rw [ey]; simp (maxDischargeDepth := 9) [go_sem, *]
    have y1 : y.cell? ⟨w.heap.size, 1, none⟩ = some (.int .i64 (K : Int)) := by rw [ey]; simp (maxDischargeDepth := 9) [go_sem, *]
    have yz : w.heap.size < y.heap.size := by rw [ey]; (first | with_reducible assumption | (simp only [World.size_setCell, World.size_alloc, World.size_drew]; first | with_reducible assumption | omega))
    clear ey
    have YB := Lib.hid yb
    have HCy := Lib.hid (HC.out.mono yb yb.size)
    have HRy := Lib.hid (HR.out.mono yb yb.size)
    go_wp2_with fail
    go_loopg [5, 16] m (fun g ov st wr => ∃ (k : Nat) (ps : List (Int × Value)), k + g = m ∧ st = .int .i64 (k : Int) ∧ RsMem y wr ov ps (srt (recD (tyK cs K) K) (rs.take k)))
    case atStart => exact ⟨0, [], by omega, rfl, Below.refl _ _, World.ownsRow_nil _ _ _ _, by rw [List.take_zero]; exact Prs.nil⟩
    case round =>
      obtain ⟨k, ps, hk, rfl, M⟩ := hrel
      obtain ⟨og, hog⟩ : ∃ og, og = gk := ⟨_, rfl⟩
      obtain ⟨O, hO⟩ : ∃ O, srt (recD (tyK cs K) K) (rs.take k) = O := ⟨_, rfl⟩
      rw [hO] at M
      have OL : O.length = k := by rw [← hO, srt_len, List.length_take, HM.out]; omega
      have PL : ps.length = k := by rw [M.prs.1, OL]
      obtain ⟨va, vc, ev⟩ := own_form M.own
      rw [PL] at ev
      subst ev
      have HO := Lib.hid hO
      have MH := Lib.hid M
      have HL2 := Lib.hid (And.intro OL PL)
      have hx := M.below
      have s0 := (hx.cell (p := ⟨w.heap.size, 0, none⟩) yz).trans y0
      have s1 := (hx.cell (p := ⟨w.heap.size, 1, none⟩) yz).trans y1
      have zw : w.heap.size < wr.heap.size := Nat.lt_of_lt_of_le yz hx.size
      have zy := hx.size
      have HX := Lib.hid hx
      have HOG := Lib.hid hog
      clear hO OL PL M hx hog
      by_cases hg0 : gk = 0
      · subst hg0
        have hkm := Lib.hid (show k = m by omega)
        have hkm' : ¬ (k : Int) < (m : Int) := by omega
        clear hk
        go_wp2
        have e : O = srt (recD (tyK cs K) K) rs := by rw [← HO.out, List.take_of_length_le (by rw [HM.out, hkm.out]; exact Nat.le_refl _)]
        rw [e] at MH
        refine bodyPost_ret (v := .slice va k vc) ?_ rfl ⟨_, ps, rfl, Below.to YB.out HX.out, own_baseM MH.out.own YB.out.size, MH.out.prs⟩
        simp (maxDischargeDepth := 9) [results, Try.results46, go_sem, *]
      · have hkn : k < m := by omega
        have hkn' : (k : Int) < (m : Int) := by omega
        have hkl : k < rs.length := by rw [HM.out]; exact hkn
        obtain ⟨b, o, rfl, hcap, hb', c0, lv, c1, c2⟩ := recs_in HR.out hkl
        obtain ⟨R, hd⟩ : ∃ d, rs[k]'hkl = d := ⟨_, rfl⟩
        have SPUT := Lib.hid (srt_put (recD (tyK cs K) K) rs k hkl O HO.out)
        rw [hd] at c0 c2 SPUT
        obtain ⟨sq, row⟩ := R
        dsimp only at c0 c2
        have f0 := (HX.out.cell (p := ⟨b, o + k * 2, none⟩) (Nat.lt_of_lt_of_le hb' YB.out.size)).trans ((YB.out.cell (p := ⟨b, o + k * 2, none⟩) hb').trans c0)
        have f1 := (HX.out.cell (p := ⟨b, o + k * 2 + 1, none⟩) (Nat.lt_of_lt_of_le hb' YB.out.size)).trans ((YB.out.cell (p := ⟨b, o + k * 2 + 1, none⟩) hb').trans c1)
        have zb : b < wr.heap.size := Nat.lt_of_lt_of_le hb' (Nat.le_trans YB.out.size zy)
        have VV := Lib.hid (c2.mono (Below.to YB.out HX.out) (Nat.le_trans YB.out.size zy))
        obtain ⟨la, lc, rfl⟩ := vals_end c2
        obtain ⟨rl, hrl⟩ : ∃ rl, row.length = rl := ⟨_, rfl⟩
        rw [hrl] at f1 VV
        have HRL := Lib.hid hrl
        have GZ := Lib.hid (And.intro hk hg0)
        clear c0 c1 c2 hcap hd hk hg0 hrl
        go_upto_region 8 with fail
        refine captureM ?_
        intro u eu
        have ub : Below wr.heap.size wr u := by rw [eu]; exact (by repeat (first | with_reducible exact Below.refl _ _ | with_reducible assumption | with_reducible refine Below.al ?_ _ | with_reducible refine Below.on ?_ _ | with_reducible refine Below.st ?_ (by first | assumption | (simp; done) | (simp; omega)) _ | with_reducible refine Below.drew ?_))
        have uz : wr.heap.size < u.heap.size := by rw [eu]; simp
        have u0 : u.cell? ⟨wr.heap.size, 0, none⟩ = some (.int .i64 sq) := by rw [eu]; simp (maxDischargeDepth := 9) [go_sem, *]
        have u1 : u.cell? ⟨wr.heap.size, 1, none⟩ = some (.slice la rl lc) := by rw [eu]; simp (maxDischargeDepth := 9) [go_sem, *]
        have s2 := (ub.cell (p := ⟨w.heap.size, 0, none⟩) zw).trans s0
        have s3 := (ub.cell (p := ⟨w.heap.size, 1, none⟩) zw).trans s1
        have MU := Lib.hid (MH.out.on ub)
        have VU := Lib.hid (VV.out.mono ub ub.size)
        have XU := Lib.hid (Below.to (Below.to YB.out HX.out) ub)
        have zu : w.heap.size < u.heap.size := Nat.lt_of_lt_of_le zw ub.size
        clear eu f0 f1 s0 s1 ub
        generalize wr.heap.size = RB at *
        have RKX := Lib.hid (fun (W : World) (hb : Below u.heap.size u W) => refRank_any (.slice ca nc cc) K sq (.slice la rl lc) row W (VU.out.mono hb hb.size))
        have KTX := Lib.hid (fun (W : World) (hb : Below u.heap.size u W) => keyType_any (.slice ca nc cc) cs K HK0.out W (HC.out.mono (Below.to XU.out hb) (Below.to XU.out hb).size))
        obtain ⟨ty, hty⟩ : ∃ ty, tyK cs K = ty := ⟨_, rfl⟩
        rw [hty] at KTX SPUT
        obtain ⟨⟨⟨an, ai, as'⟩, p⟩, hA⟩ : ∃ r, rankF K ⟨sq, row⟩ = r := ⟨_, rfl⟩
        rw [hA] at RKX
        have RA : Hid (∀ (W : World) (hb : Below u.heap.size u W), Calls Try.prog 24 #[.agg #[.slice ca nc cc, .int .i64 (K : Int)], .agg #[.int .i64 sq, .slice la rl lc]] W fun e w' => e = .returned (.agg #[.bool an, .int .i64 ai, .string as', .int .i64 p]) ∧ Below W.heap.size W w') := RKX
        have HA := Lib.hid hA
        have HTY := Lib.hid hty
        clear RKX hA hty
        go_wp2_with fail
        go_loopg [8] k (fun g st w2 => ∃ j : Nat, st = .int .i64 (j : Int) ∧ j = g ∧ j ≤ k ∧ (∀ i (h : i < O.length), j ≤ i → recD ty K ⟨sq, row⟩ (O[i]'h) < 0) ∧ ∃ x : Ext u, x.it = w2)
        case atStart => exact ⟨k, by go_num, rfl, Nat.le_refl _, fun i h q => by have := HL2.out.1; omega, ⟨u, Below.refl _ _⟩, rfl⟩
        case round =>
          obtain ⟨j, rfl, hj, hjk, hall, x, rfl⟩ := hrel
          have HALL := Lib.hid hall
          have HJ := Lib.hid hj
          have JK := Lib.hid hjk
          clear hall hj
          have x0 := (x.cell RB 0 uz).trans u0
          have x1 := (x.cell RB 1 uz).trans u1
          have x2 := (x.cell w.heap.size 0 zu).trans s2
          have x3 := (x.cell w.heap.size 1 zu).trans s3
          have xz := x.lt uz
          have xw := x.lt zu
          have MX := Lib.hid (MU.out.on x.below)
          by_cases j0 : j = 0
          case' neg =>
            obtain ⟨jp, hjp⟩ : ∃ jp, j = jp + 1 := ⟨j - 1, by omega⟩
            have jl : jp < O.length := by rw [HL2.out.1]; omega
            have jl2 : jp < ps.length := by rw [HL2.out.2]; omega
            obtain ⟨C, hC⟩ : ∃ C, recD ty K ⟨sq, row⟩ (O[jp]'jl) = C := ⟨_, rfl⟩
            obtain ⟨⟨bsq, brow⟩, hOj⟩ : ∃ d, O[jp]'jl = d := ⟨_, rfl⟩
            obtain ⟨q0, q1⟩ := MX.out.prs.2 jp jl2 jl
            rcases own_at (f := rcC) (k := 2) (fun _ => rfl) MX.out.own with ⟨e, _⟩ | ⟨g, c', ev, _, _, hg, H⟩
            · subst e; exact absurd jl2 (by simp)
            injection ev with ev1 ev2 ev3
            clear ev2 ev3
            subst ev1
            have y2 := H jp jl2 0 _ (by omega) rfl
            have y3 := H jp jl2 1 _ (by omega) rfl
            rw [q0, hOj] at y2
            rw [hOj] at q1
            dsimp only at y2 q1
            obtain ⟨bv, hbv⟩ : ∃ bv, (ps[jp]'jl2).2 = bv := ⟨_, rfl⟩
            rw [hbv] at y3 q1
            have C2 := hC
            rw [hOj] at C2
            unfold recD at C2
            rw [HA.out] at C2
            obtain ⟨⟨⟨bn, bi, bs'⟩, q⟩, hB2⟩ : ∃ r, rankF K ⟨bsq, brow⟩ = r := ⟨_, rfl⟩
            rw [hB2] at C2
            have RB2 := Lib.hid (fun (W : World) (h : Below x.it.heap.size x.it W) => (by have z := refRank_any (.slice ca nc cc) K bsq bv brow W (q1.mono h h.size); rw [hB2] at z; exact z : Calls Try.prog 24 #[.agg #[.slice ca nc cc, .int .i64 (K : Int)], .agg #[.int .i64 bsq, bv]] W fun e w' => e = .returned (.agg #[.bool bn, .int .i64 bi, .string bs', .int .i64 q]) ∧ Below W.heap.size W w'))
            have CM := Lib.hid (fun W => (by have z := refCompareR_any ty an ai as' p bn bi bs' q W; rw [C2] at z; exact z : Calls Try.prog 20 #[.int .i64 ty, .agg #[.bool an, .int .i64 ai, .string as', .int .i64 p], .agg #[.bool bn, .int .i64 bi, .string bs', .int .i64 q]] W fun e w' => e = .returned (.int .i64 C) ∧ Below W.heap.size W w'))
            obtain ⟨ba, bc, rfl⟩ := vals_end q1
            generalize brow.length = bl at *
            have i0 : IntKind.i64.wrap ((j : Int) - 1) = (jp : Int) := by rw [IntKind.wrap_i64]; omega
            have i0' : (j : Int) - 1 = (jp : Int) := by omega
            have i1 : (0 : Int) < (j : Int) := by omega
            have i1' : decide (0 < j) = true := by simp; omega
            have i2 : (0 : Int) ≤ (jp : Int) := by omega
            have i4 : (jp : Int) < (k : Int) := by omega
            have jb : (j : Int) ≤ 4398046511104 := by omega
            have HJP := Lib.hid hjp
            have HCC := Lib.hid hC
            clear hC hOj q0 q1 H hbv C2 hB2 hjp j0 hjk jl2
            simp only [Nat.add_zero] at y2
            by_cases s4 : C < 0
            · have t0 : decide (C < 0) = true := by simpa using s4
              go_upto_region 8 with fail
              refine wp_region_ext (by kernel_rfl) (by kernel_rfl) ?_
              repeat (go_big_quiet_step ((first | (go_at_call 23; exact Calls.ext (KTX.out _ (Below.to x.below (Ext.below _)))) | (go_at_call 24; with_reducible exact Calls.ext (RA.out _ (Below.to x.below (Ext.below _)))) | (go_at_call 24; with_reducible exact Calls.ext (RB2.out _ (Ext.below _))) | (go_at_call 20; exact Calls.ext (CM.out _)))))
              refine wpQuiet_nil ?_
              rintro _ ⟨x5, rfl⟩
              clear i0 i0' i2 i4
              go_wp2_with fail
              go_roundg (gk - 1)
              case measure => have := HJP.out; have := HJ.out; omega
              case rel => exact ⟨jp, by rw [show (jp : Int) = (j : Int) - 1 by have := HJP.out; omega], by have := HJP.out; have := HJ.out; omega, by have := HJP.out; have := JK.out; omega, fun i h q => by
                by_cases e : i = jp
                · subst e; rw [HCC.out]; exact s4
                · exact HALL.out i h (by have := HJP.out; omega), ⟨x5.it, Below.on x.below x5⟩, rfl⟩
            have t0 : decide (C < 0) = false := by simpa using s4
            have STOP := Lib.hid (show ∀ i (h : i < O.length), i + 1 = j → ¬ recD ty K ⟨sq, row⟩ (O[i]'h) < 0 from fun i h e => by
              have := HJP.out
              obtain rfl : i = jp := by omega
              rw [HCC.out]; exact s4)
            go_upto_region 8 with fail
            refine wp_region_ext (by kernel_rfl) (by kernel_rfl) ?_
            repeat (go_big_quiet_step ((first | (go_at_call 23; exact Calls.ext (KTX.out _ (Below.to x.below (Ext.below _)))) | (go_at_call 24; with_reducible exact Calls.ext (RA.out _ (Below.to x.below (Ext.below _)))) | (go_at_call 24; with_reducible exact Calls.ext (RB2.out _ (Ext.below _))) | (go_at_call 20; exact Calls.ext (CM.out _)))))
            refine wpQuiet_nil ?_
            rintro _ ⟨x5, rfl⟩
            clear i0 i0' i1 i1' i2 i4 jb y2 y3 RB2 CM HCC HJP t0 s4 jl
            generalize (some (⟨g, 0, none⟩ : Addr)) = va at *
          case' pos =>
            have i1 : ¬ (0 : Int) < (j : Int) := by omega
            have i1' : decide (0 < j) = false := by simp; omega
            have STOP := Lib.hid (show ∀ i (h : i < O.length), i + 1 = j → ¬ recD ty K ⟨sq, row⟩ (O[i]'h) < 0 from fun i h e => by omega)
            clear j0 hjk
            go_upto_region 8 with fail
            refine wp_region_ext (by kernel_rfl) (by kernel_rfl) ?_
            repeat (go_big_quiet_step ((fail)))
            refine wpQuiet_nil ?_
            rintro _ ⟨x5, rfl⟩
            clear i1 i1'
          all_goals
            have XB : Below u.heap.size u x5.it := Below.to x.below x5.below
            have M5 := MU.out.on XB
            have OC := own_cap M5.own
            have O1 := own_part M5.own M5.ones 0 j vc (Nat.zero_le _) (by rw [HL2.out.2]; exact JK.out) rfl
            have O2 := own_part M5.own M5.ones j k vc JK.out (by rw [HL2.out.2]; exact Nat.le_refl _) rfl
            rw [HL2.out.2] at OC
            simp only [Nat.sub_zero, List.drop_zero] at O1
            have jc : j ≤ vc := Nat.le_trans JK.out OC
            have hV1 : sliced va 0 j vc 2 = .slice va j vc := by
              unfold sliced
              by_cases q : vc = 0
              · rw [if_pos q]; rfl
              · rw [if_neg q]; cases va <;> simp [Addr.add]
            have jcz : (j : Int) ≤ (vc : Int) := by omega
            obtain ⟨V2, hV2⟩ : ∃ V, sliced va j k vc 2 = V := ⟨_, rfl⟩
            rw [hV1] at O1
            rw [hV2] at O2
            have SL1 : ∀ W, (Instr.slice 22 (.slice va k vc) none (some (.int .i64 (j : Int))) none).run Try.prog W = .ok (.slice va j vc) W := fun W => by rw [run_recs_h jc, hV1]
            have SL2 : ∀ W, (Instr.slice 22 (.slice va k vc) (some (.int .i64 (j : Int))) none none).run Try.prog W = .ok V2 W := fun W => by rw [run_recs_l JK.out, hV2]
            have HM5 := Lib.hid M5
            have HO1 := Lib.hid O1
            have z0 := Nat.lt_of_lt_of_le uz XB.size
            have z1 := Nat.lt_of_lt_of_le zu XB.size
            have r0 := (XB.cell (p := ⟨RB, 0, none⟩) uz).trans u0
            have r1 := (XB.cell (p := ⟨RB, 1, none⟩) uz).trans u1
            have HXB := Lib.hid XB
            have kb : k + 1 ≤ 4398046511104 := by omega
            have KB := Lib.hid kb
            have YX := Lib.hid M5.below.size
            clear O1 O2 OC jc hV1 hV2 M5 XB x0 x1 x2 x3 xz xw
            go_upto_region 11 with (at_builtin; go_must (refine wpList_append_row (by rfl) _ _ 22 rfl x5.it.heap.size 35 i0 _ 2 32 Try.underlying22 hi hz0 hz1 hz2 rfl (by decide) (.slice none 0 0) 0 [] rfl (World.ownsRow_nil _ _ _ _) (.slice va j vc) j ((ps.take j).flatMap rcC) rfl HO1.out (by have := JK.out; have := KB.out; unfold maxLen; omega) (by have := JK.out; have := KB.out; omega) (Nat.le_refl _) ?_); intro v6 w6 hown6 hg6 ha6; rw [Nat.zero_add, List.nil_append] at hown6; obtain ⟨a6, c6, rfl⟩ := own_form hown6; have OW6 := Lib.hid hown6; have B6 : Hid (Below x5.it.heap.size x5.it w6) := Lib.hid (Below.gr (Below.refl x5.it.heap.size x5.it) (World.ownsRow_nil _ _ _ _ : x5.it.ownsRow x5.it.heap.size 35 2 (.slice none 0 0) 0 []) hg6); clear hown6 hg6 ha6)
            have q0 := (B6.out.cell (p := ⟨RB, 0, none⟩) z0).trans r0
            have q1 := (B6.out.cell (p := ⟨RB, 1, none⟩) z0).trans r1
            have q2 : RB < w6.heap.size := Nat.lt_of_lt_of_le z0 B6.out.size
            have TL : ((ps.take j).length) = j := by rw [List.length_take, HL2.out.2]; have := JK.out; omega
            have TLH := Lib.hid TL
            clear r0 r1 TL jcz
            go_upto_region 12 with (at_builtin; go_must (refine wpList_append_lies _ rfl _ _ 22 rfl x5.it.heap.size 35 i0 _ 2 32 Try.underlying22 hi hz0 hz1 hz2 rfl (by decide) (.slice a6 j c6) j ((ps.take j).flatMap rcC) rfl (OW6.out.alloc _) ⟨w6.heap.size, 0, none⟩ 1 1 (rcC (sq, .slice la rl lc)) rfl rfl (World.news_of_block (heap_alloc_new w6 _)) (rcC_one _ rfl) (by omega) (by have := JK.out; have := KB.out; unfold maxLen; omega) (by have := JK.out; have := KB.out; omega) (by have := B6.out.size; simp; omega) (w6.heap.size + 1) (by simp) ?_); intro gb cap w7 hown7 hg7 hat7 hlt7; have OW7 := Lib.hid hown7; have B7 : Hid (Below x5.it.heap.size x5.it w7) := Lib.hid (Below.gr (Below.al B6.out _) OW6.out hg7); clear hown7 hg7 hat7 hlt7)
            have M7 := HM5.out.on B7.out
            have O2 := own_part M7.own M7.ones j k vc JK.out (by rw [HL2.out.2]; exact Nat.le_refl _) rfl
            have SV2 := SL2 w
            have ev2 : sliced va j k vc 2 = V2 := by rw [run_recs_l JK.out] at SV2; injection SV2
            rw [ev2] at O2
            have TK : (ps.drop j).take (k - j) = ps.drop j := List.take_of_length_le (by rw [List.length_drop, HL2.out.2]; exact Nat.le_refl _)
            rw [TK] at O2
            have HO2 := Lib.hid O2
            clear SV2 ev2 O2 TK M7 q0 q1
            go_wp2_with (at_builtin; go_must (refine wpList_append_row (by rfl) _ _ 22 rfl x5.it.heap.size 35 i0 _ 2 32 Try.underlying22 hi hz0 hz1 hz2 rfl (by decide) (.slice (some ⟨gb, 0, none⟩) (j + 1) cap) (j + 1) ((ps.take j).flatMap rcC ++ rcC (sq, .slice la rl lc)) rfl OW7.out V2 (k - j) ((ps.drop j).flatMap rcC) rfl HO2.out (by have := JK.out; have := KB.out; unfold maxLen; omega) (by have := JK.out; have := KB.out; omega) (by have := B7.out.size; omega) ?_); intro v8 w8 hown8 hg8 ha8; have OW8 := Lib.hid hown8; have B8 : Hid (Below x5.it.heap.size x5.it w8) := Lib.hid (Below.gr B7.out OW7.out hg8); clear hown8 hg8 ha8)
            go_roundg (og - 1)
            case measure => have := GZ.out; have := HOG.out; omega
            case rel =>
              have M8 := HM5.out.on B8.out
              have E := SPUT.out j (by rw [HL2.out.1]; exact JK.out) HALL.out STOP.out
              refine ⟨k + 1, ps.take j ++ (sq, .slice la rl lc) :: ps.drop j, by have := GZ.out; have := HOG.out; omega, by go_num, M8.below, ?_, ?_⟩
              · have e1 : (ps.take j ++ (sq, Value.slice la rl lc) :: ps.drop j).length = j + 1 + (k - j) := by rw [List.length_append, List.length_cons, TLH.out, List.length_drop, HL2.out.2]; omega
                have e2 : (ps.take j ++ (sq, Value.slice la rl lc) :: ps.drop j).flatMap rcC = (ps.take j).flatMap rcC ++ rcC (sq, .slice la rl lc) ++ (ps.drop j).flatMap rcC := by simp
                rw [e1, e2]
                exact own_baseM OW8.out YX.out
              · rw [HTY.out, E]
                refine Prs.app (M8.prs.take j) ?_
                have V8 := VU.out.mono (Below.to HXB.out B8.out) (Below.to HXB.out B8.out).size
                exact Prs.app (ps := [(sq, .slice la rl lc)]) (rs := [⟨sq, row⟩]) (Prs.snoc Prs.nil rfl V8) (M8.prs.drop j)
end Go.Proofs.Ytgooffpmiilicaa
