/-
  CHAPTER 26: the reference's groupsOf. Conditions: the schema, the columns and the rows lie in memory; each row has the columns.
-/
import Derived.Test.YtpahoenanfjhpaaGreatGspz
import Derived.Test.YtpahoenanfjhpaaGreatRqaz
import Derived.Test.YtpahoenanfjhpaaGreatRslz
set_option linter.unusedVariables false
set_option linter.unusedSimpArgs false
namespace Go.Proofs.YtpahoenanfjhpaaGreat
open Go.RowKit Srt
theorem gins_map {α β : Type} (f : α → β) {D : α → α → Int} {d : β → β → Int} (h : ∀ x y, D x y = d (f x) (f y)) (x : α) : ∀ gs : List (List α), (gins D x gs).map (List.map f) = gins d (f x) (gs.map (List.map f))
  | [] => rfl
  | g :: gs => by
    have e : (g.map f).headD (f x) = f (g.headD x) := by cases g <;> rfl
    show (gins D x (g :: gs)).map (List.map f) = gins d (f x) (g.map f :: gs.map (List.map f))
    unfold gins
    rw [e, ← h]
    split
    · rw [List.map_cons, gins_map f h x gs]
    · split
      · simp
      · simp
theorem grp_map {α β : Type} (f : α → β) {D : α → α → Int} {d : β → β → Int} (h : ∀ x y, D x y = d (f x) (f y)) (l : List α) : (grp D l).map (List.map f) = grp d (l.map f) := by
  have key : ∀ (l : List α) (gs : List (List α)), (l.foldl (fun gs x => gins D x gs) gs).map (List.map f) = (l.map f).foldl (fun gs x => gins d x gs) (gs.map (List.map f)) := by
    intro l
    induction l with
    | nil => intro gs; rfl
    | cons x l ih =>
      intro gs
      show ((l.foldl _ (gins D x gs)).map _) = (l.map f).foldl _ (gins d (f x) (gs.map (List.map f)))
      rw [ih, gins_map f h]
  exact key l []
/-- Lists of rows in memory. -/
def GrsAt (w : World) (B : Nat) (v : Value) (gs : List (List (List Val))) : Prop :=
  gs.length ≤ 9223372036854775807 ∧ ((gs = [] ∧ ∃ a c, v = .slice a 0 c) ∨ ∃ b o c, v = .slice (some ⟨b, o, none⟩) gs.length c ∧ gs.length ≤ c ∧ b < B ∧ ∀ j (h : j < gs.length), ∃ lv, w.cell? ⟨b, o + j, none⟩ = some lv ∧ RowsAt w B lv (gs[j]'h))
theorem groupsF_ref (cs : List Col) (gr : List Int) (rows : List (List Val)) : groupsF cs gr rows = if gr = [] then [rows] else grp (fun x y => grpC cs x y gr) rows := by
  unfold groupsF
  by_cases hg : gr = []
  · rw [if_pos hg]
    subst hg
    by_cases hr : rows = []
    · rw [if_pos ⟨hr, rfl⟩, hr]
    · rw [if_neg (fun q => hr q.1), grp_zero (d := fun (x y : List Val) => grpC cs x y []) (fun x y => rfl) rows, if_neg hr]
  · rw [if_neg hg, if_neg (fun q => hg q.2)]
/-- The rows with their slices. -/
abbrev SD (cs : List Col) (gr : List Int) (x y : Value × List Val) : Int := grpC cs x.2 y.2 gr
theorem SD_pre (cs : List Col) (gr : List Int) : Pre (SD cs gr) := ⟨fun x y => (grpC_pre cs gr).anti x.2 y.2, fun x y z => (grpC_pre cs gr).trans x.2 y.2 z.2⟩
theorem gm_rows {base : Nat} {W : World} {v : Value} {hs : List Value} {gs : List (List (Value × List Val))} (h : GM base W v hs gs) (hv : ∀ g ∈ gs, ∀ x ∈ g, ValsAt W W.heap.size x.1 x.2) (hl : gs.length ≤ 1048576) (hl2 : ∀ g ∈ gs, g.length ≤ 1048576) : GrsAt W W.heap.size v (gs.map (List.map (·.2))) := by
  refine ⟨by simp; omega, ?_⟩
  by_cases h0 : gs.length = 0
  · obtain rfl : gs = [] := List.eq_nil_of_length_eq_zero h0
    obtain ⟨a, c, e⟩ := h.form
    exact .inl ⟨rfl, a, c, e⟩
  · obtain ⟨g, c, rfl, hg, _, hc, _⟩ := h.at (k := 0) (by omega)
    refine .inr ⟨g, 0, c, by simp, by simpa using hc, hg, fun j hj => ?_⟩
    have hj' : j < gs.length := by simpa using hj
    obtain ⟨g', c', e, _, _, _, hv', _, hcell, _, hown⟩ := h.at hj'
    injection e with e1 e2 e3
    injection e1 with e1
    injection e1 with e1
    subst e1
    refine ⟨hv', by rw [Nat.zero_add]; exact hcell, ?_⟩
    have hm : gs[j]'hj' ∈ gs := List.getElem_mem _
    rw [List.getElem_map]
    refine own_rowsL (T := 42) (base := base) (ps := (gs[j]'hj').map (·.1)) (by have := hl2 _ hm; simp; omega) ⟨by simp, fun i hi hi' => ?_⟩ (by rw [List.length_map]; exact hown)
    rw [List.getElem_map, List.getElem_map]
    exact hv _ hm _ (List.getElem_mem _)
theorem good_len' {α : Type} {d : α → α → Int} : ∀ {gs : List (List α)}, Srt.Good d gs → gs.length ≤ gs.flatten.length
  | [], _ => by simp
  | g :: gs, h => by
    have h1 := good_len' h.tail
    have h2 := List.length_pos_iff.2 (h.ne g (by simp))
    rw [List.flatten_cons, List.length_append, List.length_cons]; omega
set_option maxRecDepth 8000 in
set_option maxHeartbeats 2000000 in
theorem refgroups_any (cv : Value) (cs : List Col) (key : Int) (gv : Value) (gr : List Int) (rv : Value) (rows : List (List Val)) (w : World) (hc : ColsAt w w.heap.size cv cs) (hg : IntsAt w w.heap.size gv gr) (hr : RowsAt w w.heap.size rv rows)
    (hin : InC cs.length gr) (hrl : ∀ r ∈ rows, r.length = cs.length) (h20 : rows.length ≤ 1048576) (g16 : gr.length ≤ 16) :
    Calls Tryz.prog 68 #[.agg #[cv, .int .i64 key], gv, rv] w fun e w' => ∃ v, e = .returned v ∧ GrsAt w' w'.heap.size v (groupsF cs gr rows) ∧ Below w.heap.size w w' := by
  obtain ⟨i1, hj, hy0, hy1, hy2⟩ := info_parts infoGrp
  obtain ⟨i0, hi, hz0, hz1, hz2⟩ := info_parts infoRow
  obtain ⟨ca, cc, rfl⟩ := cols_end hc
  obtain ⟨ga, gc, rfl⟩ := ints_end hg
  obtain ⟨ra, rc, rfl⟩ := rows_end hr
  obtain ⟨nc, hnc⟩ : ∃ n, cs.length = n := ⟨_, rfl⟩
  obtain ⟨ng, hng⟩ : ∃ n, gr.length = n := ⟨_, rfl⟩
  obtain ⟨m, hm⟩ : ∃ n, rows.length = n := ⟨_, rfl⟩
  rw [groupsF_ref]
  have HR0 := Lib.hid hr
  rw [hnc] at hc hin hrl ⊢
  rw [hng] at hg g16 ⊢
  rw [hm] at hr h20 HR0 ⊢
  have HC := Lib.hid hc
  have HG := Lib.hid hg
  have HR := Lib.hid hr
  have LC := Lib.hid hnc
  have LG := Lib.hid hng
  have LM := Lib.hid hm
  have HIN := Lib.hid hin
  have HRL := Lib.hid hrl
  clear hc hg hr hnc hng hm hin hrl
  by_cases g0 : ng = 0
  · subst g0
    have gn : gr = [] := List.eq_nil_of_length_eq_zero LG.out
    rw [if_pos gn]
    have t0 : (((0 : Nat) : Int) == 0) = true := rfl
    go_enter Tryz.func68, Tryz.ntmps68
    go_wp2
    refine bodyPost_ret (v := .slice (some ⟨w.heap.size + 1, 0, none⟩) 1 1) (by simp (maxDischargeDepth := 9) [results, Tryz.results68, go_sem, *]) rfl ⟨_, rfl, ⟨by simp, .inr ⟨w.heap.size + 1, 0, 1, rfl, by simp, by simp, fun j hj => ?_⟩⟩, by with_reducible repeat (first | exact Below.refl _ _ | assumption | refine Below.al ?_ _ | refine Below.on ?_ _ | refine Below.st ?_ (by first | assumption | (simp; done) | (simp; omega)) _ | refine Below.drew ?_)⟩
    obtain rfl : j = 0 := by simp at hj; omega
    exact ⟨.slice ra m rc, by simp (maxDischargeDepth := 9) [go_sem], HR.out.mono (((Below.refl _ _).alloc (Nat.le_refl _) _).alloc (by simp) _) (by simp; omega)⟩
  have t0 : ((ng : Int) == 0) = false := by simp; omega
  have gn : ¬ gr = [] := fun e => g0 (by rw [← LG.out, e]; rfl)
  rw [if_neg gn]
  obtain ⟨ps, LV, _, LX⟩ := rows_lvs HR.out
  have lps : ps.length = m := by rw [LV.1, LM.out]
  obtain ⟨L, hL⟩ : ∃ L, ps.zip rows = L := ⟨_, rfl⟩
  have LL : L.length = m := by rw [← hL, List.length_zip, lps, LM.out, Nat.min_self]
  have LS : L.map (·.2) = rows := by rw [← hL]; exact List.map_snd_zip (by rw [lps, LM.out]; exact Nat.le_refl _)
  have LE : ∀ x ∈ L, ValsAt w w.heap.size x.1 x.2 ∧ x.2.length = nc := by
    intro x hx
    obtain ⟨i, hi', e⟩ := List.getElem_of_mem hx
    subst e
    subst hL
    rw [List.getElem_zip]
    have i1' : i < ps.length := by rw [List.length_zip] at hi'; omega
    have i2' : i < rows.length := by rw [List.length_zip] at hi'; omega
    exact ⟨LV.2 i i1' i2', HRL.out _ (List.getElem_mem _)⟩
  have LCELL : Hid (∀ k (hk : k < L.length), ∃ b o, ra = some ⟨b, o, none⟩ ∧ b < w.heap.size ∧ w.cell? ⟨b, o + k, none⟩ = some (L[k]'hk).1 ∧ m ≤ rc) := Lib.hid (by
    intro k hk
    rcases LX with ⟨e0, _⟩ | ⟨b, o, c, e1, hmc, hb, hcell⟩
    · have : m = 0 := by rw [← LM.out, e0]; rfl
      omega
    · injection e1 with e1 e2 e3
      subst e1 e3
      have hk' : k < ps.length := by omega
      refine ⟨b, o, rfl, hb, ?_, by rw [← LM.out]; exact hmc⟩
      rw [hcell k hk']
      subst hL
      rw [List.getElem_zip])
  have HLE := Lib.hid LE
  have LLL := Lib.hid LL
  rw [show grp (fun x y => grpC cs x y gr) rows = (grp (SD cs gr) L).map (List.map (·.2)) from by rw [grp_map (·.2) (D := SD cs gr) (d := fun x y => grpC cs x y gr) (fun _ _ => rfl), LS]]
  have GPERM := Lib.hid (fun K => grp_perm (SD_pre cs gr) (L.take K))
  have GGOOD := Lib.hid (fun K => grp_good (SD_pre cs gr) (L.take K))
  have GMEM : Hid (∀ K, ∀ g ∈ grp (SD cs gr) (L.take K), ∀ x ∈ g, x ∈ L) := Lib.hid (fun K g hg x hx => List.mem_of_mem_take ((GPERM.out K).mem_iff.1 (List.mem_flatten.2 ⟨g, hg, hx⟩)))
  have GLEN : Hid (∀ K, (grp (SD cs gr) (L.take K)).length ≤ m ∧ ∀ g ∈ grp (SD cs gr) (L.take K), g.length ≤ m) := Lib.hid (fun K => by
    have h1 := (GPERM.out K).length_eq
    rw [List.length_take, LLL.out] at h1
    refine ⟨Nat.le_trans (good_len' (GGOOD.out K)) (by omega), fun g hg => Nat.le_trans (flat_le hg) (by omega)⟩)
  clear LV lps LX LL LS LE hL HR0
  obtain ⟨SB, hSB⟩ : ∃ b, w.heap.size = b := ⟨_, rfl⟩
  have HSB := Lib.hid hSB
  go_enter Tryz.func68, Tryz.ntmps68
  go_upto_region 1 with fail
  refine captureM ?_
  intro w0 ew
  have s0 : w0.cell? ⟨SB, 0, none⟩ = some (.slice ca nc cc) := by rw [ew, ← hSB]; simp (maxDischargeDepth := 9) [go_sem]
  have s1 : w0.cell? ⟨SB, 1, none⟩ = some (.int .i64 key) := by rw [ew, ← hSB]; simp (maxDischargeDepth := 9) [go_sem]
  have zs0 : SB < w0.heap.size := by rw [ew, ← hSB]; simp
  have b0 : Below w.heap.size w w0 := by rw [ew]; with_reducible repeat (first | exact Below.refl _ _ | assumption | refine Below.al ?_ _ | refine Below.on ?_ _ | refine Below.st ?_ (by first | assumption | (simp; done) | (simp; omega)) _ | refine Below.drew ?_)
  have B0 := Lib.hid b0
  try rw [hSB]
  clear ew hSB b0
  go_wp2_with fail
  go_loopg [7, 19] m (fun g v st wr => ∃ (K : Nat) (hs : List Value), K + g = m ∧ st = .int .i64 (K : Int) ∧ GM w0.heap.size wr v hs (grp (SD cs gr) (L.take K)) ∧ Below w0.heap.size w0 wr)
  case atStart => exact ⟨0, [], by omega, rfl, by rw [List.take_zero]; exact GM.nil _ _, Below.refl _ _⟩
  case round =>
    obtain ⟨K, hs, hk, rfl, hGM, hB⟩ := hrel
    by_cases hg0 : gk = 0
    · subst hg0
      obtain rfl : K = m := by omega
      have GL := GLEN.out K
      have GR := Lib.hid (gm_rows hGM (fun g hg x hx => (HLE.out x (GMEM.out K g hg x hx)).1.mono (Below.to B0.out hB) (Below.to B0.out hB).size) (by omega) (fun g hg => Nat.le_trans (GL.2 g hg) (by omega)))
      rw [List.take_of_length_le (by rw [LLL.out]; exact Nat.le_refl _)] at GR
      have BF := Lib.hid (Below.to B0.out hB)
      have tk : ¬ (K : Int) < (K : Int) := by omega
      clear hGM hB hk GL
      go_wp2
      refine bodyPost_ret (v := u7) ?_ rfl ⟨u7, rfl, GR.out, BF.out⟩
      simp (maxDischargeDepth := 9) [results, Tryz.results68, go_sem, *]
    · have hkm : K < m := by omega
      have hkm' : (K : Int) < (m : Int) := by omega
      have hkL : K < L.length := by rw [LLL.out]; exact hkm
      obtain ⟨rb, ro, rfl, hrb, f0, hmc⟩ := LCELL.out K hkL
      have GS0 : grp (SD cs gr) (L.take (K + 1)) = gins (SD cs gr) (L[K]'hkL) (grp (SD cs gr) (L.take K)) := by rw [List.take_succ_eq_append_getElem hkL, grp_snoc]
      obtain ⟨x, hx⟩ : ∃ x, L[K]'hkL = x := ⟨_, rfl⟩
      have hxe := HLE.out x (by rw [← hx]; exact List.getElem_mem _)
      rw [hx] at f0 GS0
      obtain ⟨xxa, xxc, hxh⟩ : ∃ a c, x.1 = .slice a nc c := by obtain ⟨a, c, e⟩ := vals_end hxe.1; rw [hxe.2] at e; exact ⟨a, c, e⟩
      rw [hxh] at f0
      have HXE := Lib.hid hxe
      have HXH := Lib.hid hxh
      have GOOD := Lib.hid (GGOOD.out K)
      have MEM := Lib.hid (GMEM.out K)
      have GL := GLEN.out K
      obtain ⟨gs, hgs⟩ : ∃ gs, grp (SD cs gr) (L.take K) = gs := ⟨_, rfl⟩
      rw [hgs] at GS0 GOOD MEM GL hGM
      obtain ⟨oa, oc, rfl⟩ := hGM.form
      obtain ⟨N, hN⟩ : ∃ N, gs.length = N := ⟨_, rfl⟩
      have GN := Lib.hid hN
      have NM : N ≤ m := by rw [← hN]; exact GL.1
      have GL2 := Lib.hid GL.2
      rw [hN] at hGM ⊢
      have GS := Lib.hid GS0
      have HKG := Lib.hid (And.intro hk hg0)
      have GM0 := Lib.hid hGM
      have BW := Lib.hid (Below.to B0.out hB)
      have BW0 := Lib.hid hB
      have f1 := (BW.out.cell (p := ⟨rb, ro + K, none⟩) hrb).trans f0
      have zr1 : rb < wr.heap.size := Nat.lt_of_lt_of_le hrb BW.out.size
      have S0 := (hB.cell (p := ⟨SB, 0, none⟩) zs0).trans s0
      have S1 := (hB.cell (p := ⟨SB, 1, none⟩) zs0).trans s1
      have ZS := Nat.lt_of_lt_of_le zs0 hB.size
      have zb0 := hB.size
      obtain ⟨W0, rfl⟩ : ∃ q, q = wr := ⟨_, rfl⟩
      obtain ⟨G, rfl⟩ : ∃ q, q = gk := ⟨_, rfl⟩
      have TKX := Lib.hid (fun (W : World) (hb : Below w.heap.size w W) => (by
        have q := take_any (.slice xxa nc xxc) x.2 (.slice ga ng gc) gr W (by rw [← HXH.out]; exact HXE.out.1.mono hb hb.size) (ints_on HG.out hb hb.size) (by rw [HXE.out.2]; exact HIN.out) (by rw [LG.out]; omega)
        rw [LG.out] at q; exact q : Calls Tryz.prog 67 #[.slice xxa nc xxc, .slice ga ng gc] W (RowPost 41 3 W ng ((projF x.2 gr).flatMap valC))))
      clear hk hg0 hGM hB f0 GS0 hx hxe hxh hgs hN GL
      go_wp2_with fail
      go_loopg [10] N (fun g st ww => ∃ j : Nat, j + g = N ∧ st = .int .i64 (j : Int) ∧ (∀ i (h : i < gs.length), i < j → SD cs gr ((gs[i]'h).headD x) x < 0) ∧ ∃ xe : Ext W0, xe.it = ww)
      case atStart => exact ⟨0, by omega, rfl, fun i h h' => by omega, ext_of (Below.refl _ _)⟩
      case round =>
        obtain ⟨j, hjk, rfl, hlt, xe, rfl⟩ := hrel
        have hxb := xe.below
        have bxe : Below w.heap.size w xe.it := Below.to BW.out hxb
        have HLT := Lib.hid hlt
        have HJK := Lib.hid hjk
        clear hlt
        by_cases hg1 : gk = 0
        · subst hg1
          obtain rfl : j = N := by omega
          have tj : ¬ (j : Int) < (j : Int) := by omega
          have hjN : j ≤ j := Nat.le_refl _
          have GI : Hid (gins (SD cs gr) x gs = gs.take j ++ [x] :: gs.drop j) := Lib.hid (by
            have q := gins_at (d := SD cs gr) x gs j (by rw [GN.out]; exact Nat.le_refl _) (fun i hi => HLT.out i (by rw [GN.out]; omega) hi) (fun hi => by rw [GN.out] at hi; omega)
            rwa [dif_neg (by rw [GN.out]; omega)] at q)
          clear hjk
          go_upto_region 8 with fail
          refine wp_region_ext (by kernel_rfl) (by kernel_rfl) ?_
          repeat (go_big_quiet_step (((fail))))
          refine wpQuiet_nil ?_
          rintro _ ⟨xq, rfl⟩
          go_upto_region 10 with fail
          refine wp_region_ext (by kernel_rfl) (by kernel_rfl) ?_
          repeat (go_big_quiet_step (((fail))))
          refine wpQuiet_nil ?_
          rintro _ ⟨xr, rfl⟩
          go_upto_region 12 with fail
          refine captureM ?_
          intro t et
          have ht : Below W0.heap.size W0 t := by rw [et]; with_reducible repeat (first | exact Below.refl _ _ | assumption | refine Below.al ?_ _ | refine Below.on ?_ _ | refine Below.st ?_ (by first | assumption | (simp; done) | (simp; omega)) _ | refine Below.drew ?_)
          have GMX := Lib.hid (GM0.out.on ht)
          have BT := Lib.hid (Below.to BW0.out ht)
          clear et hxb bxe
          have GMX2 := GMX
          have hoc : j ≤ oc := by
            by_cases q : 0 < j
            · obtain ⟨g', c', e', _, _, hh, _⟩ := GMX.out.at (k := 0) (by rw [GN.out]; exact q)
              injection e' with e1 e2 e3
              rw [GN.out] at hh; all_goals omega
            · omega
          obtain ⟨sT, hsT⟩ : ∃ s, sliced oa 0 j oc 1 = s := ⟨_, rfl⟩
          obtain ⟨sD, hsD⟩ : ∃ s, sliced oa j j oc 1 = s := ⟨_, rfl⟩
          have slT : ∀ W : World, (Instr.slice 110 (.slice oa j oc) none (some (.int .i64 (j : Int))) none).run Tryz.prog W = .ok sT W := fun W => by rw [← hsT]; exact run_grps_h (Nat.le_trans hjN hoc) W
          have slD : ∀ W : World, (Instr.slice 110 (.slice oa j oc) (some (.int .i64 (j : Int))) none none).run Tryz.prog W = .ok sD W := fun W => by rw [← hsD]; exact run_grps_l hjN W
          have ST := Lib.hid (fun (W' : World) (hb : Below t.heap.size t W') => (by have q := GMX.out.srcL GN.out hjN hb; rw [hsT] at q; exact q : SrcRow W' sT j 1 (hs.take j)))
          have SD := Lib.hid (fun (W' : World) (hb : Below t.heap.size t W') => (by have q := GMX.out.srcR GN.out hjN hb; rw [hsD] at q; exact q : SrcRow W' sD (j - j) 1 (hs.drop j)))
          clear hsT hsD
          go_upto_region 13 with (at_builtin; go_must (refine wpList_append_row (by rfl) _ _ 110 (by rfl) t.heap.size 30 i1 _ 1 24 Tryz.underlying110 hj hy0 hy1 hy2 rfl (by decide) (.slice none 0 0) 0 [] (by rfl) (World.ownsRow_nil _ _ _ _) sT j (hs.take j) (by rfl) (ST.out _ (Below.refl _ _)) (by unfold maxLen; omega) (by omega) (Nat.le_refl _) ?_); intro v7 w7 hown hgrow hat; have HO7 := Lib.hid hown; have HG7 := Lib.hid hgrow; clear hown hgrow hat)
          have O7 : Hid (w7.ownsRow t.heap.size 30 1 v7 j (hs.take j)) := Lib.hid (by simpa using HO7.out)
          have G7 : Hid (Below t.heap.size t w7) := Lib.hid (Below.gr (Below.refl _ _) (World.ownsRow_nil t _ 30 1) HG7.out)
          obtain ⟨a7, c7, rfl⟩ := own_form O7.out
          have g7s := G7.out.size
          clear HO7 HG7
          go_upto_region 14 with (at_builtin; go_must (refine wpList_append_lies _ rfl _ _ 110 rfl t.heap.size 30 i1 _ 1 24 Tryz.underlying110 hj hy0 hy1 hy2 rfl (by decide) (.slice a7 j c7) j (hs.take j) rfl ((O7.out.alloc _).alloc _) ⟨w7.heap.size + 1, 0, none⟩ 1 1 [.slice (some ⟨w7.heap.size, 0, none⟩) 1 1] rfl rfl (World.news_of_block (by have := heap_alloc_new (w7.alloc (.cells #[.slice xxa nc xxc] 42)) (.cells #[.slice (some ⟨w7.heap.size, 0, none⟩) 1 1] 30); simpa using this)) (by simp [Value.oneCell']) (by omega) (by unfold maxLen; omega) (by omega) (by simp; omega) (w7.heap.size + 2) (by simp) ?_); intro gb cap w8 hown hgrow hat hlt8; have O8 := Lib.hid hown; have HG8 := Lib.hid hgrow; have HA8 := Lib.hid hat; clear hown hgrow hat hlt8)
          have G8 : Hid (Below t.heap.size t w8) := Lib.hid (Below.gr ((G7.out.alloc g7s _).alloc (by simp; omega) _) O7.out HG8.out)
          have N8 : Hid (w8.ownsRow t.heap.size 42 1 (.slice (some ⟨w7.heap.size, 0, none⟩) 1 1) 1 [.slice xxa nc xxc]) := Lib.hid (((World.ownsRow_lit w7 #[.slice xxa nc xxc] 1 g7s (by unfold maxLen; omega) rfl).alloc _).kept HG8.out (.inr (fun e => absurd (O7.out.lt w7.heap.size e.symm).2 (Nat.lt_irrefl _))))
          have F8 : Hid (gb ≠ w7.heap.size) := Lib.hid (HA8.out.elim (fun q => by have := (O7.out.lt _ q).2; omega) (fun q => by omega))
          have g8s := G8.out.size
          clear HG8 HA8
          go_wp2_with (at_builtin; go_must (refine wpList_append_row (by rfl) _ _ 110 (by rfl) t.heap.size 30 i1 _ 1 24 Tryz.underlying110 hj hy0 hy1 hy2 rfl (by decide) (.slice (some ⟨gb, 0, none⟩) (j + 1) cap) (j + 1) _ (by rfl) O8.out sD (j - j) (hs.drop j) (by rfl) (SD.out _ G8.out) (by unfold maxLen; omega) (by omega) g8s ?_); intro v9 w9 hown hgrow hat; have O9 := Lib.hid hown; have HG9 := Lib.hid hgrow; have HA9 := Lib.hid hat; clear hown hgrow hat)
          have G9 : Hid (Below t.heap.size t w9) := Lib.hid (Below.gr G8.out O8.out HG9.out)
          have N9 : Hid (w9.ownsRow t.heap.size 42 1 (.slice (some ⟨w7.heap.size, 0, none⟩) 1 1) 1 [.slice xxa nc xxc]) := Lib.hid (N8.out.kept HG9.out (.inr (fun e => F8.out (by injection e with e; exact e.symm))))
          have F9 : Hid (∀ b, Value.ownBlock (.slice (some ⟨w7.heap.size, 0, none⟩) 1 1) = some b → v9.ownBlock ≠ some b) := Lib.hid (fun b e1 e2 => by
            have e3 : w7.heap.size = b := by injection e1
            rcases HA9.out with q | q
            · have q2 := q.symm.trans e2
              have q3 : gb = b := by injection q2
              exact F8.out (q3.trans e3.symm)
            · have q2 := q.symm.trans e2
              have q3 : w8.heap.size = b := by injection q2
              have q4 : w7.heap.size < w8.heap.size := (N8.out.lt w7.heap.size rfl).2
              omega)
          have hjj : j + 1 + (j - j) = j + 1 := by omega
          have O9' := O9.out
          rw [hjj, List.append_assoc, List.singleton_append] at O9'
          have GM9 := Lib.hid (GMX2.out.new (x := x) (by rw [GN.out]; exact hjN) G9.out (by have := BT.out.size; omega) (by rw [GN.out]; exact O9') (by rw [HXH.out]; exact N9.out) F9.out)
          rw [← GI.out] at GM9
          have B9 := Lib.hid (Below.to BT.out G9.out)
          clear O9' hjj
          go_roundg (G - 1)
          case measure => have := HKG.out; omega
          case rel => exact ⟨K + 1, _, by have := HKG.out; omega, by go_num, by rw [GS.out]; exact GM9.out, B9.out⟩
        · have hjm : j < N := by omega
          have hjm' : (j : Int) < (N : Int) := by omega
          have hjl : j < gs.length := by rw [GN.out]; exact hjm
          have hjN : j ≤ N := Nat.le_of_lt hjm
          obtain ⟨og, oc', e', zO0, hob, hnoc, hv, hhv, P2, P2f, hown⟩ := GM0.out.at hjl
          rw [GN.out] at e' hnoc
          injection e' with e1 e2 e3
          subst e1 e3
          have GIA := gins_at (d := SD cs gr) x gs j (Nat.le_of_lt hjl) (fun i hi => HLT.out i (Nat.lt_trans hi hjl) hi)
          have hm : gs[j]'hjl ∈ gs := List.getElem_mem _
          have gne := GOOD.out.ne _ hm
          have glm := GL2.out _ hm
          have gmm := MEM.out _ hm
          have gfar := GM0.out.far j
          have gjh : j < hs.length := by rw [GM0.out.len]; exact hjl
          have ghe : hs[j]'gjh = hv := by rw [List.getElem?_eq_getElem gjh] at hhv; injection hhv
          obtain ⟨gj, hgj⟩ : ∃ g, gs[j]'hjl = g := ⟨_, rfl⟩
          have HGJ := Lib.hid hgj
          rw [hgj] at hown gne glm gmm
          obtain ⟨y, gt, rfl⟩ := List.exists_cons_of_ne_nil gne
          obtain ⟨hl, hhl⟩ : ∃ n, (y :: gt).length = n := ⟨_, rfl⟩
          rw [hhl] at hown glm
          have hl1 : 1 ≤ hl := by rw [← hhl]; simp
          rcases hown.2 with ⟨_, h0⟩ | ⟨hb, hcp, cur, rfl, hbb, _, hlc, _⟩
          · omega
          have HHV := Lib.hid hhv
          have zH0 := (hown.lt hb rfl).2
          have hbo : og ≠ hb := fun e => gfar hb gjh (by rw [ghe]; rfl) (by rw [e]; rfl)
          have P3 : W0.cell? ⟨hb, 0, none⟩ = some y.1 := hown.cellAt 0 (by omega)
          have hye := HLE.out y (gmm y (by simp))
          obtain ⟨yya, yyc, hyh⟩ : ∃ a c, y.1 = .slice a nc c := by obtain ⟨a, c, e⟩ := vals_end hye.1; rw [hye.2] at e; exact ⟨a, c, e⟩
          rw [hyh] at P3
          have TKH := Lib.hid (fun (W : World) (hb : Below w.heap.size w W) => (by
            have q := take_any (.slice yya nc yyc) y.2 (.slice ga ng gc) gr W (by rw [← hyh]; exact hye.1.mono hb hb.size) (ints_on HG.out hb hb.size) (by rw [hye.2]; exact HIN.out) (by rw [LG.out]; omega)
            rw [LG.out] at q; exact q : Calls Tryz.prog 67 #[.slice yya nc yyc, .slice ga ng gc] W (RowPost 41 3 W ng ((projF y.2 gr).flatMap valC))))
          obtain ⟨dd, hdd⟩ : ∃ d, grpC cs y.2 x.2 gr = d := ⟨_, rfl⟩
          have hdd2 : SD cs gr ((gs[j]'hjl).headD x) x = dd := by rw [hgj]; exact hdd
          have CMP := Lib.hid (fun (a4 : Option Addr) (c4 : Nat) (a5 : Option Addr) (c5 : Nat) (W : World) (hb : Below w.heap.size w W) (h4 : ValsAt W W.heap.size (.slice a4 ng c4) (projF y.2 gr)) (h5 : ValsAt W W.heap.size (.slice a5 ng c5) (projF x.2 gr)) => (by
            have q := refcmpg_any (.slice ca nc cc) cs key (.slice ga ng gc) gr (.slice a4 ng c4) y.2 (.slice a5 ng c5) x.2 W (HC.out.mono hb hb.size) (ints_on HG.out hb hb.size) h4 h5 (by rw [LC.out]; exact HIN.out) (by rw [LC.out]; exact hye.2) (by rw [LC.out]; exact HXE.out.2)
            rw [hdd] at q; exact q : Calls Tryz.prog 103 #[.agg #[.slice ca nc cc, .int .i64 key], .slice ga ng gc, .slice a4 ng c4, .slice a5 ng c5] W fun e w' => e = .returned (.int .i64 dd) ∧ Below W.heap.size W w'))
          have p0 := (xe.cell SB 0 ZS).trans S0
          have p1 := (xe.cell SB 1 ZS).trans S1
          have p2 := (xe.cell og j zO0).trans P2
          have p3 := (xe.cell hb 0 zH0).trans P3
          have pS := xe.lt ZS
          have pO := xe.lt zO0
          have pH := xe.lt zH0
          have hlp : (0 : Int) < (hl : Int) := by omega
          have hlp0 : 0 < hl := hl1
          have HOWN := Lib.hid hown
          have HP2F := Lib.hid P2f
          have HGIA := Lib.hid GIA
          have HHL := Lib.hid hhl
          have HD2 := Lib.hid hdd2
          have P2H := Lib.hid P2
          clear hown P2f GIA hhl hdd2 hdd hye hyh gfar gmm gne ghe hgj hm P2 P3 hhv
          by_cases q1 : dd < 0
          · go_upto_region 8 with fail
            go_region_held3 (fun w' => w'.cell? ⟨SB, 0, none⟩ = some (.slice ca nc cc) ∧ w'.cell? ⟨SB, 1, none⟩ = some (.int .i64 key) ∧ w'.cell? ⟨og, j, none⟩ = some (.slice (some ⟨hb, 0, none⟩) hl hcp) ∧ w'.cell? ⟨hb, 0, none⟩ = some (.slice yya nc yyc)) (first | exact ⟨by assumption, by assumption, by assumption, by assumption⟩ | (refine ⟨?_, ?_, ?_, ?_⟩ <;> simp [go_sem, *]))
              (first
                | (go_at_call 67; (with_reducible refine Calls.mono (TKH.out _ (by with_reducible repeat (first | exact Below.refl _ _ | assumption | refine Below.al ?_ _ | refine Below.on ?_ _ | refine Below.st ?_ (by first | assumption | (simp; done) | (simp; omega)) _ | refine Below.drew ?_))) ?_); (rintro e w4 ⟨v4, rfl, ho4, hb4⟩; obtain ⟨ax4, rfl⟩ := Ext.of hb4; obtain ⟨a4, c4, rfl⟩ := own_form ho4; have V4 : Hid (ValsAt ax4.it ax4.it.heap.size (.slice a4 ng c4) (projF y.2 gr)) := Lib.hid (own_vals (by rw [projL, LG.out]; omega) (by rw [projL, LG.out]; exact ho4)); clear ho4; have aiS : SB < ax4.it.heap.size := ax4.lt (by simpa using pS); have aiO : og < ax4.it.heap.size := ax4.lt (by simpa using pO); have aiH : hb < ax4.it.heap.size := ax4.lt (by simpa using pH); have ai0 : ax4.it.cell? ⟨SB, 0, none⟩ = some (.slice ca nc cc) := (ax4.cell SB 0 (by simpa using pS)).trans p0; have ai1 : ax4.it.cell? ⟨SB, 1, none⟩ = some (.int .i64 key) := (ax4.cell SB 1 (by simpa using pS)).trans p1; have ai2 : ax4.it.cell? ⟨og, j, none⟩ = some (.slice (some ⟨hb, 0, none⟩) hl hcp) := (ax4.cell og j (by simpa using pO)).trans p2; have ai3 : ax4.it.cell? ⟨hb, 0, none⟩ = some (.slice yya nc yyc) := (ax4.cell hb 0 (by simpa using pH)).trans p3))
                | (go_at_call 67; (with_reducible refine Calls.mono (TKX.out _ (by with_reducible repeat (first | exact Below.refl _ _ | assumption | refine Below.al ?_ _ | refine Below.on ?_ _ | refine Below.st ?_ (by first | assumption | (simp; done) | (simp; omega)) _ | refine Below.drew ?_))) ?_); (rintro e w5 ⟨v5, rfl, ho5, hb5⟩; obtain ⟨ax5, rfl⟩ := Ext.of hb5; obtain ⟨a5, c5, rfl⟩ := own_form ho5; have V5 : Hid (ValsAt ax5.it ax5.it.heap.size (.slice a5 ng c5) (projF x.2 gr)) := Lib.hid (own_vals (by rw [projL, LG.out]; omega) (by rw [projL, LG.out]; exact ho5)); have V4' := Lib.hid (V4.out.mono ax5.below ax5.below.size); clear ho5; have akS : SB < ax5.it.heap.size := ax5.lt (by simpa using aiS); have akO : og < ax5.it.heap.size := ax5.lt (by simpa using aiO); have akH : hb < ax5.it.heap.size := ax5.lt (by simpa using aiH); have ak0 : ax5.it.cell? ⟨SB, 0, none⟩ = some (.slice ca nc cc) := (ax5.cell SB 0 (by simpa using aiS)).trans ai0; have ak1 : ax5.it.cell? ⟨SB, 1, none⟩ = some (.int .i64 key) := (ax5.cell SB 1 (by simpa using aiS)).trans ai1; have ak2 : ax5.it.cell? ⟨og, j, none⟩ = some (.slice (some ⟨hb, 0, none⟩) hl hcp) := (ax5.cell og j (by simpa using aiO)).trans ai2; have ak3 : ax5.it.cell? ⟨hb, 0, none⟩ = some (.slice yya nc yyc) := (ax5.cell hb 0 (by simpa using aiH)).trans ai3))
                | (go_at_call 103; refine Calls.mono (CMP.out _ _ _ _ _ (by with_reducible repeat (first | exact Below.refl _ _ | assumption | refine Below.al ?_ _ | refine Below.on ?_ _ | refine Below.st ?_ (by first | assumption | (simp; done) | (simp; omega)) _ | refine Below.drew ?_)) V4'.out V5.out) ?_; rintro e w6 ⟨rfl, hb6⟩; obtain ⟨ax6, rfl⟩ := Ext.of hb6; have amS : SB < ax6.it.heap.size := ax6.lt (by simpa using akS); have amO : og < ax6.it.heap.size := ax6.lt (by simpa using akO); have amH : hb < ax6.it.heap.size := ax6.lt (by simpa using akH); have am0 : ax6.it.cell? ⟨SB, 0, none⟩ = some (.slice ca nc cc) := (ax6.cell SB 0 (by simpa using akS)).trans ak0; have am1 : ax6.it.cell? ⟨SB, 1, none⟩ = some (.int .i64 key) := (ax6.cell SB 1 (by simpa using akS)).trans ak1; have am2 : ax6.it.cell? ⟨og, j, none⟩ = some (.slice (some ⟨hb, 0, none⟩) hl hcp) := (ax6.cell og j (by simpa using akO)).trans ak2; have am3 : ax6.it.cell? ⟨hb, 0, none⟩ = some (.slice yya nc yyc) := (ax6.cell hb 0 (by simpa using akH)).trans ak3))
            go_wp2_with fail
            go_roundg (gk - 1)
            case measure => have := HJK.out; omega
            case rel => exact ⟨j + 1, by have := HJK.out; omega, by go_num, fun i h h' => by
              by_cases e : i = j
              · subst e; rw [HD2.out]; exact q1
              · exact HLT.out i h (by omega), ext_of (by with_reducible repeat (first | exact Below.refl _ _ | assumption | refine Below.al ?_ _ | refine Below.on ?_ _ | refine Below.st ?_ (by first | assumption | (simp; done) | (simp; omega)) _ | refine Below.drew ?_))⟩
          · go_upto_region 8 with fail
            go_region_held3 (fun w' => w'.cell? ⟨SB, 0, none⟩ = some (.slice ca nc cc) ∧ w'.cell? ⟨SB, 1, none⟩ = some (.int .i64 key) ∧ w'.cell? ⟨og, j, none⟩ = some (.slice (some ⟨hb, 0, none⟩) hl hcp) ∧ w'.cell? ⟨hb, 0, none⟩ = some (.slice yya nc yyc)) (first | exact ⟨by assumption, by assumption, by assumption, by assumption⟩ | (refine ⟨?_, ?_, ?_, ?_⟩ <;> simp [go_sem, *]))
              (first
                | (go_at_call 67; (with_reducible refine Calls.mono (TKH.out _ (by with_reducible repeat (first | exact Below.refl _ _ | assumption | refine Below.al ?_ _ | refine Below.on ?_ _ | refine Below.st ?_ (by first | assumption | (simp; done) | (simp; omega)) _ | refine Below.drew ?_))) ?_); (rintro e w4 ⟨v4, rfl, ho4, hb4⟩; obtain ⟨ax4, rfl⟩ := Ext.of hb4; obtain ⟨a4, c4, rfl⟩ := own_form ho4; have V4 : Hid (ValsAt ax4.it ax4.it.heap.size (.slice a4 ng c4) (projF y.2 gr)) := Lib.hid (own_vals (by rw [projL, LG.out]; omega) (by rw [projL, LG.out]; exact ho4)); clear ho4; have aiS : SB < ax4.it.heap.size := ax4.lt (by simpa using pS); have aiO : og < ax4.it.heap.size := ax4.lt (by simpa using pO); have aiH : hb < ax4.it.heap.size := ax4.lt (by simpa using pH); have ai0 : ax4.it.cell? ⟨SB, 0, none⟩ = some (.slice ca nc cc) := (ax4.cell SB 0 (by simpa using pS)).trans p0; have ai1 : ax4.it.cell? ⟨SB, 1, none⟩ = some (.int .i64 key) := (ax4.cell SB 1 (by simpa using pS)).trans p1; have ai2 : ax4.it.cell? ⟨og, j, none⟩ = some (.slice (some ⟨hb, 0, none⟩) hl hcp) := (ax4.cell og j (by simpa using pO)).trans p2; have ai3 : ax4.it.cell? ⟨hb, 0, none⟩ = some (.slice yya nc yyc) := (ax4.cell hb 0 (by simpa using pH)).trans p3))
                | (go_at_call 67; (with_reducible refine Calls.mono (TKX.out _ (by with_reducible repeat (first | exact Below.refl _ _ | assumption | refine Below.al ?_ _ | refine Below.on ?_ _ | refine Below.st ?_ (by first | assumption | (simp; done) | (simp; omega)) _ | refine Below.drew ?_))) ?_); (rintro e w5 ⟨v5, rfl, ho5, hb5⟩; obtain ⟨ax5, rfl⟩ := Ext.of hb5; obtain ⟨a5, c5, rfl⟩ := own_form ho5; have V5 : Hid (ValsAt ax5.it ax5.it.heap.size (.slice a5 ng c5) (projF x.2 gr)) := Lib.hid (own_vals (by rw [projL, LG.out]; omega) (by rw [projL, LG.out]; exact ho5)); have V4' := Lib.hid (V4.out.mono ax5.below ax5.below.size); clear ho5; have akS : SB < ax5.it.heap.size := ax5.lt (by simpa using aiS); have akO : og < ax5.it.heap.size := ax5.lt (by simpa using aiO); have akH : hb < ax5.it.heap.size := ax5.lt (by simpa using aiH); have ak0 : ax5.it.cell? ⟨SB, 0, none⟩ = some (.slice ca nc cc) := (ax5.cell SB 0 (by simpa using aiS)).trans ai0; have ak1 : ax5.it.cell? ⟨SB, 1, none⟩ = some (.int .i64 key) := (ax5.cell SB 1 (by simpa using aiS)).trans ai1; have ak2 : ax5.it.cell? ⟨og, j, none⟩ = some (.slice (some ⟨hb, 0, none⟩) hl hcp) := (ax5.cell og j (by simpa using aiO)).trans ai2; have ak3 : ax5.it.cell? ⟨hb, 0, none⟩ = some (.slice yya nc yyc) := (ax5.cell hb 0 (by simpa using aiH)).trans ai3))
                | (go_at_call 103; refine Calls.mono (CMP.out _ _ _ _ _ (by with_reducible repeat (first | exact Below.refl _ _ | assumption | refine Below.al ?_ _ | refine Below.on ?_ _ | refine Below.st ?_ (by first | assumption | (simp; done) | (simp; omega)) _ | refine Below.drew ?_)) V4'.out V5.out) ?_; rintro e w6 ⟨rfl, hb6⟩; obtain ⟨ax6, rfl⟩ := Ext.of hb6; have amS : SB < ax6.it.heap.size := ax6.lt (by simpa using akS); have amO : og < ax6.it.heap.size := ax6.lt (by simpa using akO); have amH : hb < ax6.it.heap.size := ax6.lt (by simpa using akH); have am0 : ax6.it.cell? ⟨SB, 0, none⟩ = some (.slice ca nc cc) := (ax6.cell SB 0 (by simpa using akS)).trans ak0; have am1 : ax6.it.cell? ⟨SB, 1, none⟩ = some (.int .i64 key) := (ax6.cell SB 1 (by simpa using akS)).trans ak1; have am2 : ax6.it.cell? ⟨og, j, none⟩ = some (.slice (some ⟨hb, 0, none⟩) hl hcp) := (ax6.cell og j (by simpa using akO)).trans ak2; have am3 : ax6.it.cell? ⟨hb, 0, none⟩ = some (.slice yya nc yyc) := (ax6.cell hb 0 (by simpa using akH)).trans ak3))
            go_upto_region 10 with fail
            by_cases q2 : dd = 0
            · have e2 : (dd == 0) = true := by simpa using q2
              go_region_held3 (fun w' => w'.cell? ⟨SB, 0, none⟩ = some (.slice ca nc cc) ∧ w'.cell? ⟨SB, 1, none⟩ = some (.int .i64 key) ∧ w'.cell? ⟨og, j, none⟩ = some (.slice (some ⟨hb, 0, none⟩) hl hcp) ∧ w'.cell? ⟨hb, 0, none⟩ = some (.slice yya nc yyc)) (first | exact ⟨by assumption, by assumption, by assumption, by assumption⟩ | (refine ⟨?_, ?_, ?_, ?_⟩ <;> simp [go_sem, *]))
              (first
                | (go_at_call 67; (with_reducible refine Calls.mono (TKH.out _ (by with_reducible repeat (first | exact Below.refl _ _ | assumption | refine Below.al ?_ _ | refine Below.on ?_ _ | refine Below.st ?_ (by first | assumption | (simp; done) | (simp; omega)) _ | refine Below.drew ?_))) ?_); (rintro e w4 ⟨v4, rfl, ho4, hb4⟩; obtain ⟨bx4, rfl⟩ := Ext.of hb4; obtain ⟨a4, c4, rfl⟩ := own_form ho4; have V4 : Hid (ValsAt bx4.it bx4.it.heap.size (.slice a4 ng c4) (projF y.2 gr)) := Lib.hid (own_vals (by rw [projL, LG.out]; omega) (by rw [projL, LG.out]; exact ho4)); clear ho4; have biS : SB < bx4.it.heap.size := bx4.lt (by simpa using amS); have biO : og < bx4.it.heap.size := bx4.lt (by simpa using amO); have biH : hb < bx4.it.heap.size := bx4.lt (by simpa using amH); have bi0 : bx4.it.cell? ⟨SB, 0, none⟩ = some (.slice ca nc cc) := (bx4.cell SB 0 (by simpa using amS)).trans am0; have bi1 : bx4.it.cell? ⟨SB, 1, none⟩ = some (.int .i64 key) := (bx4.cell SB 1 (by simpa using amS)).trans am1; have bi2 : bx4.it.cell? ⟨og, j, none⟩ = some (.slice (some ⟨hb, 0, none⟩) hl hcp) := (bx4.cell og j (by simpa using amO)).trans am2; have bi3 : bx4.it.cell? ⟨hb, 0, none⟩ = some (.slice yya nc yyc) := (bx4.cell hb 0 (by simpa using amH)).trans am3))
                | (go_at_call 67; (with_reducible refine Calls.mono (TKX.out _ (by with_reducible repeat (first | exact Below.refl _ _ | assumption | refine Below.al ?_ _ | refine Below.on ?_ _ | refine Below.st ?_ (by first | assumption | (simp; done) | (simp; omega)) _ | refine Below.drew ?_))) ?_); (rintro e w5 ⟨v5, rfl, ho5, hb5⟩; obtain ⟨bx5, rfl⟩ := Ext.of hb5; obtain ⟨a5, c5, rfl⟩ := own_form ho5; have V5 : Hid (ValsAt bx5.it bx5.it.heap.size (.slice a5 ng c5) (projF x.2 gr)) := Lib.hid (own_vals (by rw [projL, LG.out]; omega) (by rw [projL, LG.out]; exact ho5)); have V4' := Lib.hid (V4.out.mono bx5.below bx5.below.size); clear ho5; have bkS : SB < bx5.it.heap.size := bx5.lt (by simpa using biS); have bkO : og < bx5.it.heap.size := bx5.lt (by simpa using biO); have bkH : hb < bx5.it.heap.size := bx5.lt (by simpa using biH); have bk0 : bx5.it.cell? ⟨SB, 0, none⟩ = some (.slice ca nc cc) := (bx5.cell SB 0 (by simpa using biS)).trans bi0; have bk1 : bx5.it.cell? ⟨SB, 1, none⟩ = some (.int .i64 key) := (bx5.cell SB 1 (by simpa using biS)).trans bi1; have bk2 : bx5.it.cell? ⟨og, j, none⟩ = some (.slice (some ⟨hb, 0, none⟩) hl hcp) := (bx5.cell og j (by simpa using biO)).trans bi2; have bk3 : bx5.it.cell? ⟨hb, 0, none⟩ = some (.slice yya nc yyc) := (bx5.cell hb 0 (by simpa using biH)).trans bi3))
                | (go_at_call 103; refine Calls.mono (CMP.out _ _ _ _ _ (by with_reducible repeat (first | exact Below.refl _ _ | assumption | refine Below.al ?_ _ | refine Below.on ?_ _ | refine Below.st ?_ (by first | assumption | (simp; done) | (simp; omega)) _ | refine Below.drew ?_)) V4'.out V5.out) ?_; rintro e w6 ⟨rfl, hb6⟩; obtain ⟨bx6, rfl⟩ := Ext.of hb6; have bmS : SB < bx6.it.heap.size := bx6.lt (by simpa using bkS); have bmO : og < bx6.it.heap.size := bx6.lt (by simpa using bkO); have bmH : hb < bx6.it.heap.size := bx6.lt (by simpa using bkH); have bm0 : bx6.it.cell? ⟨SB, 0, none⟩ = some (.slice ca nc cc) := (bx6.cell SB 0 (by simpa using bkS)).trans bk0; have bm1 : bx6.it.cell? ⟨SB, 1, none⟩ = some (.int .i64 key) := (bx6.cell SB 1 (by simpa using bkS)).trans bk1; have bm2 : bx6.it.cell? ⟨og, j, none⟩ = some (.slice (some ⟨hb, 0, none⟩) hl hcp) := (bx6.cell og j (by simpa using bkO)).trans bk2; have bm3 : bx6.it.cell? ⟨hb, 0, none⟩ = some (.slice yya nc yyc) := (bx6.cell hb 0 (by simpa using bkH)).trans bk3))
              go_upto_region 11 with fail
              refine captureM ?_
              intro t et
              have ht : Below W0.heap.size W0 t := by rw [et]; with_reducible repeat (first | exact Below.refl _ _ | assumption | refine Below.al ?_ _ | refine Below.on ?_ _ | refine Below.st ?_ (by first | assumption | (simp; done) | (simp; omega)) _ | refine Below.drew ?_)
              have GMX := Lib.hid (GM0.out.on ht)
              have BT := Lib.hid (Below.to BW0.out ht)
              have OT := Lib.hid (own_to HOWN.out ht)
              have k2 := (ht.cell (p := ⟨og, j, none⟩) zO0).trans P2H.out
              have k2f := (ht.frozen (p := ⟨og, j, none⟩) zO0).trans (HP2F.out j)
              have kO : og < t.heap.size := Nat.lt_of_lt_of_le zO0 ht.size
              have kz := BT.out.size
              clear et hxb bxe 
              go_wp2_with (at_builtin; go_must (refine wpList_append_lies _ rfl _ _ 30 rfl w0.heap.size 42 i0 _ 1 24 Tryz.underlying30 hi hz0 hz1 hz2 rfl (by decide) (.slice (some ⟨hb, 0, none⟩) hl hcp) hl ((y :: gt).map (·.1)) rfl (OT.out.alloc _) ⟨t.heap.size, 0, none⟩ 1 1 [.slice xxa nc xxc] rfl rfl (World.news_of_block (heap_alloc_new t _)) (by simp [Value.oneCell']) (by omega) (by unfold maxLen; omega) (by omega) (by simp; omega) (t.heap.size + 1) (by simp) ?_); intro gb cap w4 hown hgrow hat hlt4; go_must (have u2 : w4.cell? ⟨og, j, none⟩ = some (.slice (some ⟨hb, 0, none⟩) hl hcp) := hgrow.cell (a := ⟨og, j, none⟩) (by simp (maxDischargeDepth := 9) [go_sem, *]) (fun e => hbo (by simpa [Value.ownBlock] using e)); have u3 : w4.frozen? ⟨og, j, none⟩ = false := (hgrow.frozen_far ⟨og, j, none⟩ (by simp; omega) (fun e => hbo (by simpa [Value.ownBlock] using e))).trans (by simp (maxDischargeDepth := 9) [go_sem, *]); have zo4 : og < w4.heap.size := by (have := hgrow.size; simp at this; omega)); have HOW := Lib.hid hown; have HGR := Lib.hid hgrow; have HAT := Lib.hid hat; clear hown hgrow hat hlt4)
              go_roundg (G - 1)
              case measure => have := HKG.out; omega
              case rel =>
                have gi := HGIA.out (fun h => by rw [HD2.out]; omega)
                rw [dif_pos hjl, if_pos (by rw [HD2.out]; exact q2)] at gi
                refine ⟨K + 1, hs.set j (.slice (some ⟨gb, 0, none⟩) (hl + 1) cap), by have := HKG.out; omega, by go_num, ?_, ?_⟩
                · rw [GS.out, gi, ← (show gs.set j (gs[j]'hjl ++ [x]) = gs.take j ++ (gs[j]'hjl ++ [x]) :: gs.drop (j + 1) from by rw [List.set_eq_take_append_cons_drop, if_pos hjl])]
                  have q := GM.put (x := x) (nv := .slice (some ⟨gb, 0, none⟩) (hl + 1) cap) (by rw [GN.out]; exact GMX.out.on ((Below.refl _ _).alloc (Nat.le_refl _) _)) hjl HHV.out (by rw [HGJ.out, HHL.out, HXH.out]; exact HOW.out) HGR.out (HAT.out.elim (fun q => .inl q.symm) (fun q => .inr (by rw [q]; simp [Value.ownBlock])))
                  rw [GN.out] at q
                  exact q
                · exact (Below.gr ((BT.out).alloc (by omega) _) OT.out HGR.out).setCell (p := ⟨og, j, none⟩) hob _
            · have e2 : (dd == 0) = false := by simpa using q2
              go_region_held3 (fun w' => w'.cell? ⟨SB, 0, none⟩ = some (.slice ca nc cc) ∧ w'.cell? ⟨SB, 1, none⟩ = some (.int .i64 key) ∧ w'.cell? ⟨og, j, none⟩ = some (.slice (some ⟨hb, 0, none⟩) hl hcp) ∧ w'.cell? ⟨hb, 0, none⟩ = some (.slice yya nc yyc)) (first | exact ⟨by assumption, by assumption, by assumption, by assumption⟩ | (refine ⟨?_, ?_, ?_, ?_⟩ <;> simp [go_sem, *]))
              (first
                | (go_at_call 67; (with_reducible refine Calls.mono (TKH.out _ (by with_reducible repeat (first | exact Below.refl _ _ | assumption | refine Below.al ?_ _ | refine Below.on ?_ _ | refine Below.st ?_ (by first | assumption | (simp; done) | (simp; omega)) _ | refine Below.drew ?_))) ?_); (rintro e w4 ⟨v4, rfl, ho4, hb4⟩; obtain ⟨bx4, rfl⟩ := Ext.of hb4; obtain ⟨a4, c4, rfl⟩ := own_form ho4; have V4 : Hid (ValsAt bx4.it bx4.it.heap.size (.slice a4 ng c4) (projF y.2 gr)) := Lib.hid (own_vals (by rw [projL, LG.out]; omega) (by rw [projL, LG.out]; exact ho4)); clear ho4; have biS : SB < bx4.it.heap.size := bx4.lt (by simpa using amS); have biO : og < bx4.it.heap.size := bx4.lt (by simpa using amO); have biH : hb < bx4.it.heap.size := bx4.lt (by simpa using amH); have bi0 : bx4.it.cell? ⟨SB, 0, none⟩ = some (.slice ca nc cc) := (bx4.cell SB 0 (by simpa using amS)).trans am0; have bi1 : bx4.it.cell? ⟨SB, 1, none⟩ = some (.int .i64 key) := (bx4.cell SB 1 (by simpa using amS)).trans am1; have bi2 : bx4.it.cell? ⟨og, j, none⟩ = some (.slice (some ⟨hb, 0, none⟩) hl hcp) := (bx4.cell og j (by simpa using amO)).trans am2; have bi3 : bx4.it.cell? ⟨hb, 0, none⟩ = some (.slice yya nc yyc) := (bx4.cell hb 0 (by simpa using amH)).trans am3))
                | (go_at_call 67; (with_reducible refine Calls.mono (TKX.out _ (by with_reducible repeat (first | exact Below.refl _ _ | assumption | refine Below.al ?_ _ | refine Below.on ?_ _ | refine Below.st ?_ (by first | assumption | (simp; done) | (simp; omega)) _ | refine Below.drew ?_))) ?_); (rintro e w5 ⟨v5, rfl, ho5, hb5⟩; obtain ⟨bx5, rfl⟩ := Ext.of hb5; obtain ⟨a5, c5, rfl⟩ := own_form ho5; have V5 : Hid (ValsAt bx5.it bx5.it.heap.size (.slice a5 ng c5) (projF x.2 gr)) := Lib.hid (own_vals (by rw [projL, LG.out]; omega) (by rw [projL, LG.out]; exact ho5)); have V4' := Lib.hid (V4.out.mono bx5.below bx5.below.size); clear ho5; have bkS : SB < bx5.it.heap.size := bx5.lt (by simpa using biS); have bkO : og < bx5.it.heap.size := bx5.lt (by simpa using biO); have bkH : hb < bx5.it.heap.size := bx5.lt (by simpa using biH); have bk0 : bx5.it.cell? ⟨SB, 0, none⟩ = some (.slice ca nc cc) := (bx5.cell SB 0 (by simpa using biS)).trans bi0; have bk1 : bx5.it.cell? ⟨SB, 1, none⟩ = some (.int .i64 key) := (bx5.cell SB 1 (by simpa using biS)).trans bi1; have bk2 : bx5.it.cell? ⟨og, j, none⟩ = some (.slice (some ⟨hb, 0, none⟩) hl hcp) := (bx5.cell og j (by simpa using biO)).trans bi2; have bk3 : bx5.it.cell? ⟨hb, 0, none⟩ = some (.slice yya nc yyc) := (bx5.cell hb 0 (by simpa using biH)).trans bi3))
                | (go_at_call 103; refine Calls.mono (CMP.out _ _ _ _ _ (by with_reducible repeat (first | exact Below.refl _ _ | assumption | refine Below.al ?_ _ | refine Below.on ?_ _ | refine Below.st ?_ (by first | assumption | (simp; done) | (simp; omega)) _ | refine Below.drew ?_)) V4'.out V5.out) ?_; rintro e w6 ⟨rfl, hb6⟩; obtain ⟨bx6, rfl⟩ := Ext.of hb6; have bmS : SB < bx6.it.heap.size := bx6.lt (by simpa using bkS); have bmO : og < bx6.it.heap.size := bx6.lt (by simpa using bkO); have bmH : hb < bx6.it.heap.size := bx6.lt (by simpa using bkH); have bm0 : bx6.it.cell? ⟨SB, 0, none⟩ = some (.slice ca nc cc) := (bx6.cell SB 0 (by simpa using bkS)).trans bk0; have bm1 : bx6.it.cell? ⟨SB, 1, none⟩ = some (.int .i64 key) := (bx6.cell SB 1 (by simpa using bkS)).trans bk1; have bm2 : bx6.it.cell? ⟨og, j, none⟩ = some (.slice (some ⟨hb, 0, none⟩) hl hcp) := (bx6.cell og j (by simpa using bkO)).trans bk2; have bm3 : bx6.it.cell? ⟨hb, 0, none⟩ = some (.slice yya nc yyc) := (bx6.cell hb 0 (by simpa using bkH)).trans bk3))
              go_upto_region 12 with fail
              refine captureM ?_
              intro t et
              have ht : Below W0.heap.size W0 t := by rw [et]; with_reducible repeat (first | exact Below.refl _ _ | assumption | refine Below.al ?_ _ | refine Below.on ?_ _ | refine Below.st ?_ (by first | assumption | (simp; done) | (simp; omega)) _ | refine Below.drew ?_)
              have GMX := Lib.hid (GM0.out.on ht)
              have BT := Lib.hid (Below.to BW0.out ht)
              have GI : Hid (gins (SD cs gr) x gs = gs.take j ++ [x] :: gs.drop j) := Lib.hid (by
                have gi := HGIA.out (fun h => by rw [HD2.out]; exact q1)
                rwa [dif_pos hjl, if_neg (by rw [HD2.out]; exact q2)] at gi)
              clear et hxb bxe 
              have GMX2 := GMX
              have hoc : N ≤ oc := hnoc
              obtain ⟨sT, hsT⟩ : ∃ s, sliced (some ⟨og, 0, none⟩) 0 j oc 1 = s := ⟨_, rfl⟩
              obtain ⟨sD, hsD⟩ : ∃ s, sliced (some ⟨og, 0, none⟩) j N oc 1 = s := ⟨_, rfl⟩
              have slT : ∀ W : World, (Instr.slice 110 (.slice (some ⟨og, 0, none⟩) N oc) none (some (.int .i64 (j : Int))) none).run Tryz.prog W = .ok sT W := fun W => by rw [← hsT]; exact run_grps_h (Nat.le_trans hjN hoc) W
              have slD : ∀ W : World, (Instr.slice 110 (.slice (some ⟨og, 0, none⟩) N oc) (some (.int .i64 (j : Int))) none none).run Tryz.prog W = .ok sD W := fun W => by rw [← hsD]; exact run_grps_l hjN W
              have ST := Lib.hid (fun (W' : World) (hb : Below t.heap.size t W') => (by have q := GMX.out.srcL GN.out hjN hb; rw [hsT] at q; exact q : SrcRow W' sT j 1 (hs.take j)))
              have SD := Lib.hid (fun (W' : World) (hb : Below t.heap.size t W') => (by have q := GMX.out.srcR GN.out hjN hb; rw [hsD] at q; exact q : SrcRow W' sD (N - j) 1 (hs.drop j)))
              clear hsT hsD
              go_upto_region 13 with (at_builtin; go_must (refine wpList_append_row (by rfl) _ _ 110 (by rfl) t.heap.size 30 i1 _ 1 24 Tryz.underlying110 hj hy0 hy1 hy2 rfl (by decide) (.slice none 0 0) 0 [] (by rfl) (World.ownsRow_nil _ _ _ _) sT j (hs.take j) (by rfl) (ST.out _ (Below.refl _ _)) (by unfold maxLen; omega) (by omega) (Nat.le_refl _) ?_); intro v7 w7 hown hgrow hat; have HO7 := Lib.hid hown; have HG7 := Lib.hid hgrow; clear hown hgrow hat)
              have O7 : Hid (w7.ownsRow t.heap.size 30 1 v7 j (hs.take j)) := Lib.hid (by simpa using HO7.out)
              have G7 : Hid (Below t.heap.size t w7) := Lib.hid (Below.gr (Below.refl _ _) (World.ownsRow_nil t _ 30 1) HG7.out)
              obtain ⟨a7, c7, rfl⟩ := own_form O7.out
              have g7s := G7.out.size
              clear HO7 HG7
              go_upto_region 14 with (at_builtin; go_must (refine wpList_append_lies _ rfl _ _ 110 rfl t.heap.size 30 i1 _ 1 24 Tryz.underlying110 hj hy0 hy1 hy2 rfl (by decide) (.slice a7 j c7) j (hs.take j) rfl ((O7.out.alloc _).alloc _) ⟨w7.heap.size + 1, 0, none⟩ 1 1 [.slice (some ⟨w7.heap.size, 0, none⟩) 1 1] rfl rfl (World.news_of_block (by have := heap_alloc_new (w7.alloc (.cells #[.slice xxa nc xxc] 42)) (.cells #[.slice (some ⟨w7.heap.size, 0, none⟩) 1 1] 30); simpa using this)) (by simp [Value.oneCell']) (by omega) (by unfold maxLen; omega) (by omega) (by simp; omega) (w7.heap.size + 2) (by simp) ?_); intro gb cap w8 hown hgrow hat hlt8; have O8 := Lib.hid hown; have HG8 := Lib.hid hgrow; have HA8 := Lib.hid hat; clear hown hgrow hat hlt8)
              have G8 : Hid (Below t.heap.size t w8) := Lib.hid (Below.gr ((G7.out.alloc g7s _).alloc (by simp; omega) _) O7.out HG8.out)
              have N8 : Hid (w8.ownsRow t.heap.size 42 1 (.slice (some ⟨w7.heap.size, 0, none⟩) 1 1) 1 [.slice xxa nc xxc]) := Lib.hid (((World.ownsRow_lit w7 #[.slice xxa nc xxc] 1 g7s (by unfold maxLen; omega) rfl).alloc _).kept HG8.out (.inr (fun e => absurd (O7.out.lt w7.heap.size e.symm).2 (Nat.lt_irrefl _))))
              have F8 : Hid (gb ≠ w7.heap.size) := Lib.hid (HA8.out.elim (fun q => by have := (O7.out.lt _ q).2; omega) (fun q => by omega))
              have g8s := G8.out.size
              clear HG8 HA8
              go_wp2_with (at_builtin; go_must (refine wpList_append_row (by rfl) _ _ 110 (by rfl) t.heap.size 30 i1 _ 1 24 Tryz.underlying110 hj hy0 hy1 hy2 rfl (by decide) (.slice (some ⟨gb, 0, none⟩) (j + 1) cap) (j + 1) _ (by rfl) O8.out sD (N - j) (hs.drop j) (by rfl) (SD.out _ G8.out) (by unfold maxLen; omega) (by omega) g8s ?_); intro v9 w9 hown hgrow hat; have O9 := Lib.hid hown; have HG9 := Lib.hid hgrow; have HA9 := Lib.hid hat; clear hown hgrow hat)
              have G9 : Hid (Below t.heap.size t w9) := Lib.hid (Below.gr G8.out O8.out HG9.out)
              have N9 : Hid (w9.ownsRow t.heap.size 42 1 (.slice (some ⟨w7.heap.size, 0, none⟩) 1 1) 1 [.slice xxa nc xxc]) := Lib.hid (N8.out.kept HG9.out (.inr (fun e => F8.out (by injection e with e; exact e.symm))))
              have F9 : Hid (∀ b, Value.ownBlock (.slice (some ⟨w7.heap.size, 0, none⟩) 1 1) = some b → v9.ownBlock ≠ some b) := Lib.hid (fun b e1 e2 => by
                have e3 : w7.heap.size = b := by injection e1
                rcases HA9.out with q | q
                · have q2 := q.symm.trans e2
                  have q3 : gb = b := by injection q2
                  exact F8.out (q3.trans e3.symm)
                · have q2 := q.symm.trans e2
                  have q3 : w8.heap.size = b := by injection q2
                  have q4 : w7.heap.size < w8.heap.size := (N8.out.lt w7.heap.size rfl).2
                  omega)
              have hjj : j + 1 + (N - j) = N + 1 := by omega
              have O9' := O9.out
              rw [hjj, List.append_assoc, List.singleton_append] at O9'
              have GM9 := Lib.hid (GMX2.out.new (x := x) (by rw [GN.out]; exact hjN) G9.out (by have := BT.out.size; omega) (by rw [GN.out]; exact O9') (by rw [HXH.out]; exact N9.out) F9.out)
              rw [← GI.out] at GM9
              have B9 := Lib.hid (Below.to BT.out G9.out)
              clear O9' hjj
              go_roundg (G - 1)
              case measure => have := HKG.out; omega
              case rel => exact ⟨K + 1, _, by have := HKG.out; omega, by go_num, by rw [GS.out]; exact GM9.out, B9.out⟩
end Go.Proofs.YtpahoenanfjhpaaGreat
