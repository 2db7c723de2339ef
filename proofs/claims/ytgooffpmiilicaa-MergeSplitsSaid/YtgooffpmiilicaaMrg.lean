/-
  MERGE: merge.Merge ('mergeE', 'mergeR'). Conditions: schema and lists lie in memory as 'ColsAt', 'PartsAt' say.
-/
import Derived.Test.YtgooffpmiilicaaMrs
import Derived.Deep.AppendLies
import Derived.Deep.LoopGhost
set_option linter.unusedVariables false
set_option linter.unusedSimpArgs false
namespace Go.Proofs.Ytgooffpmiilicaa
open Go.RowKit Srt
theorem mrg_nil {w : World} {cs : List Col} {key : Int} {Ls : List (List Rc)} {E : Int} (h : mergeE cs key Ls = E ∧ mergeR cs key Ls = []) (W : World) (hb : Below w.heap.size w W) : MrgPost w cs key Ls (.returned (.tuple #[.slice none 0 0, .int .i64 E])) W :=
  ⟨_, by rw [h.1], by rw [h.2]; exact ⟨by simp, .inl ⟨rfl, none, 0, rfl⟩⟩, hb⟩
theorem HpM.first {w : World} {A B0 hb : Nat} {cv : Value} {cs : List Col} {K : Nat} {f : Nat → Hd} {n g cap : Nat} (h : HpM w A B0 hb cv cs K (.slice (some ⟨g, 0, none⟩) n cap) f n) (h0 : 0 < n) : w.cell? ⟨g, 0, none⟩ = some (f 0).v ∧ w.frozen? ⟨g, 0, none⟩ = false ∧ g < w.heap.size := by
  obtain ⟨g', cap', e, _, _, h3, _, h4, h5⟩ := h.row h0
  injection e with e1 e2 e3
  injection e1 with e1
  injection e1 with e1
  subst e1
  have := (h5 0 h0).1
  rw [Nat.zero_mul] at this
  exact ⟨this, h4 0, h3⟩
def hd0 : Nat → Hd := fun _ => ⟨.slice none 0 0, [], 0⟩
set_option maxRecDepth 8000 in
set_option maxHeartbeats 4000000 in
theorem merge_any (cv : Value) (cs : List Col) (key : Int) (lv : Value) (Ls : List (List Rc)) (w : World) (hc : ColsAt w w.heap.size cv cs) (h : PartsAt w w.heap.size lv Ls) :
    Calls Try.prog 10 #[.agg #[cv, .int .i64 key], lv] w (MrgPost w cs key Ls) := by
  obtain ⟨i0, hi, hz0, hz1, hz2⟩ := info_parts infoRec
  obtain ⟨S, hS⟩ : ∃ S, schemaF cs key = S := ⟨_, rfl⟩
  have SC := Lib.hid (fun (W : World) (hb : Below w.heap.size w W) => (by have q := schema_any cv cs key W (hc.mono hb hb.size); rw [hS] at q; exact q : Calls Try.prog 29 #[.agg #[cv, .int .i64 key]] W fun e w' => e = .returned (.int .i64 S) ∧ Below W.heap.size W w'))
  have HC := Lib.hid hc
  have HP := Lib.hid h
  obtain ⟨ca, cc, rfl⟩ := cols_end hc
  obtain ⟨la, lc, rfl⟩ := parts_end h
  obtain ⟨nc, hnc⟩ : ∃ nc, cs.length = nc := ⟨_, rfl⟩
  obtain ⟨N, hN⟩ : ∃ N, Ls.length = N := ⟨_, rfl⟩
  have h63 := h.1
  rw [hnc] at SC HC ⊢
  rw [hN] at HP h63 ⊢
  have HN := Lib.hid hN
  have HNC := Lib.hid hnc
  clear hc h hnc
  by_cases s0 : S = 0
  · subst s0
    have HS := Lib.hid hS
    obtain ⟨K, hKk, hK⟩ := schema_key hS
    subst hKk
    have HK := Lib.hid hK
    by_cases n16 : 16 < N
    · have FIN := Lib.hid (mrg_nil (w := w) (mergeE_many hS (by rw [hN]; exact n16)))
      have t1 : (16 : Int) < (N : Int) := by omega
      clear hS hN hK
      go_enter Try.func10, Try.ntmps10
      go_wp2_with (go_at_call 29; refine Calls.mono (SC.out _ (by repeat (first | with_reducible exact Below.refl _ _ | with_reducible assumption | with_reducible refine Below.al ?_ _ | with_reducible refine Below.on ?_ _ | with_reducible refine Below.st ?_ (by first | assumption | (simp; done) | (simp; omega)) _ | with_reducible refine Below.drew ?_))) ?_; rintro e w1 ⟨rfl, hb1⟩; obtain ⟨x1, rfl⟩ := Ext.of hb1; have z0 : w.heap.size < x1.it.heap.size := x1.lt (by simp); have q0 := (x1.cell w.heap.size 0 (by simp)).trans (by simp [go_sem] : _ = some (.slice ca nc cc)); have q1 := (x1.cell w.heap.size 1 (by simp)).trans (by simp [go_sem] : _ = some (.int .i64 (K : Int))))
      exact bodyPost_ret (v := .tuple #[.slice none 0 0, .int .i64 7]) (by simp [results, Try.results10, go_sem, *]) rfl (FIN.out _ (by repeat (first | with_reducible exact Below.refl _ _ | with_reducible assumption | with_reducible refine Below.al ?_ _ | with_reducible refine Below.on ?_ _ | with_reducible refine Below.st ?_ (by first | assumption | (simp; done) | (simp; omega)) _ | with_reducible refine Below.drew ?_)))
    · have t1 : ¬ (16 : Int) < (N : Int) := by omega
      obtain ⟨B1, hB1⟩ : ∃ B, longB Ls = B := ⟨_, rfl⟩
      have HB1 := Lib.hid hB1
      have N16 := Lib.hid n16
      clear hS hN hK n16 hB1
      go_enter Try.func10, Try.ntmps10
      go_upto_region 6 with (go_at_call 29; refine Calls.mono (SC.out _ (by repeat (first | with_reducible exact Below.refl _ _ | with_reducible assumption | with_reducible refine Below.al ?_ _ | with_reducible refine Below.on ?_ _ | with_reducible refine Below.st ?_ (by first | assumption | (simp; done) | (simp; omega)) _ | with_reducible refine Below.drew ?_))) ?_; rintro e w1 ⟨rfl, hb1⟩; obtain ⟨x1, rfl⟩ := Ext.of hb1; have z0 : w.heap.size < x1.it.heap.size := x1.lt (by simp); have q0 := (x1.cell w.heap.size 0 (by simp)).trans (by simp [go_sem] : _ = some (.slice ca nc cc)); have q1 := (x1.cell w.heap.size 1 (by simp)).trans (by simp [go_sem] : _ = some (.int .i64 (K : Int))))
      refine captureM ?_
      intro y ey
      have yb : Below w.heap.size w y := by rw [ey]; exact (by repeat (first | with_reducible exact Below.refl _ _ | with_reducible assumption | with_reducible refine Below.al ?_ _ | with_reducible refine Below.on ?_ _ | with_reducible refine Below.st ?_ (by first | assumption | (simp; done) | (simp; omega)) _ | with_reducible refine Below.drew ?_))
      have y0 : y.cell? ⟨w.heap.size, 0, none⟩ = some (.slice ca nc cc) := by rw [ey]; first | exact q0 | simp (maxDischargeDepth := 9) [go_sem, *]
      have y1 : y.cell? ⟨w.heap.size, 1, none⟩ = some (.int .i64 (K : Int)) := by rw [ey]; first | exact q1 | simp (maxDischargeDepth := 9) [go_sem, *]
      have yz : w.heap.size < y.heap.size := by rw [ey]; first | exact z0 | simp
      clear ey z0 q0 q1
      clear hb1 x1
      go_wp2_with fail
      go_loopg [24] N (fun g st wr => ∃ k : Nat, k + g = N ∧ st = .int .i64 (k : Int) ∧ (Ls.drop k).any (fun l => decide (1024 < l.length)) = B1 ∧ ∃ x : Ext y, x.it = wr)
      case atStart => exact ⟨0, by omega, rfl, HB1.out, ext_of (Below.refl _ _)⟩
      case round =>
        obtain ⟨k, hk, rfl, hA, x, rfl⟩ := hrel
        have hx := Below.on yb x
        by_cases hg0 : gk = 0
        · subst hg0
          obtain rfl : N = k := by omega
          obtain rfl : B1 = false := by rw [← hA, List.drop_of_length_le (by rw [HN.out]; exact Nat.le_refl _)]; rfl
          have z0 := (x.cell w.heap.size 0 yz).trans y0
          have z1 := (x.cell w.heap.size 1 yz).trans y1
          have zz := x.lt yz
          clear hk hA y0 y1 yz yb
          generalize x.it = z at *
          clear x
          generalize y = y' at *
          go_upto_region 13 with fail
          refine captureM ?_
          intro y ey
          have hzy : Below z.heap.size z y := by rw [ey]; exact (by repeat (first | with_reducible exact Below.refl _ _ | with_reducible assumption | with_reducible refine Below.al ?_ _ | with_reducible refine Below.on ?_ _ | with_reducible refine Below.st ?_ (by first | assumption | (simp; done) | (simp; omega)) _ | with_reducible refine Below.drew ?_))
          have yb : Below w.heap.size w y := Below.to hx hzy
          have yz : z.heap.size < y.heap.size := by rw [ey]; simp
          have y0 := (hzy.cell (p := ⟨w.heap.size, 0, none⟩) zz).trans z0
          have y1 := (hzy.cell (p := ⟨w.heap.size, 1, none⟩) zz).trans z1
          have M0 : HpM y w.heap.size z.heap.size z.heap.size (.slice ca nc cc) cs K (.slice none 0 0) hd0 0 := by
            refine ⟨World.ownsRow_nil _ _ _ _, ?_, ?_, ?_, yz, Nat.le_refl _, hx.size, fun k hk => by simp [Value.ownBlock] at hk, fun q => ?_, HC.out.mono yb (Nat.le_refl _), HK.out, fun k hk => absurd hk (by omega)⟩
            · rw [ey]; simp (maxDischargeDepth := 9) [go_sem, *]
            · rw [ey]; simp (maxDischargeDepth := 9) [go_sem, *]
            · rw [ey]; simp (maxDischargeDepth := 9) [go_sem, *]
            · rw [ey]; exact frozen_of_row _ z.heap.size q _ _ (heap_alloc_new z _)
          have L0 : L2 w y y z.heap.size (.slice ca nc cc) cs K Ls 0 0 hd0 (.slice none 0 0) :=
            ⟨M0, by rw [List.take_zero]; exact HL.nil _, fun k h0 hk => absurd hk (by omega), fun k hk => absurd hk (by omega), Nat.le_refl _, fun k hk => absurd hk (by omega), fun l hl => by rw [List.take_zero] at hl; exact absurd hl (by simp), Below.refl _ _⟩
          have LL0 := Lib.hid L0
          obtain ⟨HB, hHB⟩ : ∃ HB, z.heap.size = HB := ⟨_, rfl⟩
          rw [hHB] at LL0 yz zz ⊢
          have hwB : w.heap.size ≤ HB := by omega
          obtain ⟨B2, hB2⟩ : ∃ B, sortB cs K Ls = B := ⟨_, rfl⟩
          have HB2 := Lib.hid hB2
          have YB := Lib.hid yb
          clear ey M0 L0 hzy hx hHB z0 z1 hB2 yb
          go_wp2_with fail
          go_loopg [37] N (fun g st wr => ∃ (k n : Nat) (f : Nat → Hd) (hv : Value), k + g = N ∧ st = .int .i64 (k : Int) ∧ (Ls.drop k).all (sortedF cs K) = B2 ∧ L2 w y wr HB (.slice ca nc cc) cs K Ls k n f hv)
          case atStart => exact ⟨0, 0, hd0, .slice none 0 0, by omega, rfl, HB2.out, LL0.out⟩
          case round =>
            obtain ⟨k, n, f, hv, hk, rfl, hA, L⟩ := hrel
            have LL := Lib.hid L
            have wb : Below w.heap.size w wr := YB.out.trans (L.keep.mono hwB)
            have r0 := (L.keep.cell (p := ⟨w.heap.size, 0, none⟩) zz).trans y0
            have r1 := (L.keep.cell (p := ⟨w.heap.size, 1, none⟩) zz).trans y1
            have rz : w.heap.size < wr.heap.size := Nat.lt_of_lt_of_le yz L.keep.size |> fun h => by have := L.mem.lt; omega
            have hbz : HB < wr.heap.size := L.mem.lt
            have nk := L.nk
            have WB := Lib.hid wb
            clear L wb
            by_cases hg0 : gk = 0
            · subst hg0
              obtain rfl : N = k := by omega
              obtain rfl : B2 = true := by rw [← hA, List.drop_of_length_le (by rw [HN.out]; exact Nat.le_refl _)]; rfl
              have OKE := Lib.hid (mergeE_ok HS.out (by rw [HN.out]; exact N16.out) HB1.out HB2.out)
              have S0 : S3 w cs K Ls.flatten n f Ls [] := S3.start (by have := LL.out; rw [← HN.out] at this; exact this)
              have M0 : M3 w y wr HB (.slice ca nc cc) cs K n f hv [] [] (.slice none 0 0) := ⟨LL.out.mem, World.ownsRow_nil _ _ _ _, Prs.nil, fun k hk => by simp [Value.ownBlock] at hk, LL.out.keep⟩
              have n16 : n ≤ 16 := by have := N16.out; omega
              have AL : Ls.flatten.length ≤ 16384 := by
                have h1 := flat_len_le (m := 1024) (Ls := Ls) (fun l hl => by
                  have := HB1.out
                  unfold longB at this
                  have := List.any_eq_false.1 this l hl
                  simpa using this)
                rw [HN.out] at h1
                have h2 := Nat.mul_le_mul_right 1024 (show N ≤ 16 by have := N16.out; omega)
                omega
              have SM := Lib.hid (And.intro S0 M0)
              have ALH := Lib.hid AL
              clear hk hA S0 M0 r0 r1 rz hbz nk AL
              generalize wr = z3 at *
              go_wp2_with fail
              go_loopg [12] Ls.flatten.length (fun g ov wr => ∃ (n : Nat) (f : Nat → Hd) (hv : Value) (Lr : List (List Rc)) (O : List Rc) (ps : List (Int × Value)), Lr.flatten.length = g ∧ n ≤ 16 ∧ S3 w cs K Ls.flatten n f Lr O ∧ M3 w y wr HB (.slice ca nc cc) cs K n f hv O ps ov)
              case atStart => exact ⟨n, f, hv, Ls, [], [], rfl, n16, SM.out.1, SM.out.2⟩
              case round =>
                clear n16 SM LL
                clear n f hv
                obtain ⟨n, f, hv, Lr, O, ps, hg, n16, hS, M⟩ := hrel
                have wb : Below w.heap.size w wr := YB.out.trans (M.keep.mono hwB)
                have WB3 := Lib.hid wb
                have MM := Lib.hid M
                have SS := Lib.hid hS
                have hbz : HB < wr.heap.size := M.mem.lt
                have pl := M.prs.1
                have slen := hS.len
                obtain ⟨oa, oc, rfl⟩ := own_form M.own
                have LEN := Lib.hid (hlen_any M.mem)
                by_cases n0 : n = 0
                · subst n0
                  have OW := Lib.hid (fun x : Ext wr => own_any (.slice oa ps.length oc) O x.it ((M.on x.below).recs (Below.to wb x.below) (by have := ALH.out; omega)) (by have := ALH.out; omega) (fun r hr => by
                    have e := SS.out.stop
                    rw [← e] at hr
                    have hr2 := (srt_perm _ _).mem_iff.1 hr
                    obtain ⟨l, hl, hrl⟩ := List.mem_flatten.1 hr2
                    have hs := List.all_eq_true.1 HB2.out l hl
                    have v := valid_rows (sorted_valid hs)
                    have := (v.2 r hrl).1
                    have := v.1
                    omega))
                  have FIN : Hid (∀ (x : Ext wr) (v : Value) (ps' : List (Int × Value)) (w2 : World), OwnMem x.it w2 v ps' O → MrgPost w cs K Ls (.returned (.tuple #[v, .int .i64 0])) w2) := Lib.hid (fun x v ps' w2 hM => ⟨v, by rw [OKE.out.1], by
                    rw [OKE.out.2, SS.out.stop]
                    exact inn_recs (by have := ALH.out; omega) hM.inn hM.own, Below.to (Below.to WB3.out x.below) hM.below⟩)
                  clear hS M wb hg slen pl
                  generalize ps.length = pn at *
                  go_wp2_with (first | (go_at_call 32; refine Calls.mono LEN.out ?_; rintro e w5 ⟨rfl, hb5⟩; obtain ⟨x5, rfl⟩ := Ext.of hb5) | (go_at_call 35; refine Calls.mono (OW.out x5) ?_; rintro e w6 ⟨v6, ps6, rfl, hM6⟩; have H6 := Lib.hid hM6; clear hM6))
                  exact bodyPost_ret (v := .tuple #[v6, .int .i64 0]) (by simp (maxDischargeDepth := 9) [results, Try.results10, go_sem, *]) rfl (FIN.out x5 v6 ps6 _ H6.out)
                · obtain ⟨m, rfl⟩ : ∃ m, n = m + 1 := ⟨n - 1, by omega⟩
                  obtain ⟨g, cap, rfl, hcap, hgB, hgl, hgh, _, HCl⟩ := M.mem.row (by omega)
                  have ne := hS.live 0 (by omega)
                  have sta := hS.st 0 (by omega)
                  have stp := hS.step (by omega)
                  obtain ⟨F0, hF0⟩ : ∃ F, f 0 = F := ⟨_, rfl⟩
                  obtain ⟨xv, xl, xn⟩ := F0
                  rw [hF0] at ne sta
                  dsimp only at ne sta
                  obtain ⟨⟨sq, row⟩, tl, rfl⟩ := List.exists_cons_of_ne_nil ne
                  have eh : (f 0).hd = ⟨sq, row⟩ := by rw [hF0]; rfl
                  have et : (f 0).tl = tl := by rw [hF0]; rfl
                  have en : (f 0).num = xn := by rw [hF0]
                  have ev : (f 0).v = xv := by rw [hF0]
                  rw [et, en] at stp
                  obtain ⟨xa, xc, rfl⟩ := recs_end sta
                  obtain ⟨b, o, rfl, hxc, hb, c0, rl, c1, c2⟩ := recs_in sta (i := 0) (by simp)
                  simp only [List.getElem_cons_zero, Nat.zero_mul, Nat.add_zero] at c0 c1 c2
                  have stt := recs_tail sta
                  obtain ⟨tn, htn⟩ : ∃ tn, tl.length = tn := ⟨_, rfl⟩
                  have hV : sliced (some ⟨b, o, none⟩) 1 (tn + 1) xc 2 = .slice (if xc = 1 then some ⟨b, o, none⟩ else some ⟨b, o + 2, none⟩) tn (xc - 1) := by unfold sliced; simp [Addr.add]
                  simp only [List.length_cons] at stt sta ev hxc
                  rw [htn] at stt sta ev hxc
                  rw [hV] at stt
                  obtain ⟨la2, lc2, rfl⟩ := vals_end c2
                  have VV := Lib.hid c2
                  have STT := Lib.hid stt
                  have STP := Lib.hid stp
                  have EE := Lib.hid (And.intro eh (And.intro et (And.intro en ev)))
                  have HT := Lib.hid htn
                  have HG := Lib.hid hg
                  have FI := Lib.hid (fun (W : World) (f' : Nat → Hd) (h : HpM W w.heap.size HB HB (.slice ca nc cc) cs K (.slice (some ⟨g, 0, none⟩) (m + 1) cap) f' (m + 1)) => h.first (by omega))
                  have pn0 : ps.length ≤ 16384 := by have := ALH.out; omega
                  have PN := Lib.hid pn0
                  have k2 := M.mem.s2
                  obtain ⟨k0, _, _⟩ := M.mem.first (by omega)
                  rw [ev] at k0
                  have d0 := (wb.cell (p := ⟨b, o, none⟩) hb).trans c0
                  have d1 := (wb.cell (p := ⟨b, o + 1, none⟩) hb).trans c1
                  have bz : b < wr.heap.size := Nat.lt_of_lt_of_le hb wb.size
                  have m1 : (0 : Int) < ((m + 1 : Nat) : Int) := by omega
                  have m2 : (0 : Int) < (m : Int) + 1 := by omega
                  have GH := Lib.hid hgh
                  clear hS M wb slen HCl stp sta stt c2 htn hF0 ne hg pl pn0 hV eh et en ev c0 c1 hgh
                  generalize row.length = rn at *
                  go_upto_region 24 with (go_at_call 32; refine Calls.mono LEN.out ?_; rintro e w5 ⟨rfl, hb5⟩; obtain ⟨x5, rfl⟩ := Ext.of hb5)
                  have X5 := Lib.hid hb5
                  have e0 := (x5.cell g 0 hgl).trans k0
                  have e1 := (x5.cell b o bz).trans d0
                  have e2 := (x5.cell b (o + 1) bz).trans d1
                  have MX := Lib.hid (MM.out.on x5.below)
                  have OX := Lib.hid MX.out.own
                  have hbx : HB ≤ x5.it.heap.size := Nat.le_of_lt (x5.lt hbz)
                  clear hb5
                  generalize x5.it = z at *
                  clear x5
                  go_upto_region 25 with (at_builtin; go_must (refine wpList_append_lies _ rfl _ _ 22 rfl HB 35 i0 _ 2 32 Try.underlying22 hi hz0 hz1 hz2 rfl (by decide) (.slice oa ps.length oc) ps.length (ps.flatMap rcC) rfl (OX.out.alloc _) ⟨z.heap.size, 0, none⟩ 1 1 [.int .i64 sq, .slice la2 rn lc2] rfl rfl (World.news_of_block (heap_alloc_new z _)) (by simp [Value.oneCell']) (by omega) (by have := PN.out; unfold maxLen; omega) (by have := PN.out; omega) (by simp; omega) (z.heap.size + 1) (by simp) ?_); intro gb ocap w7 hown hgrow hat hlt7; go_must (have M7 := Lib.hid (MX.out.app ((Below.refl _ _).alloc (Nat.le_refl _) (.cells #[.int .i64 sq, .slice la2 rn lc2] 35)) (r := ⟨sq, row⟩) rfl VV.out hown hgrow rfl hat (Nat.le_succ _))); clear hown hgrow hat hlt7)
                  obtain ⟨k7, f7, g7⟩ := FI.out w7 f M7.mem
                  rw [EE.out.2.2.2] at k7
                  have b7 : Below w.heap.size w w7 := YB.out.trans (M7.keep.mono hwB)
                  obtain ⟨p1, p2⟩ := M7.mem.put1 (by omega) (.slice (if xc = 1 then some ⟨b, o, none⟩ else some ⟨b, o + 2, none⟩) tn (xc - 1)) tl (STT.out.mono b7 (Nat.le_refl _))
                  rw [EE.out.2.2.1] at p1
                  have M8 := M7.heads p1 (p2.mono (fun k _ h => .inr (by rw [h]; rfl))) rfl
                  have H8 := Lib.hid M8
                  clear M7 p1 p2 M8 b7 e0 e1 e2 k2 k0 d0 d1 bz hgl hcap
                  go_upto_region 26 with fail
                  generalize (if xc = 1 then some (⟨b, o, none⟩ : Addr) else some ⟨b, o + 2, none⟩) = va at *
                  generalize xc - 1 = vc at *
                  refine captureM ?_
                  intro y8 ey8
                  rw [← ey8] at H8
                  have k8 : y8.cell? ⟨g, 0, none⟩ = some (.slice va tn vc) := by rw [ey8]; exact World.cell?_setCell_same' _ _ _ (by rw [k7]; rfl)
                  have z8 : g < y8.heap.size := by rw [ey8]; simpa using g7
                  clear ey8 k7 f7 g7
                  by_cases t0 : tn = 0
                  · have tl0 : tl = [] := List.eq_nil_of_length_eq_zero (by rw [HT.out, t0])
                    have PD := SS.out.popD (⟨.slice va tn vc, tl, xn⟩ : Hd)
                    have POP := Lib.hid (heapPop_any H8.out.mem PD.1 PD.2 (by omega))
                    have TL := Lib.hid tl0
                    clear PD tl0
                    subst t0
                    go_wp2_with (go_at_call 33; refine Calls.mono POP.out ?_; rintro e w9 ⟨⟨v9, rfl⟩, f9, a1, a2, a3, a4⟩; have Q9 := Lib.hid (And.intro a1 a2); have M9 := Lib.hid (H8.out.heads a3 (a4.mono (fun k _ h => h.imp id (fun q => by rw [q]; rfl))) rfl); clear a1 a2 a3 a4)
                    go_roundg (Lr.set xn tl).flatten.length
                    case measure => have := STP.out.2.1; have := HG.out; omega
                    case rel =>
                      have S9 := SS.out.pop (⟨.slice va 0 vc, tl, xn⟩ : Hd) (by rw [EE.out.2.1]; exact TL.out) Q9.out.1 Q9.out.2
                      rw [EE.out.1, EE.out.2.1, EE.out.2.2.1] at S9
                      exact ⟨m, f9, _, _, _, _, rfl, by omega, S9, M9.out⟩
                  · have ntl : tl ≠ [] := fun q => t0 (by rw [← HT.out, q]; rfl)
                    have FD := SS.out.hp.fix (⟨.slice va tn vc, tl, xn⟩ : Hd)
                    have FIX := Lib.hid (heapFix_any H8.out.mem FD (fun j hj => by
                      by_cases e : j = 0
                      · rw [e, upd_s]; exact ntl
                      · rw [upd_o f _ e]; exact SS.out.live j hj) (by omega) (by omega))
                    have TL := Lib.hid ntl
                    have t1' : (tn == 0) = false := by simpa using t0
                    clear FD ntl
                    go_wp2_with (go_at_call 34; refine Calls.mono FIX.out ?_; rintro e w9 ⟨rfl, f9, a1, a2, a3, a4⟩; have Q9 := Lib.hid (And.intro a1 a2); have M9 := Lib.hid (H8.out.heads a3 (a4.mono (fun k _ h => .inr h)) rfl); clear a1 a2 a3 a4)
                    go_roundg (Lr.set xn tl).flatten.length
                    case measure => have := STP.out.2.1; have := HG.out; omega
                    case rel =>
                      have S9 := SS.out.fix (by omega) (.slice va tn vc) (by rw [EE.out.2.1]; exact STT.out) (by rw [EE.out.2.1]; exact TL.out) (by rw [EE.out.2.1, EE.out.2.2.1]; exact Q9.out.1) Q9.out.2
                      rw [EE.out.1, EE.out.2.1, EE.out.2.2.1] at S9
                      exact ⟨m + 1, f9, _, _, _, _, rfl, n16, S9, M9.out⟩
            · have hkn : k < N := by omega
              have hkl : k < Ls.length := by rw [HN.out]; exact hkn
              have hkn' : (k : Int) < (N : Int) := by omega
              obtain ⟨pb, po, rfl, hpc, hpb, rv, p0, p1⟩ := parts_in HP.out hkl
              obtain ⟨LK, hLK⟩ : ∃ LK, Ls[k]'hkl = LK := ⟨_, rfl⟩
              rw [hLK] at p1
              obtain ⟨ra, rc, rfl⟩ := recs_end p1
              obtain ⟨rl, hrl⟩ : ∃ rl, LK.length = rl := ⟨_, rfl⟩
              obtain ⟨b, hb⟩ : ∃ b, sortedF cs K LK = b := ⟨_, rfl⟩
              have SO := Lib.hid (fun (W : World) (hb' : Below w.heap.size w W) => (by have q := sorted_any (.slice ca nc cc) cs K _ LK W (HC.out.mono hb' hb'.size) (p1.mono hb' hb'.size); rw [hb] at q; exact q : Calls Try.prog 30 #[.agg #[.slice ca nc cc, .int .i64 (K : Int)], .slice ra LK.length rc] W fun e w' => e = .returned (.bool b) ∧ Below W.heap.size W w'))
              rw [hrl] at SO p0
              have f0 := (WB.out.cell (p := ⟨pb, po + k, none⟩) hpb).trans p0
              have fz : pb < wr.heap.size := Nat.lt_of_lt_of_le hpb WB.out.size
              rw [all_drop _ hkl, hLK, hb] at hA
              have k16 : k < 16 := by have := N16.out; omega
              cases b with
              | false =>
                have FIN := Lib.hid (mrg_nil (w := w) (mergeE_arg HS.out (by rw [HN.out]; exact N16.out) HB1.out (by rw [HB2.out, ← hA]; rfl)))
                clear hA hb hk hkl p0 p1 hpc hLK hrl hpb nk
                clear hkn
                go_wp2_with (go_at_call 30; refine Calls.mono (SO.out _ WB.out) ?_; rintro e w5 ⟨rfl, hb5⟩; obtain ⟨x5, rfl⟩ := Ext.of hb5)
                exact bodyPost_ret (v := .tuple #[.slice none 0 0, .int .i64 1]) (by simp (maxDischargeDepth := 9) [results, Try.results10, go_sem, *]) rfl (FIN.out _ (Below.to WB.out x5.below))
              | true =>
                rw [Bool.true_and] at hA
                have HA := Lib.hid hA
                have HK2 := Lib.hid (And.intro hk (And.intro hkn hg0))
                have HLK := Lib.hid (⟨hkl, hLK⟩ : ∃ h : k < Ls.length, Ls[k]'h = LK)
                have HSB := Lib.hid hb
                by_cases r0' : rl = 0
                · have l0 := Lib.hid (show LK = [] from List.eq_nil_of_length_eq_zero (by rw [hrl, r0']))
                  subst r0'
                  clear hA hb hk hkl p0 p1 hpc hLK hrl hpb nk hg0
                  go_wp2_with (go_at_call 30; refine Calls.mono (SO.out _ WB.out) ?_; rintro e w5 ⟨rfl, hb5⟩; obtain ⟨x5, rfl⟩ := Ext.of hb5)
                  go_roundg (gk - 1)
                  case measure => have := HK2.out.2.2; omega
                  case rel => exact ⟨k + 1, n, f, hv, by have := HK2.out.1; have := HK2.out.2.2; omega, by go_num, HA.out, (by obtain ⟨hkl, eLK⟩ := HLK.out; exact (LL.out.on x5.below).skip hkl (by rw [eLK]; exact l0.out) (by rw [eLK]; exact HSB.out))⟩
                · have ne : LK ≠ [] := fun q => r0' (by rw [← hrl, q]; rfl)
                  have NE := Lib.hid ne
                  have P1 : Hid (RecsAt w w.heap.size (.slice ra rl rc) LK) := Lib.hid (by rw [← hrl]; exact p1)
                  have HPU : Hid (∀ x5 : Ext wr, Calls Try.prog 31 #[.iface 63 (.pointer (some ⟨HB, 0, none⟩)), .iface 69 (.agg #[.slice ra rl rc, .int .i64 (k : Int)])] x5.it fun e w' => e = .returned (.tuple #[]) ∧ HPuPost x5.it w.heap.size HB HB (.slice ca nc cc) cs K (upd f n ⟨.slice ra rl rc, LK, k⟩) (n + 1) w') :=
                    Lib.hid (fun x5 => heapPush_any (LL.out.on x5.below).mem LL.out.hp LL.out.live ⟨.slice ra rl rc, LK, k⟩ (P1.out.mono (Below.to WB.out x5.below) (Nat.le_refl _)) NE.out (by omega))
                  have rpos : (0 : Int) < (rl : Int) := by omega
                  clear hA hb hk hkl p0 p1 hpc hLK hrl hpb nk hg0 ne
                  go_wp2_with (first | (go_at_call 30; refine Calls.mono (SO.out _ WB.out) ?_; rintro e w5 ⟨rfl, hb5⟩; obtain ⟨x5, rfl⟩ := Ext.of hb5) | (go_at_call 31; refine Calls.mono (HPU.out x5) ?_; rintro e w6 ⟨rfl, hq⟩; have Q6 := Lib.hid hq; clear hq))
                  go_roundg (gk - 1)
                  case measure => have := HK2.out.2.2; omega
                  case rel =>
                    have l5 := (LL.out.on x5.below)
                    obtain ⟨hkl, eLK⟩ := HLK.out
                    obtain ⟨f6, hv6, h6⟩ := l5.push hkl (.slice ra rl rc) (by rw [eLK]; exact P1.out) (by rw [eLK]; exact NE.out) (by rw [eLK]; exact HSB.out) (by rw [eLK]; exact Q6.out)
                    exact ⟨k + 1, n + 1, f6, hv6, by have := HK2.out.1; have := HK2.out.2.2; omega, by go_num, HA.out, h6⟩
        · have hkn : k < N := by omega
          have hkl : k < Ls.length := by rw [HN.out]; exact hkn
          have hkn' : (k : Int) < (N : Int) := by omega
          obtain ⟨pb, po, rfl, hpc, hpb, rv, p0, p1⟩ := parts_in HP.out hkl
          obtain ⟨LK, hLK⟩ : ∃ LK, Ls[k]'hkl = LK := ⟨_, rfl⟩
          rw [hLK] at p1
          obtain ⟨ra, rc, rfl⟩ := recs_end p1
          obtain ⟨rl, hrl⟩ : ∃ rl, LK.length = rl := ⟨_, rfl⟩
          rw [hrl] at p0
          have f0 := (hx.cell (p := ⟨pb, po + k, none⟩) hpb).trans p0
          have fz : pb < x.it.heap.size := Nat.lt_of_lt_of_le hpb hx.size
          rw [any_drop _ hkl, hLK, hrl] at hA
          have HX := Lib.hid hx
          by_cases q : 1024 < rl
          · have FIN := Lib.hid (mrg_nil (w := w) (mergeE_long HS.out (by rw [HN.out]; exact N16.out) (by rw [HB1.out, ← hA]; simp [q])))
            have q' : (1024 : Int) < (rl : Int) := by omega
            clear hA hk hkl p0 p1 hpc hLK hrl hpb hx
            clear hkn
            go_wp2_with fail
            exact bodyPost_ret (v := .tuple #[.slice none 0 0, .int .i64 7]) (by simp (maxDischargeDepth := 9) [results, Try.results10, go_sem, *]) rfl (FIN.out _ HX.out)
          · have q' : ¬ (1024 : Int) < (rl : Int) := by omega
            have HA := Lib.hid (show (Ls.drop (k + 1)).any (fun l => decide (1024 < l.length)) = B1 by rw [← hA]; simp [q])
            have HK2 := Lib.hid (And.intro hk hg0)
            clear hA hk hkl p0 p1 hpc hLK hrl hpb hx hg0
            go_wp2_with fail
            go_roundg (gk - 1)
            case measure => have := HK2.out.2; omega
            case rel => exact ⟨k + 1, by have := HK2.out.1; have := HK2.out.2; omega, by go_num, HA.out, x, rfl⟩
  · have FIN := Lib.hid (mrg_nil (w := w) (by have q := mergeE_schema (cs := cs) (key := key) (Ls := Ls) (by rw [hS]; exact s0); rw [hS] at q; exact q))
    have t1 : (S != 0) = true := by simpa using s0
    clear hS hN
    go_enter Try.func10, Try.ntmps10
    go_wp2_with (go_at_call 29; refine Calls.mono (SC.out _ (by repeat (first | with_reducible exact Below.refl _ _ | with_reducible assumption | with_reducible refine Below.al ?_ _ | with_reducible refine Below.on ?_ _ | with_reducible refine Below.st ?_ (by first | assumption | (simp; done) | (simp; omega)) _ | with_reducible refine Below.drew ?_))) ?_; rintro e w1 ⟨rfl, hb1⟩; obtain ⟨x1, rfl⟩ := Ext.of hb1; have z0 : w.heap.size < x1.it.heap.size := x1.lt (by simp); have q0 := (x1.cell w.heap.size 0 (by simp)).trans (by simp [go_sem] : _ = some (.slice ca nc cc)); have q1 := (x1.cell w.heap.size 1 (by simp)).trans (by simp [go_sem] : _ = some (.int .i64 key)))
    exact bodyPost_ret (v := .tuple #[.slice none 0 0, .int .i64 S]) (by simp [results, Try.results10, go_sem, *]) rfl (FIN.out _ (by repeat (first | with_reducible exact Below.refl _ _ | with_reducible assumption | with_reducible refine Below.al ?_ _ | with_reducible refine Below.on ?_ _ | with_reducible refine Below.st ?_ (by first | assumption | (simp; done) | (simp; omega)) _ | with_reducible refine Below.drew ?_)))
end Go.Proofs.Ytgooffpmiilicaa
