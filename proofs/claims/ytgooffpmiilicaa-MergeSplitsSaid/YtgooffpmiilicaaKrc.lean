/-
  THE MAKERS: keep.Recs: valid records, sorted, no two of one number. Conditions: the schema is valid, and it and the choices lie in memory as 'ColsAt', 'IntsAt' say.
-/
import Derived.Test.YtgooffpmiilicaaLoo
import Derived.Test.YtgooffpmiilicaaRst
set_option linter.unusedVariables false
set_option linter.unusedSimpArgs false
namespace Go.Proofs.Ytgooffpmiilicaa
open Go.RowKit Srt
theorem colsE_tys : ∀ (cs pre : List Col), colsE pre cs = 0 → ∀ j (h : j < cs.length), 1 ≤ (cs[j]'h).ty ∧ (cs[j]'h).ty ≤ 5
  | [], _, _, j, h => absurd h (by simp)
  | c :: cs, pre, h0, j, h => by
    simp only [colsE] at h0
    by_cases e : colE pre c = 0
    · rw [if_pos e] at h0
      cases j with
      | zero =>
        unfold colE at e
        split at e
        · exact absurd e (by decide)
        · split at e
          · exact absurd e (by decide)
          · split at e
            · exact absurd e (by decide)
            · show 1 ≤ c.ty ∧ c.ty ≤ 5; omega
      | succ j => exact colsE_tys cs _ h0 j (by simpa using h)
    · rw [if_neg e] at h0; exact absurd h0 e
theorem schema_parts {cs : List Col} {key : Int} (hs : schemaF cs key = 0) : (∀ j (h : j < cs.length), 1 ≤ (cs[j]'h).ty ∧ (cs[j]'h).ty ≤ 5) ∧ 1 ≤ cs.length ∧ cs.length ≤ 12 ∧ 0 ≤ key ∧ key < cs.length := by
  unfold schemaF at hs
  split at hs
  · exact absurd hs (by decide)
  · split at hs
    · exact absurd hs (by decide)
    · split at hs
      · rename_i e
        split at hs
        · exact absurd hs (by decide)
        · exact ⟨colsE_tys cs [] e, by omega, by omega, by omega, by omega⟩
      · rename_i e; exact absurd hs e
theorem rcOk_row {cs : List Col} {r : Rc} (h : RcOk cs r) : rowE cs r.row = 0 := by
  unfold rowE
  rw [if_pos h.2.2.1]
  exact rowEs_pre fun i h1 h2 => h.2.2.2 i h2 h1
theorem rcOk_valid {cs : List Col} {key : Int} {rs : List Rc} (hs : schemaF cs key = 0) (h : ∀ r ∈ rs, RcOk cs r) : validF cs key rs = true := by
  unfold validF
  rw [hs]
  have : rs.any (badR cs) = false := by
    rw [List.any_eq_false]
    intro r hr
    have k := h r hr
    unfold badR
    rw [rcOk_row k, decide_eq_false (by have := k.1; omega), decide_eq_false (by have := k.2.1; omega)]
    decide
  rw [this]; rfl
theorem ascF_of {d : Rc → Rc → Int} : ∀ {l : List Rc}, l.Pairwise (fun x y => d x y < 0) → ascF d l = true
  | [], _ => rfl
  | [_], _ => rfl
  | x :: y :: r, h => by
    have h1 := List.pairwise_cons.1 h
    unfold ascF
    rw [decide_eq_true (h1.1 y (by simp)), ascF_of h1.2]; rfl
theorem cmpI_zero {a b : Int} (h : cmpI a b = 0) : a = b := by
  unfold cmpI at h
  split at h
  · cases h
  split at h
  · assumption
  · cases h
theorem recD_zero {t : Int} {K : Nat} {x y : Rc} (hx : K < x.row.length) (hy : K < y.row.length) (h : recD t K x y = 0) : x.seq = y.seq := by
  unfold recD at h
  have ex : (rankF K x).seq = x.seq := by unfold rankF; rw [if_neg (by omega)]
  have ey : (rankF K y).seq = y.seq := by unfold rankF; rw [if_neg (by omega)]
  unfold cmpR orF at h
  split at h
  · rw [ex, ey] at h; exact cmpI_zero h
  · rename_i q; exact absurd h q
/-- Records whose numbers ascend: the sorted ones are Sorted. -/
theorem sort_sorted {cs : List Col} {key : Int} {rs : List Rc} (hs : schemaF cs key = 0) (h : ∀ r ∈ rs, RcOk cs r) (hp : rs.Pairwise (fun x y => x.seq < y.seq)) : sortedF cs key (sortF cs key rs) = true ∧ (sortF cs key rs).Perm rs := by
  have hv := rcOk_valid hs h
  obtain ⟨K, rfl, hK⟩ := schema_key hs
  have E : sortF cs K rs = srt (recD (tyK cs K) K) rs := by unfold sortF; rw [if_pos hv]
  have hperm := srt_perm (recD (tyK cs K) K) rs
  rw [E]
  refine ⟨?_, hperm⟩
  have hmem : ∀ r ∈ srt (recD (tyK cs K) K) rs, RcOk cs r := fun r hr => h r (hperm.subset hr)
  unfold sortedF
  rw [rcOk_valid hs hmem, Bool.true_and]
  have ho := srt_ord (c := recD (tyK cs K) K) (ix := fun r : Rc => r.seq.toNat) (recD_pre _ _) rs (by
    refine List.Pairwise.imp_of_mem ?_ hp
    intro a b ha hb hab
    have := (h a ha).1
    show a.seq.toNat < b.seq.toNat
    omega)
  refine ascF_of (List.Pairwise.imp_of_mem ?_ ho)
  intro a b ha hb hab
  rcases hab with q | ⟨q, q'⟩
  · exact q
  · have e := recD_zero (by rw [(hmem a ha).2.2.1]; exact hK) (by rw [(hmem b hb).2.2.1]; exact hK) q
    simp only [e] at q'
    omega
def RecsPost (w : World) (cs : List Col) (key n : Int) (e : Ending) (w' : World) : Prop := ∃ v rs, e = .returned v ∧ RecsAt w' w'.heap.size v rs ∧ (rs.length : Int) ≤ n ∧ (∀ r ∈ rs, RcOk cs r) ∧ sortedF cs key rs = true ∧ Below w.heap.size w w'
set_option maxRecDepth 8000 in
set_option maxHeartbeats 2000000 in
theorem keepRecs_any (cv : Value) (cs : List Col) (key : Int) (lv : Value) (zs : List Int) (n : Int) (w : World) (hc : ColsAt w w.heap.size cv cs) (h : IntsAt w w.heap.size lv zs) (h0 : 0 ≤ n) (h1 : n ≤ 100) (hsc : schemaF cs key = 0) (hty : ∀ j (h : j < cs.length), 1 ≤ (cs[j]'h).ty ∧ (cs[j]'h).ty ≤ 5) (h12 : cs.length ≤ 12) :
    Calls Try.prog 27 #[.agg #[cv, .int .i64 key], lv, .int .i64 n] w (RecsPost w cs key n) := by
  obtain ⟨i0, hi, hz0, hz1, hz2⟩ := info_parts infoRec
  obtain ⟨ca, cc, rfl⟩ := cols_end hc
  obtain ⟨m, hl⟩ : ∃ m, cs.length = m := ⟨_, rfl⟩
  have HL := Lib.hid hl
  have HC : Hid (ColsAt w w.heap.size (.slice ca m cc) cs) := Lib.hid (by rw [← hl]; exact hc)
  have HT := Lib.hid (And.intro hty h12)
  have HSC := Lib.hid hsc
  rw [hl]
  have h2 : IntsAt (w.alloc (.cells #[.slice ca m cc, .int .i64 key] 28)) (w.alloc (.cells #[.slice ca m cc, .int .i64 key] 28)).heap.size lv zs := (h.to (fun k hk => Below.heap_alloc _ _ _ hk)).mono (by simp)
  clear hl hc hty h12 h hsc
  go_enter Try.func27, Try.ntmps27
  go_upto_region 3 with (go_at_call 36; refine (from_any lv zs _ h2).mono ?_; rintro e w1 ⟨rfl, hb1, hs1⟩; obtain ⟨x1, rfl⟩ := Ext.of hb1; have z0 : w.heap.size < x1.it.heap.size := x1.lt (by simp))
  simp only [World.size_alloc] at hs1
  have y0 : x1.it.cell? ⟨w.heap.size, 0, none⟩ = some (.slice ca m cc) := (x1.cell w.heap.size 0 (by simp)).trans (by simp [go_sem])
  have y1 : x1.it.cell? ⟨w.heap.size, 1, none⟩ = some (.int .i64 key) := (x1.cell w.heap.size 1 (by simp)).trans (by simp [go_sem])
  have yw : Below w.heap.size w x1.it := (by repeat (first | with_reducible exact Below.refl _ _ | with_reducible assumption | with_reducible refine Below.al ?_ _ | with_reducible refine Below.on ?_ _ | with_reducible refine Below.st ?_ (by first | assumption | (simp; done) | (simp; omega)) _ | with_reducible refine Below.drew ?_))
  have HS := Lib.hid hs1
  have ysb := hs1.lt
  clear hb1 hs1 h2
  generalize x1.it = y at *
  clear x1
  have nb5 := nextF_bd zs (n := 5) (by decide)
  go_upto_region 4 with (go_at_call 37; refine Calls.mono (next_any _ zs 5 (by decide) (by decide) _ HS.out) ?_; rintro e w2 ⟨rfl, hm2, hs2⟩; have M2 := Lib.hid hm2; have S2 := Lib.hid hs2; clear hm2 hs2)
  obtain ⟨S0, hS0⟩ : ∃ S0, (nextF 5 zs).1 = S0 := ⟨_, rfl⟩
  rw [hS0] at nb5 ⊢
  clear hS0
  generalize (nextF 5 zs).2 = zs2 at *
  go_wp2_with (go_at_call 37; refine Calls.mono (next_any _ zs2 (n + 1) (by omega) (by omega) _ S2.out) ?_; rintro e w3 ⟨rfl, hm3, hs3⟩; have MK : Hid (KpMem rcC 35 2 y (w.heap.size + 1) w3 (.slice none 0 0) [] (nextF (n + 1) zs2).2) := Lib.hid ⟨Mv.mv (S := fun k => k = w.heap.size + 1) (Mv.of_moved M2.out rfl) hm3 rfl, ysb, hs3, World.ownsRow_nil _ _ _ _⟩; clear hm3 hs3)
  have nb := nextF_bd zs2 (n := n + 1) (by omega)
  obtain ⟨N0, hN0⟩ : ∃ N0 : Nat, (nextF (n + 1) zs2).1 = N0 := ⟨(nextF (n + 1) zs2).1.toNat, by omega⟩
  have hN1 : (N0 : Int) ≤ n := by omega
  generalize (nextF (n + 1) zs2).2 = r0 at *
  rw [hN0]
  clear hN0 nb HS M2 S2
  go_loopg [8, 9, 10] N0 (fun g v sqv i wr => ∃ (ps : List (Int × Value)) (rs : List Rc) (r' : List Int) (sq : Int), rs.length + g = N0 ∧ sqv = .int .i64 sq ∧ i = .int .i64 (g : Int) ∧ 0 ≤ sq ∧ sq ≤ 4 + 3 * rs.length ∧ KpMem rcC 35 2 y (w.heap.size + 1) wr v ps r' ∧ InnR y.heap.size wr v ps rs ∧ (∀ r ∈ rs, RcOk cs r) ∧ rs.Pairwise (fun a b => a.seq < b.seq) ∧ ∀ r ∈ rs, r.seq < sq)
  case atStart => exact ⟨[], [], r0, S0, by simp, rfl, rfl, by omega, by simp; omega, MK.out, ⟨rfl, fun j hj => absurd hj (by simp)⟩, fun a ha => absurd ha (by simp), .nil, fun a ha => absurd ha (by simp)⟩
  case round =>
    obtain ⟨ps, rs, r', sq, hk, rfl, rfl, hq0, hq1, M, I, hp, hpw, hlt'⟩ := hrel
    clear MK nb5
    have MO := Lib.hid (And.intro M (And.intro I (And.intro hp (And.intro hpw hlt'))))
    obtain ⟨va, vc, rfl⟩ := own_form M.own
    clear M I hp hpw hlt'
    have HK := Lib.hid hk
    have HQ := Lib.hid (And.intro hq0 hq1)
    by_cases hg0 : gk = 0
    · subst hg0
      have f0 := (MO.out.1.mv.cell 0 (b := w.heap.size) (by omega) (by omega)).trans y0
      have f1 := (MO.out.1.mv.cell 1 (b := w.heap.size) (by omega) (by omega)).trans y1
      have BX : Below w.heap.size w wr := Mv.below MO.out.1.mv yw (fun k hk => by omega)
      have SO := sort_sorted (key := key) HSC.out MO.out.2.2.1 MO.out.2.2.2.1
      have RS := Lib.hid (refSort_any (.slice ca m cc) cs key (.slice va ps.length vc) rs wr (HC.out.mono BX BX.size) (inn_recs (by have := HK.out; omega) MO.out.2.1 MO.out.1.own) (by have := HK.out; omega))
      have SOH := Lib.hid SO
      have BXH := Lib.hid BX
      clear hk hq0 hq1 SO BX
      go_wp2_with (go_at_call 46; refine Calls.mono RS.out ?_; rintro e w9 ⟨v9, ps9, rfl, R9⟩; obtain ⟨a9, c9, rfl⟩ := own_form R9.own; have HR9 := Lib.hid R9; clear R9)
      have SL := SOH.out.2.length_eq
      refine bodyPost_ret (v := .slice a9 ps9.length c9) ?_ rfl ⟨_, sortF cs key rs, rfl, HR9.out.recs (by rw [SL]; have := HK.out; omega), by rw [SL]; have := HK.out; omega, fun r hr => MO.out.2.2.1 r (SOH.out.2.subset hr), SOH.out.1, Below.to BXH.out HR9.out.below⟩
      simp (maxDischargeDepth := 9) [results, Try.results27, go_sem, *]
    · have hlt : (0 : Int) < (gk : Int) := by omega
      have hlt1 : (1 : Int) ≤ (gk : Int) := by omega
      have hlt2 : (gk : Int) ≤ 100 := by omega
      have hsq : sq ≤ 1000 := by omega
      have HG := Lib.hid hg0
      have f0 := (MO.out.1.mv.cell 0 (b := w.heap.size) (by omega) (by omega)).trans y0
      have f1 := (MO.out.1.mv.cell 1 (b := w.heap.size) (by omega) (by omega)).trans y1
      have fz : w.heap.size < wr.heap.size := by have := MO.out.1.mv.size; omega
      have HCr : Hid (ColsAt wr (w.heap.size + 1) (.slice ca m cc) cs) := Lib.hid ((HC.out.mono (B' := w.heap.size + 1) yw (by omega)).mv MO.out.1.mv.moved (by omega))
      have hyz : y.heap.size ≤ wr.heap.size := MO.out.1.mv.size
      have HV := Lib.hid (fun k (hk : Value.ownBlock (.slice va ps.length vc) = some k) => (MO.out.1.own.lt k hk))
      have RL : ps.length ≤ 100 := by have := MO.out.2.1.1; omega
      have RG := Lib.hid RL
      have SZ := Lib.hid hyz
      clear hk hg0 RL hq1
      go_upto_region 8 with (first
          | (go_at_call 45; refine Calls.mono (row_any _ _ _ cs key _ MO.out.1.src HCr.out HT.out.1 HT.out.2) ?_; rintro e w4 ⟨v3, vs3, r3, rfl, hm4, hs4, ho4, hl4, hp4⟩; have OL := ho4.lt; have OV := Lib.hid (own_vals (by rw [hl4]; have := HT.out.2; omega) ho4); obtain ⟨a3, q3, rfl⟩ := own_form ho4; have m4 : Mv (fun k => k = w.heap.size + 1) wr w4 := Mv.of_moved hm4 rfl; have MKH := Lib.hid (And.intro (MO.out.1.to m4 hs4) (MO.out.2.1.mv m4 (by omega))); have OLH := Lib.hid OL; have HLP := Lib.hid (And.intro hl4 hp4); have ky : y.heap.size ≤ w4.heap.size := Nat.le_trans hyz m4.size; clear OL hm4 hs4 ho4 hl4 hp4 m4)
          | (at_builtin; go_must (refine wpList_append_lies _ rfl _ _ 22 rfl y.heap.size 35 i0 _ 2 32 Try.underlying22 hi hz0 hz1 hz2 rfl (by decide) (.slice va ps.length vc) ps.length (ps.flatMap rcC) rfl (MKH.out.1.own.alloc _) ⟨w4.heap.size, 0, none⟩ 1 1 (rcC (sq, .slice a3 vs3.length q3)) rfl rfl (World.news_of_block (heap_alloc_new w4 _)) (rcC_one _ rfl) (by omega) (by have := RG.out; unfold maxLen; omega) (by have := RG.out; omega) (by simp; omega) (w4.heap.size + 1) (by simp) ?_); intro gb cap w7 hown hgrow hat hlt7; have MS := Lib.hid (And.intro ((MKH.out.1.al _).step (c := (sq, .slice a3 vs3.length q3)) hgrow hown) (InnR.step (v1 := .slice (some ⟨gb, 0, none⟩) (ps.length + 1) cap) (p := (sq, .slice a3 vs3.length q3)) (r := ⟨sq, vs3⟩) (MKH.out.2.mv (Mv.al (Mv.refl _ _) _) (by omega)) rfl (OV.out.mono ((Below.refl _ _).alloc (Nat.le_refl _) _) (by simp)) (fun k hk => ⟨by have := (OLH.out k hk).1; omega, by have := (OLH.out k hk).2; simp; omega, fun e => by have := (HV.out k e).2; have := (OLH.out k hk).1; omega⟩) hgrow (hat.imp (fun q => q.trans rfl) (fun q => by rw [q]; simp [Value.ownBlock])))); clear hown hgrow hat hlt7))
      have nb3 := nextF_bd r3 (n := 3) (by decide)
      go_wp2_with (go_at_call 37; refine Calls.mono (next_any _ r3 3 (by decide) (by decide) _ MS.out.1.src) ?_; rintro e w8 ⟨rfl, hm8, hs8⟩; have m8 : Mv (fun k => k = w.heap.size + 1) w7 w8 := Mv.of_moved hm8 rfl; have MT := Lib.hid (And.intro (MS.out.1.to m8 hs8) (MS.out.2.mv m8 (by omega))); clear hm8 hs8 m8; (obtain ⟨D, hD⟩ : ∃ D, (nextF 3 r3).1 = D := ⟨_, rfl⟩); rw [hD] at nb3 ⊢; clear hD)
      go_roundg (gk - 1)
      case measure => have := HG.out; omega
      case rel =>
        refine ⟨ps ++ [(sq, .slice a3 vs3.length q3)], rs ++ [⟨sq, vs3⟩], _, sq + (1 + D), by have := HK.out; have := HG.out; simp; omega, by first | rfl | go_num, by go_num, by omega, by have := HQ.out.2; simp; omega, MT.out.1, MT.out.2, ?_, ?_, ?_⟩
        · intro a ha
          rcases List.mem_append.1 ha with q | q
          · exact MO.out.2.2.1 a q
          · rw [List.mem_singleton.1 q]; exact ⟨HQ.out.1, by dsimp only; omega, HLP.out.1, HLP.out.2⟩
        · refine List.pairwise_append.2 ⟨MO.out.2.2.2.1, List.pairwise_singleton _ _, fun a ha b hb => ?_⟩
          rw [List.mem_singleton.1 hb]; exact MO.out.2.2.2.2 a ha
        · intro a ha
          rcases List.mem_append.1 ha with q | q
          · have := MO.out.2.2.2.2 a q; omega
          · rw [List.mem_singleton.1 q]; dsimp only; omega
end Go.Proofs.Ytgooffpmiilicaa
