/-
  THE MAKERS: keep.Loose: valid records in any order. Conditions: the schema and the choices lie in memory as 'ColsAt', 'IntsAt' say.
-/
import Derived.Test.YtkblkjfejaflkaaApp
import Derived.Deep.AppendLies
import Derived.Deep.RegionHeld3
set_option linter.unusedVariables false
set_option linter.unusedSimpArgs false
namespace Go.Proofs.Ytkblkjfejaflkaa
open Go.RowKit
/-- What the makers say of each record. -/
def RcOk (cs : List Col) (r : Rc) : Prop := 0 ≤ r.seq ∧ r.seq ≤ 1000000 ∧ r.row.length = cs.length ∧ RowPre cs r.row
def LoosePost (w : World) (cs : List Col) (n : Int) (e : Ending) (w' : World) : Prop := ∃ v rs, e = .returned v ∧ RecsAt w' w'.heap.size v rs ∧ (rs.length : Int) ≤ n ∧ (∀ r ∈ rs, RcOk cs r) ∧ Below w.heap.size w w'
set_option maxRecDepth 8000 in
set_option maxHeartbeats 2000000 in
theorem loose_any (cv : Value) (cs : List Col) (key : Int) (lv : Value) (zs : List Int) (n : Int) (w : World) (hc : ColsAt w w.heap.size cv cs) (h : IntsAt w w.heap.size lv zs) (h0 : 0 ≤ n) (h1 : n ≤ 100) (hty : ∀ j (h : j < cs.length), 1 ≤ (cs[j]'h).ty ∧ (cs[j]'h).ty ≤ 5) (h12 : cs.length ≤ 12) :
    Calls Try.prog 14 #[.agg #[cv, .int .i64 key], lv, .int .i64 n] w (LoosePost w cs n) := by
  obtain ⟨i0, hi, hz0, hz1, hz2⟩ := info_parts infoRec
  obtain ⟨ca, cc, rfl⟩ := cols_end hc
  obtain ⟨m, hl⟩ : ∃ m, cs.length = m := ⟨_, rfl⟩
  have HL := Lib.hid hl
  have HC : Hid (ColsAt w w.heap.size (.slice ca m cc) cs) := Lib.hid (by rw [← hl]; exact hc)
  have HT := Lib.hid (And.intro hty h12)
  rw [hl]
  have h2 : IntsAt (w.alloc (.cells #[.slice ca m cc, .int .i64 key] 28)) (w.alloc (.cells #[.slice ca m cc, .int .i64 key] 28)).heap.size lv zs := (h.to (fun k hk => Below.heap_alloc _ _ _ hk)).mono (by simp)
  clear hl hc hty h12 h
  go_enter Try.func14, Try.ntmps14
  go_upto_region 3 with (go_at_call 39; refine (from_any lv zs _ h2).mono ?_; rintro e w1 ⟨rfl, hb1, hs1⟩; obtain ⟨x1, rfl⟩ := Ext.of hb1; have z0 : w.heap.size < x1.it.heap.size := x1.lt (by simp))
  simp only [World.size_alloc] at hs1
  have y0 : x1.it.cell? ⟨w.heap.size, 0, none⟩ = some (.slice ca m cc) := (x1.cell w.heap.size 0 (by simp)).trans (by simp [go_sem])
  have y1 : x1.it.cell? ⟨w.heap.size, 1, none⟩ = some (.int .i64 key) := (x1.cell w.heap.size 1 (by simp)).trans (by simp [go_sem])
  have yw : Below w.heap.size w x1.it := (by repeat (first | with_reducible exact Below.refl _ _ | with_reducible assumption | with_reducible refine Below.al ?_ _ | with_reducible refine Below.on ?_ _ | with_reducible refine Below.st ?_ (by first | assumption | (simp; done) | (simp; omega)) _ | with_reducible refine Below.drew ?_))
  have HS := Lib.hid hs1
  have ysb := hs1.lt
  clear hb1 hs1 h2
  generalize x1.it = y at *
  clear x1
  go_wp2_with (go_at_call 40; refine Calls.mono (next_any _ zs (n + 1) (by omega) (by omega) _ HS.out) ?_; rintro e w3 ⟨rfl, hm3, hs3⟩; have MK : Hid (KpMem rcC 31 2 y (w.heap.size + 1) w3 (.slice none 0 0) [] (nextF (n + 1) zs).2) := Lib.hid ⟨Mv.of_moved hm3 rfl, ysb, hs3, World.ownsRow_nil _ _ _ _⟩; clear hm3 hs3)
  have nb := nextF_bd zs (n := n + 1) (by omega)
  obtain ⟨N0, hN0⟩ : ∃ N0 : Nat, (nextF (n + 1) zs).1 = N0 := ⟨(nextF (n + 1) zs).1.toNat, by omega⟩
  have hN1 : (N0 : Int) ≤ n := by omega
  generalize (nextF (n + 1) zs).2 = r0 at *
  rw [hN0]
  clear hN0 nb HS
  go_loopg [8, 9] N0 (fun g v i wr => ∃ (ps : List (Int × Value)) (rs : List Rc) (r' : List Int), rs.length + g = N0 ∧ i = .int .i64 (g : Int) ∧ KpMem rcC 31 2 y (w.heap.size + 1) wr v ps r' ∧ InnR y.heap.size wr v ps rs ∧ ∀ r ∈ rs, RcOk cs r)
  case atStart => exact ⟨[], [], r0, by simp, rfl, MK.out, ⟨rfl, fun j hj => absurd hj (by simp)⟩, fun a ha => absurd ha (by simp)⟩
  case round =>
    obtain ⟨ps, rs, r', hk, rfl, M, I, hp⟩ := hrel
    clear MK
    have MO := Lib.hid (And.intro M (And.intro I hp))
    obtain ⟨va, vc, rfl⟩ := own_form M.own
    clear M I hp
    by_cases hg0 : gk = 0
    · subst hg0
      have HK := Lib.hid hk
      clear hk
      go_wp2
      refine bodyPost_ret (v := .slice va ps.length vc) ?_ rfl ⟨_, rs, rfl, inn_recs (by have := HK.out; omega) MO.out.2.1 MO.out.1.own, by have := HK.out; omega, MO.out.2.2, ?_⟩
      · simp (maxDischargeDepth := 9) [results, Try.results14, go_sem, *]
      · exact Mv.below MO.out.1.mv yw (fun k hk => by omega)
    · have hlt : (0 : Int) < (gk : Int) := by omega
      have hlt1 : (1 : Int) ≤ (gk : Int) := by omega
      have hlt2 : (gk : Int) ≤ 100 := by omega
      have HK := Lib.hid (And.intro hk hg0)
      have f0 := (MO.out.1.mv.cell 0 (b := w.heap.size) (by omega) (by omega)).trans y0
      have f1 := (MO.out.1.mv.cell 1 (b := w.heap.size) (by omega) (by omega)).trans y1
      have fz : w.heap.size < wr.heap.size := by have := MO.out.1.mv.size; omega
      have HCr : Hid (ColsAt wr (w.heap.size + 1) (.slice ca m cc) cs) := Lib.hid ((HC.out.mono (B' := w.heap.size + 1) yw (by omega)).mv MO.out.1.mv.moved (by omega))
      have hyz : y.heap.size ≤ wr.heap.size := MO.out.1.mv.size
      have HV := Lib.hid (fun k (hk : Value.ownBlock (.slice va ps.length vc) = some k) => (MO.out.1.own.lt k hk))
      have RL : ps.length ≤ 100 := by have := MO.out.2.1.1; omega
      have RG := Lib.hid RL
      have NB := Lib.hid (nextF_bd r' (n := 6) (by decide))
      clear hk hg0 RL
      go_upto_region 6 with fail
      go_region_held3 (fun w' => w'.cell? ⟨w.heap.size, 0, none⟩ = some (.slice ca m cc) ∧ w'.cell? ⟨w.heap.size, 1, none⟩ = some (.int .i64 key)) (first | exact ⟨by assumption, by assumption⟩ | (refine ⟨?_, ?_⟩ <;> simp [go_sem, *]))
        (first
          | (refine step_append_lies _ (by rfl) _ _ 24 (by rfl) y.heap.size 31 i0 _ 2 32 Try.underlying24 hi hz0 hz1 hz2 rfl (by decide) (.slice va ps.length vc) ps.length (ps.flatMap rcC) (by rfl) (MKH.out.1.own.alloc _) ⟨w4.heap.size, 0, none⟩ 1 1 (rcC (sq, .slice a3 vs3.length q3)) (by rfl) rfl (World.news_of_block (heap_alloc_new w4 _)) (rcC_one _ rfl) (by omega) (by have := RG.out; unfold maxLen; omega) (by have := RG.out; omega) (by simp; omega) (w4.heap.size + 1) (by simp) ?_; intro gb cap w7 hown hgrow hat hlt7; have q70 : w7.cell? ⟨w.heap.size, 0, none⟩ = some (.slice ca m cc) := hgrow.cell (a := ⟨w.heap.size, 0, none⟩) (by simp (maxDischargeDepth := 9) [go_sem, *]) (fun e => by have := (HV.out _ e.symm).1; dsimp only at this; omega); have q71 : w7.cell? ⟨w.heap.size, 1, none⟩ = some (.int .i64 key) := hgrow.cell (a := ⟨w.heap.size, 1, none⟩) (by simp (maxDischargeDepth := 9) [go_sem, *]) (fun e => by have := (HV.out _ e.symm).1; dsimp only at this; omega))
          | (go_at_call 40; refine Calls.mono (next_any _ r' 6 (by decide) (by decide) _ MO.out.1.src.drew) ?_; rintro e w3 ⟨rfl, hm3, hs3⟩; have m3 : Mv (fun k => k = w.heap.size + 1) wr w3 := Mv.mv (Mv.refl _ _).drew hm3 rfl; have MK3 := Lib.hid (And.intro (MO.out.1.to m3 hs3) (MO.out.2.1.mv m3 (by omega))); have C3 : Hid (ColsAt w3 (w.heap.size + 1) (.slice ca m cc) cs) := Lib.hid (HCr.out.mv m3.moved (by omega)); have g0 := (m3.cell 0 (b := w.heap.size) fz (by omega)).trans f0; have g1 := (m3.cell 1 (b := w.heap.size) fz (by omega)).trans f1; have gz : w.heap.size < w3.heap.size := Nat.lt_of_lt_of_le fz m3.size; have gy : y.heap.size ≤ w3.heap.size := Nat.le_trans hyz m3.size; have sz3 := Lib.hid m3.size; obtain ⟨sq, hsq⟩ : ∃ sq, (nextF 6 r').1 = sq := ⟨_, rfl⟩; rw [hsq]; have SQ := Lib.hid hsq; clear hsq hm3 hs3 m3)
          | (go_at_call 41; refine Calls.mono (row_any _ _ _ cs key _ MK3.out.1.src C3.out HT.out.1 HT.out.2) ?_; rintro e w4 ⟨v3, vs3, r3, rfl, hm4, hs4, ho4, hl4, hp4⟩; have OL := ho4.lt; have OV := Lib.hid (own_vals (by rw [hl4]; have := HT.out.2; omega) ho4); obtain ⟨a3, q3, rfl⟩ := own_form ho4; have m4 : Mv (fun k => k = w.heap.size + 1) w3 w4 := Mv.of_moved hm4 rfl; have MKH := Lib.hid (And.intro (MK3.out.1.to m4 hs4) (MK3.out.2.mv m4 (by omega))); have OLH := Lib.hid OL; have HLP := Lib.hid (And.intro hl4 hp4); have k0 := (m4.cell 0 (b := w.heap.size) gz (by omega)).trans g0; have k1 := (m4.cell 1 (b := w.heap.size) gz (by omega)).trans g1; have kz : w.heap.size < w4.heap.size := Nat.lt_of_lt_of_le gz m4.size; have ky : y.heap.size ≤ w4.heap.size := Nat.le_trans gy m4.size; clear OL hm4 hs4 ho4 hl4 hp4 m4))
      have MS := Lib.hid (And.intro ((MKH.out.1.al _).step (c := (sq, .slice a3 vs3.length q3)) hgrow hown) (InnR.step (v1 := .slice (some ⟨gb, 0, none⟩) (ps.length + 1) cap) (p := (sq, .slice a3 vs3.length q3)) (r := ⟨sq, vs3⟩) (MKH.out.2.mv (Mv.al (Mv.refl _ _) _) (by omega)) rfl (OV.out.mono ((Below.refl _ _).alloc (Nat.le_refl _) _) (by simp)) (fun k hk => ⟨by have := (OLH.out k hk).1; omega, by have := (OLH.out k hk).2; simp; omega, fun e => by have := (HV.out k e).2; have := (OLH.out k hk).1; have := sz3.out; omega⟩) hgrow (hat.imp (fun q => q.trans rfl) (fun q => by rw [q]; simp [Value.ownBlock]))))
      clear hown hgrow hat hlt7
      go_wp2_with fail
      go_roundg (gk - 1)
      case measure => have := HK.out; omega
      case rel =>
        exact ⟨ps ++ [(sq, .slice a3 vs3.length q3)], rs ++ [⟨sq, vs3⟩], r3, by have := HK.out; simp; omega, by go_num, MS.out.1, MS.out.2, fun a ha => by
          rcases List.mem_append.1 ha with q | q
          · exact MO.out.2.2 a q
          · rw [List.mem_singleton.1 q]; exact ⟨by have := NB.out; have := SQ.out; dsimp only; omega, by have := NB.out; have := SQ.out; dsimp only; omega, HLP.out.1, HLP.out.2⟩⟩
end Go.Proofs.Ytkblkjfejaflkaa
