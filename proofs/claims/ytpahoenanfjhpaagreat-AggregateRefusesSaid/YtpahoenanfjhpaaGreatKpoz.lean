/-
  THE MAKERS: keep.Predicate: a valid predicate in blocks of its own. Conditions: the schema is valid; it and the choices lie in memory as 'ColsAt', 'IntsAt' say.
-/
import Derived.Test.YtpahoenanfjhpaaGreatZk
import Derived.Test.YtpahoenanfjhpaaGreatZm
set_option linter.unusedVariables false
set_option linter.unusedSimpArgs false
namespace Go.Proofs.YtpahoenanfjhpaaGreat
open Go.RowKit
set_option maxRecDepth 8000 in
set_option maxHeartbeats 2000000 in
theorem kpredo_any (cv : Value) (cs : List Col) (key : Int) (lv : Value) (zs : List Int) (w : World) (hc : ColsAt w w.heap.size cv cs) (h : IntsAt w w.heap.size lv zs) (hsc : schemaF cs key = 0) :
    Calls Tryz.prog 22 #[.agg #[cv, .int .i64 key], lv] w fun e w' => ∃ (v : Value) (dl : List (Nod × Value)), e = .returned v ∧ w'.ownsRow w.heap.size 44 8 v dl.length (dl.flatMap nodC) ∧ Inn w.heap.size w' v (dl.map Prod.snd) (dl.map fun p => p.1.ls) ∧ predF cs key (dl.map Prod.fst) = 0 ∧ dl.length ≤ 7 ∧ (∀ p ∈ dl, p.1.ls.length ≤ 16) ∧ Below w.heap.size w w' := by
  obtain ⟨i0, hi, hz0, hz1, hz2⟩ := info_parts infoNod
  obtain ⟨ca, cc, rfl⟩ := cols_end hc
  obtain ⟨m, hl⟩ : ∃ m, cs.length = m := ⟨_, rfl⟩
  have HL := Lib.hid hl
  have HC : Hid (ColsAt w w.heap.size (.slice ca m cc) cs) := Lib.hid (by rw [← hl]; exact hc)
  have HT := Lib.hid (And.intro (schema_parts hsc) hsc)
  rw [hl]
  have h2 : IntsAt (w.alloc (.cells #[.slice ca m cc, .int .i64 key] 24)) (w.alloc (.cells #[.slice ca m cc, .int .i64 key] 24)).heap.size lv zs := (h.to (fun k hk => Below.heap_alloc _ _ _ hk)).mono (by simp)
  clear hl hc hsc h
  go_enter Tryz.func22, Tryz.ntmps22
  go_upto_region 3 with (go_at_call 19; refine (from_any lv zs _ h2).mono ?_; rintro e w1 ⟨rfl, hb1, hs1⟩; obtain ⟨x1, rfl⟩ := Ext.of hb1; have z0 : w.heap.size < x1.it.heap.size := x1.lt (by simp))
  simp only [World.size_alloc] at hs1
  have y0 : x1.it.cell? ⟨w.heap.size, 0, none⟩ = some (.slice ca m cc) := (x1.cell w.heap.size 0 (by simp)).trans (by simp [go_sem])
  have y1 : x1.it.cell? ⟨w.heap.size, 1, none⟩ = some (.int .i64 key) := (x1.cell w.heap.size 1 (by simp)).trans (by simp [go_sem])
  have yw : Below w.heap.size w x1.it := (by with_reducible repeat (first | exact Below.refl _ _ | assumption | refine Below.al ?_ _ | refine Below.on ?_ _ | refine Below.st ?_ (by first | assumption | (simp; done) | (simp; omega)) _ | refine Below.drew ?_))
  have HS := Lib.hid hs1
  have ysb := hs1.lt
  clear hb1 hs1 h2
  generalize x1.it = y at *
  clear x1
  go_wp2_with (go_at_call 20; refine Calls.mono (next_8 _ zs _ HS.out) ?_; rintro e w3 ⟨rfl, hm3, hs3⟩; have MK : Hid (KpMem nodC 44 8 y (w.heap.size + 1) w3 (.slice none 0 0) [] (nextF 8 zs).2) := Lib.hid ⟨Mv.of_moved hm3 rfl, ysb, hs3, World.ownsRow_nil _ _ _ _⟩; clear hm3 hs3)
  have nb := nextF_bd zs (n := 8) (by omega)
  obtain ⟨N0, hN0⟩ : ∃ N0 : Nat, (nextF 8 zs).1 = N0 := ⟨(nextF 8 zs).1.toNat, by omega⟩
  have hN1 : N0 ≤ 7 := by omega
  generalize (nextF 8 zs).2 = r0 at *
  rw [hN0]
  clear hN0 nb HS
  go_loopg [6, 7] N0 (fun g v i wr => ∃ (dl : List (Nod × Value)) (r' : List Int), dl.length + g = N0 ∧ i = .int .i64 (g : Int) ∧ KpMem nodC 44 8 y (w.heap.size + 1) wr v dl r' ∧ Inn y.heap.size wr v (dl.map Prod.snd) (dl.map fun p => p.1.ls) ∧ nodsE cs 0 (dl.map Prod.fst) = 0 ∧ ∀ p ∈ dl, p.1.ls.length ≤ 16)
  case atStart => exact ⟨[], r0, by simp, rfl, MK.out, ⟨rfl, fun j hj => absurd hj (by simp)⟩, rfl, fun p hp => absurd hp (by simp)⟩
  case round =>
    obtain ⟨dl, r', hk, rfl, M, I, hp, hlb⟩ := hrel
    have HLB := Lib.hid hlb
    clear hlb
    clear MK
    obtain ⟨va, vc, hv6⟩ := own_form M.own
    obtain ⟨nd, hnd⟩ : ∃ nd, dl.length = nd := ⟨_, rfl⟩
    have MO := Lib.hid (And.intro M (And.intro I hp))
    clear M I hp
    by_cases hg0 : gk = 0
    · subst hg0
      have HK := Lib.hid hk
      clear hk hv6 hnd
      go_wp2
      refine bodyPost_ret (v := u6) ?_ rfl ⟨u6, dl, rfl, lowR_own MO.out.1.own yw.size, lowR_inn MO.out.2.1 yw.size, ?_, by have := HK.out; omega, HLB.out, ?_⟩
      · simp (maxDischargeDepth := 9) [results, Tryz.results22, go_sem, *]
      · unfold predF
        rw [if_pos HT.out.2, if_neg (by have := HK.out; simp; omega)]
        exact MO.out.2.2
      · exact Mv.below MO.out.1.mv yw (fun k hk => by omega)
    · have hlt : (0 : Int) < (gk : Int) := by omega
      have hlt1 : (1 : Int) ≤ (gk : Int) := by omega
      have hlt2 : (gk : Int) ≤ 7 := by omega
      have hnd7 : nd ≤ 7 := by omega
      have HK := Lib.hid (And.intro hk hg0)
      have f0 := (MO.out.1.mv.cell 0 (b := w.heap.size) (by omega) (by omega)).trans y0
      have f1 := (MO.out.1.mv.cell 1 (b := w.heap.size) (by omega) (by omega)).trans y1
      have fz : w.heap.size < wr.heap.size := by have := MO.out.1.mv.size; omega
      have HCr : Hid (ColsAt wr (w.heap.size + 1) (.slice ca m cc) cs) := Lib.hid ((HC.out.mono (B' := w.heap.size + 1) yw (by omega)).mv MO.out.1.mv.moved (by omega))
      have hyz : y.heap.size ≤ wr.heap.size := MO.out.1.mv.size
      have HV := Lib.hid (fun k (hk : u6.ownBlock = some k) => (MO.out.1.own.lt k hk).2)
      rw [hnd] at hv6
      subst hv6
      have HN := Lib.hid hnd
      clear hk hg0 hnd
      have KN := Lib.hid (knode_any (w.heap.size + 1) r' (.slice ca m cc) cs key nd wr MO.out.1.src HCr.out HT.out.1.1 HT.out.1.2.1 HT.out.1.2.2.1 (by omega))
      go_wp2_with (first | (go_at_call 49; refine Calls.mono KN.out ?_; rintro e w3 ⟨d3, lv3, r3, rfl, hm3, hs3, ho3, hl3, hn3⟩; obtain ⟨a3, q3, rfl⟩ := own_form ho3; have MK := (MO.out.1.to (Mv.of_moved hm3 rfl) hs3); have IK := (MO.out.2.1.mv (Mv.of_moved (S := fun k => k = w.heap.size + 1) hm3 rfl) (by omega)); have VK := Lib.hid (And.intro (own_vals (by omega) ho3) (And.intro (fun k (hk : Value.ownBlock (.slice a3 d3.ls.length q3) = some k) => (⟨by have := (ho3.lt k hk).1; omega, (ho3.lt k hk).2, fun e => by have := HV.out k e; have := (ho3.lt k hk).1; omega⟩ : y.heap.size ≤ k ∧ k < w3.heap.size ∧ Value.ownBlock (.slice va nd vc) ≠ some k)) (And.intro hn3 hl3))); have MKH := Lib.hid (And.intro MK IK); have zz := MK.mv.size; clear MK IK hm3 hs3 ho3 hl3 hn3) | (at_builtin; go_must (refine wpList_append_lies _ rfl _ _ 25 rfl y.heap.size 44 i0 _ 8 88 Tryz.underlying25 hi hz0 hz1 hz2 rfl (by decide) _ dl.length (dl.flatMap nodC) rfl (MKH.out.1.own.alloc _) ⟨w3.heap.size, 0, none⟩ 1 1 (nodC (d3, .slice a3 d3.ls.length q3)) rfl rfl (World.news_of_block (heap_alloc_new w3 _)) (by simp [nodC, Value.oneCell']) (by omega) (by have := HN.out; unfold maxLen; omega) (by have := HN.out; omega) (by simp; omega) (w3.heap.size + 1) (by simp) ?_); intro gb cap w4 hown hgrow hat hlt4; go_must (have MS := Lib.hid (And.intro ((MKH.out.1.al _).step (c := (d3, .slice a3 d3.ls.length q3)) hgrow hown) (Inn.step (v1 := .slice (some ⟨gb, 0, none⟩) (dl.length + 1) cap) (MKH.out.2.mv (Mv.al (Mv.refl _ _) _) (by omega)) ((VK.out.1.mono ((Below.refl _ _).alloc (Nat.le_refl _) _) (by simp))) (fun k hk => ⟨(VK.out.2.1 k hk).1, by have := (VK.out.2.1 k hk).2.1; simp; omega, (VK.out.2.1 k hk).2.2⟩) hgrow (hat.imp (fun q => q.trans rfl) (fun q => by rw [q]; simp [Value.ownBlock]))))); clear hown hgrow hat hlt4))
      go_roundg (gk - 1)
      case measure => have := HK.out; omega
      case rel =>
        refine ⟨dl ++ [(d3, .slice a3 d3.ls.length q3)], r3, by have := HK.out; simp; omega, by go_num, MS.out.1, ?_, ?_, fun p hp => ?_⟩
        · rw [List.map_append, List.map_append]; exact MS.out.2
        · rw [List.map_append]
          exact nodsE_snoc _ 0 d3 MO.out.2.2 (by rw [List.length_map, HN.out, Int.zero_add]; exact VK.out.2.2.1)
        · rcases List.mem_append.1 hp with q | q
          · exact HLB.out p q
          · rw [List.mem_singleton.1 q]; exact Nat.le_trans VK.out.2.2.2 (by decide)
end Go.Proofs.YtpahoenanfjhpaaGreat
