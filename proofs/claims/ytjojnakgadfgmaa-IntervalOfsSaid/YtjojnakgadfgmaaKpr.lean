/-
  THE MAKERS: keep.Predicate: a valid predicate. Conditions: the schema is valid; it and the choices lie in memory as 'ColsAt', 'IntsAt' say.
-/
import Derived.Test.YtjojnakgadfgmaaKrs
import Derived.Test.YtjojnakgadfgmaaKnd
set_option linter.unusedVariables false
set_option linter.unusedSimpArgs false
namespace Go.Proofs.Ytjojnakgadfgmaa
open Go.RowKit
def nodC (p : Nod × Value) : List Value := [.int .i64 p.1.op, .int .i64 p.1.col, .bool p.1.v.null, .int .i64 p.1.v.n, .string p.1.v.s, p.2, .int .i64 p.1.a, .int .i64 p.1.b]
theorem inn_nods {B0 : Nat} {w : World} {base : Nat} {T : TypeId} {v : Value} {dl : List (Nod × Value)} (hl : dl.length ≤ 9223372036854775807) (hi : Inn B0 w v (dl.map Prod.snd) (dl.map fun p => p.1.ls)) (h : w.ownsRow base T 8 v dl.length (dl.flatMap nodC)) : NodsAt w w.heap.size v (dl.map Prod.fst) := by
  rcases own_at (f := nodC) (k := 8) (fun _ => rfl) h with ⟨rfl, rfl⟩ | ⟨g, c, rfl, hc, _, hg, H⟩
  · exact ⟨by simp, .inl ⟨rfl, none, 0, rfl⟩⟩
  · refine ⟨by rw [List.length_map]; exact hl, .inr ⟨g, 0, c, by rw [List.length_map], by rw [List.length_map]; exact hc, hg, fun j hj => ?_⟩⟩
    have hj' : j < dl.length := by simpa using hj
    have e1 : (dl.map Prod.fst)[j]'hj = (dl[j]'hj').1 := by simp
    have V := (hi.2 j (by simpa using hj') (by simpa using hj')).1
    have e2 : (dl.map Prod.snd)[j]'(by simpa using hj') = (dl[j]'hj').2 := by simp
    have e3 : (dl.map fun p => p.1.ls)[j]'(by simpa using hj') = (dl[j]'hj').1.ls := by simp
    rw [e2, e3] at V
    rw [e1]
    simp only [Nat.zero_add]
    exact ⟨(dl[j]'hj').2, H j hj' 0 _ (by omega) rfl, H j hj' 1 _ (by omega) rfl, H j hj' 2 _ (by omega) rfl, H j hj' 3 _ (by omega) rfl, H j hj' 4 _ (by omega) rfl, H j hj' 5 _ (by omega) rfl, H j hj' 6 _ (by omega) rfl, H j hj' 7 _ (by omega) rfl, V⟩
theorem nodsE_snoc {cs : List Col} : ∀ (ns : List Nod) (i : Int) (d : Nod), nodsE cs i ns = 0 → nodE cs (i + ns.length) d = 0 → nodsE cs i (ns ++ [d]) = 0
  | [], i, d, _, h => by
    have h' : nodE cs i d = 0 := by simpa using h
    simp [nodsE, h']
  | u :: ns, i, d, h0, h => by
    simp only [List.cons_append, nodsE] at h0 ⊢
    by_cases e : nodE cs i u = 0
    · rw [if_pos e] at h0 ⊢
      exact nodsE_snoc ns (i + 1) d h0 (by rw [List.length_cons] at h; rw [show i + 1 + (ns.length : Int) = i + ((ns.length + 1 : Nat) : Int) by omega]; exact h)
    · rw [if_neg e] at h0; exact absurd h0 e
theorem colsE_tys : ∀ (cs pre : List Col), colsE pre cs = 0 → ∀ j (h : j < cs.length), 1 ≤ (cs[j]'h).ty ∧ (cs[j]'h).ty ≤ 5
  | [], _, _, j, h => absurd h (by simp)
  | c :: cs, pre, h0, j, h => by
    simp only [colsE] at h0
    by_cases e : colE pre c = 0
    · rw [if_pos e] at h0
      cases j with
      | zero =>
        unfold colE at e
        split at e
        · exact absurd e (by decide)
        · split at e
          · exact absurd e (by decide)
          · split at e
            · exact absurd e (by decide)
            · show 1 ≤ c.ty ∧ c.ty ≤ 5; omega
      | succ j => exact colsE_tys cs _ h0 j (by simpa using h)
    · rw [if_neg e] at h0; exact absurd h0 e
theorem schema_parts {cs : List Col} {key : Int} (hs : schemaF cs key = 0) : (∀ j (h : j < cs.length), 1 ≤ (cs[j]'h).ty ∧ (cs[j]'h).ty ≤ 5) ∧ 1 ≤ cs.length ∧ cs.length ≤ 12 ∧ 0 ≤ key ∧ key < cs.length := by
  unfold schemaF at hs
  split at hs
  · exact absurd hs (by decide)
  · split at hs
    · exact absurd hs (by decide)
    · split at hs
      · rename_i e
        split at hs
        · exact absurd hs (by decide)
        · exact ⟨colsE_tys cs [] e, by omega, by omega, by omega, by omega⟩
      · rename_i e; exact absurd hs e
theorem infoNod : (Try.prog.info? 43).map (fun i => (i.zero, i.size, i.bytes)) = some (some (.agg #[.int .i64 0, .int .i64 0, .bool false, .int .i64 0, .string ⟨#[]⟩, .slice none 0 0, .int .i64 0, .int .i64 0]), 8, 88) := by kernel_rfl
set_option maxRecDepth 8000 in
set_option maxHeartbeats 2000000 in
theorem kpred_any (cv : Value) (cs : List Col) (key : Int) (lv : Value) (zs : List Int) (w : World) (hc : ColsAt w w.heap.size cv cs) (h : IntsAt w w.heap.size lv zs) (hsc : schemaF cs key = 0) :
    Calls Try.prog 27 #[.agg #[cv, .int .i64 key], lv] w fun e w' => ∃ v ns, e = .returned v ∧ NodsAt w' w'.heap.size v ns ∧ predF cs key ns = 0 ∧ ns.length ≤ 7 ∧ Below w.heap.size w w' := by
  obtain ⟨i0, hi, hz0, hz1, hz2⟩ := info_parts infoNod
  obtain ⟨ca, cc, rfl⟩ := cols_end hc
  obtain ⟨m, hl⟩ : ∃ m, cs.length = m := ⟨_, rfl⟩
  have HL := Lib.hid hl
  have HC : Hid (ColsAt w w.heap.size (.slice ca m cc) cs) := Lib.hid (by rw [← hl]; exact hc)
  have HT := Lib.hid (And.intro (schema_parts hsc) hsc)
  rw [hl]
  have h2 : IntsAt (w.alloc (.cells #[.slice ca m cc, .int .i64 key] 50)) (w.alloc (.cells #[.slice ca m cc, .int .i64 key] 50)).heap.size lv zs := (h.to (fun k hk => Below.heap_alloc _ _ _ hk)).mono (by simp)
  clear hl hc hsc h
  go_enter Try.func27, Try.ntmps27
  go_upto_region 3 with (go_at_call 32; refine (from_any lv zs _ h2).mono ?_; rintro e w1 ⟨rfl, hb1, hs1⟩; obtain ⟨x1, rfl⟩ := Ext.of hb1; have z0 : w.heap.size < x1.it.heap.size := x1.lt (by simp))
  simp only [World.size_alloc] at hs1
  have y0 : x1.it.cell? ⟨w.heap.size, 0, none⟩ = some (.slice ca m cc) := (x1.cell w.heap.size 0 (by simp)).trans (by simp [go_sem])
  have y1 : x1.it.cell? ⟨w.heap.size, 1, none⟩ = some (.int .i64 key) := (x1.cell w.heap.size 1 (by simp)).trans (by simp [go_sem])
  have yw : Below w.heap.size w x1.it := (by repeat (first | with_reducible exact Below.refl _ _ | with_reducible assumption | with_reducible refine Below.al ?_ _ | with_reducible refine Below.on ?_ _ | with_reducible refine Below.st ?_ (by first | assumption | (simp; done) | (simp; omega)) _ | with_reducible refine Below.drew ?_))
  have HS := Lib.hid hs1
  have ysb := hs1.lt
  clear hb1 hs1 h2
  generalize x1.it = y at *
  clear x1
  go_wp2_with (go_at_call 33; refine Calls.mono (next_8 _ zs _ HS.out) ?_; rintro e w3 ⟨rfl, hm3, hs3⟩; have MK : Hid (KpMem nodC 43 8 y (w.heap.size + 1) w3 (.slice none 0 0) [] (nextF 8 zs).2) := Lib.hid ⟨Mv.of_moved hm3 rfl, ysb, hs3, World.ownsRow_nil _ _ _ _⟩; clear hm3 hs3)
  have nb := nextF_bd zs (n := 8) (by omega)
  obtain ⟨N0, hN0⟩ : ∃ N0 : Nat, (nextF 8 zs).1 = N0 := ⟨(nextF 8 zs).1.toNat, by omega⟩
  have hN1 : N0 ≤ 7 := by omega
  generalize (nextF 8 zs).2 = r0 at *
  rw [hN0]
  clear hN0 nb HS
  go_loopg [6, 7] N0 (fun g v i wr => ∃ (dl : List (Nod × Value)) (r' : List Int), dl.length + g = N0 ∧ i = .int .i64 (g : Int) ∧ KpMem nodC 43 8 y (w.heap.size + 1) wr v dl r' ∧ Inn y.heap.size wr v (dl.map Prod.snd) (dl.map fun p => p.1.ls) ∧ nodsE cs 0 (dl.map Prod.fst) = 0)
  case atStart => exact ⟨[], r0, by simp, rfl, MK.out, ⟨rfl, fun j hj => absurd hj (by simp)⟩, rfl⟩
  case round =>
    obtain ⟨dl, r', hk, rfl, M, I, hp⟩ := hrel
    clear MK
    obtain ⟨va, vc, hv6⟩ := own_form M.own
    obtain ⟨nd, hnd⟩ : ∃ nd, dl.length = nd := ⟨_, rfl⟩
    have MO := Lib.hid (And.intro M (And.intro I hp))
    clear M I hp
    by_cases hg0 : gk = 0
    · subst hg0
      have HK := Lib.hid hk
      clear hk hv6 hnd
      go_wp2
      refine bodyPost_ret (v := u6) ?_ rfl ⟨u6, dl.map Prod.fst, rfl, inn_nods (by have := HK.out; omega) MO.out.2.1 MO.out.1.own, ?_, by have := HK.out; simp; omega, ?_⟩
      · simp (maxDischargeDepth := 9) [results, Try.results27, go_sem, *]
      · unfold predF
        rw [if_pos HT.out.2, if_neg (by have := HK.out; simp; omega)]
        exact MO.out.2.2
      · exact Mv.below MO.out.1.mv yw (fun k hk => by omega)
    · have hlt : (0 : Int) < (gk : Int) := by omega
      have hlt1 : (1 : Int) ≤ (gk : Int) := by omega
      have hlt2 : (gk : Int) ≤ 7 := by omega
      have hnd7 : nd ≤ 7 := by omega
      have HK := Lib.hid (And.intro hk hg0)
      have f0 := (MO.out.1.mv.cell 0 (b := w.heap.size) (by omega) (by omega)).trans y0
      have f1 := (MO.out.1.mv.cell 1 (b := w.heap.size) (by omega) (by omega)).trans y1
      have fz : w.heap.size < wr.heap.size := by have := MO.out.1.mv.size; omega
      have HCr : Hid (ColsAt wr (w.heap.size + 1) (.slice ca m cc) cs) := Lib.hid ((HC.out.mono (B' := w.heap.size + 1) yw (by omega)).mv MO.out.1.mv.moved (by omega))
      have hyz : y.heap.size ≤ wr.heap.size := MO.out.1.mv.size
      have HV := Lib.hid (fun k (hk : u6.ownBlock = some k) => (MO.out.1.own.lt k hk).2)
      rw [hnd] at hv6
      subst hv6
      have HN := Lib.hid hnd
      clear hk hg0 hnd
      have KN := Lib.hid (knode_any (w.heap.size + 1) r' (.slice ca m cc) cs key nd wr MO.out.1.src HCr.out HT.out.1.1 HT.out.1.2.1 HT.out.1.2.2.1 (by omega))
      go_wp2_with (first | (go_at_call 41; refine Calls.mono KN.out ?_; rintro e w3 ⟨d3, lv3, r3, rfl, hm3, hs3, ho3, hl3, hn3⟩; obtain ⟨a3, q3, rfl⟩ := own_form ho3; have MK := (MO.out.1.to (Mv.of_moved hm3 rfl) hs3); have IK := (MO.out.2.1.mv (Mv.of_moved (S := fun k => k = w.heap.size + 1) hm3 rfl) (by omega)); have VK := Lib.hid (And.intro (own_vals (by omega) ho3) (And.intro (fun k (hk : Value.ownBlock (.slice a3 d3.ls.length q3) = some k) => (⟨by have := (ho3.lt k hk).1; omega, (ho3.lt k hk).2, fun e => by have := HV.out k e; have := (ho3.lt k hk).1; omega⟩ : y.heap.size ≤ k ∧ k < w3.heap.size ∧ Value.ownBlock (.slice va nd vc) ≠ some k)) hn3)); have MKH := Lib.hid (And.intro MK IK); have zz := MK.mv.size; clear MK IK hm3 hs3 ho3 hl3 hn3) | (at_builtin; go_must (refine wpList_append_lies _ rfl _ _ 44 rfl y.heap.size 43 i0 _ 8 88 Try.underlying44 hi hz0 hz1 hz2 rfl (by decide) _ dl.length (dl.flatMap nodC) rfl (MKH.out.1.own.alloc _) ⟨w3.heap.size, 0, none⟩ 1 1 (nodC (d3, .slice a3 d3.ls.length q3)) rfl rfl (World.news_of_block (heap_alloc_new w3 _)) (by simp [nodC, Value.oneCell']) (by omega) (by have := HN.out; unfold maxLen; omega) (by have := HN.out; omega) (by simp; omega) (w3.heap.size + 1) (by simp) ?_); intro gb cap w4 hown hgrow hat hlt4; go_must (have MS := Lib.hid (And.intro ((MKH.out.1.al _).step (c := (d3, .slice a3 d3.ls.length q3)) hgrow hown) (Inn.step (v1 := .slice (some ⟨gb, 0, none⟩) (dl.length + 1) cap) (MKH.out.2.mv (Mv.al (Mv.refl _ _) _) (by omega)) ((VK.out.1.mono ((Below.refl _ _).alloc (Nat.le_refl _) _) (by simp))) (fun k hk => ⟨(VK.out.2.1 k hk).1, by have := (VK.out.2.1 k hk).2.1; simp; omega, (VK.out.2.1 k hk).2.2⟩) hgrow (hat.imp (fun q => q.trans rfl) (fun q => by rw [q]; simp [Value.ownBlock]))))); clear hown hgrow hat hlt4))
      go_roundg (gk - 1)
      case measure => have := HK.out; omega
      case rel =>
        refine ⟨dl ++ [(d3, .slice a3 d3.ls.length q3)], r3, by have := HK.out; simp; omega, by go_num, MS.out.1, ?_, ?_⟩
        · rw [List.map_append, List.map_append]; exact MS.out.2
        · rw [List.map_append]
          exact nodsE_snoc _ 0 d3 MO.out.2.2 (by rw [List.length_map, HN.out, Int.zero_add]; exact VK.out.2.2)
end Go.Proofs.Ytjojnakgadfgmaa
