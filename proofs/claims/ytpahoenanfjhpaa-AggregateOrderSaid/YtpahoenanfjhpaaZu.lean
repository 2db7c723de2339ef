/-
  CHAPTER 26: Cnp, Kpb (several texts in one). Conditions: each theorem states its own.
-/
import Derived.Test.YtpahoenanfjhpaaRunz
import Derived.Test.YtpahoenanfjhpaaZk
set_option linter.unusedVariables false
set_option linter.unusedSimpArgs false
namespace Go.Proofs.Ytpahoenanfjhpaa
open Go.RowKit Srt
def keyF (K : Nat) (g : List (List Val)) : Val := (g.headD []).getD K Val.zero
def cntF (K : Nat) (g : List (List Val)) : List Val := [keyF K g, ⟨false, (g.length : Int), ⟨#[]⟩⟩]
/-- The groups of the selected rows by one column. -/
def grps (cs : List Col) (K : Nat) (sel : List (List Val)) : List (List (List Val)) := grp (fun x y => grpC cs x y [(K : Int)]) sel
def cntR (cs : List Col) (K : Nat) (sel : List (List Val)) : List (List Val) := (grps cs K sel).map (cntF K)
theorem grps_good (cs : List Col) (K : Nat) (sel : List (List Val)) : Srt.Good (fun x y => grpC cs x y [(K : Int)]) (grps cs K sel) := Srt.grp_good (grpC_pre cs _) sel
theorem grps_flat (cs : List Col) (K : Nat) (sel : List (List Val)) : (grps cs K sel).flatten.length = sel.length := by
  unfold grps; rw [Srt.grp_flat (grpC_pre cs _), srt_len]
theorem aggF_cnt (cs : List Col) (g : List (List Val)) : aggF cs ⟨1, 0⟩ g = (⟨false, (g.length : Int), ⟨#[]⟩⟩, 0) := rfl
theorem groupF_cnt {cs : List Col} {K : Nat} {g : List (List Val)} (h : g ≠ []) : groupF cs [(K : Int)] [⟨1, 0⟩] g = (cntF K g, 0) := by
  cases g with
  | nil => exact absurd rfl h
  | cons r l =>
    unfold groupF aggsR aggsR
    rw [aggF_cnt]
    simp [headR, projF, cntF, keyF, aggF_cnt]
theorem resF_cnt {cs : List Col} {K : Nat} (sel : List (List Val)) : resF cs [] [(K : Int)] [⟨1, 0⟩] sel = (cntR cs K sel, 0) := by
  have hg : groupsF cs [(K : Int)] sel = grps cs K sel := by unfold groupsF grps; rw [if_neg (by simp)]
  have key : ∀ G : List (List (List Val)), (∀ g ∈ G, g ≠ []) → groupsE cs [(K : Int)] [⟨1, 0⟩] G = 0 ∧ G.map (fun g => (groupF cs [(K : Int)] [⟨1, 0⟩] g).1) = G.map (cntF K) := by
    intro G
    induction G with
    | nil => intro _; exact ⟨rfl, rfl⟩
    | cons g G ih =>
      intro h
      obtain ⟨i1, i2⟩ := ih (fun a ha => h a (List.mem_cons_of_mem _ ha))
      have e := groupF_cnt (cs := cs) (K := K) (h g (by simp))
      refine ⟨?_, ?_⟩
      · show (if (groupF cs [(K : Int)] [⟨1, 0⟩] g).2 = 0 then groupsE cs [(K : Int)] [⟨1, 0⟩] G else (groupF cs [(K : Int)] [⟨1, 0⟩] g).2) = 0
        rw [e]; simpa using i1
      · rw [List.map_cons, List.map_cons, i2, e]
  obtain ⟨k1, k2⟩ := key (grps cs K sel) (grps_good cs K sel).ne
  unfold resF
  rw [if_neg (by decide), hg, if_pos k1, k2]
  rfl
theorem resF_one (cs : List Col) (sel : List (List Val)) : resF cs [] [] [⟨1, 0⟩] sel = ([[⟨false, (sel.length : Int), ⟨#[]⟩⟩]], 0) := by
  have hg : groupsF cs [] sel = [sel] := by
    unfold groupsF
    by_cases q : sel = []
    · rw [if_pos ⟨q, rfl⟩, q]
    · rw [if_neg (fun e => q e.1), Srt.grp_zero (d := fun x y => grpC cs x y []) (fun _ _ => rfl), if_neg q]
  have hh : headR [] sel = [] := by cases sel <;> rfl
  have hG : groupF cs [] [⟨1, 0⟩] sel = ([⟨false, (sel.length : Int), ⟨#[]⟩⟩], 0) := by
    unfold groupF aggsR aggsR
    simp [hh, aggF_cnt]
  have hE : groupsE cs [] [⟨1, 0⟩] [sel] = 0 := by
    show (if (groupF cs [] [⟨1, 0⟩] sel).2 = 0 then 0 else (groupF cs [] [⟨1, 0⟩] sel).2) = 0
    rw [hG]; rfl
  unfold resF
  rw [if_neg (by decide), hg, if_pos hE, List.map_cons, List.map_nil, hG]
theorem keys_ne' {cs : List Col} {K : Nat} {gs : List (List (List Val))} (G : Srt.Good (fun x y => grpC cs x y [(K : Int)]) gs) {j : Nat} (h : j + 1 < gs.length) : keyF K (gs[j + 1]'h) ≠ keyF K (gs[j]'(by omega)) := by
  have n1 := G.ne _ (List.getElem_mem h)
  have n0 := G.ne _ (List.getElem_mem (show j < gs.length by omega))
  intro e
  have lt := List.pairwise_iff_getElem.1 G.lt j (j + 1) (by omega) h (by omega) _ (head_mem n0 []) _ (head_mem n1 [])
  have key : ∀ x y : List Val, x.getD K Val.zero = y.getD K Val.zero → grpC cs x y [(K : Int)] = 0 := fun x y q => by
    have s : grpC cs y y [(K : Int)] = 0 := Srt.Pre.self (grpC_pre cs _) y
    have q' : x[K]?.getD Val.zero = y[K]?.getD Val.zero := by simpa using q
    have : grpC cs x y [(K : Int)] = grpC cs y y [(K : Int)] := by simp [grpC, q']
    rw [this]; exact s
  have := key _ _ e.symm
  omega
/-- Values of neighbouring groups differ. -/
theorem keys_ne {cs : List Col} {K : Nat} {sel : List (List Val)} {j : Nat} (h : j + 1 < (grps cs K sel).length) : keyF K ((grps cs K sel)[j + 1]'h) ≠ keyF K ((grps cs K sel)[j]'(by omega)) := keys_ne' (grps_good cs K sel) h
theorem cnt_pos {cs : List Col} {K : Nat} {sel : List (List Val)} {j : Nat} (h : j < (grps cs K sel).length) : 1 ≤ ((grps cs K sel)[j]'h).length := List.length_pos_iff.2 ((grps_good cs K sel).ne _ (List.getElem_mem h))
def totL (gs : List (List (List Val))) : Int := (gs.flatten.length : Int)
theorem totL_succ {gs : List (List (List Val))} {j : Nat} (h : j < gs.length) : totL (gs.take (j + 1)) = totL (gs.take j) + ((gs[j]'h).length : Int) := by
  unfold totL
  rw [List.take_succ_eq_append_getElem h, List.flatten_append, List.length_append]
  simp
theorem totL_le (gs : List (List (List Val))) (j : Nat) : 0 ≤ totL (gs.take j) ∧ totL (gs.take j) ≤ (gs.flatten.length : Int) := by
  unfold totL
  have : (gs.take j).flatten.length ≤ gs.flatten.length := by
    conv => rhs; rw [← List.take_append_drop j gs, List.flatten_append, List.length_append]
    omega
  omega
theorem grps_le (cs : List Col) (K : Nat) (sel : List (List Val)) : (grps cs K sel).length ≤ sel.length := by
  rw [← grps_flat cs K sel]; exact good_len (grps_good cs K sel)
theorem queryE_cnt {cs : List Col} {key : Int} {ns : List Nod} (hp : predF cs key ns = 0) (h1 : 1 ≤ cs.length) (gr : List Int) (hg : gr.length ≤ 1) (hi : ∀ i ∈ gr, 0 ≤ i ∧ i < (cs.length : Int)) : queryE cs key ns [] gr [⟨1, 0⟩] = 0 := by
  unfold queryE
  rw [if_pos hp, if_neg (fun e => by (rcases e with e | e | e; simp at e; omega; simp at e)), if_neg (fun e => by (rcases e with e | e; simp at e; simp at e))]
  have ho : outC cs ([] ++ gr) = false := by
    unfold outC
    rw [List.any_eq_false]
    intro i hi'
    have := hi i hi'
    simp; omega
  rw [ho, if_neg (by decide)]
  have ha : agE cs ⟨1, 0⟩ = 0 := by
    unfold agE
    rw [if_neg (fun e => by (rcases e with e | e | e; simp at e; simp at e; simp at e)), if_neg (fun e => by (rcases e with e | e; simp at e; simp only at e; omega)), if_neg (fun e => by simp at e)]
  show (if agE cs ⟨1, 0⟩ = 0 then 0 else agE cs ⟨1, 0⟩) = 0
  rw [ha]; rfl
theorem batchE_rows {cs : List Col} {key : Int} {rows : List (List Val)} (hs : schemaF cs key = 0) (h4 : rows.length ≤ 4096) (hr : ∀ r ∈ rows, r.length = cs.length ∧ RowPre cs r) : batchE cs key rows = 0 := by
  unfold batchE
  rw [if_pos hs, if_neg (by omega)]
  have key : ∀ l : List (List Val), (∀ r ∈ l, r.length = cs.length ∧ RowPre cs r) → rowsE cs l = 0 := by
    intro l
    induction l with
    | nil => intro _; rfl
    | cons r l ih =>
      intro h
      have hr := h r (by simp)
      have e : rowE cs r = 0 := by unfold rowE; rw [if_pos hr.1]; exact rowEs_pre fun i h h' => hr.2 i h' h
      show (if rowE cs r = 0 then rowsE cs l else rowE cs r) = 0
      rw [if_pos e]; exact ih (fun a ha => h a (List.mem_cons_of_mem _ ha))
  exact key rows hr
end Go.Proofs.Ytpahoenanfjhpaa
namespace Go.Proofs.Ytpahoenanfjhpaa
open Go.RowKit
set_option maxRecDepth 8000 in
set_option maxHeartbeats 2000000 in
theorem kpredb_any (cv : Value) (cs : List Col) (key : Int) (lv : Value) (zs : List Int) (w : World) (hc : ColsAt w w.heap.size cv cs) (h : IntsAt w w.heap.size lv zs) (hsc : schemaF cs key = 0) :
    Calls Try.prog 18 #[.agg #[cv, .int .i64 key], lv] w fun e w' => ∃ v ns, e = .returned v ∧ NodsAt w' w'.heap.size v ns ∧ predF cs key ns = 0 ∧ ns.length ≤ 7 ∧ (∀ d ∈ ns, d.ls.length ≤ 16) ∧ Below w.heap.size w w' := by
  obtain ⟨i0, hi, hz0, hz1, hz2⟩ := info_parts infoNod
  obtain ⟨ca, cc, rfl⟩ := cols_end hc
  obtain ⟨m, hl⟩ : ∃ m, cs.length = m := ⟨_, rfl⟩
  have HL := Lib.hid hl
  have HC : Hid (ColsAt w w.heap.size (.slice ca m cc) cs) := Lib.hid (by rw [← hl]; exact hc)
  have HT := Lib.hid (And.intro (schema_parts hsc) hsc)
  rw [hl]
  have h2 : IntsAt (w.alloc (.cells #[.slice ca m cc, .int .i64 key] 28)) (w.alloc (.cells #[.slice ca m cc, .int .i64 key] 28)).heap.size lv zs := (h.to (fun k hk => Below.heap_alloc _ _ _ hk)).mono (by simp)
  clear hl hc hsc h
  go_enter Try.func18, Try.ntmps18
  go_upto_region 3 with (go_at_call 23; refine (from_any lv zs _ h2).mono ?_; rintro e w1 ⟨rfl, hb1, hs1⟩; obtain ⟨x1, rfl⟩ := Ext.of hb1; have z0 : w.heap.size < x1.it.heap.size := x1.lt (by simp))
  simp only [World.size_alloc] at hs1
  have y0 : x1.it.cell? ⟨w.heap.size, 0, none⟩ = some (.slice ca m cc) := (x1.cell w.heap.size 0 (by simp)).trans (by simp [go_sem])
  have y1 : x1.it.cell? ⟨w.heap.size, 1, none⟩ = some (.int .i64 key) := (x1.cell w.heap.size 1 (by simp)).trans (by simp [go_sem])
  have yw : Below w.heap.size w x1.it := (by repeat (first | with_reducible exact Below.refl _ _ | with_reducible assumption | with_reducible refine Below.al ?_ _ | with_reducible refine Below.on ?_ _ | with_reducible refine Below.st ?_ (by first | assumption | (simp; done) | (simp; omega)) _ | with_reducible refine Below.drew ?_))
  have HS := Lib.hid hs1
  have ysb := hs1.lt
  clear hb1 hs1 h2
  generalize x1.it = y at *
  clear x1
  go_wp2_with (go_at_call 24; refine Calls.mono (next_8 _ zs _ HS.out) ?_; rintro e w3 ⟨rfl, hm3, hs3⟩; have MK : Hid (KpMem nodC 73 8 y (w.heap.size + 1) w3 (.slice none 0 0) [] (nextF 8 zs).2) := Lib.hid ⟨Mv.of_moved hm3 rfl, ysb, hs3, World.ownsRow_nil _ _ _ _⟩; clear hm3 hs3)
  have nb := nextF_bd zs (n := 8) (by omega)
  obtain ⟨N0, hN0⟩ : ∃ N0 : Nat, (nextF 8 zs).1 = N0 := ⟨(nextF 8 zs).1.toNat, by omega⟩
  have hN1 : N0 ≤ 7 := by omega
  generalize (nextF 8 zs).2 = r0 at *
  rw [hN0]
  clear hN0 nb HS
  go_loopg [6, 7] N0 (fun g v i wr => ∃ (dl : List (Nod × Value)) (r' : List Int), dl.length + g = N0 ∧ i = .int .i64 (g : Int) ∧ KpMem nodC 73 8 y (w.heap.size + 1) wr v dl r' ∧ Inn y.heap.size wr v (dl.map Prod.snd) (dl.map fun p => p.1.ls) ∧ nodsE cs 0 (dl.map Prod.fst) = 0 ∧ ∀ p ∈ dl, p.1.ls.length ≤ 16)
  case atStart => exact ⟨[], r0, by simp, rfl, MK.out, ⟨rfl, fun j hj => absurd hj (by simp)⟩, rfl, fun p hp => absurd hp (by simp)⟩
  case round =>
    obtain ⟨dl, r', hk, rfl, M, I, hp, hlb⟩ := hrel
    have HLB := Lib.hid hlb
    clear hlb
    clear MK
    obtain ⟨va, vc, hv6⟩ := own_form M.own
    obtain ⟨nd, hnd⟩ : ∃ nd, dl.length = nd := ⟨_, rfl⟩
    have MO := Lib.hid (And.intro M (And.intro I hp))
    clear M I hp
    by_cases hg0 : gk = 0
    · subst hg0
      have HK := Lib.hid hk
      clear hk hv6 hnd
      go_wp2
      refine bodyPost_ret (v := u6) ?_ rfl ⟨u6, dl.map Prod.fst, rfl, inn_nods (by have := HK.out; omega) MO.out.2.1 MO.out.1.own, ?_, by have := HK.out; simp; omega, fun d hd => by (obtain ⟨p, hp, rfl⟩ := List.mem_map.1 hd; exact HLB.out p hp), ?_⟩
      · simp (maxDischargeDepth := 9) [results, Try.results18, go_sem, *]
      · unfold predF
        rw [if_pos HT.out.2, if_neg (by have := HK.out; simp; omega)]
        exact MO.out.2.2
      · exact Mv.below MO.out.1.mv yw (fun k hk => by omega)
    · have hlt : (0 : Int) < (gk : Int) := by omega
      have hlt1 : (1 : Int) ≤ (gk : Int) := by omega
      have hlt2 : (gk : Int) ≤ 7 := by omega
      have hnd7 : nd ≤ 7 := by omega
      have HK := Lib.hid (And.intro hk hg0)
      have f0 := (MO.out.1.mv.cell 0 (b := w.heap.size) (by omega) (by omega)).trans y0
      have f1 := (MO.out.1.mv.cell 1 (b := w.heap.size) (by omega) (by omega)).trans y1
      have fz : w.heap.size < wr.heap.size := by have := MO.out.1.mv.size; omega
      have HCr : Hid (ColsAt wr (w.heap.size + 1) (.slice ca m cc) cs) := Lib.hid ((HC.out.mono (B' := w.heap.size + 1) yw (by omega)).mv MO.out.1.mv.moved (by omega))
      have hyz : y.heap.size ≤ wr.heap.size := MO.out.1.mv.size
      have HV := Lib.hid (fun k (hk : u6.ownBlock = some k) => (MO.out.1.own.lt k hk).2)
      rw [hnd] at hv6
      subst hv6
      have HN := Lib.hid hnd
      clear hk hg0 hnd
      have KN := Lib.hid (knode_any (w.heap.size + 1) r' (.slice ca m cc) cs key nd wr MO.out.1.src HCr.out HT.out.1.1 HT.out.1.2.1 HT.out.1.2.2.1 (by omega))
      go_wp2_with (first | (go_at_call 31; refine Calls.mono KN.out ?_; rintro e w3 ⟨d3, lv3, r3, rfl, hm3, hs3, ho3, hl3, hn3⟩; obtain ⟨a3, q3, rfl⟩ := own_form ho3; have MK := (MO.out.1.to (Mv.of_moved hm3 rfl) hs3); have IK := (MO.out.2.1.mv (Mv.of_moved (S := fun k => k = w.heap.size + 1) hm3 rfl) (by omega)); have VK := Lib.hid (And.intro (own_vals (by omega) ho3) (And.intro (fun k (hk : Value.ownBlock (.slice a3 d3.ls.length q3) = some k) => (⟨by have := (ho3.lt k hk).1; omega, (ho3.lt k hk).2, fun e => by have := HV.out k e; have := (ho3.lt k hk).1; omega⟩ : y.heap.size ≤ k ∧ k < w3.heap.size ∧ Value.ownBlock (.slice va nd vc) ≠ some k)) (And.intro hn3 hl3))); have MKH := Lib.hid (And.intro MK IK); have zz := MK.mv.size; clear MK IK hm3 hs3 ho3 hl3 hn3) | (at_builtin; go_must (refine wpList_append_lies _ rfl _ _ 30 rfl y.heap.size 73 i0 _ 8 88 Try.underlying30 hi hz0 hz1 hz2 rfl (by decide) _ dl.length (dl.flatMap nodC) rfl (MKH.out.1.own.alloc _) ⟨w3.heap.size, 0, none⟩ 1 1 (nodC (d3, .slice a3 d3.ls.length q3)) rfl rfl (World.news_of_block (heap_alloc_new w3 _)) (by simp [nodC, Value.oneCell']) (by omega) (by have := HN.out; unfold maxLen; omega) (by have := HN.out; omega) (by simp; omega) (w3.heap.size + 1) (by simp) ?_); intro gb cap w4 hown hgrow hat hlt4; go_must (have MS := Lib.hid (And.intro ((MKH.out.1.al _).step (c := (d3, .slice a3 d3.ls.length q3)) hgrow hown) (Inn.step (v1 := .slice (some ⟨gb, 0, none⟩) (dl.length + 1) cap) (MKH.out.2.mv (Mv.al (Mv.refl _ _) _) (by omega)) ((VK.out.1.mono ((Below.refl _ _).alloc (Nat.le_refl _) _) (by simp))) (fun k hk => ⟨(VK.out.2.1 k hk).1, by have := (VK.out.2.1 k hk).2.1; simp; omega, (VK.out.2.1 k hk).2.2⟩) hgrow (hat.imp (fun q => q.trans rfl) (fun q => by rw [q]; simp [Value.ownBlock]))))); clear hown hgrow hat hlt4))
      go_roundg (gk - 1)
      case measure => have := HK.out; omega
      case rel =>
        refine ⟨dl ++ [(d3, .slice a3 d3.ls.length q3)], r3, by have := HK.out; simp; omega, by go_num, MS.out.1, ?_, ?_, fun p hp => ?_⟩
        · rw [List.map_append, List.map_append]; exact MS.out.2
        · rw [List.map_append]
          exact nodsE_snoc _ 0 d3 MO.out.2.2 (by rw [List.length_map, HN.out, Int.zero_add]; exact VK.out.2.2.1)
        · rcases List.mem_append.1 hp with q | q
          · exact HLB.out p q
          · rw [List.mem_singleton.1 q]; exact Nat.le_trans VK.out.2.2.2 (by decide)
end Go.Proofs.Ytpahoenanfjhpaa
