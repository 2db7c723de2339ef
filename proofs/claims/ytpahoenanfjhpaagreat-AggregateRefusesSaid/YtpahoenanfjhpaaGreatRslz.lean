/-
  (*State).Result. Conditions: the state, the schema, the query and the rows lie in memory; the query is valid; each row has the columns; at most 2^40 rows.
-/
import Derived.Test.YtpahoenanfjhpaaGreatGrpz
import Derived.Test.YtpahoenanfjhpaaGreatZr
import Derived.Test.YtpahoenanfjhpaaGreatZs
set_option linter.unusedVariables false
set_option linter.unusedSimpArgs false
namespace Go.Proofs.YtpahoenanfjhpaaGreat
open Go.RowKit Srt
/-- A list of rows that the call has made. -/
structure OutM (w0 wr : World) (v : Value) (lvs : List Value) (rows : List (List Val)) : Prop where
  below : Below w0.heap.size w0 wr
  own : wr.ownsRow w0.heap.size 42 1 v lvs.length (lvs.flatMap one1)
  inn : Inn w0.heap.size wr v lvs rows
theorem OutM.nil (w0 : World) : OutM w0 w0 (.slice none 0 0) [] [] := ⟨Below.refl _ _, World.ownsRow_nil _ _ _ _, rfl, fun j h => absurd h (by simp)⟩
theorem OutM.on {w0 wr wx : World} {v : Value} {lvs : List Value} {rows : List (List Val)} (h : OutM w0 wr v lvs rows) (hb : Below wr.heap.size wr wx) : OutM w0 wx v lvs rows :=
  ⟨Below.to h.below hb, own_to h.own hb, h.inn.on hb⟩
theorem OutM.fresh {w0 W W1 : World} {v lv : Value} {lvs : List Value} {rows : List (List Val)} {T : TypeId} {k n : Nat} {L : List Value} (h : OutM w0 W v lvs rows) (ho : W1.ownsRow W.heap.size T k lv n L) : ∀ q, lv.ownBlock = some q → w0.heap.size ≤ q ∧ q < W1.heap.size ∧ v.ownBlock ≠ some q := fun q hq => by
  obtain ⟨h1, h2⟩ := ho.lt q hq
  refine ⟨Nat.le_trans h.below.size h1, h2, fun e => ?_⟩
  have := (h.own.lt q e).2
  omega
theorem OutM.app {w0 W w4 : World} {v lv : Value} {lvs : List Value} {rows : List (List Val)} {row : List Val} {gb cap : Nat} {o : Obj} (h : OutM w0 W v lvs rows) (hv : ValsAt W W.heap.size lv row) (hl : ∀ k, lv.ownBlock = some k → w0.heap.size ≤ k ∧ k < W.heap.size ∧ v.ownBlock ≠ some k)
    (hown : w4.ownsRow w0.heap.size 42 1 (.slice (some ⟨gb, 0, none⟩) (lvs.length + 1) cap) (lvs.length + 1) (lvs.flatMap one1 ++ [lv])) (hg : (W.alloc o).grownBy w4 v.ownBlock) (hat : v.ownBlock = some gb ∨ gb = W.heap.size + 1) :
    OutM w0 w4 (.slice (some ⟨gb, 0, none⟩) (lvs.length + 1) cap) (lvs ++ [lv]) (rows ++ [row]) := by
  have h2 := h.on ((Below.refl _ _).alloc (Nat.le_refl _) o)
  refine ⟨Below.gr h2.below h2.own hg, ?_, ?_⟩
  · rw [List.length_append, List.flatMap_append]; simpa [one1] using hown
  · refine Inn.step h2.inn (hv.mono ((Below.refl _ _).alloc (Nat.le_refl _) _) (by simp)) (fun k hk => ⟨(hl k hk).1, by have := (hl k hk).2.1; simp; omega, (hl k hk).2.2⟩) hg (hat.imp (fun q => q.trans rfl) (fun q => by rw [q]; simp [Value.ownBlock]))
theorem OutM.rows {w0 w : World} {v : Value} {lvs : List Value} {rows : List (List Val)} (h : OutM w0 w v lvs rows) (hl : rows.length ≤ 9223372036854775807) : RowsAt w w.heap.size v rows := inn_rows hl h.inn h.own
/-- The groups in ascending order; without columns of groups one group. -/
def groupsF (cs : List Col) (gr : List Int) (rows : List (List Val)) : List (List (List Val)) := if rows = [] ∧ gr = [] then [[]] else grp (fun x y => grpC cs x y gr) rows
def groupsE (cs : List Col) (gr : List Int) (ag : List Ag) : List (List (List Val)) → Int
  | [] => 0
  | g :: l => if (groupF cs gr ag g).2 = 0 then groupsE cs gr ag l else (groupF cs gr ag g).2
/-- The result of a query for the selected rows, and its error. -/
def resF (cs : List Col) (pr gr : List Int) (ag : List Ag) (rows : List (List Val)) : List (List Val) × Int :=
  if ag.length = 0 then (rows.map fun r => projF r pr, 0)
  else if groupsE cs gr ag (groupsF cs gr rows) = 0 then ((groupsF cs gr rows).map fun g => (groupF cs gr ag g).1, 0)
  else ([], groupsE cs gr ag (groupsF cs gr rows))
def ResPost (w : World) (R : List (List Val)) (err : Int) (e : Ending) (w' : World) : Prop := ∃ v, e = .returned (.tuple #[v, .int .i64 err]) ∧ RowsAt w' w'.heap.size v R ∧ Below w.heap.size w w'
theorem rows_nil (w : World) (B : Nat) : RowsAt w B (.slice none 0 0) [] := ⟨by simp, .inl ⟨rfl, none, 0, rfl⟩⟩
theorem flat_le {α : Type} : ∀ {gs : List (List α)} {g : List α}, g ∈ gs → g.length ≤ gs.flatten.length
  | a :: gs, g, h => by
    rw [List.flatten_cons, List.length_append]
    rcases List.mem_cons.1 h with rfl | h
    · omega
    · have := flat_le h; omega
/-- What the loop knows of the groups that are left. -/
def GZ (d : List Val → List Val → Int) (gs : List (List (List Val))) : Prop := Srt.Good d gs ∨ gs = [[]]
theorem GZ.in {d : List Val → List Val → Int} {g : List (List Val)} {gs : List (List (List Val))} (h : GZ d (g :: gs)) {R : List (List Val)} (hR : (g :: gs).flatten = R) {j : Nat} (hj : j < g.length) (h0 : 0 < R.length) (hjR : j < R.length) : d (R[0]'h0) (R[j]'hjR) = 0 := by
  rcases h with h | h
  · exact h.in hR hj h0 hjR
  · injection h with h1 h2; subst h1; exact absurd hj (by simp)
theorem GZ.out {d : List Val → List Val → Int} {g : List (List Val)} {gs : List (List (List Val))} (h : GZ d (g :: gs)) {R : List (List Val)} (hR : (g :: gs).flatten = R) (h0 : 0 < R.length) (hjR : g.length < R.length) : ¬ d (R[0]'h0) (R[g.length]'hjR) = 0 := by
  rcases h with h | h
  · exact h.out hR h0 hjR
  · injection h with h1 h2; subst h1 h2; subst hR; simp at h0
theorem rows_src {w : World} {B : Nat} {v : Value} {rs : List (List Val)} (h : RowsAt w B v rs) : ∃ ps, Lvs w B ps rs ∧ ∀ W, Below B w W → SrcRow W v rs.length 1 ps := by
  obtain ⟨ps, h1, ⟨a1, a2, _⟩, h3⟩ := rows_lvs h
  refine ⟨ps, h1, fun W hW => ⟨a1, a2, ?_⟩⟩
  rcases h3 with ⟨rfl, a, c, rfl⟩ | ⟨b, o, c, rfl, _, hb, hc⟩
  · exact .inl ⟨rfl, a, c, rfl⟩
  · refine .inr ⟨_, c, rfl, fun j u hj => ?_⟩
    obtain ⟨hjl, hj⟩ := List.getElem?_eq_some_iff.1 hj
    rw [add_nil, ← hj]
    exact (hW.cell (p := ⟨b, o + j, none⟩) hb).trans (hc j hjl)
theorem good_suffix {d : List Val → List Val → Int} {a b : List (List (List Val))} (h : Srt.Good d (a ++ b)) : Srt.Good d b :=
  ⟨fun g hg => h.ne g (List.mem_append_right _ hg), fun g hg => h.eq g (List.mem_append_right _ hg), (List.pairwise_append.1 h.lt).2.1⟩
theorem good_len {d : List Val → List Val → Int} : ∀ {gs : List (List (List Val))}, Srt.Good d gs → gs.length ≤ gs.flatten.length
  | [], _ => by simp
  | g :: gs, h => by
    have h1 := good_len h.tail
    have h2 := List.length_pos_iff.2 (h.ne g (by simp))
    rw [List.flatten_cons, List.length_append, List.length_cons]; omega
theorem groupsF_flat (cs : List Col) (gr : List Int) (rows : List (List Val)) : (groupsF cs gr rows).flatten = srt (fun x y => grpC cs x y gr) rows := by
  unfold groupsF
  split
  · rename_i h; rw [h.1]; simp [srt, srtR]
  · exact Srt.grp_flat (grpC_pre cs gr) rows
theorem groups_head {cs : List Col} {gr : List Int} {rows : List (List Val)} {done rest : List (List (List Val))} (h : done ++ rest = groupsF cs gr rows) :
    GZ (fun x y => grpC cs x y gr) rest ∧ (rest = [] → gr = [] → done ≠ []) ∧ (rest ≠ [] → 0 < rest.flatten.length ∨ (rest.flatten.length = 0 ∧ done = [] ∧ gr = [])) ∧ rest.flatten.length ≤ rows.length ∧ done.length ≤ rows.length + 1 ∧ ∀ r ∈ rest.flatten, r ∈ rows := by
  have hf := groupsF_flat cs gr rows
  have hl : (groupsF cs gr rows).flatten.length = rows.length := by rw [hf, srt_len]
  have hl2 : rest.flatten.length ≤ rows.length := by rw [← hl, ← h, List.flatten_append, List.length_append]; omega
  have hm : ∀ r ∈ rest.flatten, r ∈ rows := fun r hr => (srt_perm _ rows).mem_iff.1 (by rw [← hf, ← h, List.flatten_append]; exact List.mem_append_right _ hr)
  by_cases hq : rows = [] ∧ gr = []
  · have e : groupsF cs gr rows = [[]] := by unfold groupsF; rw [if_pos hq]
    rw [e] at h
    rcases List.append_eq_singleton_iff.1 h with ⟨rfl, rfl⟩ | ⟨rfl, rfl⟩
    · exact ⟨.inr rfl, fun h => absurd h (by simp), fun _ => .inr ⟨by simp, rfl, hq.2⟩, hl2, by simp, hm⟩
    · exact ⟨.inl .nil, fun _ _ => by simp, fun h => absurd rfl h, hl2, by simp, hm⟩
  · have e : groupsF cs gr rows = Srt.grp (fun x y => grpC cs x y gr) rows := by unfold groupsF; rw [if_neg hq]
    have hg : Srt.Good (fun x y => grpC cs x y gr) (done ++ rest) := by rw [h, e]; exact Srt.grp_good (grpC_pre cs gr) rows
    have hgs := good_suffix hg
    refine ⟨.inl hgs, fun h1 h2 h3 => ?_, fun h1 => .inl ?_, hl2, ?_, hm⟩
    · subst h1 h3
      rw [← h] at hl
      exact hq ⟨List.eq_nil_of_length_eq_zero (by simpa using hl.symm), h2⟩
    · have := good_len hgs
      have := List.length_pos_iff.2 h1
      omega
    · have := good_len hg
      rw [h, hl, ← h, List.length_append] at this
      omega
theorem groupF_len (cs : List Col) (gr : List Int) (ag : List Ag) (g : List (List Val)) : (groupF cs gr ag g).1.length ≤ gr.length + ag.length := by
  unfold groupF
  split
  · show (headR gr g ++ _).length ≤ _
    rw [List.length_append, List.length_map]
    cases g with
    | nil => simp [headR]
    | cons r l => show (projF r gr).length + _ ≤ _; rw [projF_len]; exact Nat.le_refl _
  · simp
set_option maxRecDepth 8000 in
set_option maxHeartbeats 4000000 in
theorem aresult_any (SB : Nat) (cv : Value) (cs : List Col) (pv : Value) (pr : List Int) (gv : Value) (gr : List Int) (av : Value) (ag : List Ag) (rv : Value) (rows : List (List Val)) (w : World) (hS : SB < w.heap.size) (s0 : w.cell? ⟨SB, 0, none⟩ = some cv) (s3 : w.cell? ⟨SB, 3, none⟩ = some pv) (s4 : w.cell? ⟨SB, 4, none⟩ = some gv) (s5 : w.cell? ⟨SB, 5, none⟩ = some av) (s6 : w.cell? ⟨SB, 6, none⟩ = some rv)
    (hc : ColsAt w w.heap.size cv cs) (hp : IntsAt w w.heap.size pv pr) (hg : IntsAt w w.heap.size gv gr) (ha : AgsAt w w.heap.size av ag) (hr : RowsAt w w.heap.size rv rows) (hip : InC cs.length pr) (hin : InC cs.length gr) (hag : ∀ a ∈ ag, agE cs a = 0) (hrl : ∀ r ∈ rows, r.length = cs.length) (h9 : rows.length ≤ 1048576) (p16 : pr.length ≤ 16) (g16 : gr.length ≤ 16) (a16 : ag.length ≤ 16) :
    Calls Tryz.prog 15 #[.pointer (some ⟨SB, 0, none⟩)] w (ResPost w (resF cs pr gr ag rows).1 (resF cs pr gr ag rows).2) := by
  obtain ⟨i0, hi, hz0, hz1, hz2⟩ := info_parts infoRow
  obtain ⟨pa, pc, rfl⟩ := ints_end hp
  obtain ⟨ga, gc, rfl⟩ := ints_end hg
  obtain ⟨aa, ac, rfl⟩ := ags_end ha
  obtain ⟨ra, rc, rfl⟩ := rows_end hr
  obtain ⟨np, hnp⟩ : ∃ n, pr.length = n := ⟨_, rfl⟩
  obtain ⟨ng, hng⟩ : ∃ n, gr.length = n := ⟨_, rfl⟩
  obtain ⟨nA, hnA⟩ : ∃ n, ag.length = n := ⟨_, rfl⟩
  obtain ⟨n, hn⟩ : ∃ n, rows.length = n := ⟨_, rfl⟩
  have HCC := Lib.hid hc
  have HPP := Lib.hid hp
  have HGG := Lib.hid hg
  have HAA := Lib.hid ha
  have HRR := Lib.hid hr
  rw [hnp] at hp s3 p16
  rw [hng] at hg s4 g16
  rw [hnA] at ha s5 a16
  rw [hn] at hr s6 h9
  have HR := Lib.hid hr
  have LP := Lib.hid hnp
  have LG := Lib.hid hng
  have LA := Lib.hid hnA
  have LN := Lib.hid hn
  have HRL := Lib.hid hrl
  have HAG := Lib.hid hag
  have HIN := Lib.hid hin
  have HIP := Lib.hid hip
  obtain ⟨R, hR⟩ : ∃ R, resF cs pr gr ag rows = R := ⟨_, rfl⟩
  rw [hR]
  have HRES := Lib.hid hR
  clear hc hp hg ha hr hnp hng hnA hn hrl hag hin hip hR
  by_cases hA0 : nA = 0
  · subst hA0
    obtain rfl : ((rows.map fun r => projF r pr, 0) : List (List Val) × Int) = R := by rw [← HRES.out]; unfold resF; rw [if_pos LA.out]
    have t0 : (((0 : Nat) : Int) == 0) = true := rfl
    clear HRES
    go_enter Tryz.func15, Tryz.ntmps15
    go_wp2_with fail
    go_loopg [4, 23] n (fun g v st wr => ∃ (k : Nat) (lvs : List Value), k + g = n ∧ st = .int .i64 (k : Int) ∧ OutM w wr v lvs ((rows.take k).map fun r => projF r pr))
    case atStart => exact ⟨0, [], by omega, rfl, by simpa using OutM.nil w⟩
    case round =>
      obtain ⟨k, lvs, hk, rfl, hout⟩ := hrel
      have HO := Lib.hid hout
      have hx := hout.below
      have hlk : lvs.length ≤ n := by rw [hout.inn.1]; simp; rw [LN.out]; omega
      by_cases hg0 : gk = 0
      · subst hg0
        obtain rfl : k = n := by omega
        have TK : rows.take k = rows := List.take_of_length_le (by rw [LN.out]; exact Nat.le_refl _)
        rw [TK] at HO
        have FIN : Hid (ResPost w (rows.map fun r => projF r pr) 0 (.returned (.tuple #[u4, .int .i64 0])) wr) := Lib.hid ⟨u4, rfl, HO.out.rows (by rw [List.length_map, LN.out]; omega), hx⟩
        have tk : ¬ (k : Int) < (k : Int) := by omega
        clear hk TK hout
        go_wp2
        refine bodyPost_ret (v := .tuple #[u4, .int .i64 0]) ?_ rfl FIN.out
        simp (maxDischargeDepth := 9) [results, Tryz.results15, go_sem, *]
      · have hkm : k < n := by omega
        have hkm' : (k : Int) < (n : Int) := by omega
        have hkr : k < rows.length := by rw [LN.out]; exact hkm
        obtain ⟨rb, ro, rfl, _, hrb, lv, c0, hlv⟩ := rows_in HR.out hkr
        have hl := HRL.out _ (List.getElem_mem hkr)
        have TS : (rows.take (k + 1)).map (fun r => projF r pr) = (rows.take k).map (fun r => projF r pr) ++ [projF (rows[k]'hkr) pr] := by rw [List.take_succ_eq_append_getElem hkr, List.map_append]; rfl
        obtain ⟨d, hd⟩ : ∃ d, rows[k]'hkr = d := ⟨_, rfl⟩
        rw [hd] at hlv hl TS
        have HTS := Lib.hid TS
        have HLV := Lib.hid hlv
        have HLD := Lib.hid hl
        have f0 := (hx.cell (p := ⟨rb, ro + k, none⟩) hrb).trans c0
        have zr : rb < wr.heap.size := Nat.lt_of_lt_of_le hrb hx.size
        have q3 := (hx.cell (p := ⟨SB, 3, none⟩) hS).trans s3
        have zS : SB < wr.heap.size := Nat.lt_of_lt_of_le hS hx.size
        have PC : Hid (Calls Tryz.prog 39 #[lv, .slice pa np pc] wr (RowPost 41 3 wr np ((projF d pr).flatMap valC))) := Lib.hid (by have q := project_any lv d (.slice pa np pc) pr wr (hlv.mono hx hx.size) (ints_on (by have := HPP.out; rwa [LP.out] at this) hx hx.size) (by rw [hl]; exact HIP.out) (by rw [LP.out]; omega); rwa [LP.out] at q)
        have HK := Lib.hid (And.intro hk hg0)
        have PLN : (projF d pr).length = np := by rw [projF_len, LP.out]
        have HPL := Lib.hid PLN
        have hxw := hx.size
        clear c0 hlv hl hd TS hk hg0 hout PLN
        go_wp2_with (first
          | (go_at_call 39; refine Calls.mono PC.out ?_; rintro e w7 ⟨v7, rfl, ho7, hb7⟩; obtain ⟨a7, c7, rfl⟩ := own_form ho7; have V7 : Hid (ValsAt w7 w7.heap.size (.slice a7 np c7) (projF d pr)) := Lib.hid (own_vals (e := 41) (base := wr.heap.size) (by rw [HPL.out]; omega) (by rw [HPL.out]; exact ho7)); have O7 := Lib.hid (HO.out.on hb7); have FR := Lib.hid (HO.out.fresh ho7); have hw7 := O7.out.below.size; clear ho7 hb7)
          | (at_builtin; go_must (refine wpList_append_lies _ rfl _ _ 30 rfl w.heap.size 42 i0 _ 1 24 Tryz.underlying30 hi hz0 hz1 hz2 rfl (by decide) u4 lvs.length (lvs.flatMap one1) rfl (O7.out.own.alloc _) ⟨w7.heap.size, 0, none⟩ 1 1 [.slice a7 np c7] rfl rfl (World.news_of_block (heap_alloc_new w7 _)) (by simp [Value.oneCell']) (by omega) (by unfold maxLen; omega) (by omega) (by simp; omega) (w7.heap.size + 1) (by simp) ?_); intro gb cap w4 hown hgrow hat hlt4; go_must (have MS := Lib.hid (O7.out.app V7.out FR.out hown hgrow hat)); clear hown hgrow hat hlt4))
        go_roundg (gk - 1)
        case measure => have := HK.out; omega
        case rel => exact ⟨k + 1, lvs ++ [.slice a7 np c7], by have := HK.out; omega, by go_num, by rw [HTS.out]; exact MS.out⟩
  · have hne : ¬ ag.length = 0 := by rw [LA.out]; exact hA0
    have t0 : ((nA : Int) == 0) = false := by simpa using hA0
    obtain ⟨G, hG⟩ : ∃ G, groupsF cs gr rows = G := ⟨_, rfl⟩
    have RES : Hid ((if groupsE cs gr ag G = 0 then (G.map fun g => (groupF cs gr ag g).1, 0) else ([], groupsE cs gr ag G)) = R) := Lib.hid (by rw [← HRES.out, ← hG]; unfold resF; rw [if_neg hne])
    have GG := Lib.hid hG
    obtain ⟨ps, hL, hsrc⟩ := rows_src HRR.out
    have CL := Lib.hid (clone_row (.slice ra n rc) n ps w (by have := hsrc; rwa [LN.out] at this) (by omega))
    have SRT := Lib.hid (fun (w3 : World) (v1 : Value) (ho : w3.ownsRow w.heap.size 42 1 v1 n ps) (hb : Below w.heap.size w w3) => sort_rows SB cv cs (.slice ga ng gc) gr w w3 v1 ps rows (by rw [hL.1, LN.out]; exact ho) hb hL HCC.out (by have := HGG.out; rwa [LG.out] at this) hS s0 s4 HIN.out HRL.out (by rw [LN.out]; omega))
    clear HRES hG hL hsrc hne
    go_enter Tryz.func15, Tryz.ntmps15
    go_wp2_with (first
      | (go_at_call 40; refine Calls.mono CL.out ?_; rintro e w1 ⟨v1, rfl, ho1, hb1⟩; obtain ⟨a1, c1, rfl⟩ := own_form ho1; have O1 := Lib.hid ho1; have B1 := Lib.hid hb1; clear ho1 hb1)
      | (go_at_call 41; refine Calls.mono (SRT.out _ _ O1.out B1.out) ?_; rintro e w2 ⟨rfl, hr2, hb2⟩; have R2 : Hid (RowsAt w2 w2.heap.size (.slice a1 n c1) G.flatten) := Lib.hid (by rw [← GG.out, groupsF_flat]; exact hr2); have B2 := Lib.hid hb2; clear hr2 hb2))
    have hx2 := B2.out
    have p0 := (hx2.cell (p := ⟨SB, 0, none⟩) hS).trans s0
    have p4 := (hx2.cell (p := ⟨SB, 4, none⟩) hS).trans s4
    have p5 := (hx2.cell (p := ⟨SB, 5, none⟩) hS).trans s5
    have hS2 : SB < w2.heap.size := Nat.lt_of_lt_of_le hS hx2.size
    have HC2 := Lib.hid (HCC.out.mono hx2 hx2.size)
    have HG2 : Hid (IntsAt w2 w2.heap.size (.slice ga ng gc) gr) := Lib.hid (ints_on (by have := HGG.out; rwa [LG.out] at this) hx2 hx2.size)
    have HA2 : Hid (AgsAt w2 w2.heap.size (.slice aa nA ac) ag) := Lib.hid (by have := HAA.out.mono hx2 hx2.size; rwa [LA.out] at this)
    have GA := Lib.hid (fun (g : List (List Val)) (v : Value) (W : World) (hb : Below w2.heap.size w2 W) (hr : RowsAt W W.heap.size v g) (hl : ∀ r ∈ g, r.length = cs.length) (h9 : g.length ≤ 1099511627776) => group_any SB cv cs (.slice ga ng gc) gr (.slice aa nA ac) ag v g W (Nat.lt_of_lt_of_le hS2 hb.size) ((hb.cell (p := ⟨SB, 0, none⟩) hS2).trans p0) ((hb.cell (p := ⟨SB, 4, none⟩) hS2).trans p4) ((hb.cell (p := ⟨SB, 5, none⟩) hS2).trans p5) (HC2.out.mono hb hb.size) (ints_on HG2.out hb hb.size) (HA2.out.mono hb hb.size) hr HIN.out HAG.out hl h9 (by rw [LG.out]; exact g16) (by rw [LA.out]; exact a16))
    have CP := Lib.hid (fun (xv : Value) (x : List Val) (yv : Value) (y : List Val) (W : World) (hb : Below w2.heap.size w2 W) (hx : ValsAt W W.heap.size xv x) (hy : ValsAt W W.heap.size yv y) (lx : x.length = cs.length) (ly : y.length = cs.length) => acmp_any SB cv cs (.slice ga ng gc) gr xv x yv y W (Nat.lt_of_lt_of_le hS2 hb.size) ((hb.cell (p := ⟨SB, 0, none⟩) hS2).trans p0) ((hb.cell (p := ⟨SB, 4, none⟩) hS2).trans p4) (HC2.out.mono hb hb.size) (ints_on HG2.out hb hb.size) hx hy HIN.out lx ly)
    clear CL SRT O1 B1 hx2 s0 s3 s4 s5 s6
    go_loopg [4, 7] G.length (fun g v st wr => ∃ (done rest : List (List (List Val))) (lvs : List Value) (a : Option Addr) (m c : Nat), done ++ rest = G ∧ rest.length = g ∧ st = .slice a m c ∧ rest.flatten.length = m ∧ RowsAt w2 w2.heap.size (.slice a m c) rest.flatten ∧ OutM w2 wr v lvs (done.map fun g => (groupF cs gr ag g).1) ∧ groupsE cs gr ag rest = groupsE cs gr ag G)
    case atStart => exact ⟨[], G, [], a1, n, c1, rfl, rfl, rfl, by rw [← GG.out, groupsF_flat, srt_len, LN.out], R2.out, OutM.nil w2, rfl⟩
    case round =>
      obtain ⟨done, rest, lvs, a, m, c, hd, hgk, rfl, hm, hrw, hout, hge⟩ := hrel
      have hx := hout.below
      obtain ⟨hz, hend, hne, hfl, hdl, hmem⟩ := groups_head (hd.trans GG.out.symm)
      have hld : lvs.length = done.length := by rw [hout.inn.1]; simp
      rw [LN.out] at hfl hdl
      obtain ⟨a4, c4, rfl⟩ := own_form hout.own
      obtain ⟨L, hL⟩ : ∃ L, lvs.length = L := ⟨_, rfl⟩
      rw [hL] at hout hld ⊢
      have q4 := (hx.cell (p := ⟨SB, 4, none⟩) hS2).trans p4
      have zS : SB < wr.heap.size := Nat.lt_of_lt_of_le hS2 hx.size
      clear R2
      cases rest with
      | nil =>
        obtain rfl : m = 0 := by simpa using hm.symm
        have hdG : done = G := by simpa using hd
        subst hdG
        have E0 : groupsE cs gr ag done = 0 := hge.symm
        obtain rfl : (done.map (fun g => (groupF cs gr ag g).1), (0 : Int)) = R := by rw [← RES.out, if_pos E0]
        have FIN : Hid (ResPost w (done.map fun g => (groupF cs gr ag g).1) 0 (.returned (.tuple #[.slice a4 L c4, .int .i64 0])) wr) := Lib.hid ⟨_, rfl, hout.rows (by rw [List.length_map]; omega), Below.to B2.out hx⟩
        have tm : ¬ (0 : Int) < ((0 : Nat) : Int) := by simp
        have hend := hend rfl
        clear hd hm hgk hrw hge E0 hne hmem hz hout
        by_cases hL0 : L = 0
        · subst hL0
          have hng : ¬ ng = 0 := fun h => hend (List.eq_nil_of_length_eq_zero (LG.out.trans h)) (List.eq_nil_of_length_eq_zero hld.symm)
          have tg : ((ng : Int) == 0) = false := by simpa using hng
          have tl : (((0 : Nat) : Int) == 0) = true := rfl
          clear hend hld hL
          go_wp2
          refine bodyPost_ret (v := .tuple #[.slice a4 0 c4, .int .i64 0]) ?_ rfl FIN.out
          simp (maxDischargeDepth := 9) [results, Tryz.results15, go_sem, *]
        · have tl : ((L : Int) == 0) = false := by simpa using hL0
          clear hend hld hL
          go_wp2
          refine bodyPost_ret (v := .tuple #[.slice a4 L c4, .int .i64 0]) ?_ rfl FIN.out
          simp (maxDischargeDepth := 9) [results, Tryz.results15, go_sem, *]
      | cons g gs =>
        have hne := hne (by simp)
        have HD := Lib.hid (And.intro hd (And.intro hgk (And.intro hge hld)))
        have HM := Lib.hid hm
        have HRW := Lib.hid hrw
        have HO := Lib.hid hout
        have HZ := Lib.hid hz
        have HMM := Lib.hid hmem
        have HLL := Lib.hid hL
        have hlk : lvs.length ≤ n + 1 := by rw [hL, hld]; exact hdl
        have hmn : m ≤ n := by rw [← hm]; exact hfl
        obtain ⟨gl, hgl⟩ : ∃ gl, g.length = gl := ⟨_, rfl⟩
        have HGL := Lib.hid hgl
        have hglm : gl ≤ m := by rw [← hgl, ← hm, List.flatten_cons, List.length_append]; omega
        have h3 : 0 < m ∨ (m = 0 ∧ L = 0 ∧ ng = 0) := by
          rcases hne with h | ⟨h1, h2, h3⟩
          · exact .inl (hm ▸ h)
          · exact .inr ⟨hm ▸ h1, by rw [hld, h2]; rfl, by rw [← LG.out, h3]; rfl⟩
        clear hd hgk hge hld hm hrw hout hz hmem hL hgl hne hend hfl hdl
        refine wp_seq_k (fun K11 hK11 => ?_)
        go_cut [64] from 48 to 64 (fun sx wx => sx = .bool true ∧ wr = wx)
        case first =>
          rcases h3 with hm0 | ⟨rfl, rfl, rfl⟩
          · have hm0' : (0 : Int) < (m : Int) := by omega
            go_wp2
            go_meet
            exact ⟨rfl, rfl⟩
          · have tm : ¬ (0 : Int) < ((0 : Nat) : Int) := by simp
            have tl : (((0 : Nat) : Int) == 0) = true := rfl
            go_wp2
            go_meet
            exact ⟨rfl, rfl⟩
        case rest =>
        obtain ⟨rfl, rfl⟩ := hcut
        clear h3
        refine hK11 _ _ ?_
        go_upto_region 12 with fail
        go_cut [8] from 65 to 64 (fun sx wx => sx = .int .i64 0 ∧ wr = wx)
        case first =>
          go_wp2_with fail
          go_meet
          exact ⟨rfl, rfl⟩
        case rest =>
        obtain ⟨rfl, rfl⟩ := hcut
        apply_assumption
        refine wp_seq_k (fun K12 hK12 => ?_)
        go_cut [8] from 65 to 82 (fun sx wx => sx = .int .i64 (gl : Int) ∧ ∃ x : Ext wr, x.it = wx)
        case first =>
            go_wp2_with fail
            go_loopg [8] gl (fun gh st wi => ∃ j : Nat, j + gh = gl ∧ st = .int .i64 (j : Int) ∧ ∃ x : Ext wr, x.it = wi)
            case atStart => exact ⟨0, by omega, rfl, ⟨wr, Below.refl _ _⟩, rfl⟩
            case round =>
              obtain ⟨j, hj, rfl, x, rfl⟩ := hrel
              by_cases hjm : j < m
              · have hjm' : (j : Int) < (m : Int) := by omega
                have hm0 : 0 < m := by omega
                have hm0' : (0 : Int) < (m : Int) := by omega
                have l0 : 0 < (g :: gs).flatten.length := by rw [HM.out]; exact hm0
                have lj : j < (g :: gs).flatten.length := by rw [HM.out]; exact hjm
                obtain ⟨rb, ro, rfl, _, hrb, lv0, c0, hv0⟩ := rows_in HRW.out l0
                obtain ⟨rb', ro', e', _, _, lvj, cj, hvj⟩ := rows_in HRW.out lj
                injection e' with e'
                injection e' with e1 e2
                subst e1 e2
                have n0 := HRL.out _ (HMM.out _ (List.getElem_mem l0))
                have nj := HRL.out _ (HMM.out _ (List.getElem_mem lj))
                have hxx : Below w2.heap.size w2 x.it := Below.on hx x
                have f0 : x.it.cell? ⟨rb, ro, none⟩ = some lv0 := (hxx.cell (p := ⟨rb, ro, none⟩) hrb).trans (by simpa using c0)
                have fj : x.it.cell? ⟨rb, ro + j, none⟩ = some lvj := (hxx.cell (p := ⟨rb, ro + j, none⟩) hrb).trans cj
                have zr : rb < x.it.heap.size := Nat.lt_of_lt_of_le hrb hxx.size
                obtain ⟨D, hD⟩ : ∃ D, grpC cs ((g :: gs).flatten[0]'l0) ((g :: gs).flatten[j]'lj) gr = D := ⟨_, rfl⟩
                have CPJ : Hid (∀ W, Below x.it.heap.size x.it W → Calls Tryz.prog 42 #[.pointer (some ⟨SB, 0, none⟩), lv0, lvj] W fun e w' => e = .returned (.int .i64 D) ∧ Below W.heap.size W w') := Lib.hid (fun W hW => by
                  have hb := Below.to hxx hW
                  have q := CP.out lv0 _ lvj _ W hb (hv0.mono hb hb.size) (hvj.mono hb hb.size) n0 nj
                  rw [hD] at q; exact q)
                by_cases hg0 : gk = 0
                · obtain rfl : gl = j := by omega
                  have dn : ¬ D = 0 := by
                    rw [← hD]
                    have := HZ.out.out rfl l0 (by rw [HGL.out, HM.out]; exact hjm)
                    simpa only [HGL.out] using this
                  have tD : (D == 0) = false := by simpa using dn
                  clear hD c0 cj hv0 hvj n0 nj
                  go_wp2_with fail
                  refine wp_region_ext (by kernel_rfl) (by kernel_rfl) ?_
                  repeat (go_big_quiet_step (((go_at_call 42; exact Calls.ext (CPJ.out _ (Ext.below _))))))
                  refine wpQuiet_nil ?_
                  rintro _ ⟨x13, rfl⟩
                  go_wp2_with fail
                  go_meet
                  exact ⟨rfl, ext_of (Below.on x.below x13)⟩
                · have dn : D = 0 := by
                    rw [← hD]
                    exact HZ.out.in rfl (by rw [HGL.out]; omega) l0 lj
                  have tD : (D == 0) = true := by simpa using dn
                  have HJ := Lib.hid (And.intro hj hg0)
                  clear hD c0 cj hv0 hvj n0 nj hj hg0 dn
                  go_wp2_with fail
                  refine wp_region_ext (by kernel_rfl) (by kernel_rfl) ?_
                  repeat (go_big_quiet_step (((go_at_call 42; exact Calls.ext (CPJ.out _ (Ext.below _))))))
                  refine wpQuiet_nil ?_
                  rintro _ ⟨x13, rfl⟩
                  go_wp2_with fail
                  go_roundg (gk - 1)
                  case measure => have := HJ.out; omega
                  case rel => exact ⟨j + 1, by have := HJ.out; omega, by go_num, ext_of (Below.on x.below x13)⟩
              · have hjm' : ¬ (j : Int) < (m : Int) := by omega
                obtain rfl : gl = j := by omega
                go_wp2_with fail
                refine wp_region_ext (by kernel_rfl) (by kernel_rfl) ?_
                repeat (go_big_quiet_step ((fail)))
                refine wpQuiet_nil ?_
                rintro _ ⟨x13, rfl⟩
                go_wp2_with fail
                go_meet
                exact ⟨rfl, ext_of (Below.on x.below x13)⟩
        case rest =>
        obtain ⟨rfl, x, rfl⟩ := hcut
        refine hK12 _ _ ?_
        have hxx : Below w2.heap.size w2 x.it := Below.on hx x
        have HOX := Lib.hid (HO.out.on x.below)
        have eT : (g :: gs).flatten.take gl = g := by rw [List.flatten_cons, ← HGL.out, List.take_left]
        have eD : (g :: gs).flatten.drop gl = gs.flatten := by rw [List.flatten_cons, ← HGL.out, List.drop_left]
        have hRT := rows_take HRW.out HM.out hglm
        have hRD := rows_drop HRW.out HM.out hglm
        obtain ⟨sT, hsT⟩ : ∃ s, sliced a 0 gl c 1 = s := ⟨_, rfl⟩
        obtain ⟨sD, hsD⟩ : ∃ s, sliced a gl m c 1 = s := ⟨_, rfl⟩
        rw [hsT, eT] at hRT
        rw [hsD, eD] at hRD
        have hgc : gl ≤ c := by
          by_cases h : 0 < m
          · obtain ⟨_, _, _, hmc, _⟩ := rows_in HRW.out (i := 0) (by rw [HM.out]; exact h)
            rw [HM.out] at hmc; omega
          · omega
        have slT : ∀ W : World, (Instr.slice 30 (.slice a m c) none (some (.int .i64 (gl : Int))) none).run Tryz.prog W = .ok sT W := fun W => by rw [← hsT]; exact run_rows_h hgc W
        have slD : ∀ W : World, (Instr.slice 30 (.slice a m c) (some (.int .i64 (gl : Int))) none none).run Tryz.prog W = .ok sD W := fun W => by rw [← hsD]; exact run_rows_l hglm W
        obtain ⟨aD, cD, rfl⟩ := rows_end hRD
        obtain ⟨mD, hmD⟩ : ∃ mD, gs.flatten.length = mD := ⟨_, rfl⟩
        rw [hmD] at hRD slD
        have RD := Lib.hid (And.intro hmD hRD)
        have gln : g.length ≤ 1099511627776 := by rw [HGL.out]; omega
        obtain ⟨vl, hvl⟩ : ∃ vl, (groupF cs gr ag g).1 = vl := ⟨_, rfl⟩
        obtain ⟨ve, hve⟩ : ∃ ve, (groupF cs gr ag g).2 = ve := ⟨_, rfl⟩
        have GP : Hid (∀ W, Below x.it.heap.size x.it W → Calls Tryz.prog 43 #[.pointer (some ⟨SB, 0, none⟩), sT] W (GrpPost W vl ve)) := Lib.hid (fun W hW => by
          have hb := Below.to hxx hW
          have q := GA.out g sT W hb (hRT.mono hb hb.size) (fun r hr => HRL.out r (HMM.out r (by rw [List.flatten_cons]; exact List.mem_append_left _ hr))) gln
          rw [hvl, hve] at q; exact q)
        have VL : Hid (vl.length ≤ 32) := Lib.hid (by have := groupF_len cs gr ag g; rw [hvl, LG.out, LA.out] at this; omega)
        have EE : Hid (groupsE cs gr ag (g :: gs) = if ve = 0 then groupsE cs gr ag gs else ve) := Lib.hid (by rw [← hve]; rfl)
        have MV : Hid ((done ++ [g]).map (fun g => (groupF cs gr ag g).1) = done.map (fun g => (groupF cs gr ag g).1) ++ [vl]) := Lib.hid (by rw [List.map_append, ← hvl]; rfl)
        clear hRT hRD hsT hsD eT eD hvl hve hmD gln hgc
        by_cases v0 : ve = 0
        · subst v0
          have OK : Hid (groupsE cs gr ag gs = groupsE cs gr ag G) := Lib.hid (by have := EE.out; rw [if_pos rfl, HD.out.2.2.1] at this; exact this.symm)
          have w63 := hxx.size
          have wxs := x.below.size
          clear EE
          go_wp2_with (first
            | (go_at_call 43; refine Calls.mono (GP.out _ (by with_reducible repeat (first | exact Below.refl _ _ | assumption | refine Below.al ?_ _ | refine Below.on ?_ _ | refine Below.st ?_ (by first | assumption | (simp; done) | (simp; omega)) _ | refine Below.drew ?_))) ?_; rintro e w5 ⟨v5, rfl, ho5, hb5⟩; obtain ⟨a5, c5, rfl⟩ := own_form ho5; have V5 : Hid (ValsAt w5 w5.heap.size (.slice a5 vl.length c5) vl) := Lib.hid (own_vals (e := 41) (base := x.it.heap.size) (by have := VL.out; omega) ho5); have O5 := Lib.hid (HOX.out.on hb5); have FR := Lib.hid (HOX.out.fresh ho5); have hw5 := O5.out.below.size; clear ho5 hb5)
            | (at_builtin; go_must (refine wpList_append_lies _ rfl _ _ 30 rfl w2.heap.size 42 i0 _ 1 24 Tryz.underlying30 hi hz0 hz1 hz2 rfl (by decide) (.slice a4 L c4) lvs.length (lvs.flatMap one1) rfl (O5.out.own.alloc _) ⟨w5.heap.size, 0, none⟩ 1 1 [.slice a5 vl.length c5] rfl rfl (World.news_of_block (heap_alloc_new w5 _)) (by simp [Value.oneCell']) (by omega) (by unfold maxLen; omega) (by omega) (by simp; omega) (w5.heap.size + 1) (by simp) ?_); intro gb cap w4 hown hgrow hat hlt4; go_must (have MS := Lib.hid (O5.out.app V5.out FR.out hown hgrow hat)); clear hown hgrow hat hlt4))
          go_roundg gs.length
          case measure => have := HD.out.2.1; rw [List.length_cons] at this; omega
          case rel => exact ⟨done ++ [g], gs, lvs ++ [.slice a5 vl.length c5], aD, mD, cD, by rw [← HD.out.1, List.append_assoc]; rfl, rfl, rfl, RD.out.1, RD.out.2, by rw [MV.out]; exact MS.out, OK.out⟩
        · have E0 : groupsE cs gr ag G = ve := by have := EE.out; rw [if_neg v0, HD.out.2.2.1] at this; exact this
          obtain rfl : (([], ve) : List (List Val) × Int) = R := by rw [← RES.out, E0, if_neg v0]
          have t : (ve != 0) = true := by simpa using v0
          have BX := Lib.hid (Below.to B2.out hxx)
          clear EE E0 RES
          go_wp2_with (go_at_call 43; refine Calls.mono (GP.out _ (by with_reducible repeat (first | exact Below.refl _ _ | assumption | refine Below.al ?_ _ | refine Below.on ?_ _ | refine Below.st ?_ (by first | assumption | (simp; done) | (simp; omega)) _ | refine Below.drew ?_))) ?_; rintro e w5 ⟨v5, rfl, ho5, hb5⟩; have B5 := Lib.hid (Below.to BX.out hb5); clear ho5 hb5)
          refine bodyPost_ret (v := .tuple #[.slice none 0 0, .int .i64 ve]) ?_ rfl ⟨.slice none 0 0, rfl, rows_nil _ _, B5.out⟩
          simp (maxDischargeDepth := 9) [results, Tryz.results15, go_sem, *]
end Go.Proofs.YtpahoenanfjhpaaGreat
