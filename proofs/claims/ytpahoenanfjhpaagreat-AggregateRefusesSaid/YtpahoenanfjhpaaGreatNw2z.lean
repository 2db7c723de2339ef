/-
  CHAPTER 26: aggregate.New: where the lists of a new state lie; states that are not disturbed. Conditions: the schema and the query lie in memory; the lists of the nodes have at most 2^42 values.
-/
import Derived.Test.YtpahoenanfjhpaaGreatNewz
import Derived.Test.YtpahoenanfjhpaaGreatAddz
import Derived.Test.YtpahoenanfjhpaaGreatZbqz
set_option linter.unusedVariables false
set_option linter.unusedSimpArgs false
namespace Go.Proofs.YtpahoenanfjhpaaGreat
open Go.RowKit
/-- The lists of a state lie in blocks from lo on, below the state's. -/
def StFar (w : World) (SB lo : Nat) (cs : List Col) (ns : List Nod) (pr gr : List Int) (ag : List Ag) : Prop :=
  ∃ cv nv pv gv av, ∃ dl : List (Nod × Value), w.cell? ⟨SB, 0, none⟩ = some cv ∧ w.cell? ⟨SB, 2, none⟩ = some nv ∧ w.cell? ⟨SB, 3, none⟩ = some pv ∧ w.cell? ⟨SB, 4, none⟩ = some gv ∧ w.cell? ⟨SB, 5, none⟩ = some av ∧ dl.map Prod.fst = ns ∧
    w.ownsRow lo 58 4 cv cs.length (cs.flatMap colC) ∧ w.ownsRow lo 44 8 nv dl.length (dl.flatMap nodC) ∧ (∀ p ∈ dl, ValsAt w w.heap.size p.2 p.1.ls ∧ ∀ k, p.2.ownBlock = some k → lo ≤ k ∧ k < SB) ∧
    w.ownsRow lo 3 1 pv pr.length (pr.flatMap intC) ∧ w.ownsRow lo 3 1 gv gr.length (gr.flatMap intC) ∧ w.ownsRow lo 39 2 av ag.length (ag.flatMap agC) ∧
    (∀ k, cv.ownBlock = some k → k < SB) ∧ (∀ k, nv.ownBlock = some k → k < SB) ∧ (∀ k, pv.ownBlock = some k → k < SB) ∧ (∀ k, gv.ownBlock = some k → k < SB) ∧ (∀ k, av.ownBlock = some k → k < SB)
def NewPost2 (w : World) (cs : List Col) (key : Int) (ns : List Nod) (pr gr : List Int) (ag : List Ag) (err : Int) (e : Ending) (w' : World) : Prop :=
  if err = 0 then ∃ SB, e = .returned (.tuple #[.pointer (some ⟨SB, 0, none⟩), .int .i64 0]) ∧ w.heap.size ≤ SB ∧ StAt w' SB w'.heap.size cs key ns pr gr ag (.slice none 0 0) [] [] ∧ Below w.heap.size w w' ∧ StFar w' SB w.heap.size cs ns pr gr ag
  else e = .returned (.tuple #[.pointer none, .int .i64 err]) ∧ Below w.heap.size w w'
theorem cols_down {w : World} {B SB : Nat} {v : Value} {l : List Col} (h : ColsAt w B v l) (hb : ∀ k, v.ownBlock = some k → k < SB) : ColsAt w SB v l := by
  refine ⟨h.1, h.2.imp id ?_⟩
  rintro ⟨b, o, c, rfl, h2, h3, h4⟩
  exact ⟨b, o, c, rfl, h2, hb b rfl, h4⟩
theorem ags_down {w : World} {B SB : Nat} {v : Value} {l : List Ag} (h : AgsAt w B v l) (hb : ∀ k, v.ownBlock = some k → k < SB) : AgsAt w SB v l := by
  refine ⟨h.1, h.2.imp id ?_⟩
  rintro ⟨b, o, c, rfl, h2, h3, h4⟩
  exact ⟨b, o, c, rfl, h2, hb b rfl, h4⟩
theorem ints_down {w : World} {B SB : Nat} {v : Value} {l : List Int} (h : IntsAt w B v l) (hb : ∀ k, v.ownBlock = some k → k < SB) : IntsAt w SB v l := by
  refine ⟨h.1, h.2.1, h.2.2.imp id ?_⟩
  rintro ⟨b, o, c, rfl, h3, h4⟩
  exact ⟨b, o, c, rfl, hb b rfl, h4⟩
theorem vals_down {w : World} {B SB : Nat} {v : Value} {l : List Val} (h : ValsAt w B v l) (hb : ∀ k, v.ownBlock = some k → k < SB) : ValsAt w SB v l := by
  refine ⟨h.1, h.2.imp id ?_⟩
  rintro ⟨b, o, c, rfl, h2, h3, h4⟩
  exact ⟨b, o, c, rfl, h2, hb b rfl, h4⟩
theorem own_nods_down {w : World} {base SB : Nat} {T : TypeId} {v : Value} {dl : List (Nod × Value)} (hl : dl.length ≤ 9223372036854775807) (hv : ∀ p ∈ dl, ValsAt w SB p.2 p.1.ls) (h : w.ownsRow base T 8 v dl.length (dl.flatMap nodC)) (hb : ∀ k, v.ownBlock = some k → k < SB) : NodsAt w SB v (dl.map Prod.fst) := by
  rcases own_at (f := nodC) (k := 8) (fun _ => rfl) h with ⟨rfl, rfl⟩ | ⟨g, c, rfl, hc, _, hg, H⟩
  · exact ⟨by simp, .inl ⟨rfl, none, 0, rfl⟩⟩
  · refine ⟨by rw [List.length_map]; exact hl, .inr ⟨g, 0, c, by rw [List.length_map], by rw [List.length_map]; exact hc, hb g rfl, fun j hj => ?_⟩⟩
    have hj' : j < dl.length := by simpa using hj
    have e1 : (dl.map Prod.fst)[j]'hj = (dl[j]'hj').1 := by simp
    rw [e1]
    have k := fun i u hi hu => H j hj' i u hi hu
    refine ⟨(dl[j]'hj').2, ?_, ?_, ?_, ?_, ?_, ?_, ?_, ?_, hv _ (List.getElem_mem _)⟩
    · have := k 0 _ (by decide) rfl; simpa using this
    · have := k 1 _ (by decide) rfl; simpa using this
    · have := k 2 _ (by decide) rfl; simpa using this
    · have := k 3 _ (by decide) rfl; simpa using this
    · have := k 4 _ (by decide) rfl; simpa using this
    · have := k 5 _ (by decide) rfl; simpa using this
    · have := k 6 _ (by decide) rfl; simpa using this
    · have := k 7 _ (by decide) rfl; simpa using this
/-- Nothing below the state but blocks before lo, and not the state: it stays. -/
theorem StAt.far {S : Nat → Prop} {w w' : World} {SB L lo : Nat} {cs : List Col} {key : Int} {ns : List Nod} {pr gr : List Int} {ag : List Ag} {rv : Value} {lvs : List Value} {rows : List (List Val)} (h : StAt w SB L cs key ns pr gr ag rv lvs rows) (hf : StFar w SB lo cs ns pr gr ag) (hm : Mv S w w') (h0 : ∀ k, S k → k < lo ∨ SB < k) (hlo : lo ≤ SB) (h1 : ∀ k, rv.ownBlock = some k → ¬ S k) (h2 : ∀ lv ∈ lvs, ∀ k, lv.ownBlock = some k → ¬ S k) :
    StAt w' SB L cs key ns pr gr ag rv lvs rows ∧ StFar w' SB lo cs ns pr gr ag := by
  obtain ⟨cv, nv, pv, gv, av, dl, c0, c2, c3, c4, c5, hdl, o1, o2, o3, o4, o5, o6, b1, b2, b4, b5, b6⟩ := hf
  have lt := h.lt
  have up := h.up
  have hS : SB < w.heap.size := Nat.lt_of_lt_of_le lt up
  have nS : ¬ S SB := fun q => by rcases h0 _ q with q | q <;> omega
  have out : ∀ k, lo ≤ k → k < SB → ¬ S k := fun k k1 k2 q => by rcases h0 _ q with q | q <;> omega
  have key1 := (hm.cell 1 hS nS)
  obtain ⟨_, _, _, _, _, _, kk, _, _, _, _, kc, kn, kp, kg, ka⟩ := h.st
  have l1 := kc.1
  have l2 := kn.1
  have l3 := kp.2.1
  have l4 := kg.2.1
  have l5 := ka.1
  have d0 := (hm.cell 0 hS nS).trans c0
  have d2 := (hm.cell 2 hS nS).trans c2
  have d3 := (hm.cell 3 hS nS).trans c3
  have d4 := (hm.cell 4 hS nS).trans c4
  have d5 := (hm.cell 5 hS nS).trans c5
  have p1 := own_mvn o1 hm fun k hk => out k (o1.lt k hk).1 (b1 k hk)
  have p2 := own_mvn o2 hm fun k hk => out k (o2.lt k hk).1 (b2 k hk)
  have p4 := own_mvn o4 hm fun k hk => out k (o4.lt k hk).1 (b4 k hk)
  have p5 := own_mvn o5 hm fun k hk => out k (o5.lt k hk).1 (b5 k hk)
  have p6 := own_mvn o6 hm fun k hk => out k (o6.lt k hk).1 (b6 k hk)
  have p3 : ∀ p ∈ dl, ValsAt w' w'.heap.size p.2 p.1.ls ∧ ∀ k, p.2.ownBlock = some k → lo ≤ k ∧ k < SB := fun p hp => by
    obtain ⟨x1, x2⟩ := o3 p hp
    exact ⟨(x1.keep fun k hk hq => hm.block k hk (out k (x2 k hq).1 (x2 k hq).2)).up hm.size, x2⟩
  have dll : dl.length = ns.length := by rw [← hdl, List.length_map]
  refine ⟨⟨lt, Nat.le_trans up hm.size, fun q => (hm.frozen q hS nS).trans (h.frz q), ⟨cv, nv, pv, gv, av, d0, key1.trans kk, d2, d3, d4, d5, cols_down (own_cols (by omega) p1) b1, ?_, ints_down (own_ints kp.1 (by omega) p4) b4, ints_down (own_ints kg.1 (by omega) p5) b5, ags_down (own_ags (by omega) p6) b6⟩, (hm.cell 6 hS nS).trans h.s6, own_mvn h.own hm h1, h.inn.1, fun j hj hj' => ?_⟩, ⟨cv, nv, pv, gv, av, dl, d0, d2, d3, d4, d5, hdl, p1, p2, p3, p4, p5, p6, b1, b2, b4, b5, b6⟩⟩
  · rw [← hdl]
    exact own_nods_down (by omega) (fun p hp => vals_down (p3 p hp).1 fun k hk => ((p3 p hp).2 k hk).2) p2 b2
  · obtain ⟨i1, i2⟩ := h.inn.2 j hj hj'
    exact ⟨(i1.keep fun k hk hq => hm.block k hk (h2 _ (List.getElem_mem hj) k hq)).up hm.size, fun k hk => ⟨(i2 k hk).1, Nat.lt_of_lt_of_le (i2 k hk).2.1 hm.size, (i2 k hk).2.2⟩⟩
set_option maxRecDepth 8000 in
set_option maxHeartbeats 2000000 in
theorem anew2_any (cv : Value) (cs : List Col) (key : Int) (nv : Value) (ns : List Nod) (pv : Value) (pr : List Int) (gv : Value) (gr : List Int) (av : Value) (ag : List Ag) (w : World) (hc : ColsAt w w.heap.size cv cs) (hn : NodsAt w w.heap.size nv ns) (hp : IntsAt w w.heap.size pv pr) (hg : IntsAt w w.heap.size gv gr) (ha : AgsAt w w.heap.size av ag) (hls : ∀ d ∈ ns, d.ls.length ≤ 4398046511104) :
    Calls Tryz.prog 13 #[.agg #[cv, .int .i64 key], .agg #[nv, pv, gv, av]] w (NewPost2 w cs key ns pr gr ag (queryE cs key ns pr gr ag)) := by
  obtain ⟨i0, hi, hz0, hz1, hz2⟩ := info_parts infoNod
  obtain ⟨ca, cc, rfl⟩ := cols_end hc
  obtain ⟨na, nc, rfl⟩ := nods_end hn
  obtain ⟨pa, pc, rfl⟩ := ints_end hp
  obtain ⟨ga, gc, rfl⟩ := ints_end hg
  obtain ⟨aa, ac, rfl⟩ := ags_end ha
  have CK := Lib.hid (fun (W : World) (hb : Below w.heap.size w W) => acheck_any (.slice ca cs.length cc) cs key (.slice na ns.length nc) ns (.slice pa pr.length pc) pr (.slice ga gr.length gc) gr (.slice aa ag.length ac) ag W (hc.mono hb hb.size) (hn.mono hb hb.size) (ints_on hp hb hb.size) (ints_on hg hb hb.size) (ha.mono hb hb.size))
  have QP := Lib.hid (fun h0 : queryE cs key ns pr gr ag = 0 => (by
    unfold queryE at h0
    by_cases q : predF cs key ns = 0
    · rw [if_pos q] at h0
      by_cases q2 : 16 < pr.length ∨ 16 < gr.length ∨ 16 < ag.length
      · rw [if_pos q2] at h0; exact absurd h0 (by decide)
      · have q3 := q
        unfold predF at q3
        by_cases q4 : schemaF cs key = 0
        · rw [if_pos q4] at q3
          by_cases q5 : 64 < ns.length
          · rw [if_pos q5] at q3; exact absurd q3 (by decide)
          · exact ⟨by omega, by omega, by omega, by omega, (schema_parts q4).2.2.1⟩
        · rw [if_neg q4] at q3; exact absurd q3 q4
    · rw [if_neg q] at h0; exact absurd h0 q : pr.length ≤ 16 ∧ gr.length ≤ 16 ∧ ag.length ≤ 16 ∧ ns.length ≤ 64 ∧ cs.length ≤ 12))
  obtain ⟨np, hnp⟩ : ∃ n, pr.length = n := ⟨_, rfl⟩
  obtain ⟨ng, hng⟩ : ∃ n, gr.length = n := ⟨_, rfl⟩
  obtain ⟨nA, hnA⟩ : ∃ n, ag.length = n := ⟨_, rfl⟩
  obtain ⟨nn, hnn⟩ : ∃ n, ns.length = n := ⟨_, rfl⟩
  obtain ⟨nk, hnk⟩ : ∃ n, cs.length = n := ⟨_, rfl⟩
  rw [hnp] at hp
  rw [hng] at hg
  rw [hnA] at ha
  rw [hnn] at hn
  rw [hnk] at hc
  rw [hnp, hng, hnA, hnn, hnk] at CK QP ⊢
  have HC := Lib.hid hc
  have HN := Lib.hid hn
  have HP := Lib.hid hp
  have HG := Lib.hid hg
  have HA := Lib.hid ha
  have LP := Lib.hid hnp
  have LG := Lib.hid hng
  have LA := Lib.hid hnA
  have LN := Lib.hid hnn
  have LK := Lib.hid hnk
  have HLS := Lib.hid hls
  obtain ⟨R, hR⟩ : ∃ R, queryE cs key ns pr gr ag = R := ⟨_, rfl⟩
  rw [hR] at CK QP ⊢
  clear hc hn hp hg ha hnp hng hnA hnn hnk hls hR
  by_cases R0 : R = 0
  · subst R0
    obtain ⟨p16, g16, a16, n64, c12⟩ := QP.out rfl
    clear QP
    go_enter Tryz.func13, Tryz.ntmps13
    go_upto_region 4 with (go_at_call 29; refine Calls.mono (CK.out _ (by with_reducible repeat (first | exact Below.refl _ _ | assumption | refine Below.al ?_ _ | refine Below.on ?_ _ | refine Below.st ?_ (by first | assumption | (simp; done) | (simp; omega)) _ | refine Below.drew ?_))) ?_; rintro e w1 ⟨rfl, hb1⟩; obtain ⟨x1, rfl⟩ := Ext.of hb1; have z0 : w.heap.size < x1.it.heap.size := x1.lt (by simp; omega); have z1 : w.heap.size + 1 < x1.it.heap.size := x1.lt (by simp))
    refine captureM ?_
    intro y ey
    have hyw : Below w.heap.size w y := by rw [ey]; with_reducible repeat (first | exact Below.refl _ _ | assumption | refine Below.al ?_ _ | refine Below.on ?_ _ | refine Below.st ?_ (by first | assumption | (simp; done) | (simp; omega)) _ | refine Below.drew ?_)
    have s0 : y.cell? ⟨w.heap.size, 0, none⟩ = some (.slice ca nk cc) := by rw [ey]; simp (maxDischargeDepth := 9) [go_sem, *]
    have s1 : y.cell? ⟨w.heap.size, 1, none⟩ = some (.int .i64 key) := by rw [ey]; simp (maxDischargeDepth := 9) [go_sem, *]
    have y0 : y.cell? ⟨w.heap.size + 1, 0, none⟩ = some (.slice na nn nc) := by rw [ey]; simp (maxDischargeDepth := 9) [go_sem, *]
    have y1 : y.cell? ⟨w.heap.size + 1, 1, none⟩ = some (.slice pa np pc) := by rw [ey]; simp (maxDischargeDepth := 9) [go_sem, *]
    have y2 : y.cell? ⟨w.heap.size + 1, 2, none⟩ = some (.slice ga ng gc) := by rw [ey]; simp (maxDischargeDepth := 9) [go_sem, *]
    have y3 : y.cell? ⟨w.heap.size + 1, 3, none⟩ = some (.slice aa nA ac) := by rw [ey]; simp (maxDischargeDepth := 9) [go_sem, *]
    have hy1 : w.heap.size + 1 < y.heap.size := by rw [ey]; first | exact z1 | simpa using z1
    clear ey z0 z1 hb1 x1
    have SP : Hid (∀ W, Below y.heap.size y W → SrcRow W (.slice pa np pc) np 1 (pr.flatMap intC)) := Lib.hid (fun W hW => by have hb := Below.to hyw hW; have q := ints_row (ints_on HP.out hb hb.size); rwa [LP.out] at q)
    have SG : Hid (∀ W, Below y.heap.size y W → SrcRow W (.slice ga ng gc) ng 1 (gr.flatMap intC)) := Lib.hid (fun W hW => by have hb := Below.to hyw hW; have q := ints_row (ints_on HG.out hb hb.size); rwa [LG.out] at q)
    have SA : Hid (∀ W, Below y.heap.size y W → SrcRow W (.slice aa nA ac) nA 2 (ag.flatMap agC)) := Lib.hid (fun W hW => by have hb := Below.to hyw hW; have q := ags_row (HA.out.mono hb hb.size); rwa [LA.out] at q)
    clear CK
    go_cut [7] from 16 to 25 (fun sx wx => ∃ (OB : Nat) (v7 v8 v9 : Value), sx = .pointer (some ⟨OB, 0, none⟩) ∧ NwIni y wx OB v7 v8 v9 pr gr ag)
    case first =>
      go_region_held3 (fun w' => w'.cell? ⟨w.heap.size + 1, 1, none⟩ = some (.slice pa np pc) ∧ w'.cell? ⟨w.heap.size + 1, 2, none⟩ = some (.slice ga ng gc) ∧ w'.cell? ⟨w.heap.size + 1, 3, none⟩ = some (.slice aa nA ac)) (first | with_reducible exact ⟨by assumption, by assumption, by assumption⟩ | exact ⟨((show Below y.heap.size y _ from (by with_reducible repeat (first | exact Below.refl _ _ | assumption | refine Below.al ?_ _ | refine Below.on ?_ _ | refine Below.st ?_ (by first | assumption | (simp; done) | (simp; omega)) _ | refine Below.drew ?_))).cell (p := ⟨w.heap.size + 1, 1, none⟩) hy1).trans y1, ((show Below y.heap.size y _ from (by with_reducible repeat (first | exact Below.refl _ _ | assumption | refine Below.al ?_ _ | refine Below.on ?_ _ | refine Below.st ?_ (by first | assumption | (simp; done) | (simp; omega)) _ | refine Below.drew ?_))).cell (p := ⟨w.heap.size + 1, 2, none⟩) hy1).trans y2, ((show Below y.heap.size y _ from (by with_reducible repeat (first | exact Below.refl _ _ | assumption | refine Below.al ?_ _ | refine Below.on ?_ _ | refine Below.st ?_ (by first | assumption | (simp; done) | (simp; omega)) _ | refine Below.drew ?_))).cell (p := ⟨w.heap.size + 1, 3, none⟩) hy1).trans y3⟩)
        (first
          | (go_at_call 31; first | (refine' Calls.mono (clone_int _ _ _ _ ?_ ?_) ?_; rotate_left 2; (focus (intro V hV; refine SP.out V (Below.to ?_ hV); with_reducible repeat (first | exact Below.refl _ _ | assumption | refine Below.al ?_ _ | refine Below.on ?_ _ | refine Below.st ?_ (by first | assumption | (simp; done) | (simp; omega)) _ | refine Below.drew ?_))); (focus omega); rintro e w7 ⟨v7, rfl, ho7, hb7⟩; obtain ⟨x7, rfl⟩ := Ext.of hb7; obtain ⟨a7, c7, rfl⟩ := own_form ho7; have B7 : Below y.heap.size y x7.it := (by with_reducible repeat (first | exact Below.refl _ _ | assumption | refine Below.al ?_ _ | refine Below.on ?_ _ | refine Below.st ?_ (by first | assumption | (simp; done) | (simp; omega)) _ | refine Below.drew ?_)); have f7a := (B7.cell (p := ⟨w.heap.size + 1, 1, none⟩) hy1).trans y1; have f7b := (B7.cell (p := ⟨w.heap.size + 1, 2, none⟩) hy1).trans y2; have f7c := (B7.cell (p := ⟨w.heap.size + 1, 3, none⟩) hy1).trans y3; have O7 : Hid (x7.it.ownsRow y.heap.size 3 1 (.slice a7 np c7) np (pr.flatMap intC)) := Lib.hid (own_low ho7 (show Below y.heap.size y _ from (by with_reducible repeat (first | exact Below.refl _ _ | assumption | refine Below.al ?_ _ | refine Below.on ?_ _ | refine Below.st ?_ (by first | assumption | (simp; done) | (simp; omega)) _ | refine Below.drew ?_))).size); have N7 := Lib.hid (fun k => ho7.lt k); have s7 := x7.below.size; (try simp only [World.size_alloc, World.size_drew] at s7); (try (have l7 := Nat.lt_of_succ_le s7)); have b7 := B7.size; have z7 : w.heap.size + 1 < x7.it.heap.size := Nat.lt_of_lt_of_le hy1 b7; clear ho7) | (refine' Calls.mono (clone_int _ _ _ _ ?_ ?_) ?_; rotate_left 2; (focus (intro V hV; refine SG.out V (Below.to ?_ hV); with_reducible repeat (first | exact Below.refl _ _ | assumption | refine Below.al ?_ _ | refine Below.on ?_ _ | refine Below.st ?_ (by first | assumption | (simp; done) | (simp; omega)) _ | refine Below.drew ?_))); (focus omega); rintro e w8 ⟨v8, rfl, ho8, hb8⟩; obtain ⟨x8, rfl⟩ := Ext.of hb8; obtain ⟨a8, c8, rfl⟩ := own_form ho8; have B8 : Below y.heap.size y x8.it := (by with_reducible repeat (first | exact Below.refl _ _ | assumption | refine Below.al ?_ _ | refine Below.on ?_ _ | refine Below.st ?_ (by first | assumption | (simp; done) | (simp; omega)) _ | refine Below.drew ?_)); have f8a := (B8.cell (p := ⟨w.heap.size + 1, 1, none⟩) hy1).trans y1; have f8b := (B8.cell (p := ⟨w.heap.size + 1, 2, none⟩) hy1).trans y2; have f8c := (B8.cell (p := ⟨w.heap.size + 1, 3, none⟩) hy1).trans y3; have O8 : Hid (x8.it.ownsRow y.heap.size 3 1 (.slice a8 ng c8) ng (gr.flatMap intC)) := Lib.hid (own_low ho8 (show Below y.heap.size y _ from (by with_reducible repeat (first | exact Below.refl _ _ | assumption | refine Below.al ?_ _ | refine Below.on ?_ _ | refine Below.st ?_ (by first | assumption | (simp; done) | (simp; omega)) _ | refine Below.drew ?_))).size); have N8 := Lib.hid (fun k => ho8.lt k); have s8 := x8.below.size; (try simp only [World.size_alloc, World.size_drew] at s8); (try (have l8 := Nat.lt_of_succ_le s8)); (try (have l78 := Nat.lt_of_lt_of_le l7 s8)); have b8 := B8.size; have z8 : w.heap.size + 1 < x8.it.heap.size := Nat.lt_of_lt_of_le hy1 b8; clear ho8))
          | (go_at_call 32; refine' Calls.mono (clone_ag _ _ _ _ ?_ ?_) ?_; rotate_left 2; (focus (intro V hV; refine SA.out V (Below.to ?_ hV); with_reducible repeat (first | exact Below.refl _ _ | assumption | refine Below.al ?_ _ | refine Below.on ?_ _ | refine Below.st ?_ (by first | assumption | (simp; done) | (simp; omega)) _ | refine Below.drew ?_))); (focus omega); rintro e w9 ⟨v9, rfl, ho9, hb9⟩; obtain ⟨x9, rfl⟩ := Ext.of hb9; obtain ⟨a9, c9, rfl⟩ := own_form ho9; have B9 : Below y.heap.size y x9.it := (by with_reducible repeat (first | exact Below.refl _ _ | assumption | refine Below.al ?_ _ | refine Below.on ?_ _ | refine Below.st ?_ (by first | assumption | (simp; done) | (simp; omega)) _ | refine Below.drew ?_)); have f9a := (B9.cell (p := ⟨w.heap.size + 1, 1, none⟩) hy1).trans y1; have f9b := (B9.cell (p := ⟨w.heap.size + 1, 2, none⟩) hy1).trans y2; have f9c := (B9.cell (p := ⟨w.heap.size + 1, 3, none⟩) hy1).trans y3; have O9 : Hid (x9.it.ownsRow y.heap.size 39 2 (.slice a9 nA c9) nA (ag.flatMap agC)) := Lib.hid (own_low ho9 (show Below y.heap.size y _ from (by with_reducible repeat (first | exact Below.refl _ _ | assumption | refine Below.al ?_ _ | refine Below.on ?_ _ | refine Below.st ?_ (by first | assumption | (simp; done) | (simp; omega)) _ | refine Below.drew ?_))).size); have N9 := Lib.hid (fun k => ho9.lt k); have s9 := x9.below.size; (try simp only [World.size_alloc, World.size_drew] at s9); (try (have l9 := Nat.lt_of_succ_le s9)); (try (have l89 := Nat.lt_of_lt_of_le l8 s9)); (try (have l789 := Nat.lt_of_lt_of_le l78 s9)); have b9 := B9.size; have z9 : w.heap.size + 1 < x9.it.heap.size := Nat.lt_of_lt_of_le hy1 b9; clear ho9))
      all_goals (go_wp2_with fail; go_meet; refine ⟨_, .slice a7 np c7, .slice a8 ng c8, .slice a9 nA c9, rfl, ?_⟩; refine NwIni.of (by with_reducible repeat (first | exact Below.refl _ _ | assumption | refine Below.al ?_ _ | refine Below.on ?_ _ | refine Below.st ?_ (by first | assumption | (simp; done) | (simp; omega)) _ | refine Below.drew ?_)) ?_ ?_ ?_ ?_ ?_ ?_ ?_ (by rw [LP.out]; exact O7.out) ?_ (by rw [LG.out]; exact O8.out) ?_ (by rw [LA.out]; exact O9.out) ?_ ?_ ?_ ?_; (focus (first | omega | (simp only [World.size_setCell, World.size_alloc, World.size_drew] at *; omega))); (focus (first | omega | (simp only [World.size_setCell, World.size_alloc, World.size_drew] at *; omega))); (focus (intro q; simp (maxDischargeDepth := 9) [go_sem, *]; done)); (focus (simp (maxDischargeDepth := 9) [go_sem, *]; done)); (focus (simp (maxDischargeDepth := 9) [go_sem, *]; done)); (focus (simp (maxDischargeDepth := 9) [go_sem, *]; done)); (focus (simp (maxDischargeDepth := 9) [go_sem, *]; done)); (focus (repeat (first | with_reducible exact Mv.refl _ _ | with_reducible refine Mv.al ?_ _ | with_reducible refine Mv.on ?_ x9.below | with_reducible refine Mv.on ?_ x8.below | with_reducible refine Mv.on ?_ x7.below | with_reducible refine Mv.drew ?_ | with_reducible refine mv_st ?_))); (focus (repeat (first | with_reducible exact Mv.refl _ _ | with_reducible refine Mv.al ?_ _ | with_reducible refine Mv.on ?_ x9.below | with_reducible refine Mv.on ?_ x8.below | with_reducible refine Mv.on ?_ x7.below | with_reducible refine Mv.drew ?_ | with_reducible refine mv_st ?_))); (focus (repeat (first | with_reducible exact Mv.refl _ _ | with_reducible refine Mv.al ?_ _ | with_reducible refine Mv.on ?_ x9.below | with_reducible refine Mv.on ?_ x8.below | with_reducible refine Mv.on ?_ x7.below | with_reducible refine Mv.drew ?_ | with_reducible refine mv_st ?_))); (focus (intro k hk; obtain ⟨q1, q2⟩ := N7.out k hk; clear hk; (first | omega | (simp only [World.size_setCell, World.size_alloc, World.size_drew] at *; omega)))); (focus (intro k hk; obtain ⟨q1, q2⟩ := N8.out k hk; clear hk; (first | omega | (simp only [World.size_setCell, World.size_alloc, World.size_drew] at *; omega)))); (focus (intro k hk; obtain ⟨q1, q2⟩ := N9.out k hk; clear hk; (first | omega | (simp only [World.size_setCell, World.size_alloc, World.size_drew] at *; omega)))))
    case rest =>
    obtain ⟨OB, v7, v8, v9, rfl, hini⟩ := hcut
    obtain ⟨a7, c7, rfl⟩ := own_form hini.op
    obtain ⟨a8, c8, rfl⟩ := own_form hini.og
    obtain ⟨a9, c9, rfl⟩ := own_form hini.oa
    rw [LP.out, LG.out, LA.out] at hini
    have HI := Lib.hid hini
    have obl := hini.lt
    have q0 := (hini.below.cell (p := ⟨w.heap.size + 1, 0, none⟩) hy1).trans y0
    have hyc := hini.below.size
    have M0 : Hid (NwMem wc OB (.slice a7 np c7) (.slice a8 ng c8) (.slice a9 nA c9) wc (.slice none 0 0) []) := Lib.hid ⟨Mv.refl _ _, hini.frz, hini.c0, hini.c1, hini.c2, hini.c3, World.ownsRow_nil _ _ _ _, rfl, fun j h => absurd h (by simp)⟩
    clear hini SP SG SA y1 y2 y3
    go_wp2_with fail
    go_loopg [29] nn (fun g st wr => ∃ (k : Nat) (v : Value) (dl : List (Nod × Value)), k + g = nn ∧ st = .int .i64 (k : Int) ∧ dl.map Prod.fst = ns.take k ∧ NwMem wc OB (.slice a7 np c7) (.slice a8 ng c8) (.slice a9 nA c9) wr v dl)
    case atStart => exact ⟨0, _, [], by omega, rfl, rfl, M0.out⟩
    case round =>
      obtain ⟨k, v, dl, hk, rfl, hdl, hM⟩ := hrel
      obtain ⟨va, vc, rfl⟩ := own_form hM.own
      have hlen : dl.length = k := by
        have := congrArg List.length hdl
        rw [List.length_map, List.length_take, LN.out] at this; omega
      have HM := Lib.hid hM
      have hcw := hM.mv.size
      have HD := Lib.hid (And.intro hdl hlen)
      have dl64 : dl.length ≤ 64 := by omega
      have q := hM.frz
      have cc0 := hM.c0
      have cc1 := hM.c1
      have cc2 := hM.c2
      have cc3 := hM.c3
      have obw : OB < wr.heap.size := Nat.lt_of_lt_of_le obl hcw
      have hwy : w.heap.size + 1 < wr.heap.size := by omega
      have hnob : ¬ w.heap.size = OB := by have := HI.out.lo; omega
      have ts0 := (hM.mv.cell (b := w.heap.size) 0 (by omega) hnob).trans ((HI.out.below.cell (p := ⟨w.heap.size, 0, none⟩) (show w.heap.size < y.heap.size by omega)).trans s0)
      have ts1 := (hM.mv.cell (b := w.heap.size) 1 (by omega) hnob).trans ((HI.out.below.cell (p := ⟨w.heap.size, 1, none⟩) (show w.heap.size < y.heap.size by omega)).trans s1)
      have BY : Hid (Below y.heap.size y wr) := Lib.hid (Mv.below hM.mv HI.out.below (fun k hk => by rw [hk]; exact HI.out.lo))
      have BW : Hid (Below w.heap.size w wr) := Lib.hid (Below.to hyw BY.out)
      clear M0 hdl hM hlen
      by_cases hg0 : gk = 0
      · subst hg0
        obtain rfl : k = nn := by omega
        have tk : ¬ (k : Int) < (k : Int) := by omega
        have SC : Hid (∀ W, Below wr.heap.size wr W → SrcRow W (.slice ca nk cc) nk 4 (cs.flatMap colC)) := Lib.hid (fun W hW => by have hb := Below.to BW.out hW; have q := cols_row (HC.out.mono hb hb.size); rwa [LK.out] at q)
        have DN : dl.map Prod.fst = ns := by rw [HD.out.1]; exact List.take_of_length_le (by rw [LN.out]; exact Nat.le_refl _)
        have DNH := Lib.hid DN
        clear DN hk
        go_upto_region 11 with fail
        go_region_held3 (fun w' => w'.cell? ⟨w.heap.size, 0, none⟩ = some (.slice ca nk cc) ∧ w'.cell? ⟨w.heap.size, 1, none⟩ = some (.int .i64 key) ∧ w'.cell? ⟨OB, 0, none⟩ = some (.slice va dl.length vc) ∧ w'.cell? ⟨OB, 1, none⟩ = some (.slice a7 np c7) ∧ w'.cell? ⟨OB, 2, none⟩ = some (.slice a8 ng c8) ∧ w'.cell? ⟨OB, 3, none⟩ = some (.slice a9 nA c9))
          (first | with_reducible exact ⟨by assumption, by assumption, by assumption, by assumption, by assumption, by assumption⟩ | exact ⟨((show Below wr.heap.size wr _ from (by with_reducible repeat (first | exact Below.refl _ _ | assumption | refine Below.al ?_ _ | refine Below.on ?_ _ | refine Below.st ?_ (by first | assumption | (simp; done) | (simp; omega)) _ | refine Below.drew ?_))).cell (p := ⟨w.heap.size, 0, none⟩) (Nat.lt_of_succ_lt hwy)).trans ts0, ((show Below wr.heap.size wr _ from (by with_reducible repeat (first | exact Below.refl _ _ | assumption | refine Below.al ?_ _ | refine Below.on ?_ _ | refine Below.st ?_ (by first | assumption | (simp; done) | (simp; omega)) _ | refine Below.drew ?_))).cell (p := ⟨w.heap.size, 1, none⟩) (Nat.lt_of_succ_lt hwy)).trans ts1, ((show Below wr.heap.size wr _ from (by with_reducible repeat (first | exact Below.refl _ _ | assumption | refine Below.al ?_ _ | refine Below.on ?_ _ | refine Below.st ?_ (by first | assumption | (simp; done) | (simp; omega)) _ | refine Below.drew ?_))).cell (p := ⟨OB, 0, none⟩) obw).trans cc0, ((show Below wr.heap.size wr _ from (by with_reducible repeat (first | exact Below.refl _ _ | assumption | refine Below.al ?_ _ | refine Below.on ?_ _ | refine Below.st ?_ (by first | assumption | (simp; done) | (simp; omega)) _ | refine Below.drew ?_))).cell (p := ⟨OB, 1, none⟩) obw).trans cc1, ((show Below wr.heap.size wr _ from (by with_reducible repeat (first | exact Below.refl _ _ | assumption | refine Below.al ?_ _ | refine Below.on ?_ _ | refine Below.st ?_ (by first | assumption | (simp; done) | (simp; omega)) _ | refine Below.drew ?_))).cell (p := ⟨OB, 2, none⟩) obw).trans cc2, ((show Below wr.heap.size wr _ from (by with_reducible repeat (first | exact Below.refl _ _ | assumption | refine Below.al ?_ _ | refine Below.on ?_ _ | refine Below.st ?_ (by first | assumption | (simp; done) | (simp; omega)) _ | refine Below.drew ?_))).cell (p := ⟨OB, 3, none⟩) obw).trans cc3⟩)
          (first | (go_at_call 34; refine' Calls.mono (clone_col _ _ _ _ ?_ ?_) ?_; rotate_left 2; (focus (intro V hV; refine SC.out V (Below.to ?_ hV); with_reducible repeat (first | exact Below.refl _ _ | assumption | refine Below.al ?_ _ | refine Below.on ?_ _ | refine Below.st ?_ (by first | assumption | (simp; done) | (simp; omega)) _ | refine Below.drew ?_))); (focus omega); rintro e w5 ⟨v5, rfl, ho5, hb5⟩; obtain ⟨x5, rfl⟩ := Ext.of hb5; obtain ⟨a5, c5, rfl⟩ := own_form ho5; have B5 : Below wr.heap.size wr x5.it := (by with_reducible repeat (first | exact Below.refl _ _ | assumption | refine Below.al ?_ _ | refine Below.on ?_ _ | refine Below.st ?_ (by first | assumption | (simp; done) | (simp; omega)) _ | refine Below.drew ?_)); have O5 := Lib.hid ho5; have g0 := (B5.cell (p := ⟨w.heap.size, 0, none⟩) (Nat.lt_of_succ_lt hwy)).trans ts0; have g1 := (B5.cell (p := ⟨w.heap.size, 1, none⟩) (Nat.lt_of_succ_lt hwy)).trans ts1; have g2 := (B5.cell (p := ⟨OB, 0, none⟩) obw).trans cc0; have g3 := (B5.cell (p := ⟨OB, 1, none⟩) obw).trans cc1; have g4 := (B5.cell (p := ⟨OB, 2, none⟩) obw).trans cc2; have g5 := (B5.cell (p := ⟨OB, 3, none⟩) obw).trans cc3; clear ho5))
        have M5 := HM.out.on obl B5
        have FIN : Hid (∀ o, o = Obj.cells #[.slice a5 nk c5, .int .i64 key, .slice va dl.length vc, .slice a7 np c7, .slice a8 ng c8, .slice a9 nA c9, .slice none 0 0] 78 → NewPost2 w cs key ns pr gr ag 0 (.returned (.tuple #[.pointer (some ⟨x5.it.heap.size, 0, none⟩), .int .i64 0])) (x5.it.alloc o)) := Lib.hid (fun o ho => by
          have hal : Below x5.it.heap.size x5.it (x5.it.alloc o) := (Below.refl _ _).alloc (Nat.le_refl _) o
          have op' := own_to (own_mvn HI.out.op HM.out.mv (fun k hk e => HI.out.np (by rw [hk, e]))) B5
          have og' := own_to (own_mvn HI.out.og HM.out.mv (fun k hk e => HI.out.ng (by rw [hk, e]))) B5
          have oa' := own_to (own_mvn HI.out.oa HM.out.mv (fun k hk e => HI.out.na (by rw [hk, e]))) B5
          unfold NewPost2
          rw [if_pos rfl]
          refine ⟨x5.it.heap.size, rfl, Below.size (Below.to BW.out B5), ⟨by simp, Nat.le_refl _, fun q => by rw [ho]; simp [go_sem], ⟨.slice a5 nk c5, .slice va dl.length vc, .slice a7 np c7, .slice a8 ng c8, .slice a9 nA c9, by rw [ho]; simp [go_sem], by rw [ho]; simp [go_sem], by rw [ho]; simp [go_sem], by rw [ho]; simp [go_sem], by rw [ho]; simp [go_sem], by rw [ho]; simp [go_sem], ?_, ?_, ?_, ?_, ?_⟩, by rw [ho]; simp [go_sem], World.ownsRow_nil _ _ _ _, rfl, fun j h => absurd h (by simp)⟩, Below.to (Below.to BW.out B5) hal, ?_⟩
          · exact (own_cols (by rw [LK.out]; omega) (by have := O5.out; rwa [← LK.out] at this)).mono hal (Nat.le_refl _) |> fun h => by rwa [LK.out] at h
          · have := inn_nods (by omega) M5.inn M5.own
            rw [DNH.out] at this
            exact this.mono hal (Nat.le_refl _)
          · exact ints_on (own_ints HP.out.1 (by rw [LP.out]; omega) op') hal (Nat.le_refl _)
          · exact ints_on (own_ints HG.out.1 (by rw [LG.out]; omega) og') hal (Nat.le_refl _)
          · exact (own_ags (by rw [LA.out]; omega) oa').mono hal (Nat.le_refl _)
          · have w1 := BW.out.size
            have w2 := HI.out.below.size
            have w3 := HM.out.mv.size
            have w4 := hyw.size
            refine ⟨.slice a5 nk c5, .slice va dl.length vc, .slice a7 np c7, .slice a8 ng c8, .slice a9 nA c9, dl, by rw [ho]; simp [go_sem], by rw [ho]; simp [go_sem], by rw [ho]; simp [go_sem], by rw [ho]; simp [go_sem], by rw [ho]; simp [go_sem], DNH.out, own_to (own_low (by rw [LK.out]; exact O5.out) w1) hal, own_to (own_low M5.own (by omega)) hal, fun p hp => ?_, own_to (own_low op' w4) hal, own_to (own_low og' w4) hal, own_to (own_low oa' w4) hal, fun k hk => (O5.out.lt k hk).2, fun k hk => (M5.own.lt k hk).2, fun k hk => (op'.lt k hk).2, fun k hk => (og'.lt k hk).2, fun k hk => (oa'.lt k hk).2⟩
            obtain ⟨q, hq, rfl⟩ := List.getElem_of_mem hp
            have h1 : q < (dl.map Prod.snd).length := by simpa using hq
            have h2 : q < (dl.map fun p => p.1.ls).length := by simpa using hq
            obtain ⟨k1, k2⟩ := M5.inn.2 q h1 h2
            simp only [List.getElem_map] at k1 k2
            exact ⟨k1.mono hal (Nat.le_of_lt (by simp)), fun k hk => ⟨by have := (k2 k hk).1; omega, (k2 k hk).2.1⟩⟩)
        clear M5
        go_wp2
        refine bodyPost_ret (v := .tuple #[.pointer (some ⟨x5.it.heap.size, 0, none⟩), .int .i64 0]) ?_ rfl (FIN.out _ rfl)
        simp (maxDischargeDepth := 9) [results, Tryz.results13, go_sem, *]
      · have hkm : k < nn := by omega
        have hkm' : (k : Int) < (nn : Int) := by omega
        have hkn : k < ns.length := by rw [LN.out]; exact hkm
        obtain ⟨nb, no, rfl, _, hnb, lv, n0, n1, n2, n3, n4, n5, n6, n7, hlv⟩ := nods_in HN.out hkn
        have TS : ns.take (k + 1) = ns.take k ++ [ns[k]'hkn] := List.take_succ_eq_append_getElem hkn
        have hl9 := HLS.out _ (List.getElem_mem hkn)
        obtain ⟨d, hd⟩ : ∃ d, ns[k]'hkn = d := ⟨_, rfl⟩
        rw [hd] at n0 n1 n2 n3 n4 n6 n7 hlv TS hl9
        obtain ⟨la, lc, rfl⟩ := vals_end hlv
        obtain ⟨ln, hln⟩ : ∃ n, d.ls.length = n := ⟨_, rfl⟩
        have HLV := Lib.hid hlv
        have HLN := Lib.hid hln
        have HTS := Lib.hid TS
        rw [hln] at n5 hl9
        have SV : Hid (∀ W, Below wr.heap.size wr W → SrcRow W (.slice la ln lc) ln 3 (d.ls.flatMap valC)) := Lib.hid (fun W hW => by have hb := Below.to BW.out hW; have q := vals_row (HLV.out.mono hb hb.size); rwa [HLN.out] at q)
        have hwn := BW.out.size
        have e0 := (BW.out.cell (p := ⟨nb, no + k * 8, none⟩) hnb).trans n0
        have e1 := (BW.out.cell (p := ⟨nb, no + k * 8 + 1, none⟩) hnb).trans n1
        have e2 := (BW.out.cell (p := ⟨nb, no + k * 8 + 2, none⟩) hnb).trans n2
        have e3 := (BW.out.cell (p := ⟨nb, no + k * 8 + 3, none⟩) hnb).trans n3
        have e4 := (BW.out.cell (p := ⟨nb, no + k * 8 + 4, none⟩) hnb).trans n4
        have e5 := (BW.out.cell (p := ⟨nb, no + k * 8 + 5, none⟩) hnb).trans n5
        have e6 := (BW.out.cell (p := ⟨nb, no + k * 8 + 6, none⟩) hnb).trans n6
        have e7 := (BW.out.cell (p := ⟨nb, no + k * 8 + 7, none⟩) hnb).trans n7
        have znb : nb < wr.heap.size := Nat.lt_of_lt_of_le hnb hwn
        have HK := Lib.hid (And.intro hk hg0)
        clear n0 n1 n2 n3 n4 n5 n6 n7 hlv hln hd TS hk hg0
        go_upto_region 9 with (go_at_call 33; refine' Calls.mono (clone_val _ _ _ _ ?_ ?_) ?_; rotate_left 2; (focus (intro V hV; refine SV.out V (Below.to ?_ hV); with_reducible repeat (first | exact Below.refl _ _ | assumption | refine Below.al ?_ _ | refine Below.on ?_ _ | refine Below.st ?_ (by first | assumption | (simp; done) | (simp; omega)) _ | refine Below.drew ?_))); (focus omega); rintro e w6 ⟨v6, rfl, ho6, hb6⟩; obtain ⟨x6, rfl⟩ := Ext.of hb6; obtain ⟨a6, c6, rfl⟩ := own_form ho6; have O6 : Hid (x6.it.ownsRow (wr.heap.size + 1) 41 3 (.slice a6 ln c6) ln (d.ls.flatMap valC)) := Lib.hid (own_low ho6 (by simp)); have z6 : wr.heap.size < x6.it.heap.size := x6.lt (by simp); clear ho6)
        refine captureM ?_
        intro Z eZ
        have Zb : Below wr.heap.size wr Z := by rw [eZ]; with_reducible repeat (first | exact Below.refl _ _ | assumption | refine Below.al ?_ _ | refine Below.on ?_ _ | refine Below.st ?_ (by first | assumption | (simp; done) | (simp; omega)) _ | refine Below.drew ?_)
        have Z0 : Z.cell? ⟨wr.heap.size, 0, none⟩ = some (.int .i64 d.op) := by rw [eZ]; simp (maxDischargeDepth := 9) [go_sem, *]
        have Z1 : Z.cell? ⟨wr.heap.size, 1, none⟩ = some (.int .i64 d.col) := by rw [eZ]; simp (maxDischargeDepth := 9) [go_sem, *]
        have Z2 : Z.cell? ⟨wr.heap.size, 2, none⟩ = some (.bool d.v.null) := by rw [eZ]; simp (maxDischargeDepth := 9) [go_sem, *]
        have Z3 : Z.cell? ⟨wr.heap.size, 3, none⟩ = some (.int .i64 d.v.n) := by rw [eZ]; simp (maxDischargeDepth := 9) [go_sem, *]
        have Z4 : Z.cell? ⟨wr.heap.size, 4, none⟩ = some (.string d.v.s) := by rw [eZ]; simp (maxDischargeDepth := 9) [go_sem, *]
        have Z5 : Z.cell? ⟨wr.heap.size, 5, none⟩ = some (.slice a6 ln c6) := by rw [eZ]; simp (maxDischargeDepth := 9) [go_sem, *]
        have Z6 : Z.cell? ⟨wr.heap.size, 6, none⟩ = some (.int .i64 d.a) := by rw [eZ]; simp (maxDischargeDepth := 9) [go_sem, *]
        have Z7 : Z.cell? ⟨wr.heap.size, 7, none⟩ = some (.int .i64 d.b) := by rw [eZ]; simp (maxDischargeDepth := 9) [go_sem, *]
        have zZ : wr.heap.size < Z.heap.size := by rw [eZ]; simpa using z6
        have O6Z : Hid (Z.ownsRow (wr.heap.size + 1) 41 3 (.slice a6 ln c6) ln (d.ls.flatMap valC)) := Lib.hid (by rw [eZ]; exact own_st O6.out (fun k hk => by have := (O6.out.lt k hk).1; simp; omega) _)
        have VZ : Hid (ValsAt Z Z.heap.size (.slice a6 ln c6) d.ls) := Lib.hid (own_vals (by rw [HLN.out]; omega) (by rw [HLN.out]; exact O6Z.out))
        have HZ := Lib.hid (HM.out.on obl Zb)
        have k0 := HZ.out.c0
        have obZ : OB < Z.heap.size := by omega
        have fzZ := HZ.out.frz
        have HU : Hid (∀ k, Value.ownBlock (.slice va dl.length vc) = some k → k < wr.heap.size) := Lib.hid (fun k hk => (HM.out.own.lt k hk).2)
        clear eZ e0 e1 e2 e3 e4 e5 e6 e7 O6 z6 hb6 x6 cc0 cc1 cc2 cc3 q
        go_wp2_with (at_builtin; go_must (refine wpList_append_lies _ rfl _ _ 25 rfl wc.heap.size 44 i0 _ 8 88 Tryz.underlying25 hi hz0 hz1 hz2 rfl (by decide) (.slice va dl.length vc) dl.length (dl.flatMap nodC) rfl (HZ.out.own.alloc _) ⟨Z.heap.size, 0, none⟩ 1 1 (nodC (d, .slice a6 ln c6)) rfl rfl (World.news_of_block (heap_alloc_new Z _)) (by simp [nodC, Value.oneCell']) (by omega) (by unfold maxLen; omega) (by omega) (by simp; omega) (Z.heap.size + 1) (by simp) ?_); intro gb cap w4 hown hgrow hat hlt4; go_must (have MS := Lib.hid (NwMem.step (d := d) (lv := .slice a6 ln c6) (HZ.out.on obl ((Below.refl _ _).alloc (Nat.le_refl _) _)) obl (VZ.out.mono ((Below.refl _ _).alloc (Nat.le_refl _) _) (by simp)) (fun k hk => ⟨by have := (O6Z.out.lt k hk).1; omega, by have := (O6Z.out.lt k hk).2; simp; omega, fun e => by have := HU.out k e; have := (O6Z.out.lt k hk).1; omega⟩) hgrow (hat.imp (fun q => q.trans rfl) (fun q => by rw [q]; simp [Value.ownBlock])) hown)); have GO : w4.frozen? ⟨OB, 0, none⟩ = false := (World.frozen?_of_block (w := Z) ((hgrow.block OB (by simp; omega) (fun e => by have := (HZ.out.own.lt OB e.symm).1; omega)).trans (Below.heap_alloc _ _ _ obZ))).trans (fzZ 0); have GC : w4.cell? ⟨OB, 0, none⟩ = some (.slice va dl.length vc) := (World.cell?_of_block (w := Z) ((hgrow.block OB (by simp; omega) (fun e => by have := (HZ.out.own.lt OB e.symm).1; omega)).trans (Below.heap_alloc _ _ _ obZ))).trans k0; clear hown hgrow hat hlt4)
        go_roundg (gk - 1)
        case measure => have := HK.out; omega
        case rel => exact ⟨k + 1, _, dl ++ [(d, .slice a6 ln c6)], by have := HK.out; omega, by go_num, by rw [List.map_append, HD.out.1, HTS.out]; rfl, MS.out⟩
  · have t : (R != 0) = true := by simpa using R0
    go_enter Tryz.func13, Tryz.ntmps13
    go_wp2_with (go_at_call 29; refine Calls.mono (CK.out _ (by with_reducible repeat (first | exact Below.refl _ _ | assumption | refine Below.al ?_ _ | refine Below.on ?_ _ | refine Below.st ?_ (by first | assumption | (simp; done) | (simp; omega)) _ | refine Below.drew ?_))) ?_; rintro e w1 ⟨rfl, hb1⟩; obtain ⟨x1, rfl⟩ := Ext.of hb1)
    refine bodyPost_ret (v := .tuple #[.pointer none, .int .i64 R]) ?_ rfl (by unfold NewPost2; rw [if_neg R0]; exact ⟨rfl, (by with_reducible repeat (first | exact Below.refl _ _ | assumption | refine Below.al ?_ _ | refine Below.on ?_ _ | refine Below.st ?_ (by first | assumption | (simp; done) | (simp; omega)) _ | refine Below.drew ?_))⟩)
    simp (maxDischargeDepth := 9) [results, Tryz.results13, go_sem, *]
end Go.Proofs.YtpahoenanfjhpaaGreat
